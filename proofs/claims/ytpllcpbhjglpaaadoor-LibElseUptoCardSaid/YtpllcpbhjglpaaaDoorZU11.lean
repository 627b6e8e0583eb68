/- lib: conditions, walked; then all declarations. lib.Parse, walked. Libraries taken apart: laws, in plain terms. Laws of libraries: what they ask, walked. When libraries are the same, walked where they are. Laws of libraries: what is asked first; LibSplit, walked. When libraries are the same, walked. Libraries that include a file: LibFiles, in plain terms. Of two ways one: LibElse, in plain terms. Laws of libraries: LibElse's closures, walked. Laws of libraries: LibElse, walked. What a row needs: how what comes in is read. How what comes in for LibElse is read. -/
import Derived.Test.YtpllcpbhjglpaaaDoorZU10
import Derived.WalkKit
import Derived.ProofKit
import Derived.OpenShut
import Derived.ShutString
import Derived.ChangeOld
import Derived.Below
import Derived.SizedLaws
import Derived.Carry
import Derived.JoinedCond
import Derived.Test.YtpllcpbhjglpaaaDoorRows
namespace Go.Proofs.YtpllcpbhjglpaaaDoor.Gx
open Go Go.Proofs.YtpllcpbhjglpaaaDoor.Gw
open Nat (reduceEqDiff reduceAdd reduceLT reduceLeDiff reduceMul)
set_option linter.unusedSimpArgs false
set_option linter.unusedVariables false
set_option maxHeartbeats 4000000 in
theorem c_libcond (w : Wd) (N : Nat) (ihD : DeclsC w N) : CondC w (N + 1) := by
 intro l hsz hm hl o ho st b hb
 refine OutS_of (by rw [wS_len, wS_len]; exact Nat.le_refl _) ?_
 refine vfunQ TT_ok (an := anL []) (L := [0, 1, 5, 6, 7, 8, 9]) (rs := []) Tryd.func48 rfl (by kernel_rfl) rfl Tryd.ntmps48 rfl rfl fun hst ha hf => ?_
 have hw := fun o' => wS_ok hb o' hst
 simp only [gw0, reduceEqDiff, ↓reduceIte, reduceAdd, reduceLT, reduceLeDiff, reduceMul, gwD3, gwDT, pureR_none, ite_self, nilR, nilB, bitF, bitV, nilC, nilCmp, eqb, assertV, assertW, zeroV, wQ_normal, wQ_ret, wQ_panic, pickO, pickC, List.map_cons, List.map_nil, List.getD_cons_zero, List.getD_cons_succ, Env.keep, beq_self_eq_true, cond_true, cond_false, lstD, List.length_map]
 refine vforD (σ := Nat × Lib') [0, 1, 7, 8, 9] (fun x => [(0, true, .ptr b 0), (1, true, lstD l), (7, true, lstD l), (8, true, .int .i64 l.length), (9, true, .int .i64 x.1)]) (fun x => wS st w b x.2) (fun x => l.length - x.1) (fun x => x.1 ≤ l.length ∧ okO x.2 ∧ condL w l o = condL w (l.drop x.1) x.2) (0, o) rfl TT_ok ⟨Nat.zero_le _, ho, rfl⟩ (wkE_refl _) rfl ?_
 rintro ⟨i, o1⟩ ⟨hi, ho1, hI⟩
 simp only at hi ho1 hI ⊢
 rw [hI]
 rcases at_or_end l i hi with ⟨rfl, hd⟩ | ⟨a, hlt, hget, hdr⟩
 ·rw [hd]
  simp only [gw0, reduceEqDiff, ↓reduceIte, reduceAdd, reduceLT, reduceLeDiff, reduceMul, gwD3, gwDT, pureR_none, ite_self, nilR, nilB, bitF, bitV, nilC, nilCmp, eqb, assertV, assertW, zeroV, wQ_normal, wQ_ret, wQ_panic, pickO, pickC, List.map_cons, List.map_nil, List.getD_cons_zero, List.getD_cons_succ, Env.keep, beq_self_eq_true, cond_true, cond_false, lt_no, lstD]
  exact outS_g rfl (gives_self trivial (hw o1))
 ·rw [hdr]
  have hma : okM a := okMs_mem hm (List.mem_of_getElem? hget)
  have hsa := size_mem (List.mem_of_getElem? hget)
  obtain ⟨ka, na, nma, sa, la, kidsa⟩ := a
  have hE := condL_cons w ka na nma sa la kidsa (l.drop (i + 1)) o1
  generalize hG : condL w (.mk ka na nma sa la kidsa :: l.drop (i + 1)) o1 = G at hE
  simp only [wS, cellsW]
  simp only [gw0, reduceEqDiff, ↓reduceIte, reduceAdd, reduceLT, reduceLeDiff, reduceMul, gwD3, gwDT, pureR_none, ite_self, nilR, nilB, bitF, bitV, nilC, nilCmp, eqb, assertV, assertW, zeroV, wQ_normal, wQ_ret, wQ_panic, pickO, pickC, List.map_cons, List.map_nil, List.getD_cons_zero, List.getD_cons_succ, Env.keep, beq_self_eq_true, cond_true, cond_false, lt_yes hlt, lstD, List.length_map, getD_map hget, Int.ofNat_lt.mpr hlt, encD_take, encD_len, encD_drop, Nat.le_refl, wR_len, wR_k, wR_k0, wR_sk, wR_sk0, wR_b hb, wR_1 hb, wR_2 hb, wR_3 hb, wR_sb hb, wR_sE hb, wR_sI hb, wR_sB hb, encD_mk]
  rcases (c_liblist (.mk ka na nma sa la kidsa) 1 (wR st b [.lst 2 none (rows2 w.files), encS w.feats, encS w.libs, .str o1.name, .lst 2 (some (b + 1)) (rows2 o1.exps), .arr (b + 2) o1.imps.length, .lst 6 (some (b + 3)) (o1.body.map encD), .int .i64 0] o1.exps.length (o1.imps.map encSet) o1.body.length ++ [.box [.int .i64 ka, .int .i64 na, .str nma, .int .i64 sa, .int .i64 la, .lst 6 none (kidsa.map encD)]])).cases with ⟨he, hc⟩ | ⟨he, hc⟩
  ·refine hc.use (by rw [encD_mk]; exact wkL_refl _) fun _ => ?_
   have hk4 : ka = 4 ∧ kidsa ≠ [] ∧ (listP 1 (.mk ka na nma sa la kidsa)).1 = kidsa := by
    simp only [listP] at he ⊢
    cases e : !decide (ka = 4) || decide (kidsa.length < 1) with
    | true => rw [e] at he; simp at he
    | false =>
     simp only [Bool.or_eq_false_iff, Bool.not_eq_false', decide_eq_true_eq, decide_eq_false_iff_not] at e
     exact ⟨e.1, fun h => by rw [h] at e; simp at e, rfl⟩
   obtain ⟨hk4, hne, hkk⟩ := hk4
   rw [hkk]
   have hmk := hma
   rw [okM] at hmk
   obtain ⟨hkl, hks⟩ := hmk.2 hk4
   cases kidsa with
   | nil => exact absurd rfl hne
   | cons hh t =>
    have htl : t.length + 1 ≤ 2000 := hkl
    have htm : okMs t := hks.2
    have hst2 : SizeOf.sizeOf t < N := by
     have g2 := size_kids ka na nma sa la (hh :: t)
     have g3 : SizeOf.sizeOf t < SizeOf.sizeOf (hh :: t) := by simp; omega
     omega
    obtain ⟨kh, nh, nmh, sh, lh, kidsh⟩ := hh
    simp only [decide_eq_true hk4, Bool.not_true, cond_false] at hE
    cases h1 : decide (kh = 3) with
    | false =>
     have hel : isElse (.mk kh nh nmh sh lh kidsh) = false := by show (decide (kh = 3) && _) = false; rw [h1]; rfl
     simp only [gw0, reduceEqDiff, ↓reduceIte, reduceAdd, reduceLT, reduceLeDiff, reduceMul, gwD3, gwDT, pureR_none, ite_self, nilR, nilB, bitF, bitV, nilC, nilCmp, eqb, assertV, assertW, zeroV, wQ_normal, wQ_ret, wQ_panic, pickO, pickC, List.map_cons, List.map_nil, List.getD_cons_zero, List.getD_cons_succ, Env.keep, beq_self_eq_true, cond_true, cond_false, lstD, List.map_cons, encD_mk, show Int.toNat 0 = 0 from rfl, show Int.toNat 1 = 1 from rfl, List.drop_succ_cons, List.drop_zero, List.length_cons, List.length_map, Nat.le_add_left, encD_take, encD_len, encD_drop, Nat.le_refl, wR_len, wR_k, wR_k0, wR_sk, wR_sk0, wR_b hb, wR_1 hb, wR_2 hb, wR_3 hb, wR_sb hb, wR_sE hb, wR_sI hb, wR_sB hb, h1, Bool.true_and, Bool.false_and, Bool.and_true, Bool.and_false, Bool.not_true, Bool.not_false, Bool.true_or, Bool.false_or]
     refine ⟨⟨by omega, by omega⟩, ⟨by omega, by omega⟩, ?_⟩
     rw [hel, cond_false] at hE
     have hx : (wR st b [.lst 2 none (rows2 w.files), encS w.feats, encS w.libs, .str o1.name, .lst 2 (some (b + 1)) (rows2 o1.exps), .arr (b + 2) o1.imps.length, .lst 6 (some (b + 3)) (o1.body.map encD), .int .i64 0] o1.exps.length (o1.imps.map encSet) o1.body.length ++ [.box [.int .i64 ka, .int .i64 na, .str nma, .int .i64 sa, .int .i64 la, .lst 6 none ([.int .i64 kh, .int .i64 nh, .str nmh, .int .i64 sh, .int .i64 lh, .lst 6 none (kidsh.map encD)] :: t.map encD)]])[b]? = some (.box (cellsW w b o1.name (rows2 o1.exps) o1.imps.length (o1.body.map encD))) := wR_b hb _ _ _ _ _
     rcases (c_libholds w b _ (.mk kh nh nmh sh lh kidsh) (Nat.lt_succ_self _) hks.1 _ _ _ _ _ hx).cases with ⟨he4, hc4⟩ | ⟨he4, hc4⟩
     ·refine rK_go (hc4.use (by rw [encD_mk]; exact wkL_refl _) fun _ => ?_)
      rw [decide_eq_true he4, Bool.not_true, cond_false] at hE
      simp only [gw0, reduceEqDiff, ↓reduceIte, reduceAdd, reduceLT, reduceLeDiff, reduceMul, gwD3, gwDT, pureR_none, ite_self, nilR, nilB, bitF, bitV, nilC, nilCmp, eqb, assertV, assertW, zeroV, wQ_normal, wQ_ret, wQ_panic, pickO, pickC, List.map_cons, List.map_nil, List.getD_cons_zero, List.getD_cons_succ, Env.keep, beq_self_eq_true, cond_true, cond_false, Bool.true_and, Bool.false_and, Bool.and_true, Bool.and_false, Bool.not_true, Bool.not_false, Bool.true_or, Bool.false_or]
      refine iK_split (fun h5 => ?_) (fun h5 => ?_)
      ·rw [h5, cond_true] at hE
       simp only [gw0, reduceEqDiff, ↓reduceIte, reduceAdd, reduceLT, reduceLeDiff, reduceMul, gwD3, gwDT, pureR_none, ite_self, nilR, nilB, bitF, bitV, nilC, nilCmp, eqb, assertV, assertW, zeroV, wQ_normal, wQ_ret, wQ_panic, pickO, pickC, List.map_cons, List.map_nil, List.getD_cons_zero, List.getD_cons_succ, Env.keep, beq_self_eq_true, cond_true, cond_false, show Int.toNat 0 = 0 from rfl, show Int.toNat 1 = 1 from rfl, List.drop_succ_cons, List.drop_zero, List.length_cons, List.length_map, Nat.le_add_left, wR_len, wR_k, wR_k0, wR_sk, wR_sk0, wR_b hb, wR_1 hb, wR_2 hb, wR_3 hb, wR_sb hb, wR_sE hb, wR_sI hb, wR_sB hb]
       refine ⟨⟨by omega, by omega⟩, ?_⟩
       have hbd := ihD t hst2 htm (by omega) o1 ho1 (st ++ [.box [.int .i64 ka, .int .i64 na, .str nma, .int .i64 sa, .int .i64 la, .lst 6 none ([.int .i64 kh, .int .i64 nh, .str nmh, .int .i64 sh, .int .i64 lh, .lst 6 none (kidsh.map encD)] :: t.map encD)]]) b (by simp; omega)
       rw [wS_app hb, wS_app hb] at hbd
       rcases hbd.cases with ⟨he5, hc5⟩ | ⟨he5, hc5⟩
       ·simp only [wS, cellsW] at hc5
        refine hc5.use (wkL_refl _) fun _ => ?_
        rw [hE]
        simp only [gw0, reduceEqDiff, ↓reduceIte, reduceAdd, reduceLT, reduceLeDiff, reduceMul, gwD3, gwDT, pureR_none, ite_self, nilR, nilB, bitF, bitV, nilC, nilCmp, eqb, assertV, assertW, zeroV, wQ_normal, wQ_ret, wQ_panic, pickO, pickC, List.map_cons, List.map_nil, List.getD_cons_zero, List.getD_cons_succ, Env.keep, beq_self_eq_true, cond_true, cond_false]
        exact outS_g he5 (gives_of (wk_refl _) (wkSt_refl _) trivial (hw _))
       ·simp only [wS, cellsW] at hc5
        refine hc5.useP (wkL_refl _) ?_
        rw [hE]
        simp only [gw0, reduceEqDiff, ↓reduceIte, reduceAdd, reduceLT, reduceLeDiff, reduceMul, gwD3, gwDT, pureR_none, ite_self, nilR, nilB, bitF, bitV, nilC, nilCmp, eqb, assertV, assertW, zeroV, wQ_normal, wQ_ret, wQ_panic, pickO, pickC, List.map_cons, List.map_nil, List.getD_cons_zero, List.getD_cons_succ, Env.keep, beq_self_eq_true, cond_true, cond_false]
        exact outS_p he5 (givesP_of (wk_refl _) (wkSt_refl _) (oops_lt _ _) (hw _))
      ·rw [h5, cond_false] at hE
       simp only [gw0, reduceEqDiff, ↓reduceIte, reduceAdd, reduceLT, reduceLeDiff, reduceMul, gwD3, gwDT, pureR_none, ite_self, nilR, nilB, bitF, bitV, nilC, nilCmp, eqb, assertV, assertW, zeroV, wQ_normal, wQ_ret, wQ_panic, pickO, pickC, List.map_cons, List.map_nil, List.getD_cons_zero, List.getD_cons_succ, Env.keep, beq_self_eq_true, cond_true, cond_false, wR_len, wR_k, wR_k0, wR_sk, wR_sk0, wR_b hb, wR_1 hb, wR_2 hb, wR_3 hb, wR_sb hb, wR_sE hb, wR_sI hb, wR_sB hb, Env.keep, next_i64 hlt (by omega)]
       refine ⟨(i + 1, o1), ⟨wkE_refl _, wS st w b o1, [.box [.int .i64 ka, .int .i64 na, .str nma, .int .i64 sa, .int .i64 la, .lst 6 none ([.int .i64 kh, .int .i64 nh, .str nmh, .int .i64 sh, .int .i64 lh, .lst 6 none (kidsh.map encD)] :: t.map encD)]], by simp [wS, cellsW], wkSt_refl _, ?_, hw _, by rw [wR_len]; exact Nat.le_refl _⟩, by dsimp only; omega, hlt, ho1, hE⟩
       simp only [ltE, V.lt]
       have hll := lstD_lt (wS st w b o1).length l
       simp only [lstD, V.lt] at hll
       exact ⟨by rw [wR_len]; omega, hll, hll, trivial, trivial, trivial⟩
     ·refine rK_go (hc4.useP (by rw [encD_mk]; exact wkL_refl _) ?_)
      rw [decide_eq_false he4, Bool.not_false, cond_true] at hE
      rw [hE]
      simp only [gw0, reduceEqDiff, ↓reduceIte, reduceAdd, reduceLT, reduceLeDiff, reduceMul, gwD3, gwDT, pureR_none, ite_self, nilR, nilB, bitF, bitV, nilC, nilCmp, eqb, assertV, assertW, zeroV, wQ_normal, wQ_ret, wQ_panic, pickO, pickC, List.map_cons, List.map_nil, List.getD_cons_zero, List.getD_cons_succ, Env.keep, beq_self_eq_true, cond_true, cond_false]
      exact outS_p he4 (givesP_of (wk_refl _) (wkSt_refl _) (oops_lt _ _) (hw o1))
    | true =>
     cases h2 : decide (nmh = [101, 108, 115, 101]) with
     | false =>
      have hel : isElse (.mk kh nh nmh sh lh kidsh) = false := by show (decide (kh = 3) && decide (nmh = [101, 108, 115, 101])) = false; rw [h1, h2]; rfl
      simp only [gw0, reduceEqDiff, ↓reduceIte, reduceAdd, reduceLT, reduceLeDiff, reduceMul, gwD3, gwDT, pureR_none, ite_self, nilR, nilB, bitF, bitV, nilC, nilCmp, eqb, assertV, assertW, zeroV, wQ_normal, wQ_ret, wQ_panic, pickO, pickC, List.map_cons, List.map_nil, List.getD_cons_zero, List.getD_cons_succ, Env.keep, beq_self_eq_true, cond_true, cond_false, lstD, List.map_cons, encD_mk, show Int.toNat 0 = 0 from rfl, show Int.toNat 1 = 1 from rfl, List.drop_succ_cons, List.drop_zero, List.length_cons, List.length_map, Nat.le_add_left, encD_take, encD_len, encD_drop, Nat.le_refl, wR_len, wR_k, wR_k0, wR_sk, wR_sk0, wR_b hb, wR_1 hb, wR_2 hb, wR_3 hb, wR_sb hb, wR_sE hb, wR_sI hb, wR_sB hb, h1, h2, Bool.true_and, Bool.false_and, Bool.and_true, Bool.and_false, Bool.not_true, Bool.not_false, Bool.true_or, Bool.false_or]
      refine ⟨⟨by omega, by omega⟩, ⟨by omega, by omega⟩, ⟨by omega, by omega⟩, ?_⟩
      rw [hel, cond_false] at hE
      have hx : (wR st b [.lst 2 none (rows2 w.files), encS w.feats, encS w.libs, .str o1.name, .lst 2 (some (b + 1)) (rows2 o1.exps), .arr (b + 2) o1.imps.length, .lst 6 (some (b + 3)) (o1.body.map encD), .int .i64 0] o1.exps.length (o1.imps.map encSet) o1.body.length ++ [.box [.int .i64 ka, .int .i64 na, .str nma, .int .i64 sa, .int .i64 la, .lst 6 none ([.int .i64 kh, .int .i64 nh, .str nmh, .int .i64 sh, .int .i64 lh, .lst 6 none (kidsh.map encD)] :: t.map encD)]])[b]? = some (.box (cellsW w b o1.name (rows2 o1.exps) o1.imps.length (o1.body.map encD))) := wR_b hb _ _ _ _ _
      rcases (c_libholds w b _ (.mk kh nh nmh sh lh kidsh) (Nat.lt_succ_self _) hks.1 _ _ _ _ _ hx).cases with ⟨he4, hc4⟩ | ⟨he4, hc4⟩
      ·refine rK_go (hc4.use (by rw [encD_mk]; exact wkL_refl _) fun _ => ?_)
       rw [decide_eq_true he4, Bool.not_true, cond_false] at hE
       simp only [gw0, reduceEqDiff, ↓reduceIte, reduceAdd, reduceLT, reduceLeDiff, reduceMul, gwD3, gwDT, pureR_none, ite_self, nilR, nilB, bitF, bitV, nilC, nilCmp, eqb, assertV, assertW, zeroV, wQ_normal, wQ_ret, wQ_panic, pickO, pickC, List.map_cons, List.map_nil, List.getD_cons_zero, List.getD_cons_succ, Env.keep, beq_self_eq_true, cond_true, cond_false, Bool.true_and, Bool.false_and, Bool.and_true, Bool.and_false, Bool.not_true, Bool.not_false, Bool.true_or, Bool.false_or]
       refine iK_split (fun h5 => ?_) (fun h5 => ?_)
       ·rw [h5, cond_true] at hE
        simp only [gw0, reduceEqDiff, ↓reduceIte, reduceAdd, reduceLT, reduceLeDiff, reduceMul, gwD3, gwDT, pureR_none, ite_self, nilR, nilB, bitF, bitV, nilC, nilCmp, eqb, assertV, assertW, zeroV, wQ_normal, wQ_ret, wQ_panic, pickO, pickC, List.map_cons, List.map_nil, List.getD_cons_zero, List.getD_cons_succ, Env.keep, beq_self_eq_true, cond_true, cond_false, show Int.toNat 0 = 0 from rfl, show Int.toNat 1 = 1 from rfl, List.drop_succ_cons, List.drop_zero, List.length_cons, List.length_map, Nat.le_add_left, wR_len, wR_k, wR_k0, wR_sk, wR_sk0, wR_b hb, wR_1 hb, wR_2 hb, wR_3 hb, wR_sb hb, wR_sE hb, wR_sI hb, wR_sB hb]
        refine ⟨⟨by omega, by omega⟩, ?_⟩
        have hbd := ihD t hst2 htm (by omega) o1 ho1 (st ++ [.box [.int .i64 ka, .int .i64 na, .str nma, .int .i64 sa, .int .i64 la, .lst 6 none ([.int .i64 kh, .int .i64 nh, .str nmh, .int .i64 sh, .int .i64 lh, .lst 6 none (kidsh.map encD)] :: t.map encD)]]) b (by simp; omega)
        rw [wS_app hb, wS_app hb] at hbd
        rcases hbd.cases with ⟨he5, hc5⟩ | ⟨he5, hc5⟩
        ·simp only [wS, cellsW] at hc5
         refine hc5.use (wkL_refl _) fun _ => ?_
         rw [hE]
         simp only [gw0, reduceEqDiff, ↓reduceIte, reduceAdd, reduceLT, reduceLeDiff, reduceMul, gwD3, gwDT, pureR_none, ite_self, nilR, nilB, bitF, bitV, nilC, nilCmp, eqb, assertV, assertW, zeroV, wQ_normal, wQ_ret, wQ_panic, pickO, pickC, List.map_cons, List.map_nil, List.getD_cons_zero, List.getD_cons_succ, Env.keep, beq_self_eq_true, cond_true, cond_false]
         exact outS_g he5 (gives_of (wk_refl _) (wkSt_refl _) trivial (hw _))
        ·simp only [wS, cellsW] at hc5
         refine hc5.useP (wkL_refl _) ?_
         rw [hE]
         simp only [gw0, reduceEqDiff, ↓reduceIte, reduceAdd, reduceLT, reduceLeDiff, reduceMul, gwD3, gwDT, pureR_none, ite_self, nilR, nilB, bitF, bitV, nilC, nilCmp, eqb, assertV, assertW, zeroV, wQ_normal, wQ_ret, wQ_panic, pickO, pickC, List.map_cons, List.map_nil, List.getD_cons_zero, List.getD_cons_succ, Env.keep, beq_self_eq_true, cond_true, cond_false]
         exact outS_p he5 (givesP_of (wk_refl _) (wkSt_refl _) (oops_lt _ _) (hw _))
       ·rw [h5, cond_false] at hE
        simp only [gw0, reduceEqDiff, ↓reduceIte, reduceAdd, reduceLT, reduceLeDiff, reduceMul, gwD3, gwDT, pureR_none, ite_self, nilR, nilB, bitF, bitV, nilC, nilCmp, eqb, assertV, assertW, zeroV, wQ_normal, wQ_ret, wQ_panic, pickO, pickC, List.map_cons, List.map_nil, List.getD_cons_zero, List.getD_cons_succ, Env.keep, beq_self_eq_true, cond_true, cond_false, wR_len, wR_k, wR_k0, wR_sk, wR_sk0, wR_b hb, wR_1 hb, wR_2 hb, wR_3 hb, wR_sb hb, wR_sE hb, wR_sI hb, wR_sB hb, Env.keep, next_i64 hlt (by omega)]
        refine ⟨(i + 1, o1), ⟨wkE_refl _, wS st w b o1, [.box [.int .i64 ka, .int .i64 na, .str nma, .int .i64 sa, .int .i64 la, .lst 6 none ([.int .i64 kh, .int .i64 nh, .str nmh, .int .i64 sh, .int .i64 lh, .lst 6 none (kidsh.map encD)] :: t.map encD)]], by simp [wS, cellsW], wkSt_refl _, ?_, hw _, by rw [wR_len]; exact Nat.le_refl _⟩, by dsimp only; omega, hlt, ho1, hE⟩
        simp only [ltE, V.lt]
        have hll := lstD_lt (wS st w b o1).length l
        simp only [lstD, V.lt] at hll
        exact ⟨by rw [wR_len]; omega, hll, hll, trivial, trivial, trivial⟩
      ·refine rK_go (hc4.useP (by rw [encD_mk]; exact wkL_refl _) ?_)
       rw [decide_eq_false he4, Bool.not_false, cond_true] at hE
       rw [hE]
       simp only [gw0, reduceEqDiff, ↓reduceIte, reduceAdd, reduceLT, reduceLeDiff, reduceMul, gwD3, gwDT, pureR_none, ite_self, nilR, nilB, bitF, bitV, nilC, nilCmp, eqb, assertV, assertW, zeroV, wQ_normal, wQ_ret, wQ_panic, pickO, pickC, List.map_cons, List.map_nil, List.getD_cons_zero, List.getD_cons_succ, Env.keep, beq_self_eq_true, cond_true, cond_false]
       exact outS_p he4 (givesP_of (wk_refl _) (wkSt_refl _) (oops_lt _ _) (hw o1))
     | true =>
      have hel : isElse (.mk kh nh nmh sh lh kidsh) = true := by show (decide (kh = 3) && decide (nmh = [101, 108, 115, 101])) = true; rw [h1, h2]; rfl
      rw [hel, cond_true] at hE
      simp only [gw0, reduceEqDiff, ↓reduceIte, reduceAdd, reduceLT, reduceLeDiff, reduceMul, gwD3, gwDT, pureR_none, ite_self, nilR, nilB, bitF, bitV, nilC, nilCmp, eqb, assertV, assertW, zeroV, wQ_normal, wQ_ret, wQ_panic, pickO, pickC, List.map_cons, List.map_nil, List.getD_cons_zero, List.getD_cons_succ, Env.keep, beq_self_eq_true, cond_true, cond_false, lstD, List.map_cons, encD_mk, show Int.toNat 0 = 0 from rfl, show Int.toNat 1 = 1 from rfl, List.drop_succ_cons, List.drop_zero, List.length_cons, List.length_map, Nat.le_add_left, encD_take, encD_len, encD_drop, Nat.le_refl, wR_len, wR_k, wR_k0, wR_sk, wR_sk0, wR_b hb, wR_1 hb, wR_2 hb, wR_3 hb, wR_sb hb, wR_sE hb, wR_sI hb, wR_sB hb, h1, h2, Bool.true_and, Bool.false_and, Bool.and_true, Bool.and_false, Bool.not_true, Bool.not_false, Bool.true_or, Bool.false_or]
      refine ⟨⟨by omega, by omega⟩, ⟨by omega, by omega⟩, rK_not (.bool true) ?_⟩
      simp only [gw0, reduceEqDiff, ↓reduceIte, reduceAdd, reduceLT, reduceLeDiff, reduceMul, gwD3, gwDT, pureR_none, ite_self, nilR, nilB, bitF, bitV, nilC, nilCmp, eqb, assertV, assertW, zeroV, wQ_normal, wQ_ret, wQ_panic, pickO, pickC, List.map_cons, List.map_nil, List.getD_cons_zero, List.getD_cons_succ, Env.keep, beq_self_eq_true, cond_true, cond_false, show Int.toNat 0 = 0 from rfl, show Int.toNat 1 = 1 from rfl, List.drop_succ_cons, List.drop_zero, List.length_cons, List.length_map, Nat.le_add_left, wR_len, wR_k, wR_k0, wR_sk, wR_sk0, wR_b hb, wR_1 hb, wR_2 hb, wR_3 hb, wR_sb hb, wR_sE hb, wR_sI hb, wR_sB hb]
      refine ⟨⟨by omega, by omega⟩, ?_⟩
      have hbd := ihD t hst2 htm (by omega) o1 ho1 (st ++ [.box [.int .i64 ka, .int .i64 na, .str nma, .int .i64 sa, .int .i64 la, .lst 6 none ([.int .i64 kh, .int .i64 nh, .str nmh, .int .i64 sh, .int .i64 lh, .lst 6 none (kidsh.map encD)] :: t.map encD)]]) b (by simp; omega)
      rw [wS_app hb, wS_app hb] at hbd
      rcases hbd.cases with ⟨he5, hc5⟩ | ⟨he5, hc5⟩
      ·simp only [wS, cellsW] at hc5
       refine hc5.use (wkL_refl _) fun _ => ?_
       rw [hE]
       simp only [gw0, reduceEqDiff, ↓reduceIte, reduceAdd, reduceLT, reduceLeDiff, reduceMul, gwD3, gwDT, pureR_none, ite_self, nilR, nilB, bitF, bitV, nilC, nilCmp, eqb, assertV, assertW, zeroV, wQ_normal, wQ_ret, wQ_panic, pickO, pickC, List.map_cons, List.map_nil, List.getD_cons_zero, List.getD_cons_succ, Env.keep, beq_self_eq_true, cond_true, cond_false]
       exact outS_g he5 (gives_of (wk_refl _) (wkSt_refl _) trivial (hw _))
      ·simp only [wS, cellsW] at hc5
       refine hc5.useP (wkL_refl _) ?_
       rw [hE]
       simp only [gw0, reduceEqDiff, ↓reduceIte, reduceAdd, reduceLT, reduceLeDiff, reduceMul, gwD3, gwDT, pureR_none, ite_self, nilR, nilB, bitF, bitV, nilC, nilCmp, eqb, assertV, assertW, zeroV, wQ_normal, wQ_ret, wQ_panic, pickO, pickC, List.map_cons, List.map_nil, List.getD_cons_zero, List.getD_cons_succ, Env.keep, beq_self_eq_true, cond_true, cond_false]
       exact outS_p he5 (givesP_of (wk_refl _) (wkSt_refl _) (oops_lt _ _) (hw _))
  ·refine hc.useP (by rw [encD_mk]; exact wkL_refl _) ?_
   have hv2 : (listP 1 (.mk ka na nma sa la kidsa)).2 = 2 ∧ G = (o1, 2) := by
    rw [hE]
    simp only [listP] at he ⊢
    cases e : decide (ka = 4) with
    | false => exact ⟨rfl, rfl⟩
    | true =>
     rw [e] at he
     cases kidsa with
     | nil => exact ⟨rfl, rfl⟩
     | cons x r => simp at he
   rw [hv2.2, hv2.1]
   simp only [gw0, reduceEqDiff, ↓reduceIte, reduceAdd, reduceLT, reduceLeDiff, reduceMul, gwD3, gwDT, pureR_none, ite_self, nilR, nilB, bitF, bitV, nilC, nilCmp, eqb, assertV, assertW, zeroV, wQ_normal, wQ_ret, wQ_panic, pickO, pickC, List.map_cons, List.map_nil, List.getD_cons_zero, List.getD_cons_succ, Env.keep, beq_self_eq_true, cond_true, cond_false]
   exact outS_p (show (2 : Int) ≠ 0 by decide) (givesP_of (wk_refl _) (wkSt_refl _) (oops_lt _ _) (hw o1))
theorem c_lib (w : Wd) : ∀ N, DeclsC w N ∧ CondC w N
 | 0 => ⟨fun l h => by omega, fun l h => by omega⟩
 | N + 1 => ⟨c_libdecls w N (c_lib w N).2, c_libcond w N (c_lib w N).1⟩
theorem c_decls (w : Wd) (l : List Datum) (hm : okMs l) (hl : l.length ≤ 2000) (o : Lib') (ho : okO o) (st : St) (b : Nat) (hb : b + 3 < st.length) :
  OutS 30 [.ptr b 0, lstD l] (wS st w b o) (.tup []) (declsL w l o).2 (wS st w b (declsL w l o).1) :=
 (c_lib w _).1 l (Nat.lt_succ_self _) hm hl o ho st b hb
theorem d_libidle (st : St) (a c : Nat) : VDefers Tryd.prog TT 26 [.ptr a 0, .ptr c 0] none st st := by
 refine vdefers TT_ok (an := anL []) (L := [0, 1, 3, 4, 5, 10]) Tryd.func26 rfl (by kernel_rfl) rfl Tryd.ntmps26 rfl rfl (by decide) (Nat.le_refl _) fun hst ha hf => ?_
 simp only [gw0, reduceEqDiff, ↓reduceIte, reduceAdd, reduceLT, reduceLeDiff, reduceMul, gwD3, gwDT, pureR_none, ite_self, nilR, nilB, bitF, bitV, nilC, nilCmp, eqb, assertV, assertW, zeroV, wQ_normal, wQ_ret, wQ_panic, pickO, pickC, List.map_cons, List.map_nil, List.getD_cons_zero, List.getD_cons_succ, Env.keep, beq_self_eq_true, cond_true, cond_false, Option.getD_none]
 exact ⟨[], st, by simp, wkSt_refl _, hst⟩
def zLib : List V := [.str [], .nils, .nils, .nils]
theorem d_libcaught (st : St) (a c : Nat) (e : Int) (x : Int) (hao : st[a]? = some (.box zLib)) (hc : st[c]? = some (.box [.int .i64 x])) (hne : a ≠ c) (hst2 : St.ok ((st.set a (.box zLib)).set c (.box [.int .i64 e]))) :
  VDefers Tryd.prog TT 26 [.ptr a 0, .ptr c 0] (some (oopsV e)) st ((st.set a (.box zLib)).set c (.box [.int .i64 e])) := by
 have hal := (List.getElem?_eq_some_iff.1 hao).1
 have hcl := (List.getElem?_eq_some_iff.1 hc).1
 refine vdefers TT_ok (an := anL []) (L := [0, 1, 3, 4, 5, 10]) Tryd.func26 rfl (by kernel_rfl) rfl Tryd.ntmps26 rfl rfl (by decide) (by simp) fun hst ha hf => ?_
 simp only [oopsV, zLib] at hao hst2 ⊢
 simp only [gw0, reduceEqDiff, ↓reduceIte, reduceAdd, reduceLT, reduceLeDiff, reduceMul, gwD3, gwDT, pureR_none, ite_self, nilR, nilB, bitF, bitV, nilC, nilCmp, eqb, assertV, assertW, zeroV, wQ_normal, wQ_ret, wQ_panic, pickO, pickC, List.map_cons, List.map_nil, List.getD_cons_zero, List.getD_cons_succ, Env.keep, beq_self_eq_true, cond_true, cond_false, Option.getD_some]
 have hA : ∀ l : St, (st ++ l)[a]? = some (.box [.str [], .nils, .nils, .nils]) := fun l => by rw [List.getElem?_append_left hal]; exact hao
 have hA2 : ∀ (l : St) (x : Ent), (st ++ l).set a x = st.set a x ++ l := fun l x => set_app hal
 have hC : ∀ (l : St) (x2 : Ent), (st.set a x2 ++ l)[c]? = some (.box [.int .i64 x]) := fun l x2 => by rw [List.getElem?_append_left (by simpa using hcl), List.getElem?_set_ne hne]; exact hc
 have hC2 : ∀ (l : St) (x x2 : Ent), (st.set a x ++ l).set c x2 = (st.set a x).set c x2 ++ l := fun l x x2 => set_app (by simpa using hcl)
 refine vdraw2 TT_ok TT_mixed (σ := Unit) [0, 0, 1, 2, 2] [0, 1, 3, 2, 4] 2 3 [0] (fun _x => [(0, true, .ptr a 0)]) (fun _x => (st.set a (.box [.str [], .nils, .nils, .nils])).set c (.box [.int .i64 e]) ++ [.box [.int .i64 e]]) (fun _x => True) rfl (by kernel_rfl) ?_ ?_ ?_
 ·simp only [gw0, reduceEqDiff, ↓reduceIte, reduceAdd, reduceLT, reduceLeDiff, reduceMul, gwD3, gwDT, pureR_none, ite_self, nilR, nilB, bitF, bitV, nilC, nilCmp, eqb, assertV, assertW, zeroV, wQ_normal, wQ_ret, wQ_panic, pickO, pickC, List.map_cons, List.map_nil, List.getD_cons_zero, List.getD_cons_succ, Env.keep, beq_self_eq_true, cond_true, cond_false, hA, hA2, hC, hC2, at_k, at_k0]
  exact ⟨rfl, rfl, (), rfl, rfl, trivial⟩
 ·simp only [gw0, reduceEqDiff, ↓reduceIte, reduceAdd, reduceLT, reduceLeDiff, reduceMul, gwD3, gwDT, pureR_none, ite_self, nilR, nilB, bitF, bitV, nilC, nilCmp, eqb, assertV, assertW, zeroV, wQ_normal, wQ_ret, wQ_panic, pickO, pickC, List.map_cons, List.map_nil, List.getD_cons_zero, List.getD_cons_succ, Env.keep, beq_self_eq_true, cond_true, cond_false, hA, hA2, hC, hC2, at_k, at_k0]
  exact ⟨rfl, rfl, (), rfl, rfl, trivial⟩
 ·rintro - -
  simp only [gw0, reduceEqDiff, ↓reduceIte, reduceAdd, reduceLT, reduceLeDiff, reduceMul, gwD3, gwDT, pureR_none, ite_self, nilR, nilB, bitF, bitV, nilC, nilCmp, eqb, assertV, assertW, zeroV, wQ_normal, wQ_ret, wQ_panic, pickO, pickC, List.map_cons, List.map_nil, List.getD_cons_zero, List.getD_cons_succ, Env.keep, beq_self_eq_true, cond_true, cond_false, hA]
  exact ⟨[.box [.int .i64 e]], _, rfl, wkSt_refl _, hst2⟩
theorem y_libcaught (st ex : St) (e x : Int) (hok : St.ok (st ++ (.box zLib :: .box [.int .i64 e] :: ex))) :
  VDefers Tryd.prog TT 26 [.ptr st.length 0, .ptr (st.length + 1) 0] (some (oopsV e)) (st ++ (.box zLib :: .box [.int .i64 x] :: ex)) (st ++ (.box zLib :: .box [.int .i64 e] :: ex)) := by
 have := d_libcaught (st ++ (.box zLib :: .box [.int .i64 x] :: ex)) st.length (st.length + 1) e x (by simp) (by simp) (by omega) (by rw [set_01]; exact hok)
 rw [set_01] at this
 exact this
theorem at_5 (st : St) (A B C D E F G : Ent) : (st ++ (A :: B :: C :: D :: E :: F :: [G]))[st.length + 5]? = some F := by simp
theorem listP_same {d : Datum} (h1 : (listP 1 d).2 = 0) (h2 : (listP 2 d).2 = 0) : (listP 2 d).1 = (listP 1 d).1 := by
 obtain ⟨k, n, nm, s, l, kids⟩ := d
 simp only [listP] at h1 h2 ⊢
 cases e1 : !decide (k = 4) || decide (kids.length < 1) with
 | true => rw [e1] at h1; simp at h1
 | false =>
  cases e2 : !decide (k = 4) || decide (kids.length < 2) with
  | true => rw [e2] at h2; simp at h2
  | false => rfl
def encLib (o : Lib') : List V := [.str o.name, .lst 2 none (rows2 o.exps), .lst 6 none (o.imps.map encSet), .lst 6 none (o.body.map encD)]
theorem encLib_lt (n : Nat) (o : Lib') : ltL n (encLib o) := by
 refine ⟨trivial, ?_, ?_, ?_, trivial⟩ <;> simp only [V.lt]
 ·exact ⟨fun e h => (by cases h), rows2_lt _ _⟩
 ·exact ⟨fun e h => (by cases h), ltRows_map fun s _ => encSet_lt _ _⟩
 ·exact ⟨fun e h => (by cases h), ltRows_map fun d _ => encD_lt _ _⟩
def libV (r : Lib' × Int) : V := .tup [.agg (encLib r.1), .int .i64 r.2]
theorem libV_lt (n : Nat) (r : Lib' × Int) : (libV r).lt n := by simp only [libV, V.lt, ltL, and_true]; exact encLib_lt _ _
set_option maxHeartbeats 4000000 in
theorem c_libParse (w : Wd) (dt : Datum) (st : St) : VCalls Tryd.prog TT 12 [.lst 2 none (rows2 w.files), encS w.feats, encS w.libs, .agg (encD dt)] st fun r st' => r = .ret (libV (parseP w dt)) ∧ st' = st := by
 refine VCalls.freeze (Q := fun r s' => ∃ v u ex, r = .ret v ∧ s' = st ++ ex ∧ Thaw s' st.length v u ∧ wk u (libV (parseP w dt)) ∧ (libV (parseP w dt)).lt st.length) ?_ (fun r s' h => h)
 have hz : ∀ e : Int, wk (.tup [.agg [.str [], .nils, .nils, .nils], .int .i64 e]) (libV (noLib, e)) := fun e =>
  wk_tup (wkL_cons (wk_agg (wkL_cons (wk_refl _) (wkL_cons (wk_nils _) (wkL_cons (wk_nils _) (wkL_cons (wk_nils _) wkL_nil))))) (wkL_cons (wk_refl _) wkL_nil))
 refine vfunD TT_ok (L := [0, 1, 2, 3, 7, 8, 9, 10, 11, 12, 37]) Tryd.func12 rfl (by kernel_rfl) Tryd.ntmps12 rfl rfl fun hst ha hf => ?_
 refine waSeq TT_ok (an := anL [(7, 1)]) (rs := [.cell 8 38, .cell 9 24]) rfl ?_
 simp only [gw0, reduceEqDiff, ↓reduceIte, reduceAdd, reduceLT, reduceLeDiff, reduceMul, gwD3, gwDT, pureR_none, ite_self, nilR, nilB, bitF, bitV, nilC, nilCmp, eqb, assertV, assertW, zeroV, wQ_normal, wQ_ret, wQ_panic, pickO, pickC, List.map_cons, List.map_nil, List.getD_cons_zero, List.getD_cons_succ, Env.keep, beq_self_eq_true, cond_true, cond_false]
 refine waSeq TT_ok (an := anL [(7, 1)]) (rs := [.cell 8 38, .cell 9 24]) rfl ?_
 simp only [gw0, reduceEqDiff, ↓reduceIte, reduceAdd, reduceLT, reduceLeDiff, reduceMul, gwD3, gwDT, pureR_none, ite_self, nilR, nilB, bitF, bitV, nilC, nilCmp, eqb, assertV, assertW, zeroV, wQ_normal, wQ_ret, wQ_panic, pickO, pickC, List.map_cons, List.map_nil, List.getD_cons_zero, List.getD_cons_succ, Env.keep, beq_self_eq_true, cond_true, cond_false, encD_take, encD_len, encD_drop, Nat.le_refl]
 refine (c_text_Wrong _ [dt]).use (wkL_refl _) fun _ => ?_
 simp only [fltV]
 simp only [gw0, reduceEqDiff, ↓reduceIte, reduceAdd, reduceLT, reduceLeDiff, reduceMul, gwD3, gwDT, pureR_none, ite_self, nilR, nilB, bitF, bitV, nilC, nilCmp, eqb, assertV, assertW, zeroV, wQ_normal, wQ_ret, wQ_panic, pickO, pickC, List.map_cons, List.map_nil, List.getD_cons_zero, List.getD_cons_succ, Env.keep, beq_self_eq_true, cond_true, cond_false]
 have hp0 : parseP w dt = bif !decide ((wrongL [dt] 0 0).1 = 0) then (noLib, (wrongL [dt] 0 0).1)
   else bif decide ((30 : Int) < w.files.length) then (noLib, 5)
   else bif decide ((topP w dt).2 = 0) then topP w dt else (noLib, (topP w dt).2) := rfl
 refine iK_split (fun h => ?_) (fun h => ?_)
 ·rw [h, cond_true] at hp0
  simp only [gw0, reduceEqDiff, ↓reduceIte, reduceAdd, reduceLT, reduceLeDiff, reduceMul, gwD3, gwDT, pureR_none, ite_self, nilR, nilB, bitF, bitV, nilC, nilCmp, eqb, assertV, assertW, zeroV, wQ_normal, wQ_ret, wQ_panic, pickO, pickC, List.map_cons, List.map_nil, List.getD_cons_zero, List.getD_cons_succ, Env.keep, beq_self_eq_true, cond_true, cond_false]
  refine vmelt 10 (st.length + 2) _ rfl (by simp only [gwL]; rfl) ?_
  simp only [gw0, reduceEqDiff, ↓reduceIte, reduceAdd, reduceLT, reduceLeDiff, reduceMul, gwD3, gwDT, pureR_none, ite_self, nilR, nilB, bitF, bitV, nilC, nilCmp, eqb, assertV, assertW, zeroV, wQ_normal, wQ_ret, wQ_panic, pickO, pickC, List.map_cons, List.map_nil, List.getD_cons_zero, List.getD_cons_succ, Env.keep, beq_self_eq_true, cond_true, cond_false, meltE]
  refine vdraw TT_ok TT_mixed [0, 0, 0, 2, 2] (by kernel_rfl) ?_
  simp only [gw0, reduceEqDiff, ↓reduceIte, reduceAdd, reduceLT, reduceLeDiff, reduceMul, gwD3, gwDT, pureR_none, ite_self, nilR, nilB, bitF, bitV, nilC, nilCmp, eqb, assertV, assertW, zeroV, wQ_normal, wQ_ret, wQ_panic, pickO, pickC, List.map_cons, List.map_nil, List.getD_cons_zero, List.getD_cons_succ, Env.keep, beq_self_eq_true, cond_true, cond_false]
  rw [hp0]
  exact ⟨_, _, _, rfl, rfl, .same _, hz _, libV_lt _ _⟩
 rw [h, cond_false] at hp0
 have hok := wrongL_okM (of_decide_eq_true (by simpa using h))
 refine waSeq TT_ok (an := anL [(7, 1)]) (rs := [.cell 8 38, .cell 9 24]) rfl ?_
 simp only [gw0, reduceEqDiff, ↓reduceIte, reduceAdd, reduceLT, reduceLeDiff, reduceMul, gwD3, gwDT, pureR_none, ite_self, nilR, nilB, bitF, bitV, nilC, nilCmp, eqb, assertV, assertW, zeroV, wQ_normal, wQ_ret, wQ_panic, pickO, pickC, List.map_cons, List.map_nil, List.getD_cons_zero, List.getD_cons_succ, Env.keep, beq_self_eq_true, cond_true, cond_false, rows2_len]
 refine iK_split (fun h2 => ?_) (fun h2 => ?_)
 ·rw [h2, cond_true] at hp0
  simp only [gw0, reduceEqDiff, ↓reduceIte, reduceAdd, reduceLT, reduceLeDiff, reduceMul, gwD3, gwDT, pureR_none, ite_self, nilR, nilB, bitF, bitV, nilC, nilCmp, eqb, assertV, assertW, zeroV, wQ_normal, wQ_ret, wQ_panic, pickO, pickC, List.map_cons, List.map_nil, List.getD_cons_zero, List.getD_cons_succ, Env.keep, beq_self_eq_true, cond_true, cond_false]
  rw [hp0]
  exact ⟨_, _, _, rfl, rfl, .same _, hz _, libV_lt _ _⟩
 rw [h2, cond_false] at hp0
 simp only [gw0, reduceEqDiff, ↓reduceIte, reduceAdd, reduceLT, reduceLeDiff, reduceMul, gwD3, gwDT, pureR_none, ite_self, nilR, nilB, bitF, bitV, nilC, nilCmp, eqb, assertV, assertW, zeroV, wQ_normal, wQ_ret, wQ_panic, pickO, pickC, List.map_cons, List.map_nil, List.getD_cons_zero, List.getD_cons_succ, Env.keep, beq_self_eq_true, cond_true, cond_false]
 refine waDefer TT_ok (an := anL [(7, 1)]) (rs := [.cell 8 38, .cell 9 24]) rfl [.ptr st.length 0, .ptr (st.length + 1) 0] ⟨_, Tryd.func26, by kernel_rfl, by kernel_rfl⟩ (by decide) rfl rfl fun d => ?_
 simp only [gw0, reduceEqDiff, ↓reduceIte, reduceAdd, reduceLT, reduceLeDiff, reduceMul, gwD3, gwDT, pureR_none, ite_self, nilR, nilB, bitF, bitV, nilC, nilCmp, eqb, assertV, assertW, zeroV, wQ_normal, wQ_ret, wQ_panic, pickO, pickC, List.map_cons, List.map_nil, List.getD_cons_zero, List.getD_cons_succ, Env.keep, beq_self_eq_true, cond_true, cond_false, encD_take, encD_len, encD_drop, Nat.le_refl, encS]
 have hWS : ∀ o : Lib', wS (st ++ [.box zLib, .box [.int .i64 0], .box [.int .i64 (wrongL [dt] 0 0).1, .int .i64 (wrongL [dt] 0 0).2], .gone, .gone, .gone, .gone]) w (st.length + 3) o = st ++ (.box zLib :: .box [.int .i64 0] :: [.box [.int .i64 (wrongL [dt] 0 0).1, .int .i64 (wrongL [dt] 0 0).2], .box (cellsW w (st.length + 3) o.name (rows2 o.exps) o.imps.length (o.body.map encD)), .tip 87 o.exps.length, .arr 84 6 (o.imps.map encSet), .tip 31 o.body.length]) := fun o => by
  unfold wS wR
  rw [List.set_append_right _ _ (by omega), List.set_append_right _ _ (by omega), List.set_append_right _ _ (by omega), List.set_append_right _ _ (by omega)]
  simp only [show st.length + 3 - st.length = 3 by omega, show st.length + 3 + 1 - st.length = 4 by omega, show st.length + 3 + 2 - st.length = 5 by omega, show st.length + 3 + 3 - st.length = 6 by omega, List.set_cons_succ, List.set_cons_zero]
 have hokE : ∀ (o : Lib') (e : Int), St.ok (st ++ (.box zLib :: .box [.int .i64 e] :: [.box [.int .i64 (wrongL [dt] 0 0).1, .int .i64 (wrongL [dt] 0 0).2], .box (cellsW w (st.length + 3) o.name (rows2 o.exps) o.imps.length (o.body.map encD)), .tip 87 o.exps.length, .arr 84 6 (o.imps.map encSet), .tip 31 o.body.length])) := fun o e => by
  refine ok_app hst ⟨by simp [zLib, Ent.lt, ltL, V.lt], by simp [Ent.lt, ltL, V.lt], by simp [Ent.lt, ltL, V.lt], ?_, trivial, ltRows_map fun s _ => encSet_lt _ _, trivial, trivial⟩
  simp only [List.length_cons, List.length_nil, Ent.lt, cellsW, ltL]
  refine ⟨?_, encS_lt _ _, encS_lt _ _, trivial, ?_, ?_, ?_, trivial, trivial⟩ <;> simp only [V.lt]
  ·exact ⟨fun e h => (by cases h), rows2_lt _ _⟩
  ·exact ⟨fun e h => (by cases h; omega), rows2_lt _ _⟩
  ·omega
  ·exact ⟨fun e h => (by cases h; omega), ltRows_map fun d _ => encD_lt _ _⟩
 have hb : st.length + 3 + 3 < (st ++ [Ent.box zLib, Ent.box [.int .i64 0], Ent.box [.int .i64 (wrongL [dt] 0 0).1, .int .i64 (wrongL [dt] 0 0).2], Ent.gone, Ent.gone, Ent.gone, Ent.gone]).length := by simp
 refine VCalls.more [87] (s0 := st ++ [.box [.str [], .nils, .nils, .nils], .box [.int .i64 0], .box [.int .i64 (wrongL [dt] 0 0).1, .int .i64 (wrongL [dt] 0 0).2], .box [.lst 2 none (rows2 w.files), .lst 1 none (w.feats.map fun s => [.str s]), .lst 1 none (w.libs.map fun s => [.str s]), .str [], .lst 2 (some (st.length + 4)) [], .nils, .nils, .int .i64 0]]) ?_ (wkL_refl _) ?_
 rotate_left
 ·refine (wkSt_refl _).append (wkSt_cons (Ent.wkp_refl _) (wkSt_cons (Ent.wkp_refl _) (wkSt_cons (Ent.wkp_refl _) (wkSt_cons (Ent.wk_box ?_) wkSt_nil))))
  exact wkL_cons (wk_refl _) (wkL_cons (wk_refl _) (wkL_cons (wk_refl _) (wkL_cons (wk_refl _) (wkL_cons (wk_tip _ (by simp [Tips])) (wkL_cons (wk_refl _) (wkL_cons (wk_refl _) (wkL_cons (wk_refl _) wkL_nil)))))))
 simp only [tips, List.map_cons, List.map_nil, List.append_assoc, List.cons_append, List.nil_append]
 refine VCalls.nilB (st.length + 3) 5 [.lst 2 none (rows2 w.files), .lst 1 none (w.feats.map fun s => [.str s]), .lst 1 none (w.libs.map fun s => [.str s]), .str [], .lst 2 (some (st.length + 4)) [], .nils, .nils, .int .i64 0] 84 (by simp) rfl ?_
 simp only [List.append_assoc, List.cons_append, List.nil_append, List.length_append, List.length_cons, List.length_nil, Nat.reduceAdd, List.set_cons_succ, List.set_cons_zero]
 rw [List.set_append_right _ _ (by omega)]
 simp only [show st.length + 3 - st.length = 3 by omega, List.set_cons_succ, List.set_cons_zero]
 have hT6 : (TT 84).size = 6 := rfl
 rw [hT6]
 refine VCalls.more [31] (s0 := st ++ [.box [.str [], .nils, .nils, .nils], .box [.int .i64 0], .box [.int .i64 (wrongL [dt] 0 0).1, .int .i64 (wrongL [dt] 0 0).2], .box [.lst 2 none (rows2 w.files), .lst 1 none (w.feats.map fun s => [.str s]), .lst 1 none (w.libs.map fun s => [.str s]), .str [], .lst 2 (some (st.length + 4)) [], .arr (st.length + 5) 0, .lst 6 (some (st.length + 6)) [], .int .i64 0], .tip 87 0, .arr 84 6 []]) ?_ (wkL_refl _) ?_
 rotate_left
 ·refine (wkSt_refl _).append (wkSt_cons (Ent.wkp_refl _) (wkSt_cons (Ent.wkp_refl _) (wkSt_cons (Ent.wkp_refl _) (wkSt_cons (Ent.wk_box ?_) (wkSt_cons (Ent.wkp_refl _) (wkSt_cons (Ent.wkp_refl _) wkSt_nil))))))
  exact wkL_cons (wk_refl _) (wkL_cons (wk_refl _) (wkL_cons (wk_refl _) (wkL_cons (wk_refl _) (wkL_cons (wk_refl _) (wkL_cons (wk_refl _) (wkL_cons (wk_tip _ (by simp [Tips])) (wkL_cons (wk_refl _) wkL_nil)))))))
 simp only [tips, List.map_cons, List.map_nil, List.append_assoc, List.cons_append, List.nil_append]
 have ht0 : topP w dt = thenE (listP 1 dt) noLib fun k => thenE (symP (k.getD 0 (.mk 0 0 [] 0 0 []))) noLib fun s =>
  bif decide (s = wLibrary) then thenE (listP 2 dt) noLib fun k2 => thenE (calledP (k2.getD 1 (.mk 0 0 [] 0 0 []))) noLib fun nm => declsL w (k.drop 2) { noLib with name := nm }
  else bif decide (s = wProgram) then declsL w (k.drop 1) noLib
  else (noLib, 2) := rfl
 have hpe : ∀ e : Int, (topP w dt).2 = e → e ≠ 0 → parseP w dt = (noLib, e) := fun e h1 h2 => by rw [hp0, h1, decide_eq_false h2]; rfl
 rcases (c_liblist dt 1 (wS (st ++ [.box zLib, .box [.int .i64 0], .box [.int .i64 (wrongL [dt] 0 0).1, .int .i64 (wrongL [dt] 0 0).2], .gone, .gone, .gone, .gone]) w (st.length + 3) noLib)).cases with ⟨he, hc⟩ | ⟨he, hc⟩
 ·rw [hWS] at hc
  refine hc.use (wkL_refl _) fun _ => ?_
  rw [thenE_ok he] at ht0
  have hm := listP_okM hok he
  obtain ⟨k, hk⟩ : ∃ k, (listP 1 dt).1 = k := ⟨_, rfl⟩
  rw [hk] at ht0 hm ⊢
  cases k with
  | nil => have := hm.2.2; simp at this
  | cons a r =>
   simp only [List.getD_cons_zero] at ht0
   simp only [gw0, reduceEqDiff, ↓reduceIte, reduceAdd, reduceLT, reduceLeDiff, reduceMul, gwD3, gwDT, pureR_none, ite_self, nilR, nilB, bitF, bitV, nilC, nilCmp, eqb, assertV, assertW, zeroV, wQ_normal, wQ_ret, wQ_panic, pickO, pickC, List.map_cons, List.map_nil, List.getD_cons_zero, List.getD_cons_succ, Env.keep, beq_self_eq_true, cond_true, cond_false, lstD, show Int.toNat 0 = 0 from rfl, show Int.toNat 1 = 1 from rfl, show Int.toNat 2 = 2 from rfl, List.drop_succ_cons, List.drop_zero, List.length_cons, List.length_map, List.map_cons, Nat.le_add_left, List.getD_cons_zero, List.getD_cons_succ, encD_take, encD_len, encD_drop, Nat.le_refl]
   refine ⟨⟨by omega, by omega⟩, ?_⟩
   rcases (c_libsym a (wS (st ++ [.box zLib, .box [.int .i64 0], .box [.int .i64 (wrongL [dt] 0 0).1, .int .i64 (wrongL [dt] 0 0).2], .gone, .gone, .gone, .gone]) w (st.length + 3) noLib)).cases with ⟨he2, hc2⟩ | ⟨he2, hc2⟩
   ·rw [hWS] at hc2
    refine hc2.use (wkL_refl _) fun _ => ?_
    rw [thenE_ok he2] at ht0
    generalize (symP a).1 = wd at ht0
    simp only [gw0, reduceEqDiff, ↓reduceIte, reduceAdd, reduceLT, reduceLeDiff, reduceMul, gwD3, gwDT, pureR_none, ite_self, nilR, nilB, bitF, bitV, nilC, nilCmp, eqb, assertV, assertW, zeroV, wQ_normal, wQ_ret, wQ_panic, pickO, pickC, List.map_cons, List.map_nil, List.getD_cons_zero, List.getD_cons_succ, Env.keep, beq_self_eq_true, cond_true, cond_false]
    refine iK_split (fun h3 => ?_) (fun h3 => ?_)
    ·rw [show decide (wd = wLibrary) = true from h3, cond_true] at ht0
     simp only [gw0, reduceEqDiff, ↓reduceIte, reduceAdd, reduceLT, reduceLeDiff, reduceMul, gwD3, gwDT, pureR_none, ite_self, nilR, nilB, bitF, bitV, nilC, nilCmp, eqb, assertV, assertW, zeroV, wQ_normal, wQ_ret, wQ_panic, pickO, pickC, List.map_cons, List.map_nil, List.getD_cons_zero, List.getD_cons_succ, Env.keep, beq_self_eq_true, cond_true, cond_false, encD_take, encD_len, encD_drop, Nat.le_refl]
     rcases (c_liblist dt 2 (wS (st ++ [.box zLib, .box [.int .i64 0], .box [.int .i64 (wrongL [dt] 0 0).1, .int .i64 (wrongL [dt] 0 0).2], .gone, .gone, .gone, .gone]) w (st.length + 3) noLib)).cases with ⟨he4, hc4⟩ | ⟨he4, hc4⟩
     ·rw [hWS] at hc4
      refine hc4.use (wkL_refl _) fun _ => ?_
      rw [thenE_ok he4] at ht0
      have hm4 := listP_okM hok he4
      have hks : (listP 2 dt).1 = a :: r := by rw [← hk]; exact listP_same he he4
      rw [hks] at ht0 hm4 ⊢
      cases r with
      | nil => have := hm4.2.2; simp at this
      | cons y z =>
       simp only [List.getD_cons_zero, List.getD_cons_succ, List.drop_succ_cons, List.drop_zero] at ht0
       simp only [gw0, reduceEqDiff, ↓reduceIte, reduceAdd, reduceLT, reduceLeDiff, reduceMul, gwD3, gwDT, pureR_none, ite_self, nilR, nilB, bitF, bitV, nilC, nilCmp, eqb, assertV, assertW, zeroV, wQ_normal, wQ_ret, wQ_panic, pickO, pickC, List.map_cons, List.map_nil, List.getD_cons_zero, List.getD_cons_succ, Env.keep, beq_self_eq_true, cond_true, cond_false, lstD, show Int.toNat 0 = 0 from rfl, show Int.toNat 1 = 1 from rfl, show Int.toNat 2 = 2 from rfl, List.drop_succ_cons, List.drop_zero, List.length_cons, List.length_map, List.map_cons, Nat.le_add_left, List.getD_cons_zero, List.getD_cons_succ, encD_take, encD_len, encD_drop, Nat.le_refl]
       refine ⟨⟨by omega, by omega⟩, ?_⟩
       have hmy : okM y := okMs_mem hm4.1 (by simp)
       have hmz : okMs z := hm4.1.2.2
       have hzl : z.length + 2 ≤ 2000 := hm4.2.1
       rcases (c_libcalled y hmy (wS (st ++ [.box zLib, .box [.int .i64 0], .box [.int .i64 (wrongL [dt] 0 0).1, .int .i64 (wrongL [dt] 0 0).2], .gone, .gone, .gone, .gone]) w (st.length + 3) noLib)).cases with ⟨he5, hc5⟩ | ⟨he5, hc5⟩
       ·rw [hWS] at hc5
        refine hc5.use (wkL_refl _) fun _ => ?_
        rw [thenE_ok he5] at ht0
        generalize (calledP y).1 = nm at ht0
        simp only [gw0, reduceEqDiff, ↓reduceIte, reduceAdd, reduceLT, reduceLeDiff, reduceMul, gwD3, gwDT, pureR_none, ite_self, nilR, nilB, bitF, bitV, nilC, nilCmp, eqb, assertV, assertW, zeroV, wQ_normal, wQ_ret, wQ_panic, pickO, pickC, List.map_cons, List.map_nil, List.getD_cons_zero, List.getD_cons_succ, Env.keep, beq_self_eq_true, cond_true, cond_false, cellsW, show Int.toNat 0 = 0 from rfl, show Int.toNat 1 = 1 from rfl, show Int.toNat 2 = 2 from rfl, List.drop_succ_cons, List.drop_zero, List.length_cons, List.length_map, List.map_cons, Nat.le_add_left, List.getD_cons_zero, List.getD_cons_succ]
        refine ⟨⟨by omega, by omega⟩, ?_⟩
        rcases (c_decls w z hmz (by omega) { noLib with name := nm } ⟨by simp [noLib], by simp [noLib], by simp [noLib]⟩ (st ++ [.box zLib, .box [.int .i64 0], .box [.int .i64 (wrongL [dt] 0 0).1, .int .i64 (wrongL [dt] 0 0).2], .gone, .gone, .gone, .gone]) (st.length + 3) hb).cases with ⟨he9, hc9⟩ | ⟨he9, hc9⟩
        ·rw [hWS, hWS] at hc9
         refine hc9.use (wkL_refl _) fun _ => ?_
         have hpok : parseP w dt = ((declsL w z { noLib with name := nm }).1, 0) := by rw [hp0, ht0, decide_eq_true he9, cond_true]; exact Prod.ext rfl he9
         generalize (declsL w z { noLib with name := nm }).1 = of at hpok ⊢
         simp only [gw0, reduceEqDiff, ↓reduceIte, reduceAdd, reduceLT, reduceLeDiff, reduceMul, gwD3, gwDT, pureR_none, ite_self, nilR, nilB, bitF, bitV, nilC, nilCmp, eqb, assertV, assertW, zeroV, wQ_normal, wQ_ret, wQ_panic, pickO, pickC, List.map_cons, List.map_nil, List.getD_cons_zero, List.getD_cons_succ, Env.keep, beq_self_eq_true, cond_true, cond_false, cellsW, zLib]
         refine dQ_ret (d_libidle _ _ _) ?_
         simp only [gw0, reduceEqDiff, ↓reduceIte, reduceAdd, reduceLT, reduceLeDiff, reduceMul, gwD3, gwDT, pureR_none, ite_self, nilR, nilB, bitF, bitV, nilC, nilCmp, eqb, assertV, assertW, zeroV, wQ_normal, wQ_ret, wQ_panic, pickO, pickC, List.map_cons, List.map_nil, List.getD_cons_zero, List.getD_cons_succ, Env.keep, beq_self_eq_true, cond_true, cond_false]
         rw [hpok]
         refine ⟨_, _, _, rfl, rfl, .tup (.cons (.agg (.cons (.same _) (.cons (.same _) (.cons (.arr (rows' := of.imps.map encSet) (e := 84) (by omega) (at_5 ..) (by simp) (ThawR.refl _)) (.cons (.same _) .nil))))) (.cons (.same _) .nil)), ?_, libV_lt _ _⟩
         exact wk_tup (wkL_cons (wk_agg (wkL_cons (wk_refl _) (wkL_cons (wk_tok _ _ _) (wkL_cons (wk_refl _) (wkL_cons (wk_tok _ _ _) wkL_nil))))) (wkL_cons (wk_refl _) wkL_nil))
        ·rw [hWS] at hc9
         rw [hWS] at hc9
         refine hc9.useP (wkL_refl _) ?_
         simp only [gw0, reduceEqDiff, ↓reduceIte, reduceAdd, reduceLT, reduceLeDiff, reduceMul, gwD3, gwDT, pureR_none, ite_self, nilR, nilB, bitF, bitV, nilC, nilCmp, eqb, assertV, assertW, zeroV, wQ_normal, wQ_ret, wQ_panic, pickO, pickC, List.map_cons, List.map_nil, List.getD_cons_zero, List.getD_cons_succ, Env.keep, beq_self_eq_true, cond_true, cond_false]
         refine dQ_panic (y_libcaught st _ (declsL w z { noLib with name := nm }).2 0 (hokE (declsL w z { noLib with name := nm }).1 _)) ?_
         simp only [gw0, reduceEqDiff, ↓reduceIte, reduceAdd, reduceLT, reduceLeDiff, reduceMul, gwD3, gwDT, pureR_none, ite_self, nilR, nilB, bitF, bitV, nilC, nilCmp, eqb, assertV, assertW, zeroV, wQ_normal, wQ_ret, wQ_panic, pickO, pickC, List.map_cons, List.map_nil, List.getD_cons_zero, List.getD_cons_succ, Env.keep, beq_self_eq_true, cond_true, cond_false, zLib]
         rw [hpe _ (by rw [ht0]) he9]
         exact ⟨_, _, _, rfl, rfl, .same _, hz _, libV_lt _ _⟩
       ·rw [thenE_bad he5] at ht0
        rw [hWS] at hc5
        refine hc5.useP (wkL_refl _) ?_
        simp only [gw0, reduceEqDiff, ↓reduceIte, reduceAdd, reduceLT, reduceLeDiff, reduceMul, gwD3, gwDT, pureR_none, ite_self, nilR, nilB, bitF, bitV, nilC, nilCmp, eqb, assertV, assertW, zeroV, wQ_normal, wQ_ret, wQ_panic, pickO, pickC, List.map_cons, List.map_nil, List.getD_cons_zero, List.getD_cons_succ, Env.keep, beq_self_eq_true, cond_true, cond_false]
        refine dQ_panic (y_libcaught st _ (calledP y).2 0 (hokE noLib _)) ?_
        simp only [gw0, reduceEqDiff, ↓reduceIte, reduceAdd, reduceLT, reduceLeDiff, reduceMul, gwD3, gwDT, pureR_none, ite_self, nilR, nilB, bitF, bitV, nilC, nilCmp, eqb, assertV, assertW, zeroV, wQ_normal, wQ_ret, wQ_panic, pickO, pickC, List.map_cons, List.map_nil, List.getD_cons_zero, List.getD_cons_succ, Env.keep, beq_self_eq_true, cond_true, cond_false, zLib]
        rw [hpe _ (by rw [ht0]) he5]
        exact ⟨_, _, _, rfl, rfl, .same _, hz _, libV_lt _ _⟩
     ·rw [thenE_bad he4] at ht0
      rw [hWS] at hc4
      refine hc4.useP (wkL_refl _) ?_
      simp only [gw0, reduceEqDiff, ↓reduceIte, reduceAdd, reduceLT, reduceLeDiff, reduceMul, gwD3, gwDT, pureR_none, ite_self, nilR, nilB, bitF, bitV, nilC, nilCmp, eqb, assertV, assertW, zeroV, wQ_normal, wQ_ret, wQ_panic, pickO, pickC, List.map_cons, List.map_nil, List.getD_cons_zero, List.getD_cons_succ, Env.keep, beq_self_eq_true, cond_true, cond_false]
      refine dQ_panic (y_libcaught st _ (listP 2 dt).2 0 (hokE noLib _)) ?_
      simp only [gw0, reduceEqDiff, ↓reduceIte, reduceAdd, reduceLT, reduceLeDiff, reduceMul, gwD3, gwDT, pureR_none, ite_self, nilR, nilB, bitF, bitV, nilC, nilCmp, eqb, assertV, assertW, zeroV, wQ_normal, wQ_ret, wQ_panic, pickO, pickC, List.map_cons, List.map_nil, List.getD_cons_zero, List.getD_cons_succ, Env.keep, beq_self_eq_true, cond_true, cond_false, zLib]
      rw [hpe _ (by rw [ht0]) he4]
      exact ⟨_, _, _, rfl, rfl, .same _, hz _, libV_lt _ _⟩
    ·rw [show decide (wd = wLibrary) = false from h3, cond_false] at ht0
     simp only [gw0, reduceEqDiff, ↓reduceIte, reduceAdd, reduceLT, reduceLeDiff, reduceMul, gwD3, gwDT, pureR_none, ite_self, nilR, nilB, bitF, bitV, nilC, nilCmp, eqb, assertV, assertW, zeroV, wQ_normal, wQ_ret, wQ_panic, pickO, pickC, List.map_cons, List.map_nil, List.getD_cons_zero, List.getD_cons_succ, Env.keep, beq_self_eq_true, cond_true, cond_false]
     refine iK_split (fun h4 => ?_) (fun h4 => ?_)
     ·rw [show decide (wd = wProgram) = true from h4, cond_true] at ht0
      simp only [List.drop_succ_cons, List.drop_zero] at ht0
      have hmr : okMs r := hm.1.2
      have hrl : r.length + 1 ≤ 2000 := hm.2.1
      simp only [gw0, reduceEqDiff, ↓reduceIte, reduceAdd, reduceLT, reduceLeDiff, reduceMul, gwD3, gwDT, pureR_none, ite_self, nilR, nilB, bitF, bitV, nilC, nilCmp, eqb, assertV, assertW, zeroV, wQ_normal, wQ_ret, wQ_panic, pickO, pickC, List.map_cons, List.map_nil, List.getD_cons_zero, List.getD_cons_succ, Env.keep, beq_self_eq_true, cond_true, cond_false, show Int.toNat 0 = 0 from rfl, show Int.toNat 1 = 1 from rfl, show Int.toNat 2 = 2 from rfl, List.drop_succ_cons, List.drop_zero, List.length_cons, List.length_map, List.map_cons, Nat.le_add_left, List.getD_cons_zero, List.getD_cons_succ]
      refine ⟨⟨by omega, by omega⟩, ?_⟩
      rcases (c_decls w r hmr (by omega) noLib ⟨by simp [noLib], by simp [noLib], by simp [noLib]⟩ (st ++ [.box zLib, .box [.int .i64 0], .box [.int .i64 (wrongL [dt] 0 0).1, .int .i64 (wrongL [dt] 0 0).2], .gone, .gone, .gone, .gone]) (st.length + 3) hb).cases with ⟨he9, hc9⟩ | ⟨he9, hc9⟩
      ·rw [hWS, hWS] at hc9
       refine hc9.use (wkL_refl _) fun _ => ?_
       have hpok : parseP w dt = ((declsL w r noLib).1, 0) := by rw [hp0, ht0, decide_eq_true he9, cond_true]; exact Prod.ext rfl he9
       generalize (declsL w r noLib).1 = of at hpok ⊢
       simp only [gw0, reduceEqDiff, ↓reduceIte, reduceAdd, reduceLT, reduceLeDiff, reduceMul, gwD3, gwDT, pureR_none, ite_self, nilR, nilB, bitF, bitV, nilC, nilCmp, eqb, assertV, assertW, zeroV, wQ_normal, wQ_ret, wQ_panic, pickO, pickC, List.map_cons, List.map_nil, List.getD_cons_zero, List.getD_cons_succ, Env.keep, beq_self_eq_true, cond_true, cond_false, cellsW, zLib]
       refine dQ_ret (d_libidle _ _ _) ?_
       simp only [gw0, reduceEqDiff, ↓reduceIte, reduceAdd, reduceLT, reduceLeDiff, reduceMul, gwD3, gwDT, pureR_none, ite_self, nilR, nilB, bitF, bitV, nilC, nilCmp, eqb, assertV, assertW, zeroV, wQ_normal, wQ_ret, wQ_panic, pickO, pickC, List.map_cons, List.map_nil, List.getD_cons_zero, List.getD_cons_succ, Env.keep, beq_self_eq_true, cond_true, cond_false]
       rw [hpok]
       refine ⟨_, _, _, rfl, rfl, .tup (.cons (.agg (.cons (.same _) (.cons (.same _) (.cons (.arr (rows' := of.imps.map encSet) (e := 84) (by omega) (at_5 ..) (by simp) (ThawR.refl _)) (.cons (.same _) .nil))))) (.cons (.same _) .nil)), ?_, libV_lt _ _⟩
       exact wk_tup (wkL_cons (wk_agg (wkL_cons (wk_refl _) (wkL_cons (wk_tok _ _ _) (wkL_cons (wk_refl _) (wkL_cons (wk_tok _ _ _) wkL_nil))))) (wkL_cons (wk_refl _) wkL_nil))
      ·rw [hWS] at hc9
       rw [hWS] at hc9
       refine hc9.useP (wkL_refl _) ?_
       simp only [gw0, reduceEqDiff, ↓reduceIte, reduceAdd, reduceLT, reduceLeDiff, reduceMul, gwD3, gwDT, pureR_none, ite_self, nilR, nilB, bitF, bitV, nilC, nilCmp, eqb, assertV, assertW, zeroV, wQ_normal, wQ_ret, wQ_panic, pickO, pickC, List.map_cons, List.map_nil, List.getD_cons_zero, List.getD_cons_succ, Env.keep, beq_self_eq_true, cond_true, cond_false]
       refine dQ_panic (y_libcaught st _ (declsL w r noLib).2 0 (hokE (declsL w r noLib).1 _)) ?_
       simp only [gw0, reduceEqDiff, ↓reduceIte, reduceAdd, reduceLT, reduceLeDiff, reduceMul, gwD3, gwDT, pureR_none, ite_self, nilR, nilB, bitF, bitV, nilC, nilCmp, eqb, assertV, assertW, zeroV, wQ_normal, wQ_ret, wQ_panic, pickO, pickC, List.map_cons, List.map_nil, List.getD_cons_zero, List.getD_cons_succ, Env.keep, beq_self_eq_true, cond_true, cond_false, zLib]
       rw [hpe _ (by rw [ht0]) he9]
       exact ⟨_, _, _, rfl, rfl, .same _, hz _, libV_lt _ _⟩
     ·rw [show decide (wd = wProgram) = false from h4, cond_false] at ht0
      simp only [gw0, reduceEqDiff, ↓reduceIte, reduceAdd, reduceLT, reduceLeDiff, reduceMul, gwD3, gwDT, pureR_none, ite_self, nilR, nilB, bitF, bitV, nilC, nilCmp, eqb, assertV, assertW, zeroV, wQ_normal, wQ_ret, wQ_panic, pickO, pickC, List.map_cons, List.map_nil, List.getD_cons_zero, List.getD_cons_succ, Env.keep, beq_self_eq_true, cond_true, cond_false]
      refine (c_libfail _ 2).useP (wkL_refl _) ?_
      simp only [gw0, reduceEqDiff, ↓reduceIte, reduceAdd, reduceLT, reduceLeDiff, reduceMul, gwD3, gwDT, pureR_none, ite_self, nilR, nilB, bitF, bitV, nilC, nilCmp, eqb, assertV, assertW, zeroV, wQ_normal, wQ_ret, wQ_panic, pickO, pickC, List.map_cons, List.map_nil, List.getD_cons_zero, List.getD_cons_succ, Env.keep, beq_self_eq_true, cond_true, cond_false]
      refine dQ_panic (y_libcaught st _ 2 0 (hokE noLib _)) ?_
      simp only [gw0, reduceEqDiff, ↓reduceIte, reduceAdd, reduceLT, reduceLeDiff, reduceMul, gwD3, gwDT, pureR_none, ite_self, nilR, nilB, bitF, bitV, nilC, nilCmp, eqb, assertV, assertW, zeroV, wQ_normal, wQ_ret, wQ_panic, pickO, pickC, List.map_cons, List.map_nil, List.getD_cons_zero, List.getD_cons_succ, Env.keep, beq_self_eq_true, cond_true, cond_false, zLib]
      rw [hpe _ (by rw [ht0]) (show (2 : Int) ≠ 0 by decide)]
      exact ⟨_, _, _, rfl, rfl, .same _, hz _, libV_lt _ _⟩
   ·rw [thenE_bad he2] at ht0
    rw [hWS] at hc2
    refine hc2.useP (wkL_refl _) ?_
    simp only [gw0, reduceEqDiff, ↓reduceIte, reduceAdd, reduceLT, reduceLeDiff, reduceMul, gwD3, gwDT, pureR_none, ite_self, nilR, nilB, bitF, bitV, nilC, nilCmp, eqb, assertV, assertW, zeroV, wQ_normal, wQ_ret, wQ_panic, pickO, pickC, List.map_cons, List.map_nil, List.getD_cons_zero, List.getD_cons_succ, Env.keep, beq_self_eq_true, cond_true, cond_false]
    refine dQ_panic (y_libcaught st _ (symP a).2 0 (hokE noLib _)) ?_
    simp only [gw0, reduceEqDiff, ↓reduceIte, reduceAdd, reduceLT, reduceLeDiff, reduceMul, gwD3, gwDT, pureR_none, ite_self, nilR, nilB, bitF, bitV, nilC, nilCmp, eqb, assertV, assertW, zeroV, wQ_normal, wQ_ret, wQ_panic, pickO, pickC, List.map_cons, List.map_nil, List.getD_cons_zero, List.getD_cons_succ, Env.keep, beq_self_eq_true, cond_true, cond_false, zLib]
    rw [hpe _ (by rw [ht0]) he2]
    exact ⟨_, _, _, rfl, rfl, .same _, hz _, libV_lt _ _⟩
 ·rw [thenE_bad he] at ht0
  rw [hWS] at hc
  refine hc.useP (wkL_refl _) ?_
  simp only [gw0, reduceEqDiff, ↓reduceIte, reduceAdd, reduceLT, reduceLeDiff, reduceMul, gwD3, gwDT, pureR_none, ite_self, nilR, nilB, bitF, bitV, nilC, nilCmp, eqb, assertV, assertW, zeroV, wQ_normal, wQ_ret, wQ_panic, pickO, pickC, List.map_cons, List.map_nil, List.getD_cons_zero, List.getD_cons_succ, Env.keep, beq_self_eq_true, cond_true, cond_false]
  refine dQ_panic (y_libcaught st _ (listP 1 dt).2 0 (hokE noLib _)) ?_
  simp only [gw0, reduceEqDiff, ↓reduceIte, reduceAdd, reduceLT, reduceLeDiff, reduceMul, gwD3, gwDT, pureR_none, ite_self, nilR, nilB, bitF, bitV, nilC, nilCmp, eqb, assertV, assertW, zeroV, wQ_normal, wQ_ret, wQ_panic, pickO, pickC, List.map_cons, List.map_nil, List.getD_cons_zero, List.getD_cons_succ, Env.keep, beq_self_eq_true, cond_true, cond_false, zLib]
  rw [hpe _ (by rw [ht0]) he]
  exact ⟨_, _, _, rfl, rfl, .same _, hz _, libV_lt _ _⟩
def Ld (l : List Datum) : Datum := .mk 4 0 [] 0 0 l
def Sd (s : Str) : Datum := .mk 3 0 s 0 0 []
/-- The same, as far as it counts. -/
def same2 {α : Type} (x y : α × Int) : Prop := x.2 = y.2 ∧ (x.2 = 0 → x.1 = y.1)
theorem same2.refl {α : Type} (x : α × Int) : same2 x x := ⟨rfl, fun _ => rfl⟩
theorem decls_one (w : Wd) (d : Datum) (o : Lib') : declsL w [d] o = declD w d o := by
 rw [declsL_cons]
 cases e : decide ((declD w d o).2 = 0) with
 | false => rfl
 | true => simp only [cond_true, declsL]; exact Prod.ext rfl (of_decide_eq_true e).symm
theorem list_L {l : List Datum} {n : Nat} (h : n ≤ l.length) : listP n (Ld l) = (l, 0) := by
 simp only [Ld, listP, decide_true, Bool.not_true, Bool.false_or]
 rw [decide_eq_false (by omega)]; rfl
theorem top_prog (w : Wd) (l : List Datum) : topP w (Ld (Sd wProgram :: l)) = declsL w l noLib := by
 unfold topP
 rw [list_L (by simp), thenE_ok rfl]
 simp only [List.getD_cons_zero]
 rw [show symP (Sd wProgram) = (wProgram, 0) from rfl, thenE_ok rfl]
 rfl
theorem encLib_len (o : Lib') : (encLib o).length = 4 := rfl
theorem encLib_take (o : Lib') : (encLib o).take 4 = encLib o := rfl
theorem encLib_drop (o : Lib') : (encLib o).drop 4 = [] := rfl
theorem c_refSym (s : Str) (st : St) : VCalls Tryd.prog TT 11 [.str s] st fun r st' => r = .ret (.agg (encD (Sd s))) ∧ st' = st := by
 refine vfun TT_ok (an := anL []) (L := [0, 2]) (rs := [.cell 2 31]) Tryd.func11 rfl (by kernel_rfl) rfl Tryd.ntmps11 rfl rfl (Nat.le_refl _) fun hst ha hf => ?_
 simp only [gw0, reduceEqDiff, ↓reduceIte, reduceAdd, reduceLT, reduceLeDiff, reduceMul, gwD3, gwDT, pureR_none, ite_self, nilR, nilB, bitF, bitV, nilC, nilCmp, eqb, assertV, assertW, zeroV, wQ_normal, wQ_ret, wQ_panic, pickO, pickC, List.map_cons, List.map_nil, List.getD_cons_zero, List.getD_cons_succ, Env.keep, beq_self_eq_true, cond_true, cond_false]
 refine gives_of (wk_agg ?_) (wkSt_refl _) (by simp only [V.lt]; exact encD_lt _ _) hst
 rw [Sd, encD_mk]
 exact wkL_cons (wk_refl _) (wkL_cons (wk_refl _) (wkL_cons (wk_refl _) (wkL_cons (wk_refl _) (wkL_cons (wk_refl _) (wkL_cons (wk_nils _) wkL_nil)))))
theorem c_refList (l : List Datum) (st : St) : VCalls Tryd.prog TT 10 [lstD l] st fun r st' => r = .ret (.agg (encD (Ld l))) ∧ st' = st := by
 refine vfun TT_ok (an := anL []) (L := [0, 2]) (rs := [.cell 2 31]) Tryd.func10 rfl (by kernel_rfl) rfl Tryd.ntmps10 rfl rfl (Nat.le_refl _) fun hst ha hf => ?_
 simp only [gw0, reduceEqDiff, ↓reduceIte, reduceAdd, reduceLT, reduceLeDiff, reduceMul, gwD3, gwDT, pureR_none, ite_self, nilR, nilB, bitF, bitV, nilC, nilCmp, eqb, assertV, assertW, zeroV, wQ_normal, wQ_ret, wQ_panic, pickO, pickC, List.map_cons, List.map_nil, List.getD_cons_zero, List.getD_cons_succ, Env.keep, beq_self_eq_true, cond_true, cond_false, lstD]
 refine gives_of (wk_agg ?_) (wkSt_refl _) (by simp only [V.lt]; exact encD_lt _ _) hst
 rw [Ld, encD_mk]
 exact wkL_refl _
mutual
theorem eqD_self : ∀ d : Datum, eqD d d = true
 | .mk k n nm s l kids => by
  simp only [eqD, decide_true, cond_true, Bool.and_self, eqDs_self kids]
  cases decide (k = 1) <;> cases decide (k = 2) <;> cases decide (k = 3) <;> cases decide (k = 4) <;> rfl
theorem eqDs_self : ∀ l : List Datum, eqDs l l = true
 | [] => by simp only [eqDs]
 | a :: r => by simp only [eqDs, eqD_self a, eqDs_self r, Bool.and_self]
end
theorem fit_rows {α : Type} {f : α → List V} {l : List α} {a : α} (h : fitR (l.map f)) (ha : a ∈ l) : fitL (f a) := by
 induction l with
 | nil => simp at ha
 | cons x l ih =>
  rcases List.mem_cons.1 ha with rfl | ha
  ·exact h.1
  ·exact ih h.2 ha
def kidsOf : Set' → List Set'
 | .mk _ _ _ _ _ kids => kids
theorem encSet_drop (s : Set') : (encSet s).drop 6 = [] := List.drop_of_length_le (by rw [encSet_len]; exact Nat.le_refl _)
theorem c_one (s : Str) (d : Datum) (h : readR s = .inr [d]) (st : St) : VCalls Tryd.prog TT 20 [.str s] st fun r st' => r = .ret (.agg (encD d)) ∧ st' = st := by
 refine vfun TT_ok (an := anL []) (L := [0, 2, 3, 4]) (rs := [.cell 2 31]) Tryd.func20 rfl (by kernel_rfl) rfl Tryd.ntmps20 rfl rfl (Nat.le_refl _) fun hst ha hf => ?_
 simp only [gw0, reduceEqDiff, ↓reduceIte, reduceAdd, reduceLT, reduceLeDiff, reduceMul]
 refine (c_Read s _).use (wkL_refl _) fun _ => ?_
 rw [h]
 simp only [readV, fltV]
 simp only [gw0, reduceEqDiff, ↓reduceIte, reduceAdd, reduceLT, reduceLeDiff, reduceMul, lstD, List.map_cons, List.map_nil, List.length_cons, List.length_nil, encD_take, encD_len, encD_drop, Nat.le_refl]
 simp only [gw0, reduceEqDiff, ↓reduceIte, reduceAdd, reduceLT, reduceLeDiff, reduceMul, show decide (((1 : Nat) : Int) = 1) = true from rfl, Bool.not_true, lstD, List.map_cons, List.map_nil, List.length_cons, List.length_nil, encD_take, encD_len, encD_drop, Nat.le_refl, show Int.toNat 0 = 0 from rfl, List.getD_cons_zero, show ((0 : Int) ≤ 0 ∧ (0 : Int) < ((1 : Nat) : Int)) = True by simp, true_and]
 exact gives_of (X := .agg (encD d)) (wk_refl _) (wkSt_refl _) (by simp only [V.lt]; exact encD_lt _ _) hst
def aliveF : Str := [40, 100, 101, 102, 105, 110, 101, 32, 120, 32, 49, 41]
def aliveS : Str := [40, 108, 105, 98, 114, 97, 114, 121, 32, 40, 97, 32, 98, 41, 32, 40, 101, 120, 112, 111, 114, 116, 32, 120, 41, 32, 40, 105, 110, 99, 108, 117, 100, 101, 32, 102, 41, 41]
def aliveD : Datum := Ld [Sd wLibrary, Ld [Sd [97], Sd [98]], Ld [Sd wExport, Sd [120]], Ld [Sd wInclude, Sd [102]]]
def aliveW : Wd := ⟨[([102], aliveF)], [], []⟩
def aliveO : Lib' := ⟨[97, 32, 98], [([120], [120])], [], [Ld [Sd [100, 101, 102, 105, 110, 101], Sd [120], .mk 1 1 [] 0 0 []]]⟩
theorem alive_read : readR aliveS = .inr [aliveD] := by kernel_rfl
theorem alive_parse : parseP aliveW aliveD = (aliveO, 0) := by kernel_rfl
theorem c_alive (st : St) : VCalls Tryd.prog TT 6 [] st fun r st' => r = .ret (.bool true) ∧ st' = st := by
 refine vfun TT_ok (an := anL []) (L := [0, 1, 2]) (rs := [.tmp 0]) Tryd.func6 rfl (by kernel_rfl) rfl Tryd.ntmps6 rfl rfl (Nat.le_refl _) fun hst ha hf => ?_
 simp only [gw0, reduceEqDiff, ↓reduceIte, reduceAdd, reduceLT, reduceLeDiff, reduceMul, gwD3, gwDT, pureR_none, ite_self, nilR, nilB, bitF, bitV, nilC, nilCmp, eqb, assertV, assertW, zeroV, wQ_normal, wQ_ret, wQ_panic, pickO, pickC, List.map_cons, List.map_nil, List.getD_cons_zero, List.getD_cons_succ, Env.keep, beq_self_eq_true, cond_true, cond_false]
 refine (c_one aliveS aliveD alive_read _).use (wkL_refl _) fun _ => ?_
 simp only [gw0, reduceEqDiff, ↓reduceIte, reduceAdd, reduceLT, reduceLeDiff, reduceMul, gwD3, gwDT, pureR_none, ite_self, nilR, nilB, bitF, bitV, nilC, nilCmp, eqb, assertV, assertW, zeroV, wQ_normal, wQ_ret, wQ_panic, pickO, pickC, List.map_cons, List.map_nil, List.getD_cons_zero, List.getD_cons_succ, Env.keep, beq_self_eq_true, cond_true, cond_false]
 refine (c_libParse aliveW aliveD _).use (wkL_cons (wk_refl _) (wkL_cons (wk_nils _) (wkL_cons (wk_nils _) (wkL_refl _)))) fun _ => ?_
 rw [alive_parse]
 simp only [libV, encLib]
 simp only [gw0, reduceEqDiff, ↓reduceIte, reduceAdd, reduceLT, reduceLeDiff, reduceMul, gwD3, gwDT, pureR_none, ite_self, nilR, nilB, bitF, bitV, nilC, nilCmp, eqb, assertV, assertW, zeroV, wQ_normal, wQ_ret, wQ_panic, pickO, pickC, List.map_cons, List.map_nil, List.getD_cons_zero, List.getD_cons_succ, Env.keep, beq_self_eq_true, cond_true, cond_false, aliveO, rows2, List.map_cons, List.map_nil, List.length_cons, List.length_nil]
 exact gives_bool' rfl hst
def samePrs : Prs → Prs → Bool
 | [], [] => true
 | a :: r, b :: s => (decide (a.1 = b.1) && decide (a.2 = b.2)) && samePrs r s
 | [], _ :: _ => false
 | _ :: _, [] => false
theorem samePrs_len : ∀ {l m : Prs}, l.length ≠ m.length → samePrs l m = false
 | [], [], h => absurd rfl h
 | [], _ :: _, _ => by simp only [samePrs]
 | _ :: _, [], _ => by simp only [samePrs]
 | a :: r, b :: r', h => by simp only [samePrs, samePrs_len (l := r) (m := r') (by simpa using h), Bool.and_false]
theorem samePrs_self : ∀ l : Prs, samePrs l l = true
 | [] => rfl
 | a :: r => by simp [samePrs, samePrs_self r]
theorem c_ref2SameP (l m : Prs) (st : St) : VCalls Tryd.prog TT 33 [.lst 2 none (rows2 l), .lst 2 none (rows2 m)] st fun r st' => r = .ret (.bool (samePrs l m)) ∧ st' = st := by
 refine vfun TT_ok (an := anL []) (L := [0, 1, 4, 5, 12, 13]) (rs := [.tmp 4]) Tryd.func33 rfl (by kernel_rfl) rfl Tryd.ntmps33 rfl rfl (Nat.le_refl _) fun hst ha hf => ?_
 simp only [rows2, fitL, V.fit, List.length_map] at hf ⊢
 have hkl : l.length ≤ 9223372036854775807 := by simp at hf; omega
 simp only [gw0, reduceEqDiff, ↓reduceIte, reduceAdd, reduceLT, reduceLeDiff, reduceMul, List.length_map]
 refine iK_split (fun h => ?_) (fun h => ?_)
 ·simp only [gw0, reduceEqDiff, ↓reduceIte, reduceAdd, reduceLT, reduceLeDiff, reduceMul]
  refine gives_bool ?_ hst
  rw [samePrs_len]
  simp at h
  omega
 have hlen : l.length = m.length := by simp at h; omega
 simp only [gw0, reduceEqDiff, ↓reduceIte, reduceAdd, reduceLT, reduceLeDiff, reduceMul, List.length_map]
 refine vfor (σ := Nat) [0, 1, 4, 12, 13] (fun i => [(0, true, .lst 2 none (rows2 l)), (1, true, .lst 2 none (rows2 m)), (4, true, .bool false), (12, true, .int .i64 l.length), (13, true, .int .i64 i)]) (fun i => st) (fun i => l.length - i) (fun i => i ≤ l.length ∧ samePrs l m = samePrs (l.drop i) (m.drop i)) 0 rfl TT_ok ⟨Nat.zero_le _, rfl⟩ rfl rfl ?_
 rintro i ⟨hi, hx⟩
 rw [hx]
 simp only [rows2]
 rcases at_or_end l i hi with ⟨rfl, hd⟩ | ⟨a, hlt, hget, hdr⟩
 ·have hd2 : m.drop l.length = [] := List.drop_of_length_le (by omega)
  simp only [gw0, reduceEqDiff, ↓reduceIte, reduceAdd, reduceLT, reduceLeDiff, reduceMul, lt_no, hd, hd2, samePrs]
  exact gives_bool rfl hst
 ·rcases at_or_end m i (by omega) with ⟨e, hd⟩ | ⟨b, hlt2, hget2, hdr2⟩
  ·omega
  simp only [gw0, reduceEqDiff, ↓reduceIte, reduceAdd, reduceLT, reduceLeDiff, reduceMul, lt_yes hlt, hdr, hdr2, samePrs, List.length_map, Int.ofNat_lt.mpr hlt]
  refine vdraw TT_ok TT_mixed [0, 0, 0, 1, 0, 0, 0, 1, 0] (by kernel_rfl) ?_
  simp only [gw0, reduceEqDiff, ↓reduceIte, reduceAdd, reduceLT, reduceLeDiff, reduceMul, List.length_map, getD_map hget, getD_map hget2, Int.ofNat_lt.mpr hlt, Int.ofNat_lt.mpr hlt2, encF2]
  refine iK_split (fun h5 => ?_) (fun h5 => ?_)
  ·simp only [gw0, reduceEqDiff, ↓reduceIte, reduceAdd, reduceLT, reduceLeDiff, reduceMul]
   refine gives_bool ?_ hst
   simp only [Bool.not_eq_true', Bool.and_eq_false_iff, decide_eq_false_iff_not] at h5
   rcases h5 with h5 | h5 <;> simp [h5]
  ·simp only [gw0, reduceEqDiff, ↓reduceIte, reduceAdd, reduceLT, reduceLeDiff, reduceMul, Env.keep]
   have h6 : (decide (a.1 = b.1) && decide (a.2 = b.2)) = true := by simpa using h5
   exact ⟨i + 1, by rw [next_i64 hlt hkl], by omega, hlt, by rw [h6]; rfl⟩
def sameN : List Str → List Str → List Str → List Str → Bool
 | a :: r, b :: s, x :: u, y :: v => (decide (a = b) && decide (x = y)) && sameN r s u v
 | a :: r, b :: s, [], [] => decide (a = b) && sameN r s [] []
 | _, _, _, _ => true
mutual
def sameS : Set' → Set' → Bool
 | .mk k n ns az p kids, .mk k' n' ns' az' p' kids' =>
  ((((decide (k = k') && decide (n = n')) && decide (p = p')) && decide (ns.length = ns'.length)) && decide (az.length = az'.length)) && sameSs kids kids' && sameN ns ns' az az'
def sameSs : List Set' → List Set' → Bool
 | [], [] => true
 | a :: r, b :: s => sameS a b && sameSs r s
 | [], _ :: _ => false
 | _ :: _, [] => false
end
theorem sameSs_len : ∀ {l m : List Set'}, l.length ≠ m.length → sameSs l m = false
 | [], [], h => absurd rfl h
 | [], _ :: _, _ => by simp only [sameSs]
 | _ :: _, [], _ => by simp only [sameSs]
 | a :: r, b :: r', h => by simp only [sameSs, sameSs_len (l := r) (m := r') (by simpa using h), Bool.and_false]
theorem sameN_self : ∀ ns az : List Str, sameN ns ns az az = true
 | [], _ => by simp [sameN]
 | a :: r, [] => by simp [sameN, sameN_self r []]
 | a :: r, x :: u => by simp [sameN, sameN_self r u]
mutual
theorem sameS_self : ∀ s : Set', sameS s s = true
 | .mk k n ns az p kids => by simp [sameS, sameSs_self kids, sameN_self]
theorem sameSs_self : ∀ l : List Set', sameSs l l = true
 | [] => by simp [sameSs]
 | a :: r => by simp [sameSs, sameS_self a, sameSs_self r]
end
set_option maxHeartbeats 2000000 in
theorem c_SameSetsP_of (l : List Set') (ih : ∀ d ∈ l, ∀ (m : List Set') (st : St), VCalls Tryd.prog TT 34 [.lst 6 none ((kidsOf d).map encSet), .lst 6 none (m.map encSet)] st fun r st' => r = .ret (.bool (sameSs (kidsOf d) m)) ∧ st' = st) (m : List Set') (st : St) :
  VCalls Tryd.prog TT 34 [.lst 6 none (l.map encSet), .lst 6 none (m.map encSet)] st fun r st' => r = .ret (.bool (sameSs l m)) ∧ st' = st := by
 refine vfun TT_ok (an := anL []) (L := [0, 1, 4, 5, 6, 7, 8, 15, 16, 74, 75]) (rs := [.tmp 4]) Tryd.func34 rfl (by kernel_rfl) rfl Tryd.ntmps34 rfl rfl (Nat.le_refl _) fun hst ha hf => ?_
 simp only [fitL, V.fit, List.length_map] at hf ⊢
 obtain ⟨⟨hkl, hfl⟩, ⟨hkm, hfm⟩, _⟩ := hf
 simp only [gw0, reduceEqDiff, ↓reduceIte, reduceAdd, reduceLT, reduceLeDiff, reduceMul, List.length_map]
 refine iK_split (fun h => ?_) (fun h => ?_)
 ·simp only [gw0, reduceEqDiff, ↓reduceIte, reduceAdd, reduceLT, reduceLeDiff, reduceMul]
  refine gives_bool ?_ hst
  rw [sameSs_len]
  simp at h
  omega
 have hlen : l.length = m.length := by simp at h; omega
 simp only [gw0, reduceEqDiff, ↓reduceIte, reduceAdd, reduceLT, reduceLeDiff, reduceMul, List.length_map]
 refine vfor (σ := Nat × St) [0, 1, 4, 15, 16] (fun x => [(0, true, .lst 6 none (l.map encSet)), (1, true, .lst 6 none (m.map encSet)), (4, true, .bool false), (15, true, .int .i64 l.length), (16, true, .int .i64 x.1)]) (fun x => st ++ x.2) (fun x => l.length - x.1) (fun x => x.1 ≤ l.length ∧ sameSs l m = sameSs (l.drop x.1) (m.drop x.1)) (0, []) rfl TT_ok ⟨Nat.zero_le _, rfl⟩ rfl (List.append_nil st).symm ?_
 rintro ⟨i, ex⟩ ⟨hi, hx⟩
 simp only at hi hx ⊢
 rw [hx]
 rcases at_or_end l i hi with ⟨rfl, hd⟩ | ⟨a, hlt, hget, hdr⟩
 ·have hd2 : m.drop l.length = [] := List.drop_of_length_le (by omega)
  simp only [gw0, reduceEqDiff, ↓reduceIte, reduceAdd, reduceLT, reduceLeDiff, reduceMul, lt_no, hd, hd2, sameSs]
  exact gives_bool' rfl hst
 ·rcases at_or_end m i (by omega) with ⟨e, hd⟩ | ⟨b, hlt2, hget2, hdr2⟩
  ·omega
  have ih := ih a (List.mem_of_getElem? hget)
  simp only [gw0, reduceEqDiff, ↓reduceIte, reduceAdd, reduceLT, reduceLeDiff, reduceMul, lt_yes hlt, hdr, hdr2, sameSs, List.length_map, Int.ofNat_lt.mpr hlt]
  refine vdraw2 TT_ok TT_mixed (σ := Nat × Nat × St) [0, 0, 0, 0, 0, 0, 0, 0, 2, 2, 2, 2] [0, 1, 2, 3, 4, 5, 6, 7, 9, 8, 10, 11] 8 9 [0, 1, 4, 5, 6, 7, 15, 16] (fun x => [(0, true, .lst 6 none (l.map encSet)), (1, true, .lst 6 none (m.map encSet)), (4, true, .bool false), (5, true, .int .i64 i), (6, true, .ptr x.1 0), (7, true, .ptr x.2.1 0), (15, true, .int .i64 l.length), (16, true, .int .i64 i)]) (fun x => st ++ x.2.2) (fun x => (st ++ x.2.2)[x.1]? = some (.box (encSet a)) ∧ (st ++ x.2.2)[x.2.1]? = some (.box (encSet b))) rfl (by kernel_rfl) ?_ ?_ ?_
  ·simp only [gw0, reduceEqDiff, ↓reduceIte, reduceAdd, reduceLT, reduceLeDiff, reduceMul, List.length_map, getD_map hget, getD_map hget2, Int.ofNat_lt.mpr hlt, Int.ofNat_lt.mpr hlt2, encSet_take, encSet_len, encSet_drop]
   exact ⟨rfl, rfl, (st.length + ex.length, st.length + (ex.length + 1), ex ++ [Ent.box (encSet a), Ent.box (encSet b)]), rfl, rfl, by simp [List.getElem?_append_right], by simp [List.getElem?_append_right]⟩
  ·simp only [pickO, pickC, List.map_cons, List.map_nil, List.getD_cons_zero, List.getD_cons_succ]
   simp only [gw0, reduceEqDiff, ↓reduceIte, reduceAdd, reduceLT, reduceLeDiff, reduceMul, List.length_map, getD_map hget, getD_map hget2, Int.ofNat_lt.mpr hlt, Int.ofNat_lt.mpr hlt2, encSet_take, encSet_len, encSet_drop]
   exact ⟨rfl, rfl, (st.length + (ex.length + 1), st.length + ex.length, ex ++ [Ent.box (encSet b), Ent.box (encSet a)]), rfl, rfl, by simp [List.getElem?_append_right], by simp [List.getElem?_append_right]⟩
  ·rintro ⟨n1, n2, ex3⟩ ⟨h1, h2⟩
   simp only at h1 h2 ⊢
   have hfa := fit_rows hfl (List.mem_of_getElem? hget)
   obtain ⟨k, nm, ns, az, pre, kids⟩ := a
   obtain ⟨k', nm', ns', az', pre', kids'⟩ := b
   simp only [kidsOf] at ih
   simp only [encSet_mk, encS, fitL, V.fit, List.length_map] at h1 h2 hfa
   have hnl : ns.length ≤ 9223372036854775807 := hfa.2.2.1.1
   simp only [gw0, reduceEqDiff, ↓reduceIte, reduceAdd, reduceLT, reduceLeDiff, reduceMul, h1, h2, encS, List.length_map]
   refine rK_guarded (.bool (sameSs kids kids')) (fun _ => ih kids' _) ?_
   simp only [gw0, reduceEqDiff, ↓reduceIte, reduceAdd, reduceLT, reduceLeDiff, reduceMul, h1, h2, List.length_map]
   have es : sameS (.mk k nm ns az pre kids) (.mk k' nm' ns' az' pre' kids') = (!(!decide (k = k') || !decide (nm = nm') || !decide (pre = pre') || !decide ((ns.length : Int) = (ns'.length : Int)) || !decide ((az.length : Int) = (az'.length : Int)) || !sameSs kids kids') && sameN ns ns' az az') := by
    simp only [sameS, Bool.not_or, Bool.not_not, Int.ofNat_inj]
   refine iK_split (fun h7 => ?_) (fun h7 => ?_)
   ·rw [h7] at es
    simp only [gw0, reduceEqDiff, ↓reduceIte, reduceAdd, reduceLT, reduceLeDiff, reduceMul, es, Bool.not_true, Bool.false_and]
    exact gives_bool' rfl hst
   rw [h7, Bool.not_false, Bool.true_and] at es
   have hnn : ns.length = ns'.length ∧ az.length = az'.length := by
    simp only [Bool.or_eq_false_iff, Bool.not_eq_false', decide_eq_true_eq] at h7
    omega
   simp only [gw0, reduceEqDiff, ↓reduceIte, reduceAdd, reduceLT, reduceLeDiff, reduceMul, es, h1, h2, List.length_map]
   refine vfor (σ := Nat) [0, 1, 4, 5, 6, 7, 15, 16, 74, 75] (fun x => [(0, true, .lst 6 none (l.map encSet)), (1, true, .lst 6 none (m.map encSet)), (4, true, .bool false), (5, true, .int .i64 i), (6, true, .ptr n1 0), (7, true, .ptr n2 0), (15, true, .int .i64 l.length), (16, true, .int .i64 i), (74, true, .int .i64 ns.length), (75, true, .int .i64 x)]) (fun x => st ++ ex3) (fun x => ns.length - x) (fun x => x ≤ ns.length ∧ sameN ns ns' az az' = sameN (ns.drop x) (ns'.drop x) (az.drop x) (az'.drop x)) 0 rfl TT_ok ⟨Nat.zero_le _, rfl⟩ rfl rfl ?_
   rintro j ⟨hj, hy⟩
   rw [hy]
   rcases at_or_end ns j hj with ⟨rfl, hd3⟩ | ⟨u, hltj, hgetj, hdrj⟩
   ·simp only [gw0, reduceEqDiff, ↓reduceIte, reduceAdd, reduceLT, reduceLeDiff, reduceMul, lt_no, hd3, sameN, Bool.true_and]
    exact ⟨(i + 1, ex3), by simp only [next_i64 hlt hkl]; rfl, rfl, by simp only; omega, by simp only; omega, rfl⟩
   ·rcases at_or_end ns' j (by omega) with ⟨e, hd⟩ | ⟨v, hltj2, hgetj2, hdrj2⟩
    ·omega
    simp only [gw0, reduceEqDiff, ↓reduceIte, reduceAdd, reduceLT, reduceLeDiff, reduceMul, lt_yes hltj, List.length_map, Int.ofNat_lt.mpr hltj]
    refine vdraw TT_ok TT_mixed [0, 1, 0, 0, 1, 0, 1, 0, 0, 1, 0, 0, 0, 1, 0, 0, 0, 0, 0, 1, 0, 0, 1, 0, 1, 0, 0, 1, 0, 0, 0] (by kernel_rfl) ?_
    by_cases hja : j < az.length
    ·obtain ⟨x, hxx⟩ : ∃ x, az[j]? = some x := ⟨az[j], List.getElem?_eq_getElem hja⟩
     obtain ⟨y, hyy⟩ : ∃ y, az'[j]? = some y := ⟨az'[j], List.getElem?_eq_getElem (by omega)⟩
     have hdx : az.drop j = x :: az.drop (j + 1) := by
      rcases at_or_end az j (by omega) with ⟨e, _⟩ | ⟨x', _, hg, hd⟩
      ·omega
      ·rw [hg] at hxx; cases hxx; exact hd
     have hdy : az'.drop j = y :: az'.drop (j + 1) := by
      rcases at_or_end az' j (by omega) with ⟨e, _⟩ | ⟨x', _, hg, hd⟩
      ·omega
      ·rw [hg] at hyy; cases hyy; exact hd
     have hja2 : j < az'.length := by omega
     simp only [gw0, reduceEqDiff, ↓reduceIte, reduceAdd, reduceLT, reduceLeDiff, reduceMul, h1, h2, List.length_map, getD_map hgetj, getD_map hgetj2, getD_map hxx, getD_map hyy, Int.ofNat_lt.mpr hltj, Int.ofNat_lt.mpr hltj2, Int.ofNat_lt.mpr hja, Int.ofNat_lt.mpr hja2, hdrj, hdrj2, hdx, hdy, sameN]
     refine iK_split (fun h8 => ?_) (fun h8 => ?_)
     ·have h9 : (decide (u = v) && decide (x = y)) = false := by
       rw [← Bool.not_eq_true']; simpa using h8
      simp only [gw0, reduceEqDiff, ↓reduceIte, reduceAdd, reduceLT, reduceLeDiff, reduceMul, h9, Bool.false_and]
      exact gives_bool' rfl hst
     ·have h9 : (decide (u = v) && decide (x = y)) = true := by
       simpa using h8
      simp only [gw0, reduceEqDiff, ↓reduceIte, reduceAdd, reduceLT, reduceLeDiff, reduceMul, h9, Bool.true_and]
      exact ⟨j + 1, by rw [next_i64 hltj hnl]; rfl, by omega, hltj, rfl⟩
    ·have hn : decide ((j : Int) < (az.length : Int)) = false := decide_eq_false (by omega)
     have hg : (az.map fun s => [V.str s]).getD j [] = [] := by
      rw [List.getD_eq_getElem?_getD, List.getElem?_eq_none (by rw [List.length_map]; omega)]; rfl
     have hg2 : (az'.map fun s => [V.str s]).getD j [] = [] := by
      rw [List.getD_eq_getElem?_getD, List.getElem?_eq_none (by rw [List.length_map]; omega)]; rfl
     have hdx : az.drop j = [] := List.drop_of_length_le (by omega)
     have hdy : az'.drop j = [] := List.drop_of_length_le (by omega)
     have hdx1 : az.drop (j + 1) = [] := List.drop_of_length_le (by omega)
     have hdy1 : az'.drop (j + 1) = [] := List.drop_of_length_le (by omega)
     simp only [gw0, reduceEqDiff, ↓reduceIte, reduceAdd, reduceLT, reduceLeDiff, reduceMul, h1, h2, List.length_map, getD_map hgetj, getD_map hgetj2, Int.ofNat_lt.mpr hltj, Int.ofNat_lt.mpr hltj2, hn, hg, hg2, hdrj, hdrj2, hdx, hdy, hdx1, hdy1, sameN]
     refine iK_split (fun h8 => ?_) (fun h8 => ?_)
     ·have h9 : decide (u = v) = false := by simpa using h8
      simp only [gw0, reduceEqDiff, ↓reduceIte, reduceAdd, reduceLT, reduceLeDiff, reduceMul, h9, Bool.false_and]
      exact gives_bool' rfl hst
     ·have h9 : decide (u = v) = true := by simpa using h8
      simp only [gw0, reduceEqDiff, ↓reduceIte, reduceAdd, reduceLT, reduceLeDiff, reduceMul, h9, Bool.true_and]
      exact ⟨j + 1, by rw [next_i64 hltj hnl]; rfl, by omega, hltj, by rw [hdx1, hdy1]⟩
theorem c_SameSetP (s : Set') : ∀ (m : List Set') (st : St), VCalls Tryd.prog TT 34 [.lst 6 none ((kidsOf s).map encSet), .lst 6 none (m.map encSet)] st fun r st' => r = .ret (.bool (sameSs (kidsOf s) m)) ∧ st' = st :=
 Set'.ind (p := fun d => ∀ (m : List Set') (st : St), VCalls Tryd.prog TT 34 [.lst 6 none ((kidsOf d).map encSet), .lst 6 none (m.map encSet)] st fun r st' => r = .ret (.bool (sameSs (kidsOf d) m)) ∧ st' = st) (fun _ _ _ _ _ kids ih m st => c_SameSetsP_of kids ih m st) s
theorem c_SameSetsP (l m : List Set') (st : St) : VCalls Tryd.prog TT 34 [.lst 6 none (l.map encSet), .lst 6 none (m.map encSet)] st fun r st' => r = .ret (.bool (sameSs l m)) ∧ st' = st :=
 c_SameSetsP_of l (fun d _ m st => c_SameSetP d m st) m st
def sameLib (o p : Lib') : Bool := ((decide (o.name = p.name) && samePrs o.exps p.exps) && sameSs o.imps p.imps) && eqDs o.body p.body
theorem sameLib_self (o : Lib') : sameLib o o = true := by simp [sameLib, samePrs_self, sameSs_self, eqDs_self]
theorem c_ref3SameP (o p : Lib') (st : St) : VCalls Tryd.prog TT 14 [.agg (encLib o), .agg (encLib p)] st fun r st' => r = .ret (.bool (sameLib o p)) ∧ st' = st := by
 refine vfun TT_ok (an := anL [(2, 1), (3, 1)]) (L := [0, 1, 2, 3, 4]) (rs := [.tmp 4]) Tryd.func14 rfl (by kernel_rfl) rfl Tryd.ntmps14 rfl rfl (Nat.le_refl _) fun hst ha hf => ?_
 simp only [encLib]
 simp only [gw0, reduceEqDiff, ↓reduceIte, reduceAdd, reduceLT, reduceLeDiff, reduceMul]
 refine rK_guarded (.bool (samePrs o.exps p.exps)) (fun _ => c_ref2SameP o.exps p.exps _) ?_
 simp only [gw0, reduceEqDiff, ↓reduceIte, reduceAdd, reduceLT, reduceLeDiff, reduceMul]
 refine rK_guarded (.bool (sameSs o.imps p.imps)) (fun _ => c_SameSetsP o.imps p.imps _) ?_
 simp only [gw0, reduceEqDiff, ↓reduceIte, reduceAdd, reduceLT, reduceLeDiff, reduceMul]
 refine rK_guarded (.bool (eqDs o.body p.body)) (fun _ => c_Same_of o.body (fun d _ => c_Equal d) p.body _) ?_
 simp only [gw0, reduceEqDiff, ↓reduceIte, reduceAdd, reduceLT, reduceLeDiff, reduceMul]
 exact gives_bool rfl hst
set_option linter.unusedVariables false
def Cd (r : Datum) (x y : List Datum) : Datum := Ld [Sd wProgram, Ld [Sd wCond, Ld (r :: x), Ld (Sd wElse :: y)]]
theorem lib_ok {w : Wd} {d : Datum} (h : (parseP w d).2 = 0) : (topP w d).2 = 0 ∧ parseP w d = topP w d := by
 unfold parseP at h ⊢
 cases e1 : decide ((wrongL [d] 0 0).1 = 0) with
 | false => rw [e1] at h; exact absurd h (of_decide_eq_false e1)
 | true =>
  rw [e1] at h
  simp only [Bool.not_true, cond_false] at h ⊢
  cases e2 : decide ((30 : Int) < w.files.length) with
  | true => rw [e2] at h; simp at h
  | false =>
   rw [e2] at h
   simp only [cond_false] at h ⊢
   cases e3 : decide ((topP w d).2 = 0) with
   | false => rw [e3] at h; exact absurd h (of_decide_eq_false e3)
   | true => exact ⟨of_decide_eq_true e3, rfl⟩
theorem cond_prog (w : Wd) (r : Datum) (x y : List Datum) (hr : isElse r = false) : topP w (Cd r x y) = bif !decide ((holdsD w r).2 = 0) then (noLib, (holdsD w r).2) else bif (holdsD w r).1 then declsL w x noLib else declsL w y noLib := by
 unfold Cd
 rw [top_prog, decls_one]
 have h1 : declD w (Ld [Sd wCond, Ld (r :: x), Ld (Sd wElse :: y)]) noLib = condL w [Ld (r :: x), Ld (Sd wElse :: y)] noLib := by unfold Ld; rw [declD_eq]; rfl
 rw [h1]
 have h2 : condL w [Ld (Sd wElse :: y)] noLib = declsL w y noLib := by
  unfold Ld
  rw [condL_cons]
  rfl
 unfold Ld at h2 ⊢
 rw [condL_cons]
 simp only [decide_true, Bool.not_true, cond_false]
 rw [hr, h2]
 rfl
theorem holds_not (w : Wd) (r : Datum) : holdsD w (Ld [Sd wNot, r]) = (!(holdsD w r).1, (holdsD w r).2) := by
 unfold Ld
 rw [holdsD_eq]
 rfl
/-- LibElse, in plain terms. -/
theorem else_law (w : Wd) (r : Datum) (a b : List Datum) (hr : isElse r = false) (h1 : (parseP w (Cd r a b)).2 = 0) (h2 : (parseP w (Cd (Ld [Sd wNot, r]) b a)).2 = 0)
  (h3 : (parseP w (Ld (Sd wProgram :: a))).2 = 0) (h4 : (parseP w (Ld (Sd wProgram :: b))).2 = 0) :
  parseP w (Cd r a b) = parseP w (Cd (Ld [Sd wNot, r]) b a) ∧ (parseP w (Cd r a b) = parseP w (Ld (Sd wProgram :: a)) ∨ parseP w (Cd r a b) = parseP w (Ld (Sd wProgram :: b))) := by
 obtain ⟨t1, p1⟩ := lib_ok h1
 obtain ⟨t2, p2⟩ := lib_ok h2
 obtain ⟨t3, p3⟩ := lib_ok h3
 obtain ⟨t4, p4⟩ := lib_ok h4
 rw [p1, p2, p3, p4]
 rw [cond_prog _ _ _ _ hr] at t1 ⊢
 rw [cond_prog _ _ _ _ (by rfl), holds_not] at t2 ⊢
 rw [top_prog, top_prog]
 cases e : decide ((holdsD w r).2 = 0) with
 | false => rw [e] at t1; exact absurd t1 (of_decide_eq_false e)
 | true =>
  simp only [Bool.not_true, cond_false]
  cases (holdsD w r).1 with
  | true => exact ⟨rfl, .inl rfl⟩
  | false => exact ⟨rfl, .inr rfl⟩
theorem c_elseW (n : Str) (l : List Datum) (hl : l.length ≤ 4000000) (st : St) : VCalls Tryd.prog TT 15 [.str n, lstD l] st fun r st' => r = .ret (.agg (encD (Ld (Sd n :: l)))) ∧ st' = st := by
 refine vfun TT_ok (an := anL [(7, 1)]) (L := [0, 1, 4]) (rs := [.cell 4 31]) Tryd.func15 rfl (by kernel_rfl) rfl Tryd.ntmps15 rfl rfl (Nat.le_refl _) fun hst ha hf => ?_
 simp only [gw0, reduceEqDiff, ↓reduceIte, reduceAdd, reduceLT, reduceLeDiff, reduceMul, gwD3, gwDT, pureR_none, ite_self, nilR, nilB, bitF, bitV, nilC, nilCmp, eqb, assertV, assertW, zeroV, wQ_normal, wQ_ret, wQ_panic, pickO, pickC, List.map_cons, List.map_nil, List.getD_cons_zero, List.getD_cons_succ, Env.keep, beq_self_eq_true, cond_true, cond_false]
 refine (c_refSym n _).use (wkL_refl _) fun _ => ?_
 simp only [gw0, reduceEqDiff, ↓reduceIte, reduceAdd, reduceLT, reduceLeDiff, reduceMul, gwD3, gwDT, pureR_none, ite_self, nilR, nilB, bitF, bitV, nilC, nilCmp, eqb, assertV, assertW, zeroV, wQ_normal, wQ_ret, wQ_panic, pickO, pickC, List.map_cons, List.map_nil, List.getD_cons_zero, List.getD_cons_succ, Env.keep, beq_self_eq_true, cond_true, cond_false, encD_take, encD_len, encD_drop, Nat.le_refl, lstD, List.length_map]
 refine ⟨by omega, ?_⟩
 refine (c_refList (Sd n :: l) _).use (wkL_cons (wk_tok _ _ _) wkL_nil) fun _ => ?_
 simp only [gw0, reduceEqDiff, ↓reduceIte, reduceAdd, reduceLT, reduceLeDiff, reduceMul, gwD3, gwDT, pureR_none, ite_self, nilR, nilB, bitF, bitV, nilC, nilCmp, eqb, assertV, assertW, zeroV, wQ_normal, wQ_ret, wQ_panic, pickO, pickC, List.map_cons, List.map_nil, List.getD_cons_zero, List.getD_cons_succ, Env.keep, beq_self_eq_true, cond_true, cond_false, encD_take, encD_len, encD_drop, Nat.le_refl, lstD, List.length_map]
 exact gives_of (wk_refl _) (wkSt_refl _) (by simp only [V.lt]; exact encD_lt _ _) hst
theorem at_front {st : St} {b : Nat} {e : Ent} (h : st[b]? = some e) (ex : St) : (st ++ ex)[b]? = some e := by
 rw [List.getElem?_append_left (List.getElem?_eq_some_iff.1 h).1]; exact h
/-- The box that has the closure. -/
def wordE : Ent := .box [.fn (.func 15) []]
def progE (b : Nat) : Ent := .box [.fn (.func 16) [.ptr b 0]]
theorem c_elseP (l : List Datum) (hl : l.length ≤ 4000000) (st : St) (b : Nat) (hb : st[b]? = some wordE) : VCalls Tryd.prog TT 16 [lstD l, .ptr b 0] st fun r st' => r = .ret (.agg (encD (Ld (Sd wProgram :: l)))) ∧ st' = st := by
 refine vfun TT_ok (an := anL []) (L := [0, 1, 3]) (rs := [.cell 3 31]) Tryd.func16 rfl (by kernel_rfl) rfl Tryd.ntmps16 rfl rfl (Nat.le_refl _) fun hst ha hf => ?_
 simp only [gw0, reduceEqDiff, ↓reduceIte, reduceAdd, reduceLT, reduceLeDiff, reduceMul, gwD3, gwDT, pureR_none, ite_self, nilR, nilB, bitF, bitV, nilC, nilCmp, eqb, assertV, assertW, zeroV, wQ_normal, wQ_ret, wQ_panic, pickO, pickC, List.map_cons, List.map_nil, List.getD_cons_zero, List.getD_cons_succ, Env.keep, beq_self_eq_true, cond_true, cond_false, at_front hb, wordE]
 refine (c_elseW wProgram l hl _).use (wkL_refl _) fun _ => ?_
 simp only [gw0, reduceEqDiff, ↓reduceIte, reduceAdd, reduceLT, reduceLeDiff, reduceMul, gwD3, gwDT, pureR_none, ite_self, nilR, nilB, bitF, bitV, nilC, nilCmp, eqb, assertV, assertW, zeroV, wQ_normal, wQ_ret, wQ_panic, pickO, pickC, List.map_cons, List.map_nil, List.getD_cons_zero, List.getD_cons_succ, Env.keep, beq_self_eq_true, cond_true, cond_false, encD_take, encD_len, encD_drop, Nat.le_refl, lstD, List.length_map]
 exact gives_of (wk_refl _) (wkSt_refl _) (by simp only [V.lt]; exact encD_lt _ _) hst
theorem c_elseB (ft ls : List Str) (r : Datum) (x y : List Datum) (hx : x.length ≤ 2000000) (hy : y.length ≤ 2000000) (st : St) (b1 b2 : Nat) (hb1 : st[b1]? = some wordE) (hb2 : st[b2]? = some (progE b1)) :
  VCalls Tryd.prog TT 17 [.agg (encD r), lstD x, lstD y, .ref [encS ft], .ref [encS ls], .ptr b2 0, .ptr b1 0] st fun q st' => q = .ret (libV (parseP ⟨[], ft, ls⟩ (Cd r x y))) ∧ st' = st := by
 refine vfun TT_ok (an := anL [(7, 1), (17, 1)]) (L := [0, 1, 2, 3, 4, 5, 6, 7, 10, 11]) (rs := [.cell 10 38, .tmp 11]) Tryd.func17 rfl (by kernel_rfl) rfl Tryd.ntmps17 rfl rfl (Nat.le_refl _) fun hst ha hf => ?_
 simp only [gw0, reduceEqDiff, ↓reduceIte, reduceAdd, reduceLT, reduceLeDiff, reduceMul, gwD3, gwDT, pureR_none, ite_self, nilR, nilB, bitF, bitV, nilC, nilCmp, eqb, assertV, assertW, zeroV, wQ_normal, wQ_ret, wQ_panic, pickO, pickC, List.map_cons, List.map_nil, List.getD_cons_zero, List.getD_cons_succ, Env.keep, beq_self_eq_true, cond_true, cond_false]
 refine vstageT TT_ok TT_mixed (σ := Unit) [st ++ [.box [.str [], .nils, .nils, .nils]], st ++ [.box [.str [], .nils, .nils, .nils], .tip 31 1], st ++ [.box [.str [], .nils, .nils, .nils], .tip 31 (1 + x.length)]] [0, 0, 3, 3, 0, 4, 0, 4, 0, 3, 0, 0, 0, 0, 0, 3, 0, 0, 0, 2, 0] [0, 1, 2, 3, 4, 5, 6, 7, 8, 9, 10, 11, 12, 13, 14, 15, 16, 17, 18, 19, 20] [] [] [10, 11] (fun _x => [(10, true, .ptr st.length 0), (11, true, .int .i64 (parseP ⟨[], ft, ls⟩ (Cd r x y)).2)]) (fun _x => st ++ [.box (encLib (parseP ⟨[], ft, ls⟩ (Cd r x y)).1), .tip 31 (1 + x.length)]) (fun _x => True) rfl (by kernel_rfl) ?_ ?_
 ·simp only [gw0, reduceEqDiff, ↓reduceIte, reduceAdd, reduceLT, reduceLeDiff, reduceMul, gwD3, gwDT, pureR_none, ite_self, nilR, nilB, bitF, bitV, nilC, nilCmp, eqb, assertV, assertW, zeroV, wQ_normal, wQ_ret, wQ_panic, pickO, pickC, List.map_cons, List.map_nil, List.getD_cons_zero, List.getD_cons_succ, Env.keep, beq_self_eq_true, cond_true, cond_false, at_front hb1, at_front hb2, encS, wordE, progE, encD_len, encD_take, encD_drop, Nat.le_refl, lstD, List.length_map, List.mem_cons, true_or, or_true]
  refine ⟨by omega, ?_⟩
  refine eK3_free (c_refList (r :: x)) (wkL_cons (wk_tok _ _ _) wkL_nil) ?_
  simp only [gw0, reduceEqDiff, ↓reduceIte, reduceAdd, reduceLT, reduceLeDiff, reduceMul, gwD3, gwDT, pureR_none, ite_self, nilR, nilB, bitF, bitV, nilC, nilCmp, eqb, assertV, assertW, zeroV, wQ_normal, wQ_ret, wQ_panic, pickO, pickC, List.map_cons, List.map_nil, List.getD_cons_zero, List.getD_cons_succ, Env.keep, beq_self_eq_true, cond_true, cond_false, at_front hb1, at_front hb2, encS, wordE, progE, encD_len, encD_take, encD_drop, Nat.le_refl, lstD, List.length_map, List.mem_cons, true_or, or_true]
  refine eK3_free (c_elseW wElse y (by omega)) (wkL_refl _) ?_
  simp only [gw0, reduceEqDiff, ↓reduceIte, reduceAdd, reduceLT, reduceLeDiff, reduceMul, gwD3, gwDT, pureR_none, ite_self, nilR, nilB, bitF, bitV, nilC, nilCmp, eqb, assertV, assertW, zeroV, wQ_normal, wQ_ret, wQ_panic, pickO, pickC, List.map_cons, List.map_nil, List.getD_cons_zero, List.getD_cons_succ, Env.keep, beq_self_eq_true, cond_true, cond_false, at_front hb1, at_front hb2, encS, wordE, progE, encD_len, encD_take, encD_drop, Nat.le_refl, lstD, List.length_map, List.mem_cons, true_or, or_true]
  refine eK3_free (c_elseW wCond [Ld (r :: x), Ld (Sd wElse :: y)] (by simp)) (wkL_refl _) ?_
  simp only [gw0, reduceEqDiff, ↓reduceIte, reduceAdd, reduceLT, reduceLeDiff, reduceMul, gwD3, gwDT, pureR_none, ite_self, nilR, nilB, bitF, bitV, nilC, nilCmp, eqb, assertV, assertW, zeroV, wQ_normal, wQ_ret, wQ_panic, pickO, pickC, List.map_cons, List.map_nil, List.getD_cons_zero, List.getD_cons_succ, Env.keep, beq_self_eq_true, cond_true, cond_false, at_front hb1, at_front hb2, encS, wordE, progE, encD_len, encD_take, encD_drop, Nat.le_refl, lstD, List.length_map, List.mem_cons, true_or, or_true]
  refine eK3_same (fun _ => c_elseP [Ld [Sd wCond, Ld (r :: x), Ld (Sd wElse :: y)]] (by simp) _ b1 (by rw [at_front hb1])) (wkL_refl _) ?_ ?_
  ·intro s hs
   refine ⟨rfl, fun _ => c_elseP _ (by simp) s b1 ?_⟩
   simp only [List.mem_cons, List.not_mem_nil, or_false] at hs
   rcases hs with rfl | rfl | rfl <;> rw [at_front hb1]
  simp only [gw0, reduceEqDiff, ↓reduceIte, reduceAdd, reduceLT, reduceLeDiff, reduceMul, gwD3, gwDT, pureR_none, ite_self, nilR, nilB, bitF, bitV, nilC, nilCmp, eqb, assertV, assertW, zeroV, wQ_normal, wQ_ret, wQ_panic, pickO, pickC, List.map_cons, List.map_nil, List.getD_cons_zero, List.getD_cons_succ, Env.keep, beq_self_eq_true, cond_true, cond_false, at_front hb1, at_front hb2, encS, wordE, progE, encD_len, encD_take, encD_drop, Nat.le_refl, lstD, List.length_map, List.mem_cons, true_or, or_true]
  refine eK3_free (c_libParse ⟨[], ft, ls⟩ (Cd r x y)) (wkL_cons (wk_nils _) (wkL_refl _)) ?_
  simp only [libV]
  simp only [gw0, reduceEqDiff, ↓reduceIte, reduceAdd, reduceLT, reduceLeDiff, reduceMul, gwD3, gwDT, pureR_none, ite_self, nilR, nilB, bitF, bitV, nilC, nilCmp, eqb, assertV, assertW, zeroV, wQ_normal, wQ_ret, wQ_panic, pickO, pickC, List.map_cons, List.map_nil, List.getD_cons_zero, List.getD_cons_succ, Env.keep, beq_self_eq_true, cond_true, cond_false, encLib_len, encLib_take, encLib_drop, Nat.le_refl]
  exact ⟨rfl, rfl, (), rfl, rfl, trivial⟩
 ·rintro - -
  simp only [gw0, reduceEqDiff, ↓reduceIte, reduceAdd, reduceLT, reduceLeDiff, reduceMul, gwD3, gwDT, pureR_none, ite_self, nilR, nilB, bitF, bitV, nilC, nilCmp, eqb, assertV, assertW, zeroV, wQ_normal, wQ_ret, wQ_panic, pickO, pickC, List.map_cons, List.map_nil, List.getD_cons_zero, List.getD_cons_succ, Env.keep, beq_self_eq_true, cond_true, cond_false, encLib_len, encLib_take, encLib_drop, Nat.le_refl]
  exact gives_of (wk_refl _) (wkSt_refl _) (libV_lt _ _) hst
set_option maxHeartbeats 1000000 in
theorem c_LibElse (ft ls : List Str) (req : Datum) (a b : List Datum) (st : St) (ha4 : a.length ≤ 1048576) (hb4 : b.length ≤ 1048576) : VCalls Tryd.prog TT 4 [encS ft, encS ls, .agg (encD req), lstD a, lstD b] st fun r st' => r = .ret (.bool true) ∧ st' = st := by
 refine vfun TT_ok (an := anL [(5, 1), (6, 1), (7, 1)]) (L := [0, 1, 2, 3, 4, 5, 6, 7, 10, 11, 12, 13, 14, 15, 16, 17, 18, 19, 20, 21]) (rs := [.tmp 10]) Tryd.func4 rfl (by kernel_rfl) rfl Tryd.ntmps4 rfl rfl (Nat.le_refl _) fun hst ha hf => ?_
 simp only [gw0, reduceEqDiff, ↓reduceIte, reduceAdd, reduceLT, reduceLeDiff, reduceMul, gwD3, gwDT, pureR_none, ite_self, nilR, nilB, bitF, bitV, nilC, nilCmp, eqb, assertV, assertW, zeroV, wQ_normal, wQ_ret, wQ_panic, pickO, pickC, List.map_cons, List.map_nil, List.getD_cons_zero, List.getD_cons_succ, Env.keep, beq_self_eq_true, cond_true, cond_false, encS]
 refine (c_alive _).use (wkL_refl _) fun _ => ?_
 simp only [gw0, reduceEqDiff, ↓reduceIte, reduceAdd, reduceLT, reduceLeDiff, reduceMul, gwD3, gwDT, pureR_none, ite_self, nilR, nilB, bitF, bitV, nilC, nilCmp, eqb, assertV, assertW, zeroV, wQ_normal, wQ_ret, wQ_panic, pickO, pickC, List.map_cons, List.map_nil, List.getD_cons_zero, List.getD_cons_succ, Env.keep, beq_self_eq_true, cond_true, cond_false, Bool.not_true, encD_len, encD_take, encD_drop, Nat.le_refl]
 refine (c_elseB ft ls req a b (by omega) (by omega) _ st.length (st.length + 1) (by simp [wordE]) (by simp [progE])).use (wkL_refl _) fun _ => ?_
 simp only [libV]
 generalize hX : parseP ⟨[], ft, ls⟩ (Cd req a b) = X
 simp only [gw0, reduceEqDiff, ↓reduceIte, reduceAdd, reduceLT, reduceLeDiff, reduceMul, gwD3, gwDT, pureR_none, ite_self, nilR, nilB, bitF, bitV, nilC, nilCmp, eqb, assertV, assertW, zeroV, wQ_normal, wQ_ret, wQ_panic, pickO, pickC, List.map_cons, List.map_nil, List.getD_cons_zero, List.getD_cons_succ, Env.keep, beq_self_eq_true, cond_true, cond_false, encLib_len, encLib_take, encLib_drop, Nat.le_refl, encD_len, encD_take, encD_drop]
 refine (c_elseW wNot [req] (by simp) _).use (wkL_refl _) fun _ => ?_
 simp only [gw0, reduceEqDiff, ↓reduceIte, reduceAdd, reduceLT, reduceLeDiff, reduceMul, gwD3, gwDT, pureR_none, ite_self, nilR, nilB, bitF, bitV, nilC, nilCmp, eqb, assertV, assertW, zeroV, wQ_normal, wQ_ret, wQ_panic, pickO, pickC, List.map_cons, List.map_nil, List.getD_cons_zero, List.getD_cons_succ, Env.keep, beq_self_eq_true, cond_true, cond_false, encD_len, encD_take, encD_drop, Nat.le_refl]
 refine (c_elseB ft ls (Ld [Sd wNot, req]) b a (by omega) (by omega) _ st.length (st.length + 1) (by simp [wordE]) (by simp [progE])).use (wkL_refl _) fun _ => ?_
 simp only [libV]
 generalize hY : parseP ⟨[], ft, ls⟩ (Cd (Ld [Sd wNot, req]) b a) = Y
 simp only [gw0, reduceEqDiff, ↓reduceIte, reduceAdd, reduceLT, reduceLeDiff, reduceMul, gwD3, gwDT, pureR_none, ite_self, nilR, nilB, bitF, bitV, nilC, nilCmp, eqb, assertV, assertW, zeroV, wQ_normal, wQ_ret, wQ_panic, pickO, pickC, List.map_cons, List.map_nil, List.getD_cons_zero, List.getD_cons_succ, Env.keep, beq_self_eq_true, cond_true, cond_false, encLib_len, encLib_take, encLib_drop, Nat.le_refl, encD_len, encD_take, encD_drop]
 refine vstageT TT_ok TT_mixed (σ := Unit) [st ++ [.box [.fn (.func 15) []], .box [.fn (.func 16) [.ptr st.length 0]], .box (encLib X.1), .box (encLib Y.1)], st ++ [.box [.fn (.func 15) []], .box [.fn (.func 16) [.ptr st.length 0]], .box (encLib X.1), .box (encLib Y.1), .box [.str [], .nils, .nils, .nils]]] [0, 0, 3, 0, 3, 0, 0, 0, 0, 4, 2, 0] [0, 1, 2, 3, 4, 5, 6, 7, 8, 9, 10, 11] [] [] [0, 1, 2, 3, 4, 5, 6, 7, 10, 11, 12, 14, 15, 16, 17, 18, 19] (fun _x => [(0, true, encS ft), (1, true, encS ls), (2, true, .agg (encD req)), (3, true, lstD a), (4, true, lstD b), (5, true, .ref [encS ft]), (6, true, .ref [encS ls]), (7, true, .ref (encD req)), (10, true, .bool false), (11, true, .ptr st.length 0), (12, true, .ptr (st.length + 1) 0), (14, true, .ptr (st.length + 2) 0), (15, true, .int .i64 X.2), (16, true, .ptr (st.length + 3) 0), (17, true, .int .i64 Y.2), (18, true, .ptr (st.length + 4) 0), (19, true, .int .i64 (parseP ⟨[], ft, ls⟩ (Ld (Sd wProgram :: a))).2)]) (fun _x => st ++ [.box [.fn (.func 15) []], .box [.fn (.func 16) [.ptr st.length 0]], .box (encLib X.1), .box (encLib Y.1), .box (encLib (parseP ⟨[], ft, ls⟩ (Ld (Sd wProgram :: a))).1)]) (fun _x => True) rfl (by kernel_rfl) ?_ ?_
 ·simp only [gw0, reduceEqDiff, ↓reduceIte, reduceAdd, reduceLT, reduceLeDiff, reduceMul, gwD3, gwDT, pureR_none, ite_self, nilR, nilB, bitF, bitV, nilC, nilCmp, eqb, assertV, assertW, zeroV, wQ_normal, wQ_ret, wQ_panic, pickO, pickC, List.map_cons, List.map_nil, List.getD_cons_zero, List.getD_cons_succ, Env.keep, beq_self_eq_true, cond_true, cond_false, encS, wordE, progE, encD_len, encD_take, encD_drop, Nat.le_refl, lstD, List.length_map, List.mem_cons, true_or, or_true, List.getElem?_append_right, Nat.le_add_right, Nat.sub_self, Nat.add_sub_cancel_left, List.getElem?_cons_zero, List.getElem?_cons_succ]
  refine eK3_same (fun _ => c_elseP a (by omega) _ st.length (by simp [wordE])) (wkL_refl _) ?_ ?_
  ·intro s hs
   refine ⟨rfl, fun _ => c_elseP _ (by omega) s st.length ?_⟩
   simp only [List.mem_cons, List.not_mem_nil, or_false] at hs
   rcases hs with rfl | rfl <;> simp [wordE]
  simp only [gw0, reduceEqDiff, ↓reduceIte, reduceAdd, reduceLT, reduceLeDiff, reduceMul, gwD3, gwDT, pureR_none, ite_self, nilR, nilB, bitF, bitV, nilC, nilCmp, eqb, assertV, assertW, zeroV, wQ_normal, wQ_ret, wQ_panic, pickO, pickC, List.map_cons, List.map_nil, List.getD_cons_zero, List.getD_cons_succ, Env.keep, beq_self_eq_true, cond_true, cond_false, encS, wordE, progE, encD_len, encD_take, encD_drop, Nat.le_refl, lstD, List.length_map, List.mem_cons, true_or, or_true, List.getElem?_append_right, Nat.le_add_right, Nat.sub_self, Nat.add_sub_cancel_left, List.getElem?_cons_zero, List.getElem?_cons_succ]
  refine eK3_free (c_libParse ⟨[], ft, ls⟩ (Ld (Sd wProgram :: a))) (wkL_cons (wk_nils _) (wkL_refl _)) ?_
  simp only [libV]
  generalize hPa : parseP ⟨[], ft, ls⟩ (Ld (Sd wProgram :: a)) = Pa
  simp only [gw0, reduceEqDiff, ↓reduceIte, reduceAdd, reduceLT, reduceLeDiff, reduceMul, gwD3, gwDT, pureR_none, ite_self, nilR, nilB, bitF, bitV, nilC, nilCmp, eqb, assertV, assertW, zeroV, wQ_normal, wQ_ret, wQ_panic, pickO, pickC, List.map_cons, List.map_nil, List.getD_cons_zero, List.getD_cons_succ, Env.keep, beq_self_eq_true, cond_true, cond_false, encLib_len, encLib_take, encLib_drop, Nat.le_refl, encD_len, encD_take, encD_drop, List.mem_cons, true_or, or_true]
  exact ⟨rfl, rfl, (), rfl, rfl, trivial⟩
 ·rintro - -
  simp only [gw0, reduceEqDiff, ↓reduceIte, reduceAdd, reduceLT, reduceLeDiff, reduceMul, gwD3, gwDT, pureR_none, ite_self, nilR, nilB, bitF, bitV, nilC, nilCmp, eqb, assertV, assertW, zeroV, wQ_normal, wQ_ret, wQ_panic, pickO, pickC, List.map_cons, List.map_nil, List.getD_cons_zero, List.getD_cons_succ, Env.keep, beq_self_eq_true, cond_true, cond_false]
  generalize hPA : parseP ⟨[], ft, ls⟩ (Ld (Sd wProgram :: a)) = PA
  refine vstageT TT_ok TT_mixed (σ := Unit) [st ++ [.box [.fn (.func 15) []], .box [.fn (.func 16) [.ptr st.length 0]], .box (encLib X.1), .box (encLib Y.1), .box (encLib PA.1)], st ++ [.box [.fn (.func 15) []], .box [.fn (.func 16) [.ptr st.length 0]], .box (encLib X.1), .box (encLib Y.1), .box (encLib PA.1), .box [.str [], .nils, .nils, .nils]]] [0, 0, 3, 0, 3, 0, 0, 0, 0, 4, 2, 0] [0, 1, 2, 3, 4, 5, 6, 7, 8, 9, 10, 11] [] [] [0, 1, 2, 3, 4, 5, 6, 7, 10, 11, 12, 14, 15, 16, 17, 18, 19, 20, 21] (fun _x => [(0, true, encS ft), (1, true, encS ls), (2, true, .agg (encD req)), (3, true, lstD a), (4, true, lstD b), (5, true, .ref [encS ft]), (6, true, .ref [encS ls]), (7, true, .ref (encD req)), (10, true, .bool false), (11, true, .ptr st.length 0), (12, true, .ptr (st.length + 1) 0), (14, true, .ptr (st.length + 2) 0), (15, true, .int .i64 X.2), (16, true, .ptr (st.length + 3) 0), (17, true, .int .i64 Y.2), (18, true, .ptr (st.length + 4) 0), (19, true, .int .i64 PA.2), (20, true, .ptr (st.length + 5) 0), (21, true, .int .i64 (parseP ⟨[], ft, ls⟩ (Ld (Sd wProgram :: b))).2)]) (fun _x => st ++ [.box [.fn (.func 15) []], .box [.fn (.func 16) [.ptr st.length 0]], .box (encLib X.1), .box (encLib Y.1), .box (encLib PA.1), .box (encLib (parseP ⟨[], ft, ls⟩ (Ld (Sd wProgram :: b))).1)]) (fun _x => True) rfl (by kernel_rfl) ?_ ?_
  ·simp only [gw0, reduceEqDiff, ↓reduceIte, reduceAdd, reduceLT, reduceLeDiff, reduceMul, gwD3, gwDT, pureR_none, ite_self, nilR, nilB, bitF, bitV, nilC, nilCmp, eqb, assertV, assertW, zeroV, wQ_normal, wQ_ret, wQ_panic, pickO, pickC, List.map_cons, List.map_nil, List.getD_cons_zero, List.getD_cons_succ, Env.keep, beq_self_eq_true, cond_true, cond_false, encS, wordE, progE, encD_len, encD_take, encD_drop, Nat.le_refl, lstD, List.length_map, List.mem_cons, true_or, or_true, List.getElem?_append_right, Nat.le_add_right, Nat.sub_self, Nat.add_sub_cancel_left, List.getElem?_cons_zero, List.getElem?_cons_succ]
   refine eK3_same (fun _ => c_elseP b (by omega) _ st.length (by simp [wordE])) (wkL_refl _) ?_ ?_
   ·intro s hs
    refine ⟨rfl, fun _ => c_elseP _ (by omega) s st.length ?_⟩
    simp only [List.mem_cons, List.not_mem_nil, or_false] at hs
    rcases hs with rfl | rfl <;> simp [wordE]
   simp only [gw0, reduceEqDiff, ↓reduceIte, reduceAdd, reduceLT, reduceLeDiff, reduceMul, gwD3, gwDT, pureR_none, ite_self, nilR, nilB, bitF, bitV, nilC, nilCmp, eqb, assertV, assertW, zeroV, wQ_normal, wQ_ret, wQ_panic, pickO, pickC, List.map_cons, List.map_nil, List.getD_cons_zero, List.getD_cons_succ, Env.keep, beq_self_eq_true, cond_true, cond_false, encS, wordE, progE, encD_len, encD_take, encD_drop, Nat.le_refl, lstD, List.length_map, List.mem_cons, true_or, or_true, List.getElem?_append_right, Nat.le_add_right, Nat.sub_self, Nat.add_sub_cancel_left, List.getElem?_cons_zero, List.getElem?_cons_succ]
   refine eK3_free (c_libParse ⟨[], ft, ls⟩ (Ld (Sd wProgram :: b))) (wkL_cons (wk_nils _) (wkL_refl _)) ?_
   simp only [libV]
   generalize hPb : parseP ⟨[], ft, ls⟩ (Ld (Sd wProgram :: b)) = Pb
   simp only [gw0, reduceEqDiff, ↓reduceIte, reduceAdd, reduceLT, reduceLeDiff, reduceMul, gwD3, gwDT, pureR_none, ite_self, nilR, nilB, bitF, bitV, nilC, nilCmp, eqb, assertV, assertW, zeroV, wQ_normal, wQ_ret, wQ_panic, pickO, pickC, List.map_cons, List.map_nil, List.getD_cons_zero, List.getD_cons_succ, Env.keep, beq_self_eq_true, cond_true, cond_false, encLib_len, encLib_take, encLib_drop, Nat.le_refl, encD_len, encD_take, encD_drop, List.mem_cons, true_or, or_true]
   exact ⟨rfl, rfl, (), rfl, rfl, trivial⟩
  rintro - -
  generalize hPB : parseP ⟨[], ft, ls⟩ (Ld (Sd wProgram :: b)) = PB
  obtain ⟨rk, rn, rnm, rs, rl, rkids⟩ := req
  simp only [gw0, reduceEqDiff, ↓reduceIte, reduceAdd, reduceLT, reduceLeDiff, reduceMul, gwD3, gwDT, pureR_none, ite_self, nilR, nilB, bitF, bitV, nilC, nilCmp, eqb, assertV, assertW, zeroV, wQ_normal, wQ_ret, wQ_panic, pickO, pickC, List.map_cons, List.map_nil, List.getD_cons_zero, List.getD_cons_succ, Env.keep, beq_self_eq_true, cond_true, cond_false, encLib_len, encLib_take, encLib_drop, Nat.le_refl, encD_len, encD_take, encD_drop, encD_mk]
  refine ⟨fun h1 _ => ⟨h1, fun h3 => by rw [h1, h3]; rfl⟩, ?_⟩
  refine iK_split (fun h => ?_) (fun h => ?_)
  ·simp only [gw0, reduceEqDiff, ↓reduceIte, reduceAdd, reduceLT, reduceLeDiff, reduceMul, gwD3, gwDT, pureR_none, ite_self, nilR, nilB, bitF, bitV, nilC, nilCmp, eqb, assertV, assertW, zeroV, wQ_normal, wQ_ret, wQ_panic, pickO, pickC, List.map_cons, List.map_nil, List.getD_cons_zero, List.getD_cons_succ, Env.keep, beq_self_eq_true, cond_true, cond_false]
   exact gives_bool' rfl hst
  rw [Bool.or_eq_false_iff] at h
  obtain ⟨h, hr⟩ := h
  simp only [Bool.or_eq_false_iff, Bool.not_eq_false', decide_eq_true_eq] at h
  obtain ⟨⟨⟨h1, h2⟩, h3⟩, h4⟩ := h
  have hlaw := else_law ⟨[], ft, ls⟩ (.mk rk rn rnm rs rl rkids) a b hr (by rw [hX]; exact h1) (by rw [hY]; exact h2) (by rw [hPA]; exact h3) (by rw [hPB]; exact h4)
  rw [hX, hY, hPA, hPB] at hlaw
  obtain ⟨hXY, hlaw⟩ := hlaw
  subst hXY
  simp only [gw0, reduceEqDiff, ↓reduceIte, reduceAdd, reduceLT, reduceLeDiff, reduceMul, gwD3, gwDT, pureR_none, ite_self, nilR, nilB, bitF, bitV, nilC, nilCmp, eqb, assertV, assertW, zeroV, wQ_normal, wQ_ret, wQ_panic, pickO, pickC, List.map_cons, List.map_nil, List.getD_cons_zero, List.getD_cons_succ, Env.keep, beq_self_eq_true, cond_true, cond_false, encLib_len, encLib_take, encLib_drop, Nat.le_refl]
  refine (c_ref3SameP X.1 X.1 _).use (wkL_refl _) fun _ => ?_
  simp only [gw0, reduceEqDiff, ↓reduceIte, reduceAdd, reduceLT, reduceLeDiff, reduceMul, gwD3, gwDT, pureR_none, ite_self, nilR, nilB, bitF, bitV, nilC, nilCmp, eqb, assertV, assertW, zeroV, wQ_normal, wQ_ret, wQ_panic, pickO, pickC, List.map_cons, List.map_nil, List.getD_cons_zero, List.getD_cons_succ, Env.keep, beq_self_eq_true, cond_true, cond_false, encLib_len, encLib_take, encLib_drop, Nat.le_refl, sameLib_self]
  refine rK_made (c_ref3SameP X.1 PA.1 _) (wkL_refl _) ?_
  simp only [gw0, reduceEqDiff, ↓reduceIte, reduceAdd, reduceLT, reduceLeDiff, reduceMul, gwD3, gwDT, pureR_none, ite_self, nilR, nilB, bitF, bitV, nilC, nilCmp, eqb, assertV, assertW, zeroV, wQ_normal, wQ_ret, wQ_panic, pickO, pickC, List.map_cons, List.map_nil, List.getD_cons_zero, List.getD_cons_succ, Env.keep, beq_self_eq_true, cond_true, cond_false, encLib_len, encLib_take, encLib_drop, Nat.le_refl]
  refine rK_guarded (.bool (sameLib X.1 PB.1)) (fun _ => c_ref3SameP X.1 PB.1 _) ?_
  simp only [gw0, reduceEqDiff, ↓reduceIte, reduceAdd, reduceLT, reduceLeDiff, reduceMul, gwD3, gwDT, pureR_none, ite_self, nilR, nilB, bitF, bitV, nilC, nilCmp, eqb, assertV, assertW, zeroV, wQ_normal, wQ_ret, wQ_panic, pickO, pickC, List.map_cons, List.map_nil, List.getD_cons_zero, List.getD_cons_succ, Env.keep, beq_self_eq_true, cond_true, cond_false]
  refine gives_bool' ?_ hst
  rcases hlaw with h | h <;> simp [h, sameLib_self]
end Go.Proofs.YtpllcpbhjglpaaaDoor.Gx
namespace Go.Proofs.YtpllcpbhjglpaaaDoor.Gx
open Go Go.Proofs.YtpllcpbhjglpaaaDoor.Gw
set_option linter.unusedSimpArgs false
set_option linter.unusedVariables false
def encS1 (s : Str) : List V := [.str s]
theorem len_succ {α : Type} {cs : List α} {n : Nat} (h : cs.length = n + 1) : ∃ c r, cs = c :: r ∧ r.length = n := by
 cases cs with
 | nil => simp at h
 | cons c r => exact ⟨c, r, rfl, by simpa using h⟩
open Go.ChangeShapes Go.WideShapes Go.ChangeAt Go.RowKit
theorem own : ownKnob Tryd.prog.godebug = none := by kernel_rfl
theorem laidOut : laidOutB Tryd.prog = true := by kernel_rfl
theorem below_of {W W' : World} {g' : G} (h : Ext g00 W g' W') : Below W.heap.size W W' := ⟨h.os, h.tape, h.output, h.size, fun k hk => (h.free k hk rfl).1⟩
theorem bulk_one {H : Type} (d : DataW H) : 1 ≤ Rows.uptoBulk d := by
 cases d with
 | lit l => cases l <;> simp [Rows.uptoBulk]
 | nil => simp [Rows.uptoBulk]
 | ptr d => simp [Rows.uptoBulk]
 | slice elems spare => simp [Rows.uptoBulk]
 | agg parts => simp [Rows.uptoBulk]
 | iface t d => simp [Rows.uptoBulk]
 | map entries => simp [Rows.uptoBulk]
 | held h => simp [Rows.uptoBulk]
theorem bulk_len {H : Type} : ∀ l : List (DataW H), l.length ≤ Rows.uptoBulkAll l
 | [] => by simp [Rows.uptoBulkAll]
 | x :: r => by have := bulk_one x; have := bulk_len r; simp only [Rows.uptoBulkAll, List.length_cons]; omega
/-- A slice that is read has no more elements than its bulk. -/
theorem bulk_slice {H : Type} {enc : TypeId × Value → H} {P : Program} {W : World} {spare : Nat → Bool} {held : Bool} {n : Nat} {t e : TypeId} {v : Value} {r : DataW H × List MemPlace} (ht : P.underlying t = some (.slice e)) {sz : Nat} {tp : Option Nat} {rows : List (List V)}
  (h : DataW.trod enc P W 0 spare held n t [v] = some r) (hs : SimV g00 W (.lst sz tp rows) v) : rows.length ≤ Rows.uptoBulk r.1 := by
 simp only [SimV] at hs
 obtain ⟨a, cap, rfl, -⟩ := hs
 cases n with
 | zero => simp [DataW.trod] at h
 | succ n =>
  unfold DataW.trod at h
  rw [ht] at h
  split at h <;> first | (cases h; done) | skip
  all_goals rename_i e'; first | (injection e' with e'; cases e'; done) | skip
  ·simp only [List.cons.injEq, Value.slice.injEq, and_true] at e'
   obtain ⟨_, e', _⟩ := e'
   omega
  ·simp only [List.cons.injEq, Value.slice.injEq, and_true] at e'
   obtain ⟨_, e', _⟩ := e'
   simp only at h
   split at h
   case isFalse => cases h
   rw [e']
   generalize hm : List.mapM (m := Option) _ _ = o at h
   cases o with
   | none => simp at h
   | some ys =>
    obtain ⟨hl, -⟩ := mapM_some hm
    simp only [Option.bind_some, Option.map_eq_some_iff] at h
    obtain ⟨zs, -, rfl⟩ := h
    have := bulk_len (ys.map (·.1))
    rw [List.length_map, hl, List.length_range] at this
    simp only [Rows.uptoBulk]
    omega
theorem okWide_slice {P : Program} {W : World} {r : Reach} {b : Nat} {t e : TypeId} {v : Value} (ht : P.underlying t = some (.slice e)) (h : Value.okWide P W r b t v) : v.cells.toList = [v] := by
 unfold Value.okWide at h
 rw [ht] at h
 simp only [Cell.okWide, ht] at h
 cases v <;> first | rfl | (simp [Cell.ok, ht] at h)
theorem dec_str1 {H : Type} {enc : TypeId × Value → H} {P : Program} {W : World} {spare : Nat → Bool} {held : Bool} {t : TypeId} (ht : P.underlying t = some .string) {n : Nat} {cs : List Value} {r : DataW H × List MemPlace} (h : DataW.trod enc P W 0 spare held n t cs = some r) : ∃ x : Str, SimVs g00 W (encS1 x) cs ∧ ∀ u ∈ cs, u.oneCell' = true := by
 obtain ⟨m, rfl, hm⟩ := dec_str ht h
 exact ⟨m, ⟨_, _, rfl, ⟨rfl, hm⟩, rfl⟩, by simp [Value.oneCell']⟩
end Go.Proofs.YtpllcpbhjglpaaaDoor.Gx
namespace Go.Proofs.YtpllcpbhjglpaaaDoor.Gx
open Go Go.Proofs.YtpllcpbhjglpaaaDoor.Gw
open Nat (reduceEqDiff reduceAdd reduceLT reduceLeDiff reduceMul)
set_option linter.unusedSimpArgs false
set_option linter.unusedVariables false
theorem cells9 : Tryd.prog.cellsOf 9 = 1 := by kernel_rfl
theorem dec_Lstring {H : Type} {enc : TypeId × Value → H} {W : World} {spare : Nat → Bool} {held : Bool} {n : Nat} {cs : List Value} {r : DataW H × List MemPlace} (h : DataW.trod enc Tryd.prog W 0 spare held n 47 cs = some r) : ∃ (l : List (Str)) (v : Value), cs = [v] ∧ SimV g00 W (.lst 1 none (l.map encS1)) v ∧ v.oneCell' = true :=
 dec_slice (X := Str) encS1 Tryd.underlying47 cells9 (by decide) (fun m _ cs r hr => dec_str1 Tryd.underlying9 hr) h
theorem cells31 : Tryd.prog.cellsOf 31 = 6 := by kernel_rfl
theorem cells3 : Tryd.prog.cellsOf 3 = 1 := by kernel_rfl
theorem cells2 : Tryd.prog.cellsOf 2 = 1 := by kernel_rfl
theorem cells22 : Tryd.prog.cellsOf 22 = 1 := by kernel_rfl
theorem dec_Datum {H : Type} {enc : TypeId × Value → H} {W : World} {spare : Nat → Bool} {held : Bool} : ∀ (n : Nat) (cs : List Value) (r : DataW H × List MemPlace), DataW.trod enc Tryd.prog W 0 spare held n 31 cs = some r → ∃ x : Datum, SimVs g00 W (encD x) cs ∧ ∀ u ∈ cs, u.oneCell' = true := by
 intro n
 induction n using Nat.strongRecOn with
 | _ n ih =>
  intro cs r h
  obtain ⟨m, rfl, hl, hf⟩ := dec_struct Tryd.underlying31 h
  rw [cells31] at hl
  obtain ⟨c0, t0, rfl, l0⟩ := len_succ hl
  obtain ⟨c1, t1, rfl, l1⟩ := len_succ l0
  obtain ⟨c2, t2, rfl, l2⟩ := len_succ l1
  obtain ⟨c3, t3, rfl, l3⟩ := len_succ l2
  obtain ⟨c4, t4, rfl, l4⟩ := len_succ l3
  obtain ⟨c5, t5, rfl, l5⟩ := len_succ l4
  obtain rfl := List.eq_nil_of_length_eq_zero l5
  simp only [List.forall_mem_cons, cells2, cells22, cells3, cells9, List.drop_zero, List.drop_succ_cons, List.take_succ_cons, List.take_zero] at hf
  obtain ⟨⟨y0, h0⟩, ⟨y1, h1⟩, ⟨y2, h2⟩, ⟨y3, h3⟩, ⟨y4, h4⟩, ⟨y5, h5⟩, _⟩ := hf
  obtain ⟨x0, e0⟩ := dec_int Tryd.underlying3 h0
  obtain ⟨x1, e1⟩ := dec_int Tryd.underlying2 h1
  obtain ⟨x2, e2, k2⟩ := dec_str Tryd.underlying9 h2
  obtain ⟨x3, e3⟩ := dec_int Tryd.underlying3 h3
  obtain ⟨x4, e4⟩ := dec_int Tryd.underlying3 h4
  obtain ⟨x5, v5, e5, k5, j5⟩ := dec_slice encD Tryd.underlying22 cells31 (by decide) (fun m' hm' cs r hr => ih m' (by omega) cs r hr) h5
  simp only [List.cons.injEq, and_true] at e0 e1 e2 e3 e4 e5
  subst e0 e1 e2 e3 e4 e5
  refine ⟨Datum.mk x0 x1 x2 x3 x4 x5, ?_, ?_⟩
  ·rw [encD_mk]
   exact ⟨_, _, rfl, rfl, ⟨_, _, rfl, rfl, ⟨_, _, rfl, ⟨rfl, k2⟩, ⟨_, _, rfl, rfl, ⟨_, _, rfl, rfl, ⟨_, _, rfl, k5, rfl⟩⟩⟩⟩⟩⟩
  ·intro u hu
   simp only [List.mem_cons, List.not_mem_nil, or_false] at hu
   rcases hu with rfl | rfl | rfl | rfl | rfl | rfl <;> first | rfl | exact j5
theorem dec_LDatum {H : Type} {enc : TypeId × Value → H} {W : World} {spare : Nat → Bool} {held : Bool} {n : Nat} {cs : List Value} {r : DataW H × List MemPlace} (h : DataW.trod enc Tryd.prog W 0 spare held n 22 cs = some r) : ∃ (l : List (Datum)) (v : Value), cs = [v] ∧ SimV g00 W (.lst 6 none (l.map encD)) v ∧ v.oneCell' = true :=
 dec_slice encD Tryd.underlying22 cells31 (by decide) (fun m _ cs r hr => dec_Datum m cs r hr) h
end Go.Proofs.YtpllcpbhjglpaaaDoor.Gx
