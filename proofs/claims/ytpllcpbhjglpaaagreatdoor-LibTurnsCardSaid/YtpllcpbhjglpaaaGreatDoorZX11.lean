/- lib: conditions, walked; then all declarations. lib.Parse, walked. Libraries taken apart: laws, in plain terms. Laws of libraries: what they ask, walked. When libraries are the same, walked where they are. Laws of libraries: what is asked first; LibSplit, walked. Libraries put together: walked. -/
import Derived.Test.YtpllcpbhjglpaaaGreatDoorZX10
namespace Go.Proofs.YtpllcpbhjglpaaaGreatDoor.Gx
open Go Go.Proofs.YtpllcpbhjglpaaaGreatDoor.Gw
open Nat (reduceEqDiff reduceAdd reduceLT reduceLeDiff reduceMul)
set_option linter.unusedSimpArgs false
set_option linter.unusedVariables false
set_option maxHeartbeats 4000000 in
theorem c_libcond (w : Wd) (N : Nat) (ihD : DeclsC w N) : CondC w (N + 1) := by
 intro l hsz hm hl o ho st b hb
 refine OutS_of (by rw [wS_len, wS_len]; exact Nat.le_refl _) ?_
 refine vfunQ TT_ok (an := anL []) (L := [0, 1, 5, 6, 7, 8, 9]) (rs := []) Tryz.func47 rfl (by kernel_rfl) rfl Tryz.ntmps47 rfl rfl fun hst ha hf => ?_
 have hw := fun o' => wS_ok hb o' hst
 simp only [gw0, reduceEqDiff, ↓reduceIte, reduceAdd, reduceLT, reduceLeDiff, reduceMul, gwD3, gwDT, pureR_none, ite_self, nilR, nilB, bitF, bitV, nilC, nilCmp, eqb, assertV, assertW, zeroV, wQ_normal, wQ_ret, wQ_panic, pickO, pickC, List.map_cons, List.map_nil, List.getD_cons_zero, List.getD_cons_succ, Env.keep, beq_self_eq_true, cond_true, cond_false, lstD, List.length_map]
 refine vforD (σ := Nat × Lib') [0, 1, 7, 8, 9] (fun x => [(0, true, .ptr b 0), (1, true, lstD l), (7, true, lstD l), (8, true, .int .i64 l.length), (9, true, .int .i64 x.1)]) (fun x => wS st w b x.2) (fun x => l.length - x.1) (fun x => x.1 ≤ l.length ∧ okO x.2 ∧ condL w l o = condL w (l.drop x.1) x.2) (0, o) rfl TT_ok ⟨Nat.zero_le _, ho, rfl⟩ (wkE_refl _) rfl ?_
 rintro ⟨i, o1⟩ ⟨hi, ho1, hI⟩
 simp only at hi ho1 hI ⊢
 rw [hI]
 rcases at_or_end l i hi with ⟨rfl, hd⟩ | ⟨a, hlt, hget, hdr⟩
 ·rw [hd]
  simp only [gw0, reduceEqDiff, ↓reduceIte, reduceAdd, reduceLT, reduceLeDiff, reduceMul, gwD3, gwDT, pureR_none, ite_self, nilR, nilB, bitF, bitV, nilC, nilCmp, eqb, assertV, assertW, zeroV, wQ_normal, wQ_ret, wQ_panic, pickO, pickC, List.map_cons, List.map_nil, List.getD_cons_zero, List.getD_cons_succ, Env.keep, beq_self_eq_true, cond_true, cond_false, lt_no, lstD]
  exact outS_g rfl (gives_self trivial (hw o1))
 ·rw [hdr]
  have hma : okM a := okMs_mem hm (List.mem_of_getElem? hget)
  have hsa := size_mem (List.mem_of_getElem? hget)
  obtain ⟨ka, na, nma, sa, la, kidsa⟩ := a
  have hE := condL_cons w ka na nma sa la kidsa (l.drop (i + 1)) o1
  generalize hG : condL w (.mk ka na nma sa la kidsa :: l.drop (i + 1)) o1 = G at hE
  simp only [wS, cellsW]
  simp only [gw0, reduceEqDiff, ↓reduceIte, reduceAdd, reduceLT, reduceLeDiff, reduceMul, gwD3, gwDT, pureR_none, ite_self, nilR, nilB, bitF, bitV, nilC, nilCmp, eqb, assertV, assertW, zeroV, wQ_normal, wQ_ret, wQ_panic, pickO, pickC, List.map_cons, List.map_nil, List.getD_cons_zero, List.getD_cons_succ, Env.keep, beq_self_eq_true, cond_true, cond_false, lt_yes hlt, lstD, List.length_map, getD_map hget, Int.ofNat_lt.mpr hlt, encD_take, encD_len, encD_drop, Nat.le_refl, wR_len, wR_k, wR_k0, wR_sk, wR_sk0, wR_b hb, wR_1 hb, wR_2 hb, wR_3 hb, wR_sb hb, wR_sE hb, wR_sI hb, wR_sB hb, encD_mk]
  rcases (c_liblist (.mk ka na nma sa la kidsa) 1 (wR st b [.lst 2 none (rows2 w.files), encS w.feats, encS w.libs, .str o1.name, .lst 2 (some (b + 1)) (rows2 o1.exps), .arr (b + 2) o1.imps.length, .lst 6 (some (b + 3)) (o1.body.map encD), .int .i64 0] o1.exps.length (o1.imps.map encSet) o1.body.length ++ [.box [.int .i64 ka, .int .i64 na, .str nma, .int .i64 sa, .int .i64 la, .lst 6 none (kidsa.map encD)]])).cases with ⟨he, hc⟩ | ⟨he, hc⟩
  ·refine hc.use (by rw [encD_mk]; exact wkL_refl _) fun _ => ?_
   have hk4 : ka = 4 ∧ kidsa ≠ [] ∧ (listP 1 (.mk ka na nma sa la kidsa)).1 = kidsa := by
    simp only [listP] at he ⊢
    cases e : !decide (ka = 4) || decide (kidsa.length < 1) with
    | true => rw [e] at he; simp at he
    | false =>
     simp only [Bool.or_eq_false_iff, Bool.not_eq_false', decide_eq_true_eq, decide_eq_false_iff_not] at e
     exact ⟨e.1, fun h => by rw [h] at e; simp at e, rfl⟩
   obtain ⟨hk4, hne, hkk⟩ := hk4
   rw [hkk]
   have hmk := hma
   rw [okM] at hmk
   obtain ⟨hkl, hks⟩ := hmk.2 hk4
   cases kidsa with
   | nil => exact absurd rfl hne
   | cons hh t =>
    have htl : t.length + 1 ≤ 2000 := hkl
    have htm : okMs t := hks.2
    have hst2 : SizeOf.sizeOf t < N := by
     have g2 := size_kids ka na nma sa la (hh :: t)
     have g3 : SizeOf.sizeOf t < SizeOf.sizeOf (hh :: t) := by simp; omega
     omega
    obtain ⟨kh, nh, nmh, sh, lh, kidsh⟩ := hh
    simp only [decide_eq_true hk4, Bool.not_true, cond_false] at hE
    cases h1 : decide (kh = 3) with
    | false =>
     have hel : isElse (.mk kh nh nmh sh lh kidsh) = false := by show (decide (kh = 3) && _) = false; rw [h1]; rfl
     simp only [gw0, reduceEqDiff, ↓reduceIte, reduceAdd, reduceLT, reduceLeDiff, reduceMul, gwD3, gwDT, pureR_none, ite_self, nilR, nilB, bitF, bitV, nilC, nilCmp, eqb, assertV, assertW, zeroV, wQ_normal, wQ_ret, wQ_panic, pickO, pickC, List.map_cons, List.map_nil, List.getD_cons_zero, List.getD_cons_succ, Env.keep, beq_self_eq_true, cond_true, cond_false, lstD, List.map_cons, encD_mk, show Int.toNat 0 = 0 from rfl, show Int.toNat 1 = 1 from rfl, List.drop_succ_cons, List.drop_zero, List.length_cons, List.length_map, Nat.le_add_left, encD_take, encD_len, encD_drop, Nat.le_refl, wR_len, wR_k, wR_k0, wR_sk, wR_sk0, wR_b hb, wR_1 hb, wR_2 hb, wR_3 hb, wR_sb hb, wR_sE hb, wR_sI hb, wR_sB hb, h1, Bool.true_and, Bool.false_and, Bool.and_true, Bool.and_false, Bool.not_true, Bool.not_false, Bool.true_or, Bool.false_or]
     refine ⟨⟨by omega, by omega⟩, ⟨by omega, by omega⟩, ?_⟩
     rw [hel, cond_false] at hE
     have hx : (wR st b [.lst 2 none (rows2 w.files), encS w.feats, encS w.libs, .str o1.name, .lst 2 (some (b + 1)) (rows2 o1.exps), .arr (b + 2) o1.imps.length, .lst 6 (some (b + 3)) (o1.body.map encD), .int .i64 0] o1.exps.length (o1.imps.map encSet) o1.body.length ++ [.box [.int .i64 ka, .int .i64 na, .str nma, .int .i64 sa, .int .i64 la, .lst 6 none ([.int .i64 kh, .int .i64 nh, .str nmh, .int .i64 sh, .int .i64 lh, .lst 6 none (kidsh.map encD)] :: t.map encD)]])[b]? = some (.box (cellsW w b o1.name (rows2 o1.exps) o1.imps.length (o1.body.map encD))) := wR_b hb _ _ _ _ _
     rcases (c_libholds w b _ (.mk kh nh nmh sh lh kidsh) (Nat.lt_succ_self _) hks.1 _ _ _ _ _ hx).cases with ⟨he4, hc4⟩ | ⟨he4, hc4⟩
     ·refine rK_go (hc4.use (by rw [encD_mk]; exact wkL_refl _) fun _ => ?_)
      rw [decide_eq_true he4, Bool.not_true, cond_false] at hE
      simp only [gw0, reduceEqDiff, ↓reduceIte, reduceAdd, reduceLT, reduceLeDiff, reduceMul, gwD3, gwDT, pureR_none, ite_self, nilR, nilB, bitF, bitV, nilC, nilCmp, eqb, assertV, assertW, zeroV, wQ_normal, wQ_ret, wQ_panic, pickO, pickC, List.map_cons, List.map_nil, List.getD_cons_zero, List.getD_cons_succ, Env.keep, beq_self_eq_true, cond_true, cond_false, Bool.true_and, Bool.false_and, Bool.and_true, Bool.and_false, Bool.not_true, Bool.not_false, Bool.true_or, Bool.false_or]
      refine iK_split (fun h5 => ?_) (fun h5 => ?_)
      ·rw [h5, cond_true] at hE
       simp only [gw0, reduceEqDiff, ↓reduceIte, reduceAdd, reduceLT, reduceLeDiff, reduceMul, gwD3, gwDT, pureR_none, ite_self, nilR, nilB, bitF, bitV, nilC, nilCmp, eqb, assertV, assertW, zeroV, wQ_normal, wQ_ret, wQ_panic, pickO, pickC, List.map_cons, List.map_nil, List.getD_cons_zero, List.getD_cons_succ, Env.keep, beq_self_eq_true, cond_true, cond_false, show Int.toNat 0 = 0 from rfl, show Int.toNat 1 = 1 from rfl, List.drop_succ_cons, List.drop_zero, List.length_cons, List.length_map, Nat.le_add_left, wR_len, wR_k, wR_k0, wR_sk, wR_sk0, wR_b hb, wR_1 hb, wR_2 hb, wR_3 hb, wR_sb hb, wR_sE hb, wR_sI hb, wR_sB hb]
       refine ⟨⟨by omega, by omega⟩, ?_⟩
       have hbd := ihD t hst2 htm (by omega) o1 ho1 (st ++ [.box [.int .i64 ka, .int .i64 na, .str nma, .int .i64 sa, .int .i64 la, .lst 6 none ([.int .i64 kh, .int .i64 nh, .str nmh, .int .i64 sh, .int .i64 lh, .lst 6 none (kidsh.map encD)] :: t.map encD)]]) b (by simp; omega)
       rw [wS_app hb, wS_app hb] at hbd
       rcases hbd.cases with ⟨he5, hc5⟩ | ⟨he5, hc5⟩
       ·simp only [wS, cellsW] at hc5
        refine hc5.use (wkL_refl _) fun _ => ?_
        rw [hE]
        simp only [gw0, reduceEqDiff, ↓reduceIte, reduceAdd, reduceLT, reduceLeDiff, reduceMul, gwD3, gwDT, pureR_none, ite_self, nilR, nilB, bitF, bitV, nilC, nilCmp, eqb, assertV, assertW, zeroV, wQ_normal, wQ_ret, wQ_panic, pickO, pickC, List.map_cons, List.map_nil, List.getD_cons_zero, List.getD_cons_succ, Env.keep, beq_self_eq_true, cond_true, cond_false]
        exact outS_g he5 (gives_of (wk_refl _) (wkSt_refl _) trivial (hw _))
       ·simp only [wS, cellsW] at hc5
        refine hc5.useP (wkL_refl _) ?_
        rw [hE]
        simp only [gw0, reduceEqDiff, ↓reduceIte, reduceAdd, reduceLT, reduceLeDiff, reduceMul, gwD3, gwDT, pureR_none, ite_self, nilR, nilB, bitF, bitV, nilC, nilCmp, eqb, assertV, assertW, zeroV, wQ_normal, wQ_ret, wQ_panic, pickO, pickC, List.map_cons, List.map_nil, List.getD_cons_zero, List.getD_cons_succ, Env.keep, beq_self_eq_true, cond_true, cond_false]
        exact outS_p he5 (givesP_of (wk_refl _) (wkSt_refl _) (oops_lt _ _) (hw _))
      ·rw [h5, cond_false] at hE
       simp only [gw0, reduceEqDiff, ↓reduceIte, reduceAdd, reduceLT, reduceLeDiff, reduceMul, gwD3, gwDT, pureR_none, ite_self, nilR, nilB, bitF, bitV, nilC, nilCmp, eqb, assertV, assertW, zeroV, wQ_normal, wQ_ret, wQ_panic, pickO, pickC, List.map_cons, List.map_nil, List.getD_cons_zero, List.getD_cons_succ, Env.keep, beq_self_eq_true, cond_true, cond_false, wR_len, wR_k, wR_k0, wR_sk, wR_sk0, wR_b hb, wR_1 hb, wR_2 hb, wR_3 hb, wR_sb hb, wR_sE hb, wR_sI hb, wR_sB hb, Env.keep, next_i64 hlt (by omega)]
       refine ⟨(i + 1, o1), ⟨wkE_refl _, wS st w b o1, [.box [.int .i64 ka, .int .i64 na, .str nma, .int .i64 sa, .int .i64 la, .lst 6 none ([.int .i64 kh, .int .i64 nh, .str nmh, .int .i64 sh, .int .i64 lh, .lst 6 none (kidsh.map encD)] :: t.map encD)]], by simp [wS, cellsW], wkSt_refl _, ?_, hw _, by rw [wR_len]; exact Nat.le_refl _⟩, by dsimp only; omega, hlt, ho1, hE⟩
       simp only [ltE, V.lt]
       have hll := lstD_lt (wS st w b o1).length l
       simp only [lstD, V.lt] at hll
       exact ⟨by rw [wR_len]; omega, hll, hll, trivial, trivial, trivial⟩
     ·refine rK_go (hc4.useP (by rw [encD_mk]; exact wkL_refl _) ?_)
      rw [decide_eq_false he4, Bool.not_false, cond_true] at hE
      rw [hE]
      simp only [gw0, reduceEqDiff, ↓reduceIte, reduceAdd, reduceLT, reduceLeDiff, reduceMul, gwD3, gwDT, pureR_none, ite_self, nilR, nilB, bitF, bitV, nilC, nilCmp, eqb, assertV, assertW, zeroV, wQ_normal, wQ_ret, wQ_panic, pickO, pickC, List.map_cons, List.map_nil, List.getD_cons_zero, List.getD_cons_succ, Env.keep, beq_self_eq_true, cond_true, cond_false]
      exact outS_p he4 (givesP_of (wk_refl _) (wkSt_refl _) (oops_lt _ _) (hw o1))
    | true =>
     cases h2 : decide (nmh = [101, 108, 115, 101]) with
     | false =>
      have hel : isElse (.mk kh nh nmh sh lh kidsh) = false := by show (decide (kh = 3) && decide (nmh = [101, 108, 115, 101])) = false; rw [h1, h2]; rfl
      simp only [gw0, reduceEqDiff, ↓reduceIte, reduceAdd, reduceLT, reduceLeDiff, reduceMul, gwD3, gwDT, pureR_none, ite_self, nilR, nilB, bitF, bitV, nilC, nilCmp, eqb, assertV, assertW, zeroV, wQ_normal, wQ_ret, wQ_panic, pickO, pickC, List.map_cons, List.map_nil, List.getD_cons_zero, List.getD_cons_succ, Env.keep, beq_self_eq_true, cond_true, cond_false, lstD, List.map_cons, encD_mk, show Int.toNat 0 = 0 from rfl, show Int.toNat 1 = 1 from rfl, List.drop_succ_cons, List.drop_zero, List.length_cons, List.length_map, Nat.le_add_left, encD_take, encD_len, encD_drop, Nat.le_refl, wR_len, wR_k, wR_k0, wR_sk, wR_sk0, wR_b hb, wR_1 hb, wR_2 hb, wR_3 hb, wR_sb hb, wR_sE hb, wR_sI hb, wR_sB hb, h1, h2, Bool.true_and, Bool.false_and, Bool.and_true, Bool.and_false, Bool.not_true, Bool.not_false, Bool.true_or, Bool.false_or]
      refine ⟨⟨by omega, by omega⟩, ⟨by omega, by omega⟩, ⟨by omega, by omega⟩, ?_⟩
      rw [hel, cond_false] at hE
      have hx : (wR st b [.lst 2 none (rows2 w.files), encS w.feats, encS w.libs, .str o1.name, .lst 2 (some (b + 1)) (rows2 o1.exps), .arr (b + 2) o1.imps.length, .lst 6 (some (b + 3)) (o1.body.map encD), .int .i64 0] o1.exps.length (o1.imps.map encSet) o1.body.length ++ [.box [.int .i64 ka, .int .i64 na, .str nma, .int .i64 sa, .int .i64 la, .lst 6 none ([.int .i64 kh, .int .i64 nh, .str nmh, .int .i64 sh, .int .i64 lh, .lst 6 none (kidsh.map encD)] :: t.map encD)]])[b]? = some (.box (cellsW w b o1.name (rows2 o1.exps) o1.imps.length (o1.body.map encD))) := wR_b hb _ _ _ _ _
      rcases (c_libholds w b _ (.mk kh nh nmh sh lh kidsh) (Nat.lt_succ_self _) hks.1 _ _ _ _ _ hx).cases with ⟨he4, hc4⟩ | ⟨he4, hc4⟩
      ·refine rK_go (hc4.use (by rw [encD_mk]; exact wkL_refl _) fun _ => ?_)
       rw [decide_eq_true he4, Bool.not_true, cond_false] at hE
       simp only [gw0, reduceEqDiff, ↓reduceIte, reduceAdd, reduceLT, reduceLeDiff, reduceMul, gwD3, gwDT, pureR_none, ite_self, nilR, nilB, bitF, bitV, nilC, nilCmp, eqb, assertV, assertW, zeroV, wQ_normal, wQ_ret, wQ_panic, pickO, pickC, List.map_cons, List.map_nil, List.getD_cons_zero, List.getD_cons_succ, Env.keep, beq_self_eq_true, cond_true, cond_false, Bool.true_and, Bool.false_and, Bool.and_true, Bool.and_false, Bool.not_true, Bool.not_false, Bool.true_or, Bool.false_or]
       refine iK_split (fun h5 => ?_) (fun h5 => ?_)
       ·rw [h5, cond_true] at hE
        simp only [gw0, reduceEqDiff, ↓reduceIte, reduceAdd, reduceLT, reduceLeDiff, reduceMul, gwD3, gwDT, pureR_none, ite_self, nilR, nilB, bitF, bitV, nilC, nilCmp, eqb, assertV, assertW, zeroV, wQ_normal, wQ_ret, wQ_panic, pickO, pickC, List.map_cons, List.map_nil, List.getD_cons_zero, List.getD_cons_succ, Env.keep, beq_self_eq_true, cond_true, cond_false, show Int.toNat 0 = 0 from rfl, show Int.toNat 1 = 1 from rfl, List.drop_succ_cons, List.drop_zero, List.length_cons, List.length_map, Nat.le_add_left, wR_len, wR_k, wR_k0, wR_sk, wR_sk0, wR_b hb, wR_1 hb, wR_2 hb, wR_3 hb, wR_sb hb, wR_sE hb, wR_sI hb, wR_sB hb]
        refine ⟨⟨by omega, by omega⟩, ?_⟩
        have hbd := ihD t hst2 htm (by omega) o1 ho1 (st ++ [.box [.int .i64 ka, .int .i64 na, .str nma, .int .i64 sa, .int .i64 la, .lst 6 none ([.int .i64 kh, .int .i64 nh, .str nmh, .int .i64 sh, .int .i64 lh, .lst 6 none (kidsh.map encD)] :: t.map encD)]]) b (by simp; omega)
        rw [wS_app hb, wS_app hb] at hbd
        rcases hbd.cases with ⟨he5, hc5⟩ | ⟨he5, hc5⟩
        ·simp only [wS, cellsW] at hc5
         refine hc5.use (wkL_refl _) fun _ => ?_
         rw [hE]
         simp only [gw0, reduceEqDiff, ↓reduceIte, reduceAdd, reduceLT, reduceLeDiff, reduceMul, gwD3, gwDT, pureR_none, ite_self, nilR, nilB, bitF, bitV, nilC, nilCmp, eqb, assertV, assertW, zeroV, wQ_normal, wQ_ret, wQ_panic, pickO, pickC, List.map_cons, List.map_nil, List.getD_cons_zero, List.getD_cons_succ, Env.keep, beq_self_eq_true, cond_true, cond_false]
         exact outS_g he5 (gives_of (wk_refl _) (wkSt_refl _) trivial (hw _))
        ·simp only [wS, cellsW] at hc5
         refine hc5.useP (wkL_refl _) ?_
         rw [hE]
         simp only [gw0, reduceEqDiff, ↓reduceIte, reduceAdd, reduceLT, reduceLeDiff, reduceMul, gwD3, gwDT, pureR_none, ite_self, nilR, nilB, bitF, bitV, nilC, nilCmp, eqb, assertV, assertW, zeroV, wQ_normal, wQ_ret, wQ_panic, pickO, pickC, List.map_cons, List.map_nil, List.getD_cons_zero, List.getD_cons_succ, Env.keep, beq_self_eq_true, cond_true, cond_false]
         exact outS_p he5 (givesP_of (wk_refl _) (wkSt_refl _) (oops_lt _ _) (hw _))
       ·rw [h5, cond_false] at hE
        simp only [gw0, reduceEqDiff, ↓reduceIte, reduceAdd, reduceLT, reduceLeDiff, reduceMul, gwD3, gwDT, pureR_none, ite_self, nilR, nilB, bitF, bitV, nilC, nilCmp, eqb, assertV, assertW, zeroV, wQ_normal, wQ_ret, wQ_panic, pickO, pickC, List.map_cons, List.map_nil, List.getD_cons_zero, List.getD_cons_succ, Env.keep, beq_self_eq_true, cond_true, cond_false, wR_len, wR_k, wR_k0, wR_sk, wR_sk0, wR_b hb, wR_1 hb, wR_2 hb, wR_3 hb, wR_sb hb, wR_sE hb, wR_sI hb, wR_sB hb, Env.keep, next_i64 hlt (by omega)]
        refine ⟨(i + 1, o1), ⟨wkE_refl _, wS st w b o1, [.box [.int .i64 ka, .int .i64 na, .str nma, .int .i64 sa, .int .i64 la, .lst 6 none ([.int .i64 kh, .int .i64 nh, .str nmh, .int .i64 sh, .int .i64 lh, .lst 6 none (kidsh.map encD)] :: t.map encD)]], by simp [wS, cellsW], wkSt_refl _, ?_, hw _, by rw [wR_len]; exact Nat.le_refl _⟩, by dsimp only; omega, hlt, ho1, hE⟩
        simp only [ltE, V.lt]
        have hll := lstD_lt (wS st w b o1).length l
        simp only [lstD, V.lt] at hll
        exact ⟨by rw [wR_len]; omega, hll, hll, trivial, trivial, trivial⟩
      ·refine rK_go (hc4.useP (by rw [encD_mk]; exact wkL_refl _) ?_)
       rw [decide_eq_false he4, Bool.not_false, cond_true] at hE
       rw [hE]
       simp only [gw0, reduceEqDiff, ↓reduceIte, reduceAdd, reduceLT, reduceLeDiff, reduceMul, gwD3, gwDT, pureR_none, ite_self, nilR, nilB, bitF, bitV, nilC, nilCmp, eqb, assertV, assertW, zeroV, wQ_normal, wQ_ret, wQ_panic, pickO, pickC, List.map_cons, List.map_nil, List.getD_cons_zero, List.getD_cons_succ, Env.keep, beq_self_eq_true, cond_true, cond_false]
       exact outS_p he4 (givesP_of (wk_refl _) (wkSt_refl _) (oops_lt _ _) (hw o1))
     | true =>
      have hel : isElse (.mk kh nh nmh sh lh kidsh) = true := by show (decide (kh = 3) && decide (nmh = [101, 108, 115, 101])) = true; rw [h1, h2]; rfl
      rw [hel, cond_true] at hE
      simp only [gw0, reduceEqDiff, ↓reduceIte, reduceAdd, reduceLT, reduceLeDiff, reduceMul, gwD3, gwDT, pureR_none, ite_self, nilR, nilB, bitF, bitV, nilC, nilCmp, eqb, assertV, assertW, zeroV, wQ_normal, wQ_ret, wQ_panic, pickO, pickC, List.map_cons, List.map_nil, List.getD_cons_zero, List.getD_cons_succ, Env.keep, beq_self_eq_true, cond_true, cond_false, lstD, List.map_cons, encD_mk, show Int.toNat 0 = 0 from rfl, show Int.toNat 1 = 1 from rfl, List.drop_succ_cons, List.drop_zero, List.length_cons, List.length_map, Nat.le_add_left, encD_take, encD_len, encD_drop, Nat.le_refl, wR_len, wR_k, wR_k0, wR_sk, wR_sk0, wR_b hb, wR_1 hb, wR_2 hb, wR_3 hb, wR_sb hb, wR_sE hb, wR_sI hb, wR_sB hb, h1, h2, Bool.true_and, Bool.false_and, Bool.and_true, Bool.and_false, Bool.not_true, Bool.not_false, Bool.true_or, Bool.false_or]
      refine ⟨⟨by omega, by omega⟩, ⟨by omega, by omega⟩, rK_not (.bool true) ?_⟩
      simp only [gw0, reduceEqDiff, ↓reduceIte, reduceAdd, reduceLT, reduceLeDiff, reduceMul, gwD3, gwDT, pureR_none, ite_self, nilR, nilB, bitF, bitV, nilC, nilCmp, eqb, assertV, assertW, zeroV, wQ_normal, wQ_ret, wQ_panic, pickO, pickC, List.map_cons, List.map_nil, List.getD_cons_zero, List.getD_cons_succ, Env.keep, beq_self_eq_true, cond_true, cond_false, show Int.toNat 0 = 0 from rfl, show Int.toNat 1 = 1 from rfl, List.drop_succ_cons, List.drop_zero, List.length_cons, List.length_map, Nat.le_add_left, wR_len, wR_k, wR_k0, wR_sk, wR_sk0, wR_b hb, wR_1 hb, wR_2 hb, wR_3 hb, wR_sb hb, wR_sE hb, wR_sI hb, wR_sB hb]
      refine ⟨⟨by omega, by omega⟩, ?_⟩
      have hbd := ihD t hst2 htm (by omega) o1 ho1 (st ++ [.box [.int .i64 ka, .int .i64 na, .str nma, .int .i64 sa, .int .i64 la, .lst 6 none ([.int .i64 kh, .int .i64 nh, .str nmh, .int .i64 sh, .int .i64 lh, .lst 6 none (kidsh.map encD)] :: t.map encD)]]) b (by simp; omega)
      rw [wS_app hb, wS_app hb] at hbd
      rcases hbd.cases with ⟨he5, hc5⟩ | ⟨he5, hc5⟩
      ·simp only [wS, cellsW] at hc5
       refine hc5.use (wkL_refl _) fun _ => ?_
       rw [hE]
       simp only [gw0, reduceEqDiff, ↓reduceIte, reduceAdd, reduceLT, reduceLeDiff, reduceMul, gwD3, gwDT, pureR_none, ite_self, nilR, nilB, bitF, bitV, nilC, nilCmp, eqb, assertV, assertW, zeroV, wQ_normal, wQ_ret, wQ_panic, pickO, pickC, List.map_cons, List.map_nil, List.getD_cons_zero, List.getD_cons_succ, Env.keep, beq_self_eq_true, cond_true, cond_false]
       exact outS_g he5 (gives_of (wk_refl _) (wkSt_refl _) trivial (hw _))
      ·simp only [wS, cellsW] at hc5
       refine hc5.useP (wkL_refl _) ?_
       rw [hE]
       simp only [gw0, reduceEqDiff, ↓reduceIte, reduceAdd, reduceLT, reduceLeDiff, reduceMul, gwD3, gwDT, pureR_none, ite_self, nilR, nilB, bitF, bitV, nilC, nilCmp, eqb, assertV, assertW, zeroV, wQ_normal, wQ_ret, wQ_panic, pickO, pickC, List.map_cons, List.map_nil, List.getD_cons_zero, List.getD_cons_succ, Env.keep, beq_self_eq_true, cond_true, cond_false]
       exact outS_p he5 (givesP_of (wk_refl _) (wkSt_refl _) (oops_lt _ _) (hw _))
  ·refine hc.useP (by rw [encD_mk]; exact wkL_refl _) ?_
   have hv2 : (listP 1 (.mk ka na nma sa la kidsa)).2 = 2 ∧ G = (o1, 2) := by
    rw [hE]
    simp only [listP] at he ⊢
    cases e : decide (ka = 4) with
    | false => exact ⟨rfl, rfl⟩
    | true =>
     rw [e] at he
     cases kidsa with
     | nil => exact ⟨rfl, rfl⟩
     | cons x r => simp at he
   rw [hv2.2, hv2.1]
   simp only [gw0, reduceEqDiff, ↓reduceIte, reduceAdd, reduceLT, reduceLeDiff, reduceMul, gwD3, gwDT, pureR_none, ite_self, nilR, nilB, bitF, bitV, nilC, nilCmp, eqb, assertV, assertW, zeroV, wQ_normal, wQ_ret, wQ_panic, pickO, pickC, List.map_cons, List.map_nil, List.getD_cons_zero, List.getD_cons_succ, Env.keep, beq_self_eq_true, cond_true, cond_false]
   exact outS_p (show (2 : Int) ≠ 0 by decide) (givesP_of (wk_refl _) (wkSt_refl _) (oops_lt _ _) (hw o1))
theorem c_lib (w : Wd) : ∀ N, DeclsC w N ∧ CondC w N
 | 0 => ⟨fun l h => by omega, fun l h => by omega⟩
 | N + 1 => ⟨c_libdecls w N (c_lib w N).2, c_libcond w N (c_lib w N).1⟩
theorem c_decls (w : Wd) (l : List Datum) (hm : okMs l) (hl : l.length ≤ 2000) (o : Lib') (ho : okO o) (st : St) (b : Nat) (hb : b + 3 < st.length) :
  OutS 18 [.ptr b 0, lstD l] (wS st w b o) (.tup []) (declsL w l o).2 (wS st w b (declsL w l o).1) :=
 (c_lib w _).1 l (Nat.lt_succ_self _) hm hl o ho st b hb
theorem d_libidle (st : St) (a c : Nat) : VDefers Tryz.prog TT 14 [.ptr a 0, .ptr c 0] none st st := by
 refine vdefers TT_ok (an := anL []) (L := [0, 1, 3, 4, 5, 10]) Tryz.func14 rfl (by kernel_rfl) rfl Tryz.ntmps14 rfl rfl (by decide) (Nat.le_refl _) fun hst ha hf => ?_
 simp only [gw0, reduceEqDiff, ↓reduceIte, reduceAdd, reduceLT, reduceLeDiff, reduceMul, gwD3, gwDT, pureR_none, ite_self, nilR, nilB, bitF, bitV, nilC, nilCmp, eqb, assertV, assertW, zeroV, wQ_normal, wQ_ret, wQ_panic, pickO, pickC, List.map_cons, List.map_nil, List.getD_cons_zero, List.getD_cons_succ, Env.keep, beq_self_eq_true, cond_true, cond_false, Option.getD_none]
 exact ⟨[], st, by simp, wkSt_refl _, hst⟩
def zLib : List V := [.str [], .nils, .nils, .nils]
theorem d_libcaught (st : St) (a c : Nat) (e : Int) (x : Int) (hao : st[a]? = some (.box zLib)) (hc : st[c]? = some (.box [.int .i64 x])) (hne : a ≠ c) (hst2 : St.ok ((st.set a (.box zLib)).set c (.box [.int .i64 e]))) :
  VDefers Tryz.prog TT 14 [.ptr a 0, .ptr c 0] (some (oopsV e)) st ((st.set a (.box zLib)).set c (.box [.int .i64 e])) := by
 have hal := (List.getElem?_eq_some_iff.1 hao).1
 have hcl := (List.getElem?_eq_some_iff.1 hc).1
 refine vdefers TT_ok (an := anL []) (L := [0, 1, 3, 4, 5, 10]) Tryz.func14 rfl (by kernel_rfl) rfl Tryz.ntmps14 rfl rfl (by decide) (by simp) fun hst ha hf => ?_
 simp only [oopsV, zLib] at hao hst2 ⊢
 simp only [gw0, reduceEqDiff, ↓reduceIte, reduceAdd, reduceLT, reduceLeDiff, reduceMul, gwD3, gwDT, pureR_none, ite_self, nilR, nilB, bitF, bitV, nilC, nilCmp, eqb, assertV, assertW, zeroV, wQ_normal, wQ_ret, wQ_panic, pickO, pickC, List.map_cons, List.map_nil, List.getD_cons_zero, List.getD_cons_succ, Env.keep, beq_self_eq_true, cond_true, cond_false, Option.getD_some]
 have hA : ∀ l : St, (st ++ l)[a]? = some (.box [.str [], .nils, .nils, .nils]) := fun l => by rw [List.getElem?_append_left hal]; exact hao
 have hA2 : ∀ (l : St) (x : Ent), (st ++ l).set a x = st.set a x ++ l := fun l x => set_app hal
 have hC : ∀ (l : St) (x2 : Ent), (st.set a x2 ++ l)[c]? = some (.box [.int .i64 x]) := fun l x2 => by rw [List.getElem?_append_left (by simpa using hcl), List.getElem?_set_ne hne]; exact hc
 have hC2 : ∀ (l : St) (x x2 : Ent), (st.set a x ++ l).set c x2 = (st.set a x).set c x2 ++ l := fun l x x2 => set_app (by simpa using hcl)
 refine vdraw2 TT_ok TT_mixed (σ := Unit) [0, 0, 1, 2, 2] [0, 1, 3, 2, 4] 2 3 [0] (fun _x => [(0, true, .ptr a 0)]) (fun _x => (st.set a (.box [.str [], .nils, .nils, .nils])).set c (.box [.int .i64 e]) ++ [.box [.int .i64 e]]) (fun _x => True) rfl (by kernel_rfl) ?_ ?_ ?_
 ·simp only [gw0, reduceEqDiff, ↓reduceIte, reduceAdd, reduceLT, reduceLeDiff, reduceMul, gwD3, gwDT, pureR_none, ite_self, nilR, nilB, bitF, bitV, nilC, nilCmp, eqb, assertV, assertW, zeroV, wQ_normal, wQ_ret, wQ_panic, pickO, pickC, List.map_cons, List.map_nil, List.getD_cons_zero, List.getD_cons_succ, Env.keep, beq_self_eq_true, cond_true, cond_false, hA, hA2, hC, hC2, at_k, at_k0]
  exact ⟨rfl, rfl, (), rfl, rfl, trivial⟩
 ·simp only [gw0, reduceEqDiff, ↓reduceIte, reduceAdd, reduceLT, reduceLeDiff, reduceMul, gwD3, gwDT, pureR_none, ite_self, nilR, nilB, bitF, bitV, nilC, nilCmp, eqb, assertV, assertW, zeroV, wQ_normal, wQ_ret, wQ_panic, pickO, pickC, List.map_cons, List.map_nil, List.getD_cons_zero, List.getD_cons_succ, Env.keep, beq_self_eq_true, cond_true, cond_false, hA, hA2, hC, hC2, at_k, at_k0]
  exact ⟨rfl, rfl, (), rfl, rfl, trivial⟩
 ·rintro - -
  simp only [gw0, reduceEqDiff, ↓reduceIte, reduceAdd, reduceLT, reduceLeDiff, reduceMul, gwD3, gwDT, pureR_none, ite_self, nilR, nilB, bitF, bitV, nilC, nilCmp, eqb, assertV, assertW, zeroV, wQ_normal, wQ_ret, wQ_panic, pickO, pickC, List.map_cons, List.map_nil, List.getD_cons_zero, List.getD_cons_succ, Env.keep, beq_self_eq_true, cond_true, cond_false, hA]
  exact ⟨[.box [.int .i64 e]], _, rfl, wkSt_refl _, hst2⟩
theorem y_libcaught (st ex : St) (e x : Int) (hok : St.ok (st ++ (.box zLib :: .box [.int .i64 e] :: ex))) :
  VDefers Tryz.prog TT 14 [.ptr st.length 0, .ptr (st.length + 1) 0] (some (oopsV e)) (st ++ (.box zLib :: .box [.int .i64 x] :: ex)) (st ++ (.box zLib :: .box [.int .i64 e] :: ex)) := by
 have := d_libcaught (st ++ (.box zLib :: .box [.int .i64 x] :: ex)) st.length (st.length + 1) e x (by simp) (by simp) (by omega) (by rw [set_01]; exact hok)
 rw [set_01] at this
 exact this
theorem at_5 (st : St) (A B C D E F G : Ent) : (st ++ (A :: B :: C :: D :: E :: F :: [G]))[st.length + 5]? = some F := by simp
theorem listP_same {d : Datum} (h1 : (listP 1 d).2 = 0) (h2 : (listP 2 d).2 = 0) : (listP 2 d).1 = (listP 1 d).1 := by
 obtain ⟨k, n, nm, s, l, kids⟩ := d
 simp only [listP] at h1 h2 ⊢
 cases e1 : !decide (k = 4) || decide (kids.length < 1) with
 | true => rw [e1] at h1; simp at h1
 | false =>
  cases e2 : !decide (k = 4) || decide (kids.length < 2) with
  | true => rw [e2] at h2; simp at h2
  | false => rfl
def encLib (o : Lib') : List V := [.str o.name, .lst 2 none (rows2 o.exps), .lst 6 none (o.imps.map encSet), .lst 6 none (o.body.map encD)]
theorem encLib_lt (n : Nat) (o : Lib') : ltL n (encLib o) := by
 refine ⟨trivial, ?_, ?_, ?_, trivial⟩ <;> simp only [V.lt]
 ·exact ⟨fun e h => (by cases h), rows2_lt _ _⟩
 ·exact ⟨fun e h => (by cases h), ltRows_map fun s _ => encSet_lt _ _⟩
 ·exact ⟨fun e h => (by cases h), ltRows_map fun d _ => encD_lt _ _⟩
def libV (r : Lib' × Int) : V := .tup [.agg (encLib r.1), .int .i64 r.2]
theorem libV_lt (n : Nat) (r : Lib' × Int) : (libV r).lt n := by simp only [libV, V.lt, ltL, and_true]; exact encLib_lt _ _
set_option maxHeartbeats 4000000 in
theorem c_libParse (w : Wd) (dt : Datum) (st : St) : VCalls Tryz.prog TT 6 [.lst 2 none (rows2 w.files), encS w.feats, encS w.libs, .agg (encD dt)] st fun r st' => r = .ret (libV (parseP w dt)) ∧ st' = st := by
 refine VCalls.freeze (Q := fun r s' => ∃ v u ex, r = .ret v ∧ s' = st ++ ex ∧ Thaw s' st.length v u ∧ wk u (libV (parseP w dt)) ∧ (libV (parseP w dt)).lt st.length) ?_ (fun r s' h => h)
 have hz : ∀ e : Int, wk (.tup [.agg [.str [], .nils, .nils, .nils], .int .i64 e]) (libV (noLib, e)) := fun e =>
  wk_tup (wkL_cons (wk_agg (wkL_cons (wk_refl _) (wkL_cons (wk_nils _) (wkL_cons (wk_nils _) (wkL_cons (wk_nils _) wkL_nil))))) (wkL_cons (wk_refl _) wkL_nil))
 refine vfunD TT_ok (L := [0, 1, 2, 3, 7, 8, 9, 10, 11, 12, 37]) Tryz.func6 rfl (by kernel_rfl) Tryz.ntmps6 rfl rfl fun hst ha hf => ?_
 refine waSeq TT_ok (an := anL [(7, 1)]) (rs := [.cell 8 30, .cell 9 31]) rfl ?_
 simp only [gw0, reduceEqDiff, ↓reduceIte, reduceAdd, reduceLT, reduceLeDiff, reduceMul, gwD3, gwDT, pureR_none, ite_self, nilR, nilB, bitF, bitV, nilC, nilCmp, eqb, assertV, assertW, zeroV, wQ_normal, wQ_ret, wQ_panic, pickO, pickC, List.map_cons, List.map_nil, List.getD_cons_zero, List.getD_cons_succ, Env.keep, beq_self_eq_true, cond_true, cond_false]
 refine waSeq TT_ok (an := anL [(7, 1)]) (rs := [.cell 8 30, .cell 9 31]) rfl ?_
 simp only [gw0, reduceEqDiff, ↓reduceIte, reduceAdd, reduceLT, reduceLeDiff, reduceMul, gwD3, gwDT, pureR_none, ite_self, nilR, nilB, bitF, bitV, nilC, nilCmp, eqb, assertV, assertW, zeroV, wQ_normal, wQ_ret, wQ_panic, pickO, pickC, List.map_cons, List.map_nil, List.getD_cons_zero, List.getD_cons_succ, Env.keep, beq_self_eq_true, cond_true, cond_false, encD_take, encD_len, encD_drop, Nat.le_refl]
 refine (c_text_Wrong _ [dt]).use (wkL_refl _) fun _ => ?_
 simp only [fltV]
 simp only [gw0, reduceEqDiff, ↓reduceIte, reduceAdd, reduceLT, reduceLeDiff, reduceMul, gwD3, gwDT, pureR_none, ite_self, nilR, nilB, bitF, bitV, nilC, nilCmp, eqb, assertV, assertW, zeroV, wQ_normal, wQ_ret, wQ_panic, pickO, pickC, List.map_cons, List.map_nil, List.getD_cons_zero, List.getD_cons_succ, Env.keep, beq_self_eq_true, cond_true, cond_false]
 have hp0 : parseP w dt = bif !decide ((wrongL [dt] 0 0).1 = 0) then (noLib, (wrongL [dt] 0 0).1)
   else bif decide ((30 : Int) < w.files.length) then (noLib, 5)
   else bif decide ((topP w dt).2 = 0) then topP w dt else (noLib, (topP w dt).2) := rfl
 refine iK_split (fun h => ?_) (fun h => ?_)
 ·rw [h, cond_true] at hp0
  simp only [gw0, reduceEqDiff, ↓reduceIte, reduceAdd, reduceLT, reduceLeDiff, reduceMul, gwD3, gwDT, pureR_none, ite_self, nilR, nilB, bitF, bitV, nilC, nilCmp, eqb, assertV, assertW, zeroV, wQ_normal, wQ_ret, wQ_panic, pickO, pickC, List.map_cons, List.map_nil, List.getD_cons_zero, List.getD_cons_succ, Env.keep, beq_self_eq_true, cond_true, cond_false]
  refine vmelt 10 (st.length + 2) _ rfl (by simp only [gwL]; rfl) ?_
  simp only [gw0, reduceEqDiff, ↓reduceIte, reduceAdd, reduceLT, reduceLeDiff, reduceMul, gwD3, gwDT, pureR_none, ite_self, nilR, nilB, bitF, bitV, nilC, nilCmp, eqb, assertV, assertW, zeroV, wQ_normal, wQ_ret, wQ_panic, pickO, pickC, List.map_cons, List.map_nil, List.getD_cons_zero, List.getD_cons_succ, Env.keep, beq_self_eq_true, cond_true, cond_false, meltE]
  refine vdraw TT_ok TT_mixed [0, 0, 0, 2, 2] (by kernel_rfl) ?_
  simp only [gw0, reduceEqDiff, ↓reduceIte, reduceAdd, reduceLT, reduceLeDiff, reduceMul, gwD3, gwDT, pureR_none, ite_self, nilR, nilB, bitF, bitV, nilC, nilCmp, eqb, assertV, assertW, zeroV, wQ_normal, wQ_ret, wQ_panic, pickO, pickC, List.map_cons, List.map_nil, List.getD_cons_zero, List.getD_cons_succ, Env.keep, beq_self_eq_true, cond_true, cond_false]
  rw [hp0]
  exact ⟨_, _, _, rfl, rfl, .same _, hz _, libV_lt _ _⟩
 rw [h, cond_false] at hp0
 have hok := wrongL_okM (of_decide_eq_true (by simpa using h))
 refine waSeq TT_ok (an := anL [(7, 1)]) (rs := [.cell 8 30, .cell 9 31]) rfl ?_
 simp only [gw0, reduceEqDiff, ↓reduceIte, reduceAdd, reduceLT, reduceLeDiff, reduceMul, gwD3, gwDT, pureR_none, ite_self, nilR, nilB, bitF, bitV, nilC, nilCmp, eqb, assertV, assertW, zeroV, wQ_normal, wQ_ret, wQ_panic, pickO, pickC, List.map_cons, List.map_nil, List.getD_cons_zero, List.getD_cons_succ, Env.keep, beq_self_eq_true, cond_true, cond_false, rows2_len]
 refine iK_split (fun h2 => ?_) (fun h2 => ?_)
 ·rw [h2, cond_true] at hp0
  simp only [gw0, reduceEqDiff, ↓reduceIte, reduceAdd, reduceLT, reduceLeDiff, reduceMul, gwD3, gwDT, pureR_none, ite_self, nilR, nilB, bitF, bitV, nilC, nilCmp, eqb, assertV, assertW, zeroV, wQ_normal, wQ_ret, wQ_panic, pickO, pickC, List.map_cons, List.map_nil, List.getD_cons_zero, List.getD_cons_succ, Env.keep, beq_self_eq_true, cond_true, cond_false]
  rw [hp0]
  exact ⟨_, _, _, rfl, rfl, .same _, hz _, libV_lt _ _⟩
 rw [h2, cond_false] at hp0
 simp only [gw0, reduceEqDiff, ↓reduceIte, reduceAdd, reduceLT, reduceLeDiff, reduceMul, gwD3, gwDT, pureR_none, ite_self, nilR, nilB, bitF, bitV, nilC, nilCmp, eqb, assertV, assertW, zeroV, wQ_normal, wQ_ret, wQ_panic, pickO, pickC, List.map_cons, List.map_nil, List.getD_cons_zero, List.getD_cons_succ, Env.keep, beq_self_eq_true, cond_true, cond_false]
 refine waDefer TT_ok (an := anL [(7, 1)]) (rs := [.cell 8 30, .cell 9 31]) rfl [.ptr st.length 0, .ptr (st.length + 1) 0] ⟨_, Tryz.func14, by kernel_rfl, by kernel_rfl⟩ (by decide) rfl rfl fun d => ?_
 simp only [gw0, reduceEqDiff, ↓reduceIte, reduceAdd, reduceLT, reduceLeDiff, reduceMul, gwD3, gwDT, pureR_none, ite_self, nilR, nilB, bitF, bitV, nilC, nilCmp, eqb, assertV, assertW, zeroV, wQ_normal, wQ_ret, wQ_panic, pickO, pickC, List.map_cons, List.map_nil, List.getD_cons_zero, List.getD_cons_succ, Env.keep, beq_self_eq_true, cond_true, cond_false, encD_take, encD_len, encD_drop, Nat.le_refl, encS]
 have hWS : ∀ o : Lib', wS (st ++ [.box zLib, .box [.int .i64 0], .box [.int .i64 (wrongL [dt] 0 0).1, .int .i64 (wrongL [dt] 0 0).2], .gone, .gone, .gone, .gone]) w (st.length + 3) o = st ++ (.box zLib :: .box [.int .i64 0] :: [.box [.int .i64 (wrongL [dt] 0 0).1, .int .i64 (wrongL [dt] 0 0).2], .box (cellsW w (st.length + 3) o.name (rows2 o.exps) o.imps.length (o.body.map encD)), .tip 65 o.exps.length, .arr 69 6 (o.imps.map encSet), .tip 26 o.body.length]) := fun o => by
  unfold wS wR
  rw [List.set_append_right _ _ (by omega), List.set_append_right _ _ (by omega), List.set_append_right _ _ (by omega), List.set_append_right _ _ (by omega)]
  simp only [show st.length + 3 - st.length = 3 by omega, show st.length + 3 + 1 - st.length = 4 by omega, show st.length + 3 + 2 - st.length = 5 by omega, show st.length + 3 + 3 - st.length = 6 by omega, List.set_cons_succ, List.set_cons_zero]
 have hokE : ∀ (o : Lib') (e : Int), St.ok (st ++ (.box zLib :: .box [.int .i64 e] :: [.box [.int .i64 (wrongL [dt] 0 0).1, .int .i64 (wrongL [dt] 0 0).2], .box (cellsW w (st.length + 3) o.name (rows2 o.exps) o.imps.length (o.body.map encD)), .tip 65 o.exps.length, .arr 69 6 (o.imps.map encSet), .tip 26 o.body.length])) := fun o e => by
  refine ok_app hst ⟨by simp [zLib, Ent.lt, ltL, V.lt], by simp [Ent.lt, ltL, V.lt], by simp [Ent.lt, ltL, V.lt], ?_, trivial, ltRows_map fun s _ => encSet_lt _ _, trivial, trivial⟩
  simp only [List.length_cons, List.length_nil, Ent.lt, cellsW, ltL]
  refine ⟨?_, encS_lt _ _, encS_lt _ _, trivial, ?_, ?_, ?_, trivial, trivial⟩ <;> simp only [V.lt]
  ·exact ⟨fun e h => (by cases h), rows2_lt _ _⟩
  ·exact ⟨fun e h => (by cases h; omega), rows2_lt _ _⟩
  ·omega
  ·exact ⟨fun e h => (by cases h; omega), ltRows_map fun d _ => encD_lt _ _⟩
 have hb : st.length + 3 + 3 < (st ++ [Ent.box zLib, Ent.box [.int .i64 0], Ent.box [.int .i64 (wrongL [dt] 0 0).1, .int .i64 (wrongL [dt] 0 0).2], Ent.gone, Ent.gone, Ent.gone, Ent.gone]).length := by simp
 refine VCalls.more [65] (s0 := st ++ [.box [.str [], .nils, .nils, .nils], .box [.int .i64 0], .box [.int .i64 (wrongL [dt] 0 0).1, .int .i64 (wrongL [dt] 0 0).2], .box [.lst 2 none (rows2 w.files), .lst 1 none (w.feats.map fun s => [.str s]), .lst 1 none (w.libs.map fun s => [.str s]), .str [], .lst 2 (some (st.length + 4)) [], .nils, .nils, .int .i64 0]]) ?_ (wkL_refl _) ?_
 rotate_left
 ·refine (wkSt_refl _).append (wkSt_cons (Ent.wkp_refl _) (wkSt_cons (Ent.wkp_refl _) (wkSt_cons (Ent.wkp_refl _) (wkSt_cons (Ent.wk_box ?_) wkSt_nil))))
  exact wkL_cons (wk_refl _) (wkL_cons (wk_refl _) (wkL_cons (wk_refl _) (wkL_cons (wk_refl _) (wkL_cons (wk_tip _ (by simp [Tips])) (wkL_cons (wk_refl _) (wkL_cons (wk_refl _) (wkL_cons (wk_refl _) wkL_nil)))))))
 simp only [tips, List.map_cons, List.map_nil, List.append_assoc, List.cons_append, List.nil_append]
 refine VCalls.nilB (st.length + 3) 5 [.lst 2 none (rows2 w.files), .lst 1 none (w.feats.map fun s => [.str s]), .lst 1 none (w.libs.map fun s => [.str s]), .str [], .lst 2 (some (st.length + 4)) [], .nils, .nils, .int .i64 0] 69 (by simp) rfl ?_
 simp only [List.append_assoc, List.cons_append, List.nil_append, List.length_append, List.length_cons, List.length_nil, Nat.reduceAdd, List.set_cons_succ, List.set_cons_zero]
 rw [List.set_append_right _ _ (by omega)]
 simp only [show st.length + 3 - st.length = 3 by omega, List.set_cons_succ, List.set_cons_zero]
 have hT6 : (TT 69).size = 6 := rfl
 rw [hT6]
 refine VCalls.more [26] (s0 := st ++ [.box [.str [], .nils, .nils, .nils], .box [.int .i64 0], .box [.int .i64 (wrongL [dt] 0 0).1, .int .i64 (wrongL [dt] 0 0).2], .box [.lst 2 none (rows2 w.files), .lst 1 none (w.feats.map fun s => [.str s]), .lst 1 none (w.libs.map fun s => [.str s]), .str [], .lst 2 (some (st.length + 4)) [], .arr (st.length + 5) 0, .lst 6 (some (st.length + 6)) [], .int .i64 0], .tip 65 0, .arr 69 6 []]) ?_ (wkL_refl _) ?_
 rotate_left
 ·refine (wkSt_refl _).append (wkSt_cons (Ent.wkp_refl _) (wkSt_cons (Ent.wkp_refl _) (wkSt_cons (Ent.wkp_refl _) (wkSt_cons (Ent.wk_box ?_) (wkSt_cons (Ent.wkp_refl _) (wkSt_cons (Ent.wkp_refl _) wkSt_nil))))))
  exact wkL_cons (wk_refl _) (wkL_cons (wk_refl _) (wkL_cons (wk_refl _) (wkL_cons (wk_refl _) (wkL_cons (wk_refl _) (wkL_cons (wk_refl _) (wkL_cons (wk_tip _ (by simp [Tips])) (wkL_cons (wk_refl _) wkL_nil)))))))
 simp only [tips, List.map_cons, List.map_nil, List.append_assoc, List.cons_append, List.nil_append]
 have ht0 : topP w dt = thenE (listP 1 dt) noLib fun k => thenE (symP (k.getD 0 (.mk 0 0 [] 0 0 []))) noLib fun s =>
  bif decide (s = wLibrary) then thenE (listP 2 dt) noLib fun k2 => thenE (calledP (k2.getD 1 (.mk 0 0 [] 0 0 []))) noLib fun nm => declsL w (k.drop 2) { noLib with name := nm }
  else bif decide (s = wProgram) then declsL w (k.drop 1) noLib
  else (noLib, 2) := rfl
 have hpe : ∀ e : Int, (topP w dt).2 = e → e ≠ 0 → parseP w dt = (noLib, e) := fun e h1 h2 => by rw [hp0, h1, decide_eq_false h2]; rfl
 rcases (c_liblist dt 1 (wS (st ++ [.box zLib, .box [.int .i64 0], .box [.int .i64 (wrongL [dt] 0 0).1, .int .i64 (wrongL [dt] 0 0).2], .gone, .gone, .gone, .gone]) w (st.length + 3) noLib)).cases with ⟨he, hc⟩ | ⟨he, hc⟩
 ·rw [hWS] at hc
  refine hc.use (wkL_refl _) fun _ => ?_
  rw [thenE_ok he] at ht0
  have hm := listP_okM hok he
  obtain ⟨k, hk⟩ : ∃ k, (listP 1 dt).1 = k := ⟨_, rfl⟩
  rw [hk] at ht0 hm ⊢
  cases k with
  | nil => have := hm.2.2; simp at this
  | cons a r =>
   simp only [List.getD_cons_zero] at ht0
   simp only [gw0, reduceEqDiff, ↓reduceIte, reduceAdd, reduceLT, reduceLeDiff, reduceMul, gwD3, gwDT, pureR_none, ite_self, nilR, nilB, bitF, bitV, nilC, nilCmp, eqb, assertV, assertW, zeroV, wQ_normal, wQ_ret, wQ_panic, pickO, pickC, List.map_cons, List.map_nil, List.getD_cons_zero, List.getD_cons_succ, Env.keep, beq_self_eq_true, cond_true, cond_false, lstD, show Int.toNat 0 = 0 from rfl, show Int.toNat 1 = 1 from rfl, show Int.toNat 2 = 2 from rfl, List.drop_succ_cons, List.drop_zero, List.length_cons, List.length_map, List.map_cons, Nat.le_add_left, List.getD_cons_zero, List.getD_cons_succ, encD_take, encD_len, encD_drop, Nat.le_refl]
   refine ⟨⟨by omega, by omega⟩, ?_⟩
   rcases (c_libsym a (wS (st ++ [.box zLib, .box [.int .i64 0], .box [.int .i64 (wrongL [dt] 0 0).1, .int .i64 (wrongL [dt] 0 0).2], .gone, .gone, .gone, .gone]) w (st.length + 3) noLib)).cases with ⟨he2, hc2⟩ | ⟨he2, hc2⟩
   ·rw [hWS] at hc2
    refine hc2.use (wkL_refl _) fun _ => ?_
    rw [thenE_ok he2] at ht0
    generalize (symP a).1 = wd at ht0
    simp only [gw0, reduceEqDiff, ↓reduceIte, reduceAdd, reduceLT, reduceLeDiff, reduceMul, gwD3, gwDT, pureR_none, ite_self, nilR, nilB, bitF, bitV, nilC, nilCmp, eqb, assertV, assertW, zeroV, wQ_normal, wQ_ret, wQ_panic, pickO, pickC, List.map_cons, List.map_nil, List.getD_cons_zero, List.getD_cons_succ, Env.keep, beq_self_eq_true, cond_true, cond_false]
    refine iK_split (fun h3 => ?_) (fun h3 => ?_)
    ·rw [show decide (wd = wLibrary) = true from h3, cond_true] at ht0
     simp only [gw0, reduceEqDiff, ↓reduceIte, reduceAdd, reduceLT, reduceLeDiff, reduceMul, gwD3, gwDT, pureR_none, ite_self, nilR, nilB, bitF, bitV, nilC, nilCmp, eqb, assertV, assertW, zeroV, wQ_normal, wQ_ret, wQ_panic, pickO, pickC, List.map_cons, List.map_nil, List.getD_cons_zero, List.getD_cons_succ, Env.keep, beq_self_eq_true, cond_true, cond_false, encD_take, encD_len, encD_drop, Nat.le_refl]
     rcases (c_liblist dt 2 (wS (st ++ [.box zLib, .box [.int .i64 0], .box [.int .i64 (wrongL [dt] 0 0).1, .int .i64 (wrongL [dt] 0 0).2], .gone, .gone, .gone, .gone]) w (st.length + 3) noLib)).cases with ⟨he4, hc4⟩ | ⟨he4, hc4⟩
     ·rw [hWS] at hc4
      refine hc4.use (wkL_refl _) fun _ => ?_
      rw [thenE_ok he4] at ht0
      have hm4 := listP_okM hok he4
      have hks : (listP 2 dt).1 = a :: r := by rw [← hk]; exact listP_same he he4
      rw [hks] at ht0 hm4 ⊢
      cases r with
      | nil => have := hm4.2.2; simp at this
      | cons y z =>
       simp only [List.getD_cons_zero, List.getD_cons_succ, List.drop_succ_cons, List.drop_zero] at ht0
       simp only [gw0, reduceEqDiff, ↓reduceIte, reduceAdd, reduceLT, reduceLeDiff, reduceMul, gwD3, gwDT, pureR_none, ite_self, nilR, nilB, bitF, bitV, nilC, nilCmp, eqb, assertV, assertW, zeroV, wQ_normal, wQ_ret, wQ_panic, pickO, pickC, List.map_cons, List.map_nil, List.getD_cons_zero, List.getD_cons_succ, Env.keep, beq_self_eq_true, cond_true, cond_false, lstD, show Int.toNat 0 = 0 from rfl, show Int.toNat 1 = 1 from rfl, show Int.toNat 2 = 2 from rfl, List.drop_succ_cons, List.drop_zero, List.length_cons, List.length_map, List.map_cons, Nat.le_add_left, List.getD_cons_zero, List.getD_cons_succ, encD_take, encD_len, encD_drop, Nat.le_refl]
       refine ⟨⟨by omega, by omega⟩, ?_⟩
       have hmy : okM y := okMs_mem hm4.1 (by simp)
       have hmz : okMs z := hm4.1.2.2
       have hzl : z.length + 2 ≤ 2000 := hm4.2.1
       rcases (c_libcalled y hmy (wS (st ++ [.box zLib, .box [.int .i64 0], .box [.int .i64 (wrongL [dt] 0 0).1, .int .i64 (wrongL [dt] 0 0).2], .gone, .gone, .gone, .gone]) w (st.length + 3) noLib)).cases with ⟨he5, hc5⟩ | ⟨he5, hc5⟩
       ·rw [hWS] at hc5
        refine hc5.use (wkL_refl _) fun _ => ?_
        rw [thenE_ok he5] at ht0
        generalize (calledP y).1 = nm at ht0
        simp only [gw0, reduceEqDiff, ↓reduceIte, reduceAdd, reduceLT, reduceLeDiff, reduceMul, gwD3, gwDT, pureR_none, ite_self, nilR, nilB, bitF, bitV, nilC, nilCmp, eqb, assertV, assertW, zeroV, wQ_normal, wQ_ret, wQ_panic, pickO, pickC, List.map_cons, List.map_nil, List.getD_cons_zero, List.getD_cons_succ, Env.keep, beq_self_eq_true, cond_true, cond_false, cellsW, show Int.toNat 0 = 0 from rfl, show Int.toNat 1 = 1 from rfl, show Int.toNat 2 = 2 from rfl, List.drop_succ_cons, List.drop_zero, List.length_cons, List.length_map, List.map_cons, Nat.le_add_left, List.getD_cons_zero, List.getD_cons_succ]
        refine ⟨⟨by omega, by omega⟩, ?_⟩
        rcases (c_decls w z hmz (by omega) { noLib with name := nm } ⟨by simp [noLib], by simp [noLib], by simp [noLib]⟩ (st ++ [.box zLib, .box [.int .i64 0], .box [.int .i64 (wrongL [dt] 0 0).1, .int .i64 (wrongL [dt] 0 0).2], .gone, .gone, .gone, .gone]) (st.length + 3) hb).cases with ⟨he9, hc9⟩ | ⟨he9, hc9⟩
        ·rw [hWS, hWS] at hc9
         refine hc9.use (wkL_refl _) fun _ => ?_
         have hpok : parseP w dt = ((declsL w z { noLib with name := nm }).1, 0) := by rw [hp0, ht0, decide_eq_true he9, cond_true]; exact Prod.ext rfl he9
         generalize (declsL w z { noLib with name := nm }).1 = of at hpok ⊢
         simp only [gw0, reduceEqDiff, ↓reduceIte, reduceAdd, reduceLT, reduceLeDiff, reduceMul, gwD3, gwDT, pureR_none, ite_self, nilR, nilB, bitF, bitV, nilC, nilCmp, eqb, assertV, assertW, zeroV, wQ_normal, wQ_ret, wQ_panic, pickO, pickC, List.map_cons, List.map_nil, List.getD_cons_zero, List.getD_cons_succ, Env.keep, beq_self_eq_true, cond_true, cond_false, cellsW, zLib]
         refine dQ_ret (d_libidle _ _ _) ?_
         simp only [gw0, reduceEqDiff, ↓reduceIte, reduceAdd, reduceLT, reduceLeDiff, reduceMul, gwD3, gwDT, pureR_none, ite_self, nilR, nilB, bitF, bitV, nilC, nilCmp, eqb, assertV, assertW, zeroV, wQ_normal, wQ_ret, wQ_panic, pickO, pickC, List.map_cons, List.map_nil, List.getD_cons_zero, List.getD_cons_succ, Env.keep, beq_self_eq_true, cond_true, cond_false]
         rw [hpok]
         refine ⟨_, _, _, rfl, rfl, .tup (.cons (.agg (.cons (.same _) (.cons (.same _) (.cons (.arr (rows' := of.imps.map encSet) (e := 69) (by omega) (at_5 ..) (by simp) (ThawR.refl _)) (.cons (.same _) .nil))))) (.cons (.same _) .nil)), ?_, libV_lt _ _⟩
         exact wk_tup (wkL_cons (wk_agg (wkL_cons (wk_refl _) (wkL_cons (wk_tok _ _ _) (wkL_cons (wk_refl _) (wkL_cons (wk_tok _ _ _) wkL_nil))))) (wkL_cons (wk_refl _) wkL_nil))
        ·rw [hWS] at hc9
         rw [hWS] at hc9
         refine hc9.useP (wkL_refl _) ?_
         simp only [gw0, reduceEqDiff, ↓reduceIte, reduceAdd, reduceLT, reduceLeDiff, reduceMul, gwD3, gwDT, pureR_none, ite_self, nilR, nilB, bitF, bitV, nilC, nilCmp, eqb, assertV, assertW, zeroV, wQ_normal, wQ_ret, wQ_panic, pickO, pickC, List.map_cons, List.map_nil, List.getD_cons_zero, List.getD_cons_succ, Env.keep, beq_self_eq_true, cond_true, cond_false]
         refine dQ_panic (y_libcaught st _ (declsL w z { noLib with name := nm }).2 0 (hokE (declsL w z { noLib with name := nm }).1 _)) ?_
         simp only [gw0, reduceEqDiff, ↓reduceIte, reduceAdd, reduceLT, reduceLeDiff, reduceMul, gwD3, gwDT, pureR_none, ite_self, nilR, nilB, bitF, bitV, nilC, nilCmp, eqb, assertV, assertW, zeroV, wQ_normal, wQ_ret, wQ_panic, pickO, pickC, List.map_cons, List.map_nil, List.getD_cons_zero, List.getD_cons_succ, Env.keep, beq_self_eq_true, cond_true, cond_false, zLib]
         rw [hpe _ (by rw [ht0]) he9]
         exact ⟨_, _, _, rfl, rfl, .same _, hz _, libV_lt _ _⟩
       ·rw [thenE_bad he5] at ht0
        rw [hWS] at hc5
        refine hc5.useP (wkL_refl _) ?_
        simp only [gw0, reduceEqDiff, ↓reduceIte, reduceAdd, reduceLT, reduceLeDiff, reduceMul, gwD3, gwDT, pureR_none, ite_self, nilR, nilB, bitF, bitV, nilC, nilCmp, eqb, assertV, assertW, zeroV, wQ_normal, wQ_ret, wQ_panic, pickO, pickC, List.map_cons, List.map_nil, List.getD_cons_zero, List.getD_cons_succ, Env.keep, beq_self_eq_true, cond_true, cond_false]
        refine dQ_panic (y_libcaught st _ (calledP y).2 0 (hokE noLib _)) ?_
        simp only [gw0, reduceEqDiff, ↓reduceIte, reduceAdd, reduceLT, reduceLeDiff, reduceMul, gwD3, gwDT, pureR_none, ite_self, nilR, nilB, bitF, bitV, nilC, nilCmp, eqb, assertV, assertW, zeroV, wQ_normal, wQ_ret, wQ_panic, pickO, pickC, List.map_cons, List.map_nil, List.getD_cons_zero, List.getD_cons_succ, Env.keep, beq_self_eq_true, cond_true, cond_false, zLib]
        rw [hpe _ (by rw [ht0]) he5]
        exact ⟨_, _, _, rfl, rfl, .same _, hz _, libV_lt _ _⟩
     ·rw [thenE_bad he4] at ht0
      rw [hWS] at hc4
      refine hc4.useP (wkL_refl _) ?_
      simp only [gw0, reduceEqDiff, ↓reduceIte, reduceAdd, reduceLT, reduceLeDiff, reduceMul, gwD3, gwDT, pureR_none, ite_self, nilR, nilB, bitF, bitV, nilC, nilCmp, eqb, assertV, assertW, zeroV, wQ_normal, wQ_ret, wQ_panic, pickO, pickC, List.map_cons, List.map_nil, List.getD_cons_zero, List.getD_cons_succ, Env.keep, beq_self_eq_true, cond_true, cond_false]
      refine dQ_panic (y_libcaught st _ (listP 2 dt).2 0 (hokE noLib _)) ?_
      simp only [gw0, reduceEqDiff, ↓reduceIte, reduceAdd, reduceLT, reduceLeDiff, reduceMul, gwD3, gwDT, pureR_none, ite_self, nilR, nilB, bitF, bitV, nilC, nilCmp, eqb, assertV, assertW, zeroV, wQ_normal, wQ_ret, wQ_panic, pickO, pickC, List.map_cons, List.map_nil, List.getD_cons_zero, List.getD_cons_succ, Env.keep, beq_self_eq_true, cond_true, cond_false, zLib]
      rw [hpe _ (by rw [ht0]) he4]
      exact ⟨_, _, _, rfl, rfl, .same _, hz _, libV_lt _ _⟩
    ·rw [show decide (wd = wLibrary) = false from h3, cond_false] at ht0
     simp only [gw0, reduceEqDiff, ↓reduceIte, reduceAdd, reduceLT, reduceLeDiff, reduceMul, gwD3, gwDT, pureR_none, ite_self, nilR, nilB, bitF, bitV, nilC, nilCmp, eqb, assertV, assertW, zeroV, wQ_normal, wQ_ret, wQ_panic, pickO, pickC, List.map_cons, List.map_nil, List.getD_cons_zero, List.getD_cons_succ, Env.keep, beq_self_eq_true, cond_true, cond_false]
     refine iK_split (fun h4 => ?_) (fun h4 => ?_)
     ·rw [show decide (wd = wProgram) = true from h4, cond_true] at ht0
      simp only [List.drop_succ_cons, List.drop_zero] at ht0
      have hmr : okMs r := hm.1.2
      have hrl : r.length + 1 ≤ 2000 := hm.2.1
      simp only [gw0, reduceEqDiff, ↓reduceIte, reduceAdd, reduceLT, reduceLeDiff, reduceMul, gwD3, gwDT, pureR_none, ite_self, nilR, nilB, bitF, bitV, nilC, nilCmp, eqb, assertV, assertW, zeroV, wQ_normal, wQ_ret, wQ_panic, pickO, pickC, List.map_cons, List.map_nil, List.getD_cons_zero, List.getD_cons_succ, Env.keep, beq_self_eq_true, cond_true, cond_false, show Int.toNat 0 = 0 from rfl, show Int.toNat 1 = 1 from rfl, show Int.toNat 2 = 2 from rfl, List.drop_succ_cons, List.drop_zero, List.length_cons, List.length_map, List.map_cons, Nat.le_add_left, List.getD_cons_zero, List.getD_cons_succ]
      refine ⟨⟨by omega, by omega⟩, ?_⟩
      rcases (c_decls w r hmr (by omega) noLib ⟨by simp [noLib], by simp [noLib], by simp [noLib]⟩ (st ++ [.box zLib, .box [.int .i64 0], .box [.int .i64 (wrongL [dt] 0 0).1, .int .i64 (wrongL [dt] 0 0).2], .gone, .gone, .gone, .gone]) (st.length + 3) hb).cases with ⟨he9, hc9⟩ | ⟨he9, hc9⟩
      ·rw [hWS, hWS] at hc9
       refine hc9.use (wkL_refl _) fun _ => ?_
       have hpok : parseP w dt = ((declsL w r noLib).1, 0) := by rw [hp0, ht0, decide_eq_true he9, cond_true]; exact Prod.ext rfl he9
       generalize (declsL w r noLib).1 = of at hpok ⊢
       simp only [gw0, reduceEqDiff, ↓reduceIte, reduceAdd, reduceLT, reduceLeDiff, reduceMul, gwD3, gwDT, pureR_none, ite_self, nilR, nilB, bitF, bitV, nilC, nilCmp, eqb, assertV, assertW, zeroV, wQ_normal, wQ_ret, wQ_panic, pickO, pickC, List.map_cons, List.map_nil, List.getD_cons_zero, List.getD_cons_succ, Env.keep, beq_self_eq_true, cond_true, cond_false, cellsW, zLib]
       refine dQ_ret (d_libidle _ _ _) ?_
       simp only [gw0, reduceEqDiff, ↓reduceIte, reduceAdd, reduceLT, reduceLeDiff, reduceMul, gwD3, gwDT, pureR_none, ite_self, nilR, nilB, bitF, bitV, nilC, nilCmp, eqb, assertV, assertW, zeroV, wQ_normal, wQ_ret, wQ_panic, pickO, pickC, List.map_cons, List.map_nil, List.getD_cons_zero, List.getD_cons_succ, Env.keep, beq_self_eq_true, cond_true, cond_false]
       rw [hpok]
       refine ⟨_, _, _, rfl, rfl, .tup (.cons (.agg (.cons (.same _) (.cons (.same _) (.cons (.arr (rows' := of.imps.map encSet) (e := 69) (by omega) (at_5 ..) (by simp) (ThawR.refl _)) (.cons (.same _) .nil))))) (.cons (.same _) .nil)), ?_, libV_lt _ _⟩
       exact wk_tup (wkL_cons (wk_agg (wkL_cons (wk_refl _) (wkL_cons (wk_tok _ _ _) (wkL_cons (wk_refl _) (wkL_cons (wk_tok _ _ _) wkL_nil))))) (wkL_cons (wk_refl _) wkL_nil))
      ·rw [hWS] at hc9
       rw [hWS] at hc9
       refine hc9.useP (wkL_refl _) ?_
       simp only [gw0, reduceEqDiff, ↓reduceIte, reduceAdd, reduceLT, reduceLeDiff, reduceMul, gwD3, gwDT, pureR_none, ite_self, nilR, nilB, bitF, bitV, nilC, nilCmp, eqb, assertV, assertW, zeroV, wQ_normal, wQ_ret, wQ_panic, pickO, pickC, List.map_cons, List.map_nil, List.getD_cons_zero, List.getD_cons_succ, Env.keep, beq_self_eq_true, cond_true, cond_false]
       refine dQ_panic (y_libcaught st _ (declsL w r noLib).2 0 (hokE (declsL w r noLib).1 _)) ?_
       simp only [gw0, reduceEqDiff, ↓reduceIte, reduceAdd, reduceLT, reduceLeDiff, reduceMul, gwD3, gwDT, pureR_none, ite_self, nilR, nilB, bitF, bitV, nilC, nilCmp, eqb, assertV, assertW, zeroV, wQ_normal, wQ_ret, wQ_panic, pickO, pickC, List.map_cons, List.map_nil, List.getD_cons_zero, List.getD_cons_succ, Env.keep, beq_self_eq_true, cond_true, cond_false, zLib]
       rw [hpe _ (by rw [ht0]) he9]
       exact ⟨_, _, _, rfl, rfl, .same _, hz _, libV_lt _ _⟩
     ·rw [show decide (wd = wProgram) = false from h4, cond_false] at ht0
      simp only [gw0, reduceEqDiff, ↓reduceIte, reduceAdd, reduceLT, reduceLeDiff, reduceMul, gwD3, gwDT, pureR_none, ite_self, nilR, nilB, bitF, bitV, nilC, nilCmp, eqb, assertV, assertW, zeroV, wQ_normal, wQ_ret, wQ_panic, pickO, pickC, List.map_cons, List.map_nil, List.getD_cons_zero, List.getD_cons_succ, Env.keep, beq_self_eq_true, cond_true, cond_false]
      refine (c_libfail _ 2).useP (wkL_refl _) ?_
      simp only [gw0, reduceEqDiff, ↓reduceIte, reduceAdd, reduceLT, reduceLeDiff, reduceMul, gwD3, gwDT, pureR_none, ite_self, nilR, nilB, bitF, bitV, nilC, nilCmp, eqb, assertV, assertW, zeroV, wQ_normal, wQ_ret, wQ_panic, pickO, pickC, List.map_cons, List.map_nil, List.getD_cons_zero, List.getD_cons_succ, Env.keep, beq_self_eq_true, cond_true, cond_false]
      refine dQ_panic (y_libcaught st _ 2 0 (hokE noLib _)) ?_
      simp only [gw0, reduceEqDiff, ↓reduceIte, reduceAdd, reduceLT, reduceLeDiff, reduceMul, gwD3, gwDT, pureR_none, ite_self, nilR, nilB, bitF, bitV, nilC, nilCmp, eqb, assertV, assertW, zeroV, wQ_normal, wQ_ret, wQ_panic, pickO, pickC, List.map_cons, List.map_nil, List.getD_cons_zero, List.getD_cons_succ, Env.keep, beq_self_eq_true, cond_true, cond_false, zLib]
      rw [hpe _ (by rw [ht0]) (show (2 : Int) ≠ 0 by decide)]
      exact ⟨_, _, _, rfl, rfl, .same _, hz _, libV_lt _ _⟩
   ·rw [thenE_bad he2] at ht0
    rw [hWS] at hc2
    refine hc2.useP (wkL_refl _) ?_
    simp only [gw0, reduceEqDiff, ↓reduceIte, reduceAdd, reduceLT, reduceLeDiff, reduceMul, gwD3, gwDT, pureR_none, ite_self, nilR, nilB, bitF, bitV, nilC, nilCmp, eqb, assertV, assertW, zeroV, wQ_normal, wQ_ret, wQ_panic, pickO, pickC, List.map_cons, List.map_nil, List.getD_cons_zero, List.getD_cons_succ, Env.keep, beq_self_eq_true, cond_true, cond_false]
    refine dQ_panic (y_libcaught st _ (symP a).2 0 (hokE noLib _)) ?_
    simp only [gw0, reduceEqDiff, ↓reduceIte, reduceAdd, reduceLT, reduceLeDiff, reduceMul, gwD3, gwDT, pureR_none, ite_self, nilR, nilB, bitF, bitV, nilC, nilCmp, eqb, assertV, assertW, zeroV, wQ_normal, wQ_ret, wQ_panic, pickO, pickC, List.map_cons, List.map_nil, List.getD_cons_zero, List.getD_cons_succ, Env.keep, beq_self_eq_true, cond_true, cond_false, zLib]
    rw [hpe _ (by rw [ht0]) he2]
    exact ⟨_, _, _, rfl, rfl, .same _, hz _, libV_lt _ _⟩
 ·rw [thenE_bad he] at ht0
  rw [hWS] at hc
  refine hc.useP (wkL_refl _) ?_
  simp only [gw0, reduceEqDiff, ↓reduceIte, reduceAdd, reduceLT, reduceLeDiff, reduceMul, gwD3, gwDT, pureR_none, ite_self, nilR, nilB, bitF, bitV, nilC, nilCmp, eqb, assertV, assertW, zeroV, wQ_normal, wQ_ret, wQ_panic, pickO, pickC, List.map_cons, List.map_nil, List.getD_cons_zero, List.getD_cons_succ, Env.keep, beq_self_eq_true, cond_true, cond_false]
  refine dQ_panic (y_libcaught st _ (listP 1 dt).2 0 (hokE noLib _)) ?_
  simp only [gw0, reduceEqDiff, ↓reduceIte, reduceAdd, reduceLT, reduceLeDiff, reduceMul, gwD3, gwDT, pureR_none, ite_self, nilR, nilB, bitF, bitV, nilC, nilCmp, eqb, assertV, assertW, zeroV, wQ_normal, wQ_ret, wQ_panic, pickO, pickC, List.map_cons, List.map_nil, List.getD_cons_zero, List.getD_cons_succ, Env.keep, beq_self_eq_true, cond_true, cond_false, zLib]
  rw [hpe _ (by rw [ht0]) he]
  exact ⟨_, _, _, rfl, rfl, .same _, hz _, libV_lt _ _⟩
theorem shapes_cons (d : Datum) (r : List Datum) (deep c : Int) : shapeDs (d :: r) deep c = bif decide ((shapeD d deep c).1 = 0) then shapeDs r deep (shapeD d deep c).2 else shapeD d deep c := by rw [shapeDs]
def Ld (l : List Datum) : Datum := .mk 4 0 [] 0 0 l
def Sd (s : Str) : Datum := .mk 3 0 s 0 0 []
theorem wrong_one (d : Datum) : (wrongL [d] 0 0).1 = (shapeD d 1 0).1 := by
 simp only [wrongL]
 cases e : decide ((shapeD d 1 0).1 = 0) with
 | true => simp only [cond_true]; exact (of_decide_eq_true e).symm
 | false => rfl
/-- The same, as far as it counts. -/
def same2 {α : Type} (x y : α × Int) : Prop := x.2 = y.2 ∧ (x.2 = 0 → x.1 = y.1)
theorem same2.refl {α : Type} (x : α × Int) : same2 x x := ⟨rfl, fun _ => rfl⟩
theorem exportP_cons (d : Datum) (r : List Datum) (o : Lib') : exportP (d :: r) o = bif decide ((exportOne d).2 = 0) then
      (bif o.exps.any (fun p => decide (p.1 = (exportOne d).1.1)) then (o, 8) else bif decide (o.exps.length = 200) then (o, 5) else exportP r { o with exps := o.exps ++ [(exportOne d).1] })
  else (o, (exportOne d).2) := rfl
theorem importP_cons (d : Datum) (r : List Datum) (o : Lib') : importP (d :: r) o = bif decide (o.imps.length = 20) then (o, 5) else bif decide ((setP 12 d).2 = 0) then importP r { o with imps := o.imps ++ [(setP 12 d).1] } else (o, (setP 12 d).2) := rfl
theorem includeP_cons (w : Wd) (d : Datum) (r : List Datum) (o : Lib') : includeP w (d :: r) o = bif decide ((symP d).2 = 0) then
      (match fileOf (symP d).1 w.files with
      | none => (o, 6)
      | some t => match readR t with
       | .inl f => (o, f.1)
       | .inr k => bif decide ((bodyL k o).2 = 0) then includeP w r (bodyL k o).1 else bodyL k o)
  else (o, (symP d).2) := by rw [includeP]; rfl
theorem export_name : ∀ (l : List Datum) (o : Lib'), (exportP l o).1.name = o.name
 | [], o => rfl
 | d :: r, o => by
  simp only [exportP]
  cases decide ((exportOne d).2 = 0) with
  | false => rfl
  | true =>
   cases o.exps.any fun p => decide (p.1 = (exportOne d).1.1) with
   | true => rfl
   | false =>
    cases decide (o.exps.length = 200) with
    | true => rfl
    | false => exact export_name r _
theorem decls_one (w : Wd) (d : Datum) (o : Lib') : declsL w [d] o = declD w d o := by
 rw [declsL_cons]
 cases e : decide ((declD w d o).2 = 0) with
 | false => rfl
 | true => simp only [cond_true, declsL]; exact Prod.ext rfl (of_decide_eq_true e).symm
theorem list_L {l : List Datum} {n : Nat} (h : n ≤ l.length) : listP n (Ld l) = (l, 0) := by
 simp only [Ld, listP, decide_true, Bool.not_true, Bool.false_or]
 rw [decide_eq_false (by omega)]; rfl
theorem top_prog (w : Wd) (l : List Datum) : topP w (Ld (Sd wProgram :: l)) = declsL w l noLib := by
 unfold topP
 rw [list_L (by simp), thenE_ok rfl]
 simp only [List.getD_cons_zero]
 rw [show symP (Sd wProgram) = (wProgram, 0) from rfl, thenE_ok rfl]
 rfl
theorem encLib_len (o : Lib') : (encLib o).length = 4 := rfl
theorem encLib_take (o : Lib') : (encLib o).take 4 = encLib o := rfl
theorem encLib_drop (o : Lib') : (encLib o).drop 4 = [] := rfl
mutual
theorem eqD_self : ∀ d : Datum, eqD d d = true
 | .mk k n nm s l kids => by
  simp only [eqD, decide_true, cond_true, Bool.and_self, eqDs_self kids]
  cases decide (k = 1) <;> cases decide (k = 2) <;> cases decide (k = 3) <;> cases decide (k = 4) <;> rfl
theorem eqDs_self : ∀ l : List Datum, eqDs l l = true
 | [] => by simp only [eqDs]
 | a :: r => by simp only [eqDs, eqD_self a, eqDs_self r, Bool.and_self]
end
theorem fit_rows {α : Type} {f : α → List V} {l : List α} {a : α} (h : fitR (l.map f)) (ha : a ∈ l) : fitL (f a) := by
 induction l with
 | nil => simp at ha
 | cons x l ih =>
  rcases List.mem_cons.1 ha with rfl | ha
  ·exact h.1
  ·exact ih h.2 ha
def kidsOf : Set' → List Set'
 | .mk _ _ _ _ _ kids => kids
theorem encSet_drop (s : Set') : (encSet s).drop 6 = [] := List.drop_of_length_le (by rw [encSet_len]; exact Nat.le_refl _)
/-- Pairs that are the same. -/
theorem c_ref2Same (l : Prs) (st : St) : VCalls Tryz.prog TT 27 [.lst 2 none (rows2 l), .lst 2 none (rows2 l)] st fun r st' => r = .ret (.bool true) ∧ st' = st := by
 refine vfun TT_ok (an := anL []) (L := [0, 1, 4, 5, 12, 13]) (rs := [.tmp 4]) Tryz.func27 rfl (by kernel_rfl) rfl Tryz.ntmps27 rfl rfl (Nat.le_refl _) fun hst ha hf => ?_
 simp only [rows2, fitL, V.fit, List.length_map] at hf ⊢
 have hkl : l.length ≤ 9223372036854775807 := by simp at hf; omega
 simp only [gw0, reduceEqDiff, ↓reduceIte, reduceAdd, reduceLT, reduceLeDiff, reduceMul, List.length_map]
 refine vfor (σ := Nat) [0, 1, 4, 12, 13] (fun i => [(0, true, .lst 2 none (rows2 l)), (1, true, .lst 2 none (rows2 l)), (4, true, .bool false), (12, true, .int .i64 l.length), (13, true, .int .i64 i)]) (fun i => st) (fun i => l.length - i) (fun i => i ≤ l.length ∧ (0 : Nat) = 0) 0 rfl TT_ok ⟨Nat.zero_le _, rfl⟩ rfl rfl ?_
 rintro i ⟨hi, _⟩
 simp only [rows2]
 rcases at_or_end l i hi with ⟨rfl, hd⟩ | ⟨a, hlt, hget, hdr⟩
 ·simp only [gw0, reduceEqDiff, ↓reduceIte, reduceAdd, reduceLT, reduceLeDiff, reduceMul, lt_no]
  exact gives_bool rfl hst
 ·simp only [gw0, reduceEqDiff, ↓reduceIte, reduceAdd, reduceLT, reduceLeDiff, reduceMul, lt_yes hlt, List.length_map, Int.ofNat_lt.mpr hlt]
  refine vdraw TT_ok TT_mixed [0, 0, 0, 1, 0, 0, 0, 1, 0] (by kernel_rfl) ?_
  simp only [gw0, reduceEqDiff, ↓reduceIte, reduceAdd, reduceLT, reduceLeDiff, reduceMul, List.length_map, getD_map hget, Int.ofNat_lt.mpr hlt, encF2]
  exact ⟨i + 1, by rw [next_i64 hlt hkl]; rfl, by omega, hlt⟩
/-- Strings that are the same, in a row. -/
theorem c_SameSets_of (l : List Set') (ih : ∀ d ∈ l, ∀ st : St, VCalls Tryz.prog TT 28 [.lst 6 none ((kidsOf d).map encSet), .lst 6 none ((kidsOf d).map encSet)] st fun r st' => r = .ret (.bool true) ∧ st' = st) (st : St) :
  VCalls Tryz.prog TT 28 [.lst 6 none (l.map encSet), .lst 6 none (l.map encSet)] st fun r st' => r = .ret (.bool true) ∧ st' = st := by
 refine vfun TT_ok (an := anL []) (L := [0, 1, 4, 5, 6, 7, 8, 15, 16, 74, 75]) (rs := [.tmp 4]) Tryz.func28 rfl (by kernel_rfl) rfl Tryz.ntmps28 rfl rfl (Nat.le_refl _) fun hst ha hf => ?_
 simp only [fitL, V.fit, List.length_map] at hf ⊢
 obtain ⟨⟨hkl, hfl⟩, _⟩ := hf
 simp only [gw0, reduceEqDiff, ↓reduceIte, reduceAdd, reduceLT, reduceLeDiff, reduceMul, List.length_map]
 refine vfor (σ := Nat × St) [0, 1, 4, 15, 16] (fun x => [(0, true, .lst 6 none (l.map encSet)), (1, true, .lst 6 none (l.map encSet)), (4, true, .bool false), (15, true, .int .i64 l.length), (16, true, .int .i64 x.1)]) (fun x => st ++ x.2) (fun x => l.length - x.1) (fun x => x.1 ≤ l.length ∧ (0 : Nat) = 0) (0, []) rfl TT_ok ⟨Nat.zero_le _, rfl⟩ rfl (List.append_nil st).symm ?_
 rintro ⟨i, ex⟩ ⟨hi, _⟩
 simp only at hi ⊢
 rcases at_or_end l i hi with ⟨rfl, hd⟩ | ⟨a, hlt, hget, hdr⟩
 ·simp only [gw0, reduceEqDiff, ↓reduceIte, reduceAdd, reduceLT, reduceLeDiff, reduceMul, lt_no]
  exact gives_bool' rfl hst
 ·have ih := ih a (List.mem_of_getElem? hget)
  simp only [gw0, reduceEqDiff, ↓reduceIte, reduceAdd, reduceLT, reduceLeDiff, reduceMul, lt_yes hlt, List.length_map, Int.ofNat_lt.mpr hlt]
  refine vdraw2 TT_ok TT_mixed (σ := Nat × Nat × St) [0, 0, 0, 0, 0, 0, 0, 0, 2, 2, 2, 2] [0, 1, 2, 3, 4, 5, 6, 7, 9, 8, 10, 11] 8 9 [0, 1, 4, 5, 6, 7, 15, 16] (fun x => [(0, true, .lst 6 none (l.map encSet)), (1, true, .lst 6 none (l.map encSet)), (4, true, .bool false), (5, true, .int .i64 i), (6, true, .ptr x.1 0), (7, true, .ptr x.2.1 0), (15, true, .int .i64 l.length), (16, true, .int .i64 i)]) (fun x => st ++ x.2.2) (fun x => (st ++ x.2.2)[x.1]? = some (.box (encSet a)) ∧ (st ++ x.2.2)[x.2.1]? = some (.box (encSet a))) rfl (by kernel_rfl) ?_ ?_ ?_
  ·simp only [gw0, reduceEqDiff, ↓reduceIte, reduceAdd, reduceLT, reduceLeDiff, reduceMul, List.length_map, getD_map hget, Int.ofNat_lt.mpr hlt, encSet_take, encSet_len, encSet_drop]
   exact ⟨rfl, rfl, (st.length + ex.length, st.length + (ex.length + 1), ex ++ [Ent.box (encSet a), Ent.box (encSet a)]), rfl, rfl, by simp [List.getElem?_append_right], by simp [List.getElem?_append_right]⟩
  ·simp only [pickO, pickC, List.map_cons, List.map_nil, List.getD_cons_zero, List.getD_cons_succ]
   simp only [gw0, reduceEqDiff, ↓reduceIte, reduceAdd, reduceLT, reduceLeDiff, reduceMul, List.length_map, getD_map hget, Int.ofNat_lt.mpr hlt, encSet_take, encSet_len, encSet_drop]
   exact ⟨rfl, rfl, (st.length + (ex.length + 1), st.length + ex.length, ex ++ [Ent.box (encSet a), Ent.box (encSet a)]), rfl, rfl, by simp [List.getElem?_append_right], by simp [List.getElem?_append_right]⟩
  ·rintro ⟨n1, n2, ex3⟩ ⟨h1, h2⟩
   simp only at h1 h2 ⊢
   have hfa := fit_rows hfl (List.mem_of_getElem? hget)
   obtain ⟨k, nm, ns, az, pre, kids⟩ := a
   simp only [kidsOf] at ih
   simp only [encSet_mk, encS, fitL, V.fit, List.length_map] at h1 h2 hfa
   have hnl : ns.length ≤ 9223372036854775807 := hfa.2.2.1.1
   have hal : az.length ≤ 9223372036854775807 := hfa.2.2.2.1.1
   simp only [gw0, reduceEqDiff, ↓reduceIte, reduceAdd, reduceLT, reduceLeDiff, reduceMul, h1, h2, encS, List.length_map]
   refine rK_guarded (.bool true) (fun _ => ih _) ?_
   simp only [gw0, reduceEqDiff, ↓reduceIte, reduceAdd, reduceLT, reduceLeDiff, reduceMul, h1, h2, List.length_map]
   refine vfor (σ := Nat) [0, 1, 4, 5, 6, 7, 15, 16, 74, 75] (fun x => [(0, true, .lst 6 none (l.map encSet)), (1, true, .lst 6 none (l.map encSet)), (4, true, .bool false), (5, true, .int .i64 i), (6, true, .ptr n1 0), (7, true, .ptr n2 0), (15, true, .int .i64 l.length), (16, true, .int .i64 i), (74, true, .int .i64 ns.length), (75, true, .int .i64 x)]) (fun x => st ++ ex3) (fun x => ns.length - x) (fun x => x ≤ ns.length ∧ (0 : Nat) = 0) 0 rfl TT_ok ⟨Nat.zero_le _, rfl⟩ rfl rfl ?_
   rintro j ⟨hj, _⟩
   simp only at hj ⊢
   rcases at_or_end ns j hj with ⟨rfl, hd3⟩ | ⟨u, hltj, hgetj, hdrj⟩
   ·simp only [gw0, reduceEqDiff, ↓reduceIte, reduceAdd, reduceLT, reduceLeDiff, reduceMul, lt_no]
    exact ⟨(i + 1, ex3), by simp only [next_i64 hlt hkl]; rfl, rfl, by simp only; omega, by simp only; omega⟩
   ·simp only [gw0, reduceEqDiff, ↓reduceIte, reduceAdd, reduceLT, reduceLeDiff, reduceMul, lt_yes hltj, List.length_map, Int.ofNat_lt.mpr hltj]
    refine vdraw TT_ok TT_mixed [0, 1, 0, 0, 1, 0, 1, 0, 0, 1, 0, 0, 0, 1, 0, 0, 0, 0, 0, 1, 0, 0, 1, 0, 1, 0, 0, 1, 0, 0, 0] (by kernel_rfl) ?_
    by_cases hja : j < az.length
    ·obtain ⟨v, hv⟩ : ∃ v, az[j]? = some v := ⟨az[j], List.getElem?_eq_getElem hja⟩
     simp only [gw0, reduceEqDiff, ↓reduceIte, reduceAdd, reduceLT, reduceLeDiff, reduceMul, h1, h2, List.length_map, getD_map hgetj, getD_map hv, Int.ofNat_lt.mpr hltj, Int.ofNat_lt.mpr hja]
     exact ⟨j + 1, by rw [next_i64 hltj hnl]; rfl, by omega, hltj⟩
    ·have hn : decide ((j : Int) < (az.length : Int)) = false := decide_eq_false (by omega)
     have hg : (az.map fun s => [V.str s]).getD j [] = [] := by
      rw [List.getD_eq_getElem?_getD, List.getElem?_eq_none (by rw [List.length_map]; omega)]; rfl
     simp only [gw0, reduceEqDiff, ↓reduceIte, reduceAdd, reduceLT, reduceLeDiff, reduceMul, h1, h2, List.length_map, getD_map hgetj, Int.ofNat_lt.mpr hltj, hn, hg]
     exact ⟨j + 1, by rw [next_i64 hltj hnl]; rfl, by omega, hltj⟩
theorem c_SameSet (s : Set') : ∀ (st : St), VCalls Tryz.prog TT 28 [.lst 6 none ((kidsOf s).map encSet), .lst 6 none ((kidsOf s).map encSet)] st fun r st' => r = .ret (.bool true) ∧ st' = st :=
 Set'.ind (p := fun d => ∀ st : St, VCalls Tryz.prog TT 28 [.lst 6 none ((kidsOf d).map encSet), .lst 6 none ((kidsOf d).map encSet)] st fun r st' => r = .ret (.bool true) ∧ st' = st) (fun _ _ _ _ _ kids ih st => c_SameSets_of kids ih st) s
theorem c_SameSets (l : List Set') (st : St) : VCalls Tryz.prog TT 28 [.lst 6 none (l.map encSet), .lst 6 none (l.map encSet)] st fun r st' => r = .ret (.bool true) ∧ st' = st :=
 c_SameSets_of l (fun d _ st => c_SameSet d st) st
theorem c_ref3Same (o : Lib') (st : St) : VCalls Tryz.prog TT 8 [.agg (encLib o), .agg (encLib o)] st fun r st' => r = .ret (.bool true) ∧ st' = st := by
 refine vfun TT_ok (an := anL [(2, 1), (3, 1)]) (L := [0, 1, 2, 3, 4]) (rs := [.tmp 4]) Tryz.func8 rfl (by kernel_rfl) rfl Tryz.ntmps8 rfl rfl (Nat.le_refl _) fun hst ha hf => ?_
 simp only [encLib]
 simp only [gw0, reduceEqDiff, ↓reduceIte, reduceAdd, reduceLT, reduceLeDiff, reduceMul]
 refine rK_guarded (.bool true) (fun _ => c_ref2Same o.exps _) ?_
 simp only [gw0, reduceEqDiff, ↓reduceIte, reduceAdd, reduceLT, reduceLeDiff, reduceMul]
 refine rK_guarded (.bool true) (fun _ => c_SameSets o.imps _) ?_
 simp only [gw0, reduceEqDiff, ↓reduceIte, reduceAdd, reduceLT, reduceLeDiff, reduceMul]
 refine rK_guarded (.bool (eqDs o.body o.body)) (fun _ => c_Same_of o.body (fun d _ => c_Equal d) o.body _) ?_
 simp only [gw0, reduceEqDiff, ↓reduceIte, reduceAdd, reduceLT, reduceLeDiff, reduceMul, eqDs_self]
 exact gives_bool rfl hst
theorem c_one (s : Str) (d : Datum) (h : readR s = .inr [d]) (st : St) : VCalls Tryz.prog TT 30 [.str s] st fun r st' => r = .ret (.agg (encD d)) ∧ st' = st := by
 refine vfun TT_ok (an := anL []) (L := [0, 2, 3, 4]) (rs := [.cell 2 26]) Tryz.func30 rfl (by kernel_rfl) rfl Tryz.ntmps30 rfl rfl (Nat.le_refl _) fun hst ha hf => ?_
 simp only [gw0, reduceEqDiff, ↓reduceIte, reduceAdd, reduceLT, reduceLeDiff, reduceMul]
 refine (c_Read s _).use (wkL_refl _) fun _ => ?_
 rw [h]
 simp only [readV, fltV]
 simp only [gw0, reduceEqDiff, ↓reduceIte, reduceAdd, reduceLT, reduceLeDiff, reduceMul, lstD, List.map_cons, List.map_nil, List.length_cons, List.length_nil, encD_take, encD_len, encD_drop, Nat.le_refl]
 simp only [gw0, reduceEqDiff, ↓reduceIte, reduceAdd, reduceLT, reduceLeDiff, reduceMul, show decide (((1 : Nat) : Int) = 1) = true from rfl, Bool.not_true, lstD, List.map_cons, List.map_nil, List.length_cons, List.length_nil, encD_take, encD_len, encD_drop, Nat.le_refl, show Int.toNat 0 = 0 from rfl, List.getD_cons_zero, show ((0 : Int) ≤ 0 ∧ (0 : Int) < ((1 : Nat) : Int)) = True by simp, true_and]
 exact gives_of (X := .agg (encD d)) (wk_refl _) (wkSt_refl _) (by simp only [V.lt]; exact encD_lt _ _) hst
def aliveF : Str := [40, 100, 101, 102, 105, 110, 101, 32, 120, 32, 49, 41]
def aliveS : Str := [40, 108, 105, 98, 114, 97, 114, 121, 32, 40, 97, 32, 98, 41, 32, 40, 101, 120, 112, 111, 114, 116, 32, 120, 41, 32, 40, 105, 110, 99, 108, 117, 100, 101, 32, 102, 41, 41]
def aliveD : Datum := Ld [Sd wLibrary, Ld [Sd [97], Sd [98]], Ld [Sd wExport, Sd [120]], Ld [Sd wInclude, Sd [102]]]
def aliveW : Wd := ⟨[([102], aliveF)], [], []⟩
def aliveO : Lib' := ⟨[97, 32, 98], [([120], [120])], [], [Ld [Sd [100, 101, 102, 105, 110, 101], Sd [120], .mk 1 1 [] 0 0 []]]⟩
theorem alive_read : readR aliveS = .inr [aliveD] := by kernel_rfl
theorem alive_parse : parseP aliveW aliveD = (aliveO, 0) := by kernel_rfl
theorem c_alive (st : St) : VCalls Tryz.prog TT 9 [] st fun r st' => r = .ret (.bool true) ∧ st' = st := by
 refine vfun TT_ok (an := anL []) (L := [0, 1, 2]) (rs := [.tmp 0]) Tryz.func9 rfl (by kernel_rfl) rfl Tryz.ntmps9 rfl rfl (Nat.le_refl _) fun hst ha hf => ?_
 simp only [gw0, reduceEqDiff, ↓reduceIte, reduceAdd, reduceLT, reduceLeDiff, reduceMul, gwD3, gwDT, pureR_none, ite_self, nilR, nilB, bitF, bitV, nilC, nilCmp, eqb, assertV, assertW, zeroV, wQ_normal, wQ_ret, wQ_panic, pickO, pickC, List.map_cons, List.map_nil, List.getD_cons_zero, List.getD_cons_succ, Env.keep, beq_self_eq_true, cond_true, cond_false]
 refine (c_one aliveS aliveD alive_read _).use (wkL_refl _) fun _ => ?_
 simp only [gw0, reduceEqDiff, ↓reduceIte, reduceAdd, reduceLT, reduceLeDiff, reduceMul, gwD3, gwDT, pureR_none, ite_self, nilR, nilB, bitF, bitV, nilC, nilCmp, eqb, assertV, assertW, zeroV, wQ_normal, wQ_ret, wQ_panic, pickO, pickC, List.map_cons, List.map_nil, List.getD_cons_zero, List.getD_cons_succ, Env.keep, beq_self_eq_true, cond_true, cond_false]
 refine (c_libParse aliveW aliveD _).use (wkL_cons (wk_refl _) (wkL_cons (wk_nils _) (wkL_cons (wk_nils _) (wkL_refl _)))) fun _ => ?_
 rw [alive_parse]
 simp only [libV, encLib]
 simp only [gw0, reduceEqDiff, ↓reduceIte, reduceAdd, reduceLT, reduceLeDiff, reduceMul, gwD3, gwDT, pureR_none, ite_self, nilR, nilB, bitF, bitV, nilC, nilCmp, eqb, assertV, assertW, zeroV, wQ_normal, wQ_ret, wQ_panic, pickO, pickC, List.map_cons, List.map_nil, List.getD_cons_zero, List.getD_cons_succ, Env.keep, beq_self_eq_true, cond_true, cond_false, aliveO, rows2, List.map_cons, List.map_nil, List.length_cons, List.length_nil]
 exact gives_bool' rfl hst
theorem c_libname (s : Str) (st : St) : VCalls Tryz.prog TT 31 [.str s] st fun r st' => r = .ret (.agg (encD (Sd s))) ∧ st' = st := by
 refine vfun TT_ok (an := anL []) (L := [0, 2]) (rs := [.cell 2 26]) Tryz.func31 rfl (by kernel_rfl) rfl Tryz.ntmps31 rfl rfl (Nat.le_refl _) fun hst ha hf => ?_
 simp only [gw0, reduceEqDiff, ↓reduceIte, reduceAdd, reduceLT, reduceLeDiff, reduceMul, gwD3, gwDT, pureR_none, ite_self, nilR, nilB, bitF, bitV, nilC, nilCmp, eqb, assertV, assertW, zeroV, wQ_normal, wQ_ret, wQ_panic, pickO, pickC, List.map_cons, List.map_nil, List.getD_cons_zero, List.getD_cons_succ, Env.keep, beq_self_eq_true, cond_true, cond_false]
 refine gives_of (wk_agg ?_) (wkSt_refl _) (by simp only [V.lt]; exact encD_lt _ _) hst
 rw [Sd, encD_mk]
 exact wkL_cons (wk_refl _) (wkL_cons (wk_refl _) (wkL_cons (wk_refl _) (wkL_cons (wk_refl _) (wkL_cons (wk_refl _) (wkL_cons (wk_nils _) wkL_nil)))))
theorem c_libof (l : List Datum) (st : St) : VCalls Tryz.prog TT 32 [lstD l] st fun r st' => r = .ret (.agg (encD (Ld l))) ∧ st' = st := by
 refine vfun TT_ok (an := anL []) (L := [0, 2]) (rs := [.cell 2 26]) Tryz.func32 rfl (by kernel_rfl) rfl Tryz.ntmps32 rfl rfl (Nat.le_refl _) fun hst ha hf => ?_
 simp only [gw0, reduceEqDiff, ↓reduceIte, reduceAdd, reduceLT, reduceLeDiff, reduceMul, gwD3, gwDT, pureR_none, ite_self, nilR, nilB, bitF, bitV, nilC, nilCmp, eqb, assertV, assertW, zeroV, wQ_normal, wQ_ret, wQ_panic, pickO, pickC, List.map_cons, List.map_nil, List.getD_cons_zero, List.getD_cons_succ, Env.keep, beq_self_eq_true, cond_true, cond_false, lstD]
 refine gives_of (wk_agg ?_) (wkSt_refl _) (by simp only [V.lt]; exact encD_lt _ _) hst
 rw [Ld, encD_mk]
 exact wkL_refl _
theorem c_liball (s : Str) (l : List Str) (hl : l.length ≤ 1000000) (st : St) : VCalls Tryz.prog TT 33 [.str s, encS l] st fun r st' => r = .ret (lstD (Sd s :: l.map Sd)) ∧ st' = st := by
 refine vfun TT_ok (an := anL [(10, 1)]) (L := [0, 1, 4, 5, 7, 11, 12, 13]) (rs := [.tmp 4]) Tryz.func33 rfl (by kernel_rfl) rfl Tryz.ntmps33 rfl rfl (Nat.le_refl _) fun hst ha hf => ?_
 have hkl : l.length ≤ 9223372036854775807 := by omega
 simp only [gw0, reduceEqDiff, ↓reduceIte, reduceAdd, reduceLT, reduceLeDiff, reduceMul, gwD3, gwDT, pureR_none, ite_self, nilR, nilB, bitF, bitV, nilC, nilCmp, eqb, assertV, assertW, zeroV, wQ_normal, wQ_ret, wQ_panic, pickO, pickC, List.map_cons, List.map_nil, List.getD_cons_zero, List.getD_cons_succ, Env.keep, beq_self_eq_true, cond_true, cond_false]
 refine (c_libname s _).use (wkL_refl _) fun _ => ?_
 simp only [gw0, reduceEqDiff, ↓reduceIte, reduceAdd, reduceLT, reduceLeDiff, reduceMul, gwD3, gwDT, pureR_none, ite_self, nilR, nilB, bitF, bitV, nilC, nilCmp, eqb, assertV, assertW, zeroV, wQ_normal, wQ_ret, wQ_panic, pickO, pickC, List.map_cons, List.map_nil, List.getD_cons_zero, List.getD_cons_succ, Env.keep, beq_self_eq_true, cond_true, cond_false, encD_take, encD_len, encD_drop, Nat.le_refl, encS, List.length_map]
 refine vfor (σ := Nat) [0, 1, 4, 5, 11, 12, 13] (fun x => [(0, true, .str s), (1, true, encS l), (4, true, .nils), (5, true, .lst 6 (some st.length) (encD (Sd s) :: (l.take x).map fun a => encD (Sd a))), (11, true, encS l), (12, true, .int .i64 l.length), (13, true, .int .i64 x)]) (fun x => st ++ [.tip 26 (1 + x)]) (fun x => l.length - x) (fun x => x ≤ l.length ∧ (0 : Nat) = 0) 0 rfl TT_ok ⟨Nat.zero_le _, rfl⟩ rfl rfl ?_
 rintro i ⟨hi, -⟩
 simp only [encS]
 rcases at_or_end l i hi with ⟨rfl, hd⟩ | ⟨a, hlt, hget, hdr⟩
 ·simp only [gw0, reduceEqDiff, ↓reduceIte, reduceAdd, reduceLT, reduceLeDiff, reduceMul, gwD3, gwDT, pureR_none, ite_self, nilR, nilB, bitF, bitV, nilC, nilCmp, eqb, assertV, assertW, zeroV, wQ_normal, wQ_ret, wQ_panic, pickO, pickC, List.map_cons, List.map_nil, List.getD_cons_zero, List.getD_cons_succ, Env.keep, beq_self_eq_true, cond_true, cond_false, lt_no]
  refine gives_of (X := lstD (Sd s :: l.map Sd)) ?_ (wkSt_refl _) (lstD_lt _ _) hst
  rw [lstD, List.map_cons, List.map_map, List.take_length]
  exact wk_tok _ _ _
 ·simp only [gw0, reduceEqDiff, ↓reduceIte, reduceAdd, reduceLT, reduceLeDiff, reduceMul, gwD3, gwDT, pureR_none, ite_self, nilR, nilB, bitF, bitV, nilC, nilCmp, eqb, assertV, assertW, zeroV, wQ_normal, wQ_ret, wQ_panic, pickO, pickC, List.map_cons, List.map_nil, List.getD_cons_zero, List.getD_cons_succ, Env.keep, beq_self_eq_true, cond_true, cond_false, lt_yes hlt, List.length_map, getD_map hget, Int.ofNat_lt.mpr hlt]
  refine (c_libname a _).use (wkL_refl _) fun _ => ?_
  have ht : (l.take i).length = i := by rw [List.length_take]; omega
  simp only [gw0, reduceEqDiff, ↓reduceIte, reduceAdd, reduceLT, reduceLeDiff, reduceMul, gwD3, gwDT, pureR_none, ite_self, nilR, nilB, bitF, bitV, nilC, nilCmp, eqb, assertV, assertW, zeroV, wQ_normal, wQ_ret, wQ_panic, pickO, pickC, List.map_cons, List.map_nil, List.getD_cons_zero, List.getD_cons_succ, Env.keep, beq_self_eq_true, cond_true, cond_false, encD_take, encD_len, encD_drop, Nat.le_refl, encS, List.length_map, List.length_cons, ht, Env.keep, next_i64 hlt hkl]
  refine ⟨⟨by omega, by omega⟩, i + 1, ?_, by rw [show 1 + (i + 1) = i + 2 by omega], by omega, hlt⟩
  rw [List.take_add_one, hget]
  simp
def wordOf (k : Int) : Str := [wOnly, wExcept, wPrefix, wRename].getD (k - 2).toNat []
def showR (a b : Str) : Datum := Ld [Sd a, Sd b]
mutual
/-- A set, as a datum. -/
def showS : Set' → Datum
 | .mk k n ns az p kids => bif decide (k = 1) then Ld ((splitP n).map Sd)
  else Ld (Sd (wordOf k) :: showH kids :: bif decide (k = 4) then [Sd p] else bif decide (k = 5) then List.zipWith showR ns az else ns.map Sd)
def showH : List Set' → Datum
 | [] => .mk 0 0 [] 0 0 []
 | a :: _ => showS a
end
mutual
/-- Such a one may be shown. -/
def okS : Set' → Prop
 | .mk k n ns az _ kids => n.length ≤ 1000 ∧ ns.length ≤ 1000000 ∧ (k ≠ 1 → 2 ≤ k ∧ k ≤ 5 ∧ kids ≠ [] ∧ (k = 5 → az.length = ns.length)) ∧ okSs kids
def okSs : List Set' → Prop
 | [] => True
 | a :: r => okS a ∧ okSs r
end
theorem okSs_mem : ∀ {l : List Set'} {s : Set'}, okSs l → s ∈ l → okS s
 | a :: r, s, h, hs => by
  rw [okSs] at h
  rcases List.mem_cons.1 hs with rfl | hs
  ·exact h.1
  ·exact okSs_mem h.2 hs
theorem c_showSet (s : Set') : okS s → ∀ st : St, VCalls Tryz.prog TT 35 [.ref (encSet s)] st fun r st' => r = .ret (.agg (encD (showS s))) ∧ st' = st := by
 refine Set'.ind (p := fun s => okS s → ∀ st : St, VCalls Tryz.prog TT 35 [.ref (encSet s)] st fun r st' => r = .ret (.agg (encD (showS s))) ∧ st' = st) ?_ s
 intro k n ns az p kids ih ok st
 rw [okS] at ok
 obtain ⟨hn, hns, hk, hkids⟩ := ok
 refine vfun TT_ok (an := anL [(36, 1)]) (L := [0, 2, 3, 4, 5, 6, 40, 64, 65, 66]) (rs := [.cell 2 26]) Tryz.func35 rfl (by kernel_rfl) rfl Tryz.ntmps35 rfl rfl (Nat.le_refl _) fun hst ha hf => ?_
 simp only [encSet_mk]
 simp only [gw0, reduceEqDiff, ↓reduceIte, reduceAdd, reduceLT, reduceLeDiff, reduceMul, gwD3, gwDT, pureR_none, ite_self, nilR, nilB, bitF, bitV, nilC, nilCmp, eqb, assertV, assertW, zeroV, wQ_normal, wQ_ret, wQ_panic, pickO, pickC, List.map_cons, List.map_nil, List.getD_cons_zero, List.getD_cons_succ, Env.keep, beq_self_eq_true, cond_true, cond_false]
 refine iK_split (fun h1 => ?_) (fun h1 => ?_)
 ·simp only [gw0, reduceEqDiff, ↓reduceIte, reduceAdd, reduceLT, reduceLeDiff, reduceMul, gwD3, gwDT, pureR_none, ite_self, nilR, nilB, bitF, bitV, nilC, nilCmp, eqb, assertV, assertW, zeroV, wQ_normal, wQ_ret, wQ_panic, pickO, pickC, List.map_cons, List.map_nil, List.getD_cons_zero, List.getD_cons_succ, Env.keep, beq_self_eq_true, cond_true, cond_false]
  refine (c_Split n (by omega) _).use (wkL_refl _) fun _ => ?_
  simp only [gw0, reduceEqDiff, ↓reduceIte, reduceAdd, reduceLT, reduceLeDiff, reduceMul, gwD3, gwDT, pureR_none, ite_self, nilR, nilB, bitF, bitV, nilC, nilCmp, eqb, assertV, assertW, zeroV, wQ_normal, wQ_ret, wQ_panic, pickO, pickC, List.map_cons, List.map_nil, List.getD_cons_zero, List.getD_cons_succ, Env.keep, beq_self_eq_true, cond_true, cond_false]
  refine (c_liball [] (splitP n) (by have := (splitP_len n).1; omega) _).use (wkL_refl _) fun _ => ?_
  simp only [gw0, reduceEqDiff, ↓reduceIte, reduceAdd, reduceLT, reduceLeDiff, reduceMul, gwD3, gwDT, pureR_none, ite_self, nilR, nilB, bitF, bitV, nilC, nilCmp, eqb, assertV, assertW, zeroV, wQ_normal, wQ_ret, wQ_panic, pickO, pickC, List.map_cons, List.map_nil, List.getD_cons_zero, List.getD_cons_succ, Env.keep, beq_self_eq_true, cond_true, cond_false, lstD, List.length_map, List.length_cons, List.map_cons, List.drop_succ_cons, List.drop_zero]
  refine ⟨by omega, ?_⟩
  refine (c_libof ((splitP n).map Sd) _).use (wkL_refl _) fun _ => ?_
  simp only [gw0, reduceEqDiff, ↓reduceIte, reduceAdd, reduceLT, reduceLeDiff, reduceMul, gwD3, gwDT, pureR_none, ite_self, nilR, nilB, bitF, bitV, nilC, nilCmp, eqb, assertV, assertW, zeroV, wQ_normal, wQ_ret, wQ_panic, pickO, pickC, List.map_cons, List.map_nil, List.getD_cons_zero, List.getD_cons_succ, Env.keep, beq_self_eq_true, cond_true, cond_false, encD_take, encD_len, encD_drop, Nat.le_refl]
  rw [show showS (.mk k n ns az p kids) = Ld ((splitP n).map Sd) by rw [showS, h1]; rfl]
  exact gives_of (wk_refl _) (wkSt_refl _) (by simp only [V.lt]; exact encD_lt _ _) hst
 ·obtain ⟨h2, h5, hne, haz⟩ := hk (of_decide_eq_false h1)
  cases kids with
  | nil => exact absurd rfl hne
  | cons kd rest =>
  have ihk := ih kd (by simp) (okSs_mem hkids (by simp))
  have hk4 : k = 2 ∨ k = 3 ∨ k = 4 ∨ k = 5 := by omega
  rcases hk4 with rfl | rfl | rfl | rfl
  ·simp only [gw0, reduceEqDiff, ↓reduceIte, reduceAdd, reduceLT, reduceLeDiff, reduceMul, gwD3, gwDT, pureR_none, ite_self, nilR, nilB, bitF, bitV, nilC, nilCmp, eqb, assertV, assertW, zeroV, wQ_normal, wQ_ret, wQ_panic, pickO, pickC, List.map_cons, List.map_nil, List.getD_cons_zero, List.getD_cons_succ, Env.keep, beq_self_eq_true, cond_true, cond_false, show IntKind.i64.wrap (2 - 2) = 0 from by decide, show Int.toNat 0 = 0 from rfl, show Int.toNat 0 = 0 from rfl, show Int.toNat 1 = 1 from rfl, show decide ((2 : Int) = 4) = false from rfl, show decide ((2 : Int) = 5) = false from rfl, List.getD_cons_zero, List.getD_cons_succ, encD_take, encD_len, encD_drop, Nat.le_refl, List.map_cons, encSet_len, encSet_take, List.length_cons, List.length_map]
   refine ⟨by simp, ?_⟩
   refine vdraw TT_ok TT_mixed [0, 0, 0, 0, 0, 0, 0, 0, 2, 0] (by kernel_rfl) ?_
   simp only [gw0, reduceEqDiff, ↓reduceIte, reduceAdd, reduceLT, reduceLeDiff, reduceMul, gwD3, gwDT, pureR_none, ite_self, nilR, nilB, bitF, bitV, nilC, nilCmp, eqb, assertV, assertW, zeroV, wQ_normal, wQ_ret, wQ_panic, pickO, pickC, List.map_cons, List.map_nil, List.getD_cons_zero, List.getD_cons_succ, Env.keep, beq_self_eq_true, cond_true, cond_false, show IntKind.i64.wrap (2 - 2) = 0 from by decide, show Int.toNat 0 = 0 from rfl, show Int.toNat 0 = 0 from rfl, show Int.toNat 1 = 1 from rfl, show decide ((2 : Int) = 4) = false from rfl, show decide ((2 : Int) = 5) = false from rfl, List.getD_cons_zero, List.getD_cons_succ, encD_take, encD_len, encD_drop, Nat.le_refl, List.map_cons, encSet_len, encSet_take, List.length_cons, List.length_map]
   refine eK_free (c_libname (wordOf 2)) (wkL_refl _) ?_
   simp only [gw0, reduceEqDiff, ↓reduceIte, reduceAdd, reduceLT, reduceLeDiff, reduceMul, gwD3, gwDT, pureR_none, ite_self, nilR, nilB, bitF, bitV, nilC, nilCmp, eqb, assertV, assertW, zeroV, wQ_normal, wQ_ret, wQ_panic, pickO, pickC, List.map_cons, List.map_nil, List.getD_cons_zero, List.getD_cons_succ, Env.keep, beq_self_eq_true, cond_true, cond_false, show IntKind.i64.wrap (2 - 2) = 0 from by decide, show Int.toNat 0 = 0 from rfl, show Int.toNat 0 = 0 from rfl, show Int.toNat 1 = 1 from rfl, show decide ((2 : Int) = 4) = false from rfl, show decide ((2 : Int) = 5) = false from rfl, List.getD_cons_zero, List.getD_cons_succ, encD_take, encD_len, encD_drop, Nat.le_refl, List.map_cons, encSet_len, encSet_take, List.length_cons, List.length_map]
   refine ⟨⟨by omega, by omega⟩, ?_⟩
   refine eK_free ihk (wkL_refl _) ?_
   simp only [gw0, reduceEqDiff, ↓reduceIte, reduceAdd, reduceLT, reduceLeDiff, reduceMul, gwD3, gwDT, pureR_none, ite_self, nilR, nilB, bitF, bitV, nilC, nilCmp, eqb, assertV, assertW, zeroV, wQ_normal, wQ_ret, wQ_panic, pickO, pickC, List.map_cons, List.map_nil, List.getD_cons_zero, List.getD_cons_succ, Env.keep, beq_self_eq_true, cond_true, cond_false, show IntKind.i64.wrap (2 - 2) = 0 from by decide, show Int.toNat 0 = 0 from rfl, show Int.toNat 0 = 0 from rfl, show Int.toNat 1 = 1 from rfl, show decide ((2 : Int) = 4) = false from rfl, show decide ((2 : Int) = 5) = false from rfl, List.getD_cons_zero, List.getD_cons_succ, encD_take, encD_len, encD_drop, Nat.le_refl, List.map_cons, encSet_len, encSet_take, List.length_cons, List.length_map]
   refine (c_liball [] ns (by omega) _).use (wkL_refl _) fun _ => ?_
   simp only [gw0, reduceEqDiff, ↓reduceIte, reduceAdd, reduceLT, reduceLeDiff, reduceMul, gwD3, gwDT, pureR_none, ite_self, nilR, nilB, bitF, bitV, nilC, nilCmp, eqb, assertV, assertW, zeroV, wQ_normal, wQ_ret, wQ_panic, pickO, pickC, List.map_cons, List.map_nil, List.getD_cons_zero, List.getD_cons_succ, Env.keep, beq_self_eq_true, cond_true, cond_false, show IntKind.i64.wrap (2 - 2) = 0 from by decide, show Int.toNat 0 = 0 from rfl, show Int.toNat 0 = 0 from rfl, show Int.toNat 1 = 1 from rfl, show decide ((2 : Int) = 4) = false from rfl, show decide ((2 : Int) = 5) = false from rfl, List.getD_cons_zero, List.getD_cons_succ, encD_take, encD_len, encD_drop, Nat.le_refl, List.map_cons, encSet_len, encSet_take, List.length_cons, List.length_map, lstD]
   refine ⟨by omega, by omega, ?_⟩
   refine (c_libof (Sd (wordOf 2) :: showS kd :: ns.map Sd) _).use (wkL_cons (wk_tok _ _ _) wkL_nil) fun _ => ?_
   simp only [gw0, reduceEqDiff, ↓reduceIte, reduceAdd, reduceLT, reduceLeDiff, reduceMul, gwD3, gwDT, pureR_none, ite_self, nilR, nilB, bitF, bitV, nilC, nilCmp, eqb, assertV, assertW, zeroV, wQ_normal, wQ_ret, wQ_panic, pickO, pickC, List.map_cons, List.map_nil, List.getD_cons_zero, List.getD_cons_succ, Env.keep, beq_self_eq_true, cond_true, cond_false, show IntKind.i64.wrap (2 - 2) = 0 from by decide, show Int.toNat 0 = 0 from rfl, show Int.toNat 0 = 0 from rfl, show Int.toNat 1 = 1 from rfl, show decide ((2 : Int) = 4) = false from rfl, show decide ((2 : Int) = 5) = false from rfl, List.getD_cons_zero, List.getD_cons_succ, encD_take, encD_len, encD_drop, Nat.le_refl, List.map_cons, encSet_len, encSet_take, List.length_cons, List.length_map]
   rw [show showS (.mk 2 n ns az p (kd :: rest)) = Ld (Sd (wordOf 2) :: showS kd :: ns.map Sd) by rw [showS, showH]; rfl]
   exact gives_of (wk_refl _) (wkSt_refl _) (by simp only [V.lt]; exact encD_lt _ _) hst
  ·simp only [gw0, reduceEqDiff, ↓reduceIte, reduceAdd, reduceLT, reduceLeDiff, reduceMul, gwD3, gwDT, pureR_none, ite_self, nilR, nilB, bitF, bitV, nilC, nilCmp, eqb, assertV, assertW, zeroV, wQ_normal, wQ_ret, wQ_panic, pickO, pickC, List.map_cons, List.map_nil, List.getD_cons_zero, List.getD_cons_succ, Env.keep, beq_self_eq_true, cond_true, cond_false, show IntKind.i64.wrap (3 - 2) = 1 from by decide, show Int.toNat 1 = 1 from rfl, show Int.toNat 0 = 0 from rfl, show Int.toNat 1 = 1 from rfl, show decide ((3 : Int) = 4) = false from rfl, show decide ((3 : Int) = 5) = false from rfl, List.getD_cons_zero, List.getD_cons_succ, encD_take, encD_len, encD_drop, Nat.le_refl, List.map_cons, encSet_len, encSet_take, List.length_cons, List.length_map]
   refine ⟨by simp, ?_⟩
   refine vdraw TT_ok TT_mixed [0, 0, 0, 0, 0, 0, 0, 0, 2, 0] (by kernel_rfl) ?_
   simp only [gw0, reduceEqDiff, ↓reduceIte, reduceAdd, reduceLT, reduceLeDiff, reduceMul, gwD3, gwDT, pureR_none, ite_self, nilR, nilB, bitF, bitV, nilC, nilCmp, eqb, assertV, assertW, zeroV, wQ_normal, wQ_ret, wQ_panic, pickO, pickC, List.map_cons, List.map_nil, List.getD_cons_zero, List.getD_cons_succ, Env.keep, beq_self_eq_true, cond_true, cond_false, show IntKind.i64.wrap (3 - 2) = 1 from by decide, show Int.toNat 1 = 1 from rfl, show Int.toNat 0 = 0 from rfl, show Int.toNat 1 = 1 from rfl, show decide ((3 : Int) = 4) = false from rfl, show decide ((3 : Int) = 5) = false from rfl, List.getD_cons_zero, List.getD_cons_succ, encD_take, encD_len, encD_drop, Nat.le_refl, List.map_cons, encSet_len, encSet_take, List.length_cons, List.length_map]
   refine eK_free (c_libname (wordOf 3)) (wkL_refl _) ?_
   simp only [gw0, reduceEqDiff, ↓reduceIte, reduceAdd, reduceLT, reduceLeDiff, reduceMul, gwD3, gwDT, pureR_none, ite_self, nilR, nilB, bitF, bitV, nilC, nilCmp, eqb, assertV, assertW, zeroV, wQ_normal, wQ_ret, wQ_panic, pickO, pickC, List.map_cons, List.map_nil, List.getD_cons_zero, List.getD_cons_succ, Env.keep, beq_self_eq_true, cond_true, cond_false, show IntKind.i64.wrap (3 - 2) = 1 from by decide, show Int.toNat 1 = 1 from rfl, show Int.toNat 0 = 0 from rfl, show Int.toNat 1 = 1 from rfl, show decide ((3 : Int) = 4) = false from rfl, show decide ((3 : Int) = 5) = false from rfl, List.getD_cons_zero, List.getD_cons_succ, encD_take, encD_len, encD_drop, Nat.le_refl, List.map_cons, encSet_len, encSet_take, List.length_cons, List.length_map]
   refine ⟨⟨by omega, by omega⟩, ?_⟩
   refine eK_free ihk (wkL_refl _) ?_
   simp only [gw0, reduceEqDiff, ↓reduceIte, reduceAdd, reduceLT, reduceLeDiff, reduceMul, gwD3, gwDT, pureR_none, ite_self, nilR, nilB, bitF, bitV, nilC, nilCmp, eqb, assertV, assertW, zeroV, wQ_normal, wQ_ret, wQ_panic, pickO, pickC, List.map_cons, List.map_nil, List.getD_cons_zero, List.getD_cons_succ, Env.keep, beq_self_eq_true, cond_true, cond_false, show IntKind.i64.wrap (3 - 2) = 1 from by decide, show Int.toNat 1 = 1 from rfl, show Int.toNat 0 = 0 from rfl, show Int.toNat 1 = 1 from rfl, show decide ((3 : Int) = 4) = false from rfl, show decide ((3 : Int) = 5) = false from rfl, List.getD_cons_zero, List.getD_cons_succ, encD_take, encD_len, encD_drop, Nat.le_refl, List.map_cons, encSet_len, encSet_take, List.length_cons, List.length_map]
   refine (c_liball [] ns (by omega) _).use (wkL_refl _) fun _ => ?_
   simp only [gw0, reduceEqDiff, ↓reduceIte, reduceAdd, reduceLT, reduceLeDiff, reduceMul, gwD3, gwDT, pureR_none, ite_self, nilR, nilB, bitF, bitV, nilC, nilCmp, eqb, assertV, assertW, zeroV, wQ_normal, wQ_ret, wQ_panic, pickO, pickC, List.map_cons, List.map_nil, List.getD_cons_zero, List.getD_cons_succ, Env.keep, beq_self_eq_true, cond_true, cond_false, show IntKind.i64.wrap (3 - 2) = 1 from by decide, show Int.toNat 1 = 1 from rfl, show Int.toNat 0 = 0 from rfl, show Int.toNat 1 = 1 from rfl, show decide ((3 : Int) = 4) = false from rfl, show decide ((3 : Int) = 5) = false from rfl, List.getD_cons_zero, List.getD_cons_succ, encD_take, encD_len, encD_drop, Nat.le_refl, List.map_cons, encSet_len, encSet_take, List.length_cons, List.length_map, lstD]
   refine ⟨by omega, by omega, ?_⟩
   refine (c_libof (Sd (wordOf 3) :: showS kd :: ns.map Sd) _).use (wkL_cons (wk_tok _ _ _) wkL_nil) fun _ => ?_
   simp only [gw0, reduceEqDiff, ↓reduceIte, reduceAdd, reduceLT, reduceLeDiff, reduceMul, gwD3, gwDT, pureR_none, ite_self, nilR, nilB, bitF, bitV, nilC, nilCmp, eqb, assertV, assertW, zeroV, wQ_normal, wQ_ret, wQ_panic, pickO, pickC, List.map_cons, List.map_nil, List.getD_cons_zero, List.getD_cons_succ, Env.keep, beq_self_eq_true, cond_true, cond_false, show IntKind.i64.wrap (3 - 2) = 1 from by decide, show Int.toNat 1 = 1 from rfl, show Int.toNat 0 = 0 from rfl, show Int.toNat 1 = 1 from rfl, show decide ((3 : Int) = 4) = false from rfl, show decide ((3 : Int) = 5) = false from rfl, List.getD_cons_zero, List.getD_cons_succ, encD_take, encD_len, encD_drop, Nat.le_refl, List.map_cons, encSet_len, encSet_take, List.length_cons, List.length_map]
   rw [show showS (.mk 3 n ns az p (kd :: rest)) = Ld (Sd (wordOf 3) :: showS kd :: ns.map Sd) by rw [showS, showH]; rfl]
   exact gives_of (wk_refl _) (wkSt_refl _) (by simp only [V.lt]; exact encD_lt _ _) hst
  ·simp only [gw0, reduceEqDiff, ↓reduceIte, reduceAdd, reduceLT, reduceLeDiff, reduceMul, gwD3, gwDT, pureR_none, ite_self, nilR, nilB, bitF, bitV, nilC, nilCmp, eqb, assertV, assertW, zeroV, wQ_normal, wQ_ret, wQ_panic, pickO, pickC, List.map_cons, List.map_nil, List.getD_cons_zero, List.getD_cons_succ, Env.keep, beq_self_eq_true, cond_true, cond_false, show IntKind.i64.wrap (4 - 2) = 2 from by decide, show Int.toNat 2 = 2 from rfl, show Int.toNat 0 = 0 from rfl, show Int.toNat 1 = 1 from rfl, show decide ((4 : Int) = 4) = true from rfl, show decide ((4 : Int) = 5) = false from rfl, List.getD_cons_zero, List.getD_cons_succ, encD_take, encD_len, encD_drop, Nat.le_refl, List.map_cons, encSet_len, encSet_take, List.length_cons, List.length_map]
   refine ⟨by simp, ?_⟩
   refine vdraw TT_ok TT_mixed [0, 0, 0, 0, 0, 0, 0, 0, 2, 0] (by kernel_rfl) ?_
   simp only [gw0, reduceEqDiff, ↓reduceIte, reduceAdd, reduceLT, reduceLeDiff, reduceMul, gwD3, gwDT, pureR_none, ite_self, nilR, nilB, bitF, bitV, nilC, nilCmp, eqb, assertV, assertW, zeroV, wQ_normal, wQ_ret, wQ_panic, pickO, pickC, List.map_cons, List.map_nil, List.getD_cons_zero, List.getD_cons_succ, Env.keep, beq_self_eq_true, cond_true, cond_false, show IntKind.i64.wrap (4 - 2) = 2 from by decide, show Int.toNat 2 = 2 from rfl, show Int.toNat 0 = 0 from rfl, show Int.toNat 1 = 1 from rfl, show decide ((4 : Int) = 4) = true from rfl, show decide ((4 : Int) = 5) = false from rfl, List.getD_cons_zero, List.getD_cons_succ, encD_take, encD_len, encD_drop, Nat.le_refl, List.map_cons, encSet_len, encSet_take, List.length_cons, List.length_map]
   refine eK_free (c_libname (wordOf 4)) (wkL_refl _) ?_
   simp only [gw0, reduceEqDiff, ↓reduceIte, reduceAdd, reduceLT, reduceLeDiff, reduceMul, gwD3, gwDT, pureR_none, ite_self, nilR, nilB, bitF, bitV, nilC, nilCmp, eqb, assertV, assertW, zeroV, wQ_normal, wQ_ret, wQ_panic, pickO, pickC, List.map_cons, List.map_nil, List.getD_cons_zero, List.getD_cons_succ, Env.keep, beq_self_eq_true, cond_true, cond_false, show IntKind.i64.wrap (4 - 2) = 2 from by decide, show Int.toNat 2 = 2 from rfl, show Int.toNat 0 = 0 from rfl, show Int.toNat 1 = 1 from rfl, show decide ((4 : Int) = 4) = true from rfl, show decide ((4 : Int) = 5) = false from rfl, List.getD_cons_zero, List.getD_cons_succ, encD_take, encD_len, encD_drop, Nat.le_refl, List.map_cons, encSet_len, encSet_take, List.length_cons, List.length_map]
   refine ⟨⟨by omega, by omega⟩, ?_⟩
   refine eK_free ihk (wkL_refl _) ?_
   simp only [gw0, reduceEqDiff, ↓reduceIte, reduceAdd, reduceLT, reduceLeDiff, reduceMul, gwD3, gwDT, pureR_none, ite_self, nilR, nilB, bitF, bitV, nilC, nilCmp, eqb, assertV, assertW, zeroV, wQ_normal, wQ_ret, wQ_panic, pickO, pickC, List.map_cons, List.map_nil, List.getD_cons_zero, List.getD_cons_succ, Env.keep, beq_self_eq_true, cond_true, cond_false, show IntKind.i64.wrap (4 - 2) = 2 from by decide, show Int.toNat 2 = 2 from rfl, show Int.toNat 0 = 0 from rfl, show Int.toNat 1 = 1 from rfl, show decide ((4 : Int) = 4) = true from rfl, show decide ((4 : Int) = 5) = false from rfl, List.getD_cons_zero, List.getD_cons_succ, encD_take, encD_len, encD_drop, Nat.le_refl, List.map_cons, encSet_len, encSet_take, List.length_cons, List.length_map]
   refine (c_libname p _).use (wkL_refl _) fun _ => ?_
   simp only [gw0, reduceEqDiff, ↓reduceIte, reduceAdd, reduceLT, reduceLeDiff, reduceMul, gwD3, gwDT, pureR_none, ite_self, nilR, nilB, bitF, bitV, nilC, nilCmp, eqb, assertV, assertW, zeroV, wQ_normal, wQ_ret, wQ_panic, pickO, pickC, List.map_cons, List.map_nil, List.getD_cons_zero, List.getD_cons_succ, Env.keep, beq_self_eq_true, cond_true, cond_false, show IntKind.i64.wrap (4 - 2) = 2 from by decide, show Int.toNat 2 = 2 from rfl, show Int.toNat 0 = 0 from rfl, show Int.toNat 1 = 1 from rfl, show decide ((4 : Int) = 4) = true from rfl, show decide ((4 : Int) = 5) = false from rfl, List.getD_cons_zero, List.getD_cons_succ, encD_take, encD_len, encD_drop, Nat.le_refl, List.map_cons, encSet_len, encSet_take, List.length_cons, List.length_map]
   refine (c_libof (Sd (wordOf 4) :: showS kd :: [Sd p]) _).use (wkL_cons (wk_tok _ _ _) wkL_nil) fun _ => ?_
   simp only [gw0, reduceEqDiff, ↓reduceIte, reduceAdd, reduceLT, reduceLeDiff, reduceMul, gwD3, gwDT, pureR_none, ite_self, nilR, nilB, bitF, bitV, nilC, nilCmp, eqb, assertV, assertW, zeroV, wQ_normal, wQ_ret, wQ_panic, pickO, pickC, List.map_cons, List.map_nil, List.getD_cons_zero, List.getD_cons_succ, Env.keep, beq_self_eq_true, cond_true, cond_false, show IntKind.i64.wrap (4 - 2) = 2 from by decide, show Int.toNat 2 = 2 from rfl, show Int.toNat 0 = 0 from rfl, show Int.toNat 1 = 1 from rfl, show decide ((4 : Int) = 4) = true from rfl, show decide ((4 : Int) = 5) = false from rfl, List.getD_cons_zero, List.getD_cons_succ, encD_take, encD_len, encD_drop, Nat.le_refl, List.map_cons, encSet_len, encSet_take, List.length_cons, List.length_map]
   rw [show showS (.mk 4 n ns az p (kd :: rest)) = Ld (Sd (wordOf 4) :: showS kd :: [Sd p]) by rw [showS, showH]; rfl]
   exact gives_of (wk_refl _) (wkSt_refl _) (by simp only [V.lt]; exact encD_lt _ _) hst
  ·simp only [gw0, reduceEqDiff, ↓reduceIte, reduceAdd, reduceLT, reduceLeDiff, reduceMul, gwD3, gwDT, pureR_none, ite_self, nilR, nilB, bitF, bitV, nilC, nilCmp, eqb, assertV, assertW, zeroV, wQ_normal, wQ_ret, wQ_panic, pickO, pickC, List.map_cons, List.map_nil, List.getD_cons_zero, List.getD_cons_succ, Env.keep, beq_self_eq_true, cond_true, cond_false, show IntKind.i64.wrap (5 - 2) = 3 from by decide, show Int.toNat 3 = 3 from rfl, show Int.toNat 0 = 0 from rfl, show Int.toNat 1 = 1 from rfl, show decide ((5 : Int) = 4) = false from rfl, show decide ((5 : Int) = 5) = true from rfl, List.getD_cons_zero, List.getD_cons_succ, encD_take, encD_len, encD_drop, Nat.le_refl, List.map_cons, encSet_len, encSet_take, List.length_cons, List.length_map]
   refine ⟨by simp, ?_⟩
   refine vdraw TT_ok TT_mixed [0, 0, 0, 0, 0, 0, 0, 0, 2, 0] (by kernel_rfl) ?_
   simp only [gw0, reduceEqDiff, ↓reduceIte, reduceAdd, reduceLT, reduceLeDiff, reduceMul, gwD3, gwDT, pureR_none, ite_self, nilR, nilB, bitF, bitV, nilC, nilCmp, eqb, assertV, assertW, zeroV, wQ_normal, wQ_ret, wQ_panic, pickO, pickC, List.map_cons, List.map_nil, List.getD_cons_zero, List.getD_cons_succ, Env.keep, beq_self_eq_true, cond_true, cond_false, show IntKind.i64.wrap (5 - 2) = 3 from by decide, show Int.toNat 3 = 3 from rfl, show Int.toNat 0 = 0 from rfl, show Int.toNat 1 = 1 from rfl, show decide ((5 : Int) = 4) = false from rfl, show decide ((5 : Int) = 5) = true from rfl, List.getD_cons_zero, List.getD_cons_succ, encD_take, encD_len, encD_drop, Nat.le_refl, List.map_cons, encSet_len, encSet_take, List.length_cons, List.length_map]
   refine eK_free (c_libname (wordOf 5)) (wkL_refl _) ?_
   simp only [gw0, reduceEqDiff, ↓reduceIte, reduceAdd, reduceLT, reduceLeDiff, reduceMul, gwD3, gwDT, pureR_none, ite_self, nilR, nilB, bitF, bitV, nilC, nilCmp, eqb, assertV, assertW, zeroV, wQ_normal, wQ_ret, wQ_panic, pickO, pickC, List.map_cons, List.map_nil, List.getD_cons_zero, List.getD_cons_succ, Env.keep, beq_self_eq_true, cond_true, cond_false, show IntKind.i64.wrap (5 - 2) = 3 from by decide, show Int.toNat 3 = 3 from rfl, show Int.toNat 0 = 0 from rfl, show Int.toNat 1 = 1 from rfl, show decide ((5 : Int) = 4) = false from rfl, show decide ((5 : Int) = 5) = true from rfl, List.getD_cons_zero, List.getD_cons_succ, encD_take, encD_len, encD_drop, Nat.le_refl, List.map_cons, encSet_len, encSet_take, List.length_cons, List.length_map]
   refine ⟨⟨by omega, by omega⟩, ?_⟩
   refine eK_free ihk (wkL_refl _) ?_
   simp only [gw0, reduceEqDiff, ↓reduceIte, reduceAdd, reduceLT, reduceLeDiff, reduceMul, gwD3, gwDT, pureR_none, ite_self, nilR, nilB, bitF, bitV, nilC, nilCmp, eqb, assertV, assertW, zeroV, wQ_normal, wQ_ret, wQ_panic, pickO, pickC, List.map_cons, List.map_nil, List.getD_cons_zero, List.getD_cons_succ, Env.keep, beq_self_eq_true, cond_true, cond_false, show IntKind.i64.wrap (5 - 2) = 3 from by decide, show Int.toNat 3 = 3 from rfl, show Int.toNat 0 = 0 from rfl, show Int.toNat 1 = 1 from rfl, show decide ((5 : Int) = 4) = false from rfl, show decide ((5 : Int) = 5) = true from rfl, List.getD_cons_zero, List.getD_cons_succ, encD_take, encD_len, encD_drop, Nat.le_refl, List.map_cons, encSet_len, encSet_take, List.length_cons, List.length_map, encS]
   have haz := haz rfl
   have hzl : (List.zipWith showR ns az).length = ns.length := by rw [List.length_zipWith]; omega
   have hkl : ns.length ≤ 9223372036854775807 := by omega
   refine vfor (σ := Nat) [0, 2, 3, 4, 40, 64, 65, 66] (fun x => [(0, true, .ref [.int .i64 5, .str n, encS ns, encS az, .str p, .lst 6 none (encSet kd :: rest.map encSet)]), (2, true, .ptr st.length 0), (3, true, .str [114, 101, 110, 97, 109, 101]), (4, true, .lst 6 (some (st.length + 1)) ([encD (Sd (wordOf 5)), encD (showS kd)] ++ ((List.zipWith showR ns az).take x).map encD)), (40, true, .int .i64 5), (64, true, encS ns), (65, true, .int .i64 ns.length), (66, true, .int .i64 x)]) (fun x => st ++ [.box [.int .i64 0, .int .i64 0, .str [], .int .i64 0, .int .i64 0, .nils], .tip 26 (2 + x)]) (fun x => ns.length - x) (fun x => x ≤ ns.length ∧ (0 : Nat) = 0) 0 rfl TT_ok ⟨Nat.zero_le _, rfl⟩ rfl rfl ?_
   rintro i ⟨hi, -⟩
   simp only [encS]
   rcases at_or_end ns i hi with ⟨rfl, hd⟩ | ⟨a, hlt, hget, hdr⟩
   ·simp only [gw0, reduceEqDiff, ↓reduceIte, reduceAdd, reduceLT, reduceLeDiff, reduceMul, gwD3, gwDT, pureR_none, ite_self, nilR, nilB, bitF, bitV, nilC, nilCmp, eqb, assertV, assertW, zeroV, wQ_normal, wQ_ret, wQ_panic, pickO, pickC, List.map_cons, List.map_nil, List.getD_cons_zero, List.getD_cons_succ, Env.keep, beq_self_eq_true, cond_true, cond_false, show IntKind.i64.wrap (5 - 2) = 3 from by decide, show Int.toNat 3 = 3 from rfl, show Int.toNat 0 = 0 from rfl, show Int.toNat 1 = 1 from rfl, show decide ((5 : Int) = 4) = false from rfl, show decide ((5 : Int) = 5) = true from rfl, List.getD_cons_zero, List.getD_cons_succ, encD_take, encD_len, encD_drop, Nat.le_refl, List.map_cons, encSet_len, encSet_take, List.length_cons, List.length_map, lt_no, encS]
    rw [List.take_of_length_le (by rw [hzl]; exact Nat.le_refl _)]
    refine (c_libof (Sd (wordOf 5) :: showS kd :: List.zipWith showR ns az) _).use (wkL_cons (wk_tok _ _ _) wkL_nil) fun _ => ?_
    simp only [gw0, reduceEqDiff, ↓reduceIte, reduceAdd, reduceLT, reduceLeDiff, reduceMul, gwD3, gwDT, pureR_none, ite_self, nilR, nilB, bitF, bitV, nilC, nilCmp, eqb, assertV, assertW, zeroV, wQ_normal, wQ_ret, wQ_panic, pickO, pickC, List.map_cons, List.map_nil, List.getD_cons_zero, List.getD_cons_succ, Env.keep, beq_self_eq_true, cond_true, cond_false, show IntKind.i64.wrap (5 - 2) = 3 from by decide, show Int.toNat 3 = 3 from rfl, show Int.toNat 0 = 0 from rfl, show Int.toNat 1 = 1 from rfl, show decide ((5 : Int) = 4) = false from rfl, show decide ((5 : Int) = 5) = true from rfl, List.getD_cons_zero, List.getD_cons_succ, encD_take, encD_len, encD_drop, Nat.le_refl, List.map_cons, encSet_len, encSet_take, List.length_cons, List.length_map]
    rw [show showS (.mk 5 n ns az p (kd :: rest)) = Ld (Sd (wordOf 5) :: showS kd :: List.zipWith showR ns az) by rw [showS, showH]; rfl]
    exact gives_of (wk_refl _) (wkSt_refl _) (by simp only [V.lt]; exact encD_lt _ _) hst
   ·rcases at_or_end az i (by omega) with ⟨e, hd⟩ | ⟨b, hlt2, hget2, hdr2⟩
    ·omega
    simp only [gw0, reduceEqDiff, ↓reduceIte, reduceAdd, reduceLT, reduceLeDiff, reduceMul, gwD3, gwDT, pureR_none, ite_self, nilR, nilB, bitF, bitV, nilC, nilCmp, eqb, assertV, assertW, zeroV, wQ_normal, wQ_ret, wQ_panic, pickO, pickC, List.map_cons, List.map_nil, List.getD_cons_zero, List.getD_cons_succ, Env.keep, beq_self_eq_true, cond_true, cond_false, show IntKind.i64.wrap (5 - 2) = 3 from by decide, show Int.toNat 3 = 3 from rfl, show Int.toNat 0 = 0 from rfl, show Int.toNat 1 = 1 from rfl, show decide ((5 : Int) = 4) = false from rfl, show decide ((5 : Int) = 5) = true from rfl, List.getD_cons_zero, List.getD_cons_succ, encD_take, encD_len, encD_drop, Nat.le_refl, List.map_cons, encSet_len, encSet_take, List.length_cons, List.length_map, lt_yes hlt, List.length_map, getD_map hget, Int.ofNat_lt.mpr hlt]
    have hzt : ((List.zipWith showR ns az).take i).length = i := by rw [List.length_take, hzl]; omega
    refine vdraw TT_ok TT_mixed [0, 0, 0, 0, 0, 0, 0, 0, 0, 0, 0, 0, 0, 0, 2, 0] (by kernel_rfl) ?_
    simp only [gw0, reduceEqDiff, ↓reduceIte, reduceAdd, reduceLT, reduceLeDiff, reduceMul, gwD3, gwDT, pureR_none, ite_self, nilR, nilB, bitF, bitV, nilC, nilCmp, eqb, assertV, assertW, zeroV, wQ_normal, wQ_ret, wQ_panic, pickO, pickC, List.map_cons, List.map_nil, List.getD_cons_zero, List.getD_cons_succ, Env.keep, beq_self_eq_true, cond_true, cond_false, show IntKind.i64.wrap (5 - 2) = 3 from by decide, show Int.toNat 3 = 3 from rfl, show Int.toNat 0 = 0 from rfl, show Int.toNat 1 = 1 from rfl, show decide ((5 : Int) = 4) = false from rfl, show decide ((5 : Int) = 5) = true from rfl, List.getD_cons_zero, List.getD_cons_succ, encD_take, encD_len, encD_drop, Nat.le_refl, List.map_cons, encSet_len, encSet_take, List.length_cons, List.length_map, encS, List.length_map, getD_map hget, getD_map hget2, Int.ofNat_lt.mpr hlt, Int.ofNat_lt.mpr hlt2]
    refine eK_free (c_libname a) (wkL_refl _) ?_
    simp only [gw0, reduceEqDiff, ↓reduceIte, reduceAdd, reduceLT, reduceLeDiff, reduceMul, gwD3, gwDT, pureR_none, ite_self, nilR, nilB, bitF, bitV, nilC, nilCmp, eqb, assertV, assertW, zeroV, wQ_normal, wQ_ret, wQ_panic, pickO, pickC, List.map_cons, List.map_nil, List.getD_cons_zero, List.getD_cons_succ, Env.keep, beq_self_eq_true, cond_true, cond_false, show IntKind.i64.wrap (5 - 2) = 3 from by decide, show Int.toNat 3 = 3 from rfl, show Int.toNat 0 = 0 from rfl, show Int.toNat 1 = 1 from rfl, show decide ((5 : Int) = 4) = false from rfl, show decide ((5 : Int) = 5) = true from rfl, List.getD_cons_zero, List.getD_cons_succ, encD_take, encD_len, encD_drop, Nat.le_refl, List.map_cons, encSet_len, encSet_take, List.length_cons, List.length_map, List.length_map, getD_map hget2, Int.ofNat_lt.mpr hlt2]
    refine eK_free (c_libname b) (wkL_refl _) ?_
    simp only [gw0, reduceEqDiff, ↓reduceIte, reduceAdd, reduceLT, reduceLeDiff, reduceMul, gwD3, gwDT, pureR_none, ite_self, nilR, nilB, bitF, bitV, nilC, nilCmp, eqb, assertV, assertW, zeroV, wQ_normal, wQ_ret, wQ_panic, pickO, pickC, List.map_cons, List.map_nil, List.getD_cons_zero, List.getD_cons_succ, Env.keep, beq_self_eq_true, cond_true, cond_false, show IntKind.i64.wrap (5 - 2) = 3 from by decide, show Int.toNat 3 = 3 from rfl, show Int.toNat 0 = 0 from rfl, show Int.toNat 1 = 1 from rfl, show decide ((5 : Int) = 4) = false from rfl, show decide ((5 : Int) = 5) = true from rfl, List.getD_cons_zero, List.getD_cons_succ, encD_take, encD_len, encD_drop, Nat.le_refl, List.map_cons, encSet_len, encSet_take, List.length_cons, List.length_map]
    refine eK_free (c_libof [Sd a, Sd b]) (wkL_refl _) ?_
    simp only [gw0, reduceEqDiff, ↓reduceIte, reduceAdd, reduceLT, reduceLeDiff, reduceMul, gwD3, gwDT, pureR_none, ite_self, nilR, nilB, bitF, bitV, nilC, nilCmp, eqb, assertV, assertW, zeroV, wQ_normal, wQ_ret, wQ_panic, pickO, pickC, List.map_cons, List.map_nil, List.getD_cons_zero, List.getD_cons_succ, Env.keep, beq_self_eq_true, cond_true, cond_false, show IntKind.i64.wrap (5 - 2) = 3 from by decide, show Int.toNat 3 = 3 from rfl, show Int.toNat 0 = 0 from rfl, show Int.toNat 1 = 1 from rfl, show decide ((5 : Int) = 4) = false from rfl, show decide ((5 : Int) = 5) = true from rfl, List.getD_cons_zero, List.getD_cons_succ, encD_take, encD_len, encD_drop, Nat.le_refl, List.map_cons, encSet_len, encSet_take, List.length_cons, List.length_map, List.length_append, hzt, List.length_nil, Env.keep, next_i64 hlt hkl]
    refine ⟨⟨by omega, by omega⟩, i + 1, ?_, by rw [show 2 + (i + 1) = i + 3 by omega], by omega, hlt⟩
    rw [List.take_add_one, List.getElem?_zipWith, hget, hget2]
    simp [showR]
end Go.Proofs.YtpllcpbhjglpaaaGreatDoor.Gx
