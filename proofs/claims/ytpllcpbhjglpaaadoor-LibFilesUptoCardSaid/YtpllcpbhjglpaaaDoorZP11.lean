/- lib.Parse, walked. Libraries taken apart: laws, in plain terms. Laws of libraries: what they ask, walked. When libraries are the same, walked where they are. Laws of libraries: what is asked first; LibSplit, walked. Libraries that include a file: LibFiles, in plain terms. Laws of libraries: LibFiles, walked. What a row needs: how what comes in is read. How what comes in for LibFiles is read. The row of the law LibFiles, where what comes in is not too much: it answers true, and what came in reads as it did. -/
import Derived.Test.YtpllcpbhjglpaaaDoorZP10
import Derived.WalkKit
import Derived.ProofKit
import Derived.OpenShut
import Derived.ShutString
import Derived.ChangeOld
import Derived.Below
import Derived.SizedLaws
import Derived.Carry
import Derived.JoinedCond
import Derived.Test.YtpllcpbhjglpaaaDoorRows
import Derived.Test.YtpllcpbhjglpaaaDoorCards
import Derived.Test.YtpllcpbhjglpaaaDoorTie
import Derived.Deep.DeepHandedRow
import Derived.Lib.LaidTab
import Derived.Stop.LaidErr
namespace Go.Proofs.YtpllcpbhjglpaaaDoor.Gx
open Go Go.Proofs.YtpllcpbhjglpaaaDoor.Gw
open Nat (reduceEqDiff reduceAdd reduceLT reduceLeDiff reduceMul)
set_option linter.unusedSimpArgs false
set_option linter.unusedVariables false
theorem d_libidle (st : St) (a c : Nat) : VDefers Tryd.prog TT 26 [.ptr a 0, .ptr c 0] none st st := by
 refine vdefers TT_ok (an := anL []) (L := [0, 1, 3, 4, 5, 10]) Tryd.func26 rfl (by kernel_rfl) rfl Tryd.ntmps26 rfl rfl (by decide) (Nat.le_refl _) fun hst ha hf => ?_
 simp only [gw0, reduceEqDiff, ↓reduceIte, reduceAdd, reduceLT, reduceLeDiff, reduceMul, gwD3, gwDT, pureR_none, ite_self, nilR, nilB, bitF, bitV, nilC, nilCmp, eqb, assertV, assertW, zeroV, wQ_normal, wQ_ret, wQ_panic, pickO, pickC, List.map_cons, List.map_nil, List.getD_cons_zero, List.getD_cons_succ, Env.keep, beq_self_eq_true, cond_true, cond_false, Option.getD_none]
 exact ⟨[], st, by simp, wkSt_refl _, hst⟩
def zLib : List V := [.str [], .nils, .nils, .nils]
theorem d_libcaught (st : St) (a c : Nat) (e : Int) (x : Int) (hao : st[a]? = some (.box zLib)) (hc : st[c]? = some (.box [.int .i64 x])) (hne : a ≠ c) (hst2 : St.ok ((st.set a (.box zLib)).set c (.box [.int .i64 e]))) :
  VDefers Tryd.prog TT 26 [.ptr a 0, .ptr c 0] (some (oopsV e)) st ((st.set a (.box zLib)).set c (.box [.int .i64 e])) := by
 have hal := (List.getElem?_eq_some_iff.1 hao).1
 have hcl := (List.getElem?_eq_some_iff.1 hc).1
 refine vdefers TT_ok (an := anL []) (L := [0, 1, 3, 4, 5, 10]) Tryd.func26 rfl (by kernel_rfl) rfl Tryd.ntmps26 rfl rfl (by decide) (by simp) fun hst ha hf => ?_
 simp only [oopsV, zLib] at hao hst2 ⊢
 simp only [gw0, reduceEqDiff, ↓reduceIte, reduceAdd, reduceLT, reduceLeDiff, reduceMul, gwD3, gwDT, pureR_none, ite_self, nilR, nilB, bitF, bitV, nilC, nilCmp, eqb, assertV, assertW, zeroV, wQ_normal, wQ_ret, wQ_panic, pickO, pickC, List.map_cons, List.map_nil, List.getD_cons_zero, List.getD_cons_succ, Env.keep, beq_self_eq_true, cond_true, cond_false, Option.getD_some]
 have hA : ∀ l : St, (st ++ l)[a]? = some (.box [.str [], .nils, .nils, .nils]) := fun l => by rw [List.getElem?_append_left hal]; exact hao
 have hA2 : ∀ (l : St) (x : Ent), (st ++ l).set a x = st.set a x ++ l := fun l x => set_app hal
 have hC : ∀ (l : St) (x2 : Ent), (st.set a x2 ++ l)[c]? = some (.box [.int .i64 x]) := fun l x2 => by rw [List.getElem?_append_left (by simpa using hcl), List.getElem?_set_ne hne]; exact hc
 have hC2 : ∀ (l : St) (x x2 : Ent), (st.set a x ++ l).set c x2 = (st.set a x).set c x2 ++ l := fun l x x2 => set_app (by simpa using hcl)
 refine vdraw2 TT_ok TT_mixed (σ := Unit) [0, 0, 1, 2, 2] [0, 1, 3, 2, 4] 2 3 [0] (fun _x => [(0, true, .ptr a 0)]) (fun _x => (st.set a (.box [.str [], .nils, .nils, .nils])).set c (.box [.int .i64 e]) ++ [.box [.int .i64 e]]) (fun _x => True) rfl (by kernel_rfl) ?_ ?_ ?_
 ·simp only [gw0, reduceEqDiff, ↓reduceIte, reduceAdd, reduceLT, reduceLeDiff, reduceMul, gwD3, gwDT, pureR_none, ite_self, nilR, nilB, bitF, bitV, nilC, nilCmp, eqb, assertV, assertW, zeroV, wQ_normal, wQ_ret, wQ_panic, pickO, pickC, List.map_cons, List.map_nil, List.getD_cons_zero, List.getD_cons_succ, Env.keep, beq_self_eq_true, cond_true, cond_false, hA, hA2, hC, hC2, at_k, at_k0]
  exact ⟨rfl, rfl, (), rfl, rfl, trivial⟩
 ·simp only [gw0, reduceEqDiff, ↓reduceIte, reduceAdd, reduceLT, reduceLeDiff, reduceMul, gwD3, gwDT, pureR_none, ite_self, nilR, nilB, bitF, bitV, nilC, nilCmp, eqb, assertV, assertW, zeroV, wQ_normal, wQ_ret, wQ_panic, pickO, pickC, List.map_cons, List.map_nil, List.getD_cons_zero, List.getD_cons_succ, Env.keep, beq_self_eq_true, cond_true, cond_false, hA, hA2, hC, hC2, at_k, at_k0]
  exact ⟨rfl, rfl, (), rfl, rfl, trivial⟩
 ·rintro - -
  simp only [gw0, reduceEqDiff, ↓reduceIte, reduceAdd, reduceLT, reduceLeDiff, reduceMul, gwD3, gwDT, pureR_none, ite_self, nilR, nilB, bitF, bitV, nilC, nilCmp, eqb, assertV, assertW, zeroV, wQ_normal, wQ_ret, wQ_panic, pickO, pickC, List.map_cons, List.map_nil, List.getD_cons_zero, List.getD_cons_succ, Env.keep, beq_self_eq_true, cond_true, cond_false, hA]
  exact ⟨[.box [.int .i64 e]], _, rfl, wkSt_refl _, hst2⟩
theorem y_libcaught (st ex : St) (e x : Int) (hok : St.ok (st ++ (.box zLib :: .box [.int .i64 e] :: ex))) :
  VDefers Tryd.prog TT 26 [.ptr st.length 0, .ptr (st.length + 1) 0] (some (oopsV e)) (st ++ (.box zLib :: .box [.int .i64 x] :: ex)) (st ++ (.box zLib :: .box [.int .i64 e] :: ex)) := by
 have := d_libcaught (st ++ (.box zLib :: .box [.int .i64 x] :: ex)) st.length (st.length + 1) e x (by simp) (by simp) (by omega) (by rw [set_01]; exact hok)
 rw [set_01] at this
 exact this
theorem at_5 (st : St) (A B C D E F G : Ent) : (st ++ (A :: B :: C :: D :: E :: F :: [G]))[st.length + 5]? = some F := by simp
theorem listP_same {d : Datum} (h1 : (listP 1 d).2 = 0) (h2 : (listP 2 d).2 = 0) : (listP 2 d).1 = (listP 1 d).1 := by
 obtain ⟨k, n, nm, s, l, kids⟩ := d
 simp only [listP] at h1 h2 ⊢
 cases e1 : !decide (k = 4) || decide (kids.length < 1) with
 | true => rw [e1] at h1; simp at h1
 | false =>
  cases e2 : !decide (k = 4) || decide (kids.length < 2) with
  | true => rw [e2] at h2; simp at h2
  | false => rfl
def encLib (o : Lib') : List V := [.str o.name, .lst 2 none (rows2 o.exps), .lst 6 none (o.imps.map encSet), .lst 6 none (o.body.map encD)]
theorem encLib_lt (n : Nat) (o : Lib') : ltL n (encLib o) := by
 refine ⟨trivial, ?_, ?_, ?_, trivial⟩ <;> simp only [V.lt]
 ·exact ⟨fun e h => (by cases h), rows2_lt _ _⟩
 ·exact ⟨fun e h => (by cases h), ltRows_map fun s _ => encSet_lt _ _⟩
 ·exact ⟨fun e h => (by cases h), ltRows_map fun d _ => encD_lt _ _⟩
def libV (r : Lib' × Int) : V := .tup [.agg (encLib r.1), .int .i64 r.2]
theorem libV_lt (n : Nat) (r : Lib' × Int) : (libV r).lt n := by simp only [libV, V.lt, ltL, and_true]; exact encLib_lt _ _
set_option maxHeartbeats 4000000 in
theorem c_libParse (w : Wd) (dt : Datum) (st : St) : VCalls Tryd.prog TT 12 [.lst 2 none (rows2 w.files), encS w.feats, encS w.libs, .agg (encD dt)] st fun r st' => r = .ret (libV (parseP w dt)) ∧ st' = st := by
 refine VCalls.freeze (Q := fun r s' => ∃ v u ex, r = .ret v ∧ s' = st ++ ex ∧ Thaw s' st.length v u ∧ wk u (libV (parseP w dt)) ∧ (libV (parseP w dt)).lt st.length) ?_ (fun r s' h => h)
 have hz : ∀ e : Int, wk (.tup [.agg [.str [], .nils, .nils, .nils], .int .i64 e]) (libV (noLib, e)) := fun e =>
  wk_tup (wkL_cons (wk_agg (wkL_cons (wk_refl _) (wkL_cons (wk_nils _) (wkL_cons (wk_nils _) (wkL_cons (wk_nils _) wkL_nil))))) (wkL_cons (wk_refl _) wkL_nil))
 refine vfunD TT_ok (L := [0, 1, 2, 3, 7, 8, 9, 10, 11, 12, 37]) Tryd.func12 rfl (by kernel_rfl) Tryd.ntmps12 rfl rfl fun hst ha hf => ?_
 refine waSeq TT_ok (an := anL [(7, 1)]) (rs := [.cell 8 38, .cell 9 24]) rfl ?_
 simp only [gw0, reduceEqDiff, ↓reduceIte, reduceAdd, reduceLT, reduceLeDiff, reduceMul, gwD3, gwDT, pureR_none, ite_self, nilR, nilB, bitF, bitV, nilC, nilCmp, eqb, assertV, assertW, zeroV, wQ_normal, wQ_ret, wQ_panic, pickO, pickC, List.map_cons, List.map_nil, List.getD_cons_zero, List.getD_cons_succ, Env.keep, beq_self_eq_true, cond_true, cond_false]
 refine waSeq TT_ok (an := anL [(7, 1)]) (rs := [.cell 8 38, .cell 9 24]) rfl ?_
 simp only [gw0, reduceEqDiff, ↓reduceIte, reduceAdd, reduceLT, reduceLeDiff, reduceMul, gwD3, gwDT, pureR_none, ite_self, nilR, nilB, bitF, bitV, nilC, nilCmp, eqb, assertV, assertW, zeroV, wQ_normal, wQ_ret, wQ_panic, pickO, pickC, List.map_cons, List.map_nil, List.getD_cons_zero, List.getD_cons_succ, Env.keep, beq_self_eq_true, cond_true, cond_false, encD_take, encD_len, encD_drop, Nat.le_refl]
 refine (c_text_Wrong _ [dt]).use (wkL_refl _) fun _ => ?_
 simp only [fltV]
 simp only [gw0, reduceEqDiff, ↓reduceIte, reduceAdd, reduceLT, reduceLeDiff, reduceMul, gwD3, gwDT, pureR_none, ite_self, nilR, nilB, bitF, bitV, nilC, nilCmp, eqb, assertV, assertW, zeroV, wQ_normal, wQ_ret, wQ_panic, pickO, pickC, List.map_cons, List.map_nil, List.getD_cons_zero, List.getD_cons_succ, Env.keep, beq_self_eq_true, cond_true, cond_false]
 have hp0 : parseP w dt = bif !decide ((wrongL [dt] 0 0).1 = 0) then (noLib, (wrongL [dt] 0 0).1)
   else bif decide ((30 : Int) < w.files.length) then (noLib, 5)
   else bif decide ((topP w dt).2 = 0) then topP w dt else (noLib, (topP w dt).2) := rfl
 refine iK_split (fun h => ?_) (fun h => ?_)
 ·rw [h, cond_true] at hp0
  simp only [gw0, reduceEqDiff, ↓reduceIte, reduceAdd, reduceLT, reduceLeDiff, reduceMul, gwD3, gwDT, pureR_none, ite_self, nilR, nilB, bitF, bitV, nilC, nilCmp, eqb, assertV, assertW, zeroV, wQ_normal, wQ_ret, wQ_panic, pickO, pickC, List.map_cons, List.map_nil, List.getD_cons_zero, List.getD_cons_succ, Env.keep, beq_self_eq_true, cond_true, cond_false]
  refine vmelt 10 (st.length + 2) _ rfl (by simp only [gwL]; rfl) ?_
  simp only [gw0, reduceEqDiff, ↓reduceIte, reduceAdd, reduceLT, reduceLeDiff, reduceMul, gwD3, gwDT, pureR_none, ite_self, nilR, nilB, bitF, bitV, nilC, nilCmp, eqb, assertV, assertW, zeroV, wQ_normal, wQ_ret, wQ_panic, pickO, pickC, List.map_cons, List.map_nil, List.getD_cons_zero, List.getD_cons_succ, Env.keep, beq_self_eq_true, cond_true, cond_false, meltE]
  refine vdraw TT_ok TT_mixed [0, 0, 0, 2, 2] (by kernel_rfl) ?_
  simp only [gw0, reduceEqDiff, ↓reduceIte, reduceAdd, reduceLT, reduceLeDiff, reduceMul, gwD3, gwDT, pureR_none, ite_self, nilR, nilB, bitF, bitV, nilC, nilCmp, eqb, assertV, assertW, zeroV, wQ_normal, wQ_ret, wQ_panic, pickO, pickC, List.map_cons, List.map_nil, List.getD_cons_zero, List.getD_cons_succ, Env.keep, beq_self_eq_true, cond_true, cond_false]
  rw [hp0]
  exact ⟨_, _, _, rfl, rfl, .same _, hz _, libV_lt _ _⟩
 rw [h, cond_false] at hp0
 have hok := wrongL_okM (of_decide_eq_true (by simpa using h))
 refine waSeq TT_ok (an := anL [(7, 1)]) (rs := [.cell 8 38, .cell 9 24]) rfl ?_
 simp only [gw0, reduceEqDiff, ↓reduceIte, reduceAdd, reduceLT, reduceLeDiff, reduceMul, gwD3, gwDT, pureR_none, ite_self, nilR, nilB, bitF, bitV, nilC, nilCmp, eqb, assertV, assertW, zeroV, wQ_normal, wQ_ret, wQ_panic, pickO, pickC, List.map_cons, List.map_nil, List.getD_cons_zero, List.getD_cons_succ, Env.keep, beq_self_eq_true, cond_true, cond_false, rows2_len]
 refine iK_split (fun h2 => ?_) (fun h2 => ?_)
 ·rw [h2, cond_true] at hp0
  simp only [gw0, reduceEqDiff, ↓reduceIte, reduceAdd, reduceLT, reduceLeDiff, reduceMul, gwD3, gwDT, pureR_none, ite_self, nilR, nilB, bitF, bitV, nilC, nilCmp, eqb, assertV, assertW, zeroV, wQ_normal, wQ_ret, wQ_panic, pickO, pickC, List.map_cons, List.map_nil, List.getD_cons_zero, List.getD_cons_succ, Env.keep, beq_self_eq_true, cond_true, cond_false]
  rw [hp0]
  exact ⟨_, _, _, rfl, rfl, .same _, hz _, libV_lt _ _⟩
 rw [h2, cond_false] at hp0
 simp only [gw0, reduceEqDiff, ↓reduceIte, reduceAdd, reduceLT, reduceLeDiff, reduceMul, gwD3, gwDT, pureR_none, ite_self, nilR, nilB, bitF, bitV, nilC, nilCmp, eqb, assertV, assertW, zeroV, wQ_normal, wQ_ret, wQ_panic, pickO, pickC, List.map_cons, List.map_nil, List.getD_cons_zero, List.getD_cons_succ, Env.keep, beq_self_eq_true, cond_true, cond_false]
 refine waDefer TT_ok (an := anL [(7, 1)]) (rs := [.cell 8 38, .cell 9 24]) rfl [.ptr st.length 0, .ptr (st.length + 1) 0] ⟨_, Tryd.func26, by kernel_rfl, by kernel_rfl⟩ (by decide) rfl rfl fun d => ?_
 simp only [gw0, reduceEqDiff, ↓reduceIte, reduceAdd, reduceLT, reduceLeDiff, reduceMul, gwD3, gwDT, pureR_none, ite_self, nilR, nilB, bitF, bitV, nilC, nilCmp, eqb, assertV, assertW, zeroV, wQ_normal, wQ_ret, wQ_panic, pickO, pickC, List.map_cons, List.map_nil, List.getD_cons_zero, List.getD_cons_succ, Env.keep, beq_self_eq_true, cond_true, cond_false, encD_take, encD_len, encD_drop, Nat.le_refl, encS]
 have hWS : ∀ o : Lib', wS (st ++ [.box zLib, .box [.int .i64 0], .box [.int .i64 (wrongL [dt] 0 0).1, .int .i64 (wrongL [dt] 0 0).2], .gone, .gone, .gone, .gone]) w (st.length + 3) o = st ++ (.box zLib :: .box [.int .i64 0] :: [.box [.int .i64 (wrongL [dt] 0 0).1, .int .i64 (wrongL [dt] 0 0).2], .box (cellsW w (st.length + 3) o.name (rows2 o.exps) o.imps.length (o.body.map encD)), .tip 87 o.exps.length, .arr 84 6 (o.imps.map encSet), .tip 31 o.body.length]) := fun o => by
  unfold wS wR
  rw [List.set_append_right _ _ (by omega), List.set_append_right _ _ (by omega), List.set_append_right _ _ (by omega), List.set_append_right _ _ (by omega)]
  simp only [show st.length + 3 - st.length = 3 by omega, show st.length + 3 + 1 - st.length = 4 by omega, show st.length + 3 + 2 - st.length = 5 by omega, show st.length + 3 + 3 - st.length = 6 by omega, List.set_cons_succ, List.set_cons_zero]
 have hokE : ∀ (o : Lib') (e : Int), St.ok (st ++ (.box zLib :: .box [.int .i64 e] :: [.box [.int .i64 (wrongL [dt] 0 0).1, .int .i64 (wrongL [dt] 0 0).2], .box (cellsW w (st.length + 3) o.name (rows2 o.exps) o.imps.length (o.body.map encD)), .tip 87 o.exps.length, .arr 84 6 (o.imps.map encSet), .tip 31 o.body.length])) := fun o e => by
  refine ok_app hst ⟨by simp [zLib, Ent.lt, ltL, V.lt], by simp [Ent.lt, ltL, V.lt], by simp [Ent.lt, ltL, V.lt], ?_, trivial, ltRows_map fun s _ => encSet_lt _ _, trivial, trivial⟩
  simp only [List.length_cons, List.length_nil, Ent.lt, cellsW, ltL]
  refine ⟨?_, encS_lt _ _, encS_lt _ _, trivial, ?_, ?_, ?_, trivial, trivial⟩ <;> simp only [V.lt]
  ·exact ⟨fun e h => (by cases h), rows2_lt _ _⟩
  ·exact ⟨fun e h => (by cases h; omega), rows2_lt _ _⟩
  ·omega
  ·exact ⟨fun e h => (by cases h; omega), ltRows_map fun d _ => encD_lt _ _⟩
 have hb : st.length + 3 + 3 < (st ++ [Ent.box zLib, Ent.box [.int .i64 0], Ent.box [.int .i64 (wrongL [dt] 0 0).1, .int .i64 (wrongL [dt] 0 0).2], Ent.gone, Ent.gone, Ent.gone, Ent.gone]).length := by simp
 refine VCalls.more [87] (s0 := st ++ [.box [.str [], .nils, .nils, .nils], .box [.int .i64 0], .box [.int .i64 (wrongL [dt] 0 0).1, .int .i64 (wrongL [dt] 0 0).2], .box [.lst 2 none (rows2 w.files), .lst 1 none (w.feats.map fun s => [.str s]), .lst 1 none (w.libs.map fun s => [.str s]), .str [], .lst 2 (some (st.length + 4)) [], .nils, .nils, .int .i64 0]]) ?_ (wkL_refl _) ?_
 rotate_left
 ·refine (wkSt_refl _).append (wkSt_cons (Ent.wkp_refl _) (wkSt_cons (Ent.wkp_refl _) (wkSt_cons (Ent.wkp_refl _) (wkSt_cons (Ent.wk_box ?_) wkSt_nil))))
  exact wkL_cons (wk_refl _) (wkL_cons (wk_refl _) (wkL_cons (wk_refl _) (wkL_cons (wk_refl _) (wkL_cons (wk_tip _ (by simp [Tips])) (wkL_cons (wk_refl _) (wkL_cons (wk_refl _) (wkL_cons (wk_refl _) wkL_nil)))))))
 simp only [tips, List.map_cons, List.map_nil, List.append_assoc, List.cons_append, List.nil_append]
 refine VCalls.nilB (st.length + 3) 5 [.lst 2 none (rows2 w.files), .lst 1 none (w.feats.map fun s => [.str s]), .lst 1 none (w.libs.map fun s => [.str s]), .str [], .lst 2 (some (st.length + 4)) [], .nils, .nils, .int .i64 0] 84 (by simp) rfl ?_
 simp only [List.append_assoc, List.cons_append, List.nil_append, List.length_append, List.length_cons, List.length_nil, Nat.reduceAdd, List.set_cons_succ, List.set_cons_zero]
 rw [List.set_append_right _ _ (by omega)]
 simp only [show st.length + 3 - st.length = 3 by omega, List.set_cons_succ, List.set_cons_zero]
 have hT6 : (TT 84).size = 6 := rfl
 rw [hT6]
 refine VCalls.more [31] (s0 := st ++ [.box [.str [], .nils, .nils, .nils], .box [.int .i64 0], .box [.int .i64 (wrongL [dt] 0 0).1, .int .i64 (wrongL [dt] 0 0).2], .box [.lst 2 none (rows2 w.files), .lst 1 none (w.feats.map fun s => [.str s]), .lst 1 none (w.libs.map fun s => [.str s]), .str [], .lst 2 (some (st.length + 4)) [], .arr (st.length + 5) 0, .lst 6 (some (st.length + 6)) [], .int .i64 0], .tip 87 0, .arr 84 6 []]) ?_ (wkL_refl _) ?_
 rotate_left
 ·refine (wkSt_refl _).append (wkSt_cons (Ent.wkp_refl _) (wkSt_cons (Ent.wkp_refl _) (wkSt_cons (Ent.wkp_refl _) (wkSt_cons (Ent.wk_box ?_) (wkSt_cons (Ent.wkp_refl _) (wkSt_cons (Ent.wkp_refl _) wkSt_nil))))))
  exact wkL_cons (wk_refl _) (wkL_cons (wk_refl _) (wkL_cons (wk_refl _) (wkL_cons (wk_refl _) (wkL_cons (wk_refl _) (wkL_cons (wk_refl _) (wkL_cons (wk_tip _ (by simp [Tips])) (wkL_cons (wk_refl _) wkL_nil)))))))
 simp only [tips, List.map_cons, List.map_nil, List.append_assoc, List.cons_append, List.nil_append]
 have ht0 : topP w dt = thenE (listP 1 dt) noLib fun k => thenE (symP (k.getD 0 (.mk 0 0 [] 0 0 []))) noLib fun s =>
  bif decide (s = wLibrary) then thenE (listP 2 dt) noLib fun k2 => thenE (calledP (k2.getD 1 (.mk 0 0 [] 0 0 []))) noLib fun nm => declsL w (k.drop 2) { noLib with name := nm }
  else bif decide (s = wProgram) then declsL w (k.drop 1) noLib
  else (noLib, 2) := rfl
 have hpe : ∀ e : Int, (topP w dt).2 = e → e ≠ 0 → parseP w dt = (noLib, e) := fun e h1 h2 => by rw [hp0, h1, decide_eq_false h2]; rfl
 rcases (c_liblist dt 1 (wS (st ++ [.box zLib, .box [.int .i64 0], .box [.int .i64 (wrongL [dt] 0 0).1, .int .i64 (wrongL [dt] 0 0).2], .gone, .gone, .gone, .gone]) w (st.length + 3) noLib)).cases with ⟨he, hc⟩ | ⟨he, hc⟩
 ·rw [hWS] at hc
  refine hc.use (wkL_refl _) fun _ => ?_
  rw [thenE_ok he] at ht0
  have hm := listP_okM hok he
  obtain ⟨k, hk⟩ : ∃ k, (listP 1 dt).1 = k := ⟨_, rfl⟩
  rw [hk] at ht0 hm ⊢
  cases k with
  | nil => have := hm.2.2; simp at this
  | cons a r =>
   simp only [List.getD_cons_zero] at ht0
   simp only [gw0, reduceEqDiff, ↓reduceIte, reduceAdd, reduceLT, reduceLeDiff, reduceMul, gwD3, gwDT, pureR_none, ite_self, nilR, nilB, bitF, bitV, nilC, nilCmp, eqb, assertV, assertW, zeroV, wQ_normal, wQ_ret, wQ_panic, pickO, pickC, List.map_cons, List.map_nil, List.getD_cons_zero, List.getD_cons_succ, Env.keep, beq_self_eq_true, cond_true, cond_false, lstD, show Int.toNat 0 = 0 from rfl, show Int.toNat 1 = 1 from rfl, show Int.toNat 2 = 2 from rfl, List.drop_succ_cons, List.drop_zero, List.length_cons, List.length_map, List.map_cons, Nat.le_add_left, List.getD_cons_zero, List.getD_cons_succ, encD_take, encD_len, encD_drop, Nat.le_refl]
   refine ⟨⟨by omega, by omega⟩, ?_⟩
   rcases (c_libsym a (wS (st ++ [.box zLib, .box [.int .i64 0], .box [.int .i64 (wrongL [dt] 0 0).1, .int .i64 (wrongL [dt] 0 0).2], .gone, .gone, .gone, .gone]) w (st.length + 3) noLib)).cases with ⟨he2, hc2⟩ | ⟨he2, hc2⟩
   ·rw [hWS] at hc2
    refine hc2.use (wkL_refl _) fun _ => ?_
    rw [thenE_ok he2] at ht0
    generalize (symP a).1 = wd at ht0
    simp only [gw0, reduceEqDiff, ↓reduceIte, reduceAdd, reduceLT, reduceLeDiff, reduceMul, gwD3, gwDT, pureR_none, ite_self, nilR, nilB, bitF, bitV, nilC, nilCmp, eqb, assertV, assertW, zeroV, wQ_normal, wQ_ret, wQ_panic, pickO, pickC, List.map_cons, List.map_nil, List.getD_cons_zero, List.getD_cons_succ, Env.keep, beq_self_eq_true, cond_true, cond_false]
    refine iK_split (fun h3 => ?_) (fun h3 => ?_)
    ·rw [show decide (wd = wLibrary) = true from h3, cond_true] at ht0
     simp only [gw0, reduceEqDiff, ↓reduceIte, reduceAdd, reduceLT, reduceLeDiff, reduceMul, gwD3, gwDT, pureR_none, ite_self, nilR, nilB, bitF, bitV, nilC, nilCmp, eqb, assertV, assertW, zeroV, wQ_normal, wQ_ret, wQ_panic, pickO, pickC, List.map_cons, List.map_nil, List.getD_cons_zero, List.getD_cons_succ, Env.keep, beq_self_eq_true, cond_true, cond_false, encD_take, encD_len, encD_drop, Nat.le_refl]
     rcases (c_liblist dt 2 (wS (st ++ [.box zLib, .box [.int .i64 0], .box [.int .i64 (wrongL [dt] 0 0).1, .int .i64 (wrongL [dt] 0 0).2], .gone, .gone, .gone, .gone]) w (st.length + 3) noLib)).cases with ⟨he4, hc4⟩ | ⟨he4, hc4⟩
     ·rw [hWS] at hc4
      refine hc4.use (wkL_refl _) fun _ => ?_
      rw [thenE_ok he4] at ht0
      have hm4 := listP_okM hok he4
      have hks : (listP 2 dt).1 = a :: r := by rw [← hk]; exact listP_same he he4
      rw [hks] at ht0 hm4 ⊢
      cases r with
      | nil => have := hm4.2.2; simp at this
      | cons y z =>
       simp only [List.getD_cons_zero, List.getD_cons_succ, List.drop_succ_cons, List.drop_zero] at ht0
       simp only [gw0, reduceEqDiff, ↓reduceIte, reduceAdd, reduceLT, reduceLeDiff, reduceMul, gwD3, gwDT, pureR_none, ite_self, nilR, nilB, bitF, bitV, nilC, nilCmp, eqb, assertV, assertW, zeroV, wQ_normal, wQ_ret, wQ_panic, pickO, pickC, List.map_cons, List.map_nil, List.getD_cons_zero, List.getD_cons_succ, Env.keep, beq_self_eq_true, cond_true, cond_false, lstD, show Int.toNat 0 = 0 from rfl, show Int.toNat 1 = 1 from rfl, show Int.toNat 2 = 2 from rfl, List.drop_succ_cons, List.drop_zero, List.length_cons, List.length_map, List.map_cons, Nat.le_add_left, List.getD_cons_zero, List.getD_cons_succ, encD_take, encD_len, encD_drop, Nat.le_refl]
       refine ⟨⟨by omega, by omega⟩, ?_⟩
       have hmy : okM y := okMs_mem hm4.1 (by simp)
       have hmz : okMs z := hm4.1.2.2
       have hzl : z.length + 2 ≤ 2000 := hm4.2.1
       rcases (c_libcalled y hmy (wS (st ++ [.box zLib, .box [.int .i64 0], .box [.int .i64 (wrongL [dt] 0 0).1, .int .i64 (wrongL [dt] 0 0).2], .gone, .gone, .gone, .gone]) w (st.length + 3) noLib)).cases with ⟨he5, hc5⟩ | ⟨he5, hc5⟩
       ·rw [hWS] at hc5
        refine hc5.use (wkL_refl _) fun _ => ?_
        rw [thenE_ok he5] at ht0
        generalize (calledP y).1 = nm at ht0
        simp only [gw0, reduceEqDiff, ↓reduceIte, reduceAdd, reduceLT, reduceLeDiff, reduceMul, gwD3, gwDT, pureR_none, ite_self, nilR, nilB, bitF, bitV, nilC, nilCmp, eqb, assertV, assertW, zeroV, wQ_normal, wQ_ret, wQ_panic, pickO, pickC, List.map_cons, List.map_nil, List.getD_cons_zero, List.getD_cons_succ, Env.keep, beq_self_eq_true, cond_true, cond_false, cellsW, show Int.toNat 0 = 0 from rfl, show Int.toNat 1 = 1 from rfl, show Int.toNat 2 = 2 from rfl, List.drop_succ_cons, List.drop_zero, List.length_cons, List.length_map, List.map_cons, Nat.le_add_left, List.getD_cons_zero, List.getD_cons_succ]
        refine ⟨⟨by omega, by omega⟩, ?_⟩
        rcases (c_decls w z hmz (by omega) { noLib with name := nm } ⟨by simp [noLib], by simp [noLib], by simp [noLib]⟩ (st ++ [.box zLib, .box [.int .i64 0], .box [.int .i64 (wrongL [dt] 0 0).1, .int .i64 (wrongL [dt] 0 0).2], .gone, .gone, .gone, .gone]) (st.length + 3) hb).cases with ⟨he9, hc9⟩ | ⟨he9, hc9⟩
        ·rw [hWS, hWS] at hc9
         refine hc9.use (wkL_refl _) fun _ => ?_
         have hpok : parseP w dt = ((declsL w z { noLib with name := nm }).1, 0) := by rw [hp0, ht0, decide_eq_true he9, cond_true]; exact Prod.ext rfl he9
         generalize (declsL w z { noLib with name := nm }).1 = of at hpok ⊢
         simp only [gw0, reduceEqDiff, ↓reduceIte, reduceAdd, reduceLT, reduceLeDiff, reduceMul, gwD3, gwDT, pureR_none, ite_self, nilR, nilB, bitF, bitV, nilC, nilCmp, eqb, assertV, assertW, zeroV, wQ_normal, wQ_ret, wQ_panic, pickO, pickC, List.map_cons, List.map_nil, List.getD_cons_zero, List.getD_cons_succ, Env.keep, beq_self_eq_true, cond_true, cond_false, cellsW, zLib]
         refine dQ_ret (d_libidle _ _ _) ?_
         simp only [gw0, reduceEqDiff, ↓reduceIte, reduceAdd, reduceLT, reduceLeDiff, reduceMul, gwD3, gwDT, pureR_none, ite_self, nilR, nilB, bitF, bitV, nilC, nilCmp, eqb, assertV, assertW, zeroV, wQ_normal, wQ_ret, wQ_panic, pickO, pickC, List.map_cons, List.map_nil, List.getD_cons_zero, List.getD_cons_succ, Env.keep, beq_self_eq_true, cond_true, cond_false]
         rw [hpok]
         refine ⟨_, _, _, rfl, rfl, .tup (.cons (.agg (.cons (.same _) (.cons (.same _) (.cons (.arr (rows' := of.imps.map encSet) (e := 84) (by omega) (at_5 ..) (by simp) (ThawR.refl _)) (.cons (.same _) .nil))))) (.cons (.same _) .nil)), ?_, libV_lt _ _⟩
         exact wk_tup (wkL_cons (wk_agg (wkL_cons (wk_refl _) (wkL_cons (wk_tok _ _ _) (wkL_cons (wk_refl _) (wkL_cons (wk_tok _ _ _) wkL_nil))))) (wkL_cons (wk_refl _) wkL_nil))
        ·rw [hWS] at hc9
         rw [hWS] at hc9
         refine hc9.useP (wkL_refl _) ?_
         simp only [gw0, reduceEqDiff, ↓reduceIte, reduceAdd, reduceLT, reduceLeDiff, reduceMul, gwD3, gwDT, pureR_none, ite_self, nilR, nilB, bitF, bitV, nilC, nilCmp, eqb, assertV, assertW, zeroV, wQ_normal, wQ_ret, wQ_panic, pickO, pickC, List.map_cons, List.map_nil, List.getD_cons_zero, List.getD_cons_succ, Env.keep, beq_self_eq_true, cond_true, cond_false]
         refine dQ_panic (y_libcaught st _ (declsL w z { noLib with name := nm }).2 0 (hokE (declsL w z { noLib with name := nm }).1 _)) ?_
         simp only [gw0, reduceEqDiff, ↓reduceIte, reduceAdd, reduceLT, reduceLeDiff, reduceMul, gwD3, gwDT, pureR_none, ite_self, nilR, nilB, bitF, bitV, nilC, nilCmp, eqb, assertV, assertW, zeroV, wQ_normal, wQ_ret, wQ_panic, pickO, pickC, List.map_cons, List.map_nil, List.getD_cons_zero, List.getD_cons_succ, Env.keep, beq_self_eq_true, cond_true, cond_false, zLib]
         rw [hpe _ (by rw [ht0]) he9]
         exact ⟨_, _, _, rfl, rfl, .same _, hz _, libV_lt _ _⟩
       ·rw [thenE_bad he5] at ht0
        rw [hWS] at hc5
        refine hc5.useP (wkL_refl _) ?_
        simp only [gw0, reduceEqDiff, ↓reduceIte, reduceAdd, reduceLT, reduceLeDiff, reduceMul, gwD3, gwDT, pureR_none, ite_self, nilR, nilB, bitF, bitV, nilC, nilCmp, eqb, assertV, assertW, zeroV, wQ_normal, wQ_ret, wQ_panic, pickO, pickC, List.map_cons, List.map_nil, List.getD_cons_zero, List.getD_cons_succ, Env.keep, beq_self_eq_true, cond_true, cond_false]
        refine dQ_panic (y_libcaught st _ (calledP y).2 0 (hokE noLib _)) ?_
        simp only [gw0, reduceEqDiff, ↓reduceIte, reduceAdd, reduceLT, reduceLeDiff, reduceMul, gwD3, gwDT, pureR_none, ite_self, nilR, nilB, bitF, bitV, nilC, nilCmp, eqb, assertV, assertW, zeroV, wQ_normal, wQ_ret, wQ_panic, pickO, pickC, List.map_cons, List.map_nil, List.getD_cons_zero, List.getD_cons_succ, Env.keep, beq_self_eq_true, cond_true, cond_false, zLib]
        rw [hpe _ (by rw [ht0]) he5]
        exact ⟨_, _, _, rfl, rfl, .same _, hz _, libV_lt _ _⟩
     ·rw [thenE_bad he4] at ht0
      rw [hWS] at hc4
      refine hc4.useP (wkL_refl _) ?_
      simp only [gw0, reduceEqDiff, ↓reduceIte, reduceAdd, reduceLT, reduceLeDiff, reduceMul, gwD3, gwDT, pureR_none, ite_self, nilR, nilB, bitF, bitV, nilC, nilCmp, eqb, assertV, assertW, zeroV, wQ_normal, wQ_ret, wQ_panic, pickO, pickC, List.map_cons, List.map_nil, List.getD_cons_zero, List.getD_cons_succ, Env.keep, beq_self_eq_true, cond_true, cond_false]
      refine dQ_panic (y_libcaught st _ (listP 2 dt).2 0 (hokE noLib _)) ?_
      simp only [gw0, reduceEqDiff, ↓reduceIte, reduceAdd, reduceLT, reduceLeDiff, reduceMul, gwD3, gwDT, pureR_none, ite_self, nilR, nilB, bitF, bitV, nilC, nilCmp, eqb, assertV, assertW, zeroV, wQ_normal, wQ_ret, wQ_panic, pickO, pickC, List.map_cons, List.map_nil, List.getD_cons_zero, List.getD_cons_succ, Env.keep, beq_self_eq_true, cond_true, cond_false, zLib]
      rw [hpe _ (by rw [ht0]) he4]
      exact ⟨_, _, _, rfl, rfl, .same _, hz _, libV_lt _ _⟩
    ·rw [show decide (wd = wLibrary) = false from h3, cond_false] at ht0
     simp only [gw0, reduceEqDiff, ↓reduceIte, reduceAdd, reduceLT, reduceLeDiff, reduceMul, gwD3, gwDT, pureR_none, ite_self, nilR, nilB, bitF, bitV, nilC, nilCmp, eqb, assertV, assertW, zeroV, wQ_normal, wQ_ret, wQ_panic, pickO, pickC, List.map_cons, List.map_nil, List.getD_cons_zero, List.getD_cons_succ, Env.keep, beq_self_eq_true, cond_true, cond_false]
     refine iK_split (fun h4 => ?_) (fun h4 => ?_)
     ·rw [show decide (wd = wProgram) = true from h4, cond_true] at ht0
      simp only [List.drop_succ_cons, List.drop_zero] at ht0
      have hmr : okMs r := hm.1.2
      have hrl : r.length + 1 ≤ 2000 := hm.2.1
      simp only [gw0, reduceEqDiff, ↓reduceIte, reduceAdd, reduceLT, reduceLeDiff, reduceMul, gwD3, gwDT, pureR_none, ite_self, nilR, nilB, bitF, bitV, nilC, nilCmp, eqb, assertV, assertW, zeroV, wQ_normal, wQ_ret, wQ_panic, pickO, pickC, List.map_cons, List.map_nil, List.getD_cons_zero, List.getD_cons_succ, Env.keep, beq_self_eq_true, cond_true, cond_false, show Int.toNat 0 = 0 from rfl, show Int.toNat 1 = 1 from rfl, show Int.toNat 2 = 2 from rfl, List.drop_succ_cons, List.drop_zero, List.length_cons, List.length_map, List.map_cons, Nat.le_add_left, List.getD_cons_zero, List.getD_cons_succ]
      refine ⟨⟨by omega, by omega⟩, ?_⟩
      rcases (c_decls w r hmr (by omega) noLib ⟨by simp [noLib], by simp [noLib], by simp [noLib]⟩ (st ++ [.box zLib, .box [.int .i64 0], .box [.int .i64 (wrongL [dt] 0 0).1, .int .i64 (wrongL [dt] 0 0).2], .gone, .gone, .gone, .gone]) (st.length + 3) hb).cases with ⟨he9, hc9⟩ | ⟨he9, hc9⟩
      ·rw [hWS, hWS] at hc9
       refine hc9.use (wkL_refl _) fun _ => ?_
       have hpok : parseP w dt = ((declsL w r noLib).1, 0) := by rw [hp0, ht0, decide_eq_true he9, cond_true]; exact Prod.ext rfl he9
       generalize (declsL w r noLib).1 = of at hpok ⊢
       simp only [gw0, reduceEqDiff, ↓reduceIte, reduceAdd, reduceLT, reduceLeDiff, reduceMul, gwD3, gwDT, pureR_none, ite_self, nilR, nilB, bitF, bitV, nilC, nilCmp, eqb, assertV, assertW, zeroV, wQ_normal, wQ_ret, wQ_panic, pickO, pickC, List.map_cons, List.map_nil, List.getD_cons_zero, List.getD_cons_succ, Env.keep, beq_self_eq_true, cond_true, cond_false, cellsW, zLib]
       refine dQ_ret (d_libidle _ _ _) ?_
       simp only [gw0, reduceEqDiff, ↓reduceIte, reduceAdd, reduceLT, reduceLeDiff, reduceMul, gwD3, gwDT, pureR_none, ite_self, nilR, nilB, bitF, bitV, nilC, nilCmp, eqb, assertV, assertW, zeroV, wQ_normal, wQ_ret, wQ_panic, pickO, pickC, List.map_cons, List.map_nil, List.getD_cons_zero, List.getD_cons_succ, Env.keep, beq_self_eq_true, cond_true, cond_false]
       rw [hpok]
       refine ⟨_, _, _, rfl, rfl, .tup (.cons (.agg (.cons (.same _) (.cons (.same _) (.cons (.arr (rows' := of.imps.map encSet) (e := 84) (by omega) (at_5 ..) (by simp) (ThawR.refl _)) (.cons (.same _) .nil))))) (.cons (.same _) .nil)), ?_, libV_lt _ _⟩
       exact wk_tup (wkL_cons (wk_agg (wkL_cons (wk_refl _) (wkL_cons (wk_tok _ _ _) (wkL_cons (wk_refl _) (wkL_cons (wk_tok _ _ _) wkL_nil))))) (wkL_cons (wk_refl _) wkL_nil))
      ·rw [hWS] at hc9
       rw [hWS] at hc9
       refine hc9.useP (wkL_refl _) ?_
       simp only [gw0, reduceEqDiff, ↓reduceIte, reduceAdd, reduceLT, reduceLeDiff, reduceMul, gwD3, gwDT, pureR_none, ite_self, nilR, nilB, bitF, bitV, nilC, nilCmp, eqb, assertV, assertW, zeroV, wQ_normal, wQ_ret, wQ_panic, pickO, pickC, List.map_cons, List.map_nil, List.getD_cons_zero, List.getD_cons_succ, Env.keep, beq_self_eq_true, cond_true, cond_false]
       refine dQ_panic (y_libcaught st _ (declsL w r noLib).2 0 (hokE (declsL w r noLib).1 _)) ?_
       simp only [gw0, reduceEqDiff, ↓reduceIte, reduceAdd, reduceLT, reduceLeDiff, reduceMul, gwD3, gwDT, pureR_none, ite_self, nilR, nilB, bitF, bitV, nilC, nilCmp, eqb, assertV, assertW, zeroV, wQ_normal, wQ_ret, wQ_panic, pickO, pickC, List.map_cons, List.map_nil, List.getD_cons_zero, List.getD_cons_succ, Env.keep, beq_self_eq_true, cond_true, cond_false, zLib]
       rw [hpe _ (by rw [ht0]) he9]
       exact ⟨_, _, _, rfl, rfl, .same _, hz _, libV_lt _ _⟩
     ·rw [show decide (wd = wProgram) = false from h4, cond_false] at ht0
      simp only [gw0, reduceEqDiff, ↓reduceIte, reduceAdd, reduceLT, reduceLeDiff, reduceMul, gwD3, gwDT, pureR_none, ite_self, nilR, nilB, bitF, bitV, nilC, nilCmp, eqb, assertV, assertW, zeroV, wQ_normal, wQ_ret, wQ_panic, pickO, pickC, List.map_cons, List.map_nil, List.getD_cons_zero, List.getD_cons_succ, Env.keep, beq_self_eq_true, cond_true, cond_false]
      refine (c_libfail _ 2).useP (wkL_refl _) ?_
      simp only [gw0, reduceEqDiff, ↓reduceIte, reduceAdd, reduceLT, reduceLeDiff, reduceMul, gwD3, gwDT, pureR_none, ite_self, nilR, nilB, bitF, bitV, nilC, nilCmp, eqb, assertV, assertW, zeroV, wQ_normal, wQ_ret, wQ_panic, pickO, pickC, List.map_cons, List.map_nil, List.getD_cons_zero, List.getD_cons_succ, Env.keep, beq_self_eq_true, cond_true, cond_false]
      refine dQ_panic (y_libcaught st _ 2 0 (hokE noLib _)) ?_
      simp only [gw0, reduceEqDiff, ↓reduceIte, reduceAdd, reduceLT, reduceLeDiff, reduceMul, gwD3, gwDT, pureR_none, ite_self, nilR, nilB, bitF, bitV, nilC, nilCmp, eqb, assertV, assertW, zeroV, wQ_normal, wQ_ret, wQ_panic, pickO, pickC, List.map_cons, List.map_nil, List.getD_cons_zero, List.getD_cons_succ, Env.keep, beq_self_eq_true, cond_true, cond_false, zLib]
      rw [hpe _ (by rw [ht0]) (show (2 : Int) ≠ 0 by decide)]
      exact ⟨_, _, _, rfl, rfl, .same _, hz _, libV_lt _ _⟩
   ·rw [thenE_bad he2] at ht0
    rw [hWS] at hc2
    refine hc2.useP (wkL_refl _) ?_
    simp only [gw0, reduceEqDiff, ↓reduceIte, reduceAdd, reduceLT, reduceLeDiff, reduceMul, gwD3, gwDT, pureR_none, ite_self, nilR, nilB, bitF, bitV, nilC, nilCmp, eqb, assertV, assertW, zeroV, wQ_normal, wQ_ret, wQ_panic, pickO, pickC, List.map_cons, List.map_nil, List.getD_cons_zero, List.getD_cons_succ, Env.keep, beq_self_eq_true, cond_true, cond_false]
    refine dQ_panic (y_libcaught st _ (symP a).2 0 (hokE noLib _)) ?_
    simp only [gw0, reduceEqDiff, ↓reduceIte, reduceAdd, reduceLT, reduceLeDiff, reduceMul, gwD3, gwDT, pureR_none, ite_self, nilR, nilB, bitF, bitV, nilC, nilCmp, eqb, assertV, assertW, zeroV, wQ_normal, wQ_ret, wQ_panic, pickO, pickC, List.map_cons, List.map_nil, List.getD_cons_zero, List.getD_cons_succ, Env.keep, beq_self_eq_true, cond_true, cond_false, zLib]
    rw [hpe _ (by rw [ht0]) he2]
    exact ⟨_, _, _, rfl, rfl, .same _, hz _, libV_lt _ _⟩
 ·rw [thenE_bad he] at ht0
  rw [hWS] at hc
  refine hc.useP (wkL_refl _) ?_
  simp only [gw0, reduceEqDiff, ↓reduceIte, reduceAdd, reduceLT, reduceLeDiff, reduceMul, gwD3, gwDT, pureR_none, ite_self, nilR, nilB, bitF, bitV, nilC, nilCmp, eqb, assertV, assertW, zeroV, wQ_normal, wQ_ret, wQ_panic, pickO, pickC, List.map_cons, List.map_nil, List.getD_cons_zero, List.getD_cons_succ, Env.keep, beq_self_eq_true, cond_true, cond_false]
  refine dQ_panic (y_libcaught st _ (listP 1 dt).2 0 (hokE noLib _)) ?_
  simp only [gw0, reduceEqDiff, ↓reduceIte, reduceAdd, reduceLT, reduceLeDiff, reduceMul, gwD3, gwDT, pureR_none, ite_self, nilR, nilB, bitF, bitV, nilC, nilCmp, eqb, assertV, assertW, zeroV, wQ_normal, wQ_ret, wQ_panic, pickO, pickC, List.map_cons, List.map_nil, List.getD_cons_zero, List.getD_cons_succ, Env.keep, beq_self_eq_true, cond_true, cond_false, zLib]
  rw [hpe _ (by rw [ht0]) he]
  exact ⟨_, _, _, rfl, rfl, .same _, hz _, libV_lt _ _⟩
mutual
theorem shape_shift : ∀ (d : Datum) (deep c c' : Int), (shapeD d deep c).1 ≠ 4 → (shapeD d deep c').1 ≠ 4 → (shapeD d deep c).1 = (shapeD d deep c').1 ∧ ((shapeD d deep c).1 = 0 → (shapeD d deep c).2 - c = (shapeD d deep c').2 - c')
 | .mk k n nm s l kids, deep, c, c', h, h' => by
  unfold shapeD at h h' ⊢
  cases h1 : decide (2000 < c + 1) || decide (40 < deep) with
  | true => rw [h1] at h; simp at h
  | false =>
   cases h2 : decide (2000 < c' + 1) || decide (40 < deep) with
   | true => rw [h2] at h'; simp at h'
   | false =>
    rw [h1] at h
    rw [h2] at h'
    simp only [cond_false] at h h' ⊢
    cases e1 : decide (k = 1) with
    | true => cases decide (1000000000000000 < n) || decide (n < -1000000000000000) <;> simp <;> omega
    | false =>
     rw [e1] at h h'
     simp only [cond_false] at h h' ⊢
     cases e2 : decide (k = 2) with
     | true => cases decide (n = 0) || decide (n = 1) <;> simp <;> omega
     | false =>
      rw [e2] at h h'
      simp only [cond_false] at h h' ⊢
      cases e3 : decide (k = 3) with
      | true => cases !namedB nm <;> cases decide (s = 0) && decide (l = 0) <;> simp <;> omega
      | false =>
       rw [e3] at h h'
       simp only [cond_false] at h h' ⊢
       cases e4 : decide (k = 4) with
       | false => simp
       | true =>
        rw [e4] at h h'
        simp only [cond_true] at h h' ⊢
        have := shapes_shift kids (deep + 1) (c + 1) (c' + 1) h h'
        exact ⟨this.1, fun h => by have := this.2 h; omega⟩
theorem shapes_shift : ∀ (l : List Datum) (deep c c' : Int), (shapeDs l deep c).1 ≠ 4 → (shapeDs l deep c').1 ≠ 4 → (shapeDs l deep c).1 = (shapeDs l deep c').1 ∧ ((shapeDs l deep c).1 = 0 → (shapeDs l deep c).2 - c = (shapeDs l deep c').2 - c')
 | [], deep, c, c', h, h' => by simp [shapeDs]
 | d :: r, deep, c, c', h, h' => by
  simp only [shapeDs] at h h' ⊢
  have hd : (shapeD d deep c).1 ≠ 4 := fun e => by rw [e] at h; simp [e] at h
  have hd' : (shapeD d deep c').1 ≠ 4 := fun e => by rw [e] at h'; simp [e] at h'
  have ih := shape_shift d deep c c' hd hd'
  cases e : decide ((shapeD d deep c).1 = 0) with
  | false =>
   have e' : decide ((shapeD d deep c').1 = 0) = false := by rw [← ih.1]; exact e
   rw [e']
   simp only [cond_false]
   exact ⟨ih.1, fun h => absurd h (of_decide_eq_false e)⟩
  | true =>
   have e' : decide ((shapeD d deep c').1 = 0) = true := by rw [← ih.1]; exact e
   rw [e] at h
   rw [e'] at h' ⊢
   simp only [cond_true] at h h' ⊢
   have i2 := shapes_shift r deep _ _ h h'
   have i3 := ih.2 (of_decide_eq_true e)
   exact ⟨i2.1, fun h => by have := i2.2 h; omega⟩
end
theorem shapes_cons (d : Datum) (r : List Datum) (deep c : Int) : shapeDs (d :: r) deep c = bif decide ((shapeD d deep c).1 = 0) then shapeDs r deep (shapeD d deep c).2 else shapeD d deep c := by rw [shapeDs]
theorem shapes_app : ∀ (x y : List Datum) (deep c : Int), shapeDs (x ++ y) deep c = bif decide ((shapeDs x deep c).1 = 0) then shapeDs y deep (shapeDs x deep c).2 else shapeDs x deep c
 | [], y, deep, c => by simp [shapeDs]
 | d :: r, y, deep, c => by
  rw [List.cons_append, shapes_cons, shapes_cons d r]
  by_cases e : (shapeD d deep c).1 = 0
  ·simp only [decide_eq_true e, cond_true]; exact shapes_app r y deep _
  ·simp only [decide_eq_false e, cond_false]
def Ld (l : List Datum) : Datum := .mk 4 0 [] 0 0 l
def Sd (s : Str) : Datum := .mk 3 0 s 0 0 []
theorem shape_S {s : Str} (h : namedB s = true) {deep c : Int} (h1 : deep ≤ 40) : shapeD (Sd s) deep c = bif decide (2000 < c + 1) then (4, c + 1) else (0, c + 1) := by
 unfold Sd shapeD
 rw [show decide (40 < deep) = false from decide_eq_false (by omega), Bool.or_false]
 cases decide (2000 < c + 1) <;> simp [h]
theorem shape_L (l : List Datum) {deep c : Int} (h1 : deep ≤ 40) : shapeD (Ld l) deep c = bif decide (2000 < c + 1) then (4, c + 1) else shapeDs l (deep + 1) (c + 1) := by
 unfold Ld
 rw [shapeD]
 rw [show decide (40 < deep) = false from decide_eq_false (by omega), Bool.or_false]
 cases decide (2000 < c + 1) <;> simp
theorem shapes_one (d : Datum) (deep c : Int) : (shapeDs [d] deep c).1 = (shapeD d deep c).1 := by
 simp only [shapeDs]
 cases e : decide ((shapeD d deep c).1 = 0) with
 | true => simp only [cond_true]; exact (of_decide_eq_true e).symm
 | false => rfl
theorem wrong_one (d : Datum) : (wrongL [d] 0 0).1 = (shapeD d 1 0).1 := by
 simp only [wrongL]
 cases e : decide ((shapeD d 1 0).1 = 0) with
 | true => simp only [cond_true]; exact (of_decide_eq_true e).symm
 | false => rfl
/-- The same, as far as it counts. -/
def same2 {α : Type} (x y : α × Int) : Prop := x.2 = y.2 ∧ (x.2 = 0 → x.1 = y.1)
theorem same2.refl {α : Type} (x : α × Int) : same2 x x := ⟨rfl, fun _ => rfl⟩
theorem includeP_cons (w : Wd) (d : Datum) (r : List Datum) (o : Lib') : includeP w (d :: r) o = bif decide ((symP d).2 = 0) then
      (match fileOf (symP d).1 w.files with
      | none => (o, 6)
      | some t => match readR t with
       | .inl f => (o, f.1)
       | .inr k => bif decide ((bodyL k o).2 = 0) then includeP w r (bodyL k o).1 else bodyL k o)
  else (o, (symP d).2) := by rw [includeP]; rfl
theorem decls_one (w : Wd) (d : Datum) (o : Lib') : declsL w [d] o = declD w d o := by
 rw [declsL_cons]
 cases e : decide ((declD w d o).2 = 0) with
 | false => rfl
 | true => simp only [cond_true, declsL]; exact Prod.ext rfl (of_decide_eq_true e).symm
theorem list_L {l : List Datum} {n : Nat} (h : n ≤ l.length) : listP n (Ld l) = (l, 0) := by
 simp only [Ld, listP, decide_true, Bool.not_true, Bool.false_or]
 rw [decide_eq_false (by omega)]; rfl
theorem encLib_len (o : Lib') : (encLib o).length = 4 := rfl
theorem encLib_take (o : Lib') : (encLib o).take 4 = encLib o := rfl
theorem encLib_drop (o : Lib') : (encLib o).drop 4 = [] := rfl
theorem c_refSym (s : Str) (st : St) : VCalls Tryd.prog TT 11 [.str s] st fun r st' => r = .ret (.agg (encD (Sd s))) ∧ st' = st := by
 refine vfun TT_ok (an := anL []) (L := [0, 2]) (rs := [.cell 2 31]) Tryd.func11 rfl (by kernel_rfl) rfl Tryd.ntmps11 rfl rfl (Nat.le_refl _) fun hst ha hf => ?_
 simp only [gw0, reduceEqDiff, ↓reduceIte, reduceAdd, reduceLT, reduceLeDiff, reduceMul, gwD3, gwDT, pureR_none, ite_self, nilR, nilB, bitF, bitV, nilC, nilCmp, eqb, assertV, assertW, zeroV, wQ_normal, wQ_ret, wQ_panic, pickO, pickC, List.map_cons, List.map_nil, List.getD_cons_zero, List.getD_cons_succ, Env.keep, beq_self_eq_true, cond_true, cond_false]
 refine gives_of (wk_agg ?_) (wkSt_refl _) (by simp only [V.lt]; exact encD_lt _ _) hst
 rw [Sd, encD_mk]
 exact wkL_cons (wk_refl _) (wkL_cons (wk_refl _) (wkL_cons (wk_refl _) (wkL_cons (wk_refl _) (wkL_cons (wk_refl _) (wkL_cons (wk_nils _) wkL_nil)))))
theorem c_refList (l : List Datum) (st : St) : VCalls Tryd.prog TT 10 [lstD l] st fun r st' => r = .ret (.agg (encD (Ld l))) ∧ st' = st := by
 refine vfun TT_ok (an := anL []) (L := [0, 2]) (rs := [.cell 2 31]) Tryd.func10 rfl (by kernel_rfl) rfl Tryd.ntmps10 rfl rfl (Nat.le_refl _) fun hst ha hf => ?_
 simp only [gw0, reduceEqDiff, ↓reduceIte, reduceAdd, reduceLT, reduceLeDiff, reduceMul, gwD3, gwDT, pureR_none, ite_self, nilR, nilB, bitF, bitV, nilC, nilCmp, eqb, assertV, assertW, zeroV, wQ_normal, wQ_ret, wQ_panic, pickO, pickC, List.map_cons, List.map_nil, List.getD_cons_zero, List.getD_cons_succ, Env.keep, beq_self_eq_true, cond_true, cond_false, lstD]
 refine gives_of (wk_agg ?_) (wkSt_refl _) (by simp only [V.lt]; exact encD_lt _ _) hst
 rw [Ld, encD_mk]
 exact wkL_refl _
mutual
theorem eqD_self : ∀ d : Datum, eqD d d = true
 | .mk k n nm s l kids => by
  simp only [eqD, decide_true, cond_true, Bool.and_self, eqDs_self kids]
  cases decide (k = 1) <;> cases decide (k = 2) <;> cases decide (k = 3) <;> cases decide (k = 4) <;> rfl
theorem eqDs_self : ∀ l : List Datum, eqDs l l = true
 | [] => by simp only [eqDs]
 | a :: r => by simp only [eqDs, eqD_self a, eqDs_self r, Bool.and_self]
end
theorem fit_rows {α : Type} {f : α → List V} {l : List α} {a : α} (h : fitR (l.map f)) (ha : a ∈ l) : fitL (f a) := by
 induction l with
 | nil => simp at ha
 | cons x l ih =>
  rcases List.mem_cons.1 ha with rfl | ha
  ·exact h.1
  ·exact ih h.2 ha
def kidsOf : Set' → List Set'
 | .mk _ _ _ _ _ kids => kids
theorem encSet_drop (s : Set') : (encSet s).drop 6 = [] := List.drop_of_length_le (by rw [encSet_len]; exact Nat.le_refl _)
/-- Pairs that are the same. -/
theorem c_ref2Same (l : Prs) (st : St) : VCalls Tryd.prog TT 33 [.lst 2 none (rows2 l), .lst 2 none (rows2 l)] st fun r st' => r = .ret (.bool true) ∧ st' = st := by
 refine vfun TT_ok (an := anL []) (L := [0, 1, 4, 5, 12, 13]) (rs := [.tmp 4]) Tryd.func33 rfl (by kernel_rfl) rfl Tryd.ntmps33 rfl rfl (Nat.le_refl _) fun hst ha hf => ?_
 simp only [rows2, fitL, V.fit, List.length_map] at hf ⊢
 have hkl : l.length ≤ 9223372036854775807 := by simp at hf; omega
 simp only [gw0, reduceEqDiff, ↓reduceIte, reduceAdd, reduceLT, reduceLeDiff, reduceMul, List.length_map]
 refine vfor (σ := Nat) [0, 1, 4, 12, 13] (fun i => [(0, true, .lst 2 none (rows2 l)), (1, true, .lst 2 none (rows2 l)), (4, true, .bool false), (12, true, .int .i64 l.length), (13, true, .int .i64 i)]) (fun i => st) (fun i => l.length - i) (fun i => i ≤ l.length ∧ (0 : Nat) = 0) 0 rfl TT_ok ⟨Nat.zero_le _, rfl⟩ rfl rfl ?_
 rintro i ⟨hi, _⟩
 simp only [rows2]
 rcases at_or_end l i hi with ⟨rfl, hd⟩ | ⟨a, hlt, hget, hdr⟩
 ·simp only [gw0, reduceEqDiff, ↓reduceIte, reduceAdd, reduceLT, reduceLeDiff, reduceMul, lt_no]
  exact gives_bool rfl hst
 ·simp only [gw0, reduceEqDiff, ↓reduceIte, reduceAdd, reduceLT, reduceLeDiff, reduceMul, lt_yes hlt, List.length_map, Int.ofNat_lt.mpr hlt]
  refine vdraw TT_ok TT_mixed [0, 0, 0, 1, 0, 0, 0, 1, 0] (by kernel_rfl) ?_
  simp only [gw0, reduceEqDiff, ↓reduceIte, reduceAdd, reduceLT, reduceLeDiff, reduceMul, List.length_map, getD_map hget, Int.ofNat_lt.mpr hlt, encF2]
  exact ⟨i + 1, by rw [next_i64 hlt hkl]; rfl, by omega, hlt⟩
/-- Strings that are the same, in a row. -/
theorem c_SameSets_of (l : List Set') (ih : ∀ d ∈ l, ∀ st : St, VCalls Tryd.prog TT 34 [.lst 6 none ((kidsOf d).map encSet), .lst 6 none ((kidsOf d).map encSet)] st fun r st' => r = .ret (.bool true) ∧ st' = st) (st : St) :
  VCalls Tryd.prog TT 34 [.lst 6 none (l.map encSet), .lst 6 none (l.map encSet)] st fun r st' => r = .ret (.bool true) ∧ st' = st := by
 refine vfun TT_ok (an := anL []) (L := [0, 1, 4, 5, 6, 7, 8, 15, 16, 74, 75]) (rs := [.tmp 4]) Tryd.func34 rfl (by kernel_rfl) rfl Tryd.ntmps34 rfl rfl (Nat.le_refl _) fun hst ha hf => ?_
 simp only [fitL, V.fit, List.length_map] at hf ⊢
 obtain ⟨⟨hkl, hfl⟩, _⟩ := hf
 simp only [gw0, reduceEqDiff, ↓reduceIte, reduceAdd, reduceLT, reduceLeDiff, reduceMul, List.length_map]
 refine vfor (σ := Nat × St) [0, 1, 4, 15, 16] (fun x => [(0, true, .lst 6 none (l.map encSet)), (1, true, .lst 6 none (l.map encSet)), (4, true, .bool false), (15, true, .int .i64 l.length), (16, true, .int .i64 x.1)]) (fun x => st ++ x.2) (fun x => l.length - x.1) (fun x => x.1 ≤ l.length ∧ (0 : Nat) = 0) (0, []) rfl TT_ok ⟨Nat.zero_le _, rfl⟩ rfl (List.append_nil st).symm ?_
 rintro ⟨i, ex⟩ ⟨hi, _⟩
 simp only at hi ⊢
 rcases at_or_end l i hi with ⟨rfl, hd⟩ | ⟨a, hlt, hget, hdr⟩
 ·simp only [gw0, reduceEqDiff, ↓reduceIte, reduceAdd, reduceLT, reduceLeDiff, reduceMul, lt_no]
  exact gives_bool' rfl hst
 ·have ih := ih a (List.mem_of_getElem? hget)
  simp only [gw0, reduceEqDiff, ↓reduceIte, reduceAdd, reduceLT, reduceLeDiff, reduceMul, lt_yes hlt, List.length_map, Int.ofNat_lt.mpr hlt]
  refine vdraw2 TT_ok TT_mixed (σ := Nat × Nat × St) [0, 0, 0, 0, 0, 0, 0, 0, 2, 2, 2, 2] [0, 1, 2, 3, 4, 5, 6, 7, 9, 8, 10, 11] 8 9 [0, 1, 4, 5, 6, 7, 15, 16] (fun x => [(0, true, .lst 6 none (l.map encSet)), (1, true, .lst 6 none (l.map encSet)), (4, true, .bool false), (5, true, .int .i64 i), (6, true, .ptr x.1 0), (7, true, .ptr x.2.1 0), (15, true, .int .i64 l.length), (16, true, .int .i64 i)]) (fun x => st ++ x.2.2) (fun x => (st ++ x.2.2)[x.1]? = some (.box (encSet a)) ∧ (st ++ x.2.2)[x.2.1]? = some (.box (encSet a))) rfl (by kernel_rfl) ?_ ?_ ?_
  ·simp only [gw0, reduceEqDiff, ↓reduceIte, reduceAdd, reduceLT, reduceLeDiff, reduceMul, List.length_map, getD_map hget, Int.ofNat_lt.mpr hlt, encSet_take, encSet_len, encSet_drop]
   exact ⟨rfl, rfl, (st.length + ex.length, st.length + (ex.length + 1), ex ++ [Ent.box (encSet a), Ent.box (encSet a)]), rfl, rfl, by simp [List.getElem?_append_right], by simp [List.getElem?_append_right]⟩
  ·simp only [pickO, pickC, List.map_cons, List.map_nil, List.getD_cons_zero, List.getD_cons_succ]
   simp only [gw0, reduceEqDiff, ↓reduceIte, reduceAdd, reduceLT, reduceLeDiff, reduceMul, List.length_map, getD_map hget, Int.ofNat_lt.mpr hlt, encSet_take, encSet_len, encSet_drop]
   exact ⟨rfl, rfl, (st.length + (ex.length + 1), st.length + ex.length, ex ++ [Ent.box (encSet a), Ent.box (encSet a)]), rfl, rfl, by simp [List.getElem?_append_right], by simp [List.getElem?_append_right]⟩
  ·rintro ⟨n1, n2, ex3⟩ ⟨h1, h2⟩
   simp only at h1 h2 ⊢
   have hfa := fit_rows hfl (List.mem_of_getElem? hget)
   obtain ⟨k, nm, ns, az, pre, kids⟩ := a
   simp only [kidsOf] at ih
   simp only [encSet_mk, encS, fitL, V.fit, List.length_map] at h1 h2 hfa
   have hnl : ns.length ≤ 9223372036854775807 := hfa.2.2.1.1
   have hal : az.length ≤ 9223372036854775807 := hfa.2.2.2.1.1
   simp only [gw0, reduceEqDiff, ↓reduceIte, reduceAdd, reduceLT, reduceLeDiff, reduceMul, h1, h2, encS, List.length_map]
   refine rK_guarded (.bool true) (fun _ => ih _) ?_
   simp only [gw0, reduceEqDiff, ↓reduceIte, reduceAdd, reduceLT, reduceLeDiff, reduceMul, h1, h2, List.length_map]
   refine vfor (σ := Nat) [0, 1, 4, 5, 6, 7, 15, 16, 74, 75] (fun x => [(0, true, .lst 6 none (l.map encSet)), (1, true, .lst 6 none (l.map encSet)), (4, true, .bool false), (5, true, .int .i64 i), (6, true, .ptr n1 0), (7, true, .ptr n2 0), (15, true, .int .i64 l.length), (16, true, .int .i64 i), (74, true, .int .i64 ns.length), (75, true, .int .i64 x)]) (fun x => st ++ ex3) (fun x => ns.length - x) (fun x => x ≤ ns.length ∧ (0 : Nat) = 0) 0 rfl TT_ok ⟨Nat.zero_le _, rfl⟩ rfl rfl ?_
   rintro j ⟨hj, _⟩
   simp only at hj ⊢
   rcases at_or_end ns j hj with ⟨rfl, hd3⟩ | ⟨u, hltj, hgetj, hdrj⟩
   ·simp only [gw0, reduceEqDiff, ↓reduceIte, reduceAdd, reduceLT, reduceLeDiff, reduceMul, lt_no]
    exact ⟨(i + 1, ex3), by simp only [next_i64 hlt hkl]; rfl, rfl, by simp only; omega, by simp only; omega⟩
   ·simp only [gw0, reduceEqDiff, ↓reduceIte, reduceAdd, reduceLT, reduceLeDiff, reduceMul, lt_yes hltj, List.length_map, Int.ofNat_lt.mpr hltj]
    refine vdraw TT_ok TT_mixed [0, 1, 0, 0, 1, 0, 1, 0, 0, 1, 0, 0, 0, 1, 0, 0, 0, 0, 0, 1, 0, 0, 1, 0, 1, 0, 0, 1, 0, 0, 0] (by kernel_rfl) ?_
    by_cases hja : j < az.length
    ·obtain ⟨v, hv⟩ : ∃ v, az[j]? = some v := ⟨az[j], List.getElem?_eq_getElem hja⟩
     simp only [gw0, reduceEqDiff, ↓reduceIte, reduceAdd, reduceLT, reduceLeDiff, reduceMul, h1, h2, List.length_map, getD_map hgetj, getD_map hv, Int.ofNat_lt.mpr hltj, Int.ofNat_lt.mpr hja]
     exact ⟨j + 1, by rw [next_i64 hltj hnl]; rfl, by omega, hltj⟩
    ·have hn : decide ((j : Int) < (az.length : Int)) = false := decide_eq_false (by omega)
     have hg : (az.map fun s => [V.str s]).getD j [] = [] := by
      rw [List.getD_eq_getElem?_getD, List.getElem?_eq_none (by rw [List.length_map]; omega)]; rfl
     simp only [gw0, reduceEqDiff, ↓reduceIte, reduceAdd, reduceLT, reduceLeDiff, reduceMul, h1, h2, List.length_map, getD_map hgetj, Int.ofNat_lt.mpr hltj, hn, hg]
     exact ⟨j + 1, by rw [next_i64 hltj hnl]; rfl, by omega, hltj⟩
theorem c_SameSet (s : Set') : ∀ (st : St), VCalls Tryd.prog TT 34 [.lst 6 none ((kidsOf s).map encSet), .lst 6 none ((kidsOf s).map encSet)] st fun r st' => r = .ret (.bool true) ∧ st' = st :=
 Set'.ind (p := fun d => ∀ st : St, VCalls Tryd.prog TT 34 [.lst 6 none ((kidsOf d).map encSet), .lst 6 none ((kidsOf d).map encSet)] st fun r st' => r = .ret (.bool true) ∧ st' = st) (fun _ _ _ _ _ kids ih st => c_SameSets_of kids ih st) s
theorem c_SameSets (l : List Set') (st : St) : VCalls Tryd.prog TT 34 [.lst 6 none (l.map encSet), .lst 6 none (l.map encSet)] st fun r st' => r = .ret (.bool true) ∧ st' = st :=
 c_SameSets_of l (fun d _ st => c_SameSet d st) st
theorem c_ref3Same (o : Lib') (st : St) : VCalls Tryd.prog TT 14 [.agg (encLib o), .agg (encLib o)] st fun r st' => r = .ret (.bool true) ∧ st' = st := by
 refine vfun TT_ok (an := anL [(2, 1), (3, 1)]) (L := [0, 1, 2, 3, 4]) (rs := [.tmp 4]) Tryd.func14 rfl (by kernel_rfl) rfl Tryd.ntmps14 rfl rfl (Nat.le_refl _) fun hst ha hf => ?_
 simp only [encLib]
 simp only [gw0, reduceEqDiff, ↓reduceIte, reduceAdd, reduceLT, reduceLeDiff, reduceMul]
 refine rK_guarded (.bool true) (fun _ => c_ref2Same o.exps _) ?_
 simp only [gw0, reduceEqDiff, ↓reduceIte, reduceAdd, reduceLT, reduceLeDiff, reduceMul]
 refine rK_guarded (.bool true) (fun _ => c_SameSets o.imps _) ?_
 simp only [gw0, reduceEqDiff, ↓reduceIte, reduceAdd, reduceLT, reduceLeDiff, reduceMul]
 refine rK_guarded (.bool (eqDs o.body o.body)) (fun _ => c_Same_of o.body (fun d _ => c_Equal d) o.body _) ?_
 simp only [gw0, reduceEqDiff, ↓reduceIte, reduceAdd, reduceLT, reduceLeDiff, reduceMul, eqDs_self]
 exact gives_bool rfl hst
theorem c_one (s : Str) (d : Datum) (h : readR s = .inr [d]) (st : St) : VCalls Tryd.prog TT 20 [.str s] st fun r st' => r = .ret (.agg (encD d)) ∧ st' = st := by
 refine vfun TT_ok (an := anL []) (L := [0, 2, 3, 4]) (rs := [.cell 2 31]) Tryd.func20 rfl (by kernel_rfl) rfl Tryd.ntmps20 rfl rfl (Nat.le_refl _) fun hst ha hf => ?_
 simp only [gw0, reduceEqDiff, ↓reduceIte, reduceAdd, reduceLT, reduceLeDiff, reduceMul]
 refine (c_Read s _).use (wkL_refl _) fun _ => ?_
 rw [h]
 simp only [readV, fltV]
 simp only [gw0, reduceEqDiff, ↓reduceIte, reduceAdd, reduceLT, reduceLeDiff, reduceMul, lstD, List.map_cons, List.map_nil, List.length_cons, List.length_nil, encD_take, encD_len, encD_drop, Nat.le_refl]
 simp only [gw0, reduceEqDiff, ↓reduceIte, reduceAdd, reduceLT, reduceLeDiff, reduceMul, show decide (((1 : Nat) : Int) = 1) = true from rfl, Bool.not_true, lstD, List.map_cons, List.map_nil, List.length_cons, List.length_nil, encD_take, encD_len, encD_drop, Nat.le_refl, show Int.toNat 0 = 0 from rfl, List.getD_cons_zero, show ((0 : Int) ≤ 0 ∧ (0 : Int) < ((1 : Nat) : Int)) = True by simp, true_and]
 exact gives_of (X := .agg (encD d)) (wk_refl _) (wkSt_refl _) (by simp only [V.lt]; exact encD_lt _ _) hst
def aliveF : Str := [40, 100, 101, 102, 105, 110, 101, 32, 120, 32, 49, 41]
def aliveS : Str := [40, 108, 105, 98, 114, 97, 114, 121, 32, 40, 97, 32, 98, 41, 32, 40, 101, 120, 112, 111, 114, 116, 32, 120, 41, 32, 40, 105, 110, 99, 108, 117, 100, 101, 32, 102, 41, 41]
def aliveD : Datum := Ld [Sd wLibrary, Ld [Sd [97], Sd [98]], Ld [Sd wExport, Sd [120]], Ld [Sd wInclude, Sd [102]]]
def aliveW : Wd := ⟨[([102], aliveF)], [], []⟩
def aliveO : Lib' := ⟨[97, 32, 98], [([120], [120])], [], [Ld [Sd [100, 101, 102, 105, 110, 101], Sd [120], .mk 1 1 [] 0 0 []]]⟩
theorem alive_read : readR aliveS = .inr [aliveD] := by kernel_rfl
theorem alive_parse : parseP aliveW aliveD = (aliveO, 0) := by kernel_rfl
theorem c_alive (st : St) : VCalls Tryd.prog TT 6 [] st fun r st' => r = .ret (.bool true) ∧ st' = st := by
 refine vfun TT_ok (an := anL []) (L := [0, 1, 2]) (rs := [.tmp 0]) Tryd.func6 rfl (by kernel_rfl) rfl Tryd.ntmps6 rfl rfl (Nat.le_refl _) fun hst ha hf => ?_
 simp only [gw0, reduceEqDiff, ↓reduceIte, reduceAdd, reduceLT, reduceLeDiff, reduceMul, gwD3, gwDT, pureR_none, ite_self, nilR, nilB, bitF, bitV, nilC, nilCmp, eqb, assertV, assertW, zeroV, wQ_normal, wQ_ret, wQ_panic, pickO, pickC, List.map_cons, List.map_nil, List.getD_cons_zero, List.getD_cons_succ, Env.keep, beq_self_eq_true, cond_true, cond_false]
 refine (c_one aliveS aliveD alive_read _).use (wkL_refl _) fun _ => ?_
 simp only [gw0, reduceEqDiff, ↓reduceIte, reduceAdd, reduceLT, reduceLeDiff, reduceMul, gwD3, gwDT, pureR_none, ite_self, nilR, nilB, bitF, bitV, nilC, nilCmp, eqb, assertV, assertW, zeroV, wQ_normal, wQ_ret, wQ_panic, pickO, pickC, List.map_cons, List.map_nil, List.getD_cons_zero, List.getD_cons_succ, Env.keep, beq_self_eq_true, cond_true, cond_false]
 refine (c_libParse aliveW aliveD _).use (wkL_cons (wk_refl _) (wkL_cons (wk_nils _) (wkL_cons (wk_nils _) (wkL_refl _)))) fun _ => ?_
 rw [alive_parse]
 simp only [libV, encLib]
 simp only [gw0, reduceEqDiff, ↓reduceIte, reduceAdd, reduceLT, reduceLeDiff, reduceMul, gwD3, gwDT, pureR_none, ite_self, nilR, nilB, bitF, bitV, nilC, nilCmp, eqb, assertV, assertW, zeroV, wQ_normal, wQ_ret, wQ_panic, pickO, pickC, List.map_cons, List.map_nil, List.getD_cons_zero, List.getD_cons_succ, Env.keep, beq_self_eq_true, cond_true, cond_false, aliveO, rows2, List.map_cons, List.map_nil, List.length_cons, List.length_nil]
 exact gives_bool' rfl hst
def thenB (x : Lib' × Int) (f : Lib' → Lib' × Int) : Lib' × Int := bif decide (x.2 = 0) then f x.1 else x
theorem decls_app (w : Wd) : ∀ (a b : List Datum) (o : Lib'), declsL w (a ++ b) o = thenB (declsL w a o) (declsL w b)
 | [], b, o => rfl
 | d :: r, b, o => by
  rw [List.cons_append, declsL_cons, declsL_cons]
  unfold thenB
  by_cases e : (declD w d o).2 = 0
  ·rw [decide_eq_true e, cond_true, cond_true]; exact decls_app w r b _
  ·rw [decide_eq_false e, cond_false, cond_false, decide_eq_false e, cond_false]
mutual
theorem holds_files (fs fs' : Prs) (ft ls : List Str) : ∀ d : Datum, holdsD ⟨fs, ft, ls⟩ d = holdsD ⟨fs', ft, ls⟩ d
 | .mk k n nm s l [] => rfl
 | .mk k n nm s l (h :: t) => by
  rw [holdsD_eq, holdsD_eq, hold_files fs fs' ft ls _ t]
  cases t with
  | nil => rfl
  | cons x t =>
   cases t with
   | nil => simp only; rw [holds_files fs fs' ft ls x]
   | cons y t => rfl
theorem hold_files (fs fs' : Prs) (ft ls : List Str) (some : Bool) : ∀ l : List Datum, holdsL ⟨fs, ft, ls⟩ some l = holdsL ⟨fs', ft, ls⟩ some l
 | [] => rfl
 | d :: r => by rw [holdsL_cons, holdsL_cons, holds_files fs fs' ft ls d, hold_files fs fs' ft ls some r]
end
theorem include_none (fs : Prs) (ft ls : List Str) (t : List Datum) (o : Lib') (h : (includeP ⟨[], ft, ls⟩ t o).2 ≠ 6) : includeP ⟨fs, ft, ls⟩ t o = includeP ⟨[], ft, ls⟩ t o := by
 cases t with
 | nil => rfl
 | cons d r =>
  rw [includeP_cons] at h ⊢
  rw [includeP_cons]
  by_cases e : (symP d).2 = 0
  ·rw [decide_eq_true e, cond_true] at h; exact absurd rfl h
  ·rw [decide_eq_false e, cond_false, cond_false]
mutual
theorem decl_files (fs : Prs) (ft ls : List Str) : ∀ (d : Datum) (o : Lib'), (declD ⟨[], ft, ls⟩ d o).2 ≠ 6 → declD ⟨fs, ft, ls⟩ d o = declD ⟨[], ft, ls⟩ d o
 | .mk k n nm s l [], o, h => by rw [declD_eq, declD_eq]
 | .mk k n nm s l (hd :: t), o, h => by
  rw [declD_eq] at h ⊢
  rw [declD_eq]
  cases e1 : decide (k = 4) with
  | false => rfl
  | true =>
   rw [e1] at h
   simp only [Bool.not_true, cond_false] at h ⊢
   cases e2 : decide ((symP hd).2 = 0) with
   | false => rfl
   | true =>
    rw [e2] at h
    simp only [Bool.not_true, cond_false] at h ⊢
    cases e3 : decide ((symP hd).1 = wExport) with
    | true => rfl
    | false =>
     rw [e3] at h
     simp only [cond_false] at h ⊢
     cases e4 : decide ((symP hd).1 = wImport) with
     | true => rfl
     | false =>
      rw [e4] at h
      simp only [cond_false] at h ⊢
      cases e5 : decide ((symP hd).1 = wBegin) with
      | true => rfl
      | false =>
       rw [e5] at h
       simp only [cond_false] at h ⊢
       cases e6 : decide ((symP hd).1 = wInclude) with
       | true =>
        rw [e6] at h
        simp only [cond_true] at h ⊢
        exact include_none fs ft ls t o h
       | false =>
        rw [e6] at h
        simp only [cond_false] at h ⊢
        cases e7 : decide ((symP hd).1 = wCond) with
        | false => rfl
        | true =>
         rw [e7] at h
         simp only [cond_true] at h ⊢
         exact cond_files fs ft ls t o h
theorem decls_files (fs : Prs) (ft ls : List Str) : ∀ (l : List Datum) (o : Lib'), (declsL ⟨[], ft, ls⟩ l o).2 ≠ 6 → declsL ⟨fs, ft, ls⟩ l o = declsL ⟨[], ft, ls⟩ l o
 | [], o, h => rfl
 | d :: r, o, h => by
  rw [declsL_cons] at h ⊢
  rw [declsL_cons]
  by_cases e : (declD ⟨[], ft, ls⟩ d o).2 = 0
  ·rw [decide_eq_true e, cond_true] at h
   rw [decl_files fs ft ls d o (by rw [e]; decide), decide_eq_true e, cond_true, cond_true]
   exact decls_files fs ft ls r _ h
  ·rw [decide_eq_false e, cond_false] at h
   rw [decl_files fs ft ls d o h, decide_eq_false e, cond_false, cond_false]
theorem cond_files (fs : Prs) (ft ls : List Str) : ∀ (l : List Datum) (o : Lib'), (condL ⟨[], ft, ls⟩ l o).2 ≠ 6 → condL ⟨fs, ft, ls⟩ l o = condL ⟨[], ft, ls⟩ l o
 | [], o, h => rfl
 | .mk k n nm s l [] :: r, o, h => by rw [condL_cons, condL_cons]
 | .mk k n nm s l (hd :: t) :: r, o, h => by
  rw [condL_cons] at h ⊢
  rw [condL_cons]
  dsimp only at h ⊢
  rw [holds_files fs [] ft ls hd]
  cases e1 : decide (k = 4) with
  | false => rfl
  | true =>
   rw [e1] at h
   simp only [Bool.not_true, cond_false] at h ⊢
   cases e2 : isElse hd with
   | true => rw [e2] at h; simp only [cond_true] at h ⊢; exact decls_files fs ft ls t o h
   | false =>
    rw [e2] at h
    simp only [cond_false] at h ⊢
    cases e3 : decide ((holdsD ⟨[], ft, ls⟩ hd).2 = 0) with
    | false => rfl
    | true =>
     rw [e3] at h
     simp only [Bool.not_true, cond_false] at h ⊢
     cases e4 : (holdsD ⟨[], ft, ls⟩ hd).1 with
     | true => rw [e4] at h; simp only [cond_true] at h ⊢; exact decls_files fs ft ls t o h
     | false => rw [e4] at h; simp only [cond_false] at h ⊢; exact cond_files fs ft ls r o h
end
/-- A declaration that includes a file is the one that begins with what the file has. -/
theorem decl_incl (name s : Str) (k : List Datum) (hr : readR s = .inr k) (ft ls ft' ls' : List Str) (o : Lib') : declD ⟨[(name, s)], ft, ls⟩ (Ld [Sd wInclude, Sd name]) o = declD ⟨[], ft', ls'⟩ (Ld (Sd wBegin :: k)) o := by
 have h1 : declD ⟨[(name, s)], ft, ls⟩ (Ld [Sd wInclude, Sd name]) o = includeP ⟨[(name, s)], ft, ls⟩ [Sd name] o := by unfold Ld; rw [declD_eq]; rfl
 have h2 : declD ⟨[], ft', ls'⟩ (Ld (Sd wBegin :: k)) o = bodyL k o := by unfold Ld; rw [declD_eq]; rfl
 rw [h1, h2, includeP_cons]
 rw [show (symP (Sd name)) = (name, 0) from rfl]
 simp only [decide_true, cond_true, fileOf, hr]
 by_cases e : (bodyL k o).2 = 0
 ·rw [decide_eq_true e, cond_true]; exact Prod.ext rfl e.symm
 ·rw [decide_eq_false e, cond_false]
theorem decls_incl (name s : Str) (k : List Datum) (hr : readR s = .inr k) (hs : List Datum) (o : Lib') (h : (declsL ⟨[], [], []⟩ (hs ++ [Ld (Sd wBegin :: k)]) o).2 ≠ 6) :
  declsL ⟨[(name, s)], [], []⟩ (hs ++ [Ld [Sd wInclude, Sd name]]) o = declsL ⟨[], [], []⟩ (hs ++ [Ld (Sd wBegin :: k)]) o := by
 rw [decls_app] at h ⊢
 rw [decls_app]
 have h6 : (declsL ⟨[], [], []⟩ hs o).2 ≠ 6 := fun e => by
  unfold thenB at h
  rw [decide_eq_false (by rw [e]; decide), cond_false] at h
  exact h e
 rw [decls_files _ _ _ hs o h6]
 congr 1
 funext o'
 rw [decls_one, decls_one]
 exact decl_incl name s k hr _ _ _ _ o'
theorem top_incl (name s : Str) (k : List Datum) (hr : readR s = .inr k) (head : List Datum) (hh : 2 ≤ head.length ∨ ∃ d, head = [d] ∧ nameOf d = wProgram)
  (h : (topP ⟨[], [], []⟩ (Ld (head ++ [Ld (Sd wBegin :: k)]))).2 ≠ 6) :
  topP ⟨[(name, s)], [], []⟩ (Ld (head ++ [Ld [Sd wInclude, Sd name]])) = topP ⟨[], [], []⟩ (Ld (head ++ [Ld (Sd wBegin :: k)])) := by
 cases head with
 | nil => rcases hh with h | ⟨d, h, -⟩ <;> simp at h
 | cons d r =>
  have hT : ∀ (w : Wd) (x : Datum), topP w (Ld (d :: r ++ [x])) = thenE (symP d) noLib fun s =>
    bif decide (s = wLibrary) then thenE (listP 2 (Ld (d :: r ++ [x]))) noLib fun k2 => thenE (calledP (k2.getD 1 (.mk 0 0 [] 0 0 []))) noLib fun nm => declsL w (r ++ [x]).tail { noLib with name := nm }
    else bif decide (s = wProgram) then declsL w (r ++ [x]) noLib
    else (noLib, 2) := fun w x => by
   unfold topP
   rw [list_L (by simp), thenE_ok rfl]
   simp only [List.cons_append, List.getD_cons_zero, List.drop_succ_cons, List.drop_zero, List.drop_one]
  rw [hT] at h ⊢
  rw [hT]
  by_cases e : (symP d).2 = 0
  ·rw [thenE_ok e] at h ⊢
   rw [thenE_ok e]
   cases e1 : decide ((symP d).1 = wLibrary) with
   | false =>
    rw [e1] at h
    simp only [cond_false] at h ⊢
    cases e2 : decide ((symP d).1 = wProgram) with
    | false => rfl
    | true =>
     rw [e2] at h
     simp only [cond_true] at h ⊢
     exact decls_incl name s k hr r noLib h
   | true =>
    rw [e1] at h
    simp only [cond_true] at h ⊢
    cases r with
    | nil =>
     rcases hh with hh | ⟨d', hd, hn⟩
     ·simp at hh
     ·simp only [List.cons.injEq, and_true] at hd
      subst hd
      exfalso
      have := of_decide_eq_true e1
      obtain ⟨k, n, nm, a, b, kids⟩ := d
      simp only [nameOf] at hn
      simp only [symP] at this e
      cases hk : decide (k = 3) with
      | false => rw [hk] at e; simp at e
      | true => rw [hk] at this; simp only [cond_true] at this; rw [hn] at this; exact absurd this (by decide)
    | cons d2 r =>
     have hl : ∀ (x : Datum) (f : List Datum → Lib' × Int), thenE (listP 2 (Ld (d :: (d2 :: r) ++ [x]))) noLib f = f (d :: d2 :: (r ++ [x])) := fun x f => by rw [list_L (by simp)]; rfl
     rw [hl] at h ⊢
     rw [hl]
     simp only [List.getD_cons_succ, List.getD_cons_zero, List.cons_append, List.tail_cons] at h ⊢
     by_cases e2 : (calledP d2).2 = 0
     ·rw [thenE_ok e2] at h ⊢
      rw [thenE_ok e2]
      exact decls_incl name s k hr r _ h
     ·rw [thenE_bad e2, thenE_bad e2]
  ·rw [thenE_bad e, thenE_bad e]
theorem shapes_last (hs : List Datum) (x y : Datum) (deep c : Int) (h : ∀ q, (shapeDs hs deep c).1 = 0 → (shapeDs hs deep c).2 = q → (shapeDs [x] deep q).1 = (shapeDs [y] deep q).1) :
  (shapeDs (hs ++ [x]) deep c).1 = (shapeDs (hs ++ [y]) deep c).1 := by
 rw [shapes_app, shapes_app]
 cases e : decide ((shapeDs hs deep c).1 = 0) with
 | false => rfl
 | true => simp only [cond_true]; exact h _ (of_decide_eq_true e) rfl
theorem wrong_len : ∀ (l : List Datum) (i : Nat) (c : Int), 0 ≤ c → c ≤ 2000 → (wrongL l i c).1 = 0 → c + l.length ≤ 2000
 | [], i, c, h0, h1, h => by simpa using h1
 | d :: r, i, c, h0, h1, h => by
  rw [wrongL] at h
  cases h2 : decide ((shapeD d 1 c).1 = 0) with
  | true =>
   rw [h2] at h
   have k1 := shapeD_okM d 1 c h0 (of_decide_eq_true h2)
   have k2 := shapeD_ok d 1 c h0 (of_decide_eq_true h2)
   have := wrong_len r (i + 1) _ (by omega) k2.2 h
   rw [List.length_cons]; omega
  | false => rw [h2] at h; exact absurd h (of_decide_eq_false h2)
/-- LibFiles, in plain terms. -/
theorem files_law (head : List Datum) (name s : Str) (k : List Datum) (hr : readR s = .inr k) (hn : namedB name = true) (hh : 2 ≤ head.length ∨ ∃ d, head = [d] ∧ nameOf d = wProgram)
  (hx : (wrongL [Ld [Sd [120], Ld (Sd wBegin :: k)]] 0 0).1 = 0)
  (h1 : (parseP ⟨[(name, s)], [], []⟩ (Ld (head ++ [Ld [Sd wInclude, Sd name]]))).2 ≠ 4) (h2 : (parseP ⟨[], [], []⟩ (Ld (head ++ [Ld (Sd wBegin :: k)]))).2 ≠ 4)
  (h3 : (parseP ⟨[], [], []⟩ (Ld (head ++ [Ld (Sd wBegin :: k)]))).2 ≠ 6) :
  parseP ⟨[(name, s)], [], []⟩ (Ld (head ++ [Ld [Sd wInclude, Sd name]])) = parseP ⟨[], [], []⟩ (Ld (head ++ [Ld (Sd wBegin :: k)])) := by
 have hsh : ∀ l : List Datum, (wrongL [Ld l] 0 0).1 = (shapeDs l 2 1).1 := fun l => by
  rw [wrong_one, shape_L _ (by omega)]
  rfl
 have hk : (shapeDs k 3 4).1 = 0 := by
  rw [hsh] at hx
  rw [shapeDs, shape_S (by rfl) (by omega)] at hx
  rw [show decide ((2000 : Int) < 1 + 1) = false from rfl] at hx
  simp only [cond_false, decide_true, cond_true] at hx
  rw [shapes_one, shape_L _ (by omega)] at hx
  rw [show decide ((2000 : Int) < 1 + 1 + 1) = false from rfl] at hx
  simp only [cond_false] at hx
  rw [shapeDs, shape_S (by rfl) (by omega)] at hx
  rw [show decide ((2000 : Int) < 1 + 1 + 1 + 1) = false from rfl] at hx
  simp only [cond_false, decide_true, cond_true] at hx
  exact hx
 unfold parseP at h1 h2 h3 ⊢
 rw [hsh] at h1 h2 h3 ⊢
 rw [hsh]
 have h1' : (shapeDs (head ++ [Ld [Sd wInclude, Sd name]]) 2 1).1 ≠ 4 := fun e => by rw [e] at h1; simp at h1
 have h2' : (shapeDs (head ++ [Ld (Sd wBegin :: k)]) 2 1).1 ≠ 4 := fun e => by rw [e] at h2; simp at h2
 have hs : (shapeDs (head ++ [Ld [Sd wInclude, Sd name]]) 2 1).1 = (shapeDs (head ++ [Ld (Sd wBegin :: k)]) 2 1).1 := by
  refine shapes_last head _ _ 2 1 fun q e0 eq => ?_
  rw [shapes_app, e0, eq] at h1' h2'
  simp only [decide_true, cond_true] at h1' h2'
  rw [shapes_one, shape_L _ (by omega)] at h1' h2' ⊢
  rw [shapes_one, shape_L _ (by omega)]
  cases e1 : decide (2000 < q + 1) with
  | true => rfl
  | false =>
   rw [e1] at h1' h2'
   simp only [cond_false] at h1' h2' ⊢
   rw [shapes_cons (Sd wInclude), shape_S (s := wInclude) rfl (by omega)] at h1' ⊢
   rw [shapes_cons (Sd wBegin), shape_S (s := wBegin) rfl (by omega)] at h2' ⊢
   cases e2 : decide (2000 < q + 1 + 1) with
   | true => rfl
   | false =>
    rw [e2] at h1' h2'
    simp only [cond_false, decide_true, cond_true] at h1' h2' ⊢
    rw [shapes_one, shape_S hn (by omega)] at h1' ⊢
    have := (shapes_shift k 3 4 (q + 1 + 1) (by rw [hk]; decide) h2').1
    rw [show (2 : Int) + 1 = 3 from rfl] at h2' ⊢
    rw [← this, hk]
    cases e3 : decide (2000 < q + 1 + 1 + 1) with
    | true => rw [e3] at h1'; simp at h1'
    | false => rfl
 rw [hs] at h1 ⊢
 cases e : decide ((shapeDs (head ++ [Ld (Sd wBegin :: k)]) 2 1).1 = 0) with
 | false => rfl
 | true =>
  rw [e] at h3
  simp only [Bool.not_true, cond_false, List.length_cons, List.length_nil] at h3 ⊢
  rw [show decide ((30 : Int) < ((0 : Nat) : Int)) = false from rfl] at h3 ⊢
  rw [show decide ((30 : Int) < ((0 + 1 : Nat) : Int)) = false from rfl]
  simp only [cond_false] at h3 ⊢
  have ht : (topP ⟨[], [], []⟩ (Ld (head ++ [Ld (Sd wBegin :: k)]))).2 ≠ 6 := fun e6 => by
   rw [decide_eq_false (by rw [e6]; decide), cond_false] at h3
   exact h3 e6
  rw [top_incl name s k hr head hh ht]
theorem c_filesW (n : Str) (l : List Datum) (hl : l.length ≤ 4000000) (st : St) : VCalls Tryd.prog TT 9 [.str n, lstD l] st fun r st' => r = .ret (.agg (encD (Ld (Sd n :: l)))) ∧ st' = st := by
 refine vfun TT_ok (an := anL [(7, 1)]) (L := [0, 1, 4]) (rs := [.cell 4 31]) Tryd.func9 rfl (by kernel_rfl) rfl Tryd.ntmps9 rfl rfl (Nat.le_refl _) fun hst ha hf => ?_
 simp only [gw0, reduceEqDiff, ↓reduceIte, reduceAdd, reduceLT, reduceLeDiff, reduceMul, gwD3, gwDT, pureR_none, ite_self, nilR, nilB, bitF, bitV, nilC, nilCmp, eqb, assertV, assertW, zeroV, wQ_normal, wQ_ret, wQ_panic, pickO, pickC, List.map_cons, List.map_nil, List.getD_cons_zero, List.getD_cons_succ, Env.keep, beq_self_eq_true, cond_true, cond_false]
 refine (c_refSym n _).use (wkL_refl _) fun _ => ?_
 simp only [gw0, reduceEqDiff, ↓reduceIte, reduceAdd, reduceLT, reduceLeDiff, reduceMul, gwD3, gwDT, pureR_none, ite_self, nilR, nilB, bitF, bitV, nilC, nilCmp, eqb, assertV, assertW, zeroV, wQ_normal, wQ_ret, wQ_panic, pickO, pickC, List.map_cons, List.map_nil, List.getD_cons_zero, List.getD_cons_succ, Env.keep, beq_self_eq_true, cond_true, cond_false, encD_take, encD_len, encD_drop, Nat.le_refl, lstD, List.length_map]
 refine ⟨by omega, ?_⟩
 refine (c_refList (Sd n :: l) _).use (wkL_cons (wk_tok _ _ _) wkL_nil) fun _ => ?_
 simp only [gw0, reduceEqDiff, ↓reduceIte, reduceAdd, reduceLT, reduceLeDiff, reduceMul, gwD3, gwDT, pureR_none, ite_self, nilR, nilB, bitF, bitV, nilC, nilCmp, eqb, assertV, assertW, zeroV, wQ_normal, wQ_ret, wQ_panic, pickO, pickC, List.map_cons, List.map_nil, List.getD_cons_zero, List.getD_cons_succ, Env.keep, beq_self_eq_true, cond_true, cond_false, encD_take, encD_len, encD_drop, Nat.le_refl, lstD, List.length_map]
 exact gives_of (wk_refl _) (wkSt_refl _) (by simp only [V.lt]; exact encD_lt _ _) hst
set_option maxHeartbeats 1000000 in
theorem c_LibFiles (head : List Datum) (name s : Str) (st : St) (hh4 : head.length ≤ 1048576) : VCalls Tryd.prog TT 3 [lstD head, .str name, .str s] st fun r st' => r = .ret (.bool true) ∧ st' = st := by
 refine vfun TT_ok (an := anL [(51, 1), (66, 1)]) (L := [0, 1, 2, 6, 7, 8, 9, 10, 11, 12, 13]) (rs := [.tmp 6]) Tryd.func3 rfl (by kernel_rfl) rfl Tryd.ntmps3 rfl rfl (Nat.le_refl _) fun hst ha hf => ?_
 simp only [gw0, reduceEqDiff, ↓reduceIte, reduceAdd, reduceLT, reduceLeDiff, reduceMul, gwD3, gwDT, pureR_none, ite_self, nilR, nilB, bitF, bitV, nilC, nilCmp, eqb, assertV, assertW, zeroV, wQ_normal, wQ_ret, wQ_panic, pickO, pickC, List.map_cons, List.map_nil, List.getD_cons_zero, List.getD_cons_succ, Env.keep, beq_self_eq_true, cond_true, cond_false]
 refine (c_alive _).use (wkL_refl _) fun _ => ?_
 simp only [gw0, reduceEqDiff, ↓reduceIte, reduceAdd, reduceLT, reduceLeDiff, reduceMul, gwD3, gwDT, pureR_none, ite_self, nilR, nilB, bitF, bitV, nilC, nilCmp, eqb, assertV, assertW, zeroV, wQ_normal, wQ_ret, wQ_panic, pickO, pickC, List.map_cons, List.map_nil, List.getD_cons_zero, List.getD_cons_succ, Env.keep, beq_self_eq_true, cond_true, cond_false, Bool.not_true]
 refine (c_Read s _).use (wkL_refl _) fun _ => ?_
 cases hr : readR s with
 | inl f =>
  have hb : decide (f.1 = 0) = false := decide_eq_false (read_bad hr)
  simp only [readV, fltV]
  simp only [gw0, reduceEqDiff, ↓reduceIte, reduceAdd, reduceLT, reduceLeDiff, reduceMul, gwD3, gwDT, pureR_none, ite_self, nilR, nilB, bitF, bitV, nilC, nilCmp, eqb, assertV, assertW, zeroV, wQ_normal, wQ_ret, wQ_panic, pickO, pickC, List.map_cons, List.map_nil, List.getD_cons_zero, List.getD_cons_succ, Env.keep, beq_self_eq_true, cond_true, cond_false, hb, Bool.not_true, Bool.not_false]
  refine rK_not (.bool false) ?_
  cases head with
  | nil =>
   simp only [gw0, reduceEqDiff, ↓reduceIte, reduceAdd, reduceLT, reduceLeDiff, reduceMul, gwD3, gwDT, pureR_none, ite_self, nilR, nilB, bitF, bitV, nilC, nilCmp, eqb, assertV, assertW, zeroV, wQ_normal, wQ_ret, wQ_panic, pickO, pickC, List.map_cons, List.map_nil, List.getD_cons_zero, List.getD_cons_succ, Env.keep, beq_self_eq_true, cond_true, cond_false, Bool.not_true, Bool.not_false, lstD, List.map_nil, List.length_nil, List.map_cons, List.length_cons, List.length_map, show Int.toNat 0 = 0 from rfl, List.getD_cons_zero, encD_mk, List.getD_nil, List.drop_nil]
   exact gives_bool' rfl hst
  | cons d r =>
   obtain ⟨dk, dn, dnm, ds, dl, dkids⟩ := d
   simp only [gw0, reduceEqDiff, ↓reduceIte, reduceAdd, reduceLT, reduceLeDiff, reduceMul, gwD3, gwDT, pureR_none, ite_self, nilR, nilB, bitF, bitV, nilC, nilCmp, eqb, assertV, assertW, zeroV, wQ_normal, wQ_ret, wQ_panic, pickO, pickC, List.map_cons, List.map_nil, List.getD_cons_zero, List.getD_cons_succ, Env.keep, beq_self_eq_true, cond_true, cond_false, Bool.not_true, Bool.not_false, lstD, List.map_nil, List.length_nil, List.map_cons, List.length_cons, List.length_map, show Int.toNat 0 = 0 from rfl, List.getD_cons_zero, encD_mk, List.getD_nil, List.drop_nil]
   exact gives_bool' rfl hst
 | inr k =>
  simp only [readV, fltV]
  simp only [gw0, reduceEqDiff, ↓reduceIte, reduceAdd, reduceLT, reduceLeDiff, reduceMul, gwD3, gwDT, pureR_none, ite_self, nilR, nilB, bitF, bitV, nilC, nilCmp, eqb, assertV, assertW, zeroV, wQ_normal, wQ_ret, wQ_panic, pickO, pickC, List.map_cons, List.map_nil, List.getD_cons_zero, List.getD_cons_succ, Env.keep, beq_self_eq_true, cond_true, cond_false, Bool.not_true, Bool.not_false]
  refine rK_made (c_text_Named _ name) (wkL_refl _) ?_
  cases hn : namedB name with
  | false =>
   cases head with
   | nil =>
    simp only [gw0, reduceEqDiff, ↓reduceIte, reduceAdd, reduceLT, reduceLeDiff, reduceMul, gwD3, gwDT, pureR_none, ite_self, nilR, nilB, bitF, bitV, nilC, nilCmp, eqb, assertV, assertW, zeroV, wQ_normal, wQ_ret, wQ_panic, pickO, pickC, List.map_cons, List.map_nil, List.getD_cons_zero, List.getD_cons_succ, Env.keep, beq_self_eq_true, cond_true, cond_false, Bool.not_true, Bool.not_false, lstD, List.map_nil, List.length_nil, List.map_cons, List.length_cons, List.length_map, show Int.toNat 0 = 0 from rfl, List.getD_cons_zero, encD_mk, List.getD_nil, List.drop_nil]
    exact gives_bool' rfl hst
   | cons d r =>
    obtain ⟨dk, dn, dnm, ds, dl, dkids⟩ := d
    simp only [gw0, reduceEqDiff, ↓reduceIte, reduceAdd, reduceLT, reduceLeDiff, reduceMul, gwD3, gwDT, pureR_none, ite_self, nilR, nilB, bitF, bitV, nilC, nilCmp, eqb, assertV, assertW, zeroV, wQ_normal, wQ_ret, wQ_panic, pickO, pickC, List.map_cons, List.map_nil, List.getD_cons_zero, List.getD_cons_succ, Env.keep, beq_self_eq_true, cond_true, cond_false, Bool.not_true, Bool.not_false, lstD, List.map_nil, List.length_nil, List.map_cons, List.length_cons, List.length_map, show Int.toNat 0 = 0 from rfl, List.getD_cons_zero, encD_mk, List.getD_nil, List.drop_nil]
    exact gives_bool' rfl hst
  | true =>
   cases head with
   | nil =>
    simp only [gw0, reduceEqDiff, ↓reduceIte, reduceAdd, reduceLT, reduceLeDiff, reduceMul, gwD3, gwDT, pureR_none, ite_self, nilR, nilB, bitF, bitV, nilC, nilCmp, eqb, assertV, assertW, zeroV, wQ_normal, wQ_ret, wQ_panic, pickO, pickC, List.map_cons, List.map_nil, List.getD_cons_zero, List.getD_cons_succ, Env.keep, beq_self_eq_true, cond_true, cond_false, Bool.not_true, Bool.not_false, lstD, List.map_nil, List.length_nil, List.map_cons, List.length_cons, List.length_map, show Int.toNat 0 = 0 from rfl, List.getD_cons_zero, encD_mk, List.getD_nil, List.drop_nil]
    refine ⟨by simp, by simp, by simp, ?_⟩
    refine iK_split (fun h => ?_) (fun h => ?_)
    ·simp only [gw0, reduceEqDiff, ↓reduceIte, reduceAdd, reduceLT, reduceLeDiff, reduceMul, gwD3, gwDT, pureR_none, ite_self, nilR, nilB, bitF, bitV, nilC, nilCmp, eqb, assertV, assertW, zeroV, wQ_normal, wQ_ret, wQ_panic, pickO, pickC, List.map_cons, List.map_nil, List.getD_cons_zero, List.getD_cons_succ, Env.keep, beq_self_eq_true, cond_true, cond_false]
     exact gives_bool' rfl hst
    ·exfalso; simp at h
   | cons d r =>
    obtain ⟨dk, dn, dnm, ds, dl, dkids⟩ := d
    simp only [gw0, reduceEqDiff, ↓reduceIte, reduceAdd, reduceLT, reduceLeDiff, reduceMul, gwD3, gwDT, pureR_none, ite_self, nilR, nilB, bitF, bitV, nilC, nilCmp, eqb, assertV, assertW, zeroV, wQ_normal, wQ_ret, wQ_panic, pickO, pickC, List.map_cons, List.map_nil, List.getD_cons_zero, List.getD_cons_succ, Env.keep, beq_self_eq_true, cond_true, cond_false, Bool.not_true, Bool.not_false, lstD, List.map_nil, List.length_nil, List.map_cons, List.length_cons, List.length_map, show Int.toNat 0 = 0 from rfl, List.getD_cons_zero, encD_mk, List.getD_nil, List.drop_nil]
    refine ⟨fun _ => ⟨by omega, by omega⟩, fun h1 _ => ⟨h1, fun h3 => by rw [h1, h3]; rfl⟩, ?_⟩
    refine iK_split (fun h => ?_) (fun h => ?_)
    ·simp only [gw0, reduceEqDiff, ↓reduceIte, reduceAdd, reduceLT, reduceLeDiff, reduceMul, gwD3, gwDT, pureR_none, ite_self, nilR, nilB, bitF, bitV, nilC, nilCmp, eqb, assertV, assertW, zeroV, wQ_normal, wQ_ret, wQ_panic, pickO, pickC, List.map_cons, List.map_nil, List.getD_cons_zero, List.getD_cons_succ, Env.keep, beq_self_eq_true, cond_true, cond_false]
     exact gives_bool' rfl hst
    have hh : 2 ≤ (Datum.mk dk dn dnm ds dl dkids :: r).length ∨ ∃ d, Datum.mk dk dn dnm ds dl dkids :: r = [d] ∧ nameOf d = wProgram := by
     simp only [Bool.and_eq_false_iff, Bool.or_eq_false_iff, Bool.not_eq_false', decide_eq_true_eq, decide_eq_false_iff_not] at h
     rcases h with h | ⟨h1, h2⟩
     ·left; simp only [List.length_cons]; omega
     ·cases r with
      | nil => exact .inr ⟨_, rfl, h2⟩
      | cons x r => left; simp
    rw [show ([V.int IntKind.i64 dk, V.int IntKind.i64 dn, V.str dnm, V.int IntKind.i64 ds, V.int IntKind.i64 dl, V.lst 6 none (dkids.map encD)] :: r.map encD) = (Datum.mk dk dn dnm ds dl dkids :: r).map encD by rw [List.map_cons, encD_mk]]
    have hkl : k.length ≤ 2000 := by have := wrong_len k 0 0 (by omega) (by omega) (right hr); omega
    generalize Datum.mk dk dn dnm ds dl dkids :: r = head at hh hh4 ⊢
    have hml : (head.map encD).length = head.length := List.length_map ..
    simp only [gw0, reduceEqDiff, ↓reduceIte, reduceAdd, reduceLT, reduceLeDiff, reduceMul, gwD3, gwDT, pureR_none, ite_self, nilR, nilB, bitF, bitV, nilC, nilCmp, eqb, assertV, assertW, zeroV, wQ_normal, wQ_ret, wQ_panic, pickO, pickC, List.map_cons, List.map_nil, List.getD_cons_zero, List.getD_cons_succ, Env.keep, beq_self_eq_true, cond_true, cond_false, hml]
    refine ⟨by omega, ?_⟩
    refine (c_refSym name _).use (wkL_refl _) fun _ => ?_
    simp only [gw0, reduceEqDiff, ↓reduceIte, reduceAdd, reduceLT, reduceLeDiff, reduceMul, gwD3, gwDT, pureR_none, ite_self, nilR, nilB, bitF, bitV, nilC, nilCmp, eqb, assertV, assertW, zeroV, wQ_normal, wQ_ret, wQ_panic, pickO, pickC, List.map_cons, List.map_nil, List.getD_cons_zero, List.getD_cons_succ, Env.keep, beq_self_eq_true, cond_true, cond_false, encD_take, encD_len, encD_drop, Nat.le_refl]
    refine (c_filesW wInclude [Sd name] (by simp) _).use (wkL_refl _) fun _ => ?_
    simp only [gw0, reduceEqDiff, ↓reduceIte, reduceAdd, reduceLT, reduceLeDiff, reduceMul, gwD3, gwDT, pureR_none, ite_self, nilR, nilB, bitF, bitV, nilC, nilCmp, eqb, assertV, assertW, zeroV, wQ_normal, wQ_ret, wQ_panic, pickO, pickC, List.map_cons, List.map_nil, List.getD_cons_zero, List.getD_cons_succ, Env.keep, beq_self_eq_true, cond_true, cond_false, encD_take, encD_len, encD_drop, Nat.le_refl, hml, List.length_cons, List.length_nil]
    refine ⟨by omega, ?_⟩
    refine (c_refList (head ++ [Ld [Sd wInclude, Sd name]]) _).use (wkL_cons (by rw [lstD, List.map_append]; exact wk_tok _ _ _) wkL_nil) fun _ => ?_
    simp only [gw0, reduceEqDiff, ↓reduceIte, reduceAdd, reduceLT, reduceLeDiff, reduceMul, gwD3, gwDT, pureR_none, ite_self, nilR, nilB, bitF, bitV, nilC, nilCmp, eqb, assertV, assertW, zeroV, wQ_normal, wQ_ret, wQ_panic, pickO, pickC, List.map_cons, List.map_nil, List.getD_cons_zero, List.getD_cons_succ, Env.keep, beq_self_eq_true, cond_true, cond_false]
    refine (c_libParse ⟨[(name, s)], [], []⟩ (Ld (head ++ [Ld [Sd wInclude, Sd name]])) _).use (wkL_cons (wk_refl _) (wkL_cons (wk_nils _) (wkL_cons (wk_nils _) (wkL_refl _)))) fun _ => ?_
    simp only [libV]
    simp only [gw0, reduceEqDiff, ↓reduceIte, reduceAdd, reduceLT, reduceLeDiff, reduceMul, gwD3, gwDT, pureR_none, ite_self, nilR, nilB, bitF, bitV, nilC, nilCmp, eqb, assertV, assertW, zeroV, wQ_normal, wQ_ret, wQ_panic, pickO, pickC, List.map_cons, List.map_nil, List.getD_cons_zero, List.getD_cons_succ, Env.keep, beq_self_eq_true, cond_true, cond_false, encLib_len, encLib_take, encLib_drop, Nat.le_refl, hml]
    refine ⟨by omega, ?_⟩
    refine (c_filesW wBegin k (by omega) _).use (wkL_refl _) fun _ => ?_
    simp only [gw0, reduceEqDiff, ↓reduceIte, reduceAdd, reduceLT, reduceLeDiff, reduceMul, gwD3, gwDT, pureR_none, ite_self, nilR, nilB, bitF, bitV, nilC, nilCmp, eqb, assertV, assertW, zeroV, wQ_normal, wQ_ret, wQ_panic, pickO, pickC, List.map_cons, List.map_nil, List.getD_cons_zero, List.getD_cons_succ, Env.keep, beq_self_eq_true, cond_true, cond_false, encD_take, encD_len, encD_drop, Nat.le_refl, hml, List.length_cons, List.length_nil]
    refine ⟨by omega, ?_⟩
    refine (c_refList (head ++ [Ld (Sd wBegin :: k)]) _).use (wkL_cons (by rw [lstD, List.map_append]; exact wk_tok _ _ _) wkL_nil) fun _ => ?_
    simp only [gw0, reduceEqDiff, ↓reduceIte, reduceAdd, reduceLT, reduceLeDiff, reduceMul, gwD3, gwDT, pureR_none, ite_self, nilR, nilB, bitF, bitV, nilC, nilCmp, eqb, assertV, assertW, zeroV, wQ_normal, wQ_ret, wQ_panic, pickO, pickC, List.map_cons, List.map_nil, List.getD_cons_zero, List.getD_cons_succ, Env.keep, beq_self_eq_true, cond_true, cond_false]
    refine (c_libParse ⟨[], [], []⟩ (Ld (head ++ [Ld (Sd wBegin :: k)])) _).use (wkL_cons (wk_nils _) (wkL_cons (wk_nils _) (wkL_cons (wk_nils _) (wkL_refl _)))) fun _ => ?_
    simp only [libV]
    simp only [gw0, reduceEqDiff, ↓reduceIte, reduceAdd, reduceLT, reduceLeDiff, reduceMul, gwD3, gwDT, pureR_none, ite_self, nilR, nilB, bitF, bitV, nilC, nilCmp, eqb, assertV, assertW, zeroV, wQ_normal, wQ_ret, wQ_panic, pickO, pickC, List.map_cons, List.map_nil, List.getD_cons_zero, List.getD_cons_succ, Env.keep, beq_self_eq_true, cond_true, cond_false, encLib_len, encLib_take, encLib_drop, Nat.le_refl, hml]
    refine (c_filesW wBegin k (by omega) _).use (wkL_refl _) fun _ => ?_
    simp only [gw0, reduceEqDiff, ↓reduceIte, reduceAdd, reduceLT, reduceLeDiff, reduceMul, gwD3, gwDT, pureR_none, ite_self, nilR, nilB, bitF, bitV, nilC, nilCmp, eqb, assertV, assertW, zeroV, wQ_normal, wQ_ret, wQ_panic, pickO, pickC, List.map_cons, List.map_nil, List.getD_cons_zero, List.getD_cons_succ, Env.keep, beq_self_eq_true, cond_true, cond_false, encD_take, encD_len, encD_drop, Nat.le_refl, hml, List.length_cons, List.length_nil]
    refine (c_filesW [120] [Ld (Sd wBegin :: k)] (by simp) _).use (wkL_refl _) fun _ => ?_
    simp only [gw0, reduceEqDiff, ↓reduceIte, reduceAdd, reduceLT, reduceLeDiff, reduceMul, gwD3, gwDT, pureR_none, ite_self, nilR, nilB, bitF, bitV, nilC, nilCmp, eqb, assertV, assertW, zeroV, wQ_normal, wQ_ret, wQ_panic, pickO, pickC, List.map_cons, List.map_nil, List.getD_cons_zero, List.getD_cons_succ, Env.keep, beq_self_eq_true, cond_true, cond_false, encD_take, encD_len, encD_drop, Nat.le_refl, hml, List.length_cons, List.length_nil]
    refine (c_text_Wrong _ [Ld [Sd [120], Ld (Sd wBegin :: k)]]).use (wkL_refl _) fun _ => ?_
    simp only [fltV]
    simp only [gw0, reduceEqDiff, ↓reduceIte, reduceAdd, reduceLT, reduceLeDiff, reduceMul, gwD3, gwDT, pureR_none, ite_self, nilR, nilB, bitF, bitV, nilC, nilCmp, eqb, assertV, assertW, zeroV, wQ_normal, wQ_ret, wQ_panic, pickO, pickC, List.map_cons, List.map_nil, List.getD_cons_zero, List.getD_cons_succ, Env.keep, beq_self_eq_true, cond_true, cond_false]
    refine iK_split (fun h => ?_) (fun h => ?_)
    ·simp only [gw0, reduceEqDiff, ↓reduceIte, reduceAdd, reduceLT, reduceLeDiff, reduceMul, gwD3, gwDT, pureR_none, ite_self, nilR, nilB, bitF, bitV, nilC, nilCmp, eqb, assertV, assertW, zeroV, wQ_normal, wQ_ret, wQ_panic, pickO, pickC, List.map_cons, List.map_nil, List.getD_cons_zero, List.getD_cons_succ, Env.keep, beq_self_eq_true, cond_true, cond_false]
     exact gives_bool' rfl hst
    simp only [Bool.or_eq_false_iff, Bool.not_eq_false', decide_eq_true_eq, decide_eq_false_iff_not] at h
    obtain ⟨⟨⟨⟨hx, h6⟩, h6'⟩, h4⟩, h4'⟩ := h
    rw [files_law head name s k hr hn hh hx h4 h4' h6']
    generalize parseP ⟨[], [], []⟩ (Ld (head ++ [Ld (Sd wBegin :: k)])) = R
    simp only [gw0, reduceEqDiff, ↓reduceIte, reduceAdd, reduceLT, reduceLeDiff, reduceMul, gwD3, gwDT, pureR_none, ite_self, nilR, nilB, bitF, bitV, nilC, nilCmp, eqb, assertV, assertW, zeroV, wQ_normal, wQ_ret, wQ_panic, pickO, pickC, List.map_cons, List.map_nil, List.getD_cons_zero, List.getD_cons_succ, Env.keep, beq_self_eq_true, cond_true, cond_false, encLib_len, encLib_take, encLib_drop, Nat.le_refl]
    refine rK_guarded (.bool true) (fun _ => c_ref3Same R.1 _) ?_
    simp only [gw0, reduceEqDiff, ↓reduceIte, reduceAdd, reduceLT, reduceLeDiff, reduceMul, gwD3, gwDT, pureR_none, ite_self, nilR, nilB, bitF, bitV, nilC, nilCmp, eqb, assertV, assertW, zeroV, wQ_normal, wQ_ret, wQ_panic, pickO, pickC, List.map_cons, List.map_nil, List.getD_cons_zero, List.getD_cons_succ, Env.keep, beq_self_eq_true, cond_true, cond_false]
    exact gives_bool' (by simp) hst
end Go.Proofs.YtpllcpbhjglpaaaDoor.Gx
namespace Go.Proofs.YtpllcpbhjglpaaaDoor.Gx
open Go Go.Proofs.YtpllcpbhjglpaaaDoor.Gw
set_option linter.unusedSimpArgs false
set_option linter.unusedVariables false
theorem len_succ {α : Type} {cs : List α} {n : Nat} (h : cs.length = n + 1) : ∃ c r, cs = c :: r ∧ r.length = n := by
 cases cs with
 | nil => simp at h
 | cons c r => exact ⟨c, r, rfl, by simpa using h⟩
open Go.ChangeShapes Go.WideShapes Go.ChangeAt Go.RowKit
theorem own : ownKnob Tryd.prog.godebug = none := by kernel_rfl
theorem laidOut : laidOutB Tryd.prog = true := by kernel_rfl
theorem below_of {W W' : World} {g' : G} (h : Ext g00 W g' W') : Below W.heap.size W W' := ⟨h.os, h.tape, h.output, h.size, fun k hk => (h.free k hk rfl).1⟩
theorem bulk_one {H : Type} (d : DataW H) : 1 ≤ Rows.uptoBulk d := by
 cases d with
 | lit l => cases l <;> simp [Rows.uptoBulk]
 | nil => simp [Rows.uptoBulk]
 | ptr d => simp [Rows.uptoBulk]
 | slice elems spare => simp [Rows.uptoBulk]
 | agg parts => simp [Rows.uptoBulk]
 | iface t d => simp [Rows.uptoBulk]
 | map entries => simp [Rows.uptoBulk]
 | held h => simp [Rows.uptoBulk]
theorem bulk_len {H : Type} : ∀ l : List (DataW H), l.length ≤ Rows.uptoBulkAll l
 | [] => by simp [Rows.uptoBulkAll]
 | x :: r => by have := bulk_one x; have := bulk_len r; simp only [Rows.uptoBulkAll, List.length_cons]; omega
/-- A slice that is read has no more elements than its bulk. -/
theorem bulk_slice {H : Type} {enc : TypeId × Value → H} {P : Program} {W : World} {spare : Nat → Bool} {held : Bool} {n : Nat} {t e : TypeId} {v : Value} {r : DataW H × List MemPlace} (ht : P.underlying t = some (.slice e)) {sz : Nat} {tp : Option Nat} {rows : List (List V)}
  (h : DataW.trod enc P W 0 spare held n t [v] = some r) (hs : SimV g00 W (.lst sz tp rows) v) : rows.length ≤ Rows.uptoBulk r.1 := by
 simp only [SimV] at hs
 obtain ⟨a, cap, rfl, -⟩ := hs
 cases n with
 | zero => simp [DataW.trod] at h
 | succ n =>
  unfold DataW.trod at h
  rw [ht] at h
  split at h <;> first | (cases h; done) | skip
  all_goals rename_i e'; first | (injection e' with e'; cases e'; done) | skip
  ·simp only [List.cons.injEq, Value.slice.injEq, and_true] at e'
   obtain ⟨_, e', _⟩ := e'
   omega
  ·simp only [List.cons.injEq, Value.slice.injEq, and_true] at e'
   obtain ⟨_, e', _⟩ := e'
   simp only at h
   split at h
   case isFalse => cases h
   rw [e']
   generalize hm : List.mapM (m := Option) _ _ = o at h
   cases o with
   | none => simp at h
   | some ys =>
    obtain ⟨hl, -⟩ := mapM_some hm
    simp only [Option.bind_some, Option.map_eq_some_iff] at h
    obtain ⟨zs, -, rfl⟩ := h
    have := bulk_len (ys.map (·.1))
    rw [List.length_map, hl, List.length_range] at this
    simp only [Rows.uptoBulk]
    omega
/-- A string that is read is no longer than its bulk. -/
theorem bulk_str {H : Type} {enc : TypeId × Value → H} {P : Program} {W : World} {spare : Nat → Bool} {held : Bool} {n : Nat} {t : TypeId} {s : List UInt8} {r : DataW H × List MemPlace} (ht : P.underlying t = some .string)
  (h : DataW.trod enc P W 0 spare held n t [.string ⟨s.toArray⟩] = some r) : s.length ≤ Rows.uptoBulk r.1 := by
 cases n with
 | zero => simp [DataW.trod] at h
 | succ n =>
  unfold DataW.trod at h
  rw [ht] at h
  split at h <;> first | (cases h; done) | skip
  all_goals rename_i e'; first | (injection e' with e'; cases e'; done) | skip
  ·simp only [List.cons.injEq, Value.string.injEq, and_true] at e'
   subst e'
   split at h
   ·simp only [Option.some.injEq] at h
    subst h
    simp [Rows.uptoBulk, ByteArray.size]
   ·cases h
  ·exact ((‹∀ s_1 : ByteArray, some TypeDesc.string = some TypeDesc.string → [Value.string ⟨s.toArray⟩] = [Value.string s_1] → False›) _ rfl rfl).elim
theorem okWide_slice {P : Program} {W : World} {r : Reach} {b : Nat} {t e : TypeId} {v : Value} (ht : P.underlying t = some (.slice e)) (h : Value.okWide P W r b t v) : v.cells.toList = [v] := by
 unfold Value.okWide at h
 rw [ht] at h
 simp only [Cell.okWide, ht] at h
 cases v <;> first | rfl | (simp [Cell.ok, ht] at h)
theorem okWide_str {P : Program} {W : World} {r : Reach} {b : Nat} {t : TypeId} {v : Value} (ht : P.underlying t = some .string) (h : Value.okWide P W r b t v) : v.cells.toList = [v] := by
 unfold Value.okWide at h
 rw [ht] at h
 simp only [Cell.okWide, ht] at h
 cases v <;> first | rfl | (simp [Cell.ok, ht] at h)
end Go.Proofs.YtpllcpbhjglpaaaDoor.Gx
namespace Go.Proofs.YtpllcpbhjglpaaaDoor.Gx
open Go Go.Proofs.YtpllcpbhjglpaaaDoor.Gw
open Nat (reduceEqDiff reduceAdd reduceLT reduceLeDiff reduceMul)
set_option linter.unusedSimpArgs false
set_option linter.unusedVariables false
theorem cells31 : Tryd.prog.cellsOf 31 = 6 := by kernel_rfl
theorem cells3 : Tryd.prog.cellsOf 3 = 1 := by kernel_rfl
theorem cells2 : Tryd.prog.cellsOf 2 = 1 := by kernel_rfl
theorem cells9 : Tryd.prog.cellsOf 9 = 1 := by kernel_rfl
theorem cells22 : Tryd.prog.cellsOf 22 = 1 := by kernel_rfl
theorem dec_Datum {H : Type} {enc : TypeId × Value → H} {W : World} {spare : Nat → Bool} {held : Bool} : ∀ (n : Nat) (cs : List Value) (r : DataW H × List MemPlace), DataW.trod enc Tryd.prog W 0 spare held n 31 cs = some r → ∃ x : Datum, SimVs g00 W (encD x) cs ∧ ∀ u ∈ cs, u.oneCell' = true := by
 intro n
 induction n using Nat.strongRecOn with
 | _ n ih =>
  intro cs r h
  obtain ⟨m, rfl, hl, hf⟩ := dec_struct Tryd.underlying31 h
  rw [cells31] at hl
  obtain ⟨c0, t0, rfl, l0⟩ := len_succ hl
  obtain ⟨c1, t1, rfl, l1⟩ := len_succ l0
  obtain ⟨c2, t2, rfl, l2⟩ := len_succ l1
  obtain ⟨c3, t3, rfl, l3⟩ := len_succ l2
  obtain ⟨c4, t4, rfl, l4⟩ := len_succ l3
  obtain ⟨c5, t5, rfl, l5⟩ := len_succ l4
  obtain rfl := List.eq_nil_of_length_eq_zero l5
  simp only [List.forall_mem_cons, cells2, cells22, cells3, cells9, List.drop_zero, List.drop_succ_cons, List.take_succ_cons, List.take_zero] at hf
  obtain ⟨⟨y0, h0⟩, ⟨y1, h1⟩, ⟨y2, h2⟩, ⟨y3, h3⟩, ⟨y4, h4⟩, ⟨y5, h5⟩, _⟩ := hf
  obtain ⟨x0, e0⟩ := dec_int Tryd.underlying3 h0
  obtain ⟨x1, e1⟩ := dec_int Tryd.underlying2 h1
  obtain ⟨x2, e2, k2⟩ := dec_str Tryd.underlying9 h2
  obtain ⟨x3, e3⟩ := dec_int Tryd.underlying3 h3
  obtain ⟨x4, e4⟩ := dec_int Tryd.underlying3 h4
  obtain ⟨x5, v5, e5, k5, j5⟩ := dec_slice encD Tryd.underlying22 cells31 (by decide) (fun m' hm' cs r hr => ih m' (by omega) cs r hr) h5
  simp only [List.cons.injEq, and_true] at e0 e1 e2 e3 e4 e5
  subst e0 e1 e2 e3 e4 e5
  refine ⟨Datum.mk x0 x1 x2 x3 x4 x5, ?_, ?_⟩
  ·rw [encD_mk]
   exact ⟨_, _, rfl, rfl, ⟨_, _, rfl, rfl, ⟨_, _, rfl, ⟨rfl, k2⟩, ⟨_, _, rfl, rfl, ⟨_, _, rfl, rfl, ⟨_, _, rfl, k5, rfl⟩⟩⟩⟩⟩⟩
  ·intro u hu
   simp only [List.mem_cons, List.not_mem_nil, or_false] at hu
   rcases hu with rfl | rfl | rfl | rfl | rfl | rfl <;> first | rfl | exact j5
theorem dec_LDatum {H : Type} {enc : TypeId × Value → H} {W : World} {spare : Nat → Bool} {held : Bool} {n : Nat} {cs : List Value} {r : DataW H × List MemPlace} (h : DataW.trod enc Tryd.prog W 0 spare held n 22 cs = some r) : ∃ (l : List (Datum)) (v : Value), cs = [v] ∧ SimV g00 W (.lst 6 none (l.map encD)) v ∧ v.oneCell' = true :=
 dec_slice encD Tryd.underlying22 cells31 (by decide) (fun m _ cs r hr => dec_Datum m cs r hr) h
end Go.Proofs.YtpllcpbhjglpaaaDoor.Gx
namespace Go.Proofs.YtpllcpbhjglpaaaDoor.Gx
open Go Go.Proofs.YtpllcpbhjglpaaaDoor.Gw
set_option linter.unusedSimpArgs false
set_option linter.unusedVariables false
open Go.ChangeShapes Go.WideShapes Go.ChangeAt Go.RowKit
noncomputable def low0 : Nat := (World.holding Tryd.prog default ⟨#[], #[], []⟩).heap.size
/-- A world that meets what is laid. -/
noncomputable def laidWorld (os : Os) : World :=
 { World.holding Tryd.prog os ⟨#[.cells #[.string ⟨#[105, 110, 118, 97, 108, 105, 100, 32, 115, 121, 110, 116, 97, 120]⟩] 131, .cells #[.string ⟨#[118, 97, 108, 117, 101, 32, 111, 117, 116, 32, 111, 102, 32, 114, 97, 110, 103, 101]⟩] 131], #[], []⟩ with heap := ((((((World.holding Tryd.prog os ⟨#[.cells #[.string ⟨#[105, 110, 118, 97, 108, 105, 100, 32, 115, 121, 110, 116, 97, 120]⟩] 131, .cells #[.string ⟨#[118, 97, 108, 117, 101, 32, 111, 117, 116, 32, 111, 102, 32, 114, 97, 110, 103, 101]⟩] 131], #[], []⟩).heap.modify 1 (fun | .cells _ t frozen => .cells #[.iface 129 (.pointer (some ⟨low0 + 0, 0, none⟩))] t frozen | o => o)).modify 2 (fun | .cells _ t frozen => .cells #[.iface 129 (.pointer (some ⟨low0 + 1, 0, none⟩))] t frozen | o => o)).modify 3 (fun | .cells _ t frozen => .cells #[.int .u64 1, .int .u64 10, .int .u64 100, .int .u64 1000, .int .u64 10000, .int .u64 100000, .int .u64 1000000, .int .u64 10000000, .int .u64 100000000, .int .u64 1000000000, .int .u64 10000000000, .int .u64 100000000000, .int .u64 1000000000000, .int .u64 10000000000000, .int .u64 100000000000000, .int .u64 1000000000000000, .int .u64 10000000000000000, .int .u64 100000000000000000, .int .u64 1000000000000000000, .int .u64 10000000000000000000] t frozen | o => o)).modify 4 (fun | .cells _ t frozen => .cells #[.int .u8 0, .int .u8 1, .int .u8 28, .int .u8 2, .int .u8 29, .int .u8 14, .int .u8 24, .int .u8 3, .int .u8 30, .int .u8 22, .int .u8 20, .int .u8 15, .int .u8 25, .int .u8 17, .int .u8 4, .int .u8 8, .int .u8 31, .int .u8 27, .int .u8 13, .int .u8 23, .int .u8 21, .int .u8 19, .int .u8 16, .int .u8 7, .int .u8 26, .int .u8 12, .int .u8 18, .int .u8 6, .int .u8 11, .int .u8 5, .int .u8 10, .int .u8 9] t frozen | o => o)).modify 5 (fun | .cells _ t frozen => .cells #[.int .u8 0, .int .u8 1, .int .u8 56, .int .u8 2, .int .u8 57, .int .u8 49, .int .u8 28, .int .u8 3, .int .u8 61, .int .u8 58, .int .u8 42, .int .u8 50, .int .u8 38, .int .u8 29, .int .u8 17, .int .u8 4, .int .u8 62, .int .u8 47, .int .u8 59, .int .u8 36, .int .u8 45, .int .u8 43, .int .u8 51, .int .u8 22, .int .u8 53, .int .u8 39, .int .u8 33, .int .u8 30, .int .u8 24, .int .u8 18, .int .u8 12, .int .u8 5, .int .u8 63, .int .u8 55, .int .u8 48, .int .u8 27, .int .u8 60, .int .u8 41, .int .u8 37, .int .u8 16, .int .u8 46, .int .u8 35, .int .u8 44, .int .u8 21, .int .u8 52, .int .u8 32, .int .u8 23, .int .u8 11, .int .u8 54, .int .u8 26, .int .u8 40, .int .u8 15, .int .u8 34, .int .u8 20, .int .u8 31, .int .u8 10, .int .u8 25, .int .u8 14, .int .u8 19, .int .u8 9, .int .u8 13, .int .u8 8, .int .u8 7, .int .u8 6] t frozen | o => o)) }
theorem laid_met (os : Os) : laidMet Tryd.prog Rows.libFilesUptoRow.laid ((laidWorld os).forCall (fun _ _ => 0) ⟨#[], #[.slice none 0 0, .string ByteArray.empty, .string ByteArray.empty], []⟩).memory :=
 laidMet_of_run' 8 (by kernel_rfl) (by kernel_rfl)
theorem reads (os : Os) {H : Type} (enc : TypeId × Value → H) : ∃ places, DataW.whole enc Tryd.prog ((laidWorld os).forCall (fun _ _ => 0) ⟨#[], #[.slice none 0 0, .string ByteArray.empty, .string ByteArray.empty], []⟩).memory Tryd.f3.params.toList Rows.libFilesSpec.vars false #[.slice none 0 0, .string ByteArray.empty, .string ByteArray.empty].toList 8 = some ([.nil, .lit (.string []), .lit (.string [])], [], places) :=
 ⟨[], by kernel_rfl⟩
theorem amb_of_laid {W : World} (hL : laidMet Tryd.prog Rows.libFilesUptoRow.laid W) : Amb g00 W := by
 intro p hp
 obtain rfl : p = (3, (Go.Lib.pow10Tab.map fun z => Value.int .u64 z).toArray) := List.mem_singleton.1 hp
 have h : laidMet Tryd.prog (("internal/strconv.uint64pow10", Go.Lib.tabData .u64 Go.Lib.pow10Tab) :: [("strconv.ErrRange", Rows.laid_strconv_ErrRange), ("strconv.ErrSyntax", Rows.laid_strconv_ErrSyntax)]) W := hL.tail.tail
 have ht := Go.Lib.tabIs_of_head (g := 3) (t := 140) (e := 113) (n := 20) (by kernel_rfl) (by kernel_rfl) (by kernel_rfl) (by kernel_rfl) (by kernel_rfl) (by kernel_rfl) h
 refine ⟨rfl, ?_⟩
 unfold Go.Lib.TabIs World.var? at ht
 rw [show Tryd.prog.globalNamed "internal/strconv.uint64pow10" = some 3 by kernel_rfl, Option.bind_some] at ht
 split at ht
 ·rename_i cs t x hx
  simp only [Option.some.injEq] at ht
  subst ht
  exact ⟨t, x, hx⟩
 ·cases ht
set_option maxRecDepth 100000 in
theorem contract (H : Type) (enc : TypeId × Value → H) (W : World) (base : Nat) (args : Array Value) (ds gs : List (DataW H)) (before : List MemPlace) (hL : laidMet Tryd.prog Rows.libFilesUptoRow.laid W) (hk : Rows.uptoSmall H (ds ++ gs) = true)
  (hval : ∀ (j : Nat) t v, Tryd.f3.params[j]? = some t → args[j]? = some v → Value.okWide Tryd.prog W .any base t v)
  (hW : DataW.Whole enc Tryd.prog Tryd.f3.params.toList Rows.libFilesSpec.vars false W args.toList ds gs before) :
  Calls Tryd.prog 3 args W fun e W' => ∃ v, e = .returned v ∧ Rows.libFilesSpec.post enc Tryd.prog Tryd.f3 false true false false W args v W' := by
 have hamb := amb_of_laid hL
 have hW' := hW
 obtain ⟨p, q, hA0, hV, rfl, hfz, hnd⟩ := hW
 have hA : DataW.TrodAll enc Tryd.prog W 0 (fun _ => true) true Tryd.f3.params.toList args.toList ds p := hA0
 rw [Tryd.params3] at hA hval
 obtain ⟨v0, vs0, d0, ds0, p0, q0, hargs0, rfl, rfl, h0, r0⟩ := trodAll_cons hA
 obtain ⟨v1, vs1, d1, ds1, p1, q1, hargs1, rfl, rfl, h1, r1⟩ := trodAll_cons r0
 obtain ⟨v2, vs2, d2, ds2, p2, q2, hargs2, rfl, rfl, h2, r2⟩ := trodAll_cons r1
 obtain ⟨rfl, rfl, rfl⟩ := trodAll_nil r2
 obtain rfl : args = #[v0, v1, v2] := by cases args; simp_all
 obtain ⟨rfl, rfl⟩ := trodVars_none hV
 have w0 := hval 0 22 v0 rfl rfl
 have w1 := hval 1 9 v1 rfl rfl
 have w2 := hval 2 9 v2 rfl rfl
 have k0 := h0
 have lt0 : ∀ x ∈ p0, x.block < W.heap.size := by obtain ⟨m, hm⟩ := k0; exact DataW.trod_lt m _ _ _ hm
 obtain ⟨m0, hm0⟩ := h0
 rw [okWide_slice Tryd.underlying22 w0] at hm0
 obtain ⟨head, x0, e0, s0, o0⟩ := dec_LDatum hm0
 simp only [List.cons.injEq, and_true] at e0
 subst e0
 have b0 : head.length ≤ Rows.uptoBulk d0 := by
  have q := bulk_slice Tryd.underlying22 hm0 s0
  rw [List.length_map] at q
  exact q
 have k1 := h1
 have lt1 : ∀ x ∈ p1, x.block < W.heap.size := by obtain ⟨m, hm⟩ := k1; exact DataW.trod_lt m _ _ _ hm
 obtain ⟨m1, hm1⟩ := h1
 rw [okWide_str Tryd.underlying9 w1] at hm1
 obtain ⟨name, e1, s1⟩ := dec_str Tryd.underlying9 hm1
 simp only [List.cons.injEq, and_true] at e1
 subst e1
 have b1 : name.length ≤ Rows.uptoBulk d1 := bulk_str Tryd.underlying9 hm1
 have k2 := h2
 have lt2 : ∀ x ∈ p2, x.block < W.heap.size := by obtain ⟨m, hm⟩ := k2; exact DataW.trod_lt m _ _ _ hm
 obtain ⟨m2, hm2⟩ := h2
 rw [okWide_str Tryd.underlying9 w2] at hm2
 obtain ⟨s, e2, s2⟩ := dec_str Tryd.underlying9 hm2
 simp only [List.cons.injEq, and_true] at e2
 subst e2
 have b2 : s.length ≤ Rows.uptoBulk d2 := bulk_str Tryd.underlying9 hm2
 have hk2 : Rows.uptoBulkAll ([d0, d1, d2] ++ []) ≤ 1048576 := of_decide_eq_true hk
 simp only [List.append_nil, Rows.uptoBulkAll] at hk2
 refine ((c_LibFiles head name s [] (by omega)).2 g00 W [v0, _, _] (sim00 _ W) ⟨_, _, rfl, s0, ⟨_, _, rfl, ⟨rfl, s1⟩, ⟨_, _, rfl, ⟨rfl, s2⟩, rfl⟩⟩⟩).mono fun e W' ⟨r, st', g', ⟨h1, h2⟩, hend, _, hext⟩ => ?_
 subst h1
 obtain ⟨val, rfl, hb⟩ := hend
 simp only [SimV] at hb
 subst hb
 have bel := below_of hext
 exact ⟨_, rfl, _, _, _, [], _, [], hW', trodAll_mk1 (shut_bool Tryd.underlying4 _), (trodAll_cons_mk (Below.trod laidOut (by kernel_rfl) (of_decide_eq_true (by kernel_rfl)) k0 bel lt0) (trodAll_cons_mk (Below.trod laidOut (by kernel_rfl) (of_decide_eq_true (by kernel_rfl)) k1 bel lt1) (trodAll_cons_mk (Below.trod laidOut (by kernel_rfl) (of_decide_eq_true (by kernel_rfl)) k2 bel lt2) trodAll_mk0))), rfl, bel.frame _, fun h => by cases h⟩
set_option maxRecDepth 100000 in
theorem lifted (os : Os) (started : os.Started) (H : Type) (enc : TypeId × Value → H) (F : Stop.Interp) :
  ReturnsInHanded {} Tryd.checked os 3 .any ((Rows.OpenSpec.upto Rows.libFilesSpec).preRow enc Tryd.prog Tryd.f3 Rows.libFilesUptoRow.domain false Rows.libFilesUptoRow.laid) (((Rows.OpenSpec.upto Rows.libFilesSpec).at F).post enc Tryd.prog Tryd.f3 false true false false) := by
 obtain ⟨places, hx⟩ := reads os enc
 refine returnsInHanded_of_row (C := Tryd.checked) (s := Rows.OpenSpec.upto Rows.libFilesSpec) own started (by kernel_rfl) Tryd.func3
  (witness_row_at (enc := enc) (C := Tryd.checked) false (laidWorld os) #[.slice none 0 0, .string ByteArray.empty, .string ByteArray.empty] rfl (by kernel_rfl) (by kernel_rfl) (by kernel_rfl)
   (OpenSpec.preRow_of_cond 8 hx (by kernel_rfl) (fun k hk => by cases hk; kernel_rfl) (by kernel_rfl) (laid_met os))) ?_
 intro W base args ds gs before hval hW _ hk _ hL _ _
 exact contract H enc W base args ds gs before hL (hk _ rfl) hval hW
theorem said : Rows.LibFilesUptoSaid :=
 OpenClaim.holds_of_cond 3 Tryd.f3 rfl rfl rfl rfl rfl rfl rfl ⟨rfl, rfl, rfl, rfl, rfl⟩ rfl rfl rfl rfl rfl (by kernel_rfl) Tryd.func3 (by kernel_rfl)
  (of_decide_eq_true (by kernel_rfl)) (by unfold Func.isWrapper; first | (rw [if_pos (by decide +kernel)]; kernel_rfl) | (rw [if_neg (by decide +kernel)]; exact ⟨rfl, rfl⟩))
  (fun os started H enc _ F => by rw [OpenClaim.pre_eq_preRow]; exact lifted os started H enc F)
theorem plain (f : FuncId) (fn : Func) (hf : Tryd.pinned.checked.prog.funcNamed "graftwood/graftlaw3.LibFiles" = some f) (hfn : Tryd.pinned.checked.prog.funcs[f]? = some fn) :
  true = Tryd.pinned.checked.prog.looks [] ∧ ∀ (j : Nat) t, fn.params[j]? = some t → Tryd.pinned.checked.prog.wantsStandIn t = false := by
 obtain rfl : f = 3 := Option.some.inj ((show Tryd.prog.funcNamed "graftwood/graftlaw3.LibFiles" = some 3 by kernel_rfl).symm.trans hf) |>.symm
 obtain rfl : fn = Tryd.f3 := (Option.some.inj (Tryd.func3.symm.trans hfn)).symm
 refine ⟨by kernel_rfl, fun j t ht => ?_⟩
 rw [Tryd.params3] at ht
 have hm := Array.mem_of_getElem? ht
 simp at hm
 rcases hm with rfl | rfl
 ·exact (show Tryd.prog.wantsStandIn 22 = false by kernel_rfl)
 ·exact (show Tryd.prog.wantsStandIn 9 = false by kernel_rfl)
end Go.Proofs.YtpllcpbhjglpaaaDoor.Gx
namespace Go.Proofs.YtpllcpbhjglpaaaDoor
theorem libFilesUptoCard_holds : Rows.LibFilesUptoCardSaid :=
 Claim7.holds_tied_plain_at .later [] _ _ _ _ Gx.said (fun _ h => by cases h) (by kernel_rfl) (fun _ h => by cases h) libFilesUpto_row_tie rfl ⟨rfl, rfl⟩ (by kernel_rfl) rfl Gx.plain (by kernel_rfl)
#print axioms libFilesUptoCard_holds
end Go.Proofs.YtpllcpbhjglpaaaDoor
