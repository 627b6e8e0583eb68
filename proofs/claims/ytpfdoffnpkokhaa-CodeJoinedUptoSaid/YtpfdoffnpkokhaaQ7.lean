/- Contracts: what is wrong with lists of data (the document's answer); the base's names; a datum without what its kinds have not. Contracts: a datum without what its kinds have not. Contracts: a datum without what its kinds have not (the document's answer); when data are the same. Contracts: when data are the same. Core expressions; what is wrong with one. -/
import Derived.Test.YtpfdoffnpkokhaaQ6

namespace Go.Proofs.Ytpfdoffnpkokhaa.Gx
open Go Go.Proofs.Ytpfdoffnpkokhaa.Gw
set_option linter.unusedSimpArgs false

theorem lstD_lt (n : Nat) (l : List Datum) : (lstD l).lt n := by
  simp only [lstD, V.lt]
  exact ⟨fun e h => (by cases h), by rw [← encDs_map]; exact encDs_lt _ _⟩

theorem c_ref_Wrong (st : St) (l : List Datum) : VCalls Try.prog TT 34 [lstD l] st fun r st' => r = .ret (fltV (wrongL l 0 0)) ∧ st' = st := by
  refine vfun TT_ok (an := anL []) (L := [0, 2, 3, 4, 5, 6, 7, 8, 9]) (rs := [.cell 2 50]) Try.func34 rfl (by kernel_rfl) rfl Try.ntmps34 rfl rfl (Nat.le_refl _) fun hst ha hf => ?_
  simp only [lstD, fltV, fitL, V.fit, List.length_map] at hf ⊢
  have hkl : l.length ≤ 9223372036854775807 := by simp at hf; omega
  simp only [decide_true, decide_false, gwL, gwB, gwD, gwE, gwS, gwTT, gwZ, initG, Nat.reduceEqDiff, ↓reduceIte, Nat.reduceAdd, Nat.reduceLT, Nat.reduceLeDiff, List.map_cons, List.map_nil, builtS, builtinV, pureR, binV, sliceV, pickV, evO, Env.look, find, V.ofConst, resV, resOne, tupV, loadV, fillV, buildV, mkIface, litM, litS, litR, litRows, List.reverse_cons, List.reverse_nil, Nat.reduceMul, appS, memA, appendV, rowsOf, V.cells, TI.sized, TI.known, TI.agg, anL, List.length_cons, List.length_nil, List.append_nil, List.cons_append, List.nil_append, List.drop_succ_cons, List.drop_zero, List.drop_nil, List.take_succ_cons, List.take_zero, List.take_nil, List.getElem?_cons_zero, List.getElem?_cons_succ, List.all_cons, List.all_nil, List.replicate_succ, List.replicate_zero, List.set_cons_zero, List.set_cons_succ, eq_self, true_or, ne_eq, not_false_eq_true, Nat.reduceEqDiff, List.length_map]
  refine vforD (σ := Nat × Int) [0, 2, 3, 7, 8, 9] (fun x => [(0, true, lstD l), (2, true, .ptr st.length 0), (3, true, .ptr (st.length + 1) 0), (7, true, lstD l), (8, true, .int .i64 l.length), (9, true, .int .i64 x.1)]) (fun x => st ++ [.box [.int .i64 0, .int .i64 0], .box [.int .i64 x.2]]) (fun x => l.length - x.1) (fun x => x.1 ≤ l.length ∧ 0 ≤ x.2 ∧ x.2 ≤ 2000 ∧ wrongL l 0 0 = wrongL (l.drop x.1) x.1 x.2) (0, 0) rfl TT_ok ⟨Nat.zero_le _, by omega, by omega, rfl⟩ (wkE_refl _) rfl ?_
  rintro ⟨i, c⟩ ⟨hi, hc0, hc1, hx⟩
  simp only at hi hc0 hc1 hx
  rw [hx]
  simp only [lstD]
  rcases at_or_end l i hi with ⟨rfl, hd⟩ | ⟨a, hlt, hget, hdr⟩
  · simp only [decide_true, decide_false, gwL, gwB, gwD, gwE, gwS, gwTT, gwZ, initG, Nat.reduceEqDiff, ↓reduceIte, Nat.reduceAdd, Nat.reduceLT, Nat.reduceLeDiff, List.map_cons, List.map_nil, builtS, builtinV, pureR, binV, sliceV, pickV, evO, Env.look, find, V.ofConst, resV, resOne, tupV, loadV, fillV, buildV, mkIface, litM, litS, litR, litRows, List.reverse_cons, List.reverse_nil, Nat.reduceMul, appS, memA, appendV, rowsOf, V.cells, TI.sized, TI.known, TI.agg, anL, List.length_cons, List.length_nil, List.append_nil, List.cons_append, List.nil_append, List.drop_succ_cons, List.drop_zero, List.drop_nil, List.take_succ_cons, List.take_zero, List.take_nil, List.getElem?_cons_zero, List.getElem?_cons_succ, List.all_cons, List.all_nil, List.replicate_succ, List.replicate_zero, List.set_cons_zero, List.set_cons_succ, eq_self, true_or, ne_eq, not_false_eq_true, Nat.reduceEqDiff, lt_no, hd, wrongL]
    exact gives_of (wk_refl _) (wkSt_refl _) (by simp [V.lt, ltL]) hst
  · simp only [decide_true, decide_false, gwL, gwB, gwD, gwE, gwS, gwTT, gwZ, initG, Nat.reduceEqDiff, ↓reduceIte, Nat.reduceAdd, Nat.reduceLT, Nat.reduceLeDiff, List.map_cons, List.map_nil, builtS, builtinV, pureR, binV, sliceV, pickV, evO, Env.look, find, V.ofConst, resV, resOne, tupV, loadV, fillV, buildV, mkIface, litM, litS, litR, litRows, List.reverse_cons, List.reverse_nil, Nat.reduceMul, appS, memA, appendV, rowsOf, V.cells, TI.sized, TI.known, TI.agg, anL, List.length_cons, List.length_nil, List.append_nil, List.cons_append, List.nil_append, List.drop_succ_cons, List.drop_zero, List.drop_nil, List.take_succ_cons, List.take_zero, List.take_nil, List.getElem?_cons_zero, List.getElem?_cons_succ, List.all_cons, List.all_nil, List.replicate_succ, List.replicate_zero, List.set_cons_zero, List.set_cons_succ, eq_self, true_or, ne_eq, not_false_eq_true, Nat.reduceEqDiff, lt_yes hlt, hdr, wrongL, List.length_map, getD_map hget, encD_take, encD_len, encD_drop, Int.ofNat_lt.mpr hlt, Nat.le_refl]
    refine (c_Shape a (st ++ [.box [.int .i64 0, .int .i64 0], .box [.int .i64 c], .box (encD a)]) (st.length + 1) c 1 (by simp only [gwL]) hc0 hc1 (by omega) (by omega)).use (wkL_refl _) fun _ => ?_
    simp only [decide_true, decide_false, gwL, gwB, gwD, gwE, gwS, gwTT, gwZ, initG, Nat.reduceEqDiff, ↓reduceIte, Nat.reduceAdd, Nat.reduceLT, Nat.reduceLeDiff, List.map_cons, List.map_nil, builtS, builtinV, pureR, binV, sliceV, pickV, evO, Env.look, find, V.ofConst, resV, resOne, tupV, loadV, fillV, buildV, mkIface, litM, litS, litR, litRows, List.reverse_cons, List.reverse_nil, Nat.reduceMul, appS, memA, appendV, rowsOf, V.cells, TI.sized, TI.known, TI.agg, anL, List.length_cons, List.length_nil, List.append_nil, List.cons_append, List.nil_append, List.drop_succ_cons, List.drop_zero, List.drop_nil, List.take_succ_cons, List.take_zero, List.take_nil, List.getElem?_cons_zero, List.getElem?_cons_succ, List.all_cons, List.all_nil, List.replicate_succ, List.replicate_zero, List.set_cons_zero, List.set_cons_succ, eq_self, true_or, ne_eq, not_false_eq_true, Nat.reduceEqDiff]
    refine iK_split (fun h5 => ?_) (fun h5 => ?_)
    · rw [not_yes h5]
      simp only [decide_true, decide_false, gwL, gwB, gwD, gwE, gwS, gwTT, gwZ, initG, Nat.reduceEqDiff, ↓reduceIte, Nat.reduceAdd, Nat.reduceLT, Nat.reduceLeDiff, List.map_cons, List.map_nil, builtS, builtinV, pureR, binV, sliceV, pickV, evO, Env.look, find, V.ofConst, resV, resOne, tupV, loadV, fillV, buildV, mkIface, litM, litS, litR, litRows, List.reverse_cons, List.reverse_nil, Nat.reduceMul, appS, memA, appendV, rowsOf, V.cells, TI.sized, TI.known, TI.agg, anL, List.length_cons, List.length_nil, List.append_nil, List.cons_append, List.nil_append, List.drop_succ_cons, List.drop_zero, List.drop_nil, List.take_succ_cons, List.take_zero, List.take_nil, List.getElem?_cons_zero, List.getElem?_cons_succ, List.all_cons, List.all_nil, List.replicate_succ, List.replicate_zero, List.set_cons_zero, List.set_cons_succ, eq_self, true_or, ne_eq, not_false_eq_true, Nat.reduceEqDiff]
      exact gives_of (wk_refl _) (wkSt_refl _) (by simp [V.lt, ltL]) hst
    · have h6 : decide ((shapeD a 1 c).1 = 0) = true := by simpa using h5
      have h7 := shapeD_ok a 1 c hc0 (of_decide_eq_true h6)
      rw [h6]
      simp only [decide_true, decide_false, gwL, gwB, gwD, gwE, gwS, gwTT, gwZ, initG, Nat.reduceEqDiff, ↓reduceIte, Nat.reduceAdd, Nat.reduceLT, Nat.reduceLeDiff, List.map_cons, List.map_nil, builtS, builtinV, pureR, binV, sliceV, pickV, evO, Env.look, find, V.ofConst, resV, resOne, tupV, loadV, fillV, buildV, mkIface, litM, litS, litR, litRows, List.reverse_cons, List.reverse_nil, Nat.reduceMul, appS, memA, appendV, rowsOf, V.cells, TI.sized, TI.known, TI.agg, anL, List.length_cons, List.length_nil, List.append_nil, List.cons_append, List.nil_append, List.drop_succ_cons, List.drop_zero, List.drop_nil, List.take_succ_cons, List.take_zero, List.take_nil, List.getElem?_cons_zero, List.getElem?_cons_succ, List.all_cons, List.all_nil, List.replicate_succ, List.replicate_zero, List.set_cons_zero, List.set_cons_succ, eq_self, true_or, ne_eq, not_false_eq_true, Nat.reduceEqDiff]
      refine ⟨(i + 1, (shapeD a 1 c).2), ⟨?_, st ++ [.box [.int .i64 0, .int .i64 0], .box [.int .i64 (shapeD a 1 c).2]], [.box (encD a)], by simp only [gwL], wkSt_refl _, ?_, ?_, by simp⟩, by simp only; omega, by simp only; omega, by simp only; omega, h7.2, rfl⟩
      · simp only [decide_true, decide_false, gwL, gwB, gwD, gwE, gwS, gwTT, gwZ, initG, Nat.reduceEqDiff, ↓reduceIte, Nat.reduceAdd, Nat.reduceLT, Nat.reduceLeDiff, List.map_cons, List.map_nil, builtS, builtinV, pureR, binV, sliceV, pickV, evO, Env.look, find, V.ofConst, resV, resOne, tupV, loadV, fillV, buildV, mkIface, litM, litS, litR, litRows, List.reverse_cons, List.reverse_nil, Nat.reduceMul, appS, memA, appendV, rowsOf, V.cells, TI.sized, TI.known, TI.agg, anL, List.length_cons, List.length_nil, List.append_nil, List.cons_append, List.nil_append, List.drop_succ_cons, List.drop_zero, List.drop_nil, List.take_succ_cons, List.take_zero, List.take_nil, List.getElem?_cons_zero, List.getElem?_cons_succ, List.all_cons, List.all_nil, List.replicate_succ, List.replicate_zero, List.set_cons_zero, List.set_cons_succ, eq_self, true_or, ne_eq, not_false_eq_true, Nat.reduceEqDiff, Env.keep, next_i64 hlt hkl]
        exact wkE_refl _
      · simp only [ltE, V.lt, gwL, lstD_lt, and_true, true_and]
        exact ⟨lstD_lt _ _, by omega, by omega, lstD_lt _ _⟩
      · exact ok_app hst (by simp [ltEs, Ent.lt, ltL, V.lt])

def prims : List Str := [[42], [43], [45], [60], [61], [99, 97, 114], [99, 100, 114], [99, 111, 110, 115], [101, 113, 63], [110, 111, 116], [110, 117, 108, 108, 63], [111, 117, 116], [112, 97, 105, 114, 63]]
theorem encS_lt (n : Nat) (l : List Str) : (encS l).lt n := by
  simp only [encS, V.lt]
  refine ⟨fun e h => (by cases h), ltRows_map fun x _ => ?_⟩
  simp [ltL, V.lt]
theorem c_Prims (st : St) : VCalls Try.prog TT 30 [] st fun r st' => r = .ret (encS prims) ∧ st' = st := by
  refine vfun TT_ok (an := anL []) (L := [0]) (rs := [.tmp 0]) Try.func30 rfl (by kernel_rfl) rfl Try.ntmps30 rfl rfl (Nat.le_refl _) fun hst ha hf => ?_
  simp only [decide_true, decide_false, gwL, gwB, gwD, gwE, gwS, gwTT, gwZ, initG, Nat.reduceEqDiff, ↓reduceIte, Nat.reduceAdd, Nat.reduceLT, Nat.reduceLeDiff, List.map_cons, List.map_nil, builtS, builtinV, pureR, binV, sliceV, pickV, evO, Env.look, find, V.ofConst, resV, resOne, tupV, loadV, fillV, buildV, mkIface, litM, litS, litR, litRows, List.reverse_cons, List.reverse_nil, Nat.reduceMul, appS, memA, appendV, rowsOf, V.cells, TI.sized, TI.known, TI.agg, anL, List.length_cons, List.length_nil, List.append_nil, List.cons_append, List.nil_append, List.drop_succ_cons, List.drop_zero, List.drop_nil, List.take_succ_cons, List.take_zero, List.take_nil, List.getElem?_cons_zero, List.getElem?_cons_succ, List.all_cons, List.all_nil, List.replicate_succ, List.replicate_zero, List.set_cons_zero, List.set_cons_succ, eq_self, true_or, ne_eq, not_false_eq_true, Nat.reduceEqDiff]
  exact gives_self (encS_lt _ _) hst
theorem c_Prim (st : St) (s : Str) : VCalls Try.prog TT 33 [.str s] st fun r st' => r = .ret (.bool (decide (s ∈ prims))) ∧ st' = st := by
  refine vfun TT_ok (an := anL []) (L := [0, 2]) (rs := [.tmp 2]) Try.func33 rfl (by kernel_rfl) rfl Try.ntmps33 rfl rfl (Nat.le_refl _) fun hst ha hf => ?_
  simp only [decide_true, decide_false, gwL, gwB, gwD, gwE, gwS, gwTT, gwZ, initG, Nat.reduceEqDiff, ↓reduceIte, Nat.reduceAdd, Nat.reduceLT, Nat.reduceLeDiff, List.map_cons, List.map_nil, builtS, builtinV, pureR, binV, sliceV, pickV, evO, Env.look, find, V.ofConst, resV, resOne, tupV, loadV, fillV, buildV, mkIface, litM, litS, litR, litRows, List.reverse_cons, List.reverse_nil, Nat.reduceMul, appS, memA, appendV, rowsOf, V.cells, TI.sized, TI.known, TI.agg, anL, List.length_cons, List.length_nil, List.append_nil, List.cons_append, List.nil_append, List.drop_succ_cons, List.drop_zero, List.drop_nil, List.take_succ_cons, List.take_zero, List.take_nil, List.getElem?_cons_zero, List.getElem?_cons_succ, List.all_cons, List.all_nil, List.replicate_succ, List.replicate_zero, List.set_cons_zero, List.set_cons_succ, eq_self, true_or, ne_eq, not_false_eq_true, Nat.reduceEqDiff]
  refine (c_in st prims s).use (wkL_refl _) fun _ => ?_
  simp only [decide_true, decide_false, gwL, gwB, gwD, gwE, gwS, gwTT, gwZ, initG, Nat.reduceEqDiff, ↓reduceIte, Nat.reduceAdd, Nat.reduceLT, Nat.reduceLeDiff, List.map_cons, List.map_nil, builtS, builtinV, pureR, binV, sliceV, pickV, evO, Env.look, find, V.ofConst, resV, resOne, tupV, loadV, fillV, buildV, mkIface, litM, litS, litR, litRows, List.reverse_cons, List.reverse_nil, Nat.reduceMul, appS, memA, appendV, rowsOf, V.cells, TI.sized, TI.known, TI.agg, anL, List.length_cons, List.length_nil, List.append_nil, List.cons_append, List.nil_append, List.drop_succ_cons, List.drop_zero, List.drop_nil, List.take_succ_cons, List.take_zero, List.take_nil, List.getElem?_cons_zero, List.getElem?_cons_succ, List.all_cons, List.all_nil, List.replicate_succ, List.replicate_zero, List.set_cons_zero, List.set_cons_succ, eq_self, true_or, ne_eq, not_false_eq_true, Nat.reduceEqDiff]
  exact gives_bool rfl hst
end Go.Proofs.Ytpfdoffnpkokhaa.Gx

namespace Go.Proofs.Ytpfdoffnpkokhaa.Gx
open Go Go.Proofs.Ytpfdoffnpkokhaa.Gw
set_option linter.unusedSimpArgs false

mutual
def bareD : Datum → Datum
  | .mk k n nm _ _ kids => bif decide (k = 3) then .mk k 0 nm 0 0 [] else bif decide (k = 4) then .mk k 0 [] 0 0 (bareDs kids) else .mk k n [] 0 0 []
def bareDs : List Datum → List Datum
  | [] => []
  | d :: r => bareD d :: bareDs r
end
theorem bareDs_map : ∀ l : List Datum, bareDs l = l.map bareD
  | [] => rfl
  | d :: r => by simp only [bareDs, List.map_cons, bareDs_map r]
theorem bareD_mk (k n : Int) (nm : Str) (s l : Int) (kids : List Datum) : bareD (.mk k n nm s l kids) = bif decide (k = 3) then .mk k 0 nm 0 0 [] else bif decide (k = 4) then .mk k 0 [] 0 0 (kids.map bareD) else .mk k n [] 0 0 [] := by
  simp only [bareD, bareDs_map]

mutual
/-- Lists have few kids. -/
def smallD : Datum → Prop
  | .mk k _ _ _ _ kids => k = 4 → kids.length ≤ 2000 ∧ smallDs kids
def smallDs : List Datum → Prop
  | [] => True
  | d :: r => smallD d ∧ smallDs r
end
theorem smallDs_mem : ∀ {l : List Datum} {d : Datum}, smallDs l → d ∈ l → smallD d
  | [], d, _, h => by simp at h
  | x :: r, d, h, hd => by
    rcases List.mem_cons.1 hd with rfl | hd
    · exact h.1
    · exact smallDs_mem h.2 hd
theorem take_next {α : Type} {l : List α} {i : Nat} {a : α} (h : l[i]? = some a) : l.take (i + 1) = l.take i ++ [a] := by
  rw [List.take_add_one, h]; rfl

theorem c_Bare (d : Datum) : smallD d → ∀ st : St, VCalls Try.prog TT 32 [.agg (encD d)] st fun r st' => r = .ret (.agg (encD (bareD d))) ∧ st' = st := by
  refine Datum.ind (p := fun d => smallD d → ∀ st : St, VCalls Try.prog TT 32 [.agg (encD d)] st fun r st' => r = .ret (.agg (encD (bareD d))) ∧ st' = st) ?_ d
  intro k n nm s l kids ih hsm st
  refine vfun TT_ok (an := anL [(1, 1)]) (L := [0, 1, 2, 3, 5, 10, 22, 23, 24]) (rs := [.cell 2 38]) Try.func32 rfl (by kernel_rfl) rfl Try.ntmps32 rfl rfl (Nat.le_refl _) fun hst ha hf => ?_
  simp only [encD_mk]
  rw [bareD_mk]
  simp only [decide_true, decide_false, gwL, gwB, gwD, gwE, gwS, gwTT, gwZ, initG, Nat.reduceEqDiff, ↓reduceIte, Nat.reduceAdd, Nat.reduceLT, Nat.reduceLeDiff, List.map_cons, List.map_nil, builtS, builtinV, pureR, binV, sliceV, pickV, evO, Env.look, find, V.ofConst, resV, resOne, tupV, loadV, fillV, buildV, mkIface, litM, litS, litR, litRows, List.reverse_cons, List.reverse_nil, Nat.reduceMul, appS, memA, appendV, rowsOf, V.cells, TI.sized, TI.known, TI.agg, anL, List.length_cons, List.length_nil, List.append_nil, List.cons_append, List.nil_append, List.drop_succ_cons, List.drop_zero, List.drop_nil, List.take_succ_cons, List.take_zero, List.take_nil, List.getElem?_cons_zero, List.getElem?_cons_succ, List.all_cons, List.all_nil, List.replicate_succ, List.replicate_zero, List.set_cons_zero, List.set_cons_succ, eq_self, true_or, ne_eq, not_false_eq_true, Nat.reduceEqDiff]
  refine iK_split (fun h => ?_) (fun h => ?_)
  · rw [h]
    simp only [decide_true, decide_false, gwL, gwB, gwD, gwE, gwS, gwTT, gwZ, initG, Nat.reduceEqDiff, ↓reduceIte, Nat.reduceAdd, Nat.reduceLT, Nat.reduceLeDiff, List.map_cons, List.map_nil, builtS, builtinV, pureR, binV, sliceV, pickV, evO, Env.look, find, V.ofConst, resV, resOne, tupV, loadV, fillV, buildV, mkIface, litM, litS, litR, litRows, List.reverse_cons, List.reverse_nil, Nat.reduceMul, appS, memA, appendV, rowsOf, V.cells, TI.sized, TI.known, TI.agg, anL, List.length_cons, List.length_nil, List.append_nil, List.cons_append, List.nil_append, List.drop_succ_cons, List.drop_zero, List.drop_nil, List.take_succ_cons, List.take_zero, List.take_nil, List.getElem?_cons_zero, List.getElem?_cons_succ, List.all_cons, List.all_nil, List.replicate_succ, List.replicate_zero, List.set_cons_zero, List.set_cons_succ, eq_self, true_or, ne_eq, not_false_eq_true, Nat.reduceEqDiff, encD_mk]
    refine gives_of (wk_agg ?_) (wkSt_refl _) (by simp only [V.lt]; exact encD_lt _ (.mk k 0 nm 0 0 [])) hst
    exact wkL_cons (wk_refl _) (wkL_cons (wk_refl _) (wkL_cons (wk_refl _) (wkL_cons (wk_refl _) (wkL_cons (wk_refl _) (wkL_cons (wk_nils _) wkL_nil)))))
  rw [h]
  simp only [decide_true, decide_false, gwL, gwB, gwD, gwE, gwS, gwTT, gwZ, initG, Nat.reduceEqDiff, ↓reduceIte, Nat.reduceAdd, Nat.reduceLT, Nat.reduceLeDiff, List.map_cons, List.map_nil, builtS, builtinV, pureR, binV, sliceV, pickV, evO, Env.look, find, V.ofConst, resV, resOne, tupV, loadV, fillV, buildV, mkIface, litM, litS, litR, litRows, List.reverse_cons, List.reverse_nil, Nat.reduceMul, appS, memA, appendV, rowsOf, V.cells, TI.sized, TI.known, TI.agg, anL, List.length_cons, List.length_nil, List.append_nil, List.cons_append, List.nil_append, List.drop_succ_cons, List.drop_zero, List.drop_nil, List.take_succ_cons, List.take_zero, List.take_nil, List.getElem?_cons_zero, List.getElem?_cons_succ, List.all_cons, List.all_nil, List.replicate_succ, List.replicate_zero, List.set_cons_zero, List.set_cons_succ, eq_self, true_or, ne_eq, not_false_eq_true, Nat.reduceEqDiff]
  refine iK_split (fun h2 => ?_) (fun h2 => ?_)
  · rw [h2]
    obtain ⟨hs1, hs2⟩ := hsm (of_decide_eq_true h2)
    simp only [decide_true, decide_false, gwL, gwB, gwD, gwE, gwS, gwTT, gwZ, initG, Nat.reduceEqDiff, ↓reduceIte, Nat.reduceAdd, Nat.reduceLT, Nat.reduceLeDiff, List.map_cons, List.map_nil, builtS, builtinV, pureR, binV, sliceV, pickV, evO, Env.look, find, V.ofConst, resV, resOne, tupV, loadV, fillV, buildV, mkIface, litM, litS, litR, litRows, List.reverse_cons, List.reverse_nil, Nat.reduceMul, appS, memA, appendV, rowsOf, V.cells, TI.sized, TI.known, TI.agg, anL, List.length_cons, List.length_nil, List.append_nil, List.cons_append, List.nil_append, List.drop_succ_cons, List.drop_zero, List.drop_nil, List.take_succ_cons, List.take_zero, List.take_nil, List.getElem?_cons_zero, List.getElem?_cons_succ, List.all_cons, List.all_nil, List.replicate_succ, List.replicate_zero, List.set_cons_zero, List.set_cons_succ, eq_self, true_or, ne_eq, not_false_eq_true, Nat.reduceEqDiff, encD_mk, List.length_map]
    refine vforT (σ := Nat) [38] [1, 2, 3, 22, 23, 24] (fun i => [(1, true, .ref (encD (.mk k n nm s l kids))), (2, true, .ptr st.length 0), (3, true, .ptr (st.length + 1) 0), (22, true, lstD kids), (23, true, .int .i64 kids.length), (24, true, .int .i64 i)]) (fun i => st ++ [.box [.int .i64 0, .int .i64 0, .str [], .int .i64 0, .int .i64 0, .nils], .box [.int .i64 k, .int .i64 0, .str [], .int .i64 0, .int .i64 0, .lst 6 (some (st.length + 2)) ((kids.take i).map fun d => encD (bareD d))], .tip 38 i]) (fun i => kids.length - i) (fun i => i ≤ kids.length) 0 rfl TT_ok (Nat.zero_le _) ?_ ?_ ?_
    · rw [encD_mk]; exact wkE_refl _
    · refine ⟨st ++ [.box [.int .i64 0, .int .i64 0, .str [], .int .i64 0, .int .i64 0, .nils], .box [.int .i64 k, .int .i64 0, .str [], .int .i64 0, .int .i64 0, .lst 6 (some (st.length + 2)) []]], ?_, by simp only [gwL, tips, List.map_cons, List.map_nil, List.take_zero]⟩
      refine (wkSt_refl _).append (wkSt_cons (Ent.wkp_refl _) (wkSt_cons (Ent.wk_box ?_) wkSt_nil))
      exact wkL_cons (wk_refl _) (wkL_cons (wk_refl _) (wkL_cons (wk_refl _) (wkL_cons (wk_refl _) (wkL_cons (wk_refl _) (wkL_cons (wk_tip _ (by simp [Tips])) wkL_nil)))))
    intro i hi
    simp only [encD_mk, lstD]
    rcases at_or_end kids i hi with ⟨rfl, hd⟩ | ⟨a, hlt, hget, hdr⟩
    · simp only [decide_true, decide_false, gwL, gwB, gwD, gwE, gwS, gwTT, gwZ, initG, Nat.reduceEqDiff, ↓reduceIte, Nat.reduceAdd, Nat.reduceLT, Nat.reduceLeDiff, List.map_cons, List.map_nil, builtS, builtinV, pureR, binV, sliceV, pickV, evO, Env.look, find, V.ofConst, resV, resOne, tupV, loadV, fillV, buildV, mkIface, litM, litS, litR, litRows, List.reverse_cons, List.reverse_nil, Nat.reduceMul, appS, memA, appendV, rowsOf, V.cells, TI.sized, TI.known, TI.agg, anL, List.length_cons, List.length_nil, List.append_nil, List.cons_append, List.nil_append, List.drop_succ_cons, List.drop_zero, List.drop_nil, List.take_succ_cons, List.take_zero, List.take_nil, List.getElem?_cons_zero, List.getElem?_cons_succ, List.all_cons, List.all_nil, List.replicate_succ, List.replicate_zero, List.set_cons_zero, List.set_cons_succ, eq_self, true_or, ne_eq, not_false_eq_true, Nat.reduceEqDiff, lt_no, hd, List.take_length]
      have hm : (kids.map bareD).map encD = kids.map (fun d => encD (bareD d)) := by rw [List.map_map]; rfl
      rw [hm]
      refine gives_of (wk_agg ?_) (wkSt_refl _) ?_ hst
      · exact wkL_cons (wk_refl _) (wkL_cons (wk_refl _) (wkL_cons (wk_refl _) (wkL_cons (wk_refl _) (wkL_cons (wk_refl _) (wkL_cons (wk_tok _ _ _) wkL_nil)))))
      · rw [← hm]
        have := encD_lt st.length (.mk k 0 [] 0 0 (kids.map bareD))
        simp only [encD_mk] at this
        simp only [V.lt]; exact this
    · simp only [decide_true, decide_false, gwL, gwB, gwD, gwE, gwS, gwTT, gwZ, initG, Nat.reduceEqDiff, ↓reduceIte, Nat.reduceAdd, Nat.reduceLT, Nat.reduceLeDiff, List.map_cons, List.map_nil, builtS, builtinV, pureR, binV, sliceV, pickV, evO, Env.look, find, V.ofConst, resV, resOne, tupV, loadV, fillV, buildV, mkIface, litM, litS, litR, litRows, List.reverse_cons, List.reverse_nil, Nat.reduceMul, appS, memA, appendV, rowsOf, V.cells, TI.sized, TI.known, TI.agg, anL, List.length_cons, List.length_nil, List.append_nil, List.cons_append, List.nil_append, List.drop_succ_cons, List.drop_zero, List.drop_nil, List.take_succ_cons, List.take_zero, List.take_nil, List.getElem?_cons_zero, List.getElem?_cons_succ, List.all_cons, List.all_nil, List.replicate_succ, List.replicate_zero, List.set_cons_zero, List.set_cons_succ, eq_self, true_or, ne_eq, not_false_eq_true, Nat.reduceEqDiff, lt_yes hlt, hdr, List.length_map, getD_map hget, encD_take, encD_len, encD_drop, Int.ofNat_lt.mpr hlt, Nat.le_refl]
      refine vdraw TT_ok TT_mixed [0, 1, 1, 0, 1, 2, 0, 2] (by kernel_rfl) ?_
      simp only [decide_true, decide_false, gwL, gwB, gwD, gwE, gwS, gwTT, gwZ, initG, Nat.reduceEqDiff, ↓reduceIte, Nat.reduceAdd, Nat.reduceLT, Nat.reduceLeDiff, List.map_cons, List.map_nil, builtS, builtinV, pureR, binV, sliceV, pickV, evO, Env.look, find, V.ofConst, resV, resOne, tupV, loadV, fillV, buildV, mkIface, litM, litS, litR, litRows, List.reverse_cons, List.reverse_nil, Nat.reduceMul, appS, memA, appendV, rowsOf, V.cells, TI.sized, TI.known, TI.agg, anL, List.length_cons, List.length_nil, List.append_nil, List.cons_append, List.nil_append, List.drop_succ_cons, List.drop_zero, List.drop_nil, List.take_succ_cons, List.take_zero, List.take_nil, List.getElem?_cons_zero, List.getElem?_cons_succ, List.all_cons, List.all_nil, List.replicate_succ, List.replicate_zero, List.set_cons_zero, List.set_cons_succ, eq_self, true_or, ne_eq, not_false_eq_true, Nat.reduceEqDiff, encD_take, encD_len, encD_drop, Nat.le_refl]
      refine eK_free (ih a (List.mem_of_getElem? hget) (smallDs_mem hs2 (List.mem_of_getElem? hget))) (wkL_refl _) ?_
      simp only [decide_true, decide_false, gwL, gwB, gwD, gwE, gwS, gwTT, gwZ, initG, Nat.reduceEqDiff, ↓reduceIte, Nat.reduceAdd, Nat.reduceLT, Nat.reduceLeDiff, List.map_cons, List.map_nil, builtS, builtinV, pureR, binV, sliceV, pickV, evO, Env.look, find, V.ofConst, resV, resOne, tupV, loadV, fillV, buildV, mkIface, litM, litS, litR, litRows, List.reverse_cons, List.reverse_nil, Nat.reduceMul, appS, memA, appendV, rowsOf, V.cells, TI.sized, TI.known, TI.agg, anL, List.length_cons, List.length_nil, List.append_nil, List.cons_append, List.nil_append, List.drop_succ_cons, List.drop_zero, List.drop_nil, List.take_succ_cons, List.take_zero, List.take_nil, List.getElem?_cons_zero, List.getElem?_cons_succ, List.all_cons, List.all_nil, List.replicate_succ, List.replicate_zero, List.set_cons_zero, List.set_cons_succ, eq_self, true_or, ne_eq, not_false_eq_true, Nat.reduceEqDiff, encD_take, encD_len, encD_drop, Nat.le_refl, List.length_map, List.length_take, Nat.min_eq_left hi]
      refine ⟨by omega, ?_⟩
      refine ⟨i + 1, ⟨?_, st ++ [.box [.int .i64 0, .int .i64 0, .str [], .int .i64 0, .int .i64 0, .nils], .box [.int .i64 k, .int .i64 0, .str [], .int .i64 0, .int .i64 0, .lst 6 (some (st.length + 2)) ((kids.take (i + 1)).map fun d => encD (bareD d))], .tip 38 (i + 1)], [.box (encD a)], ?_, wkSt_refl _, ?_, ?_, by simp⟩, by omega, hlt⟩
      · simp only [decide_true, decide_false, gwL, gwB, gwD, gwE, gwS, gwTT, gwZ, initG, Nat.reduceEqDiff, ↓reduceIte, Nat.reduceAdd, Nat.reduceLT, Nat.reduceLeDiff, List.map_cons, List.map_nil, builtS, builtinV, pureR, binV, sliceV, pickV, evO, Env.look, find, V.ofConst, resV, resOne, tupV, loadV, fillV, buildV, mkIface, litM, litS, litR, litRows, List.reverse_cons, List.reverse_nil, Nat.reduceMul, appS, memA, appendV, rowsOf, V.cells, TI.sized, TI.known, TI.agg, anL, List.length_cons, List.length_nil, List.append_nil, List.cons_append, List.nil_append, List.drop_succ_cons, List.drop_zero, List.drop_nil, List.take_succ_cons, List.take_zero, List.take_nil, List.getElem?_cons_zero, List.getElem?_cons_succ, List.all_cons, List.all_nil, List.replicate_succ, List.replicate_zero, List.set_cons_zero, List.set_cons_succ, eq_self, true_or, ne_eq, not_false_eq_true, Nat.reduceEqDiff, Env.keep, next_i64 hlt (by omega : kids.length ≤ 9223372036854775807)]
        exact wkE_refl _
      · rw [take_next hget, List.map_append]
        simp only [gwL, List.map_cons, List.map_nil, show min i kids.length = i by omega]
      · simp only [ltE, V.lt, gwL]
        exact ⟨by have := encD_lt (st.length + 3) (.mk k n nm s l kids); rw [encD_mk] at this; exact this, by omega, by omega, lstD_lt _ _, trivial, trivial, trivial⟩
      · refine ok_app hst ⟨by simp [Ent.lt, ltL, V.lt], ⟨?_, trivial, trivial⟩⟩
        simp only [Ent.lt, ltL, V.lt, true_and, and_true]
        exact ⟨fun e he => by cases he; simp, ltRows_map fun d _ => encD_lt _ _⟩
  · rw [h2]
    simp only [decide_true, decide_false, gwL, gwB, gwD, gwE, gwS, gwTT, gwZ, initG, Nat.reduceEqDiff, ↓reduceIte, Nat.reduceAdd, Nat.reduceLT, Nat.reduceLeDiff, List.map_cons, List.map_nil, builtS, builtinV, pureR, binV, sliceV, pickV, evO, Env.look, find, V.ofConst, resV, resOne, tupV, loadV, fillV, buildV, mkIface, litM, litS, litR, litRows, List.reverse_cons, List.reverse_nil, Nat.reduceMul, appS, memA, appendV, rowsOf, V.cells, TI.sized, TI.known, TI.agg, anL, List.length_cons, List.length_nil, List.append_nil, List.cons_append, List.nil_append, List.drop_succ_cons, List.drop_zero, List.drop_nil, List.take_succ_cons, List.take_zero, List.take_nil, List.getElem?_cons_zero, List.getElem?_cons_succ, List.all_cons, List.all_nil, List.replicate_succ, List.replicate_zero, List.set_cons_zero, List.set_cons_succ, eq_self, true_or, ne_eq, not_false_eq_true, Nat.reduceEqDiff, encD_mk]
    refine gives_of (wk_agg ?_) (wkSt_refl _) (by simp only [V.lt]; exact encD_lt _ (.mk k n [] 0 0 [])) hst
    exact wkL_cons (wk_refl _) (wkL_cons (wk_refl _) (wkL_cons (wk_refl _) (wkL_cons (wk_refl _) (wkL_cons (wk_refl _) (wkL_cons (wk_nils _) wkL_nil)))))
end Go.Proofs.Ytpfdoffnpkokhaa.Gx

namespace Go.Proofs.Ytpfdoffnpkokhaa.Gx
open Go Go.Proofs.Ytpfdoffnpkokhaa.Gw
set_option linter.unusedSimpArgs false

mutual
def bareR : Datum → Datum
  | .mk k n nm s l kids => bif decide (k = 1) then .mk k n [] 0 0 [] else bif decide (k = 2) then .mk k n [] 0 0 [] else bif decide (k = 3) then .mk k 0 nm s l [] else bif decide (k = 4) then .mk k 0 [] 0 0 (bareRs kids) else .mk k 0 [] 0 0 []
def bareRs : List Datum → List Datum
  | [] => []
  | d :: r => bareR d :: bareRs r
end
theorem bareRs_map : ∀ l : List Datum, bareRs l = l.map bareR
  | [] => rfl
  | d :: r => by simp only [bareRs, List.map_cons, bareRs_map r]
theorem bareR_mk (k n : Int) (nm : Str) (s l : Int) (kids : List Datum) : bareR (.mk k n nm s l kids) = bif decide (k = 1) then .mk k n [] 0 0 [] else bif decide (k = 2) then .mk k n [] 0 0 [] else bif decide (k = 3) then .mk k 0 nm s l [] else bif decide (k = 4) then .mk k 0 [] 0 0 (kids.map bareR) else .mk k 0 [] 0 0 [] := by
  simp only [bareR, bareRs_map]

theorem c_ref_Bare (d : Datum) : smallD d → ∀ st : St, VCalls Try.prog TT 27 [.agg (encD d)] st fun r st' => r = .ret (.agg (encD (bareR d))) ∧ st' = st := by
  refine Datum.ind (p := fun d => smallD d → ∀ st : St, VCalls Try.prog TT 27 [.agg (encD d)] st fun r st' => r = .ret (.agg (encD (bareR d))) ∧ st' = st) ?_ d
  intro k n nm s l kids ih hsm st
  refine vfun TT_ok (an := anL [(1, 1)]) (L := [0, 1, 2, 3, 5, 10, 11, 29, 30, 31]) (rs := [.cell 2 38]) Try.func27 rfl (by kernel_rfl) rfl Try.ntmps27 rfl rfl (Nat.le_refl _) fun hst ha hf => ?_
  simp only [encD_mk, fitL, V.fit, List.length_map] at hf ⊢
  have hkl : kids.length ≤ 9223372036854775807 := by simp at hf; omega
  rw [bareR_mk]
  simp only [decide_true, decide_false, gwL, gwB, gwD, gwE, gwS, gwTT, gwZ, initG, Nat.reduceEqDiff, ↓reduceIte, Nat.reduceAdd, Nat.reduceLT, Nat.reduceLeDiff, List.map_cons, List.map_nil, builtS, builtinV, pureR, binV, sliceV, pickV, evO, Env.look, find, V.ofConst, resV, resOne, tupV, loadV, fillV, buildV, mkIface, litM, litS, litR, litRows, List.reverse_cons, List.reverse_nil, Nat.reduceMul, appS, memA, appendV, rowsOf, V.cells, TI.sized, TI.known, TI.agg, anL, List.length_cons, List.length_nil, List.append_nil, List.cons_append, List.nil_append, List.drop_succ_cons, List.drop_zero, List.drop_nil, List.take_succ_cons, List.take_zero, List.take_nil, List.getElem?_cons_zero, List.getElem?_cons_succ, List.all_cons, List.all_nil, List.replicate_succ, List.replicate_zero, List.set_cons_zero, List.set_cons_succ, eq_self, true_or, ne_eq, not_false_eq_true, Nat.reduceEqDiff]
  refine iK_split (fun h => ?_) (fun h => ?_)
  · rw [h]
    have h4 : decide (k = 4) = false := by simp at h ⊢; omega
    simp only [decide_true, decide_false, gwL, gwB, gwD, gwE, gwS, gwTT, gwZ, initG, Nat.reduceEqDiff, ↓reduceIte, Nat.reduceAdd, Nat.reduceLT, Nat.reduceLeDiff, List.map_cons, List.map_nil, builtS, builtinV, pureR, binV, sliceV, pickV, evO, Env.look, find, V.ofConst, resV, resOne, tupV, loadV, fillV, buildV, mkIface, litM, litS, litR, litRows, List.reverse_cons, List.reverse_nil, Nat.reduceMul, appS, memA, appendV, rowsOf, V.cells, TI.sized, TI.known, TI.agg, anL, List.length_cons, List.length_nil, List.append_nil, List.cons_append, List.nil_append, List.drop_succ_cons, List.drop_zero, List.drop_nil, List.take_succ_cons, List.take_zero, List.take_nil, List.getElem?_cons_zero, List.getElem?_cons_succ, List.all_cons, List.all_nil, List.replicate_succ, List.replicate_zero, List.set_cons_zero, List.set_cons_succ, eq_self, true_or, ne_eq, not_false_eq_true, Nat.reduceEqDiff, List.length_map]
    refine vforD (σ := Nat) [1, 2, 3, 29, 30, 31] (fun i => [(1, true, .ref (encD (.mk k n nm s l kids))), (2, true, .ptr st.length 0), (3, true, .ptr (st.length + 1) 0), (29, true, lstD kids), (30, true, .int .i64 kids.length), (31, true, .int .i64 i)]) (fun i => st ++ [.box [.int .i64 0, .int .i64 0, .str [], .int .i64 0, .int .i64 0, .nils], .box [.int .i64 k, .int .i64 n, .str [], .int .i64 0, .int .i64 0, .nils]]) (fun i => kids.length - i) (fun i => i ≤ kids.length) 0 rfl TT_ok (Nat.zero_le _) (by rw [encD_mk]; exact wkE_refl _) rfl ?_
    intro i hi
    simp only [encD_mk, lstD]
    rcases at_or_end kids i hi with ⟨rfl, hd⟩ | ⟨a, hlt, hget, hdr⟩
    · simp only [decide_true, decide_false, gwL, gwB, gwD, gwE, gwS, gwTT, gwZ, initG, Nat.reduceEqDiff, ↓reduceIte, Nat.reduceAdd, Nat.reduceLT, Nat.reduceLeDiff, List.map_cons, List.map_nil, builtS, builtinV, pureR, binV, sliceV, pickV, evO, Env.look, find, V.ofConst, resV, resOne, tupV, loadV, fillV, buildV, mkIface, litM, litS, litR, litRows, List.reverse_cons, List.reverse_nil, Nat.reduceMul, appS, memA, appendV, rowsOf, V.cells, TI.sized, TI.known, TI.agg, anL, List.length_cons, List.length_nil, List.append_nil, List.cons_append, List.nil_append, List.drop_succ_cons, List.drop_zero, List.drop_nil, List.take_succ_cons, List.take_zero, List.take_nil, List.getElem?_cons_zero, List.getElem?_cons_succ, List.all_cons, List.all_nil, List.replicate_succ, List.replicate_zero, List.set_cons_zero, List.set_cons_succ, eq_self, true_or, ne_eq, not_false_eq_true, Nat.reduceEqDiff, lt_no, hd, encD_mk]
      refine gives_of (wk_agg ?_) (wkSt_refl _) (by simp only [V.lt]; exact encD_lt _ (.mk k n [] 0 0 [])) hst
      exact wkL_cons (wk_refl _) (wkL_cons (wk_refl _) (wkL_cons (wk_refl _) (wkL_cons (wk_refl _) (wkL_cons (wk_refl _) (wkL_cons (wk_nils _) wkL_nil)))))
    · simp only [decide_true, decide_false, gwL, gwB, gwD, gwE, gwS, gwTT, gwZ, initG, Nat.reduceEqDiff, ↓reduceIte, Nat.reduceAdd, Nat.reduceLT, Nat.reduceLeDiff, List.map_cons, List.map_nil, builtS, builtinV, pureR, binV, sliceV, pickV, evO, Env.look, find, V.ofConst, resV, resOne, tupV, loadV, fillV, buildV, mkIface, litM, litS, litR, litRows, List.reverse_cons, List.reverse_nil, Nat.reduceMul, appS, memA, appendV, rowsOf, V.cells, TI.sized, TI.known, TI.agg, anL, List.length_cons, List.length_nil, List.append_nil, List.cons_append, List.nil_append, List.drop_succ_cons, List.drop_zero, List.drop_nil, List.take_succ_cons, List.take_zero, List.take_nil, List.getElem?_cons_zero, List.getElem?_cons_succ, List.all_cons, List.all_nil, List.replicate_succ, List.replicate_zero, List.set_cons_zero, List.set_cons_succ, eq_self, true_or, ne_eq, not_false_eq_true, Nat.reduceEqDiff, lt_yes hlt, hdr, List.length_map, getD_map hget, encD_take, encD_len, encD_drop, Int.ofNat_lt.mpr hlt, Nat.le_refl, h4]
      refine ⟨i + 1, ⟨?_, st ++ [.box [.int .i64 0, .int .i64 0, .str [], .int .i64 0, .int .i64 0, .nils], .box [.int .i64 k, .int .i64 n, .str [], .int .i64 0, .int .i64 0, .nils]], [.box (encD a)], by simp only [gwL], wkSt_refl _, ?_, ?_, by simp⟩, by omega, hlt⟩
      · simp only [decide_true, decide_false, gwL, gwB, gwD, gwE, gwS, gwTT, gwZ, initG, Nat.reduceEqDiff, ↓reduceIte, Nat.reduceAdd, Nat.reduceLT, Nat.reduceLeDiff, List.map_cons, List.map_nil, builtS, builtinV, pureR, binV, sliceV, pickV, evO, Env.look, find, V.ofConst, resV, resOne, tupV, loadV, fillV, buildV, mkIface, litM, litS, litR, litRows, List.reverse_cons, List.reverse_nil, Nat.reduceMul, appS, memA, appendV, rowsOf, V.cells, TI.sized, TI.known, TI.agg, anL, List.length_cons, List.length_nil, List.append_nil, List.cons_append, List.nil_append, List.drop_succ_cons, List.drop_zero, List.drop_nil, List.take_succ_cons, List.take_zero, List.take_nil, List.getElem?_cons_zero, List.getElem?_cons_succ, List.all_cons, List.all_nil, List.replicate_succ, List.replicate_zero, List.set_cons_zero, List.set_cons_succ, eq_self, true_or, ne_eq, not_false_eq_true, Nat.reduceEqDiff, Env.keep, next_i64 hlt hkl]
        exact wkE_refl _
      · simp only [ltE, V.lt, gwL]
        exact ⟨by have := encD_lt (st.length + 2) (.mk k n nm s l kids); rw [encD_mk] at this; exact this, by omega, by omega, lstD_lt _ _, trivial, trivial, trivial⟩
      · exact ok_app hst (by simp [ltEs, Ent.lt, ltL, V.lt])
  rw [h]
  simp only [decide_true, decide_false, gwL, gwB, gwD, gwE, gwS, gwTT, gwZ, initG, Nat.reduceEqDiff, ↓reduceIte, Nat.reduceAdd, Nat.reduceLT, Nat.reduceLeDiff, List.map_cons, List.map_nil, builtS, builtinV, pureR, binV, sliceV, pickV, evO, Env.look, find, V.ofConst, resV, resOne, tupV, loadV, fillV, buildV, mkIface, litM, litS, litR, litRows, List.reverse_cons, List.reverse_nil, Nat.reduceMul, appS, memA, appendV, rowsOf, V.cells, TI.sized, TI.known, TI.agg, anL, List.length_cons, List.length_nil, List.append_nil, List.cons_append, List.nil_append, List.drop_succ_cons, List.drop_zero, List.drop_nil, List.take_succ_cons, List.take_zero, List.take_nil, List.getElem?_cons_zero, List.getElem?_cons_succ, List.all_cons, List.all_nil, List.replicate_succ, List.replicate_zero, List.set_cons_zero, List.set_cons_succ, eq_self, true_or, ne_eq, not_false_eq_true, Nat.reduceEqDiff]
  refine iK_split (fun h2 => ?_) (fun h2 => ?_)
  · rw [h2]
    have h4 : decide (k = 4) = false := by simp at h2 ⊢; omega
    simp only [decide_true, decide_false, gwL, gwB, gwD, gwE, gwS, gwTT, gwZ, initG, Nat.reduceEqDiff, ↓reduceIte, Nat.reduceAdd, Nat.reduceLT, Nat.reduceLeDiff, List.map_cons, List.map_nil, builtS, builtinV, pureR, binV, sliceV, pickV, evO, Env.look, find, V.ofConst, resV, resOne, tupV, loadV, fillV, buildV, mkIface, litM, litS, litR, litRows, List.reverse_cons, List.reverse_nil, Nat.reduceMul, appS, memA, appendV, rowsOf, V.cells, TI.sized, TI.known, TI.agg, anL, List.length_cons, List.length_nil, List.append_nil, List.cons_append, List.nil_append, List.drop_succ_cons, List.drop_zero, List.drop_nil, List.take_succ_cons, List.take_zero, List.take_nil, List.getElem?_cons_zero, List.getElem?_cons_succ, List.all_cons, List.all_nil, List.replicate_succ, List.replicate_zero, List.set_cons_zero, List.set_cons_succ, eq_self, true_or, ne_eq, not_false_eq_true, Nat.reduceEqDiff, List.length_map]
    refine vforD (σ := Nat) [1, 2, 3, 29, 30, 31] (fun i => [(1, true, .ref (encD (.mk k n nm s l kids))), (2, true, .ptr st.length 0), (3, true, .ptr (st.length + 1) 0), (29, true, lstD kids), (30, true, .int .i64 kids.length), (31, true, .int .i64 i)]) (fun i => st ++ [.box [.int .i64 0, .int .i64 0, .str [], .int .i64 0, .int .i64 0, .nils], .box [.int .i64 k, .int .i64 n, .str [], .int .i64 0, .int .i64 0, .nils]]) (fun i => kids.length - i) (fun i => i ≤ kids.length) 0 rfl TT_ok (Nat.zero_le _) (by rw [encD_mk]; exact wkE_refl _) rfl ?_
    intro i hi
    simp only [encD_mk, lstD]
    rcases at_or_end kids i hi with ⟨rfl, hd⟩ | ⟨a, hlt, hget, hdr⟩
    · simp only [decide_true, decide_false, gwL, gwB, gwD, gwE, gwS, gwTT, gwZ, initG, Nat.reduceEqDiff, ↓reduceIte, Nat.reduceAdd, Nat.reduceLT, Nat.reduceLeDiff, List.map_cons, List.map_nil, builtS, builtinV, pureR, binV, sliceV, pickV, evO, Env.look, find, V.ofConst, resV, resOne, tupV, loadV, fillV, buildV, mkIface, litM, litS, litR, litRows, List.reverse_cons, List.reverse_nil, Nat.reduceMul, appS, memA, appendV, rowsOf, V.cells, TI.sized, TI.known, TI.agg, anL, List.length_cons, List.length_nil, List.append_nil, List.cons_append, List.nil_append, List.drop_succ_cons, List.drop_zero, List.drop_nil, List.take_succ_cons, List.take_zero, List.take_nil, List.getElem?_cons_zero, List.getElem?_cons_succ, List.all_cons, List.all_nil, List.replicate_succ, List.replicate_zero, List.set_cons_zero, List.set_cons_succ, eq_self, true_or, ne_eq, not_false_eq_true, Nat.reduceEqDiff, lt_no, hd, encD_mk]
      refine gives_of (wk_agg ?_) (wkSt_refl _) (by simp only [V.lt]; exact encD_lt _ (.mk k n [] 0 0 [])) hst
      exact wkL_cons (wk_refl _) (wkL_cons (wk_refl _) (wkL_cons (wk_refl _) (wkL_cons (wk_refl _) (wkL_cons (wk_refl _) (wkL_cons (wk_nils _) wkL_nil)))))
    · simp only [decide_true, decide_false, gwL, gwB, gwD, gwE, gwS, gwTT, gwZ, initG, Nat.reduceEqDiff, ↓reduceIte, Nat.reduceAdd, Nat.reduceLT, Nat.reduceLeDiff, List.map_cons, List.map_nil, builtS, builtinV, pureR, binV, sliceV, pickV, evO, Env.look, find, V.ofConst, resV, resOne, tupV, loadV, fillV, buildV, mkIface, litM, litS, litR, litRows, List.reverse_cons, List.reverse_nil, Nat.reduceMul, appS, memA, appendV, rowsOf, V.cells, TI.sized, TI.known, TI.agg, anL, List.length_cons, List.length_nil, List.append_nil, List.cons_append, List.nil_append, List.drop_succ_cons, List.drop_zero, List.drop_nil, List.take_succ_cons, List.take_zero, List.take_nil, List.getElem?_cons_zero, List.getElem?_cons_succ, List.all_cons, List.all_nil, List.replicate_succ, List.replicate_zero, List.set_cons_zero, List.set_cons_succ, eq_self, true_or, ne_eq, not_false_eq_true, Nat.reduceEqDiff, lt_yes hlt, hdr, List.length_map, getD_map hget, encD_take, encD_len, encD_drop, Int.ofNat_lt.mpr hlt, Nat.le_refl, h4]
      refine ⟨i + 1, ⟨?_, st ++ [.box [.int .i64 0, .int .i64 0, .str [], .int .i64 0, .int .i64 0, .nils], .box [.int .i64 k, .int .i64 n, .str [], .int .i64 0, .int .i64 0, .nils]], [.box (encD a)], by simp only [gwL], wkSt_refl _, ?_, ?_, by simp⟩, by omega, hlt⟩
      · simp only [decide_true, decide_false, gwL, gwB, gwD, gwE, gwS, gwTT, gwZ, initG, Nat.reduceEqDiff, ↓reduceIte, Nat.reduceAdd, Nat.reduceLT, Nat.reduceLeDiff, List.map_cons, List.map_nil, builtS, builtinV, pureR, binV, sliceV, pickV, evO, Env.look, find, V.ofConst, resV, resOne, tupV, loadV, fillV, buildV, mkIface, litM, litS, litR, litRows, List.reverse_cons, List.reverse_nil, Nat.reduceMul, appS, memA, appendV, rowsOf, V.cells, TI.sized, TI.known, TI.agg, anL, List.length_cons, List.length_nil, List.append_nil, List.cons_append, List.nil_append, List.drop_succ_cons, List.drop_zero, List.drop_nil, List.take_succ_cons, List.take_zero, List.take_nil, List.getElem?_cons_zero, List.getElem?_cons_succ, List.all_cons, List.all_nil, List.replicate_succ, List.replicate_zero, List.set_cons_zero, List.set_cons_succ, eq_self, true_or, ne_eq, not_false_eq_true, Nat.reduceEqDiff, Env.keep, next_i64 hlt hkl]
        exact wkE_refl _
      · simp only [ltE, V.lt, gwL]
        exact ⟨by have := encD_lt (st.length + 2) (.mk k n nm s l kids); rw [encD_mk] at this; exact this, by omega, by omega, lstD_lt _ _, trivial, trivial, trivial⟩
      · exact ok_app hst (by simp [ltEs, Ent.lt, ltL, V.lt])
  rw [h2]
  simp only [decide_true, decide_false, gwL, gwB, gwD, gwE, gwS, gwTT, gwZ, initG, Nat.reduceEqDiff, ↓reduceIte, Nat.reduceAdd, Nat.reduceLT, Nat.reduceLeDiff, List.map_cons, List.map_nil, builtS, builtinV, pureR, binV, sliceV, pickV, evO, Env.look, find, V.ofConst, resV, resOne, tupV, loadV, fillV, buildV, mkIface, litM, litS, litR, litRows, List.reverse_cons, List.reverse_nil, Nat.reduceMul, appS, memA, appendV, rowsOf, V.cells, TI.sized, TI.known, TI.agg, anL, List.length_cons, List.length_nil, List.append_nil, List.cons_append, List.nil_append, List.drop_succ_cons, List.drop_zero, List.drop_nil, List.take_succ_cons, List.take_zero, List.take_nil, List.getElem?_cons_zero, List.getElem?_cons_succ, List.all_cons, List.all_nil, List.replicate_succ, List.replicate_zero, List.set_cons_zero, List.set_cons_succ, eq_self, true_or, ne_eq, not_false_eq_true, Nat.reduceEqDiff]
  refine iK_split (fun h3 => ?_) (fun h3 => ?_)
  · rw [h3]
    have h4 : decide (k = 4) = false := by simp at h3 ⊢; omega
    simp only [decide_true, decide_false, gwL, gwB, gwD, gwE, gwS, gwTT, gwZ, initG, Nat.reduceEqDiff, ↓reduceIte, Nat.reduceAdd, Nat.reduceLT, Nat.reduceLeDiff, List.map_cons, List.map_nil, builtS, builtinV, pureR, binV, sliceV, pickV, evO, Env.look, find, V.ofConst, resV, resOne, tupV, loadV, fillV, buildV, mkIface, litM, litS, litR, litRows, List.reverse_cons, List.reverse_nil, Nat.reduceMul, appS, memA, appendV, rowsOf, V.cells, TI.sized, TI.known, TI.agg, anL, List.length_cons, List.length_nil, List.append_nil, List.cons_append, List.nil_append, List.drop_succ_cons, List.drop_zero, List.drop_nil, List.take_succ_cons, List.take_zero, List.take_nil, List.getElem?_cons_zero, List.getElem?_cons_succ, List.all_cons, List.all_nil, List.replicate_succ, List.replicate_zero, List.set_cons_zero, List.set_cons_succ, eq_self, true_or, ne_eq, not_false_eq_true, Nat.reduceEqDiff]
    refine vdraw TT_ok TT_mixed [0, 0, 0, 0, 0, 0, 0, 2, 0, 2, 0, 2] (by kernel_rfl) ?_
    simp only [decide_true, decide_false, gwL, gwB, gwD, gwE, gwS, gwTT, gwZ, initG, Nat.reduceEqDiff, ↓reduceIte, Nat.reduceAdd, Nat.reduceLT, Nat.reduceLeDiff, List.map_cons, List.map_nil, builtS, builtinV, pureR, binV, sliceV, pickV, evO, Env.look, find, V.ofConst, resV, resOne, tupV, loadV, fillV, buildV, mkIface, litM, litS, litR, litRows, List.reverse_cons, List.reverse_nil, Nat.reduceMul, appS, memA, appendV, rowsOf, V.cells, TI.sized, TI.known, TI.agg, anL, List.length_cons, List.length_nil, List.append_nil, List.cons_append, List.nil_append, List.drop_succ_cons, List.drop_zero, List.drop_nil, List.take_succ_cons, List.take_zero, List.take_nil, List.getElem?_cons_zero, List.getElem?_cons_succ, List.all_cons, List.all_nil, List.replicate_succ, List.replicate_zero, List.set_cons_zero, List.set_cons_succ, eq_self, true_or, ne_eq, not_false_eq_true, Nat.reduceEqDiff, List.length_map]
    refine vforD (σ := Nat) [1, 2, 3, 29, 30, 31] (fun i => [(1, true, .ref (encD (.mk k n nm s l kids))), (2, true, .ptr st.length 0), (3, true, .ptr (st.length + 1) 0), (29, true, lstD kids), (30, true, .int .i64 kids.length), (31, true, .int .i64 i)]) (fun i => st ++ [.box [.int .i64 0, .int .i64 0, .str [], .int .i64 0, .int .i64 0, .nils], .box [.int .i64 k, .int .i64 0, .str nm, .int .i64 s, .int .i64 l, .nils]]) (fun i => kids.length - i) (fun i => i ≤ kids.length) 0 rfl TT_ok (Nat.zero_le _) (by rw [encD_mk]; exact wkE_refl _) rfl ?_
    intro i hi
    simp only [encD_mk, lstD]
    rcases at_or_end kids i hi with ⟨rfl, hd⟩ | ⟨a, hlt, hget, hdr⟩
    · simp only [decide_true, decide_false, gwL, gwB, gwD, gwE, gwS, gwTT, gwZ, initG, Nat.reduceEqDiff, ↓reduceIte, Nat.reduceAdd, Nat.reduceLT, Nat.reduceLeDiff, List.map_cons, List.map_nil, builtS, builtinV, pureR, binV, sliceV, pickV, evO, Env.look, find, V.ofConst, resV, resOne, tupV, loadV, fillV, buildV, mkIface, litM, litS, litR, litRows, List.reverse_cons, List.reverse_nil, Nat.reduceMul, appS, memA, appendV, rowsOf, V.cells, TI.sized, TI.known, TI.agg, anL, List.length_cons, List.length_nil, List.append_nil, List.cons_append, List.nil_append, List.drop_succ_cons, List.drop_zero, List.drop_nil, List.take_succ_cons, List.take_zero, List.take_nil, List.getElem?_cons_zero, List.getElem?_cons_succ, List.all_cons, List.all_nil, List.replicate_succ, List.replicate_zero, List.set_cons_zero, List.set_cons_succ, eq_self, true_or, ne_eq, not_false_eq_true, Nat.reduceEqDiff, lt_no, hd, encD_mk]
      refine gives_of (wk_agg ?_) (wkSt_refl _) (by simp only [V.lt]; exact encD_lt _ (.mk k 0 nm s l [])) hst
      exact wkL_cons (wk_refl _) (wkL_cons (wk_refl _) (wkL_cons (wk_refl _) (wkL_cons (wk_refl _) (wkL_cons (wk_refl _) (wkL_cons (wk_nils _) wkL_nil)))))
    · simp only [decide_true, decide_false, gwL, gwB, gwD, gwE, gwS, gwTT, gwZ, initG, Nat.reduceEqDiff, ↓reduceIte, Nat.reduceAdd, Nat.reduceLT, Nat.reduceLeDiff, List.map_cons, List.map_nil, builtS, builtinV, pureR, binV, sliceV, pickV, evO, Env.look, find, V.ofConst, resV, resOne, tupV, loadV, fillV, buildV, mkIface, litM, litS, litR, litRows, List.reverse_cons, List.reverse_nil, Nat.reduceMul, appS, memA, appendV, rowsOf, V.cells, TI.sized, TI.known, TI.agg, anL, List.length_cons, List.length_nil, List.append_nil, List.cons_append, List.nil_append, List.drop_succ_cons, List.drop_zero, List.drop_nil, List.take_succ_cons, List.take_zero, List.take_nil, List.getElem?_cons_zero, List.getElem?_cons_succ, List.all_cons, List.all_nil, List.replicate_succ, List.replicate_zero, List.set_cons_zero, List.set_cons_succ, eq_self, true_or, ne_eq, not_false_eq_true, Nat.reduceEqDiff, lt_yes hlt, hdr, List.length_map, getD_map hget, encD_take, encD_len, encD_drop, Int.ofNat_lt.mpr hlt, Nat.le_refl, h4]
      refine ⟨i + 1, ⟨?_, st ++ [.box [.int .i64 0, .int .i64 0, .str [], .int .i64 0, .int .i64 0, .nils], .box [.int .i64 k, .int .i64 0, .str nm, .int .i64 s, .int .i64 l, .nils]], [.box (encD a)], by simp only [gwL], wkSt_refl _, ?_, ?_, by simp⟩, by omega, hlt⟩
      · simp only [decide_true, decide_false, gwL, gwB, gwD, gwE, gwS, gwTT, gwZ, initG, Nat.reduceEqDiff, ↓reduceIte, Nat.reduceAdd, Nat.reduceLT, Nat.reduceLeDiff, List.map_cons, List.map_nil, builtS, builtinV, pureR, binV, sliceV, pickV, evO, Env.look, find, V.ofConst, resV, resOne, tupV, loadV, fillV, buildV, mkIface, litM, litS, litR, litRows, List.reverse_cons, List.reverse_nil, Nat.reduceMul, appS, memA, appendV, rowsOf, V.cells, TI.sized, TI.known, TI.agg, anL, List.length_cons, List.length_nil, List.append_nil, List.cons_append, List.nil_append, List.drop_succ_cons, List.drop_zero, List.drop_nil, List.take_succ_cons, List.take_zero, List.take_nil, List.getElem?_cons_zero, List.getElem?_cons_succ, List.all_cons, List.all_nil, List.replicate_succ, List.replicate_zero, List.set_cons_zero, List.set_cons_succ, eq_self, true_or, ne_eq, not_false_eq_true, Nat.reduceEqDiff, Env.keep, next_i64 hlt hkl]
        exact wkE_refl _
      · simp only [ltE, V.lt, gwL]
        exact ⟨by have := encD_lt (st.length + 2) (.mk k n nm s l kids); rw [encD_mk] at this; exact this, by omega, by omega, lstD_lt _ _, trivial, trivial, trivial⟩
      · exact ok_app hst (by simp [ltEs, Ent.lt, ltL, V.lt])
  rw [h3]
  simp only [decide_true, decide_false, gwL, gwB, gwD, gwE, gwS, gwTT, gwZ, initG, Nat.reduceEqDiff, ↓reduceIte, Nat.reduceAdd, Nat.reduceLT, Nat.reduceLeDiff, List.map_cons, List.map_nil, builtS, builtinV, pureR, binV, sliceV, pickV, evO, Env.look, find, V.ofConst, resV, resOne, tupV, loadV, fillV, buildV, mkIface, litM, litS, litR, litRows, List.reverse_cons, List.reverse_nil, Nat.reduceMul, appS, memA, appendV, rowsOf, V.cells, TI.sized, TI.known, TI.agg, anL, List.length_cons, List.length_nil, List.append_nil, List.cons_append, List.nil_append, List.drop_succ_cons, List.drop_zero, List.drop_nil, List.take_succ_cons, List.take_zero, List.take_nil, List.getElem?_cons_zero, List.getElem?_cons_succ, List.all_cons, List.all_nil, List.replicate_succ, List.replicate_zero, List.set_cons_zero, List.set_cons_succ, eq_self, true_or, ne_eq, not_false_eq_true, Nat.reduceEqDiff, List.length_map]
  by_cases h4 : k = 4
  · have h4' : decide (k = 4) = true := decide_eq_true h4
    rw [h4']
    obtain ⟨hs1, hs2⟩ := hsm h4
    refine vforT (σ := Nat) [38] [1, 2, 3, 29, 30, 31] (fun i => [(1, true, .ref (encD (.mk k n nm s l kids))), (2, true, .ptr st.length 0), (3, true, .ptr (st.length + 1) 0), (29, true, lstD kids), (30, true, .int .i64 kids.length), (31, true, .int .i64 i)]) (fun i => st ++ [.box [.int .i64 0, .int .i64 0, .str [], .int .i64 0, .int .i64 0, .nils], .box [.int .i64 k, .int .i64 0, .str [], .int .i64 0, .int .i64 0, .lst 6 (some (st.length + 2)) ((kids.take i).map fun d => encD (bareR d))], .tip 38 i]) (fun i => kids.length - i) (fun i => i ≤ kids.length) 0 rfl TT_ok (Nat.zero_le _) ?_ ?_ ?_
    · rw [encD_mk]; exact wkE_refl _
    · refine ⟨st ++ [.box [.int .i64 0, .int .i64 0, .str [], .int .i64 0, .int .i64 0, .nils], .box [.int .i64 k, .int .i64 0, .str [], .int .i64 0, .int .i64 0, .lst 6 (some (st.length + 2)) []]], ?_, by simp only [gwL, tips, List.map_cons, List.map_nil, List.take_zero]⟩
      refine (wkSt_refl _).append (wkSt_cons (Ent.wkp_refl _) (wkSt_cons (Ent.wk_box ?_) wkSt_nil))
      exact wkL_cons (wk_refl _) (wkL_cons (wk_refl _) (wkL_cons (wk_refl _) (wkL_cons (wk_refl _) (wkL_cons (wk_refl _) (wkL_cons (wk_tip _ (by simp [Tips])) wkL_nil)))))
    intro i hi
    simp only [encD_mk, lstD]
    rcases at_or_end kids i hi with ⟨rfl, hd⟩ | ⟨a, hlt, hget, hdr⟩
    · simp only [decide_true, decide_false, gwL, gwB, gwD, gwE, gwS, gwTT, gwZ, initG, Nat.reduceEqDiff, ↓reduceIte, Nat.reduceAdd, Nat.reduceLT, Nat.reduceLeDiff, List.map_cons, List.map_nil, builtS, builtinV, pureR, binV, sliceV, pickV, evO, Env.look, find, V.ofConst, resV, resOne, tupV, loadV, fillV, buildV, mkIface, litM, litS, litR, litRows, List.reverse_cons, List.reverse_nil, Nat.reduceMul, appS, memA, appendV, rowsOf, V.cells, TI.sized, TI.known, TI.agg, anL, List.length_cons, List.length_nil, List.append_nil, List.cons_append, List.nil_append, List.drop_succ_cons, List.drop_zero, List.drop_nil, List.take_succ_cons, List.take_zero, List.take_nil, List.getElem?_cons_zero, List.getElem?_cons_succ, List.all_cons, List.all_nil, List.replicate_succ, List.replicate_zero, List.set_cons_zero, List.set_cons_succ, eq_self, true_or, ne_eq, not_false_eq_true, Nat.reduceEqDiff, lt_no, hd, List.take_length, encD_mk]
      have hm : (kids.map bareR).map encD = kids.map (fun d => encD (bareR d)) := by rw [List.map_map]; rfl
      rw [hm]
      refine gives_of (wk_agg ?_) (wkSt_refl _) ?_ hst
      · exact wkL_cons (wk_refl _) (wkL_cons (wk_refl _) (wkL_cons (wk_refl _) (wkL_cons (wk_refl _) (wkL_cons (wk_refl _) (wkL_cons (wk_tok _ _ _) wkL_nil)))))
      · rw [← hm]
        have := encD_lt st.length (.mk k 0 [] 0 0 (kids.map bareR))
        simp only [encD_mk] at this
        simp only [V.lt]; exact this
    · simp only [decide_true, decide_false, gwL, gwB, gwD, gwE, gwS, gwTT, gwZ, initG, Nat.reduceEqDiff, ↓reduceIte, Nat.reduceAdd, Nat.reduceLT, Nat.reduceLeDiff, List.map_cons, List.map_nil, builtS, builtinV, pureR, binV, sliceV, pickV, evO, Env.look, find, V.ofConst, resV, resOne, tupV, loadV, fillV, buildV, mkIface, litM, litS, litR, litRows, List.reverse_cons, List.reverse_nil, Nat.reduceMul, appS, memA, appendV, rowsOf, V.cells, TI.sized, TI.known, TI.agg, anL, List.length_cons, List.length_nil, List.append_nil, List.cons_append, List.nil_append, List.drop_succ_cons, List.drop_zero, List.drop_nil, List.take_succ_cons, List.take_zero, List.take_nil, List.getElem?_cons_zero, List.getElem?_cons_succ, List.all_cons, List.all_nil, List.replicate_succ, List.replicate_zero, List.set_cons_zero, List.set_cons_succ, eq_self, true_or, ne_eq, not_false_eq_true, Nat.reduceEqDiff, lt_yes hlt, hdr, List.length_map, getD_map hget, encD_take, encD_len, encD_drop, Int.ofNat_lt.mpr hlt, Nat.le_refl, h4']
      refine vdraw TT_ok TT_mixed [0, 1, 1, 0, 1, 2, 0, 2] (by kernel_rfl) ?_
      simp only [decide_true, decide_false, gwL, gwB, gwD, gwE, gwS, gwTT, gwZ, initG, Nat.reduceEqDiff, ↓reduceIte, Nat.reduceAdd, Nat.reduceLT, Nat.reduceLeDiff, List.map_cons, List.map_nil, builtS, builtinV, pureR, binV, sliceV, pickV, evO, Env.look, find, V.ofConst, resV, resOne, tupV, loadV, fillV, buildV, mkIface, litM, litS, litR, litRows, List.reverse_cons, List.reverse_nil, Nat.reduceMul, appS, memA, appendV, rowsOf, V.cells, TI.sized, TI.known, TI.agg, anL, List.length_cons, List.length_nil, List.append_nil, List.cons_append, List.nil_append, List.drop_succ_cons, List.drop_zero, List.drop_nil, List.take_succ_cons, List.take_zero, List.take_nil, List.getElem?_cons_zero, List.getElem?_cons_succ, List.all_cons, List.all_nil, List.replicate_succ, List.replicate_zero, List.set_cons_zero, List.set_cons_succ, eq_self, true_or, ne_eq, not_false_eq_true, Nat.reduceEqDiff, encD_take, encD_len, encD_drop, Nat.le_refl]
      refine eK_free (ih a (List.mem_of_getElem? hget) (smallDs_mem hs2 (List.mem_of_getElem? hget))) (wkL_refl _) ?_
      simp only [decide_true, decide_false, gwL, gwB, gwD, gwE, gwS, gwTT, gwZ, initG, Nat.reduceEqDiff, ↓reduceIte, Nat.reduceAdd, Nat.reduceLT, Nat.reduceLeDiff, List.map_cons, List.map_nil, builtS, builtinV, pureR, binV, sliceV, pickV, evO, Env.look, find, V.ofConst, resV, resOne, tupV, loadV, fillV, buildV, mkIface, litM, litS, litR, litRows, List.reverse_cons, List.reverse_nil, Nat.reduceMul, appS, memA, appendV, rowsOf, V.cells, TI.sized, TI.known, TI.agg, anL, List.length_cons, List.length_nil, List.append_nil, List.cons_append, List.nil_append, List.drop_succ_cons, List.drop_zero, List.drop_nil, List.take_succ_cons, List.take_zero, List.take_nil, List.getElem?_cons_zero, List.getElem?_cons_succ, List.all_cons, List.all_nil, List.replicate_succ, List.replicate_zero, List.set_cons_zero, List.set_cons_succ, eq_self, true_or, ne_eq, not_false_eq_true, Nat.reduceEqDiff, encD_take, encD_len, encD_drop, Nat.le_refl, List.length_map, List.length_take, Nat.min_eq_left hi]
      refine ⟨by omega, ?_⟩
      refine ⟨i + 1, ⟨?_, st ++ [.box [.int .i64 0, .int .i64 0, .str [], .int .i64 0, .int .i64 0, .nils], .box [.int .i64 k, .int .i64 0, .str [], .int .i64 0, .int .i64 0, .lst 6 (some (st.length + 2)) ((kids.take (i + 1)).map fun d => encD (bareR d))], .tip 38 (i + 1)], [.box (encD a)], ?_, wkSt_refl _, ?_, ?_, by simp⟩, by omega, hlt⟩
      · simp only [decide_true, decide_false, gwL, gwB, gwD, gwE, gwS, gwTT, gwZ, initG, Nat.reduceEqDiff, ↓reduceIte, Nat.reduceAdd, Nat.reduceLT, Nat.reduceLeDiff, List.map_cons, List.map_nil, builtS, builtinV, pureR, binV, sliceV, pickV, evO, Env.look, find, V.ofConst, resV, resOne, tupV, loadV, fillV, buildV, mkIface, litM, litS, litR, litRows, List.reverse_cons, List.reverse_nil, Nat.reduceMul, appS, memA, appendV, rowsOf, V.cells, TI.sized, TI.known, TI.agg, anL, List.length_cons, List.length_nil, List.append_nil, List.cons_append, List.nil_append, List.drop_succ_cons, List.drop_zero, List.drop_nil, List.take_succ_cons, List.take_zero, List.take_nil, List.getElem?_cons_zero, List.getElem?_cons_succ, List.all_cons, List.all_nil, List.replicate_succ, List.replicate_zero, List.set_cons_zero, List.set_cons_succ, eq_self, true_or, ne_eq, not_false_eq_true, Nat.reduceEqDiff, Env.keep, next_i64 hlt hkl]
        exact wkE_refl _
      · rw [take_next hget, List.map_append]
        simp only [gwL, List.map_cons, List.map_nil, show min i kids.length = i by omega]
      · simp only [ltE, V.lt, gwL]
        exact ⟨by have := encD_lt (st.length + 3) (.mk k n nm s l kids); rw [encD_mk] at this; exact this, by omega, by omega, lstD_lt _ _, trivial, trivial, trivial⟩
      · refine ok_app hst ⟨by simp [Ent.lt, ltL, V.lt], ⟨?_, trivial, trivial⟩⟩
        simp only [Ent.lt, ltL, V.lt, true_and, and_true]
        exact ⟨fun e he => by cases he; simp, ltRows_map fun d _ => encD_lt _ _⟩
  · have h4 : decide (k = 4) = false := decide_eq_false h4
    rw [h4]
    refine vforD (σ := Nat) [1, 2, 3, 29, 30, 31] (fun i => [(1, true, .ref (encD (.mk k n nm s l kids))), (2, true, .ptr st.length 0), (3, true, .ptr (st.length + 1) 0), (29, true, lstD kids), (30, true, .int .i64 kids.length), (31, true, .int .i64 i)]) (fun i => st ++ [.box [.int .i64 0, .int .i64 0, .str [], .int .i64 0, .int .i64 0, .nils], .box [.int .i64 k, .int .i64 0, .str [], .int .i64 0, .int .i64 0, .nils]]) (fun i => kids.length - i) (fun i => i ≤ kids.length) 0 rfl TT_ok (Nat.zero_le _) (by rw [encD_mk]; exact wkE_refl _) rfl ?_
    intro i hi
    simp only [encD_mk, lstD]
    rcases at_or_end kids i hi with ⟨rfl, hd⟩ | ⟨a, hlt, hget, hdr⟩
    · simp only [decide_true, decide_false, gwL, gwB, gwD, gwE, gwS, gwTT, gwZ, initG, Nat.reduceEqDiff, ↓reduceIte, Nat.reduceAdd, Nat.reduceLT, Nat.reduceLeDiff, List.map_cons, List.map_nil, builtS, builtinV, pureR, binV, sliceV, pickV, evO, Env.look, find, V.ofConst, resV, resOne, tupV, loadV, fillV, buildV, mkIface, litM, litS, litR, litRows, List.reverse_cons, List.reverse_nil, Nat.reduceMul, appS, memA, appendV, rowsOf, V.cells, TI.sized, TI.known, TI.agg, anL, List.length_cons, List.length_nil, List.append_nil, List.cons_append, List.nil_append, List.drop_succ_cons, List.drop_zero, List.drop_nil, List.take_succ_cons, List.take_zero, List.take_nil, List.getElem?_cons_zero, List.getElem?_cons_succ, List.all_cons, List.all_nil, List.replicate_succ, List.replicate_zero, List.set_cons_zero, List.set_cons_succ, eq_self, true_or, ne_eq, not_false_eq_true, Nat.reduceEqDiff, lt_no, hd, encD_mk]
      refine gives_of (wk_agg ?_) (wkSt_refl _) (by simp only [V.lt]; exact encD_lt _ (.mk k 0 [] 0 0 [])) hst
      exact wkL_cons (wk_refl _) (wkL_cons (wk_refl _) (wkL_cons (wk_refl _) (wkL_cons (wk_refl _) (wkL_cons (wk_refl _) (wkL_cons (wk_nils _) wkL_nil)))))
    · simp only [decide_true, decide_false, gwL, gwB, gwD, gwE, gwS, gwTT, gwZ, initG, Nat.reduceEqDiff, ↓reduceIte, Nat.reduceAdd, Nat.reduceLT, Nat.reduceLeDiff, List.map_cons, List.map_nil, builtS, builtinV, pureR, binV, sliceV, pickV, evO, Env.look, find, V.ofConst, resV, resOne, tupV, loadV, fillV, buildV, mkIface, litM, litS, litR, litRows, List.reverse_cons, List.reverse_nil, Nat.reduceMul, appS, memA, appendV, rowsOf, V.cells, TI.sized, TI.known, TI.agg, anL, List.length_cons, List.length_nil, List.append_nil, List.cons_append, List.nil_append, List.drop_succ_cons, List.drop_zero, List.drop_nil, List.take_succ_cons, List.take_zero, List.take_nil, List.getElem?_cons_zero, List.getElem?_cons_succ, List.all_cons, List.all_nil, List.replicate_succ, List.replicate_zero, List.set_cons_zero, List.set_cons_succ, eq_self, true_or, ne_eq, not_false_eq_true, Nat.reduceEqDiff, lt_yes hlt, hdr, List.length_map, getD_map hget, encD_take, encD_len, encD_drop, Int.ofNat_lt.mpr hlt, Nat.le_refl, h4]
      refine ⟨i + 1, ⟨?_, st ++ [.box [.int .i64 0, .int .i64 0, .str [], .int .i64 0, .int .i64 0, .nils], .box [.int .i64 k, .int .i64 0, .str [], .int .i64 0, .int .i64 0, .nils]], [.box (encD a)], by simp only [gwL], wkSt_refl _, ?_, ?_, by simp⟩, by omega, hlt⟩
      · simp only [decide_true, decide_false, gwL, gwB, gwD, gwE, gwS, gwTT, gwZ, initG, Nat.reduceEqDiff, ↓reduceIte, Nat.reduceAdd, Nat.reduceLT, Nat.reduceLeDiff, List.map_cons, List.map_nil, builtS, builtinV, pureR, binV, sliceV, pickV, evO, Env.look, find, V.ofConst, resV, resOne, tupV, loadV, fillV, buildV, mkIface, litM, litS, litR, litRows, List.reverse_cons, List.reverse_nil, Nat.reduceMul, appS, memA, appendV, rowsOf, V.cells, TI.sized, TI.known, TI.agg, anL, List.length_cons, List.length_nil, List.append_nil, List.cons_append, List.nil_append, List.drop_succ_cons, List.drop_zero, List.drop_nil, List.take_succ_cons, List.take_zero, List.take_nil, List.getElem?_cons_zero, List.getElem?_cons_succ, List.all_cons, List.all_nil, List.replicate_succ, List.replicate_zero, List.set_cons_zero, List.set_cons_succ, eq_self, true_or, ne_eq, not_false_eq_true, Nat.reduceEqDiff, Env.keep, next_i64 hlt hkl]
        exact wkE_refl _
      · simp only [ltE, V.lt, gwL]
        exact ⟨by have := encD_lt (st.length + 2) (.mk k n nm s l kids); rw [encD_mk] at this; exact this, by omega, by omega, lstD_lt _ _, trivial, trivial, trivial⟩
      · exact ok_app hst (by simp [ltEs, Ent.lt, ltL, V.lt])
end Go.Proofs.Ytpfdoffnpkokhaa.Gx

namespace Go.Proofs.Ytpfdoffnpkokhaa.Gx
open Go Go.Proofs.Ytpfdoffnpkokhaa.Gw
set_option linter.unusedSimpArgs false

mutual
def eqD : Datum → Datum → Bool
  | .mk k n nm s l kids, .mk k' n' nm' s' l' kids' =>
    bif decide (k = k') then
      bif decide (k = 1) then decide (n = n') else bif decide (k = 2) then decide (n = n')
      else bif decide (k = 3) then (decide (nm = nm') && decide (s = s')) && decide (l = l')
      else bif decide (k = 4) then eqDs kids kids' else true
    else false
def eqDs : List Datum → List Datum → Bool
  | [], [] => true
  | a :: r, b :: r' => eqD a b && eqDs r r'
  | [], _ :: _ => false
  | _ :: _, [] => false
end
theorem eqDs_len : ∀ {l m : List Datum}, l.length ≠ m.length → eqDs l m = false
  | [], [], h => absurd rfl h
  | [], _ :: _, _ => by simp only [eqDs]
  | _ :: _, [], _ => by simp only [eqDs]
  | a :: r, b :: r', h => by
    simp only [eqDs, eqDs_len (l := r) (m := r') (by simpa using h), Bool.and_false]

theorem c_Same_of (l : List Datum) (ih : ∀ d ∈ l, ∀ (e : Datum) (st : St), VCalls Try.prog TT 21 [.agg (encD d), .agg (encD e)] st fun r st' => r = .ret (.bool (eqD d e)) ∧ st' = st) (m : List Datum) (st : St) :
    VCalls Try.prog TT 28 [lstD l, lstD m] st fun r st' => r = .ret (.bool (eqDs l m)) ∧ st' = st := by
  refine vfun TT_ok (an := anL []) (L := [0, 1, 4, 5, 12, 13]) (rs := [.tmp 4]) Try.func28 rfl (by kernel_rfl) rfl Try.ntmps28 rfl rfl (Nat.le_refl _) fun hst ha hf => ?_
  simp only [lstD, fitL, V.fit, List.length_map] at hf ⊢
  have hkl : l.length ≤ 9223372036854775807 := by simp at hf; omega
  simp only [decide_true, decide_false, gwL, gwB, gwD, gwE, gwS, gwTT, gwZ, initG, Nat.reduceEqDiff, ↓reduceIte, Nat.reduceAdd, Nat.reduceLT, Nat.reduceLeDiff, List.map_cons, List.map_nil, builtS, builtinV, pureR, binV, sliceV, pickV, evO, Env.look, find, V.ofConst, resV, resOne, tupV, loadV, fillV, buildV, mkIface, litM, litS, litR, litRows, List.reverse_cons, List.reverse_nil, Nat.reduceMul, appS, memA, appendV, rowsOf, V.cells, TI.sized, TI.known, TI.agg, anL, List.length_cons, List.length_nil, List.append_nil, List.cons_append, List.nil_append, List.drop_succ_cons, List.drop_zero, List.drop_nil, List.take_succ_cons, List.take_zero, List.take_nil, List.getElem?_cons_zero, List.getElem?_cons_succ, List.all_cons, List.all_nil, List.replicate_succ, List.replicate_zero, List.set_cons_zero, List.set_cons_succ, eq_self, true_or, ne_eq, not_false_eq_true, Nat.reduceEqDiff, List.length_map]
  refine iK_split (fun h => ?_) (fun h => ?_)
  · simp only [decide_true, decide_false, gwL, gwB, gwD, gwE, gwS, gwTT, gwZ, initG, Nat.reduceEqDiff, ↓reduceIte, Nat.reduceAdd, Nat.reduceLT, Nat.reduceLeDiff, List.map_cons, List.map_nil, builtS, builtinV, pureR, binV, sliceV, pickV, evO, Env.look, find, V.ofConst, resV, resOne, tupV, loadV, fillV, buildV, mkIface, litM, litS, litR, litRows, List.reverse_cons, List.reverse_nil, Nat.reduceMul, appS, memA, appendV, rowsOf, V.cells, TI.sized, TI.known, TI.agg, anL, List.length_cons, List.length_nil, List.append_nil, List.cons_append, List.nil_append, List.drop_succ_cons, List.drop_zero, List.drop_nil, List.take_succ_cons, List.take_zero, List.take_nil, List.getElem?_cons_zero, List.getElem?_cons_succ, List.all_cons, List.all_nil, List.replicate_succ, List.replicate_zero, List.set_cons_zero, List.set_cons_succ, eq_self, true_or, ne_eq, not_false_eq_true, Nat.reduceEqDiff]
    refine gives_bool ?_ hst
    rw [eqDs_len]
    simp at h
    omega
  have hlen : l.length = m.length := by simp at h; omega
  simp only [decide_true, decide_false, gwL, gwB, gwD, gwE, gwS, gwTT, gwZ, initG, Nat.reduceEqDiff, ↓reduceIte, Nat.reduceAdd, Nat.reduceLT, Nat.reduceLeDiff, List.map_cons, List.map_nil, builtS, builtinV, pureR, binV, sliceV, pickV, evO, Env.look, find, V.ofConst, resV, resOne, tupV, loadV, fillV, buildV, mkIface, litM, litS, litR, litRows, List.reverse_cons, List.reverse_nil, Nat.reduceMul, appS, memA, appendV, rowsOf, V.cells, TI.sized, TI.known, TI.agg, anL, List.length_cons, List.length_nil, List.append_nil, List.cons_append, List.nil_append, List.drop_succ_cons, List.drop_zero, List.drop_nil, List.take_succ_cons, List.take_zero, List.take_nil, List.getElem?_cons_zero, List.getElem?_cons_succ, List.all_cons, List.all_nil, List.replicate_succ, List.replicate_zero, List.set_cons_zero, List.set_cons_succ, eq_self, true_or, ne_eq, not_false_eq_true, Nat.reduceEqDiff, List.length_map]
  refine vfor (σ := Nat) [0, 1, 4, 12, 13] (fun i => [(0, true, lstD l), (1, true, lstD m), (4, true, .bool false), (12, true, .int .i64 l.length), (13, true, .int .i64 i)]) (fun i => st) (fun i => l.length - i) (fun i => i ≤ l.length ∧ eqDs l m = eqDs (l.drop i) (m.drop i)) 0 rfl TT_ok ⟨Nat.zero_le _, rfl⟩ rfl rfl ?_
  rintro i ⟨hi, hx⟩
  rw [hx]
  simp only [lstD]
  rcases at_or_end l i hi with ⟨rfl, hd⟩ | ⟨a, hlt, hget, hdr⟩
  · have hd2 : m.drop l.length = [] := List.drop_of_length_le (by omega)
    simp only [decide_true, decide_false, gwL, gwB, gwD, gwE, gwS, gwTT, gwZ, initG, Nat.reduceEqDiff, ↓reduceIte, Nat.reduceAdd, Nat.reduceLT, Nat.reduceLeDiff, List.map_cons, List.map_nil, builtS, builtinV, pureR, binV, sliceV, pickV, evO, Env.look, find, V.ofConst, resV, resOne, tupV, loadV, fillV, buildV, mkIface, litM, litS, litR, litRows, List.reverse_cons, List.reverse_nil, Nat.reduceMul, appS, memA, appendV, rowsOf, V.cells, TI.sized, TI.known, TI.agg, anL, List.length_cons, List.length_nil, List.append_nil, List.cons_append, List.nil_append, List.drop_succ_cons, List.drop_zero, List.drop_nil, List.take_succ_cons, List.take_zero, List.take_nil, List.getElem?_cons_zero, List.getElem?_cons_succ, List.all_cons, List.all_nil, List.replicate_succ, List.replicate_zero, List.set_cons_zero, List.set_cons_succ, eq_self, true_or, ne_eq, not_false_eq_true, Nat.reduceEqDiff, lt_no, hd, hd2, eqDs]
    exact gives_bool rfl hst
  · rcases at_or_end m i (by omega) with ⟨e, hd⟩ | ⟨b, hlt2, hget2, hdr2⟩
    · omega
    simp only [decide_true, decide_false, gwL, gwB, gwD, gwE, gwS, gwTT, gwZ, initG, Nat.reduceEqDiff, ↓reduceIte, Nat.reduceAdd, Nat.reduceLT, Nat.reduceLeDiff, List.map_cons, List.map_nil, builtS, builtinV, pureR, binV, sliceV, pickV, evO, Env.look, find, V.ofConst, resV, resOne, tupV, loadV, fillV, buildV, mkIface, litM, litS, litR, litRows, List.reverse_cons, List.reverse_nil, Nat.reduceMul, appS, memA, appendV, rowsOf, V.cells, TI.sized, TI.known, TI.agg, anL, List.length_cons, List.length_nil, List.append_nil, List.cons_append, List.nil_append, List.drop_succ_cons, List.drop_zero, List.drop_nil, List.take_succ_cons, List.take_zero, List.take_nil, List.getElem?_cons_zero, List.getElem?_cons_succ, List.all_cons, List.all_nil, List.replicate_succ, List.replicate_zero, List.set_cons_zero, List.set_cons_succ, eq_self, true_or, ne_eq, not_false_eq_true, Nat.reduceEqDiff, lt_yes hlt, hdr, hdr2, eqDs, List.length_map, Int.ofNat_lt.mpr hlt]
    refine vdraw TT_ok TT_mixed [0, 0, 0, 1, 0, 0, 0, 1, 0, 0] (by kernel_rfl) ?_
    simp only [decide_true, decide_false, gwL, gwB, gwD, gwE, gwS, gwTT, gwZ, initG, Nat.reduceEqDiff, ↓reduceIte, Nat.reduceAdd, Nat.reduceLT, Nat.reduceLeDiff, List.map_cons, List.map_nil, builtS, builtinV, pureR, binV, sliceV, pickV, evO, Env.look, find, V.ofConst, resV, resOne, tupV, loadV, fillV, buildV, mkIface, litM, litS, litR, litRows, List.reverse_cons, List.reverse_nil, Nat.reduceMul, appS, memA, appendV, rowsOf, V.cells, TI.sized, TI.known, TI.agg, anL, List.length_cons, List.length_nil, List.append_nil, List.cons_append, List.nil_append, List.drop_succ_cons, List.drop_zero, List.drop_nil, List.take_succ_cons, List.take_zero, List.take_nil, List.getElem?_cons_zero, List.getElem?_cons_succ, List.all_cons, List.all_nil, List.replicate_succ, List.replicate_zero, List.set_cons_zero, List.set_cons_succ, eq_self, true_or, ne_eq, not_false_eq_true, Nat.reduceEqDiff, List.length_map, getD_map hget, getD_map hget2, encD_take, encD_len, Int.ofNat_lt.mpr hlt, Int.ofNat_lt.mpr hlt2, Nat.le_refl]
    refine eK_free (ih a (List.mem_of_getElem? hget) b) (wkL_refl _) ?_
    simp only [decide_true, decide_false, gwL, gwB, gwD, gwE, gwS, gwTT, gwZ, initG, Nat.reduceEqDiff, ↓reduceIte, Nat.reduceAdd, Nat.reduceLT, Nat.reduceLeDiff, List.map_cons, List.map_nil, builtS, builtinV, pureR, binV, sliceV, pickV, evO, Env.look, find, V.ofConst, resV, resOne, tupV, loadV, fillV, buildV, mkIface, litM, litS, litR, litRows, List.reverse_cons, List.reverse_nil, Nat.reduceMul, appS, memA, appendV, rowsOf, V.cells, TI.sized, TI.known, TI.agg, anL, List.length_cons, List.length_nil, List.append_nil, List.cons_append, List.nil_append, List.drop_succ_cons, List.drop_zero, List.drop_nil, List.take_succ_cons, List.take_zero, List.take_nil, List.getElem?_cons_zero, List.getElem?_cons_succ, List.all_cons, List.all_nil, List.replicate_succ, List.replicate_zero, List.set_cons_zero, List.set_cons_succ, eq_self, true_or, ne_eq, not_false_eq_true, Nat.reduceEqDiff]
    refine iK_split (fun h5 => ?_) (fun h5 => ?_)
    · simp only [decide_true, decide_false, gwL, gwB, gwD, gwE, gwS, gwTT, gwZ, initG, Nat.reduceEqDiff, ↓reduceIte, Nat.reduceAdd, Nat.reduceLT, Nat.reduceLeDiff, List.map_cons, List.map_nil, builtS, builtinV, pureR, binV, sliceV, pickV, evO, Env.look, find, V.ofConst, resV, resOne, tupV, loadV, fillV, buildV, mkIface, litM, litS, litR, litRows, List.reverse_cons, List.reverse_nil, Nat.reduceMul, appS, memA, appendV, rowsOf, V.cells, TI.sized, TI.known, TI.agg, anL, List.length_cons, List.length_nil, List.append_nil, List.cons_append, List.nil_append, List.drop_succ_cons, List.drop_zero, List.drop_nil, List.take_succ_cons, List.take_zero, List.take_nil, List.getElem?_cons_zero, List.getElem?_cons_succ, List.all_cons, List.all_nil, List.replicate_succ, List.replicate_zero, List.set_cons_zero, List.set_cons_succ, eq_self, true_or, ne_eq, not_false_eq_true, Nat.reduceEqDiff]
      exact gives_bool (by rw [not_yes h5]; rfl) hst
    · simp only [decide_true, decide_false, gwL, gwB, gwD, gwE, gwS, gwTT, gwZ, initG, Nat.reduceEqDiff, ↓reduceIte, Nat.reduceAdd, Nat.reduceLT, Nat.reduceLeDiff, List.map_cons, List.map_nil, builtS, builtinV, pureR, binV, sliceV, pickV, evO, Env.look, find, V.ofConst, resV, resOne, tupV, loadV, fillV, buildV, mkIface, litM, litS, litR, litRows, List.reverse_cons, List.reverse_nil, Nat.reduceMul, appS, memA, appendV, rowsOf, V.cells, TI.sized, TI.known, TI.agg, anL, List.length_cons, List.length_nil, List.append_nil, List.cons_append, List.nil_append, List.drop_succ_cons, List.drop_zero, List.drop_nil, List.take_succ_cons, List.take_zero, List.take_nil, List.getElem?_cons_zero, List.getElem?_cons_succ, List.all_cons, List.all_nil, List.replicate_succ, List.replicate_zero, List.set_cons_zero, List.set_cons_succ, eq_self, true_or, ne_eq, not_false_eq_true, Nat.reduceEqDiff, Env.keep]
      exact ⟨i + 1, by rw [next_i64 hlt hkl], by omega, hlt, by rw [not_no h5]; rfl⟩

theorem c_Equal (d : Datum) : ∀ (e : Datum) (st : St), VCalls Try.prog TT 21 [.agg (encD d), .agg (encD e)] st fun r st' => r = .ret (.bool (eqD d e)) ∧ st' = st := by
  refine Datum.ind (p := fun d => ∀ (e : Datum) (st : St), VCalls Try.prog TT 21 [.agg (encD d), .agg (encD e)] st fun r st' => r = .ret (.bool (eqD d e)) ∧ st' = st) ?_ d
  intro k n nm s l kids ih e st
  obtain ⟨k', n', nm', s', l', kids'⟩ := e
  refine vfun TT_ok (an := anL [(2, 1), (3, 1)]) (L := [0, 1, 2, 3, 4, 11, 12]) (rs := [.tmp 4]) Try.func21 rfl (by kernel_rfl) rfl Try.ntmps21 rfl rfl (Nat.le_refl _) fun hst ha hf => ?_
  simp only [encD_mk]
  unfold eqD
  simp only [decide_true, decide_false, gwL, gwB, gwD, gwE, gwS, gwTT, gwZ, initG, Nat.reduceEqDiff, ↓reduceIte, Nat.reduceAdd, Nat.reduceLT, Nat.reduceLeDiff, List.map_cons, List.map_nil, builtS, builtinV, pureR, binV, sliceV, pickV, evO, Env.look, find, V.ofConst, resV, resOne, tupV, loadV, fillV, buildV, mkIface, litM, litS, litR, litRows, List.reverse_cons, List.reverse_nil, Nat.reduceMul, appS, memA, appendV, rowsOf, V.cells, TI.sized, TI.known, TI.agg, anL, List.length_cons, List.length_nil, List.append_nil, List.cons_append, List.nil_append, List.drop_succ_cons, List.drop_zero, List.drop_nil, List.take_succ_cons, List.take_zero, List.take_nil, List.getElem?_cons_zero, List.getElem?_cons_succ, List.all_cons, List.all_nil, List.replicate_succ, List.replicate_zero, List.set_cons_zero, List.set_cons_succ, eq_self, true_or, ne_eq, not_false_eq_true, Nat.reduceEqDiff]
  refine iK_split (fun h => ?_) (fun h => ?_)
  · rw [not_yes h]
    simp only [decide_true, decide_false, gwL, gwB, gwD, gwE, gwS, gwTT, gwZ, initG, Nat.reduceEqDiff, ↓reduceIte, Nat.reduceAdd, Nat.reduceLT, Nat.reduceLeDiff, List.map_cons, List.map_nil, builtS, builtinV, pureR, binV, sliceV, pickV, evO, Env.look, find, V.ofConst, resV, resOne, tupV, loadV, fillV, buildV, mkIface, litM, litS, litR, litRows, List.reverse_cons, List.reverse_nil, Nat.reduceMul, appS, memA, appendV, rowsOf, V.cells, TI.sized, TI.known, TI.agg, anL, List.length_cons, List.length_nil, List.append_nil, List.cons_append, List.nil_append, List.drop_succ_cons, List.drop_zero, List.drop_nil, List.take_succ_cons, List.take_zero, List.take_nil, List.getElem?_cons_zero, List.getElem?_cons_succ, List.all_cons, List.all_nil, List.replicate_succ, List.replicate_zero, List.set_cons_zero, List.set_cons_succ, eq_self, true_or, ne_eq, not_false_eq_true, Nat.reduceEqDiff]
    exact gives_bool rfl hst
  rw [not_no h]
  simp only [decide_true, decide_false, gwL, gwB, gwD, gwE, gwS, gwTT, gwZ, initG, Nat.reduceEqDiff, ↓reduceIte, Nat.reduceAdd, Nat.reduceLT, Nat.reduceLeDiff, List.map_cons, List.map_nil, builtS, builtinV, pureR, binV, sliceV, pickV, evO, Env.look, find, V.ofConst, resV, resOne, tupV, loadV, fillV, buildV, mkIface, litM, litS, litR, litRows, List.reverse_cons, List.reverse_nil, Nat.reduceMul, appS, memA, appendV, rowsOf, V.cells, TI.sized, TI.known, TI.agg, anL, List.length_cons, List.length_nil, List.append_nil, List.cons_append, List.nil_append, List.drop_succ_cons, List.drop_zero, List.drop_nil, List.take_succ_cons, List.take_zero, List.take_nil, List.getElem?_cons_zero, List.getElem?_cons_succ, List.all_cons, List.all_nil, List.replicate_succ, List.replicate_zero, List.set_cons_zero, List.set_cons_succ, eq_self, true_or, ne_eq, not_false_eq_true, Nat.reduceEqDiff]
  refine iK_split (fun h1 => ?_) (fun h1 => ?_)
  · rw [h1]
    simp only [decide_true, decide_false, gwL, gwB, gwD, gwE, gwS, gwTT, gwZ, initG, Nat.reduceEqDiff, ↓reduceIte, Nat.reduceAdd, Nat.reduceLT, Nat.reduceLeDiff, List.map_cons, List.map_nil, builtS, builtinV, pureR, binV, sliceV, pickV, evO, Env.look, find, V.ofConst, resV, resOne, tupV, loadV, fillV, buildV, mkIface, litM, litS, litR, litRows, List.reverse_cons, List.reverse_nil, Nat.reduceMul, appS, memA, appendV, rowsOf, V.cells, TI.sized, TI.known, TI.agg, anL, List.length_cons, List.length_nil, List.append_nil, List.cons_append, List.nil_append, List.drop_succ_cons, List.drop_zero, List.drop_nil, List.take_succ_cons, List.take_zero, List.take_nil, List.getElem?_cons_zero, List.getElem?_cons_succ, List.all_cons, List.all_nil, List.replicate_succ, List.replicate_zero, List.set_cons_zero, List.set_cons_succ, eq_self, true_or, ne_eq, not_false_eq_true, Nat.reduceEqDiff]
    exact gives_bool rfl hst
  rw [h1]
  simp only [decide_true, decide_false, gwL, gwB, gwD, gwE, gwS, gwTT, gwZ, initG, Nat.reduceEqDiff, ↓reduceIte, Nat.reduceAdd, Nat.reduceLT, Nat.reduceLeDiff, List.map_cons, List.map_nil, builtS, builtinV, pureR, binV, sliceV, pickV, evO, Env.look, find, V.ofConst, resV, resOne, tupV, loadV, fillV, buildV, mkIface, litM, litS, litR, litRows, List.reverse_cons, List.reverse_nil, Nat.reduceMul, appS, memA, appendV, rowsOf, V.cells, TI.sized, TI.known, TI.agg, anL, List.length_cons, List.length_nil, List.append_nil, List.cons_append, List.nil_append, List.drop_succ_cons, List.drop_zero, List.drop_nil, List.take_succ_cons, List.take_zero, List.take_nil, List.getElem?_cons_zero, List.getElem?_cons_succ, List.all_cons, List.all_nil, List.replicate_succ, List.replicate_zero, List.set_cons_zero, List.set_cons_succ, eq_self, true_or, ne_eq, not_false_eq_true, Nat.reduceEqDiff]
  refine iK_split (fun h2 => ?_) (fun h2 => ?_)
  · rw [h2]
    simp only [decide_true, decide_false, gwL, gwB, gwD, gwE, gwS, gwTT, gwZ, initG, Nat.reduceEqDiff, ↓reduceIte, Nat.reduceAdd, Nat.reduceLT, Nat.reduceLeDiff, List.map_cons, List.map_nil, builtS, builtinV, pureR, binV, sliceV, pickV, evO, Env.look, find, V.ofConst, resV, resOne, tupV, loadV, fillV, buildV, mkIface, litM, litS, litR, litRows, List.reverse_cons, List.reverse_nil, Nat.reduceMul, appS, memA, appendV, rowsOf, V.cells, TI.sized, TI.known, TI.agg, anL, List.length_cons, List.length_nil, List.append_nil, List.cons_append, List.nil_append, List.drop_succ_cons, List.drop_zero, List.drop_nil, List.take_succ_cons, List.take_zero, List.take_nil, List.getElem?_cons_zero, List.getElem?_cons_succ, List.all_cons, List.all_nil, List.replicate_succ, List.replicate_zero, List.set_cons_zero, List.set_cons_succ, eq_self, true_or, ne_eq, not_false_eq_true, Nat.reduceEqDiff]
    exact gives_bool rfl hst
  rw [h2]
  simp only [decide_true, decide_false, gwL, gwB, gwD, gwE, gwS, gwTT, gwZ, initG, Nat.reduceEqDiff, ↓reduceIte, Nat.reduceAdd, Nat.reduceLT, Nat.reduceLeDiff, List.map_cons, List.map_nil, builtS, builtinV, pureR, binV, sliceV, pickV, evO, Env.look, find, V.ofConst, resV, resOne, tupV, loadV, fillV, buildV, mkIface, litM, litS, litR, litRows, List.reverse_cons, List.reverse_nil, Nat.reduceMul, appS, memA, appendV, rowsOf, V.cells, TI.sized, TI.known, TI.agg, anL, List.length_cons, List.length_nil, List.append_nil, List.cons_append, List.nil_append, List.drop_succ_cons, List.drop_zero, List.drop_nil, List.take_succ_cons, List.take_zero, List.take_nil, List.getElem?_cons_zero, List.getElem?_cons_succ, List.all_cons, List.all_nil, List.replicate_succ, List.replicate_zero, List.set_cons_zero, List.set_cons_succ, eq_self, true_or, ne_eq, not_false_eq_true, Nat.reduceEqDiff]
  refine iK_split (fun h3 => ?_) (fun h3 => ?_)
  · rw [h3]
    simp only [decide_true, decide_false, gwL, gwB, gwD, gwE, gwS, gwTT, gwZ, initG, Nat.reduceEqDiff, ↓reduceIte, Nat.reduceAdd, Nat.reduceLT, Nat.reduceLeDiff, List.map_cons, List.map_nil, builtS, builtinV, pureR, binV, sliceV, pickV, evO, Env.look, find, V.ofConst, resV, resOne, tupV, loadV, fillV, buildV, mkIface, litM, litS, litR, litRows, List.reverse_cons, List.reverse_nil, Nat.reduceMul, appS, memA, appendV, rowsOf, V.cells, TI.sized, TI.known, TI.agg, anL, List.length_cons, List.length_nil, List.append_nil, List.cons_append, List.nil_append, List.drop_succ_cons, List.drop_zero, List.drop_nil, List.take_succ_cons, List.take_zero, List.take_nil, List.getElem?_cons_zero, List.getElem?_cons_succ, List.all_cons, List.all_nil, List.replicate_succ, List.replicate_zero, List.set_cons_zero, List.set_cons_succ, eq_self, true_or, ne_eq, not_false_eq_true, Nat.reduceEqDiff]
    exact gives_bool rfl hst
  rw [h3]
  simp only [decide_true, decide_false, gwL, gwB, gwD, gwE, gwS, gwTT, gwZ, initG, Nat.reduceEqDiff, ↓reduceIte, Nat.reduceAdd, Nat.reduceLT, Nat.reduceLeDiff, List.map_cons, List.map_nil, builtS, builtinV, pureR, binV, sliceV, pickV, evO, Env.look, find, V.ofConst, resV, resOne, tupV, loadV, fillV, buildV, mkIface, litM, litS, litR, litRows, List.reverse_cons, List.reverse_nil, Nat.reduceMul, appS, memA, appendV, rowsOf, V.cells, TI.sized, TI.known, TI.agg, anL, List.length_cons, List.length_nil, List.append_nil, List.cons_append, List.nil_append, List.drop_succ_cons, List.drop_zero, List.drop_nil, List.take_succ_cons, List.take_zero, List.take_nil, List.getElem?_cons_zero, List.getElem?_cons_succ, List.all_cons, List.all_nil, List.replicate_succ, List.replicate_zero, List.set_cons_zero, List.set_cons_succ, eq_self, true_or, ne_eq, not_false_eq_true, Nat.reduceEqDiff]
  refine iK_split (fun h4 => ?_) (fun h4 => ?_)
  · rw [h4]
    simp only [decide_true, decide_false, gwL, gwB, gwD, gwE, gwS, gwTT, gwZ, initG, Nat.reduceEqDiff, ↓reduceIte, Nat.reduceAdd, Nat.reduceLT, Nat.reduceLeDiff, List.map_cons, List.map_nil, builtS, builtinV, pureR, binV, sliceV, pickV, evO, Env.look, find, V.ofConst, resV, resOne, tupV, loadV, fillV, buildV, mkIface, litM, litS, litR, litRows, List.reverse_cons, List.reverse_nil, Nat.reduceMul, appS, memA, appendV, rowsOf, V.cells, TI.sized, TI.known, TI.agg, anL, List.length_cons, List.length_nil, List.append_nil, List.cons_append, List.nil_append, List.drop_succ_cons, List.drop_zero, List.drop_nil, List.take_succ_cons, List.take_zero, List.take_nil, List.getElem?_cons_zero, List.getElem?_cons_succ, List.all_cons, List.all_nil, List.replicate_succ, List.replicate_zero, List.set_cons_zero, List.set_cons_succ, eq_self, true_or, ne_eq, not_false_eq_true, Nat.reduceEqDiff]
    refine (c_Same_of kids ih kids' st).use (wkL_refl _) fun _ => ?_
    simp only [decide_true, decide_false, gwL, gwB, gwD, gwE, gwS, gwTT, gwZ, initG, Nat.reduceEqDiff, ↓reduceIte, Nat.reduceAdd, Nat.reduceLT, Nat.reduceLeDiff, List.map_cons, List.map_nil, builtS, builtinV, pureR, binV, sliceV, pickV, evO, Env.look, find, V.ofConst, resV, resOne, tupV, loadV, fillV, buildV, mkIface, litM, litS, litR, litRows, List.reverse_cons, List.reverse_nil, Nat.reduceMul, appS, memA, appendV, rowsOf, V.cells, TI.sized, TI.known, TI.agg, anL, List.length_cons, List.length_nil, List.append_nil, List.cons_append, List.nil_append, List.drop_succ_cons, List.drop_zero, List.drop_nil, List.take_succ_cons, List.take_zero, List.take_nil, List.getElem?_cons_zero, List.getElem?_cons_succ, List.all_cons, List.all_nil, List.replicate_succ, List.replicate_zero, List.set_cons_zero, List.set_cons_succ, eq_self, true_or, ne_eq, not_false_eq_true, Nat.reduceEqDiff]
    exact gives_bool rfl hst
  · rw [h4]
    simp only [decide_true, decide_false, gwL, gwB, gwD, gwE, gwS, gwTT, gwZ, initG, Nat.reduceEqDiff, ↓reduceIte, Nat.reduceAdd, Nat.reduceLT, Nat.reduceLeDiff, List.map_cons, List.map_nil, builtS, builtinV, pureR, binV, sliceV, pickV, evO, Env.look, find, V.ofConst, resV, resOne, tupV, loadV, fillV, buildV, mkIface, litM, litS, litR, litRows, List.reverse_cons, List.reverse_nil, Nat.reduceMul, appS, memA, appendV, rowsOf, V.cells, TI.sized, TI.known, TI.agg, anL, List.length_cons, List.length_nil, List.append_nil, List.cons_append, List.nil_append, List.drop_succ_cons, List.drop_zero, List.drop_nil, List.take_succ_cons, List.take_zero, List.take_nil, List.getElem?_cons_zero, List.getElem?_cons_succ, List.all_cons, List.all_nil, List.replicate_succ, List.replicate_zero, List.set_cons_zero, List.set_cons_succ, eq_self, true_or, ne_eq, not_false_eq_true, Nat.reduceEqDiff]
    exact gives_bool rfl hst
end Go.Proofs.Ytpfdoffnpkokhaa.Gx

namespace Go.Proofs.Ytpfdoffnpkokhaa.Gx
open Go Go.Proofs.Ytpfdoffnpkokhaa.Gw
set_option linter.unusedSimpArgs false

/-- A core expression. -/
inductive Core where
  | mk (kind index n : Int) (lib own : Str) (quote : Datum) (kids : List Core)

mutual
def encC : Core → List V
  | .mk k i n l o q kids => [.int .i64 k, .int .i64 i, .int .i64 n, .str l, .str o] ++ encD q ++ [.lst 12 none (encCs kids)]
def encCs : List Core → List (List V)
  | [] => []
  | d :: r => encC d :: encCs r
end
theorem encCs_map : ∀ l : List Core, encCs l = l.map encC
  | [] => rfl
  | d :: r => by simp only [encCs, List.map_cons, encCs_map r]
theorem encC_mk (k i n : Int) (l o : Str) (q : Datum) (kids : List Core) : encC (.mk k i n l o q kids) = .int .i64 k :: .int .i64 i :: .int .i64 n :: .str l :: .str o :: (encD q ++ [.lst 12 none (kids.map encC)]) := by
  simp only [encC, encCs_map]; rfl
theorem encC_len (d : Core) : (encC d).length = 12 := by cases d; simp only [encC, List.length_append, encD_len, List.length_cons, List.length_nil]
theorem encC_take (d : Core) : (encC d).take 12 = encC d := List.take_of_length_le (by rw [encC_len]; exact Nat.le_refl _)
theorem encC_drop (d : Core) : (encC d).drop 12 = [] := List.drop_of_length_le (by rw [encC_len]; exact Nat.le_refl _)
theorem encD_take_app (d : Datum) (l : List V) : (encD d ++ l).take 6 = encD d := by rw [List.take_append_of_le_length (by rw [encD_len]; exact Nat.le_refl _), encD_take]
theorem encD_drop_app (d : Datum) (l : List V) : (encD d ++ l).drop 6 = l := by rw [List.drop_append_of_le_length (by rw [encD_len]; exact Nat.le_refl _), encD_drop]; rfl
theorem encD_len_app (d : Datum) (l : List V) : (encD d ++ l).length = 6 + l.length := by rw [List.length_append, encD_len]
mutual
theorem encC_lt (n : Nat) : ∀ d : Core, ltL n (encC d)
  | .mk k m nm s l q kids => by
    rw [encC]
    refine ltL_append (ltL_append (by simp [ltL, V.lt]) (encD_lt n q)) ?_
    simp only [ltL, V.lt, and_true]
    exact ⟨fun e h => (by cases h), encCs_lt n kids⟩
theorem encCs_lt (n : Nat) : ∀ l : List Core, ltRows n (encCs l)
  | [] => trivial
  | d :: r => ⟨encC_lt n d, encCs_lt n r⟩
end
theorem Core.ind {p : Core → Prop} (h : ∀ k i n l o q kids, (∀ d ∈ kids, p d) → p (.mk k i n l o q kids)) (d : Core) : p d :=
  Core.rec (motive_1 := p) (motive_2 := fun l => ∀ d ∈ l, p d) h (by simp) (fun d r h1 h2 x hx => by rcases List.mem_cons.1 hx with rfl | hx; exact h1; exact h2 x hx) d
def lstC (l : List Core) : V := .lst 12 none (l.map encC)
theorem lstC_lt (n : Nat) (l : List Core) : (lstC l).lt n := by
  simp only [lstC, V.lt]
  exact ⟨fun e h => (by cases h), by rw [← encCs_map]; exact encCs_lt _ _⟩

def kindB (k : Int) : Bool := decide (1 ≤ k) && decide (k ≤ 13)
def lenB (k : Int) (n : Nat) : Bool :=
  bif decide (k ≤ 6) then decide (n = 0) else bif decide (k = 7) then decide (n = 3) else bif decide (k = 9) || decide (k = 12) then decide (0 < n) else decide (n = 1)
/-- What is wrong with what an expression's kind has. -/
def ownC (k i n : Int) (o : Str) (q : Datum) (ar : Int) : Int :=
  bif decide (k = 1) then (bif decide (1000000000000000 < n) || decide (n < -1000000000000000) then 3 else 0)
  else bif decide (k = 2) then (bif decide (n = 0) || decide (n = 1) then 0 else 3)
  else bif decide (k = 3) then (wrongL [q] 0 0).1
  else bif decide (k = 4) || decide (k = 10) then (bif decide (i < 0) || decide (ar ≤ i) then 3 else 0)
  else bif decide (k = 6) then (bif decide (o ∈ prims) then 0 else 7)
  else bif decide (k = 8) then (bif decide (i < 0) || decide (2000 < i) then 3 else 0)
  else 0
mutual
def shapeC : Core → Int → Int → Int → Int × Int
  | .mk k i n _ o q kids, ar, deep, c =>
    bif decide (3000 < c + 1) || decide (300 < deep) then (4, c + 1)
    else bif !kindB k then (1, c + 1)
    else bif !lenB k kids.length then (5, c + 1)
    else bif !decide (ownC k i n o q ar = 0) then (ownC k i n o q ar, c + 1)
    else shapeCs kids (bif decide (k = 8) then ar + i else ar) (deep + 1) (c + 1)
def shapeCs : List Core → Int → Int → Int → Int × Int
  | [], _, _, c => (0, c)
  | d :: r, ar, deep, c => bif decide ((shapeC d ar deep c).1 = 0) then shapeCs r ar deep (shapeC d ar deep c).2 else shapeC d ar deep c
end
mutual
theorem shapeC_ok : ∀ (d : Core) (ar deep c : Int), 0 ≤ c → (shapeC d ar deep c).1 = 0 → c ≤ (shapeC d ar deep c).2 ∧ (shapeC d ar deep c).2 ≤ 3000
  | .mk k i n l o q kids, ar, deep, c, h0, h => by
    unfold shapeC at h ⊢
    cases h1 : (decide (3000 < c + 1) || decide (300 < deep)) with
    | true => rw [h1] at h; simp at h
    | false =>
      have hc : c + 1 ≤ 3000 := by simp at h1; omega
      rw [h1] at h
      simp only [cond_false] at h ⊢
      cases h2 : (!kindB k) <;> rw [h2] at h <;> simp only [cond_false, cond_true] at h ⊢
      · cases h3 : (!lenB k kids.length) <;> rw [h3] at h <;> simp only [cond_false, cond_true] at h ⊢
        · cases h4 : (!decide (ownC k i n o q ar = 0)) <;> rw [h4] at h <;> simp only [cond_false, cond_true] at h ⊢
          · have := shapeCs_ok kids _ (deep + 1) (c + 1) (by omega) hc h
            exact ⟨by omega, this.2⟩
          · simp [h] at h4
        · simp at h
      · simp at h
theorem shapeCs_ok : ∀ (l : List Core) (ar deep c : Int), 0 ≤ c → c ≤ 3000 → (shapeCs l ar deep c).1 = 0 → c ≤ (shapeCs l ar deep c).2 ∧ (shapeCs l ar deep c).2 ≤ 3000
  | [], ar, deep, c, h0, h1, h => by simp only [shapeCs]; omega
  | d :: r, ar, deep, c, h0, h1, h => by
    simp only [shapeCs] at h ⊢
    cases h2 : decide ((shapeC d ar deep c).1 = 0) with
    | true =>
      rw [h2] at h
      simp only [cond_true] at h ⊢
      have k1 := shapeC_ok d ar deep c h0 (of_decide_eq_true h2)
      have k2 := shapeCs_ok r ar deep _ (by omega) k1.2 h
      omega
    | false =>
      rw [h2] at h
      simp only [cond_false] at h
      exact absurd h (of_decide_eq_false h2)
end
theorem kind_cases {k : Int} (h : kindB k = true) : k = 1 ∨ k = 2 ∨ k = 3 ∨ k = 4 ∨ k = 5 ∨ k = 6 ∨ k = 7 ∨ k = 8 ∨ k = 9 ∨ k = 10 ∨ k = 11 ∨ k = 12 ∨ k = 13 := by
  simp only [kindB, Bool.and_eq_true, decide_eq_true_eq] at h; omega
theorem kind_none {k : Int} (h : kindB k = false) : ∀ j : Int, 1 ≤ j → j ≤ 13 → decide (k = j) = false := by
  intro j h1 h2
  simp only [kindB, Bool.and_eq_false_iff, decide_eq_false_iff_not] at h
  exact decide_eq_false (by omega)
end Go.Proofs.Ytpfdoffnpkokhaa.Gx
