/- Contracts: what is wrong with parts. Contract: the instruction of what is one alone. Contract: code that is moved on. A unit in the making: how it lies in the state; where its next instruction comes. Contract: an instruction is added. What the compiler makes of an expression, procedure by procedure. A unit in the making: entries behind, one after the other, a procedure more, a patch. Contract: what the compiler makes of an expression (under way). What the compiler makes of an expression: how much it is. -/
import Derived.Test.YtpfdoffnpkokhaaQ8

namespace Go.Proofs.Ytpfdoffnpkokhaa.Gx
open Go Go.Proofs.Ytpfdoffnpkokhaa.Gw
set_option linter.unusedSimpArgs false

structure Part where
  name : Str
  body : List Core
def encP (p : Part) : List V := [.str p.name, lstC p.body]
def lstP (l : List Part) : V := .lst 2 none (l.map encP)
theorem encP_lt (n : Nat) (p : Part) : ltL n (encP p) := ⟨trivial, lstC_lt _ _, trivial⟩
theorem lstP_lt (n : Nat) (l : List Part) : (lstP l).lt n := by
  simp only [lstP, V.lt]
  exact ⟨fun e h => (by cases h), ltRows_map fun x _ => encP_lt _ _⟩

/-- What is wrong with a body. -/
def bodyE : List Core → Int
  | [] => 0
  | c :: r => bif decide ((shapeC c 0 1 0).1 = 0) then bodyE r else (shapeC c 0 1 0).1
def wrongP : List Part → Nat → Int × Int
  | [], _ => (0, 0)
  | p :: r, i => bif decide ((200 : Int) < p.body.length) then (5, (i : Int)) else bif decide (bodyE p.body = 0) then wrongP r (i + 1) else (bodyE p.body, (i : Int))
def wrongPs (l : List Part) : Int × Int := bif decide ((40 : Int) < l.length) then (5, 0) else wrongP l 0

theorem fit_rows {α : Type} {f : α → List V} {l : List α} {a : α} (h : fitR (l.map f)) (ha : a ∈ l) : fitL (f a) := by
  induction l with
  | nil => simp at ha
  | cons x l ih =>
    rcases List.mem_cons.1 ha with rfl | ha
    · exact h.1
    · exact ih h.2 ha

set_option maxHeartbeats 2000000 in
theorem c_model_Wrong (st : St) (l : List Part) : VCalls Try.prog TT 15 [lstP l] st fun r st' => r = .ret (fltV (wrongPs l)) ∧ st' = st := by
  refine vfun TT_ok (an := anL []) (L := [0, 2, 3, 4, 5, 6, 7, 12, 13, 14, 27, 28]) (rs := [.cell 2 50]) Try.func15 rfl (by kernel_rfl) rfl Try.ntmps15 rfl rfl (Nat.le_refl _) fun hst ha hf => ?_
  simp only [lstP, fltV, fitL, V.fit, List.length_map] at hf ⊢
  unfold wrongPs
  simp only [decide_true, decide_false, gwL, gwB, gwD, gwE, gwS, gwTT, gwZ, initG, Nat.reduceEqDiff, ↓reduceIte, Nat.reduceAdd, Nat.reduceLT, Nat.reduceLeDiff, List.map_cons, List.map_nil, builtS, builtinV, pureR, binV, sliceV, pickV, evO, Env.look, find, V.ofConst, resV, resOne, tupV, loadV, fillV, buildV, mkIface, litM, litS, litR, litRows, List.reverse_cons, List.reverse_nil, Nat.reduceMul, appS, memA, appendV, rowsOf, V.cells, TI.sized, TI.known, TI.agg, anL, List.length_cons, List.length_nil, List.append_nil, List.cons_append, List.nil_append, List.drop_succ_cons, List.drop_zero, List.drop_nil, List.take_succ_cons, List.take_zero, List.take_nil, List.getElem?_cons_zero, List.getElem?_cons_succ, List.all_cons, List.all_nil, List.replicate_succ, List.replicate_zero, List.set_cons_zero, List.set_cons_succ, eq_self, true_or, ne_eq, not_false_eq_true, Nat.reduceEqDiff, List.length_map]
  refine iK_split (fun h => ?_) (fun h => ?_)
  · rw [h]
    simp only [decide_true, decide_false, gwL, gwB, gwD, gwE, gwS, gwTT, gwZ, initG, Nat.reduceEqDiff, ↓reduceIte, Nat.reduceAdd, Nat.reduceLT, Nat.reduceLeDiff, List.map_cons, List.map_nil, builtS, builtinV, pureR, binV, sliceV, pickV, evO, Env.look, find, V.ofConst, resV, resOne, tupV, loadV, fillV, buildV, mkIface, litM, litS, litR, litRows, List.reverse_cons, List.reverse_nil, Nat.reduceMul, appS, memA, appendV, rowsOf, V.cells, TI.sized, TI.known, TI.agg, anL, List.length_cons, List.length_nil, List.append_nil, List.cons_append, List.nil_append, List.drop_succ_cons, List.drop_zero, List.drop_nil, List.take_succ_cons, List.take_zero, List.take_nil, List.getElem?_cons_zero, List.getElem?_cons_succ, List.all_cons, List.all_nil, List.replicate_succ, List.replicate_zero, List.set_cons_zero, List.set_cons_succ, eq_self, true_or, ne_eq, not_false_eq_true, Nat.reduceEqDiff]
    exact gives_of (wk_refl _) (wkSt_refl _) (by simp [V.lt, ltL]) hst
  rw [h]
  have hl40 : l.length ≤ 40 := by simp at h; omega
  simp only [decide_true, decide_false, gwL, gwB, gwD, gwE, gwS, gwTT, gwZ, initG, Nat.reduceEqDiff, ↓reduceIte, Nat.reduceAdd, Nat.reduceLT, Nat.reduceLeDiff, List.map_cons, List.map_nil, builtS, builtinV, pureR, binV, sliceV, pickV, evO, Env.look, find, V.ofConst, resV, resOne, tupV, loadV, fillV, buildV, mkIface, litM, litS, litR, litRows, List.reverse_cons, List.reverse_nil, Nat.reduceMul, appS, memA, appendV, rowsOf, V.cells, TI.sized, TI.known, TI.agg, anL, List.length_cons, List.length_nil, List.append_nil, List.cons_append, List.nil_append, List.drop_succ_cons, List.drop_zero, List.drop_nil, List.take_succ_cons, List.take_zero, List.take_nil, List.getElem?_cons_zero, List.getElem?_cons_succ, List.all_cons, List.all_nil, List.replicate_succ, List.replicate_zero, List.set_cons_zero, List.set_cons_succ, eq_self, true_or, ne_eq, not_false_eq_true, Nat.reduceEqDiff, List.length_map]
  refine vforD (σ := Nat) [0, 2, 12, 13, 14] (fun i => [(0, true, lstP l), (2, true, .ptr st.length 0), (12, true, lstP l), (13, true, .int .i64 l.length), (14, true, .int .i64 i)]) (fun i => st ++ [.box [.int .i64 0, .int .i64 0]]) (fun i => l.length - i) (fun i => i ≤ l.length ∧ wrongP l 0 = wrongP (l.drop i) i) 0 rfl TT_ok ⟨Nat.zero_le _, rfl⟩ (wkE_refl _) rfl ?_
  rintro i ⟨hi, hx⟩
  rw [hx]
  simp only [lstP]
  rcases at_or_end l i hi with ⟨rfl, hd⟩ | ⟨a, hlt, hget, hdr⟩
  · simp only [decide_true, decide_false, gwL, gwB, gwD, gwE, gwS, gwTT, gwZ, initG, Nat.reduceEqDiff, ↓reduceIte, Nat.reduceAdd, Nat.reduceLT, Nat.reduceLeDiff, List.map_cons, List.map_nil, builtS, builtinV, pureR, binV, sliceV, pickV, evO, Env.look, find, V.ofConst, resV, resOne, tupV, loadV, fillV, buildV, mkIface, litM, litS, litR, litRows, List.reverse_cons, List.reverse_nil, Nat.reduceMul, appS, memA, appendV, rowsOf, V.cells, TI.sized, TI.known, TI.agg, anL, List.length_cons, List.length_nil, List.append_nil, List.cons_append, List.nil_append, List.drop_succ_cons, List.drop_zero, List.drop_nil, List.take_succ_cons, List.take_zero, List.take_nil, List.getElem?_cons_zero, List.getElem?_cons_succ, List.all_cons, List.all_nil, List.replicate_succ, List.replicate_zero, List.set_cons_zero, List.set_cons_succ, eq_self, true_or, ne_eq, not_false_eq_true, Nat.reduceEqDiff, lt_no, hd, wrongP]
    exact gives_of (wk_refl _) (wkSt_refl _) (by simp [V.lt, ltL]) hst
  · have hfit := fit_rows hf.1.2 (List.mem_of_getElem? hget)
    obtain ⟨nm, body⟩ := a
    simp only [encP, lstC, fitL, V.fit, List.length_map] at hfit
    have hbl : body.length ≤ 9223372036854775807 := hfit.2.1.1
    simp only [decide_true, decide_false, gwL, gwB, gwD, gwE, gwS, gwTT, gwZ, initG, Nat.reduceEqDiff, ↓reduceIte, Nat.reduceAdd, Nat.reduceLT, Nat.reduceLeDiff, List.map_cons, List.map_nil, builtS, builtinV, pureR, binV, sliceV, pickV, evO, Env.look, find, V.ofConst, resV, resOne, tupV, loadV, fillV, buildV, mkIface, litM, litS, litR, litRows, List.reverse_cons, List.reverse_nil, Nat.reduceMul, appS, memA, appendV, rowsOf, V.cells, TI.sized, TI.known, TI.agg, anL, List.length_cons, List.length_nil, List.append_nil, List.cons_append, List.nil_append, List.drop_succ_cons, List.drop_zero, List.drop_nil, List.take_succ_cons, List.take_zero, List.take_nil, List.getElem?_cons_zero, List.getElem?_cons_succ, List.all_cons, List.all_nil, List.replicate_succ, List.replicate_zero, List.set_cons_zero, List.set_cons_succ, eq_self, true_or, ne_eq, not_false_eq_true, Nat.reduceEqDiff, lt_yes hlt, hdr, wrongP, List.length_map, getD_map hget, encP, lstC, Int.ofNat_lt.mpr hlt, Nat.le_refl]
    refine iK_split (fun h5 => ?_) (fun h5 => ?_)
    · rw [h5]
      simp only [decide_true, decide_false, gwL, gwB, gwD, gwE, gwS, gwTT, gwZ, initG, Nat.reduceEqDiff, ↓reduceIte, Nat.reduceAdd, Nat.reduceLT, Nat.reduceLeDiff, List.map_cons, List.map_nil, builtS, builtinV, pureR, binV, sliceV, pickV, evO, Env.look, find, V.ofConst, resV, resOne, tupV, loadV, fillV, buildV, mkIface, litM, litS, litR, litRows, List.reverse_cons, List.reverse_nil, Nat.reduceMul, appS, memA, appendV, rowsOf, V.cells, TI.sized, TI.known, TI.agg, anL, List.length_cons, List.length_nil, List.append_nil, List.cons_append, List.nil_append, List.drop_succ_cons, List.drop_zero, List.drop_nil, List.take_succ_cons, List.take_zero, List.take_nil, List.getElem?_cons_zero, List.getElem?_cons_succ, List.all_cons, List.all_nil, List.replicate_succ, List.replicate_zero, List.set_cons_zero, List.set_cons_succ, eq_self, true_or, ne_eq, not_false_eq_true, Nat.reduceEqDiff]
      exact gives_of (wk_refl _) (wkSt_refl _) (by simp [V.lt, ltL]) hst
    rw [h5]
    simp only [decide_true, decide_false, gwL, gwB, gwD, gwE, gwS, gwTT, gwZ, initG, Nat.reduceEqDiff, ↓reduceIte, Nat.reduceAdd, Nat.reduceLT, Nat.reduceLeDiff, List.map_cons, List.map_nil, builtS, builtinV, pureR, binV, sliceV, pickV, evO, Env.look, find, V.ofConst, resV, resOne, tupV, loadV, fillV, buildV, mkIface, litM, litS, litR, litRows, List.reverse_cons, List.reverse_nil, Nat.reduceMul, appS, memA, appendV, rowsOf, V.cells, TI.sized, TI.known, TI.agg, anL, List.length_cons, List.length_nil, List.append_nil, List.cons_append, List.nil_append, List.drop_succ_cons, List.drop_zero, List.drop_nil, List.take_succ_cons, List.take_zero, List.take_nil, List.getElem?_cons_zero, List.getElem?_cons_succ, List.all_cons, List.all_nil, List.replicate_succ, List.replicate_zero, List.set_cons_zero, List.set_cons_succ, eq_self, true_or, ne_eq, not_false_eq_true, Nat.reduceEqDiff, List.length_map]
    refine vforD (σ := Nat) [0, 2, 3, 4, 12, 13, 14, 27, 28] (fun j => [(0, true, lstP l), (2, true, .ptr st.length 0), (3, true, .int .i64 i), (4, true, .ptr (st.length + 1) 0), (12, true, lstP l), (13, true, .int .i64 l.length), (14, true, .int .i64 i), (27, true, .int .i64 body.length), (28, true, .int .i64 j)]) (fun j => st ++ [.box [.int .i64 0, .int .i64 0], .box [.str nm, lstC body]]) (fun j => body.length - j) (fun j => j ≤ body.length ∧ bodyE body = bodyE (body.drop j)) 0 rfl TT_ok ⟨Nat.zero_le _, rfl⟩ (wkE_refl _) rfl ?_
    rintro j ⟨hj, hy⟩
    rw [hy]
    simp only [lstP, lstC]
    rcases at_or_end body j hj with ⟨rfl, hd2⟩ | ⟨b, hlt2, hget2, hdr2⟩
    · simp only [decide_true, decide_false, gwL, gwB, gwD, gwE, gwS, gwTT, gwZ, initG, Nat.reduceEqDiff, ↓reduceIte, Nat.reduceAdd, Nat.reduceLT, Nat.reduceLeDiff, List.map_cons, List.map_nil, builtS, builtinV, pureR, binV, sliceV, pickV, evO, Env.look, find, V.ofConst, resV, resOne, tupV, loadV, fillV, buildV, mkIface, litM, litS, litR, litRows, List.reverse_cons, List.reverse_nil, Nat.reduceMul, appS, memA, appendV, rowsOf, V.cells, TI.sized, TI.known, TI.agg, anL, List.length_cons, List.length_nil, List.append_nil, List.cons_append, List.nil_append, List.drop_succ_cons, List.drop_zero, List.drop_nil, List.take_succ_cons, List.take_zero, List.take_nil, List.getElem?_cons_zero, List.getElem?_cons_succ, List.all_cons, List.all_nil, List.replicate_succ, List.replicate_zero, List.set_cons_zero, List.set_cons_succ, eq_self, true_or, ne_eq, not_false_eq_true, Nat.reduceEqDiff, lt_no, hd2, bodyE]
      refine ⟨i + 1, ⟨?_, st ++ [.box [.int .i64 0, .int .i64 0]], [.box [.str nm, .lst 12 none (body.map encC)]], by simp only [gwL], wkSt_refl _, ?_, ?_, by simp⟩, by omega, hlt, rfl⟩
      · simp only [decide_true, decide_false, gwL, gwB, gwD, gwE, gwS, gwTT, gwZ, initG, Nat.reduceEqDiff, ↓reduceIte, Nat.reduceAdd, Nat.reduceLT, Nat.reduceLeDiff, List.map_cons, List.map_nil, builtS, builtinV, pureR, binV, sliceV, pickV, evO, Env.look, find, V.ofConst, resV, resOne, tupV, loadV, fillV, buildV, mkIface, litM, litS, litR, litRows, List.reverse_cons, List.reverse_nil, Nat.reduceMul, appS, memA, appendV, rowsOf, V.cells, TI.sized, TI.known, TI.agg, anL, List.length_cons, List.length_nil, List.append_nil, List.cons_append, List.nil_append, List.drop_succ_cons, List.drop_zero, List.drop_nil, List.take_succ_cons, List.take_zero, List.take_nil, List.getElem?_cons_zero, List.getElem?_cons_succ, List.all_cons, List.all_nil, List.replicate_succ, List.replicate_zero, List.set_cons_zero, List.set_cons_succ, eq_self, true_or, ne_eq, not_false_eq_true, Nat.reduceEqDiff, Env.keep, next_i64 hlt (show l.length ≤ 9223372036854775807 by omega)]
        exact wkE_refl _
      · simp only [ltE, V.lt, gwL]
        exact ⟨lstP_lt _ _, by omega, lstP_lt _ _, trivial, trivial, trivial⟩
      · exact ok_app hst (by simp [ltEs, Ent.lt, ltL, V.lt])
    · simp only [decide_true, decide_false, gwL, gwB, gwD, gwE, gwS, gwTT, gwZ, initG, Nat.reduceEqDiff, ↓reduceIte, Nat.reduceAdd, Nat.reduceLT, Nat.reduceLeDiff, List.map_cons, List.map_nil, builtS, builtinV, pureR, binV, sliceV, pickV, evO, Env.look, find, V.ofConst, resV, resOne, tupV, loadV, fillV, buildV, mkIface, litM, litS, litR, litRows, List.reverse_cons, List.reverse_nil, Nat.reduceMul, appS, memA, appendV, rowsOf, V.cells, TI.sized, TI.known, TI.agg, anL, List.length_cons, List.length_nil, List.append_nil, List.cons_append, List.nil_append, List.drop_succ_cons, List.drop_zero, List.drop_nil, List.take_succ_cons, List.take_zero, List.take_nil, List.getElem?_cons_zero, List.getElem?_cons_succ, List.all_cons, List.all_nil, List.replicate_succ, List.replicate_zero, List.set_cons_zero, List.set_cons_succ, eq_self, true_or, ne_eq, not_false_eq_true, Nat.reduceEqDiff, lt_yes hlt2, hdr2, bodyE, List.length_map, getD_map hget2, Int.ofNat_lt.mpr hlt2, Nat.le_refl]
      refine (c_mshape b (st ++ [.box [.int .i64 0, .int .i64 0], .box [.str nm, .lst 12 none (body.map encC)], .box [.int .i64 0]]) (st.length + 2) 0 0 1 (by simp only [gwL]) (by omega) (by omega) (by omega) (by omega) (by omega) (by omega)).use (wkL_refl _) fun _ => ?_
      simp only [decide_true, decide_false, gwL, gwB, gwD, gwE, gwS, gwTT, gwZ, initG, Nat.reduceEqDiff, ↓reduceIte, Nat.reduceAdd, Nat.reduceLT, Nat.reduceLeDiff, List.map_cons, List.map_nil, builtS, builtinV, pureR, binV, sliceV, pickV, evO, Env.look, find, V.ofConst, resV, resOne, tupV, loadV, fillV, buildV, mkIface, litM, litS, litR, litRows, List.reverse_cons, List.reverse_nil, Nat.reduceMul, appS, memA, appendV, rowsOf, V.cells, TI.sized, TI.known, TI.agg, anL, List.length_cons, List.length_nil, List.append_nil, List.cons_append, List.nil_append, List.drop_succ_cons, List.drop_zero, List.drop_nil, List.take_succ_cons, List.take_zero, List.take_nil, List.getElem?_cons_zero, List.getElem?_cons_succ, List.all_cons, List.all_nil, List.replicate_succ, List.replicate_zero, List.set_cons_zero, List.set_cons_succ, eq_self, true_or, ne_eq, not_false_eq_true, Nat.reduceEqDiff]
      refine iK_split (fun h6 => ?_) (fun h6 => ?_)
      · rw [not_yes h6]
        simp only [decide_true, decide_false, gwL, gwB, gwD, gwE, gwS, gwTT, gwZ, initG, Nat.reduceEqDiff, ↓reduceIte, Nat.reduceAdd, Nat.reduceLT, Nat.reduceLeDiff, List.map_cons, List.map_nil, builtS, builtinV, pureR, binV, sliceV, pickV, evO, Env.look, find, V.ofConst, resV, resOne, tupV, loadV, fillV, buildV, mkIface, litM, litS, litR, litRows, List.reverse_cons, List.reverse_nil, Nat.reduceMul, appS, memA, appendV, rowsOf, V.cells, TI.sized, TI.known, TI.agg, anL, List.length_cons, List.length_nil, List.append_nil, List.cons_append, List.nil_append, List.drop_succ_cons, List.drop_zero, List.drop_nil, List.take_succ_cons, List.take_zero, List.take_nil, List.getElem?_cons_zero, List.getElem?_cons_succ, List.all_cons, List.all_nil, List.replicate_succ, List.replicate_zero, List.set_cons_zero, List.set_cons_succ, eq_self, true_or, ne_eq, not_false_eq_true, Nat.reduceEqDiff, not_yes h6]
        exact gives_of (wk_refl _) (wkSt_refl _) (by simp [V.lt, ltL]) hst
      · rw [not_no h6]
        simp only [decide_true, decide_false, gwL, gwB, gwD, gwE, gwS, gwTT, gwZ, initG, Nat.reduceEqDiff, ↓reduceIte, Nat.reduceAdd, Nat.reduceLT, Nat.reduceLeDiff, List.map_cons, List.map_nil, builtS, builtinV, pureR, binV, sliceV, pickV, evO, Env.look, find, V.ofConst, resV, resOne, tupV, loadV, fillV, buildV, mkIface, litM, litS, litR, litRows, List.reverse_cons, List.reverse_nil, Nat.reduceMul, appS, memA, appendV, rowsOf, V.cells, TI.sized, TI.known, TI.agg, anL, List.length_cons, List.length_nil, List.append_nil, List.cons_append, List.nil_append, List.drop_succ_cons, List.drop_zero, List.drop_nil, List.take_succ_cons, List.take_zero, List.take_nil, List.getElem?_cons_zero, List.getElem?_cons_succ, List.all_cons, List.all_nil, List.replicate_succ, List.replicate_zero, List.set_cons_zero, List.set_cons_succ, eq_self, true_or, ne_eq, not_false_eq_true, Nat.reduceEqDiff]
        refine ⟨j + 1, ⟨?_, st ++ [.box [.int .i64 0, .int .i64 0], .box [.str nm, .lst 12 none (body.map encC)]], [.box [.int .i64 (shapeC b 0 1 0).2]], by simp only [gwL], wkSt_refl _, ?_, ?_, by simp⟩, by omega, hlt2, rfl⟩
        · simp only [decide_true, decide_false, gwL, gwB, gwD, gwE, gwS, gwTT, gwZ, initG, Nat.reduceEqDiff, ↓reduceIte, Nat.reduceAdd, Nat.reduceLT, Nat.reduceLeDiff, List.map_cons, List.map_nil, builtS, builtinV, pureR, binV, sliceV, pickV, evO, Env.look, find, V.ofConst, resV, resOne, tupV, loadV, fillV, buildV, mkIface, litM, litS, litR, litRows, List.reverse_cons, List.reverse_nil, Nat.reduceMul, appS, memA, appendV, rowsOf, V.cells, TI.sized, TI.known, TI.agg, anL, List.length_cons, List.length_nil, List.append_nil, List.cons_append, List.nil_append, List.drop_succ_cons, List.drop_zero, List.drop_nil, List.take_succ_cons, List.take_zero, List.take_nil, List.getElem?_cons_zero, List.getElem?_cons_succ, List.all_cons, List.all_nil, List.replicate_succ, List.replicate_zero, List.set_cons_zero, List.set_cons_succ, eq_self, true_or, ne_eq, not_false_eq_true, Nat.reduceEqDiff, Env.keep, next_i64 hlt2 hbl]
          exact wkE_refl _
        · simp only [ltE, V.lt, gwL]
          exact ⟨lstP_lt _ _, by omega, trivial, by omega, lstP_lt _ _, trivial, trivial, trivial, trivial, trivial⟩
        · exact ok_app hst ⟨by simp [Ent.lt, ltL, V.lt], ⟨trivial, lstC_lt _ _, trivial⟩, trivial⟩
end Go.Proofs.Ytpfdoffnpkokhaa.Gx

namespace Go.Proofs.Ytpfdoffnpkokhaa.Gx
open Go Go.Proofs.Ytpfdoffnpkokhaa.Gw
set_option linter.unusedSimpArgs false

/-- An instruction. -/
structure Ins where
  op : Int
  a : Int := 0
  n : Int := 0
  lib : Str := []
  own : Str := []
  quote : Datum := .mk 0 0 [] 0 0 []
def encI (i : Ins) : List V := [.int .i64 i.op, .int .i64 i.a, .int .i64 i.n, .str i.lib, .str i.own] ++ encD i.quote
theorem encI_len (i : Ins) : (encI i).length = 11 := by simp only [encI, List.length_append, encD_len, List.length_cons, List.length_nil]
theorem encI_lt (n : Nat) (i : Ins) : ltL n (encI i) := ltL_append (by simp [ltL, V.lt]) (encD_lt n i.quote)
def noI : Ins := { op := 0 }
/-- The instruction of what is one alone. -/
def oneI : Core → Option Ins
  | .mk k ix n lib own q _ =>
    bif decide (k = 1) then some { op := 1, n := n } else bif decide (k = 2) then some { op := 2, n := n } else bif decide (k = 3) then some { op := 3, quote := bareD q }
    else bif decide (k = 4) then some { op := 4, a := ix } else bif decide (k = 5) then some { op := 5, lib := lib, own := own } else bif decide (k = 6) then some { op := 6, own := own } else none
def quoteC : Core → Prop
  | .mk k _ _ _ _ q _ => k = 3 → smallD q

theorem wk_ins (op a n : Int) (lib own : Str) : wkL [.int .i64 op, .int .i64 a, .int .i64 n, .str lib, .str own, .int .i64 0, .int .i64 0, .str [], .int .i64 0, .int .i64 0, .nils] (encI { op := op, a := a, n := n, lib := lib, own := own }) := by
  simp only [encI, encD_mk]
  exact wkL_cons (wk_refl _) (wkL_cons (wk_refl _) (wkL_cons (wk_refl _) (wkL_cons (wk_refl _) (wkL_cons (wk_refl _) (wkL_cons (wk_refl _) (wkL_cons (wk_refl _) (wkL_cons (wk_refl _) (wkL_cons (wk_refl _) (wkL_cons (wk_refl _) (wkL_cons (wk_nils _) wkL_nil))))))))))

set_option maxRecDepth 20000 in
set_option maxHeartbeats 4000000 in
theorem c_one (c : Core) (hc : quoteC c) (st : St) : VCalls Try.prog TT 23 [.ref (encC c)] st fun r st' => r = .ret (.tup [.agg (encI ((oneI c).getD noI)), .bool (oneI c).isSome]) ∧ st' = st := by
  obtain ⟨k, ix, n, lb, ow, q, kids⟩ := c
  refine vfun TT_ok (an := anL []) (L := [0, 2, 3, 7]) (rs := [.cell 2 46, .tmp 3]) Try.func23 rfl (by kernel_rfl) rfl Try.ntmps23 rfl rfl (Nat.le_refl _) fun hst ha hf => ?_
  simp only [encC_mk]
  unfold oneI
  have close : ∀ (i : Ins) (b : Bool) (l : List V) (ex : St), wkL l (encI i) → Gives (.tup [.agg (encI i), .bool b]) st (.ret (.tup [.agg l, .bool b])) (st ++ ex) := by
    intro i b l ex h
    refine gives_of (wk_tup (wkL_cons (wk_agg h) (wkL_refl _))) (wkSt_refl _) ?_ hst
    simp only [V.lt, ltL, and_true]
    exact encI_lt _ _
  simp only [decide_true, decide_false, gwL, gwB, gwD, gwE, gwS, gwTT, gwZ, initG, Nat.reduceEqDiff, ↓reduceIte, Nat.reduceAdd, Nat.reduceLT, Nat.reduceLeDiff, List.map_cons, List.map_nil, builtS, builtinV, pureR, binV, sliceV, pickV, evO, Env.look, find, V.ofConst, resV, resOne, tupV, loadV, fillV, buildV, mkIface, litM, litS, litR, litRows, List.reverse_cons, List.reverse_nil, Nat.reduceMul, appS, memA, appendV, rowsOf, V.cells, TI.sized, TI.known, TI.agg, anL, List.length_cons, List.length_nil, List.append_nil, List.cons_append, List.nil_append, List.drop_succ_cons, List.drop_zero, List.drop_nil, List.take_succ_cons, List.take_zero, List.take_nil, List.getElem?_cons_zero, List.getElem?_cons_succ, List.all_cons, List.all_nil, List.replicate_succ, List.replicate_zero, List.set_cons_zero, List.set_cons_succ, eq_self, true_or, ne_eq, not_false_eq_true, Nat.reduceEqDiff]
  refine iK_split (fun h1 => ?_) (fun h1 => ?_)
  · rw [h1]
    simp only [decide_true, decide_false, gwL, gwB, gwD, gwE, gwS, gwTT, gwZ, initG, Nat.reduceEqDiff, ↓reduceIte, Nat.reduceAdd, Nat.reduceLT, Nat.reduceLeDiff, List.map_cons, List.map_nil, builtS, builtinV, pureR, binV, sliceV, pickV, evO, Env.look, find, V.ofConst, resV, resOne, tupV, loadV, fillV, buildV, mkIface, litM, litS, litR, litRows, List.reverse_cons, List.reverse_nil, Nat.reduceMul, appS, memA, appendV, rowsOf, V.cells, TI.sized, TI.known, TI.agg, anL, List.length_cons, List.length_nil, List.append_nil, List.cons_append, List.nil_append, List.drop_succ_cons, List.drop_zero, List.drop_nil, List.take_succ_cons, List.take_zero, List.take_nil, List.getElem?_cons_zero, List.getElem?_cons_succ, List.all_cons, List.all_nil, List.replicate_succ, List.replicate_zero, List.set_cons_zero, List.set_cons_succ, eq_self, true_or, ne_eq, not_false_eq_true, Nat.reduceEqDiff, encD_drop_app, Option.isSome_some]
    exact close _ _ _ _ (wk_ins ..)
  rw [h1]
  simp only [decide_true, decide_false, gwL, gwB, gwD, gwE, gwS, gwTT, gwZ, initG, Nat.reduceEqDiff, ↓reduceIte, Nat.reduceAdd, Nat.reduceLT, Nat.reduceLeDiff, List.map_cons, List.map_nil, builtS, builtinV, pureR, binV, sliceV, pickV, evO, Env.look, find, V.ofConst, resV, resOne, tupV, loadV, fillV, buildV, mkIface, litM, litS, litR, litRows, List.reverse_cons, List.reverse_nil, Nat.reduceMul, appS, memA, appendV, rowsOf, V.cells, TI.sized, TI.known, TI.agg, anL, List.length_cons, List.length_nil, List.append_nil, List.cons_append, List.nil_append, List.drop_succ_cons, List.drop_zero, List.drop_nil, List.take_succ_cons, List.take_zero, List.take_nil, List.getElem?_cons_zero, List.getElem?_cons_succ, List.all_cons, List.all_nil, List.replicate_succ, List.replicate_zero, List.set_cons_zero, List.set_cons_succ, eq_self, true_or, ne_eq, not_false_eq_true, Nat.reduceEqDiff]
  refine iK_split (fun h2 => ?_) (fun h2 => ?_)
  · rw [h2]
    simp only [decide_true, decide_false, gwL, gwB, gwD, gwE, gwS, gwTT, gwZ, initG, Nat.reduceEqDiff, ↓reduceIte, Nat.reduceAdd, Nat.reduceLT, Nat.reduceLeDiff, List.map_cons, List.map_nil, builtS, builtinV, pureR, binV, sliceV, pickV, evO, Env.look, find, V.ofConst, resV, resOne, tupV, loadV, fillV, buildV, mkIface, litM, litS, litR, litRows, List.reverse_cons, List.reverse_nil, Nat.reduceMul, appS, memA, appendV, rowsOf, V.cells, TI.sized, TI.known, TI.agg, anL, List.length_cons, List.length_nil, List.append_nil, List.cons_append, List.nil_append, List.drop_succ_cons, List.drop_zero, List.drop_nil, List.take_succ_cons, List.take_zero, List.take_nil, List.getElem?_cons_zero, List.getElem?_cons_succ, List.all_cons, List.all_nil, List.replicate_succ, List.replicate_zero, List.set_cons_zero, List.set_cons_succ, eq_self, true_or, ne_eq, not_false_eq_true, Nat.reduceEqDiff, encD_drop_app, Option.isSome_some]
    exact close _ _ _ _ (wk_ins ..)
  rw [h2]
  simp only [decide_true, decide_false, gwL, gwB, gwD, gwE, gwS, gwTT, gwZ, initG, Nat.reduceEqDiff, ↓reduceIte, Nat.reduceAdd, Nat.reduceLT, Nat.reduceLeDiff, List.map_cons, List.map_nil, builtS, builtinV, pureR, binV, sliceV, pickV, evO, Env.look, find, V.ofConst, resV, resOne, tupV, loadV, fillV, buildV, mkIface, litM, litS, litR, litRows, List.reverse_cons, List.reverse_nil, Nat.reduceMul, appS, memA, appendV, rowsOf, V.cells, TI.sized, TI.known, TI.agg, anL, List.length_cons, List.length_nil, List.append_nil, List.cons_append, List.nil_append, List.drop_succ_cons, List.drop_zero, List.drop_nil, List.take_succ_cons, List.take_zero, List.take_nil, List.getElem?_cons_zero, List.getElem?_cons_succ, List.all_cons, List.all_nil, List.replicate_succ, List.replicate_zero, List.set_cons_zero, List.set_cons_succ, eq_self, true_or, ne_eq, not_false_eq_true, Nat.reduceEqDiff]
  refine iK_split (fun h3 => ?_) (fun h3 => ?_)
  · rw [h3]
    simp only [decide_true, decide_false, gwL, gwB, gwD, gwE, gwS, gwTT, gwZ, initG, Nat.reduceEqDiff, ↓reduceIte, Nat.reduceAdd, Nat.reduceLT, Nat.reduceLeDiff, List.map_cons, List.map_nil, builtS, builtinV, pureR, binV, sliceV, pickV, evO, Env.look, find, V.ofConst, resV, resOne, tupV, loadV, fillV, buildV, mkIface, litM, litS, litR, litRows, List.reverse_cons, List.reverse_nil, Nat.reduceMul, appS, memA, appendV, rowsOf, V.cells, TI.sized, TI.known, TI.agg, anL, List.length_cons, List.length_nil, List.append_nil, List.cons_append, List.nil_append, List.drop_succ_cons, List.drop_zero, List.drop_nil, List.take_succ_cons, List.take_zero, List.take_nil, List.getElem?_cons_zero, List.getElem?_cons_succ, List.all_cons, List.all_nil, List.replicate_succ, List.replicate_zero, List.set_cons_zero, List.set_cons_succ, eq_self, true_or, ne_eq, not_false_eq_true, Nat.reduceEqDiff, encD_drop_app, encD_take_app, encD_len_app, Option.isSome_some]
    refine (c_Bare q (hc (of_decide_eq_true h3)) _).use (wkL_refl _) fun _ => ?_
    simp only [decide_true, decide_false, gwL, gwB, gwD, gwE, gwS, gwTT, gwZ, initG, Nat.reduceEqDiff, ↓reduceIte, Nat.reduceAdd, Nat.reduceLT, Nat.reduceLeDiff, List.map_cons, List.map_nil, builtS, builtinV, pureR, binV, sliceV, pickV, evO, Env.look, find, V.ofConst, resV, resOne, tupV, loadV, fillV, buildV, mkIface, litM, litS, litR, litRows, List.reverse_cons, List.reverse_nil, Nat.reduceMul, appS, memA, appendV, rowsOf, V.cells, TI.sized, TI.known, TI.agg, anL, List.length_cons, List.length_nil, List.append_nil, List.cons_append, List.nil_append, List.drop_succ_cons, List.drop_zero, List.drop_nil, List.take_succ_cons, List.take_zero, List.take_nil, List.getElem?_cons_zero, List.getElem?_cons_succ, List.all_cons, List.all_nil, List.replicate_succ, List.replicate_zero, List.set_cons_zero, List.set_cons_succ, eq_self, true_or, ne_eq, not_false_eq_true, Nat.reduceEqDiff, encD_take, encD_drop, encD_len, Option.isSome_some]
    exact close _ _ _ _ (wkL_refl _)
  rw [h3]
  simp only [decide_true, decide_false, gwL, gwB, gwD, gwE, gwS, gwTT, gwZ, initG, Nat.reduceEqDiff, ↓reduceIte, Nat.reduceAdd, Nat.reduceLT, Nat.reduceLeDiff, List.map_cons, List.map_nil, builtS, builtinV, pureR, binV, sliceV, pickV, evO, Env.look, find, V.ofConst, resV, resOne, tupV, loadV, fillV, buildV, mkIface, litM, litS, litR, litRows, List.reverse_cons, List.reverse_nil, Nat.reduceMul, appS, memA, appendV, rowsOf, V.cells, TI.sized, TI.known, TI.agg, anL, List.length_cons, List.length_nil, List.append_nil, List.cons_append, List.nil_append, List.drop_succ_cons, List.drop_zero, List.drop_nil, List.take_succ_cons, List.take_zero, List.take_nil, List.getElem?_cons_zero, List.getElem?_cons_succ, List.all_cons, List.all_nil, List.replicate_succ, List.replicate_zero, List.set_cons_zero, List.set_cons_succ, eq_self, true_or, ne_eq, not_false_eq_true, Nat.reduceEqDiff]
  refine iK_split (fun h4 => ?_) (fun h4 => ?_)
  · rw [h4]
    simp only [decide_true, decide_false, gwL, gwB, gwD, gwE, gwS, gwTT, gwZ, initG, Nat.reduceEqDiff, ↓reduceIte, Nat.reduceAdd, Nat.reduceLT, Nat.reduceLeDiff, List.map_cons, List.map_nil, builtS, builtinV, pureR, binV, sliceV, pickV, evO, Env.look, find, V.ofConst, resV, resOne, tupV, loadV, fillV, buildV, mkIface, litM, litS, litR, litRows, List.reverse_cons, List.reverse_nil, Nat.reduceMul, appS, memA, appendV, rowsOf, V.cells, TI.sized, TI.known, TI.agg, anL, List.length_cons, List.length_nil, List.append_nil, List.cons_append, List.nil_append, List.drop_succ_cons, List.drop_zero, List.drop_nil, List.take_succ_cons, List.take_zero, List.take_nil, List.getElem?_cons_zero, List.getElem?_cons_succ, List.all_cons, List.all_nil, List.replicate_succ, List.replicate_zero, List.set_cons_zero, List.set_cons_succ, eq_self, true_or, ne_eq, not_false_eq_true, Nat.reduceEqDiff, encD_drop_app, Option.isSome_some]
    exact close _ _ _ _ (wk_ins ..)
  rw [h4]
  simp only [decide_true, decide_false, gwL, gwB, gwD, gwE, gwS, gwTT, gwZ, initG, Nat.reduceEqDiff, ↓reduceIte, Nat.reduceAdd, Nat.reduceLT, Nat.reduceLeDiff, List.map_cons, List.map_nil, builtS, builtinV, pureR, binV, sliceV, pickV, evO, Env.look, find, V.ofConst, resV, resOne, tupV, loadV, fillV, buildV, mkIface, litM, litS, litR, litRows, List.reverse_cons, List.reverse_nil, Nat.reduceMul, appS, memA, appendV, rowsOf, V.cells, TI.sized, TI.known, TI.agg, anL, List.length_cons, List.length_nil, List.append_nil, List.cons_append, List.nil_append, List.drop_succ_cons, List.drop_zero, List.drop_nil, List.take_succ_cons, List.take_zero, List.take_nil, List.getElem?_cons_zero, List.getElem?_cons_succ, List.all_cons, List.all_nil, List.replicate_succ, List.replicate_zero, List.set_cons_zero, List.set_cons_succ, eq_self, true_or, ne_eq, not_false_eq_true, Nat.reduceEqDiff]
  refine iK_split (fun h5 => ?_) (fun h5 => ?_)
  · rw [h5]
    simp only [decide_true, decide_false, gwL, gwB, gwD, gwE, gwS, gwTT, gwZ, initG, Nat.reduceEqDiff, ↓reduceIte, Nat.reduceAdd, Nat.reduceLT, Nat.reduceLeDiff, List.map_cons, List.map_nil, builtS, builtinV, pureR, binV, sliceV, pickV, evO, Env.look, find, V.ofConst, resV, resOne, tupV, loadV, fillV, buildV, mkIface, litM, litS, litR, litRows, List.reverse_cons, List.reverse_nil, Nat.reduceMul, appS, memA, appendV, rowsOf, V.cells, TI.sized, TI.known, TI.agg, anL, List.length_cons, List.length_nil, List.append_nil, List.cons_append, List.nil_append, List.drop_succ_cons, List.drop_zero, List.drop_nil, List.take_succ_cons, List.take_zero, List.take_nil, List.getElem?_cons_zero, List.getElem?_cons_succ, List.all_cons, List.all_nil, List.replicate_succ, List.replicate_zero, List.set_cons_zero, List.set_cons_succ, eq_self, true_or, ne_eq, not_false_eq_true, Nat.reduceEqDiff]
    refine vdraw TT_ok TT_mixed [0, 0, 0, 1, 0, 0, 0, 1, 0, 2, 0] (by kernel_rfl) ?_
    simp only [decide_true, decide_false, gwL, gwB, gwD, gwE, gwS, gwTT, gwZ, initG, Nat.reduceEqDiff, ↓reduceIte, Nat.reduceAdd, Nat.reduceLT, Nat.reduceLeDiff, List.map_cons, List.map_nil, builtS, builtinV, pureR, binV, sliceV, pickV, evO, Env.look, find, V.ofConst, resV, resOne, tupV, loadV, fillV, buildV, mkIface, litM, litS, litR, litRows, List.reverse_cons, List.reverse_nil, Nat.reduceMul, appS, memA, appendV, rowsOf, V.cells, TI.sized, TI.known, TI.agg, anL, List.length_cons, List.length_nil, List.append_nil, List.cons_append, List.nil_append, List.drop_succ_cons, List.drop_zero, List.drop_nil, List.take_succ_cons, List.take_zero, List.take_nil, List.getElem?_cons_zero, List.getElem?_cons_succ, List.all_cons, List.all_nil, List.replicate_succ, List.replicate_zero, List.set_cons_zero, List.set_cons_succ, eq_self, true_or, ne_eq, not_false_eq_true, Nat.reduceEqDiff, encD_drop_app, Option.isSome_some]
    exact close _ _ _ _ (wk_ins ..)
  rw [h5]
  simp only [decide_true, decide_false, gwL, gwB, gwD, gwE, gwS, gwTT, gwZ, initG, Nat.reduceEqDiff, ↓reduceIte, Nat.reduceAdd, Nat.reduceLT, Nat.reduceLeDiff, List.map_cons, List.map_nil, builtS, builtinV, pureR, binV, sliceV, pickV, evO, Env.look, find, V.ofConst, resV, resOne, tupV, loadV, fillV, buildV, mkIface, litM, litS, litR, litRows, List.reverse_cons, List.reverse_nil, Nat.reduceMul, appS, memA, appendV, rowsOf, V.cells, TI.sized, TI.known, TI.agg, anL, List.length_cons, List.length_nil, List.append_nil, List.cons_append, List.nil_append, List.drop_succ_cons, List.drop_zero, List.drop_nil, List.take_succ_cons, List.take_zero, List.take_nil, List.getElem?_cons_zero, List.getElem?_cons_succ, List.all_cons, List.all_nil, List.replicate_succ, List.replicate_zero, List.set_cons_zero, List.set_cons_succ, eq_self, true_or, ne_eq, not_false_eq_true, Nat.reduceEqDiff]
  refine iK_split (fun h6 => ?_) (fun h6 => ?_)
  · rw [h6]
    simp only [decide_true, decide_false, gwL, gwB, gwD, gwE, gwS, gwTT, gwZ, initG, Nat.reduceEqDiff, ↓reduceIte, Nat.reduceAdd, Nat.reduceLT, Nat.reduceLeDiff, List.map_cons, List.map_nil, builtS, builtinV, pureR, binV, sliceV, pickV, evO, Env.look, find, V.ofConst, resV, resOne, tupV, loadV, fillV, buildV, mkIface, litM, litS, litR, litRows, List.reverse_cons, List.reverse_nil, Nat.reduceMul, appS, memA, appendV, rowsOf, V.cells, TI.sized, TI.known, TI.agg, anL, List.length_cons, List.length_nil, List.append_nil, List.cons_append, List.nil_append, List.drop_succ_cons, List.drop_zero, List.drop_nil, List.take_succ_cons, List.take_zero, List.take_nil, List.getElem?_cons_zero, List.getElem?_cons_succ, List.all_cons, List.all_nil, List.replicate_succ, List.replicate_zero, List.set_cons_zero, List.set_cons_succ, eq_self, true_or, ne_eq, not_false_eq_true, Nat.reduceEqDiff, encD_drop_app, Option.isSome_some]
    exact close _ _ _ _ (wk_ins ..)
  rw [h6]
  simp only [decide_true, decide_false, gwL, gwB, gwD, gwE, gwS, gwTT, gwZ, initG, Nat.reduceEqDiff, ↓reduceIte, Nat.reduceAdd, Nat.reduceLT, Nat.reduceLeDiff, List.map_cons, List.map_nil, builtS, builtinV, pureR, binV, sliceV, pickV, evO, Env.look, find, V.ofConst, resV, resOne, tupV, loadV, fillV, buildV, mkIface, litM, litS, litR, litRows, List.reverse_cons, List.reverse_nil, Nat.reduceMul, appS, memA, appendV, rowsOf, V.cells, TI.sized, TI.known, TI.agg, anL, List.length_cons, List.length_nil, List.append_nil, List.cons_append, List.nil_append, List.drop_succ_cons, List.drop_zero, List.drop_nil, List.take_succ_cons, List.take_zero, List.take_nil, List.getElem?_cons_zero, List.getElem?_cons_succ, List.all_cons, List.all_nil, List.replicate_succ, List.replicate_zero, List.set_cons_zero, List.set_cons_succ, eq_self, true_or, ne_eq, not_false_eq_true, Nat.reduceEqDiff, Option.isSome_none]
  exact close _ _ _ _ (wk_ins ..)
end Go.Proofs.Ytpfdoffnpkokhaa.Gx

namespace Go.Proofs.Ytpfdoffnpkokhaa.Gx
open Go Go.Proofs.Ytpfdoffnpkokhaa.Gw
set_option linter.unusedSimpArgs false

def lstI (l : List Ins) : V := .lst 11 none (l.map encI)
theorem lstI_lt (n : Nat) (l : List Ins) : (lstI l).lt n := by
  simp only [lstI, V.lt]
  exact ⟨fun e h => (by cases h), ltRows_map fun x _ => encI_lt _ _⟩
theorem encI_mk (op a n : Int) (lb ow : Str) (q : Datum) : encI ⟨op, a, n, lb, ow, q⟩ = .int .i64 op :: .int .i64 a :: .int .i64 n :: .str lb :: .str ow :: encD q := rfl
def mvI (b : Int) (i : Ins) : Ins := bif decide (i.op = 9) || decide (i.op = 10) then { i with a := IntKind.i64.wrap (i.a + b) } else i

set_option maxRecDepth 20000 in
set_option maxHeartbeats 4000000 in
theorem c_moved (st : St) (l : List Ins) (b : Int) (hl : l.length ≤ 1000000000) : VCalls Try.prog TT 20 [lstI l, .int .i64 b] st fun r st' => r = .ret (lstI (l.map (mvI b))) ∧ st' = st := by
  refine vfun TT_ok (an := anL []) (L := [0, 1, 4, 5, 7, 8, 9, 10]) (rs := [.tmp 4]) Try.func20 rfl (by kernel_rfl) rfl Try.ntmps20 rfl rfl (Nat.le_refl _) fun hst ha hf => ?_
  simp only [lstI]
  simp only [decide_true, decide_false, gwL, gwB, gwD, gwE, gwS, gwTT, gwZ, initG, Nat.reduceEqDiff, ↓reduceIte, Nat.reduceAdd, Nat.reduceLT, Nat.reduceLeDiff, List.map_cons, List.map_nil, builtS, builtinV, pureR, binV, sliceV, pickV, evO, Env.look, find, V.ofConst, resV, resOne, tupV, loadV, fillV, buildV, mkIface, litM, litS, litR, litRows, List.reverse_cons, List.reverse_nil, Nat.reduceMul, appS, memA, appendV, rowsOf, V.cells, TI.sized, TI.known, TI.agg, anL, List.length_cons, List.length_nil, List.append_nil, List.cons_append, List.nil_append, List.drop_succ_cons, List.drop_zero, List.drop_nil, List.take_succ_cons, List.take_zero, List.take_nil, List.getElem?_cons_zero, List.getElem?_cons_succ, List.all_cons, List.all_nil, List.replicate_succ, List.replicate_zero, List.set_cons_zero, List.set_cons_succ, eq_self, true_or, ne_eq, not_false_eq_true, Nat.reduceEqDiff, List.length_map]
  refine vforT (σ := Nat) [46] [0, 1, 8, 9, 10, 5] (fun i => [(0, true, lstI l), (1, true, .int .i64 b), (8, true, lstI l), (9, true, .int .i64 l.length), (10, true, .int .i64 i), (5, true, .lst 11 (some st.length) ((l.take i).map fun x => encI (mvI b x)))]) (fun i => st ++ [.tip 46 i]) (fun i => l.length - i) (fun i => i ≤ l.length) 0 rfl TT_ok (Nat.zero_le _) ?_ ?_ ?_
  · simp only [decide_true, decide_false, gwL, gwB, gwD, gwE, gwS, gwTT, gwZ, initG, Nat.reduceEqDiff, ↓reduceIte, Nat.reduceAdd, Nat.reduceLT, Nat.reduceLeDiff, List.map_cons, List.map_nil, builtS, builtinV, pureR, binV, sliceV, pickV, evO, Env.look, find, V.ofConst, resV, resOne, tupV, loadV, fillV, buildV, mkIface, litM, litS, litR, litRows, List.reverse_cons, List.reverse_nil, Nat.reduceMul, appS, memA, appendV, rowsOf, V.cells, TI.sized, TI.known, TI.agg, anL, List.length_cons, List.length_nil, List.append_nil, List.cons_append, List.nil_append, List.drop_succ_cons, List.drop_zero, List.drop_nil, List.take_succ_cons, List.take_zero, List.take_nil, List.getElem?_cons_zero, List.getElem?_cons_succ, List.all_cons, List.all_nil, List.replicate_succ, List.replicate_zero, List.set_cons_zero, List.set_cons_succ, eq_self, true_or, ne_eq, not_false_eq_true, Nat.reduceEqDiff, Env.keep]
    exact wkE_cons (wk_refl _) (wkE_cons (wk_refl _) (wkE_cons (wk_refl _) (wkE_cons (wk_refl _) (wkE_cons (wk_refl _) (wkE_cons (wk_tip _ (by simp [Tips])) wkE_nil)))))
  · exact ⟨st, wkSt_refl _, by simp only [tips, List.map_cons, List.map_nil]⟩
  intro i hi
  simp only [lstI]
  rcases at_or_end l i hi with ⟨rfl, hd⟩ | ⟨a, hlt, hget, hdr⟩
  · simp only [decide_true, decide_false, gwL, gwB, gwD, gwE, gwS, gwTT, gwZ, initG, Nat.reduceEqDiff, ↓reduceIte, Nat.reduceAdd, Nat.reduceLT, Nat.reduceLeDiff, List.map_cons, List.map_nil, builtS, builtinV, pureR, binV, sliceV, pickV, evO, Env.look, find, V.ofConst, resV, resOne, tupV, loadV, fillV, buildV, mkIface, litM, litS, litR, litRows, List.reverse_cons, List.reverse_nil, Nat.reduceMul, appS, memA, appendV, rowsOf, V.cells, TI.sized, TI.known, TI.agg, anL, List.length_cons, List.length_nil, List.append_nil, List.cons_append, List.nil_append, List.drop_succ_cons, List.drop_zero, List.drop_nil, List.take_succ_cons, List.take_zero, List.take_nil, List.getElem?_cons_zero, List.getElem?_cons_succ, List.all_cons, List.all_nil, List.replicate_succ, List.replicate_zero, List.set_cons_zero, List.set_cons_succ, eq_self, true_or, ne_eq, not_false_eq_true, Nat.reduceEqDiff, lt_no, hd, List.take_length]
    have hm : (l.map (mvI b)).map encI = l.map (fun x => encI (mvI b x)) := by rw [List.map_map]; rfl
    rw [hm]
    refine gives_of (wk_tok _ _ _) (wkSt_refl _) ?_ hst
    simp only [V.lt]
    exact ⟨fun e h => (by cases h), ltRows_map fun x _ => encI_lt _ _⟩
  · obtain ⟨op, aa, nn, lb, ow, q⟩ := a
    simp only [decide_true, decide_false, gwL, gwB, gwD, gwE, gwS, gwTT, gwZ, initG, Nat.reduceEqDiff, ↓reduceIte, Nat.reduceAdd, Nat.reduceLT, Nat.reduceLeDiff, List.map_cons, List.map_nil, builtS, builtinV, pureR, binV, sliceV, pickV, evO, Env.look, find, V.ofConst, resV, resOne, tupV, loadV, fillV, buildV, mkIface, litM, litS, litR, litRows, List.reverse_cons, List.reverse_nil, Nat.reduceMul, appS, memA, appendV, rowsOf, V.cells, TI.sized, TI.known, TI.agg, anL, List.length_cons, List.length_nil, List.append_nil, List.cons_append, List.nil_append, List.drop_succ_cons, List.drop_zero, List.drop_nil, List.take_succ_cons, List.take_zero, List.take_nil, List.getElem?_cons_zero, List.getElem?_cons_succ, List.all_cons, List.all_nil, List.replicate_succ, List.replicate_zero, List.set_cons_zero, List.set_cons_succ, eq_self, true_or, ne_eq, not_false_eq_true, Nat.reduceEqDiff, lt_yes hlt, hdr, List.length_map, getD_map hget, encI_mk, encD_take, encD_len, encD_drop, Int.ofNat_lt.mpr hlt, Nat.le_refl]
    refine iK_split (fun hb => ?_) (fun hb => ?_)
    · simp only [decide_true, decide_false, gwL, gwB, gwD, gwE, gwS, gwTT, gwZ, initG, Nat.reduceEqDiff, ↓reduceIte, Nat.reduceAdd, Nat.reduceLT, Nat.reduceLeDiff, List.map_cons, List.map_nil, builtS, builtinV, pureR, binV, sliceV, pickV, evO, Env.look, find, V.ofConst, resV, resOne, tupV, loadV, fillV, buildV, mkIface, litM, litS, litR, litRows, List.reverse_cons, List.reverse_nil, Nat.reduceMul, appS, memA, appendV, rowsOf, V.cells, TI.sized, TI.known, TI.agg, anL, List.length_cons, List.length_nil, List.append_nil, List.cons_append, List.nil_append, List.drop_succ_cons, List.drop_zero, List.drop_nil, List.take_succ_cons, List.take_zero, List.take_nil, List.getElem?_cons_zero, List.getElem?_cons_succ, List.all_cons, List.all_nil, List.replicate_succ, List.replicate_zero, List.set_cons_zero, List.set_cons_succ, eq_self, true_or, ne_eq, not_false_eq_true, Nat.reduceEqDiff, encD_take, encD_len, encD_drop, List.length_map, List.length_take, Nat.min_eq_left hi, Nat.le_refl]
      refine ⟨by omega, ?_⟩
      refine ⟨i + 1, ⟨?_, st ++ [.tip 46 (i + 1)], [.box (.int .i64 op :: .int .i64 (IntKind.i64.wrap (aa + b)) :: .int .i64 nn :: .str lb :: .str ow :: encD q)], ?_, wkSt_refl _, ?_, ok_app hst (by simp [ltEs, Ent.lt]), by simp⟩, by omega, hlt⟩
      · simp only [decide_true, decide_false, gwL, gwB, gwD, gwE, gwS, gwTT, gwZ, initG, Nat.reduceEqDiff, ↓reduceIte, Nat.reduceAdd, Nat.reduceLT, Nat.reduceLeDiff, List.map_cons, List.map_nil, builtS, builtinV, pureR, binV, sliceV, pickV, evO, Env.look, find, V.ofConst, resV, resOne, tupV, loadV, fillV, buildV, mkIface, litM, litS, litR, litRows, List.reverse_cons, List.reverse_nil, Nat.reduceMul, appS, memA, appendV, rowsOf, V.cells, TI.sized, TI.known, TI.agg, anL, List.length_cons, List.length_nil, List.append_nil, List.cons_append, List.nil_append, List.drop_succ_cons, List.drop_zero, List.drop_nil, List.take_succ_cons, List.take_zero, List.take_nil, List.getElem?_cons_zero, List.getElem?_cons_succ, List.all_cons, List.all_nil, List.replicate_succ, List.replicate_zero, List.set_cons_zero, List.set_cons_succ, eq_self, true_or, ne_eq, not_false_eq_true, Nat.reduceEqDiff, Env.keep, next_i64 hlt (show l.length ≤ 9223372036854775807 by omega)]
        rw [take_next hget, List.map_append]
        have e : encI (mvI b { op := op, a := aa, n := nn, lib := lb, own := ow, quote := q }) = .int .i64 op :: .int .i64 (IntKind.i64.wrap (aa + b)) :: .int .i64 nn :: .str lb :: .str ow :: encD q := by
          simp only [mvI, hb, cond_true, cond_false, encI_mk]
        simp only [List.map_cons, List.map_nil, e]
        exact wkE_refl _
      · simp only [gwL]
      · simp only [ltE, V.lt, gwL]
        refine ⟨lstI_lt _ _, trivial, lstI_lt _ _, trivial, trivial, ⟨fun e he => by cases he; omega, ltRows_map fun x _ => encI_lt _ _⟩, trivial⟩
    · simp only [decide_true, decide_false, gwL, gwB, gwD, gwE, gwS, gwTT, gwZ, initG, Nat.reduceEqDiff, ↓reduceIte, Nat.reduceAdd, Nat.reduceLT, Nat.reduceLeDiff, List.map_cons, List.map_nil, builtS, builtinV, pureR, binV, sliceV, pickV, evO, Env.look, find, V.ofConst, resV, resOne, tupV, loadV, fillV, buildV, mkIface, litM, litS, litR, litRows, List.reverse_cons, List.reverse_nil, Nat.reduceMul, appS, memA, appendV, rowsOf, V.cells, TI.sized, TI.known, TI.agg, anL, List.length_cons, List.length_nil, List.append_nil, List.cons_append, List.nil_append, List.drop_succ_cons, List.drop_zero, List.drop_nil, List.take_succ_cons, List.take_zero, List.take_nil, List.getElem?_cons_zero, List.getElem?_cons_succ, List.all_cons, List.all_nil, List.replicate_succ, List.replicate_zero, List.set_cons_zero, List.set_cons_succ, eq_self, true_or, ne_eq, not_false_eq_true, Nat.reduceEqDiff, encD_take, encD_len, encD_drop, List.length_map, List.length_take, Nat.min_eq_left hi, Nat.le_refl]
      refine ⟨by omega, ?_⟩
      refine ⟨i + 1, ⟨?_, st ++ [.tip 46 (i + 1)], [.box (.int .i64 op :: .int .i64 aa :: .int .i64 nn :: .str lb :: .str ow :: encD q)], ?_, wkSt_refl _, ?_, ok_app hst (by simp [ltEs, Ent.lt]), by simp⟩, by omega, hlt⟩
      · simp only [decide_true, decide_false, gwL, gwB, gwD, gwE, gwS, gwTT, gwZ, initG, Nat.reduceEqDiff, ↓reduceIte, Nat.reduceAdd, Nat.reduceLT, Nat.reduceLeDiff, List.map_cons, List.map_nil, builtS, builtinV, pureR, binV, sliceV, pickV, evO, Env.look, find, V.ofConst, resV, resOne, tupV, loadV, fillV, buildV, mkIface, litM, litS, litR, litRows, List.reverse_cons, List.reverse_nil, Nat.reduceMul, appS, memA, appendV, rowsOf, V.cells, TI.sized, TI.known, TI.agg, anL, List.length_cons, List.length_nil, List.append_nil, List.cons_append, List.nil_append, List.drop_succ_cons, List.drop_zero, List.drop_nil, List.take_succ_cons, List.take_zero, List.take_nil, List.getElem?_cons_zero, List.getElem?_cons_succ, List.all_cons, List.all_nil, List.replicate_succ, List.replicate_zero, List.set_cons_zero, List.set_cons_succ, eq_self, true_or, ne_eq, not_false_eq_true, Nat.reduceEqDiff, Env.keep, next_i64 hlt (show l.length ≤ 9223372036854775807 by omega)]
        rw [take_next hget, List.map_append]
        have e : encI (mvI b { op := op, a := aa, n := nn, lib := lb, own := ow, quote := q }) = .int .i64 op :: .int .i64 aa :: .int .i64 nn :: .str lb :: .str ow :: encD q := by
          simp only [mvI, hb, cond_true, cond_false, encI_mk]
        simp only [List.map_cons, List.map_nil, e]
        exact wkE_refl _
      · simp only [gwL]
      · simp only [ltE, V.lt, gwL]
        refine ⟨lstI_lt _ _, trivial, lstI_lt _ _, trivial, trivial, ⟨fun e he => by cases he; omega, ltRows_map fun x _ => encI_lt _ _⟩, trivial⟩
end Go.Proofs.Ytpfdoffnpkokhaa.Gx

namespace Go.Proofs.Ytpfdoffnpkokhaa.Gx
open Go Go.Proofs.Ytpfdoffnpkokhaa.Gw
set_option linter.unusedSimpArgs false

/-- A call of what is told by a relation. -/
theorem useQ {P : Program} {T : Nat → TI} {an : Nat → Nat} {L : List Nat} {ds : List Deferred} {f : FuncId} {args args' : List V} {st : St} {Q0 : VEnd → St → Prop} {dst : Option Tmp} {gc : Bool} {all : Array Oper} {os : List Oper} {env : Env} {k : Kont} {Q : VExit → Env → St → Prop}
    (h : VCalls P T f args' st Q0) (hw : wkL args args') (h3 : ∀ v s, ¬ Q0 (.panic v) s) (h2 : ∀ X s, X.fit → Q0 (.ret X) s → oK P T an L ds all os (env.put L dst gc X) s k Q) : VCalls P T f args st (aK P T an L ds dst gc all os env k Q) :=
  (h.args hw).monoF fun r s hf hq => by
    cases r with
    | ret X => exact h2 X s hf hq
    | panic v => exact absurd hq (h3 v s)

/-- A procedure in the making. -/
structure Pr where
  args : Int
  code : List Ins
/-- Where a procedure's code lies: nowhere yet, or in an object. -/
def codeV (e : Option Nat) (n : Nat) : V := match e with | none => .nils | some o => .arr o n
def prRow (e : Option Nat) (p : Pr) : List V := [.int .i64 p.args, codeV e p.code.length]
def prRows : List (Option Nat) → List Pr → List (List V)
  | e :: es, p :: ps => prRow e p :: prRows es ps
  | _, _ => []

/-- A unit, as it lies. -/
structure US (s : St) (b P : Nat) (es : List (Option Nat)) (ps : List Pr) : Prop where
  len : es.length = ps.length
  box : s[b]? = some (.box [.arr P ps.length])
  arr : s[P]? = some (.arr 44 2 (prRows es ps))
  code : ∀ (k e : Nat) (p : Pr), es[k]? = some (some e) → ps[k]? = some p → s[e]? = some (.arr 46 11 (p.code.map encI))
  nil : ∀ (k : Nat) (p : Pr), es[k]? = some none → ps[k]? = some p → p.code = []
  one : ∀ (j k e : Nat), es[j]? = some (some e) → es[k]? = some (some e) → j = k

theorem prRows_len : ∀ {es : List (Option Nat)} {ps : List Pr}, es.length = ps.length → (prRows es ps).length = ps.length
  | [], [], _ => rfl
  | e :: es, p :: ps, h => by simp only [prRows, List.length_cons, prRows_len (es := es) (ps := ps) (by simpa using h)]
  | [], _ :: _, h => by simp at h
  | _ :: _, [], h => by simp at h
theorem prRows_get : ∀ {es : List (Option Nat)} {ps : List Pr} {k : Nat} {e : Option Nat} {p : Pr}, es[k]? = some e → ps[k]? = some p → (prRows es ps)[k]? = some (prRow e p)
  | [], _, k, e, p, h, _ => by simp at h
  | _ :: _, [], k, e, p, _, h => by simp at h
  | e' :: es, p' :: ps, 0, e, p, h, h2 => by simp at h h2; subst h; subst h2; rfl
  | e' :: es, p' :: ps, k + 1, e, p, h, h2 => by simpa [prRows] using prRows_get (es := es) (ps := ps) (by simpa using h) (by simpa using h2)

theorem c_here (s : St) (b P : Nat) (es : List (Option Nat)) (ps : List Pr) (h : US s b P es ps) (k : Nat) (e : Option Nat) (p : Pr) (he : es[k]? = some e) (hp : ps[k]? = some p) :
    VCalls Try.prog TT 24 [.ptr b 0, .int .i64 k] s fun r st' => r = .ret (.int .i64 p.code.length) ∧ st' = s := by
  refine vfun TT_ok (an := anL []) (L := [0, 1, 4]) (rs := [.tmp 4]) Try.func24 rfl (by kernel_rfl) rfl Try.ntmps24 rfl rfl (Nat.le_refl _) fun hst ha hf => ?_
  have hk : k < ps.length := (List.getElem?_eq_some_iff.1 hp).1
  have hg : (prRows es ps).getD k [] = prRow e p := getD_at (prRows_get he hp)
  cases e with
  | none =>
    have hc := h.nil k p he hp
    simp only [decide_true, decide_false, gwL, gwB, gwD, gwE, gwS, gwTT, gwZ, initG, Nat.reduceEqDiff, ↓reduceIte, Nat.reduceAdd, Nat.reduceLT, Nat.reduceLeDiff, List.map_cons, List.map_nil, builtS, builtinV, pureR, binV, sliceV, pickV, evO, Env.look, find, V.ofConst, resV, resOne, tupV, loadV, fillV, buildV, mkIface, litM, litS, litR, litRows, List.reverse_cons, List.reverse_nil, Nat.reduceMul, appS, memA, appendV, rowsOf, V.cells, TI.sized, TI.known, TI.agg, anL, List.length_cons, List.length_nil, List.append_nil, List.cons_append, List.nil_append, List.drop_succ_cons, List.drop_zero, List.drop_nil, List.take_succ_cons, List.take_zero, List.take_nil, List.getElem?_cons_zero, List.getElem?_cons_succ, List.all_cons, List.all_nil, List.replicate_succ, List.replicate_zero, List.set_cons_zero, List.set_cons_succ, eq_self, true_or, ne_eq, not_false_eq_true, Nat.reduceEqDiff, h.box, h.arr, hg, prRow, codeV, prRows_len h.len, Int.ofNat_lt.mpr hk]
    exact ⟨hk, gives_int (by rw [hc]; rfl) hst⟩
  | some o =>
    simp only [decide_true, decide_false, gwL, gwB, gwD, gwE, gwS, gwTT, gwZ, initG, Nat.reduceEqDiff, ↓reduceIte, Nat.reduceAdd, Nat.reduceLT, Nat.reduceLeDiff, List.map_cons, List.map_nil, builtS, builtinV, pureR, binV, sliceV, pickV, evO, Env.look, find, V.ofConst, resV, resOne, tupV, loadV, fillV, buildV, mkIface, litM, litS, litR, litRows, List.reverse_cons, List.reverse_nil, Nat.reduceMul, appS, memA, appendV, rowsOf, V.cells, TI.sized, TI.known, TI.agg, anL, List.length_cons, List.length_nil, List.append_nil, List.cons_append, List.nil_append, List.drop_succ_cons, List.drop_zero, List.drop_nil, List.take_succ_cons, List.take_zero, List.take_nil, List.getElem?_cons_zero, List.getElem?_cons_succ, List.all_cons, List.all_nil, List.replicate_succ, List.replicate_zero, List.set_cons_zero, List.set_cons_succ, eq_self, true_or, ne_eq, not_false_eq_true, Nat.reduceEqDiff, h.box, h.arr, hg, prRow, codeV, prRows_len h.len, Int.ofNat_lt.mpr hk]
    exact ⟨hk, gives_int rfl hst⟩
end Go.Proofs.Ytpfdoffnpkokhaa.Gx

namespace Go.Proofs.Ytpfdoffnpkokhaa.Gx
open Go Go.Proofs.Ytpfdoffnpkokhaa.Gw
set_option linter.unusedSimpArgs false

/-- What a unit's making leaves of the state as it is. -/
structure Fr (s : St) (b P : Nat) (es : List (Option Nat)) (s' : St) (es' : List (Option Nat)) : Prop where
  len : s.length ≤ s'.length
  keep : ∀ j : Nat, j < s.length → j ≠ b → j ≠ P → (∀ k : Nat, es[k]? ≠ some (some j)) → s'[j]? = s[j]?
  had : ∀ k e : Nat, es[k]? = some (some e) → es'[k]? = some (some e)
  fresh : ∀ k e : Nat, es'[k]? = some (some e) → es[k]? = some (some e) ∨ s.length ≤ e

theorem prRows_set : ∀ (es : List (Option Nat)) (ps : List Pr) (k : Nat) (e : Option Nat) (p : Pr), es.length = ps.length → (prRows es ps).set k (prRow e p) = prRows (es.set k e) (ps.set k p)
  | [], [], _, _, _, _ => rfl
  | x :: es, y :: ps, 0, e, p, _ => rfl
  | x :: es, y :: ps, k + 1, e, p, h => by simp only [prRows, List.set_cons_succ, prRows_set es ps k e p (by simpa using h)]
  | [], _ :: _, _, _, _, h => by simp at h
  | _ :: _, [], _, _, _, h => by simp at h

theorem set_get {α : Type} {l : List α} {k j : Nat} {a x : α} (h : (l.set k a)[j]? = some x) : (j = k ∧ x = a) ∨ (j ≠ k ∧ l[j]? = some x) := by
  by_cases e : k = j
  · subst e
    have hl : k < l.length := by simpa using (List.getElem?_eq_some_iff.1 h).1
    rw [List.getElem?_set_self hl] at h
    cases h
    exact .inl ⟨rfl, rfl⟩
  · rw [List.getElem?_set_ne e] at h
    exact .inr ⟨fun e' => e e'.symm, h⟩

/-- One entry more, or another one, of an array that is a procedure's code. -/
theorem US.put {s : St} {b P : Nat} {es : List (Option Nat)} {ps : List Pr} (h : US s b P es ps) {k : Nat} {p : Pr} (hp : ps[k]? = some p) {o : Nat} {c : List Ins} {a : Int} {s' : St}
    (hlen : s.length ≤ s'.length) (hb : s'[b]? = s[b]?) (hP : s'[P]? = some (.arr 44 2 ((prRows es ps).set k [.int .i64 a, .arr o c.length]))) (ho : s'[o]? = some (.arr 46 11 (c.map encI)))
    (hk : es[k]? = some (some o) ∨ es[k]? = some none ∧ s.length ≤ o) (hoth : ∀ j : Nat, j < s.length → j ≠ b → j ≠ P → j ≠ o → s'[j]? = s[j]?) :
    US s' b P (es.set k (some o)) (ps.set k ⟨a, c⟩) ∧ Fr s b P es s' (es.set k (some o)) := by
  have hbe : ∀ (j : Nat) (q : Pr) (e : Nat), es[j]? = some (some e) → ps[j]? = some q → e < s.length ∧ e ≠ b ∧ e ≠ P := by
    intro j q e h1 h2
    have h3 := h.code j e q h1 h2
    refine ⟨(List.getElem?_eq_some_iff.1 h3).1, fun e' => ?_, fun e' => ?_⟩
    · subst e'; rw [h.box] at h3; cases h3
    · subst e'; rw [h.arr] at h3; cases h3
  have hex : ∀ (j e : Nat), es[j]? = some (some e) → ∃ q, ps[j]? = some q := by
    intro j e h1
    have := (List.getElem?_eq_some_iff.1 h1).1
    exact ⟨ps[j]'(by rw [← h.len]; exact this), List.getElem?_eq_getElem (by rw [← h.len]; exact this)⟩
  refine ⟨⟨by simp [h.len], by rw [hb, h.box]; simp, ?_, fun j e q h1 h2 => ?_, fun j q h1 h2 => ?_, fun i j e h1 h2 => ?_⟩, ⟨hlen, fun j h1 h2 h3 h4 => hoth j h1 h2 h3 fun e => ?_, fun j e h1 => ?_, fun j e h1 => ?_⟩⟩
  · rw [hP]
    have := prRows_set es ps k (some o) ⟨a, c⟩ h.len
    simp only [prRow, codeV] at this
    rw [this]
  · replace h1 := set_get h1
    rcases h1 with ⟨rfl, h1⟩ | ⟨hne, h1⟩
    · cases h1
      replace h2 := set_get h2
      rcases h2 with ⟨_, rfl⟩ | ⟨hne, _⟩
      · exact ho
      · exact absurd rfl hne
    · replace h2 := set_get h2
      rcases h2 with ⟨hj, _⟩ | ⟨_, h2⟩
      · exact absurd hj hne
      · obtain ⟨q1, q2, q3⟩ := hbe j q e h1 h2
        rw [hoth e q1 q2 q3 ?_]
        · exact h.code j e q h1 h2
        · intro e'
          subst e'
          rcases hk with hk | hk
          · exact hne (h.one j k e h1 hk)
          · omega
  · replace h1 := set_get h1
    rcases h1 with ⟨rfl, h1⟩ | ⟨hne, h1⟩
    · cases h1
    · replace h2 := set_get h2
      rcases h2 with ⟨hj, _⟩ | ⟨_, h2⟩
      · exact absurd hj hne
      · exact h.nil j q h1 h2
  · have key : ∀ (j e : Nat), j ≠ k → es[j]? = some (some e) → e ≠ o := by
      intro j e hj g1 e'
      subst e'
      rcases hk with hk | hk
      · exact hj (h.one j k e g1 hk)
      · obtain ⟨q, hq⟩ := hex j e g1
        have := (hbe j q e g1 hq).1
        omega
    replace h1 := set_get h1
    replace h2 := set_get h2
    rcases h1 with ⟨rfl, h1⟩ | ⟨hn1, h1⟩ <;> rcases h2 with ⟨rfl, h2⟩ | ⟨hn2, h2⟩
    · rfl
    · cases h1; exact absurd rfl (key j _ hn2 h2)
    · cases h2; exact absurd rfl (key i _ hn1 h1)
    · exact h.one i j e h1 h2
  · subst e
    rcases hk with hk | hk
    · exact h4 k hk
    · omega
  · by_cases hj : k = j
    · subst hj
      have hl : k < es.length := (List.getElem?_eq_some_iff.1 h1).1
      rcases hk with hk | hk
      · rw [List.getElem?_set_self hl, ← hk, h1]
      · rw [hk.1] at h1; cases h1
    · rw [List.getElem?_set_ne hj]; exact h1
  · replace h1 := set_get h1
    rcases h1 with ⟨rfl, h1⟩ | ⟨hne, h1⟩
    · cases h1
      rcases hk with hk | hk
      · exact .inl hk
      · exact .inr hk.2
    · exact .inl h1

theorem c_emit (s : St) (b P : Nat) (es : List (Option Nat)) (ps : List Pr) (h : US s b P es ps) (k : Nat) (e : Option Nat) (p : Pr) (he : es[k]? = some e) (hp : ps[k]? = some p) (i : Ins) (hb : p.code.length ≤ 1000000000) :
    VCalls Try.prog TT 17 [.ptr b 0, .int .i64 k, .agg (encI i)] s fun r st' => r = .ret (.int .i64 p.code.length) ∧ ∃ e', US st' b P (es.set k (some e')) (ps.set k ⟨p.args, p.code ++ [i]⟩) ∧ Fr s b P es st' (es.set k (some e')) := by
  refine vfunQ TT_ok (an := anL [(5, 1), (21, 2)]) (L := [0, 1, 2, 5, 6, 7]) (rs := [.tmp 6]) Try.func17 rfl (by kernel_rfl) rfl Try.ntmps17 rfl rfl fun hst ha hf => ?_
  have hk : k < ps.length := (List.getElem?_eq_some_iff.1 hp).1
  have hg : (prRows es ps).getD k [] = prRow e p := getD_at (prRows_get he hp)
  have hit : (encI i).take 11 = encI i := List.take_of_length_le (by rw [encI_len]; exact Nat.le_refl _)
  cases e with
  | none =>
    have hc := h.nil k p he hp
    simp only [decide_true, decide_false, gwL, gwB, gwD, gwE, gwS, gwTT, gwZ, initG, Nat.reduceEqDiff, ↓reduceIte, Nat.reduceAdd, Nat.reduceLT, Nat.reduceLeDiff, List.map_cons, List.map_nil, builtS, builtinV, pureR, binV, sliceV, pickV, evO, Env.look, find, V.ofConst, resV, resOne, tupV, loadV, fillV, buildV, mkIface, litM, litS, litR, litRows, List.reverse_cons, List.reverse_nil, Nat.reduceMul, appS, memA, appendV, rowsOf, V.cells, TI.sized, TI.known, TI.agg, anL, List.length_cons, List.length_nil, List.append_nil, List.cons_append, List.nil_append, List.drop_succ_cons, List.drop_zero, List.drop_nil, List.take_succ_cons, List.take_zero, List.take_nil, List.getElem?_cons_zero, List.getElem?_cons_succ, List.all_cons, List.all_nil, List.replicate_succ, List.replicate_zero, List.set_cons_zero, List.set_cons_succ, eq_self, true_or, ne_eq, not_false_eq_true, Nat.reduceEqDiff, h.box, h.arr, hg, prRow, codeV, prRows_len h.len, Int.ofNat_lt.mpr hk]
    refine vdraw TT_ok TT_mixed [0, 0, 0, 1, 1, 1, 2, 0, 2] (by kernel_rfl) ?_
    simp only [decide_true, decide_false, gwL, gwB, gwD, gwE, gwS, gwTT, gwZ, initG, Nat.reduceEqDiff, ↓reduceIte, Nat.reduceAdd, Nat.reduceLT, Nat.reduceLeDiff, List.map_cons, List.map_nil, builtS, builtinV, pureR, binV, sliceV, pickV, evO, Env.look, find, V.ofConst, resV, resOne, tupV, loadV, fillV, buildV, mkIface, litM, litS, litR, litRows, List.reverse_cons, List.reverse_nil, Nat.reduceMul, appS, memA, appendV, rowsOf, V.cells, TI.sized, TI.known, TI.agg, anL, List.length_cons, List.length_nil, List.append_nil, List.cons_append, List.nil_append, List.drop_succ_cons, List.drop_zero, List.drop_nil, List.take_succ_cons, List.take_zero, List.take_nil, List.getElem?_cons_zero, List.getElem?_cons_succ, List.all_cons, List.all_nil, List.replicate_succ, List.replicate_zero, List.set_cons_zero, List.set_cons_succ, eq_self, true_or, ne_eq, not_false_eq_true, Nat.reduceEqDiff, h.box, h.arr, hg, prRow, codeV, prRows_len h.len, Int.ofNat_lt.mpr hk, hit, encI_len]
    have hP : P < s.length := (List.getElem?_eq_some_iff.1 h.arr).1
    have hB : b < s.length := (List.getElem?_eq_some_iff.1 h.box).1
    simp only [decide_true, decide_false, gwL, gwB, gwD, gwE, gwS, gwTT, gwZ, initG, Nat.reduceEqDiff, ↓reduceIte, Nat.reduceAdd, Nat.reduceLT, Nat.reduceLeDiff, List.map_cons, List.map_nil, builtS, builtinV, pureR, binV, sliceV, pickV, evO, Env.look, find, V.ofConst, resV, resOne, tupV, loadV, fillV, buildV, mkIface, litM, litS, litR, litRows, List.reverse_cons, List.reverse_nil, Nat.reduceMul, appS, memA, appendV, rowsOf, V.cells, TI.sized, TI.known, TI.agg, anL, List.length_cons, List.length_nil, List.append_nil, List.cons_append, List.nil_append, List.drop_succ_cons, List.drop_zero, List.drop_nil, List.take_succ_cons, List.take_zero, List.take_nil, List.getElem?_cons_zero, List.getElem?_cons_succ, List.all_cons, List.all_nil, List.replicate_succ, List.replicate_zero, List.set_cons_zero, List.set_cons_succ, eq_self, true_or, ne_eq, not_false_eq_true, Nat.reduceEqDiff, st_old hP, st_oldset hP, h.arr, hg, prRow, codeV, prRows_len h.len]
    have hsP : ∀ X l, (s.set P X ++ l)[P]? = some X := fun X l => by rw [st_old (by rw [List.length_set]; exact hP), List.getElem?_set_self hP]
    have hgs : ∀ R, ((prRows es ps).set k R).getD k [] = R := fun R => by rw [List.getD_eq_getElem?_getD, List.getElem?_set_self (by rw [prRows_len h.len]; exact hk)]; rfl
    refine ⟨hk, hk, ?_⟩
    simp only [decide_true, decide_false, gwL, gwB, gwD, gwE, gwS, gwTT, gwZ, initG, Nat.reduceEqDiff, ↓reduceIte, Nat.reduceAdd, Nat.reduceLT, Nat.reduceLeDiff, List.map_cons, List.map_nil, builtS, builtinV, pureR, binV, sliceV, pickV, evO, Env.look, find, V.ofConst, resV, resOne, tupV, loadV, fillV, buildV, mkIface, litM, litS, litR, litRows, List.reverse_cons, List.reverse_nil, Nat.reduceMul, appS, memA, appendV, rowsOf, V.cells, TI.sized, TI.known, TI.agg, anL, List.length_cons, List.length_nil, List.append_nil, List.cons_append, List.nil_append, List.drop_succ_cons, List.drop_zero, List.drop_nil, List.take_succ_cons, List.take_zero, List.take_nil, List.getElem?_cons_zero, List.getElem?_cons_succ, List.all_cons, List.all_nil, List.replicate_succ, List.replicate_zero, List.set_cons_zero, List.set_cons_succ, eq_self, true_or, ne_eq, not_false_eq_true, Nat.reduceEqDiff, hsP, hgs, List.length_set, prRows_len h.len, wrap_i64 (show -9223372036854775808 ≤ (1 : Int) - 1 by decide) (show (1 : Int) - 1 ≤ 9223372036854775807 by decide)]
    refine ⟨hk, by rw [hc]; rfl, s.length, ?_⟩
    refine h.put hp (c := p.code ++ [i]) (by simp) ?_ ?_ ?_ (.inr ⟨he, Nat.le_refl _⟩) fun j h1 h2 h3 h4 => ?_
    · rw [st_old (by rw [List.length_set]; exact hB), List.getElem?_set_ne]
      intro e; subst e; have := h.box; rw [h.arr] at this; cases this
    · rw [hsP, hc]; rfl
    · rw [List.getElem?_append_right (by rw [List.length_set]; exact Nat.le_refl _), List.length_set, Nat.sub_self, hc]; rfl
    · rw [st_old (by rw [List.length_set]; exact h1), List.getElem?_set_ne (fun e => h3 e.symm)]
  | some o =>
    simp only [decide_true, decide_false, gwL, gwB, gwD, gwE, gwS, gwTT, gwZ, initG, Nat.reduceEqDiff, ↓reduceIte, Nat.reduceAdd, Nat.reduceLT, Nat.reduceLeDiff, List.map_cons, List.map_nil, builtS, builtinV, pureR, binV, sliceV, pickV, evO, Env.look, find, V.ofConst, resV, resOne, tupV, loadV, fillV, buildV, mkIface, litM, litS, litR, litRows, List.reverse_cons, List.reverse_nil, Nat.reduceMul, appS, memA, appendV, rowsOf, V.cells, TI.sized, TI.known, TI.agg, anL, List.length_cons, List.length_nil, List.append_nil, List.cons_append, List.nil_append, List.drop_succ_cons, List.drop_zero, List.drop_nil, List.take_succ_cons, List.take_zero, List.take_nil, List.getElem?_cons_zero, List.getElem?_cons_succ, List.all_cons, List.all_nil, List.replicate_succ, List.replicate_zero, List.set_cons_zero, List.set_cons_succ, eq_self, true_or, ne_eq, not_false_eq_true, Nat.reduceEqDiff, h.box, h.arr, hg, prRow, codeV, prRows_len h.len, Int.ofNat_lt.mpr hk]
    have ho := h.code k o p he hp
    have hO : o < s.length := (List.getElem?_eq_some_iff.1 ho).1
    have hP : P < s.length := (List.getElem?_eq_some_iff.1 h.arr).1
    have hB : b < s.length := (List.getElem?_eq_some_iff.1 h.box).1
    have hne : o ≠ P := by intro e; subst e; rw [h.arr] at ho; cases ho
    have hoP : ∀ X, (s.set o X)[P]? = some (.arr 44 2 (prRows es ps)) := fun X => by rw [List.getElem?_set_ne hne, h.arr]
    have hsP : ∀ X Y, ((s.set o X).set P Y)[P]? = some Y := fun X Y => List.getElem?_set_self (by rw [List.length_set]; exact hP)
    have hgs : ∀ R, ((prRows es ps).set k R).getD k [] = R := fun R => by rw [List.getD_eq_getElem?_getD, List.getElem?_set_self (by rw [prRows_len h.len]; exact hk)]; rfl
    refine vdraw TT_ok TT_mixed [0, 0, 0, 1, 1, 1, 2, 0, 2] (by kernel_rfl) ?_
    simp only [decide_true, decide_false, gwL, gwB, gwD, gwE, gwS, gwTT, gwZ, initG, Nat.reduceEqDiff, ↓reduceIte, Nat.reduceAdd, Nat.reduceLT, Nat.reduceLeDiff, List.map_cons, List.map_nil, builtS, builtinV, pureR, binV, sliceV, pickV, evO, Env.look, find, V.ofConst, resV, resOne, tupV, loadV, fillV, buildV, mkIface, litM, litS, litR, litRows, List.reverse_cons, List.reverse_nil, Nat.reduceMul, appS, memA, appendV, rowsOf, V.cells, TI.sized, TI.known, TI.agg, anL, List.length_cons, List.length_nil, List.append_nil, List.cons_append, List.nil_append, List.drop_succ_cons, List.drop_zero, List.drop_nil, List.take_succ_cons, List.take_zero, List.take_nil, List.getElem?_cons_zero, List.getElem?_cons_succ, List.all_cons, List.all_nil, List.replicate_succ, List.replicate_zero, List.set_cons_zero, List.set_cons_succ, eq_self, true_or, ne_eq, not_false_eq_true, Nat.reduceEqDiff, h.box, h.arr, ho, hg, hoP, hsP, hgs, prRow, codeV, prRows_len h.len, Int.ofNat_lt.mpr hk, hit, encI_len, List.length_map]
    refine ⟨hk, by omega, hk, ⟨by rw [List.length_set, prRows_len h.len], hk⟩, by rw [wrap_i64 (by omega) (by omega)]; congr 2; omega, o, ?_⟩
    refine h.put hp (c := p.code ++ [i]) (by simp) ?_ ?_ ?_ (.inl he) fun j h1 h2 h3 h4 => ?_
    · have hbP : P ≠ b := by intro e; subst e; have := h.box; rw [h.arr] at this; cases this
      have hbO : o ≠ b := by intro e; subst e; rw [h.box] at ho; cases ho
      rw [List.getElem?_set_ne hbP, List.getElem?_set_ne hbO]
    · rw [hsP]; simp
    · rw [List.getElem?_set_ne (Ne.symm hne), List.getElem?_set_self hO]; simp
    · rw [List.getElem?_set_ne (fun e => h3 e.symm), List.getElem?_set_ne (fun e => h4 e.symm)]
end Go.Proofs.Ytpfdoffnpkokhaa.Gx

namespace Go.Proofs.Ytpfdoffnpkokhaa.Gx
open Go Go.Proofs.Ytpfdoffnpkokhaa.Gw
set_option linter.unusedSimpArgs false

def pushP (p : Nat) (i : Ins) (ps : List Pr) : List Pr := ps.modify p fun q => ⟨q.args, q.code ++ [i]⟩
def hereP (p : Nat) (ps : List Pr) : Nat := match ps[p]? with | some q => q.code.length | none => 0
def patchP (p n : Nat) (a : Int) (ps : List Pr) : List Pr := ps.modify p fun q => ⟨q.args, q.code.modify n fun i => { i with a := a }⟩

mutual
def exprP : Core → Nat → List Pr → List Pr
  | .mk k ix n lib own q kids, p, ps =>
    match oneI (.mk k ix n lib own q []) with
    | some i => pushP p i ps
    | none =>
      bif decide (k = 7) then ifP kids p ps
      else bif decide (k = 8) then pushP ps.length { op := 15 } (seqP kids ps.length (pushP p { op := 7, a := ps.length } (ps ++ [⟨ix, []⟩])))
      else bif decide (k = 12) then popsP kids true p ps
      else bif decide (k = 9) then pushP p { op := 8, a := (kids.length : Int) - 1 } (seqP kids p ps)
      else pushP p (bif decide (k = 10) then { op := 11, a := ix } else bif decide (k = 13) then { op := 13, lib := lib, own := own } else { op := 12, lib := lib, own := own }) (seqP kids p ps)
def seqP : List Core → Nat → List Pr → List Pr
  | [], _, ps => ps
  | c :: r, p, ps => seqP r p (exprP c p ps)
def popsP : List Core → Bool → Nat → List Pr → List Pr
  | [], _, _, ps => ps
  | c :: r, first, p, ps => popsP r false p (exprP c p (bif first then ps else pushP p { op := 14 } ps))
def ifP : List Core → Nat → List Pr → List Pr
  | a :: r, p, ps => thenP r p (hereP p (exprP a p ps)) (pushP p { op := 10 } (exprP a p ps))
  | [], _, ps => ps
def thenP : List Core → Nat → Nat → List Pr → List Pr
  | b :: r, p, no, ps =>
    elseP r p (hereP p (exprP b p ps)) (patchP p no (hereP p (pushP p { op := 9 } (exprP b p ps))) (pushP p { op := 9 } (exprP b p ps)))
  | [], _, _, ps => ps
def elseP : List Core → Nat → Nat → List Pr → List Pr
  | c :: _, p, stop, ps => patchP p stop (hereP p (exprP c p ps)) (exprP c p ps)
  | [], _, _, ps => ps
end
end Go.Proofs.Ytpfdoffnpkokhaa.Gx

namespace Go.Proofs.Ytpfdoffnpkokhaa.Gx
open Go Go.Proofs.Ytpfdoffnpkokhaa.Gw
set_option linter.unusedSimpArgs false

theorem US.app {s : St} {b P : Nat} {es : List (Option Nat)} {ps : List Pr} (h : US s b P es ps) (ex : St) : US (s ++ ex) b P es ps := by
  have g : ∀ {j : Nat} {e : Ent}, s[j]? = some e → (s ++ ex)[j]? = some e := fun {j e} hj => by rw [st_old (List.getElem?_eq_some_iff.1 hj).1, hj]
  exact ⟨h.len, g h.box, g h.arr, fun k e p h1 h2 => g (h.code k e p h1 h2), h.nil, h.one⟩
theorem Fr.app {s s' : St} {b P : Nat} {es es' : List (Option Nat)} (ex : St) (h : Fr (s ++ ex) b P es s' es') : Fr s b P es s' es' :=
  ⟨by have := h.len; rw [List.length_append] at this; omega, fun j h1 h2 h3 h4 => by rw [h.keep j (by rw [List.length_append]; omega) h2 h3 h4, st_old h1], h.had, fun k e hk => (h.fresh k e hk).imp id fun h => by rw [List.length_append] at h; omega⟩
theorem Fr.refl (s : St) (b P : Nat) (es : List (Option Nat)) : Fr s b P es s es := ⟨Nat.le_refl _, fun _ _ _ _ _ => rfl, fun _ _ h => h, fun _ _ h => .inl h⟩
theorem Fr.trans {s s' s'' : St} {b P : Nat} {es es' es'' : List (Option Nat)} (h : Fr s b P es s' es') (h' : Fr s' b P es' s'' es'') : Fr s b P es s'' es'' := by
  refine ⟨Nat.le_trans h.len h'.len, fun j h1 h2 h3 h4 => ?_, fun k e hk => h'.had k e (h.had k e hk), fun k e hk => ?_⟩
  · rw [h'.keep j (Nat.lt_of_lt_of_le h1 h.len) h2 h3 ?_, h.keep j h1 h2 h3 h4]
    intro k hk
    rcases h.fresh k j hk with h5 | h5
    · exact h4 k h5
    · omega
  · rcases h'.fresh k e hk with h5 | h5
    · exact h.fresh k e h5
    · exact .inr (Nat.le_trans h.len h5)

theorem prRows_app : ∀ (es : List (Option Nat)) (ps : List Pr) (e : Option Nat) (p : Pr), es.length = ps.length → prRows (es ++ [e]) (ps ++ [p]) = prRows es ps ++ [prRow e p]
  | [], [], _, _, _ => rfl
  | x :: es, y :: ps, e, p, h => by simp only [List.cons_append, prRows, prRows_app es ps e p (by simpa using h)]
  | [], _ :: _, _, _, h => by simp at h
  | _ :: _, [], _, _, h => by simp at h
theorem app_get {α : Type} {l : List α} {a x : α} {j : Nat} (h : (l ++ [a])[j]? = some x) : l[j]? = some x ∨ (j = l.length ∧ x = a) := by
  rcases Nat.lt_or_ge j l.length with hj | hj
  · rw [List.getElem?_append_left hj] at h; exact .inl h
  · have := (List.getElem?_eq_some_iff.1 h).1
    simp at this
    have e : j = l.length := by omega
    subst e
    simp at h
    exact .inr ⟨rfl, h.symm⟩
/-- A procedure more. -/
theorem US.more {s : St} {b P : Nat} {es : List (Option Nat)} {ps : List Pr} (h : US s b P es ps) (a : Int) :
    US ((s.set P (.arr 44 2 (prRows es ps ++ [[.int .i64 a, .nils]]))).set b (.box [.arr P (ps.length + 1)])) b P (es ++ [none]) (ps ++ [⟨a, []⟩]) ∧
    Fr s b P es ((s.set P (.arr 44 2 (prRows es ps ++ [[.int .i64 a, .nils]]))).set b (.box [.arr P (ps.length + 1)])) (es ++ [none]) := by
  have hP : P < s.length := (List.getElem?_eq_some_iff.1 h.arr).1
  have hB : b < s.length := (List.getElem?_eq_some_iff.1 h.box).1
  have hbP : b ≠ P := by intro e; subst e; have := h.box; rw [h.arr] at this; cases this
  have oth : ∀ j : Nat, j ≠ b → j ≠ P → ((s.set P (.arr 44 2 (prRows es ps ++ [[.int .i64 a, .nils]]))).set b (.box [.arr P (ps.length + 1)]))[j]? = s[j]? := fun j h1 h2 => by
    rw [List.getElem?_set_ne (Ne.symm h1), List.getElem?_set_ne (Ne.symm h2)]
  refine ⟨⟨by simp [h.len], by rw [List.getElem?_set_self (by rw [List.length_set]; exact hB)]; simp, ?_, fun k e p h1 h2 => ?_, fun k p h1 h2 => ?_, fun j k e h1 h2 => ?_⟩, ⟨by simp, fun j _ h2 h3 _ => oth j h2 h3, fun k e hk => ?_, fun k e hk => ?_⟩⟩
  · rw [List.getElem?_set_ne hbP, List.getElem?_set_self hP, prRows_app es ps none ⟨a, []⟩ h.len]; rfl
  · rcases app_get h1 with h1 | ⟨_, h1⟩
    · rcases app_get h2 with h2 | ⟨hj, _⟩
      · have hc := h.code k e p h1 h2
        rw [oth e ?_ ?_, hc]
        · intro e'; subst e'; rw [h.box] at hc; cases hc
        · intro e'; subst e'; rw [h.arr] at hc; cases hc
      · have := (List.getElem?_eq_some_iff.1 h1).1
        rw [h.len] at this; omega
    · cases h1
  · rcases app_get h1 with h1 | ⟨hj, _⟩
    · rcases app_get h2 with h2 | ⟨_, h2⟩
      · exact h.nil k p h1 h2
      · subst h2; rfl
    · rcases app_get h2 with h2 | ⟨_, h2⟩
      · have := (List.getElem?_eq_some_iff.1 h2).1
        rw [← h.len] at this; omega
      · subst h2; rfl
  · rcases app_get h1 with h1 | ⟨_, h1⟩
    · rcases app_get h2 with h2 | ⟨_, h2⟩
      · exact h.one j k e h1 h2
      · cases h2
    · cases h1
  · rw [List.getElem?_append_left (List.getElem?_eq_some_iff.1 hk).1]; exact hk
  · rcases app_get hk with hk | ⟨_, hk⟩
    · exact .inl hk
    · cases hk
end Go.Proofs.Ytpfdoffnpkokhaa.Gx

namespace Go.Proofs.Ytpfdoffnpkokhaa.Gx
open Go Go.Proofs.Ytpfdoffnpkokhaa.Gw
set_option linter.unusedSimpArgs false

theorem pushP_set {ps : List Pr} {k : Nat} {p : Pr} (h : ps[k]? = some p) (i : Ins) : pushP k i ps = ps.set k ⟨p.args, p.code ++ [i]⟩ := by
  unfold pushP
  apply List.ext_getElem?
  intro j
  rw [List.getElem?_modify]
  by_cases e : k = j
  · subst e
    rw [List.getElem?_set_self (List.getElem?_eq_some_iff.1 h).1, h]; simp
  · rw [List.getElem?_set_ne e]; simp [e]

/-- An instruction is added: by the unit's own words. -/
theorem c_emitP (s : St) (b P : Nat) (es : List (Option Nat)) (ps : List Pr) (h : US s b P es ps) (k : Nat) (hk : k < ps.length) (i : Ins) (hb : hereP k ps ≤ 1000000000) :
    VCalls Try.prog TT 17 [.ptr b 0, .int .i64 k, .agg (encI i)] s fun r st' => r = .ret (.int .i64 (hereP k ps)) ∧ ∃ es', US st' b P es' (pushP k i ps) ∧ Fr s b P es st' es' := by
  have hp : ps[k]? = some ps[k] := List.getElem?_eq_getElem hk
  have he : es[k]? = some (es[k]'(by rw [h.len]; exact hk)) := List.getElem?_eq_getElem _
  have e1 : hereP k ps = ps[k].code.length := by unfold hereP; rw [hp]
  rw [e1] at hb ⊢
  refine (c_emit s b P es ps h k _ _ he hp i hb).mono fun r s' ⟨h1, e', h2, h3⟩ => ⟨h1, _, ?_, h3⟩
  rw [pushP_set hp]
  exact h2
end Go.Proofs.Ytpfdoffnpkokhaa.Gx

namespace Go.Proofs.Ytpfdoffnpkokhaa.Gx
open Go Go.Proofs.Ytpfdoffnpkokhaa.Gw
set_option linter.unusedSimpArgs false

mutual
/-- A datum of a kind that there is, whose lists are few. -/
def goodD : Datum → Prop
  | .mk k _ _ s l kids => (k = 1 ∨ k = 2 ∨ k = 3 ∨ k = 4) ∧ (k = 4 → kids.length ≤ 2000 ∧ goodDs kids) ∧ (k = 3 → s = 0 ∧ l = 0)
def goodDs : List Datum → Prop
  | [] => True
  | d :: r => goodD d ∧ goodDs r
end
mutual
theorem goodD_small : ∀ d : Datum, goodD d → smallD d
  | .mk k n nm s l kids, h => by
    rw [goodD] at h
    rw [smallD]
    exact fun hk => ⟨(h.2.1 hk).1, goodDs_small kids (h.2.1 hk).2⟩
theorem goodDs_small : ∀ l : List Datum, goodDs l → smallDs l
  | [], _ => by rw [smallDs]; trivial
  | d :: r, h => by rw [goodDs] at h; rw [smallDs]; exact ⟨goodD_small d h.1, goodDs_small r h.2⟩
end
mutual
theorem shapeD_good : ∀ (d : Datum) (deep c : Int), 0 ≤ c → (shapeD d deep c).1 = 0 → goodD d ∧ c + 1 ≤ (shapeD d deep c).2
  | .mk k n nm s l kids, deep, c, h0, h => by
    rw [goodD]
    unfold shapeD at h ⊢
    cases h1 : (decide (2000 < c + 1) || decide (40 < deep)) with
    | true => rw [h1] at h; simp at h
    | false =>
      have hc : c + 1 ≤ 2000 := by simp at h1; omega
      rw [h1] at h
      simp only [cond_false] at h ⊢
      cases h2 : decide (k = 1) <;> rw [h2] at h <;> simp only [cond_false, cond_true] at h ⊢
      · have k1 := of_decide_eq_false h2
        cases h3 : decide (k = 2) <;> rw [h3] at h <;> simp only [cond_false, cond_true] at h ⊢
        · have k2 := of_decide_eq_false h3
          cases h4 : decide (k = 3) <;> rw [h4] at h <;> simp only [cond_false, cond_true] at h ⊢
          · cases h5 : decide (k = 4) <;> rw [h5] at h <;> simp only [cond_false, cond_true] at h ⊢
            · simp at h
            · have k4 := of_decide_eq_true h5
              have g := shapeDs_good kids (deep + 1) (c + 1) (by omega) hc h
              have t := shapeDs_ok kids (deep + 1) (c + 1) (by omega) hc h
              exact ⟨⟨by omega, fun _ => ⟨by omega, g.1⟩, fun h => by omega⟩, by omega⟩
          · have k3 := of_decide_eq_true h4
            refine ⟨⟨by omega, fun h => by omega, fun _ => ?_⟩, ?_⟩
            · revert h
              cases namedB nm <;> cases h6 : (decide (s = 0) && decide (l = 0)) <;> simp
              simpa using h6
            · cases namedB nm <;> cases (decide (s = 0) && decide (l = 0)) <;> simp
        · have k2 := of_decide_eq_true h3
          refine ⟨⟨by omega, fun h => by omega, fun h => by omega⟩, ?_⟩
          cases (decide (n = 0) || decide (n = 1)) <;> simp
      · have k1 := of_decide_eq_true h2
        refine ⟨⟨by omega, fun h => by omega, fun h => by omega⟩, ?_⟩
        cases (decide (1000000000000000 < n) || decide (n < -1000000000000000)) <;> simp
theorem shapeDs_good : ∀ (l : List Datum) (deep c : Int), 0 ≤ c → c ≤ 2000 → (shapeDs l deep c).1 = 0 → goodDs l ∧ c + l.length ≤ (shapeDs l deep c).2
  | [], deep, c, h0, h1, h => by simp only [goodDs, shapeDs, List.length_nil, true_and]; omega
  | d :: r, deep, c, h0, h1, h => by
    simp only [shapeDs] at h ⊢
    cases h2 : decide ((shapeD d deep c).1 = 0) with
    | true =>
      rw [h2] at h
      simp only [cond_true] at h ⊢
      have k1 := shapeD_good d deep c h0 (of_decide_eq_true h2)
      have k3 := shapeD_ok d deep c h0 (of_decide_eq_true h2)
      have k2 := shapeDs_good r deep _ (by omega) k3.2 h
      rw [goodDs, List.length_cons]
      exact ⟨⟨k1.1, k2.1⟩, by omega⟩
    | false =>
      rw [h2] at h
      simp only [cond_false] at h
      exact absurd h (of_decide_eq_false h2)
end
theorem wrongL_good {q : Datum} (h : (wrongL [q] 0 0).1 = 0) : goodD q := by
  simp only [wrongL] at h
  cases h2 : decide ((shapeD q 1 0).1 = 0) with
  | true => exact (shapeD_good q 1 0 (by omega) (of_decide_eq_true h2)).1
  | false => rw [h2] at h; simp only [cond_false] at h; exact absurd h (of_decide_eq_false h2)

mutual
def okC : Core → Prop
  | .mk k _ _ _ _ q kids => kindB k = true ∧ lenB k kids.length = true ∧ (k = 3 → goodD q) ∧ okCs kids
def okCs : List Core → Prop
  | [] => True
  | c :: r => okC c ∧ okCs r
end
theorem okCs_mem : ∀ {l : List Core} {c : Core}, okCs l → c ∈ l → okC c
  | [], c, _, h => by simp at h
  | x :: r, c, h, hd => by
    rw [okCs] at h
    rcases List.mem_cons.1 hd with rfl | hd
    · exact h.1
    · exact okCs_mem h.2 hd
mutual
def nodesC : Core → Nat
  | .mk _ _ _ _ _ _ kids => 1 + nodesCs kids
def nodesCs : List Core → Nat
  | [] => 0
  | c :: r => nodesC c + nodesCs r
end
theorem nodesC_pos (c : Core) : 1 ≤ nodesC c := by cases c; rw [nodesC]; omega
theorem nodesCs_len : ∀ l : List Core, l.length ≤ nodesCs l
  | [] => Nat.le_refl _
  | c :: r => by have := nodesCs_len r; have := nodesC_pos c; rw [nodesCs, List.length_cons]; omega
def tot : List Pr → Nat
  | [] => 0
  | p :: r => p.code.length + tot r
theorem tot_app : ∀ (a b : List Pr), tot (a ++ b) = tot a + tot b
  | [], b => by simp [tot]
  | p :: r, b => by simp only [List.cons_append, tot, tot_app r b]; omega
theorem hereP_tot : ∀ (ps : List Pr) (k : Nat), hereP k ps ≤ tot ps
  | [], k => by simp [hereP, tot]
  | p :: r, 0 => by simp [hereP, tot]
  | p :: r, k + 1 => by have := hereP_tot r k; simp only [hereP, tot, List.getElem?_cons_succ] at this ⊢; omega
theorem pushP_len (p : Nat) (i : Ins) (ps : List Pr) : (pushP p i ps).length = ps.length := by simp [pushP]
theorem patchP_len (p n : Nat) (a : Int) (ps : List Pr) : (patchP p n a ps).length = ps.length := by simp [patchP]
theorem pushP_tot : ∀ (ps : List Pr) (p : Nat) (i : Ins), tot (pushP p i ps) ≤ tot ps + 1
  | [], p, i => by simp [pushP, tot]
  | x :: r, 0, i => by simp [pushP, tot]; omega
  | x :: r, p + 1, i => by have := pushP_tot r p i; simp only [pushP, List.modify_succ_cons, tot] at this ⊢; omega
theorem patchP_tot : ∀ (ps : List Pr) (p n : Nat) (a : Int), tot (patchP p n a ps) = tot ps
  | [], p, n, a => by simp [patchP, tot]
  | x :: r, 0, n, a => by simp [patchP, tot]
  | x :: r, p + 1, n, a => by have := patchP_tot r p n a; simp only [patchP, List.modify_succ_cons, tot] at this ⊢; omega
mutual
theorem exprP_len : ∀ (c : Core) (p : Nat) (ps : List Pr), ps.length ≤ (exprP c p ps).length
  | .mk k ix n lib own q kids, p, ps => by
    unfold exprP
    split
    · rw [pushP_len]; exact Nat.le_refl _
    · simp only [Bool.cond_eq_ite]
      repeat' split
      · exact ifP_len kids p ps
      · rw [pushP_len]; refine Nat.le_trans ?_ (seqP_len kids _ _); rw [pushP_len, List.length_append]; omega
      · exact popsP_len kids true p ps
      all_goals rw [pushP_len]; exact seqP_len kids p ps
theorem seqP_len : ∀ (l : List Core) (p : Nat) (ps : List Pr), ps.length ≤ (seqP l p ps).length
  | [], p, ps => by rw [seqP]; exact Nat.le_refl _
  | c :: r, p, ps => by rw [seqP]; exact Nat.le_trans (exprP_len c p ps) (seqP_len r p _)
theorem popsP_len : ∀ (l : List Core) (f : Bool) (p : Nat) (ps : List Pr), ps.length ≤ (popsP l f p ps).length
  | [], f, p, ps => by rw [popsP]; exact Nat.le_refl _
  | c :: r, f, p, ps => by
    rw [popsP]
    refine Nat.le_trans ?_ (Nat.le_trans (exprP_len c p _) (popsP_len r false p _))
    cases f <;> simp [pushP_len]
theorem ifP_len : ∀ (l : List Core) (p : Nat) (ps : List Pr), ps.length ≤ (ifP l p ps).length
  | [], p, ps => by rw [ifP]; exact Nat.le_refl _
  | a :: r, p, ps => by rw [ifP]; refine Nat.le_trans ?_ (thenP_len r p _ _); rw [pushP_len]; exact exprP_len a p ps
theorem thenP_len : ∀ (l : List Core) (p n : Nat) (ps : List Pr), ps.length ≤ (thenP l p n ps).length
  | [], p, n, ps => by rw [thenP]; exact Nat.le_refl _
  | a :: r, p, n, ps => by rw [thenP]; refine Nat.le_trans ?_ (elseP_len r p _ _); rw [patchP_len, pushP_len]; exact exprP_len a p ps
theorem elseP_len : ∀ (l : List Core) (p n : Nat) (ps : List Pr), ps.length ≤ (elseP l p n ps).length
  | [], p, n, ps => by rw [elseP]; exact Nat.le_refl _
  | a :: r, p, n, ps => by rw [elseP, patchP_len]; exact exprP_len a p ps
end
mutual
theorem exprP_tot : ∀ (c : Core) (p : Nat) (ps : List Pr), tot (exprP c p ps) + 1 ≤ tot ps + 3 * nodesC c
  | .mk k ix n lib own q kids, p, ps => by
    rw [nodesC]
    unfold exprP
    split
    · have := pushP_tot ps p (by assumption); omega
    · simp only [Bool.cond_eq_ite]
      have h2 := seqP_tot kids p ps
      split
      · have := ifP_tot kids p ps; omega
      split
      · have h1 := seqP_tot kids ps.length (pushP p { op := 7, a := ps.length } (ps ++ [⟨ix, []⟩]))
        have h3 := pushP_tot (ps ++ [⟨ix, []⟩]) p { op := 7, a := ps.length }
        have h4 := pushP_tot (seqP kids ps.length (pushP p { op := 7, a := ps.length } (ps ++ [⟨ix, []⟩]))) ps.length { op := 15 }
        rw [tot_app] at h3
        simp only [tot, List.length_nil] at h3
        omega
      split
      · have := popsP_tot kids true p ps; omega
      split
      · have h4 := pushP_tot (seqP kids p ps) p { op := 8, a := (kids.length : Int) - 1 }
        omega
      · have h4 := pushP_tot (seqP kids p ps) p (if decide (k = 10) = true then { op := 11, a := ix } else if decide (k = 13) = true then { op := 13, lib := lib, own := own } else { op := 12, lib := lib, own := own })
        omega
theorem seqP_tot : ∀ (l : List Core) (p : Nat) (ps : List Pr), tot (seqP l p ps) + l.length ≤ tot ps + 3 * nodesCs l
  | [], p, ps => by simp [seqP, nodesCs]
  | c :: r, p, ps => by have h1 := exprP_tot c p ps; have h2 := seqP_tot r p (exprP c p ps); rw [seqP, nodesCs, List.length_cons]; omega
theorem popsP_tot : ∀ (l : List Core) (f : Bool) (p : Nat) (ps : List Pr), tot (popsP l f p ps) ≤ tot ps + 3 * nodesCs l
  | [], f, p, ps => by simp [popsP, nodesCs]
  | c :: r, f, p, ps => by
    rw [popsP, nodesCs]
    cases f with
    | true =>
      simp only [cond_true]
      have h1 := exprP_tot c p ps
      have h2 := popsP_tot r false p (exprP c p ps)
      omega
    | false =>
      simp only [cond_false]
      have h0 := pushP_tot ps p { op := 14 }
      have h1 := exprP_tot c p (pushP p { op := 14 } ps)
      have h2 := popsP_tot r false p (exprP c p (pushP p { op := 14 } ps))
      omega
theorem ifP_tot : ∀ (l : List Core) (p : Nat) (ps : List Pr), tot (ifP l p ps) ≤ tot ps + 3 * nodesCs l
  | [], p, ps => by simp [ifP, nodesCs]
  | a :: r, p, ps => by
    rw [ifP, nodesCs]
    have h1 := exprP_tot a p ps
    have h2 := pushP_tot (exprP a p ps) p { op := 10 }
    have h3 := thenP_tot r p (hereP p (exprP a p ps)) (pushP p { op := 10 } (exprP a p ps))
    omega
theorem thenP_tot : ∀ (l : List Core) (p n : Nat) (ps : List Pr), tot (thenP l p n ps) ≤ tot ps + 3 * nodesCs l
  | [], p, n, ps => by simp [thenP, nodesCs]
  | a :: r, p, n, ps => by
    rw [thenP, nodesCs]
    have h1 := exprP_tot a p ps
    have h2 := pushP_tot (exprP a p ps) p { op := 9 }
    have h4 := patchP_tot (pushP p { op := 9 } (exprP a p ps)) p n (hereP p (pushP p { op := 9 } (exprP a p ps)))
    have h3 := elseP_tot r p (hereP p (exprP a p ps)) (patchP p n (hereP p (pushP p { op := 9 } (exprP a p ps))) (pushP p { op := 9 } (exprP a p ps)))
    omega
theorem elseP_tot : ∀ (l : List Core) (p n : Nat) (ps : List Pr), tot (elseP l p n ps) ≤ tot ps + 3 * nodesCs l
  | [], p, n, ps => by simp [elseP, nodesCs]
  | a :: r, p, n, ps => by
    rw [elseP, nodesCs, patchP_tot]
    have h1 := exprP_tot a p ps
    omega
end
mutual
theorem exprP_top : ∀ (c : Core) (p : Nat) (ps : List Pr), (exprP c p ps).length ≤ ps.length + nodesC c
  | .mk k ix n lib own q kids, p, ps => by
    rw [nodesC]
    unfold exprP
    split
    · rw [pushP_len]; omega
    · simp only [Bool.cond_eq_ite]
      repeat' split
      · have := ifP_top kids p ps; omega
      · have := seqP_top kids ps.length (pushP p { op := 7, a := ps.length } (ps ++ [⟨ix, []⟩]))
        simp only [pushP_len, List.length_append, List.length_cons, List.length_nil] at this ⊢
        omega
      · have := popsP_top kids true p ps; omega
      all_goals rw [pushP_len]; have := seqP_top kids p ps; omega
theorem seqP_top : ∀ (l : List Core) (p : Nat) (ps : List Pr), (seqP l p ps).length ≤ ps.length + nodesCs l
  | [], p, ps => by rw [seqP]; omega
  | c :: r, p, ps => by rw [seqP, nodesCs]; have := exprP_top c p ps; have := seqP_top r p (exprP c p ps); omega
theorem popsP_top : ∀ (l : List Core) (f : Bool) (p : Nat) (ps : List Pr), (popsP l f p ps).length ≤ ps.length + nodesCs l
  | [], f, p, ps => by rw [popsP]; omega
  | c :: r, f, p, ps => by
    rw [popsP, nodesCs]
    have h1 := popsP_top r false p (exprP c p (bif f then ps else pushP p { op := 14 } ps))
    have h2 := exprP_top c p (bif f then ps else pushP p { op := 14 } ps)
    cases f <;> simp only [cond_true, cond_false, pushP_len] at h1 h2 ⊢ <;> omega
theorem ifP_top : ∀ (l : List Core) (p : Nat) (ps : List Pr), (ifP l p ps).length ≤ ps.length + nodesCs l
  | [], p, ps => by rw [ifP]; omega
  | a :: r, p, ps => by
    rw [ifP, nodesCs]
    have h1 := exprP_top a p ps
    have h2 := thenP_top r p (hereP p (exprP a p ps)) (pushP p { op := 10 } (exprP a p ps))
    rw [pushP_len] at h2
    omega
theorem thenP_top : ∀ (l : List Core) (p n : Nat) (ps : List Pr), (thenP l p n ps).length ≤ ps.length + nodesCs l
  | [], p, n, ps => by rw [thenP]; omega
  | a :: r, p, n, ps => by
    rw [thenP, nodesCs]
    have h1 := exprP_top a p ps
    have h2 := elseP_top r p (hereP p (exprP a p ps)) (patchP p n (hereP p (pushP p { op := 9 } (exprP a p ps))) (pushP p { op := 9 } (exprP a p ps)))
    rw [patchP_len, pushP_len] at h2
    omega
theorem elseP_top : ∀ (l : List Core) (p n : Nat) (ps : List Pr), (elseP l p n ps).length ≤ ps.length + nodesCs l
  | [], p, n, ps => by rw [elseP]; omega
  | a :: r, p, n, ps => by rw [elseP, nodesCs, patchP_len]; have := exprP_top a p ps; omega
end
theorem hereP_push (k p : Nat) (i : Ins) (ps : List Pr) : hereP k (pushP p i ps) = hereP k ps + (if p = k ∧ k < ps.length then 1 else 0) := by
  unfold hereP pushP
  rw [List.getElem?_modify]
  cases h : ps[k]? with
  | none =>
    have := List.getElem?_eq_none_iff.1 h
    rw [if_neg (by omega)]; by_cases e : p = k <;> simp [e]
  | some q =>
    have hk := (List.getElem?_eq_some_iff.1 h).1
    by_cases e : p = k
    · simp [e, hk]
    · simp [e]
theorem hereP_patch (k p n : Nat) (a : Int) (ps : List Pr) : hereP k (patchP p n a ps) = hereP k ps := by
  unfold hereP patchP
  rw [List.getElem?_modify]
  cases h : ps[k]? with
  | none => by_cases e : p = k <;> simp [e]
  | some q => by_cases e : p = k <;> simp [e]
theorem hereP_append (k : Nat) (ps l : List Pr) : hereP k ps ≤ hereP k (ps ++ l) := by
  unfold hereP
  rcases Nat.lt_or_ge k ps.length with h | h
  · rw [List.getElem?_append_left h]; exact Nat.le_refl _
  · rw [List.getElem?_eq_none h]; exact Nat.zero_le _
theorem hereP_le_push (k p : Nat) (i : Ins) (ps : List Pr) : hereP k ps ≤ hereP k (pushP p i ps) := by rw [hereP_push]; omega
mutual
theorem exprP_here : ∀ (c : Core) (p k : Nat) (ps : List Pr), hereP k ps ≤ hereP k (exprP c p ps)
  | .mk kd ix n lib own q kids, p, k, ps => by
    unfold exprP
    split
    · exact hereP_le_push ..
    · simp only [Bool.cond_eq_ite]
      repeat' split
      · exact ifP_here kids p k ps
      · exact Nat.le_trans (Nat.le_trans (hereP_append k ps _) (hereP_le_push ..)) (Nat.le_trans (seqP_here kids _ k _) (hereP_le_push ..))
      · exact popsP_here kids true p k ps
      all_goals exact Nat.le_trans (seqP_here kids p k ps) (hereP_le_push ..)
theorem seqP_here : ∀ (l : List Core) (p k : Nat) (ps : List Pr), hereP k ps ≤ hereP k (seqP l p ps)
  | [], p, k, ps => by rw [seqP]; exact Nat.le_refl _
  | c :: r, p, k, ps => by rw [seqP]; exact Nat.le_trans (exprP_here c p k ps) (seqP_here r p k _)
theorem popsP_here : ∀ (l : List Core) (f : Bool) (p k : Nat) (ps : List Pr), hereP k ps ≤ hereP k (popsP l f p ps)
  | [], f, p, k, ps => by rw [popsP]; exact Nat.le_refl _
  | c :: r, f, p, k, ps => by
    rw [popsP]
    refine Nat.le_trans ?_ (Nat.le_trans (exprP_here c p k _) (popsP_here r false p k _))
    cases f
    · exact hereP_le_push ..
    · exact Nat.le_refl _
theorem ifP_here : ∀ (l : List Core) (p k : Nat) (ps : List Pr), hereP k ps ≤ hereP k (ifP l p ps)
  | [], p, k, ps => by rw [ifP]; exact Nat.le_refl _
  | a :: r, p, k, ps => by rw [ifP]; exact Nat.le_trans (Nat.le_trans (exprP_here a p k ps) (hereP_le_push ..)) (thenP_here r p k _ _)
theorem thenP_here : ∀ (l : List Core) (p k n : Nat) (ps : List Pr), hereP k ps ≤ hereP k (thenP l p n ps)
  | [], p, k, n, ps => by rw [thenP]; exact Nat.le_refl _
  | a :: r, p, k, n, ps => by
    rw [thenP]
    refine Nat.le_trans (Nat.le_trans (exprP_here a p k ps) (hereP_le_push k p { op := 9 } _)) (Nat.le_trans (Nat.le_of_eq ?_) (elseP_here r p k _ _))
    rw [hereP_patch]
theorem elseP_here : ∀ (l : List Core) (p k n : Nat) (ps : List Pr), hereP k ps ≤ hereP k (elseP l p n ps)
  | [], p, k, n, ps => by rw [elseP]; exact Nat.le_refl _
  | a :: r, p, k, n, ps => by rw [elseP, hereP_patch]; exact exprP_here a p k ps
end
theorem hereP_get {k : Nat} {ps : List Pr} {n : Nat} (h : n < hereP k ps) : ∃ q, ps[k]? = some q ∧ n < q.code.length := by
  unfold hereP at h
  cases e : ps[k]? with
  | none => rw [e] at h; simp at h
  | some q => rw [e] at h; exact ⟨q, rfl, h⟩
mutual
/-- What is not wrong is such, and its nodes are counted. -/
theorem shapeC_good : ∀ (d : Core) (ar deep c : Int), 0 ≤ c → (shapeC d ar deep c).1 = 0 → okC d ∧ (shapeC d ar deep c).2 = c + nodesC d
  | .mk k i n lb o q kids, ar, deep, c, h0, h => by
    rw [okC, nodesC]
    unfold shapeC at h ⊢
    cases h1 : (decide (3000 < c + 1) || decide (300 < deep)) with
    | true => rw [h1] at h; simp at h
    | false =>
      have hc : c + 1 ≤ 3000 := by simp at h1; omega
      rw [h1] at h
      simp only [cond_false] at h ⊢
      cases h2 : kindB k <;> rw [h2] at h <;> simp only [Bool.not_false, Bool.not_true, cond_false, cond_true] at h ⊢
      · simp at h
      · cases h3 : lenB k kids.length <;> rw [h3] at h <;> simp only [Bool.not_false, Bool.not_true, cond_false, cond_true] at h ⊢
        · simp at h
        · cases h4 : decide (ownC k i n o q ar = 0) <;> rw [h4] at h <;> simp only [Bool.not_false, Bool.not_true, cond_false, cond_true] at h ⊢
          · exact absurd h (of_decide_eq_false h4)
          · have g := shapeCs_good kids _ (deep + 1) (c + 1) (by omega) hc h
            refine ⟨⟨trivial, trivial, fun h3 => ?_, g.1⟩, by rw [g.2]; omega⟩
            have := of_decide_eq_true h4
            subst h3
            exact wrongL_good (by simpa [ownC] using this)
theorem shapeCs_good : ∀ (l : List Core) (ar deep c : Int), 0 ≤ c → c ≤ 3000 → (shapeCs l ar deep c).1 = 0 → okCs l ∧ (shapeCs l ar deep c).2 = c + nodesCs l
  | [], ar, deep, c, h0, h1, h => by simp [okCs, shapeCs, nodesCs]
  | d :: r, ar, deep, c, h0, h1, h => by
    simp only [shapeCs] at h ⊢
    cases h2 : decide ((shapeC d ar deep c).1 = 0) with
    | true =>
      rw [h2] at h
      simp only [cond_true] at h ⊢
      have k1 := shapeC_good d ar deep c h0 (of_decide_eq_true h2)
      have k3 := shapeC_ok d ar deep c h0 (of_decide_eq_true h2)
      have k2 := shapeCs_good r ar deep _ (by omega) k3.2 h
      rw [okCs, nodesCs]
      exact ⟨⟨k1.1, k2.1⟩, by rw [k2.2, k1.2]; omega⟩
    | false =>
      rw [h2] at h
      simp only [cond_false] at h
      exact absurd h (of_decide_eq_false h2)
end
theorem bodyE_good : ∀ l : List Core, bodyE l = 0 → okCs l ∧ nodesCs l ≤ 3000 * l.length
  | [], _ => by simp [okCs, nodesCs]
  | c :: r, h => by
    simp only [bodyE] at h
    cases h2 : decide ((shapeC c 0 1 0).1 = 0) with
    | true =>
      rw [h2] at h
      simp only [cond_true] at h
      have k1 := shapeC_good c 0 1 0 (by omega) (of_decide_eq_true h2)
      have k3 := shapeC_ok c 0 1 0 (by omega) (of_decide_eq_true h2)
      have k2 := bodyE_good r h
      rw [okCs, nodesCs, List.length_cons]
      exact ⟨⟨k1.1, k2.1⟩, by omega⟩
    | false =>
      rw [h2] at h
      simp only [cond_false] at h
      exact absurd h (of_decide_eq_false h2)
theorem wrongPs_good {p : Part} (h : (wrongPs [p]).1 = 0) : okCs p.body ∧ nodesCs p.body ≤ 600000 ∧ p.body.length ≤ 200 := by
  simp only [wrongPs, List.length_cons, List.length_nil, wrongP] at h
  have e : decide ((40 : Int) < ((0 + 1 : Nat) : Int)) = false := by decide
  rw [e] at h
  simp only [cond_false] at h
  cases h1 : decide ((200 : Int) < p.body.length) with
  | true => rw [h1] at h; simp at h
  | false =>
    rw [h1] at h
    simp only [cond_false] at h
    have hl := of_decide_eq_false h1
    cases h2 : decide (bodyE p.body = 0) with
    | true =>
      have g := bodyE_good p.body (of_decide_eq_true h2)
      exact ⟨g.1, by omega, by omega⟩
    | false => rw [h2] at h; simp only [cond_false] at h; exact absurd h (of_decide_eq_false h2)
end Go.Proofs.Ytpfdoffnpkokhaa.Gx
