/- Contracts: letters, numbers, names. Contracts: what is wrong with data. -/
import Derived.Test.YtlblgbfpdlfedaaZO5

namespace Go.Proofs.Ytlblgbfpdlfedaa.Gx
open Go Go.Proofs.Ytlblgbfpdlfedaa.Gw
set_option linter.unusedSimpArgs false
set_option linter.unusedVariables false

theorem c_Letter (st : St) (b : UInt8) : VCalls Try.prog TT 53 [.int .u8 b.toNat] st fun r st' => r = .ret (.bool (letterB b)) ∧ st' = st := by
  refine vfun TT_ok (an := anL [(5, 1)]) (L := [0, 2, 4, 6, 7, 8]) (rs := [.tmp 2]) Try.func53 rfl (by kernel_rfl) rfl Try.ntmps53 rfl rfl (Nat.le_refl _) fun hst ha hf => ?_
  simp only [decide_true, decide_false, gwL, gwB, gwD, gwE, gwS, gwTT, gwZ, initG, Nat.reduceEqDiff, ↓reduceIte, Nat.reduceAdd, Nat.reduceLT, Nat.reduceLeDiff, List.map_cons, List.map_nil, builtS, builtinV, pureR, binV, aggEq, eqFs, eqCell, Option.bind_some, Option.map_some, and_self, List.headD_cons, sliceV, pickV, evO, Env.look, find, V.ofConst, resV, resOne, tupV, loadV, fillV, buildV, mkIface, litS, litRows, List.reverse_cons, List.reverse_nil, Nat.reduceMul, appS, memA, appendV, rowsOf, V.cells, TI.sized, TI.known, TI.agg, anL, List.length_cons, List.length_nil, List.append_nil, List.cons_append, List.nil_append, List.drop_succ_cons, List.drop_zero, List.drop_nil, List.take_succ_cons, List.take_zero, List.take_nil, List.getElem?_cons_zero, List.getElem?_cons_succ, List.all_cons, List.all_nil, List.replicate_succ, List.replicate_zero, List.set_cons_zero, List.set_cons_succ, eq_self, true_or, ne_eq, not_false_eq_true, Nat.reduceEqDiff]
  refine rK_lit (byteRows letters) (by kernel_rfl) ?_
  simp only [decide_true, decide_false, gwL, gwB, gwD, gwE, gwS, gwTT, gwZ, initG, Nat.reduceEqDiff, ↓reduceIte, Nat.reduceAdd, Nat.reduceLT, Nat.reduceLeDiff, List.map_cons, List.map_nil, builtS, builtinV, pureR, binV, aggEq, eqFs, eqCell, Option.bind_some, Option.map_some, and_self, List.headD_cons, sliceV, pickV, evO, Env.look, find, V.ofConst, resV, resOne, tupV, loadV, fillV, buildV, mkIface, litM, litS, litRows, List.reverse_cons, List.reverse_nil, Nat.reduceMul, appS, memA, appendV, rowsOf, V.cells, TI.sized, TI.known, TI.agg, anL, List.length_cons, List.length_nil, List.append_nil, List.cons_append, List.nil_append, List.drop_succ_cons, List.drop_zero, List.drop_nil, List.take_succ_cons, List.take_zero, List.take_nil, List.getElem?_cons_zero, List.getElem?_cons_succ, List.all_cons, List.all_nil, List.replicate_succ, List.replicate_zero, List.set_cons_zero, List.set_cons_succ, eq_self, true_or, ne_eq, not_false_eq_true, Nat.reduceEqDiff, convV, Nat.lt_irrefl]
  refine ⟨rfl, ?_⟩
  have hll : (byteRows letters).length = letters.length := by simp [byteRows]
  refine vfor (σ := Nat) [0, 2, 6, 7, 8] (fun i => [(0, true, .int .u8 b.toNat), (2, true, .bool false), (6, true, .lst 1 none (byteRows letters)), (7, true, .int .i64 (byteRows letters).length), (8, true, .int .i64 i)]) (fun i => st ++ [.gone]) (fun i => letters.length - i) (fun i => i ≤ letters.length ∧ letterB b = (letters.drop i).contains b) 0 rfl TT_ok ⟨Nat.zero_le _, rfl⟩ rfl rfl ?_
  rintro i ⟨hi, hx⟩
  rw [hx]
  rcases at_or_end letters i hi with ⟨rfl, hd⟩ | ⟨a, hlt, hget, hdr⟩
  · rw [hll]
    simp only [decide_true, decide_false, gwL, gwB, gwD, gwE, gwS, gwTT, gwZ, initG, Nat.reduceEqDiff, ↓reduceIte, Nat.reduceAdd, Nat.reduceLT, Nat.reduceLeDiff, List.map_cons, List.map_nil, builtS, builtinV, pureR, binV, aggEq, eqFs, eqCell, Option.bind_some, Option.map_some, and_self, List.headD_cons, sliceV, pickV, evO, Env.look, find, V.ofConst, resV, resOne, tupV, loadV, fillV, buildV, mkIface, litM, litS, litR, litRows, List.reverse_cons, List.reverse_nil, Nat.reduceMul, appS, memA, appendV, rowsOf, V.cells, TI.sized, TI.known, TI.agg, anL, List.length_cons, List.length_nil, List.append_nil, List.cons_append, List.nil_append, List.drop_succ_cons, List.drop_zero, List.drop_nil, List.take_succ_cons, List.take_zero, List.take_nil, List.getElem?_cons_zero, List.getElem?_cons_succ, List.all_cons, List.all_nil, List.replicate_succ, List.replicate_zero, List.set_cons_zero, List.set_cons_succ, eq_self, true_or, ne_eq, not_false_eq_true, Nat.reduceEqDiff, lt_no, hd]
    exact gives_bool' (by simp) hst
  · rw [hll]
    have hg : (byteRows letters).getD i [] = [V.int .u8 a.toNat] := getD_map hget
    simp only [decide_true, decide_false, gwL, gwB, gwD, gwE, gwS, gwTT, gwZ, initG, Nat.reduceEqDiff, ↓reduceIte, Nat.reduceAdd, Nat.reduceLT, Nat.reduceLeDiff, List.map_cons, List.map_nil, builtS, builtinV, pureR, binV, aggEq, eqFs, eqCell, Option.bind_some, Option.map_some, and_self, List.headD_cons, sliceV, pickV, evO, Env.look, find, V.ofConst, resV, resOne, tupV, loadV, fillV, buildV, mkIface, litM, litS, litR, litRows, List.reverse_cons, List.reverse_nil, Nat.reduceMul, appS, memA, appendV, rowsOf, V.cells, TI.sized, TI.known, TI.agg, anL, List.length_cons, List.length_nil, List.append_nil, List.cons_append, List.nil_append, List.drop_succ_cons, List.drop_zero, List.drop_nil, List.take_succ_cons, List.take_zero, List.take_nil, List.getElem?_cons_zero, List.getElem?_cons_succ, List.all_cons, List.all_nil, List.replicate_succ, List.replicate_zero, List.set_cons_zero, List.set_cons_succ, eq_self, true_or, ne_eq, not_false_eq_true, Nat.reduceEqDiff, lt_yes hlt, hdr, hll, hg, Int.ofNat_lt.mpr hlt]
    refine iK_split (fun h => ?_) (fun h => ?_)
    · have h' : a = b := UInt8.toNat_inj.mp (by simpa [Int.natCast_inj] using h)
      simp only [decide_true, decide_false, gwL, gwB, gwD, gwE, gwS, gwTT, gwZ, initG, Nat.reduceEqDiff, ↓reduceIte, Nat.reduceAdd, Nat.reduceLT, Nat.reduceLeDiff, List.map_cons, List.map_nil, builtS, builtinV, pureR, binV, aggEq, eqFs, eqCell, Option.bind_some, Option.map_some, and_self, List.headD_cons, sliceV, pickV, evO, Env.look, find, V.ofConst, resV, resOne, tupV, loadV, fillV, buildV, mkIface, litM, litS, litR, litRows, List.reverse_cons, List.reverse_nil, Nat.reduceMul, appS, memA, appendV, rowsOf, V.cells, TI.sized, TI.known, TI.agg, anL, List.length_cons, List.length_nil, List.append_nil, List.cons_append, List.nil_append, List.drop_succ_cons, List.drop_zero, List.drop_nil, List.take_succ_cons, List.take_zero, List.take_nil, List.getElem?_cons_zero, List.getElem?_cons_succ, List.all_cons, List.all_nil, List.replicate_succ, List.replicate_zero, List.set_cons_zero, List.set_cons_succ, eq_self, true_or, ne_eq, not_false_eq_true, Nat.reduceEqDiff]
      exact gives_bool' (by simp [h']) hst
    · have h' : ¬ a = b := fun e => by simp [e] at h
      simp only [decide_true, decide_false, gwL, gwB, gwD, gwE, gwS, gwTT, gwZ, initG, Nat.reduceEqDiff, ↓reduceIte, Nat.reduceAdd, Nat.reduceLT, Nat.reduceLeDiff, List.map_cons, List.map_nil, builtS, builtinV, pureR, binV, aggEq, eqFs, eqCell, Option.bind_some, Option.map_some, and_self, List.headD_cons, sliceV, pickV, evO, Env.look, find, V.ofConst, resV, resOne, tupV, loadV, fillV, buildV, mkIface, litM, litS, litR, litRows, List.reverse_cons, List.reverse_nil, Nat.reduceMul, appS, memA, appendV, rowsOf, V.cells, TI.sized, TI.known, TI.agg, anL, List.length_cons, List.length_nil, List.append_nil, List.cons_append, List.nil_append, List.drop_succ_cons, List.drop_zero, List.drop_nil, List.take_succ_cons, List.take_zero, List.take_nil, List.getElem?_cons_zero, List.getElem?_cons_succ, List.all_cons, List.all_nil, List.replicate_succ, List.replicate_zero, List.set_cons_zero, List.set_cons_succ, eq_self, true_or, ne_eq, not_false_eq_true, Nat.reduceEqDiff, Env.keep]
      have h'' : ¬ b = a := fun e => h' e.symm
      exact ⟨i + 1, by rw [next_i64 hlt (by decide)], by omega, hlt, by simp [List.contains_cons, h'']⟩

def digits : Str → Bool := fun s => s.all fun b => decide (48 ≤ b.toNat) && decide (b.toNat ≤ 57)
/-- Does a text look like a number? -/
def looksB (s : Str) : Bool := (match s with | 45 :: r => digits r && !r.isEmpty | r => digits r && !r.isEmpty)
theorem trimPre_minus (s : Str) : (digits (trimPre s [45]) && !(trimPre s [45]).isEmpty) = looksB s := by
  unfold trimPre hasPre looksB
  cases s with
  | nil => rfl
  | cons a r =>
    by_cases h : a = 45
    · subst h; simp
    · simp only [List.take_succ_cons, List.take_zero, List.length_cons, List.length_nil]
      simp [h]
theorem c_number (st : St) (s : Str) : VCalls Try.prog TT 60 [.str s] st fun r st' => r = .ret (.bool (looksB s)) ∧ st' = st := by
  refine vfun TT_ok (an := anL []) (L := [0, 2, 3, 7, 8]) (rs := [.tmp 2]) Try.func60 rfl (by kernel_rfl) rfl Try.ntmps60 rfl rfl (Nat.le_refl _) fun hst ha hf => ?_
  simp only [decide_true, decide_false, gwL, gwB, gwD, gwE, gwS, gwTT, gwZ, initG, Nat.reduceEqDiff, ↓reduceIte, Nat.reduceAdd, Nat.reduceLT, Nat.reduceLeDiff, List.map_cons, List.map_nil, builtS, builtinV, pureR, binV, aggEq, eqFs, eqCell, Option.bind_some, Option.map_some, and_self, List.headD_cons, sliceV, pickV, evO, Env.look, find, V.ofConst, resV, resOne, tupV, loadV, fillV, buildV, mkIface, litM, litS, litR, litRows, List.reverse_cons, List.reverse_nil, Nat.reduceMul, appS, memA, appendV, rowsOf, V.cells, TI.sized, TI.known, TI.agg, anL, List.length_cons, List.length_nil, List.append_nil, List.cons_append, List.nil_append, List.drop_succ_cons, List.drop_zero, List.drop_nil, List.take_succ_cons, List.take_zero, List.take_nil, List.getElem?_cons_zero, List.getElem?_cons_succ, List.all_cons, List.all_nil, List.replicate_succ, List.replicate_zero, List.set_cons_zero, List.set_cons_succ, eq_self, true_or, ne_eq, not_false_eq_true, Nat.reduceEqDiff]
  refine (c_TrimPrefix st s [45]).use (wkL_refl _) fun hfx => ?_
  rw [← trimPre_minus s]
  simp only [V.fit] at hfx
  generalize trimPre s [45] = t at hfx ⊢
  simp only [decide_true, decide_false, gwL, gwB, gwD, gwE, gwS, gwTT, gwZ, initG, Nat.reduceEqDiff, ↓reduceIte, Nat.reduceAdd, Nat.reduceLT, Nat.reduceLeDiff, List.map_cons, List.map_nil, builtS, builtinV, pureR, binV, aggEq, eqFs, eqCell, Option.bind_some, Option.map_some, and_self, List.headD_cons, sliceV, pickV, evO, Env.look, find, V.ofConst, resV, resOne, tupV, loadV, fillV, buildV, mkIface, litM, litS, litR, litRows, List.reverse_cons, List.reverse_nil, Nat.reduceMul, appS, memA, appendV, rowsOf, V.cells, TI.sized, TI.known, TI.agg, anL, List.length_cons, List.length_nil, List.append_nil, List.cons_append, List.nil_append, List.drop_succ_cons, List.drop_zero, List.drop_nil, List.take_succ_cons, List.take_zero, List.take_nil, List.getElem?_cons_zero, List.getElem?_cons_succ, List.all_cons, List.all_nil, List.replicate_succ, List.replicate_zero, List.set_cons_zero, List.set_cons_succ, eq_self, true_or, ne_eq, not_false_eq_true, Nat.reduceEqDiff]
  refine vfor (σ := Nat) [0, 2, 7, 8] (fun i => [(0, true, .str t), (2, true, .bool false), (7, true, .int .i64 t.length), (8, true, .int .i64 i)]) (fun i => st) (fun i => t.length - i) (fun i => i ≤ t.length ∧ digits t = digits (t.drop i)) 0 rfl TT_ok ⟨Nat.zero_le _, rfl⟩ rfl rfl ?_
  rintro i ⟨hi, hx⟩
  rw [hx]
  rcases at_or_end t i hi with ⟨rfl, hd⟩ | ⟨a, hlt, hget, hdr⟩
  · simp only [decide_true, decide_false, gwL, gwB, gwD, gwE, gwS, gwTT, gwZ, initG, Nat.reduceEqDiff, ↓reduceIte, Nat.reduceAdd, Nat.reduceLT, Nat.reduceLeDiff, List.map_cons, List.map_nil, builtS, builtinV, pureR, binV, aggEq, eqFs, eqCell, Option.bind_some, Option.map_some, and_self, List.headD_cons, sliceV, pickV, evO, Env.look, find, V.ofConst, resV, resOne, tupV, loadV, fillV, buildV, mkIface, litM, litS, litR, litRows, List.reverse_cons, List.reverse_nil, Nat.reduceMul, appS, memA, appendV, rowsOf, V.cells, TI.sized, TI.known, TI.agg, anL, List.length_cons, List.length_nil, List.append_nil, List.cons_append, List.nil_append, List.drop_succ_cons, List.drop_zero, List.drop_nil, List.take_succ_cons, List.take_zero, List.take_nil, List.getElem?_cons_zero, List.getElem?_cons_succ, List.all_cons, List.all_nil, List.replicate_succ, List.replicate_zero, List.set_cons_zero, List.set_cons_succ, eq_self, true_or, ne_eq, not_false_eq_true, Nat.reduceEqDiff, lt_no, hd]
    exact gives_bool (by cases t <;> simp [digits]) hst
  · simp only [decide_true, decide_false, gwL, gwB, gwD, gwE, gwS, gwTT, gwZ, initG, Nat.reduceEqDiff, ↓reduceIte, Nat.reduceAdd, Nat.reduceLT, Nat.reduceLeDiff, List.map_cons, List.map_nil, builtS, builtinV, pureR, binV, aggEq, eqFs, eqCell, Option.bind_some, Option.map_some, and_self, List.headD_cons, sliceV, pickV, evO, Env.look, find, V.ofConst, resV, resOne, tupV, loadV, fillV, buildV, mkIface, litM, litS, litR, litRows, List.reverse_cons, List.reverse_nil, Nat.reduceMul, appS, memA, appendV, rowsOf, V.cells, TI.sized, TI.known, TI.agg, anL, List.length_cons, List.length_nil, List.append_nil, List.cons_append, List.nil_append, List.drop_succ_cons, List.drop_zero, List.drop_nil, List.take_succ_cons, List.take_zero, List.take_nil, List.getElem?_cons_zero, List.getElem?_cons_succ, List.all_cons, List.all_nil, List.replicate_succ, List.replicate_zero, List.set_cons_zero, List.set_cons_succ, eq_self, true_or, ne_eq, not_false_eq_true, Nat.reduceEqDiff, lt_yes hlt, hdr, getD_at hget, Int.ofNat_lt.mpr hlt]
    refine iK_split (fun h => ?_) (fun h => ?_)
    · simp only [decide_true, decide_false, gwL, gwB, gwD, gwE, gwS, gwTT, gwZ, initG, Nat.reduceEqDiff, ↓reduceIte, Nat.reduceAdd, Nat.reduceLT, Nat.reduceLeDiff, List.map_cons, List.map_nil, builtS, builtinV, pureR, binV, aggEq, eqFs, eqCell, Option.bind_some, Option.map_some, and_self, List.headD_cons, sliceV, pickV, evO, Env.look, find, V.ofConst, resV, resOne, tupV, loadV, fillV, buildV, mkIface, litM, litS, litR, litRows, List.reverse_cons, List.reverse_nil, Nat.reduceMul, appS, memA, appendV, rowsOf, V.cells, TI.sized, TI.known, TI.agg, anL, List.length_cons, List.length_nil, List.append_nil, List.cons_append, List.nil_append, List.drop_succ_cons, List.drop_zero, List.drop_nil, List.take_succ_cons, List.take_zero, List.take_nil, List.getElem?_cons_zero, List.getElem?_cons_succ, List.all_cons, List.all_nil, List.replicate_succ, List.replicate_zero, List.set_cons_zero, List.set_cons_succ, eq_self, true_or, ne_eq, not_false_eq_true, Nat.reduceEqDiff]
      refine gives_bool ?_ hst
      have : ¬ (48 ≤ a.toNat ∧ a.toNat ≤ 57) := by
        intro ⟨h1, h2⟩
        have e1 : decide ((a.toNat : Int) < 48) = false := by simp; omega
        have e2 : decide (57 < (a.toNat : Int)) = false := by simp; omega
        rw [e1, e2] at h; cases h
      simp only [digits, List.all_cons]
      rcases Nat.lt_or_ge a.toNat 48 with h1 | h1
      · simp [show ¬ 48 ≤ a.toNat by omega]
      · simp [show ¬ a.toNat ≤ 57 by omega]
    · have : 48 ≤ a.toNat ∧ a.toNat ≤ 57 := by
        constructor
        · refine Nat.le_of_not_lt fun h1 => ?_
          have e1 : decide ((a.toNat : Int) < 48) = true := by simp; omega
          rw [e1] at h; cases h
        · refine Nat.le_of_not_lt fun h1 => ?_
          have e2 : decide (57 < (a.toNat : Int)) = true := by simp; omega
          rw [e2] at h; revert h; cases decide ((a.toNat : Int) < 48) <;> simp
      simp only [decide_true, decide_false, gwL, gwB, gwD, gwE, gwS, gwTT, gwZ, initG, Nat.reduceEqDiff, ↓reduceIte, Nat.reduceAdd, Nat.reduceLT, Nat.reduceLeDiff, List.map_cons, List.map_nil, builtS, builtinV, pureR, binV, aggEq, eqFs, eqCell, Option.bind_some, Option.map_some, and_self, List.headD_cons, sliceV, pickV, evO, Env.look, find, V.ofConst, resV, resOne, tupV, loadV, fillV, buildV, mkIface, litM, litS, litR, litRows, List.reverse_cons, List.reverse_nil, Nat.reduceMul, appS, memA, appendV, rowsOf, V.cells, TI.sized, TI.known, TI.agg, anL, List.length_cons, List.length_nil, List.append_nil, List.cons_append, List.nil_append, List.drop_succ_cons, List.drop_zero, List.drop_nil, List.take_succ_cons, List.take_zero, List.take_nil, List.getElem?_cons_zero, List.getElem?_cons_succ, List.all_cons, List.all_nil, List.replicate_succ, List.replicate_zero, List.set_cons_zero, List.set_cons_succ, eq_self, true_or, ne_eq, not_false_eq_true, Nat.reduceEqDiff, Env.keep]
      exact ⟨i + 1, by rw [next_i64 hlt hfx], by omega, hlt, by simp [digits, this]⟩

theorem digit_yes {a : UInt8} (h : (decide ((a.toNat : Int) < 48) || decide (57 < (a.toNat : Int))) = true) : ∀ r, digits (a :: r) = false := by
  intro r
  simp only [digits, List.all_cons]
  rcases Nat.lt_or_ge a.toNat 48 with h1 | h1
  · simp [show ¬ 48 ≤ a.toNat by omega]
  · have e1 : decide ((a.toNat : Int) < 48) = false := by simp; omega
    rw [e1] at h
    have h2 : 57 < a.toNat := by simp only [Bool.false_or, decide_eq_true_eq] at h; omega
    simp [show ¬ a.toNat ≤ 57 by omega]
theorem digit_no {a : UInt8} (h : (decide ((a.toNat : Int) < 48) || decide (57 < (a.toNat : Int))) = false) : ∀ r, digits (a :: r) = digits r := by
  intro r
  have : 48 ≤ a.toNat ∧ a.toNat ≤ 57 := by
    constructor
    · refine Nat.le_of_not_lt fun h1 => ?_
      have e1 : decide ((a.toNat : Int) < 48) = true := by simp; omega
      rw [e1] at h; cases h
    · refine Nat.le_of_not_lt fun h1 => ?_
      have e2 : decide (57 < (a.toNat : Int)) = true := by simp; omega
      rw [e2] at h; revert h; cases decide ((a.toNat : Int) < 48) <;> simp
  simp [digits, this]
theorem c_Looks (st : St) (s : Str) : VCalls Try.prog TT 54 [.str s] st fun r st' => r = .ret (.bool (looksB s)) ∧ st' = st := by
  refine vfun TT_ok (an := anL []) (L := [0, 2, 4, 16, 17, 18]) (rs := [.tmp 2]) Try.func54 rfl (by kernel_rfl) rfl Try.ntmps54 rfl rfl (Nat.le_refl _) fun hst ha hf => ?_
  simp only [fitL, V.fit] at hf
  simp only [decide_true, decide_false, gwL, gwB, gwD, gwE, gwS, gwTT, gwZ, initG, Nat.reduceEqDiff, ↓reduceIte, Nat.reduceAdd, Nat.reduceLT, Nat.reduceLeDiff, List.map_cons, List.map_nil, builtS, builtinV, pureR, binV, aggEq, eqFs, eqCell, Option.bind_some, Option.map_some, and_self, List.headD_cons, sliceV, pickV, evO, Env.look, find, V.ofConst, resV, resOne, tupV, loadV, fillV, buildV, mkIface, litM, litS, litR, litRows, List.reverse_cons, List.reverse_nil, Nat.reduceMul, appS, memA, appendV, rowsOf, V.cells, TI.sized, TI.known, TI.agg, anL, List.length_cons, List.length_nil, List.append_nil, List.cons_append, List.nil_append, List.drop_succ_cons, List.drop_zero, List.drop_nil, List.take_succ_cons, List.take_zero, List.take_nil, List.getElem?_cons_zero, List.getElem?_cons_succ, List.all_cons, List.all_nil, List.replicate_succ, List.replicate_zero, List.set_cons_zero, List.set_cons_succ, eq_self, true_or, ne_eq, not_false_eq_true, Nat.reduceEqDiff]
  refine ⟨fun h => ⟨Int.le_refl _, of_decide_eq_true h⟩, iK_split (fun h => ?_) (fun h => ?_)⟩
  · have hs : ∃ r, s = 45 :: r := by
      cases s with
      | nil => simp at h
      | cons a r =>
        have : a = 45 := UInt8.toNat_inj.mp (by simp at h; show a.toNat = 45; omega)
        exact ⟨r, by rw [this]⟩
    obtain ⟨r, rfl⟩ := hs
    have e : looksB (45 :: r) = (digits r && !r.isEmpty) := rfl
    have hl : r.length ≤ 9223372036854775807 := by have := hf.1; simp at this; omega
    rw [e]
    simp only [decide_true, decide_false, gwL, gwB, gwD, gwE, gwS, gwTT, gwZ, initG, Nat.reduceEqDiff, ↓reduceIte, Nat.reduceAdd, Nat.reduceLT, Nat.reduceLeDiff, List.map_cons, List.map_nil, builtS, builtinV, pureR, binV, aggEq, eqFs, eqCell, Option.bind_some, Option.map_some, and_self, List.headD_cons, sliceV, pickV, evO, Env.look, find, V.ofConst, resV, resOne, tupV, loadV, fillV, buildV, mkIface, litM, litS, litR, litRows, List.reverse_cons, List.reverse_nil, Nat.reduceMul, appS, memA, appendV, rowsOf, V.cells, TI.sized, TI.known, TI.agg, anL, List.length_cons, List.length_nil, List.append_nil, List.cons_append, List.nil_append, List.drop_succ_cons, List.drop_zero, List.drop_nil, List.take_succ_cons, List.take_zero, List.take_nil, List.getElem?_cons_zero, List.getElem?_cons_succ, List.all_cons, List.all_nil, List.replicate_succ, List.replicate_zero, List.set_cons_zero, List.set_cons_succ, eq_self, true_or, ne_eq, not_false_eq_true, Nat.reduceEqDiff, convV, List.drop_succ_cons, List.drop_zero, Int.toNat_one]
    clear e hf ha h
    generalize r = t at hl ⊢
    refine ⟨⟨by omega, by omega⟩, ?_⟩
    have hll : (byteRows t).length = t.length := by simp [byteRows]
    refine vfor (σ := Nat) [0, 2, 16, 17, 18] (fun i => [(0, true, .str t), (2, true, .bool false), (16, true, .lst 1 none (byteRows t)), (17, true, .int .i64 (byteRows t).length), (18, true, .int .i64 i)]) (fun i => st) (fun i => t.length - i) (fun i => i ≤ t.length ∧ digits t = digits (t.drop i)) 0 rfl TT_ok ⟨Nat.zero_le _, rfl⟩ rfl rfl ?_
    rintro i ⟨hi, hx⟩
    rw [hx]
    rcases at_or_end t i hi with ⟨rfl, hd⟩ | ⟨a, hlt, hget, hdr⟩
    · rw [hll]
      simp only [decide_true, decide_false, gwL, gwB, gwD, gwE, gwS, gwTT, gwZ, initG, Nat.reduceEqDiff, ↓reduceIte, Nat.reduceAdd, Nat.reduceLT, Nat.reduceLeDiff, List.map_cons, List.map_nil, builtS, builtinV, pureR, binV, aggEq, eqFs, eqCell, Option.bind_some, Option.map_some, and_self, List.headD_cons, sliceV, pickV, evO, Env.look, find, V.ofConst, resV, resOne, tupV, loadV, fillV, buildV, mkIface, litM, litS, litR, litRows, List.reverse_cons, List.reverse_nil, Nat.reduceMul, appS, memA, appendV, rowsOf, V.cells, TI.sized, TI.known, TI.agg, anL, List.length_cons, List.length_nil, List.append_nil, List.cons_append, List.nil_append, List.drop_succ_cons, List.drop_zero, List.drop_nil, List.take_succ_cons, List.take_zero, List.take_nil, List.getElem?_cons_zero, List.getElem?_cons_succ, List.all_cons, List.all_nil, List.replicate_succ, List.replicate_zero, List.set_cons_zero, List.set_cons_succ, eq_self, true_or, ne_eq, not_false_eq_true, Nat.reduceEqDiff, lt_no, hd]
      exact gives_bool (by cases t <;> simp [digits]) hst
    · rw [hll]
      have hg : (byteRows t).getD i [] = [V.int .u8 a.toNat] := getD_map hget
      simp only [decide_true, decide_false, gwL, gwB, gwD, gwE, gwS, gwTT, gwZ, initG, Nat.reduceEqDiff, ↓reduceIte, Nat.reduceAdd, Nat.reduceLT, Nat.reduceLeDiff, List.map_cons, List.map_nil, builtS, builtinV, pureR, binV, aggEq, eqFs, eqCell, Option.bind_some, Option.map_some, and_self, List.headD_cons, sliceV, pickV, evO, Env.look, find, V.ofConst, resV, resOne, tupV, loadV, fillV, buildV, mkIface, litM, litS, litR, litRows, List.reverse_cons, List.reverse_nil, Nat.reduceMul, appS, memA, appendV, rowsOf, V.cells, TI.sized, TI.known, TI.agg, anL, List.length_cons, List.length_nil, List.append_nil, List.cons_append, List.nil_append, List.drop_succ_cons, List.drop_zero, List.drop_nil, List.take_succ_cons, List.take_zero, List.take_nil, List.getElem?_cons_zero, List.getElem?_cons_succ, List.all_cons, List.all_nil, List.replicate_succ, List.replicate_zero, List.set_cons_zero, List.set_cons_succ, eq_self, true_or, ne_eq, not_false_eq_true, Nat.reduceEqDiff, lt_yes hlt, hdr, hll, hg, Int.ofNat_lt.mpr hlt]
      refine iK_split (fun h => ?_) (fun h => ?_)
      · simp only [decide_true, decide_false, gwL, gwB, gwD, gwE, gwS, gwTT, gwZ, initG, Nat.reduceEqDiff, ↓reduceIte, Nat.reduceAdd, Nat.reduceLT, Nat.reduceLeDiff, List.map_cons, List.map_nil, builtS, builtinV, pureR, binV, aggEq, eqFs, eqCell, Option.bind_some, Option.map_some, and_self, List.headD_cons, sliceV, pickV, evO, Env.look, find, V.ofConst, resV, resOne, tupV, loadV, fillV, buildV, mkIface, litM, litS, litR, litRows, List.reverse_cons, List.reverse_nil, Nat.reduceMul, appS, memA, appendV, rowsOf, V.cells, TI.sized, TI.known, TI.agg, anL, List.length_cons, List.length_nil, List.append_nil, List.cons_append, List.nil_append, List.drop_succ_cons, List.drop_zero, List.drop_nil, List.take_succ_cons, List.take_zero, List.take_nil, List.getElem?_cons_zero, List.getElem?_cons_succ, List.all_cons, List.all_nil, List.replicate_succ, List.replicate_zero, List.set_cons_zero, List.set_cons_succ, eq_self, true_or, ne_eq, not_false_eq_true, Nat.reduceEqDiff]
        exact gives_bool (by rw [digit_yes h]; rfl) hst
      · simp only [decide_true, decide_false, gwL, gwB, gwD, gwE, gwS, gwTT, gwZ, initG, Nat.reduceEqDiff, ↓reduceIte, Nat.reduceAdd, Nat.reduceLT, Nat.reduceLeDiff, List.map_cons, List.map_nil, builtS, builtinV, pureR, binV, aggEq, eqFs, eqCell, Option.bind_some, Option.map_some, and_self, List.headD_cons, sliceV, pickV, evO, Env.look, find, V.ofConst, resV, resOne, tupV, loadV, fillV, buildV, mkIface, litM, litS, litR, litRows, List.reverse_cons, List.reverse_nil, Nat.reduceMul, appS, memA, appendV, rowsOf, V.cells, TI.sized, TI.known, TI.agg, anL, List.length_cons, List.length_nil, List.append_nil, List.cons_append, List.nil_append, List.drop_succ_cons, List.drop_zero, List.drop_nil, List.take_succ_cons, List.take_zero, List.take_nil, List.getElem?_cons_zero, List.getElem?_cons_succ, List.all_cons, List.all_nil, List.replicate_succ, List.replicate_zero, List.set_cons_zero, List.set_cons_succ, eq_self, true_or, ne_eq, not_false_eq_true, Nat.reduceEqDiff, Env.keep]
        exact ⟨i + 1, by rw [next_i64 hlt hl], by omega, hlt, digit_no h _⟩
  · have e : looksB s = (digits s && !s.isEmpty) := by
      unfold looksB
      split
      · simp at h
      · rfl
    have hl := hf.1
    rw [e]
    simp only [decide_true, decide_false, gwL, gwB, gwD, gwE, gwS, gwTT, gwZ, initG, Nat.reduceEqDiff, ↓reduceIte, Nat.reduceAdd, Nat.reduceLT, Nat.reduceLeDiff, List.map_cons, List.map_nil, builtS, builtinV, pureR, binV, aggEq, eqFs, eqCell, Option.bind_some, Option.map_some, and_self, List.headD_cons, sliceV, pickV, evO, Env.look, find, V.ofConst, resV, resOne, tupV, loadV, fillV, buildV, mkIface, litM, litS, litR, litRows, List.reverse_cons, List.reverse_nil, Nat.reduceMul, appS, memA, appendV, rowsOf, V.cells, TI.sized, TI.known, TI.agg, anL, List.length_cons, List.length_nil, List.append_nil, List.cons_append, List.nil_append, List.drop_succ_cons, List.drop_zero, List.drop_nil, List.take_succ_cons, List.take_zero, List.take_nil, List.getElem?_cons_zero, List.getElem?_cons_succ, List.all_cons, List.all_nil, List.replicate_succ, List.replicate_zero, List.set_cons_zero, List.set_cons_succ, eq_self, true_or, ne_eq, not_false_eq_true, Nat.reduceEqDiff, convV]
    clear e hf ha h
    generalize s = t at hl ⊢
    have hll : (byteRows t).length = t.length := by simp [byteRows]
    refine vfor (σ := Nat) [0, 2, 16, 17, 18] (fun i => [(0, true, .str t), (2, true, .bool false), (16, true, .lst 1 none (byteRows t)), (17, true, .int .i64 (byteRows t).length), (18, true, .int .i64 i)]) (fun i => st) (fun i => t.length - i) (fun i => i ≤ t.length ∧ digits t = digits (t.drop i)) 0 rfl TT_ok ⟨Nat.zero_le _, rfl⟩ rfl rfl ?_
    rintro i ⟨hi, hx⟩
    rw [hx]
    rcases at_or_end t i hi with ⟨rfl, hd⟩ | ⟨a, hlt, hget, hdr⟩
    · rw [hll]
      simp only [decide_true, decide_false, gwL, gwB, gwD, gwE, gwS, gwTT, gwZ, initG, Nat.reduceEqDiff, ↓reduceIte, Nat.reduceAdd, Nat.reduceLT, Nat.reduceLeDiff, List.map_cons, List.map_nil, builtS, builtinV, pureR, binV, aggEq, eqFs, eqCell, Option.bind_some, Option.map_some, and_self, List.headD_cons, sliceV, pickV, evO, Env.look, find, V.ofConst, resV, resOne, tupV, loadV, fillV, buildV, mkIface, litM, litS, litR, litRows, List.reverse_cons, List.reverse_nil, Nat.reduceMul, appS, memA, appendV, rowsOf, V.cells, TI.sized, TI.known, TI.agg, anL, List.length_cons, List.length_nil, List.append_nil, List.cons_append, List.nil_append, List.drop_succ_cons, List.drop_zero, List.drop_nil, List.take_succ_cons, List.take_zero, List.take_nil, List.getElem?_cons_zero, List.getElem?_cons_succ, List.all_cons, List.all_nil, List.replicate_succ, List.replicate_zero, List.set_cons_zero, List.set_cons_succ, eq_self, true_or, ne_eq, not_false_eq_true, Nat.reduceEqDiff, lt_no, hd]
      exact gives_bool (by cases t <;> simp [digits]) hst
    · rw [hll]
      have hg : (byteRows t).getD i [] = [V.int .u8 a.toNat] := getD_map hget
      simp only [decide_true, decide_false, gwL, gwB, gwD, gwE, gwS, gwTT, gwZ, initG, Nat.reduceEqDiff, ↓reduceIte, Nat.reduceAdd, Nat.reduceLT, Nat.reduceLeDiff, List.map_cons, List.map_nil, builtS, builtinV, pureR, binV, aggEq, eqFs, eqCell, Option.bind_some, Option.map_some, and_self, List.headD_cons, sliceV, pickV, evO, Env.look, find, V.ofConst, resV, resOne, tupV, loadV, fillV, buildV, mkIface, litM, litS, litR, litRows, List.reverse_cons, List.reverse_nil, Nat.reduceMul, appS, memA, appendV, rowsOf, V.cells, TI.sized, TI.known, TI.agg, anL, List.length_cons, List.length_nil, List.append_nil, List.cons_append, List.nil_append, List.drop_succ_cons, List.drop_zero, List.drop_nil, List.take_succ_cons, List.take_zero, List.take_nil, List.getElem?_cons_zero, List.getElem?_cons_succ, List.all_cons, List.all_nil, List.replicate_succ, List.replicate_zero, List.set_cons_zero, List.set_cons_succ, eq_self, true_or, ne_eq, not_false_eq_true, Nat.reduceEqDiff, lt_yes hlt, hdr, hll, hg, Int.ofNat_lt.mpr hlt]
      refine iK_split (fun h => ?_) (fun h => ?_)
      · simp only [decide_true, decide_false, gwL, gwB, gwD, gwE, gwS, gwTT, gwZ, initG, Nat.reduceEqDiff, ↓reduceIte, Nat.reduceAdd, Nat.reduceLT, Nat.reduceLeDiff, List.map_cons, List.map_nil, builtS, builtinV, pureR, binV, aggEq, eqFs, eqCell, Option.bind_some, Option.map_some, and_self, List.headD_cons, sliceV, pickV, evO, Env.look, find, V.ofConst, resV, resOne, tupV, loadV, fillV, buildV, mkIface, litM, litS, litR, litRows, List.reverse_cons, List.reverse_nil, Nat.reduceMul, appS, memA, appendV, rowsOf, V.cells, TI.sized, TI.known, TI.agg, anL, List.length_cons, List.length_nil, List.append_nil, List.cons_append, List.nil_append, List.drop_succ_cons, List.drop_zero, List.drop_nil, List.take_succ_cons, List.take_zero, List.take_nil, List.getElem?_cons_zero, List.getElem?_cons_succ, List.all_cons, List.all_nil, List.replicate_succ, List.replicate_zero, List.set_cons_zero, List.set_cons_succ, eq_self, true_or, ne_eq, not_false_eq_true, Nat.reduceEqDiff]
        exact gives_bool (by rw [digit_yes h]; rfl) hst
      · simp only [decide_true, decide_false, gwL, gwB, gwD, gwE, gwS, gwTT, gwZ, initG, Nat.reduceEqDiff, ↓reduceIte, Nat.reduceAdd, Nat.reduceLT, Nat.reduceLeDiff, List.map_cons, List.map_nil, builtS, builtinV, pureR, binV, aggEq, eqFs, eqCell, Option.bind_some, Option.map_some, and_self, List.headD_cons, sliceV, pickV, evO, Env.look, find, V.ofConst, resV, resOne, tupV, loadV, fillV, buildV, mkIface, litM, litS, litR, litRows, List.reverse_cons, List.reverse_nil, Nat.reduceMul, appS, memA, appendV, rowsOf, V.cells, TI.sized, TI.known, TI.agg, anL, List.length_cons, List.length_nil, List.append_nil, List.cons_append, List.nil_append, List.drop_succ_cons, List.drop_zero, List.drop_nil, List.take_succ_cons, List.take_zero, List.take_nil, List.getElem?_cons_zero, List.getElem?_cons_succ, List.all_cons, List.all_nil, List.replicate_succ, List.replicate_zero, List.set_cons_zero, List.set_cons_succ, eq_self, true_or, ne_eq, not_false_eq_true, Nat.reduceEqDiff, Env.keep]
        exact ⟨i + 1, by rw [next_i64 hlt hl], by omega, hlt, digit_no h _⟩

def namedB (s : Str) : Bool := s.all letterB && (decide (0 < s.length) && decide (s.length ≤ 20) && !looksB s)
theorem c_text_Named (st : St) (s : Str) : VCalls Try.prog TT 57 [.str s] st fun r st' => r = .ret (.bool (namedB s)) ∧ st' = st := by
  refine vfun TT_ok (an := anL []) (L := [0, 2, 3, 13, 14]) (rs := [.tmp 2]) Try.func57 rfl (by kernel_rfl) rfl Try.ntmps57 rfl rfl (Nat.le_refl _) fun hst ha hf => ?_
  simp only [decide_true, decide_false, gwL, gwB, gwD, gwE, gwS, gwTT, gwZ, initG, Nat.reduceEqDiff, ↓reduceIte, Nat.reduceAdd, Nat.reduceLT, Nat.reduceLeDiff, List.map_cons, List.map_nil, builtS, builtinV, pureR, binV, aggEq, eqFs, eqCell, Option.bind_some, Option.map_some, and_self, List.headD_cons, sliceV, pickV, evO, Env.look, find, V.ofConst, resV, resOne, tupV, loadV, fillV, buildV, mkIface, litM, litS, litR, litRows, List.reverse_cons, List.reverse_nil, Nat.reduceMul, appS, memA, appendV, rowsOf, V.cells, TI.sized, TI.known, TI.agg, anL, List.length_cons, List.length_nil, List.append_nil, List.cons_append, List.nil_append, List.drop_succ_cons, List.drop_zero, List.drop_nil, List.take_succ_cons, List.take_zero, List.take_nil, List.getElem?_cons_zero, List.getElem?_cons_succ, List.all_cons, List.all_nil, List.replicate_succ, List.replicate_zero, List.set_cons_zero, List.set_cons_succ, eq_self, true_or, ne_eq, not_false_eq_true, Nat.reduceEqDiff]
  refine iK_split (fun h => ?_) (fun h => ?_)
  · simp only [decide_true, decide_false, gwL, gwB, gwD, gwE, gwS, gwTT, gwZ, initG, Nat.reduceEqDiff, ↓reduceIte, Nat.reduceAdd, Nat.reduceLT, Nat.reduceLeDiff, List.map_cons, List.map_nil, builtS, builtinV, pureR, binV, aggEq, eqFs, eqCell, Option.bind_some, Option.map_some, and_self, List.headD_cons, sliceV, pickV, evO, Env.look, find, V.ofConst, resV, resOne, tupV, loadV, fillV, buildV, mkIface, litM, litS, litR, litRows, List.reverse_cons, List.reverse_nil, Nat.reduceMul, appS, memA, appendV, rowsOf, V.cells, TI.sized, TI.known, TI.agg, anL, List.length_cons, List.length_nil, List.append_nil, List.cons_append, List.nil_append, List.drop_succ_cons, List.drop_zero, List.drop_nil, List.take_succ_cons, List.take_zero, List.take_nil, List.getElem?_cons_zero, List.getElem?_cons_succ, List.all_cons, List.all_nil, List.replicate_succ, List.replicate_zero, List.set_cons_zero, List.set_cons_succ, eq_self, true_or, ne_eq, not_false_eq_true, Nat.reduceEqDiff]
    refine gives_bool ?_ hst
    have : ¬ (0 < s.length ∧ s.length ≤ 20) := by
      intro ⟨h1, h2⟩
      have e1 : decide ((s.length : Int) < 1) = false := by simp; omega
      have e2 : decide (20 < (s.length : Int)) = false := by simp; omega
      rw [e1, e2] at h; cases h
    rcases Nat.lt_or_ge 0 s.length with h1 | h1
    · simp [namedB, show ¬ s.length ≤ 20 from fun h2 => this ⟨h1, h2⟩]
    · simp [namedB, show ¬ 0 < s.length by omega]
  · have hl : 0 < s.length ∧ s.length ≤ 20 := by
      constructor
      · refine Nat.lt_of_not_le fun h1 => ?_
        have e1 : decide ((s.length : Int) < 1) = true := by simp; omega
        rw [e1] at h; cases h
      · refine Nat.le_of_not_lt fun h1 => ?_
        have e2 : decide (20 < (s.length : Int)) = true := by simp; omega
        rw [e2] at h; revert h; cases decide ((s.length : Int) < 1) <;> simp
    have e : namedB s = (s.all letterB && !looksB s) := by simp [namedB, hl]
    rw [e]
    simp only [decide_true, decide_false, gwL, gwB, gwD, gwE, gwS, gwTT, gwZ, initG, Nat.reduceEqDiff, ↓reduceIte, Nat.reduceAdd, Nat.reduceLT, Nat.reduceLeDiff, List.map_cons, List.map_nil, builtS, builtinV, pureR, binV, aggEq, eqFs, eqCell, Option.bind_some, Option.map_some, and_self, List.headD_cons, sliceV, pickV, evO, Env.look, find, V.ofConst, resV, resOne, tupV, loadV, fillV, buildV, mkIface, litM, litS, litR, litRows, List.reverse_cons, List.reverse_nil, Nat.reduceMul, appS, memA, appendV, rowsOf, V.cells, TI.sized, TI.known, TI.agg, anL, List.length_cons, List.length_nil, List.append_nil, List.cons_append, List.nil_append, List.drop_succ_cons, List.drop_zero, List.drop_nil, List.take_succ_cons, List.take_zero, List.take_nil, List.getElem?_cons_zero, List.getElem?_cons_succ, List.all_cons, List.all_nil, List.replicate_succ, List.replicate_zero, List.set_cons_zero, List.set_cons_succ, eq_self, true_or, ne_eq, not_false_eq_true, Nat.reduceEqDiff]
    refine vfor (σ := Nat) [0, 2, 13, 14] (fun i => [(0, true, .str s), (2, true, .bool false), (13, true, .int .i64 s.length), (14, true, .int .i64 i)]) (fun i => st) (fun i => s.length - i) (fun i => i ≤ s.length ∧ s.all letterB = (s.drop i).all letterB) 0 rfl TT_ok ⟨Nat.zero_le _, rfl⟩ rfl rfl ?_
    rintro i ⟨hi, hx⟩
    rw [hx]
    rcases at_or_end s i hi with ⟨rfl, hd⟩ | ⟨a, hlt, hget, hdr⟩
    · simp only [decide_true, decide_false, gwL, gwB, gwD, gwE, gwS, gwTT, gwZ, initG, Nat.reduceEqDiff, ↓reduceIte, Nat.reduceAdd, Nat.reduceLT, Nat.reduceLeDiff, List.map_cons, List.map_nil, builtS, builtinV, pureR, binV, aggEq, eqFs, eqCell, Option.bind_some, Option.map_some, and_self, List.headD_cons, sliceV, pickV, evO, Env.look, find, V.ofConst, resV, resOne, tupV, loadV, fillV, buildV, mkIface, litM, litS, litR, litRows, List.reverse_cons, List.reverse_nil, Nat.reduceMul, appS, memA, appendV, rowsOf, V.cells, TI.sized, TI.known, TI.agg, anL, List.length_cons, List.length_nil, List.append_nil, List.cons_append, List.nil_append, List.drop_succ_cons, List.drop_zero, List.drop_nil, List.take_succ_cons, List.take_zero, List.take_nil, List.getElem?_cons_zero, List.getElem?_cons_succ, List.all_cons, List.all_nil, List.replicate_succ, List.replicate_zero, List.set_cons_zero, List.set_cons_succ, eq_self, true_or, ne_eq, not_false_eq_true, Nat.reduceEqDiff, lt_no, hd]
      refine (c_number st s).use (wkL_refl _) fun _ => ?_
      simp only [decide_true, decide_false, gwL, gwB, gwD, gwE, gwS, gwTT, gwZ, initG, Nat.reduceEqDiff, ↓reduceIte, Nat.reduceAdd, Nat.reduceLT, Nat.reduceLeDiff, List.map_cons, List.map_nil, builtS, builtinV, pureR, binV, aggEq, eqFs, eqCell, Option.bind_some, Option.map_some, and_self, List.headD_cons, sliceV, pickV, evO, Env.look, find, V.ofConst, resV, resOne, tupV, loadV, fillV, buildV, mkIface, litM, litS, litR, litRows, List.reverse_cons, List.reverse_nil, Nat.reduceMul, appS, memA, appendV, rowsOf, V.cells, TI.sized, TI.known, TI.agg, anL, List.length_cons, List.length_nil, List.append_nil, List.cons_append, List.nil_append, List.drop_succ_cons, List.drop_zero, List.drop_nil, List.take_succ_cons, List.take_zero, List.take_nil, List.getElem?_cons_zero, List.getElem?_cons_succ, List.all_cons, List.all_nil, List.replicate_succ, List.replicate_zero, List.set_cons_zero, List.set_cons_succ, eq_self, true_or, ne_eq, not_false_eq_true, Nat.reduceEqDiff]
      exact gives_bool (by simp) hst
    · simp only [decide_true, decide_false, gwL, gwB, gwD, gwE, gwS, gwTT, gwZ, initG, Nat.reduceEqDiff, ↓reduceIte, Nat.reduceAdd, Nat.reduceLT, Nat.reduceLeDiff, List.map_cons, List.map_nil, builtS, builtinV, pureR, binV, aggEq, eqFs, eqCell, Option.bind_some, Option.map_some, and_self, List.headD_cons, sliceV, pickV, evO, Env.look, find, V.ofConst, resV, resOne, tupV, loadV, fillV, buildV, mkIface, litM, litS, litR, litRows, List.reverse_cons, List.reverse_nil, Nat.reduceMul, appS, memA, appendV, rowsOf, V.cells, TI.sized, TI.known, TI.agg, anL, List.length_cons, List.length_nil, List.append_nil, List.cons_append, List.nil_append, List.drop_succ_cons, List.drop_zero, List.drop_nil, List.take_succ_cons, List.take_zero, List.take_nil, List.getElem?_cons_zero, List.getElem?_cons_succ, List.all_cons, List.all_nil, List.replicate_succ, List.replicate_zero, List.set_cons_zero, List.set_cons_succ, eq_self, true_or, ne_eq, not_false_eq_true, Nat.reduceEqDiff, lt_yes hlt, hdr, getD_at hget, Int.ofNat_lt.mpr hlt]
      refine (c_letter st a).use (wkL_refl _) fun _ => ?_
      simp only [decide_true, decide_false, gwL, gwB, gwD, gwE, gwS, gwTT, gwZ, initG, Nat.reduceEqDiff, ↓reduceIte, Nat.reduceAdd, Nat.reduceLT, Nat.reduceLeDiff, List.map_cons, List.map_nil, builtS, builtinV, pureR, binV, aggEq, eqFs, eqCell, Option.bind_some, Option.map_some, and_self, List.headD_cons, sliceV, pickV, evO, Env.look, find, V.ofConst, resV, resOne, tupV, loadV, fillV, buildV, mkIface, litM, litS, litR, litRows, List.reverse_cons, List.reverse_nil, Nat.reduceMul, appS, memA, appendV, rowsOf, V.cells, TI.sized, TI.known, TI.agg, anL, List.length_cons, List.length_nil, List.append_nil, List.cons_append, List.nil_append, List.drop_succ_cons, List.drop_zero, List.drop_nil, List.take_succ_cons, List.take_zero, List.take_nil, List.getElem?_cons_zero, List.getElem?_cons_succ, List.all_cons, List.all_nil, List.replicate_succ, List.replicate_zero, List.set_cons_zero, List.set_cons_succ, eq_self, true_or, ne_eq, not_false_eq_true, Nat.reduceEqDiff]
      refine iK_split (fun h => ?_) (fun h => ?_)
      · simp only [decide_true, decide_false, gwL, gwB, gwD, gwE, gwS, gwTT, gwZ, initG, Nat.reduceEqDiff, ↓reduceIte, Nat.reduceAdd, Nat.reduceLT, Nat.reduceLeDiff, List.map_cons, List.map_nil, builtS, builtinV, pureR, binV, aggEq, eqFs, eqCell, Option.bind_some, Option.map_some, and_self, List.headD_cons, sliceV, pickV, evO, Env.look, find, V.ofConst, resV, resOne, tupV, loadV, fillV, buildV, mkIface, litM, litS, litR, litRows, List.reverse_cons, List.reverse_nil, Nat.reduceMul, appS, memA, appendV, rowsOf, V.cells, TI.sized, TI.known, TI.agg, anL, List.length_cons, List.length_nil, List.append_nil, List.cons_append, List.nil_append, List.drop_succ_cons, List.drop_zero, List.drop_nil, List.take_succ_cons, List.take_zero, List.take_nil, List.getElem?_cons_zero, List.getElem?_cons_succ, List.all_cons, List.all_nil, List.replicate_succ, List.replicate_zero, List.set_cons_zero, List.set_cons_succ, eq_self, true_or, ne_eq, not_false_eq_true, Nat.reduceEqDiff]
        exact gives_bool (by simp at h; simp [h]) hst
      · simp only [decide_true, decide_false, gwL, gwB, gwD, gwE, gwS, gwTT, gwZ, initG, Nat.reduceEqDiff, ↓reduceIte, Nat.reduceAdd, Nat.reduceLT, Nat.reduceLeDiff, List.map_cons, List.map_nil, builtS, builtinV, pureR, binV, aggEq, eqFs, eqCell, Option.bind_some, Option.map_some, and_self, List.headD_cons, sliceV, pickV, evO, Env.look, find, V.ofConst, resV, resOne, tupV, loadV, fillV, buildV, mkIface, litM, litS, litR, litRows, List.reverse_cons, List.reverse_nil, Nat.reduceMul, appS, memA, appendV, rowsOf, V.cells, TI.sized, TI.known, TI.agg, anL, List.length_cons, List.length_nil, List.append_nil, List.cons_append, List.nil_append, List.drop_succ_cons, List.drop_zero, List.drop_nil, List.take_succ_cons, List.take_zero, List.take_nil, List.getElem?_cons_zero, List.getElem?_cons_succ, List.all_cons, List.all_nil, List.replicate_succ, List.replicate_zero, List.set_cons_zero, List.set_cons_succ, eq_self, true_or, ne_eq, not_false_eq_true, Nat.reduceEqDiff, Env.keep]
        exact ⟨i + 1, by rw [next_i64 hlt (by omega)], by omega, hlt, by simp at h; simp [h]⟩
theorem c_ref_Named (st : St) (s : Str) : VCalls Try.prog TT 42 [.str s] st fun r st' => r = .ret (.bool (namedB s)) ∧ st' = st := by
  refine vfun TT_ok (an := anL []) (L := [0, 2, 4, 6, 7, 8]) (rs := [.tmp 2]) Try.func42 rfl (by kernel_rfl) rfl Try.ntmps42 rfl rfl (Nat.le_refl _) fun hst ha hf => ?_
  simp only [fitL, V.fit] at hf
  simp only [decide_true, decide_false, gwL, gwB, gwD, gwE, gwS, gwTT, gwZ, initG, Nat.reduceEqDiff, ↓reduceIte, Nat.reduceAdd, Nat.reduceLT, Nat.reduceLeDiff, List.map_cons, List.map_nil, builtS, builtinV, pureR, binV, aggEq, eqFs, eqCell, Option.bind_some, Option.map_some, and_self, List.headD_cons, sliceV, pickV, evO, Env.look, find, V.ofConst, resV, resOne, tupV, loadV, fillV, buildV, mkIface, litM, litS, litR, litRows, List.reverse_cons, List.reverse_nil, Nat.reduceMul, appS, memA, appendV, rowsOf, V.cells, TI.sized, TI.known, TI.agg, anL, List.length_cons, List.length_nil, List.append_nil, List.cons_append, List.nil_append, List.drop_succ_cons, List.drop_zero, List.drop_nil, List.take_succ_cons, List.take_zero, List.take_nil, List.getElem?_cons_zero, List.getElem?_cons_succ, List.all_cons, List.all_nil, List.replicate_succ, List.replicate_zero, List.set_cons_zero, List.set_cons_succ, eq_self, true_or, ne_eq, not_false_eq_true, Nat.reduceEqDiff, convV]
  have hll : (byteRows s).length = s.length := by simp [byteRows]
  refine vfor (σ := Nat) [0, 2, 6, 7, 8] (fun i => [(0, true, .str s), (2, true, .bool false), (6, true, .lst 1 none (byteRows s)), (7, true, .int .i64 (byteRows s).length), (8, true, .int .i64 i)]) (fun i => st) (fun i => s.length - i) (fun i => i ≤ s.length ∧ s.all letterB = (s.drop i).all letterB) 0 rfl TT_ok ⟨Nat.zero_le _, rfl⟩ rfl rfl ?_
  rintro i ⟨hi, hx⟩
  unfold namedB
  rw [hx]
  rcases at_or_end s i hi with ⟨rfl, hd⟩ | ⟨a, hlt, hget, hdr⟩
  · rw [hll]
    simp only [decide_true, decide_false, gwL, gwB, gwD, gwE, gwS, gwTT, gwZ, initG, Nat.reduceEqDiff, ↓reduceIte, Nat.reduceAdd, Nat.reduceLT, Nat.reduceLeDiff, List.map_cons, List.map_nil, builtS, builtinV, pureR, binV, aggEq, eqFs, eqCell, Option.bind_some, Option.map_some, and_self, List.headD_cons, sliceV, pickV, evO, Env.look, find, V.ofConst, resV, resOne, tupV, loadV, fillV, buildV, mkIface, litM, litS, litR, litRows, List.reverse_cons, List.reverse_nil, Nat.reduceMul, appS, memA, appendV, rowsOf, V.cells, TI.sized, TI.known, TI.agg, anL, List.length_cons, List.length_nil, List.append_nil, List.cons_append, List.nil_append, List.drop_succ_cons, List.drop_zero, List.drop_nil, List.take_succ_cons, List.take_zero, List.take_nil, List.getElem?_cons_zero, List.getElem?_cons_succ, List.all_cons, List.all_nil, List.replicate_succ, List.replicate_zero, List.set_cons_zero, List.set_cons_succ, eq_self, true_or, ne_eq, not_false_eq_true, Nat.reduceEqDiff, lt_no, hd]
    refine rK_guarded (.bool (looksB s)) (fun _ => c_Looks st s) ?_
    simp only [decide_true, decide_false, gwL, gwB, gwD, gwE, gwS, gwTT, gwZ, initG, Nat.reduceEqDiff, ↓reduceIte, Nat.reduceAdd, Nat.reduceLT, Nat.reduceLeDiff, List.map_cons, List.map_nil, builtS, builtinV, pureR, binV, aggEq, eqFs, eqCell, Option.bind_some, Option.map_some, and_self, List.headD_cons, sliceV, pickV, evO, Env.look, find, V.ofConst, resV, resOne, tupV, loadV, fillV, buildV, mkIface, litM, litS, litR, litRows, List.reverse_cons, List.reverse_nil, Nat.reduceMul, appS, memA, appendV, rowsOf, V.cells, TI.sized, TI.known, TI.agg, anL, List.length_cons, List.length_nil, List.append_nil, List.cons_append, List.nil_append, List.drop_succ_cons, List.drop_zero, List.drop_nil, List.take_succ_cons, List.take_zero, List.take_nil, List.getElem?_cons_zero, List.getElem?_cons_succ, List.all_cons, List.all_nil, List.replicate_succ, List.replicate_zero, List.set_cons_zero, List.set_cons_succ, eq_self, true_or, ne_eq, not_false_eq_true, Nat.reduceEqDiff]
    refine gives_bool ?_ hst
    have e1 : decide (0 < (s.length : Int)) = decide (0 < s.length) := by simp
    have e2 : decide ((s.length : Int) ≤ 20) = decide (s.length ≤ 20) := decide_eq_decide.mpr (by omega)
    rw [e1, e2]
  · rw [hll]
    have hg : (byteRows s).getD i [] = [V.int .u8 a.toNat] := getD_map hget
    simp only [decide_true, decide_false, gwL, gwB, gwD, gwE, gwS, gwTT, gwZ, initG, Nat.reduceEqDiff, ↓reduceIte, Nat.reduceAdd, Nat.reduceLT, Nat.reduceLeDiff, List.map_cons, List.map_nil, builtS, builtinV, pureR, binV, aggEq, eqFs, eqCell, Option.bind_some, Option.map_some, and_self, List.headD_cons, sliceV, pickV, evO, Env.look, find, V.ofConst, resV, resOne, tupV, loadV, fillV, buildV, mkIface, litM, litS, litR, litRows, List.reverse_cons, List.reverse_nil, Nat.reduceMul, appS, memA, appendV, rowsOf, V.cells, TI.sized, TI.known, TI.agg, anL, List.length_cons, List.length_nil, List.append_nil, List.cons_append, List.nil_append, List.drop_succ_cons, List.drop_zero, List.drop_nil, List.take_succ_cons, List.take_zero, List.take_nil, List.getElem?_cons_zero, List.getElem?_cons_succ, List.all_cons, List.all_nil, List.replicate_succ, List.replicate_zero, List.set_cons_zero, List.set_cons_succ, eq_self, true_or, ne_eq, not_false_eq_true, Nat.reduceEqDiff, lt_yes hlt, hdr, hll, hg, Int.ofNat_lt.mpr hlt]
    refine (c_Letter st a).use (wkL_refl _) fun _ => ?_
    simp only [decide_true, decide_false, gwL, gwB, gwD, gwE, gwS, gwTT, gwZ, initG, Nat.reduceEqDiff, ↓reduceIte, Nat.reduceAdd, Nat.reduceLT, Nat.reduceLeDiff, List.map_cons, List.map_nil, builtS, builtinV, pureR, binV, aggEq, eqFs, eqCell, Option.bind_some, Option.map_some, and_self, List.headD_cons, sliceV, pickV, evO, Env.look, find, V.ofConst, resV, resOne, tupV, loadV, fillV, buildV, mkIface, litM, litS, litR, litRows, List.reverse_cons, List.reverse_nil, Nat.reduceMul, appS, memA, appendV, rowsOf, V.cells, TI.sized, TI.known, TI.agg, anL, List.length_cons, List.length_nil, List.append_nil, List.cons_append, List.nil_append, List.drop_succ_cons, List.drop_zero, List.drop_nil, List.take_succ_cons, List.take_zero, List.take_nil, List.getElem?_cons_zero, List.getElem?_cons_succ, List.all_cons, List.all_nil, List.replicate_succ, List.replicate_zero, List.set_cons_zero, List.set_cons_succ, eq_self, true_or, ne_eq, not_false_eq_true, Nat.reduceEqDiff]
    refine iK_split (fun h => ?_) (fun h => ?_)
    · simp only [decide_true, decide_false, gwL, gwB, gwD, gwE, gwS, gwTT, gwZ, initG, Nat.reduceEqDiff, ↓reduceIte, Nat.reduceAdd, Nat.reduceLT, Nat.reduceLeDiff, List.map_cons, List.map_nil, builtS, builtinV, pureR, binV, aggEq, eqFs, eqCell, Option.bind_some, Option.map_some, and_self, List.headD_cons, sliceV, pickV, evO, Env.look, find, V.ofConst, resV, resOne, tupV, loadV, fillV, buildV, mkIface, litM, litS, litR, litRows, List.reverse_cons, List.reverse_nil, Nat.reduceMul, appS, memA, appendV, rowsOf, V.cells, TI.sized, TI.known, TI.agg, anL, List.length_cons, List.length_nil, List.append_nil, List.cons_append, List.nil_append, List.drop_succ_cons, List.drop_zero, List.drop_nil, List.take_succ_cons, List.take_zero, List.take_nil, List.getElem?_cons_zero, List.getElem?_cons_succ, List.all_cons, List.all_nil, List.replicate_succ, List.replicate_zero, List.set_cons_zero, List.set_cons_succ, eq_self, true_or, ne_eq, not_false_eq_true, Nat.reduceEqDiff]
      exact gives_bool (by simp at h; simp [h]) hst
    · simp only [decide_true, decide_false, gwL, gwB, gwD, gwE, gwS, gwTT, gwZ, initG, Nat.reduceEqDiff, ↓reduceIte, Nat.reduceAdd, Nat.reduceLT, Nat.reduceLeDiff, List.map_cons, List.map_nil, builtS, builtinV, pureR, binV, aggEq, eqFs, eqCell, Option.bind_some, Option.map_some, and_self, List.headD_cons, sliceV, pickV, evO, Env.look, find, V.ofConst, resV, resOne, tupV, loadV, fillV, buildV, mkIface, litM, litS, litR, litRows, List.reverse_cons, List.reverse_nil, Nat.reduceMul, appS, memA, appendV, rowsOf, V.cells, TI.sized, TI.known, TI.agg, anL, List.length_cons, List.length_nil, List.append_nil, List.cons_append, List.nil_append, List.drop_succ_cons, List.drop_zero, List.drop_nil, List.take_succ_cons, List.take_zero, List.take_nil, List.getElem?_cons_zero, List.getElem?_cons_succ, List.all_cons, List.all_nil, List.replicate_succ, List.replicate_zero, List.set_cons_zero, List.set_cons_succ, eq_self, true_or, ne_eq, not_false_eq_true, Nat.reduceEqDiff, Env.keep]
      exact ⟨i + 1, by rw [next_i64 hlt hf.1], by omega, hlt, by simp at h; simp [h]⟩
end Go.Proofs.Ytlblgbfpdlfedaa.Gx

namespace Go.Proofs.Ytlblgbfpdlfedaa.Gx
open Go Go.Proofs.Ytlblgbfpdlfedaa.Gw
set_option linter.unusedSimpArgs false
set_option linter.unusedVariables false

/-- A datum. -/
inductive Datum where
  | mk (kind n : Int) (name : Str) (stamp lib : Int) (kids : List Datum)

mutual
def encD : Datum → List V
  | .mk k n nm s l kids => [.int .i64 k, .int .i64 n, .str nm, .int .i64 s, .int .i64 l, .lst 6 none (encDs kids)]
def encDs : List Datum → List (List V)
  | [] => []
  | d :: r => encD d :: encDs r
end
theorem encDs_map : ∀ l : List Datum, encDs l = l.map encD
  | [] => rfl
  | d :: r => by simp only [encDs, List.map_cons, encDs_map r]
theorem encD_mk (k n : Int) (nm : Str) (s l : Int) (kids : List Datum) : encD (.mk k n nm s l kids) = [.int .i64 k, .int .i64 n, .str nm, .int .i64 s, .int .i64 l, .lst 6 none (kids.map encD)] := by
  simp only [encD, encDs_map]
theorem encD_len (d : Datum) : (encD d).length = 6 := by cases d; rfl
mutual
theorem encD_lt (n : Nat) : ∀ d : Datum, ltL n (encD d)
  | .mk k m nm s l kids => by
    simp only [encD, ltL, V.lt, true_and, and_true]
    exact ⟨fun e h => (by cases h), encDs_lt n kids⟩
theorem encDs_lt (n : Nat) : ∀ l : List Datum, ltRows n (encDs l)
  | [] => trivial
  | d :: r => ⟨encD_lt n d, encDs_lt n r⟩
end
theorem Datum.ind {p : Datum → Prop} (h : ∀ k n nm s l kids, (∀ d ∈ kids, p d) → p (.mk k n nm s l kids)) (d : Datum) : p d :=
  Datum.rec (motive_1 := p) (motive_2 := fun l => ∀ d ∈ l, p d) h (by simp) (fun d r h1 h2 x hx => by rcases List.mem_cons.1 hx with rfl | hx; exact h1; exact h2 x hx) d

mutual
/-- What is wrong with a datum, so many nodes behind; and how many nodes then. -/
def shapeD : Datum → Int → Int → Int × Int
  | .mk k n nm s l kids, deep, c =>
    bif decide (2000 < c + 1) || decide (40 < deep) then (4, c + 1)
    else bif decide (k = 1) then (bif decide (1000000000000000 < n) || decide (n < -1000000000000000) then (3, c + 1) else (0, c + 1))
    else bif decide (k = 2) then (bif decide (n = 0) || decide (n = 1) then (0, c + 1) else (3, c + 1))
    else bif decide (k = 3) then (bif !namedB nm then (7, c + 1) else bif decide (s = 0) && decide (l = 0) then (0, c + 1) else (8, c + 1))
    else bif decide (k = 4) then shapeDs kids (deep + 1) (c + 1)
    else (1, c + 1)
def shapeDs : List Datum → Int → Int → Int × Int
  | [], _, c => (0, c)
  | d :: r, deep, c => bif decide ((shapeD d deep c).1 = 0) then shapeDs r deep (shapeD d deep c).2 else shapeD d deep c
end

mutual
theorem shapeD_ok : ∀ (d : Datum) (deep c : Int), 0 ≤ c → (shapeD d deep c).1 = 0 → c ≤ (shapeD d deep c).2 ∧ (shapeD d deep c).2 ≤ 2000
  | .mk k n nm s l kids, deep, c, h0, h => by
    unfold shapeD at h ⊢
    cases h1 : (decide (2000 < c + 1) || decide (40 < deep)) with
    | true => rw [h1] at h; simp at h
    | false =>
      have hc : c + 1 ≤ 2000 := by simp at h1; omega
      rw [h1] at h
      simp only [cond_false] at h ⊢
      cases h2 : decide (k = 1) <;> rw [h2] at h <;> simp only [cond_false, cond_true] at h ⊢
      · cases h3 : decide (k = 2) <;> rw [h3] at h <;> simp only [cond_false, cond_true] at h ⊢
        · cases h4 : decide (k = 3) <;> rw [h4] at h <;> simp only [cond_false, cond_true] at h ⊢
          · cases h5 : decide (k = 4) <;> rw [h5] at h <;> simp only [cond_false, cond_true] at h ⊢
            · simp at h
            · have := shapeDs_ok kids (deep + 1) (c + 1) (by omega) hc h
              exact ⟨by omega, this.2⟩
          · revert h
            cases namedB nm <;> cases (decide (s = 0) && decide (l = 0)) <;> simp <;> omega
        · revert h
          cases (decide (n = 0) || decide (n = 1)) <;> simp <;> omega
      · revert h
        cases (decide (1000000000000000 < n) || decide (n < -1000000000000000)) <;> simp <;> omega
theorem shapeDs_ok : ∀ (l : List Datum) (deep c : Int), 0 ≤ c → c ≤ 2000 → (shapeDs l deep c).1 = 0 → c ≤ (shapeDs l deep c).2 ∧ (shapeDs l deep c).2 ≤ 2000
  | [], deep, c, h0, h1, h => by simp only [shapeDs]; omega
  | d :: r, deep, c, h0, h1, h => by
    simp only [shapeDs] at h ⊢
    cases h2 : decide ((shapeD d deep c).1 = 0) with
    | true =>
      rw [h2] at h
      simp only [cond_true] at h ⊢
      have k1 := shapeD_ok d deep c h0 (of_decide_eq_true h2)
      have k2 := shapeDs_ok r deep _ (by omega) k1.2 h
      omega
    | false =>
      rw [h2] at h
      simp only [cond_false] at h
      exact absurd h (of_decide_eq_false h2)
end

/-- A mark in a box is counted up. -/
theorem set_self {st : St} {o : Nat} {e : Ent} (h : st[o]? = some e) : st.set o e = st := by
  apply List.ext_getElem?
  intro i
  by_cases hi : o = i
  · subst hi; rw [List.getElem?_set_self (List.getElem?_eq_some_iff.1 h).1, h]
  · rw [List.getElem?_set_ne hi]

theorem or_no {a b : Bool} (h : (!a && !b) = true) : (a || b) = false := by revert h; cases a <;> cases b <;> simp
theorem or_yes {a b : Bool} (h : (!a && !b) = false) : (a || b) = true := by revert h; cases a <;> cases b <;> simp
theorem and_no {a b : Bool} (h : (!a || !b) = true) : (a && b) = false := by revert h; cases a <;> cases b <;> simp
theorem and_yes {a b : Bool} (h : (!a || !b) = false) : (a && b) = true := by revert h; cases a <;> cases b <;> simp
theorem not_yes {a : Bool} (h : (!a) = true) : a = false := by revert h; cases a <;> simp
theorem not_no {a : Bool} (h : (!a) = false) : a = true := by revert h; cases a <;> simp

theorem c_shape (d : Datum) : ∀ (st : St) (o : Nat) (c deep : Int), st[o]? = some (.box [.int .i64 c]) → 0 ≤ c → c ≤ 2000 → 0 ≤ deep → deep ≤ 41 →
    VCalls Try.prog TT 56 [.ptr o 0, .ref (encD d), .int .i64 deep] st fun r st' => r = .ret (.int .i64 (shapeD d deep c).1) ∧ st' = st.set o (.box [.int .i64 (shapeD d deep c).2]) := by
  refine Datum.ind (p := fun d => ∀ (st : St) (o : Nat) (c deep : Int), st[o]? = some (.box [.int .i64 c]) → 0 ≤ c → c ≤ 2000 → 0 ≤ deep → deep ≤ 41 →
    VCalls Try.prog TT 56 [.ptr o 0, .ref (encD d), .int .i64 deep] st fun r st' => r = .ret (.int .i64 (shapeD d deep c).1) ∧ st' = st.set o (.box [.int .i64 (shapeD d deep c).2])) ?_ d
  intro k n nm s l kids ih st o c deep ho h0 h1 h2 h3
  refine vfun TT_ok (an := anL []) (L := [0, 1, 2, 6, 7, 8, 28, 83, 84]) (rs := [.tmp 6]) Try.func56 rfl (by kernel_rfl) rfl Try.ntmps56 rfl rfl (Nat.le_of_eq (List.length_set ..).symm) fun hst ha hf => ?_
  have hlt : o < st.length := (List.getElem?_eq_some_iff.1 ho).1
  have hset : ∀ c', (st.set o (.box [.int .i64 c']))[o]? = some (.box [.int .i64 c']) := fun c' => List.getElem?_set_self hlt
  simp only [encD_mk]
  simp only [decide_true, decide_false, gwL, gwB, gwD, gwE, gwS, gwTT, gwZ, initG, Nat.reduceEqDiff, ↓reduceIte, Nat.reduceAdd, Nat.reduceLT, Nat.reduceLeDiff, List.map_cons, List.map_nil, builtS, builtinV, pureR, binV, aggEq, eqFs, eqCell, Option.bind_some, Option.map_some, and_self, List.headD_cons, sliceV, pickV, evO, Env.look, find, V.ofConst, resV, resOne, tupV, loadV, fillV, buildV, mkIface, litM, litS, litR, litRows, List.reverse_cons, List.reverse_nil, Nat.reduceMul, appS, memA, appendV, rowsOf, V.cells, TI.sized, TI.known, TI.agg, anL, List.length_cons, List.length_nil, List.append_nil, List.cons_append, List.nil_append, List.drop_succ_cons, List.drop_zero, List.drop_nil, List.take_succ_cons, List.take_zero, List.take_nil, List.getElem?_cons_zero, List.getElem?_cons_succ, List.all_cons, List.all_nil, List.replicate_succ, List.replicate_zero, List.set_cons_zero, List.set_cons_succ, eq_self, true_or, ne_eq, not_false_eq_true, Nat.reduceEqDiff, ho, hset, wrap_i64 (show -9223372036854775808 ≤ c + 1 by omega) (show c + 1 ≤ 9223372036854775807 by omega)]
  have hok : ∀ c', St.ok (st.set o (.box [.int .i64 c'])) := by
    intro c' e he
    rw [List.length_set]
    rcases List.mem_or_eq_of_mem_set he with h | rfl
    · exact hst e h
    · simp [Ent.lt, ltL, V.lt]
  have hgv : ∀ (e c' e' c'' : Int), (e, c') = (e', c'') → Gives (.int .i64 e') (st.set o (.box [.int .i64 c''])) (.ret (.int .i64 e)) (st.set o (.box [.int .i64 c'])) := by
    intro e c' e' c'' h
    cases h
    exact gives_int rfl (hok c')
  unfold shapeD
  refine iK_split (fun h => ?_) (fun h => ?_)
  · rw [h]
    simp only [decide_true, decide_false, gwL, gwB, gwD, gwE, gwS, gwTT, gwZ, initG, Nat.reduceEqDiff, ↓reduceIte, Nat.reduceAdd, Nat.reduceLT, Nat.reduceLeDiff, List.map_cons, List.map_nil, builtS, builtinV, pureR, binV, aggEq, eqFs, eqCell, Option.bind_some, Option.map_some, and_self, List.headD_cons, sliceV, pickV, evO, Env.look, find, V.ofConst, resV, resOne, tupV, loadV, fillV, buildV, mkIface, litM, litS, litR, litRows, List.reverse_cons, List.reverse_nil, Nat.reduceMul, appS, memA, appendV, rowsOf, V.cells, TI.sized, TI.known, TI.agg, anL, List.length_cons, List.length_nil, List.append_nil, List.cons_append, List.nil_append, List.drop_succ_cons, List.drop_zero, List.drop_nil, List.take_succ_cons, List.take_zero, List.take_nil, List.getElem?_cons_zero, List.getElem?_cons_succ, List.all_cons, List.all_nil, List.replicate_succ, List.replicate_zero, List.set_cons_zero, List.set_cons_succ, eq_self, true_or, ne_eq, not_false_eq_true, Nat.reduceEqDiff]
    exact hgv _ _ _ _ rfl
  rw [h]
  have hc : c + 1 ≤ 2000 ∧ deep ≤ 40 := by simp at h; omega
  simp only [decide_true, decide_false, gwL, gwB, gwD, gwE, gwS, gwTT, gwZ, initG, Nat.reduceEqDiff, ↓reduceIte, Nat.reduceAdd, Nat.reduceLT, Nat.reduceLeDiff, List.map_cons, List.map_nil, builtS, builtinV, pureR, binV, aggEq, eqFs, eqCell, Option.bind_some, Option.map_some, and_self, List.headD_cons, sliceV, pickV, evO, Env.look, find, V.ofConst, resV, resOne, tupV, loadV, fillV, buildV, mkIface, litM, litS, litR, litRows, List.reverse_cons, List.reverse_nil, Nat.reduceMul, appS, memA, appendV, rowsOf, V.cells, TI.sized, TI.known, TI.agg, anL, List.length_cons, List.length_nil, List.append_nil, List.cons_append, List.nil_append, List.drop_succ_cons, List.drop_zero, List.drop_nil, List.take_succ_cons, List.take_zero, List.take_nil, List.getElem?_cons_zero, List.getElem?_cons_succ, List.all_cons, List.all_nil, List.replicate_succ, List.replicate_zero, List.set_cons_zero, List.set_cons_succ, eq_self, true_or, ne_eq, not_false_eq_true, Nat.reduceEqDiff]
  refine iK_split (fun h1 => ?_) (fun h1 => ?_)
  · rw [h1]
    simp only [decide_true, decide_false, gwL, gwB, gwD, gwE, gwS, gwTT, gwZ, initG, Nat.reduceEqDiff, ↓reduceIte, Nat.reduceAdd, Nat.reduceLT, Nat.reduceLeDiff, List.map_cons, List.map_nil, builtS, builtinV, pureR, binV, aggEq, eqFs, eqCell, Option.bind_some, Option.map_some, and_self, List.headD_cons, sliceV, pickV, evO, Env.look, find, V.ofConst, resV, resOne, tupV, loadV, fillV, buildV, mkIface, litM, litS, litR, litRows, List.reverse_cons, List.reverse_nil, Nat.reduceMul, appS, memA, appendV, rowsOf, V.cells, TI.sized, TI.known, TI.agg, anL, List.length_cons, List.length_nil, List.append_nil, List.cons_append, List.nil_append, List.drop_succ_cons, List.drop_zero, List.drop_nil, List.take_succ_cons, List.take_zero, List.take_nil, List.getElem?_cons_zero, List.getElem?_cons_succ, List.all_cons, List.all_nil, List.replicate_succ, List.replicate_zero, List.set_cons_zero, List.set_cons_succ, eq_self, true_or, ne_eq, not_false_eq_true, Nat.reduceEqDiff]
    refine iK_split (fun h2 => ?_) (fun h2 => ?_)
    · rw [h2]
      simp only [decide_true, decide_false, gwL, gwB, gwD, gwE, gwS, gwTT, gwZ, initG, Nat.reduceEqDiff, ↓reduceIte, Nat.reduceAdd, Nat.reduceLT, Nat.reduceLeDiff, List.map_cons, List.map_nil, builtS, builtinV, pureR, binV, aggEq, eqFs, eqCell, Option.bind_some, Option.map_some, and_self, List.headD_cons, sliceV, pickV, evO, Env.look, find, V.ofConst, resV, resOne, tupV, loadV, fillV, buildV, mkIface, litM, litS, litR, litRows, List.reverse_cons, List.reverse_nil, Nat.reduceMul, appS, memA, appendV, rowsOf, V.cells, TI.sized, TI.known, TI.agg, anL, List.length_cons, List.length_nil, List.append_nil, List.cons_append, List.nil_append, List.drop_succ_cons, List.drop_zero, List.drop_nil, List.take_succ_cons, List.take_zero, List.take_nil, List.getElem?_cons_zero, List.getElem?_cons_succ, List.all_cons, List.all_nil, List.replicate_succ, List.replicate_zero, List.set_cons_zero, List.set_cons_succ, eq_self, true_or, ne_eq, not_false_eq_true, Nat.reduceEqDiff]
      exact hgv _ _ _ _ rfl
    · rw [h2]
      simp only [decide_true, decide_false, gwL, gwB, gwD, gwE, gwS, gwTT, gwZ, initG, Nat.reduceEqDiff, ↓reduceIte, Nat.reduceAdd, Nat.reduceLT, Nat.reduceLeDiff, List.map_cons, List.map_nil, builtS, builtinV, pureR, binV, aggEq, eqFs, eqCell, Option.bind_some, Option.map_some, and_self, List.headD_cons, sliceV, pickV, evO, Env.look, find, V.ofConst, resV, resOne, tupV, loadV, fillV, buildV, mkIface, litM, litS, litR, litRows, List.reverse_cons, List.reverse_nil, Nat.reduceMul, appS, memA, appendV, rowsOf, V.cells, TI.sized, TI.known, TI.agg, anL, List.length_cons, List.length_nil, List.append_nil, List.cons_append, List.nil_append, List.drop_succ_cons, List.drop_zero, List.drop_nil, List.take_succ_cons, List.take_zero, List.take_nil, List.getElem?_cons_zero, List.getElem?_cons_succ, List.all_cons, List.all_nil, List.replicate_succ, List.replicate_zero, List.set_cons_zero, List.set_cons_succ, eq_self, true_or, ne_eq, not_false_eq_true, Nat.reduceEqDiff]
      exact hgv _ _ _ _ rfl
  rw [h1]
  simp only [decide_true, decide_false, gwL, gwB, gwD, gwE, gwS, gwTT, gwZ, initG, Nat.reduceEqDiff, ↓reduceIte, Nat.reduceAdd, Nat.reduceLT, Nat.reduceLeDiff, List.map_cons, List.map_nil, builtS, builtinV, pureR, binV, aggEq, eqFs, eqCell, Option.bind_some, Option.map_some, and_self, List.headD_cons, sliceV, pickV, evO, Env.look, find, V.ofConst, resV, resOne, tupV, loadV, fillV, buildV, mkIface, litM, litS, litR, litRows, List.reverse_cons, List.reverse_nil, Nat.reduceMul, appS, memA, appendV, rowsOf, V.cells, TI.sized, TI.known, TI.agg, anL, List.length_cons, List.length_nil, List.append_nil, List.cons_append, List.nil_append, List.drop_succ_cons, List.drop_zero, List.drop_nil, List.take_succ_cons, List.take_zero, List.take_nil, List.getElem?_cons_zero, List.getElem?_cons_succ, List.all_cons, List.all_nil, List.replicate_succ, List.replicate_zero, List.set_cons_zero, List.set_cons_succ, eq_self, true_or, ne_eq, not_false_eq_true, Nat.reduceEqDiff]
  refine iK_split (fun h2 => ?_) (fun h2 => ?_)
  · rw [h2]
    simp only [decide_true, decide_false, gwL, gwB, gwD, gwE, gwS, gwTT, gwZ, initG, Nat.reduceEqDiff, ↓reduceIte, Nat.reduceAdd, Nat.reduceLT, Nat.reduceLeDiff, List.map_cons, List.map_nil, builtS, builtinV, pureR, binV, aggEq, eqFs, eqCell, Option.bind_some, Option.map_some, and_self, List.headD_cons, sliceV, pickV, evO, Env.look, find, V.ofConst, resV, resOne, tupV, loadV, fillV, buildV, mkIface, litM, litS, litR, litRows, List.reverse_cons, List.reverse_nil, Nat.reduceMul, appS, memA, appendV, rowsOf, V.cells, TI.sized, TI.known, TI.agg, anL, List.length_cons, List.length_nil, List.append_nil, List.cons_append, List.nil_append, List.drop_succ_cons, List.drop_zero, List.drop_nil, List.take_succ_cons, List.take_zero, List.take_nil, List.getElem?_cons_zero, List.getElem?_cons_succ, List.all_cons, List.all_nil, List.replicate_succ, List.replicate_zero, List.set_cons_zero, List.set_cons_succ, eq_self, true_or, ne_eq, not_false_eq_true, Nat.reduceEqDiff]
    refine iK_split (fun h3 => ?_) (fun h3 => ?_)
    · rw [or_no h3]
      simp only [decide_true, decide_false, gwL, gwB, gwD, gwE, gwS, gwTT, gwZ, initG, Nat.reduceEqDiff, ↓reduceIte, Nat.reduceAdd, Nat.reduceLT, Nat.reduceLeDiff, List.map_cons, List.map_nil, builtS, builtinV, pureR, binV, aggEq, eqFs, eqCell, Option.bind_some, Option.map_some, and_self, List.headD_cons, sliceV, pickV, evO, Env.look, find, V.ofConst, resV, resOne, tupV, loadV, fillV, buildV, mkIface, litM, litS, litR, litRows, List.reverse_cons, List.reverse_nil, Nat.reduceMul, appS, memA, appendV, rowsOf, V.cells, TI.sized, TI.known, TI.agg, anL, List.length_cons, List.length_nil, List.append_nil, List.cons_append, List.nil_append, List.drop_succ_cons, List.drop_zero, List.drop_nil, List.take_succ_cons, List.take_zero, List.take_nil, List.getElem?_cons_zero, List.getElem?_cons_succ, List.all_cons, List.all_nil, List.replicate_succ, List.replicate_zero, List.set_cons_zero, List.set_cons_succ, eq_self, true_or, ne_eq, not_false_eq_true, Nat.reduceEqDiff]
      exact hgv _ _ _ _ rfl
    · rw [or_yes h3]
      simp only [decide_true, decide_false, gwL, gwB, gwD, gwE, gwS, gwTT, gwZ, initG, Nat.reduceEqDiff, ↓reduceIte, Nat.reduceAdd, Nat.reduceLT, Nat.reduceLeDiff, List.map_cons, List.map_nil, builtS, builtinV, pureR, binV, aggEq, eqFs, eqCell, Option.bind_some, Option.map_some, and_self, List.headD_cons, sliceV, pickV, evO, Env.look, find, V.ofConst, resV, resOne, tupV, loadV, fillV, buildV, mkIface, litM, litS, litR, litRows, List.reverse_cons, List.reverse_nil, Nat.reduceMul, appS, memA, appendV, rowsOf, V.cells, TI.sized, TI.known, TI.agg, anL, List.length_cons, List.length_nil, List.append_nil, List.cons_append, List.nil_append, List.drop_succ_cons, List.drop_zero, List.drop_nil, List.take_succ_cons, List.take_zero, List.take_nil, List.getElem?_cons_zero, List.getElem?_cons_succ, List.all_cons, List.all_nil, List.replicate_succ, List.replicate_zero, List.set_cons_zero, List.set_cons_succ, eq_self, true_or, ne_eq, not_false_eq_true, Nat.reduceEqDiff]
      exact hgv _ _ _ _ rfl
  rw [h2]
  simp only [decide_true, decide_false, gwL, gwB, gwD, gwE, gwS, gwTT, gwZ, initG, Nat.reduceEqDiff, ↓reduceIte, Nat.reduceAdd, Nat.reduceLT, Nat.reduceLeDiff, List.map_cons, List.map_nil, builtS, builtinV, pureR, binV, aggEq, eqFs, eqCell, Option.bind_some, Option.map_some, and_self, List.headD_cons, sliceV, pickV, evO, Env.look, find, V.ofConst, resV, resOne, tupV, loadV, fillV, buildV, mkIface, litM, litS, litR, litRows, List.reverse_cons, List.reverse_nil, Nat.reduceMul, appS, memA, appendV, rowsOf, V.cells, TI.sized, TI.known, TI.agg, anL, List.length_cons, List.length_nil, List.append_nil, List.cons_append, List.nil_append, List.drop_succ_cons, List.drop_zero, List.drop_nil, List.take_succ_cons, List.take_zero, List.take_nil, List.getElem?_cons_zero, List.getElem?_cons_succ, List.all_cons, List.all_nil, List.replicate_succ, List.replicate_zero, List.set_cons_zero, List.set_cons_succ, eq_self, true_or, ne_eq, not_false_eq_true, Nat.reduceEqDiff]
  refine iK_split (fun h3 => ?_) (fun h3 => ?_)
  · rw [h3]
    simp only [decide_true, decide_false, gwL, gwB, gwD, gwE, gwS, gwTT, gwZ, initG, Nat.reduceEqDiff, ↓reduceIte, Nat.reduceAdd, Nat.reduceLT, Nat.reduceLeDiff, List.map_cons, List.map_nil, builtS, builtinV, pureR, binV, aggEq, eqFs, eqCell, Option.bind_some, Option.map_some, and_self, List.headD_cons, sliceV, pickV, evO, Env.look, find, V.ofConst, resV, resOne, tupV, loadV, fillV, buildV, mkIface, litM, litS, litR, litRows, List.reverse_cons, List.reverse_nil, Nat.reduceMul, appS, memA, appendV, rowsOf, V.cells, TI.sized, TI.known, TI.agg, anL, List.length_cons, List.length_nil, List.append_nil, List.cons_append, List.nil_append, List.drop_succ_cons, List.drop_zero, List.drop_nil, List.take_succ_cons, List.take_zero, List.take_nil, List.getElem?_cons_zero, List.getElem?_cons_succ, List.all_cons, List.all_nil, List.replicate_succ, List.replicate_zero, List.set_cons_zero, List.set_cons_succ, eq_self, true_or, ne_eq, not_false_eq_true, Nat.reduceEqDiff]
    refine (c_text_Named _ nm).use (wkL_refl _) fun _ => ?_
    simp only [decide_true, decide_false, gwL, gwB, gwD, gwE, gwS, gwTT, gwZ, initG, Nat.reduceEqDiff, ↓reduceIte, Nat.reduceAdd, Nat.reduceLT, Nat.reduceLeDiff, List.map_cons, List.map_nil, builtS, builtinV, pureR, binV, aggEq, eqFs, eqCell, Option.bind_some, Option.map_some, and_self, List.headD_cons, sliceV, pickV, evO, Env.look, find, V.ofConst, resV, resOne, tupV, loadV, fillV, buildV, mkIface, litM, litS, litR, litRows, List.reverse_cons, List.reverse_nil, Nat.reduceMul, appS, memA, appendV, rowsOf, V.cells, TI.sized, TI.known, TI.agg, anL, List.length_cons, List.length_nil, List.append_nil, List.cons_append, List.nil_append, List.drop_succ_cons, List.drop_zero, List.drop_nil, List.take_succ_cons, List.take_zero, List.take_nil, List.getElem?_cons_zero, List.getElem?_cons_succ, List.all_cons, List.all_nil, List.replicate_succ, List.replicate_zero, List.set_cons_zero, List.set_cons_succ, eq_self, true_or, ne_eq, not_false_eq_true, Nat.reduceEqDiff]
    refine iK_split (fun h4 => ?_) (fun h4 => ?_)
    · rw [h4]
      simp only [decide_true, decide_false, gwL, gwB, gwD, gwE, gwS, gwTT, gwZ, initG, Nat.reduceEqDiff, ↓reduceIte, Nat.reduceAdd, Nat.reduceLT, Nat.reduceLeDiff, List.map_cons, List.map_nil, builtS, builtinV, pureR, binV, aggEq, eqFs, eqCell, Option.bind_some, Option.map_some, and_self, List.headD_cons, sliceV, pickV, evO, Env.look, find, V.ofConst, resV, resOne, tupV, loadV, fillV, buildV, mkIface, litM, litS, litR, litRows, List.reverse_cons, List.reverse_nil, Nat.reduceMul, appS, memA, appendV, rowsOf, V.cells, TI.sized, TI.known, TI.agg, anL, List.length_cons, List.length_nil, List.append_nil, List.cons_append, List.nil_append, List.drop_succ_cons, List.drop_zero, List.drop_nil, List.take_succ_cons, List.take_zero, List.take_nil, List.getElem?_cons_zero, List.getElem?_cons_succ, List.all_cons, List.all_nil, List.replicate_succ, List.replicate_zero, List.set_cons_zero, List.set_cons_succ, eq_self, true_or, ne_eq, not_false_eq_true, Nat.reduceEqDiff]
      exact hgv _ _ _ _ rfl
    rw [h4]
    simp only [decide_true, decide_false, gwL, gwB, gwD, gwE, gwS, gwTT, gwZ, initG, Nat.reduceEqDiff, ↓reduceIte, Nat.reduceAdd, Nat.reduceLT, Nat.reduceLeDiff, List.map_cons, List.map_nil, builtS, builtinV, pureR, binV, aggEq, eqFs, eqCell, Option.bind_some, Option.map_some, and_self, List.headD_cons, sliceV, pickV, evO, Env.look, find, V.ofConst, resV, resOne, tupV, loadV, fillV, buildV, mkIface, litM, litS, litR, litRows, List.reverse_cons, List.reverse_nil, Nat.reduceMul, appS, memA, appendV, rowsOf, V.cells, TI.sized, TI.known, TI.agg, anL, List.length_cons, List.length_nil, List.append_nil, List.cons_append, List.nil_append, List.drop_succ_cons, List.drop_zero, List.drop_nil, List.take_succ_cons, List.take_zero, List.take_nil, List.getElem?_cons_zero, List.getElem?_cons_succ, List.all_cons, List.all_nil, List.replicate_succ, List.replicate_zero, List.set_cons_zero, List.set_cons_succ, eq_self, true_or, ne_eq, not_false_eq_true, Nat.reduceEqDiff]
    refine iK_split (fun h5 => ?_) (fun h5 => ?_)
    · rw [and_no h5]
      simp only [decide_true, decide_false, gwL, gwB, gwD, gwE, gwS, gwTT, gwZ, initG, Nat.reduceEqDiff, ↓reduceIte, Nat.reduceAdd, Nat.reduceLT, Nat.reduceLeDiff, List.map_cons, List.map_nil, builtS, builtinV, pureR, binV, aggEq, eqFs, eqCell, Option.bind_some, Option.map_some, and_self, List.headD_cons, sliceV, pickV, evO, Env.look, find, V.ofConst, resV, resOne, tupV, loadV, fillV, buildV, mkIface, litM, litS, litR, litRows, List.reverse_cons, List.reverse_nil, Nat.reduceMul, appS, memA, appendV, rowsOf, V.cells, TI.sized, TI.known, TI.agg, anL, List.length_cons, List.length_nil, List.append_nil, List.cons_append, List.nil_append, List.drop_succ_cons, List.drop_zero, List.drop_nil, List.take_succ_cons, List.take_zero, List.take_nil, List.getElem?_cons_zero, List.getElem?_cons_succ, List.all_cons, List.all_nil, List.replicate_succ, List.replicate_zero, List.set_cons_zero, List.set_cons_succ, eq_self, true_or, ne_eq, not_false_eq_true, Nat.reduceEqDiff]
      exact hgv _ _ _ _ rfl
    · rw [and_yes h5]
      simp only [decide_true, decide_false, gwL, gwB, gwD, gwE, gwS, gwTT, gwZ, initG, Nat.reduceEqDiff, ↓reduceIte, Nat.reduceAdd, Nat.reduceLT, Nat.reduceLeDiff, List.map_cons, List.map_nil, builtS, builtinV, pureR, binV, aggEq, eqFs, eqCell, Option.bind_some, Option.map_some, and_self, List.headD_cons, sliceV, pickV, evO, Env.look, find, V.ofConst, resV, resOne, tupV, loadV, fillV, buildV, mkIface, litM, litS, litR, litRows, List.reverse_cons, List.reverse_nil, Nat.reduceMul, appS, memA, appendV, rowsOf, V.cells, TI.sized, TI.known, TI.agg, anL, List.length_cons, List.length_nil, List.append_nil, List.cons_append, List.nil_append, List.drop_succ_cons, List.drop_zero, List.drop_nil, List.take_succ_cons, List.take_zero, List.take_nil, List.getElem?_cons_zero, List.getElem?_cons_succ, List.all_cons, List.all_nil, List.replicate_succ, List.replicate_zero, List.set_cons_zero, List.set_cons_succ, eq_self, true_or, ne_eq, not_false_eq_true, Nat.reduceEqDiff]
      exact hgv _ _ _ _ rfl
  rw [h3]
  simp only [decide_true, decide_false, gwL, gwB, gwD, gwE, gwS, gwTT, gwZ, initG, Nat.reduceEqDiff, ↓reduceIte, Nat.reduceAdd, Nat.reduceLT, Nat.reduceLeDiff, List.map_cons, List.map_nil, builtS, builtinV, pureR, binV, aggEq, eqFs, eqCell, Option.bind_some, Option.map_some, and_self, List.headD_cons, sliceV, pickV, evO, Env.look, find, V.ofConst, resV, resOne, tupV, loadV, fillV, buildV, mkIface, litM, litS, litR, litRows, List.reverse_cons, List.reverse_nil, Nat.reduceMul, appS, memA, appendV, rowsOf, V.cells, TI.sized, TI.known, TI.agg, anL, List.length_cons, List.length_nil, List.append_nil, List.cons_append, List.nil_append, List.drop_succ_cons, List.drop_zero, List.drop_nil, List.take_succ_cons, List.take_zero, List.take_nil, List.getElem?_cons_zero, List.getElem?_cons_succ, List.all_cons, List.all_nil, List.replicate_succ, List.replicate_zero, List.set_cons_zero, List.set_cons_succ, eq_self, true_or, ne_eq, not_false_eq_true, Nat.reduceEqDiff]
  refine iK_split (fun h4 => ?_) (fun h4 => ?_)
  · rw [h4]
    simp only [decide_true, decide_false, gwL, gwB, gwD, gwE, gwS, gwTT, gwZ, initG, Nat.reduceEqDiff, ↓reduceIte, Nat.reduceAdd, Nat.reduceLT, Nat.reduceLeDiff, List.map_cons, List.map_nil, builtS, builtinV, pureR, binV, aggEq, eqFs, eqCell, Option.bind_some, Option.map_some, and_self, List.headD_cons, sliceV, pickV, evO, Env.look, find, V.ofConst, resV, resOne, tupV, loadV, fillV, buildV, mkIface, litM, litS, litR, litRows, List.reverse_cons, List.reverse_nil, Nat.reduceMul, appS, memA, appendV, rowsOf, V.cells, TI.sized, TI.known, TI.agg, anL, List.length_cons, List.length_nil, List.append_nil, List.cons_append, List.nil_append, List.drop_succ_cons, List.drop_zero, List.drop_nil, List.take_succ_cons, List.take_zero, List.take_nil, List.getElem?_cons_zero, List.getElem?_cons_succ, List.all_cons, List.all_nil, List.replicate_succ, List.replicate_zero, List.set_cons_zero, List.set_cons_succ, eq_self, true_or, ne_eq, not_false_eq_true, Nat.reduceEqDiff, List.length_map]
    simp only [encD_mk, fitL, V.fit, List.length_map] at hf
    have hkl : kids.length ≤ 9223372036854775807 := by simp at hf; omega
    refine vfor (σ := Nat × Int) [0, 1, 2, 6, 83, 84] (fun x => [(0, true, .ptr o 0), (1, true, .ref (encD (.mk k n nm s l kids))), (2, true, .int .i64 deep), (6, true, .int .i64 0), (83, true, .int .i64 kids.length), (84, true, .int .i64 x.1)]) (fun x => st.set o (.box [.int .i64 x.2])) (fun x => kids.length - x.1) (fun x => x.1 ≤ kids.length ∧ 0 ≤ x.2 ∧ x.2 ≤ 2000 ∧ shapeDs kids (deep + 1) (c + 1) = shapeDs (kids.drop x.1) (deep + 1) x.2) (0, c + 1) rfl TT_ok ⟨Nat.zero_le _, by omega, by omega, rfl⟩ (by rw [encD_mk]; rfl) rfl ?_
    rintro ⟨i, ci⟩ ⟨hi, hc0, hc1, hx⟩
    simp only at hi hc0 hc1 hx
    rw [hx]
    simp only [encD_mk]
    rcases at_or_end kids i hi with ⟨rfl, hd⟩ | ⟨a, hlt2, hget, hdr⟩
    · simp only [decide_true, decide_false, gwL, gwB, gwD, gwE, gwS, gwTT, gwZ, initG, Nat.reduceEqDiff, ↓reduceIte, Nat.reduceAdd, Nat.reduceLT, Nat.reduceLeDiff, List.map_cons, List.map_nil, builtS, builtinV, pureR, binV, aggEq, eqFs, eqCell, Option.bind_some, Option.map_some, and_self, List.headD_cons, sliceV, pickV, evO, Env.look, find, V.ofConst, resV, resOne, tupV, loadV, fillV, buildV, mkIface, litM, litS, litR, litRows, List.reverse_cons, List.reverse_nil, Nat.reduceMul, appS, memA, appendV, rowsOf, V.cells, TI.sized, TI.known, TI.agg, anL, List.length_cons, List.length_nil, List.append_nil, List.cons_append, List.nil_append, List.drop_succ_cons, List.drop_zero, List.drop_nil, List.take_succ_cons, List.take_zero, List.take_nil, List.getElem?_cons_zero, List.getElem?_cons_succ, List.all_cons, List.all_nil, List.replicate_succ, List.replicate_zero, List.set_cons_zero, List.set_cons_succ, eq_self, true_or, ne_eq, not_false_eq_true, Nat.reduceEqDiff, lt_no, hd, shapeDs]
      exact hgv _ _ _ _ rfl
    · simp only [decide_true, decide_false, gwL, gwB, gwD, gwE, gwS, gwTT, gwZ, initG, Nat.reduceEqDiff, ↓reduceIte, Nat.reduceAdd, Nat.reduceLT, Nat.reduceLeDiff, List.map_cons, List.map_nil, builtS, builtinV, pureR, binV, aggEq, eqFs, eqCell, Option.bind_some, Option.map_some, and_self, List.headD_cons, sliceV, pickV, evO, Env.look, find, V.ofConst, resV, resOne, tupV, loadV, fillV, buildV, mkIface, litM, litS, litR, litRows, List.reverse_cons, List.reverse_nil, Nat.reduceMul, appS, memA, appendV, rowsOf, V.cells, TI.sized, TI.known, TI.agg, anL, List.length_cons, List.length_nil, List.append_nil, List.cons_append, List.nil_append, List.drop_succ_cons, List.drop_zero, List.drop_nil, List.take_succ_cons, List.take_zero, List.take_nil, List.getElem?_cons_zero, List.getElem?_cons_succ, List.all_cons, List.all_nil, List.replicate_succ, List.replicate_zero, List.set_cons_zero, List.set_cons_succ, eq_self, true_or, ne_eq, not_false_eq_true, Nat.reduceEqDiff, lt_yes hlt2, hdr, shapeDs, List.length_map, getD_map hget, Int.ofNat_lt.mpr hlt2, wrap_i64 (show -9223372036854775808 ≤ deep + 1 by omega) (show deep + 1 ≤ 9223372036854775807 by omega)]
      refine (ih a (List.mem_of_getElem? hget) (st.set o (.box [.int .i64 ci])) o ci (deep + 1) (hset ci) hc0 hc1 (by omega) (by omega)).use (wkL_refl _) fun _ => ?_
      simp only [decide_true, decide_false, gwL, gwB, gwD, gwE, gwS, gwTT, gwZ, initG, Nat.reduceEqDiff, ↓reduceIte, Nat.reduceAdd, Nat.reduceLT, Nat.reduceLeDiff, List.map_cons, List.map_nil, builtS, builtinV, pureR, binV, aggEq, eqFs, eqCell, Option.bind_some, Option.map_some, and_self, List.headD_cons, sliceV, pickV, evO, Env.look, find, V.ofConst, resV, resOne, tupV, loadV, fillV, buildV, mkIface, litM, litS, litR, litRows, List.reverse_cons, List.reverse_nil, Nat.reduceMul, appS, memA, appendV, rowsOf, V.cells, TI.sized, TI.known, TI.agg, anL, List.length_cons, List.length_nil, List.append_nil, List.cons_append, List.nil_append, List.drop_succ_cons, List.drop_zero, List.drop_nil, List.take_succ_cons, List.take_zero, List.take_nil, List.getElem?_cons_zero, List.getElem?_cons_succ, List.all_cons, List.all_nil, List.replicate_succ, List.replicate_zero, List.set_cons_zero, List.set_cons_succ, eq_self, true_or, ne_eq, not_false_eq_true, Nat.reduceEqDiff, List.set_set]
      refine iK_split (fun h5 => ?_) (fun h5 => ?_)
      · rw [not_yes h5]
        simp only [decide_true, decide_false, gwL, gwB, gwD, gwE, gwS, gwTT, gwZ, initG, Nat.reduceEqDiff, ↓reduceIte, Nat.reduceAdd, Nat.reduceLT, Nat.reduceLeDiff, List.map_cons, List.map_nil, builtS, builtinV, pureR, binV, aggEq, eqFs, eqCell, Option.bind_some, Option.map_some, and_self, List.headD_cons, sliceV, pickV, evO, Env.look, find, V.ofConst, resV, resOne, tupV, loadV, fillV, buildV, mkIface, litM, litS, litR, litRows, List.reverse_cons, List.reverse_nil, Nat.reduceMul, appS, memA, appendV, rowsOf, V.cells, TI.sized, TI.known, TI.agg, anL, List.length_cons, List.length_nil, List.append_nil, List.cons_append, List.nil_append, List.drop_succ_cons, List.drop_zero, List.drop_nil, List.take_succ_cons, List.take_zero, List.take_nil, List.getElem?_cons_zero, List.getElem?_cons_succ, List.all_cons, List.all_nil, List.replicate_succ, List.replicate_zero, List.set_cons_zero, List.set_cons_succ, eq_self, true_or, ne_eq, not_false_eq_true, Nat.reduceEqDiff]
        exact hgv _ _ _ _ rfl
      · have h6 : decide ((shapeD a (deep + 1) ci).1 = 0) = true := by simpa using h5
        have h7 := shapeD_ok a (deep + 1) ci hc0 (of_decide_eq_true h6)
        rw [h6]
        simp only [decide_true, decide_false, gwL, gwB, gwD, gwE, gwS, gwTT, gwZ, initG, Nat.reduceEqDiff, ↓reduceIte, Nat.reduceAdd, Nat.reduceLT, Nat.reduceLeDiff, List.map_cons, List.map_nil, builtS, builtinV, pureR, binV, aggEq, eqFs, eqCell, Option.bind_some, Option.map_some, and_self, List.headD_cons, sliceV, pickV, evO, Env.look, find, V.ofConst, resV, resOne, tupV, loadV, fillV, buildV, mkIface, litM, litS, litR, litRows, List.reverse_cons, List.reverse_nil, Nat.reduceMul, appS, memA, appendV, rowsOf, V.cells, TI.sized, TI.known, TI.agg, anL, List.length_cons, List.length_nil, List.append_nil, List.cons_append, List.nil_append, List.drop_succ_cons, List.drop_zero, List.drop_nil, List.take_succ_cons, List.take_zero, List.take_nil, List.getElem?_cons_zero, List.getElem?_cons_succ, List.all_cons, List.all_nil, List.replicate_succ, List.replicate_zero, List.set_cons_zero, List.set_cons_succ, eq_self, true_or, ne_eq, not_false_eq_true, Nat.reduceEqDiff, Env.keep]
        exact ⟨(i + 1, (shapeD a (deep + 1) ci).2), by rw [next_i64 hlt2 hkl], rfl, by simp only; omega, by simp only; omega, by simp only; omega, h7.2, rfl⟩
  · rw [h4]
    simp only [decide_true, decide_false, gwL, gwB, gwD, gwE, gwS, gwTT, gwZ, initG, Nat.reduceEqDiff, ↓reduceIte, Nat.reduceAdd, Nat.reduceLT, Nat.reduceLeDiff, List.map_cons, List.map_nil, builtS, builtinV, pureR, binV, aggEq, eqFs, eqCell, Option.bind_some, Option.map_some, and_self, List.headD_cons, sliceV, pickV, evO, Env.look, find, V.ofConst, resV, resOne, tupV, loadV, fillV, buildV, mkIface, litM, litS, litR, litRows, List.reverse_cons, List.reverse_nil, Nat.reduceMul, appS, memA, appendV, rowsOf, V.cells, TI.sized, TI.known, TI.agg, anL, List.length_cons, List.length_nil, List.append_nil, List.cons_append, List.nil_append, List.drop_succ_cons, List.drop_zero, List.drop_nil, List.take_succ_cons, List.take_zero, List.take_nil, List.getElem?_cons_zero, List.getElem?_cons_succ, List.all_cons, List.all_nil, List.replicate_succ, List.replicate_zero, List.set_cons_zero, List.set_cons_succ, eq_self, true_or, ne_eq, not_false_eq_true, Nat.reduceEqDiff]
    exact hgv _ _ _ _ rfl
end Go.Proofs.Ytlblgbfpdlfedaa.Gx
