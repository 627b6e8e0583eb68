/- Contracts: what the small functions on strings and on lists of strings give. Contracts: letters, numbers, names. Contracts: what is wrong with data. Contracts: what is wrong with lists of data. -/
import Derived.Test.YtpfdoffnpkokhaaQ5
import Derived.Lib.Strings
import Derived.Lib.Walk
import Derived.Lib.Bytealg

namespace Go.Proofs.Ytpfdoffnpkokhaa.Gx
open Go Go.Proofs.Ytpfdoffnpkokhaa.Gw
set_option linter.unusedSimpArgs false

abbrev Str := List UInt8
def encS (l : List Str) : V := .lst 1 none (l.map fun s => [.str s])

-- strings.IndexByte: the model's own entry stands where the library has no body
set_option maxHeartbeats 1000000 in
set_option maxRecDepth 100000 in
theorem r_IndexByte (s : ByteArray) (c : Int) (w : World) :
    Calls Try.prog 47 #[.string s, .int .u8 c] w fun e w' => e = .returned (.int .i64 (Lib.indexByte s.data.toList c.toNat.toUInt8)) ∧ w' = w := by
  go_enter Try.func47, Try.ntmps47
  go_wp2
  rw [run_callFunc_extern Try.func49 (by kernel_rfl) (by kernel_rfl) (by kernel_rfl) (e := Extern.BytealgIndexByte.indexByte) (by kernel_rfl), Lib.run_indexByteString]
  simp only [Result.andThen]
  rw [Oper.upon_value]
  go_wp2
  go_ret
  exact ⟨rfl, rfl⟩
theorem c_IndexByte0 (st : St) (s : Str) (c : Int) : VCalls Try.prog TT 47 [.str s, .int .u8 c] st fun r st' => r = .ret (.int .i64 (Lib.indexByte s c.toNat.toUInt8)) ∧ st' = st := by
  refine VCalls.ofReal ⟨_, Try.func47, by kernel_rfl, by kernel_rfl⟩ fun g w vals h => ?_
  simp only [SimVs, SimV] at h
  obtain ⟨_, _, rfl, ⟨rfl, _⟩, _, _, rfl, rfl, rfl⟩ := h
  exact ⟨_, by simp only [SimV], r_IndexByte ⟨s.toArray⟩ c w⟩
theorem c_IndexByte (st : St) (s : Str) (c : Int) : VCalls Try.prog TT 45 [.str s, .int .u8 c] st fun r st' => r = .ret (.int .i64 (Lib.indexByte s c.toNat.toUInt8)) ∧ st' = st := by
  refine vfun TT_ok (an := anL []) (L := [0, 1, 4]) (rs := [.tmp 4]) Try.func45 rfl (by kernel_rfl) rfl Try.ntmps45 rfl rfl (Nat.le_refl _) fun hst ha hf => ?_
  simp only [decide_true, decide_false, gwL, gwB, gwD, gwE, gwS, gwTT, gwZ, initG, Nat.reduceEqDiff, ↓reduceIte, Nat.reduceAdd, Nat.reduceLT, Nat.reduceLeDiff, List.map_cons, List.map_nil, builtS, builtinV, pureR, binV, sliceV, pickV, evO, Env.look, find, V.ofConst, resV, resOne, tupV, loadV, fillV, buildV, mkIface, litM, litS, litR, litRows, List.reverse_cons, List.reverse_nil, Nat.reduceMul, appS, memA, appendV, rowsOf, V.cells, TI.sized, TI.known, TI.agg, anL, List.length_cons, List.length_nil, List.append_nil, List.cons_append, List.nil_append, List.drop_succ_cons, List.drop_zero, List.drop_nil, List.take_succ_cons, List.take_zero, List.take_nil, List.getElem?_cons_zero, List.getElem?_cons_succ, List.all_cons, List.all_nil, List.replicate_succ, List.replicate_zero, List.set_cons_zero, List.set_cons_succ, eq_self, true_or, ne_eq, not_false_eq_true, Nat.reduceEqDiff]
  refine (c_IndexByte0 st s c).use (wkL_refl _) fun _ => ?_
  simp only [decide_true, decide_false, gwL, gwB, gwD, gwE, gwS, gwTT, gwZ, initG, Nat.reduceEqDiff, ↓reduceIte, Nat.reduceAdd, Nat.reduceLT, Nat.reduceLeDiff, List.map_cons, List.map_nil, builtS, builtinV, pureR, binV, sliceV, pickV, evO, Env.look, find, V.ofConst, resV, resOne, tupV, loadV, fillV, buildV, mkIface, litM, litS, litR, litRows, List.reverse_cons, List.reverse_nil, Nat.reduceMul, appS, memA, appendV, rowsOf, V.cells, TI.sized, TI.known, TI.agg, anL, List.length_cons, List.length_nil, List.append_nil, List.cons_append, List.nil_append, List.drop_succ_cons, List.drop_zero, List.drop_nil, List.take_succ_cons, List.take_zero, List.take_nil, List.getElem?_cons_zero, List.getElem?_cons_succ, List.all_cons, List.all_nil, List.replicate_succ, List.replicate_zero, List.set_cons_zero, List.set_cons_succ, eq_self, true_or, ne_eq, not_false_eq_true, Nat.reduceEqDiff]
  exact gives_int rfl hst

-- slices.Index, slices.Contains
def idxOf (s : Str) : Nat → List Str → Int
  | _, [] => -1
  | i, a :: r => bif decide (s = a) then (i : Int) else idxOf s (i + 1) r
theorem c_Index (st : St) (l : List Str) (s : Str) : VCalls Try.prog TT 35 [encS l, .str s] st fun r st' => r = .ret (.int .i64 (idxOf s 0 l)) ∧ st' = st := by
  refine vfun TT_ok (an := anL []) (L := [0, 1, 4, 5, 7, 8]) (rs := [.tmp 4]) Try.func35 rfl (by kernel_rfl) rfl Try.ntmps35 rfl rfl (Nat.le_refl _) fun hst ha hf => ?_
  simp only [encS, fitL, V.fit, List.length_map] at hf
  simp only [encS]
  simp only [decide_true, decide_false, gwL, gwB, gwD, gwE, gwS, gwTT, gwZ, initG, Nat.reduceEqDiff, ↓reduceIte, Nat.reduceAdd, Nat.reduceLT, Nat.reduceLeDiff, List.map_cons, List.map_nil, builtS, builtinV, pureR, binV, sliceV, pickV, evO, Env.look, find, V.ofConst, resV, resOne, tupV, loadV, fillV, buildV, mkIface, litM, litS, litR, litRows, List.reverse_cons, List.reverse_nil, Nat.reduceMul, appS, memA, appendV, rowsOf, V.cells, TI.sized, TI.known, TI.agg, anL, List.length_cons, List.length_nil, List.append_nil, List.cons_append, List.nil_append, List.drop_succ_cons, List.drop_zero, List.drop_nil, List.take_succ_cons, List.take_zero, List.take_nil, List.getElem?_cons_zero, List.getElem?_cons_succ, List.all_cons, List.all_nil, List.replicate_succ, List.replicate_zero, List.set_cons_zero, List.set_cons_succ, eq_self, true_or, ne_eq, not_false_eq_true, Nat.reduceEqDiff, List.length_map]
  refine vfor (σ := Nat) [0, 1, 4, 7, 8] (fun i => [(0, true, encS l), (1, true, .str s), (4, true, .int .i64 0), (7, true, .int .i64 l.length), (8, true, .int .i64 i)]) (fun i => st) (fun i => l.length - i) (fun i => i ≤ l.length ∧ idxOf s 0 l = idxOf s i (l.drop i)) 0 rfl TT_ok ⟨Nat.zero_le _, rfl⟩ rfl rfl ?_
  rintro i ⟨hi, hx⟩
  rw [hx]
  rcases at_or_end l i hi with ⟨rfl, hd⟩ | ⟨a, hlt, hget, hdr⟩
  · simp only [decide_true, decide_false, gwL, gwB, gwD, gwE, gwS, gwTT, gwZ, initG, Nat.reduceEqDiff, ↓reduceIte, Nat.reduceAdd, Nat.reduceLT, Nat.reduceLeDiff, List.map_cons, List.map_nil, builtS, builtinV, pureR, binV, sliceV, pickV, evO, Env.look, find, V.ofConst, resV, resOne, tupV, loadV, fillV, buildV, mkIface, litM, litS, litR, litRows, List.reverse_cons, List.reverse_nil, Nat.reduceMul, appS, memA, appendV, rowsOf, V.cells, TI.sized, TI.known, TI.agg, anL, List.length_cons, List.length_nil, List.append_nil, List.cons_append, List.nil_append, List.drop_succ_cons, List.drop_zero, List.drop_nil, List.take_succ_cons, List.take_zero, List.take_nil, List.getElem?_cons_zero, List.getElem?_cons_succ, List.all_cons, List.all_nil, List.replicate_succ, List.replicate_zero, List.set_cons_zero, List.set_cons_succ, eq_self, true_or, ne_eq, not_false_eq_true, Nat.reduceEqDiff, lt_no, hd, idxOf]
    exact gives_int rfl hst
  · simp only [encS]
    simp only [decide_true, decide_false, gwL, gwB, gwD, gwE, gwS, gwTT, gwZ, initG, Nat.reduceEqDiff, ↓reduceIte, Nat.reduceAdd, Nat.reduceLT, Nat.reduceLeDiff, List.map_cons, List.map_nil, builtS, builtinV, pureR, binV, sliceV, pickV, evO, Env.look, find, V.ofConst, resV, resOne, tupV, loadV, fillV, buildV, mkIface, litM, litS, litR, litRows, List.reverse_cons, List.reverse_nil, Nat.reduceMul, appS, memA, appendV, rowsOf, V.cells, TI.sized, TI.known, TI.agg, anL, List.length_cons, List.length_nil, List.append_nil, List.cons_append, List.nil_append, List.drop_succ_cons, List.drop_zero, List.drop_nil, List.take_succ_cons, List.take_zero, List.take_nil, List.getElem?_cons_zero, List.getElem?_cons_succ, List.all_cons, List.all_nil, List.replicate_succ, List.replicate_zero, List.set_cons_zero, List.set_cons_succ, eq_self, true_or, ne_eq, not_false_eq_true, Nat.reduceEqDiff, lt_yes hlt, hdr, idxOf, List.length_map, getD_map hget, Int.ofNat_lt.mpr hlt]
    refine iK_split (fun h => ?_) (fun h => ?_)
    · simp only [decide_true, decide_false, gwL, gwB, gwD, gwE, gwS, gwTT, gwZ, initG, Nat.reduceEqDiff, ↓reduceIte, Nat.reduceAdd, Nat.reduceLT, Nat.reduceLeDiff, List.map_cons, List.map_nil, builtS, builtinV, pureR, binV, sliceV, pickV, evO, Env.look, find, V.ofConst, resV, resOne, tupV, loadV, fillV, buildV, mkIface, litM, litS, litR, litRows, List.reverse_cons, List.reverse_nil, Nat.reduceMul, appS, memA, appendV, rowsOf, V.cells, TI.sized, TI.known, TI.agg, anL, List.length_cons, List.length_nil, List.append_nil, List.cons_append, List.nil_append, List.drop_succ_cons, List.drop_zero, List.drop_nil, List.take_succ_cons, List.take_zero, List.take_nil, List.getElem?_cons_zero, List.getElem?_cons_succ, List.all_cons, List.all_nil, List.replicate_succ, List.replicate_zero, List.set_cons_zero, List.set_cons_succ, eq_self, true_or, ne_eq, not_false_eq_true, Nat.reduceEqDiff, h]
      exact gives_int rfl hst
    · simp only [decide_true, decide_false, gwL, gwB, gwD, gwE, gwS, gwTT, gwZ, initG, Nat.reduceEqDiff, ↓reduceIte, Nat.reduceAdd, Nat.reduceLT, Nat.reduceLeDiff, List.map_cons, List.map_nil, builtS, builtinV, pureR, binV, sliceV, pickV, evO, Env.look, find, V.ofConst, resV, resOne, tupV, loadV, fillV, buildV, mkIface, litM, litS, litR, litRows, List.reverse_cons, List.reverse_nil, Nat.reduceMul, appS, memA, appendV, rowsOf, V.cells, TI.sized, TI.known, TI.agg, anL, List.length_cons, List.length_nil, List.append_nil, List.cons_append, List.nil_append, List.drop_succ_cons, List.drop_zero, List.drop_nil, List.take_succ_cons, List.take_zero, List.take_nil, List.getElem?_cons_zero, List.getElem?_cons_succ, List.all_cons, List.all_nil, List.replicate_succ, List.replicate_zero, List.set_cons_zero, List.set_cons_succ, eq_self, true_or, ne_eq, not_false_eq_true, Nat.reduceEqDiff, h, Env.keep]
      exact ⟨i + 1, by rw [next_i64 hlt hf.1.1], by omega, hlt, rfl⟩
theorem idxOf_ge (s : Str) : ∀ (l : List Str) (i : Nat), decide (0 ≤ idxOf s i l) = decide (s ∈ l)
  | [], i => by simp [idxOf]
  | a :: r, i => by
    have := idxOf_ge s r (i + 1)
    by_cases h : s = a
    · subst h; simp [idxOf]
    · simp only [idxOf, h, decide_false, cond_false, this, List.mem_cons, false_or]
theorem c_Contains (st : St) (l : List Str) (s : Str) : VCalls Try.prog TT 29 [encS l, .str s] st fun r st' => r = .ret (.bool (decide (s ∈ l))) ∧ st' = st := by
  refine vfun TT_ok (an := anL []) (L := [0, 1, 4]) (rs := [.tmp 4]) Try.func29 rfl (by kernel_rfl) rfl Try.ntmps29 rfl rfl (Nat.le_refl _) fun hst ha hf => ?_
  simp only [encS]
  simp only [decide_true, decide_false, gwL, gwB, gwD, gwE, gwS, gwTT, gwZ, initG, Nat.reduceEqDiff, ↓reduceIte, Nat.reduceAdd, Nat.reduceLT, Nat.reduceLeDiff, List.map_cons, List.map_nil, builtS, builtinV, pureR, binV, sliceV, pickV, evO, Env.look, find, V.ofConst, resV, resOne, tupV, loadV, fillV, buildV, mkIface, litM, litS, litR, litRows, List.reverse_cons, List.reverse_nil, Nat.reduceMul, appS, memA, appendV, rowsOf, V.cells, TI.sized, TI.known, TI.agg, anL, List.length_cons, List.length_nil, List.append_nil, List.cons_append, List.nil_append, List.drop_succ_cons, List.drop_zero, List.drop_nil, List.take_succ_cons, List.take_zero, List.take_nil, List.getElem?_cons_zero, List.getElem?_cons_succ, List.all_cons, List.all_nil, List.replicate_succ, List.replicate_zero, List.set_cons_zero, List.set_cons_succ, eq_self, true_or, ne_eq, not_false_eq_true, Nat.reduceEqDiff]
  refine (c_Index st l s).use (by simp only [encS]; exact wkL_refl _) fun _ => ?_
  simp only [decide_true, decide_false, gwL, gwB, gwD, gwE, gwS, gwTT, gwZ, initG, Nat.reduceEqDiff, ↓reduceIte, Nat.reduceAdd, Nat.reduceLT, Nat.reduceLeDiff, List.map_cons, List.map_nil, builtS, builtinV, pureR, binV, sliceV, pickV, evO, Env.look, find, V.ofConst, resV, resOne, tupV, loadV, fillV, buildV, mkIface, litM, litS, litR, litRows, List.reverse_cons, List.reverse_nil, Nat.reduceMul, appS, memA, appendV, rowsOf, V.cells, TI.sized, TI.known, TI.agg, anL, List.length_cons, List.length_nil, List.append_nil, List.cons_append, List.nil_append, List.drop_succ_cons, List.drop_zero, List.drop_nil, List.take_succ_cons, List.take_zero, List.take_nil, List.getElem?_cons_zero, List.getElem?_cons_succ, List.all_cons, List.all_nil, List.replicate_succ, List.replicate_zero, List.set_cons_zero, List.set_cons_succ, eq_self, true_or, ne_eq, not_false_eq_true, Nat.reduceEqDiff, idxOf_ge]
  exact gives_bool rfl hst
theorem c_in (st : St) (l : List Str) (s : Str) : VCalls Try.prog TT 37 [encS l, .str s] st fun r st' => r = .ret (.bool (decide (s ∈ l))) ∧ st' = st := by
  refine vfun TT_ok (an := anL []) (L := [0, 1, 4, 6, 7, 8, 9]) (rs := [.tmp 4]) Try.func37 rfl (by kernel_rfl) rfl Try.ntmps37 rfl rfl (Nat.le_refl _) fun hst ha hf => ?_
  simp only [encS, fitL, V.fit, List.length_map] at hf
  simp only [encS]
  simp only [decide_true, decide_false, gwL, gwB, gwD, gwE, gwS, gwTT, gwZ, initG, Nat.reduceEqDiff, ↓reduceIte, Nat.reduceAdd, Nat.reduceLT, Nat.reduceLeDiff, List.map_cons, List.map_nil, builtS, builtinV, pureR, binV, sliceV, pickV, evO, Env.look, find, V.ofConst, resV, resOne, tupV, loadV, fillV, buildV, mkIface, litM, litS, litR, litRows, List.reverse_cons, List.reverse_nil, Nat.reduceMul, appS, memA, appendV, rowsOf, V.cells, TI.sized, TI.known, TI.agg, anL, List.length_cons, List.length_nil, List.append_nil, List.cons_append, List.nil_append, List.drop_succ_cons, List.drop_zero, List.drop_nil, List.take_succ_cons, List.take_zero, List.take_nil, List.getElem?_cons_zero, List.getElem?_cons_succ, List.all_cons, List.all_nil, List.replicate_succ, List.replicate_zero, List.set_cons_zero, List.set_cons_succ, eq_self, true_or, ne_eq, not_false_eq_true, Nat.reduceEqDiff, List.length_map]
  refine vfor (σ := Nat) [0, 1, 4, 8, 7, 9] (fun i => [(0, true, encS l), (1, true, .str s), (4, true, .bool false), (8, true, .int .i64 l.length), (7, true, encS l), (9, true, .int .i64 i)]) (fun i => st) (fun i => l.length - i) (fun i => i ≤ l.length ∧ decide (s ∈ l) = decide (s ∈ l.drop i)) 0 rfl TT_ok ⟨Nat.zero_le _, rfl⟩ rfl rfl ?_
  rintro i ⟨hi, hx⟩
  rw [hx]
  rcases at_or_end l i hi with ⟨rfl, hd⟩ | ⟨a, hlt, hget, hdr⟩
  · simp only [decide_true, decide_false, gwL, gwB, gwD, gwE, gwS, gwTT, gwZ, initG, Nat.reduceEqDiff, ↓reduceIte, Nat.reduceAdd, Nat.reduceLT, Nat.reduceLeDiff, List.map_cons, List.map_nil, builtS, builtinV, pureR, binV, sliceV, pickV, evO, Env.look, find, V.ofConst, resV, resOne, tupV, loadV, fillV, buildV, mkIface, litM, litS, litR, litRows, List.reverse_cons, List.reverse_nil, Nat.reduceMul, appS, memA, appendV, rowsOf, V.cells, TI.sized, TI.known, TI.agg, anL, List.length_cons, List.length_nil, List.append_nil, List.cons_append, List.nil_append, List.drop_succ_cons, List.drop_zero, List.drop_nil, List.take_succ_cons, List.take_zero, List.take_nil, List.getElem?_cons_zero, List.getElem?_cons_succ, List.all_cons, List.all_nil, List.replicate_succ, List.replicate_zero, List.set_cons_zero, List.set_cons_succ, eq_self, true_or, ne_eq, not_false_eq_true, Nat.reduceEqDiff, lt_no, hd]
    exact gives_bool (by simp) hst
  · simp only [encS]
    simp only [decide_true, decide_false, gwL, gwB, gwD, gwE, gwS, gwTT, gwZ, initG, Nat.reduceEqDiff, ↓reduceIte, Nat.reduceAdd, Nat.reduceLT, Nat.reduceLeDiff, List.map_cons, List.map_nil, builtS, builtinV, pureR, binV, sliceV, pickV, evO, Env.look, find, V.ofConst, resV, resOne, tupV, loadV, fillV, buildV, mkIface, litM, litS, litR, litRows, List.reverse_cons, List.reverse_nil, Nat.reduceMul, appS, memA, appendV, rowsOf, V.cells, TI.sized, TI.known, TI.agg, anL, List.length_cons, List.length_nil, List.append_nil, List.cons_append, List.nil_append, List.drop_succ_cons, List.drop_zero, List.drop_nil, List.take_succ_cons, List.take_zero, List.take_nil, List.getElem?_cons_zero, List.getElem?_cons_succ, List.all_cons, List.all_nil, List.replicate_succ, List.replicate_zero, List.set_cons_zero, List.set_cons_succ, eq_self, true_or, ne_eq, not_false_eq_true, Nat.reduceEqDiff, lt_yes hlt, hdr, List.length_map, getD_map hget, Int.ofNat_lt.mpr hlt]
    refine iK_split (fun h => ?_) (fun h => ?_)
    · have h' := of_decide_eq_true h
      simp only [decide_true, decide_false, gwL, gwB, gwD, gwE, gwS, gwTT, gwZ, initG, Nat.reduceEqDiff, ↓reduceIte, Nat.reduceAdd, Nat.reduceLT, Nat.reduceLeDiff, List.map_cons, List.map_nil, builtS, builtinV, pureR, binV, sliceV, pickV, evO, Env.look, find, V.ofConst, resV, resOne, tupV, loadV, fillV, buildV, mkIface, litM, litS, litR, litRows, List.reverse_cons, List.reverse_nil, Nat.reduceMul, appS, memA, appendV, rowsOf, V.cells, TI.sized, TI.known, TI.agg, anL, List.length_cons, List.length_nil, List.append_nil, List.cons_append, List.nil_append, List.drop_succ_cons, List.drop_zero, List.drop_nil, List.take_succ_cons, List.take_zero, List.take_nil, List.getElem?_cons_zero, List.getElem?_cons_succ, List.all_cons, List.all_nil, List.replicate_succ, List.replicate_zero, List.set_cons_zero, List.set_cons_succ, eq_self, true_or, ne_eq, not_false_eq_true, Nat.reduceEqDiff]
      exact gives_bool (by simp [h']) hst
    · have h' := of_decide_eq_false h
      simp only [decide_true, decide_false, gwL, gwB, gwD, gwE, gwS, gwTT, gwZ, initG, Nat.reduceEqDiff, ↓reduceIte, Nat.reduceAdd, Nat.reduceLT, Nat.reduceLeDiff, List.map_cons, List.map_nil, builtS, builtinV, pureR, binV, sliceV, pickV, evO, Env.look, find, V.ofConst, resV, resOne, tupV, loadV, fillV, buildV, mkIface, litM, litS, litR, litRows, List.reverse_cons, List.reverse_nil, Nat.reduceMul, appS, memA, appendV, rowsOf, V.cells, TI.sized, TI.known, TI.agg, anL, List.length_cons, List.length_nil, List.append_nil, List.cons_append, List.nil_append, List.drop_succ_cons, List.drop_zero, List.drop_nil, List.take_succ_cons, List.take_zero, List.take_nil, List.getElem?_cons_zero, List.getElem?_cons_succ, List.all_cons, List.all_nil, List.replicate_succ, List.replicate_zero, List.set_cons_zero, List.set_cons_succ, eq_self, true_or, ne_eq, not_false_eq_true, Nat.reduceEqDiff, Env.keep]
      exact ⟨i + 1, by rw [next_i64 hlt hf.1.1], by omega, hlt, by simp [Ne.symm h']⟩

-- strings.HasPrefix, TrimPrefix
def hasPre (s p : Str) : Bool := decide (p.length ≤ s.length) && decide (s.take p.length = p)
theorem c_HasPrefix (st : St) (s p : Str) : VCalls Try.prog TT 50 [.str s, .str p] st fun r st' => r = .ret (.bool (hasPre s p)) ∧ st' = st := by
  refine vfun TT_ok (an := anL []) (L := [0, 1, 4]) (rs := [.tmp 4]) Try.func50 rfl (by kernel_rfl) rfl Try.ntmps50 rfl rfl (Nat.le_refl _) fun hst ha hf => ?_
  simp only [decide_true, decide_false, gwL, gwB, gwD, gwE, gwS, gwTT, gwZ, initG, Nat.reduceEqDiff, ↓reduceIte, Nat.reduceAdd, Nat.reduceLT, Nat.reduceLeDiff, List.map_cons, List.map_nil, builtS, builtinV, pureR, binV, sliceV, pickV, evO, Env.look, find, V.ofConst, resV, resOne, tupV, loadV, fillV, buildV, mkIface, litM, litS, litR, litRows, List.reverse_cons, List.reverse_nil, Nat.reduceMul, appS, memA, appendV, rowsOf, V.cells, TI.sized, TI.known, TI.agg, anL, List.length_cons, List.length_nil, List.append_nil, List.cons_append, List.nil_append, List.drop_succ_cons, List.drop_zero, List.drop_nil, List.take_succ_cons, List.take_zero, List.take_nil, List.getElem?_cons_zero, List.getElem?_cons_succ, List.all_cons, List.all_nil, List.replicate_succ, List.replicate_zero, List.set_cons_zero, List.set_cons_succ, eq_self, true_or, ne_eq, not_false_eq_true, Nat.reduceEqDiff, Int.ofNat_le, Int.toNat_natCast]
  refine ⟨fun h => of_decide_eq_true h, gives_bool ?_ hst⟩
  rfl
def trimPre (s p : Str) : Str := bif hasPre s p then s.drop p.length else s
theorem c_TrimPrefix0 (st : St) (s p : Str) : VCalls Try.prog TT 48 [.str s, .str p] st fun r st' => r = .ret (.str (trimPre s p)) ∧ st' = st := by
  refine vfun TT_ok (an := anL []) (L := [0, 1, 4]) (rs := [.tmp 4]) Try.func48 rfl (by kernel_rfl) rfl Try.ntmps48 rfl rfl (Nat.le_refl _) fun hst ha hf => ?_
  simp only [decide_true, decide_false, gwL, gwB, gwD, gwE, gwS, gwTT, gwZ, initG, Nat.reduceEqDiff, ↓reduceIte, Nat.reduceAdd, Nat.reduceLT, Nat.reduceLeDiff, List.map_cons, List.map_nil, builtS, builtinV, pureR, binV, sliceV, pickV, evO, Env.look, find, V.ofConst, resV, resOne, tupV, loadV, fillV, buildV, mkIface, litM, litS, litR, litRows, List.reverse_cons, List.reverse_nil, Nat.reduceMul, appS, memA, appendV, rowsOf, V.cells, TI.sized, TI.known, TI.agg, anL, List.length_cons, List.length_nil, List.append_nil, List.cons_append, List.nil_append, List.drop_succ_cons, List.drop_zero, List.drop_nil, List.take_succ_cons, List.take_zero, List.take_nil, List.getElem?_cons_zero, List.getElem?_cons_succ, List.all_cons, List.all_nil, List.replicate_succ, List.replicate_zero, List.set_cons_zero, List.set_cons_succ, eq_self, true_or, ne_eq, not_false_eq_true, Nat.reduceEqDiff, List.length_nil]
  refine (c_HasPrefix st s p).use (wkL_refl _) fun _ => ?_
  simp only [decide_true, decide_false, gwL, gwB, gwD, gwE, gwS, gwTT, gwZ, initG, Nat.reduceEqDiff, ↓reduceIte, Nat.reduceAdd, Nat.reduceLT, Nat.reduceLeDiff, List.map_cons, List.map_nil, builtS, builtinV, pureR, binV, sliceV, pickV, evO, Env.look, find, V.ofConst, resV, resOne, tupV, loadV, fillV, buildV, mkIface, litM, litS, litR, litRows, List.reverse_cons, List.reverse_nil, Nat.reduceMul, appS, memA, appendV, rowsOf, V.cells, TI.sized, TI.known, TI.agg, anL, List.length_cons, List.length_nil, List.append_nil, List.cons_append, List.nil_append, List.drop_succ_cons, List.drop_zero, List.drop_nil, List.take_succ_cons, List.take_zero, List.take_nil, List.getElem?_cons_zero, List.getElem?_cons_succ, List.all_cons, List.all_nil, List.replicate_succ, List.replicate_zero, List.set_cons_zero, List.set_cons_succ, eq_self, true_or, ne_eq, not_false_eq_true, Nat.reduceEqDiff]
  refine iK_split (fun h => ?_) (fun h => ?_)
  · have h2 : p.length ≤ s.length := by simp only [hasPre, Bool.and_eq_true, decide_eq_true_eq] at h; exact h.1
    simp only [decide_true, decide_false, gwL, gwB, gwD, gwE, gwS, gwTT, gwZ, initG, Nat.reduceEqDiff, ↓reduceIte, Nat.reduceAdd, Nat.reduceLT, Nat.reduceLeDiff, List.map_cons, List.map_nil, builtS, builtinV, pureR, binV, sliceV, pickV, evO, Env.look, find, V.ofConst, resV, resOne, tupV, loadV, fillV, buildV, mkIface, litM, litS, litR, litRows, List.reverse_cons, List.reverse_nil, Nat.reduceMul, appS, memA, appendV, rowsOf, V.cells, TI.sized, TI.known, TI.agg, anL, List.length_cons, List.length_nil, List.append_nil, List.cons_append, List.nil_append, List.drop_succ_cons, List.drop_zero, List.drop_nil, List.take_succ_cons, List.take_zero, List.take_nil, List.getElem?_cons_zero, List.getElem?_cons_succ, List.all_cons, List.all_nil, List.replicate_succ, List.replicate_zero, List.set_cons_zero, List.set_cons_succ, eq_self, true_or, ne_eq, not_false_eq_true, Nat.reduceEqDiff, Int.ofNat_le, Int.toNat_natCast]
    exact ⟨h2, gives_str (by simp [trimPre, h]) hst⟩
  · simp only [decide_true, decide_false, gwL, gwB, gwD, gwE, gwS, gwTT, gwZ, initG, Nat.reduceEqDiff, ↓reduceIte, Nat.reduceAdd, Nat.reduceLT, Nat.reduceLeDiff, List.map_cons, List.map_nil, builtS, builtinV, pureR, binV, sliceV, pickV, evO, Env.look, find, V.ofConst, resV, resOne, tupV, loadV, fillV, buildV, mkIface, litM, litS, litR, litRows, List.reverse_cons, List.reverse_nil, Nat.reduceMul, appS, memA, appendV, rowsOf, V.cells, TI.sized, TI.known, TI.agg, anL, List.length_cons, List.length_nil, List.append_nil, List.cons_append, List.nil_append, List.drop_succ_cons, List.drop_zero, List.drop_nil, List.take_succ_cons, List.take_zero, List.take_nil, List.getElem?_cons_zero, List.getElem?_cons_succ, List.all_cons, List.all_nil, List.replicate_succ, List.replicate_zero, List.set_cons_zero, List.set_cons_succ, eq_self, true_or, ne_eq, not_false_eq_true, Nat.reduceEqDiff]
    exact gives_str (by simp [trimPre, h]) hst
theorem c_TrimPrefix (st : St) (s p : Str) : VCalls Try.prog TT 46 [.str s, .str p] st fun r st' => r = .ret (.str (trimPre s p)) ∧ st' = st := by
  refine vfun TT_ok (an := anL []) (L := [0, 1, 4]) (rs := [.tmp 4]) Try.func46 rfl (by kernel_rfl) rfl Try.ntmps46 rfl rfl (Nat.le_refl _) fun hst ha hf => ?_
  simp only [decide_true, decide_false, gwL, gwB, gwD, gwE, gwS, gwTT, gwZ, initG, Nat.reduceEqDiff, ↓reduceIte, Nat.reduceAdd, Nat.reduceLT, Nat.reduceLeDiff, List.map_cons, List.map_nil, builtS, builtinV, pureR, binV, sliceV, pickV, evO, Env.look, find, V.ofConst, resV, resOne, tupV, loadV, fillV, buildV, mkIface, litM, litS, litR, litRows, List.reverse_cons, List.reverse_nil, Nat.reduceMul, appS, memA, appendV, rowsOf, V.cells, TI.sized, TI.known, TI.agg, anL, List.length_cons, List.length_nil, List.append_nil, List.cons_append, List.nil_append, List.drop_succ_cons, List.drop_zero, List.drop_nil, List.take_succ_cons, List.take_zero, List.take_nil, List.getElem?_cons_zero, List.getElem?_cons_succ, List.all_cons, List.all_nil, List.replicate_succ, List.replicate_zero, List.set_cons_zero, List.set_cons_succ, eq_self, true_or, ne_eq, not_false_eq_true, Nat.reduceEqDiff, List.length_nil]
  refine (c_TrimPrefix0 st s p).use (wkL_refl _) fun _ => ?_
  simp only [decide_true, decide_false, gwL, gwB, gwD, gwE, gwS, gwTT, gwZ, initG, Nat.reduceEqDiff, ↓reduceIte, Nat.reduceAdd, Nat.reduceLT, Nat.reduceLeDiff, List.map_cons, List.map_nil, builtS, builtinV, pureR, binV, sliceV, pickV, evO, Env.look, find, V.ofConst, resV, resOne, tupV, loadV, fillV, buildV, mkIface, litM, litS, litR, litRows, List.reverse_cons, List.reverse_nil, Nat.reduceMul, appS, memA, appendV, rowsOf, V.cells, TI.sized, TI.known, TI.agg, anL, List.length_cons, List.length_nil, List.append_nil, List.cons_append, List.nil_append, List.drop_succ_cons, List.drop_zero, List.drop_nil, List.take_succ_cons, List.take_zero, List.take_nil, List.getElem?_cons_zero, List.getElem?_cons_succ, List.all_cons, List.all_nil, List.replicate_succ, List.replicate_zero, List.set_cons_zero, List.set_cons_succ, eq_self, true_or, ne_eq, not_false_eq_true, Nat.reduceEqDiff]
  exact gives_str rfl hst

-- letters and names
def letters : Str := [97, 98, 99, 100, 101, 102, 103, 104, 105, 106, 107, 108, 109, 110, 111, 112, 113, 114, 115, 116, 117, 118, 119, 120, 121, 122, 48, 49, 50, 51, 52, 53, 54, 55, 56, 57, 33, 63, 42, 43, 45, 47, 60, 61, 62, 95, 46]
def letterB (b : UInt8) : Bool := letters.contains b
theorem all_bytes {p : UInt8 → Bool} (h : (List.range 256).all (fun n => p (UInt8.ofNat n)) = true) (b : UInt8) : p b = true := by
  have := List.all_eq_true.1 h b.toNat (by simpa using b.toNat_lt)
  simpa using this
theorem c_letter (st : St) (b : UInt8) : VCalls Try.prog TT 41 [.int .u8 b.toNat] st fun r st' => r = .ret (.bool (letterB b)) ∧ st' = st := by
  refine vfun TT_ok (an := anL []) (L := [0, 2]) (rs := [.tmp 2]) Try.func41 rfl (by kernel_rfl) rfl Try.ntmps41 rfl rfl (Nat.le_refl _) fun hst ha hf => ?_
  simp only [decide_true, decide_false, gwL, gwB, gwD, gwE, gwS, gwTT, gwZ, initG, Nat.reduceEqDiff, ↓reduceIte, Nat.reduceAdd, Nat.reduceLT, Nat.reduceLeDiff, List.map_cons, List.map_nil, builtS, builtinV, pureR, binV, sliceV, pickV, evO, Env.look, find, V.ofConst, resV, resOne, tupV, loadV, fillV, buildV, mkIface, litM, litS, litR, litRows, List.reverse_cons, List.reverse_nil, Nat.reduceMul, appS, memA, appendV, rowsOf, V.cells, TI.sized, TI.known, TI.agg, anL, List.length_cons, List.length_nil, List.append_nil, List.cons_append, List.nil_append, List.drop_succ_cons, List.drop_zero, List.drop_nil, List.take_succ_cons, List.take_zero, List.take_nil, List.getElem?_cons_zero, List.getElem?_cons_succ, List.all_cons, List.all_nil, List.replicate_succ, List.replicate_zero, List.set_cons_zero, List.set_cons_succ, eq_self, true_or, ne_eq, not_false_eq_true, Nat.reduceEqDiff]
  refine ⟨by cases decide (97 ≤ (b.toNat : Int)) <;> cases decide ((b.toNat : Int) ≤ 122) <;> simp, ?_⟩
  refine rK_guarded (.int .i64 (Lib.indexByte [33, 63, 42, 43, 45, 47, 60, 61, 62, 95, 46] b)) (fun _ => ?_) ?_
  · have := c_IndexByte st [33, 63, 42, 43, 45, 47, 60, 61, 62, 95, 46] b.toNat
    simpa using this
  simp only [decide_true, decide_false, gwL, gwB, gwD, gwE, gwS, gwTT, gwZ, initG, Nat.reduceEqDiff, ↓reduceIte, Nat.reduceAdd, Nat.reduceLT, Nat.reduceLeDiff, List.map_cons, List.map_nil, builtS, builtinV, pureR, binV, sliceV, pickV, evO, Env.look, find, V.ofConst, resV, resOne, tupV, loadV, fillV, buildV, mkIface, litM, litS, litR, litRows, List.reverse_cons, List.reverse_nil, Nat.reduceMul, appS, memA, appendV, rowsOf, V.cells, TI.sized, TI.known, TI.agg, anL, List.length_cons, List.length_nil, List.append_nil, List.cons_append, List.nil_append, List.drop_succ_cons, List.drop_zero, List.drop_nil, List.take_succ_cons, List.take_zero, List.take_nil, List.getElem?_cons_zero, List.getElem?_cons_succ, List.all_cons, List.all_nil, List.replicate_succ, List.replicate_zero, List.set_cons_zero, List.set_cons_succ, eq_self, true_or, ne_eq, not_false_eq_true, Nat.reduceEqDiff]
  refine gives_bool ?_ hst
  refine of_decide_eq_true (all_bytes (p := fun b => decide ((((decide (97 ≤ (b.toNat : Int)) && decide ((b.toNat : Int) ≤ 122)) || (decide (48 ≤ (b.toNat : Int)) && decide ((b.toNat : Int) ≤ 57))) || decide (0 ≤ Lib.indexByte [33, 63, 42, 43, 45, 47, 60, 61, 62, 95, 46] b)) = letterB b)) (by kernel_rfl) b)
end Go.Proofs.Ytpfdoffnpkokhaa.Gx

namespace Go.Proofs.Ytpfdoffnpkokhaa.Gx
open Go Go.Proofs.Ytpfdoffnpkokhaa.Gw
set_option linter.unusedSimpArgs false

theorem c_Letter (st : St) (b : UInt8) : VCalls Try.prog TT 43 [.int .u8 b.toNat] st fun r st' => r = .ret (.bool (letterB b)) ∧ st' = st := by
  refine vfun TT_ok (an := anL [(5, 1)]) (L := [0, 2, 4, 6, 7, 8]) (rs := [.tmp 2]) Try.func43 rfl (by kernel_rfl) rfl Try.ntmps43 rfl rfl (Nat.le_refl _) fun hst ha hf => ?_
  simp only [decide_true, decide_false, gwL, gwB, gwD, gwE, gwS, gwTT, gwZ, initG, Nat.reduceEqDiff, ↓reduceIte, Nat.reduceAdd, Nat.reduceLT, Nat.reduceLeDiff, List.map_cons, List.map_nil, builtS, builtinV, pureR, binV, sliceV, pickV, evO, Env.look, find, V.ofConst, resV, resOne, tupV, loadV, fillV, buildV, mkIface, litS, litRows, List.reverse_cons, List.reverse_nil, Nat.reduceMul, appS, memA, appendV, rowsOf, V.cells, TI.sized, TI.known, TI.agg, anL, List.length_cons, List.length_nil, List.append_nil, List.cons_append, List.nil_append, List.drop_succ_cons, List.drop_zero, List.drop_nil, List.take_succ_cons, List.take_zero, List.take_nil, List.getElem?_cons_zero, List.getElem?_cons_succ, List.all_cons, List.all_nil, List.replicate_succ, List.replicate_zero, List.set_cons_zero, List.set_cons_succ, eq_self, true_or, ne_eq, not_false_eq_true, Nat.reduceEqDiff]
  refine rK_lit (byteRows letters) (by kernel_rfl) ?_
  simp only [decide_true, decide_false, gwL, gwB, gwD, gwE, gwS, gwTT, gwZ, initG, Nat.reduceEqDiff, ↓reduceIte, Nat.reduceAdd, Nat.reduceLT, Nat.reduceLeDiff, List.map_cons, List.map_nil, builtS, builtinV, pureR, binV, sliceV, pickV, evO, Env.look, find, V.ofConst, resV, resOne, tupV, loadV, fillV, buildV, mkIface, litM, litS, litRows, List.reverse_cons, List.reverse_nil, Nat.reduceMul, appS, memA, appendV, rowsOf, V.cells, TI.sized, TI.known, TI.agg, anL, List.length_cons, List.length_nil, List.append_nil, List.cons_append, List.nil_append, List.drop_succ_cons, List.drop_zero, List.drop_nil, List.take_succ_cons, List.take_zero, List.take_nil, List.getElem?_cons_zero, List.getElem?_cons_succ, List.all_cons, List.all_nil, List.replicate_succ, List.replicate_zero, List.set_cons_zero, List.set_cons_succ, eq_self, true_or, ne_eq, not_false_eq_true, Nat.reduceEqDiff, convV, Nat.lt_irrefl]
  refine ⟨rfl, ?_⟩
  have hll : (byteRows letters).length = letters.length := by simp [byteRows]
  refine vfor (σ := Nat) [0, 2, 6, 7, 8] (fun i => [(0, true, .int .u8 b.toNat), (2, true, .bool false), (6, true, .lst 1 none (byteRows letters)), (7, true, .int .i64 (byteRows letters).length), (8, true, .int .i64 i)]) (fun i => st ++ [.gone]) (fun i => letters.length - i) (fun i => i ≤ letters.length ∧ letterB b = (letters.drop i).contains b) 0 rfl TT_ok ⟨Nat.zero_le _, rfl⟩ rfl rfl ?_
  rintro i ⟨hi, hx⟩
  rw [hx]
  rcases at_or_end letters i hi with ⟨rfl, hd⟩ | ⟨a, hlt, hget, hdr⟩
  · rw [hll]
    simp only [decide_true, decide_false, gwL, gwB, gwD, gwE, gwS, gwTT, gwZ, initG, Nat.reduceEqDiff, ↓reduceIte, Nat.reduceAdd, Nat.reduceLT, Nat.reduceLeDiff, List.map_cons, List.map_nil, builtS, builtinV, pureR, binV, sliceV, pickV, evO, Env.look, find, V.ofConst, resV, resOne, tupV, loadV, fillV, buildV, mkIface, litM, litS, litR, litRows, List.reverse_cons, List.reverse_nil, Nat.reduceMul, appS, memA, appendV, rowsOf, V.cells, TI.sized, TI.known, TI.agg, anL, List.length_cons, List.length_nil, List.append_nil, List.cons_append, List.nil_append, List.drop_succ_cons, List.drop_zero, List.drop_nil, List.take_succ_cons, List.take_zero, List.take_nil, List.getElem?_cons_zero, List.getElem?_cons_succ, List.all_cons, List.all_nil, List.replicate_succ, List.replicate_zero, List.set_cons_zero, List.set_cons_succ, eq_self, true_or, ne_eq, not_false_eq_true, Nat.reduceEqDiff, lt_no, hd]
    exact gives_bool' (by simp) hst
  · rw [hll]
    have hg : (byteRows letters).getD i [] = [V.int .u8 a.toNat] := getD_map hget
    simp only [decide_true, decide_false, gwL, gwB, gwD, gwE, gwS, gwTT, gwZ, initG, Nat.reduceEqDiff, ↓reduceIte, Nat.reduceAdd, Nat.reduceLT, Nat.reduceLeDiff, List.map_cons, List.map_nil, builtS, builtinV, pureR, binV, sliceV, pickV, evO, Env.look, find, V.ofConst, resV, resOne, tupV, loadV, fillV, buildV, mkIface, litM, litS, litR, litRows, List.reverse_cons, List.reverse_nil, Nat.reduceMul, appS, memA, appendV, rowsOf, V.cells, TI.sized, TI.known, TI.agg, anL, List.length_cons, List.length_nil, List.append_nil, List.cons_append, List.nil_append, List.drop_succ_cons, List.drop_zero, List.drop_nil, List.take_succ_cons, List.take_zero, List.take_nil, List.getElem?_cons_zero, List.getElem?_cons_succ, List.all_cons, List.all_nil, List.replicate_succ, List.replicate_zero, List.set_cons_zero, List.set_cons_succ, eq_self, true_or, ne_eq, not_false_eq_true, Nat.reduceEqDiff, lt_yes hlt, hdr, hll, hg, Int.ofNat_lt.mpr hlt]
    refine iK_split (fun h => ?_) (fun h => ?_)
    · have h' : a = b := UInt8.toNat_inj.mp (by simpa [Int.natCast_inj] using h)
      simp only [decide_true, decide_false, gwL, gwB, gwD, gwE, gwS, gwTT, gwZ, initG, Nat.reduceEqDiff, ↓reduceIte, Nat.reduceAdd, Nat.reduceLT, Nat.reduceLeDiff, List.map_cons, List.map_nil, builtS, builtinV, pureR, binV, sliceV, pickV, evO, Env.look, find, V.ofConst, resV, resOne, tupV, loadV, fillV, buildV, mkIface, litM, litS, litR, litRows, List.reverse_cons, List.reverse_nil, Nat.reduceMul, appS, memA, appendV, rowsOf, V.cells, TI.sized, TI.known, TI.agg, anL, List.length_cons, List.length_nil, List.append_nil, List.cons_append, List.nil_append, List.drop_succ_cons, List.drop_zero, List.drop_nil, List.take_succ_cons, List.take_zero, List.take_nil, List.getElem?_cons_zero, List.getElem?_cons_succ, List.all_cons, List.all_nil, List.replicate_succ, List.replicate_zero, List.set_cons_zero, List.set_cons_succ, eq_self, true_or, ne_eq, not_false_eq_true, Nat.reduceEqDiff]
      exact gives_bool' (by simp [h']) hst
    · have h' : ¬ a = b := fun e => by simp [e] at h
      simp only [decide_true, decide_false, gwL, gwB, gwD, gwE, gwS, gwTT, gwZ, initG, Nat.reduceEqDiff, ↓reduceIte, Nat.reduceAdd, Nat.reduceLT, Nat.reduceLeDiff, List.map_cons, List.map_nil, builtS, builtinV, pureR, binV, sliceV, pickV, evO, Env.look, find, V.ofConst, resV, resOne, tupV, loadV, fillV, buildV, mkIface, litM, litS, litR, litRows, List.reverse_cons, List.reverse_nil, Nat.reduceMul, appS, memA, appendV, rowsOf, V.cells, TI.sized, TI.known, TI.agg, anL, List.length_cons, List.length_nil, List.append_nil, List.cons_append, List.nil_append, List.drop_succ_cons, List.drop_zero, List.drop_nil, List.take_succ_cons, List.take_zero, List.take_nil, List.getElem?_cons_zero, List.getElem?_cons_succ, List.all_cons, List.all_nil, List.replicate_succ, List.replicate_zero, List.set_cons_zero, List.set_cons_succ, eq_self, true_or, ne_eq, not_false_eq_true, Nat.reduceEqDiff, Env.keep]
      have h'' : ¬ b = a := fun e => h' e.symm
      exact ⟨i + 1, by rw [next_i64 hlt (by decide)], by omega, hlt, by simp [List.contains_cons, h'']⟩

def digits : Str → Bool := fun s => s.all fun b => decide (48 ≤ b.toNat) && decide (b.toNat ≤ 57)
/-- Does a text look like a number? -/
def looksB (s : Str) : Bool := (match s with | 45 :: r => digits r && !r.isEmpty | r => digits r && !r.isEmpty)
theorem trimPre_minus (s : Str) : (digits (trimPre s [45]) && !(trimPre s [45]).isEmpty) = looksB s := by
  unfold trimPre hasPre looksB
  cases s with
  | nil => rfl
  | cons a r =>
    by_cases h : a = 45
    · subst h; simp
    · simp only [List.take_succ_cons, List.take_zero, List.length_cons, List.length_nil]
      simp [h]
theorem c_number (st : St) (s : Str) : VCalls Try.prog TT 42 [.str s] st fun r st' => r = .ret (.bool (looksB s)) ∧ st' = st := by
  refine vfun TT_ok (an := anL []) (L := [0, 2, 3, 7, 8]) (rs := [.tmp 2]) Try.func42 rfl (by kernel_rfl) rfl Try.ntmps42 rfl rfl (Nat.le_refl _) fun hst ha hf => ?_
  simp only [decide_true, decide_false, gwL, gwB, gwD, gwE, gwS, gwTT, gwZ, initG, Nat.reduceEqDiff, ↓reduceIte, Nat.reduceAdd, Nat.reduceLT, Nat.reduceLeDiff, List.map_cons, List.map_nil, builtS, builtinV, pureR, binV, sliceV, pickV, evO, Env.look, find, V.ofConst, resV, resOne, tupV, loadV, fillV, buildV, mkIface, litM, litS, litR, litRows, List.reverse_cons, List.reverse_nil, Nat.reduceMul, appS, memA, appendV, rowsOf, V.cells, TI.sized, TI.known, TI.agg, anL, List.length_cons, List.length_nil, List.append_nil, List.cons_append, List.nil_append, List.drop_succ_cons, List.drop_zero, List.drop_nil, List.take_succ_cons, List.take_zero, List.take_nil, List.getElem?_cons_zero, List.getElem?_cons_succ, List.all_cons, List.all_nil, List.replicate_succ, List.replicate_zero, List.set_cons_zero, List.set_cons_succ, eq_self, true_or, ne_eq, not_false_eq_true, Nat.reduceEqDiff]
  refine (c_TrimPrefix st s [45]).use (wkL_refl _) fun hfx => ?_
  rw [← trimPre_minus s]
  simp only [V.fit] at hfx
  generalize trimPre s [45] = t at hfx ⊢
  simp only [decide_true, decide_false, gwL, gwB, gwD, gwE, gwS, gwTT, gwZ, initG, Nat.reduceEqDiff, ↓reduceIte, Nat.reduceAdd, Nat.reduceLT, Nat.reduceLeDiff, List.map_cons, List.map_nil, builtS, builtinV, pureR, binV, sliceV, pickV, evO, Env.look, find, V.ofConst, resV, resOne, tupV, loadV, fillV, buildV, mkIface, litM, litS, litR, litRows, List.reverse_cons, List.reverse_nil, Nat.reduceMul, appS, memA, appendV, rowsOf, V.cells, TI.sized, TI.known, TI.agg, anL, List.length_cons, List.length_nil, List.append_nil, List.cons_append, List.nil_append, List.drop_succ_cons, List.drop_zero, List.drop_nil, List.take_succ_cons, List.take_zero, List.take_nil, List.getElem?_cons_zero, List.getElem?_cons_succ, List.all_cons, List.all_nil, List.replicate_succ, List.replicate_zero, List.set_cons_zero, List.set_cons_succ, eq_self, true_or, ne_eq, not_false_eq_true, Nat.reduceEqDiff]
  refine vfor (σ := Nat) [0, 2, 7, 8] (fun i => [(0, true, .str t), (2, true, .bool false), (7, true, .int .i64 t.length), (8, true, .int .i64 i)]) (fun i => st) (fun i => t.length - i) (fun i => i ≤ t.length ∧ digits t = digits (t.drop i)) 0 rfl TT_ok ⟨Nat.zero_le _, rfl⟩ rfl rfl ?_
  rintro i ⟨hi, hx⟩
  rw [hx]
  rcases at_or_end t i hi with ⟨rfl, hd⟩ | ⟨a, hlt, hget, hdr⟩
  · simp only [decide_true, decide_false, gwL, gwB, gwD, gwE, gwS, gwTT, gwZ, initG, Nat.reduceEqDiff, ↓reduceIte, Nat.reduceAdd, Nat.reduceLT, Nat.reduceLeDiff, List.map_cons, List.map_nil, builtS, builtinV, pureR, binV, sliceV, pickV, evO, Env.look, find, V.ofConst, resV, resOne, tupV, loadV, fillV, buildV, mkIface, litM, litS, litR, litRows, List.reverse_cons, List.reverse_nil, Nat.reduceMul, appS, memA, appendV, rowsOf, V.cells, TI.sized, TI.known, TI.agg, anL, List.length_cons, List.length_nil, List.append_nil, List.cons_append, List.nil_append, List.drop_succ_cons, List.drop_zero, List.drop_nil, List.take_succ_cons, List.take_zero, List.take_nil, List.getElem?_cons_zero, List.getElem?_cons_succ, List.all_cons, List.all_nil, List.replicate_succ, List.replicate_zero, List.set_cons_zero, List.set_cons_succ, eq_self, true_or, ne_eq, not_false_eq_true, Nat.reduceEqDiff, lt_no, hd]
    exact gives_bool (by cases t <;> simp [digits]) hst
  · simp only [decide_true, decide_false, gwL, gwB, gwD, gwE, gwS, gwTT, gwZ, initG, Nat.reduceEqDiff, ↓reduceIte, Nat.reduceAdd, Nat.reduceLT, Nat.reduceLeDiff, List.map_cons, List.map_nil, builtS, builtinV, pureR, binV, sliceV, pickV, evO, Env.look, find, V.ofConst, resV, resOne, tupV, loadV, fillV, buildV, mkIface, litM, litS, litR, litRows, List.reverse_cons, List.reverse_nil, Nat.reduceMul, appS, memA, appendV, rowsOf, V.cells, TI.sized, TI.known, TI.agg, anL, List.length_cons, List.length_nil, List.append_nil, List.cons_append, List.nil_append, List.drop_succ_cons, List.drop_zero, List.drop_nil, List.take_succ_cons, List.take_zero, List.take_nil, List.getElem?_cons_zero, List.getElem?_cons_succ, List.all_cons, List.all_nil, List.replicate_succ, List.replicate_zero, List.set_cons_zero, List.set_cons_succ, eq_self, true_or, ne_eq, not_false_eq_true, Nat.reduceEqDiff, lt_yes hlt, hdr, getD_at hget, Int.ofNat_lt.mpr hlt]
    refine iK_split (fun h => ?_) (fun h => ?_)
    · simp only [decide_true, decide_false, gwL, gwB, gwD, gwE, gwS, gwTT, gwZ, initG, Nat.reduceEqDiff, ↓reduceIte, Nat.reduceAdd, Nat.reduceLT, Nat.reduceLeDiff, List.map_cons, List.map_nil, builtS, builtinV, pureR, binV, sliceV, pickV, evO, Env.look, find, V.ofConst, resV, resOne, tupV, loadV, fillV, buildV, mkIface, litM, litS, litR, litRows, List.reverse_cons, List.reverse_nil, Nat.reduceMul, appS, memA, appendV, rowsOf, V.cells, TI.sized, TI.known, TI.agg, anL, List.length_cons, List.length_nil, List.append_nil, List.cons_append, List.nil_append, List.drop_succ_cons, List.drop_zero, List.drop_nil, List.take_succ_cons, List.take_zero, List.take_nil, List.getElem?_cons_zero, List.getElem?_cons_succ, List.all_cons, List.all_nil, List.replicate_succ, List.replicate_zero, List.set_cons_zero, List.set_cons_succ, eq_self, true_or, ne_eq, not_false_eq_true, Nat.reduceEqDiff]
      refine gives_bool ?_ hst
      have : ¬ (48 ≤ a.toNat ∧ a.toNat ≤ 57) := by
        intro ⟨h1, h2⟩
        have e1 : decide ((a.toNat : Int) < 48) = false := by simp; omega
        have e2 : decide (57 < (a.toNat : Int)) = false := by simp; omega
        rw [e1, e2] at h; cases h
      simp only [digits, List.all_cons]
      rcases Nat.lt_or_ge a.toNat 48 with h1 | h1
      · simp [show ¬ 48 ≤ a.toNat by omega]
      · simp [show ¬ a.toNat ≤ 57 by omega]
    · have : 48 ≤ a.toNat ∧ a.toNat ≤ 57 := by
        constructor
        · refine Nat.le_of_not_lt fun h1 => ?_
          have e1 : decide ((a.toNat : Int) < 48) = true := by simp; omega
          rw [e1] at h; cases h
        · refine Nat.le_of_not_lt fun h1 => ?_
          have e2 : decide (57 < (a.toNat : Int)) = true := by simp; omega
          rw [e2] at h; revert h; cases decide ((a.toNat : Int) < 48) <;> simp
      simp only [decide_true, decide_false, gwL, gwB, gwD, gwE, gwS, gwTT, gwZ, initG, Nat.reduceEqDiff, ↓reduceIte, Nat.reduceAdd, Nat.reduceLT, Nat.reduceLeDiff, List.map_cons, List.map_nil, builtS, builtinV, pureR, binV, sliceV, pickV, evO, Env.look, find, V.ofConst, resV, resOne, tupV, loadV, fillV, buildV, mkIface, litM, litS, litR, litRows, List.reverse_cons, List.reverse_nil, Nat.reduceMul, appS, memA, appendV, rowsOf, V.cells, TI.sized, TI.known, TI.agg, anL, List.length_cons, List.length_nil, List.append_nil, List.cons_append, List.nil_append, List.drop_succ_cons, List.drop_zero, List.drop_nil, List.take_succ_cons, List.take_zero, List.take_nil, List.getElem?_cons_zero, List.getElem?_cons_succ, List.all_cons, List.all_nil, List.replicate_succ, List.replicate_zero, List.set_cons_zero, List.set_cons_succ, eq_self, true_or, ne_eq, not_false_eq_true, Nat.reduceEqDiff, Env.keep]
      exact ⟨i + 1, by rw [next_i64 hlt hfx], by omega, hlt, by simp [digits, this]⟩

theorem digit_yes {a : UInt8} (h : (decide ((a.toNat : Int) < 48) || decide (57 < (a.toNat : Int))) = true) : ∀ r, digits (a :: r) = false := by
  intro r
  simp only [digits, List.all_cons]
  rcases Nat.lt_or_ge a.toNat 48 with h1 | h1
  · simp [show ¬ 48 ≤ a.toNat by omega]
  · have e1 : decide ((a.toNat : Int) < 48) = false := by simp; omega
    rw [e1] at h
    have h2 : 57 < a.toNat := by simp only [Bool.false_or, decide_eq_true_eq] at h; omega
    simp [show ¬ a.toNat ≤ 57 by omega]
theorem digit_no {a : UInt8} (h : (decide ((a.toNat : Int) < 48) || decide (57 < (a.toNat : Int))) = false) : ∀ r, digits (a :: r) = digits r := by
  intro r
  have : 48 ≤ a.toNat ∧ a.toNat ≤ 57 := by
    constructor
    · refine Nat.le_of_not_lt fun h1 => ?_
      have e1 : decide ((a.toNat : Int) < 48) = true := by simp; omega
      rw [e1] at h; cases h
    · refine Nat.le_of_not_lt fun h1 => ?_
      have e2 : decide (57 < (a.toNat : Int)) = true := by simp; omega
      rw [e2] at h; revert h; cases decide ((a.toNat : Int) < 48) <;> simp
  simp [digits, this]
theorem c_Looks (st : St) (s : Str) : VCalls Try.prog TT 44 [.str s] st fun r st' => r = .ret (.bool (looksB s)) ∧ st' = st := by
  refine vfun TT_ok (an := anL []) (L := [0, 2, 4, 16, 17, 18]) (rs := [.tmp 2]) Try.func44 rfl (by kernel_rfl) rfl Try.ntmps44 rfl rfl (Nat.le_refl _) fun hst ha hf => ?_
  simp only [fitL, V.fit] at hf
  simp only [decide_true, decide_false, gwL, gwB, gwD, gwE, gwS, gwTT, gwZ, initG, Nat.reduceEqDiff, ↓reduceIte, Nat.reduceAdd, Nat.reduceLT, Nat.reduceLeDiff, List.map_cons, List.map_nil, builtS, builtinV, pureR, binV, sliceV, pickV, evO, Env.look, find, V.ofConst, resV, resOne, tupV, loadV, fillV, buildV, mkIface, litM, litS, litR, litRows, List.reverse_cons, List.reverse_nil, Nat.reduceMul, appS, memA, appendV, rowsOf, V.cells, TI.sized, TI.known, TI.agg, anL, List.length_cons, List.length_nil, List.append_nil, List.cons_append, List.nil_append, List.drop_succ_cons, List.drop_zero, List.drop_nil, List.take_succ_cons, List.take_zero, List.take_nil, List.getElem?_cons_zero, List.getElem?_cons_succ, List.all_cons, List.all_nil, List.replicate_succ, List.replicate_zero, List.set_cons_zero, List.set_cons_succ, eq_self, true_or, ne_eq, not_false_eq_true, Nat.reduceEqDiff]
  refine ⟨fun h => ⟨Int.le_refl _, of_decide_eq_true h⟩, iK_split (fun h => ?_) (fun h => ?_)⟩
  · have hs : ∃ r, s = 45 :: r := by
      cases s with
      | nil => simp at h
      | cons a r =>
        have : a = 45 := UInt8.toNat_inj.mp (by simp at h; show a.toNat = 45; omega)
        exact ⟨r, by rw [this]⟩
    obtain ⟨r, rfl⟩ := hs
    have e : looksB (45 :: r) = (digits r && !r.isEmpty) := rfl
    have hl : r.length ≤ 9223372036854775807 := by have := hf.1; simp at this; omega
    rw [e]
    simp only [decide_true, decide_false, gwL, gwB, gwD, gwE, gwS, gwTT, gwZ, initG, Nat.reduceEqDiff, ↓reduceIte, Nat.reduceAdd, Nat.reduceLT, Nat.reduceLeDiff, List.map_cons, List.map_nil, builtS, builtinV, pureR, binV, sliceV, pickV, evO, Env.look, find, V.ofConst, resV, resOne, tupV, loadV, fillV, buildV, mkIface, litM, litS, litR, litRows, List.reverse_cons, List.reverse_nil, Nat.reduceMul, appS, memA, appendV, rowsOf, V.cells, TI.sized, TI.known, TI.agg, anL, List.length_cons, List.length_nil, List.append_nil, List.cons_append, List.nil_append, List.drop_succ_cons, List.drop_zero, List.drop_nil, List.take_succ_cons, List.take_zero, List.take_nil, List.getElem?_cons_zero, List.getElem?_cons_succ, List.all_cons, List.all_nil, List.replicate_succ, List.replicate_zero, List.set_cons_zero, List.set_cons_succ, eq_self, true_or, ne_eq, not_false_eq_true, Nat.reduceEqDiff, convV, List.drop_succ_cons, List.drop_zero, Int.toNat_one]
    clear e hf ha h
    generalize r = t at hl ⊢
    refine ⟨⟨by omega, by omega⟩, ?_⟩
    have hll : (byteRows t).length = t.length := by simp [byteRows]
    refine vfor (σ := Nat) [0, 2, 16, 17, 18] (fun i => [(0, true, .str t), (2, true, .bool false), (16, true, .lst 1 none (byteRows t)), (17, true, .int .i64 (byteRows t).length), (18, true, .int .i64 i)]) (fun i => st) (fun i => t.length - i) (fun i => i ≤ t.length ∧ digits t = digits (t.drop i)) 0 rfl TT_ok ⟨Nat.zero_le _, rfl⟩ rfl rfl ?_
    rintro i ⟨hi, hx⟩
    rw [hx]
    rcases at_or_end t i hi with ⟨rfl, hd⟩ | ⟨a, hlt, hget, hdr⟩
    · rw [hll]
      simp only [decide_true, decide_false, gwL, gwB, gwD, gwE, gwS, gwTT, gwZ, initG, Nat.reduceEqDiff, ↓reduceIte, Nat.reduceAdd, Nat.reduceLT, Nat.reduceLeDiff, List.map_cons, List.map_nil, builtS, builtinV, pureR, binV, sliceV, pickV, evO, Env.look, find, V.ofConst, resV, resOne, tupV, loadV, fillV, buildV, mkIface, litM, litS, litR, litRows, List.reverse_cons, List.reverse_nil, Nat.reduceMul, appS, memA, appendV, rowsOf, V.cells, TI.sized, TI.known, TI.agg, anL, List.length_cons, List.length_nil, List.append_nil, List.cons_append, List.nil_append, List.drop_succ_cons, List.drop_zero, List.drop_nil, List.take_succ_cons, List.take_zero, List.take_nil, List.getElem?_cons_zero, List.getElem?_cons_succ, List.all_cons, List.all_nil, List.replicate_succ, List.replicate_zero, List.set_cons_zero, List.set_cons_succ, eq_self, true_or, ne_eq, not_false_eq_true, Nat.reduceEqDiff, lt_no, hd]
      exact gives_bool (by cases t <;> simp [digits]) hst
    · rw [hll]
      have hg : (byteRows t).getD i [] = [V.int .u8 a.toNat] := getD_map hget
      simp only [decide_true, decide_false, gwL, gwB, gwD, gwE, gwS, gwTT, gwZ, initG, Nat.reduceEqDiff, ↓reduceIte, Nat.reduceAdd, Nat.reduceLT, Nat.reduceLeDiff, List.map_cons, List.map_nil, builtS, builtinV, pureR, binV, sliceV, pickV, evO, Env.look, find, V.ofConst, resV, resOne, tupV, loadV, fillV, buildV, mkIface, litM, litS, litR, litRows, List.reverse_cons, List.reverse_nil, Nat.reduceMul, appS, memA, appendV, rowsOf, V.cells, TI.sized, TI.known, TI.agg, anL, List.length_cons, List.length_nil, List.append_nil, List.cons_append, List.nil_append, List.drop_succ_cons, List.drop_zero, List.drop_nil, List.take_succ_cons, List.take_zero, List.take_nil, List.getElem?_cons_zero, List.getElem?_cons_succ, List.all_cons, List.all_nil, List.replicate_succ, List.replicate_zero, List.set_cons_zero, List.set_cons_succ, eq_self, true_or, ne_eq, not_false_eq_true, Nat.reduceEqDiff, lt_yes hlt, hdr, hll, hg, Int.ofNat_lt.mpr hlt]
      refine iK_split (fun h => ?_) (fun h => ?_)
      · simp only [decide_true, decide_false, gwL, gwB, gwD, gwE, gwS, gwTT, gwZ, initG, Nat.reduceEqDiff, ↓reduceIte, Nat.reduceAdd, Nat.reduceLT, Nat.reduceLeDiff, List.map_cons, List.map_nil, builtS, builtinV, pureR, binV, sliceV, pickV, evO, Env.look, find, V.ofConst, resV, resOne, tupV, loadV, fillV, buildV, mkIface, litM, litS, litR, litRows, List.reverse_cons, List.reverse_nil, Nat.reduceMul, appS, memA, appendV, rowsOf, V.cells, TI.sized, TI.known, TI.agg, anL, List.length_cons, List.length_nil, List.append_nil, List.cons_append, List.nil_append, List.drop_succ_cons, List.drop_zero, List.drop_nil, List.take_succ_cons, List.take_zero, List.take_nil, List.getElem?_cons_zero, List.getElem?_cons_succ, List.all_cons, List.all_nil, List.replicate_succ, List.replicate_zero, List.set_cons_zero, List.set_cons_succ, eq_self, true_or, ne_eq, not_false_eq_true, Nat.reduceEqDiff]
        exact gives_bool (by rw [digit_yes h]; rfl) hst
      · simp only [decide_true, decide_false, gwL, gwB, gwD, gwE, gwS, gwTT, gwZ, initG, Nat.reduceEqDiff, ↓reduceIte, Nat.reduceAdd, Nat.reduceLT, Nat.reduceLeDiff, List.map_cons, List.map_nil, builtS, builtinV, pureR, binV, sliceV, pickV, evO, Env.look, find, V.ofConst, resV, resOne, tupV, loadV, fillV, buildV, mkIface, litM, litS, litR, litRows, List.reverse_cons, List.reverse_nil, Nat.reduceMul, appS, memA, appendV, rowsOf, V.cells, TI.sized, TI.known, TI.agg, anL, List.length_cons, List.length_nil, List.append_nil, List.cons_append, List.nil_append, List.drop_succ_cons, List.drop_zero, List.drop_nil, List.take_succ_cons, List.take_zero, List.take_nil, List.getElem?_cons_zero, List.getElem?_cons_succ, List.all_cons, List.all_nil, List.replicate_succ, List.replicate_zero, List.set_cons_zero, List.set_cons_succ, eq_self, true_or, ne_eq, not_false_eq_true, Nat.reduceEqDiff, Env.keep]
        exact ⟨i + 1, by rw [next_i64 hlt hl], by omega, hlt, digit_no h _⟩
  · have e : looksB s = (digits s && !s.isEmpty) := by
      unfold looksB
      split
      · simp at h
      · rfl
    have hl := hf.1
    rw [e]
    simp only [decide_true, decide_false, gwL, gwB, gwD, gwE, gwS, gwTT, gwZ, initG, Nat.reduceEqDiff, ↓reduceIte, Nat.reduceAdd, Nat.reduceLT, Nat.reduceLeDiff, List.map_cons, List.map_nil, builtS, builtinV, pureR, binV, sliceV, pickV, evO, Env.look, find, V.ofConst, resV, resOne, tupV, loadV, fillV, buildV, mkIface, litM, litS, litR, litRows, List.reverse_cons, List.reverse_nil, Nat.reduceMul, appS, memA, appendV, rowsOf, V.cells, TI.sized, TI.known, TI.agg, anL, List.length_cons, List.length_nil, List.append_nil, List.cons_append, List.nil_append, List.drop_succ_cons, List.drop_zero, List.drop_nil, List.take_succ_cons, List.take_zero, List.take_nil, List.getElem?_cons_zero, List.getElem?_cons_succ, List.all_cons, List.all_nil, List.replicate_succ, List.replicate_zero, List.set_cons_zero, List.set_cons_succ, eq_self, true_or, ne_eq, not_false_eq_true, Nat.reduceEqDiff, convV]
    clear e hf ha h
    generalize s = t at hl ⊢
    have hll : (byteRows t).length = t.length := by simp [byteRows]
    refine vfor (σ := Nat) [0, 2, 16, 17, 18] (fun i => [(0, true, .str t), (2, true, .bool false), (16, true, .lst 1 none (byteRows t)), (17, true, .int .i64 (byteRows t).length), (18, true, .int .i64 i)]) (fun i => st) (fun i => t.length - i) (fun i => i ≤ t.length ∧ digits t = digits (t.drop i)) 0 rfl TT_ok ⟨Nat.zero_le _, rfl⟩ rfl rfl ?_
    rintro i ⟨hi, hx⟩
    rw [hx]
    rcases at_or_end t i hi with ⟨rfl, hd⟩ | ⟨a, hlt, hget, hdr⟩
    · rw [hll]
      simp only [decide_true, decide_false, gwL, gwB, gwD, gwE, gwS, gwTT, gwZ, initG, Nat.reduceEqDiff, ↓reduceIte, Nat.reduceAdd, Nat.reduceLT, Nat.reduceLeDiff, List.map_cons, List.map_nil, builtS, builtinV, pureR, binV, sliceV, pickV, evO, Env.look, find, V.ofConst, resV, resOne, tupV, loadV, fillV, buildV, mkIface, litM, litS, litR, litRows, List.reverse_cons, List.reverse_nil, Nat.reduceMul, appS, memA, appendV, rowsOf, V.cells, TI.sized, TI.known, TI.agg, anL, List.length_cons, List.length_nil, List.append_nil, List.cons_append, List.nil_append, List.drop_succ_cons, List.drop_zero, List.drop_nil, List.take_succ_cons, List.take_zero, List.take_nil, List.getElem?_cons_zero, List.getElem?_cons_succ, List.all_cons, List.all_nil, List.replicate_succ, List.replicate_zero, List.set_cons_zero, List.set_cons_succ, eq_self, true_or, ne_eq, not_false_eq_true, Nat.reduceEqDiff, lt_no, hd]
      exact gives_bool (by cases t <;> simp [digits]) hst
    · rw [hll]
      have hg : (byteRows t).getD i [] = [V.int .u8 a.toNat] := getD_map hget
      simp only [decide_true, decide_false, gwL, gwB, gwD, gwE, gwS, gwTT, gwZ, initG, Nat.reduceEqDiff, ↓reduceIte, Nat.reduceAdd, Nat.reduceLT, Nat.reduceLeDiff, List.map_cons, List.map_nil, builtS, builtinV, pureR, binV, sliceV, pickV, evO, Env.look, find, V.ofConst, resV, resOne, tupV, loadV, fillV, buildV, mkIface, litM, litS, litR, litRows, List.reverse_cons, List.reverse_nil, Nat.reduceMul, appS, memA, appendV, rowsOf, V.cells, TI.sized, TI.known, TI.agg, anL, List.length_cons, List.length_nil, List.append_nil, List.cons_append, List.nil_append, List.drop_succ_cons, List.drop_zero, List.drop_nil, List.take_succ_cons, List.take_zero, List.take_nil, List.getElem?_cons_zero, List.getElem?_cons_succ, List.all_cons, List.all_nil, List.replicate_succ, List.replicate_zero, List.set_cons_zero, List.set_cons_succ, eq_self, true_or, ne_eq, not_false_eq_true, Nat.reduceEqDiff, lt_yes hlt, hdr, hll, hg, Int.ofNat_lt.mpr hlt]
      refine iK_split (fun h => ?_) (fun h => ?_)
      · simp only [decide_true, decide_false, gwL, gwB, gwD, gwE, gwS, gwTT, gwZ, initG, Nat.reduceEqDiff, ↓reduceIte, Nat.reduceAdd, Nat.reduceLT, Nat.reduceLeDiff, List.map_cons, List.map_nil, builtS, builtinV, pureR, binV, sliceV, pickV, evO, Env.look, find, V.ofConst, resV, resOne, tupV, loadV, fillV, buildV, mkIface, litM, litS, litR, litRows, List.reverse_cons, List.reverse_nil, Nat.reduceMul, appS, memA, appendV, rowsOf, V.cells, TI.sized, TI.known, TI.agg, anL, List.length_cons, List.length_nil, List.append_nil, List.cons_append, List.nil_append, List.drop_succ_cons, List.drop_zero, List.drop_nil, List.take_succ_cons, List.take_zero, List.take_nil, List.getElem?_cons_zero, List.getElem?_cons_succ, List.all_cons, List.all_nil, List.replicate_succ, List.replicate_zero, List.set_cons_zero, List.set_cons_succ, eq_self, true_or, ne_eq, not_false_eq_true, Nat.reduceEqDiff]
        exact gives_bool (by rw [digit_yes h]; rfl) hst
      · simp only [decide_true, decide_false, gwL, gwB, gwD, gwE, gwS, gwTT, gwZ, initG, Nat.reduceEqDiff, ↓reduceIte, Nat.reduceAdd, Nat.reduceLT, Nat.reduceLeDiff, List.map_cons, List.map_nil, builtS, builtinV, pureR, binV, sliceV, pickV, evO, Env.look, find, V.ofConst, resV, resOne, tupV, loadV, fillV, buildV, mkIface, litM, litS, litR, litRows, List.reverse_cons, List.reverse_nil, Nat.reduceMul, appS, memA, appendV, rowsOf, V.cells, TI.sized, TI.known, TI.agg, anL, List.length_cons, List.length_nil, List.append_nil, List.cons_append, List.nil_append, List.drop_succ_cons, List.drop_zero, List.drop_nil, List.take_succ_cons, List.take_zero, List.take_nil, List.getElem?_cons_zero, List.getElem?_cons_succ, List.all_cons, List.all_nil, List.replicate_succ, List.replicate_zero, List.set_cons_zero, List.set_cons_succ, eq_self, true_or, ne_eq, not_false_eq_true, Nat.reduceEqDiff, Env.keep]
        exact ⟨i + 1, by rw [next_i64 hlt hl], by omega, hlt, digit_no h _⟩

def namedB (s : Str) : Bool := s.all letterB && (decide (0 < s.length) && decide (s.length ≤ 20) && !looksB s)
theorem c_text_Named (st : St) (s : Str) : VCalls Try.prog TT 39 [.str s] st fun r st' => r = .ret (.bool (namedB s)) ∧ st' = st := by
  refine vfun TT_ok (an := anL []) (L := [0, 2, 3, 13, 14]) (rs := [.tmp 2]) Try.func39 rfl (by kernel_rfl) rfl Try.ntmps39 rfl rfl (Nat.le_refl _) fun hst ha hf => ?_
  simp only [decide_true, decide_false, gwL, gwB, gwD, gwE, gwS, gwTT, gwZ, initG, Nat.reduceEqDiff, ↓reduceIte, Nat.reduceAdd, Nat.reduceLT, Nat.reduceLeDiff, List.map_cons, List.map_nil, builtS, builtinV, pureR, binV, sliceV, pickV, evO, Env.look, find, V.ofConst, resV, resOne, tupV, loadV, fillV, buildV, mkIface, litM, litS, litR, litRows, List.reverse_cons, List.reverse_nil, Nat.reduceMul, appS, memA, appendV, rowsOf, V.cells, TI.sized, TI.known, TI.agg, anL, List.length_cons, List.length_nil, List.append_nil, List.cons_append, List.nil_append, List.drop_succ_cons, List.drop_zero, List.drop_nil, List.take_succ_cons, List.take_zero, List.take_nil, List.getElem?_cons_zero, List.getElem?_cons_succ, List.all_cons, List.all_nil, List.replicate_succ, List.replicate_zero, List.set_cons_zero, List.set_cons_succ, eq_self, true_or, ne_eq, not_false_eq_true, Nat.reduceEqDiff]
  refine iK_split (fun h => ?_) (fun h => ?_)
  · simp only [decide_true, decide_false, gwL, gwB, gwD, gwE, gwS, gwTT, gwZ, initG, Nat.reduceEqDiff, ↓reduceIte, Nat.reduceAdd, Nat.reduceLT, Nat.reduceLeDiff, List.map_cons, List.map_nil, builtS, builtinV, pureR, binV, sliceV, pickV, evO, Env.look, find, V.ofConst, resV, resOne, tupV, loadV, fillV, buildV, mkIface, litM, litS, litR, litRows, List.reverse_cons, List.reverse_nil, Nat.reduceMul, appS, memA, appendV, rowsOf, V.cells, TI.sized, TI.known, TI.agg, anL, List.length_cons, List.length_nil, List.append_nil, List.cons_append, List.nil_append, List.drop_succ_cons, List.drop_zero, List.drop_nil, List.take_succ_cons, List.take_zero, List.take_nil, List.getElem?_cons_zero, List.getElem?_cons_succ, List.all_cons, List.all_nil, List.replicate_succ, List.replicate_zero, List.set_cons_zero, List.set_cons_succ, eq_self, true_or, ne_eq, not_false_eq_true, Nat.reduceEqDiff]
    refine gives_bool ?_ hst
    have : ¬ (0 < s.length ∧ s.length ≤ 20) := by
      intro ⟨h1, h2⟩
      have e1 : decide ((s.length : Int) < 1) = false := by simp; omega
      have e2 : decide (20 < (s.length : Int)) = false := by simp; omega
      rw [e1, e2] at h; cases h
    rcases Nat.lt_or_ge 0 s.length with h1 | h1
    · simp [namedB, show ¬ s.length ≤ 20 from fun h2 => this ⟨h1, h2⟩]
    · simp [namedB, show ¬ 0 < s.length by omega]
  · have hl : 0 < s.length ∧ s.length ≤ 20 := by
      constructor
      · refine Nat.lt_of_not_le fun h1 => ?_
        have e1 : decide ((s.length : Int) < 1) = true := by simp; omega
        rw [e1] at h; cases h
      · refine Nat.le_of_not_lt fun h1 => ?_
        have e2 : decide (20 < (s.length : Int)) = true := by simp; omega
        rw [e2] at h; revert h; cases decide ((s.length : Int) < 1) <;> simp
    have e : namedB s = (s.all letterB && !looksB s) := by simp [namedB, hl]
    rw [e]
    simp only [decide_true, decide_false, gwL, gwB, gwD, gwE, gwS, gwTT, gwZ, initG, Nat.reduceEqDiff, ↓reduceIte, Nat.reduceAdd, Nat.reduceLT, Nat.reduceLeDiff, List.map_cons, List.map_nil, builtS, builtinV, pureR, binV, sliceV, pickV, evO, Env.look, find, V.ofConst, resV, resOne, tupV, loadV, fillV, buildV, mkIface, litM, litS, litR, litRows, List.reverse_cons, List.reverse_nil, Nat.reduceMul, appS, memA, appendV, rowsOf, V.cells, TI.sized, TI.known, TI.agg, anL, List.length_cons, List.length_nil, List.append_nil, List.cons_append, List.nil_append, List.drop_succ_cons, List.drop_zero, List.drop_nil, List.take_succ_cons, List.take_zero, List.take_nil, List.getElem?_cons_zero, List.getElem?_cons_succ, List.all_cons, List.all_nil, List.replicate_succ, List.replicate_zero, List.set_cons_zero, List.set_cons_succ, eq_self, true_or, ne_eq, not_false_eq_true, Nat.reduceEqDiff]
    refine vfor (σ := Nat) [0, 2, 13, 14] (fun i => [(0, true, .str s), (2, true, .bool false), (13, true, .int .i64 s.length), (14, true, .int .i64 i)]) (fun i => st) (fun i => s.length - i) (fun i => i ≤ s.length ∧ s.all letterB = (s.drop i).all letterB) 0 rfl TT_ok ⟨Nat.zero_le _, rfl⟩ rfl rfl ?_
    rintro i ⟨hi, hx⟩
    rw [hx]
    rcases at_or_end s i hi with ⟨rfl, hd⟩ | ⟨a, hlt, hget, hdr⟩
    · simp only [decide_true, decide_false, gwL, gwB, gwD, gwE, gwS, gwTT, gwZ, initG, Nat.reduceEqDiff, ↓reduceIte, Nat.reduceAdd, Nat.reduceLT, Nat.reduceLeDiff, List.map_cons, List.map_nil, builtS, builtinV, pureR, binV, sliceV, pickV, evO, Env.look, find, V.ofConst, resV, resOne, tupV, loadV, fillV, buildV, mkIface, litM, litS, litR, litRows, List.reverse_cons, List.reverse_nil, Nat.reduceMul, appS, memA, appendV, rowsOf, V.cells, TI.sized, TI.known, TI.agg, anL, List.length_cons, List.length_nil, List.append_nil, List.cons_append, List.nil_append, List.drop_succ_cons, List.drop_zero, List.drop_nil, List.take_succ_cons, List.take_zero, List.take_nil, List.getElem?_cons_zero, List.getElem?_cons_succ, List.all_cons, List.all_nil, List.replicate_succ, List.replicate_zero, List.set_cons_zero, List.set_cons_succ, eq_self, true_or, ne_eq, not_false_eq_true, Nat.reduceEqDiff, lt_no, hd]
      refine (c_number st s).use (wkL_refl _) fun _ => ?_
      simp only [decide_true, decide_false, gwL, gwB, gwD, gwE, gwS, gwTT, gwZ, initG, Nat.reduceEqDiff, ↓reduceIte, Nat.reduceAdd, Nat.reduceLT, Nat.reduceLeDiff, List.map_cons, List.map_nil, builtS, builtinV, pureR, binV, sliceV, pickV, evO, Env.look, find, V.ofConst, resV, resOne, tupV, loadV, fillV, buildV, mkIface, litM, litS, litR, litRows, List.reverse_cons, List.reverse_nil, Nat.reduceMul, appS, memA, appendV, rowsOf, V.cells, TI.sized, TI.known, TI.agg, anL, List.length_cons, List.length_nil, List.append_nil, List.cons_append, List.nil_append, List.drop_succ_cons, List.drop_zero, List.drop_nil, List.take_succ_cons, List.take_zero, List.take_nil, List.getElem?_cons_zero, List.getElem?_cons_succ, List.all_cons, List.all_nil, List.replicate_succ, List.replicate_zero, List.set_cons_zero, List.set_cons_succ, eq_self, true_or, ne_eq, not_false_eq_true, Nat.reduceEqDiff]
      exact gives_bool (by simp) hst
    · simp only [decide_true, decide_false, gwL, gwB, gwD, gwE, gwS, gwTT, gwZ, initG, Nat.reduceEqDiff, ↓reduceIte, Nat.reduceAdd, Nat.reduceLT, Nat.reduceLeDiff, List.map_cons, List.map_nil, builtS, builtinV, pureR, binV, sliceV, pickV, evO, Env.look, find, V.ofConst, resV, resOne, tupV, loadV, fillV, buildV, mkIface, litM, litS, litR, litRows, List.reverse_cons, List.reverse_nil, Nat.reduceMul, appS, memA, appendV, rowsOf, V.cells, TI.sized, TI.known, TI.agg, anL, List.length_cons, List.length_nil, List.append_nil, List.cons_append, List.nil_append, List.drop_succ_cons, List.drop_zero, List.drop_nil, List.take_succ_cons, List.take_zero, List.take_nil, List.getElem?_cons_zero, List.getElem?_cons_succ, List.all_cons, List.all_nil, List.replicate_succ, List.replicate_zero, List.set_cons_zero, List.set_cons_succ, eq_self, true_or, ne_eq, not_false_eq_true, Nat.reduceEqDiff, lt_yes hlt, hdr, getD_at hget, Int.ofNat_lt.mpr hlt]
      refine (c_letter st a).use (wkL_refl _) fun _ => ?_
      simp only [decide_true, decide_false, gwL, gwB, gwD, gwE, gwS, gwTT, gwZ, initG, Nat.reduceEqDiff, ↓reduceIte, Nat.reduceAdd, Nat.reduceLT, Nat.reduceLeDiff, List.map_cons, List.map_nil, builtS, builtinV, pureR, binV, sliceV, pickV, evO, Env.look, find, V.ofConst, resV, resOne, tupV, loadV, fillV, buildV, mkIface, litM, litS, litR, litRows, List.reverse_cons, List.reverse_nil, Nat.reduceMul, appS, memA, appendV, rowsOf, V.cells, TI.sized, TI.known, TI.agg, anL, List.length_cons, List.length_nil, List.append_nil, List.cons_append, List.nil_append, List.drop_succ_cons, List.drop_zero, List.drop_nil, List.take_succ_cons, List.take_zero, List.take_nil, List.getElem?_cons_zero, List.getElem?_cons_succ, List.all_cons, List.all_nil, List.replicate_succ, List.replicate_zero, List.set_cons_zero, List.set_cons_succ, eq_self, true_or, ne_eq, not_false_eq_true, Nat.reduceEqDiff]
      refine iK_split (fun h => ?_) (fun h => ?_)
      · simp only [decide_true, decide_false, gwL, gwB, gwD, gwE, gwS, gwTT, gwZ, initG, Nat.reduceEqDiff, ↓reduceIte, Nat.reduceAdd, Nat.reduceLT, Nat.reduceLeDiff, List.map_cons, List.map_nil, builtS, builtinV, pureR, binV, sliceV, pickV, evO, Env.look, find, V.ofConst, resV, resOne, tupV, loadV, fillV, buildV, mkIface, litM, litS, litR, litRows, List.reverse_cons, List.reverse_nil, Nat.reduceMul, appS, memA, appendV, rowsOf, V.cells, TI.sized, TI.known, TI.agg, anL, List.length_cons, List.length_nil, List.append_nil, List.cons_append, List.nil_append, List.drop_succ_cons, List.drop_zero, List.drop_nil, List.take_succ_cons, List.take_zero, List.take_nil, List.getElem?_cons_zero, List.getElem?_cons_succ, List.all_cons, List.all_nil, List.replicate_succ, List.replicate_zero, List.set_cons_zero, List.set_cons_succ, eq_self, true_or, ne_eq, not_false_eq_true, Nat.reduceEqDiff]
        exact gives_bool (by simp at h; simp [h]) hst
      · simp only [decide_true, decide_false, gwL, gwB, gwD, gwE, gwS, gwTT, gwZ, initG, Nat.reduceEqDiff, ↓reduceIte, Nat.reduceAdd, Nat.reduceLT, Nat.reduceLeDiff, List.map_cons, List.map_nil, builtS, builtinV, pureR, binV, sliceV, pickV, evO, Env.look, find, V.ofConst, resV, resOne, tupV, loadV, fillV, buildV, mkIface, litM, litS, litR, litRows, List.reverse_cons, List.reverse_nil, Nat.reduceMul, appS, memA, appendV, rowsOf, V.cells, TI.sized, TI.known, TI.agg, anL, List.length_cons, List.length_nil, List.append_nil, List.cons_append, List.nil_append, List.drop_succ_cons, List.drop_zero, List.drop_nil, List.take_succ_cons, List.take_zero, List.take_nil, List.getElem?_cons_zero, List.getElem?_cons_succ, List.all_cons, List.all_nil, List.replicate_succ, List.replicate_zero, List.set_cons_zero, List.set_cons_succ, eq_self, true_or, ne_eq, not_false_eq_true, Nat.reduceEqDiff, Env.keep]
        exact ⟨i + 1, by rw [next_i64 hlt (by omega)], by omega, hlt, by simp at h; simp [h]⟩
theorem c_ref_Named (st : St) (s : Str) : VCalls Try.prog TT 40 [.str s] st fun r st' => r = .ret (.bool (namedB s)) ∧ st' = st := by
  refine vfun TT_ok (an := anL []) (L := [0, 2, 4, 6, 7, 8]) (rs := [.tmp 2]) Try.func40 rfl (by kernel_rfl) rfl Try.ntmps40 rfl rfl (Nat.le_refl _) fun hst ha hf => ?_
  simp only [fitL, V.fit] at hf
  simp only [decide_true, decide_false, gwL, gwB, gwD, gwE, gwS, gwTT, gwZ, initG, Nat.reduceEqDiff, ↓reduceIte, Nat.reduceAdd, Nat.reduceLT, Nat.reduceLeDiff, List.map_cons, List.map_nil, builtS, builtinV, pureR, binV, sliceV, pickV, evO, Env.look, find, V.ofConst, resV, resOne, tupV, loadV, fillV, buildV, mkIface, litM, litS, litR, litRows, List.reverse_cons, List.reverse_nil, Nat.reduceMul, appS, memA, appendV, rowsOf, V.cells, TI.sized, TI.known, TI.agg, anL, List.length_cons, List.length_nil, List.append_nil, List.cons_append, List.nil_append, List.drop_succ_cons, List.drop_zero, List.drop_nil, List.take_succ_cons, List.take_zero, List.take_nil, List.getElem?_cons_zero, List.getElem?_cons_succ, List.all_cons, List.all_nil, List.replicate_succ, List.replicate_zero, List.set_cons_zero, List.set_cons_succ, eq_self, true_or, ne_eq, not_false_eq_true, Nat.reduceEqDiff, convV]
  have hll : (byteRows s).length = s.length := by simp [byteRows]
  refine vfor (σ := Nat) [0, 2, 6, 7, 8] (fun i => [(0, true, .str s), (2, true, .bool false), (6, true, .lst 1 none (byteRows s)), (7, true, .int .i64 (byteRows s).length), (8, true, .int .i64 i)]) (fun i => st) (fun i => s.length - i) (fun i => i ≤ s.length ∧ s.all letterB = (s.drop i).all letterB) 0 rfl TT_ok ⟨Nat.zero_le _, rfl⟩ rfl rfl ?_
  rintro i ⟨hi, hx⟩
  unfold namedB
  rw [hx]
  rcases at_or_end s i hi with ⟨rfl, hd⟩ | ⟨a, hlt, hget, hdr⟩
  · rw [hll]
    simp only [decide_true, decide_false, gwL, gwB, gwD, gwE, gwS, gwTT, gwZ, initG, Nat.reduceEqDiff, ↓reduceIte, Nat.reduceAdd, Nat.reduceLT, Nat.reduceLeDiff, List.map_cons, List.map_nil, builtS, builtinV, pureR, binV, sliceV, pickV, evO, Env.look, find, V.ofConst, resV, resOne, tupV, loadV, fillV, buildV, mkIface, litM, litS, litR, litRows, List.reverse_cons, List.reverse_nil, Nat.reduceMul, appS, memA, appendV, rowsOf, V.cells, TI.sized, TI.known, TI.agg, anL, List.length_cons, List.length_nil, List.append_nil, List.cons_append, List.nil_append, List.drop_succ_cons, List.drop_zero, List.drop_nil, List.take_succ_cons, List.take_zero, List.take_nil, List.getElem?_cons_zero, List.getElem?_cons_succ, List.all_cons, List.all_nil, List.replicate_succ, List.replicate_zero, List.set_cons_zero, List.set_cons_succ, eq_self, true_or, ne_eq, not_false_eq_true, Nat.reduceEqDiff, lt_no, hd]
    refine rK_guarded (.bool (looksB s)) (fun _ => c_Looks st s) ?_
    simp only [decide_true, decide_false, gwL, gwB, gwD, gwE, gwS, gwTT, gwZ, initG, Nat.reduceEqDiff, ↓reduceIte, Nat.reduceAdd, Nat.reduceLT, Nat.reduceLeDiff, List.map_cons, List.map_nil, builtS, builtinV, pureR, binV, sliceV, pickV, evO, Env.look, find, V.ofConst, resV, resOne, tupV, loadV, fillV, buildV, mkIface, litM, litS, litR, litRows, List.reverse_cons, List.reverse_nil, Nat.reduceMul, appS, memA, appendV, rowsOf, V.cells, TI.sized, TI.known, TI.agg, anL, List.length_cons, List.length_nil, List.append_nil, List.cons_append, List.nil_append, List.drop_succ_cons, List.drop_zero, List.drop_nil, List.take_succ_cons, List.take_zero, List.take_nil, List.getElem?_cons_zero, List.getElem?_cons_succ, List.all_cons, List.all_nil, List.replicate_succ, List.replicate_zero, List.set_cons_zero, List.set_cons_succ, eq_self, true_or, ne_eq, not_false_eq_true, Nat.reduceEqDiff]
    refine gives_bool ?_ hst
    have e1 : decide (0 < (s.length : Int)) = decide (0 < s.length) := by simp
    have e2 : decide ((s.length : Int) ≤ 20) = decide (s.length ≤ 20) := decide_eq_decide.mpr (by omega)
    rw [e1, e2]
  · rw [hll]
    have hg : (byteRows s).getD i [] = [V.int .u8 a.toNat] := getD_map hget
    simp only [decide_true, decide_false, gwL, gwB, gwD, gwE, gwS, gwTT, gwZ, initG, Nat.reduceEqDiff, ↓reduceIte, Nat.reduceAdd, Nat.reduceLT, Nat.reduceLeDiff, List.map_cons, List.map_nil, builtS, builtinV, pureR, binV, sliceV, pickV, evO, Env.look, find, V.ofConst, resV, resOne, tupV, loadV, fillV, buildV, mkIface, litM, litS, litR, litRows, List.reverse_cons, List.reverse_nil, Nat.reduceMul, appS, memA, appendV, rowsOf, V.cells, TI.sized, TI.known, TI.agg, anL, List.length_cons, List.length_nil, List.append_nil, List.cons_append, List.nil_append, List.drop_succ_cons, List.drop_zero, List.drop_nil, List.take_succ_cons, List.take_zero, List.take_nil, List.getElem?_cons_zero, List.getElem?_cons_succ, List.all_cons, List.all_nil, List.replicate_succ, List.replicate_zero, List.set_cons_zero, List.set_cons_succ, eq_self, true_or, ne_eq, not_false_eq_true, Nat.reduceEqDiff, lt_yes hlt, hdr, hll, hg, Int.ofNat_lt.mpr hlt]
    refine (c_Letter st a).use (wkL_refl _) fun _ => ?_
    simp only [decide_true, decide_false, gwL, gwB, gwD, gwE, gwS, gwTT, gwZ, initG, Nat.reduceEqDiff, ↓reduceIte, Nat.reduceAdd, Nat.reduceLT, Nat.reduceLeDiff, List.map_cons, List.map_nil, builtS, builtinV, pureR, binV, sliceV, pickV, evO, Env.look, find, V.ofConst, resV, resOne, tupV, loadV, fillV, buildV, mkIface, litM, litS, litR, litRows, List.reverse_cons, List.reverse_nil, Nat.reduceMul, appS, memA, appendV, rowsOf, V.cells, TI.sized, TI.known, TI.agg, anL, List.length_cons, List.length_nil, List.append_nil, List.cons_append, List.nil_append, List.drop_succ_cons, List.drop_zero, List.drop_nil, List.take_succ_cons, List.take_zero, List.take_nil, List.getElem?_cons_zero, List.getElem?_cons_succ, List.all_cons, List.all_nil, List.replicate_succ, List.replicate_zero, List.set_cons_zero, List.set_cons_succ, eq_self, true_or, ne_eq, not_false_eq_true, Nat.reduceEqDiff]
    refine iK_split (fun h => ?_) (fun h => ?_)
    · simp only [decide_true, decide_false, gwL, gwB, gwD, gwE, gwS, gwTT, gwZ, initG, Nat.reduceEqDiff, ↓reduceIte, Nat.reduceAdd, Nat.reduceLT, Nat.reduceLeDiff, List.map_cons, List.map_nil, builtS, builtinV, pureR, binV, sliceV, pickV, evO, Env.look, find, V.ofConst, resV, resOne, tupV, loadV, fillV, buildV, mkIface, litM, litS, litR, litRows, List.reverse_cons, List.reverse_nil, Nat.reduceMul, appS, memA, appendV, rowsOf, V.cells, TI.sized, TI.known, TI.agg, anL, List.length_cons, List.length_nil, List.append_nil, List.cons_append, List.nil_append, List.drop_succ_cons, List.drop_zero, List.drop_nil, List.take_succ_cons, List.take_zero, List.take_nil, List.getElem?_cons_zero, List.getElem?_cons_succ, List.all_cons, List.all_nil, List.replicate_succ, List.replicate_zero, List.set_cons_zero, List.set_cons_succ, eq_self, true_or, ne_eq, not_false_eq_true, Nat.reduceEqDiff]
      exact gives_bool (by simp at h; simp [h]) hst
    · simp only [decide_true, decide_false, gwL, gwB, gwD, gwE, gwS, gwTT, gwZ, initG, Nat.reduceEqDiff, ↓reduceIte, Nat.reduceAdd, Nat.reduceLT, Nat.reduceLeDiff, List.map_cons, List.map_nil, builtS, builtinV, pureR, binV, sliceV, pickV, evO, Env.look, find, V.ofConst, resV, resOne, tupV, loadV, fillV, buildV, mkIface, litM, litS, litR, litRows, List.reverse_cons, List.reverse_nil, Nat.reduceMul, appS, memA, appendV, rowsOf, V.cells, TI.sized, TI.known, TI.agg, anL, List.length_cons, List.length_nil, List.append_nil, List.cons_append, List.nil_append, List.drop_succ_cons, List.drop_zero, List.drop_nil, List.take_succ_cons, List.take_zero, List.take_nil, List.getElem?_cons_zero, List.getElem?_cons_succ, List.all_cons, List.all_nil, List.replicate_succ, List.replicate_zero, List.set_cons_zero, List.set_cons_succ, eq_self, true_or, ne_eq, not_false_eq_true, Nat.reduceEqDiff, Env.keep]
      exact ⟨i + 1, by rw [next_i64 hlt hf.1], by omega, hlt, by simp at h; simp [h]⟩
end Go.Proofs.Ytpfdoffnpkokhaa.Gx

namespace Go.Proofs.Ytpfdoffnpkokhaa.Gx
open Go Go.Proofs.Ytpfdoffnpkokhaa.Gw
set_option linter.unusedSimpArgs false

/-- A datum. -/
inductive Datum where
  | mk (kind n : Int) (name : Str) (stamp lib : Int) (kids : List Datum)

mutual
def encD : Datum → List V
  | .mk k n nm s l kids => [.int .i64 k, .int .i64 n, .str nm, .int .i64 s, .int .i64 l, .lst 6 none (encDs kids)]
def encDs : List Datum → List (List V)
  | [] => []
  | d :: r => encD d :: encDs r
end
theorem encDs_map : ∀ l : List Datum, encDs l = l.map encD
  | [] => rfl
  | d :: r => by simp only [encDs, List.map_cons, encDs_map r]
theorem encD_mk (k n : Int) (nm : Str) (s l : Int) (kids : List Datum) : encD (.mk k n nm s l kids) = [.int .i64 k, .int .i64 n, .str nm, .int .i64 s, .int .i64 l, .lst 6 none (kids.map encD)] := by
  simp only [encD, encDs_map]
theorem encD_len (d : Datum) : (encD d).length = 6 := by cases d; rfl
mutual
theorem encD_lt (n : Nat) : ∀ d : Datum, ltL n (encD d)
  | .mk k m nm s l kids => by
    simp only [encD, ltL, V.lt, true_and, and_true]
    exact ⟨fun e h => (by cases h), encDs_lt n kids⟩
theorem encDs_lt (n : Nat) : ∀ l : List Datum, ltRows n (encDs l)
  | [] => trivial
  | d :: r => ⟨encD_lt n d, encDs_lt n r⟩
end
theorem Datum.ind {p : Datum → Prop} (h : ∀ k n nm s l kids, (∀ d ∈ kids, p d) → p (.mk k n nm s l kids)) (d : Datum) : p d :=
  Datum.rec (motive_1 := p) (motive_2 := fun l => ∀ d ∈ l, p d) h (by simp) (fun d r h1 h2 x hx => by rcases List.mem_cons.1 hx with rfl | hx; exact h1; exact h2 x hx) d

mutual
/-- What is wrong with a datum, so many nodes behind; and how many nodes then. -/
def shapeD : Datum → Int → Int → Int × Int
  | .mk k n nm s l kids, deep, c =>
    bif decide (2000 < c + 1) || decide (40 < deep) then (4, c + 1)
    else bif decide (k = 1) then (bif decide (1000000000000000 < n) || decide (n < -1000000000000000) then (3, c + 1) else (0, c + 1))
    else bif decide (k = 2) then (bif decide (n = 0) || decide (n = 1) then (0, c + 1) else (3, c + 1))
    else bif decide (k = 3) then (bif !namedB nm then (7, c + 1) else bif decide (s = 0) && decide (l = 0) then (0, c + 1) else (8, c + 1))
    else bif decide (k = 4) then shapeDs kids (deep + 1) (c + 1)
    else (1, c + 1)
def shapeDs : List Datum → Int → Int → Int × Int
  | [], _, c => (0, c)
  | d :: r, deep, c => bif decide ((shapeD d deep c).1 = 0) then shapeDs r deep (shapeD d deep c).2 else shapeD d deep c
end

mutual
theorem shapeD_ok : ∀ (d : Datum) (deep c : Int), 0 ≤ c → (shapeD d deep c).1 = 0 → c ≤ (shapeD d deep c).2 ∧ (shapeD d deep c).2 ≤ 2000
  | .mk k n nm s l kids, deep, c, h0, h => by
    unfold shapeD at h ⊢
    cases h1 : (decide (2000 < c + 1) || decide (40 < deep)) with
    | true => rw [h1] at h; simp at h
    | false =>
      have hc : c + 1 ≤ 2000 := by simp at h1; omega
      rw [h1] at h
      simp only [cond_false] at h ⊢
      cases h2 : decide (k = 1) <;> rw [h2] at h <;> simp only [cond_false, cond_true] at h ⊢
      · cases h3 : decide (k = 2) <;> rw [h3] at h <;> simp only [cond_false, cond_true] at h ⊢
        · cases h4 : decide (k = 3) <;> rw [h4] at h <;> simp only [cond_false, cond_true] at h ⊢
          · cases h5 : decide (k = 4) <;> rw [h5] at h <;> simp only [cond_false, cond_true] at h ⊢
            · simp at h
            · have := shapeDs_ok kids (deep + 1) (c + 1) (by omega) hc h
              exact ⟨by omega, this.2⟩
          · revert h
            cases namedB nm <;> cases (decide (s = 0) && decide (l = 0)) <;> simp <;> omega
        · revert h
          cases (decide (n = 0) || decide (n = 1)) <;> simp <;> omega
      · revert h
        cases (decide (1000000000000000 < n) || decide (n < -1000000000000000)) <;> simp <;> omega
theorem shapeDs_ok : ∀ (l : List Datum) (deep c : Int), 0 ≤ c → c ≤ 2000 → (shapeDs l deep c).1 = 0 → c ≤ (shapeDs l deep c).2 ∧ (shapeDs l deep c).2 ≤ 2000
  | [], deep, c, h0, h1, h => by simp only [shapeDs]; omega
  | d :: r, deep, c, h0, h1, h => by
    simp only [shapeDs] at h ⊢
    cases h2 : decide ((shapeD d deep c).1 = 0) with
    | true =>
      rw [h2] at h
      simp only [cond_true] at h ⊢
      have k1 := shapeD_ok d deep c h0 (of_decide_eq_true h2)
      have k2 := shapeDs_ok r deep _ (by omega) k1.2 h
      omega
    | false =>
      rw [h2] at h
      simp only [cond_false] at h
      exact absurd h (of_decide_eq_false h2)
end

/-- A mark in a box is counted up. -/
theorem set_self {st : St} {o : Nat} {e : Ent} (h : st[o]? = some e) : st.set o e = st := by
  apply List.ext_getElem?
  intro i
  by_cases hi : o = i
  · subst hi; rw [List.getElem?_set_self (List.getElem?_eq_some_iff.1 h).1, h]
  · rw [List.getElem?_set_ne hi]

theorem or_no {a b : Bool} (h : (!a && !b) = true) : (a || b) = false := by revert h; cases a <;> cases b <;> simp
theorem or_yes {a b : Bool} (h : (!a && !b) = false) : (a || b) = true := by revert h; cases a <;> cases b <;> simp
theorem and_no {a b : Bool} (h : (!a || !b) = true) : (a && b) = false := by revert h; cases a <;> cases b <;> simp
theorem and_yes {a b : Bool} (h : (!a || !b) = false) : (a && b) = true := by revert h; cases a <;> cases b <;> simp
theorem not_yes {a : Bool} (h : (!a) = true) : a = false := by revert h; cases a <;> simp
theorem not_no {a : Bool} (h : (!a) = false) : a = true := by revert h; cases a <;> simp

theorem c_shape (d : Datum) : ∀ (st : St) (o : Nat) (c deep : Int), st[o]? = some (.box [.int .i64 c]) → 0 ≤ c → c ≤ 2000 → 0 ≤ deep → deep ≤ 41 →
    VCalls Try.prog TT 36 [.ptr o 0, .ref (encD d), .int .i64 deep] st fun r st' => r = .ret (.int .i64 (shapeD d deep c).1) ∧ st' = st.set o (.box [.int .i64 (shapeD d deep c).2]) := by
  refine Datum.ind (p := fun d => ∀ (st : St) (o : Nat) (c deep : Int), st[o]? = some (.box [.int .i64 c]) → 0 ≤ c → c ≤ 2000 → 0 ≤ deep → deep ≤ 41 →
    VCalls Try.prog TT 36 [.ptr o 0, .ref (encD d), .int .i64 deep] st fun r st' => r = .ret (.int .i64 (shapeD d deep c).1) ∧ st' = st.set o (.box [.int .i64 (shapeD d deep c).2])) ?_ d
  intro k n nm s l kids ih st o c deep ho h0 h1 h2 h3
  refine vfun TT_ok (an := anL []) (L := [0, 1, 2, 6, 7, 8, 28, 83, 84]) (rs := [.tmp 6]) Try.func36 rfl (by kernel_rfl) rfl Try.ntmps36 rfl rfl (Nat.le_of_eq (List.length_set ..).symm) fun hst ha hf => ?_
  have hlt : o < st.length := (List.getElem?_eq_some_iff.1 ho).1
  have hset : ∀ c', (st.set o (.box [.int .i64 c']))[o]? = some (.box [.int .i64 c']) := fun c' => List.getElem?_set_self hlt
  simp only [encD_mk]
  simp only [decide_true, decide_false, gwL, gwB, gwD, gwE, gwS, gwTT, gwZ, initG, Nat.reduceEqDiff, ↓reduceIte, Nat.reduceAdd, Nat.reduceLT, Nat.reduceLeDiff, List.map_cons, List.map_nil, builtS, builtinV, pureR, binV, sliceV, pickV, evO, Env.look, find, V.ofConst, resV, resOne, tupV, loadV, fillV, buildV, mkIface, litM, litS, litR, litRows, List.reverse_cons, List.reverse_nil, Nat.reduceMul, appS, memA, appendV, rowsOf, V.cells, TI.sized, TI.known, TI.agg, anL, List.length_cons, List.length_nil, List.append_nil, List.cons_append, List.nil_append, List.drop_succ_cons, List.drop_zero, List.drop_nil, List.take_succ_cons, List.take_zero, List.take_nil, List.getElem?_cons_zero, List.getElem?_cons_succ, List.all_cons, List.all_nil, List.replicate_succ, List.replicate_zero, List.set_cons_zero, List.set_cons_succ, eq_self, true_or, ne_eq, not_false_eq_true, Nat.reduceEqDiff, ho, hset, wrap_i64 (show -9223372036854775808 ≤ c + 1 by omega) (show c + 1 ≤ 9223372036854775807 by omega)]
  have hok : ∀ c', St.ok (st.set o (.box [.int .i64 c'])) := by
    intro c' e he
    rw [List.length_set]
    rcases List.mem_or_eq_of_mem_set he with h | rfl
    · exact hst e h
    · simp [Ent.lt, ltL, V.lt]
  have hgv : ∀ (e c' e' c'' : Int), (e, c') = (e', c'') → Gives (.int .i64 e') (st.set o (.box [.int .i64 c''])) (.ret (.int .i64 e)) (st.set o (.box [.int .i64 c'])) := by
    intro e c' e' c'' h
    cases h
    exact gives_int rfl (hok c')
  unfold shapeD
  refine iK_split (fun h => ?_) (fun h => ?_)
  · rw [h]
    simp only [decide_true, decide_false, gwL, gwB, gwD, gwE, gwS, gwTT, gwZ, initG, Nat.reduceEqDiff, ↓reduceIte, Nat.reduceAdd, Nat.reduceLT, Nat.reduceLeDiff, List.map_cons, List.map_nil, builtS, builtinV, pureR, binV, sliceV, pickV, evO, Env.look, find, V.ofConst, resV, resOne, tupV, loadV, fillV, buildV, mkIface, litM, litS, litR, litRows, List.reverse_cons, List.reverse_nil, Nat.reduceMul, appS, memA, appendV, rowsOf, V.cells, TI.sized, TI.known, TI.agg, anL, List.length_cons, List.length_nil, List.append_nil, List.cons_append, List.nil_append, List.drop_succ_cons, List.drop_zero, List.drop_nil, List.take_succ_cons, List.take_zero, List.take_nil, List.getElem?_cons_zero, List.getElem?_cons_succ, List.all_cons, List.all_nil, List.replicate_succ, List.replicate_zero, List.set_cons_zero, List.set_cons_succ, eq_self, true_or, ne_eq, not_false_eq_true, Nat.reduceEqDiff]
    exact hgv _ _ _ _ rfl
  rw [h]
  have hc : c + 1 ≤ 2000 ∧ deep ≤ 40 := by simp at h; omega
  simp only [decide_true, decide_false, gwL, gwB, gwD, gwE, gwS, gwTT, gwZ, initG, Nat.reduceEqDiff, ↓reduceIte, Nat.reduceAdd, Nat.reduceLT, Nat.reduceLeDiff, List.map_cons, List.map_nil, builtS, builtinV, pureR, binV, sliceV, pickV, evO, Env.look, find, V.ofConst, resV, resOne, tupV, loadV, fillV, buildV, mkIface, litM, litS, litR, litRows, List.reverse_cons, List.reverse_nil, Nat.reduceMul, appS, memA, appendV, rowsOf, V.cells, TI.sized, TI.known, TI.agg, anL, List.length_cons, List.length_nil, List.append_nil, List.cons_append, List.nil_append, List.drop_succ_cons, List.drop_zero, List.drop_nil, List.take_succ_cons, List.take_zero, List.take_nil, List.getElem?_cons_zero, List.getElem?_cons_succ, List.all_cons, List.all_nil, List.replicate_succ, List.replicate_zero, List.set_cons_zero, List.set_cons_succ, eq_self, true_or, ne_eq, not_false_eq_true, Nat.reduceEqDiff]
  refine iK_split (fun h1 => ?_) (fun h1 => ?_)
  · rw [h1]
    simp only [decide_true, decide_false, gwL, gwB, gwD, gwE, gwS, gwTT, gwZ, initG, Nat.reduceEqDiff, ↓reduceIte, Nat.reduceAdd, Nat.reduceLT, Nat.reduceLeDiff, List.map_cons, List.map_nil, builtS, builtinV, pureR, binV, sliceV, pickV, evO, Env.look, find, V.ofConst, resV, resOne, tupV, loadV, fillV, buildV, mkIface, litM, litS, litR, litRows, List.reverse_cons, List.reverse_nil, Nat.reduceMul, appS, memA, appendV, rowsOf, V.cells, TI.sized, TI.known, TI.agg, anL, List.length_cons, List.length_nil, List.append_nil, List.cons_append, List.nil_append, List.drop_succ_cons, List.drop_zero, List.drop_nil, List.take_succ_cons, List.take_zero, List.take_nil, List.getElem?_cons_zero, List.getElem?_cons_succ, List.all_cons, List.all_nil, List.replicate_succ, List.replicate_zero, List.set_cons_zero, List.set_cons_succ, eq_self, true_or, ne_eq, not_false_eq_true, Nat.reduceEqDiff]
    refine iK_split (fun h2 => ?_) (fun h2 => ?_)
    · rw [h2]
      simp only [decide_true, decide_false, gwL, gwB, gwD, gwE, gwS, gwTT, gwZ, initG, Nat.reduceEqDiff, ↓reduceIte, Nat.reduceAdd, Nat.reduceLT, Nat.reduceLeDiff, List.map_cons, List.map_nil, builtS, builtinV, pureR, binV, sliceV, pickV, evO, Env.look, find, V.ofConst, resV, resOne, tupV, loadV, fillV, buildV, mkIface, litM, litS, litR, litRows, List.reverse_cons, List.reverse_nil, Nat.reduceMul, appS, memA, appendV, rowsOf, V.cells, TI.sized, TI.known, TI.agg, anL, List.length_cons, List.length_nil, List.append_nil, List.cons_append, List.nil_append, List.drop_succ_cons, List.drop_zero, List.drop_nil, List.take_succ_cons, List.take_zero, List.take_nil, List.getElem?_cons_zero, List.getElem?_cons_succ, List.all_cons, List.all_nil, List.replicate_succ, List.replicate_zero, List.set_cons_zero, List.set_cons_succ, eq_self, true_or, ne_eq, not_false_eq_true, Nat.reduceEqDiff]
      exact hgv _ _ _ _ rfl
    · rw [h2]
      simp only [decide_true, decide_false, gwL, gwB, gwD, gwE, gwS, gwTT, gwZ, initG, Nat.reduceEqDiff, ↓reduceIte, Nat.reduceAdd, Nat.reduceLT, Nat.reduceLeDiff, List.map_cons, List.map_nil, builtS, builtinV, pureR, binV, sliceV, pickV, evO, Env.look, find, V.ofConst, resV, resOne, tupV, loadV, fillV, buildV, mkIface, litM, litS, litR, litRows, List.reverse_cons, List.reverse_nil, Nat.reduceMul, appS, memA, appendV, rowsOf, V.cells, TI.sized, TI.known, TI.agg, anL, List.length_cons, List.length_nil, List.append_nil, List.cons_append, List.nil_append, List.drop_succ_cons, List.drop_zero, List.drop_nil, List.take_succ_cons, List.take_zero, List.take_nil, List.getElem?_cons_zero, List.getElem?_cons_succ, List.all_cons, List.all_nil, List.replicate_succ, List.replicate_zero, List.set_cons_zero, List.set_cons_succ, eq_self, true_or, ne_eq, not_false_eq_true, Nat.reduceEqDiff]
      exact hgv _ _ _ _ rfl
  rw [h1]
  simp only [decide_true, decide_false, gwL, gwB, gwD, gwE, gwS, gwTT, gwZ, initG, Nat.reduceEqDiff, ↓reduceIte, Nat.reduceAdd, Nat.reduceLT, Nat.reduceLeDiff, List.map_cons, List.map_nil, builtS, builtinV, pureR, binV, sliceV, pickV, evO, Env.look, find, V.ofConst, resV, resOne, tupV, loadV, fillV, buildV, mkIface, litM, litS, litR, litRows, List.reverse_cons, List.reverse_nil, Nat.reduceMul, appS, memA, appendV, rowsOf, V.cells, TI.sized, TI.known, TI.agg, anL, List.length_cons, List.length_nil, List.append_nil, List.cons_append, List.nil_append, List.drop_succ_cons, List.drop_zero, List.drop_nil, List.take_succ_cons, List.take_zero, List.take_nil, List.getElem?_cons_zero, List.getElem?_cons_succ, List.all_cons, List.all_nil, List.replicate_succ, List.replicate_zero, List.set_cons_zero, List.set_cons_succ, eq_self, true_or, ne_eq, not_false_eq_true, Nat.reduceEqDiff]
  refine iK_split (fun h2 => ?_) (fun h2 => ?_)
  · rw [h2]
    simp only [decide_true, decide_false, gwL, gwB, gwD, gwE, gwS, gwTT, gwZ, initG, Nat.reduceEqDiff, ↓reduceIte, Nat.reduceAdd, Nat.reduceLT, Nat.reduceLeDiff, List.map_cons, List.map_nil, builtS, builtinV, pureR, binV, sliceV, pickV, evO, Env.look, find, V.ofConst, resV, resOne, tupV, loadV, fillV, buildV, mkIface, litM, litS, litR, litRows, List.reverse_cons, List.reverse_nil, Nat.reduceMul, appS, memA, appendV, rowsOf, V.cells, TI.sized, TI.known, TI.agg, anL, List.length_cons, List.length_nil, List.append_nil, List.cons_append, List.nil_append, List.drop_succ_cons, List.drop_zero, List.drop_nil, List.take_succ_cons, List.take_zero, List.take_nil, List.getElem?_cons_zero, List.getElem?_cons_succ, List.all_cons, List.all_nil, List.replicate_succ, List.replicate_zero, List.set_cons_zero, List.set_cons_succ, eq_self, true_or, ne_eq, not_false_eq_true, Nat.reduceEqDiff]
    refine iK_split (fun h3 => ?_) (fun h3 => ?_)
    · rw [or_no h3]
      simp only [decide_true, decide_false, gwL, gwB, gwD, gwE, gwS, gwTT, gwZ, initG, Nat.reduceEqDiff, ↓reduceIte, Nat.reduceAdd, Nat.reduceLT, Nat.reduceLeDiff, List.map_cons, List.map_nil, builtS, builtinV, pureR, binV, sliceV, pickV, evO, Env.look, find, V.ofConst, resV, resOne, tupV, loadV, fillV, buildV, mkIface, litM, litS, litR, litRows, List.reverse_cons, List.reverse_nil, Nat.reduceMul, appS, memA, appendV, rowsOf, V.cells, TI.sized, TI.known, TI.agg, anL, List.length_cons, List.length_nil, List.append_nil, List.cons_append, List.nil_append, List.drop_succ_cons, List.drop_zero, List.drop_nil, List.take_succ_cons, List.take_zero, List.take_nil, List.getElem?_cons_zero, List.getElem?_cons_succ, List.all_cons, List.all_nil, List.replicate_succ, List.replicate_zero, List.set_cons_zero, List.set_cons_succ, eq_self, true_or, ne_eq, not_false_eq_true, Nat.reduceEqDiff]
      exact hgv _ _ _ _ rfl
    · rw [or_yes h3]
      simp only [decide_true, decide_false, gwL, gwB, gwD, gwE, gwS, gwTT, gwZ, initG, Nat.reduceEqDiff, ↓reduceIte, Nat.reduceAdd, Nat.reduceLT, Nat.reduceLeDiff, List.map_cons, List.map_nil, builtS, builtinV, pureR, binV, sliceV, pickV, evO, Env.look, find, V.ofConst, resV, resOne, tupV, loadV, fillV, buildV, mkIface, litM, litS, litR, litRows, List.reverse_cons, List.reverse_nil, Nat.reduceMul, appS, memA, appendV, rowsOf, V.cells, TI.sized, TI.known, TI.agg, anL, List.length_cons, List.length_nil, List.append_nil, List.cons_append, List.nil_append, List.drop_succ_cons, List.drop_zero, List.drop_nil, List.take_succ_cons, List.take_zero, List.take_nil, List.getElem?_cons_zero, List.getElem?_cons_succ, List.all_cons, List.all_nil, List.replicate_succ, List.replicate_zero, List.set_cons_zero, List.set_cons_succ, eq_self, true_or, ne_eq, not_false_eq_true, Nat.reduceEqDiff]
      exact hgv _ _ _ _ rfl
  rw [h2]
  simp only [decide_true, decide_false, gwL, gwB, gwD, gwE, gwS, gwTT, gwZ, initG, Nat.reduceEqDiff, ↓reduceIte, Nat.reduceAdd, Nat.reduceLT, Nat.reduceLeDiff, List.map_cons, List.map_nil, builtS, builtinV, pureR, binV, sliceV, pickV, evO, Env.look, find, V.ofConst, resV, resOne, tupV, loadV, fillV, buildV, mkIface, litM, litS, litR, litRows, List.reverse_cons, List.reverse_nil, Nat.reduceMul, appS, memA, appendV, rowsOf, V.cells, TI.sized, TI.known, TI.agg, anL, List.length_cons, List.length_nil, List.append_nil, List.cons_append, List.nil_append, List.drop_succ_cons, List.drop_zero, List.drop_nil, List.take_succ_cons, List.take_zero, List.take_nil, List.getElem?_cons_zero, List.getElem?_cons_succ, List.all_cons, List.all_nil, List.replicate_succ, List.replicate_zero, List.set_cons_zero, List.set_cons_succ, eq_self, true_or, ne_eq, not_false_eq_true, Nat.reduceEqDiff]
  refine iK_split (fun h3 => ?_) (fun h3 => ?_)
  · rw [h3]
    simp only [decide_true, decide_false, gwL, gwB, gwD, gwE, gwS, gwTT, gwZ, initG, Nat.reduceEqDiff, ↓reduceIte, Nat.reduceAdd, Nat.reduceLT, Nat.reduceLeDiff, List.map_cons, List.map_nil, builtS, builtinV, pureR, binV, sliceV, pickV, evO, Env.look, find, V.ofConst, resV, resOne, tupV, loadV, fillV, buildV, mkIface, litM, litS, litR, litRows, List.reverse_cons, List.reverse_nil, Nat.reduceMul, appS, memA, appendV, rowsOf, V.cells, TI.sized, TI.known, TI.agg, anL, List.length_cons, List.length_nil, List.append_nil, List.cons_append, List.nil_append, List.drop_succ_cons, List.drop_zero, List.drop_nil, List.take_succ_cons, List.take_zero, List.take_nil, List.getElem?_cons_zero, List.getElem?_cons_succ, List.all_cons, List.all_nil, List.replicate_succ, List.replicate_zero, List.set_cons_zero, List.set_cons_succ, eq_self, true_or, ne_eq, not_false_eq_true, Nat.reduceEqDiff]
    refine (c_text_Named _ nm).use (wkL_refl _) fun _ => ?_
    simp only [decide_true, decide_false, gwL, gwB, gwD, gwE, gwS, gwTT, gwZ, initG, Nat.reduceEqDiff, ↓reduceIte, Nat.reduceAdd, Nat.reduceLT, Nat.reduceLeDiff, List.map_cons, List.map_nil, builtS, builtinV, pureR, binV, sliceV, pickV, evO, Env.look, find, V.ofConst, resV, resOne, tupV, loadV, fillV, buildV, mkIface, litM, litS, litR, litRows, List.reverse_cons, List.reverse_nil, Nat.reduceMul, appS, memA, appendV, rowsOf, V.cells, TI.sized, TI.known, TI.agg, anL, List.length_cons, List.length_nil, List.append_nil, List.cons_append, List.nil_append, List.drop_succ_cons, List.drop_zero, List.drop_nil, List.take_succ_cons, List.take_zero, List.take_nil, List.getElem?_cons_zero, List.getElem?_cons_succ, List.all_cons, List.all_nil, List.replicate_succ, List.replicate_zero, List.set_cons_zero, List.set_cons_succ, eq_self, true_or, ne_eq, not_false_eq_true, Nat.reduceEqDiff]
    refine iK_split (fun h4 => ?_) (fun h4 => ?_)
    · rw [h4]
      simp only [decide_true, decide_false, gwL, gwB, gwD, gwE, gwS, gwTT, gwZ, initG, Nat.reduceEqDiff, ↓reduceIte, Nat.reduceAdd, Nat.reduceLT, Nat.reduceLeDiff, List.map_cons, List.map_nil, builtS, builtinV, pureR, binV, sliceV, pickV, evO, Env.look, find, V.ofConst, resV, resOne, tupV, loadV, fillV, buildV, mkIface, litM, litS, litR, litRows, List.reverse_cons, List.reverse_nil, Nat.reduceMul, appS, memA, appendV, rowsOf, V.cells, TI.sized, TI.known, TI.agg, anL, List.length_cons, List.length_nil, List.append_nil, List.cons_append, List.nil_append, List.drop_succ_cons, List.drop_zero, List.drop_nil, List.take_succ_cons, List.take_zero, List.take_nil, List.getElem?_cons_zero, List.getElem?_cons_succ, List.all_cons, List.all_nil, List.replicate_succ, List.replicate_zero, List.set_cons_zero, List.set_cons_succ, eq_self, true_or, ne_eq, not_false_eq_true, Nat.reduceEqDiff]
      exact hgv _ _ _ _ rfl
    rw [h4]
    simp only [decide_true, decide_false, gwL, gwB, gwD, gwE, gwS, gwTT, gwZ, initG, Nat.reduceEqDiff, ↓reduceIte, Nat.reduceAdd, Nat.reduceLT, Nat.reduceLeDiff, List.map_cons, List.map_nil, builtS, builtinV, pureR, binV, sliceV, pickV, evO, Env.look, find, V.ofConst, resV, resOne, tupV, loadV, fillV, buildV, mkIface, litM, litS, litR, litRows, List.reverse_cons, List.reverse_nil, Nat.reduceMul, appS, memA, appendV, rowsOf, V.cells, TI.sized, TI.known, TI.agg, anL, List.length_cons, List.length_nil, List.append_nil, List.cons_append, List.nil_append, List.drop_succ_cons, List.drop_zero, List.drop_nil, List.take_succ_cons, List.take_zero, List.take_nil, List.getElem?_cons_zero, List.getElem?_cons_succ, List.all_cons, List.all_nil, List.replicate_succ, List.replicate_zero, List.set_cons_zero, List.set_cons_succ, eq_self, true_or, ne_eq, not_false_eq_true, Nat.reduceEqDiff]
    refine iK_split (fun h5 => ?_) (fun h5 => ?_)
    · rw [and_no h5]
      simp only [decide_true, decide_false, gwL, gwB, gwD, gwE, gwS, gwTT, gwZ, initG, Nat.reduceEqDiff, ↓reduceIte, Nat.reduceAdd, Nat.reduceLT, Nat.reduceLeDiff, List.map_cons, List.map_nil, builtS, builtinV, pureR, binV, sliceV, pickV, evO, Env.look, find, V.ofConst, resV, resOne, tupV, loadV, fillV, buildV, mkIface, litM, litS, litR, litRows, List.reverse_cons, List.reverse_nil, Nat.reduceMul, appS, memA, appendV, rowsOf, V.cells, TI.sized, TI.known, TI.agg, anL, List.length_cons, List.length_nil, List.append_nil, List.cons_append, List.nil_append, List.drop_succ_cons, List.drop_zero, List.drop_nil, List.take_succ_cons, List.take_zero, List.take_nil, List.getElem?_cons_zero, List.getElem?_cons_succ, List.all_cons, List.all_nil, List.replicate_succ, List.replicate_zero, List.set_cons_zero, List.set_cons_succ, eq_self, true_or, ne_eq, not_false_eq_true, Nat.reduceEqDiff]
      exact hgv _ _ _ _ rfl
    · rw [and_yes h5]
      simp only [decide_true, decide_false, gwL, gwB, gwD, gwE, gwS, gwTT, gwZ, initG, Nat.reduceEqDiff, ↓reduceIte, Nat.reduceAdd, Nat.reduceLT, Nat.reduceLeDiff, List.map_cons, List.map_nil, builtS, builtinV, pureR, binV, sliceV, pickV, evO, Env.look, find, V.ofConst, resV, resOne, tupV, loadV, fillV, buildV, mkIface, litM, litS, litR, litRows, List.reverse_cons, List.reverse_nil, Nat.reduceMul, appS, memA, appendV, rowsOf, V.cells, TI.sized, TI.known, TI.agg, anL, List.length_cons, List.length_nil, List.append_nil, List.cons_append, List.nil_append, List.drop_succ_cons, List.drop_zero, List.drop_nil, List.take_succ_cons, List.take_zero, List.take_nil, List.getElem?_cons_zero, List.getElem?_cons_succ, List.all_cons, List.all_nil, List.replicate_succ, List.replicate_zero, List.set_cons_zero, List.set_cons_succ, eq_self, true_or, ne_eq, not_false_eq_true, Nat.reduceEqDiff]
      exact hgv _ _ _ _ rfl
  rw [h3]
  simp only [decide_true, decide_false, gwL, gwB, gwD, gwE, gwS, gwTT, gwZ, initG, Nat.reduceEqDiff, ↓reduceIte, Nat.reduceAdd, Nat.reduceLT, Nat.reduceLeDiff, List.map_cons, List.map_nil, builtS, builtinV, pureR, binV, sliceV, pickV, evO, Env.look, find, V.ofConst, resV, resOne, tupV, loadV, fillV, buildV, mkIface, litM, litS, litR, litRows, List.reverse_cons, List.reverse_nil, Nat.reduceMul, appS, memA, appendV, rowsOf, V.cells, TI.sized, TI.known, TI.agg, anL, List.length_cons, List.length_nil, List.append_nil, List.cons_append, List.nil_append, List.drop_succ_cons, List.drop_zero, List.drop_nil, List.take_succ_cons, List.take_zero, List.take_nil, List.getElem?_cons_zero, List.getElem?_cons_succ, List.all_cons, List.all_nil, List.replicate_succ, List.replicate_zero, List.set_cons_zero, List.set_cons_succ, eq_self, true_or, ne_eq, not_false_eq_true, Nat.reduceEqDiff]
  refine iK_split (fun h4 => ?_) (fun h4 => ?_)
  · rw [h4]
    simp only [decide_true, decide_false, gwL, gwB, gwD, gwE, gwS, gwTT, gwZ, initG, Nat.reduceEqDiff, ↓reduceIte, Nat.reduceAdd, Nat.reduceLT, Nat.reduceLeDiff, List.map_cons, List.map_nil, builtS, builtinV, pureR, binV, sliceV, pickV, evO, Env.look, find, V.ofConst, resV, resOne, tupV, loadV, fillV, buildV, mkIface, litM, litS, litR, litRows, List.reverse_cons, List.reverse_nil, Nat.reduceMul, appS, memA, appendV, rowsOf, V.cells, TI.sized, TI.known, TI.agg, anL, List.length_cons, List.length_nil, List.append_nil, List.cons_append, List.nil_append, List.drop_succ_cons, List.drop_zero, List.drop_nil, List.take_succ_cons, List.take_zero, List.take_nil, List.getElem?_cons_zero, List.getElem?_cons_succ, List.all_cons, List.all_nil, List.replicate_succ, List.replicate_zero, List.set_cons_zero, List.set_cons_succ, eq_self, true_or, ne_eq, not_false_eq_true, Nat.reduceEqDiff, List.length_map]
    simp only [encD_mk, fitL, V.fit, List.length_map] at hf
    have hkl : kids.length ≤ 9223372036854775807 := by simp at hf; omega
    refine vfor (σ := Nat × Int) [0, 1, 2, 6, 83, 84] (fun x => [(0, true, .ptr o 0), (1, true, .ref (encD (.mk k n nm s l kids))), (2, true, .int .i64 deep), (6, true, .int .i64 0), (83, true, .int .i64 kids.length), (84, true, .int .i64 x.1)]) (fun x => st.set o (.box [.int .i64 x.2])) (fun x => kids.length - x.1) (fun x => x.1 ≤ kids.length ∧ 0 ≤ x.2 ∧ x.2 ≤ 2000 ∧ shapeDs kids (deep + 1) (c + 1) = shapeDs (kids.drop x.1) (deep + 1) x.2) (0, c + 1) rfl TT_ok ⟨Nat.zero_le _, by omega, by omega, rfl⟩ (by rw [encD_mk]; rfl) rfl ?_
    rintro ⟨i, ci⟩ ⟨hi, hc0, hc1, hx⟩
    simp only at hi hc0 hc1 hx
    rw [hx]
    simp only [encD_mk]
    rcases at_or_end kids i hi with ⟨rfl, hd⟩ | ⟨a, hlt2, hget, hdr⟩
    · simp only [decide_true, decide_false, gwL, gwB, gwD, gwE, gwS, gwTT, gwZ, initG, Nat.reduceEqDiff, ↓reduceIte, Nat.reduceAdd, Nat.reduceLT, Nat.reduceLeDiff, List.map_cons, List.map_nil, builtS, builtinV, pureR, binV, sliceV, pickV, evO, Env.look, find, V.ofConst, resV, resOne, tupV, loadV, fillV, buildV, mkIface, litM, litS, litR, litRows, List.reverse_cons, List.reverse_nil, Nat.reduceMul, appS, memA, appendV, rowsOf, V.cells, TI.sized, TI.known, TI.agg, anL, List.length_cons, List.length_nil, List.append_nil, List.cons_append, List.nil_append, List.drop_succ_cons, List.drop_zero, List.drop_nil, List.take_succ_cons, List.take_zero, List.take_nil, List.getElem?_cons_zero, List.getElem?_cons_succ, List.all_cons, List.all_nil, List.replicate_succ, List.replicate_zero, List.set_cons_zero, List.set_cons_succ, eq_self, true_or, ne_eq, not_false_eq_true, Nat.reduceEqDiff, lt_no, hd, shapeDs]
      exact hgv _ _ _ _ rfl
    · simp only [decide_true, decide_false, gwL, gwB, gwD, gwE, gwS, gwTT, gwZ, initG, Nat.reduceEqDiff, ↓reduceIte, Nat.reduceAdd, Nat.reduceLT, Nat.reduceLeDiff, List.map_cons, List.map_nil, builtS, builtinV, pureR, binV, sliceV, pickV, evO, Env.look, find, V.ofConst, resV, resOne, tupV, loadV, fillV, buildV, mkIface, litM, litS, litR, litRows, List.reverse_cons, List.reverse_nil, Nat.reduceMul, appS, memA, appendV, rowsOf, V.cells, TI.sized, TI.known, TI.agg, anL, List.length_cons, List.length_nil, List.append_nil, List.cons_append, List.nil_append, List.drop_succ_cons, List.drop_zero, List.drop_nil, List.take_succ_cons, List.take_zero, List.take_nil, List.getElem?_cons_zero, List.getElem?_cons_succ, List.all_cons, List.all_nil, List.replicate_succ, List.replicate_zero, List.set_cons_zero, List.set_cons_succ, eq_self, true_or, ne_eq, not_false_eq_true, Nat.reduceEqDiff, lt_yes hlt2, hdr, shapeDs, List.length_map, getD_map hget, Int.ofNat_lt.mpr hlt2, wrap_i64 (show -9223372036854775808 ≤ deep + 1 by omega) (show deep + 1 ≤ 9223372036854775807 by omega)]
      refine (ih a (List.mem_of_getElem? hget) (st.set o (.box [.int .i64 ci])) o ci (deep + 1) (hset ci) hc0 hc1 (by omega) (by omega)).use (wkL_refl _) fun _ => ?_
      simp only [decide_true, decide_false, gwL, gwB, gwD, gwE, gwS, gwTT, gwZ, initG, Nat.reduceEqDiff, ↓reduceIte, Nat.reduceAdd, Nat.reduceLT, Nat.reduceLeDiff, List.map_cons, List.map_nil, builtS, builtinV, pureR, binV, sliceV, pickV, evO, Env.look, find, V.ofConst, resV, resOne, tupV, loadV, fillV, buildV, mkIface, litM, litS, litR, litRows, List.reverse_cons, List.reverse_nil, Nat.reduceMul, appS, memA, appendV, rowsOf, V.cells, TI.sized, TI.known, TI.agg, anL, List.length_cons, List.length_nil, List.append_nil, List.cons_append, List.nil_append, List.drop_succ_cons, List.drop_zero, List.drop_nil, List.take_succ_cons, List.take_zero, List.take_nil, List.getElem?_cons_zero, List.getElem?_cons_succ, List.all_cons, List.all_nil, List.replicate_succ, List.replicate_zero, List.set_cons_zero, List.set_cons_succ, eq_self, true_or, ne_eq, not_false_eq_true, Nat.reduceEqDiff, List.set_set]
      refine iK_split (fun h5 => ?_) (fun h5 => ?_)
      · rw [not_yes h5]
        simp only [decide_true, decide_false, gwL, gwB, gwD, gwE, gwS, gwTT, gwZ, initG, Nat.reduceEqDiff, ↓reduceIte, Nat.reduceAdd, Nat.reduceLT, Nat.reduceLeDiff, List.map_cons, List.map_nil, builtS, builtinV, pureR, binV, sliceV, pickV, evO, Env.look, find, V.ofConst, resV, resOne, tupV, loadV, fillV, buildV, mkIface, litM, litS, litR, litRows, List.reverse_cons, List.reverse_nil, Nat.reduceMul, appS, memA, appendV, rowsOf, V.cells, TI.sized, TI.known, TI.agg, anL, List.length_cons, List.length_nil, List.append_nil, List.cons_append, List.nil_append, List.drop_succ_cons, List.drop_zero, List.drop_nil, List.take_succ_cons, List.take_zero, List.take_nil, List.getElem?_cons_zero, List.getElem?_cons_succ, List.all_cons, List.all_nil, List.replicate_succ, List.replicate_zero, List.set_cons_zero, List.set_cons_succ, eq_self, true_or, ne_eq, not_false_eq_true, Nat.reduceEqDiff]
        exact hgv _ _ _ _ rfl
      · have h6 : decide ((shapeD a (deep + 1) ci).1 = 0) = true := by simpa using h5
        have h7 := shapeD_ok a (deep + 1) ci hc0 (of_decide_eq_true h6)
        rw [h6]
        simp only [decide_true, decide_false, gwL, gwB, gwD, gwE, gwS, gwTT, gwZ, initG, Nat.reduceEqDiff, ↓reduceIte, Nat.reduceAdd, Nat.reduceLT, Nat.reduceLeDiff, List.map_cons, List.map_nil, builtS, builtinV, pureR, binV, sliceV, pickV, evO, Env.look, find, V.ofConst, resV, resOne, tupV, loadV, fillV, buildV, mkIface, litM, litS, litR, litRows, List.reverse_cons, List.reverse_nil, Nat.reduceMul, appS, memA, appendV, rowsOf, V.cells, TI.sized, TI.known, TI.agg, anL, List.length_cons, List.length_nil, List.append_nil, List.cons_append, List.nil_append, List.drop_succ_cons, List.drop_zero, List.drop_nil, List.take_succ_cons, List.take_zero, List.take_nil, List.getElem?_cons_zero, List.getElem?_cons_succ, List.all_cons, List.all_nil, List.replicate_succ, List.replicate_zero, List.set_cons_zero, List.set_cons_succ, eq_self, true_or, ne_eq, not_false_eq_true, Nat.reduceEqDiff, Env.keep]
        exact ⟨(i + 1, (shapeD a (deep + 1) ci).2), by rw [next_i64 hlt2 hkl], rfl, by simp only; omega, by simp only; omega, by simp only; omega, h7.2, rfl⟩
  · rw [h4]
    simp only [decide_true, decide_false, gwL, gwB, gwD, gwE, gwS, gwTT, gwZ, initG, Nat.reduceEqDiff, ↓reduceIte, Nat.reduceAdd, Nat.reduceLT, Nat.reduceLeDiff, List.map_cons, List.map_nil, builtS, builtinV, pureR, binV, sliceV, pickV, evO, Env.look, find, V.ofConst, resV, resOne, tupV, loadV, fillV, buildV, mkIface, litM, litS, litR, litRows, List.reverse_cons, List.reverse_nil, Nat.reduceMul, appS, memA, appendV, rowsOf, V.cells, TI.sized, TI.known, TI.agg, anL, List.length_cons, List.length_nil, List.append_nil, List.cons_append, List.nil_append, List.drop_succ_cons, List.drop_zero, List.drop_nil, List.take_succ_cons, List.take_zero, List.take_nil, List.getElem?_cons_zero, List.getElem?_cons_succ, List.all_cons, List.all_nil, List.replicate_succ, List.replicate_zero, List.set_cons_zero, List.set_cons_succ, eq_self, true_or, ne_eq, not_false_eq_true, Nat.reduceEqDiff]
    exact hgv _ _ _ _ rfl
end Go.Proofs.Ytpfdoffnpkokhaa.Gx

namespace Go.Proofs.Ytpfdoffnpkokhaa.Gx
open Go Go.Proofs.Ytpfdoffnpkokhaa.Gw
set_option linter.unusedSimpArgs false

def fltV (f : Int × Int) : V := .agg [.int .i64 f.1, .int .i64 f.2]
/-- What is wrong with data, and with which. -/
def wrongL : List Datum → Nat → Int → Int × Int
  | [], _, _ => (0, 0)
  | d :: r, i, c => bif decide ((shapeD d 1 c).1 = 0) then wrongL r (i + 1) (shapeD d 1 c).2 else ((shapeD d 1 c).1, (i : Int))
def lstD (l : List Datum) : V := .lst 6 none (l.map encD)

theorem c_text_Wrong (st : St) (l : List Datum) : VCalls Try.prog TT 31 [lstD l] st fun r st' => r = .ret (fltV (wrongL l 0 0)) ∧ st' = st := by
  refine vfun TT_ok (an := anL []) (L := [0, 2, 3, 4, 5, 9, 10]) (rs := [.cell 2 50]) Try.func31 rfl (by kernel_rfl) rfl Try.ntmps31 rfl rfl (Nat.le_refl _) fun hst ha hf => ?_
  simp only [lstD, fltV, fitL, V.fit, List.length_map] at hf ⊢
  have hkl : l.length ≤ 9223372036854775807 := by simp at hf; omega
  simp only [decide_true, decide_false, gwL, gwB, gwD, gwE, gwS, gwTT, gwZ, initG, Nat.reduceEqDiff, ↓reduceIte, Nat.reduceAdd, Nat.reduceLT, Nat.reduceLeDiff, List.map_cons, List.map_nil, builtS, builtinV, pureR, binV, sliceV, pickV, evO, Env.look, find, V.ofConst, resV, resOne, tupV, loadV, fillV, buildV, mkIface, litM, litS, litR, litRows, List.reverse_cons, List.reverse_nil, Nat.reduceMul, appS, memA, appendV, rowsOf, V.cells, TI.sized, TI.known, TI.agg, anL, List.length_cons, List.length_nil, List.append_nil, List.cons_append, List.nil_append, List.drop_succ_cons, List.drop_zero, List.drop_nil, List.take_succ_cons, List.take_zero, List.take_nil, List.getElem?_cons_zero, List.getElem?_cons_succ, List.all_cons, List.all_nil, List.replicate_succ, List.replicate_zero, List.set_cons_zero, List.set_cons_succ, eq_self, true_or, ne_eq, not_false_eq_true, Nat.reduceEqDiff, List.length_map]
  refine vfor (σ := Nat × Int) [0, 2, 3, 9, 10] (fun x => [(0, true, lstD l), (2, true, .ptr st.length 0), (3, true, .ptr (st.length + 1) 0), (9, true, .int .i64 l.length), (10, true, .int .i64 x.1)]) (fun x => st ++ [.box [.int .i64 0, .int .i64 0], .box [.int .i64 x.2]]) (fun x => l.length - x.1) (fun x => x.1 ≤ l.length ∧ 0 ≤ x.2 ∧ x.2 ≤ 2000 ∧ wrongL l 0 0 = wrongL (l.drop x.1) x.1 x.2) (0, 0) rfl TT_ok ⟨Nat.zero_le _, by omega, by omega, rfl⟩ rfl rfl ?_
  rintro ⟨i, c⟩ ⟨hi, hc0, hc1, hx⟩
  simp only at hi hc0 hc1 hx
  rw [hx]
  simp only [lstD]
  rcases at_or_end l i hi with ⟨rfl, hd⟩ | ⟨a, hlt, hget, hdr⟩
  · simp only [decide_true, decide_false, gwL, gwB, gwD, gwE, gwS, gwTT, gwZ, initG, Nat.reduceEqDiff, ↓reduceIte, Nat.reduceAdd, Nat.reduceLT, Nat.reduceLeDiff, List.map_cons, List.map_nil, builtS, builtinV, pureR, binV, sliceV, pickV, evO, Env.look, find, V.ofConst, resV, resOne, tupV, loadV, fillV, buildV, mkIface, litM, litS, litR, litRows, List.reverse_cons, List.reverse_nil, Nat.reduceMul, appS, memA, appendV, rowsOf, V.cells, TI.sized, TI.known, TI.agg, anL, List.length_cons, List.length_nil, List.append_nil, List.cons_append, List.nil_append, List.drop_succ_cons, List.drop_zero, List.drop_nil, List.take_succ_cons, List.take_zero, List.take_nil, List.getElem?_cons_zero, List.getElem?_cons_succ, List.all_cons, List.all_nil, List.replicate_succ, List.replicate_zero, List.set_cons_zero, List.set_cons_succ, eq_self, true_or, ne_eq, not_false_eq_true, Nat.reduceEqDiff, lt_no, hd, wrongL]
    exact gives_of (wk_refl _) (wkSt_refl _) (by simp [V.lt, ltL]) hst
  · simp only [decide_true, decide_false, gwL, gwB, gwD, gwE, gwS, gwTT, gwZ, initG, Nat.reduceEqDiff, ↓reduceIte, Nat.reduceAdd, Nat.reduceLT, Nat.reduceLeDiff, List.map_cons, List.map_nil, builtS, builtinV, pureR, binV, sliceV, pickV, evO, Env.look, find, V.ofConst, resV, resOne, tupV, loadV, fillV, buildV, mkIface, litM, litS, litR, litRows, List.reverse_cons, List.reverse_nil, Nat.reduceMul, appS, memA, appendV, rowsOf, V.cells, TI.sized, TI.known, TI.agg, anL, List.length_cons, List.length_nil, List.append_nil, List.cons_append, List.nil_append, List.drop_succ_cons, List.drop_zero, List.drop_nil, List.take_succ_cons, List.take_zero, List.take_nil, List.getElem?_cons_zero, List.getElem?_cons_succ, List.all_cons, List.all_nil, List.replicate_succ, List.replicate_zero, List.set_cons_zero, List.set_cons_succ, eq_self, true_or, ne_eq, not_false_eq_true, Nat.reduceEqDiff, lt_yes hlt, hdr, wrongL, List.length_map, getD_map hget, Int.ofNat_lt.mpr hlt]
    refine (c_shape a (st ++ [.box [.int .i64 0, .int .i64 0], .box [.int .i64 c]]) (st.length + 1) c 1 (by simp only [gwL]) hc0 hc1 (by omega) (by omega)).use (wkL_refl _) fun _ => ?_
    simp only [decide_true, decide_false, gwL, gwB, gwD, gwE, gwS, gwTT, gwZ, initG, Nat.reduceEqDiff, ↓reduceIte, Nat.reduceAdd, Nat.reduceLT, Nat.reduceLeDiff, List.map_cons, List.map_nil, builtS, builtinV, pureR, binV, sliceV, pickV, evO, Env.look, find, V.ofConst, resV, resOne, tupV, loadV, fillV, buildV, mkIface, litM, litS, litR, litRows, List.reverse_cons, List.reverse_nil, Nat.reduceMul, appS, memA, appendV, rowsOf, V.cells, TI.sized, TI.known, TI.agg, anL, List.length_cons, List.length_nil, List.append_nil, List.cons_append, List.nil_append, List.drop_succ_cons, List.drop_zero, List.drop_nil, List.take_succ_cons, List.take_zero, List.take_nil, List.getElem?_cons_zero, List.getElem?_cons_succ, List.all_cons, List.all_nil, List.replicate_succ, List.replicate_zero, List.set_cons_zero, List.set_cons_succ, eq_self, true_or, ne_eq, not_false_eq_true, Nat.reduceEqDiff]
    refine iK_split (fun h5 => ?_) (fun h5 => ?_)
    · rw [not_yes h5]
      simp only [decide_true, decide_false, gwL, gwB, gwD, gwE, gwS, gwTT, gwZ, initG, Nat.reduceEqDiff, ↓reduceIte, Nat.reduceAdd, Nat.reduceLT, Nat.reduceLeDiff, List.map_cons, List.map_nil, builtS, builtinV, pureR, binV, sliceV, pickV, evO, Env.look, find, V.ofConst, resV, resOne, tupV, loadV, fillV, buildV, mkIface, litM, litS, litR, litRows, List.reverse_cons, List.reverse_nil, Nat.reduceMul, appS, memA, appendV, rowsOf, V.cells, TI.sized, TI.known, TI.agg, anL, List.length_cons, List.length_nil, List.append_nil, List.cons_append, List.nil_append, List.drop_succ_cons, List.drop_zero, List.drop_nil, List.take_succ_cons, List.take_zero, List.take_nil, List.getElem?_cons_zero, List.getElem?_cons_succ, List.all_cons, List.all_nil, List.replicate_succ, List.replicate_zero, List.set_cons_zero, List.set_cons_succ, eq_self, true_or, ne_eq, not_false_eq_true, Nat.reduceEqDiff]
      exact gives_of (wk_refl _) (wkSt_refl _) (by simp [V.lt, ltL]) hst
    · have h6 : decide ((shapeD a 1 c).1 = 0) = true := by simpa using h5
      have h7 := shapeD_ok a 1 c hc0 (of_decide_eq_true h6)
      rw [h6]
      simp only [decide_true, decide_false, gwL, gwB, gwD, gwE, gwS, gwTT, gwZ, initG, Nat.reduceEqDiff, ↓reduceIte, Nat.reduceAdd, Nat.reduceLT, Nat.reduceLeDiff, List.map_cons, List.map_nil, builtS, builtinV, pureR, binV, sliceV, pickV, evO, Env.look, find, V.ofConst, resV, resOne, tupV, loadV, fillV, buildV, mkIface, litM, litS, litR, litRows, List.reverse_cons, List.reverse_nil, Nat.reduceMul, appS, memA, appendV, rowsOf, V.cells, TI.sized, TI.known, TI.agg, anL, List.length_cons, List.length_nil, List.append_nil, List.cons_append, List.nil_append, List.drop_succ_cons, List.drop_zero, List.drop_nil, List.take_succ_cons, List.take_zero, List.take_nil, List.getElem?_cons_zero, List.getElem?_cons_succ, List.all_cons, List.all_nil, List.replicate_succ, List.replicate_zero, List.set_cons_zero, List.set_cons_succ, eq_self, true_or, ne_eq, not_false_eq_true, Nat.reduceEqDiff, Env.keep]
      exact ⟨(i + 1, (shapeD a 1 c).2), by rw [next_i64 hlt hkl], rfl, by simp only; omega, by simp only; omega, by simp only; omega, h7.2, rfl⟩

theorem encD_take (d : Datum) : (encD d).take 6 = encD d := List.take_of_length_le (by rw [encD_len]; exact Nat.le_refl _)
theorem encD_drop (d : Datum) : (encD d).drop 6 = [] := List.drop_of_length_le (by rw [encD_len]; exact Nat.le_refl _)
theorem lt_box {st : St} {o : Nat} {k : IntKind} {c : Int} (hst : St.ok st) : St.ok (st.set o (.box [.int k c])) := by
  intro e he
  rw [List.length_set]
  rcases List.mem_or_eq_of_mem_set he with h | rfl
  · exact hst e h
  · simp [Ent.lt, ltL, V.lt]
theorem or_lt {n : Int} : (decide (n < -1000000000000000) || decide (1000000000000000 < n)) = (decide (1000000000000000 < n) || decide (n < -1000000000000000)) := Bool.or_comm _ _
theorem or_bit {n : Int} : (decide (n < 0) || decide (1 < n)) = !(decide (n = 0) || decide (n = 1)) := by
  by_cases h0 : n = 0
  · subst h0; rfl
  · by_cases h1 : n = 1
    · subst h1; rfl
    · simp [h0, h1]; omega

theorem c_Shape (d : Datum) : ∀ (st : St) (o : Nat) (c deep : Int), st[o]? = some (.box [.int .i64 c]) → 0 ≤ c → c ≤ 2000 → 0 ≤ deep → deep ≤ 41 →
    VCalls Try.prog TT 38 [.agg (encD d), .int .i64 deep, .ptr o 0] st fun r st' => r = .ret (.int .i64 (shapeD d deep c).1) ∧ st' = st.set o (.box [.int .i64 (shapeD d deep c).2]) := by
  refine Datum.ind (p := fun d => ∀ (st : St) (o : Nat) (c deep : Int), st[o]? = some (.box [.int .i64 c]) → 0 ≤ c → c ≤ 2000 → 0 ≤ deep → deep ≤ 41 →
    VCalls Try.prog TT 38 [.agg (encD d), .int .i64 deep, .ptr o 0] st fun r st' => r = .ret (.int .i64 (shapeD d deep c).1) ∧ st' = st.set o (.box [.int .i64 (shapeD d deep c).2])) ?_ d
  intro k n nm s l kids ih st o c deep ho h0 h1 h2 h3
  refine vfun TT_ok (an := anL [(3, 1)]) (L := [0, 1, 2, 3, 6, 8, 9, 25, 63, 64, 65]) (rs := [.tmp 6]) Try.func38 rfl (by kernel_rfl) rfl Try.ntmps38 rfl rfl (Nat.le_of_eq (List.length_set ..).symm) fun hst ha hf => ?_
  have hlt : o < st.length := (List.getElem?_eq_some_iff.1 ho).1
  have hset : ∀ c', (st.set o (.box [.int .i64 c']))[o]? = some (.box [.int .i64 c']) := fun c' => List.getElem?_set_self hlt
  simp only [encD_mk]
  simp only [decide_true, decide_false, gwL, gwB, gwD, gwE, gwS, gwTT, gwZ, initG, Nat.reduceEqDiff, ↓reduceIte, Nat.reduceAdd, Nat.reduceLT, Nat.reduceLeDiff, List.map_cons, List.map_nil, builtS, builtinV, pureR, binV, sliceV, pickV, evO, Env.look, find, V.ofConst, resV, resOne, tupV, loadV, fillV, buildV, mkIface, litM, litS, litR, litRows, List.reverse_cons, List.reverse_nil, Nat.reduceMul, appS, memA, appendV, rowsOf, V.cells, TI.sized, TI.known, TI.agg, anL, List.length_cons, List.length_nil, List.append_nil, List.cons_append, List.nil_append, List.drop_succ_cons, List.drop_zero, List.drop_nil, List.take_succ_cons, List.take_zero, List.take_nil, List.getElem?_cons_zero, List.getElem?_cons_succ, List.all_cons, List.all_nil, List.replicate_succ, List.replicate_zero, List.set_cons_zero, List.set_cons_succ, eq_self, true_or, ne_eq, not_false_eq_true, Nat.reduceEqDiff, ho, hset, wrap_i64 (show -9223372036854775808 ≤ c + 1 by omega) (show c + 1 ≤ 9223372036854775807 by omega)]
  have hgv : ∀ (e c' e' c'' : Int), (e, c') = (e', c'') → Gives (.int .i64 e') (st.set o (.box [.int .i64 c''])) (.ret (.int .i64 e)) (st.set o (.box [.int .i64 c'])) := by
    intro e c' e' c'' h
    cases h
    exact gives_int rfl (lt_box hst)
  unfold shapeD
  refine iK_split (fun h => ?_) (fun h => ?_)
  · rw [h]
    simp only [decide_true, decide_false, gwL, gwB, gwD, gwE, gwS, gwTT, gwZ, initG, Nat.reduceEqDiff, ↓reduceIte, Nat.reduceAdd, Nat.reduceLT, Nat.reduceLeDiff, List.map_cons, List.map_nil, builtS, builtinV, pureR, binV, sliceV, pickV, evO, Env.look, find, V.ofConst, resV, resOne, tupV, loadV, fillV, buildV, mkIface, litM, litS, litR, litRows, List.reverse_cons, List.reverse_nil, Nat.reduceMul, appS, memA, appendV, rowsOf, V.cells, TI.sized, TI.known, TI.agg, anL, List.length_cons, List.length_nil, List.append_nil, List.cons_append, List.nil_append, List.drop_succ_cons, List.drop_zero, List.drop_nil, List.take_succ_cons, List.take_zero, List.take_nil, List.getElem?_cons_zero, List.getElem?_cons_succ, List.all_cons, List.all_nil, List.replicate_succ, List.replicate_zero, List.set_cons_zero, List.set_cons_succ, eq_self, true_or, ne_eq, not_false_eq_true, Nat.reduceEqDiff]
    exact hgv _ _ _ _ rfl
  rw [h]
  have hc : c + 1 ≤ 2000 ∧ deep ≤ 40 := by simp at h; omega
  simp only [decide_true, decide_false, gwL, gwB, gwD, gwE, gwS, gwTT, gwZ, initG, Nat.reduceEqDiff, ↓reduceIte, Nat.reduceAdd, Nat.reduceLT, Nat.reduceLeDiff, List.map_cons, List.map_nil, builtS, builtinV, pureR, binV, sliceV, pickV, evO, Env.look, find, V.ofConst, resV, resOne, tupV, loadV, fillV, buildV, mkIface, litM, litS, litR, litRows, List.reverse_cons, List.reverse_nil, Nat.reduceMul, appS, memA, appendV, rowsOf, V.cells, TI.sized, TI.known, TI.agg, anL, List.length_cons, List.length_nil, List.append_nil, List.cons_append, List.nil_append, List.drop_succ_cons, List.drop_zero, List.drop_nil, List.take_succ_cons, List.take_zero, List.take_nil, List.getElem?_cons_zero, List.getElem?_cons_succ, List.all_cons, List.all_nil, List.replicate_succ, List.replicate_zero, List.set_cons_zero, List.set_cons_succ, eq_self, true_or, ne_eq, not_false_eq_true, Nat.reduceEqDiff]
  refine iK_split (fun h1 => ?_) (fun h1 => ?_)
  · rw [h1]
    simp only [decide_true, decide_false, gwL, gwB, gwD, gwE, gwS, gwTT, gwZ, initG, Nat.reduceEqDiff, ↓reduceIte, Nat.reduceAdd, Nat.reduceLT, Nat.reduceLeDiff, List.map_cons, List.map_nil, builtS, builtinV, pureR, binV, sliceV, pickV, evO, Env.look, find, V.ofConst, resV, resOne, tupV, loadV, fillV, buildV, mkIface, litM, litS, litR, litRows, List.reverse_cons, List.reverse_nil, Nat.reduceMul, appS, memA, appendV, rowsOf, V.cells, TI.sized, TI.known, TI.agg, anL, List.length_cons, List.length_nil, List.append_nil, List.cons_append, List.nil_append, List.drop_succ_cons, List.drop_zero, List.drop_nil, List.take_succ_cons, List.take_zero, List.take_nil, List.getElem?_cons_zero, List.getElem?_cons_succ, List.all_cons, List.all_nil, List.replicate_succ, List.replicate_zero, List.set_cons_zero, List.set_cons_succ, eq_self, true_or, ne_eq, not_false_eq_true, Nat.reduceEqDiff, or_lt]
    refine iK_split (fun h2 => ?_) (fun h2 => ?_)
    · rw [h2]
      simp only [decide_true, decide_false, gwL, gwB, gwD, gwE, gwS, gwTT, gwZ, initG, Nat.reduceEqDiff, ↓reduceIte, Nat.reduceAdd, Nat.reduceLT, Nat.reduceLeDiff, List.map_cons, List.map_nil, builtS, builtinV, pureR, binV, sliceV, pickV, evO, Env.look, find, V.ofConst, resV, resOne, tupV, loadV, fillV, buildV, mkIface, litM, litS, litR, litRows, List.reverse_cons, List.reverse_nil, Nat.reduceMul, appS, memA, appendV, rowsOf, V.cells, TI.sized, TI.known, TI.agg, anL, List.length_cons, List.length_nil, List.append_nil, List.cons_append, List.nil_append, List.drop_succ_cons, List.drop_zero, List.drop_nil, List.take_succ_cons, List.take_zero, List.take_nil, List.getElem?_cons_zero, List.getElem?_cons_succ, List.all_cons, List.all_nil, List.replicate_succ, List.replicate_zero, List.set_cons_zero, List.set_cons_succ, eq_self, true_or, ne_eq, not_false_eq_true, Nat.reduceEqDiff]
      exact hgv _ _ _ _ rfl
    · rw [h2]
      simp only [decide_true, decide_false, gwL, gwB, gwD, gwE, gwS, gwTT, gwZ, initG, Nat.reduceEqDiff, ↓reduceIte, Nat.reduceAdd, Nat.reduceLT, Nat.reduceLeDiff, List.map_cons, List.map_nil, builtS, builtinV, pureR, binV, sliceV, pickV, evO, Env.look, find, V.ofConst, resV, resOne, tupV, loadV, fillV, buildV, mkIface, litM, litS, litR, litRows, List.reverse_cons, List.reverse_nil, Nat.reduceMul, appS, memA, appendV, rowsOf, V.cells, TI.sized, TI.known, TI.agg, anL, List.length_cons, List.length_nil, List.append_nil, List.cons_append, List.nil_append, List.drop_succ_cons, List.drop_zero, List.drop_nil, List.take_succ_cons, List.take_zero, List.take_nil, List.getElem?_cons_zero, List.getElem?_cons_succ, List.all_cons, List.all_nil, List.replicate_succ, List.replicate_zero, List.set_cons_zero, List.set_cons_succ, eq_self, true_or, ne_eq, not_false_eq_true, Nat.reduceEqDiff]
      exact hgv _ _ _ _ rfl
  rw [h1]
  simp only [decide_true, decide_false, gwL, gwB, gwD, gwE, gwS, gwTT, gwZ, initG, Nat.reduceEqDiff, ↓reduceIte, Nat.reduceAdd, Nat.reduceLT, Nat.reduceLeDiff, List.map_cons, List.map_nil, builtS, builtinV, pureR, binV, sliceV, pickV, evO, Env.look, find, V.ofConst, resV, resOne, tupV, loadV, fillV, buildV, mkIface, litM, litS, litR, litRows, List.reverse_cons, List.reverse_nil, Nat.reduceMul, appS, memA, appendV, rowsOf, V.cells, TI.sized, TI.known, TI.agg, anL, List.length_cons, List.length_nil, List.append_nil, List.cons_append, List.nil_append, List.drop_succ_cons, List.drop_zero, List.drop_nil, List.take_succ_cons, List.take_zero, List.take_nil, List.getElem?_cons_zero, List.getElem?_cons_succ, List.all_cons, List.all_nil, List.replicate_succ, List.replicate_zero, List.set_cons_zero, List.set_cons_succ, eq_self, true_or, ne_eq, not_false_eq_true, Nat.reduceEqDiff]
  refine iK_split (fun h2 => ?_) (fun h2 => ?_)
  · rw [h2]
    simp only [decide_true, decide_false, gwL, gwB, gwD, gwE, gwS, gwTT, gwZ, initG, Nat.reduceEqDiff, ↓reduceIte, Nat.reduceAdd, Nat.reduceLT, Nat.reduceLeDiff, List.map_cons, List.map_nil, builtS, builtinV, pureR, binV, sliceV, pickV, evO, Env.look, find, V.ofConst, resV, resOne, tupV, loadV, fillV, buildV, mkIface, litM, litS, litR, litRows, List.reverse_cons, List.reverse_nil, Nat.reduceMul, appS, memA, appendV, rowsOf, V.cells, TI.sized, TI.known, TI.agg, anL, List.length_cons, List.length_nil, List.append_nil, List.cons_append, List.nil_append, List.drop_succ_cons, List.drop_zero, List.drop_nil, List.take_succ_cons, List.take_zero, List.take_nil, List.getElem?_cons_zero, List.getElem?_cons_succ, List.all_cons, List.all_nil, List.replicate_succ, List.replicate_zero, List.set_cons_zero, List.set_cons_succ, eq_self, true_or, ne_eq, not_false_eq_true, Nat.reduceEqDiff, or_bit]
    refine iK_split (fun h3 => ?_) (fun h3 => ?_)
    · rw [not_yes h3]
      simp only [decide_true, decide_false, gwL, gwB, gwD, gwE, gwS, gwTT, gwZ, initG, Nat.reduceEqDiff, ↓reduceIte, Nat.reduceAdd, Nat.reduceLT, Nat.reduceLeDiff, List.map_cons, List.map_nil, builtS, builtinV, pureR, binV, sliceV, pickV, evO, Env.look, find, V.ofConst, resV, resOne, tupV, loadV, fillV, buildV, mkIface, litM, litS, litR, litRows, List.reverse_cons, List.reverse_nil, Nat.reduceMul, appS, memA, appendV, rowsOf, V.cells, TI.sized, TI.known, TI.agg, anL, List.length_cons, List.length_nil, List.append_nil, List.cons_append, List.nil_append, List.drop_succ_cons, List.drop_zero, List.drop_nil, List.take_succ_cons, List.take_zero, List.take_nil, List.getElem?_cons_zero, List.getElem?_cons_succ, List.all_cons, List.all_nil, List.replicate_succ, List.replicate_zero, List.set_cons_zero, List.set_cons_succ, eq_self, true_or, ne_eq, not_false_eq_true, Nat.reduceEqDiff]
      exact hgv _ _ _ _ rfl
    · rw [not_no h3]
      simp only [decide_true, decide_false, gwL, gwB, gwD, gwE, gwS, gwTT, gwZ, initG, Nat.reduceEqDiff, ↓reduceIte, Nat.reduceAdd, Nat.reduceLT, Nat.reduceLeDiff, List.map_cons, List.map_nil, builtS, builtinV, pureR, binV, sliceV, pickV, evO, Env.look, find, V.ofConst, resV, resOne, tupV, loadV, fillV, buildV, mkIface, litM, litS, litR, litRows, List.reverse_cons, List.reverse_nil, Nat.reduceMul, appS, memA, appendV, rowsOf, V.cells, TI.sized, TI.known, TI.agg, anL, List.length_cons, List.length_nil, List.append_nil, List.cons_append, List.nil_append, List.drop_succ_cons, List.drop_zero, List.drop_nil, List.take_succ_cons, List.take_zero, List.take_nil, List.getElem?_cons_zero, List.getElem?_cons_succ, List.all_cons, List.all_nil, List.replicate_succ, List.replicate_zero, List.set_cons_zero, List.set_cons_succ, eq_self, true_or, ne_eq, not_false_eq_true, Nat.reduceEqDiff]
      exact hgv _ _ _ _ rfl
  rw [h2]
  simp only [decide_true, decide_false, gwL, gwB, gwD, gwE, gwS, gwTT, gwZ, initG, Nat.reduceEqDiff, ↓reduceIte, Nat.reduceAdd, Nat.reduceLT, Nat.reduceLeDiff, List.map_cons, List.map_nil, builtS, builtinV, pureR, binV, sliceV, pickV, evO, Env.look, find, V.ofConst, resV, resOne, tupV, loadV, fillV, buildV, mkIface, litM, litS, litR, litRows, List.reverse_cons, List.reverse_nil, Nat.reduceMul, appS, memA, appendV, rowsOf, V.cells, TI.sized, TI.known, TI.agg, anL, List.length_cons, List.length_nil, List.append_nil, List.cons_append, List.nil_append, List.drop_succ_cons, List.drop_zero, List.drop_nil, List.take_succ_cons, List.take_zero, List.take_nil, List.getElem?_cons_zero, List.getElem?_cons_succ, List.all_cons, List.all_nil, List.replicate_succ, List.replicate_zero, List.set_cons_zero, List.set_cons_succ, eq_self, true_or, ne_eq, not_false_eq_true, Nat.reduceEqDiff]
  refine iK_split (fun h3 => ?_) (fun h3 => ?_)
  · rw [h3]
    simp only [decide_true, decide_false, gwL, gwB, gwD, gwE, gwS, gwTT, gwZ, initG, Nat.reduceEqDiff, ↓reduceIte, Nat.reduceAdd, Nat.reduceLT, Nat.reduceLeDiff, List.map_cons, List.map_nil, builtS, builtinV, pureR, binV, sliceV, pickV, evO, Env.look, find, V.ofConst, resV, resOne, tupV, loadV, fillV, buildV, mkIface, litM, litS, litR, litRows, List.reverse_cons, List.reverse_nil, Nat.reduceMul, appS, memA, appendV, rowsOf, V.cells, TI.sized, TI.known, TI.agg, anL, List.length_cons, List.length_nil, List.append_nil, List.cons_append, List.nil_append, List.drop_succ_cons, List.drop_zero, List.drop_nil, List.take_succ_cons, List.take_zero, List.take_nil, List.getElem?_cons_zero, List.getElem?_cons_succ, List.all_cons, List.all_nil, List.replicate_succ, List.replicate_zero, List.set_cons_zero, List.set_cons_succ, eq_self, true_or, ne_eq, not_false_eq_true, Nat.reduceEqDiff]
    refine (c_ref_Named _ nm).use (wkL_refl _) fun _ => ?_
    simp only [decide_true, decide_false, gwL, gwB, gwD, gwE, gwS, gwTT, gwZ, initG, Nat.reduceEqDiff, ↓reduceIte, Nat.reduceAdd, Nat.reduceLT, Nat.reduceLeDiff, List.map_cons, List.map_nil, builtS, builtinV, pureR, binV, sliceV, pickV, evO, Env.look, find, V.ofConst, resV, resOne, tupV, loadV, fillV, buildV, mkIface, litM, litS, litR, litRows, List.reverse_cons, List.reverse_nil, Nat.reduceMul, appS, memA, appendV, rowsOf, V.cells, TI.sized, TI.known, TI.agg, anL, List.length_cons, List.length_nil, List.append_nil, List.cons_append, List.nil_append, List.drop_succ_cons, List.drop_zero, List.drop_nil, List.take_succ_cons, List.take_zero, List.take_nil, List.getElem?_cons_zero, List.getElem?_cons_succ, List.all_cons, List.all_nil, List.replicate_succ, List.replicate_zero, List.set_cons_zero, List.set_cons_succ, eq_self, true_or, ne_eq, not_false_eq_true, Nat.reduceEqDiff]
    refine iK_split (fun h4 => ?_) (fun h4 => ?_)
    · rw [h4]
      simp only [decide_true, decide_false, gwL, gwB, gwD, gwE, gwS, gwTT, gwZ, initG, Nat.reduceEqDiff, ↓reduceIte, Nat.reduceAdd, Nat.reduceLT, Nat.reduceLeDiff, List.map_cons, List.map_nil, builtS, builtinV, pureR, binV, sliceV, pickV, evO, Env.look, find, V.ofConst, resV, resOne, tupV, loadV, fillV, buildV, mkIface, litM, litS, litR, litRows, List.reverse_cons, List.reverse_nil, Nat.reduceMul, appS, memA, appendV, rowsOf, V.cells, TI.sized, TI.known, TI.agg, anL, List.length_cons, List.length_nil, List.append_nil, List.cons_append, List.nil_append, List.drop_succ_cons, List.drop_zero, List.drop_nil, List.take_succ_cons, List.take_zero, List.take_nil, List.getElem?_cons_zero, List.getElem?_cons_succ, List.all_cons, List.all_nil, List.replicate_succ, List.replicate_zero, List.set_cons_zero, List.set_cons_succ, eq_self, true_or, ne_eq, not_false_eq_true, Nat.reduceEqDiff]
      exact hgv _ _ _ _ rfl
    rw [h4]
    simp only [decide_true, decide_false, gwL, gwB, gwD, gwE, gwS, gwTT, gwZ, initG, Nat.reduceEqDiff, ↓reduceIte, Nat.reduceAdd, Nat.reduceLT, Nat.reduceLeDiff, List.map_cons, List.map_nil, builtS, builtinV, pureR, binV, sliceV, pickV, evO, Env.look, find, V.ofConst, resV, resOne, tupV, loadV, fillV, buildV, mkIface, litM, litS, litR, litRows, List.reverse_cons, List.reverse_nil, Nat.reduceMul, appS, memA, appendV, rowsOf, V.cells, TI.sized, TI.known, TI.agg, anL, List.length_cons, List.length_nil, List.append_nil, List.cons_append, List.nil_append, List.drop_succ_cons, List.drop_zero, List.drop_nil, List.take_succ_cons, List.take_zero, List.take_nil, List.getElem?_cons_zero, List.getElem?_cons_succ, List.all_cons, List.all_nil, List.replicate_succ, List.replicate_zero, List.set_cons_zero, List.set_cons_succ, eq_self, true_or, ne_eq, not_false_eq_true, Nat.reduceEqDiff]
    refine iK_split (fun h5 => ?_) (fun h5 => ?_)
    · rw [and_no h5]
      simp only [decide_true, decide_false, gwL, gwB, gwD, gwE, gwS, gwTT, gwZ, initG, Nat.reduceEqDiff, ↓reduceIte, Nat.reduceAdd, Nat.reduceLT, Nat.reduceLeDiff, List.map_cons, List.map_nil, builtS, builtinV, pureR, binV, sliceV, pickV, evO, Env.look, find, V.ofConst, resV, resOne, tupV, loadV, fillV, buildV, mkIface, litM, litS, litR, litRows, List.reverse_cons, List.reverse_nil, Nat.reduceMul, appS, memA, appendV, rowsOf, V.cells, TI.sized, TI.known, TI.agg, anL, List.length_cons, List.length_nil, List.append_nil, List.cons_append, List.nil_append, List.drop_succ_cons, List.drop_zero, List.drop_nil, List.take_succ_cons, List.take_zero, List.take_nil, List.getElem?_cons_zero, List.getElem?_cons_succ, List.all_cons, List.all_nil, List.replicate_succ, List.replicate_zero, List.set_cons_zero, List.set_cons_succ, eq_self, true_or, ne_eq, not_false_eq_true, Nat.reduceEqDiff]
      exact hgv _ _ _ _ rfl
    · rw [and_yes h5]
      simp only [decide_true, decide_false, gwL, gwB, gwD, gwE, gwS, gwTT, gwZ, initG, Nat.reduceEqDiff, ↓reduceIte, Nat.reduceAdd, Nat.reduceLT, Nat.reduceLeDiff, List.map_cons, List.map_nil, builtS, builtinV, pureR, binV, sliceV, pickV, evO, Env.look, find, V.ofConst, resV, resOne, tupV, loadV, fillV, buildV, mkIface, litM, litS, litR, litRows, List.reverse_cons, List.reverse_nil, Nat.reduceMul, appS, memA, appendV, rowsOf, V.cells, TI.sized, TI.known, TI.agg, anL, List.length_cons, List.length_nil, List.append_nil, List.cons_append, List.nil_append, List.drop_succ_cons, List.drop_zero, List.drop_nil, List.take_succ_cons, List.take_zero, List.take_nil, List.getElem?_cons_zero, List.getElem?_cons_succ, List.all_cons, List.all_nil, List.replicate_succ, List.replicate_zero, List.set_cons_zero, List.set_cons_succ, eq_self, true_or, ne_eq, not_false_eq_true, Nat.reduceEqDiff]
      exact hgv _ _ _ _ rfl
  rw [h3]
  simp only [decide_true, decide_false, gwL, gwB, gwD, gwE, gwS, gwTT, gwZ, initG, Nat.reduceEqDiff, ↓reduceIte, Nat.reduceAdd, Nat.reduceLT, Nat.reduceLeDiff, List.map_cons, List.map_nil, builtS, builtinV, pureR, binV, sliceV, pickV, evO, Env.look, find, V.ofConst, resV, resOne, tupV, loadV, fillV, buildV, mkIface, litM, litS, litR, litRows, List.reverse_cons, List.reverse_nil, Nat.reduceMul, appS, memA, appendV, rowsOf, V.cells, TI.sized, TI.known, TI.agg, anL, List.length_cons, List.length_nil, List.append_nil, List.cons_append, List.nil_append, List.drop_succ_cons, List.drop_zero, List.drop_nil, List.take_succ_cons, List.take_zero, List.take_nil, List.getElem?_cons_zero, List.getElem?_cons_succ, List.all_cons, List.all_nil, List.replicate_succ, List.replicate_zero, List.set_cons_zero, List.set_cons_succ, eq_self, true_or, ne_eq, not_false_eq_true, Nat.reduceEqDiff]
  refine iK_split (fun h4 => ?_) (fun h4 => ?_)
  · rw [h4]
    simp only [decide_true, decide_false, gwL, gwB, gwD, gwE, gwS, gwTT, gwZ, initG, Nat.reduceEqDiff, ↓reduceIte, Nat.reduceAdd, Nat.reduceLT, Nat.reduceLeDiff, List.map_cons, List.map_nil, builtS, builtinV, pureR, binV, sliceV, pickV, evO, Env.look, find, V.ofConst, resV, resOne, tupV, loadV, fillV, buildV, mkIface, litM, litS, litR, litRows, List.reverse_cons, List.reverse_nil, Nat.reduceMul, appS, memA, appendV, rowsOf, V.cells, TI.sized, TI.known, TI.agg, anL, List.length_cons, List.length_nil, List.append_nil, List.cons_append, List.nil_append, List.drop_succ_cons, List.drop_zero, List.drop_nil, List.take_succ_cons, List.take_zero, List.take_nil, List.getElem?_cons_zero, List.getElem?_cons_succ, List.all_cons, List.all_nil, List.replicate_succ, List.replicate_zero, List.set_cons_zero, List.set_cons_succ, eq_self, true_or, ne_eq, not_false_eq_true, Nat.reduceEqDiff, List.length_map]
    simp only [encD_mk, fitL, V.fit, List.length_map] at hf
    have hkl : kids.length ≤ 9223372036854775807 := by simp at hf; omega
    refine vforD (σ := Nat × Int) [0, 1, 2, 6, 63, 64, 65] (fun x => [(0, true, .agg (encD (.mk k n nm s l kids))), (1, true, .int .i64 deep), (2, true, .ptr o 0), (6, true, .int .i64 0), (63, true, lstD kids), (64, true, .int .i64 kids.length), (65, true, .int .i64 x.1)]) (fun x => st.set o (.box [.int .i64 x.2])) (fun x => kids.length - x.1) (fun x => x.1 ≤ kids.length ∧ 0 ≤ x.2 ∧ x.2 ≤ 2000 ∧ shapeDs kids (deep + 1) (c + 1) = shapeDs (kids.drop x.1) (deep + 1) x.2) (0, c + 1) rfl TT_ok ⟨Nat.zero_le _, by omega, by omega, rfl⟩ (by rw [encD_mk]; exact wkE_refl _) rfl ?_
    rintro ⟨i, ci⟩ ⟨hi, hc0, hc1, hx⟩
    simp only at hi hc0 hc1 hx
    rw [hx]
    simp only [lstD]
    rcases at_or_end kids i hi with ⟨rfl, hd⟩ | ⟨a, hlt2, hget, hdr⟩
    · simp only [decide_true, decide_false, gwL, gwB, gwD, gwE, gwS, gwTT, gwZ, initG, Nat.reduceEqDiff, ↓reduceIte, Nat.reduceAdd, Nat.reduceLT, Nat.reduceLeDiff, List.map_cons, List.map_nil, builtS, builtinV, pureR, binV, sliceV, pickV, evO, Env.look, find, V.ofConst, resV, resOne, tupV, loadV, fillV, buildV, mkIface, litM, litS, litR, litRows, List.reverse_cons, List.reverse_nil, Nat.reduceMul, appS, memA, appendV, rowsOf, V.cells, TI.sized, TI.known, TI.agg, anL, List.length_cons, List.length_nil, List.append_nil, List.cons_append, List.nil_append, List.drop_succ_cons, List.drop_zero, List.drop_nil, List.take_succ_cons, List.take_zero, List.take_nil, List.getElem?_cons_zero, List.getElem?_cons_succ, List.all_cons, List.all_nil, List.replicate_succ, List.replicate_zero, List.set_cons_zero, List.set_cons_succ, eq_self, true_or, ne_eq, not_false_eq_true, Nat.reduceEqDiff, lt_no, hd, shapeDs]
      exact hgv _ _ _ _ rfl
    · simp only [decide_true, decide_false, gwL, gwB, gwD, gwE, gwS, gwTT, gwZ, initG, Nat.reduceEqDiff, ↓reduceIte, Nat.reduceAdd, Nat.reduceLT, Nat.reduceLeDiff, List.map_cons, List.map_nil, builtS, builtinV, pureR, binV, sliceV, pickV, evO, Env.look, find, V.ofConst, resV, resOne, tupV, loadV, fillV, buildV, mkIface, litM, litS, litR, litRows, List.reverse_cons, List.reverse_nil, Nat.reduceMul, appS, memA, appendV, rowsOf, V.cells, TI.sized, TI.known, TI.agg, anL, List.length_cons, List.length_nil, List.append_nil, List.cons_append, List.nil_append, List.drop_succ_cons, List.drop_zero, List.drop_nil, List.take_succ_cons, List.take_zero, List.take_nil, List.getElem?_cons_zero, List.getElem?_cons_succ, List.all_cons, List.all_nil, List.replicate_succ, List.replicate_zero, List.set_cons_zero, List.set_cons_succ, eq_self, true_or, ne_eq, not_false_eq_true, Nat.reduceEqDiff, lt_yes hlt2, hdr, shapeDs, List.length_map, getD_map hget, encD_take, encD_len, encD_drop, Int.ofNat_lt.mpr hlt2, wrap_i64 (show -9223372036854775808 ≤ deep + 1 by omega) (show deep + 1 ≤ 9223372036854775807 by omega), Nat.le_refl]
      refine (ih a (List.mem_of_getElem? hget) (st.set o (.box [.int .i64 ci]) ++ [.box (encD a)]) o ci (deep + 1) (by rw [st_old (by rw [List.length_set]; exact hlt)]; exact hset ci) hc0 hc1 (by omega) (by omega)).use (wkL_refl _) fun _ => ?_
      simp only [decide_true, decide_false, gwL, gwB, gwD, gwE, gwS, gwTT, gwZ, initG, Nat.reduceEqDiff, ↓reduceIte, Nat.reduceAdd, Nat.reduceLT, Nat.reduceLeDiff, List.map_cons, List.map_nil, builtS, builtinV, pureR, binV, sliceV, pickV, evO, Env.look, find, V.ofConst, resV, resOne, tupV, loadV, fillV, buildV, mkIface, litM, litS, litR, litRows, List.reverse_cons, List.reverse_nil, Nat.reduceMul, appS, memA, appendV, rowsOf, V.cells, TI.sized, TI.known, TI.agg, anL, List.length_cons, List.length_nil, List.append_nil, List.cons_append, List.nil_append, List.drop_succ_cons, List.drop_zero, List.drop_nil, List.take_succ_cons, List.take_zero, List.take_nil, List.getElem?_cons_zero, List.getElem?_cons_succ, List.all_cons, List.all_nil, List.replicate_succ, List.replicate_zero, List.set_cons_zero, List.set_cons_succ, eq_self, true_or, ne_eq, not_false_eq_true, Nat.reduceEqDiff, st_oldset (show o < (st.set o (.box [.int .i64 ci])).length by rw [List.length_set]; exact hlt), List.set_set]
      refine iK_split (fun h5 => ?_) (fun h5 => ?_)
      · rw [not_yes h5]
        simp only [decide_true, decide_false, gwL, gwB, gwD, gwE, gwS, gwTT, gwZ, initG, Nat.reduceEqDiff, ↓reduceIte, Nat.reduceAdd, Nat.reduceLT, Nat.reduceLeDiff, List.map_cons, List.map_nil, builtS, builtinV, pureR, binV, sliceV, pickV, evO, Env.look, find, V.ofConst, resV, resOne, tupV, loadV, fillV, buildV, mkIface, litM, litS, litR, litRows, List.reverse_cons, List.reverse_nil, Nat.reduceMul, appS, memA, appendV, rowsOf, V.cells, TI.sized, TI.known, TI.agg, anL, List.length_cons, List.length_nil, List.append_nil, List.cons_append, List.nil_append, List.drop_succ_cons, List.drop_zero, List.drop_nil, List.take_succ_cons, List.take_zero, List.take_nil, List.getElem?_cons_zero, List.getElem?_cons_succ, List.all_cons, List.all_nil, List.replicate_succ, List.replicate_zero, List.set_cons_zero, List.set_cons_succ, eq_self, true_or, ne_eq, not_false_eq_true, Nat.reduceEqDiff]
        exact gives_int' rfl (lt_box hst)
      · have h6 : decide ((shapeD a (deep + 1) ci).1 = 0) = true := by simpa using h5
        have h7 := shapeD_ok a (deep + 1) ci hc0 (of_decide_eq_true h6)
        rw [h6]
        simp only [decide_true, decide_false, gwL, gwB, gwD, gwE, gwS, gwTT, gwZ, initG, Nat.reduceEqDiff, ↓reduceIte, Nat.reduceAdd, Nat.reduceLT, Nat.reduceLeDiff, List.map_cons, List.map_nil, builtS, builtinV, pureR, binV, sliceV, pickV, evO, Env.look, find, V.ofConst, resV, resOne, tupV, loadV, fillV, buildV, mkIface, litM, litS, litR, litRows, List.reverse_cons, List.reverse_nil, Nat.reduceMul, appS, memA, appendV, rowsOf, V.cells, TI.sized, TI.known, TI.agg, anL, List.length_cons, List.length_nil, List.append_nil, List.cons_append, List.nil_append, List.drop_succ_cons, List.drop_zero, List.drop_nil, List.take_succ_cons, List.take_zero, List.take_nil, List.getElem?_cons_zero, List.getElem?_cons_succ, List.all_cons, List.all_nil, List.replicate_succ, List.replicate_zero, List.set_cons_zero, List.set_cons_succ, eq_self, true_or, ne_eq, not_false_eq_true, Nat.reduceEqDiff]
        refine ⟨(i + 1, (shapeD a (deep + 1) ci).2), ⟨?_, _, _, rfl, wkSt_refl _, ?_, lt_box hst, by simp only [List.length_set]; exact Nat.le_refl _⟩, by simp only; omega, by simp only; omega, by simp only; omega, h7.2, rfl⟩
        · simp only [decide_true, decide_false, gwL, gwB, gwD, gwE, gwS, gwTT, gwZ, initG, Nat.reduceEqDiff, ↓reduceIte, Nat.reduceAdd, Nat.reduceLT, Nat.reduceLeDiff, List.map_cons, List.map_nil, builtS, builtinV, pureR, binV, sliceV, pickV, evO, Env.look, find, V.ofConst, resV, resOne, tupV, loadV, fillV, buildV, mkIface, litM, litS, litR, litRows, List.reverse_cons, List.reverse_nil, Nat.reduceMul, appS, memA, appendV, rowsOf, V.cells, TI.sized, TI.known, TI.agg, anL, List.length_cons, List.length_nil, List.append_nil, List.cons_append, List.nil_append, List.drop_succ_cons, List.drop_zero, List.drop_nil, List.take_succ_cons, List.take_zero, List.take_nil, List.getElem?_cons_zero, List.getElem?_cons_succ, List.all_cons, List.all_nil, List.replicate_succ, List.replicate_zero, List.set_cons_zero, List.set_cons_succ, eq_self, true_or, ne_eq, not_false_eq_true, Nat.reduceEqDiff, Env.keep, next_i64 hlt2 hkl]
          exact wkE_refl _
        · simp only [ltE, V.lt, List.length_set, lstD]
          exact ⟨encD_lt _ _, trivial, hlt, trivial, ⟨fun e h => (by cases h), by rw [← encDs_map]; exact encDs_lt _ _⟩, trivial, trivial, trivial⟩
  · rw [h4]
    simp only [decide_true, decide_false, gwL, gwB, gwD, gwE, gwS, gwTT, gwZ, initG, Nat.reduceEqDiff, ↓reduceIte, Nat.reduceAdd, Nat.reduceLT, Nat.reduceLeDiff, List.map_cons, List.map_nil, builtS, builtinV, pureR, binV, sliceV, pickV, evO, Env.look, find, V.ofConst, resV, resOne, tupV, loadV, fillV, buildV, mkIface, litM, litS, litR, litRows, List.reverse_cons, List.reverse_nil, Nat.reduceMul, appS, memA, appendV, rowsOf, V.cells, TI.sized, TI.known, TI.agg, anL, List.length_cons, List.length_nil, List.append_nil, List.cons_append, List.nil_append, List.drop_succ_cons, List.drop_zero, List.drop_nil, List.take_succ_cons, List.take_zero, List.take_nil, List.getElem?_cons_zero, List.getElem?_cons_succ, List.all_cons, List.all_nil, List.replicate_succ, List.replicate_zero, List.set_cons_zero, List.set_cons_succ, eq_self, true_or, ne_eq, not_false_eq_true, Nat.reduceEqDiff]
    exact hgv _ _ _ _ rfl
end Go.Proofs.Ytpfdoffnpkokhaa.Gx
