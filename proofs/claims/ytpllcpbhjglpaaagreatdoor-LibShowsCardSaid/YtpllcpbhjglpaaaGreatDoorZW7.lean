/- Contracts: letters, numbers, names. Import sets: how they lie in memory; their form; slices.ContainsFunc. Contracts: what is wrong with data. Contracts: what is wrong with lists of data. Contracts: what is wrong with lists of data (the document's answer); the base's names; a datum without what its kinds have not. Contracts: a datum without what its kinds have not. Contracts: a datum without what its kinds have not (the document's answer); when data are the same. Contracts: when data are the same. Reading data: blanks, nodes, faults. Calls of the library that leave what there was. Reading data: numbers; faults; atoms. Reading data: what a text's data are; the walk over one. Reading data: the walk over a list. Reading data: the walk over a datum. Reading data: the whole. Reading data: text.Read. -/
import Derived.Test.YtpllcpbhjglpaaaGreatDoorZW6
import Derived.Shelf.Strconv.ParseIntPublic10
import Derived.Shelf.Lay
import Derived.Lib.AtoiErrMem
import Derived.Ground.NamesProg
namespace Go.Proofs.YtpllcpbhjglpaaaGreatDoor.Gx
open Go Go.Proofs.YtpllcpbhjglpaaaGreatDoor.Gw
open Nat renaming reduceEqDiff → qqE, reduceAdd → qqA, reduceLT → qqL, reduceLeDiff → qqD, reduceMul → qqM
set_option linter.unusedSimpArgs false
set_option linter.unusedVariables false
theorem bz35 : type_of% @List.length_nil.{0} ∧ type_of% @List.map_cons.{0,0} ∧ type_of% @List.map_nil.{0,0} := ⟨@List.length_nil.{0}, @List.map_cons.{0,0}, @List.map_nil.{0,0}⟩
theorem c_Letter (st : St) (b : UInt8) : VCalls Tryz.prog TT 84 [.int .u8 b.toNat] st fun r st' => r = .ret (.bool (letterB b)) ∧ st' = st := by
 refine vfun TT_ok (an := anL [(5, 1)]) (L := [0, 2, 4, 6, 7, 8]) (rs := [.tmp 2]) Tryz.func84 rfl (by kernel_rfl) rfl Tryz.ntmps84 rfl rfl (Nat.le_refl _) fun hst ha hf => ?_
 simp only [bz35, decide_true, decide_false, gwL, gwB, gwD, gwE, gwS, gwTT, gwZ, initG, Nat.reduceEqDiff, ↓reduceIte, Nat.reduceAdd, Nat.reduceLT, Nat.reduceLeDiff, builtS, builtinV, pureR, binV, aggEq, eqFs, eqCell, Option.bind_some, Option.map_some, and_self, List.headD_cons, sliceV, pickV, evO, Env.look, find, V.ofConst, resV, resOne, tupV, loadV, fillV, buildV, mkIface, litS, litRows, List.reverse_cons, List.reverse_nil, Nat.reduceMul, appS, memA, appendV, rowsOf, V.cells, TI.sized, TI.known, TI.agg, anL, List.length_cons, List.append_nil, List.cons_append, List.nil_append, List.drop_succ_cons, List.drop_zero, List.drop_nil, List.take_succ_cons, List.take_zero, List.take_nil, List.getElem?_cons_zero, List.getElem?_cons_succ, List.all_cons, List.all_nil, List.replicate_succ, List.replicate_zero, List.set_cons_zero, List.set_cons_succ, eq_self, true_or, ne_eq, not_false_eq_true, Nat.reduceEqDiff]
 refine rK_lit (byteRows letters) (by kernel_rfl) ?_
 simp only [bz35, decide_true, decide_false, gwL, gwB, gwD, gwE, gwS, gwTT, gwZ, initG, Nat.reduceEqDiff, ↓reduceIte, Nat.reduceAdd, Nat.reduceLT, Nat.reduceLeDiff, builtS, builtinV, pureR, binV, aggEq, eqFs, eqCell, Option.bind_some, Option.map_some, and_self, List.headD_cons, sliceV, pickV, evO, Env.look, find, V.ofConst, resV, resOne, tupV, loadV, fillV, buildV, mkIface, litM, litS, litRows, List.reverse_cons, List.reverse_nil, Nat.reduceMul, appS, memA, appendV, rowsOf, V.cells, TI.sized, TI.known, TI.agg, anL, List.length_cons, List.append_nil, List.cons_append, List.nil_append, List.drop_succ_cons, List.drop_zero, List.drop_nil, List.take_succ_cons, List.take_zero, List.take_nil, List.getElem?_cons_zero, List.getElem?_cons_succ, List.all_cons, List.all_nil, List.replicate_succ, List.replicate_zero, List.set_cons_zero, List.set_cons_succ, eq_self, true_or, ne_eq, not_false_eq_true, Nat.reduceEqDiff, convV, Nat.lt_irrefl]
 refine ⟨rfl, ?_⟩
 have hll : (byteRows letters).length = letters.length := by simp [byteRows]
 refine vfor (σ := Nat) [0, 2, 6, 7, 8] (fun i => [(0, true, .int .u8 b.toNat), (2, true, .bool false), (6, true, .lst 1 none (byteRows letters)), (7, true, .int .i64 (byteRows letters).length), (8, true, .int .i64 i)]) (fun i => st ++ [.gone]) (fun i => letters.length - i) (fun i => i ≤ letters.length ∧ letterB b = (letters.drop i).contains b) 0 rfl TT_ok ⟨Nat.zero_le _, rfl⟩ rfl rfl ?_
 rintro i ⟨hi, hx⟩
 rw [hx]
 rcases at_or_end letters i hi with ⟨rfl, hd⟩ | ⟨a, hlt, hget, hdr⟩
 ·rw [hll]
  simp only [gw0, qqE, ↓reduceIte, qqA, qqL, qqD, qqM, lt_no, hd]
  exact gives_bool' (by simp) hst
 ·rw [hll]
  have hg : (byteRows letters).getD i [] = [V.int .u8 a.toNat] := getD_map hget
  simp only [gw0, qqE, ↓reduceIte, qqA, qqL, qqD, qqM, lt_yes hlt, hdr, hll, hg, Int.ofNat_lt.mpr hlt]
  refine iK_split (fun h => ?_) (fun h => ?_)
  ·have h' : a = b := UInt8.toNat_inj.mp (by simpa [Int.natCast_inj] using h)
   simp only [gw0, qqE, ↓reduceIte, qqA, qqL, qqD, qqM]
   exact gives_bool' (by simp [h']) hst
  ·have h' : ¬ a = b := fun e => by simp [e] at h
   simp only [gw0, qqE, ↓reduceIte, qqA, qqL, qqD, qqM, Env.keep]
   have h'' : ¬ b = a := fun e => h' e.symm
   exact ⟨i + 1, by rw [next_i64 hlt (by decide)], by omega, hlt, by simp [List.contains_cons, h'']⟩
def digits : Str → Bool := fun s => s.all fun b => decide (48 ≤ b.toNat) && decide (b.toNat ≤ 57)
/-- Does a text look like a number? -/
def looksB (s : Str) : Bool := (match s with | 45 :: r => digits r && !r.isEmpty | r => digits r && !r.isEmpty)
theorem trimPre_minus (s : Str) : (digits (trimPre s [45]) && !(trimPre s [45]).isEmpty) = looksB s := by
 unfold trimPre hasPre looksB
 cases s with
 | nil => rfl
 | cons a r =>
  by_cases h : a = 45
  ·subst h; simp
  ·simp only [List.take_succ_cons, List.take_zero, List.length_cons, List.length_nil]
   simp [h]
theorem c_number (st : St) (s : Str) : VCalls Tryz.prog TT 79 [.str s] st fun r st' => r = .ret (.bool (looksB s)) ∧ st' = st := by
 refine vfun TT_ok (an := anL []) (L := [0, 2, 3, 7, 8]) (rs := [.tmp 2]) Tryz.func79 rfl (by kernel_rfl) rfl Tryz.ntmps79 rfl rfl (Nat.le_refl _) fun hst ha hf => ?_
 simp only [gw0, qqE, ↓reduceIte, qqA, qqL, qqD, qqM]
 refine (c_TrimPrefix st s [45]).use (wkL_refl _) fun hfx => ?_
 rw [← trimPre_minus s]
 simp only [V.fit] at hfx
 generalize trimPre s [45] = t at hfx ⊢
 simp only [gw0, qqE, ↓reduceIte, qqA, qqL, qqD, qqM]
 refine vfor (σ := Nat) [0, 2, 7, 8] (fun i => [(0, true, .str t), (2, true, .bool false), (7, true, .int .i64 t.length), (8, true, .int .i64 i)]) (fun i => st) (fun i => t.length - i) (fun i => i ≤ t.length ∧ digits t = digits (t.drop i)) 0 rfl TT_ok ⟨Nat.zero_le _, rfl⟩ rfl rfl ?_
 rintro i ⟨hi, hx⟩
 rw [hx]
 rcases at_or_end t i hi with ⟨rfl, hd⟩ | ⟨a, hlt, hget, hdr⟩
 ·simp only [gw0, qqE, ↓reduceIte, qqA, qqL, qqD, qqM, lt_no, hd]
  exact gives_bool (by cases t <;> simp [digits]) hst
 ·simp only [gw0, qqE, ↓reduceIte, qqA, qqL, qqD, qqM, lt_yes hlt, hdr, getD_at hget, Int.ofNat_lt.mpr hlt]
  refine iK_split (fun h => ?_) (fun h => ?_)
  ·simp only [gw0, qqE, ↓reduceIte, qqA, qqL, qqD, qqM]
   refine gives_bool ?_ hst
   have : ¬ (48 ≤ a.toNat ∧ a.toNat ≤ 57) := by
    intro ⟨h1, h2⟩
    have e1 : decide ((a.toNat : Int) < 48) = false := by simp; omega
    have e2 : decide (57 < (a.toNat : Int)) = false := by simp; omega
    rw [e1, e2] at h; cases h
   simp only [digits, List.all_cons]
   rcases Nat.lt_or_ge a.toNat 48 with h1 | h1
   ·simp [show ¬ 48 ≤ a.toNat by omega]
   ·simp [show ¬ a.toNat ≤ 57 by omega]
  ·have : 48 ≤ a.toNat ∧ a.toNat ≤ 57 := by
    constructor
    ·refine Nat.le_of_not_lt fun h1 => ?_
     have e1 : decide ((a.toNat : Int) < 48) = true := by simp; omega
     rw [e1] at h; cases h
    ·refine Nat.le_of_not_lt fun h1 => ?_
     have e2 : decide (57 < (a.toNat : Int)) = true := by simp; omega
     rw [e2] at h; revert h; cases decide ((a.toNat : Int) < 48) <;> simp
   simp only [gw0, qqE, ↓reduceIte, qqA, qqL, qqD, qqM, Env.keep]
   exact ⟨i + 1, by rw [next_i64 hlt hfx], by omega, hlt, by simp [digits, this]⟩
theorem digit_yes {a : UInt8} (h : (decide ((a.toNat : Int) < 48) || decide (57 < (a.toNat : Int))) = true) : ∀ r, digits (a :: r) = false := by
 intro r
 simp only [digits, List.all_cons]
 rcases Nat.lt_or_ge a.toNat 48 with h1 | h1
 ·simp [show ¬ 48 ≤ a.toNat by omega]
 ·have e1 : decide ((a.toNat : Int) < 48) = false := by simp; omega
  rw [e1] at h
  have h2 : 57 < a.toNat := by simp only [Bool.false_or, decide_eq_true_eq] at h; omega
  simp [show ¬ a.toNat ≤ 57 by omega]
theorem digit_no {a : UInt8} (h : (decide ((a.toNat : Int) < 48) || decide (57 < (a.toNat : Int))) = false) : ∀ r, digits (a :: r) = digits r := by
 intro r
 have : 48 ≤ a.toNat ∧ a.toNat ≤ 57 := by
  constructor
  ·refine Nat.le_of_not_lt fun h1 => ?_
   have e1 : decide ((a.toNat : Int) < 48) = true := by simp; omega
   rw [e1] at h; cases h
  ·refine Nat.le_of_not_lt fun h1 => ?_
   have e2 : decide (57 < (a.toNat : Int)) = true := by simp; omega
   rw [e2] at h; revert h; cases decide ((a.toNat : Int) < 48) <;> simp
 simp [digits, this]
theorem c_Looks (st : St) (s : Str) : VCalls Tryz.prog TT 85 [.str s] st fun r st' => r = .ret (.bool (looksB s)) ∧ st' = st := by
 refine vfun TT_ok (an := anL []) (L := [0, 2, 4, 16, 17, 18]) (rs := [.tmp 2]) Tryz.func85 rfl (by kernel_rfl) rfl Tryz.ntmps85 rfl rfl (Nat.le_refl _) fun hst ha hf => ?_
 simp only [fitL, V.fit] at hf
 simp only [gw0, qqE, ↓reduceIte, qqA, qqL, qqD, qqM]
 refine ⟨fun h => ⟨Int.le_refl _, of_decide_eq_true h⟩, iK_split (fun h => ?_) (fun h => ?_)⟩
 ·have hs : ∃ r, s = 45 :: r := by
   cases s with
   | nil => simp at h
   | cons a r =>
    have : a = 45 := UInt8.toNat_inj.mp (by simp at h; show a.toNat = 45; omega)
    exact ⟨r, by rw [this]⟩
  obtain ⟨r, rfl⟩ := hs
  have e : looksB (45 :: r) = (digits r && !r.isEmpty) := rfl
  have hl : r.length ≤ 9223372036854775807 := by have := hf.1; simp at this; omega
  rw [e]
  simp only [gw0, qqE, ↓reduceIte, qqA, qqL, qqD, qqM, convV, List.drop_succ_cons, List.drop_zero, Int.toNat_one]
  clear e hf ha h
  generalize r = t at hl ⊢
  refine ⟨⟨by omega, by omega⟩, ?_⟩
  have hll : (byteRows t).length = t.length := by simp [byteRows]
  refine vfor (σ := Nat) [0, 2, 16, 17, 18] (fun i => [(0, true, .str t), (2, true, .bool false), (16, true, .lst 1 none (byteRows t)), (17, true, .int .i64 (byteRows t).length), (18, true, .int .i64 i)]) (fun i => st) (fun i => t.length - i) (fun i => i ≤ t.length ∧ digits t = digits (t.drop i)) 0 rfl TT_ok ⟨Nat.zero_le _, rfl⟩ rfl rfl ?_
  rintro i ⟨hi, hx⟩
  rw [hx]
  rcases at_or_end t i hi with ⟨rfl, hd⟩ | ⟨a, hlt, hget, hdr⟩
  ·rw [hll]
   simp only [gw0, qqE, ↓reduceIte, qqA, qqL, qqD, qqM, lt_no, hd]
   exact gives_bool (by cases t <;> simp [digits]) hst
  ·rw [hll]
   have hg : (byteRows t).getD i [] = [V.int .u8 a.toNat] := getD_map hget
   simp only [gw0, qqE, ↓reduceIte, qqA, qqL, qqD, qqM, lt_yes hlt, hdr, hll, hg, Int.ofNat_lt.mpr hlt]
   refine iK_split (fun h => ?_) (fun h => ?_)
   ·simp only [gw0, qqE, ↓reduceIte, qqA, qqL, qqD, qqM]
    exact gives_bool (by rw [digit_yes h]; rfl) hst
   ·simp only [gw0, qqE, ↓reduceIte, qqA, qqL, qqD, qqM, Env.keep]
    exact ⟨i + 1, by rw [next_i64 hlt hl], by omega, hlt, digit_no h _⟩
 ·have e : looksB s = (digits s && !s.isEmpty) := by
   unfold looksB
   split
   ·simp at h
   ·rfl
  have hl := hf.1
  rw [e]
  simp only [gw0, qqE, ↓reduceIte, qqA, qqL, qqD, qqM, convV]
  clear e hf ha h
  generalize s = t at hl ⊢
  have hll : (byteRows t).length = t.length := by simp [byteRows]
  refine vfor (σ := Nat) [0, 2, 16, 17, 18] (fun i => [(0, true, .str t), (2, true, .bool false), (16, true, .lst 1 none (byteRows t)), (17, true, .int .i64 (byteRows t).length), (18, true, .int .i64 i)]) (fun i => st) (fun i => t.length - i) (fun i => i ≤ t.length ∧ digits t = digits (t.drop i)) 0 rfl TT_ok ⟨Nat.zero_le _, rfl⟩ rfl rfl ?_
  rintro i ⟨hi, hx⟩
  rw [hx]
  rcases at_or_end t i hi with ⟨rfl, hd⟩ | ⟨a, hlt, hget, hdr⟩
  ·rw [hll]
   simp only [gw0, qqE, ↓reduceIte, qqA, qqL, qqD, qqM, lt_no, hd]
   exact gives_bool (by cases t <;> simp [digits]) hst
  ·rw [hll]
   have hg : (byteRows t).getD i [] = [V.int .u8 a.toNat] := getD_map hget
   simp only [gw0, qqE, ↓reduceIte, qqA, qqL, qqD, qqM, lt_yes hlt, hdr, hll, hg, Int.ofNat_lt.mpr hlt]
   refine iK_split (fun h => ?_) (fun h => ?_)
   ·simp only [gw0, qqE, ↓reduceIte, qqA, qqL, qqD, qqM]
    exact gives_bool (by rw [digit_yes h]; rfl) hst
   ·simp only [gw0, qqE, ↓reduceIte, qqA, qqL, qqD, qqM, Env.keep]
    exact ⟨i + 1, by rw [next_i64 hlt hl], by omega, hlt, digit_no h _⟩
def namedB (s : Str) : Bool := s.all letterB && (decide (0 < s.length) && decide (s.length ≤ 20) && !looksB s)
theorem c_text_Named (st : St) (s : Str) : VCalls Tryz.prog TT 57 [.str s] st fun r st' => r = .ret (.bool (namedB s)) ∧ st' = st := by
 refine vfun TT_ok (an := anL []) (L := [0, 2, 3, 13, 14]) (rs := [.tmp 2]) Tryz.func57 rfl (by kernel_rfl) rfl Tryz.ntmps57 rfl rfl (Nat.le_refl _) fun hst ha hf => ?_
 simp only [gw0, qqE, ↓reduceIte, qqA, qqL, qqD, qqM]
 refine iK_split (fun h => ?_) (fun h => ?_)
 ·simp only [gw0, qqE, ↓reduceIte, qqA, qqL, qqD, qqM]
  refine gives_bool ?_ hst
  have : ¬ (0 < s.length ∧ s.length ≤ 20) := by
   intro ⟨h1, h2⟩
   have e1 : decide ((s.length : Int) < 1) = false := by simp; omega
   have e2 : decide (20 < (s.length : Int)) = false := by simp; omega
   rw [e1, e2] at h; cases h
  rcases Nat.lt_or_ge 0 s.length with h1 | h1
  ·simp [namedB, show ¬ s.length ≤ 20 from fun h2 => this ⟨h1, h2⟩]
  ·simp [namedB, show ¬ 0 < s.length by omega]
 ·have hl : 0 < s.length ∧ s.length ≤ 20 := by
   constructor
   ·refine Nat.lt_of_not_le fun h1 => ?_
    have e1 : decide ((s.length : Int) < 1) = true := by simp; omega
    rw [e1] at h; cases h
   ·refine Nat.le_of_not_lt fun h1 => ?_
    have e2 : decide (20 < (s.length : Int)) = true := by simp; omega
    rw [e2] at h; revert h; cases decide ((s.length : Int) < 1) <;> simp
  have e : namedB s = (s.all letterB && !looksB s) := by simp [namedB, hl]
  rw [e]
  simp only [gw0, qqE, ↓reduceIte, qqA, qqL, qqD, qqM]
  refine vfor (σ := Nat) [0, 2, 13, 14] (fun i => [(0, true, .str s), (2, true, .bool false), (13, true, .int .i64 s.length), (14, true, .int .i64 i)]) (fun i => st) (fun i => s.length - i) (fun i => i ≤ s.length ∧ s.all letterB = (s.drop i).all letterB) 0 rfl TT_ok ⟨Nat.zero_le _, rfl⟩ rfl rfl ?_
  rintro i ⟨hi, hx⟩
  rw [hx]
  rcases at_or_end s i hi with ⟨rfl, hd⟩ | ⟨a, hlt, hget, hdr⟩
  ·simp only [gw0, qqE, ↓reduceIte, qqA, qqL, qqD, qqM, lt_no, hd]
   refine (c_number st s).use (wkL_refl _) fun _ => ?_
   simp only [gw0, qqE, ↓reduceIte, qqA, qqL, qqD, qqM]
   exact gives_bool (by simp) hst
  ·simp only [gw0, qqE, ↓reduceIte, qqA, qqL, qqD, qqM, lt_yes hlt, hdr, getD_at hget, Int.ofNat_lt.mpr hlt]
   refine (c_letter st a).use (wkL_refl _) fun _ => ?_
   simp only [gw0, qqE, ↓reduceIte, qqA, qqL, qqD, qqM]
   refine iK_split (fun h => ?_) (fun h => ?_)
   ·simp only [gw0, qqE, ↓reduceIte, qqA, qqL, qqD, qqM]
    exact gives_bool (by simp at h; simp [h]) hst
   ·simp only [gw0, qqE, ↓reduceIte, qqA, qqL, qqD, qqM, Env.keep]
    exact ⟨i + 1, by rw [next_i64 hlt (by omega)], by omega, hlt, by simp at h; simp [h]⟩
theorem c_ref_Named (st : St) (s : Str) : VCalls Tryz.prog TT 67 [.str s] st fun r st' => r = .ret (.bool (namedB s)) ∧ st' = st := by
 refine vfun TT_ok (an := anL []) (L := [0, 2, 4, 6, 7, 8]) (rs := [.tmp 2]) Tryz.func67 rfl (by kernel_rfl) rfl Tryz.ntmps67 rfl rfl (Nat.le_refl _) fun hst ha hf => ?_
 simp only [fitL, V.fit] at hf
 simp only [gw0, qqE, ↓reduceIte, qqA, qqL, qqD, qqM, convV]
 have hll : (byteRows s).length = s.length := by simp [byteRows]
 refine vfor (σ := Nat) [0, 2, 6, 7, 8] (fun i => [(0, true, .str s), (2, true, .bool false), (6, true, .lst 1 none (byteRows s)), (7, true, .int .i64 (byteRows s).length), (8, true, .int .i64 i)]) (fun i => st) (fun i => s.length - i) (fun i => i ≤ s.length ∧ s.all letterB = (s.drop i).all letterB) 0 rfl TT_ok ⟨Nat.zero_le _, rfl⟩ rfl rfl ?_
 rintro i ⟨hi, hx⟩
 unfold namedB
 rw [hx]
 rcases at_or_end s i hi with ⟨rfl, hd⟩ | ⟨a, hlt, hget, hdr⟩
 ·rw [hll]
  simp only [gw0, qqE, ↓reduceIte, qqA, qqL, qqD, qqM, lt_no, hd]
  refine rK_guarded (.bool (looksB s)) (fun _ => c_Looks st s) ?_
  simp only [gw0, qqE, ↓reduceIte, qqA, qqL, qqD, qqM]
  refine gives_bool ?_ hst
  have e1 : decide (0 < (s.length : Int)) = decide (0 < s.length) := by simp
  have e2 : decide ((s.length : Int) ≤ 20) = decide (s.length ≤ 20) := decide_eq_decide.mpr (by omega)
  rw [e1, e2]
 ·rw [hll]
  have hg : (byteRows s).getD i [] = [V.int .u8 a.toNat] := getD_map hget
  simp only [gw0, qqE, ↓reduceIte, qqA, qqL, qqD, qqM, lt_yes hlt, hdr, hll, hg, Int.ofNat_lt.mpr hlt]
  refine (c_Letter st a).use (wkL_refl _) fun _ => ?_
  simp only [gw0, qqE, ↓reduceIte, qqA, qqL, qqD, qqM]
  refine iK_split (fun h => ?_) (fun h => ?_)
  ·simp only [gw0, qqE, ↓reduceIte, qqA, qqL, qqD, qqM]
   exact gives_bool (by simp at h; simp [h]) hst
  ·simp only [gw0, qqE, ↓reduceIte, qqA, qqL, qqD, qqM, Env.keep]
   exact ⟨i + 1, by rw [next_i64 hlt hf.1], by omega, hlt, by simp at h; simp [h]⟩
inductive Set' where
 | mk (kind : Int) (name : Str) (names az : List Str) (pre : Str) (kids : List Set')
mutual
def encSet : Set' → List V
 | .mk k n ns az p kids => [.int .i64 k, .str n, encS ns, encS az, .str p, .lst 6 none (encSets kids)]
def encSets : List Set' → List (List V)
 | [] => []
 | d :: r => encSet d :: encSets r
end
theorem encSets_map : ∀ l : List Set', encSets l = l.map encSet
 | [] => rfl
 | d :: r => by simp only [encSets, List.map_cons, encSets_map r]
theorem encSet_mk (k : Int) (n : Str) (ns az : List Str) (p : Str) (kids : List Set') : encSet (.mk k n ns az p kids) = [.int .i64 k, .str n, encS ns, encS az, .str p, .lst 6 none (kids.map encSet)] := by
 simp only [encSet, encSets_map]
theorem Set'.ind {p : Set' → Prop} (h : ∀ k n ns az pr kids, (∀ d ∈ kids, p d) → p (.mk k n ns az pr kids)) (d : Set') : p d :=
 Set'.rec (motive_1 := p) (motive_2 := fun l => ∀ d ∈ l, p d) h (by simp) (fun d r h1 h2 x hx => by rcases List.mem_cons.1 hx with rfl | hx; exact h1; exact h2 x hx) d
/-- A datum. -/
inductive Datum where
 | mk (kind n : Int) (name : Str) (stamp lib : Int) (kids : List Datum)
mutual
def encD : Datum → List V
 | .mk k n nm s l kids => [.int .i64 k, .int .i64 n, .str nm, .int .i64 s, .int .i64 l, .lst 6 none (encDs kids)]
def encDs : List Datum → List (List V)
 | [] => []
 | d :: r => encD d :: encDs r
end
theorem encDs_map : ∀ l : List Datum, encDs l = l.map encD
 | [] => rfl
 | d :: r => by simp only [encDs, List.map_cons, encDs_map r]
theorem encD_mk (k n : Int) (nm : Str) (s l : Int) (kids : List Datum) : encD (.mk k n nm s l kids) = [.int .i64 k, .int .i64 n, .str nm, .int .i64 s, .int .i64 l, .lst 6 none (kids.map encD)] := by
 simp only [encD, encDs_map]
theorem encD_len (d : Datum) : (encD d).length = 6 := by cases d; rfl
mutual
theorem encD_lt (n : Nat) : ∀ d : Datum, ltL n (encD d)
 | .mk k m nm s l kids => by
  simp only [encD, ltL, V.lt, true_and, and_true]
  exact ⟨fun e h => (by cases h), encDs_lt n kids⟩
theorem encDs_lt (n : Nat) : ∀ l : List Datum, ltRows n (encDs l)
 | [] => trivial
 | d :: r => ⟨encD_lt n d, encDs_lt n r⟩
end
theorem Datum.ind {p : Datum → Prop} (h : ∀ k n nm s l kids, (∀ d ∈ kids, p d) → p (.mk k n nm s l kids)) (d : Datum) : p d :=
 Datum.rec (motive_1 := p) (motive_2 := fun l => ∀ d ∈ l, p d) h (by simp) (fun d r h1 h2 x hx => by rcases List.mem_cons.1 hx with rfl | hx; exact h1; exact h2 x hx) d
mutual
/-- What is wrong with a datum, so many nodes behind; and how many nodes then. -/
def shapeD : Datum → Int → Int → Int × Int
 | .mk k n nm s l kids, deep, c =>
  bif decide (2000 < c + 1) || decide (40 < deep) then (4, c + 1)
  else bif decide (k = 1) then (bif decide (1000000000000000 < n) || decide (n < -1000000000000000) then (3, c + 1) else (0, c + 1))
  else bif decide (k = 2) then (bif decide (n = 0) || decide (n = 1) then (0, c + 1) else (3, c + 1))
  else bif decide (k = 3) then (bif !namedB nm then (7, c + 1) else bif decide (s = 0) && decide (l = 0) then (0, c + 1) else (8, c + 1))
  else bif decide (k = 4) then shapeDs kids (deep + 1) (c + 1)
  else (1, c + 1)
def shapeDs : List Datum → Int → Int → Int × Int
 | [], _, c => (0, c)
 | d :: r, deep, c => bif decide ((shapeD d deep c).1 = 0) then shapeDs r deep (shapeD d deep c).2 else shapeD d deep c
end
mutual
theorem shapeD_ok : ∀ (d : Datum) (deep c : Int), 0 ≤ c → (shapeD d deep c).1 = 0 → c ≤ (shapeD d deep c).2 ∧ (shapeD d deep c).2 ≤ 2000
 | .mk k n nm s l kids, deep, c, h0, h => by
  unfold shapeD at h ⊢
  cases h1 : (decide (2000 < c + 1) || decide (40 < deep)) with
  | true => rw [h1] at h; simp at h
  | false =>
   have hc : c + 1 ≤ 2000 := by simp at h1; omega
   rw [h1] at h
   simp only [cond_false] at h ⊢
   cases h2 : decide (k = 1) <;> rw [h2] at h <;> simp only [cond_false, cond_true] at h ⊢
   ·cases h3 : decide (k = 2) <;> rw [h3] at h <;> simp only [cond_false, cond_true] at h ⊢
    ·cases h4 : decide (k = 3) <;> rw [h4] at h <;> simp only [cond_false, cond_true] at h ⊢
     ·cases h5 : decide (k = 4) <;> rw [h5] at h <;> simp only [cond_false, cond_true] at h ⊢
      ·simp at h
      ·have := shapeDs_ok kids (deep + 1) (c + 1) (by omega) hc h
       exact ⟨by omega, this.2⟩
     ·revert h
      cases namedB nm <;> cases (decide (s = 0) && decide (l = 0)) <;> simp <;> omega
    ·revert h
     cases (decide (n = 0) || decide (n = 1)) <;> simp <;> omega
   ·revert h
    cases (decide (1000000000000000 < n) || decide (n < -1000000000000000)) <;> simp <;> omega
theorem shapeDs_ok : ∀ (l : List Datum) (deep c : Int), 0 ≤ c → c ≤ 2000 → (shapeDs l deep c).1 = 0 → c ≤ (shapeDs l deep c).2 ∧ (shapeDs l deep c).2 ≤ 2000
 | [], deep, c, h0, h1, h => by simp only [shapeDs]; omega
 | d :: r, deep, c, h0, h1, h => by
  simp only [shapeDs] at h ⊢
  cases h2 : decide ((shapeD d deep c).1 = 0) with
  | true =>
   rw [h2] at h
   simp only [cond_true] at h ⊢
   have k1 := shapeD_ok d deep c h0 (of_decide_eq_true h2)
   have k2 := shapeDs_ok r deep _ (by omega) k1.2 h
   omega
  | false =>
   rw [h2] at h
   simp only [cond_false] at h
   exact absurd h (of_decide_eq_false h2)
end
/-- A mark in a box is counted up. -/
theorem set_self {st : St} {o : Nat} {e : Ent} (h : st[o]? = some e) : st.set o e = st := by
 apply List.ext_getElem?
 intro i
 by_cases hi : o = i
 ·subst hi; rw [List.getElem?_set_self (List.getElem?_eq_some_iff.1 h).1, h]
 ·rw [List.getElem?_set_ne hi]
theorem or_no {a b : Bool} (h : (!a && !b) = true) : (a || b) = false := by revert h; cases a <;> cases b <;> simp
theorem or_yes {a b : Bool} (h : (!a && !b) = false) : (a || b) = true := by revert h; cases a <;> cases b <;> simp
theorem and_no {a b : Bool} (h : (!a || !b) = true) : (a && b) = false := by revert h; cases a <;> cases b <;> simp
theorem and_yes {a b : Bool} (h : (!a || !b) = false) : (a && b) = true := by revert h; cases a <;> cases b <;> simp
theorem not_yes {a : Bool} (h : (!a) = true) : a = false := by revert h; cases a <;> simp
theorem not_no {a : Bool} (h : (!a) = false) : a = true := by revert h; cases a <;> simp
theorem c_shape (d : Datum) : ∀ (st : St) (o : Nat) (c deep : Int), st[o]? = some (.box [.int .i64 c]) → 0 ≤ c → c ≤ 2000 → 0 ≤ deep → deep ≤ 41 →
  VCalls Tryz.prog TT 40 [.ptr o 0, .ref (encD d), .int .i64 deep] st fun r st' => r = .ret (.int .i64 (shapeD d deep c).1) ∧ st' = st.set o (.box [.int .i64 (shapeD d deep c).2]) := by
 refine Datum.ind (p := fun d => ∀ (st : St) (o : Nat) (c deep : Int), st[o]? = some (.box [.int .i64 c]) → 0 ≤ c → c ≤ 2000 → 0 ≤ deep → deep ≤ 41 →
  VCalls Tryz.prog TT 40 [.ptr o 0, .ref (encD d), .int .i64 deep] st fun r st' => r = .ret (.int .i64 (shapeD d deep c).1) ∧ st' = st.set o (.box [.int .i64 (shapeD d deep c).2])) ?_ d
 intro k n nm s l kids ih st o c deep ho h0 h1 h2 h3
 refine vfun TT_ok (an := anL []) (L := [0, 1, 2, 6, 7, 8, 28, 83, 84]) (rs := [.tmp 6]) Tryz.func40 rfl (by kernel_rfl) rfl Tryz.ntmps40 rfl rfl (Nat.le_of_eq (List.length_set ..).symm) fun hst ha hf => ?_
 have hlt : o < st.length := (List.getElem?_eq_some_iff.1 ho).1
 have hset : ∀ c', (st.set o (.box [.int .i64 c']))[o]? = some (.box [.int .i64 c']) := fun c' => List.getElem?_set_self hlt
 simp only [encD_mk]
 simp only [gw0, qqE, ↓reduceIte, qqA, qqL, qqD, qqM, ho, hset, wrap_i64 (show -9223372036854775808 ≤ c + 1 by omega) (show c + 1 ≤ 9223372036854775807 by omega)]
 have hok : ∀ c', St.ok (st.set o (.box [.int .i64 c'])) := by
  intro c' e he
  rw [List.length_set]
  rcases List.mem_or_eq_of_mem_set he with h | rfl
  ·exact hst e h
  ·simp [Ent.lt, ltL, V.lt]
 have hgv : ∀ (e c' e' c'' : Int), (e, c') = (e', c'') → Gives (.int .i64 e') (st.set o (.box [.int .i64 c''])) (.ret (.int .i64 e)) (st.set o (.box [.int .i64 c'])) := by
  intro e c' e' c'' h
  cases h
  exact gives_int rfl (hok c')
 unfold shapeD
 refine iK_split (fun h => ?_) (fun h => ?_)
 ·rw [h]
  simp only [gw0, qqE, ↓reduceIte, qqA, qqL, qqD, qqM]
  exact hgv _ _ _ _ rfl
 rw [h]
 have hc : c + 1 ≤ 2000 ∧ deep ≤ 40 := by simp at h; omega
 simp only [gw0, qqE, ↓reduceIte, qqA, qqL, qqD, qqM]
 refine iK_split (fun h1 => ?_) (fun h1 => ?_)
 ·rw [h1]
  simp only [gw0, qqE, ↓reduceIte, qqA, qqL, qqD, qqM]
  refine iK_split (fun h2 => ?_) (fun h2 => ?_)
  ·rw [h2]
   simp only [gw0, qqE, ↓reduceIte, qqA, qqL, qqD, qqM]
   exact hgv _ _ _ _ rfl
  ·rw [h2]
   simp only [gw0, qqE, ↓reduceIte, qqA, qqL, qqD, qqM]
   exact hgv _ _ _ _ rfl
 rw [h1]
 simp only [gw0, qqE, ↓reduceIte, qqA, qqL, qqD, qqM]
 refine iK_split (fun h2 => ?_) (fun h2 => ?_)
 ·rw [h2]
  simp only [gw0, qqE, ↓reduceIte, qqA, qqL, qqD, qqM]
  refine iK_split (fun h3 => ?_) (fun h3 => ?_)
  ·rw [or_no h3]
   simp only [gw0, qqE, ↓reduceIte, qqA, qqL, qqD, qqM]
   exact hgv _ _ _ _ rfl
  ·rw [or_yes h3]
   simp only [gw0, qqE, ↓reduceIte, qqA, qqL, qqD, qqM]
   exact hgv _ _ _ _ rfl
 rw [h2]
 simp only [gw0, qqE, ↓reduceIte, qqA, qqL, qqD, qqM]
 refine iK_split (fun h3 => ?_) (fun h3 => ?_)
 ·rw [h3]
  simp only [gw0, qqE, ↓reduceIte, qqA, qqL, qqD, qqM]
  refine (c_text_Named _ nm).use (wkL_refl _) fun _ => ?_
  simp only [gw0, qqE, ↓reduceIte, qqA, qqL, qqD, qqM]
  refine iK_split (fun h4 => ?_) (fun h4 => ?_)
  ·rw [h4]
   simp only [gw0, qqE, ↓reduceIte, qqA, qqL, qqD, qqM]
   exact hgv _ _ _ _ rfl
  rw [h4]
  simp only [gw0, qqE, ↓reduceIte, qqA, qqL, qqD, qqM]
  refine iK_split (fun h5 => ?_) (fun h5 => ?_)
  ·rw [and_no h5]
   simp only [gw0, qqE, ↓reduceIte, qqA, qqL, qqD, qqM]
   exact hgv _ _ _ _ rfl
  ·rw [and_yes h5]
   simp only [gw0, qqE, ↓reduceIte, qqA, qqL, qqD, qqM]
   exact hgv _ _ _ _ rfl
 rw [h3]
 simp only [gw0, qqE, ↓reduceIte, qqA, qqL, qqD, qqM]
 refine iK_split (fun h4 => ?_) (fun h4 => ?_)
 ·rw [h4]
  simp only [gw0, qqE, ↓reduceIte, qqA, qqL, qqD, qqM, List.length_map]
  simp only [encD_mk, fitL, V.fit, List.length_map] at hf
  have hkl : kids.length ≤ 9223372036854775807 := by simp at hf; omega
  refine vfor (σ := Nat × Int) [0, 1, 2, 6, 83, 84] (fun x => [(0, true, .ptr o 0), (1, true, .ref (encD (.mk k n nm s l kids))), (2, true, .int .i64 deep), (6, true, .int .i64 0), (83, true, .int .i64 kids.length), (84, true, .int .i64 x.1)]) (fun x => st.set o (.box [.int .i64 x.2])) (fun x => kids.length - x.1) (fun x => x.1 ≤ kids.length ∧ 0 ≤ x.2 ∧ x.2 ≤ 2000 ∧ shapeDs kids (deep + 1) (c + 1) = shapeDs (kids.drop x.1) (deep + 1) x.2) (0, c + 1) rfl TT_ok ⟨Nat.zero_le _, by omega, by omega, rfl⟩ (by rw [encD_mk]; rfl) rfl ?_
  rintro ⟨i, ci⟩ ⟨hi, hc0, hc1, hx⟩
  simp only at hi hc0 hc1 hx
  rw [hx]
  simp only [encD_mk]
  rcases at_or_end kids i hi with ⟨rfl, hd⟩ | ⟨a, hlt2, hget, hdr⟩
  ·simp only [gw0, qqE, ↓reduceIte, qqA, qqL, qqD, qqM, lt_no, hd, shapeDs]
   exact hgv _ _ _ _ rfl
  ·simp only [gw0, qqE, ↓reduceIte, qqA, qqL, qqD, qqM, lt_yes hlt2, hdr, shapeDs, List.length_map, getD_map hget, Int.ofNat_lt.mpr hlt2, wrap_i64 (show -9223372036854775808 ≤ deep + 1 by omega) (show deep + 1 ≤ 9223372036854775807 by omega)]
   refine (ih a (List.mem_of_getElem? hget) (st.set o (.box [.int .i64 ci])) o ci (deep + 1) (hset ci) hc0 hc1 (by omega) (by omega)).use (wkL_refl _) fun _ => ?_
   simp only [gw0, qqE, ↓reduceIte, qqA, qqL, qqD, qqM, List.set_set]
   refine iK_split (fun h5 => ?_) (fun h5 => ?_)
   ·rw [not_yes h5]
    simp only [gw0, qqE, ↓reduceIte, qqA, qqL, qqD, qqM]
    exact hgv _ _ _ _ rfl
   ·have h6 : decide ((shapeD a (deep + 1) ci).1 = 0) = true := by simpa using h5
    have h7 := shapeD_ok a (deep + 1) ci hc0 (of_decide_eq_true h6)
    rw [h6]
    simp only [gw0, qqE, ↓reduceIte, qqA, qqL, qqD, qqM, Env.keep]
    exact ⟨(i + 1, (shapeD a (deep + 1) ci).2), by rw [next_i64 hlt2 hkl], rfl, by simp only; omega, by simp only; omega, by simp only; omega, h7.2, rfl⟩
 ·rw [h4]
  simp only [gw0, qqE, ↓reduceIte, qqA, qqL, qqD, qqM]
  exact hgv _ _ _ _ rfl
def fltV (f : Int × Int) : V := .agg [.int .i64 f.1, .int .i64 f.2]
/-- What is wrong with data, and with which. -/
def wrongL : List Datum → Nat → Int → Int × Int
 | [], _, _ => (0, 0)
 | d :: r, i, c => bif decide ((shapeD d 1 c).1 = 0) then wrongL r (i + 1) (shapeD d 1 c).2 else ((shapeD d 1 c).1, (i : Int))
def lstD (l : List Datum) : V := .lst 6 none (l.map encD)
theorem c_text_Wrong (st : St) (l : List Datum) : VCalls Tryz.prog TT 13 [lstD l] st fun r st' => r = .ret (fltV (wrongL l 0 0)) ∧ st' = st := by
 refine vfun TT_ok (an := anL []) (L := [0, 2, 3, 4, 5, 9, 10]) (rs := [.cell 2 40]) Tryz.func13 rfl (by kernel_rfl) rfl Tryz.ntmps13 rfl rfl (Nat.le_refl _) fun hst ha hf => ?_
 simp only [lstD, fltV, fitL, V.fit, List.length_map] at hf ⊢
 have hkl : l.length ≤ 9223372036854775807 := by simp at hf; omega
 simp only [gw0, qqE, ↓reduceIte, qqA, qqL, qqD, qqM, List.length_map]
 refine vfor (σ := Nat × Int) [0, 2, 3, 9, 10] (fun x => [(0, true, lstD l), (2, true, .ptr st.length 0), (3, true, .ptr (st.length + 1) 0), (9, true, .int .i64 l.length), (10, true, .int .i64 x.1)]) (fun x => st ++ [.box [.int .i64 0, .int .i64 0], .box [.int .i64 x.2]]) (fun x => l.length - x.1) (fun x => x.1 ≤ l.length ∧ 0 ≤ x.2 ∧ x.2 ≤ 2000 ∧ wrongL l 0 0 = wrongL (l.drop x.1) x.1 x.2) (0, 0) rfl TT_ok ⟨Nat.zero_le _, by omega, by omega, rfl⟩ rfl rfl ?_
 rintro ⟨i, c⟩ ⟨hi, hc0, hc1, hx⟩
 simp only at hi hc0 hc1 hx
 rw [hx]
 simp only [lstD]
 rcases at_or_end l i hi with ⟨rfl, hd⟩ | ⟨a, hlt, hget, hdr⟩
 ·simp only [gw0, qqE, ↓reduceIte, qqA, qqL, qqD, qqM, lt_no, hd, wrongL]
  exact gives_of (wk_refl _) (wkSt_refl _) (by simp [V.lt, ltL]) hst
 ·simp only [gw0, qqE, ↓reduceIte, qqA, qqL, qqD, qqM, lt_yes hlt, hdr, wrongL, List.length_map, getD_map hget, Int.ofNat_lt.mpr hlt]
  refine (c_shape a (st ++ [.box [.int .i64 0, .int .i64 0], .box [.int .i64 c]]) (st.length + 1) c 1 (by simp only [gwL]) hc0 hc1 (by omega) (by omega)).use (wkL_refl _) fun _ => ?_
  simp only [gw0, qqE, ↓reduceIte, qqA, qqL, qqD, qqM]
  refine iK_split (fun h5 => ?_) (fun h5 => ?_)
  ·rw [not_yes h5]
   simp only [gw0, qqE, ↓reduceIte, qqA, qqL, qqD, qqM]
   exact gives_of (wk_refl _) (wkSt_refl _) (by simp [V.lt, ltL]) hst
  ·have h6 : decide ((shapeD a 1 c).1 = 0) = true := by simpa using h5
   have h7 := shapeD_ok a 1 c hc0 (of_decide_eq_true h6)
   rw [h6]
   simp only [gw0, qqE, ↓reduceIte, qqA, qqL, qqD, qqM, Env.keep]
   exact ⟨(i + 1, (shapeD a 1 c).2), by rw [next_i64 hlt hkl], rfl, by simp only; omega, by simp only; omega, by simp only; omega, h7.2, rfl⟩
theorem encD_take (d : Datum) : (encD d).take 6 = encD d := List.take_of_length_le (by rw [encD_len]; exact Nat.le_refl _)
theorem encD_drop (d : Datum) : (encD d).drop 6 = [] := List.drop_of_length_le (by rw [encD_len]; exact Nat.le_refl _)
theorem lt_box {st : St} {o : Nat} {k : IntKind} {c : Int} (hst : St.ok st) : St.ok (st.set o (.box [.int k c])) := by
 intro e he
 rw [List.length_set]
 rcases List.mem_or_eq_of_mem_set he with h | rfl
 ·exact hst e h
 ·simp [Ent.lt, ltL, V.lt]
theorem or_lt {n : Int} : (decide (n < -1000000000000000) || decide (1000000000000000 < n)) = (decide (1000000000000000 < n) || decide (n < -1000000000000000)) := Bool.or_comm _ _
theorem or_bit {n : Int} : (decide (n < 0) || decide (1 < n)) = !(decide (n = 0) || decide (n = 1)) := by
 by_cases h0 : n = 0
 ·subst h0; rfl
 ·by_cases h1 : n = 1
  ·subst h1; rfl
  ·simp [h0, h1]; omega
theorem bz25 : type_of% @List.length_map.{0,0} ∧ type_of% @Nat.le_refl ∧ type_of% @encD_drop ∧ type_of% @encD_len ∧ type_of% @encD_take := ⟨@List.length_map.{0,0}, @Nat.le_refl, @encD_drop, @encD_len, @encD_take⟩
theorem c_Shape (d : Datum) : ∀ (st : St) (o : Nat) (c deep : Int), st[o]? = some (.box [.int .i64 c]) → 0 ≤ c → c ≤ 2000 → 0 ≤ deep → deep ≤ 41 →
  VCalls Tryz.prog TT 48 [.agg (encD d), .int .i64 deep, .ptr o 0] st fun r st' => r = .ret (.int .i64 (shapeD d deep c).1) ∧ st' = st.set o (.box [.int .i64 (shapeD d deep c).2]) := by
 refine Datum.ind (p := fun d => ∀ (st : St) (o : Nat) (c deep : Int), st[o]? = some (.box [.int .i64 c]) → 0 ≤ c → c ≤ 2000 → 0 ≤ deep → deep ≤ 41 →
  VCalls Tryz.prog TT 48 [.agg (encD d), .int .i64 deep, .ptr o 0] st fun r st' => r = .ret (.int .i64 (shapeD d deep c).1) ∧ st' = st.set o (.box [.int .i64 (shapeD d deep c).2])) ?_ d
 intro k n nm s l kids ih st o c deep ho h0 h1 h2 h3
 refine vfun TT_ok (an := anL [(3, 1)]) (L := [0, 1, 2, 3, 6, 8, 9, 25, 63, 64, 65]) (rs := [.tmp 6]) Tryz.func48 rfl (by kernel_rfl) rfl Tryz.ntmps48 rfl rfl (Nat.le_of_eq (List.length_set ..).symm) fun hst ha hf => ?_
 have hlt : o < st.length := (List.getElem?_eq_some_iff.1 ho).1
 have hset : ∀ c', (st.set o (.box [.int .i64 c']))[o]? = some (.box [.int .i64 c']) := fun c' => List.getElem?_set_self hlt
 simp only [encD_mk]
 simp only [gw0, qqE, ↓reduceIte, qqA, qqL, qqD, qqM, ho, hset, wrap_i64 (show -9223372036854775808 ≤ c + 1 by omega) (show c + 1 ≤ 9223372036854775807 by omega)]
 have hgv : ∀ (e c' e' c'' : Int), (e, c') = (e', c'') → Gives (.int .i64 e') (st.set o (.box [.int .i64 c''])) (.ret (.int .i64 e)) (st.set o (.box [.int .i64 c'])) := by
  intro e c' e' c'' h
  cases h
  exact gives_int rfl (lt_box hst)
 unfold shapeD
 refine iK_split (fun h => ?_) (fun h => ?_)
 ·rw [h]
  simp only [gw0, qqE, ↓reduceIte, qqA, qqL, qqD, qqM]
  exact hgv _ _ _ _ rfl
 rw [h]
 have hc : c + 1 ≤ 2000 ∧ deep ≤ 40 := by simp at h; omega
 simp only [gw0, qqE, ↓reduceIte, qqA, qqL, qqD, qqM]
 refine iK_split (fun h1 => ?_) (fun h1 => ?_)
 ·rw [h1]
  simp only [gw0, qqE, ↓reduceIte, qqA, qqL, qqD, qqM, or_lt]
  refine iK_split (fun h2 => ?_) (fun h2 => ?_)
  ·rw [h2]
   simp only [gw0, qqE, ↓reduceIte, qqA, qqL, qqD, qqM]
   exact hgv _ _ _ _ rfl
  ·rw [h2]
   simp only [gw0, qqE, ↓reduceIte, qqA, qqL, qqD, qqM]
   exact hgv _ _ _ _ rfl
 rw [h1]
 simp only [gw0, qqE, ↓reduceIte, qqA, qqL, qqD, qqM]
 refine iK_split (fun h2 => ?_) (fun h2 => ?_)
 ·rw [h2]
  simp only [gw0, qqE, ↓reduceIte, qqA, qqL, qqD, qqM, or_bit]
  refine iK_split (fun h3 => ?_) (fun h3 => ?_)
  ·rw [not_yes h3]
   simp only [gw0, qqE, ↓reduceIte, qqA, qqL, qqD, qqM]
   exact hgv _ _ _ _ rfl
  ·rw [not_no h3]
   simp only [gw0, qqE, ↓reduceIte, qqA, qqL, qqD, qqM]
   exact hgv _ _ _ _ rfl
 rw [h2]
 simp only [gw0, qqE, ↓reduceIte, qqA, qqL, qqD, qqM]
 refine iK_split (fun h3 => ?_) (fun h3 => ?_)
 ·rw [h3]
  simp only [gw0, qqE, ↓reduceIte, qqA, qqL, qqD, qqM]
  refine (c_ref_Named _ nm).use (wkL_refl _) fun _ => ?_
  simp only [gw0, qqE, ↓reduceIte, qqA, qqL, qqD, qqM]
  refine iK_split (fun h4 => ?_) (fun h4 => ?_)
  ·rw [h4]
   simp only [gw0, qqE, ↓reduceIte, qqA, qqL, qqD, qqM]
   exact hgv _ _ _ _ rfl
  rw [h4]
  simp only [gw0, qqE, ↓reduceIte, qqA, qqL, qqD, qqM]
  refine iK_split (fun h5 => ?_) (fun h5 => ?_)
  ·rw [and_no h5]
   simp only [gw0, qqE, ↓reduceIte, qqA, qqL, qqD, qqM]
   exact hgv _ _ _ _ rfl
  ·rw [and_yes h5]
   simp only [gw0, qqE, ↓reduceIte, qqA, qqL, qqD, qqM]
   exact hgv _ _ _ _ rfl
 rw [h3]
 simp only [gw0, qqE, ↓reduceIte, qqA, qqL, qqD, qqM]
 refine iK_split (fun h4 => ?_) (fun h4 => ?_)
 ·rw [h4]
  simp only [gw0, qqE, ↓reduceIte, qqA, qqL, qqD, qqM, List.length_map]
  simp only [encD_mk, fitL, V.fit, List.length_map] at hf
  have hkl : kids.length ≤ 9223372036854775807 := by simp at hf; omega
  refine vforD (σ := Nat × Int) [0, 1, 2, 6, 63, 64, 65] (fun x => [(0, true, .agg (encD (.mk k n nm s l kids))), (1, true, .int .i64 deep), (2, true, .ptr o 0), (6, true, .int .i64 0), (63, true, lstD kids), (64, true, .int .i64 kids.length), (65, true, .int .i64 x.1)]) (fun x => st.set o (.box [.int .i64 x.2])) (fun x => kids.length - x.1) (fun x => x.1 ≤ kids.length ∧ 0 ≤ x.2 ∧ x.2 ≤ 2000 ∧ shapeDs kids (deep + 1) (c + 1) = shapeDs (kids.drop x.1) (deep + 1) x.2) (0, c + 1) rfl TT_ok ⟨Nat.zero_le _, by omega, by omega, rfl⟩ (by rw [encD_mk]; exact wkE_refl _) rfl ?_
  rintro ⟨i, ci⟩ ⟨hi, hc0, hc1, hx⟩
  simp only at hi hc0 hc1 hx
  rw [hx]
  simp only [lstD]
  rcases at_or_end kids i hi with ⟨rfl, hd⟩ | ⟨a, hlt2, hget, hdr⟩
  ·simp only [gw0, qqE, ↓reduceIte, qqA, qqL, qqD, qqM, lt_no, hd, shapeDs]
   exact hgv _ _ _ _ rfl
  ·simp only [bz25, gw0, qqE, ↓reduceIte, qqA, qqL, qqD, qqM, lt_yes hlt2, hdr, shapeDs, getD_map hget, Int.ofNat_lt.mpr hlt2, wrap_i64 (show -9223372036854775808 ≤ deep + 1 by omega) (show deep + 1 ≤ 9223372036854775807 by omega)]
   refine (ih a (List.mem_of_getElem? hget) (st.set o (.box [.int .i64 ci]) ++ [.box (encD a)]) o ci (deep + 1) (by rw [st_old (by rw [List.length_set]; exact hlt)]; exact hset ci) hc0 hc1 (by omega) (by omega)).use (wkL_refl _) fun _ => ?_
   simp only [gw0, qqE, ↓reduceIte, qqA, qqL, qqD, qqM, st_oldset (show o < (st.set o (.box [.int .i64 ci])).length by rw [List.length_set]; exact hlt), List.set_set]
   refine iK_split (fun h5 => ?_) (fun h5 => ?_)
   ·rw [not_yes h5]
    simp only [gw0, qqE, ↓reduceIte, qqA, qqL, qqD, qqM]
    exact gives_int' rfl (lt_box hst)
   ·have h6 : decide ((shapeD a (deep + 1) ci).1 = 0) = true := by simpa using h5
    have h7 := shapeD_ok a (deep + 1) ci hc0 (of_decide_eq_true h6)
    rw [h6]
    simp only [gw0, qqE, ↓reduceIte, qqA, qqL, qqD, qqM]
    refine ⟨(i + 1, (shapeD a (deep + 1) ci).2), ⟨?_, _, _, rfl, wkSt_refl _, ?_, lt_box hst, by simp only [List.length_set]; exact Nat.le_refl _⟩, by simp only; omega, by simp only; omega, by simp only; omega, h7.2, rfl⟩
    ·simp only [gw0, qqE, ↓reduceIte, qqA, qqL, qqD, qqM, Env.keep, next_i64 hlt2 hkl]
     exact wkE_refl _
    ·simp only [ltE, V.lt, List.length_set, lstD]
     exact ⟨encD_lt _ _, trivial, hlt, trivial, ⟨fun e h => (by cases h), by rw [← encDs_map]; exact encDs_lt _ _⟩, trivial, trivial, trivial⟩
 ·rw [h4]
  simp only [gw0, qqE, ↓reduceIte, qqA, qqL, qqD, qqM]
  exact hgv _ _ _ _ rfl
theorem lstD_lt (n : Nat) (l : List Datum) : (lstD l).lt n := by
 simp only [lstD, V.lt]
 exact ⟨fun e h => (by cases h), by rw [← encDs_map]; exact encDs_lt _ _⟩
theorem c_ref_Wrong (st : St) (l : List Datum) : VCalls Tryz.prog TT 20 [lstD l] st fun r st' => r = .ret (fltV (wrongL l 0 0)) ∧ st' = st := by
 refine vfun TT_ok (an := anL []) (L := [0, 2, 3, 4, 5, 6, 7, 8, 9]) (rs := [.cell 2 40]) Tryz.func20 rfl (by kernel_rfl) rfl Tryz.ntmps20 rfl rfl (Nat.le_refl _) fun hst ha hf => ?_
 simp only [lstD, fltV, fitL, V.fit, List.length_map] at hf ⊢
 have hkl : l.length ≤ 9223372036854775807 := by simp at hf; omega
 simp only [gw0, qqE, ↓reduceIte, qqA, qqL, qqD, qqM, List.length_map]
 refine vforD (σ := Nat × Int) [0, 2, 3, 7, 8, 9] (fun x => [(0, true, lstD l), (2, true, .ptr st.length 0), (3, true, .ptr (st.length + 1) 0), (7, true, lstD l), (8, true, .int .i64 l.length), (9, true, .int .i64 x.1)]) (fun x => st ++ [.box [.int .i64 0, .int .i64 0], .box [.int .i64 x.2]]) (fun x => l.length - x.1) (fun x => x.1 ≤ l.length ∧ 0 ≤ x.2 ∧ x.2 ≤ 2000 ∧ wrongL l 0 0 = wrongL (l.drop x.1) x.1 x.2) (0, 0) rfl TT_ok ⟨Nat.zero_le _, by omega, by omega, rfl⟩ (wkE_refl _) rfl ?_
 rintro ⟨i, c⟩ ⟨hi, hc0, hc1, hx⟩
 simp only at hi hc0 hc1 hx
 rw [hx]
 simp only [lstD]
 rcases at_or_end l i hi with ⟨rfl, hd⟩ | ⟨a, hlt, hget, hdr⟩
 ·simp only [gw0, qqE, ↓reduceIte, qqA, qqL, qqD, qqM, lt_no, hd, wrongL]
  exact gives_of (wk_refl _) (wkSt_refl _) (by simp [V.lt, ltL]) hst
 ·simp only [bz25, gw0, qqE, ↓reduceIte, qqA, qqL, qqD, qqM, lt_yes hlt, hdr, wrongL, getD_map hget, Int.ofNat_lt.mpr hlt]
  refine (c_Shape a (st ++ [.box [.int .i64 0, .int .i64 0], .box [.int .i64 c], .box (encD a)]) (st.length + 1) c 1 (by simp only [gwL]) hc0 hc1 (by omega) (by omega)).use (wkL_refl _) fun _ => ?_
  simp only [gw0, qqE, ↓reduceIte, qqA, qqL, qqD, qqM]
  refine iK_split (fun h5 => ?_) (fun h5 => ?_)
  ·rw [not_yes h5]
   simp only [gw0, qqE, ↓reduceIte, qqA, qqL, qqD, qqM]
   exact gives_of (wk_refl _) (wkSt_refl _) (by simp [V.lt, ltL]) hst
  ·have h6 : decide ((shapeD a 1 c).1 = 0) = true := by simpa using h5
   have h7 := shapeD_ok a 1 c hc0 (of_decide_eq_true h6)
   rw [h6]
   simp only [gw0, qqE, ↓reduceIte, qqA, qqL, qqD, qqM]
   refine ⟨(i + 1, (shapeD a 1 c).2), ⟨?_, st ++ [.box [.int .i64 0, .int .i64 0], .box [.int .i64 (shapeD a 1 c).2]], [.box (encD a)], by simp only [gwL], wkSt_refl _, ?_, ?_, by simp⟩, by simp only; omega, by simp only; omega, by simp only; omega, h7.2, rfl⟩
   ·simp only [gw0, qqE, ↓reduceIte, qqA, qqL, qqD, qqM, Env.keep, next_i64 hlt hkl]
    exact wkE_refl _
   ·simp only [ltE, V.lt, gwL, lstD_lt, and_true, true_and]
    exact ⟨lstD_lt _ _, by omega, by omega, lstD_lt _ _⟩
   ·exact ok_app hst (by simp [ltEs, Ent.lt, ltL, V.lt])
theorem encS_lt (n : Nat) (l : List Str) : (encS l).lt n := by
 simp only [encS, V.lt]
 refine ⟨fun e h => (by cases h), ltRows_map fun x _ => ?_⟩
 simp [ltL, V.lt]
theorem take_next {α : Type} {l : List α} {i : Nat} {a : α} (h : l[i]? = some a) : l.take (i + 1) = l.take i ++ [a] := by
 rw [List.take_add_one, h]; rfl
set_option linter.unusedVariables false
mutual
def eqD : Datum → Datum → Bool
 | .mk k n nm s l kids, .mk k' n' nm' s' l' kids' =>
  bif decide (k = k') then
   bif decide (k = 1) then decide (n = n') else bif decide (k = 2) then decide (n = n')
   else bif decide (k = 3) then (decide (nm = nm') && decide (s = s')) && decide (l = l')
   else bif decide (k = 4) then eqDs kids kids' else true
  else false
def eqDs : List Datum → List Datum → Bool
 | [], [] => true
 | a :: r, b :: r' => eqD a b && eqDs r r'
 | [], _ :: _ => false
 | _ :: _, [] => false
end
theorem eqDs_len : ∀ {l m : List Datum}, l.length ≠ m.length → eqDs l m = false
 | [], [], h => absurd rfl h
 | [], _ :: _, _ => by simp only [eqDs]
 | _ :: _, [], _ => by simp only [eqDs]
 | a :: r, b :: r', h => by
  simp only [eqDs, eqDs_len (l := r) (m := r') (by simpa using h), Bool.and_false]
theorem c_Same_of (l : List Datum) (ih : ∀ d ∈ l, ∀ (e : Datum) (st : St), VCalls Tryz.prog TT 10 [.agg (encD d), .agg (encD e)] st fun r st' => r = .ret (.bool (eqD d e)) ∧ st' = st) (m : List Datum) (st : St) :
  VCalls Tryz.prog TT 29 [lstD l, lstD m] st fun r st' => r = .ret (.bool (eqDs l m)) ∧ st' = st := by
 refine vfun TT_ok (an := anL []) (L := [0, 1, 4, 5, 12, 13]) (rs := [.tmp 4]) Tryz.func29 rfl (by kernel_rfl) rfl Tryz.ntmps29 rfl rfl (Nat.le_refl _) fun hst ha hf => ?_
 simp only [lstD, fitL, V.fit, List.length_map] at hf ⊢
 have hkl : l.length ≤ 9223372036854775807 := by simp at hf; omega
 simp only [gw0, qqE, ↓reduceIte, qqA, qqL, qqD, qqM, List.length_map]
 refine iK_split (fun h => ?_) (fun h => ?_)
 ·simp only [gw0, qqE, ↓reduceIte, qqA, qqL, qqD, qqM]
  refine gives_bool ?_ hst
  rw [eqDs_len]
  simp at h
  omega
 have hlen : l.length = m.length := by simp at h; omega
 simp only [gw0, qqE, ↓reduceIte, qqA, qqL, qqD, qqM, List.length_map]
 refine vfor (σ := Nat) [0, 1, 4, 12, 13] (fun i => [(0, true, lstD l), (1, true, lstD m), (4, true, .bool false), (12, true, .int .i64 l.length), (13, true, .int .i64 i)]) (fun i => st) (fun i => l.length - i) (fun i => i ≤ l.length ∧ eqDs l m = eqDs (l.drop i) (m.drop i)) 0 rfl TT_ok ⟨Nat.zero_le _, rfl⟩ rfl rfl ?_
 rintro i ⟨hi, hx⟩
 rw [hx]
 simp only [lstD]
 rcases at_or_end l i hi with ⟨rfl, hd⟩ | ⟨a, hlt, hget, hdr⟩
 ·have hd2 : m.drop l.length = [] := List.drop_of_length_le (by omega)
  simp only [gw0, qqE, ↓reduceIte, qqA, qqL, qqD, qqM, lt_no, hd, hd2, eqDs]
  exact gives_bool rfl hst
 ·rcases at_or_end m i (by omega) with ⟨e, hd⟩ | ⟨b, hlt2, hget2, hdr2⟩
  ·omega
  simp only [gw0, qqE, ↓reduceIte, qqA, qqL, qqD, qqM, lt_yes hlt, hdr, hdr2, eqDs, List.length_map, Int.ofNat_lt.mpr hlt]
  refine vdraw TT_ok TT_mixed [0, 0, 0, 1, 0, 0, 0, 1, 0, 0] (by kernel_rfl) ?_
  simp only [gw0, qqE, ↓reduceIte, qqA, qqL, qqD, qqM, List.length_map, getD_map hget, getD_map hget2, encD_take, encD_len, Int.ofNat_lt.mpr hlt, Int.ofNat_lt.mpr hlt2, Nat.le_refl]
  refine eK_free (ih a (List.mem_of_getElem? hget) b) (wkL_refl _) ?_
  simp only [gw0, qqE, ↓reduceIte, qqA, qqL, qqD, qqM]
  refine iK_split (fun h5 => ?_) (fun h5 => ?_)
  ·simp only [gw0, qqE, ↓reduceIte, qqA, qqL, qqD, qqM]
   exact gives_bool (by rw [not_yes h5]; rfl) hst
  ·simp only [gw0, qqE, ↓reduceIte, qqA, qqL, qqD, qqM, Env.keep]
   exact ⟨i + 1, by rw [next_i64 hlt hkl], by omega, hlt, by rw [not_no h5]; rfl⟩
theorem c_Equal (d : Datum) : ∀ (e : Datum) (st : St), VCalls Tryz.prog TT 10 [.agg (encD d), .agg (encD e)] st fun r st' => r = .ret (.bool (eqD d e)) ∧ st' = st := by
 refine Datum.ind (p := fun d => ∀ (e : Datum) (st : St), VCalls Tryz.prog TT 10 [.agg (encD d), .agg (encD e)] st fun r st' => r = .ret (.bool (eqD d e)) ∧ st' = st) ?_ d
 intro k n nm s l kids ih e st
 obtain ⟨k', n', nm', s', l', kids'⟩ := e
 refine vfun TT_ok (an := anL [(2, 1), (3, 1)]) (L := [0, 1, 2, 3, 4, 11, 12]) (rs := [.tmp 4]) Tryz.func10 rfl (by kernel_rfl) rfl Tryz.ntmps10 rfl rfl (Nat.le_refl _) fun hst ha hf => ?_
 simp only [encD_mk]
 unfold eqD
 simp only [gw0, qqE, ↓reduceIte, qqA, qqL, qqD, qqM]
 refine iK_split (fun h => ?_) (fun h => ?_)
 ·rw [not_yes h]
  simp only [gw0, qqE, ↓reduceIte, qqA, qqL, qqD, qqM]
  exact gives_bool rfl hst
 rw [not_no h]
 simp only [gw0, qqE, ↓reduceIte, qqA, qqL, qqD, qqM]
 refine iK_split (fun h1 => ?_) (fun h1 => ?_)
 ·rw [h1]
  simp only [gw0, qqE, ↓reduceIte, qqA, qqL, qqD, qqM]
  exact gives_bool rfl hst
 rw [h1]
 simp only [gw0, qqE, ↓reduceIte, qqA, qqL, qqD, qqM]
 refine iK_split (fun h2 => ?_) (fun h2 => ?_)
 ·rw [h2]
  simp only [gw0, qqE, ↓reduceIte, qqA, qqL, qqD, qqM]
  exact gives_bool rfl hst
 rw [h2]
 simp only [gw0, qqE, ↓reduceIte, qqA, qqL, qqD, qqM]
 refine iK_split (fun h3 => ?_) (fun h3 => ?_)
 ·rw [h3]
  simp only [gw0, qqE, ↓reduceIte, qqA, qqL, qqD, qqM]
  exact gives_bool rfl hst
 rw [h3]
 simp only [gw0, qqE, ↓reduceIte, qqA, qqL, qqD, qqM]
 refine iK_split (fun h4 => ?_) (fun h4 => ?_)
 ·rw [h4]
  simp only [gw0, qqE, ↓reduceIte, qqA, qqL, qqD, qqM]
  refine (c_Same_of kids ih kids' st).use (wkL_refl _) fun _ => ?_
  simp only [gw0, qqE, ↓reduceIte, qqA, qqL, qqD, qqM]
  exact gives_bool rfl hst
 ·rw [h4]
  simp only [gw0, qqE, ↓reduceIte, qqA, qqL, qqD, qqM]
  exact gives_bool rfl hst
/-- The reader: its text, where it is, how many nodes there were. -/
def rdE (s : Str) (p n : Nat) : Ent := .box [.str s, .int .i64 p, .int .i64 n]
theorem rd_ok {st : St} {b p n : Nat} {s : Str} (h : St.ok st) : St.ok (st.set b (rdE s p n)) := by
 intro e he
 rw [List.length_set]
 rcases List.mem_or_eq_of_mem_set he with h' | rfl
 ·exact h e h'
 ·simp [rdE, Ent.lt, ltL, V.lt]
def isBlank (c : UInt8) : Bool := decide (c = 32) || decide (c = 9) || decide (c = 10)
/-- What is left behind blanks and notes. -/
def blk : Bool → Str → Str
 | _, [] => []
 | false, c :: r => bif isBlank c then blk false r else bif decide (c = 59) then blk true r else c :: r
 | true, c :: r => bif decide (c = 10) then blk false r else blk true r
theorem blk_le : ∀ (l : Str) (b : Bool), (blk b l).length ≤ l.length
 | [], b => by cases b <;> simp [blk]
 | c :: r, false => by
  simp only [blk]
  have := blk_le r false
  have := blk_le r true
  cases isBlank c <;> cases decide (c = 59) <;> simp <;> omega
 | c :: r, true => by
  simp only [blk]
  have := blk_le r false
  have := blk_le r true
  cases decide (c = 10) <;> simp <;> omega
theorem blk_drop : ∀ (l : Str) (b : Bool), blk b l = l.drop (l.length - (blk b l).length)
 | [], b => by cases b <;> simp [blk]
 | c :: r, false => by
  simp only [blk]
  have h1 := blk_drop r false
  have h2 := blk_drop r true
  have k1 := blk_le r false
  have k2 := blk_le r true
  cases isBlank c <;> cases decide (c = 59) <;> simp only [cond_true, cond_false, List.length_cons]
  ·simp
  ·rw [show r.length + 1 - (blk true r).length = (r.length - (blk true r).length) + 1 by omega, List.drop_succ_cons]; exact h2
  ·rw [show r.length + 1 - (blk false r).length = (r.length - (blk false r).length) + 1 by omega, List.drop_succ_cons]; exact h1
  ·rw [show r.length + 1 - (blk false r).length = (r.length - (blk false r).length) + 1 by omega, List.drop_succ_cons]; exact h1
 | c :: r, true => by
  simp only [blk]
  have h1 := blk_drop r false
  have h2 := blk_drop r true
  have k1 := blk_le r false
  have k2 := blk_le r true
  cases decide (c = 10) <;> simp only [cond_true, cond_false, List.length_cons]
  ·rw [show r.length + 1 - (blk true r).length = (r.length - (blk true r).length) + 1 by omega, List.drop_succ_cons]; exact h2
  ·rw [show r.length + 1 - (blk false r).length = (r.length - (blk false r).length) + 1 by omega, List.drop_succ_cons]; exact h1
theorem isBlank_int (c : UInt8) : (decide ((c.toNat : Int) = 32) || decide ((c.toNat : Int) = 9) || decide ((c.toNat : Int) = 10)) = isBlank c :=
 of_decide_eq_true (all_bytes (p := fun c => decide ((decide ((c.toNat : Int) = 32) || decide ((c.toNat : Int) = 9) || decide ((c.toNat : Int) = 10)) = isBlank c)) (by decide +kernel) c)
theorem byte_eq (c d : UInt8) : decide ((c.toNat : Int) = (d.toNat : Int)) = decide (c = d) := by
 by_cases h : c = d
 ·simp [h]
 ·have : ¬ (c.toNat : Int) = (d.toNat : Int) := fun e => h (UInt8.toNat_inj.1 (by omega))
  simp [h, this]
theorem c_blank (s : Str) (st : St) (b p n : Nat) (hb : st[b]? = some (rdE s p n)) (hp : p ≤ s.length) (hs : s.length ≤ 6000) :
  VCalls Tryz.prog TT 73 [.ptr b 0] st fun r st' => r = .ret (.tup []) ∧ st' = st.set b (rdE s (s.length - (blk false (s.drop p)).length) n) := by
 refine vfun TT_ok (an := anL []) (L := [0, 2]) (rs := []) Tryz.func73 rfl (by kernel_rfl) rfl Tryz.ntmps73 rfl rfl (Nat.le_of_eq (List.length_set ..).symm) fun hst ha hf => ?_
 have hlt : b < st.length := (List.getElem?_eq_some_iff.1 hb).1
 have hset : ∀ x, (st.set b (rdE s x n))[b]? = some (.box [.str s, .int .i64 x, .int .i64 n]) := fun c' => List.getElem?_set_self hlt
 have hend : ∀ x, x ≤ s.length → blk false (s.drop p) = s.drop x → Gives (.tup []) (st.set b (rdE s (s.length - (blk false (s.drop p)).length) n)) (.ret (.tup [])) (st.set b (rdE s x n)) := by
  intro x hx h
  rw [h, List.length_drop, show s.length - (s.length - x) = x by omega]
  exact gives_self (by simp [V.lt, ltL]) (rd_ok hst)
 simp only [gw0, qqE, ↓reduceIte, qqA, qqL, qqD, qqM]
 refine vfor (σ := Nat) [0] (fun x => [(0, true, .ptr b 0)]) (fun x => st.set b (rdE s x n)) (fun x => s.length - x) (fun x => x ≤ s.length ∧ blk false (s.drop p) = blk false (s.drop x)) p rfl TT_ok ⟨hp, rfl⟩ rfl (set_self hb).symm ?_
 rintro x ⟨hx, hI⟩
 simp only [gw0, qqE, ↓reduceIte, qqA, qqL, qqD, qqM]
 refine vdraw TT_ok TT_mixed [0, 0, 0, 1, 0, 0, 0, 1, 0, 0] (by kernel_rfl) ?_
 rcases at_or_end s x hx with ⟨rfl, hd⟩ | ⟨c, hltx, hget, hdr⟩
 ·simp only [gw0, qqE, ↓reduceIte, qqA, qqL, qqD, qqM, hset, lt_no]
  exact hend _ (Nat.le_refl _) (by rw [hI, hd]; rfl)
 have h63 : s.length ≤ 9223372036854775807 := by omega
 simp only [gw0, qqE, ↓reduceIte, qqA, qqL, qqD, qqM, hset, lt_yes hltx]
 refine vdraw TT_ok TT_mixed [0, 0, 0, 1, 0, 0, 0, 1, 0, 0] (by kernel_rfl) ?_
 simp only [gw0, qqE, ↓reduceIte, qqA, qqL, qqD, qqM, hset, getD_at hget, Int.ofNat_lt.mpr hltx]
 rw [isBlank_int]
 have hstep : ∀ y, y < s.length → (Tryz.prog = Tryz.prog) → IntKind.i64.wrap ((y : Int) + 1) = ((y + 1 : Nat) : Int) := fun y hy _ => next_i64 hy h63
 have hblk : blk false (s.drop x) = bif isBlank c then blk false (s.drop (x + 1)) else bif decide (c = 59) then blk true (s.drop (x + 1)) else s.drop x := by
  rw [hdr]; simp only [blk]
 refine iK_split (fun h => ?_) (fun h => ?_)
 ·simp only [gw0, qqE, ↓reduceIte, qqA, qqL, qqD, qqM, hset, hstep x hltx rfl]
  simp only [gw0, qqE, ↓reduceIte, qqA, qqL, qqD, qqM, Env.keep]
  exact ⟨x + 1, by rw [List.set_set]; rfl, by omega, by omega, by rw [hI, hblk, h]; rfl⟩
 ·have h59 : decide ((c.toNat : Int) = 59) = decide (c = 59) := byte_eq c 59
  simp only [gw0, qqE, ↓reduceIte, qqA, qqL, qqD, qqM]
  rw [h59]
  refine iK_split (fun h2 => ?_) (fun h2 => ?_)
  ·simp only [gw0, qqE, ↓reduceIte, qqA, qqL, qqD, qqM]
   have h2' := of_decide_eq_true h2
   subst h2'
   refine vfor (σ := Nat) [0] (fun y => [(0, true, .ptr b 0)]) (fun y => st.set b (rdE s y n)) (fun y => s.length - y) (fun y => x ≤ y ∧ y ≤ s.length ∧ blk false (s.drop p) = blk true (s.drop y)) x rfl TT_ok ⟨Nat.le_refl _, hx, by rw [hI, hdr]; simp [blk, isBlank]⟩ rfl rfl ?_
   rintro y ⟨hxy, hy, hJ⟩
   simp only [gw0, qqE, ↓reduceIte, qqA, qqL, qqD, qqM]
   refine vdraw TT_ok TT_mixed [0, 0, 0, 1, 0, 0, 0, 1, 0, 0, 0, 0, 0, 0, 1, 0, 0, 0, 1, 0, 0, 0] (by kernel_rfl) ?_
   rcases at_or_end s y hy with ⟨rfl, hd⟩ | ⟨e, hlty, hgety, hdry⟩
   ·simp only [gw0, qqE, ↓reduceIte, qqA, qqL, qqD, qqM, hset, lt_no]
    simp only [gw0, qqE, ↓reduceIte, qqA, qqL, qqD, qqM, Env.keep]
    exact ⟨s.length, rfl, by omega, Nat.le_refl _, by rw [hJ, hd]; rfl⟩
   ·have h10 : decide ((e.toNat : Int) = 10) = decide (e = 10) := byte_eq e 10
    simp only [gw0, qqE, ↓reduceIte, qqA, qqL, qqD, qqM, hset, lt_yes hlty, getD_at hgety, Int.ofNat_lt.mpr hlty]
    rw [h10]
    refine iK_split (fun h3 => ?_) (fun h3 => ?_)
    ·simp only [gw0, qqE, ↓reduceIte, qqA, qqL, qqD, qqM, hset, hstep y hlty rfl]
     simp only [gw0, qqE, ↓reduceIte, qqA, qqL, qqD, qqM, Env.keep]
     have h3' : ¬ e = 10 := by simpa using h3
     exact ⟨y + 1, by rw [List.set_set]; rfl, by omega, by omega, by omega, by rw [hJ, hdry]; simp [blk, h3']⟩
    ·simp only [gw0, qqE, ↓reduceIte, qqA, qqL, qqD, qqM, Env.keep]
     have h3' : e = 10 := by simpa using h3
     subst h3'
     have hne : x ≠ y := by rintro rfl; rw [hget] at hgety; cases hgety
     exact ⟨y, rfl, by omega, hy, by rw [hJ, hdry]; simp [blk, isBlank]⟩
  ·simp only [gw0, qqE, ↓reduceIte, qqA, qqL, qqD, qqM]
   exact hend x hx (by rw [hI, hblk, h, h2]; rfl)
theorem Ext.below {g : G} {w w' : World} (hb : Go.RowKit.Below w.heap.size w w') : Ext g w g w' :=
 ⟨hb.os, hb.tape, hb.output, hb.size, Nat.le_refl _, fun _ _ => rfl, fun _ _ => Nat.le_refl _, fun _ _ _ => rfl, fun b h1 h2 => ⟨hb.block b h1, h2⟩, fun b k h1 h2 => ⟨fun off _ => cell_of_block (hb.block b h1), fun k' h3 => by rw [h2] at h3; cases h3; exact Nat.le_refl _⟩, fun b h1 => shape_of_block (hb.block b h1)⟩
/-- A call of the library that leaves what there was, and makes perhaps something; it may look at the tables. -/
theorem VCalls.ofBelowA {P : Program} {T : Nat → TI} {f : FuncId} {args : List V} {st : St} {X : V} (he : Gw.Enters P f)
  (h : ∀ (g : G) (w : World) (vals : List Value), Amb g w → SimVs g w args vals → ∃ val, (∀ g' w', SimV g' w' X val) ∧ Calls P f vals.toArray w fun e w' => e = .returned val ∧ Go.RowKit.Below w.heap.size w w') : VCalls P T f args st fun r s => r = .ret X ∧ s = st :=
 ⟨he, fun g w vals h1 h2 => by
  obtain ⟨val, h3, h4⟩ := h g w vals h1.amb h2
  refine h4.mono ?_
  rintro e w' ⟨rfl, hb⟩
  exact ⟨.ret X, st, g, ⟨rfl, rfl⟩, ⟨val, rfl, h3 _ _⟩, h1.keep (Ext.below hb) rfl (fun _ _ => rfl) (fun b h5 _ => ⟨hb.block b h5, rfl⟩), Ext.below hb⟩⟩
/-- Where the tables are nothing to it. -/
theorem VCalls.ofBelow {P : Program} {T : Nat → TI} {f : FuncId} {args : List V} {st : St} {X : V} (he : Gw.Enters P f)
  (h : ∀ (g : G) (w : World) (vals : List Value), SimVs g w args vals → ∃ val, (∀ g' w', SimV g' w' X val) ∧ Calls P f vals.toArray w fun e w' => e = .returned val ∧ Go.RowKit.Below w.heap.size w w') : VCalls P T f args st fun r s => r = .ret X ∧ s = st :=
 VCalls.ofBelowA he fun g w vals _ hv => h g w vals hv
open Go.Proofs Go.Shelf in
shelf_lay LaysC.n174 Nm 174 at Tryz as YtpllcpbhjglpaaaGreatDoor.laysPI
theorem c_ParseInt (st : St) (s : Str) (v : Int) (h : Lib.parseIntB 64 s = .ok v) (hs : s.length ≤ 6000) :
  VCalls Tryz.prog TT 101 [.str s, .int .i64 10, .int .i64 64] st fun r st' => r = .ret (.tup [.int .i64 v, .nili]) ∧ st' = st := by
 refine VCalls.ofBelow ⟨_, Tryz.func101, by kernel_rfl, by kernel_rfl⟩ fun g w vals hv => ?_
 simp only [SimVs, SimV] at hv
 obtain ⟨_, _, rfl, ⟨rfl, _⟩, _, _, rfl, rfl, _, _, rfl, rfl, rfl⟩ := hv
 refine ⟨.tuple #[.int .i64 v, .nilIface], fun g' w' => by simp only [SimV, SimVs]; exact ⟨[.int .i64 v, .nilIface], rfl, _, _, rfl, rfl, _, _, rfl, rfl, rfl⟩, ?_⟩
 refine (Go.Proofs.Any.strconv_ParseInt_10_at64_ok YtpllcpbhjglpaaaGreatDoor.laysPI ⟨s.toArray⟩ (by simp [ByteArray.size]; omega) v (by simpa using h) w).mono ?_
 rintro e w' ⟨rfl, hw⟩
 refine ⟨rfl, ?_⟩
 rcases hw with rfl | ⟨t, rfl⟩
 ·exact Go.RowKit.Below.refl _ _
 ·exact Go.Lib.bytesWorld_below w _ t
/-- The number that digits spell. -/
def numN (r : Str) : Nat := r.foldl (fun a c => a * 10 + (c.toNat - 48)) 0
def numV : Str → Int
 | 45 :: r => -(numN r : Int)
 | r => numN r
theorem parse_digits : ∀ (r : Str) (k acc : Nat), digits r = true → acc < 10 ^ k → k + r.length ≤ 17 → Lib.parseUintM (2 ^ 64 - 1) acc r = .ok (r.foldl (fun a c => a * 10 + (c.toNat - 48)) acc) ∧ r.foldl (fun a c => a * 10 + (c.toNat - 48)) acc < 10 ^ (k + r.length)
 | [], k, acc, _, h, _ => by simpa [Lib.parseUintM] using h
 | c :: r, k, acc, hd, h, hl => by
  simp only [digits, List.all_cons, Bool.and_eq_true, decide_eq_true_eq] at hd
  obtain ⟨⟨h1, h2⟩, hd⟩ := hd
  simp only [List.length_cons] at hl
  have hacc : acc * 10 + (c.toNat - 48) < 10 ^ (k + 1) := by rw [Nat.pow_succ]; omega
  have hp : 10 ^ (k + 1) ≤ 10 ^ 17 := Nat.pow_le_pow_right (by decide) (by omega)
  have ih := parse_digits r (k + 1) (acc * 10 + (c.toNat - 48)) hd hacc (by omega)
  simp only [List.foldl_cons, List.length_cons]
  rw [show k + (r.length + 1) = k + 1 + r.length by omega]
  refine ⟨?_, ih.2⟩
  rw [← ih.1]
  conv => lhs; unfold Lib.parseUintM
  rw [if_pos ⟨h1, h2⟩, if_neg (by omega), if_neg (by omega)]
theorem looks_inv {s : Str} (h : looksB s = true) : (∃ r, s = 45 :: r ∧ digits r = true ∧ r ≠ []) ∨ ((∀ r, s ≠ 45 :: r) ∧ digits s = true ∧ s ≠ []) := by
 unfold looksB at h
 split at h
 ·rename_i r
  simp only [Bool.and_eq_true, Bool.not_eq_true', List.isEmpty_eq_false_iff] at h
  exact .inl ⟨r, rfl, h.1, h.2⟩
 ·rename_i hno
  simp only [Bool.and_eq_true, Bool.not_eq_true', List.isEmpty_eq_false_iff] at h
  exact .inr ⟨hno, h.1, h.2⟩
theorem parse_ok {s : Str} (h : looksB s = true) (hl : s.length ≤ 17) : Lib.parseIntB 64 s = .ok (numV s) ∧ -100000000000000000 ≤ numV s ∧ numV s ≤ 100000000000000000 := by
 rcases looks_inv h with ⟨r, rfl, hd, hne⟩ | ⟨hno, hd, hne⟩
 ·have hp := parse_digits r 0 0 hd (by decide) (by simp at hl; omega)
  have hb : (10 : Nat) ^ (0 + r.length) ≤ 10 ^ 17 := Nat.pow_le_pow_right (by decide) (by simp at hl; omega)
  have hlt := hp.2
  have hu : Lib.parseUintB 64 r = .ok (numN r) := by unfold Lib.parseUintB; rw [if_neg hne]; exact hp.1
  refine ⟨?_, ?_⟩
  ·unfold Lib.parseIntB
   have hn : ¬ 2 ^ (64 - 1) < numN r := by unfold numN; omega
   simp only [show (45 : UInt8).toNat = 45 from rfl, or_true, if_true]
   rw [hu]
   simp only [not_true_eq_false, false_and, if_false, true_and, if_neg hn]
   simp [numV]
  ·simp only [numV, numN]; omega
 ·cases s with
  | nil => exact absurd rfl hne
  | cons c r =>
   have hp := parse_digits (c :: r) 0 0 hd (by decide) (by simp at hl ⊢; omega)
   have hb : (10 : Nat) ^ (0 + (c :: r).length) ≤ 10 ^ 17 := Nat.pow_le_pow_right (by decide) (by simp at hl ⊢; omega)
   have hlt := hp.2
   have hu : Lib.parseUintB 64 (c :: r) = .ok (numN (c :: r)) := by unfold Lib.parseUintB; rw [if_neg hne]; exact hp.1
   have hd' := hd
   simp only [digits, List.all_cons, Bool.and_eq_true, decide_eq_true_eq] at hd'
   have hnv : numV (c :: r) = numN (c :: r) := by
    unfold numV
    split
    ·rename_i r' e; exact absurd e (hno r')
    ·rfl
   refine ⟨?_, ?_⟩
   ·unfold Lib.parseIntB
    have h1 : ¬ (c.toNat = 43 ∨ c.toNat = 45) := by omega
    have h2 : ¬ c.toNat = 45 := by omega
    have hn : ¬ 2 ^ (64 - 1) ≤ numN (c :: r) := by unfold numN; omega
    simp only [if_neg h1]
    rw [hu]
    simp only [h2, not_false_eq_true, true_and, if_neg hn, false_and, if_false]
    rw [hnv]
   ·rw [hnv]; simp only [numN]; omega
def faultV (e p : Int) : V := .iface 110 (.agg [.int .i64 e, .int .i64 p])
theorem c_fail (st : St) (e p : Int) : VCalls Tryz.prog TT 90 [.int .i64 e, .int .i64 p] st fun r st' => r = .panic (faultV e p) ∧ st' = st := by
 refine vfunP TT_ok (an := anL []) (L := [0, 1]) (rs := []) Tryz.func90 rfl (by kernel_rfl) rfl Tryz.ntmps90 rfl rfl (Nat.le_refl _) fun hst ha hf => ?_
 simp only [gw0, qqE, ↓reduceIte, qqA, qqL, qqD, qqM]
 exact givesP_self (by simp [faultV, V.lt, ltL]) hst
theorem c_node_ok (s : Str) (st : St) (b p n : Nat) (deep q : Int) (hb : st[b]? = some (rdE s p n)) (h : ¬ 2000 < n + 1 ∧ ¬ 40 < deep) :
  VCalls Tryz.prog TT 89 [.ptr b 0, .int .i64 deep, .int .i64 q] st fun r st' => r = .ret (.tup []) ∧ st' = st.set b (rdE s p (n + 1)) := by
 refine vfun TT_ok (an := anL []) (L := [0, 1, 2]) (rs := []) Tryz.func89 rfl (by kernel_rfl) rfl Tryz.ntmps89 rfl rfl (Nat.le_of_eq (List.length_set ..).symm) fun hst ha hf => ?_
 have hlt : b < st.length := (List.getElem?_eq_some_iff.1 hb).1
 have hset : (st.set b (.box [.str s, .int .i64 p, .int .i64 (n + 1)]))[b]? = some (.box [.str s, .int .i64 p, .int .i64 (n + 1)]) := List.getElem?_set_self hlt
 simp only [rdE] at hb
 simp only [gw0, qqE, ↓reduceIte, qqA, qqL, qqD, qqM, hb, wrap_i64 (show -9223372036854775808 ≤ (n : Int) + 1 by omega) (show (n : Int) + 1 ≤ 9223372036854775807 by omega), hset]
 refine iK_split (fun h2 => ?_) (fun h2 => ?_)
 ·exfalso
  simp at h2
  omega
 ·simp only [gw0, qqE, ↓reduceIte, qqA, qqL, qqD, qqM]
  exact gives_self (by simp [V.lt, ltL]) (rd_ok hst)
theorem c_node_err (s : Str) (st : St) (b p n : Nat) (deep q : Int) (hb : st[b]? = some (rdE s p n)) (hn : n ≤ 2000) (h : 2000 < n + 1 ∨ 40 < deep) :
  VCalls Tryz.prog TT 89 [.ptr b 0, .int .i64 deep, .int .i64 q] st fun r st' => r = .panic (faultV 4 q) ∧ st' = st.set b (rdE s p (n + 1)) := by
 refine vfunP TT_ok (an := anL []) (L := [0, 1, 2]) (rs := []) Tryz.func89 rfl (by kernel_rfl) rfl Tryz.ntmps89 rfl rfl (Nat.le_of_eq (List.length_set ..).symm) fun hst ha hf => ?_
 have hlt : b < st.length := (List.getElem?_eq_some_iff.1 hb).1
 have hset : (st.set b (.box [.str s, .int .i64 p, .int .i64 (n + 1)]))[b]? = some (.box [.str s, .int .i64 p, .int .i64 (n + 1)]) := List.getElem?_set_self hlt
 simp only [rdE] at hb
 simp only [gw0, qqE, ↓reduceIte, qqA, qqL, qqD, qqM, hb, wrap_i64 (show -9223372036854775808 ≤ (n : Int) + 1 by omega) (show (n : Int) + 1 ≤ 9223372036854775807 by omega), hset]
 refine iK_split (fun h2 => ?_) (fun h2 => ?_)
 ·simp only [gw0, qqE, ↓reduceIte, qqA, qqL, qqD, qqM]
  refine (c_fail _ 4 q).useP (wkL_refl _) ?_
  simp only [gw0, qqE, ↓reduceIte, qqA, qqL, qqD, qqM]
  exact givesP_self (by simp [faultV, V.lt, ltL]) (rd_ok hst)
 ·exfalso
  simp at h2
  omega
/-- What an atom is; or what is wrong with it. -/
def atomR (s : Str) : Sum Int Datum :=
 bif looksB s then (bif decide ((17 : Int) < s.length) then .inl 3 else bif decide (1000000000000000 < numV s) || decide (numV s < -1000000000000000) then .inl 3 else .inr (.mk 1 (numV s) [] 0 0 []))
 else bif decide ((20 : Int) < s.length) then .inl 7 else .inr (.mk 3 0 s 0 0 [])
theorem wk6 (a b c d e : V) : wkL [a, b, c, d, e, .nils] [a, b, c, d, e, .lst 6 none []] :=
 wkL_cons (wk_refl _) (wkL_cons (wk_refl _) (wkL_cons (wk_refl _) (wkL_cons (wk_refl _) (wkL_cons (wk_refl _) (wkL_cons (wk_nils _) wkL_nil)))))
theorem c_atom_ok (s : Str) (st : St) (q : Int) (d : Datum) (hs : s.length ≤ 6000) (h : atomR s = .inr d) :
  VCalls Tryz.prog TT 92 [.str s, .int .i64 q] st fun r st' => r = .ret (.agg (encD d)) ∧ st' = st := by
 refine vfun TT_ok (an := anL []) (L := [0, 1, 4, 5]) (rs := [.cell 4 26]) Tryz.func92 rfl (by kernel_rfl) rfl Tryz.ntmps92 rfl rfl (Nat.le_refl _) fun hst ha hf => ?_
 simp only [gw0, qqE, ↓reduceIte, qqA, qqL, qqD, qqM]
 refine (c_number _ s).use (wkL_refl _) fun _ => ?_
 simp only [gw0, qqE, ↓reduceIte, qqA, qqL, qqD, qqM]
 unfold atomR at h
 refine iK_split (fun hl => ?_) (fun hl => ?_)
 ·rw [hl] at h
  simp only [cond_true] at h
  simp only [gw0, qqE, ↓reduceIte, qqA, qqL, qqD, qqM]
  refine iK_split (fun h17 => ?_) (fun h17 => ?_)
  ·exfalso
   rw [h17] at h
   cases h
  ·have h17' : s.length ≤ 17 := by simp at h17; omega
   rw [h17] at h
   simp only [cond_false] at h
   obtain ⟨p1, p2, p3⟩ := parse_ok hl h17'
   simp only [gw0, qqE, ↓reduceIte, qqA, qqL, qqD, qqM]
   refine (c_ParseInt _ s (numV s) p1 hs).use (wkL_refl _) fun _ => ?_
   simp only [gw0, qqE, ↓reduceIte, qqA, qqL, qqD, qqM]
   refine iK_split (fun h1 => ?_) (fun h1 => ?_)
   ·exfalso
    rw [h1] at h
    cases h
   ·rw [h1] at h
    simp only [cond_false, Sum.inr.injEq] at h
    subst h
    simp only [gw0, qqE, ↓reduceIte, qqA, qqL, qqD, qqM, encD_mk]
    exact gives_of (wk_agg (wk6 ..)) (wkSt_refl _) (by simp only [V.lt]; exact encD_lt _ (.mk 1 (numV s) [] 0 0 [])) hst
 ·rw [hl] at h
  simp only [cond_false] at h
  simp only [gw0, qqE, ↓reduceIte, qqA, qqL, qqD, qqM]
  refine iK_split (fun h20 => ?_) (fun h20 => ?_)
  ·exfalso
   rw [h20] at h
   cases h
  ·rw [h20] at h
   simp only [cond_false, Sum.inr.injEq] at h
   subst h
   simp only [gw0, qqE, ↓reduceIte, qqA, qqL, qqD, qqM, encD_mk]
   exact gives_of (wk_agg (wk6 ..)) (wkSt_refl _) (by simp only [V.lt]; exact encD_lt _ (.mk 3 0 s 0 0 [])) hst
theorem c_atom_err (s : Str) (st : St) (q : Int) (e : Int) (hs : s.length ≤ 6000) (h : atomR s = .inl e) :
  VCalls Tryz.prog TT 92 [.str s, .int .i64 q] st fun r st' => r = .panic (faultV e q) ∧ st' = st := by
 refine vfunP TT_ok (an := anL []) (L := [0, 1, 4, 5]) (rs := [.cell 4 26]) Tryz.func92 rfl (by kernel_rfl) rfl Tryz.ntmps92 rfl rfl (Nat.le_refl _) fun hst ha hf => ?_
 simp only [gw0, qqE, ↓reduceIte, qqA, qqL, qqD, qqM]
 refine (c_number _ s).use (wkL_refl _) fun _ => ?_
 simp only [gw0, qqE, ↓reduceIte, qqA, qqL, qqD, qqM]
 unfold atomR at h
 have fin : ∀ ex, GivesP (faultV e q) st (.panic (faultV e q)) (st ++ ex) := fun ex => givesP_of (wk_refl _) (wkSt_refl _) (by simp [faultV, V.lt, ltL]) hst
 refine iK_split (fun hl => ?_) (fun hl => ?_)
 ·rw [hl] at h
  simp only [cond_true] at h
  simp only [gw0, qqE, ↓reduceIte, qqA, qqL, qqD, qqM]
  refine iK_split (fun h17 => ?_) (fun h17 => ?_)
  ·rw [h17] at h
   simp only [cond_true, Sum.inl.injEq] at h
   subst h
   simp only [gw0, qqE, ↓reduceIte, qqA, qqL, qqD, qqM]
   refine (c_fail _ 3 q).useP (wkL_refl _) ?_
   simp only [gw0, qqE, ↓reduceIte, qqA, qqL, qqD, qqM]
   exact fin _
  ·have h17' : s.length ≤ 17 := by simp at h17; omega
   rw [h17] at h
   simp only [cond_false] at h
   obtain ⟨p1, p2, p3⟩ := parse_ok hl h17'
   simp only [gw0, qqE, ↓reduceIte, qqA, qqL, qqD, qqM]
   refine (c_ParseInt _ s (numV s) p1 hs).use (wkL_refl _) fun _ => ?_
   simp only [gw0, qqE, ↓reduceIte, qqA, qqL, qqD, qqM]
   refine iK_split (fun h1 => ?_) (fun h1 => ?_)
   ·rw [h1] at h
    simp only [cond_true, Sum.inl.injEq] at h
    subst h
    simp only [gw0, qqE, ↓reduceIte, qqA, qqL, qqD, qqM]
    refine (c_fail _ 3 q).useP (wkL_refl _) ?_
    simp only [gw0, qqE, ↓reduceIte, qqA, qqL, qqD, qqM]
    exact fin _
   ·exfalso
    rw [h1] at h
    cases h
 ·rw [hl] at h
  simp only [cond_false] at h
  simp only [gw0, qqE, ↓reduceIte, qqA, qqL, qqD, qqM]
  refine iK_split (fun h20 => ?_) (fun h20 => ?_)
  ·rw [h20] at h
   simp only [cond_true, Sum.inl.injEq] at h
   subst h
   simp only [gw0, qqE, ↓reduceIte, qqA, qqL, qqD, qqM]
   refine (c_fail _ 7 q).useP (wkL_refl _) ?_
   simp only [gw0, qqE, ↓reduceIte, qqA, qqL, qqD, qqM]
   exact fin _
  ·exfalso
   rw [h20] at h
   cases h
end Go.Proofs.YtpllcpbhjglpaaaGreatDoor.Gx
namespace Go.Proofs.YtpllcpbhjglpaaaGreatDoor.Gx
open Go Go.Proofs.YtpllcpbhjglpaaaGreatDoor.Gw
set_option linter.unusedSimpArgs false
set_option linter.unusedVariables false
/-- A datum, and where its reader is, and how many nodes there were; or what is wrong, and where, and so on. -/
inductive RR where
 | ok (d : Datum) (p n : Nat)
 | err (e q : Int) (p n : Nat)
def quoteS : Str := [113, 117, 111, 116, 101]
def quoteD (x : Datum) : Datum := .mk 4 0 [] 0 0 [.mk 3 0 quoteS 0 0 [], x]
def RR.quote : RR → RR
 | .ok x p n => .ok (quoteD x) p n
 | .err e q p n => .err e q p n
def RR.bind (r : RR) (k : Datum → Nat → Nat → RR) : RR := match r with
 | .ok x p n => k x p n
 | .err e q p n => .err e q p n
/-- Behind '#'. -/
def rdB (q p n : Nat) : Str → RR
 | [] => .err 2 q p n
 | t :: r => bif decide (t = 116) || decide (t = 102) then
   (match r with
   | [] => .ok (.mk 2 (bif decide (t = 116) then 1 else 0) [] 0 0 []) (p + 1) n
   | u :: _ => bif letterB u then .err 2 q (p + 1) n else .ok (.mk 2 (bif decide (t = 116) then 1 else 0) [] 0 0 []) (p + 1) n)
  else .err 2 q p n
def rdA (s : Str) (q p n : Nat) (c : UInt8) (r : Str) : RR := match atomR (c :: r.takeWhile letterB) with
 | .inl e => .err e q (p + (r.takeWhile letterB).length) n
 | .inr d => .ok d (p + (r.takeWhile letterB).length) n
mutual
def rdD (s : Str) : Nat → Int → Nat → Nat → RR
 | 0, _, p, n => .err 0 0 p n
 | f + 1, deep, p, n => bif decide (2000 < n + 1) || decide (40 < deep) then .err 4 p p (n + 1)
  else match s.drop p with
   | [] => .err 2 p p (n + 1)
   | c :: r => bif decide (c = 40) then rdL s f deep [] (p + 1) (n + 1)
    else bif decide (c = 39) then (bif decide (2000 < n + 2) || decide (40 < deep + 1) then .err 4 p (p + 1) (n + 2) else (rdD s f (deep + 1) (s.length - (blk false r).length) (n + 2)).quote)
    else bif decide (c = 35) then rdB p (p + 1) (n + 1) r
    else bif letterB c then rdA s p (p + 1) (n + 1) c r
    else .err 2 p (p + 1) (n + 1)
def rdL (s : Str) : Nat → Int → List Datum → Nat → Nat → RR
 | 0, _, _, p, n => .err 0 0 p n
 | f + 1, deep, acc, p, n => match blk false (s.drop p) with
  | [] => .err 2 s.length s.length n
  | c :: r => bif decide (c = 41) then .ok (.mk 4 0 [] 0 0 acc) (s.length - r.length) n
   else (rdD s f (deep + 1) (s.length - (r.length + 1)) n).bind fun x p' n' => rdL s f deep (acc ++ [x]) p' n'
end
/-- How far a datum goes. -/
def RR.far (s : Str) (p : Nat) : RR → Prop
 | .ok _ p' n' => p < p' ∧ p' ≤ s.length ∧ n' ≤ 2000
 | .err _ _ _ _ => True
theorem takeWhile_le {l : Str} : (l.takeWhile letterB).length ≤ l.length := by
 have := (List.takeWhile_prefix (l := l) letterB).length_le
 exact this
theorem drop_len {s : Str} {p : Nat} {c : UInt8} {r : Str} (h : s.drop p = c :: r) : p + r.length + 1 = s.length := by
 have := congrArg List.length h
 simp at this
 omega
theorem rd_far (s : Str) : ∀ f : Nat, (∀ (deep : Int) (p n : Nat), n ≤ 2000 → (rdD s f deep p n).far s p) ∧ (∀ (deep : Int) (acc : List Datum) (p n : Nat), p ≤ s.length → n ≤ 2000 → (rdL s f deep acc p n).far s p)
 | 0 => ⟨fun _ _ _ _ => by simp [rdD, RR.far], fun _ _ _ _ _ _ => by simp [rdL, RR.far]⟩
 | f + 1 => by
  obtain ⟨ih1, ih2⟩ := rd_far s f
  refine ⟨fun deep p n hn => ?_, fun deep acc p n hp hn => ?_⟩
  ·simp only [rdD]
   cases h0 : (decide (2000 < n + 1) || decide (40 < deep)) with
   | true => simp [RR.far]
   | false =>
    have hn1 : n + 1 ≤ 2000 := by simp at h0; omega
    simp only [cond_false]
    split
    ·simp [RR.far]
    ·rename_i c r hd
     have hl := drop_len hd
     cases decide (c = 40) with
     | true =>
      simp only [cond_true]
      have := ih2 deep [] (p + 1) (n + 1) (by omega) hn1
      generalize rdL s f deep [] (p + 1) (n + 1) = rr at this ⊢
      cases rr with
      | ok x p' n' => simp only [RR.far] at this ⊢; omega
      | err _ _ _ _ => trivial
     | false =>
      simp only [cond_false]
      cases decide (c = 39) with
      | true =>
       simp only [cond_true]
       cases h1 : (decide (2000 < n + 2) || decide (40 < deep + 1)) with
       | true => simp [RR.far]
       | false =>
        have hn2 : n + 2 ≤ 2000 := by simp at h1; omega
        simp only [cond_false]
        have hb := blk_le r false
        have := ih1 (deep + 1) (s.length - (blk false r).length) (n + 2) hn2
        generalize rdD s f (deep + 1) (s.length - (blk false r).length) (n + 2) = rr at this ⊢
        cases rr with
        | ok x p' n' => simp only [RR.quote, RR.far] at this ⊢; omega
        | err _ _ _ _ => trivial
      | false =>
       simp only [cond_false]
       cases decide (c = 35) with
       | true =>
        simp only [cond_true]
        cases r with
        | nil => simp [rdB, RR.far]
        | cons t r =>
         simp only [rdB]
         simp only [List.length_cons] at hl
         cases (decide (t = 116) || decide (t = 102)) with
         | false => simp [RR.far]
         | true =>
          simp only [cond_true]
          cases r with
          | nil => dsimp only; simp only [RR.far, List.length_nil] at hl ⊢; omega
          | cons u r =>
           simp only [List.length_cons] at hl
           dsimp only
           cases letterB u with
           | true => simp [RR.far]
           | false => simp only [cond_false, RR.far]; omega
       | false =>
        simp only [cond_false]
        cases letterB c with
        | true =>
         simp only [cond_true, rdA]
         have := takeWhile_le (l := r)
         split
         ·trivial
         ·simp only [RR.far]; omega
        | false => simp [RR.far]
  ·simp only [rdL]
   have hb := blk_le (s.drop p) false
   simp only [List.length_drop] at hb
   split
   ·trivial
   ·rename_i c r hd
    rw [hd] at hb
    simp only [List.length_cons] at hb
    cases decide (c = 41) with
    | true => simp only [cond_true, RR.far]; omega
    | false =>
     simp only [cond_false]
     have h1 := ih1 (deep + 1) (s.length - (r.length + 1)) n hn
     generalize rdD s f (deep + 1) (s.length - (r.length + 1)) n = rr at h1 ⊢
     cases rr with
     | err _ _ _ _ => trivial
     | ok x p' n' =>
      simp only [RR.far] at h1
      simp only [RR.bind]
      have h2 := ih2 deep (acc ++ [x]) p' n' h1.2.1 h1.2.2
      generalize rdL s f deep (acc ++ [x]) p' n' = rr at h2 ⊢
      cases rr with
      | ok x p' n' => simp only [RR.far] at h2 ⊢; omega
      | err _ _ _ _ => trivial
theorem set_app {st ex : St} {b : Nat} {e : Ent} (h : b < st.length) : (st ++ ex).set b e = st.set b e ++ ex := List.set_append_left _ _ h
section
variable {st : St} {b : Nat} {s : Str} (h : b < st.length)
include h
theorem at_b (p n : Nat) (l : St) : (st.set b (rdE s p n) ++ l)[b]? = some (.box [.str s, .int .i64 p, .int .i64 n]) := by
 rw [List.getElem?_append_left (by simpa using h), List.getElem?_set_self h]; rfl
theorem at_b0 (p n : Nat) : (st.set b (rdE s p n))[b]? = some (.box [.str s, .int .i64 p, .int .i64 n]) := by
 rw [List.getElem?_set_self h]; rfl
theorem set_b (e e' : Ent) (l : St) : (st.set b e ++ l).set b e' = st.set b e' ++ l := by
 rw [set_app (by simpa using h), List.set_set]
end
theorem at_k (st : St) (b : Nat) (e : Ent) (l : St) (k : Nat) : (st.set b e ++ l)[st.length + k]? = l[k]? := by
 rw [List.getElem?_append_right (by simp)]; simp
theorem at_k0 (st : St) (b : Nat) (e : Ent) (l : St) : (st.set b e ++ l)[st.length]? = l[0]? := at_k st b e l 0
theorem set_k (st : St) (b : Nat) (e : Ent) (l : St) (k : Nat) (x : Ent) : (st.set b e ++ l).set (st.length + k) x = st.set b e ++ l.set k x := by
 rw [List.set_append_right _ _ (by simp)]; simp
theorem set_k0 (st : St) (b : Nat) (e : Ent) (l : St) (x : Ent) : (st.set b e ++ l).set st.length x = st.set b e ++ l.set 0 x := set_k st b e l 0 x
/-- What a call of a reader comes to. -/
def outR (s : Str) (b : Nat) (st : St) : RR → VEnd → St → Prop
 | .ok x p n => Gives (.agg (encD x)) (st.set b (rdE s p n))
 | .err e q p n => GivesP (faultV e q) (st.set b (rdE s p n))
def OutC (s : Str) (b : Nat) (st st0 : St) (f : FuncId) (args : List V) : RR → Prop
 | .ok x p n => VCalls Tryz.prog TT f args st0 fun r st' => r = .ret (.agg (encD x)) ∧ st' = st.set b (rdE s p n)
 | .err e q p n => VCalls Tryz.prog TT f args st0 fun r st' => r = .panic (faultV e q) ∧ st' = st.set b (rdE s p n)
theorem OutC_of {s : Str} {b : Nat} {st st0 : St} {f : FuncId} {args : List V} {rr : RR} (hl : st0.length = st.length) (h : VCalls Tryz.prog TT f args st0 (outR s b st rr)) : OutC s b st st0 f args rr := by
 cases rr with
 | ok x p n => exact VCalls.give h (by simp [hl])
 | err e q p n => exact VCalls.giveP h (by simp [hl])
theorem back_b {st ex : St} {b : Nat} {e : Ent} (h : b < st.length) : st.set b e ++ ex = (st ++ ex).set b e := (set_app h).symm
theorem get_b {st ex : St} {b : Nat} {e : Ent} (h : b < st.length) : (st.set b e ++ ex)[b]? = some e := by rw [back_b h]; exact List.getElem?_set_self (by simp; omega)
theorem x_blank (s : Str) (st ex : St) (b p n : Nat) (h : b < st.length) (hp : p ≤ s.length) (hs : s.length ≤ 6000) :
  VCalls Tryz.prog TT 73 [.ptr b 0] (st.set b (rdE s p n) ++ ex) fun r st' => r = .ret (.tup []) ∧ st' = st.set b (rdE s (s.length - (blk false (s.drop p)).length) n) ++ ex := by
 have := c_blank s (st.set b (rdE s p n) ++ ex) b p n (get_b h) hp hs
 rw [set_b h] at this; exact this
theorem x_node_ok (s : Str) (st ex : St) (b p n : Nat) (deep q : Int) (hb : b < st.length) (h : ¬ 2000 < n + 1 ∧ ¬ 40 < deep) :
  VCalls Tryz.prog TT 89 [.ptr b 0, .int .i64 deep, .int .i64 q] (st.set b (rdE s p n) ++ ex) fun r st' => r = .ret (.tup []) ∧ st' = st.set b (rdE s p (n + 1)) ++ ex := by
 have := c_node_ok s (st.set b (rdE s p n) ++ ex) b p n deep q (get_b hb) h
 rw [set_b hb] at this; exact this
theorem x_node_err (s : Str) (st ex : St) (b p n : Nat) (deep q : Int) (hb : b < st.length) (hn : n ≤ 2000) (h : 2000 < n + 1 ∨ 40 < deep) :
  VCalls Tryz.prog TT 89 [.ptr b 0, .int .i64 deep, .int .i64 q] (st.set b (rdE s p n) ++ ex) fun r st' => r = .panic (faultV 4 q) ∧ st' = st.set b (rdE s p (n + 1)) ++ ex := by
 have := c_node_err s (st.set b (rdE s p n) ++ ex) b p n deep q (get_b hb) hn h
 rw [set_b hb] at this; exact this
/-- .. with more behind. -/
def OutX (s : Str) (b : Nat) (st ex st0 : St) (f : FuncId) (args : List V) : RR → Prop
 | .ok x p n => VCalls Tryz.prog TT f args st0 fun r st' => r = .ret (.agg (encD x)) ∧ st' = st.set b (rdE s p n) ++ ex
 | .err e q p n => VCalls Tryz.prog TT f args st0 fun r st' => r = .panic (faultV e q) ∧ st' = st.set b (rdE s p n) ++ ex
theorem OutC.x {s : Str} {b p n : Nat} {st ex : St} {f : FuncId} {args : List V} {rr : RR} (hb : b < st.length) (h : OutC s b (st ++ ex) ((st ++ ex).set b (rdE s p n)) f args rr) : OutX s b st ex (st.set b (rdE s p n) ++ ex) f args rr := by
 rw [back_b hb]
 cases rr with
 | ok x p' n' => simp only [OutX, OutC, back_b hb] at h ⊢; exact h
 | err e q p' n' => simp only [OutX, OutC, back_b hb] at h ⊢; exact h
end Go.Proofs.YtpllcpbhjglpaaaGreatDoor.Gx
namespace Go.Proofs.YtpllcpbhjglpaaaGreatDoor.Gx
open Go Go.Proofs.YtpllcpbhjglpaaaGreatDoor.Gw
open Nat renaming reduceEqDiff → qqE, reduceAdd → qqA, reduceLT → qqL, reduceLeDiff → qqD, reduceMul → qqM
set_option linter.unusedSimpArgs false
set_option linter.unusedVariables false
def zeroD : List V := [.int .i64 0, .int .i64 0, .str [], .int .i64 0, .int .i64 0, .nils]
def IHD (s : Str) (F : Nat) : Prop := ∀ f, f < F → ∀ (deep : Int) (p n : Nat) (st : St) (b : Nat), b < st.length → p ≤ s.length → n ≤ 2000 → 0 ≤ deep → deep ≤ 41 → 2 * (s.length - p) < f →
 OutC s b st (st.set b (rdE s p n)) 74 [.ptr b 0, .int .i64 deep] (rdD s f deep p n)
theorem bz18 : type_of% @List.length_set.{0} ∧ type_of% @Nat.le_refl ∧ type_of% @at_k ∧ type_of% @at_k0 ∧ type_of% @encD_drop ∧ type_of% @encD_len ∧ type_of% @encD_take ∧ type_of% @set_k ∧ type_of% @set_k0 := ⟨@List.length_set.{0}, @Nat.le_refl, @at_k, @at_k0, @encD_drop, @encD_len, @encD_take, @set_k, @set_k0⟩
theorem bz22 : type_of% @List.length_set.{0} ∧ type_of% @at_k ∧ type_of% @at_k0 ∧ type_of% @set_k ∧ type_of% @set_k0 := ⟨@List.length_set.{0}, @at_k, @at_k0, @set_k, @set_k0⟩
set_option maxHeartbeats 4000000 in
theorem c_list_of (s : Str) (hs : s.length ≤ 6000) (F : Nat) (ih : IHD s F) (deep : Int) (p n : Nat) (st : St) (b : Nat) (hlt : b < st.length) (hp : p ≤ s.length) (hn : n ≤ 2000) (hd0 : 0 ≤ deep) (hd1 : deep ≤ 40) (hF : 2 * (s.length - p) + 1 < F) :
  OutC s b st (st.set b (rdE s p n)) 91 [.ptr b 0, .int .i64 deep] (rdL s F deep [] p n) := by
 refine OutC_of (by simp) ?_
 refine vfunQ TT_ok (an := anL []) (L := [0, 1, 4, 5]) (rs := [.cell 4 26]) Tryz.func91 rfl (by kernel_rfl) rfl Tryz.ntmps91 rfl rfl fun hst ha hf => ?_
 have h63 : s.length ≤ 9223372036854775807 := by omega
 have hok : ∀ p n, St.ok (st.set b (rdE s p n)) := fun p n => by have := rd_ok (s := s) (b := b) (p := p) (n := n) hst; rw [List.set_set] at this; exact this
 simp only [bz22, gw0, qqE, ↓reduceIte, qqA, qqL, qqD, qqM]
 refine vforT (σ := Nat × List Datum × Nat × Nat) [26] [0, 1, 4, 5] (fun x => [(0, true, .ptr b 0), (1, true, .int .i64 deep), (4, true, .ptr st.length 0), (5, true, .ptr (st.length + 1) 0)]) (fun x => st.set b (rdE s x.2.2.1 x.2.2.2) ++ [.box zeroD, .box [.int .i64 4, .int .i64 0, .str [], .int .i64 0, .int .i64 0, .lst 6 (some (st.length + 2)) (x.2.1.map encD)], .tip 26 x.2.1.length]) (fun x => s.length - x.2.2.1) (fun x => x.2.1.length ≤ x.2.2.1 ∧ x.2.2.1 ≤ s.length ∧ x.2.2.2 ≤ 2000 ∧ 2 * (s.length - x.2.2.1) + 1 < x.1 ∧ x.1 ≤ F ∧ rdL s F deep [] p n = rdL s x.1 deep x.2.1 x.2.2.1 x.2.2.2) (F, [], p, n) rfl TT_ok ⟨Nat.zero_le _, hp, hn, hF, Nat.le_refl _, rfl⟩ ?_ ?_ ?_
 ·exact wkE_refl _
 ·refine ⟨st.set b (rdE s p n) ++ [.box zeroD, .box [.int .i64 4, .int .i64 0, .str [], .int .i64 0, .int .i64 0, .lst 6 (some (st.length + 2)) []]], ?_, by simp only [bz35, gwL, tips]⟩
  refine (wkSt_refl _).append (wkSt_cons (Ent.wkp_refl _) (wkSt_cons (Ent.wk_box ?_) wkSt_nil))
  exact wkL_cons (wk_refl _) (wkL_cons (wk_refl _) (wkL_cons (wk_refl _) (wkL_cons (wk_refl _) (wkL_cons (wk_refl _) (wkL_cons (wk_tip _ (by simp [Tips])) wkL_nil)))))
 rintro ⟨f, acc, p, n⟩ ⟨hacc, hp, hn, hf2, hfF, hI⟩
 simp only at hacc hp hn hf2 hfF hI ⊢
 rw [hI]
 cases f with
 | zero => omega
 | succ f =>
 simp only [gw0, qqE, ↓reduceIte, qqA, qqL, qqD, qqM]
 refine (x_blank s st _ b p n hlt hp hs).use (wkL_refl _) fun _ => ?_
 have hble := blk_le (s.drop p) false
 have hbd := blk_drop (s.drop p) false
 simp only [rdL]
 simp only [List.length_drop] at hble hbd
 rw [List.drop_drop] at hbd
 generalize hl : blk false (s.drop p) = l at hble hbd ⊢
 simp only [gw0, qqE, ↓reduceIte, qqA, qqL, qqD, qqM]
 refine vdraw TT_ok TT_mixed [0, 0, 0, 1, 0, 0, 0, 1, 0, 0] (by kernel_rfl) ?_
 simp only [gw0, qqE, ↓reduceIte, qqA, qqL, qqD, qqM, at_b hlt]
 cases l with
 | nil =>
  simp only [List.length_nil, Nat.sub_zero, decide_true]
  simp only [gw0, qqE, ↓reduceIte, qqA, qqL, qqD, qqM, at_b hlt]
  refine (c_fail _ 2 s.length).useP (wkL_refl _) ?_
  simp only [gw0, qqE, ↓reduceIte, qqA, qqL, qqD, qqM]
  exact givesP_of (wk_refl _) (wkSt_refl _) (by simp [faultV, V.lt, ltL]) (hok _ _)
 | cons c r =>
  simp only [List.length_cons] at hble hbd ⊢
  have hlen : s.length - (r.length + 1) < s.length := by omega
  have hne : decide (((s.length - (r.length + 1) : Nat) : Int) = (s.length : Int)) = false := decide_eq_false (by omega)
  have hdr : s.drop (s.length - (r.length + 1)) = c :: r := by rw [hbd]; congr 1; omega
  generalize hp1 : s.length - (r.length + 1) = p1 at hlen hne hdr ⊢
  have hget : s[p1]? = some c := by
   have := congrArg (fun l => l[0]?) hdr
   simpa using this
  rw [hne]
  simp only [gw0, qqE, ↓reduceIte, qqA, qqL, qqD, qqM]
  refine vdraw TT_ok TT_mixed [0, 0, 0, 1, 0, 0, 0, 1, 0, 0] (by kernel_rfl) ?_
  have h41 : decide ((c.toNat : Int) = 41) = decide (c = 41) := byte_eq c 41
  simp only [gw0, qqE, ↓reduceIte, qqA, qqL, qqD, qqM, at_b hlt, getD_at hget, Int.ofNat_lt.mpr hlen]
  rw [h41]
  refine iK_split (fun h => ?_) (fun h => ?_)
  ·rw [h]
   simp only [bz22, gw0, qqE, ↓reduceIte, qqA, qqL, qqD, qqM, at_b hlt, next_i64 hlen h63, set_b hlt]
   refine ⟨by decide, ?_⟩
   simp only [cond_true, outR]
   have hp2 : s.length - r.length = p1 + 1 := by omega
   rw [hp2]
   refine gives_of (wk_agg ?_) (wkSt_refl _) (by simp only [V.lt]; exact encD_lt _ (.mk 4 0 [] 0 0 acc)) (hok _ _)
   rw [encD_mk]
   exact wkL_cons (wk_refl _) (wkL_cons (wk_refl _) (wkL_cons (wk_refl _) (wkL_cons (wk_refl _) (wkL_cons (wk_refl _) (wkL_cons (wk_tok _ _ _) wkL_nil)))))
  ·rw [h]
   simp only [cond_false]
   have hc := OutC.x (ex := [.box zeroD, .box [.int .i64 4, .int .i64 0, .str [], .int .i64 0, .int .i64 0, .lst 6 (some (st.length + 2)) (acc.map encD)], .tip 26 acc.length]) hlt (ih f (by omega) (deep + 1) p1 n (st ++ [.box zeroD, .box [.int .i64 4, .int .i64 0, .str [], .int .i64 0, .int .i64 0, .lst 6 (some (st.length + 2)) (acc.map encD)], .tip 26 acc.length]) b (by simp; omega) (by omega) hn (by omega) (by omega) (by omega))
   have hfar := (rd_far s f).1 (deep + 1) p1 n hn
   have hwr : IntKind.i64.wrap (deep + 1) = deep + 1 := wrap_i64 (by omega) (by omega)
   cases hrr : rdD s f (deep + 1) p1 n with
   | err e q p' n' =>
    rw [hrr] at hc
    simp only [OutX] at hc
    simp only [RR.bind]
    simp only [gw0, qqE, ↓reduceIte, qqA, qqL, qqD, qqM]
    refine vpanic TT_ok TT_mixed [0, 1, 0, 0, 0, 0, 0, 2, 0, 2] [0, 1, 2, 3, 4] 5 [6, 7, 8, 9] [0, 1, 4, 5] rfl (by kernel_rfl) ?_
    simp only [gw2, qqE, ↓reduceIte, qqA, qqL, qqD, qqM, ite_self, at_k, at_k0, hwr, List.length_set]
    refine pK_of hc (wkL_refl _) ?_
    exact givesP_of (wk_refl _) (wkSt_refl _) (by simp [faultV, V.lt, ltL]) (hok _ _)
   | ok x p' n' =>
    rw [hrr] at hc hfar
    simp only [OutX] at hc
    simp only [RR.far] at hfar
    simp only [RR.bind]
    simp only [gw0, qqE, ↓reduceIte, qqA, qqL, qqD, qqM]
    refine vstage TT_ok TT_mixed (σ := Unit) [st.set b (rdE s p1 n) ++ [.box zeroD, .box [.int .i64 4, .int .i64 0, .str [], .int .i64 0, .int .i64 0, .lst 6 (some (st.length + 2)) (acc.map encD)], .tip 26 acc.length], st.set b (rdE s p' n') ++ [.box zeroD, .box [.int .i64 4, .int .i64 0, .str [], .int .i64 0, .int .i64 0, .lst 6 (some (st.length + 2)) (acc.map encD)], .tip 26 acc.length]] [0, 3, 0, 0, 0, 4, 0, 2, 0, 2] [0,1,2,3,4,5,6,7,8,9] [] [] 1000 1001 [0, 1, 4, 5] (fun _x => [(0, true, .ptr b 0), (1, true, .int .i64 deep), (4, true, .ptr st.length 0), (5, true, .ptr (st.length + 1) 0)]) (fun _x => st.set b (rdE s p' n') ++ [.box zeroD, .box [.int .i64 4, .int .i64 0, .str [], .int .i64 0, .int .i64 0, .lst 6 (some (st.length + 2)) (acc.map encD ++ [encD x])], .tip 26 (acc.length + 1)]) (fun _x => True) rfl (by kernel_rfl) ?_ ?_
    ·simp only [gw2, qqE, ↓reduceIte, qqA, qqL, qqD, qqM, ite_self, at_k, at_k0, hwr, List.length_set]
     refine eK3_loud hc (wkL_refl _) (by simp) (by simp) ?_
     simp only [bz18, gw2, qqE, ↓reduceIte, qqA, qqL, qqD, qqM, ite_self, List.length_map]
     refine ⟨by omega, stage2_of ?_ ?_⟩
     ·simp only [gw2, qqE, ↓reduceIte, qqA, qqL, qqD, qqM, ite_self]
      exact ⟨rfl, rfl, (), rfl, rfl, trivial⟩
     ·simp only [gw2, qqE, ↓reduceIte, qqA, qqL, qqD, qqM, ite_self]
      exact ⟨rfl, rfl, (), rfl, rfl, trivial⟩
    ·rintro - -
     simp only [gw0, qqE, ↓reduceIte, qqA, qqL, qqD, qqM, Env.keep]
     have hsz : (List.set st b (rdE s p n)).length = st.length := by simp
     refine ⟨(f, acc ++ [x], p', n'), ⟨wkE_refl _, st.set b (rdE s p' n') ++ [.box zeroD, .box [.int .i64 4, .int .i64 0, .str [], .int .i64 0, .int .i64 0, .lst 6 (some (st.length + 2)) ((acc ++ [x]).map encD)], .tip 26 (acc ++ [x]).length], [], ?_, wkSt_refl _, ?_, ?_, ?_⟩, ?_, ?_, ?_, ?_, ?_, ?_, rfl⟩
     ·simp
     ·simp only [ltE, V.lt, gwL, List.length_set]
      exact ⟨by omega, by trivial, by omega, by omega, trivial⟩
     ·refine ok_app (hok p' n') ⟨by simp [Ent.lt, ltL, V.lt, zeroD], ⟨?_, trivial, trivial⟩⟩
      simp only [Ent.lt, ltL, V.lt, true_and, and_true]
      exact ⟨fun e he => by cases he; simp, ltRows_map fun d _ => encD_lt _ _⟩
     ·simp
     ·dsimp only; omega
     ·simp; omega
     ·exact hfar.2.1
     ·exact hfar.2.2
     ·dsimp only; omega
     ·dsimp only; omega
theorem wkR_cons {p : Nat → Prop} {x y : List V} {xs ys : List (List V)} (h : wkLp p x y) (k : wkRp p xs ys) : wkRp p (x :: xs) (y :: ys) := by simp only [wkRp]; exact ⟨y, ys, rfl, h, k⟩
theorem wkR_nil {p : Nat → Prop} : wkRp p [] [] := by simp [wkRp]
theorem word_slice {s : Str} {p : Nat} {c : UInt8} {r : Str} (h : s.drop p = c :: r) : (s.take (p + 1 + (r.takeWhile letterB).length)).drop p = c :: r.takeWhile letterB := by
 rw [List.drop_take, h, show p + 1 + (r.takeWhile letterB).length - p = (r.takeWhile letterB).length + 1 by omega, List.take_succ_cons]
 congr 1
 exact (List.prefix_iff_eq_take.1 (List.takeWhile_prefix letterB)).symm
set_option maxHeartbeats 4000000 in
theorem c_datum_of (s : Str) (hs : s.length ≤ 6000) (f : Nat) (ih : IHD s (f + 1)) (deep : Int) (p n : Nat) (st : St) (b : Nat) (hlt : b < st.length) (hp : p ≤ s.length) (hn : n ≤ 2000) (hd0 : 0 ≤ deep) (hd1 : deep ≤ 41) (hF : 2 * (s.length - p) < f + 1) :
  OutC s b st (st.set b (rdE s p n)) 74 [.ptr b 0, .int .i64 deep] (rdD s (f + 1) deep p n) := by
 refine OutC_of (by simp) ?_
 refine vfunQ TT_ok (an := anL []) (L := [0, 1, 4, 5, 6, 7, 8]) (rs := [.cell 4 26]) Tryz.func74 rfl (by kernel_rfl) rfl Tryz.ntmps74 rfl rfl fun hst ha hf => ?_
 have h63 : s.length ≤ 9223372036854775807 := by omega
 have hok : ∀ p n, St.ok (st.set b (rdE s p n)) := fun p n => by have := rd_ok (s := s) (b := b) (p := p) (n := n) hst; rw [List.set_set] at this; exact this
 have hfin : ∀ e q p' n' ex, outR s b st (.err e q p' n') (.panic (faultV e q)) (st.set b (rdE s p' n') ++ ex) := fun e q p' n' ex => givesP_of (wk_refl _) (wkSt_refl _) (by simp [faultV, V.lt, ltL]) (hok _ _)
 have hret : ∀ (d : Datum) v p' n' ex, wk v (.agg (encD d)) → outR s b st (.ok d p' n') (.ret v) (st.set b (rdE s p' n') ++ ex) := fun d v p' n' ex hw => gives_of hw (wkSt_refl _) (by simp only [V.lt]; exact encD_lt _ d) (hok _ _)
 simp only [bz22, gw0, qqE, ↓reduceIte, qqA, qqL, qqD, qqM, at_b hlt, at_b0 hlt, set_b hlt]
 simp only [rdD]
 cases h0 : (decide (2000 < n + 1) || decide (40 < deep)) with
 | true =>
  refine (x_node_err s st _ b p n deep p hlt hn (by simpa using h0)).useP (wkL_refl _) ?_
  simp only [gw0, qqE, ↓reduceIte, qqA, qqL, qqD, qqM]
  exact hfin _ _ _ _ _
 | false =>
 have hn1 : n + 1 ≤ 2000 := by simp at h0; omega
 have hdeep : deep ≤ 40 := by simp at h0; omega
 refine (x_node_ok s st _ b p n deep p hlt (by simp at h0; omega)).use (wkL_refl _) fun _ => ?_
 simp only [bz22, gw0, qqE, ↓reduceIte, qqA, qqL, qqD, qqM, at_b hlt, at_b0 hlt, set_b hlt]
 try simp only [cond_false]
 rcases at_or_end s p hp with ⟨rfl, hdr⟩ | ⟨c, hltp, hget, hdr⟩
 ·rw [hdr]
  simp only [gw0, qqE, ↓reduceIte, qqA, qqL, qqD, qqM, decide_true]
  refine (c_fail _ 2 s.length).useP (wkL_refl _) ?_
  simp only [gw0, qqE, ↓reduceIte, qqA, qqL, qqD, qqM]
  exact hfin _ _ _ _ _
 have hne : decide ((p : Int) = (s.length : Int)) = false := decide_eq_false (by omega)
 rw [hne, hdr]
 have hlen : p + (s.drop (p + 1)).length + 1 = s.length := by simp; omega
 have h40 : decide ((c.toNat : Int) = 40) = decide (c = 40) := byte_eq c 40
 simp only [bz22, gw0, qqE, ↓reduceIte, qqA, qqL, qqD, qqM, at_b hlt, at_b0 hlt, set_b hlt, getD_at hget, Int.ofNat_lt.mpr hltp, next_i64 hltp h63, h40]
 have hE : ∀ x n, Ent.box [V.str s, V.int .i64 (x : Nat), V.int .i64 (n : Nat)] = rdE s x n := fun _ _ => rfl
 simp only [hE]
 have ihf : IHD s f := fun f' h => ih f' (by omega)
 refine iK_split (fun h => ?_) (fun h => ?_)
 ·rw [h]
  have hc := OutC.x (ex := [.box zeroD]) hlt (c_list_of s hs f ihf deep (p + 1) (n + 1) (st ++ [.box zeroD]) b (by simp; omega) (by omega) hn1 hd0 hdeep (by omega))
  try simp only [cond_true]
  simp only [gw0, qqE, ↓reduceIte, qqA, qqL, qqD, qqM]
  cases hrr : rdL s f deep [] (p + 1) (n + 1) with
  | err e q p' n' =>
   rw [hrr] at hc
   refine hc.useP (wkL_refl _) ?_
   simp only [gw0, qqE, ↓reduceIte, qqA, qqL, qqD, qqM]
   exact hfin _ _ _ _ _
  | ok x p' n' =>
   rw [hrr] at hc
   refine hc.use (wkL_refl _) fun _ => ?_
   simp only [bz18, gw0, qqE, ↓reduceIte, qqA, qqL, qqD, qqM, zeroD]
   exact hret _ _ _ _ _ (wk_refl _)
 have h39 : decide ((c.toNat : Int) = 39) = decide (c = 39) := byte_eq c 39
 rw [h]
 simp only [gw0, qqE, ↓reduceIte, qqA, qqL, qqD, qqM, h39]
 try simp only [cond_false]
 clear h
 refine iK_split (fun h => ?_) (fun h => ?_)
 ·rw [h]
  try simp only [cond_true]
  have hwr : IntKind.i64.wrap (deep + 1) = deep + 1 := wrap_i64 (by omega) (by omega)
  simp only [gw0, qqE, ↓reduceIte, qqA, qqL, qqD, qqM, hwr]
  cases h1 : (decide (2000 < n + 2) || decide (40 < deep + 1)) with
  | true =>
   refine (x_node_err s st _ b (p + 1) (n + 1) (deep + 1) p hlt hn1 (by simpa using h1)).useP (wkL_refl _) ?_
   simp only [gw0, qqE, ↓reduceIte, qqA, qqL, qqD, qqM]
   try simp only [cond_true]
   exact hfin _ _ _ _ _
  | false =>
   have hn2 : n + 2 ≤ 2000 := by simp at h1; omega
   refine (x_node_ok s st _ b (p + 1) (n + 1) (deep + 1) p hlt (by simp at h1; omega)).use (wkL_refl _) fun _ => ?_
   simp only [gw0, qqE, ↓reduceIte, qqA, qqL, qqD, qqM]
   refine (x_blank s st _ b (p + 1) (n + 2) hlt (by omega) hs).use (wkL_refl _) fun _ => ?_
   have hbl := blk_le (s.drop (p + 1)) false
   simp only [List.length_drop] at hbl
   generalize hq : s.length - (blk false (s.drop (p + 1))).length = p2
   have hc := OutC.x (ex := [.box zeroD]) hlt (ih f (by omega) (deep + 1) p2 (n + 2) (st ++ [.box zeroD]) b (by simp; omega) (by omega) hn2 (by omega) (by omega) (by omega))
   try simp only [cond_false]
   simp only [gw0, qqE, ↓reduceIte, qqA, qqL, qqD, qqM, hwr]
   cases hrr : rdD s f (deep + 1) p2 (n + 2) with
   | err e q p' n' =>
    rw [hrr] at hc
    refine hc.useP (wkL_refl _) ?_
    simp only [gw0, qqE, ↓reduceIte, qqA, qqL, qqD, qqM]
    exact hfin _ _ _ _ _
   | ok x p' n' =>
    rw [hrr] at hc
    refine hc.use (wkL_refl _) fun _ => ?_
    simp only [bz18, gw0, qqE, ↓reduceIte, qqA, qqL, qqD, qqM, zeroD]
    refine hret (quoteD x) _ _ _ _ (wk_agg ?_)
    simp only [quoteD, encD_mk, List.map_cons, List.map_nil]
    exact wkL_cons (wk_refl _) (wkL_cons (wk_refl _) (wkL_cons (wk_refl _) (wkL_cons (wk_refl _) (wkL_cons (wk_refl _) (wkL_cons (wk_lst (wkR_cons (wk6 ..) (wkR_cons (wkL_refl _) wkR_nil))) wkL_nil)))))
 rw [h]
 have h35 : decide ((c.toNat : Int) = 35) = decide (c = 35) := byte_eq c 35
 simp only [gw0, qqE, ↓reduceIte, qqA, qqL, qqD, qqM, h35]
 try simp only [cond_false]
 clear h
 refine iK_split (fun h => ?_) (fun h => ?_)
 ·rw [h]
  try simp only [cond_true]
  simp only [gw0, qqE, ↓reduceIte, qqA, qqL, qqD, qqM]
  refine vdraw TT_ok TT_mixed [0, 0, 0, 1, 0, 0, 0, 1, 0, 0, 0, 0, 0, 0, 1, 0, 0, 0, 1, 0, 0, 0, 0, 0, 0, 1, 0, 0, 0, 1, 0, 0, 0, 0] (by kernel_rfl) ?_
  rcases at_or_end s (p + 1) (by omega) with ⟨hpe, hdr2⟩ | ⟨t, hltt, hgett, hdr2⟩
  ·have hlt1 : decide (((p + 1 : Nat) : Int) < (s.length : Int)) = false := decide_eq_false (by omega)
   simp only [gw0, qqE, ↓reduceIte, qqA, qqL, qqD, qqM, at_b hlt, hlt1]
   rw [hdr2]
   refine (c_fail _ 2 p).useP (wkL_refl _) ?_
   simp only [gw0, qqE, ↓reduceIte, qqA, qqL, qqD, qqM]
   exact hfin _ _ _ _ _
  ·have e1 : decide ((t.toNat : Int) = 116) = decide (t = 116) := byte_eq t 116
   have e2 : decide ((t.toNat : Int) = 102) = decide (t = 102) := byte_eq t 102
   simp only [gw0, qqE, ↓reduceIte, qqA, qqL, qqD, qqM, at_b hlt, lt_yes hltt, getD_at hgett, Int.ofNat_lt.mpr hltt, e1, e2]
   rw [hdr2]
   simp only [rdB]
   refine iK_split (fun h2 => ?_) (fun h2 => ?_)
   ·rw [h2]
    try simp only [cond_true]
    simp only [gw0, qqE, ↓reduceIte, qqA, qqL, qqD, qqM]
    refine vdraw TT_ok TT_mixed [0, 0, 0, 1, 0, 0, 0, 1, 0, 0] (by kernel_rfl) ?_
    simp only [gw0, qqE, ↓reduceIte, qqA, qqL, qqD, qqM, at_b hlt, getD_at hgett, Int.ofNat_lt.mpr hltt, e1]
    have hend : ∀ k : Int, k = (bif decide (t = 116) then 1 else 0) → True := fun _ _ => trivial
    refine iK_split (fun h3 => ?_) (fun h3 => ?_)
    ·rw [h3]
     simp only [gw0, qqE, ↓reduceIte, qqA, qqL, qqD, qqM, at_b hlt, set_b hlt, next_i64 hltt h63]
     simp only [hE]
     refine vdraw TT_ok TT_mixed [0, 0, 0, 1, 0, 0, 0, 1, 0, 0, 0, 0, 0, 0, 1, 0, 0, 0, 1, 0, 0, 0, 0] (by kernel_rfl) ?_
     rcases at_or_end s (p + 2) (by omega) with ⟨hpe, hdr3⟩ | ⟨u, hltu, hgetu, hdr3⟩
     ·have heq : decide (((p + 2 : Nat) : Int) = (s.length : Int)) = true := decide_eq_true (by omega)
      simp only [gw0, qqE, ↓reduceIte, qqA, qqL, qqD, qqM, at_b hlt, heq]
      rw [hdr3]
      refine eK_free (fun st => c_letter st (s.getD (p + 2) 0)) (wkL_refl _) ?_
      simp only [bz22, gw0, qqE, ↓reduceIte, qqA, qqL, qqD, qqM]
      exact hret (.mk 2 _ [] 0 0 []) _ _ _ _ (wk_agg (by rw [encD_mk]; exact wk6 ..))
     ·have heq : decide (((p + 2 : Nat) : Int) = (s.length : Int)) = false := decide_eq_false (by omega)
      simp only [gw0, qqE, ↓reduceIte, qqA, qqL, qqD, qqM, at_b hlt, heq, getD_at hgetu, Int.ofNat_lt.mpr hltu]
      rw [hdr3]
      refine eK_free (fun st => c_letter st u) (wkL_refl _) ?_
      simp only [bz22, gw0, qqE, ↓reduceIte, qqA, qqL, qqD, qqM]
      refine iK_split (fun h4 => ?_) (fun h4 => ?_)
      ·have h4' : letterB u = false := by simpa using h4
       rw [h4']
       simp only [bz22, gw0, qqE, ↓reduceIte, qqA, qqL, qqD, qqM]
       exact hret (.mk 2 _ [] 0 0 []) _ _ _ _ (wk_agg (by rw [encD_mk]; exact wk6 ..))
      ·have h4' : letterB u = true := by simpa using h4
       rw [h4']
       simp only [gw0, qqE, ↓reduceIte, qqA, qqL, qqD, qqM]
       refine (c_fail _ 2 p).useP (wkL_refl _) ?_
       simp only [gw0, qqE, ↓reduceIte, qqA, qqL, qqD, qqM]
       exact hfin _ _ _ _ _
    ·rw [h3]
     simp only [gw0, qqE, ↓reduceIte, qqA, qqL, qqD, qqM, at_b hlt, set_b hlt, next_i64 hltt h63]
     simp only [hE]
     refine vdraw TT_ok TT_mixed [0, 0, 0, 1, 0, 0, 0, 1, 0, 0, 0, 0, 0, 0, 1, 0, 0, 0, 1, 0, 0, 0, 0] (by kernel_rfl) ?_
     rcases at_or_end s (p + 2) (by omega) with ⟨hpe, hdr3⟩ | ⟨u, hltu, hgetu, hdr3⟩
     ·have heq : decide (((p + 2 : Nat) : Int) = (s.length : Int)) = true := decide_eq_true (by omega)
      simp only [gw0, qqE, ↓reduceIte, qqA, qqL, qqD, qqM, at_b hlt, heq]
      rw [hdr3]
      refine eK_free (fun st => c_letter st (s.getD (p + 2) 0)) (wkL_refl _) ?_
      simp only [bz22, gw0, qqE, ↓reduceIte, qqA, qqL, qqD, qqM]
      exact hret (.mk 2 _ [] 0 0 []) _ _ _ _ (wk_agg (by rw [encD_mk]; exact wk6 ..))
     ·have heq : decide (((p + 2 : Nat) : Int) = (s.length : Int)) = false := decide_eq_false (by omega)
      simp only [gw0, qqE, ↓reduceIte, qqA, qqL, qqD, qqM, at_b hlt, heq, getD_at hgetu, Int.ofNat_lt.mpr hltu]
      rw [hdr3]
      refine eK_free (fun st => c_letter st u) (wkL_refl _) ?_
      simp only [bz22, gw0, qqE, ↓reduceIte, qqA, qqL, qqD, qqM]
      refine iK_split (fun h4 => ?_) (fun h4 => ?_)
      ·have h4' : letterB u = false := by simpa using h4
       rw [h4']
       simp only [bz22, gw0, qqE, ↓reduceIte, qqA, qqL, qqD, qqM]
       exact hret (.mk 2 _ [] 0 0 []) _ _ _ _ (wk_agg (by rw [encD_mk]; exact wk6 ..))
      ·have h4' : letterB u = true := by simpa using h4
       rw [h4']
       simp only [gw0, qqE, ↓reduceIte, qqA, qqL, qqD, qqM]
       refine (c_fail _ 2 p).useP (wkL_refl _) ?_
       simp only [gw0, qqE, ↓reduceIte, qqA, qqL, qqD, qqM]
       exact hfin _ _ _ _ _
   ·rw [h2]
    simp only [gw0, qqE, ↓reduceIte, qqA, qqL, qqD, qqM]
    refine (c_fail _ 2 p).useP (wkL_refl _) ?_
    simp only [gw0, qqE, ↓reduceIte, qqA, qqL, qqD, qqM]
    exact hfin _ _ _ _ _
 rw [h]
 simp only [gw0, qqE, ↓reduceIte, qqA, qqL, qqD, qqM]
 try simp only [cond_false]
 clear h
 refine (c_letter _ c).use (wkL_refl _) fun _ => ?_
 simp only [gw0, qqE, ↓reduceIte, qqA, qqL, qqD, qqM]
 refine iK_split (fun h => ?_) (fun h => ?_)
 ·rw [h]
  try simp only [cond_true]
  simp only [gw0, qqE, ↓reduceIte, qqA, qqL, qqD, qqM]
  have hbox : [Ent.box [V.int .i64 0, V.int .i64 0, V.str [], V.int .i64 0, V.int .i64 0, V.nils]] = [Ent.box zeroD] := rfl
  have hrl : (s.drop (p + 1)).length = s.length - (p + 1) := by simp
  refine vfor (σ := Nat) [0, 1, 4, 5] (fun y => [(0, true, .ptr b 0), (1, true, .int .i64 deep), (4, true, .ptr st.length 0), (5, true, .int .i64 p)]) (fun y => st.set b (rdE s y (n + 1)) ++ [.box zeroD]) (fun y => s.length - y) (fun y => p + 1 ≤ y ∧ y ≤ s.length ∧ y + ((s.drop y).takeWhile letterB).length = p + 1 + ((s.drop (p + 1)).takeWhile letterB).length) (p + 1) rfl TT_ok ⟨Nat.le_refl _, by omega, rfl⟩ rfl rfl ?_
  rintro y ⟨hy1, hy2, hy3⟩
  simp only [gw0, qqE, ↓reduceIte, qqA, qqL, qqD, qqM]
  refine vdraw TT_ok TT_mixed [0, 0, 0, 1, 0, 0, 0, 1, 0, 0, 0, 0, 0, 0, 1, 0, 0, 0, 1, 0, 0, 0] (by kernel_rfl) ?_
  have hafter : ∀ y, y = p + 1 + ((s.drop (p + 1)).takeWhile letterB).length → y ≤ s.length → True := fun _ _ _ => trivial
  rcases at_or_end s y hy2 with ⟨hye, hdry⟩ | ⟨u, hlty, hgety, hdry⟩
  ·have hlt1 : decide ((y : Int) < (s.length : Int)) = false := decide_eq_false (by omega)
   simp only [gw0, qqE, ↓reduceIte, qqA, qqL, qqD, qqM, at_b hlt, hlt1]
   refine eK_free (fun st => c_letter st (s.getD y 0)) (wkL_refl _) ?_
   simp only [gw0, qqE, ↓reduceIte, qqA, qqL, qqD, qqM]
   have hyE : y = p + 1 + ((s.drop (p + 1)).takeWhile letterB).length := by rw [hdry] at hy3; simpa using hy3
   have hsl := word_slice hdr
   rw [← hyE] at hsl
   have hwl : (c :: (s.drop (p + 1)).takeWhile letterB).length ≤ 6000 := by have := takeWhile_le (l := s.drop (p + 1)); simp only [List.length_cons]; omega
   have hle1 : decide ((p : Int) ≤ (y : Int)) = true := decide_eq_true (by omega)
   simp only [rdA]
   rw [← hyE]
   cases har : atomR (c :: (s.drop (p + 1)).takeWhile letterB) with
   | inl e =>
    refine vpanic TT_ok TT_mixed [0, 0, 0, 1, 0, 0, 0, 0, 1, 0, 0, 0, 2] [0, 1, 2, 3, 4, 5, 6, 7, 8, 9, 10] 11 [12] [0, 1, 4, 5, 6, 7, 8] rfl (by kernel_rfl) ?_
    simp only [gw2, qqE, ↓reduceIte, qqA, qqL, qqD, qqM, ite_self, at_b hlt, Int.toNat_natCast, hsl]
    refine ⟨by omega, ?_⟩
    refine pK_of (c_atom_err _ _ p e hwl har) (wkL_refl _) ?_
    exact hfin _ _ _ _ _
   | inr d =>
    refine vdraw TT_ok TT_mixed [0, 0, 0, 1, 0, 0, 0, 0, 1, 0, 0, 0, 2] (by kernel_rfl) ?_
    simp only [gw0, qqE, ↓reduceIte, qqA, qqL, qqD, qqM, at_b hlt, Int.toNat_natCast, hsl]
    refine ⟨by omega, ?_⟩
    refine eK_free (fun st => c_atom_ok _ st p d hwl har) (wkL_refl _) ?_
    simp only [bz18, gw0, qqE, ↓reduceIte, qqA, qqL, qqD, qqM, zeroD]
    exact hret _ _ _ _ _ (wk_refl _)
  ·simp only [gw0, qqE, ↓reduceIte, qqA, qqL, qqD, qqM, at_b hlt, lt_yes hlty, getD_at hgety, Int.ofNat_lt.mpr hlty]
   refine eK_free (fun st => c_letter st u) (wkL_refl _) ?_
   simp only [gw0, qqE, ↓reduceIte, qqA, qqL, qqD, qqM]
   refine iK_split (fun h4 => ?_) (fun h4 => ?_)
   ·simp only [gw0, qqE, ↓reduceIte, qqA, qqL, qqD, qqM, at_b hlt, set_b hlt, next_i64 hlty h63]
    simp only [gw0, qqE, ↓reduceIte, qqA, qqL, qqD, qqM, Env.keep]
    rw [hdry, List.takeWhile_cons_of_pos h4, List.length_cons] at hy3
    exact ⟨y + 1, rfl, by omega, by omega, by omega, by omega⟩
   ·simp only [gw0, qqE, ↓reduceIte, qqA, qqL, qqD, qqM]
    have hyE : y = p + 1 + ((s.drop (p + 1)).takeWhile letterB).length := by rw [hdry, List.takeWhile_cons_of_neg (by simp [h4]), List.length_nil] at hy3; simpa using hy3
    have hsl := word_slice hdr
    rw [← hyE] at hsl
    have hwl : (c :: (s.drop (p + 1)).takeWhile letterB).length ≤ 6000 := by have := takeWhile_le (l := s.drop (p + 1)); simp only [List.length_cons]; omega
    have hle1 : decide ((p : Int) ≤ (y : Int)) = true := decide_eq_true (by omega)
    simp only [rdA]
    rw [← hyE]
    cases har : atomR (c :: (s.drop (p + 1)).takeWhile letterB) with
    | inl e =>
     refine vpanic TT_ok TT_mixed [0, 0, 0, 1, 0, 0, 0, 0, 1, 0, 0, 0, 2] [0, 1, 2, 3, 4, 5, 6, 7, 8, 9, 10] 11 [12] [0, 1, 4, 5, 6, 7, 8] rfl (by kernel_rfl) ?_
     simp only [gw2, qqE, ↓reduceIte, qqA, qqL, qqD, qqM, ite_self, at_b hlt, Int.toNat_natCast, hsl]
     refine ⟨by omega, ?_⟩
     refine pK_of (c_atom_err _ _ p e hwl har) (wkL_refl _) ?_
     exact hfin _ _ _ _ _
    | inr d =>
     refine vdraw TT_ok TT_mixed [0, 0, 0, 1, 0, 0, 0, 0, 1, 0, 0, 0, 2] (by kernel_rfl) ?_
     simp only [gw0, qqE, ↓reduceIte, qqA, qqL, qqD, qqM, at_b hlt, Int.toNat_natCast, hsl]
     refine ⟨by omega, ?_⟩
     refine eK_free (fun st => c_atom_ok _ st p d hwl har) (wkL_refl _) ?_
     simp only [bz18, gw0, qqE, ↓reduceIte, qqA, qqL, qqD, qqM, zeroD]
     exact hret _ _ _ _ _ (wk_refl _)
 ·rw [h]
  simp only [gw0, qqE, ↓reduceIte, qqA, qqL, qqD, qqM]
  refine (c_fail _ 2 p).useP (wkL_refl _) ?_
  simp only [gw0, qqE, ↓reduceIte, qqA, qqL, qqD, qqM]
  exact hfin _ _ _ _ _
theorem c_datum (s : Str) (hs : s.length ≤ 6000) : ∀ F, IHD s F
 | 0 => fun f h => by omega
 | F + 1 => fun f h deep p n st b h1 h2 h3 h4 h5 h6 => by
  rcases Nat.lt_or_ge f F with hl | hl
  ·exact c_datum s hs F f hl deep p n st b h1 h2 h3 h4 h5 h6
  ·have : f = F := by omega
   subst this
   cases f with
   | zero => omega
   | succ f => exact c_datum_of s hs f (c_datum s hs (f + 1)) deep p n st b h1 h2 h3 h4 h5 h6
/-- What is deferred, where nothing was thrown. -/
theorem d_idle (st : St) (a c : Nat) : VDefers Tryz.prog TT 72 [.ptr a 0, .ptr c 0] none st st := by
 refine vdefers TT_ok (an := anL []) (L := [0, 1, 3, 4, 5, 10]) Tryz.func72 rfl (by kernel_rfl) rfl Tryz.ntmps72 rfl rfl (by decide) (Nat.le_refl _) fun hst ha hf => ?_
 simp only [gw2, qqE, ↓reduceIte, qqA, qqL, qqD, qqM, ite_self, Option.getD_none]
 exact ⟨[], st, by simp, wkSt_refl _, hst⟩
/-- .. where a fault was. -/
theorem d_caught (st : St) (a c : Nat) (e q : Int) (o : V) (x y : Int) (hao : st[a]? = some (.box [o])) (hc : st[c]? = some (.box [.int .i64 x, .int .i64 y])) (hne : a ≠ c) (hst2 : St.ok ((st.set a (.box [.nils])).set c (.box [.int .i64 e, .int .i64 q]))) :
  VDefers Tryz.prog TT 72 [.ptr a 0, .ptr c 0] (some (faultV e q)) st ((st.set a (.box [.nils])).set c (.box [.int .i64 e, .int .i64 q])) := by
 have hal := (List.getElem?_eq_some_iff.1 hao).1
 have hcl := (List.getElem?_eq_some_iff.1 hc).1
 refine vdefers TT_ok (an := anL []) (L := [0, 1, 3, 4, 5, 10]) Tryz.func72 rfl (by kernel_rfl) rfl Tryz.ntmps72 rfl rfl (by decide) (by simp) fun hst ha hf => ?_
 simp only [faultV]
 simp only [gw2, qqE, ↓reduceIte, qqA, qqL, qqD, qqM, ite_self, Option.getD_some]
 have hA : ∀ l : St, (st ++ l)[a]? = some (.box [o]) := fun l => by rw [List.getElem?_append_left hal]; exact hao
 have hA2 : ∀ (l : St) (x : Ent), (st ++ l).set a x = st.set a x ++ l := fun l x => set_app hal
 have hC : ∀ (l : St) (x2 : Ent), (st.set a x2 ++ l)[c]? = some (.box [.int .i64 x, .int .i64 y]) := fun l x2 => by rw [List.getElem?_append_left (by simpa using hcl), List.getElem?_set_ne hne]; exact hc
 have hC2 : ∀ (l : St) (x x2 : Ent), (st.set a x ++ l).set c x2 = (st.set a x).set c x2 ++ l := fun l x x2 => set_app (by simpa using hcl)
 refine vdraw2 TT_ok TT_mixed (σ := Unit) [0, 1, 2, 2] [0, 2, 1, 3] 1 2 [0] (fun _x => [(0, true, .ptr a 0)]) (fun _x => (st.set a (.box [.nils])).set c (.box [.int .i64 e, .int .i64 q]) ++ [.box [.int .i64 e, .int .i64 q]]) (fun _x => True) rfl (by kernel_rfl) ?_ ?_ ?_
 ·simp only [gw2, qqE, ↓reduceIte, qqA, qqL, qqD, qqM, ite_self, hA, hA2, hC, hC2, at_k, at_k0]
  exact ⟨rfl, rfl, (), rfl, rfl, trivial⟩
 ·simp only [gw2, qqE, ↓reduceIte, qqA, qqL, qqD, qqM, ite_self, hA, hA2, hC, hC2, at_k, at_k0]
  exact ⟨rfl, rfl, (), rfl, rfl, trivial⟩
 ·rintro - -
  simp only [gw2, qqE, ↓reduceIte, qqA, qqL, qqD, qqM, ite_self, hA]
  exact ⟨[.box [.int .i64 e, .int .i64 q]], _, rfl, wkSt_refl _, hst2⟩
end Go.Proofs.YtpllcpbhjglpaaaGreatDoor.Gx
open Nat renaming reduceEqDiff → qqE, reduceAdd → qqA, reduceLT → qqL, reduceLeDiff → qqD, reduceMul → qqM
namespace Go.Proofs.YtpllcpbhjglpaaaGreatDoor.Gx
open Go Go.Proofs.YtpllcpbhjglpaaaGreatDoor.Gw
set_option linter.unusedSimpArgs false
set_option linter.unusedVariables false
def rdTop (s : Str) : Nat → List Datum → Nat → Nat → Sum (Int × Int) (List Datum)
 | 0, _, _, _ => .inl (0, 0)
 | f + 1, acc, p, n => match s.drop p with
  | [] => .inr acc
  | c :: r => match rdD s f 1 p n with
   | .err e q _ _ => .inl (e, q)
   | .ok x p' n' => rdTop s f (acc ++ [x]) (s.length - (blk false (s.drop p')).length) n'
/-- What a text's data are; or what is wrong. -/
def readR (s : Str) : Sum (Int × Int) (List Datum) := bif decide ((6000 : Int) < s.length) then .inl (4, 0) else rdTop s (2 * s.length + 3) [] (s.length - (blk false s).length) 0
def readV : Sum (Int × Int) (List Datum) → V
 | .inl f => .tup [lstD [], fltV f]
 | .inr l => .tup [lstD l, fltV (0, 0)]
theorem readV_lt (n : Nat) (r : Sum (Int × Int) (List Datum)) : (readV r).lt n := by
 cases r with
 | inl f => simp only [readV, fltV, V.lt, ltL, and_true]; exact lstD_lt _ _
 | inr l => simp only [readV, fltV, V.lt, ltL, and_true]; exact lstD_lt _ _
section
variable (s : Str) (st ex : St) (A B : Ent)
theorem at_2 (e : Ent) : (st ++ (A :: B :: e :: ex))[st.length + 2]? = some e := by simp
theorem set_2 (e e' : Ent) : (st ++ (A :: B :: e :: ex)).set (st.length + 2) e' = st ++ (A :: B :: e' :: ex) := by
 rw [List.set_append_right _ _ (by omega)]; simp
theorem y_blank (p n : Nat) (hp : p ≤ s.length) (hs : s.length ≤ 6000) :
  VCalls Tryz.prog TT 73 [.ptr (st.length + 2) 0] (st ++ (A :: B :: rdE s p n :: ex)) fun r st' => r = .ret (.tup []) ∧ st' = st ++ (A :: B :: rdE s (s.length - (blk false (s.drop p)).length) n :: ex) := by
 have := c_blank s (st ++ (A :: B :: rdE s p n :: ex)) (st.length + 2) p n (at_2 st ex A B _) hp hs
 rw [set_2] at this; exact this
def OutY (st0 : St) (f : FuncId) (args : List V) : RR → Prop
 | .ok x p n => VCalls Tryz.prog TT f args st0 fun r st' => r = .ret (.agg (encD x)) ∧ st' = st ++ (A :: B :: rdE s p n :: ex)
 | .err e q p n => VCalls Tryz.prog TT f args st0 fun r st' => r = .panic (faultV e q) ∧ st' = st ++ (A :: B :: rdE s p n :: ex)
theorem y_datum (hs : s.length ≤ 6000) (f : Nat) (p n : Nat) (hp : p ≤ s.length) (hn : n ≤ 2000) (hf : 2 * (s.length - p) < f) :
  OutY s st ex A B (st ++ (A :: B :: rdE s p n :: ex)) 74 [.ptr (st.length + 2) 0, .int .i64 1] (rdD s f 1 p n) := by
 have := c_datum s hs (f + 1) f (by omega) 1 p n (st ++ (A :: B :: rdE s p n :: ex)) (st.length + 2) (by simp) hp hn (by omega) (by omega) hf
 rw [set_2] at this
 cases hr : rdD s f 1 p n with
 | ok x p' n' => rw [hr] at this; simp only [OutC, set_2] at this; exact this
 | err e q p' n' => rw [hr] at this; simp only [OutC, set_2] at this; exact this
end
theorem ThawR.refl {st : St} {m : Nat} : ∀ l : List (List V), ThawR st m l l
 | [] => .nil
 | x :: l => .cons (ThawL.refl x) (ThawR.refl l)
theorem at_3 (st : St) (A B C D : Ent) : (st ++ [A, B, C, D])[st.length + 3]? = some D := by simp
theorem set_01 {st ex : St} {A B a b : Ent} : ((st ++ (A :: B :: ex)).set st.length a).set (st.length + 1) b = st ++ (a :: b :: ex) := by
 rw [List.set_append_right _ _ (Nat.le_refl _), List.set_append_right _ _ (by omega)]; simp
theorem y_caught (st ex : St) (e q : Int) (o : V) (x y : Int) (hok : St.ok (st ++ (.box [.nils] :: .box [.int .i64 e, .int .i64 q] :: ex))) :
  VDefers Tryz.prog TT 72 [.ptr st.length 0, .ptr (st.length + 1) 0] (some (faultV e q)) (st ++ (.box [o] :: .box [.int .i64 x, .int .i64 y] :: ex)) (st ++ (.box [.nils] :: .box [.int .i64 e, .int .i64 q] :: ex)) := by
 have := d_caught (st ++ (.box [o] :: .box [.int .i64 x, .int .i64 y] :: ex)) st.length (st.length + 1) e q o x y (by simp) (by simp) (by omega) (by rw [set_01]; exact hok)
 rw [set_01] at this
 exact this
theorem bz30 : type_of% @List.append_assoc.{0} ∧ type_of% @List.cons_append.{0} ∧ type_of% @List.nil_append.{0} := ⟨@List.append_assoc.{0}, @List.cons_append.{0}, @List.nil_append.{0}⟩
theorem bz33 : type_of% @List.length_append.{0} ∧ type_of% @List.length_cons.{0} ∧ type_of% @List.length_nil.{0} := ⟨@List.length_append.{0}, @List.length_cons.{0}, @List.length_nil.{0}⟩
set_option maxHeartbeats 4000000 in
theorem c_Read (s : Str) (st : St) : VCalls Tryz.prog TT 55 [.str s] st fun r st' => r = .ret (readV (readR s)) ∧ st' = st := by
 refine VCalls.freeze (Q := fun r s' => ∃ v u ex, r = .ret v ∧ s' = st ++ ex ∧ Thaw s' st.length v u ∧ wk u (readV (readR s)) ∧ (readV (readR s)).lt st.length) ?_ (fun r s' h => h)
 refine vfunD TT_ok (L := [0, 2, 3, 4]) Tryz.func55 rfl (by kernel_rfl) Tryz.ntmps55 rfl rfl fun hst ha hf => ?_
 refine waSeq TT_ok (an := anL []) (rs := [.cell 2 24, .cell 3 40]) rfl ?_
 simp only [gw2, qqE, ↓reduceIte, qqA, qqL, qqD, qqM, ite_self]
 refine waSeq TT_ok (an := anL []) (rs := [.cell 2 24, .cell 3 40]) rfl ?_
 simp only [gw2, qqE, ↓reduceIte, qqA, qqL, qqD, qqM, ite_self]
 refine iK_split (fun h => ?_) (fun h => ?_)
 ·simp only [gw2, qqE, ↓reduceIte, qqA, qqL, qqD, qqM, ite_self]
  refine ⟨_, _, _, rfl, rfl, .same _, ?_, readV_lt _ _⟩
  simp only [readR, h, cond_true, readV, fltV]
  exact wk_tup (wkL_cons (wk_nils _) (wkL_cons (wk_refl _) wkL_nil))
 have hs : s.length ≤ 6000 := by simp at h; omega
 simp only [gw2, qqE, ↓reduceIte, qqA, qqL, qqD, qqM, ite_self]
 refine waDefer TT_ok (an := anL []) (rs := [.cell 2 24, .cell 3 40]) rfl [.ptr st.length 0, .ptr (st.length + 1) 0] ⟨_, Tryz.func72, by kernel_rfl, by kernel_rfl⟩ (by decide) rfl rfl fun d => ?_
 simp only [gw2, qqE, ↓reduceIte, qqA, qqL, qqD, qqM, ite_self]
 refine (y_blank s st [] _ _ 0 0 (Nat.zero_le _) hs).use (wkL_refl _) fun _ => ?_
 have hr0 : readR s = rdTop s (2 * s.length + 3) [] (s.length - (blk false s).length) 0 := by simp only [readR, h, cond_false]
 rw [hr0]
 simp only [List.drop_zero]
 have hb0 := blk_le s false
 generalize hp0 : s.length - (blk false s).length = p0
 have hp0' : p0 ≤ s.length := by omega
 simp only [gw2, qqE, ↓reduceIte, qqA, qqL, qqD, qqM, ite_self]
 refine vnilB st.length 0 [.nils] 26 (by simp) rfl ?_
 rw [List.set_append_left _ _ (by simp), List.set_append_right _ _ (Nat.le_refl _)]
 simp only [bz33, bz30, Nat.sub_self, List.set_cons_zero, Nat.reduceAdd]
 have hT6 : (TT 26).size = 6 := rfl
 rw [hT6]
 have h63 : s.length ≤ 9223372036854775807 := by omega
 refine vfor (σ := Nat × List Datum × Nat × Nat) [0, 2, 3, 4] (fun x => [(0, true, .str s), (2, true, .ptr st.length 0), (3, true, .ptr (st.length + 1) 0), (4, true, .ptr (st.length + 2) 0)]) (fun x => st ++ [.box [.arr (st.length + 3) x.2.1.length], .box [.int .i64 0, .int .i64 0], rdE s x.2.2.1 x.2.2.2, .arr 26 6 (x.2.1.map encD)]) (fun x => s.length - x.2.2.1) (fun x => x.2.1.length ≤ x.2.2.1 ∧ x.2.2.1 ≤ s.length ∧ x.2.2.2 ≤ 2000 ∧ 2 * (s.length - x.2.2.1) + 1 < x.1 ∧ rdTop s (2 * s.length + 3) [] p0 0 = rdTop s x.1 x.2.1 x.2.2.1 x.2.2.2) (2 * s.length + 3, [], p0, 0) rfl TT_ok ⟨Nat.zero_le _, hp0', Nat.zero_le _, by dsimp only; omega, rfl⟩ rfl rfl ?_
 rintro ⟨f, acc, p, n⟩ ⟨hacc, hp, hn, hf2, hI⟩
 simp only at hacc hp hn hf2 hI ⊢
 rw [hI]
 cases f with
 | zero => omega
 | succ f =>
 simp only [rdTop]
 simp only [gw2, qqE, ↓reduceIte, qqA, qqL, qqD, qqM, ite_self, rdE]
 rcases at_or_end s p hp with ⟨rfl, hdr⟩ | ⟨c, hltp, hget, hdr⟩
 ·rw [hdr]
  simp only [gw2, qqE, ↓reduceIte, qqA, qqL, qqD, qqM, ite_self, lt_no]
  refine vstageT TT_ok TT_mixed (σ := Unit) [] [1, 1, 2, 2] [] [0, 1, 2, 3] [.nd 0 [.nd 1 [.nd 2 [.nd 3 []]], .nd 2 [.nd 1 [.nd 3 []]]], .nd 1 [.nd 0 [.nd 2 [.nd 3 []]]]] [2, 3] (fun _x => [(2, true, .ptr st.length 0), (3, true, .ptr (st.length + 1) 0)]) (fun _x => st ++ [.box [.arr (st.length + 3) acc.length], .box [.int .i64 0, .int .i64 0], rdE s s.length n, .arr 26 6 (acc.map encD)]) (fun _x => True) rfl (by kernel_rfl) ?_ ?_
  ·simp only [gw2, qqE, ↓reduceIte, qqA, qqL, qqD, qqM, ite_self, rdE]
   exact ⟨⟨rfl, rfl, (), rfl, rfl, trivial⟩, rfl, rfl, (), rfl, rfl, trivial⟩
  ·rintro - -
   simp only [gw2, qqE, ↓reduceIte, qqA, qqL, qqD, qqM, ite_self, rdE]
   refine dQ_ret (d_idle _ _ _) ?_
   simp only [gw2, qqE, ↓reduceIte, qqA, qqL, qqD, qqM, ite_self, rdE]
   refine ⟨_, _, _, rfl, rfl, .tup (.cons (.arr (Nat.le_add_right _ 3) (at_3 ..) (by simp) (ThawR.refl _)) (.cons (.same _) .nil)), ?_, readV_lt _ _⟩
   exact wk_tup (wkL_cons (wk_refl _) (wkL_cons (wk_refl _) wkL_nil))
 ·rw [hdr]
  simp only [gw2, qqE, ↓reduceIte, qqA, qqL, qqD, qqM, ite_self, lt_yes hltp]
  have hfar := (rd_far s f).1 1 p n hn
  have hc := y_datum s st [.arr 26 6 (acc.map encD)] (.box [.arr (st.length + 3) acc.length]) (.box [.int .i64 0, .int .i64 0]) hs f p n hp hn (by omega)
  cases hrr : rdD s f 1 p n with
  | err e q p' n' =>
   rw [hrr] at hc
   simp only [OutY] at hc
   refine vpanic TT_ok TT_mixed [1, 0, 0, 0, 0, 2, 0, 2, 2] [0, 1, 3, 4] 2 [5, 6, 7, 8] [0, 2, 3, 4] rfl (by kernel_rfl) ?_
   simp only [gw2, qqE, ↓reduceIte, qqA, qqL, qqD, qqM, ite_self, rdE, List.length_map]
   refine pK_of hc (wkL_refl _) ?_
   refine dQ_panic (y_caught st _ e q _ 0 0 (ok_app hst ⟨by simp [Ent.lt, ltL, V.lt], by simp [Ent.lt, ltL, V.lt], by simp [rdE, Ent.lt, ltL, V.lt], ?_, trivial⟩)) ?_
   ·simp only [Ent.lt]
    exact ltRows_map fun d _ => encD_lt _ _
   ·simp only [gw2, qqE, ↓reduceIte, qqA, qqL, qqD, qqM, ite_self, rdE]
    exact ⟨_, _, _, rfl, rfl, .same _, wk_tup (wkL_cons (wk_nils _) (wkL_cons (wk_refl _) wkL_nil)), readV_lt _ _⟩
  | ok x p' n' =>
   rw [hrr] at hc hfar
   simp only [OutY] at hc
   simp only [RR.far] at hfar
   refine vstageT TT_ok TT_mixed (σ := Unit) [st ++ [.box [.arr (st.length + 3) acc.length], .box [.int .i64 0, .int .i64 0], rdE s p n, .arr 26 6 (acc.map encD)], st ++ [.box [.arr (st.length + 3) acc.length], .box [.int .i64 0, .int .i64 0], rdE s p' n', .arr 26 6 (acc.map encD)]] [3, 0, 4, 0, 0, 2, 0, 2, 2] [0, 1, 2, 3, 4] [5, 6, 7, 8] [.nd 5 [.nd 6 [.nd 7 [.nd 8 []], .nd 8 [.nd 7 []]], .nd 8 [.nd 6 [.nd 7 []]]]] [0, 2, 3, 4] (fun _x => [(0, true, .str s), (2, true, .ptr st.length 0), (3, true, .ptr (st.length + 1) 0), (4, true, .ptr (st.length + 2) 0)]) (fun _x => st ++ [.box [.arr (st.length + 3) (acc.length + 1)], .box [.int .i64 0, .int .i64 0], rdE s p' n', .arr 26 6 (acc.map encD ++ [encD x])]) (fun _x => True) rfl (by kernel_rfl) ?_ ?_
   ·simp only [gw2, qqE, ↓reduceIte, qqA, qqL, qqD, qqM, ite_self, rdE, List.length_map]
    refine eK3_loud hc (wkL_refl _) (by simp [rdE]) (by simp [rdE]) ?_
    have hset1 : ∀ z X, (acc.map encD ++ [z]).set acc.length X = acc.map encD ++ [X] := fun z X => by rw [List.set_append_right _ _ (by simp)]; simp
    have hget1 : ∀ z, (acc.map encD ++ [z]).getD acc.length [] = z := fun z => by simp [List.getD_eq_getElem?_getD]
    have hw1 : IntKind.i64.wrap ((acc.length : Int) + 1) = ((acc.length + 1 : Nat) : Int) := by rw [wrap_i64 (by omega) (by omega)]; omega
    simp only [gw2, qqE, ↓reduceIte, qqA, qqL, qqD, qqM, ite_self, rdE, List.length_map, List.length_append, encD_len, hset1, hget1, Nat.le_refl]
    exact ⟨by omega, by omega, by omega, rfl, rfl, (), rfl, rfl, trivial⟩
   ·rintro - -
    simp only [gw2, qqE, ↓reduceIte, qqA, qqL, qqD, qqM, ite_self, rdE]
    have hb2 := blk_le (s.drop p') false
    simp only [List.length_drop] at hb2
    refine (y_blank s st _ _ _ p' n' hfar.2.1 hs).use (wkL_refl _) fun _ => ?_
    simp only [gw2, qqE, ↓reduceIte, qqA, qqL, qqD, qqM, ite_self, Env.keep]
    generalize hq : s.length - (blk false (s.drop p')).length = q
    refine ⟨(f, acc ++ [x], q, n'), by simp [rdE], ?_, ?_, ?_, hfar.2.2, ?_, rfl⟩
    ·dsimp only; omega
    ·simp; omega
    ·dsimp only; omega
    ·dsimp only; omega
end Go.Proofs.YtpllcpbhjglpaaaGreatDoor.Gx
