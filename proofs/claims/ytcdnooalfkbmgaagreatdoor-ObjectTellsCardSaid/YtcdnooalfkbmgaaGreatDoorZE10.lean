/- Printing data, walked. What is written is read. What is written is read; what is read is right. Units as bytes, in plain terms: what is written, what is read. What a right unit's instructions have; how long their bytes are; what is written of them is read. Writing numbers, texts and instructions, walked. A unit's bytes, walked. Reading numbers and texts, walked. Reading an instruction, walked. -/
import Derived.Test.YtcdnooalfkbmgaaGreatDoorZE9
namespace Go.Proofs.YtcdnooalfkbmgaaGreatDoor.Gx
open Go Go.Proofs.YtcdnooalfkbmgaaGreatDoor.Gw
open Nat (reduceEqDiff reduceAdd reduceLT reduceLeDiff reduceMul)
set_option linter.unusedSimpArgs false
set_option linter.unusedVariables false
/-- Data, each on a line. -/
def textL : List Datum → Str
 | [] => []
 | d :: r => textD d ++ 10 :: textL r
theorem textL_app : ∀ l m : List Datum, textL (l ++ m) = textL l ++ textL m
 | [], m => rfl
 | d :: r, m => by simp only [List.cons_append, textL, textL_app r m, List.append_assoc]
theorem take_textL {l : List Datum} {i : Nat} {a : Datum} (h : l[i]? = some a) : textL (l.take (i + 1)) = textL (l.take i) ++ textD a ++ [10] := by
 rw [take_next h, textL_app]; simp [textL]
theorem textL_take_le (l : List Datum) (i : Nat) : (textL (l.take i)).length ≤ (textL l).length := by
 have := textL_app (l.take i) (l.drop i)
 rw [List.take_append_drop] at this
 rw [this]; simp
theorem textL_len : ∀ l : List Datum, okDs l → (textL l).length ≤ 22 * cntDs l
 | [], _ => by simp [textL]
 | d :: r, h => by
  have h1 := textD_len d h.1
  have h2 := textL_len r h.2
  simp only [textL, cntDs, List.length_cons, List.length_append]
  omega
theorem wrong_ok : ∀ (l : List Datum) (i : Nat) (c : Int), 0 ≤ c → c ≤ 2000 → (wrongL l i c).1 = 0 → okDs l ∧ c + cntDs l ≤ 2000
 | [], i, c, h0, h1, _ => by simp [okDs, cntDs, h1]
 | d :: r, i, c, h0, h1, h => by
  simp only [wrongL] at h
  by_cases e : (shapeD d 1 c).1 = 0
  ·simp only [e, decide_true, cond_true] at h
   have k1 := shape_okD d 1 c e
   have k2 := shapeD_ok d 1 c h0 e
   have k3 := wrong_ok r (i + 1) _ (by omega) k2.2 h
   refine ⟨⟨k1.1, k3.1⟩, ?_⟩
   simp only [cntDs]; omega
  ·simp [e] at h
/-- What is printed, or what is wrong. -/
def printL (l : List Datum) : Str × (Int × Int) := bif decide ((wrongL l 0 0).1 = 0) then (bif decide (6000 < (textL l).length) then ([], (4, 0)) else (textL l, (0, 0))) else ([], wrongL l 0 0)
def printV (x : Str × (Int × Int)) : V := .tup [.str x.1, fltV x.2]
theorem at_app {α : Type} {x : α} (st l : List α) (k : Nat) (h : l[k]? = some x) : (st ++ l)[st.length + k]? = some x := by
 rw [List.getElem?_append_right (Nat.le_add_right _ _), Nat.add_sub_cancel_left]; exact h
theorem bytesV_lt (n : Nat) : ∀ s : Str, ltRows n (bytesV s)
 | [] => trivial
 | c :: r => ⟨⟨trivial, trivial⟩, bytesV_lt n r⟩
theorem lies40 : ∀ T k : Nat, T = 65 → k = 2 → liesAt Tryz.prog Tryz.prog.depth T (k / Tryz.prog.cellsOf T) 0 65 1 = true := by
 rintro _ _ rfl rfl
 kernel_rfl
theorem c_Print (st : St) (l : List Datum) : VCalls Tryz.prog TT 56 [lstD l] st fun r st' => r = .ret (printV (printL l)) ∧ st' = st := by
 refine vfun TT_ok (an := anL [(5, 5)]) (L := [0, 2, 3, 4, 5, 6, 14, 15]) (rs := [.tmp 2, .cell 3 41]) Tryz.func56 rfl (by kernel_rfl) rfl Tryz.ntmps56 rfl rfl (Nat.le_refl _) fun hst ha hf => ?_
 simp only [fitL, V.fit, List.length_map, lstD] at hf
 have hkl : l.length ≤ 9223372036854775807 := by simp at hf; omega
 simp only [gw0, reduceEqDiff, ↓reduceIte, reduceAdd, reduceLT, reduceLeDiff, reduceMul]
 refine (c_text_Wrong _ l).use (wkL_refl _) fun _ => ?_
 simp only [fltV, lstD]
 simp only [gw0, reduceEqDiff, ↓reduceIte, reduceAdd, reduceLT, reduceLeDiff, reduceMul]
 refine iK_split (fun h => ?_) (fun h => ?_)
 ·have h1 : decide ((wrongL l 0 0).1 = 0) = false := not_yes h
  simp only [gw0, reduceEqDiff, ↓reduceIte, reduceAdd, reduceLT, reduceLeDiff, reduceMul]
  refine vdraw TT_ok TT_mixed [1, 0, 2] (by kernel_rfl) ?_
  simp only [gw0, reduceEqDiff, ↓reduceIte, reduceAdd, reduceLT, reduceLeDiff, reduceMul]
  simp only [printL, h1, cond_false, printV, fltV]
  exact gives_of (wk_refl _) (wkSt_refl _) (by simp [V.lt, ltL]) hst
 have h1 : decide ((wrongL l 0 0).1 = 0) = true := not_no h
 have hw := wrong_ok l 0 0 (by omega) (by omega) (of_decide_eq_true h1)
 have hlen := textL_len l hw.1
 have hw0 : (wrongL l 0 0).1 = 0 := of_decide_eq_true h1
 simp only [gw0, reduceEqDiff, ↓reduceIte, reduceAdd, reduceLT, reduceLeDiff, reduceMul, List.length_map]
 refine vnilB (st.length + 2) 1 [.addr (st.length + 2) 65 2, .nils] 5 (by simp) rfl ?_
 rw [List.set_append_left _ _ (by simp), List.set_append_right _ _ (by omega)]
 simp only [Nat.add_sub_cancel_left, List.set_cons_zero, List.set_cons_succ, List.append_assoc, List.cons_append, List.nil_append, List.length_append, List.length_cons, List.length_nil, Nat.reduceAdd]
 have hT5 : (TT 5).size = 1 := rfl
 rw [hT5]
 refine vforD (σ := Nat) [0, 2, 3, 4, 5, 14, 15] (fun i => [(0, true, lstD l), (2, true, .str []), (3, true, .ptr st.length 0), (4, true, .ptr (st.length + 1) 0), (5, true, .ptr (st.length + 2) 0), (14, true, .int .i64 l.length), (15, true, .int .i64 i)]) (fun i => st ++ [.box [.int .i64 0, .int .i64 0], .box [.int .i64 0, .int .i64 (wrongL l 0 0).2], .box [.addr (st.length + 2) 65 2, .arr (st.length + 3) (textL (l.take i)).length], .arr 5 1 (bytesV (textL (l.take i)))]) (fun i => l.length - i) (fun i => i ≤ l.length) 0 rfl TT_ok (Nat.zero_le _) (by rw [lstD]; exact wkE_refl _) (by simp [hw0, textL, bytesV]) ?_
 have hI : ∀ x, IsB (st ++ [.box [.int .i64 0, .int .i64 0], .box [.int .i64 0, .int .i64 (wrongL l 0 0).2], .box [.addr (st.length + 2) 65 2, .arr (st.length + 3) x.length], .arr 5 1 (bytesV x)]) (st.length + 2) (st.length + 3) 65 2 x [] := fun x => ⟨at_app _ _ 2 (by simp only [List.getElem?_cons_succ, List.getElem?_cons_zero]), at_app _ _ 3 (by simp only [List.getElem?_cons_succ, List.getElem?_cons_zero]), lies40 _ _ rfl rfl⟩
 intro i hi
 simp only [lstD]
 have hle := textL_take_le l i
 rcases at_or_end l i hi with ⟨rfl, hdd⟩ | ⟨a, hlt2, hget, hdr⟩
 ·simp only [gw0, reduceEqDiff, ↓reduceIte, reduceAdd, reduceLT, reduceLeDiff, reduceMul, lt_no]
  rw [List.take_length]
  refine (c_Len (hI _)).use (wkL_refl _) fun _ => ?_
  simp only [gw0, reduceEqDiff, ↓reduceIte, reduceAdd, reduceLT, reduceLeDiff, reduceMul]
  refine iK_split (fun h2 => ?_) (fun h2 => ?_)
  ·simp only [gw0, reduceEqDiff, ↓reduceIte, reduceAdd, reduceLT, reduceLeDiff, reduceMul]
   have h3 : decide (6000 < (textL l).length) = true := by rw [decide_eq_true_eq] at h2 ⊢; omega
   simp only [printL, h1, h3, cond_true, printV, fltV]
   exact gives_of (wk_refl _) (wkSt_refl _) (by simp [V.lt, ltL]) hst
  ·have h3 : decide (6000 < (textL l).length) = false := by rw [decide_eq_false_iff_not] at h2 ⊢; omega
   simp only [gw0, reduceEqDiff, ↓reduceIte, reduceAdd, reduceLT, reduceLeDiff, reduceMul]
   refine (c_String (hI _)).use (wkL_refl _) fun _ => ?_
   simp only [gw0, reduceEqDiff, ↓reduceIte, reduceAdd, reduceLT, reduceLeDiff, reduceMul]
   simp only [printL, h1, h3, cond_true, cond_false, printV, fltV]
   exact gives_of (wk_refl _) (wkSt_refl _) (by simp [V.lt, ltL]) hst
 ·have hle2 := textL_take_le l (i + 1)
  rw [take_textL hget] at hle2
  simp only [List.length_append, List.length_cons, List.length_nil] at hle2
  simp only [gw0, reduceEqDiff, ↓reduceIte, reduceAdd, reduceLT, reduceLeDiff, reduceMul, lt_yes hlt2, hdr, List.length_map, getD_map hget, Int.ofNat_lt.mpr hlt2]
  refine (c_write a _ _ _ _ _ _ [] (hI _) (okDs_mem hw.1 (List.mem_of_getElem? hget)) (by omega)).use (wkL_refl _) fun _ => ?_
  simp only [gw0, reduceEqDiff, ↓reduceIte, reduceAdd, reduceLT, reduceLeDiff, reduceMul, bput]
  refine (c_WriteByte (hI _) 10 (by simp; omega)).use (wkL_refl _) fun _ => ?_
  simp only [gw0, reduceEqDiff, ↓reduceIte, reduceAdd, reduceLT, reduceLeDiff, reduceMul, bput]
  rw [← take_textL hget]
  refine ⟨i + 1, ⟨?_, _, [], (List.append_nil _).symm, wkSt_refl _, ?_, ?_, by simp⟩, by omega, by omega⟩
  ·simp only [gw0, reduceEqDiff, ↓reduceIte, reduceAdd, reduceLT, reduceLeDiff, reduceMul, Env.keep, next_i64 hlt2 hkl]
   exact wkE_refl _
  ·simp only [ltE, V.lt, List.length_append, List.length_cons, List.length_nil]
   exact ⟨⟨fun e h => (by cases h), by rw [← encDs_map]; exact encDs_lt _ _⟩, trivial, by omega, by omega, by omega, trivial, trivial, trivial⟩
  ·refine ok_app hst ⟨⟨trivial, trivial, trivial⟩, ⟨trivial, trivial, trivial⟩, ⟨?_, ?_, trivial⟩, bytesV_lt _ _, trivial⟩
   ·simp only [V.lt, List.length_cons, List.length_nil]; omega
   ·simp only [V.lt, List.length_cons, List.length_nil]; omega
-- numerals
theorem dig_byte {u : Nat} (h : u < 10) : (UInt8.ofNat (48 + u)).toNat = 48 + u := by simp; omega
theorem dec_ok (u : Nat) : digits (Lib.decDigits u) = true ∧ Lib.decDigits u ≠ [] ∧ numN (Lib.decDigits u) = u := by
 induction u using Nat.strongRecOn with
 | _ u ih =>
  rw [Lib.decDigits]
  split
  ·rename_i h
   have := dig_byte h
   refine ⟨?_, by simp, ?_⟩
   ·simp only [digits, List.all_cons, List.all_nil, Bool.and_true, this]; simp; omega
   ·simp only [numN, List.foldl_cons, List.foldl_nil, this]; omega
  ·rename_i h
   obtain ⟨h1, h2, h3⟩ := ih (u / 10) (by omega)
   have := dig_byte (Nat.mod_lt u (show 10 > 0 by decide))
   refine ⟨?_, by simp, ?_⟩
   ·simp only [digits, List.all_append, List.all_cons, List.all_nil, Bool.and_true, this] at h1 ⊢; rw [h1]; simp; omega
   ·simp only [numN, List.foldl_append, List.foldl_cons, List.foldl_nil, this] at h3 ⊢; rw [h3]; omega
theorem dec_len : ∀ (k u : Nat), u < 10 ^ (k + 1) → (Lib.decDigits u).length ≤ k + 1
 | 0, u, h => by rw [Lib.decDigits, dif_pos (by simpa using h)]; simp
 | k + 1, u, h => by
  rw [Lib.decDigits]
  split
  ·simp
  ·have := dec_len k (u / 10) (by rw [Nat.pow_succ] at h; omega)
   simp; omega
theorem digits_letters : ∀ {s : Str}, digits s = true → s.all letterB = true
 | [], _ => rfl
 | c :: r, h => by
  simp only [digits, List.all_cons, Bool.and_eq_true, decide_eq_true_eq] at h ⊢
  refine ⟨?_, digits_letters h.2⟩
  have key : ∀ c : UInt8, decide (48 ≤ c.toNat) && decide (c.toNat ≤ 57) → letterB c = true := fun c => of_decide_eq_true (all_bytes (p := fun c => decide (decide (48 ≤ c.toNat) && decide (c.toNat ≤ 57) → letterB c = true)) (by decide +kernel) c)
  exact key c (by simp [h.1.1, h.1.2])
theorem digits_head {c : UInt8} {r : Str} (h : digits (c :: r) = true) : c ≠ 45 := by
 simp only [digits, List.all_cons, Bool.and_eq_true, decide_eq_true_eq] at h
 rintro rfl
 have := h.1.1
 simp at this
theorem itoa_ok {n : Int} (h0 : -1000000000000000 ≤ n) (h1 : n ≤ 1000000000000000) : (Lib.itoa n).all letterB = true ∧ Lib.itoa n ≠ [] ∧ looksB (Lib.itoa n) = true ∧ (Lib.itoa n).length ≤ 17 ∧ numV (Lib.itoa n) = n := by
 unfold Lib.itoa
 split
 ·rename_i h
  obtain ⟨k1, k2, k3⟩ := dec_ok n.natAbs
  have kl := dec_len 15 n.natAbs (by omega)
  refine ⟨?_, by simp, ?_, by simp; omega, ?_⟩
  ·rw [List.all_cons, digits_letters k1]; decide
  ·simp only [looksB, k1, Bool.true_and, Bool.not_eq_true', List.isEmpty_eq_false_iff]; exact k2
  ·simp only [numV, k3]; omega
 ·rename_i h
  obtain ⟨k1, k2, k3⟩ := dec_ok n.toNat
  have kl := dec_len 15 n.toNat (by omega)
  refine ⟨digits_letters k1, k2, ?_, by omega, ?_⟩
  ·generalize Lib.decDigits n.toNat = s at k1 k2
   cases s with
   | nil => exact absurd rfl k2
   | cons c r =>
    have hc := digits_head k1
    unfold looksB
    split
    ·rename_i r' e; simp only [List.cons.injEq] at e; exact absurd e.1 hc
    ·rw [k1]; rfl
  ·generalize Lib.decDigits n.toNat = s at k1 k2 k3
   cases s with
   | nil => exact absurd rfl k2
   | cons c r =>
    have hc := digits_head k1
    unfold numV
    split
    ·rename_i r' e; simp only [List.cons.injEq] at e; exact absurd e.1 hc
    ·rw [k3]; omega
mutual
/-- A datum, but what its kind has not. -/
def normD : Datum → Datum
 | .mk k n nm s l kids => bif decide (k = 1) || decide (k = 2) then .mk k n [] 0 0 [] else bif decide (k = 3) then .mk 3 0 nm 0 0 [] else .mk 4 0 [] 0 0 (normDs kids)
def normDs : List Datum → List Datum
 | [] => []
 | d :: r => normD d :: normDs r
end
/-- No blank, no note, no end. -/
def Beg (c : UInt8) : Prop := isBlank c = false ∧ decide (c = 59) = false ∧ decide (c = 41) = false
theorem letter_beg (c : UInt8) (h : letterB c = true) : isBlank c = false ∧ decide (c = 59) = false ∧ decide (c = 41) = false ∧ decide (c = 40) = false ∧ decide (c = 39) = false ∧ decide (c = 35) = false := by
 have key : ∀ c : UInt8, letterB c = true → (isBlank c = false ∧ decide (c = 59) = false ∧ decide (c = 41) = false ∧ decide (c = 40) = false ∧ decide (c = 39) = false ∧ decide (c = 35) = false) := fun c => of_decide_eq_true (all_bytes (p := fun c => decide (letterB c = true → (isBlank c = false ∧ decide (c = 59) = false ∧ decide (c = 41) = false ∧ decide (c = 40) = false ∧ decide (c = 39) = false ∧ decide (c = 35) = false))) (by decide +kernel) c)
 exact key c h
theorem beg_blk {c : UInt8} {q : Str} (h : Beg c) : blk false (c :: q) = c :: q := by
 simp only [blk, h.1, h.2.1, cond_false]
theorem beg_blk' {c : UInt8} {q : Str} (h1 : isBlank c = false) (h2 : decide (c = 59) = false) : blk false (c :: q) = c :: q := by
 simp only [blk, h1, h2, cond_false]
theorem word_cons {s : Str} (h : s.all letterB = true) (h0 : s ≠ []) : ∃ c q, s = c :: q ∧ letterB c = true ∧ q.all letterB = true := by
 cases s with
 | nil => exact absurd rfl h0
 | cons c q => simp only [List.all_cons, Bool.and_eq_true] at h; exact ⟨c, q, rfl, h⟩
theorem text_beg : ∀ d : Datum, okD d → ∃ c q, textD d = c :: q ∧ Beg c := by
 intro d h
 cases d with
 | mk k n nm s l kids =>
  simp only [okD] at h
  simp only [textD]
  rcases h with ⟨rfl, h1, h2⟩ | ⟨rfl, h1⟩ | ⟨rfl, h1, _⟩ | ⟨rfl, h1⟩
  ·obtain ⟨k1, k2, _⟩ := itoa_ok h1 h2
   obtain ⟨c, q, e, hc, _⟩ := word_cons k1 k2
   have := letter_beg c hc
   exact ⟨c, q, by simp [e], this.1, this.2.1, this.2.2.1⟩
  ·rcases h1 with rfl | rfl
   ·exact ⟨35, [102], by simp, by decide, by decide, by decide⟩
   ·exact ⟨35, [116], by simp, by decide, by decide, by decide⟩
  ·simp only [namedB, Bool.and_eq_true, decide_eq_true_eq] at h1
   obtain ⟨c, q, e, hc, _⟩ := word_cons h1.1 (by intro e; rw [e] at h1; simp at h1)
   have := letter_beg c hc
   exact ⟨c, q, by simp [e], this.1, this.2.1, this.2.2.1⟩
  ·exact ⟨40, (spaced kids).drop 1 ++ [41], by simp, by decide, by decide, by decide⟩
theorem tw_self : ∀ {s : Str}, s.all letterB = true → s.takeWhile letterB = s
 | [], _ => rfl
 | c :: r, h => by
  simp only [List.all_cons, Bool.and_eq_true] at h
  rw [List.takeWhile_cons, h.1]
  simp [tw_self h.2]
theorem tw_all {s x : Str} (h : s.all letterB = true) (hx : Brk x) : (s ++ x).takeWhile letterB = s ∧ (s ++ x).dropWhile letterB = x := by
 obtain ⟨e1, e2⟩ := tw_ext (r := s) hx
 have e3 : s.takeWhile letterB = s := tw_self h
 have e4 := List.takeWhile_append_dropWhile (p := letterB) (l := s)
 rw [e3] at e4
 have e5 : s.dropWhile letterB = [] := by
  have := congrArg List.length e4
  simp at this
  exact this
 rw [e1, e2, e3, e5]; simp
theorem named_atom {nm : Str} (h : namedB nm = true) : atomR nm = .inr (.mk 3 0 nm 0 0 []) := by
 simp only [namedB, Bool.and_eq_true, decide_eq_true_eq, Bool.not_eq_true'] at h
 unfold atomR
 rw [h.2.2, cond_false, show decide ((20 : Int) < nm.length) = false by simp; omega, cond_false]
theorem num_atom {n : Int} (h0 : -1000000000000000 ≤ n) (h1 : n ≤ 1000000000000000) : atomR (Lib.itoa n) = .inr (.mk 1 n [] 0 0 []) := by
 obtain ⟨k1, k2, k3, k4, k5⟩ := itoa_ok h0 h1
 unfold atomR
 rw [k3, cond_true, show decide ((17 : Int) < (Lib.itoa n).length) = false by simp; omega, cond_false, k5, show (decide ((1000000000000000 : Int) < n) || decide (n < -1000000000000000)) = false by simp; omega, cond_false]
theorem pD_word {f : Nat} {deep : Int} {n : Nat} {w x : Str} {d : Datum} (hd : (decide (2000 < n + 1) || decide (40 < deep)) = false) (hw : w.all letterB = true) (h0 : w ≠ []) (hx : Brk x) (ha : atomR w = .inr d) : pD (f + 1) deep (w ++ x) n = .inr (d, x, n + 1) := by
 obtain ⟨c, q, rfl, hc, hq⟩ := word_cons hw h0
 obtain ⟨_, _, _, k1, k2, k3⟩ := letter_beg c hc
 obtain ⟨t1, t2⟩ := tw_all hq hx
 simp only [pD, hd, List.cons_append, k1, k2, k3, hc, cond_false, cond_true, pA, t1, t2, ha]
theorem dk5 : (decide ((1 : Int) = 4) = false) ∧ (decide ((2 : Int) = 4) = false) ∧ (decide ((3 : Int) = 4) = false) ∧ (decide ((1 : Int) = 2) = false) ∧ (decide ((1 : Int) = 3) = false) ∧ (decide ((2 : Int) = 3) = false) ∧ (decide ((0 : Int) = 1) = false) ∧ (decide ((40 : UInt8) = 40) = true) ∧ (decide ((35 : UInt8) = 40) = false) ∧ (decide ((35 : UInt8) = 39) = false) ∧ (decide ((35 : UInt8) = 35) = true) := by decide
mutual
theorem print_read : ∀ (d : Datum) (F : Nat) (deep : Int) (n : Nat) (x : Str), (shapeD d deep n).1 = 0 → Brk x → 2 * (textD d).length ≤ F → pD F deep (textD d ++ x) n = .inr (normD d, x, n + cntD d)
 | .mk k m nm s l kids, F, deep, n, x, h, hx, hF => by
  have hok := (shape_okD _ _ _ h).1
  obtain ⟨c0, q0, e0, hb0⟩ := text_beg _ hok
  obtain ⟨F, rfl⟩ : ∃ G, F = G + 1 := ⟨F - 1, by rw [e0] at hF; simp at hF; omega⟩
  have hd : (decide (2000 < n + 1) || decide (40 < deep)) = false := by
   unfold shapeD at h
   cases h1 : (decide ((2000 : Int) < n + 1) || decide (40 < deep)) with
   | true => rw [h1] at h; simp at h
   | false => simp only [Bool.or_eq_false_iff, decide_eq_false_iff_not] at h1 ⊢; omega
  simp only [okD] at hok
  simp only [textD, normD, cntD] at hF ⊢
  rcases hok with ⟨rfl, h1, h2⟩ | ⟨rfl, h1⟩ | ⟨rfl, h1, _⟩ | ⟨rfl, h1⟩
  ·obtain ⟨k1, k2, _⟩ := itoa_ok h1 h2
   simp only [dk4, dk5, decide_true, cond_true, cond_false, Bool.true_or, Nat.add_zero]
   exact pD_word hd k1 k2 hx (num_atom h1 h2)
  ·simp only [dk4, dk5, decide_true, cond_true, cond_false, Bool.or_true, Nat.add_zero]
   have hbr : ∀ t : UInt8, (decide (t = 116) || decide (t = 102)) = true → pB (n + 1) (t :: x) = .inr (.mk 2 (bif decide (t = 116) then 1 else 0) [] 0 0 [], x, n + 1) := by
    intro t ht
    simp only [pB, ht, cond_true]
    cases x with
    | nil => rfl
    | cons u w => simp only [Brk] at hx; simp only [hx, cond_false]
   rcases h1 with rfl | rfl
   ·simp only [dk5, cond_false, List.cons_append, List.nil_append, pD, hd, decide_true, cond_true]
    rw [hbr 102 (by decide)]; rfl
   ·simp only [dk4, dk5, cond_false, cond_true, decide_true, List.cons_append, List.nil_append, pD, hd]
    rw [hbr 116 (by decide)]; rfl
  ·have h1' := h1
   simp only [namedB, Bool.and_eq_true, decide_eq_true_eq] at h1'
   simp only [dk4, dk5, decide_true, cond_true, cond_false, Bool.or_self, Nat.add_zero]
   exact pD_word hd h1'.1 (by intro e; rw [e] at h1'; simp at h1') hx (named_atom h1)
  ·simp only [dk4, decide_true, cond_true, cond_false, Bool.or_self, List.length_cons, List.length_append, List.length_drop, List.length_nil] at hF ⊢
   have hs : (shapeDs kids (deep + 1) ((n + 1 : Nat) : Int)).1 = 0 := by
    unfold shapeD at h
    have : (decide ((2000 : Int) < n + 1) || decide (40 < deep)) = false := by
     simp only [Bool.or_eq_false_iff, decide_eq_false_iff_not] at hd ⊢; omega
    rw [this] at h
    simpa using h
   have := print_reads kids F deep [] (n + 1) x hs hx (by
    cases kids with
    | nil => simp [spaced] at hF ⊢; omega
    | cons a b => simp only [spaced, List.length_cons] at hF ⊢; omega)
   obtain ⟨F, rfl⟩ : ∃ G, F = G + 1 := ⟨F - 1, by omega⟩
   simp only [List.cons_append, List.append_assoc, List.nil_append] at this ⊢
   conv => lhs; unfold pD
   rw [hd, cond_false]
   simp only [dk5, decide_true, cond_true]
   have hdrop : blk false ((spaced kids).drop 1 ++ 41 :: x) = blk false (spaced kids ++ 41 :: x) := by
    cases kids with
    | nil => rfl
    | cons a b => simp only [spaced, List.drop_succ_cons, List.drop_zero, List.cons_append]; conv => rhs; unfold blk
                  rw [show isBlank 32 = true by decide, cond_true]
   have hpl : pL (F + 1) deep [] ((spaced kids).drop 1 ++ 41 :: x) (n + 1) = pL (F + 1) deep [] (spaced kids ++ 41 :: x) (n + 1) := by
    conv => lhs; unfold pL
    conv => rhs; unfold pL
    rw [hdrop]
   rw [hpl, this, show n + (1 + cntDs kids) = n + 1 + cntDs kids by omega]
theorem print_reads : ∀ (l : List Datum) (F : Nat) (deep : Int) (acc : List Datum) (n : Nat) (x : Str), (shapeDs l (deep + 1) n).1 = 0 → Brk x → 2 * (spaced l).length + 1 ≤ F → pL F deep acc (spaced l ++ [41] ++ x) n = .inr (.mk 4 0 [] 0 0 (acc ++ normDs l), x, n + cntDs l)
 | [], F, deep, acc, n, x, h, hx, hF => by
  obtain ⟨F, rfl⟩ : ∃ G, F = G + 1 := ⟨F - 1, by omega⟩
  simp only [spaced, List.nil_append, List.cons_append, pL, normDs, cntDs, List.append_nil, Nat.add_zero]
  rw [beg_blk' (by decide) (by decide)]
  rfl
 | d :: r, F, deep, acc, n, x, h, hx, hF => by
  obtain ⟨F, rfl⟩ : ∃ G, F = G + 1 := ⟨F - 1, by omega⟩
  simp only [spaced, List.length_cons, List.length_append] at hF
  simp only [shapeDs] at h
  have h1 : (shapeD d (deep + 1) n).1 = 0 := by
   by_cases e : (shapeD d (deep + 1) n).1 = 0
   ·exact e
   ·simp [e] at h
  have k1 := shape_okD _ _ _ h1
  have h2 : (shapeDs r (deep + 1) ((n + cntD d : Nat) : Int)).1 = 0 := by
   rw [h1, k1.2] at h
   simpa using h
  obtain ⟨c, q, e, hb⟩ := text_beg d k1.1
  have hbrk : Brk (spaced r ++ [41] ++ x) := by
   cases r with
   | nil => show letterB 41 = false; decide
   | cons a b => show letterB 32 = false; decide
  have i1 := print_read d F (deep + 1) n (spaced r ++ [41] ++ x) h1 hbrk (by omega)
  have i2 := print_reads r F deep (acc ++ [normD d]) (n + cntD d) x h2 hx (by omega)
  have hblk : blk false (spaced (d :: r) ++ [41] ++ x) = textD d ++ (spaced r ++ [41] ++ x) := by
   simp only [spaced, List.cons_append, List.append_assoc]
   conv => lhs; unfold blk
   rw [show isBlank 32 = true by decide, cond_true, e]
   exact beg_blk hb
  conv => lhs; unfold pL
  rw [hblk, e]
  simp only [List.cons_append]
  rw [hb.2.2, cond_false]
  rw [e] at i1
  simp only [List.cons_append] at i1
  rw [i1]
  simp only
  rw [i2]
  simp only [normDs, cntDs, List.append_assoc, List.cons_append, List.nil_append, Nat.add_assoc]
end
theorem blk_nl (t : Str) : blk false (10 :: t) = blk false t := by
 conv => lhs; unfold blk
 rw [show isBlank 10 = true by decide, cond_true]
theorem print_top : ∀ (l : List Datum) (i F : Nat) (acc : List Datum) (n : Nat), (wrongL l i n).1 = 0 → n ≤ 2000 → 2 * (textL l).length + 1 ≤ F → pT F acc (textL l) n = .inr (acc ++ normDs l, n + cntDs l)
 | [], i, F, acc, n, _, _, hF => by
  obtain ⟨F, rfl⟩ : ∃ G, F = G + 1 := ⟨F - 1, by omega⟩
  simp [pT, textL, blk, normDs, cntDs]
 | d :: r, i, F, acc, n, h, hn, hF => by
  obtain ⟨F, rfl⟩ : ∃ G, F = G + 1 := ⟨F - 1, by omega⟩
  simp only [textL, List.length_append, List.length_cons] at hF
  simp only [wrongL] at h
  have h1 : (shapeD d 1 n).1 = 0 := by
   by_cases e : (shapeD d 1 n).1 = 0
   ·exact e
   ·simp [e] at h
  have k1 := shape_okD _ _ _ h1
  have k2 := shapeD_ok d 1 n (by omega) h1
  have h2 : (wrongL r (i + 1) ((n + cntD d : Nat) : Int)).1 = 0 := by
   rw [h1, k1.2] at h
   simpa using h
  obtain ⟨c, q, e, hb⟩ := text_beg d k1.1
  have i1 := print_read d F 1 n (10 :: textL r) h1 (by show letterB 10 = false; decide) (by omega)
  have i2 := print_top r (i + 1) F (acc ++ [normD d]) (n + cntD d) h2 (by omega) (by omega)
  simp only [textL, pT]
  rw [e] at i1 ⊢
  simp only [List.cons_append] at i1 ⊢
  rw [beg_blk hb]
  simp only
  rw [i1]
  simp only
  have hF1 : F ≠ 0 := by omega
  have : pT F (acc ++ [normD d]) (10 :: textL r) (n + cntD d) = pT F (acc ++ [normD d]) (textL r) (n + cntD d) := by
   obtain ⟨F, rfl⟩ : ∃ G, F = G + 1 := ⟨F - 1, by omega⟩
   simp only [pT, blk_nl]
  rw [this, i2]
  simp only [normDs, cntDs, List.append_assoc, List.cons_append, List.nil_append, Nat.add_assoc]
mutual
theorem eq_norm : ∀ d : Datum, okD d → eqD d (normD d) = true
 | .mk k n nm s l kids, h => by
  simp only [okD] at h
  simp only [normD]
  rcases h with ⟨rfl, h1, h2⟩ | ⟨rfl, h1⟩ | ⟨rfl, h1, rfl, rfl⟩ | ⟨rfl, h1⟩
  ·simp [eqD]
  ·simp [eqD]
  ·simp [eqD]
  ·have := eq_norms kids h1
   simp [eqD, this]
theorem eq_norms : ∀ l : List Datum, okDs l → eqDs l (normDs l) = true
 | [], _ => by simp [normDs, eqDs]
 | d :: r, h => by simp only [normDs, eqDs, eq_norm d h.1, eq_norms r h.2, Bool.and_self]
end
/-- What is written is read. -/
theorem written {l : List Datum} {t : Str} (h : printL l = (t, (0, 0))) : readR t = .inr (normDs l) ∧ eqDs l (normDs l) = true := by
 unfold printL at h
 by_cases hw : (wrongL l 0 0).1 = 0
 ·simp only [hw, decide_true, cond_true] at h
  by_cases h6 : 6000 < (textL l).length
  ·simp only [h6, decide_true, cond_true] at h
   cases h
  ·simp only [h6, decide_false, cond_false] at h
   cases h
   refine ⟨read_ok.2 ⟨by omega, _, print_top l 0 _ [] 0 hw (by omega) (by omega)⟩, eq_norms l (wrong_ok l 0 0 (by omega) (by omega) hw).1⟩
 ·simp only [hw, decide_false, cond_false] at h
  have := congrArg (fun x => x.2.1) h
  exact absurd this hw
-- what is read is right
theorem word_ok {w : Str} {d : Datum} (hw : w.all letterB = true) (h0 : w ≠ []) (h : atomR w = .inr d) (deep : Int) (n : Nat) (hd : (decide ((2000 : Int) < n + 1) || decide (40 < deep)) = false) : shapeD d deep n = (0, (n : Int) + 1) := by
 unfold atomR at h
 cases hl : looksB w with
 | true =>
  rw [hl] at h
  simp only [cond_true] at h
  cases h1 : decide ((17 : Int) < w.length) with
  | true => rw [h1] at h; cases h
  | false =>
   rw [h1] at h
   simp only [cond_false] at h
   cases h2 : (decide ((1000000000000000 : Int) < numV w) || decide (numV w < -1000000000000000)) with
   | true => rw [h2] at h; cases h
   | false =>
    rw [h2] at h
    cases h
    unfold shapeD
    rw [hd, h2]
    rfl
 | false =>
  rw [hl] at h
  simp only [cond_false] at h
  cases h1 : decide ((20 : Int) < w.length) with
  | true => rw [h1] at h; cases h
  | false =>
   rw [h1] at h
   cases h
   have hn : namedB w = true := by
    have : 0 < w.length := List.length_pos_iff.2 h0
    simp only [decide_eq_false_iff_not] at h1
    simp only [namedB, hw, hl, Bool.true_and, Bool.not_false, Bool.and_true, Bool.and_eq_true, decide_eq_true_eq]
    omega
   unfold shapeD
   rw [hd, hn]
   rfl
theorem tw_letters (r : Str) : (r.takeWhile letterB).all letterB = true := by
 induction r with
 | nil => rfl
 | cons c r ih =>
  rw [List.takeWhile_cons]
  cases h : letterB c with
  | true => simp [h, ih]
  | false => rfl
theorem read_right : ∀ f : Nat, (∀ (deep : Int) (r : Str) (n : Nat) (d : Datum) (r' : Str) (n' : Nat), pD f deep r n = .inr (d, r', n') → shapeD d deep n = (0, (n' : Int)) ∧ n' ≤ 2000) ∧
  (∀ (deep : Int) (acc : List Datum) (r : Str) (n : Nat) (d : Datum) (r' : Str) (n' : Nat), n ≤ 2000 → pL f deep acc r n = .inr (d, r', n') → ∃ l, d = .mk 4 0 [] 0 0 (acc ++ l) ∧ shapeDs l (deep + 1) n = (0, (n' : Int)) ∧ n' ≤ 2000)
 | 0 => ⟨fun _ _ _ _ _ _ h => (by cases h), fun _ _ _ _ _ _ _ _ h => (by cases h)⟩
 | f + 1 => by
  obtain ⟨ihD, ihL⟩ := read_right f
  constructor
  ·intro deep r n d r' n' h
   simp only [pD] at h
   cases h1 : (decide (2000 < n + 1) || decide (40 < deep)) with
   | true => rw [h1] at h; cases h
   | false =>
    have hd : (decide ((2000 : Int) < n + 1) || decide (40 < deep)) = false := by
     simp only [Bool.or_eq_false_iff, decide_eq_false_iff_not] at h1 ⊢; omega
    have hn : n + 1 ≤ 2000 := by simp only [Bool.or_eq_false_iff, decide_eq_false_iff_not] at h1; omega
    rw [h1] at h
    simp only [cond_false] at h
    cases r with
    | nil => cases h
    | cons c r =>
     simp only at h
     cases h3 : decide (c = 40) with
     | true =>
      rw [h3] at h
      simp only [cond_true] at h
      obtain ⟨l, rfl, k1, k2⟩ := ihL deep [] r (n + 1) d r' n' hn h
      refine ⟨?_, k2⟩
      unfold shapeD
      rw [hd]
      simp only [dk4, decide_true, cond_true, cond_false, List.nil_append]
      simpa using k1
     | false =>
      rw [h3] at h
      simp only [cond_false] at h
      cases h4 : decide (c = 39) with
      | true =>
       rw [h4] at h
       simp only [cond_true] at h
       cases h5 : (decide (2000 < n + 2) || decide (40 < deep + 1)) with
       | true => rw [h5] at h; cases h
       | false =>
        rw [h5] at h
        simp only [cond_false] at h
        cases hq : pD f (deep + 1) (blk false r) (n + 2) with
        | inl e => rw [hq] at h; cases h
        | inr y =>
         obtain ⟨x, q, m⟩ := y
         rw [hq] at h
         simp only [pQ] at h
         cases h
         obtain ⟨k1, k2⟩ := ihD (deep + 1) _ (n + 2) x r' n' hq
         refine ⟨?_, k2⟩
         have hs : shapeD (.mk 3 0 quoteS 0 0 []) (deep + 1) ((n : Int) + 1) = (0, (n : Int) + 2) := by
          have hd2 : (decide ((2000 : Int) < ((n : Int) + 1) + 1) || decide (40 < deep + 1)) = false := by
           simp only [Bool.or_eq_false_iff, decide_eq_false_iff_not] at h5 ⊢; omega
          unfold shapeD
          rw [hd2]
          simp only [dk4, decide_true, cond_true, cond_false, show namedB quoteS = true by decide, Bool.not_true, Bool.and_self]
          rw [show (n : Int) + 1 + 1 = (n : Int) + 2 by omega]
         unfold quoteD shapeD
         rw [hd]
         simp only [dk4, decide_true, cond_true, cond_false, shapeDs, hs]
         have k1' : shapeD x (deep + 1) ((n : Int) + 2) = (0, (n' : Int)) := by simpa using k1
         rw [k1']
         simp
      | false =>
       rw [h4] at h
       simp only [cond_false] at h
       cases h5 : decide (c = 35) with
       | true =>
        rw [h5] at h
        simp only [cond_true] at h
        have key : ∀ v : Int, (v = 0 ∨ v = 1) → shapeD (.mk 2 v [] 0 0 []) deep n = (0, ((n + 1 : Nat) : Int)) := by
         intro v hv
         unfold shapeD
         rw [hd]
         rcases hv with rfl | rfl <;> simp
        unfold pB at h
        cases r with
        | nil => cases h
        | cons t w =>
         simp only at h
         cases ht : (decide (t = 116) || decide (t = 102)) with
         | false => rw [ht] at h; cases h
         | true =>
          rw [ht] at h
          simp only [cond_true] at h
          have hv : (bif decide (t = 116) then (1 : Int) else 0) = 0 ∨ (bif decide (t = 116) then (1 : Int) else 0) = 1 := by cases decide (t = 116) <;> simp
          cases w with
          | nil => cases h; exact ⟨key _ hv, hn⟩
          | cons u w =>
           simp only at h
           cases hu : letterB u with
           | true => rw [hu] at h; cases h
           | false => rw [hu] at h; cases h; exact ⟨key _ hv, hn⟩
       | false =>
        rw [h5] at h
        simp only [cond_false] at h
        cases h6 : letterB c with
        | false => rw [h6] at h; cases h
        | true =>
         rw [h6] at h
         simp only [cond_true, pA] at h
         cases ha : atomR (c :: r.takeWhile letterB) with
         | inl e => rw [ha] at h; cases h
         | inr y =>
          rw [ha] at h
          cases h
          have := word_ok (w := c :: r.takeWhile letterB) (by rw [List.all_cons, h6, tw_letters]; rfl) (by simp) ha deep n hd
          exact ⟨by rw [this]; simp, hn⟩
  ·intro deep acc r n d r' n' hn h
   simp only [pL] at h
   cases hk : blk false r with
   | nil => rw [hk] at h; cases h
   | cons c q =>
    rw [hk] at h
    simp only at h
    cases h1 : decide (c = 41) with
    | true => rw [h1] at h; cases h; exact ⟨[], by simp, by simp [shapeDs], hn⟩
    | false =>
     rw [h1] at h
     simp only [cond_false] at h
     cases hq : pD f (deep + 1) (c :: q) n with
     | inl e => rw [hq] at h; cases h
     | inr y =>
      obtain ⟨x, q2, m⟩ := y
      rw [hq] at h
      simp only at h
      obtain ⟨k1, k2⟩ := ihD (deep + 1) _ n x q2 m hq
      obtain ⟨l, rfl, k3, k4⟩ := ihL deep (acc ++ [x]) q2 m d r' n' k2 h
      refine ⟨x :: l, by simp, ?_, k4⟩
      simp only [shapeDs, k1, decide_true, cond_true]
      exact k3
theorem read_right_top : ∀ (f : Nat) (acc : List Datum) (r : Str) (n : Nat) (l : List Datum) (n' : Nat), pT f acc r n = .inr (l, n') → ∃ m, l = acc ++ m ∧ ∀ i, (wrongL m i n).1 = 0
 | 0, _, _, _, _, _, h => by cases h
 | f + 1, acc, r, n, l, n', h => by
  simp only [pT] at h
  cases hk : blk false r with
  | nil => rw [hk] at h; cases h; exact ⟨[], by simp, by simp [wrongL]⟩
  | cons c q =>
   rw [hk] at h
   simp only at h
   cases hq : pD f 1 (c :: q) n with
   | inl e => rw [hq] at h; cases h
   | inr y =>
    obtain ⟨x, q2, k⟩ := y
    rw [hq] at h
    simp only at h
    obtain ⟨k1, k2⟩ := (read_right f).1 1 _ n x q2 k hq
    obtain ⟨m, rfl, k3⟩ := read_right_top f (acc ++ [x]) q2 k l n' h
    refine ⟨x :: m, by simp, fun i => ?_⟩
    simp only [wrongL, k1, decide_true, cond_true]
    exact k3 (i + 1)
/-- What is read is right. -/
theorem right {s : Str} {l : List Datum} (h : readR s = .inr l) : (wrongL l 0 0).1 = 0 := by
 obtain ⟨_, n, h⟩ := read_ok.1 h
 obtain ⟨m, rfl, k⟩ := read_right_top _ _ _ _ _ _ h
 simpa using k 0
/-- There is fuel enough: what is wrong has a number; and what is read is taken off. -/
theorem p_err : ∀ f : Nat, (∀ (deep : Int) (r : Str) (n : Nat), 2 * r.length + 1 ≤ f → (∀ e, pD f deep r n = .inl e → e ≠ 0) ∧ (∀ d r' n', pD f deep r n = .inr (d, r', n') → r'.length < r.length)) ∧
  (∀ (deep : Int) (acc : List Datum) (r : Str) (n : Nat), 2 * r.length + 2 ≤ f → (∀ e, pL f deep acc r n = .inl e → e ≠ 0) ∧ (∀ d r' n', pL f deep acc r n = .inr (d, r', n') → r'.length < r.length))
 | 0 => ⟨fun _ _ _ h => (by omega), fun _ _ _ _ h => (by omega)⟩
 | f + 1 => by
  obtain ⟨ihD, ihL⟩ := p_err f
  constructor
  ·intro deep r n hf
   simp only [pD]
   cases h1 : (decide (2000 < n + 1) || decide (40 < deep)) with
   | true => exact ⟨fun e h => (by cases h; decide), fun d r' n' h => (by cases h)⟩
   | false =>
    simp only [cond_false]
    cases r with
    | nil => exact ⟨fun e h => (by cases h; decide), fun d r' n' h => (by cases h)⟩
    | cons c r =>
     simp only [List.length_cons] at hf ⊢
     cases h3 : decide (c = 40) with
     | true =>
      simp only [cond_true]
      obtain ⟨k1, k2⟩ := ihL deep [] r (n + 1) (by omega)
      exact ⟨k1, fun d r' n' h => by have := k2 d r' n' h; omega⟩
     | false =>
      simp only [cond_false]
      cases h4 : decide (c = 39) with
      | true =>
       simp only [cond_true]
       cases h5 : (decide (2000 < n + 2) || decide (40 < deep + 1)) with
       | true => exact ⟨fun e h => (by cases h; decide), fun d r' n' h => (by cases h)⟩
       | false =>
        simp only [cond_false]
        have hle := blk_le r false
        obtain ⟨k1, k2⟩ := ihD (deep + 1) (blk false r) (n + 2) (by omega)
        cases hq : pD f (deep + 1) (blk false r) (n + 2) with
        | inl e => exact ⟨fun e' h => (by cases h; exact k1 _ hq), fun d r' n' h => (by cases h)⟩
        | inr y =>
         obtain ⟨x, q, m⟩ := y
         have := k2 _ _ _ hq
         exact ⟨fun e' h => (by cases h), fun d r' n' h => (by cases h; omega)⟩
      | false =>
       simp only [cond_false]
       cases h5 : decide (c = 35) with
       | true =>
        simp only [cond_true]
        unfold pB
        cases r with
        | nil => exact ⟨fun e h => (by cases h; decide), fun d r' n' h => (by cases h)⟩
        | cons t w =>
         simp only
         cases ht : (decide (t = 116) || decide (t = 102)) with
         | false => exact ⟨fun e h => (by cases h; decide), fun d r' n' h => (by cases h)⟩
         | true =>
          simp only [cond_true]
          cases w with
          | nil => exact ⟨fun e h => (by cases h), fun d r' n' h => (by cases h; simp)⟩
          | cons u w =>
           simp only
           cases hu : letterB u with
           | true => exact ⟨fun e h => (by cases h; decide), fun d r' n' h => (by cases h)⟩
           | false => exact ⟨fun e h => (by cases h), fun d r' n' h => (by cases h; simp)⟩
       | false =>
        simp only [cond_false]
        cases h6 : letterB c with
        | false => exact ⟨fun e h => (by cases h; decide), fun d r' n' h => (by cases h)⟩
        | true =>
         simp only [cond_true, pA]
         cases ha : atomR (c :: r.takeWhile letterB) with
         | inl e =>
          refine ⟨fun e' h => ?_, fun d r' n' h => (by cases h)⟩
          cases h
          unfold atomR at ha
          cases h7 : looksB (c :: r.takeWhile letterB) with
          | true =>
           rw [h7] at ha
           simp only [cond_true] at ha
           cases h8 : decide ((17 : Int) < (c :: r.takeWhile letterB).length) with
           | true => rw [h8] at ha; cases ha; decide
           | false =>
            rw [h8] at ha
            simp only [cond_false] at ha
            cases h9 : (decide ((1000000000000000 : Int) < numV (c :: r.takeWhile letterB)) || decide (numV (c :: r.takeWhile letterB) < -1000000000000000)) with
            | true => rw [h9] at ha; cases ha; decide
            | false => rw [h9] at ha; cases ha
          | false =>
           rw [h7] at ha
           simp only [cond_false] at ha
           cases h8 : decide ((20 : Int) < (c :: r.takeWhile letterB).length) with
           | true => rw [h8] at ha; cases ha; decide
           | false => rw [h8] at ha; cases ha
         | inr y =>
          refine ⟨fun e h => (by cases h), fun d r' n' h => ?_⟩
          cases h
          have := congrArg List.length (List.takeWhile_append_dropWhile (p := letterB) (l := r))
          simp only [List.length_append] at this
          omega
  ·intro deep acc r n hf
   simp only [pL]
   have hle := blk_le r false
   cases hk : blk false r with
   | nil => exact ⟨fun e h => (by cases h; decide), fun d r' n' h => (by cases h)⟩
   | cons c q =>
    rw [hk] at hle
    simp only [List.length_cons] at hle ⊢
    cases h1 : decide (c = 41) with
    | true => exact ⟨fun e h => (by cases h), fun d r' n' h => (by cases h; omega)⟩
    | false =>
     simp only [cond_false]
     obtain ⟨k1, k2⟩ := ihD (deep + 1) (c :: q) n (by simp; omega)
     cases hq : pD f (deep + 1) (c :: q) n with
     | inl e => exact ⟨fun e' h => (by cases h; exact k1 _ hq), fun d r' n' h => (by cases h)⟩
     | inr y =>
      obtain ⟨x, q2, m⟩ := y
      have k3 := k2 _ _ _ hq
      simp only [List.length_cons] at k3
      obtain ⟨k4, k5⟩ := ihL deep (acc ++ [x]) q2 m (by omega)
      exact ⟨k4, fun d r' n' h => by have := k5 d r' n' h; omega⟩
theorem t_err : ∀ (f : Nat) (acc : List Datum) (r : Str) (n : Nat) (e : Int), 2 * r.length + 3 ≤ f → pT f acc r n = .inl e → e ≠ 0
 | 0, _, _, _, _, h, _ => by omega
 | f + 1, acc, r, n, e, hf, h => by
  simp only [pT] at h
  have hle := blk_le r false
  cases hk : blk false r with
  | nil => rw [hk] at h; cases h
  | cons c q =>
   rw [hk] at h hle
   simp only [List.length_cons] at h hle
   obtain ⟨k1, k2⟩ := (p_err f).1 1 (c :: q) n (by simp; omega)
   cases hq : pD f 1 (c :: q) n with
   | inl e' => rw [hq] at h; cases h; exact k1 _ hq
   | inr y =>
    obtain ⟨x, q2, m⟩ := y
    have k3 := k2 _ _ _ hq
    simp only [List.length_cons] at k3
    rw [hq] at h
    simp only at h
    exact t_err f (acc ++ [x]) q2 m e (by omega) h
/-- What is wrong with a text has a number. -/
theorem read_bad {s : Str} {f : Int × Int} (h : readR s = .inl f) : f.1 ≠ 0 := by
 by_cases hs : s.length ≤ 6000
 ·cases hp : pT (2 * s.length + 3) [] s 0 with
  | inl e =>
   obtain ⟨q, hq⟩ := read_err hs hp
   rw [hq] at h
   cases h
   exact t_err _ _ _ _ _ (Nat.le_refl _) hp
  | inr y =>
   have := read_ok.2 ⟨hs, y.2, by rw [hp]⟩
   rw [this] at h
   cases h
 ·unfold readR at h
  rw [show decide ((6000 : Int) < s.length) = true by simp; omega, cond_true] at h
  cases h
  decide
theorem print_right {l : List Datum} (h : (wrongL l 0 0).1 = 0) : (∃ t, printL l = (t, (0, 0))) ∨ printL l = ([], (4, 0)) := by
 unfold printL
 rw [h]
 simp only [decide_true, cond_true]
 cases decide (6000 < (textL l).length) with
 | true => exact .inr rfl
 | false => exact .inl ⟨_, rfl⟩
def strB (s : Str) : Str := numB s.length ++ s
/-- An instruction's bytes, and what is wrong. -/
def insW (i : Ins) : Str × Int :=
 bif decide (i.op = 1) || decide (i.op = 2) then (numB i.op ++ numB i.n, 0)
 else bif decide (i.op = 3) then (numB i.op ++ strB (printL [i.quote]).1, (printL [i.quote]).2.1)
 else bif decide (i.op = 5) || decide (i.op = 12) || decide (i.op = 13) then (numB i.op ++ strB i.lib ++ strB i.own, 0)
 else bif decide (i.op = 6) then (numB i.op ++ strB i.own, 0)
 else bif decide (i.op = 14) || decide (i.op = 15) then (numB i.op, 0)
 else (numB i.op ++ numB i.a, 0)
def codeW : List Ins → Str × Int
 | [] => ([], 0)
 | i :: r => bif decide ((insW i).2 = 0) then ((insW i).1 ++ (codeW r).1, (codeW r).2) else ((insW i).1, (insW i).2)
def headW (p : Pr) : Str := numB p.args ++ numB p.code.length
def protosW : List Pr → Str × Int
 | [] => ([], 0)
 | p :: r => bif decide ((codeW p.code).2 = 0) then (headW p ++ (codeW p.code).1 ++ (protosW r).1, (protosW r).2) else (headW p ++ (codeW p.code).1, (codeW p.code).2)
def unitW (u : Unit') : Str := strB u.name ++ numB u.protos.length ++ (protosW u.protos).1
def bytesW (u : Unit') : Str × Int :=
 bif decide (unitE u = 0) then
  (bif decide ((protosW u.protos).2 = 0) then (bif decide (60000 < (unitW u).length) then ([], 4) else (unitW u, 0)) else ([], (protosW u.protos).2))
 else ([], unitE u)
/-- A reader: what is left, and whether it is none of a unit. -/
abbrev RS := Str × Bool
def rNum (s : RS) : Int × RS := ((numR s.1).1, (numR s.1).2.1, s.2 || (numR s.1).2.2)
def rFew (s : RS) : Nat × RS := bif decide ((rNum s).1 < 0) || decide (((rNum s).2.1.length : Int) < (rNum s).1) then (0, (rNum s).2.1, true) else ((rNum s).1.toNat, (rNum s).2)
def rStr (s : RS) : Str × RS := ((rFew s).2.1.take (rFew s).1, (rFew s).2.1.drop (rFew s).1, (rFew s).2.2)
def zeroQ : Datum := .mk 0 0 [] 0 0 []
def quoteOk (t : Str) : Option Datum := match readR t with
 | .inr [d] => bif decide (printL [d] = (t, ((0 : Int), (0 : Int)))) then some d else none
 | _ => none
def rQuote (s : RS) : Datum × RS := match quoteOk (rStr s).1 with
 | some d => (d, (rStr s).2)
 | none => (zeroQ, (rStr s).2.1, true)
def rIns (s : RS) : Ins × RS :=
 bif decide ((rNum s).1 < 1) || decide (15 < (rNum s).1) then (noI, (rNum s).2.1, true)
 else bif decide ((rNum s).1 = 1) || decide ((rNum s).1 = 2) then ({ op := (rNum s).1, n := (rNum (rNum s).2).1 }, (rNum (rNum s).2).2)
 else bif decide ((rNum s).1 = 3) then ({ op := (rNum s).1, quote := (rQuote (rNum s).2).1 }, (rQuote (rNum s).2).2)
 else bif decide ((rNum s).1 = 5) || decide ((rNum s).1 = 12) || decide ((rNum s).1 = 13) then ({ op := (rNum s).1, lib := (rStr (rNum s).2).1, own := (rStr (rStr (rNum s).2).2).1 }, (rStr (rStr (rNum s).2).2).2)
 else bif decide ((rNum s).1 = 6) then ({ op := (rNum s).1, own := (rStr (rNum s).2).1 }, (rStr (rNum s).2).2)
 else bif decide ((rNum s).1 = 14) || decide ((rNum s).1 = 15) then ({ op := (rNum s).1 }, (rNum s).2)
 else ({ op := (rNum s).1, a := (rNum (rNum s).2).1 }, (rNum (rNum s).2).2)
def rCode : Nat → List Ins → RS → List Ins × RS
 | 0, acc, s => (acc, s)
 | k + 1, acc, s => bif s.2 then (acc, s) else rCode k (acc ++ [(rIns s).1]) (rIns s).2
def rProto (s : RS) : Pr × RS := (⟨(rNum s).1, (rCode (rFew (rNum s).2).1 [] (rFew (rNum s).2).2).1⟩, (rCode (rFew (rNum s).2).1 [] (rFew (rNum s).2).2).2)
def rProtos : Nat → List Pr → RS → List Pr × RS
 | 0, acc, s => (acc, s)
 | k + 1, acc, s => bif s.2 then (acc, s) else rProtos k (acc ++ [(rProto s).1]) (rProto s).2
def noU : Unit' := ⟨[], []⟩
def rBody (b : Str) : Unit' × RS := (⟨(rStr (b, false)).1, (rProtos (rFew (rStr (b, false)).2).1 [] (rFew (rStr (b, false)).2).2).1⟩, (rProtos (rFew (rStr (b, false)).2).1 [] (rFew (rStr (b, false)).2).2).2)
def rUnit (b : Str) : Unit' × Int :=
 bif decide ((60000 : Int) < b.length) then (noU, 4)
 else bif (rBody b).2.2 || !(rBody b).2.1.isEmpty then (noU, 2)
 else bif decide (unitE (rBody b).1 = 0) then ((rBody b).1, 0) else (noU, unitE (rBody b).1)
-- what is left is no more than there was
theorem rNum_le (s : RS) : (rNum s).2.1.length ≤ s.1.length := (rdV_le 10 0 0 s.1).1
theorem rFew_le (s : RS) : (rFew s).2.1.length ≤ s.1.length ∧ (rFew s).1 ≤ (rFew s).2.1.length := by
 have := rNum_le s
 unfold rFew
 cases h : decide ((rNum s).1 < 0) || decide (((rNum s).2.1.length : Int) < (rNum s).1) with
 | true => exact ⟨this, Nat.zero_le _⟩
 | false =>
  simp only [Bool.or_eq_false_iff, decide_eq_false_iff_not] at h
  exact ⟨this, by simp only [cond_false]; omega⟩
theorem rStr_le (s : RS) : (rStr s).2.1.length ≤ s.1.length ∧ (rStr s).1.length ≤ s.1.length := by
 have := rFew_le s
 simp only [rStr, List.length_drop, List.length_take]
 omega
theorem numR_range (s : Str) : -9223372036854775808 ≤ (numR s).1 ∧ (numR s).1 ≤ 9223372036854775807 := by
 cases h : (numR s).2.2 with
 | false =>
  have := numB_numR (s := s) (n := (numR s).1) (r := (numR s).2.1) (by rw [← h])
  exact this.2
 | true =>
  have : ∀ (f i u : Nat) (s : Str), (rdV f i u s).2.2 = true → (rdV f i u s).1 = 0 := by
   intro f
   induction f with
   | zero => intro i u s _; rfl
   | succ f ih =>
    intro i u s h
    cases s with
    | nil => rfl
    | cons c r =>
     unfold rdV at h ⊢
     simp only at h ⊢
     cases e : (decide (0 < i) && decide (c.toNat = 0)) || (decide (i = 9) && decide (1 < c.toNat)) with
     | true => rfl
     | false =>
      rw [e] at h
      simp only [cond_false] at h ⊢
      cases e2 : decide (c.toNat < 128) with
      | true => rw [e2] at h; cases h
      | false => rw [e2] at h; simp only [cond_false] at h ⊢; exact ih _ _ _ h
  have := this 10 0 0 s h
  unfold numR
  omega
structure InsR (i : Ins) : Prop where
 op : 1 ≤ i.op ∧ i.op ≤ 15
 n : i.op = 1 ∨ i.op = 2 → -1000000000000000 ≤ i.n ∧ i.n ≤ 1000000000000000
 q : i.op = 3 → (wrongL [i.quote] 0 0).1 = 0
 g : i.op = 5 ∨ i.op = 12 ∨ i.op = 13 → i.lib.length ≤ 60 ∧ i.own.length ≤ 20
 p : i.op = 6 → i.own.length ≤ 20
 a : i.op = 4 ∨ i.op = 7 ∨ i.op = 8 ∨ i.op = 9 ∨ i.op = 10 ∨ i.op = 11 → 0 ≤ i.a ∧ i.a ≤ 9223372036854775807
theorem wrap_le (n : Int) : IntKind.i64.wrap n ≤ 9223372036854775807 := by
 have e : IntKind.i64.wrap n = if 9223372036854775808 ≤ n % 18446744073709551616 then n % 18446744073709551616 - 18446744073709551616 else n % 18446744073709551616 := by
  unfold IntKind.wrap
  simp [IntKind.bits, IntKind.signed]
 rw [e]
 split <;> omega
theorem prims_len : ∀ s ∈ prims, s.length ≤ 20 := by decide
def Small (ar : List Int) : Prop := ∀ x ∈ ar, x ≤ 9223372036854775807
theorem small_getD {ar : List Int} (h : Small ar) (k : Nat) : ar.getD k 0 ≤ 9223372036854775807 := by
 rw [List.getD_eq_getElem?_getD]
 cases hk : ar[k]? with
 | none => simp
 | some x => simpa using h x (List.mem_of_getElem? hk)
theorem among_zero {a n : Int} (h : amongE a n = 0) : 0 ≤ a ∧ a < n := by
 unfold amongE at h
 cases e : decide (a < 0) || decide (n ≤ a) with
 | true => rw [e] at h; simp at h
 | false => simp only [Bool.or_eq_false_iff, decide_eq_false_iff_not] at e; omega
theorem bif_ne {c : Bool} {e : Int} (he : e ≠ 0) (h : (bif c then e else 0) = 0) : c = false := by
 cases c with
 | true => exact absurd h he
 | false => rfl
theorem plain_len {s : Str} (h : plainB s = true) : s.length ≤ 60 := by
 unfold plainB at h
 simp only [Bool.and_eq_true, decide_eq_true_eq] at h
 exact h.2
theorem named_len {s : Str} (h : namedB s = true) : s.length ≤ 20 := by
 simp only [namedB, Bool.and_eq_true, decide_eq_true_eq] at h
 exact h.2.1.2
theorem insE_right {ps : List Pr} {p : Nat} {i : Ins} {ar : List Int} (har : Small ar) (hps : ps.length ≤ 500) (hc : ∀ q ∈ ps, q.code.length ≤ 6000) (h : (insE ps (-1) p i ar).1 = 0) : InsR i := by
 have hcode : ((ps.getD p ⟨0, []⟩).code.length : Int) ≤ 6000 := by
  rw [List.getD_eq_getElem?_getD]
  cases hk : ps[p]? with
  | none => simp
  | some q => have := hc q (List.mem_of_getElem? hk); simp; omega
 unfold insE at h
 by_cases h1 : i.op = 1
 ·simp only [h1, decide_true, cond_true] at h
  have := bif_ne (by decide) h
  simp only [Bool.or_eq_false_iff, decide_eq_false_iff_not] at this
  exact ⟨by omega, fun _ => by omega, fun e => by omega, fun e => by omega, fun e => by omega, fun e => by omega⟩
 by_cases h2 : i.op = 2
 ·simp only [h2, decide_true, cond_true, show decide ((2 : Int) = 1) = false from rfl, cond_false] at h
  have := bif_ne (by decide) h
  simp only [Bool.and_eq_false_iff, Bool.not_eq_false', decide_eq_true_eq] at this
  exact ⟨by omega, fun _ => by omega, fun e => by omega, fun e => by omega, fun e => by omega, fun e => by omega⟩
 by_cases h3 : i.op = 3
 ·simp only [h3, dk4, decide_true, cond_true, cond_false] at h
  exact ⟨by omega, fun e => by omega, fun _ => h, fun e => by omega, fun e => by omega, fun e => by omega⟩
 simp only [h1, h2, h3, decide_false, cond_false] at h
 by_cases h4 : i.op = 4 ∨ i.op = 11
 ·have : (decide (i.op = 4) || decide (i.op = 11)) = true := by simpa using h4
  rw [this] at h
  have ha := among_zero h
  have hs := small_getD har p
  exact ⟨by omega, fun e => by omega, fun e => by omega, fun e => by omega, fun e => by omega, fun e => by omega⟩
 have h4' : (decide (i.op = 4) || decide (i.op = 11)) = false := by simpa using h4
 rw [h4'] at h
 simp only [cond_false] at h
 by_cases h5 : i.op = 5 ∨ i.op = 12 ∨ i.op = 13
 ·have : (decide (i.op = 5) || decide (i.op = 12) || decide (i.op = 13)) = true := by simpa [or_assoc] using h5
  rw [this] at h
  simp only [cond_true, globalE, show decide ((0 : Int) ≤ -1) = false from rfl, cond_false] at h
  have hb := bif_ne (by decide) h
  simp only [Bool.or_eq_false_iff, Bool.not_eq_false'] at hb
  have k1 := plain_len hb.1
  have k2 := named_len hb.2
  exact ⟨by omega, fun e => by omega, fun e => by omega, fun _ => ⟨k1, k2⟩, fun e => by omega, fun e => by omega⟩
 have h5' : (decide (i.op = 5) || decide (i.op = 12) || decide (i.op = 13)) = false := by simp only [Bool.or_eq_false_iff, decide_eq_false_iff_not]; omega
 rw [h5'] at h
 simp only [cond_false] at h
 by_cases h6 : i.op = 6
 ·simp only [h6, decide_true, cond_true] at h
  have hb := bif_ne (by decide) h
  simp only [Bool.not_eq_false', decide_eq_true_eq] at hb
  have := prims_len _ hb
  exact ⟨by omega, fun e => by omega, fun e => by omega, fun e => by omega, fun _ => this, fun e => by omega⟩
 simp only [h6, decide_false, cond_false] at h
 by_cases h7 : i.op = 7
 ·simp only [h7, decide_true, cond_true] at h
  cases e : decide (i.a ≤ p) || decide ((ps.length : Int) ≤ i.a) with
  | true => rw [e] at h; simp at h
  | false =>
   simp only [Bool.or_eq_false_iff, decide_eq_false_iff_not] at e
   exact ⟨by omega, fun e => by omega, fun e => by omega, fun e => by omega, fun e => by omega, fun _ => by omega⟩
 simp only [h7, decide_false, cond_false] at h
 by_cases h8 : i.op = 8
 ·simp only [h8, decide_true, cond_true] at h
  have ha := among_zero h
  exact ⟨by omega, fun e => by omega, fun e => by omega, fun e => by omega, fun e => by omega, fun _ => by omega⟩
 simp only [h8, decide_false, cond_false] at h
 by_cases h9 : i.op = 9 ∨ i.op = 10
 ·have : (decide (i.op = 9) || decide (i.op = 10)) = true := by simpa using h9
  rw [this] at h
  have ha := among_zero h
  exact ⟨by omega, fun e => by omega, fun e => by omega, fun e => by omega, fun e => by omega, fun _ => by omega⟩
 have h9' : (decide (i.op = 9) || decide (i.op = 10)) = false := by simpa using h9
 rw [h9'] at h
 simp only [cond_false] at h
 by_cases h14 : i.op = 14 ∨ i.op = 15
 ·exact ⟨by omega, fun e => by omega, fun e => by omega, fun e => by omega, fun e => by omega, fun e => by omega⟩
 ·have : (decide (i.op = 14) || decide (i.op = 15)) = false := by simpa using h14
  rw [this] at h
  simp at h
theorem insE_small {ps : List Pr} {p : Nat} {i : Ins} {ar : List Int} (har : Small ar) : Small (insE ps (-1) p i ar).2 := by
 have key : ∀ (c : Bool) (a b : Int × List Int), Small a.2 → Small b.2 → Small (bif c then a else b).2 := fun c a b h1 h2 => by cases c <;> assumption
 unfold insE
 repeat' (refine key _ _ _ ?_ ?_)
 all_goals first | exact har | skip
 intro x hx
 rcases List.mem_or_eq_of_mem_set hx with hx | rfl
 ·exact har x hx
 ·exact wrap_le _
theorem insG_right {ps : List Pr} {p : Nat} (hps : ps.length ≤ 500) (hc : ∀ q ∈ ps, q.code.length ≤ 6000) : ∀ {l : List Ins} {ar : List Int}, Small ar → (insG ps (-1) p l ar).1 = 0 → (∀ x ∈ l, InsR x) ∧ Small (insG ps (-1) p l ar).2
 | [], ar, har, h => ⟨by simp, by simpa [insG] using har⟩
 | y :: r, ar, har, h => by
  rw [insG] at h ⊢
  cases h1 : decide ((insE ps (-1) p y ar).1 = 0) with
  | false => rw [h1] at h; simp only [Bool.not_false, cond_true] at h; exact absurd h (of_decide_eq_false h1)
  | true =>
   rw [h1] at h
   simp only [Bool.not_true, cond_false] at h ⊢
   have i1 := insE_right har hps hc (of_decide_eq_true h1)
   obtain ⟨i2, i3⟩ := insG_right hps hc (insE_small har) h
   refine ⟨fun x hx => ?_, i3⟩
   rcases List.mem_cons.1 hx with rfl | hx
   ·exact i1
   ·exact i2 x hx
theorem protoG_right {ps : List Pr} {bs : List Int} (hps : ps.length ≤ 500) (hc : ∀ q ∈ ps, q.code.length ≤ 6000) : ∀ {l : List Pr} {p : Nat} {ar : List Int}, Small ar → protoG ps (-1) bs l p ar = 0 → ∀ q ∈ l, ∀ x ∈ q.code, InsR x
 | [], _, _, _, h => by simp
 | y :: r, p, ar, har, h => by
  rw [protoG] at h
  cases h1 : decide (ar.getD p 0 < 0) with
  | true => rw [h1] at h; simp at h
  | false =>
   rw [h1] at h
   cases h2 : decide ((insG ps (-1) p y.code ar).1 = 0) with
   | false => rw [h2] at h; simp only [Bool.not_false, cond_true, cond_false] at h; exact absurd h (of_decide_eq_false h2)
   | true =>
    rw [h2] at h
    cases h3 : decide (stackE y.code (decide ((p : Int) ∈ bs)) = 0) with
    | false => rw [h3] at h; simp only [Bool.not_false, Bool.not_true, cond_true, cond_false] at h; exact absurd h (of_decide_eq_false h3)
    | true =>
     rw [h3] at h
     simp only [Bool.not_true, cond_false] at h
     obtain ⟨i1, i2⟩ := insG_right hps hc har (of_decide_eq_true h2)
     intro q hq
     rcases List.mem_cons.1 hq with rfl | hq
     ·exact i1
     ·exact protoG_right hps hc i2 h q hq
theorem bodies_small {ps : List Pr} : ∀ {bs ar ar' : List Int}, Small ar → bodiesG ps bs ar = some ar' → Small ar'
 | [], ar, ar', har, h => by simp only [bodiesG, Option.some.injEq] at h; subst h; exact har
 | b :: r, ar, ar', har, h => by
  simp only [bodiesG] at h
  cases e : (!decide ((ps.getD b.toNat ⟨0, []⟩).args = 0)) with
  | true => rw [e] at h; cases h
  | false =>
   rw [e] at h
   refine bodies_small (fun x hx => ?_) h
   rcases List.mem_or_eq_of_mem_set hx with hx | rfl
   ·exact har x hx
   ·decide
/-- A right unit's instructions. -/
theorem unit_right {u : Unit'} (h : unitE u = 0) : ∀ q ∈ u.protos, ∀ x ∈ q.code, InsR x := by
 have hu := unit_ok h
 have hs := hu.shape
 unfold shapeE at hs
 cases hb : bodiesG u.protos [0] (List.replicate u.protos.length (-1)) with
 | none => rw [hb] at hs; simp at hs
 | some ar =>
  rw [hb] at hs
  exact protoG_right hu.few.2 (fun q hq => (hu.form q hq).2.1) (bodies_small (fun x hx => by rw [List.eq_of_mem_replicate hx]; decide) hb) hs
theorem u64_nat {n : Nat} (h : n < 18446744073709551616) : IntKind.u64.wrap (n : Int) = n := by
 unfold IntKind.wrap
 simp only [IntKind.bits, IntKind.signed, Bool.false_and, Bool.false_eq_true, if_false, Int.reducePow]
 omega
theorem ofInt_nat (n : Nat) (h : n < 18446744073709551616) : (BitVec.ofInt 64 (n : Int)).toNat = n := by
 simp [BitVec.toNat_ofInt]; omega
theorem xor_u64 {a b : Nat} (ha : a < 18446744073709551616) (hb : b < 18446744073709551616) : bitsV .xor .u64 (a : Int) (b : Int) = ((a ^^^ b : Nat) : Int) := by
 show IntKind.u64.wrap (((BitVec.ofInt 64 (a : Int) ^^^ BitVec.ofInt 64 (b : Int)).toNat : Nat) : Int) = _
 rw [BitVec.toNat_xor, ofInt_nat _ ha, ofInt_nat _ hb, u64_nat (Nat.xor_lt_two_pow (n := 64) (by simpa using ha) (by simpa using hb))]
theorem or_u64 {a b : Nat} (ha : a < 18446744073709551616) (hb : b < 18446744073709551616) : bitsV .or .u64 (a : Int) (b : Int) = ((a ||| b : Nat) : Int) := by
 show IntKind.u64.wrap (((BitVec.ofInt 64 (a : Int) ||| BitVec.ofInt 64 (b : Int)).toNat : Nat) : Int) = _
 rw [BitVec.toNat_or, ofInt_nat _ ha, ofInt_nat _ hb, u64_nat (Nat.or_lt_two_pow (n := 64) (by simpa using ha) (by simpa using hb))]
theorem and_u64 {a b : Nat} (ha : a < 18446744073709551616) (hb : b < 18446744073709551616) : bitsV .and .u64 (a : Int) (b : Int) = ((a &&& b : Nat) : Int) := by
 show IntKind.u64.wrap (((BitVec.ofInt 64 (a : Int) &&& BitVec.ofInt 64 (b : Int)).toNat : Nat) : Int) = _
 rw [BitVec.toNat_and, ofInt_nat _ ha, ofInt_nat _ hb, u64_nat (Nat.lt_of_le_of_lt Nat.and_le_left ha)]
theorem zz_eq {n : Int} (h0 : -9223372036854775808 ≤ n) (h1 : n ≤ 9223372036854775807) :
  bitsV .xor .u64 (IntKind.u64.wrap (IntKind.u64.wrap n * 2 ^ (min (Int.toNat 1) IntKind.u64.bits))) (IntKind.u64.wrap (n.fdiv (2 ^ (min (Int.toNat 63) IntKind.i64.bits)))) = (zz n : Int) := by
 have e1 : min (Int.toNat 1) IntKind.u64.bits = 1 := by decide
 have e2 : min (Int.toNat 63) IntKind.i64.bits = 63 := by decide
 have hz := zz_lt h0 h1
 rw [e1, e2]
 by_cases hn : n < 0
 ·have e3 : n.fdiv (2 ^ 63) = -1 := by
   rw [Int.fdiv_eq_ediv_of_nonneg _ (by decide)]
   simp only [Int.reducePow]; omega
  have e4 : IntKind.u64.wrap (-1) = ((18446744073709551615 : Nat) : Int) := by decide
  have e5 : IntKind.u64.wrap (IntKind.u64.wrap n * 2 ^ 1) = ((18446744073709551615 - zz n : Nat) : Int) := by
   unfold IntKind.wrap zz
   simp only [IntKind.bits, IntKind.signed, Bool.false_and, Bool.false_eq_true, if_false, Int.reducePow, hn, if_true]
   omega
  rw [e3, e4, e5, xor_u64 (by omega) (by omega)]
  have e6 : (18446744073709551615 - zz n) ^^^ 18446744073709551615 = zz n := by
   have := BitVec.toNat_not (x := BitVec.ofNat 64 (18446744073709551615 - zz n))
   rw [BitVec.not_def, BitVec.toNat_xor, BitVec.toNat_ofNat, Nat.mod_eq_of_lt (by omega)] at this
   simp only [BitVec.toNat_allOnes] at this
   rw [Nat.xor_comm] at this
   simp only [Nat.reducePow, Nat.reduceSub] at this
   rw [this]; omega
  rw [e6]
 ·have e3 : n.fdiv (2 ^ 63) = 0 := by
   rw [Int.fdiv_eq_ediv_of_nonneg _ (by decide)]
   simp only [Int.reducePow]; omega
  have e4 : IntKind.u64.wrap 0 = ((0 : Nat) : Int) := by decide
  have e5 : IntKind.u64.wrap (IntKind.u64.wrap n * 2 ^ 1) = ((zz n : Nat) : Int) := by
   unfold IntKind.wrap zz
   simp only [IntKind.bits, IntKind.signed, Bool.false_and, Bool.false_eq_true, if_false, Int.reducePow, hn]
   omega
  rw [e3, e4, e5, xor_u64 hz (by omega), Nat.xor_zero]
theorem u8_of (u : Nat) : IntKind.u8.wrap (u : Int) = ((u % 256 : Nat) : Int) := by
 unfold IntKind.wrap
 simp only [IntKind.bits, IntKind.signed, Bool.false_and, Bool.false_eq_true, if_false, Int.reducePow]
 omega
theorem or_byte (u : Nat) : bitsV .or .u8 (IntKind.u8.wrap (u : Int)) 128 = ((UInt8.ofNat (128 + u % 128)).toNat : Int) := by
 rw [u8_of]
 have key : ∀ m : Nat, m < 256 → bitsV .or .u8 (m : Int) 128 = ((UInt8.ofNat (128 + m % 128)).toNat : Int) := by
  intro m hm
  have : (List.range 256).all (fun m => decide (bitsV .or .u8 (m : Int) 128 = ((UInt8.ofNat (128 + m % 128)).toNat : Int))) = true := by decide +kernel
  exact of_decide_eq_true (List.all_eq_true.1 this m (by simpa using hm))
 rw [key _ (by omega), show u % 256 % 128 = u % 128 by omega]
theorem low_byte (u : Nat) (h : u < 256) : IntKind.u8.wrap (u : Int) = ((UInt8.ofNat u).toNat : Int) := by
 rw [u8_of, byte_ofNat h, Nat.mod_eq_of_lt h]
theorem shr7 (u : Nat) : (u : Int).fdiv (2 ^ (min (Int.toNat 7) IntKind.u64.bits)) = ((u / 128 : Nat) : Int) := by
 rw [show min (Int.toNat 7) IntKind.u64.bits = 7 by decide, Int.fdiv_eq_ediv_of_nonneg _ (by decide)]
 simp only [Int.reducePow]; omega
def Fits (f u : Nat) : Prop := u < 2 * 128 ^ f
theorem fits_9 {u : Nat} (h : u < 18446744073709551616) : Fits 9 u := by unfold Fits; omega
theorem fits_0 {u : Nat} (h : Fits 0 u) : u < 2 := by unfold Fits at h; simpa using h
theorem fits_succ {f u : Nat} (h : Fits (f + 1) u) : Fits f (u / 128) := by unfold Fits at h ⊢; rw [Nat.pow_succ] at h; omega
theorem c_wnum {st : St} {b t T k : Nat} {s : Str} {r : List V} (h : IsB st b t T k s r) (n : Int) (h0 : -9223372036854775808 ≤ n) (h1 : n ≤ 9223372036854775807) (hl : s.length < 50000000000000) :
  VCalls Tryz.prog TT 23 [.ptr b 0, .int .i64 n] st fun q st' => q = .ret (.tup []) ∧ st' = bput st b t T k (s ++ numB n) r := by
 refine vfun TT_ok (an := anL []) (L := [0, 1, 4]) (rs := []) Tryz.func23 rfl (by kernel_rfl) rfl Tryz.ntmps23 rfl rfl (Nat.le_of_eq bput_len.symm) fun hst ha hf => ?_
 simp only [gw0, reduceEqDiff, ↓reduceIte, reduceAdd, reduceLT, reduceLeDiff, reduceMul, gwD3, gwDT, pureR_none, ite_self, nilR, nilB, bitF, bitV, nilC, nilCmp, eqb, assertV, assertW, zeroV, wQ_normal, wQ_ret, wQ_panic, pickO, pickC, List.map_cons, List.map_nil, List.getD_cons_zero, List.getD_cons_succ, Env.keep, beq_self_eq_true, cond_true, cond_false, convV, zz_eq h0 h1]
 refine ⟨by omega, by omega, ?_⟩
 have hz := zz_lt h0 h1
 have h2 : ∀ x, IsB (bput st b t T k x r) b t T k x r := fun x => h.put x
 have hne := h.ne
 refine vfor (σ := Nat × Nat × Str) [0, 1, 4] (fun x => [(0, true, .ptr b 0), (1, true, .int .i64 n), (4, true, .int .u64 x.2.1)]) (fun x => bput st b t T k (s ++ x.2.2) r) (fun x => x.1) (fun x => x.1 ≤ 9 ∧ Fits x.1 x.2.1 ∧ x.2.2 ++ vb x.1 x.2.1 = numB n ∧ x.2.2.length + x.1 ≤ 9) (9, zz n, []) rfl TT_ok ⟨Nat.le_refl _, fits_9 hz, rfl, Nat.le_refl _⟩ rfl (by simp only [List.append_nil]; exact h.same.symm) ?_
 rintro ⟨f, u, p⟩ ⟨hf9, hu, hp, hp9⟩
 simp only at hf9 hu hp hp9 ⊢
 by_cases hc : u < 128
 ·have hd : decide ((128 : Int) ≤ (u : Int)) = false := by simp; omega
  have hv : vb f u = [UInt8.ofNat u] := by
   cases f with
   | zero => rfl
   | succ f => simp only [vb, hc, decide_true, cond_true]
  simp only [gw0, reduceEqDiff, ↓reduceIte, reduceAdd, reduceLT, reduceLeDiff, reduceMul, gwD3, gwDT, pureR_none, ite_self, nilR, nilB, bitF, bitV, nilC, nilCmp, eqb, assertV, assertW, zeroV, wQ_normal, wQ_ret, wQ_panic, pickO, pickC, List.map_cons, List.map_nil, List.getD_cons_zero, List.getD_cons_succ, Env.keep, beq_self_eq_true, cond_true, cond_false, convV, hd, low_byte u (by omega)]
  refine (c_WriteByte (h2 _) (UInt8.ofNat u) (by simp; omega)).use (wkL_refl _) fun _ => ?_
  simp only [gw0, reduceEqDiff, ↓reduceIte, reduceAdd, reduceLT, reduceLeDiff, reduceMul, bput_bput hne]
  rw [show s ++ p ++ [UInt8.ofNat u] = s ++ numB n by rw [← hp, hv]; simp]
  exact gives_self (by simp [V.lt, ltL]) (bput_ok h hst _)
 ·have hd : decide ((128 : Int) ≤ (u : Int)) = true := by simp; omega
  have hf0 : f ≠ 0 := by rintro rfl; have := fits_0 hu; omega
  obtain ⟨f, rfl⟩ : ∃ g, f = g + 1 := ⟨f - 1, by omega⟩
  have hv : vb (f + 1) u = UInt8.ofNat (128 + u % 128) :: vb f (u / 128) := by simp only [vb, hc, decide_false, cond_false]
  simp only [gw0, reduceEqDiff, ↓reduceIte, reduceAdd, reduceLT, reduceLeDiff, reduceMul, gwD3, gwDT, pureR_none, ite_self, nilR, nilB, bitF, bitV, nilC, nilCmp, eqb, assertV, assertW, zeroV, wQ_normal, wQ_ret, wQ_panic, pickO, pickC, List.map_cons, List.map_nil, List.getD_cons_zero, List.getD_cons_succ, Env.keep, beq_self_eq_true, cond_true, cond_false, convV, hd, or_byte u]
  refine (c_WriteByte (h2 _) (UInt8.ofNat (128 + u % 128)) (by simp; omega)).use (wkL_refl _) fun _ => ?_
  simp only [gw0, reduceEqDiff, ↓reduceIte, reduceAdd, reduceLT, reduceLeDiff, reduceMul, gwD3, gwDT, pureR_none, ite_self, nilR, nilB, bitF, bitV, nilC, nilCmp, eqb, assertV, assertW, zeroV, wQ_normal, wQ_ret, wQ_panic, pickO, pickC, List.map_cons, List.map_nil, List.getD_cons_zero, List.getD_cons_succ, Env.keep, beq_self_eq_true, cond_true, cond_false, bput_bput hne, shr7]
  refine ⟨by omega, (f, u / 128, p ++ [UInt8.ofNat (128 + u % 128)]), rfl, by simp, by simp only; omega, by simp only; omega, fits_succ hu, ?_, by simp only [List.length_append, List.length_cons, List.length_nil]; omega⟩
  simp only
  rw [← hp, hv]; simp
theorem c_wstr {st : St} {b t T k : Nat} {s : Str} {r : List V} (h : IsB st b t T k s r) (x : Str) (hx : x.length < 10000000000000) (hl : s.length < 30000000000000) :
  VCalls Tryz.prog TT 22 [.ptr b 0, .str x] st fun q st' => q = .ret (.tup []) ∧ st' = bput st b t T k (s ++ strB x) r := by
 refine vfun TT_ok (an := anL []) (L := [0, 1]) (rs := []) Tryz.func22 rfl (by kernel_rfl) rfl Tryz.ntmps22 rfl rfl (Nat.le_of_eq bput_len.symm) fun hst ha hf => ?_
 simp only [gw0, reduceEqDiff, ↓reduceIte, reduceAdd, reduceLT, reduceLeDiff, reduceMul]
 refine (c_wnum h x.length (by omega) (by omega) (by omega)).use (wkL_refl _) fun _ => ?_
 simp only [gw0, reduceEqDiff, ↓reduceIte, reduceAdd, reduceLT, reduceLeDiff, reduceMul]
 have hn := numB_len x.length
 refine (c_WriteString (h.put _) x (by simp; omega)).use (wkL_refl _) fun _ => ?_
 simp only [gw0, reduceEqDiff, ↓reduceIte, reduceAdd, reduceLT, reduceLeDiff, reduceMul, bput_bput h.ne]
 rw [List.append_assoc]
 exact gives_self (by simp [V.lt, ltL]) (bput_ok h hst _)
theorem IsB.app {st : St} {b t T k : Nat} {s : Str} {r : List V} (h : IsB st b t T k s r) (ex : St) : IsB (st ++ ex) b t T k s r where
 box := by rw [List.getElem?_append_left (List.getElem?_eq_some_iff.1 h.box).1]; exact h.box
 arr := by rw [List.getElem?_append_left (List.getElem?_eq_some_iff.1 h.arr).1]; exact h.arr
 lies := h.lies
theorem bput_app {st ex : St} {b t T k : Nat} {s : Str} {r : List V} (hb : b < st.length) (ht : t < st.length) : bput (st ++ ex) b t T k s r = bput st b t T k s r ++ ex := by
 simp only [bput]
 rw [List.set_append_left _ _ ht, List.set_append_left _ _ (by rw [List.length_set]; exact hb)]
theorem at_bput {st : St} {b t T k : Nat} {s : Str} {r : List V} (e : Ent) : (bput st b t T k s r ++ [e])[st.length]? = some e := by
 rw [List.getElem?_append_right (by rw [bput_len]; exact Nat.le_refl _), bput_len, Nat.sub_self]; rfl
theorem print_len (l : List Datum) : (printL l).1.length ≤ 6000 := by
 unfold printL
 cases decide ((wrongL l 0 0).1 = 0) <;> simp only [cond_true, cond_false, List.length_nil, Nat.zero_le]
 cases h : decide (6000 < (textL l).length) with
 | true => simp
 | false => simp only [cond_false]; have := of_decide_eq_false h; omega
theorem c_wins {st : St} {b t T k : Nat} {s : Str} {r : List V} (h : IsB st b t T k s r) (i : Ins) (hi : InsR i) (hl : s.length < 10000000000000) :
  VCalls Tryz.prog TT 24 [.ptr b 0, .ref (encI i)] st fun q st' => q = .ret (.int .i64 (insW i).2) ∧ st' = bput st b t T k (s ++ (insW i).1) r := by
 obtain ⟨op, a, n, lb, ow, qd⟩ := i
 refine vfun TT_ok (an := anL []) (L := [0, 1, 4, 5, 6, 16, 23, 48, 72]) (rs := [.tmp 4]) Tryz.func24 rfl (by kernel_rfl) rfl Tryz.ntmps24 rfl rfl (Nat.le_of_eq bput_len.symm) fun hst ha hf => ?_
 simp only [encI_mk]
 obtain ⟨h1, h2, h3, h4, h5, h6⟩ := hi
 simp only at h1 h2 h3 h4 h5 h6
 have hn1 := numB_len op
 have g2 : ∀ x, IsB (bput st b t T k x r) b t T k x r := fun x => h.put x
 have hne := h.ne
 simp only [gw0, reduceEqDiff, ↓reduceIte, reduceAdd, reduceLT, reduceLeDiff, reduceMul]
 refine (c_wnum h op (by omega) (by omega) (by omega)).use (wkL_refl _) fun _ => ?_
 simp only [gw0, reduceEqDiff, ↓reduceIte, reduceAdd, reduceLT, reduceLeDiff, reduceMul]
 have done : ∀ (e : Int) (x : Str), x = (insW ⟨op, a, n, lb, ow, qd⟩).1 → e = (insW ⟨op, a, n, lb, ow, qd⟩).2 → Gives (.int .i64 (insW ⟨op, a, n, lb, ow, qd⟩).2) (bput st b t T k (s ++ (insW ⟨op, a, n, lb, ow, qd⟩).1) r) (.ret (.int .i64 e)) (bput st b t T k (s ++ x) r) := fun e x ex ee => by
  subst ex; subst ee; exact gives_self (by simp [V.lt]) (bput_ok h hst _)
 have hop : op = 1 ∨ op = 2 ∨ op = 3 ∨ op = 4 ∨ op = 5 ∨ op = 6 ∨ op = 7 ∨ op = 8 ∨ op = 9 ∨ op = 10 ∨ op = 11 ∨ op = 12 ∨ op = 13 ∨ op = 14 ∨ op = 15 := by omega
 rcases hop with rfl | rfl | rfl | rfl | rfl | rfl | rfl | rfl | rfl | rfl | rfl | rfl | rfl | rfl | rfl
 ·simp only [gw0, reduceEqDiff, ↓reduceIte, reduceAdd, reduceLT, reduceLeDiff, reduceMul, Int.reduceEq, decide_true, decide_false]
  refine (c_wnum (g2 _) n (by omega) (by omega) (by simp; omega)).use (wkL_refl _) fun _ => ?_
  simp only [gw0, reduceEqDiff, ↓reduceIte, reduceAdd, reduceLT, reduceLeDiff, reduceMul, bput_bput hne]
  rw [List.append_assoc]
  exact done 0 _ rfl rfl
 ·simp only [gw0, reduceEqDiff, ↓reduceIte, reduceAdd, reduceLT, reduceLeDiff, reduceMul, Int.reduceEq, decide_true, decide_false]
  refine (c_wnum (g2 _) n (by omega) (by omega) (by simp; omega)).use (wkL_refl _) fun _ => ?_
  simp only [gw0, reduceEqDiff, ↓reduceIte, reduceAdd, reduceLT, reduceLeDiff, reduceMul, bput_bput hne]
  rw [List.append_assoc]
  exact done 0 _ rfl rfl
 ·simp only [gw0, reduceEqDiff, ↓reduceIte, reduceAdd, reduceLT, reduceLeDiff, reduceMul, Int.reduceEq, decide_true, decide_false]
  refine ⟨by rw [encD_len]; exact Nat.le_refl _, ?_⟩
  simp only [gw0, reduceEqDiff, ↓reduceIte, reduceAdd, reduceLT, reduceLeDiff, reduceMul, encD_take, encD_len, if_true]
  refine (c_Print _ [qd]).use (wkL_refl _) fun _ => ?_
  have hpl := print_len [qd]
  simp only [printV, fltV]
  simp only [gw0, reduceEqDiff, ↓reduceIte, reduceAdd, reduceLT, reduceLeDiff, reduceMul]
  have hb1 := (List.getElem?_eq_some_iff.1 h.box).1
  have ht1 := (List.getElem?_eq_some_iff.1 h.arr).1
  refine (c_wstr ((g2 _).app [_]) (printL [qd]).1 (by omega) (by simp; omega)).use (wkL_refl _) fun _ => ?_
  rw [bput_app (by rw [bput_len]; exact hb1) (by rw [bput_len]; exact ht1), bput_bput hne]
  simp only [gw0, reduceEqDiff, ↓reduceIte, reduceAdd, reduceLT, reduceLeDiff, reduceMul, bput_len, at_bput]
  rw [List.append_assoc]
  exact gives_of (wk_refl _) (wkSt_refl _) (by simp [V.lt]) (bput_ok h hst _)
 ·simp only [gw0, reduceEqDiff, ↓reduceIte, reduceAdd, reduceLT, reduceLeDiff, reduceMul, Int.reduceEq, decide_true, decide_false]
  refine (c_wnum (g2 _) a (by omega) (by omega) (by simp; omega)).use (wkL_refl _) fun _ => ?_
  simp only [gw0, reduceEqDiff, ↓reduceIte, reduceAdd, reduceLT, reduceLeDiff, reduceMul, bput_bput hne]
  rw [List.append_assoc]
  exact done 0 _ rfl rfl
 ·simp only [gw0, reduceEqDiff, ↓reduceIte, reduceAdd, reduceLT, reduceLeDiff, reduceMul, Int.reduceEq, decide_true, decide_false]
  refine (c_wstr (g2 _) lb (by omega) (by simp; omega)).use (wkL_refl _) fun _ => ?_
  simp only [gw0, reduceEqDiff, ↓reduceIte, reduceAdd, reduceLT, reduceLeDiff, reduceMul, bput_bput hne]
  have hn2 := numB_len lb.length
  refine (c_wstr (g2 _) ow (by omega) (by simp [strB]; omega)).use (wkL_refl _) fun _ => ?_
  simp only [gw0, reduceEqDiff, ↓reduceIte, reduceAdd, reduceLT, reduceLeDiff, reduceMul, bput_bput hne]
  rw [List.append_assoc, List.append_assoc]
  exact done 0 _ (by simp [insW]) rfl
 ·simp only [gw0, reduceEqDiff, ↓reduceIte, reduceAdd, reduceLT, reduceLeDiff, reduceMul, Int.reduceEq, decide_true, decide_false]
  refine (c_wstr (g2 _) ow (by omega) (by simp; omega)).use (wkL_refl _) fun _ => ?_
  simp only [gw0, reduceEqDiff, ↓reduceIte, reduceAdd, reduceLT, reduceLeDiff, reduceMul, bput_bput hne]
  rw [List.append_assoc]
  exact done 0 _ rfl rfl
 ·simp only [gw0, reduceEqDiff, ↓reduceIte, reduceAdd, reduceLT, reduceLeDiff, reduceMul, Int.reduceEq, decide_true, decide_false]
  refine (c_wnum (g2 _) a (by omega) (by omega) (by simp; omega)).use (wkL_refl _) fun _ => ?_
  simp only [gw0, reduceEqDiff, ↓reduceIte, reduceAdd, reduceLT, reduceLeDiff, reduceMul, bput_bput hne]
  rw [List.append_assoc]
  exact done 0 _ rfl rfl
 ·simp only [gw0, reduceEqDiff, ↓reduceIte, reduceAdd, reduceLT, reduceLeDiff, reduceMul, Int.reduceEq, decide_true, decide_false]
  refine (c_wnum (g2 _) a (by omega) (by omega) (by simp; omega)).use (wkL_refl _) fun _ => ?_
  simp only [gw0, reduceEqDiff, ↓reduceIte, reduceAdd, reduceLT, reduceLeDiff, reduceMul, bput_bput hne]
  rw [List.append_assoc]
  exact done 0 _ rfl rfl
 ·simp only [gw0, reduceEqDiff, ↓reduceIte, reduceAdd, reduceLT, reduceLeDiff, reduceMul, Int.reduceEq, decide_true, decide_false]
  refine (c_wnum (g2 _) a (by omega) (by omega) (by simp; omega)).use (wkL_refl _) fun _ => ?_
  simp only [gw0, reduceEqDiff, ↓reduceIte, reduceAdd, reduceLT, reduceLeDiff, reduceMul, bput_bput hne]
  rw [List.append_assoc]
  exact done 0 _ rfl rfl
 ·simp only [gw0, reduceEqDiff, ↓reduceIte, reduceAdd, reduceLT, reduceLeDiff, reduceMul, Int.reduceEq, decide_true, decide_false]
  refine (c_wnum (g2 _) a (by omega) (by omega) (by simp; omega)).use (wkL_refl _) fun _ => ?_
  simp only [gw0, reduceEqDiff, ↓reduceIte, reduceAdd, reduceLT, reduceLeDiff, reduceMul, bput_bput hne]
  rw [List.append_assoc]
  exact done 0 _ rfl rfl
 ·simp only [gw0, reduceEqDiff, ↓reduceIte, reduceAdd, reduceLT, reduceLeDiff, reduceMul, Int.reduceEq, decide_true, decide_false]
  refine (c_wnum (g2 _) a (by omega) (by omega) (by simp; omega)).use (wkL_refl _) fun _ => ?_
  simp only [gw0, reduceEqDiff, ↓reduceIte, reduceAdd, reduceLT, reduceLeDiff, reduceMul, bput_bput hne]
  rw [List.append_assoc]
  exact done 0 _ rfl rfl
 ·simp only [gw0, reduceEqDiff, ↓reduceIte, reduceAdd, reduceLT, reduceLeDiff, reduceMul, Int.reduceEq, decide_true, decide_false]
  refine (c_wstr (g2 _) lb (by omega) (by simp; omega)).use (wkL_refl _) fun _ => ?_
  simp only [gw0, reduceEqDiff, ↓reduceIte, reduceAdd, reduceLT, reduceLeDiff, reduceMul, bput_bput hne]
  have hn2 := numB_len lb.length
  refine (c_wstr (g2 _) ow (by omega) (by simp [strB]; omega)).use (wkL_refl _) fun _ => ?_
  simp only [gw0, reduceEqDiff, ↓reduceIte, reduceAdd, reduceLT, reduceLeDiff, reduceMul, bput_bput hne]
  rw [List.append_assoc, List.append_assoc]
  exact done 0 _ (by simp [insW]) rfl
 ·simp only [gw0, reduceEqDiff, ↓reduceIte, reduceAdd, reduceLT, reduceLeDiff, reduceMul, Int.reduceEq, decide_true, decide_false]
  refine (c_wstr (g2 _) lb (by omega) (by simp; omega)).use (wkL_refl _) fun _ => ?_
  simp only [gw0, reduceEqDiff, ↓reduceIte, reduceAdd, reduceLT, reduceLeDiff, reduceMul, bput_bput hne]
  have hn2 := numB_len lb.length
  refine (c_wstr (g2 _) ow (by omega) (by simp [strB]; omega)).use (wkL_refl _) fun _ => ?_
  simp only [gw0, reduceEqDiff, ↓reduceIte, reduceAdd, reduceLT, reduceLeDiff, reduceMul, bput_bput hne]
  rw [List.append_assoc, List.append_assoc]
  exact done 0 _ (by simp [insW]) rfl
 ·simp only [gw0, reduceEqDiff, ↓reduceIte, reduceAdd, reduceLT, reduceLeDiff, reduceMul, Int.reduceEq, decide_true, decide_false]
  exact done 0 _ rfl rfl
 ·simp only [gw0, reduceEqDiff, ↓reduceIte, reduceAdd, reduceLT, reduceLeDiff, reduceMul, Int.reduceEq, decide_true, decide_false]
  exact done 0 _ rfl rfl
theorem insW_len {i : Ins} (h : InsR i) : (insW i).1.length ≤ 6100 := by
 have n1 := numB_len i.op
 have n2 := numB_len i.n
 have n3 := numB_len i.a
 have n4 := numB_len i.lib.length
 have n5 := numB_len i.own.length
 have n6 := numB_len (printL [i.quote]).1.length
 have p1 := print_len [i.quote]
 have n7 := numB_len 3
 have n8 := numB_len 6
 obtain ⟨h1, h2, h3, h4, h5, h6⟩ := h
 unfold insW strB
 by_cases e1 : (decide (i.op = 1) || decide (i.op = 2)) = true
 ·rw [e1]; simp; omega
 rw [Bool.not_eq_true] at e1
 rw [e1]
 by_cases e2 : i.op = 3
 ·simp [e2]; omega
 by_cases e3 : (decide (i.op = 5) || decide (i.op = 12) || decide (i.op = 13)) = true
 ·have := h4 (by simpa [or_assoc] using e3)
  rw [e3]; simp [e2]; omega
 rw [Bool.not_eq_true] at e3
 rw [e3]
 by_cases e4 : i.op = 6
 ·have := h5 e4
  simp [e2, e4]; omega
 by_cases e5 : (decide (i.op = 14) || decide (i.op = 15)) = true
 ·rw [e5]; simp [e2, e4]; omega
 rw [Bool.not_eq_true] at e5
 rw [e5]; simp [e2, e4]; omega
def codeP (l : List Ins) : Str := l.flatMap fun i => (insW i).1
def protosP (l : List Pr) : Str := l.flatMap fun p => headW p ++ codeP p.code
theorem codeP_len : ∀ l : List Ins, (∀ x ∈ l, InsR x) → (codeP l).length ≤ 6100 * l.length
 | [], _ => by simp [codeP]
 | i :: r, h => by
  have h1 := insW_len (h i (by simp))
  have h2 := codeP_len r fun x hx => h x (by simp [hx])
  simp only [codeP, List.flatMap_cons, List.length_append, List.length_cons] at h2 ⊢
  omega
theorem codeW_ok : ∀ {l : List Ins}, (codeW l).2 = 0 → (codeW l).1 = codeP l
 | [], _ => rfl
 | i :: r, h => by
  simp only [codeW] at h ⊢
  cases e : decide ((insW i).2 = 0) with
  | false => rw [e] at h; simp only [cond_false] at h; exact absurd h (of_decide_eq_false e)
  | true =>
   rw [e] at h
   simp only [cond_true] at h ⊢
   rw [codeW_ok h]; rfl
theorem protosW_ok : ∀ {l : List Pr}, (protosW l).2 = 0 → (protosW l).1 = protosP l ∧ ∀ p ∈ l, (codeW p.code).2 = 0
 | [], _ => ⟨rfl, by simp⟩
 | p :: r, h => by
  simp only [protosW] at h ⊢
  cases e : decide ((codeW p.code).2 = 0) with
  | false => rw [e] at h; simp only [cond_false] at h; exact absurd h (of_decide_eq_false e)
  | true =>
   rw [e] at h
   simp only [cond_true] at h ⊢
   obtain ⟨h1, h2⟩ := protosW_ok h
   refine ⟨by rw [h1, codeW_ok (of_decide_eq_true e)]; rfl, fun q hq => ?_⟩
   rcases List.mem_cons.1 hq with rfl | hq
   ·exact of_decide_eq_true e
   ·exact h2 q hq
theorem protosP_len : ∀ l : List Pr, (∀ p ∈ l, p.code.length ≤ 6000 ∧ ∀ x ∈ p.code, InsR x) → (protosP l).length ≤ 40000000 * l.length
 | [], _ => by simp [protosP]
 | p :: r, h => by
  have h0 := h p (by simp)
  have h1 := codeP_len p.code h0.2
  have h2 := protosP_len r fun x hx => h x (by simp [hx])
  have n1 := numB_len p.args
  have n2 := numB_len p.code.length
  simp only [protosP, List.flatMap_cons, List.length_append, List.length_cons, headW] at h2 ⊢
  omega
theorem take_codeP {l : List Ins} {i : Nat} {a : Ins} (h : l[i]? = some a) : codeP (l.take (i + 1)) = codeP (l.take i) ++ (insW a).1 := by
 rw [take_next h]; simp [codeP]
theorem take_protosP {l : List Pr} {i : Nat} {a : Pr} (h : l[i]? = some a) : protosP (l.take (i + 1)) = protosP (l.take i) ++ headW a ++ codeP a.code := by
 rw [take_next h]; simp [protosP]
def lstY (s : Str) : V := .lst 1 none (byteRows s)
def bytesR (x : Str × Int) : V := .tup [lstY x.1, .int .i64 x.2]
theorem byteRows_lt (n : Nat) : ∀ s : Str, ltRows n (byteRows s)
 | [] => trivial
 | c :: r => ⟨⟨trivial, trivial⟩, byteRows_lt n r⟩
theorem liesW : ∀ T k : Nat, T = 67 → k = 2 → liesAt Tryz.prog Tryz.prog.depth T (k / Tryz.prog.cellsOf T) 0 65 1 = true := by
 rintro _ _ rfl rfl
 kernel_rfl
theorem tail2 {α : Type} (st : List α) (a b c : α) : st ++ [a, b, c] = (st ++ [a, b]) ++ [c] := by simp
theorem codeW_bad {l r : List Ins} {x : Ins} (h : (codeW l).2 = (codeW (x :: r)).2) (hx : (insW x).2 ≠ 0) : (codeW l).2 = (insW x).2 := by
 rw [h, codeW, show decide ((insW x).2 = 0) = false by simpa using hx]; rfl
theorem codeW_good {r : List Ins} {x : Ins} (hx : (insW x).2 = 0) : (codeW (x :: r)).2 = (codeW r).2 := by
 rw [codeW, show decide ((insW x).2 = 0) = true by simpa using hx]; rfl
theorem protosW_bad {l r : List Pr} {p : Pr} (h : (protosW l).2 = (protosW (p :: r)).2) (hp : (codeW p.code).2 ≠ 0) : (protosW l).2 = (codeW p.code).2 := by
 rw [h, protosW, show decide ((codeW p.code).2 = 0) = false by simpa using hp]; rfl
theorem protosW_good {r : List Pr} {p : Pr} (hp : (codeW p.code).2 = 0) : (protosW (p :: r)).2 = (protosW r).2 := by
 rw [protosW, show decide ((codeW p.code).2 = 0) = true by simpa using hp]; rfl
theorem c_Bytes (u : Unit') (st : St) : VCalls Tryz.prog TT 7 [.agg (encU u)] st fun q st' => q = .ret (bytesR (bytesW u)) ∧ st' = st := by
 obtain ⟨nm, ps⟩ := u
 refine vfun TT_ok (an := anL [(1, 1), (16, 5)]) (L := [0, 1, 2, 3, 4, 5, 7, 8, 9, 27, 28, 29, 44, 45]) (rs := [.tmp 2, .tmp 3]) Tryz.func7 rfl (by kernel_rfl) rfl Tryz.ntmps7 rfl rfl (Nat.le_refl _) fun hst ha hf => ?_
 simp only [encU]
 simp only [gw0, reduceEqDiff, ↓reduceIte, reduceAdd, reduceLT, reduceLeDiff, reduceMul]
 refine (c_object_Wrong ⟨nm, ps⟩ st).use (wkL_refl _) fun _ => ?_
 simp only [gw0, reduceEqDiff, ↓reduceIte, reduceAdd, reduceLT, reduceLeDiff, reduceMul]
 refine iK_split (fun h => ?_) (fun h => ?_)
 ·have h1 : decide (unitE ⟨nm, ps⟩ = 0) = false := not_yes h
  simp only [gw0, reduceEqDiff, ↓reduceIte, reduceAdd, reduceLT, reduceLeDiff, reduceMul]
  simp only [bytesW, h1, cond_false, bytesR, lstY, byteRows, List.map_nil]
  have hg : Gives (.tup [.lst 1 none [], .int .i64 (unitE ⟨nm, ps⟩)]) st (.ret (.tup [.nils, .int .i64 (unitE ⟨nm, ps⟩)])) (st ++ []) :=
   gives_of (wk_tup (wkL_cons (wk_nils _) (wkL_cons (wk_refl _) wkL_nil))) (wkSt_refl _) (by simp [V.lt, ltL, ltRows]) hst
  rw [List.append_nil] at hg
  exact hg
 have h1 : decide (unitE ⟨nm, ps⟩ = 0) = true := not_no h
 have hu := unit_ok (of_decide_eq_true h1)
 have hr := unit_right (of_decide_eq_true h1)
 have hnm := plain_len hu.plain
 have hps : ∀ p ∈ ps, p.code.length ≤ 6000 ∧ ∀ x ∈ p.code, InsR x := fun p hp => ⟨(hu.form p hp).2.1, hr p hp⟩
 have hpl := hu.few.2
 have hpP := protosP_len ps hps
 have hn1 := numB_len nm.length
 have hn2 := numB_len ps.length
 simp only at hnm hpl hpP
 have hI : ∀ (x : Str) (ex : St), IsB (st ++ (.box [.addr st.length 67 2, .arr (st.length + 1) x.length] :: .arr 5 1 (bytesV x) :: ex)) st.length (st.length + 1) 67 2 x [] := fun x ex =>
  ⟨by simp, at_app _ _ 1 (by simp), liesW _ _ rfl rfl⟩
 simp only [gw0, reduceEqDiff, ↓reduceIte, reduceAdd, reduceLT, reduceLeDiff, reduceMul]
 refine VCalls.nilB st.length 1 [.addr st.length 67 2, .nils] 5 (by simp) rfl ?_
 simp only [List.append_assoc, List.cons_append, List.nil_append, List.length_append, List.length_cons, List.length_nil, Nat.reduceAdd, List.set_cons_succ, List.set_cons_zero]
 rw [List.set_append_right _ _ (Nat.le_refl _)]
 simp only [Nat.sub_self, List.set_cons_zero]
 have hT5 : (TT 5).size = 1 := rfl
 rw [hT5]
 refine (c_wstr (hI [] []) nm (by omega) (by simp)).use (wkL_refl _) fun _ => ?_
 simp only [lstPr]
 simp only [gw0, reduceEqDiff, ↓reduceIte, reduceAdd, reduceLT, reduceLeDiff, reduceMul, bput, List.nil_append, List.length_map]
 refine (c_wnum (hI (strB nm) []) ps.length (by omega) (by omega) (by simp [strB]; omega)).use (wkL_refl _) fun _ => ?_
 simp only [gw0, reduceEqDiff, ↓reduceIte, reduceAdd, reduceLT, reduceLeDiff, reduceMul, bput, List.length_map]
 have hW0 : ∀ x : Str, x = strB nm ++ numB ps.length → x.length ≤ 80 := fun x e => by rw [e]; simp [strB]; omega
 generalize hw0 : strB nm ++ numB ps.length = w0
 have hw0l := hW0 w0 hw0.symm
 refine vforD (σ := Nat) [0, 1, 2, 3, 4, 5, 27, 28, 29] (fun i => [(0, true, .agg (encU ⟨nm, ps⟩)), (1, true, .ref (encU ⟨nm, ps⟩)), (2, true, .nils), (3, true, .int .i64 0), (4, true, .int .i64 (unitE ⟨nm, ps⟩)), (5, true, .ptr st.length 0), (27, true, lstPr ps), (28, true, .int .i64 ps.length), (29, true, .int .i64 i)]) (fun i => st ++ [.box [.addr st.length 67 2, .arr (st.length + 1) (w0 ++ protosP (ps.take i)).length], .arr 5 1 (bytesV (w0 ++ protosP (ps.take i)))]) (fun i => ps.length - i) (fun i => i ≤ ps.length ∧ (protosW ps).2 = (protosW (ps.drop i)).2) 0 rfl TT_ok ⟨Nat.zero_le _, rfl⟩ (by simp only [encU, lstPr]; exact wkE_refl _) (by simp [protosP]) ?_
 rintro i ⟨hi, he⟩
 simp only [encU, lstPr]
 have hle : (protosP (ps.take i)).length ≤ (protosP ps).length := by
  have e := List.take_append_drop i ps
  conv => rhs; rw [← e]
  simp only [protosP, List.flatMap_append, List.length_append]
  omega
 rcases at_or_end ps i hi with ⟨rfl, hdd⟩ | ⟨a, hlt2, hget, hdr⟩
 ·have hz : (protosW ps).2 = 0 := by rw [he, hdd]; rfl
  have hzp := (protosW_ok hz).1
  have huw : unitW ⟨nm, ps⟩ = w0 ++ protosP ps := by rw [unitW, hzp, hw0]
  simp only [gw0, reduceEqDiff, ↓reduceIte, reduceAdd, reduceLT, reduceLeDiff, reduceMul, lt_no]
  rw [List.take_length]
  refine (c_Len (hI _ [])).use (wkL_refl _) fun _ => ?_
  simp only [gw0, reduceEqDiff, ↓reduceIte, reduceAdd, reduceLT, reduceLeDiff, reduceMul]
  refine iK_split (fun h2 => ?_) (fun h2 => ?_)
  ·have h3 : decide (60000 < (unitW ⟨nm, ps⟩).length) = true := by rw [huw, decide_eq_true_eq]; rw [decide_eq_true_eq] at h2; omega
   simp only [gw0, reduceEqDiff, ↓reduceIte, reduceAdd, reduceLT, reduceLeDiff, reduceMul]
   simp only [bytesW, h1, hz, h3, decide_true, cond_true, bytesR, lstY, byteRows, List.map_nil]
   exact gives_of (wk_tup (wkL_cons (wk_nils _) (wkL_cons (wk_refl _) wkL_nil))) (wkSt_refl _) (by simp [V.lt, ltL, ltRows]) hst
  ·have h3 : decide (60000 < (unitW ⟨nm, ps⟩).length) = false := by rw [huw, decide_eq_false_iff_not]; rw [decide_eq_false_iff_not] at h2; omega
   simp only [gw0, reduceEqDiff, ↓reduceIte, reduceAdd, reduceLT, reduceLeDiff, reduceMul]
   refine (c_String (hI _ [])).use (wkL_refl _) fun _ => ?_
   simp only [gw0, reduceEqDiff, ↓reduceIte, reduceAdd, reduceLT, reduceLeDiff, reduceMul, convV]
   have h3' := h3
   rw [huw] at h3'
   simp only [bytesW, h1, hz, huw, h3', decide_true, cond_true, cond_false, bytesR, lstY]
   refine gives_of (wk_refl _) (wkSt_refl _) ?_ hst
   simp only [V.lt, ltL]
   exact ⟨⟨fun e h => (by cases h), byteRows_lt _ _⟩, trivial, trivial⟩
 ·obtain ⟨pa, pc⟩ := a
  have hm := List.mem_of_getElem? hget
  have hpa := hu.form _ hm
  have hpr := hps _ hm
  simp only at hpa hpr
  have hna := numB_len pa
  have hnc := numB_len pc.length
  have hcl := codeP_len pc hpr.2
  have hle2 : (protosP ps).length ≤ 20000000000 := by omega
  simp only [gw0, reduceEqDiff, ↓reduceIte, reduceAdd, reduceLT, reduceLeDiff, reduceMul, lt_yes hlt2, hdr, List.length_map, getD_map hget, Int.ofNat_lt.mpr hlt2, encPr, lstI]
  refine (c_wnum (hI _ [_]) pa (by omega) (by omega) (by simp; omega)).use (wkL_refl _) fun _ => ?_
  simp only [gw0, reduceEqDiff, ↓reduceIte, reduceAdd, reduceLT, reduceLeDiff, reduceMul, bput, List.length_map]
  refine (c_wnum (hI _ [_]) pc.length (by omega) (by omega) (by simp; omega)).use (wkL_refl _) fun _ => ?_
  simp only [gw0, reduceEqDiff, ↓reduceIte, reduceAdd, reduceLT, reduceLeDiff, reduceMul, bput, List.length_map]
  have hB : ∀ x : Str, x = w0 ++ protosP (ps.take i) ++ numB pa ++ numB pc.length → x.length ≤ 30000000000 ∧ x = w0 ++ protosP (ps.take i) ++ headW ⟨pa, pc⟩ := fun x e => by
   rw [e]; simp [headW]; omega
  generalize hb0 : w0 ++ protosP (ps.take i) ++ numB pa ++ numB pc.length = b0
  obtain ⟨hb0l, hb0e⟩ := hB b0 hb0.symm
  refine vforD (σ := Nat) [0, 1, 2, 3, 4, 5, 7, 27, 28, 29, 44, 45] (fun j => [(0, true, .agg (encU ⟨nm, ps⟩)), (1, true, .ref (encU ⟨nm, ps⟩)), (2, true, .nils), (3, true, .int .i64 0), (4, true, .int .i64 (unitE ⟨nm, ps⟩)), (5, true, .ptr st.length 0), (7, true, .ptr (st.length + 2) 0), (27, true, lstPr ps), (28, true, .int .i64 ps.length), (29, true, .int .i64 i), (44, true, .int .i64 pc.length), (45, true, .int .i64 j)]) (fun j => st ++ [.box [.addr st.length 67 2, .arr (st.length + 1) (b0 ++ codeP (pc.take j)).length], .arr 5 1 (bytesV (b0 ++ codeP (pc.take j))), .box [.int .i64 pa, .lst 11 none (pc.map encI)]]) (fun j => pc.length - j) (fun j => j ≤ pc.length ∧ (codeW pc).2 = (codeW (pc.drop j)).2) 0 rfl TT_ok ⟨Nat.zero_le _, rfl⟩ (by simp only [encU, lstPr]; exact wkE_refl _) (by simp [codeP]) ?_
  rintro j ⟨hj, hje⟩
  simp only [encU, lstPr]
  have hlej : (codeP (pc.take j)).length ≤ (codeP pc).length := by
   have e := List.take_append_drop j pc
   conv => rhs; rw [← e]
   simp only [codeP, List.flatMap_append, List.length_append]
   omega
  rcases at_or_end pc j hj with ⟨rfl, hjd⟩ | ⟨x, hlt3, hget3, hdr3⟩
  ·have hcz : (codeW pc).2 = 0 := by rw [hje, hjd]; rfl
   have hne : (protosW ps).2 = (protosW (ps.drop (i + 1))).2 := by rw [he, hdr]; exact protosW_good hcz
   simp only [gw0, reduceEqDiff, ↓reduceIte, reduceAdd, reduceLT, reduceLeDiff, reduceMul, lt_no]
   rw [List.take_length]
   have hbx : b0 ++ codeP pc = w0 ++ protosP (ps.take (i + 1)) := by rw [take_protosP hget, hb0e]; simp
   rw [hbx, tail2]
   refine ⟨i + 1, ⟨?_, _, _, rfl, wkSt_refl _, ?_, ?_, by simp⟩, by omega, hlt2, hne⟩
   ·simp only [gw0, reduceEqDiff, ↓reduceIte, reduceAdd, reduceLT, reduceLeDiff, reduceMul, Env.keep, next_i64 hlt2 (by omega)]
    exact wkE_refl _
   ·simp only [ltE, V.lt, List.length_append, List.length_cons, List.length_nil]
    have hl := lstPr_lt (st.length + (0 + 1 + 1)) ps
    simp only [lstPr, V.lt] at hl
    exact ⟨⟨trivial, hl, trivial⟩, ⟨trivial, hl, trivial⟩, trivial, trivial, trivial, by omega, hl, trivial, trivial, trivial⟩
   ·exact ok_app hst ⟨⟨by simp only [V.lt, List.length_cons, List.length_nil]; omega, by simp only [V.lt, List.length_cons, List.length_nil]; omega, trivial⟩, bytesV_lt _ _, trivial⟩
  ·have hxr := hpr.2 x (List.mem_of_getElem? hget3)
   simp only [gw0, reduceEqDiff, ↓reduceIte, reduceAdd, reduceLT, reduceLeDiff, reduceMul, lt_yes hlt3, hdr3, List.length_map, getD_map hget3, Int.ofNat_lt.mpr hlt3]
   refine (c_wins (hI _ [_]) x hxr (by simp; omega)).use (wkL_refl _) fun _ => ?_
   simp only [gw0, reduceEqDiff, ↓reduceIte, reduceAdd, reduceLT, reduceLeDiff, reduceMul, bput]
   refine iK_split (fun h4 => ?_) (fun h4 => ?_)
   ·have h5 : decide ((insW x).2 = 0) = false := not_yes h4
    have h6 : (insW x).2 ≠ 0 := of_decide_eq_false h5
    have h7 : (codeW pc).2 = (insW x).2 := codeW_bad (by rw [hje, hdr3]) h6
    have h8 : (protosW ps).2 = (insW x).2 := by rw [← h7]; exact protosW_bad (p := ⟨pa, pc⟩) (by rw [he, hdr]) (by rw [h7]; exact h6)
    simp only [gw0, reduceEqDiff, ↓reduceIte, reduceAdd, reduceLT, reduceLeDiff, reduceMul]
    simp only [bytesW, h1, h8, h5, cond_true, cond_false, bytesR, lstY, byteRows, List.map_nil]
    exact gives_of (wk_tup (wkL_cons (wk_nils _) (wkL_cons (wk_refl _) wkL_nil))) (wkSt_refl _) (by simp [V.lt, ltL, ltRows]) hst
   ·have h5 : decide ((insW x).2 = 0) = true := not_no h4
    have hne : (codeW pc).2 = (codeW (pc.drop (j + 1))).2 := by rw [hje, hdr3]; exact codeW_good (of_decide_eq_true h5)
    simp only [gw0, reduceEqDiff, ↓reduceIte, reduceAdd, reduceLT, reduceLeDiff, reduceMul]
    rw [List.append_assoc, ← take_codeP hget3]
    refine ⟨j + 1, ⟨?_, _, [], (List.append_nil _).symm, wkSt_refl _, ?_, ?_, by simp⟩, by omega, hlt3, hne⟩
    ·simp only [gw0, reduceEqDiff, ↓reduceIte, reduceAdd, reduceLT, reduceLeDiff, reduceMul, Env.keep, next_i64 hlt3 (by omega)]
     exact wkE_refl _
    ·simp only [ltE, V.lt, List.length_append, List.length_cons, List.length_nil]
     have hl := lstPr_lt (st.length + (0 + 1 + 1 + 1)) ps
     simp only [lstPr, V.lt] at hl
     exact ⟨⟨trivial, hl, trivial⟩, ⟨trivial, hl, trivial⟩, trivial, trivial, trivial, by omega, by omega, hl, trivial, trivial, trivial, trivial, trivial⟩
    ·have hl := lstI_lt (st.length + 3) pc
     exact ok_app hst ⟨⟨by simp only [V.lt, List.length_cons, List.length_nil]; omega, by simp only [V.lt, List.length_cons, List.length_nil]; omega, trivial⟩, bytesV_lt _ _, ⟨trivial, hl, trivial⟩, trivial⟩
theorem i64_of {n : Nat} (h : n < 9223372036854775808) : IntKind.i64.wrap (n : Int) = n := wrap_i64 (by omega) (by omega)
theorem low7 (c : UInt8) : bitsV .and .u8 (c.toNat : Int) 127 = ((c.toNat % 128 : Nat) : Int) :=
 of_decide_eq_true (all_bytes (p := fun c => decide (bitsV .and .u8 (c.toNat : Int) 127 = ((c.toNat % 128 : Nat) : Int))) (by decide +kernel) c)
theorem pow7 (i : Nat) : 2 ^ (7 * i) = 128 ^ i := by rw [Nat.pow_mul]
theorem acc_step {i u m : Nat} (hi : i ≤ 9) (hu : u < 128 ^ i) (hm : m < 128) (h9 : i = 9 → m ≤ 1) :
  bitsV .or .u64 (u : Int) (IntKind.u64.wrap (IntKind.u64.wrap (m : Int) * 2 ^ (min (7 * i) IntKind.u64.bits))) = ((u + m * 128 ^ i : Nat) : Int) := by
 have e1 : min (7 * i) IntKind.u64.bits = 7 * i := Nat.min_eq_left (by show 7 * i ≤ 64; omega)
 have hp : (128 : Nat) ^ i ≤ 128 ^ 9 := Nat.pow_le_pow_right (by decide) hi
 have hp9 : (128 : Nat) ^ 9 = 9223372036854775808 := by decide
 have hmi : m * 128 ^ i < 18446744073709551616 := by
  by_cases h : i = 9
  ·have := h9 h
   subst h
   rw [hp9]; omega
  ·have : (128 : Nat) ^ i ≤ 128 ^ 8 := Nat.pow_le_pow_right (by decide) (by omega)
   have h8 : (128 : Nat) ^ 8 = 72057594037927936 := by decide
   have : m * 128 ^ i ≤ 127 * 128 ^ 8 := Nat.mul_le_mul (by omega) this
   omega
 rw [e1, u64_nat (by omega)]
 have e2 : (m : Int) * 2 ^ (7 * i) = ((m * 128 ^ i : Nat) : Int) := by
  rw [Int.natCast_mul, ← pow7]; simp
 rw [e2, u64_nat hmi, or_u64 (by omega) hmi]
 congr 1
 have h := Nat.two_pow_add_eq_or_of_lt (i := 7 * i) (b := u) (by rw [pow7]; exact hu) m
 rw [pow7] at h
 rw [Nat.mul_comm m, Nat.add_comm, h, Nat.or_comm]
theorem xor_i64 (a b : Int) : bitsV .xor .i64 a b = IntKind.i64.wrap (((BitVec.ofInt 64 a).toNat ^^^ (BitVec.ofInt 64 b).toNat : Nat) : Int) := by
 show IntKind.i64.wrap (((BitVec.ofInt 64 a ^^^ BitVec.ofInt 64 b).toNat : Nat) : Int) = _
 rw [BitVec.toNat_xor]
theorem unzz_eq {u : Nat} (h : u < 18446744073709551616) :
  bitsV .xor .i64 (IntKind.i64.wrap ((u : Int).fdiv (2 ^ (min (Int.toNat 1) IntKind.u64.bits)))) (IntKind.i64.wrap (0 - IntKind.i64.wrap (bitsV .and .u64 (u : Int) 1))) = unzz u := by
 have e1 : min (Int.toNat 1) IntKind.u64.bits = 1 := by decide
 have e2 : (u : Int).fdiv (2 ^ 1) = ((u / 2 : Nat) : Int) := by
  rw [Int.fdiv_eq_ediv_of_nonneg _ (by decide)]; simp only [Int.reducePow]; omega
 have e3 : bitsV .and .u64 (u : Int) 1 = ((u % 2 : Nat) : Int) := by
  have := and_u64 (a := u) (b := 1) h (by decide)
  rw [Nat.and_one_is_mod] at this
  exact this
 rw [e1, e2, e3, i64_of (by omega), i64_of (by omega), xor_i64, ofInt_nat _ (by omega)]
 unfold unzz
 by_cases hodd : u % 2 = 1
 ·rw [if_pos hodd, hodd]
  have e4 : IntKind.i64.wrap (0 - ((1 : Nat) : Int)) = -1 := by decide
  have e5 : (BitVec.ofInt 64 (-1)).toNat = 18446744073709551615 := by decide
  rw [e4, e5]
  have e6 : (u / 2) ^^^ 18446744073709551615 = 18446744073709551615 - u / 2 := by
   have := BitVec.toNat_not (x := BitVec.ofNat 64 (u / 2))
   rw [BitVec.not_def, BitVec.toNat_xor, BitVec.toNat_ofNat, Nat.mod_eq_of_lt (by omega)] at this
   simp only [BitVec.toNat_allOnes] at this
   rw [Nat.xor_comm] at this
   simp only [Nat.reducePow, Nat.reduceSub] at this
   exact this
  rw [e6]
  have e7 : ∀ n : Int, IntKind.i64.wrap n = if 9223372036854775808 ≤ n % 18446744073709551616 then n % 18446744073709551616 - 18446744073709551616 else n % 18446744073709551616 := fun n => by
   unfold IntKind.wrap
   simp [IntKind.bits, IntKind.signed]
  rw [e7]
  split <;> omega
 ·have h0 : u % 2 = 0 := by omega
  rw [if_neg hodd, h0]
  have e4 : IntKind.i64.wrap (0 - ((0 : Nat) : Int)) = 0 := by decide
  have e5 : (BitVec.ofInt 64 0).toNat = 0 := by decide
  rw [e4, e5, Nat.xor_zero, i64_of (by omega)]
/-- The reader, as it lies. -/
def rdrE (s : RS) : Ent := .box [.str s.1, .bool s.2]
theorem rdr_ok {st : St} {b : Nat} (s : RS) (h : St.ok st) : St.ok (st.set b (rdrE s)) := by
 intro e he
 rw [List.length_set]
 rcases List.mem_or_eq_of_mem_set he with h' | rfl
 ·exact h e h'
 ·simp [rdrE, Ent.lt, ltL, V.lt]
def Low (i u : Nat) : Prop := u < 128 ^ i
theorem low_step {i u m : Nat} (h : Low i u) (hm : m < 128) : Low (i + 1) (u + m * 128 ^ i) := by
 unfold Low at h ⊢
 rw [Nat.pow_succ]
 have : m * 128 ^ i ≤ 127 * 128 ^ i := Nat.mul_le_mul_right _ (by omega)
 omega
theorem low_last {i u m : Nat} (hi : i ≤ 9) (h : Low i u) (hm : m < 128) (h9 : i = 9 → m ≤ 1) : u + m * 128 ^ i < 18446744073709551616 := by
 unfold Low at h
 have hp9 : (128 : Nat) ^ 9 = 9223372036854775808 := by decide
 by_cases e : i = 9
 ·have := h9 e
  subst e
  rw [hp9] at h ⊢; omega
 ·have : (128 : Nat) ^ i ≤ 128 ^ 8 := Nat.pow_le_pow_right (by decide) (by omega)
  have h8 : (128 : Nat) ^ 8 = 72057594037927936 := by decide
  have : m * 128 ^ i ≤ 127 * 128 ^ 8 := Nat.mul_le_mul (by omega) this
  omega
theorem c_rnum (s : RS) (st : St) (b : Nat) (hb : st[b]? = some (rdrE s)) :
  VCalls Tryz.prog TT 33 [.ptr b 0] st fun q st' => q = .ret (.int .i64 (rNum s).1) ∧ st' = st.set b (rdrE (rNum s).2) := by
 obtain ⟨s0, v⟩ := s
 refine vfun TT_ok (an := anL []) (L := [0, 2, 3, 4, 5]) (rs := [.tmp 2]) Tryz.func33 rfl (by kernel_rfl) rfl Tryz.ntmps33 rfl rfl (Nat.le_of_eq (List.length_set ..).symm) fun hst ha hf => ?_
 have hlt : b < st.length := (List.getElem?_eq_some_iff.1 hb).1
 have hset : ∀ e, (st.set b e)[b]? = some e := fun e => List.getElem?_set_self hlt
 simp only [rdrE] at hb ⊢
 simp only [gw0, reduceEqDiff, ↓reduceIte, reduceAdd, reduceLT, reduceLeDiff, reduceMul]
 refine vforD (σ := Nat × Nat × Nat × Str) [0, 2, 3, 4] (fun x => [(0, true, .ptr b 0), (2, true, .int .i64 0), (3, true, .int .u64 x.2.2.1), (4, true, .int .i64 ((7 * x.2.1 : Nat) : Int))]) (fun x => st.set b (.box [.str x.2.2.2, .bool v])) (fun x => x.1) (fun x => x.1 + x.2.1 = 10 ∧ Low x.2.1 x.2.2.1 ∧ rdV x.1 x.2.1 x.2.2.1 x.2.2.2 = numR s0) (10, 0, 0, s0) rfl TT_ok ⟨rfl, Nat.one_pos, rfl⟩ (wkE_refl _) ((set_self hb).symm) ?_
 rintro ⟨f, i, u, x⟩ ⟨hfi, hlow, hI⟩
 simp only at hfi hlow hI ⊢
 have hnum : ∀ y : Int × Str × Bool, numR s0 = y → (rNum (s0, v)).1 = y.1 ∧ (rNum (s0, v)).2.1 = y.2.1 ∧ (rNum (s0, v)).2.2 = (v || y.2.2) := fun y e => by
  subst e; exact ⟨rfl, rfl, rfl⟩
 have hok : ∀ (x : Str) (w : Bool), St.ok (st.set b (.box [.str x, .bool w])) := fun x w => rdr_ok (x, w) hst
 cases f with
 | zero =>
  obtain rfl : i = 10 := by omega
  have hd := hnum (0, x, true) (by rw [← hI]; rfl)
  simp only at hd
  simp only [gw0, reduceEqDiff, ↓reduceIte, reduceAdd, reduceLT, reduceLeDiff, reduceMul, hset, List.set_set, show decide ((63 : Int) < ((70 : Nat) : Int)) = true from rfl, Bool.or_true]
  rw [hd.1, hd.2.1, hd.2.2, Bool.or_true]
  exact gives_int rfl (hok _ _)
 | succ f =>
  have hk : decide ((63 : Int) < ((7 * i : Nat) : Int)) = false := by simp; omega
  cases x with
  | nil =>
   have hd := hnum (0, [], true) (by rw [← hI]; rfl)
   simp only at hd
   simp only [gw0, reduceEqDiff, ↓reduceIte, reduceAdd, reduceLT, reduceLeDiff, reduceMul, hset, List.set_set, List.length_nil, hk, show decide (((0 : Nat) : Int) = 0) = true from rfl]
   rw [hd.1, hd.2.1, hd.2.2, Bool.or_true]
   exact gives_int rfl (hok _ _)
  | cons c r =>
   have hl0 : decide (((r.length + 1 : Nat) : Int) = 0) = false := by simp; omega
   have ea : decide ((0 : Int) < ((7 * i : Nat) : Int)) = decide (0 < i) := by by_cases h : 0 < i <;> simp [h] <;> omega
   have eb : decide ((c.toNat : Int) = 0) = decide (c.toNat = 0) := by by_cases h : c.toNat = 0 <;> simp [h] <;> omega
   have ec : decide (((7 * i : Nat) : Int) = 63) = decide (i = 9) := by by_cases h : i = 9 <;> simp [h] <;> omega
   have ed : decide ((1 : Int) < (c.toNat : Int)) = decide (1 < c.toNat) := by by_cases h : 1 < c.toNat <;> simp [h] <;> omega
   have ee : decide ((c.toNat : Int) < 128) = decide (c.toNat < 128) := by by_cases h : c.toNat < 128 <;> simp [h] <;> omega
   simp only [gw0, reduceEqDiff, ↓reduceIte, reduceAdd, reduceLT, reduceLeDiff, reduceMul, hset, List.set_set, List.length_cons, hk, hl0, List.getD_cons_zero, show Int.toNat 0 = 0 from rfl, show Int.toNat 1 = 1 from rfl, List.drop_succ_cons, List.drop_zero, ea, eb, ec, ed]
   have hrd : numR s0 = bif (decide (0 < i) && decide (c.toNat = 0)) || (decide (i = 9) && decide (1 < c.toNat)) then (0, r, true)
     else bif decide (c.toNat < 128) then (unzz (u + c.toNat % 128 * 128 ^ i), r, false) else rdV f (i + 1) (u + c.toNat % 128 * 128 ^ i) r := by rw [← hI]; rfl
   refine ⟨⟨by omega, by omega⟩, ⟨by omega, by omega⟩, fun h1 _ => ⟨h1, fun h2 => by rw [h1, h2]; rfl⟩, iK_split (fun h => ?_) (fun h => ?_)⟩
   ·rw [h, cond_true] at hrd
    have hd := hnum _ hrd
    simp only at hd
    simp only [gw0, reduceEqDiff, ↓reduceIte, reduceAdd, reduceLT, reduceLeDiff, reduceMul, hset, List.set_set]
    rw [hd.1, hd.2.1, hd.2.2, Bool.or_true]
    exact gives_int rfl (hok _ _)
   ·rw [h, cond_false] at hrd
    have h9 : i = 9 → c.toNat % 128 ≤ 1 := by
     intro e
     simp only [Bool.or_eq_false_iff, Bool.and_eq_false_iff, decide_eq_false_iff_not] at h
     omega
    have hi9 : i ≤ 9 := by omega
    have hm : c.toNat % 128 < 128 := Nat.mod_lt _ (by decide)
    have hlast := low_last hi9 hlow hm h9
    simp only [gw0, reduceEqDiff, ↓reduceIte, reduceAdd, reduceLT, reduceLeDiff, reduceMul, gwD3, gwDT, pureR_none, ite_self, nilR, nilB, bitF, bitV, nilC, nilCmp, eqb, assertV, assertW, zeroV, wQ_normal, wQ_ret, wQ_panic, pickO, pickC, List.map_cons, List.map_nil, List.getD_cons_zero, List.getD_cons_succ, Env.keep, beq_self_eq_true, cond_true, cond_false, convV, low7, acc_step hi9 hlow hm h9, ee]
    refine ⟨fun h2 => ?_, fun h2 => ?_⟩
    ·rw [h2, cond_true] at hrd
     have hd := hnum _ hrd
     simp only at hd
     simp only [gw0, reduceEqDiff, ↓reduceIte, reduceAdd, reduceLT, reduceLeDiff, reduceMul, gwD3, gwDT, pureR_none, ite_self, nilR, nilB, bitF, bitV, nilC, nilCmp, eqb, assertV, assertW, zeroV, wQ_normal, wQ_ret, wQ_panic, pickO, pickC, List.map_cons, List.map_nil, List.getD_cons_zero, List.getD_cons_succ, Env.keep, beq_self_eq_true, cond_true, cond_false, convV, unzz_eq hlast]
     rw [hd.1, hd.2.1, hd.2.2, Bool.or_false]
     exact ⟨by omega, gives_int rfl (hok _ _)⟩
    ·rw [h2, cond_false] at hrd
     simp only [gw0, reduceEqDiff, ↓reduceIte, reduceAdd, reduceLT, reduceLeDiff, reduceMul]
     refine ⟨(f, i + 1, u + c.toNat % 128 * 128 ^ i, r), ⟨?_, _, [], (List.append_nil _).symm, wkSt_refl _, ?_, hok _ _, by simp only [List.length_set]; exact Nat.le_refl _⟩, by simp only; omega, by simp only; omega, low_step hlow hm, by simp only; exact hrd.symm⟩
     ·have e7 : IntKind.i64.wrap (((7 * i : Nat) : Int) + 7) = ((7 * (i + 1) : Nat) : Int) := by rw [wrap_i64 (by omega) (by omega)]; omega
      simp only [gw0, reduceEqDiff, ↓reduceIte, reduceAdd, reduceLT, reduceLeDiff, reduceMul, Env.keep, e7]
      exact wkE_refl _
     ·simp only [ltE, V.lt, List.length_set]
      exact ⟨hlt, trivial, trivial, trivial, trivial⟩
theorem c_rfew (s : RS) (st : St) (b : Nat) (hb : st[b]? = some (rdrE s)) :
  VCalls Tryz.prog TT 32 [.ptr b 0] st fun q st' => q = .ret (.int .i64 ((rFew s).1 : Nat)) ∧ st' = st.set b (rdrE (rFew s).2) := by
 refine vfun TT_ok (an := anL []) (L := [0, 2, 3]) (rs := [.tmp 2]) Tryz.func32 rfl (by kernel_rfl) rfl Tryz.ntmps32 rfl rfl (Nat.le_of_eq (List.length_set ..).symm) fun hst ha hf => ?_
 have hlt : b < st.length := (List.getElem?_eq_some_iff.1 hb).1
 have hset : ∀ e, (st.set b e)[b]? = some e := fun e => List.getElem?_set_self hlt
 have hok : ∀ x : RS, St.ok (st.set b (rdrE x)) := fun x => rdr_ok x hst
 simp only [gw0, reduceEqDiff, ↓reduceIte, reduceAdd, reduceLT, reduceLeDiff, reduceMul]
 refine (c_rnum s st b hb).use (wkL_refl _) fun _ => ?_
 unfold rFew
 generalize hx : rNum s = x
 obtain ⟨n, r, v⟩ := x
 simp only [rdrE]
 simp only [gw0, reduceEqDiff, ↓reduceIte, reduceAdd, reduceLT, reduceLeDiff, reduceMul, hset, List.set_set]
 refine iK_split (fun h => ?_) (fun h => ?_)
 ·simp only [gw0, reduceEqDiff, ↓reduceIte, reduceAdd, reduceLT, reduceLeDiff, reduceMul, hset, List.set_set]
  simp only [h, cond_true]
  exact gives_int rfl (hok (r, true))
 ·simp only [gw0, reduceEqDiff, ↓reduceIte, reduceAdd, reduceLT, reduceLeDiff, reduceMul]
  simp only [h, cond_false]
  simp only [Bool.or_eq_false_iff, decide_eq_false_iff_not] at h
  exact gives_int (by omega) (hok (r, v))
theorem c_rstr (s : RS) (st : St) (b : Nat) (hb : st[b]? = some (rdrE s)) :
  VCalls Tryz.prog TT 31 [.ptr b 0] st fun q st' => q = .ret (.str (rStr s).1) ∧ st' = st.set b (rdrE (rStr s).2) := by
 refine vfun TT_ok (an := anL []) (L := [0, 2, 3, 4]) (rs := [.tmp 2]) Tryz.func31 rfl (by kernel_rfl) rfl Tryz.ntmps31 rfl rfl (Nat.le_of_eq (List.length_set ..).symm) fun hst ha hf => ?_
 have hlt : b < st.length := (List.getElem?_eq_some_iff.1 hb).1
 have hset : ∀ e, (st.set b e)[b]? = some e := fun e => List.getElem?_set_self hlt
 have hok : ∀ x : RS, St.ok (st.set b (rdrE x)) := fun x => rdr_ok x hst
 simp only [gw0, reduceEqDiff, ↓reduceIte, reduceAdd, reduceLT, reduceLeDiff, reduceMul]
 refine (c_rfew s st b hb).use (wkL_refl _) fun _ => ?_
 have hle := (rFew_le s).2
 unfold rStr
 generalize hx : rFew s = x at hle ⊢
 obtain ⟨n, r, v⟩ := x
 simp only [rdrE] at hle ⊢
 simp only [gw0, reduceEqDiff, ↓reduceIte, reduceAdd, reduceLT, reduceLeDiff, reduceMul, hset, List.set_set, Int.toNat_natCast]
 exact ⟨by omega, by omega, gives_str rfl (hok (r.drop n, v))⟩
theorem at_left {st ex : St} {b : Nat} {e : Ent} (h : st[b]? = some e) : (st ++ ex)[b]? = some e := by
 rw [List.getElem?_append_left (List.getElem?_eq_some_iff.1 h).1]; exact h
theorem at_setl {st ex : St} {b : Nat} {e : Ent} (h : b < st.length) : (st.set b e ++ ex)[b]? = some e := by
 rw [List.getElem?_append_left (by rw [List.length_set]; exact h)]; exact List.getElem?_set_self h
theorem set_setl {st ex : St} {b : Nat} {e e' : Ent} (h : b < st.length) : (st.set b e ++ ex).set b e' = st.set b e' ++ ex := by
 rw [List.set_append_left _ _ (by rw [List.length_set]; exact h), List.set_set]
theorem set_left {st ex : St} {b : Nat} {e : Ent} (h : b < st.length) : (st ++ ex).set b e = st.set b e ++ ex := List.set_append_left _ _ h
theorem c_rquote (s : RS) (st : St) (b : Nat) (hb : st[b]? = some (rdrE s)) :
  VCalls Tryz.prog TT 58 [.ptr b 0] st fun q st' => q = .ret (.agg (encD (rQuote s).1)) ∧ st' = st.set b (rdrE (rQuote s).2) := by
 refine vfun TT_ok (an := anL []) (L := [0, 2, 3, 4, 5, 6, 7]) (rs := [.cell 2 49]) Tryz.func58 rfl (by kernel_rfl) rfl Tryz.ntmps58 rfl rfl (Nat.le_of_eq (List.length_set ..).symm) fun hst ha hf => ?_
 have hlt : b < st.length := (List.getElem?_eq_some_iff.1 hb).1
 have hok : ∀ x : RS, St.ok (st.set b (rdrE x)) := fun x => rdr_ok x hst
 simp only [gw0, reduceEqDiff, ↓reduceIte, reduceAdd, reduceLT, reduceLeDiff, reduceMul]
 refine (c_rstr s _ b (at_left hb)).use (wkL_refl _) fun _ => ?_
 unfold rQuote
 generalize hx : rStr s = x
 obtain ⟨t, r, v⟩ := x
 simp only [set_left hlt]
 simp only [gw0, reduceEqDiff, ↓reduceIte, reduceAdd, reduceLT, reduceLeDiff, reduceMul, at_setl hlt, set_setl hlt, List.length_set]
 refine (c_Read t _).use (wkL_refl _) fun _ => ?_
 have fin : ∀ (X : List V) (Y : Datum) (z : RS) (ex : List Ent), wkL X (encD Y) → Gives (.agg (encD Y)) (st.set b (rdrE z)) (.ret (.agg X)) (st.set b (rdrE z) ++ ex) := fun X Y z ex hw =>
  gives_of (wk_agg hw) (wkSt_refl _) (by simp only [V.lt]; exact encD_lt _ _) (hok z)
 cases hr : readR t with
 | inl f =>
  have hf := read_bad hr
  have hf1 : decide (f.1 = 0) = false := by simpa using hf
  have hq : quoteOk t = none := by unfold quoteOk; rw [hr]
  rw [hq]
  simp only [readV, fltV]
  simp only [gw0, reduceEqDiff, ↓reduceIte, reduceAdd, reduceLT, reduceLeDiff, reduceMul, List.length_set, at_k, at_k0, set_k, set_k0]
  refine (c_Print _ []).use (wkL_refl _) fun _ => ?_
  simp only [printV, fltV, lstD]
  simp only [gw0, reduceEqDiff, ↓reduceIte, reduceAdd, reduceLT, reduceLeDiff, reduceMul, List.length_set, at_k, at_k0, set_k, set_k0, hf1, Bool.not_false, Bool.true_or, set_setl hlt, at_setl hlt, rdrE]
  exact fin _ zeroQ (r, true) _ (by simp only [zeroQ, encD_mk]; exact wk6 _ _ _ _ _)
 | inr l =>
  simp only [readV, fltV]
  simp only [gw0, reduceEqDiff, ↓reduceIte, reduceAdd, reduceLT, reduceLeDiff, reduceMul, List.length_set, at_k, at_k0, set_k, set_k0]
  refine (c_Print _ l).use (wkL_refl _) fun _ => ?_
  cases hp : printL l with
  | mk p f =>
   obtain ⟨e, q⟩ := f
   simp only [printV, fltV, lstD]
   simp only [gw0, reduceEqDiff, ↓reduceIte, reduceAdd, reduceLT, reduceLeDiff, reduceMul, List.length_set, at_k, at_k0, set_k, set_k0, show decide ((0 : Int) = 0) = true from rfl, Bool.not_true, Bool.false_or, List.length_map]
   refine iK_split (fun h => ?_) (fun h => ?_)
   ·have hq : quoteOk t = none := by
     unfold quoteOk
     rw [hr]
     split
     ·rename_i d hd
      simp only [Sum.inr.injEq] at hd
      subst hd
      rw [hp]
      have : ¬ ((p, e, q) = (t, (0 : Int), (0 : Int))) := by
       rintro hh
       simp only [Prod.mk.injEq] at hh
       obtain ⟨rfl, rfl, rfl⟩ := hh
       simp at h
      simp only [this, decide_false, cond_false]
     ·rfl
    rw [hq]
    simp only [gw0, reduceEqDiff, ↓reduceIte, reduceAdd, reduceLT, reduceLeDiff, reduceMul, List.length_set, at_k, at_k0, set_k, set_k0, set_setl hlt, at_setl hlt, rdrE]
    exact fin _ zeroQ (r, true) _ (by simp only [zeroQ, encD_mk]; exact wk6 _ _ _ _ _)
   ·simp only [Bool.or_eq_false_iff, Bool.not_eq_false', decide_eq_true_eq] at h
    obtain ⟨⟨rfl, h2⟩, rfl⟩ := h
    obtain ⟨d, rfl⟩ : ∃ d, l = [d] := by
     cases l with
     | nil => simp at h2
     | cons a m =>
      cases m with
      | nil => exact ⟨a, rfl⟩
      | cons c m => simp at h2; omega
    have hq0 : q = 0 := by
     rcases print_right (right hr) with ⟨t', h'⟩ | h' <;> rw [h'] at hp <;> cases hp
     rfl
    subst hq0
    have hq : quoteOk t = some d := by
     unfold quoteOk
     rw [hr]
     simp only [hp, decide_true, cond_true]
    rw [hq]
    simp only [gw0, reduceEqDiff, ↓reduceIte, reduceAdd, reduceLT, reduceLeDiff, reduceMul, List.length_set, at_k, at_k0, set_k, set_k0, List.map_cons, List.map_nil, List.getD_cons_zero, show Int.toNat 0 = 0 from rfl, encD_take, encD_len, encD_drop, List.length_cons, List.length_nil]
    exact ⟨⟨by omega, by omega⟩, fin _ d (r, v) _ (wkL_refl _)⟩
theorem encI_take (i : Ins) : (encI i).take 11 = encI i := List.take_of_length_le (by rw [encI_len]; exact Nat.le_refl _)
theorem c_rins (s : RS) (st : St) (b : Nat) (hb : st[b]? = some (rdrE s)) :
  VCalls Tryz.prog TT 34 [.ptr b 0] st fun q st' => q = .ret (.agg (encI (rIns s).1)) ∧ st' = st.set b (rdrE (rIns s).2) := by
 refine vfun TT_ok (an := anL []) (L := [0, 2, 3, 4, 21, 25, 36, 51]) (rs := [.cell 2 51]) Tryz.func34 rfl (by kernel_rfl) rfl Tryz.ntmps34 rfl rfl (Nat.le_of_eq (List.length_set ..).symm) fun hst ha hf => ?_
 have hlt : b < st.length := (List.getElem?_eq_some_iff.1 hb).1
 have hok : ∀ x : RS, St.ok (st.set b (rdrE x)) := fun x => rdr_ok x hst
 simp only [gw0, reduceEqDiff, ↓reduceIte, reduceAdd, reduceLT, reduceLeDiff, reduceMul]
 refine (c_rnum s _ b (at_left hb)).use (wkL_refl _) fun _ => ?_
 simp only [set_left hlt]
 have hrg := numR_range s.1
 unfold rIns
 have hx : (rNum s).1 = (numR s.1).1 := rfl
 rw [← hx] at hrg
 clear hx
 generalize hx : rNum s = x at hrg
 obtain ⟨op, r, v⟩ := x
 simp only at hrg ⊢
 have fin : ∀ (X : List V) (Y : Ins) (z : RS) (ex : List Ent), wkL X (encI Y) → Gives (.agg (encI Y)) (st.set b (rdrE z)) (.ret (.agg X)) (st.set b (rdrE z) ++ ex) := fun X Y z ex hw =>
  gives_of (wk_agg hw) (wkSt_refl _) (by simp only [V.lt]; exact encI_lt _ _) (hok z)
 simp only [gw0, reduceEqDiff, ↓reduceIte, reduceAdd, reduceLT, reduceLeDiff, reduceMul, List.length_set, at_k, at_k0, set_k, set_k0, Bool.or_assoc]
 refine iK_split (fun h => ?_) (fun h => ?_)
 ·simp only [gw0, reduceEqDiff, ↓reduceIte, reduceAdd, reduceLT, reduceLeDiff, reduceMul, List.length_set, at_k, at_k0, set_k, set_k0, set_setl hlt, at_setl hlt, rdrE]
  simp only [h, cond_true]
  exact fin _ noI (r, true) _ (wk_ins 0 0 0 [] [])
 simp only [Bool.or_eq_false_iff, decide_eq_false_iff_not] at h
 have hop : op = 1 ∨ op = 2 ∨ op = 3 ∨ op = 4 ∨ op = 5 ∨ op = 6 ∨ op = 7 ∨ op = 8 ∨ op = 9 ∨ op = 10 ∨ op = 11 ∨ op = 12 ∨ op = 13 ∨ op = 14 ∨ op = 15 := by omega
 rcases hop with rfl | rfl | rfl | rfl | rfl | rfl | rfl | rfl | rfl | rfl | rfl | rfl | rfl | rfl | rfl
 ·simp only [gw0, reduceEqDiff, ↓reduceIte, reduceAdd, reduceLT, reduceLeDiff, reduceMul, List.length_set, at_k, at_k0, set_k, set_k0, Int.reduceEq, Int.reduceLT, decide_true, decide_false, Bool.or_false, Bool.false_or]
  refine (c_rnum (r, v) _ b (at_setl hlt)).use (wkL_refl _) fun _ => ?_
  generalize rNum (r, v) = y
  obtain ⟨n, r, v⟩ := y
  simp only [gw0, reduceEqDiff, ↓reduceIte, reduceAdd, reduceLT, reduceLeDiff, reduceMul, List.length_set, at_k, at_k0, set_k, set_k0, set_setl hlt, at_setl hlt, rdrE, Int.reduceEq, Int.reduceLT, decide_true, decide_false, cond_true, cond_false]
  exact fin _ { op := 1, n := n } (r, v) _ (wk_ins 1 0 n [] [])
 ·simp only [gw0, reduceEqDiff, ↓reduceIte, reduceAdd, reduceLT, reduceLeDiff, reduceMul, List.length_set, at_k, at_k0, set_k, set_k0, Int.reduceEq, Int.reduceLT, decide_true, decide_false, Bool.or_false, Bool.false_or]
  refine (c_rnum (r, v) _ b (at_setl hlt)).use (wkL_refl _) fun _ => ?_
  generalize rNum (r, v) = y
  obtain ⟨n, r, v⟩ := y
  simp only [gw0, reduceEqDiff, ↓reduceIte, reduceAdd, reduceLT, reduceLeDiff, reduceMul, List.length_set, at_k, at_k0, set_k, set_k0, set_setl hlt, at_setl hlt, rdrE, Int.reduceEq, Int.reduceLT, decide_true, decide_false, cond_true, cond_false]
  exact fin _ { op := 2, n := n } (r, v) _ (wk_ins 2 0 n [] [])
 ·simp only [gw0, reduceEqDiff, ↓reduceIte, reduceAdd, reduceLT, reduceLeDiff, reduceMul, List.length_set, at_k, at_k0, set_k, set_k0, Int.reduceEq, Int.reduceLT, decide_true, decide_false, Bool.or_false, Bool.false_or]
  refine (c_rquote (r, v) _ b (at_setl hlt)).use (wkL_refl _) fun _ => ?_
  generalize rQuote (r, v) = y
  obtain ⟨n, r, v⟩ := y
  simp only [gw0, reduceEqDiff, ↓reduceIte, reduceAdd, reduceLT, reduceLeDiff, reduceMul, List.length_set, at_k, at_k0, set_k, set_k0, set_setl hlt, at_setl hlt, Int.reduceEq, Int.reduceLT, decide_true, decide_false, cond_true, cond_false, encD_len, encD_take, encD_drop]
  exact fin _ { op := 3, quote := n } (r, v) _ (wkL_refl _)
 ·simp only [gw0, reduceEqDiff, ↓reduceIte, reduceAdd, reduceLT, reduceLeDiff, reduceMul, List.length_set, at_k, at_k0, set_k, set_k0, Int.reduceEq, Int.reduceLT, decide_true, decide_false, Bool.or_false, Bool.false_or]
  refine (c_rnum (r, v) _ b (at_setl hlt)).use (wkL_refl _) fun _ => ?_
  generalize rNum (r, v) = y
  obtain ⟨n, r, v⟩ := y
  simp only [gw0, reduceEqDiff, ↓reduceIte, reduceAdd, reduceLT, reduceLeDiff, reduceMul, List.length_set, at_k, at_k0, set_k, set_k0, set_setl hlt, at_setl hlt, rdrE, Int.reduceEq, Int.reduceLT, decide_true, decide_false, cond_true, cond_false]
  exact fin _ { op := 4, a := n } (r, v) _ (wk_ins 4 n 0 [] [])
 ·simp only [gw0, reduceEqDiff, ↓reduceIte, reduceAdd, reduceLT, reduceLeDiff, reduceMul, List.length_set, at_k, at_k0, set_k, set_k0, Int.reduceEq, Int.reduceLT, decide_true, decide_false, Bool.or_false, Bool.false_or]
  refine (c_rstr (r, v) _ b (at_setl hlt)).use (wkL_refl _) fun _ => ?_
  generalize rStr (r, v) = y
  obtain ⟨l, r, v⟩ := y
  simp only [gw0, reduceEqDiff, ↓reduceIte, reduceAdd, reduceLT, reduceLeDiff, reduceMul, List.length_set, at_k, at_k0, set_k, set_k0, set_setl hlt, at_setl hlt, Int.reduceEq, Int.reduceLT, decide_true, decide_false, cond_true, cond_false]
  refine (c_rstr (r, v) _ b (at_setl hlt)).use (wkL_refl _) fun _ => ?_
  generalize rStr (r, v) = y
  obtain ⟨o, r, v⟩ := y
  simp only [gw0, reduceEqDiff, ↓reduceIte, reduceAdd, reduceLT, reduceLeDiff, reduceMul, List.length_set, at_k, at_k0, set_k, set_k0, set_setl hlt, at_setl hlt, Int.reduceEq, Int.reduceLT, decide_true, decide_false, cond_true, cond_false]
  exact fin _ { op := 5, lib := l, own := o } (r, v) _ (wk_ins 5 0 0 l o)
 ·simp only [gw0, reduceEqDiff, ↓reduceIte, reduceAdd, reduceLT, reduceLeDiff, reduceMul, List.length_set, at_k, at_k0, set_k, set_k0, Int.reduceEq, Int.reduceLT, decide_true, decide_false, Bool.or_false, Bool.false_or]
  refine (c_rstr (r, v) _ b (at_setl hlt)).use (wkL_refl _) fun _ => ?_
  generalize rStr (r, v) = y
  obtain ⟨o, r, v⟩ := y
  simp only [gw0, reduceEqDiff, ↓reduceIte, reduceAdd, reduceLT, reduceLeDiff, reduceMul, List.length_set, at_k, at_k0, set_k, set_k0, set_setl hlt, at_setl hlt, Int.reduceEq, Int.reduceLT, decide_true, decide_false, cond_true, cond_false]
  exact fin _ { op := 6, own := o } (r, v) _ (wk_ins 6 0 0 [] o)
 ·simp only [gw0, reduceEqDiff, ↓reduceIte, reduceAdd, reduceLT, reduceLeDiff, reduceMul, List.length_set, at_k, at_k0, set_k, set_k0, Int.reduceEq, Int.reduceLT, decide_true, decide_false, Bool.or_false, Bool.false_or]
  refine (c_rnum (r, v) _ b (at_setl hlt)).use (wkL_refl _) fun _ => ?_
  generalize rNum (r, v) = y
  obtain ⟨n, r, v⟩ := y
  simp only [gw0, reduceEqDiff, ↓reduceIte, reduceAdd, reduceLT, reduceLeDiff, reduceMul, List.length_set, at_k, at_k0, set_k, set_k0, set_setl hlt, at_setl hlt, rdrE, Int.reduceEq, Int.reduceLT, decide_true, decide_false, cond_true, cond_false]
  exact fin _ { op := 7, a := n } (r, v) _ (wk_ins 7 n 0 [] [])
 ·simp only [gw0, reduceEqDiff, ↓reduceIte, reduceAdd, reduceLT, reduceLeDiff, reduceMul, List.length_set, at_k, at_k0, set_k, set_k0, Int.reduceEq, Int.reduceLT, decide_true, decide_false, Bool.or_false, Bool.false_or]
  refine (c_rnum (r, v) _ b (at_setl hlt)).use (wkL_refl _) fun _ => ?_
  generalize rNum (r, v) = y
  obtain ⟨n, r, v⟩ := y
  simp only [gw0, reduceEqDiff, ↓reduceIte, reduceAdd, reduceLT, reduceLeDiff, reduceMul, List.length_set, at_k, at_k0, set_k, set_k0, set_setl hlt, at_setl hlt, rdrE, Int.reduceEq, Int.reduceLT, decide_true, decide_false, cond_true, cond_false]
  exact fin _ { op := 8, a := n } (r, v) _ (wk_ins 8 n 0 [] [])
 ·simp only [gw0, reduceEqDiff, ↓reduceIte, reduceAdd, reduceLT, reduceLeDiff, reduceMul, List.length_set, at_k, at_k0, set_k, set_k0, Int.reduceEq, Int.reduceLT, decide_true, decide_false, Bool.or_false, Bool.false_or]
  refine (c_rnum (r, v) _ b (at_setl hlt)).use (wkL_refl _) fun _ => ?_
  generalize rNum (r, v) = y
  obtain ⟨n, r, v⟩ := y
  simp only [gw0, reduceEqDiff, ↓reduceIte, reduceAdd, reduceLT, reduceLeDiff, reduceMul, List.length_set, at_k, at_k0, set_k, set_k0, set_setl hlt, at_setl hlt, rdrE, Int.reduceEq, Int.reduceLT, decide_true, decide_false, cond_true, cond_false]
  exact fin _ { op := 9, a := n } (r, v) _ (wk_ins 9 n 0 [] [])
 ·simp only [gw0, reduceEqDiff, ↓reduceIte, reduceAdd, reduceLT, reduceLeDiff, reduceMul, List.length_set, at_k, at_k0, set_k, set_k0, Int.reduceEq, Int.reduceLT, decide_true, decide_false, Bool.or_false, Bool.false_or]
  refine (c_rnum (r, v) _ b (at_setl hlt)).use (wkL_refl _) fun _ => ?_
  generalize rNum (r, v) = y
  obtain ⟨n, r, v⟩ := y
  simp only [gw0, reduceEqDiff, ↓reduceIte, reduceAdd, reduceLT, reduceLeDiff, reduceMul, List.length_set, at_k, at_k0, set_k, set_k0, set_setl hlt, at_setl hlt, rdrE, Int.reduceEq, Int.reduceLT, decide_true, decide_false, cond_true, cond_false]
  exact fin _ { op := 10, a := n } (r, v) _ (wk_ins 10 n 0 [] [])
 ·simp only [gw0, reduceEqDiff, ↓reduceIte, reduceAdd, reduceLT, reduceLeDiff, reduceMul, List.length_set, at_k, at_k0, set_k, set_k0, Int.reduceEq, Int.reduceLT, decide_true, decide_false, Bool.or_false, Bool.false_or]
  refine (c_rnum (r, v) _ b (at_setl hlt)).use (wkL_refl _) fun _ => ?_
  generalize rNum (r, v) = y
  obtain ⟨n, r, v⟩ := y
  simp only [gw0, reduceEqDiff, ↓reduceIte, reduceAdd, reduceLT, reduceLeDiff, reduceMul, List.length_set, at_k, at_k0, set_k, set_k0, set_setl hlt, at_setl hlt, rdrE, Int.reduceEq, Int.reduceLT, decide_true, decide_false, cond_true, cond_false]
  exact fin _ { op := 11, a := n } (r, v) _ (wk_ins 11 n 0 [] [])
 ·simp only [gw0, reduceEqDiff, ↓reduceIte, reduceAdd, reduceLT, reduceLeDiff, reduceMul, List.length_set, at_k, at_k0, set_k, set_k0, Int.reduceEq, Int.reduceLT, decide_true, decide_false, Bool.or_false, Bool.false_or]
  refine (c_rstr (r, v) _ b (at_setl hlt)).use (wkL_refl _) fun _ => ?_
  generalize rStr (r, v) = y
  obtain ⟨l, r, v⟩ := y
  simp only [gw0, reduceEqDiff, ↓reduceIte, reduceAdd, reduceLT, reduceLeDiff, reduceMul, List.length_set, at_k, at_k0, set_k, set_k0, set_setl hlt, at_setl hlt, Int.reduceEq, Int.reduceLT, decide_true, decide_false, cond_true, cond_false]
  refine (c_rstr (r, v) _ b (at_setl hlt)).use (wkL_refl _) fun _ => ?_
  generalize rStr (r, v) = y
  obtain ⟨o, r, v⟩ := y
  simp only [gw0, reduceEqDiff, ↓reduceIte, reduceAdd, reduceLT, reduceLeDiff, reduceMul, List.length_set, at_k, at_k0, set_k, set_k0, set_setl hlt, at_setl hlt, Int.reduceEq, Int.reduceLT, decide_true, decide_false, cond_true, cond_false]
  exact fin _ { op := 12, lib := l, own := o } (r, v) _ (wk_ins 12 0 0 l o)
 ·simp only [gw0, reduceEqDiff, ↓reduceIte, reduceAdd, reduceLT, reduceLeDiff, reduceMul, List.length_set, at_k, at_k0, set_k, set_k0, Int.reduceEq, Int.reduceLT, decide_true, decide_false, Bool.or_false, Bool.false_or]
  refine (c_rstr (r, v) _ b (at_setl hlt)).use (wkL_refl _) fun _ => ?_
  generalize rStr (r, v) = y
  obtain ⟨l, r, v⟩ := y
  simp only [gw0, reduceEqDiff, ↓reduceIte, reduceAdd, reduceLT, reduceLeDiff, reduceMul, List.length_set, at_k, at_k0, set_k, set_k0, set_setl hlt, at_setl hlt, Int.reduceEq, Int.reduceLT, decide_true, decide_false, cond_true, cond_false]
  refine (c_rstr (r, v) _ b (at_setl hlt)).use (wkL_refl _) fun _ => ?_
  generalize rStr (r, v) = y
  obtain ⟨o, r, v⟩ := y
  simp only [gw0, reduceEqDiff, ↓reduceIte, reduceAdd, reduceLT, reduceLeDiff, reduceMul, List.length_set, at_k, at_k0, set_k, set_k0, set_setl hlt, at_setl hlt, Int.reduceEq, Int.reduceLT, decide_true, decide_false, cond_true, cond_false]
  exact fin _ { op := 13, lib := l, own := o } (r, v) _ (wk_ins 13 0 0 l o)
 ·simp only [gw0, reduceEqDiff, ↓reduceIte, reduceAdd, reduceLT, reduceLeDiff, reduceMul, List.length_set, at_k, at_k0, set_k, set_k0, set_setl hlt, at_setl hlt, Int.reduceEq, Int.reduceLT, decide_true, decide_false, cond_true, cond_false, Bool.or_false, Bool.false_or]
  exact fin _ { op := 14 } (r, v) _ (wk_ins 14 0 0 [] [])
 ·simp only [gw0, reduceEqDiff, ↓reduceIte, reduceAdd, reduceLT, reduceLeDiff, reduceMul, List.length_set, at_k, at_k0, set_k, set_k0, set_setl hlt, at_setl hlt, Int.reduceEq, Int.reduceLT, decide_true, decide_false, cond_true, cond_false, Bool.or_false, Bool.false_or]
  exact fin _ { op := 15 } (r, v) _ (wk_ins 15 0 0 [] [])
end Go.Proofs.YtcdnooalfkbmgaaGreatDoor.Gx
