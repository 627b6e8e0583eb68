/- What is written is read. What is written is read; what is read is right. lib: what is included; what holds; walked. lib: what holds, walked. lib: declarations, walked. lib: conditions, walked; then all declarations. -/
import Derived.Test.YtpllcpbhjglpaaaGreatDoorZV8
namespace Go.Proofs.YtpllcpbhjglpaaaGreatDoor.Gx
open Go Go.Proofs.YtpllcpbhjglpaaaGreatDoor.Gw
open Nat renaming reduceEqDiff → qqE, reduceAdd → qqA, reduceLT → qqL, reduceLeDiff → qqD, reduceMul → qqM
set_option linter.unusedSimpArgs false
set_option linter.unusedVariables false
-- numerals
theorem dig_byte {u : Nat} (h : u < 10) : (UInt8.ofNat (48 + u)).toNat = 48 + u := by simp; omega
theorem dec_ok (u : Nat) : digits (Lib.decDigits u) = true ∧ Lib.decDigits u ≠ [] ∧ numN (Lib.decDigits u) = u := by
 induction u using Nat.strongRecOn with
 | _ u ih =>
  rw [Lib.decDigits]
  split
  ·rename_i h
   have := dig_byte h
   refine ⟨?_, by simp, ?_⟩
   ·simp only [digits, List.all_cons, List.all_nil, Bool.and_true, this]; simp; omega
   ·simp only [numN, List.foldl_cons, List.foldl_nil, this]; omega
  ·rename_i h
   obtain ⟨h1, h2, h3⟩ := ih (u / 10) (by omega)
   have := dig_byte (Nat.mod_lt u (show 10 > 0 by decide))
   refine ⟨?_, by simp, ?_⟩
   ·simp only [digits, List.all_append, List.all_cons, List.all_nil, Bool.and_true, this] at h1 ⊢; rw [h1]; simp; omega
   ·simp only [numN, List.foldl_append, List.foldl_cons, List.foldl_nil, this] at h3 ⊢; rw [h3]; omega
theorem dec_len : ∀ (k u : Nat), u < 10 ^ (k + 1) → (Lib.decDigits u).length ≤ k + 1
 | 0, u, h => by rw [Lib.decDigits, dif_pos (by simpa using h)]; simp
 | k + 1, u, h => by
  rw [Lib.decDigits]
  split
  ·simp
  ·have := dec_len k (u / 10) (by rw [Nat.pow_succ] at h; omega)
   simp; omega
theorem digits_letters : ∀ {s : Str}, digits s = true → s.all letterB = true
 | [], _ => rfl
 | c :: r, h => by
  simp only [digits, List.all_cons, Bool.and_eq_true, decide_eq_true_eq] at h ⊢
  refine ⟨?_, digits_letters h.2⟩
  have key : ∀ c : UInt8, decide (48 ≤ c.toNat) && decide (c.toNat ≤ 57) → letterB c = true := fun c => of_decide_eq_true (all_bytes (p := fun c => decide (decide (48 ≤ c.toNat) && decide (c.toNat ≤ 57) → letterB c = true)) (by decide +kernel) c)
  exact key c (by simp [h.1.1, h.1.2])
theorem digits_head {c : UInt8} {r : Str} (h : digits (c :: r) = true) : c ≠ 45 := by
 simp only [digits, List.all_cons, Bool.and_eq_true, decide_eq_true_eq] at h
 rintro rfl
 have := h.1.1
 simp at this
theorem itoa_ok {n : Int} (h0 : -1000000000000000 ≤ n) (h1 : n ≤ 1000000000000000) : (Lib.itoa n).all letterB = true ∧ Lib.itoa n ≠ [] ∧ looksB (Lib.itoa n) = true ∧ (Lib.itoa n).length ≤ 17 ∧ numV (Lib.itoa n) = n := by
 unfold Lib.itoa
 split
 ·rename_i h
  obtain ⟨k1, k2, k3⟩ := dec_ok n.natAbs
  have kl := dec_len 15 n.natAbs (by omega)
  refine ⟨?_, by simp, ?_, by simp; omega, ?_⟩
  ·rw [List.all_cons, digits_letters k1]; decide
  ·simp only [looksB, k1, Bool.true_and, Bool.not_eq_true', List.isEmpty_eq_false_iff]; exact k2
  ·simp only [numV, k3]; omega
 ·rename_i h
  obtain ⟨k1, k2, k3⟩ := dec_ok n.toNat
  have kl := dec_len 15 n.toNat (by omega)
  refine ⟨digits_letters k1, k2, ?_, by omega, ?_⟩
  ·generalize Lib.decDigits n.toNat = s at k1 k2
   cases s with
   | nil => exact absurd rfl k2
   | cons c r =>
    have hc := digits_head k1
    unfold looksB
    split
    ·rename_i r' e; simp only [List.cons.injEq] at e; exact absurd e.1 hc
    ·rw [k1]; rfl
  ·generalize Lib.decDigits n.toNat = s at k1 k2 k3
   cases s with
   | nil => exact absurd rfl k2
   | cons c r =>
    have hc := digits_head k1
    unfold numV
    split
    ·rename_i r' e; simp only [List.cons.injEq] at e; exact absurd e.1 hc
    ·rw [k3]; omega
mutual
/-- A datum, but what its kind has not. -/
def normD : Datum → Datum
 | .mk k n nm s l kids => bif decide (k = 1) || decide (k = 2) then .mk k n [] 0 0 [] else bif decide (k = 3) then .mk 3 0 nm 0 0 [] else .mk 4 0 [] 0 0 (normDs kids)
def normDs : List Datum → List Datum
 | [] => []
 | d :: r => normD d :: normDs r
end
/-- No blank, no note, no end. -/
def Beg (c : UInt8) : Prop := isBlank c = false ∧ decide (c = 59) = false ∧ decide (c = 41) = false
theorem letter_beg (c : UInt8) (h : letterB c = true) : isBlank c = false ∧ decide (c = 59) = false ∧ decide (c = 41) = false ∧ decide (c = 40) = false ∧ decide (c = 39) = false ∧ decide (c = 35) = false := by
 have key : ∀ c : UInt8, letterB c = true → (isBlank c = false ∧ decide (c = 59) = false ∧ decide (c = 41) = false ∧ decide (c = 40) = false ∧ decide (c = 39) = false ∧ decide (c = 35) = false) := fun c => of_decide_eq_true (all_bytes (p := fun c => decide (letterB c = true → (isBlank c = false ∧ decide (c = 59) = false ∧ decide (c = 41) = false ∧ decide (c = 40) = false ∧ decide (c = 39) = false ∧ decide (c = 35) = false))) (by decide +kernel) c)
 exact key c h
theorem beg_blk {c : UInt8} {q : Str} (h : Beg c) : blk false (c :: q) = c :: q := by
 simp only [blk, h.1, h.2.1, cond_false]
theorem beg_blk' {c : UInt8} {q : Str} (h1 : isBlank c = false) (h2 : decide (c = 59) = false) : blk false (c :: q) = c :: q := by
 simp only [blk, h1, h2, cond_false]
theorem word_cons {s : Str} (h : s.all letterB = true) (h0 : s ≠ []) : ∃ c q, s = c :: q ∧ letterB c = true ∧ q.all letterB = true := by
 cases s with
 | nil => exact absurd rfl h0
 | cons c q => simp only [List.all_cons, Bool.and_eq_true] at h; exact ⟨c, q, rfl, h⟩
theorem text_beg : ∀ d : Datum, okD d → ∃ c q, textD d = c :: q ∧ Beg c := by
 intro d h
 cases d with
 | mk k n nm s l kids =>
  simp only [okD] at h
  simp only [textD]
  rcases h with ⟨rfl, h1, h2⟩ | ⟨rfl, h1⟩ | ⟨rfl, h1, _⟩ | ⟨rfl, h1⟩
  ·obtain ⟨k1, k2, _⟩ := itoa_ok h1 h2
   obtain ⟨c, q, e, hc, _⟩ := word_cons k1 k2
   have := letter_beg c hc
   exact ⟨c, q, by simp [e], this.1, this.2.1, this.2.2.1⟩
  ·rcases h1 with rfl | rfl
   ·exact ⟨35, [102], by simp, by decide, by decide, by decide⟩
   ·exact ⟨35, [116], by simp, by decide, by decide, by decide⟩
  ·simp only [namedB, Bool.and_eq_true, decide_eq_true_eq] at h1
   obtain ⟨c, q, e, hc, _⟩ := word_cons h1.1 (by intro e; rw [e] at h1; simp at h1)
   have := letter_beg c hc
   exact ⟨c, q, by simp [e], this.1, this.2.1, this.2.2.1⟩
  ·exact ⟨40, (spaced kids).drop 1 ++ [41], by simp, by decide, by decide, by decide⟩
theorem tw_self : ∀ {s : Str}, s.all letterB = true → s.takeWhile letterB = s
 | [], _ => rfl
 | c :: r, h => by
  simp only [List.all_cons, Bool.and_eq_true] at h
  rw [List.takeWhile_cons, h.1]
  simp [tw_self h.2]
theorem tw_all {s x : Str} (h : s.all letterB = true) (hx : Brk x) : (s ++ x).takeWhile letterB = s ∧ (s ++ x).dropWhile letterB = x := by
 obtain ⟨e1, e2⟩ := tw_ext (r := s) hx
 have e3 : s.takeWhile letterB = s := tw_self h
 have e4 := List.takeWhile_append_dropWhile (p := letterB) (l := s)
 rw [e3] at e4
 have e5 : s.dropWhile letterB = [] := by
  have := congrArg List.length e4
  simp at this
  exact this
 rw [e1, e2, e3, e5]; simp
theorem named_atom {nm : Str} (h : namedB nm = true) : atomR nm = .inr (.mk 3 0 nm 0 0 []) := by
 simp only [namedB, Bool.and_eq_true, decide_eq_true_eq, Bool.not_eq_true'] at h
 unfold atomR
 rw [h.2.2, cond_false, show decide ((20 : Int) < nm.length) = false by simp; omega, cond_false]
theorem num_atom {n : Int} (h0 : -1000000000000000 ≤ n) (h1 : n ≤ 1000000000000000) : atomR (Lib.itoa n) = .inr (.mk 1 n [] 0 0 []) := by
 obtain ⟨k1, k2, k3, k4, k5⟩ := itoa_ok h0 h1
 unfold atomR
 rw [k3, cond_true, show decide ((17 : Int) < (Lib.itoa n).length) = false by simp; omega, cond_false, k5, show (decide ((1000000000000000 : Int) < n) || decide (n < -1000000000000000)) = false by simp; omega, cond_false]
theorem pD_word {f : Nat} {deep : Int} {n : Nat} {w x : Str} {d : Datum} (hd : (decide (2000 < n + 1) || decide (40 < deep)) = false) (hw : w.all letterB = true) (h0 : w ≠ []) (hx : Brk x) (ha : atomR w = .inr d) : pD (f + 1) deep (w ++ x) n = .inr (d, x, n + 1) := by
 obtain ⟨c, q, rfl, hc, hq⟩ := word_cons hw h0
 obtain ⟨_, _, _, k1, k2, k3⟩ := letter_beg c hc
 obtain ⟨t1, t2⟩ := tw_all hq hx
 simp only [pD, hd, List.cons_append, k1, k2, k3, hc, cond_false, cond_true, pA, t1, t2, ha]
theorem dk5 : (decide ((1 : Int) = 4) = false) ∧ (decide ((2 : Int) = 4) = false) ∧ (decide ((3 : Int) = 4) = false) ∧ (decide ((1 : Int) = 2) = false) ∧ (decide ((1 : Int) = 3) = false) ∧ (decide ((2 : Int) = 3) = false) ∧ (decide ((0 : Int) = 1) = false) ∧ (decide ((40 : UInt8) = 40) = true) ∧ (decide ((35 : UInt8) = 40) = false) ∧ (decide ((35 : UInt8) = 39) = false) ∧ (decide ((35 : UInt8) = 35) = true) := by decide
mutual
theorem print_read : ∀ (d : Datum) (F : Nat) (deep : Int) (n : Nat) (x : Str), (shapeD d deep n).1 = 0 → Brk x → 2 * (textD d).length ≤ F → pD F deep (textD d ++ x) n = .inr (normD d, x, n + cntD d)
 | .mk k m nm s l kids, F, deep, n, x, h, hx, hF => by
  have hok := (shape_okD _ _ _ h).1
  obtain ⟨c0, q0, e0, hb0⟩ := text_beg _ hok
  obtain ⟨F, rfl⟩ : ∃ G, F = G + 1 := ⟨F - 1, by rw [e0] at hF; simp at hF; omega⟩
  have hd : (decide (2000 < n + 1) || decide (40 < deep)) = false := by
   unfold shapeD at h
   cases h1 : (decide ((2000 : Int) < n + 1) || decide (40 < deep)) with
   | true => rw [h1] at h; simp at h
   | false => simp only [Bool.or_eq_false_iff, decide_eq_false_iff_not] at h1 ⊢; omega
  simp only [okD] at hok
  simp only [textD, normD, cntD] at hF ⊢
  rcases hok with ⟨rfl, h1, h2⟩ | ⟨rfl, h1⟩ | ⟨rfl, h1, _⟩ | ⟨rfl, h1⟩
  ·obtain ⟨k1, k2, _⟩ := itoa_ok h1 h2
   simp only [dk4, dk5, decide_true, cond_true, cond_false, Bool.true_or, Nat.add_zero]
   exact pD_word hd k1 k2 hx (num_atom h1 h2)
  ·simp only [dk4, dk5, decide_true, cond_true, cond_false, Bool.or_true, Nat.add_zero]
   have hbr : ∀ t : UInt8, (decide (t = 116) || decide (t = 102)) = true → pB (n + 1) (t :: x) = .inr (.mk 2 (bif decide (t = 116) then 1 else 0) [] 0 0 [], x, n + 1) := by
    intro t ht
    simp only [pB, ht, cond_true]
    cases x with
    | nil => rfl
    | cons u w => simp only [Brk] at hx; simp only [hx, cond_false]
   rcases h1 with rfl | rfl
   ·simp only [dk5, cond_false, List.cons_append, List.nil_append, pD, hd, decide_true, cond_true]
    rw [hbr 102 (by decide)]; rfl
   ·simp only [dk4, dk5, cond_false, cond_true, decide_true, List.cons_append, List.nil_append, pD, hd]
    rw [hbr 116 (by decide)]; rfl
  ·have h1' := h1
   simp only [namedB, Bool.and_eq_true, decide_eq_true_eq] at h1'
   simp only [dk4, dk5, decide_true, cond_true, cond_false, Bool.or_self, Nat.add_zero]
   exact pD_word hd h1'.1 (by intro e; rw [e] at h1'; simp at h1') hx (named_atom h1)
  ·simp only [dk4, decide_true, cond_true, cond_false, Bool.or_self, List.length_cons, List.length_append, List.length_drop, List.length_nil] at hF ⊢
   have hs : (shapeDs kids (deep + 1) ((n + 1 : Nat) : Int)).1 = 0 := by
    unfold shapeD at h
    have : (decide ((2000 : Int) < n + 1) || decide (40 < deep)) = false := by
     simp only [Bool.or_eq_false_iff, decide_eq_false_iff_not] at hd ⊢; omega
    rw [this] at h
    simpa using h
   have := print_reads kids F deep [] (n + 1) x hs hx (by
    cases kids with
    | nil => simp [spaced] at hF ⊢; omega
    | cons a b => simp only [spaced, List.length_cons] at hF ⊢; omega)
   obtain ⟨F, rfl⟩ : ∃ G, F = G + 1 := ⟨F - 1, by omega⟩
   simp only [bz18] at this ⊢
   conv => lhs; unfold pD
   rw [hd, cond_false]
   simp only [dk5, decide_true, cond_true]
   have hdrop : blk false ((spaced kids).drop 1 ++ 41 :: x) = blk false (spaced kids ++ 41 :: x) := by
    cases kids with
    | nil => rfl
    | cons a b => simp only [spaced, List.drop_succ_cons, List.drop_zero, List.cons_append]; conv => rhs; unfold blk
                  rw [show isBlank 32 = true by decide, cond_true]
   have hpl : pL (F + 1) deep [] ((spaced kids).drop 1 ++ 41 :: x) (n + 1) = pL (F + 1) deep [] (spaced kids ++ 41 :: x) (n + 1) := by
    conv => lhs; unfold pL
    conv => rhs; unfold pL
    rw [hdrop]
   rw [hpl, this, show n + (1 + cntDs kids) = n + 1 + cntDs kids by omega]
theorem print_reads : ∀ (l : List Datum) (F : Nat) (deep : Int) (acc : List Datum) (n : Nat) (x : Str), (shapeDs l (deep + 1) n).1 = 0 → Brk x → 2 * (spaced l).length + 1 ≤ F → pL F deep acc (spaced l ++ [41] ++ x) n = .inr (.mk 4 0 [] 0 0 (acc ++ normDs l), x, n + cntDs l)
 | [], F, deep, acc, n, x, h, hx, hF => by
  obtain ⟨F, rfl⟩ : ∃ G, F = G + 1 := ⟨F - 1, by omega⟩
  simp only [spaced, List.nil_append, List.cons_append, pL, normDs, cntDs, List.append_nil, Nat.add_zero]
  rw [beg_blk' (by decide) (by decide)]
  rfl
 | d :: r, F, deep, acc, n, x, h, hx, hF => by
  obtain ⟨F, rfl⟩ : ∃ G, F = G + 1 := ⟨F - 1, by omega⟩
  simp only [spaced, List.length_cons, List.length_append] at hF
  simp only [shapeDs] at h
  have h1 : (shapeD d (deep + 1) n).1 = 0 := by
   by_cases e : (shapeD d (deep + 1) n).1 = 0
   ·exact e
   ·simp [e] at h
  have k1 := shape_okD _ _ _ h1
  have h2 : (shapeDs r (deep + 1) ((n + cntD d : Nat) : Int)).1 = 0 := by
   rw [h1, k1.2] at h
   simpa using h
  obtain ⟨c, q, e, hb⟩ := text_beg d k1.1
  have hbrk : Brk (spaced r ++ [41] ++ x) := by
   cases r with
   | nil => show letterB 41 = false; decide
   | cons a b => show letterB 32 = false; decide
  have i1 := print_read d F (deep + 1) n (spaced r ++ [41] ++ x) h1 hbrk (by omega)
  have i2 := print_reads r F deep (acc ++ [normD d]) (n + cntD d) x h2 hx (by omega)
  have hblk : blk false (spaced (d :: r) ++ [41] ++ x) = textD d ++ (spaced r ++ [41] ++ x) := by
   simp only [spaced, List.cons_append, List.append_assoc]
   conv => lhs; unfold blk
   rw [show isBlank 32 = true by decide, cond_true, e]
   exact beg_blk hb
  conv => lhs; unfold pL
  rw [hblk, e]
  simp only [List.cons_append]
  rw [hb.2.2, cond_false]
  rw [e] at i1
  simp only [List.cons_append] at i1
  rw [i1]
  simp only
  rw [i2]
  simp only [bz18, normDs, cntDs, Nat.add_assoc]
end
theorem blk_nl (t : Str) : blk false (10 :: t) = blk false t := by
 conv => lhs; unfold blk
 rw [show isBlank 10 = true by decide, cond_true]
theorem print_top : ∀ (l : List Datum) (i F : Nat) (acc : List Datum) (n : Nat), (wrongL l i n).1 = 0 → n ≤ 2000 → 2 * (textL l).length + 1 ≤ F → pT F acc (textL l) n = .inr (acc ++ normDs l, n + cntDs l)
 | [], i, F, acc, n, _, _, hF => by
  obtain ⟨F, rfl⟩ : ∃ G, F = G + 1 := ⟨F - 1, by omega⟩
  simp [pT, textL, blk, normDs, cntDs]
 | d :: r, i, F, acc, n, h, hn, hF => by
  obtain ⟨F, rfl⟩ : ∃ G, F = G + 1 := ⟨F - 1, by omega⟩
  simp only [textL, List.length_append, List.length_cons] at hF
  simp only [wrongL] at h
  have h1 : (shapeD d 1 n).1 = 0 := by
   by_cases e : (shapeD d 1 n).1 = 0
   ·exact e
   ·simp [e] at h
  have k1 := shape_okD _ _ _ h1
  have k2 := shapeD_ok d 1 n (by omega) h1
  have h2 : (wrongL r (i + 1) ((n + cntD d : Nat) : Int)).1 = 0 := by
   rw [h1, k1.2] at h
   simpa using h
  obtain ⟨c, q, e, hb⟩ := text_beg d k1.1
  have i1 := print_read d F 1 n (10 :: textL r) h1 (by show letterB 10 = false; decide) (by omega)
  have i2 := print_top r (i + 1) F (acc ++ [normD d]) (n + cntD d) h2 (by omega) (by omega)
  simp only [textL, pT]
  rw [e] at i1 ⊢
  simp only [List.cons_append] at i1 ⊢
  rw [beg_blk hb]
  simp only
  rw [i1]
  simp only
  have hF1 : F ≠ 0 := by omega
  have : pT F (acc ++ [normD d]) (10 :: textL r) (n + cntD d) = pT F (acc ++ [normD d]) (textL r) (n + cntD d) := by
   obtain ⟨F, rfl⟩ : ∃ G, F = G + 1 := ⟨F - 1, by omega⟩
   simp only [pT, blk_nl]
  rw [this, i2]
  simp only [bz18, normDs, cntDs, Nat.add_assoc]
mutual
theorem eq_norm : ∀ d : Datum, okD d → eqD d (normD d) = true
 | .mk k n nm s l kids, h => by
  simp only [okD] at h
  simp only [normD]
  rcases h with ⟨rfl, h1, h2⟩ | ⟨rfl, h1⟩ | ⟨rfl, h1, rfl, rfl⟩ | ⟨rfl, h1⟩
  ·simp [eqD]
  ·simp [eqD]
  ·simp [eqD]
  ·have := eq_norms kids h1
   simp [eqD, this]
theorem eq_norms : ∀ l : List Datum, okDs l → eqDs l (normDs l) = true
 | [], _ => by simp [normDs, eqDs]
 | d :: r, h => by simp only [normDs, eqDs, eq_norm d h.1, eq_norms r h.2, Bool.and_self]
end
/-- What is written is read. -/
theorem written {l : List Datum} {t : Str} (h : printL l = (t, (0, 0))) : readR t = .inr (normDs l) ∧ eqDs l (normDs l) = true := by
 unfold printL at h
 by_cases hw : (wrongL l 0 0).1 = 0
 ·simp only [hw, decide_true, cond_true] at h
  by_cases h6 : 6000 < (textL l).length
  ·simp only [h6, decide_true, cond_true] at h
   cases h
  ·simp only [h6, decide_false, cond_false] at h
   cases h
   refine ⟨read_ok.2 ⟨by omega, _, print_top l 0 _ [] 0 hw (by omega) (by omega)⟩, eq_norms l (wrong_ok l 0 0 (by omega) (by omega) hw).1⟩
 ·simp only [hw, decide_false, cond_false] at h
  have := congrArg (fun x => x.2.1) h
  exact absurd this hw
-- what is read is right
theorem word_ok {w : Str} {d : Datum} (hw : w.all letterB = true) (h0 : w ≠ []) (h : atomR w = .inr d) (deep : Int) (n : Nat) (hd : (decide ((2000 : Int) < n + 1) || decide (40 < deep)) = false) : shapeD d deep n = (0, (n : Int) + 1) := by
 unfold atomR at h
 cases hl : looksB w with
 | true =>
  rw [hl] at h
  simp only [cond_true] at h
  cases h1 : decide ((17 : Int) < w.length) with
  | true => rw [h1] at h; cases h
  | false =>
   rw [h1] at h
   simp only [cond_false] at h
   cases h2 : (decide ((1000000000000000 : Int) < numV w) || decide (numV w < -1000000000000000)) with
   | true => rw [h2] at h; cases h
   | false =>
    rw [h2] at h
    cases h
    unfold shapeD
    rw [hd, h2]
    rfl
 | false =>
  rw [hl] at h
  simp only [cond_false] at h
  cases h1 : decide ((20 : Int) < w.length) with
  | true => rw [h1] at h; cases h
  | false =>
   rw [h1] at h
   cases h
   have hn : namedB w = true := by
    have : 0 < w.length := List.length_pos_iff.2 h0
    simp only [decide_eq_false_iff_not] at h1
    simp only [namedB, hw, hl, Bool.true_and, Bool.not_false, Bool.and_true, Bool.and_eq_true, decide_eq_true_eq]
    omega
   unfold shapeD
   rw [hd, hn]
   rfl
theorem tw_letters (r : Str) : (r.takeWhile letterB).all letterB = true := by
 induction r with
 | nil => rfl
 | cons c r ih =>
  rw [List.takeWhile_cons]
  cases h : letterB c with
  | true => simp [h, ih]
  | false => rfl
theorem read_right : ∀ f : Nat, (∀ (deep : Int) (r : Str) (n : Nat) (d : Datum) (r' : Str) (n' : Nat), pD f deep r n = .inr (d, r', n') → shapeD d deep n = (0, (n' : Int)) ∧ n' ≤ 2000) ∧
  (∀ (deep : Int) (acc : List Datum) (r : Str) (n : Nat) (d : Datum) (r' : Str) (n' : Nat), n ≤ 2000 → pL f deep acc r n = .inr (d, r', n') → ∃ l, d = .mk 4 0 [] 0 0 (acc ++ l) ∧ shapeDs l (deep + 1) n = (0, (n' : Int)) ∧ n' ≤ 2000)
 | 0 => ⟨fun _ _ _ _ _ _ h => (by cases h), fun _ _ _ _ _ _ _ _ h => (by cases h)⟩
 | f + 1 => by
  obtain ⟨ihD, ihL⟩ := read_right f
  constructor
  ·intro deep r n d r' n' h
   simp only [pD] at h
   cases h1 : (decide (2000 < n + 1) || decide (40 < deep)) with
   | true => rw [h1] at h; cases h
   | false =>
    have hd : (decide ((2000 : Int) < n + 1) || decide (40 < deep)) = false := by
     simp only [Bool.or_eq_false_iff, decide_eq_false_iff_not] at h1 ⊢; omega
    have hn : n + 1 ≤ 2000 := by simp only [Bool.or_eq_false_iff, decide_eq_false_iff_not] at h1; omega
    rw [h1] at h
    simp only [cond_false] at h
    cases r with
    | nil => cases h
    | cons c r =>
     simp only at h
     cases h3 : decide (c = 40) with
     | true =>
      rw [h3] at h
      simp only [cond_true] at h
      obtain ⟨l, rfl, k1, k2⟩ := ihL deep [] r (n + 1) d r' n' hn h
      refine ⟨?_, k2⟩
      unfold shapeD
      rw [hd]
      simp only [dk4, decide_true, cond_true, cond_false, List.nil_append]
      simpa using k1
     | false =>
      rw [h3] at h
      simp only [cond_false] at h
      cases h4 : decide (c = 39) with
      | true =>
       rw [h4] at h
       simp only [cond_true] at h
       cases h5 : (decide (2000 < n + 2) || decide (40 < deep + 1)) with
       | true => rw [h5] at h; cases h
       | false =>
        rw [h5] at h
        simp only [cond_false] at h
        cases hq : pD f (deep + 1) (blk false r) (n + 2) with
        | inl e => rw [hq] at h; cases h
        | inr y =>
         obtain ⟨x, q, m⟩ := y
         rw [hq] at h
         simp only [pQ] at h
         cases h
         obtain ⟨k1, k2⟩ := ihD (deep + 1) _ (n + 2) x r' n' hq
         refine ⟨?_, k2⟩
         have hs : shapeD (.mk 3 0 quoteS 0 0 []) (deep + 1) ((n : Int) + 1) = (0, (n : Int) + 2) := by
          have hd2 : (decide ((2000 : Int) < ((n : Int) + 1) + 1) || decide (40 < deep + 1)) = false := by
           simp only [Bool.or_eq_false_iff, decide_eq_false_iff_not] at h5 ⊢; omega
          unfold shapeD
          rw [hd2]
          simp only [dk4, decide_true, cond_true, cond_false, show namedB quoteS = true by decide, Bool.not_true, Bool.and_self]
          rw [show (n : Int) + 1 + 1 = (n : Int) + 2 by omega]
         unfold quoteD shapeD
         rw [hd]
         simp only [dk4, decide_true, cond_true, cond_false, shapeDs, hs]
         have k1' : shapeD x (deep + 1) ((n : Int) + 2) = (0, (n' : Int)) := by simpa using k1
         rw [k1']
         simp
      | false =>
       rw [h4] at h
       simp only [cond_false] at h
       cases h5 : decide (c = 35) with
       | true =>
        rw [h5] at h
        simp only [cond_true] at h
        have key : ∀ v : Int, (v = 0 ∨ v = 1) → shapeD (.mk 2 v [] 0 0 []) deep n = (0, ((n + 1 : Nat) : Int)) := by
         intro v hv
         unfold shapeD
         rw [hd]
         rcases hv with rfl | rfl <;> simp
        unfold pB at h
        cases r with
        | nil => cases h
        | cons t w =>
         simp only at h
         cases ht : (decide (t = 116) || decide (t = 102)) with
         | false => rw [ht] at h; cases h
         | true =>
          rw [ht] at h
          simp only [cond_true] at h
          have hv : (bif decide (t = 116) then (1 : Int) else 0) = 0 ∨ (bif decide (t = 116) then (1 : Int) else 0) = 1 := by cases decide (t = 116) <;> simp
          cases w with
          | nil => cases h; exact ⟨key _ hv, hn⟩
          | cons u w =>
           simp only at h
           cases hu : letterB u with
           | true => rw [hu] at h; cases h
           | false => rw [hu] at h; cases h; exact ⟨key _ hv, hn⟩
       | false =>
        rw [h5] at h
        simp only [cond_false] at h
        cases h6 : letterB c with
        | false => rw [h6] at h; cases h
        | true =>
         rw [h6] at h
         simp only [cond_true, pA] at h
         cases ha : atomR (c :: r.takeWhile letterB) with
         | inl e => rw [ha] at h; cases h
         | inr y =>
          rw [ha] at h
          cases h
          have := word_ok (w := c :: r.takeWhile letterB) (by rw [List.all_cons, h6, tw_letters]; rfl) (by simp) ha deep n hd
          exact ⟨by rw [this]; simp, hn⟩
  ·intro deep acc r n d r' n' hn h
   simp only [pL] at h
   cases hk : blk false r with
   | nil => rw [hk] at h; cases h
   | cons c q =>
    rw [hk] at h
    simp only at h
    cases h1 : decide (c = 41) with
    | true => rw [h1] at h; cases h; exact ⟨[], by simp, by simp [shapeDs], hn⟩
    | false =>
     rw [h1] at h
     simp only [cond_false] at h
     cases hq : pD f (deep + 1) (c :: q) n with
     | inl e => rw [hq] at h; cases h
     | inr y =>
      obtain ⟨x, q2, m⟩ := y
      rw [hq] at h
      simp only at h
      obtain ⟨k1, k2⟩ := ihD (deep + 1) _ n x q2 m hq
      obtain ⟨l, rfl, k3, k4⟩ := ihL deep (acc ++ [x]) q2 m d r' n' k2 h
      refine ⟨x :: l, by simp, ?_, k4⟩
      simp only [shapeDs, k1, decide_true, cond_true]
      exact k3
theorem read_right_top : ∀ (f : Nat) (acc : List Datum) (r : Str) (n : Nat) (l : List Datum) (n' : Nat), pT f acc r n = .inr (l, n') → ∃ m, l = acc ++ m ∧ ∀ i, (wrongL m i n).1 = 0
 | 0, _, _, _, _, _, h => by cases h
 | f + 1, acc, r, n, l, n', h => by
  simp only [pT] at h
  cases hk : blk false r with
  | nil => rw [hk] at h; cases h; exact ⟨[], by simp, by simp [wrongL]⟩
  | cons c q =>
   rw [hk] at h
   simp only at h
   cases hq : pD f 1 (c :: q) n with
   | inl e => rw [hq] at h; cases h
   | inr y =>
    obtain ⟨x, q2, k⟩ := y
    rw [hq] at h
    simp only at h
    obtain ⟨k1, k2⟩ := (read_right f).1 1 _ n x q2 k hq
    obtain ⟨m, rfl, k3⟩ := read_right_top f (acc ++ [x]) q2 k l n' h
    refine ⟨x :: m, by simp, fun i => ?_⟩
    simp only [wrongL, k1, decide_true, cond_true]
    exact k3 (i + 1)
/-- What is read is right. -/
theorem right {s : Str} {l : List Datum} (h : readR s = .inr l) : (wrongL l 0 0).1 = 0 := by
 obtain ⟨_, n, h⟩ := read_ok.1 h
 obtain ⟨m, rfl, k⟩ := read_right_top _ _ _ _ _ _ h
 simpa using k 0
/-- There is fuel enough: what is wrong has a number; and what is read is taken off. -/
theorem p_err : ∀ f : Nat, (∀ (deep : Int) (r : Str) (n : Nat), 2 * r.length + 1 ≤ f → (∀ e, pD f deep r n = .inl e → e ≠ 0) ∧ (∀ d r' n', pD f deep r n = .inr (d, r', n') → r'.length < r.length)) ∧
  (∀ (deep : Int) (acc : List Datum) (r : Str) (n : Nat), 2 * r.length + 2 ≤ f → (∀ e, pL f deep acc r n = .inl e → e ≠ 0) ∧ (∀ d r' n', pL f deep acc r n = .inr (d, r', n') → r'.length < r.length))
 | 0 => ⟨fun _ _ _ h => (by omega), fun _ _ _ _ h => (by omega)⟩
 | f + 1 => by
  obtain ⟨ihD, ihL⟩ := p_err f
  constructor
  ·intro deep r n hf
   simp only [pD]
   cases h1 : (decide (2000 < n + 1) || decide (40 < deep)) with
   | true => exact ⟨fun e h => (by cases h; decide), fun d r' n' h => (by cases h)⟩
   | false =>
    simp only [cond_false]
    cases r with
    | nil => exact ⟨fun e h => (by cases h; decide), fun d r' n' h => (by cases h)⟩
    | cons c r =>
     simp only [List.length_cons] at hf ⊢
     cases h3 : decide (c = 40) with
     | true =>
      simp only [cond_true]
      obtain ⟨k1, k2⟩ := ihL deep [] r (n + 1) (by omega)
      exact ⟨k1, fun d r' n' h => by have := k2 d r' n' h; omega⟩
     | false =>
      simp only [cond_false]
      cases h4 : decide (c = 39) with
      | true =>
       simp only [cond_true]
       cases h5 : (decide (2000 < n + 2) || decide (40 < deep + 1)) with
       | true => exact ⟨fun e h => (by cases h; decide), fun d r' n' h => (by cases h)⟩
       | false =>
        simp only [cond_false]
        have hle := blk_le r false
        obtain ⟨k1, k2⟩ := ihD (deep + 1) (blk false r) (n + 2) (by omega)
        cases hq : pD f (deep + 1) (blk false r) (n + 2) with
        | inl e => exact ⟨fun e' h => (by cases h; exact k1 _ hq), fun d r' n' h => (by cases h)⟩
        | inr y =>
         obtain ⟨x, q, m⟩ := y
         have := k2 _ _ _ hq
         exact ⟨fun e' h => (by cases h), fun d r' n' h => (by cases h; omega)⟩
      | false =>
       simp only [cond_false]
       cases h5 : decide (c = 35) with
       | true =>
        simp only [cond_true]
        unfold pB
        cases r with
        | nil => exact ⟨fun e h => (by cases h; decide), fun d r' n' h => (by cases h)⟩
        | cons t w =>
         simp only
         cases ht : (decide (t = 116) || decide (t = 102)) with
         | false => exact ⟨fun e h => (by cases h; decide), fun d r' n' h => (by cases h)⟩
         | true =>
          simp only [cond_true]
          cases w with
          | nil => exact ⟨fun e h => (by cases h), fun d r' n' h => (by cases h; simp)⟩
          | cons u w =>
           simp only
           cases hu : letterB u with
           | true => exact ⟨fun e h => (by cases h; decide), fun d r' n' h => (by cases h)⟩
           | false => exact ⟨fun e h => (by cases h), fun d r' n' h => (by cases h; simp)⟩
       | false =>
        simp only [cond_false]
        cases h6 : letterB c with
        | false => exact ⟨fun e h => (by cases h; decide), fun d r' n' h => (by cases h)⟩
        | true =>
         simp only [cond_true, pA]
         cases ha : atomR (c :: r.takeWhile letterB) with
         | inl e =>
          refine ⟨fun e' h => ?_, fun d r' n' h => (by cases h)⟩
          cases h
          unfold atomR at ha
          cases h7 : looksB (c :: r.takeWhile letterB) with
          | true =>
           rw [h7] at ha
           simp only [cond_true] at ha
           cases h8 : decide ((17 : Int) < (c :: r.takeWhile letterB).length) with
           | true => rw [h8] at ha; cases ha; decide
           | false =>
            rw [h8] at ha
            simp only [cond_false] at ha
            cases h9 : (decide ((1000000000000000 : Int) < numV (c :: r.takeWhile letterB)) || decide (numV (c :: r.takeWhile letterB) < -1000000000000000)) with
            | true => rw [h9] at ha; cases ha; decide
            | false => rw [h9] at ha; cases ha
          | false =>
           rw [h7] at ha
           simp only [cond_false] at ha
           cases h8 : decide ((20 : Int) < (c :: r.takeWhile letterB).length) with
           | true => rw [h8] at ha; cases ha; decide
           | false => rw [h8] at ha; cases ha
         | inr y =>
          refine ⟨fun e h => (by cases h), fun d r' n' h => ?_⟩
          cases h
          have := congrArg List.length (List.takeWhile_append_dropWhile (p := letterB) (l := r))
          simp only [List.length_append] at this
          omega
  ·intro deep acc r n hf
   simp only [pL]
   have hle := blk_le r false
   cases hk : blk false r with
   | nil => exact ⟨fun e h => (by cases h; decide), fun d r' n' h => (by cases h)⟩
   | cons c q =>
    rw [hk] at hle
    simp only [List.length_cons] at hle ⊢
    cases h1 : decide (c = 41) with
    | true => exact ⟨fun e h => (by cases h), fun d r' n' h => (by cases h; omega)⟩
    | false =>
     simp only [cond_false]
     obtain ⟨k1, k2⟩ := ihD (deep + 1) (c :: q) n (by simp; omega)
     cases hq : pD f (deep + 1) (c :: q) n with
     | inl e => exact ⟨fun e' h => (by cases h; exact k1 _ hq), fun d r' n' h => (by cases h)⟩
     | inr y =>
      obtain ⟨x, q2, m⟩ := y
      have k3 := k2 _ _ _ hq
      simp only [List.length_cons] at k3
      obtain ⟨k4, k5⟩ := ihL deep (acc ++ [x]) q2 m (by omega)
      exact ⟨k4, fun d r' n' h => by have := k5 d r' n' h; omega⟩
theorem t_err : ∀ (f : Nat) (acc : List Datum) (r : Str) (n : Nat) (e : Int), 2 * r.length + 3 ≤ f → pT f acc r n = .inl e → e ≠ 0
 | 0, _, _, _, _, h, _ => by omega
 | f + 1, acc, r, n, e, hf, h => by
  simp only [pT] at h
  have hle := blk_le r false
  cases hk : blk false r with
  | nil => rw [hk] at h; cases h
  | cons c q =>
   rw [hk] at h hle
   simp only [List.length_cons] at h hle
   obtain ⟨k1, k2⟩ := (p_err f).1 1 (c :: q) n (by simp; omega)
   cases hq : pD f 1 (c :: q) n with
   | inl e' => rw [hq] at h; cases h; exact k1 _ hq
   | inr y =>
    obtain ⟨x, q2, m⟩ := y
    have k3 := k2 _ _ _ hq
    simp only [List.length_cons] at k3
    rw [hq] at h
    simp only at h
    exact t_err f (acc ++ [x]) q2 m e (by omega) h
/-- What is wrong with a text has a number. -/
theorem read_bad {s : Str} {f : Int × Int} (h : readR s = .inl f) : f.1 ≠ 0 := by
 by_cases hs : s.length ≤ 6000
 ·cases hp : pT (2 * s.length + 3) [] s 0 with
  | inl e =>
   obtain ⟨q, hq⟩ := read_err hs hp
   rw [hq] at h
   cases h
   exact t_err _ _ _ _ _ (Nat.le_refl _) hp
  | inr y =>
   have := read_ok.2 ⟨hs, y.2, by rw [hp]⟩
   rw [this] at h
   cases h
 ·unfold readR at h
  rw [show decide ((6000 : Int) < s.length) = true by simp; omega, cond_true] at h
  cases h
  decide
theorem rdTop_small (s : Str) (hs : s.length ≤ 6000) : ∀ (f : Nat) (acc : List Datum) (p n : Nat) (l : List Datum), acc.length ≤ p → p ≤ s.length → n ≤ 2000 → rdTop s f acc p n = .inr l → l.length ≤ 6000
 | 0, acc, p, n, l, h1, h2, h3, h => by simp [rdTop] at h
 | f + 1, acc, p, n, l, h1, h2, h3, h => by
  simp only [rdTop] at h
  cases hd : s.drop p with
  | nil => rw [hd] at h; simp only [Sum.inr.injEq] at h; subst h; omega
  | cons c r =>
   rw [hd] at h
   simp only at h
   have hfar := (rd_far s f).1 1 p n h3
   cases hr : rdD s f 1 p n with
   | err e q p' n' => rw [hr] at h; cases h
   | ok x p' n' =>
    rw [hr] at h hfar
    simp only [RR.far] at hfar
    simp only at h
    have hb := blk_le (s.drop p') false
    simp only [List.length_drop] at hb
    refine rdTop_small s hs f _ _ _ l ?_ ?_ hfar.2.2 h
    ·simp; omega
    ·omega
theorem readR_small {s : Str} {l : List Datum} (h : readR s = .inr l) : l.length ≤ 6000 := by
 unfold readR at h
 cases hs : decide ((6000 : Int) < s.length) with
 | true => rw [hs] at h; cases h
 | false =>
  rw [hs] at h
  have hs2 : s.length ≤ 6000 := by simp at hs; omega
  have hb := blk_le s false
  exact rdTop_small s hs2 _ [] _ 0 l (Nat.zero_le _) (by omega) (by omega) h
theorem bodyL_ok {o : Lib'} (h : okO o) (l : List Datum) : okO (bodyL l o).1 := by
 unfold bodyL
 cases e : decide (200 < o.body.length + l.length) with
 | true => exact h
 | false => simp only [decide_eq_false_iff_not] at e; exact ⟨h.1, h.2.1, by simp only [cond_false, List.length_append]; omega⟩
set_option maxHeartbeats 4000000 in
theorem c_libinclude (w : Wd) (l : List Datum) (o : Lib') (ho : okO o) (hl : l.length ≤ 1000000) (st : St) (b : Nat) (hb : b + 3 < st.length) :
  OutS 46 [.ptr b 0, lstD l] (wS st w b o) (.tup []) (includeP w l o).2 (wS st w b (includeP w l o).1) := by
 refine OutS_of (by rw [wS_len, wS_len]; exact Nat.le_refl _) ?_
 refine vfunQ TT_ok (an := anL []) (L := [0, 1, 5, 6, 7, 8, 9, 10, 11, 12]) (rs := []) Tryz.func46 rfl (by kernel_rfl) rfl Tryz.ntmps46 rfl rfl fun hst ha hf => ?_
 have hw := fun o' => wS_ok hb o' hst
 simp only [gw2, qqE, ↓reduceIte, qqA, qqL, qqD, qqM, ite_self, lstD, List.length_map]
 refine vforD (σ := Nat × Lib') [0, 1, 10, 11, 12] (fun x => [(0, true, .ptr b 0), (1, true, lstD l), (10, true, lstD l), (11, true, .int .i64 l.length), (12, true, .int .i64 x.1)]) (fun x => wS st w b x.2) (fun x => l.length - x.1) (fun x => x.1 ≤ l.length ∧ okO x.2 ∧ includeP w l o = includeP w (l.drop x.1) x.2) (0, o) rfl TT_ok ⟨Nat.zero_le _, ho, rfl⟩ (wkE_refl _) rfl ?_
 rintro ⟨i, o1⟩ ⟨hi, ho1, hI⟩
 simp only at hi ho1 hI ⊢
 rw [hI]
 rcases at_or_end l i hi with ⟨rfl, hd⟩ | ⟨a, hlt, hget, hdr⟩
 ·rw [hd]
  simp only [gw2, qqE, ↓reduceIte, qqA, qqL, qqD, qqM, ite_self, lt_no, lstD]
  exact outS_g rfl (gives_self trivial (hw o1))
 ·rw [hdr]
  have hE : includeP w (a :: l.drop (i + 1)) o1 = bif decide ((symP a).2 = 0) then
   (match fileOf (symP a).1 w.files with
   | none => (o1, 6)
   | some t => match readR t with
    | .inl f => (o1, f.1)
    | .inr k => bif decide ((bodyL k o1).2 = 0) then includeP w (l.drop (i + 1)) (bodyL k o1).1 else bodyL k o1)
  else (o1, (symP a).2) := by rw [includeP]; rfl
  generalize hG : includeP w (a :: l.drop (i + 1)) o1 = G at hE
  simp only [wS, cellsW]
  simp only [bz17, bz14, gw2, qqE, ↓reduceIte, qqA, qqL, qqD, qqM, ite_self, lt_yes hlt, lstD, getD_map hget, Int.ofNat_lt.mpr hlt]
  rcases (c_libsym a (wS st w b o1 ++ [.box (encD a)])).cases with ⟨he, hc⟩ | ⟨he, hc⟩
  ·simp only [wS, cellsW] at hc
   refine hc.use (wkL_refl _) fun _ => ?_
   rw [decide_eq_true he, cond_true] at hE
   generalize (symP a).1 = n at hE
   simp only [bz14, gw2, qqE, ↓reduceIte, qqA, qqL, qqD, qqM, ite_self, wR_b hb]
   have hx : (wS st w b o1 ++ [.box (encD a), .box [.str n]])[st.length + 1]? = some (.box [.str n]) := wR_k _ _ _ _ _ 1
   simp only [wS, cellsW] at hx
   refine (c_IdxFile _ w.files 65 [.ptr (st.length + 1) 0] (fun f => decide (f.1 = n)) (fun a _ => c_sameFile a n _ _ hx)).use (wkL_refl _) fun _ => ?_
   simp only [bz14, gw2, qqE, ↓reduceIte, qqA, qqL, qqD, qqM, ite_self, wR_b hb]
   rcases idxG_file n w.files 0 with ⟨h1, h2⟩ | ⟨j, f, h1, h2, h3⟩
   ·rw [h1] at hE
    rw [h2]
    simp only [gw2, qqE, ↓reduceIte, qqA, qqL, qqD, qqM, ite_self, show decide ((-1 : Int) < 0) = true from rfl]
    refine (c_libfail _ 6).useP (wkL_refl _) ?_
    rw [hE]
    simp only [gw2, qqE, ↓reduceIte, qqA, qqL, qqD, qqM, ite_self]
    exact outS_p (show (6 : Int) ≠ 0 by decide) (givesP_of (wk_refl _) (wkSt_refl _) (oops_lt _ _) (hw o1))
   ·rw [h2] at hE
    rw [h3]
    have hj := (List.getElem?_eq_some_iff.1 h1).1
    have hgf : (rows2 w.files).getD j [] = encF2 f := getD_map (f := encF2) h1
    simp only [Nat.zero_add] at hE ⊢
    simp only [bz14, gw2, qqE, ↓reduceIte, qqA, qqL, qqD, qqM, ite_self, show decide (((j : Nat) : Int) < 0) = false from decide_eq_false (by omega), wR_b hb, Int.toNat_natCast, hgf, encF2, rows2_len]
    refine ⟨by omega, ?_⟩
    refine (c_Read f.2 _).use (wkL_refl _) fun _ => ?_
    cases hr : readR f.2 with
    | inl g =>
     have hg := read_bad hr
     have hg1 : decide (g.1 = 0) = false := by simpa using hg
     rw [hr] at hE
     simp only [readV, fltV, lstD, List.map_nil]
     simp only [bz14, gw2, qqE, ↓reduceIte, qqA, qqL, qqD, qqM, ite_self, hg1, Bool.not_false]
     refine (c_libfail _ g.1).useP (wkL_refl _) ?_
     rw [hE]
     simp only [gw2, qqE, ↓reduceIte, qqA, qqL, qqD, qqM, ite_self]
     exact outS_p hg (givesP_of (wk_refl _) (wkSt_refl _) (oops_lt _ _) (hw o1))
    | inr k =>
     have hkl := readR_small hr
     rw [hr] at hE
     simp only [readV, fltV]
     simp only [bz14, gw2, qqE, ↓reduceIte, qqA, qqL, qqD, qqM, ite_self, show decide ((0 : Int) = 0) = true from rfl, Bool.not_true]
     have hbd := c_libbody w k o1 ho1 (by omega) (st ++ [.box (encD a), .box [.str n], .box [.int .i64 0, .int .i64 0]]) b (by simp; omega)
     rw [wS_app hb, wS_app hb] at hbd
     rcases hbd.cases with ⟨he5, hc5⟩ | ⟨he5, hc5⟩
     ·simp only [wS, cellsW] at hc5
      refine hc5.use (wkL_refl _) fun _ => ?_
      simp only at hE
      rw [decide_eq_true he5, cond_true] at hE
      simp only [gw2, qqE, ↓reduceIte, qqA, qqL, qqD, qqM, ite_self, wR_len, Env.keep, next_i64 hlt (by omega)]
      refine ⟨(i + 1, (bodyL k o1).1), ⟨wkE_refl _, wS st w b (bodyL k o1).1, [.box (encD a), .box [.str n], .box [.int .i64 0, .int .i64 0]], by simp [wS, cellsW], wkSt_refl _, ?_, hw _, by rw [wR_len]; exact Nat.le_refl _⟩, by dsimp only; omega, hlt, bodyL_ok ho1 k, hE⟩
      simp only [ltE, V.lt]
      have hll := lstD_lt (wS st w b (bodyL k o1).1).length l
      simp only [lstD, V.lt] at hll
      exact ⟨by rw [wR_len]; omega, hll, hll, trivial, trivial, trivial⟩
     ·simp only [wS, cellsW] at hc5
      refine hc5.useP (wkL_refl _) ?_
      simp only at hE
      rw [decide_eq_false he5, cond_false] at hE
      rw [hE]
      simp only [gw2, qqE, ↓reduceIte, qqA, qqL, qqD, qqM, ite_self]
      exact outS_p he5 (givesP_of (wk_refl _) (wkSt_refl _) (oops_lt _ _) (hw (bodyL k o1).1))
  ·simp only [wS, cellsW] at hc
   refine hc.useP (wkL_refl _) ?_
   rw [hE, decide_eq_false he, cond_false]
   simp only [gw2, qqE, ↓reduceIte, qqA, qqL, qqD, qqM, ite_self]
   exact outS_p he (givesP_of (wk_refl _) (wkSt_refl _) (oops_lt _ _) (hw o1))
theorem holdsD_eq (w : Wd) (k n : Int) (nm : Str) (s l : Int) (h : Datum) (t : List Datum) : holdsD w (.mk k n nm s l (h :: t)) = bif decide (k = 3) then (decide (nm ∈ w.feats), 0)
  else bif !decide (k = 4) then (false, 2)
  else bif !decide ((symP h).2 = 0) then (false, (symP h).2)
    else bif decide ((symP h).1 = wLibrary) then (match t with
     | [x] => thenE (calledP x) false fun s => (decide (s ∈ w.libs), 0)
     | _ => (false, 2))
    else bif decide ((symP h).1 = wAnd) || decide ((symP h).1 = wOr) then holdsL w (decide ((symP h).1 = wOr)) t
    else bif decide ((symP h).1 = wNot) then (match t with
     | [x] => (!(holdsD w x).1, (holdsD w x).2)
     | _ => (false, 2))
    else (false, 2) := by
 cases t with
 | nil => rfl
 | cons x r => cases r <;> rfl
theorem holdsD_nil (w : Wd) (k n : Int) (nm : Str) (s l : Int) : holdsD w (.mk k n nm s l []) = bif decide (k = 3) then (decide (nm ∈ w.feats), 0) else (false, 2) := by
 simp only [holdsD]
 cases decide (k = 3) <;> cases decide (k = 4) <;> rfl
theorem holdsL_cons (w : Wd) (some : Bool) (d : Datum) (r : List Datum) : holdsL w some (d :: r) = bif !decide ((holdsD w d).2 = 0) then (false, (holdsD w d).2) else bif decide ((holdsD w d).1 = some) then (some, 0) else holdsL w some r := by
 rfl
theorem declD_eq (w : Wd) (k n : Int) (nm : Str) (s l : Int) (kids : List Datum) (o : Lib') : declD w (.mk k n nm s l kids) o = bif !decide (k = 4) then (o, 2) else match kids with
  | [] => (o, 2)
  | h :: t => bif !decide ((symP h).2 = 0) then (o, (symP h).2)
   else bif decide ((symP h).1 = wExport) then (bif decide (o.name = []) then (o, 2) else exportP t o)
   else bif decide ((symP h).1 = wImport) then importP t o
   else bif decide ((symP h).1 = wBegin) then bodyL t o
   else bif decide ((symP h).1 = wInclude) then includeP w t o
   else bif decide ((symP h).1 = wCond) then condL w t o
   else (o, 2) := by
 cases kids <;> rfl
theorem declsL_cons (w : Wd) (d : Datum) (r : List Datum) (o : Lib') : declsL w (d :: r) o = bif decide ((declD w d o).2 = 0) then declsL w r (declD w d o).1 else declD w d o := rfl
theorem condL_cons (w : Wd) (k n : Int) (nm : Str) (s l : Int) (kids r : List Datum) (o : Lib') : condL w (.mk k n nm s l kids :: r) o = bif !decide (k = 4) then (o, 2) else match kids with
  | [] => (o, 2)
  | h :: t => bif isElse h then declsL w t o
   else bif !decide ((holdsD w h).2 = 0) then (o, (holdsD w h).2)
   else bif (holdsD w h).1 then declsL w t o else condL w r o := by
 cases kids <;> rfl
theorem size_mem {d : Datum} : ∀ {l : List Datum}, d ∈ l → SizeOf.sizeOf d < SizeOf.sizeOf l
 | x :: r, h => by
  rcases List.mem_cons.1 h with rfl | h
  ·simp; omega
  ·have := size_mem h; simp; omega
theorem size_kids (k n : Int) (nm : Str) (s l : Int) (kids : List Datum) : SizeOf.sizeOf kids < SizeOf.sizeOf (Datum.mk k n nm s l kids) := by simp; omega
set_option maxHeartbeats 4000000 in
theorem c_libholds (w : Wd) (b : Nat) : ∀ (N : Nat) (d : Datum), SizeOf.sizeOf d < N → okM d → ∀ (st : St) (nm : Str) (E : List (List V)) (nI : Nat) (B : List (List V)), st[b]? = some (.box (cellsW w b nm E nI B)) →
  OutS 66 [.ptr b 0, .agg (encD d)] st (.bool (holdsD w d).1) (holdsD w d).2 st
 | 0, d, hs, hm, st, onm, E, nI, B, hb0 => by omega
 | N + 1, d, hs, hm, st, onm, E, nI, B, hb0 => by
  refine OutS_of (Nat.le_refl _) ?_
  obtain ⟨k, n, nm, sk, sl, kids⟩ := d
  refine vfunQ TT_ok (an := anL [(3, 1)]) (L := [0, 1, 3, 4, 5, 6, 8, 25, 41, 45, 46, 47]) (rs := [.tmp 4]) Tryz.func66 rfl (by kernel_rfl) rfl Tryz.ntmps66 rfl rfl fun hst ha hf => ?_
  simp only [cellsW] at hb0
  have hbl := (List.getElem?_eq_some_iff.1 hb0).1
  have hbx : ∀ ex : St, (st ++ ex)[b]? = some (.box [.lst 2 none (rows2 w.files), encS w.feats, encS w.libs, .str onm, .lst 2 (some (b + 1)) E, .arr (b + 2) nI, .lst 6 (some (b + 3)) B, .int .i64 0]) := fun ex => by rw [List.getElem?_append_left hbl]; exact hb0
  generalize hG : holdsD w (.mk k n nm sk sl kids) = G
  simp only [gw2, qqE, ↓reduceIte, qqA, qqL, qqD, qqM, ite_self, encD_mk]
  refine iK_split (fun h => ?_) (fun h => ?_)
  ·have hv : G = (decide (nm ∈ w.feats), 0) := by rw [← hG]; cases kids <;> simp only [holdsD_nil, holdsD_eq, h, cond_true]
   simp only [gw2, qqE, ↓reduceIte, qqA, qqL, qqD, qqM, ite_self]
   refine vdraw TT_ok TT_mixed [0, 0, 0, 1, 0, 0, 0, 0] (by kernel_rfl) ?_
   simp only [gw2, qqE, ↓reduceIte, qqA, qqL, qqD, qqM, ite_self, hb0]
   refine eK_free (fun s => c_Contains s w.feats nm) (wkL_refl _) ?_
   simp only [gw2, qqE, ↓reduceIte, qqA, qqL, qqD, qqM, ite_self]
   rw [hv]
   exact outS_g rfl (gives_self trivial hst)
  ·simp only [gw2, qqE, ↓reduceIte, qqA, qqL, qqD, qqM, ite_self, hb0]
   have hk3 : k ≠ 3 := of_decide_eq_false h
   rcases (c_liblist (.mk k n nm sk sl kids) 1 st).cases with ⟨he, hc⟩ | ⟨he, hc⟩
   ·refine hc.use (by rw [encD_mk]; exact wkL_refl _) fun _ => ?_
    have hk4 : k = 4 ∧ kids ≠ [] ∧ (listP 1 (.mk k n nm sk sl kids)).1 = kids := by
     simp only [listP] at he ⊢
     cases e : !decide (k = 4) || decide (kids.length < 1) with
     | true => rw [e] at he; simp at he
     | false =>
      simp only [Bool.or_eq_false_iff, Bool.not_eq_false', decide_eq_true_eq, decide_eq_false_iff_not] at e
      exact ⟨e.1, fun h => by rw [h] at e; simp at e, rfl⟩
    obtain ⟨hk4, hne, hkk⟩ := hk4
    rw [hkk]
    have hmk := hm
    rw [okM] at hmk
    obtain ⟨hkl, hks⟩ := hmk.2 hk4
    have hnot : decide (nm ∈ w.feats) = decide (nm ∈ w.feats) := rfl
    cases kids with
    | nil => exact absurd rfl hne
    | cons hh t =>
     simp only [bz12, gw2, qqE, ↓reduceIte, qqA, qqL, qqD, qqM, ite_self, lstD, List.map_cons, List.length_cons, show Int.toNat 0 = 0 from rfl, show Int.toNat 1 = 1 from rfl, hb0]
     refine ⟨⟨by omega, by omega⟩, ?_⟩
     rcases (c_libsym hh st).cases with ⟨he2, hc2⟩ | ⟨he2, hc2⟩
     ·refine hc2.use (wkL_refl _) fun _ => ?_
      obtain ⟨wd, hwd⟩ : ∃ wd, (symP hh).1 = wd := ⟨_, rfl⟩
      rw [hwd]
      simp only [gw2, qqE, ↓reduceIte, qqA, qqL, qqD, qqM, ite_self, hb0]
      refine iK_split (fun h1 => ?_) (fun h1 => ?_)
      ·have hL : wd = wLibrary := of_decide_eq_true h1
       have e2 : decide (((t.length + 1 : Nat) : Int) = 2) = decide (t.length = 1) := by by_cases h : t.length = 1 <;> simp [h] <;> omega
       simp only [gw2, qqE, ↓reduceIte, qqA, qqL, qqD, qqM, ite_self, List.length_map, e2]
       refine iK_split (fun h2 => ?_) (fun h2 => ?_)
       ·have hv : G = (false, 2) := by
         rw [← hG]
         cases t with
         | nil => simp [holdsD_eq, holdsD_nil, hk3, hk4, he2, hwd, hL]
         | cons x r => cases r with
          | nil => simp at h2
          | cons y z => simp [holdsD_eq, holdsD_nil, hk3, hk4, he2, hwd, hL]
        simp only [gw2, qqE, ↓reduceIte, qqA, qqL, qqD, qqM, ite_self]
        refine (c_libfail _ 2).useP (wkL_refl _) ?_
        rw [hv]
        simp only [gw2, qqE, ↓reduceIte, qqA, qqL, qqD, qqM, ite_self]
        exact outS_p (show (2 : Int) ≠ 0 by decide) (givesP_self (oops_lt _ _) hst)
       ·obtain ⟨x, rfl⟩ : ∃ x, t = [x] := by
         cases t with
         | nil => simp at h2
         | cons x r => cases r with
          | nil => exact ⟨x, rfl⟩
          | cons y z => simp at h2
        have hv : G = thenE (calledP x) false fun s => (decide (s ∈ w.libs), 0) := by
         rw [← hG]; simp [holdsD_eq, holdsD_nil, hk3, hk4, he2, hwd, hL]
        have hmx : okM x := okMs_mem hks (by simp)
        simp only [gw2, qqE, ↓reduceIte, qqA, qqL, qqD, qqM, ite_self, List.map_cons, List.map_nil]
        rcases (c_libcalled x hmx st).cases with ⟨he3, hc3⟩ | ⟨he3, hc3⟩
        ·have hfree : ∀ s0 : St, VCalls Tryz.prog TT 17 [.agg (encD x)] s0 fun r s' => r = .ret (.str (calledP x).1) ∧ s' = s0 := fun s0 => by
          rcases (c_libcalled x hmx s0).cases with ⟨_, h⟩ | ⟨h, _⟩
          ·exact h
          ·exact absurd he3 h
         refine vdraw TT_ok TT_mixed [0, 0, 0, 1, 0, 0, 0, 0, 0, 0] (by kernel_rfl) ?_
         simp only [bz12, gw2, qqE, ↓reduceIte, qqA, qqL, qqD, qqM, ite_self, hb0, List.length_cons, List.length_nil, show Int.toNat 1 = 1 from rfl]
         refine ⟨⟨by omega, by omega⟩, eK_free hfree (wkL_refl _) ?_⟩
         simp only [gw2, qqE, ↓reduceIte, qqA, qqL, qqD, qqM, ite_self, hb0]
         refine eK_free (fun s => c_Contains s w.libs (calledP x).1) (wkL_refl _) ?_
         simp only [gw2, qqE, ↓reduceIte, qqA, qqL, qqD, qqM, ite_self]
         rw [hv, thenE_ok he3]
         exact outS_g rfl (gives_self trivial hst)
        ·refine vpanic TT_ok TT_mixed [0, 0, 0, 1, 0, 0, 0, 0, 0, 0] [0, 1, 2, 3, 4, 5, 6] 7 [8, 9] [0, 1, 3, 5, 6, 8, 25, 41, 45, 46, 47] rfl (by kernel_rfl) ?_
         simp only [bz12, gw2, qqE, ↓reduceIte, qqA, qqL, qqD, qqM, ite_self, hb0, List.length_cons, List.length_nil, show Int.toNat 1 = 1 from rfl]
         refine ⟨⟨by omega, by omega⟩, pK_of hc3 (wkL_refl _) ?_⟩
         rw [hv, thenE_bad he3]
         exact outS_p he3 (givesP_self (oops_lt _ _) hst)
      ·cases hA : decide (wd = [97, 110, 100]) with
       | true =>
        have hO : decide (wd = [111, 114]) = false := by have := of_decide_eq_true hA; subst this; rfl
        simp only [gw2, qqE, ↓reduceIte, qqA, qqL, qqD, qqM, ite_self, hA, hb0]
        have hv : G = holdsL w false t := by rw [← hG, holdsD_eq, decide_eq_false hk3, decide_eq_true hk4, decide_eq_true he2, hwd, show decide (wd = wLibrary) = false from h1, show decide (wd = wAnd) = true from hA, show decide (wd = wOr) = false from hO]; rfl
        simp only [gw2, qqE, ↓reduceIte, qqA, qqL, qqD, qqM, ite_self, List.length_map, List.length_cons, List.drop_succ_cons, List.drop_zero, show Int.toNat 1 = 1 from rfl]
        refine ⟨⟨by omega, by omega⟩, ?_⟩
        refine vforD (σ := Nat) [0, 1, 3, 4, 5, 6, 25, 41, 45, 46, 47] (fun i => [(0, true, .ptr b 0), (1, true, .agg [.int .i64 k, .int .i64 n, .str nm, .int .i64 sk, .int .i64 sl, .lst 6 none (encD hh :: t.map encD)]), (3, true, .ref [.int .i64 k, .int .i64 n, .str nm, .int .i64 sk, .int .i64 sl, .lst 6 none (encD hh :: t.map encD)]), (4, true, .bool false), (5, true, (.lst 6 none (encD hh :: t.map encD))), (6, true, .str wd), (25, true, .str wd), (41, true, .bool true), (45, true, lstD t), (46, true, .int .i64 t.length), (47, true, .int .i64 i)]) (fun i => st) (fun i => t.length - i) (fun i => i ≤ t.length ∧ holdsL w false t = holdsL w false (t.drop i)) 0 rfl TT_ok ⟨Nat.zero_le _, rfl⟩ (wkE_refl _) rfl ?_
        rintro i ⟨hi, hI⟩
        rw [hI] at hv
        rcases at_or_end t i hi with ⟨rfl, hdd⟩ | ⟨a, hlt, hget, hdr⟩
        ·rw [hdd] at hv
         simp only [gw2, qqE, ↓reduceIte, qqA, qqL, qqD, qqM, ite_self, lt_no, lstD, hA]
         rw [hv]
         exact outS_g rfl (gives_self trivial hst)
        ·rw [hdr, holdsL_cons] at hv
         have hma : okM a := okMs_mem hks (by simp [List.mem_of_getElem? hget])
         have hsz : SizeOf.sizeOf a < N := by
          have g1 := size_mem (List.mem_of_getElem? hget)
          have g2 := size_kids k n nm sk sl (hh :: t)
          have g3 : SizeOf.sizeOf t < SizeOf.sizeOf (hh :: t) := by simp; omega
          omega
         simp only [bz17, gw2, qqE, ↓reduceIte, qqA, qqL, qqD, qqM, ite_self, lt_yes hlt, lstD, getD_map hget, Int.ofNat_lt.mpr hlt]
         rcases (c_libholds w b N a hsz hma (st ++ [.box (encD a)]) onm E nI B (hbx _)).cases with ⟨he3, hc3⟩ | ⟨he3, hc3⟩
         ·refine hc3.use (wkL_refl _) fun _ => ?_
          rw [decide_eq_true he3, Bool.not_true, cond_false] at hv
          simp only [gw2, qqE, ↓reduceIte, qqA, qqL, qqD, qqM, ite_self, hO]
          refine iK_split (fun h4 => ?_) (fun h4 => ?_)
          ·simp only [gw2, qqE, ↓reduceIte, qqA, qqL, qqD, qqM, ite_self, hO]
           rw [hv, show decide ((holdsD w a).1 = false) = true by simpa using h4]
           exact outS_g rfl (gives_of (wk_refl _) (wkSt_refl _) trivial hst)
          ·rw [show decide ((holdsD w a).1 = false) = false by simpa using h4, cond_false] at hv
           have hkl2 : t.length + 1 ≤ 2000 := hkl
           simp only [gw2, qqE, ↓reduceIte, qqA, qqL, qqD, qqM, ite_self, Env.keep, next_i64 hlt (by omega)]
           refine ⟨i + 1, ⟨wkE_refl _, st, [.box (encD a)], rfl, wkSt_refl _, ?_, hst, Nat.le_refl _⟩, by omega, hlt, by rw [hI, hdr, holdsL_cons, decide_eq_true he3, show decide ((holdsD w a).1 = false) = false by simpa using h4]; rfl⟩
           simp only [ltE, V.lt]
           have q1 := encD_lt st.length (.mk k n nm sk sl (hh :: t))
           rw [encD_mk] at q1
           have q2 := lstD_lt st.length (hh :: t)
           have q3 := lstD_lt st.length t
           simp only [lstD, V.lt, List.map_cons] at q1 q2 q3
           exact ⟨hbl, q1, q1, trivial, q2, trivial, trivial, trivial, q3, trivial, trivial, trivial⟩
         ·refine hc3.useP (wkL_refl _) ?_
          rw [hv, decide_eq_false he3, Bool.not_false, cond_true]
          simp only [gw2, qqE, ↓reduceIte, qqA, qqL, qqD, qqM, ite_self]
          exact outS_p he3 (givesP_of (wk_refl _) (wkSt_refl _) (oops_lt _ _) hst)
       | false =>
        cases hO : decide (wd = [111, 114]) with
        | true =>
         simp only [gw2, qqE, ↓reduceIte, qqA, qqL, qqD, qqM, ite_self, hA, hO, hb0]
         have hv : G = holdsL w true t := by rw [← hG, holdsD_eq, decide_eq_false hk3, decide_eq_true hk4, decide_eq_true he2, hwd, show decide (wd = wLibrary) = false from h1, show decide (wd = wAnd) = false from hA, show decide (wd = wOr) = true from hO]; rfl
         simp only [gw2, qqE, ↓reduceIte, qqA, qqL, qqD, qqM, ite_self, List.length_map, List.length_cons, List.drop_succ_cons, List.drop_zero, show Int.toNat 1 = 1 from rfl]
         refine ⟨⟨by omega, by omega⟩, ?_⟩
         refine vforD (σ := Nat) [0, 1, 3, 4, 5, 6, 25, 41, 45, 46, 47] (fun i => [(0, true, .ptr b 0), (1, true, .agg [.int .i64 k, .int .i64 n, .str nm, .int .i64 sk, .int .i64 sl, .lst 6 none (encD hh :: t.map encD)]), (3, true, .ref [.int .i64 k, .int .i64 n, .str nm, .int .i64 sk, .int .i64 sl, .lst 6 none (encD hh :: t.map encD)]), (4, true, .bool false), (5, true, (.lst 6 none (encD hh :: t.map encD))), (6, true, .str wd), (25, true, .str wd), (41, true, .bool true), (45, true, lstD t), (46, true, .int .i64 t.length), (47, true, .int .i64 i)]) (fun i => st) (fun i => t.length - i) (fun i => i ≤ t.length ∧ holdsL w true t = holdsL w true (t.drop i)) 0 rfl TT_ok ⟨Nat.zero_le _, rfl⟩ (wkE_refl _) rfl ?_
         rintro i ⟨hi, hI⟩
         rw [hI] at hv
         rcases at_or_end t i hi with ⟨rfl, hdd⟩ | ⟨a, hlt, hget, hdr⟩
         ·rw [hdd] at hv
          simp only [gw2, qqE, ↓reduceIte, qqA, qqL, qqD, qqM, ite_self, lt_no, lstD, hA]
          rw [hv]
          exact outS_g rfl (gives_self trivial hst)
         ·rw [hdr, holdsL_cons] at hv
          have hma : okM a := okMs_mem hks (by simp [List.mem_of_getElem? hget])
          have hsz : SizeOf.sizeOf a < N := by
           have g1 := size_mem (List.mem_of_getElem? hget)
           have g2 := size_kids k n nm sk sl (hh :: t)
           have g3 : SizeOf.sizeOf t < SizeOf.sizeOf (hh :: t) := by simp; omega
           omega
          simp only [bz17, gw2, qqE, ↓reduceIte, qqA, qqL, qqD, qqM, ite_self, lt_yes hlt, lstD, getD_map hget, Int.ofNat_lt.mpr hlt]
          rcases (c_libholds w b N a hsz hma (st ++ [.box (encD a)]) onm E nI B (hbx _)).cases with ⟨he3, hc3⟩ | ⟨he3, hc3⟩
          ·refine hc3.use (wkL_refl _) fun _ => ?_
           rw [decide_eq_true he3, Bool.not_true, cond_false] at hv
           simp only [gw2, qqE, ↓reduceIte, qqA, qqL, qqD, qqM, ite_self, hO]
           refine iK_split (fun h4 => ?_) (fun h4 => ?_)
           ·simp only [gw2, qqE, ↓reduceIte, qqA, qqL, qqD, qqM, ite_self, hO]
            rw [hv, show decide ((holdsD w a).1 = true) = true by simpa using h4]
            exact outS_g rfl (gives_of (wk_refl _) (wkSt_refl _) trivial hst)
           ·rw [show decide ((holdsD w a).1 = true) = false by simpa using h4, cond_false] at hv
            have hkl2 : t.length + 1 ≤ 2000 := hkl
            simp only [gw2, qqE, ↓reduceIte, qqA, qqL, qqD, qqM, ite_self, Env.keep, next_i64 hlt (by omega)]
            refine ⟨i + 1, ⟨wkE_refl _, st, [.box (encD a)], rfl, wkSt_refl _, ?_, hst, Nat.le_refl _⟩, by omega, hlt, by rw [hI, hdr, holdsL_cons, decide_eq_true he3, show decide ((holdsD w a).1 = true) = false by simpa using h4]; rfl⟩
            simp only [ltE, V.lt]
            have q1 := encD_lt st.length (.mk k n nm sk sl (hh :: t))
            rw [encD_mk] at q1
            have q2 := lstD_lt st.length (hh :: t)
            have q3 := lstD_lt st.length t
            simp only [lstD, V.lt, List.map_cons] at q1 q2 q3
            exact ⟨hbl, q1, q1, trivial, q2, trivial, trivial, trivial, q3, trivial, trivial, trivial⟩
          ·refine hc3.useP (wkL_refl _) ?_
           rw [hv, decide_eq_false he3, Bool.not_false, cond_true]
           simp only [gw2, qqE, ↓reduceIte, qqA, qqL, qqD, qqM, ite_self]
           exact outS_p he3 (givesP_of (wk_refl _) (wkSt_refl _) (oops_lt _ _) hst)
        | false =>
         simp only [gw2, qqE, ↓reduceIte, qqA, qqL, qqD, qqM, ite_self, hA, hO, hb0]
         have hh0 : holdsD w (.mk k n nm sk sl (hh :: t)) = bif decide (wd = wNot) then (match t with
           | [x] => (!(holdsD w x).1, (holdsD w x).2)
           | _ => (false, 2))
          else (false, 2) := by rw [holdsD_eq, decide_eq_false hk3, decide_eq_true hk4, decide_eq_true he2, hwd, show decide (wd = wLibrary) = false from h1, show decide (wd = wAnd) = false from hA, show decide (wd = wOr) = false from hO]; rfl
         rw [hG] at hh0
         refine iK_split (fun h3 => ?_) (fun h3 => ?_)
         ·rw [show decide (wd = wNot) = true from h3, cond_true] at hh0
          have e2 : decide (((t.length + 1 : Nat) : Int) = 2) = decide (t.length = 1) := by by_cases h : t.length = 1 <;> simp [h] <;> omega
          simp only [gw2, qqE, ↓reduceIte, qqA, qqL, qqD, qqM, ite_self, List.length_map, List.length_cons, e2, hb0]
          refine iK_split (fun h2 => ?_) (fun h2 => ?_)
          ·have hv : G = (false, 2) := by
            rw [hh0]
            cases t with
            | nil => rfl
            | cons x r => cases r with
             | nil => simp at h2
             | cons y z => rfl
           simp only [gw2, qqE, ↓reduceIte, qqA, qqL, qqD, qqM, ite_self]
           refine (c_libfail _ 2).useP (wkL_refl _) ?_
           rw [hv]
           simp only [gw2, qqE, ↓reduceIte, qqA, qqL, qqD, qqM, ite_self]
           exact outS_p (show (2 : Int) ≠ 0 by decide) (givesP_self (oops_lt _ _) hst)
          ·obtain ⟨x, rfl⟩ : ∃ x, t = [x] := by
            cases t with
            | nil => simp at h2
            | cons x r => cases r with
             | nil => exact ⟨x, rfl⟩
             | cons y z => simp at h2
           simp only at hh0
           have hmx : okM x := okMs_mem hks (by simp)
           have hsz : SizeOf.sizeOf x < N := by
            have g1 := size_mem (show x ∈ [x] by simp)
            have g2 := size_kids k n nm sk sl [hh, x]
            have g3 : SizeOf.sizeOf [x] < SizeOf.sizeOf [hh, x] := by simp; omega
            omega
           simp only [bz20, bz12, gw2, qqE, ↓reduceIte, qqA, qqL, qqD, qqM, ite_self, List.length_cons, show Int.toNat 1 = 1 from rfl]
           refine ⟨⟨by omega, by omega⟩, ?_⟩
           rcases (c_libholds w b N x hsz hmx st onm E nI B hb0).cases with ⟨he3, hc3⟩ | ⟨he3, hc3⟩
           ·refine hc3.use (wkL_refl _) fun _ => ?_
            simp only [gw2, qqE, ↓reduceIte, qqA, qqL, qqD, qqM, ite_self]
            rw [hh0]
            exact outS_g he3 (gives_self trivial hst)
           ·refine hc3.useP (wkL_refl _) ?_
            rw [hh0]
            simp only [gw2, qqE, ↓reduceIte, qqA, qqL, qqD, qqM, ite_self]
            exact outS_p he3 (givesP_self (oops_lt _ _) hst)
         ·rw [show decide (wd = wNot) = false from h3, cond_false] at hh0
          simp only [gw2, qqE, ↓reduceIte, qqA, qqL, qqD, qqM, ite_self]
          refine (c_libfail _ 2).useP (wkL_refl _) ?_
          rw [hh0]
          simp only [gw2, qqE, ↓reduceIte, qqA, qqL, qqD, qqM, ite_self]
          exact outS_p (show (2 : Int) ≠ 0 by decide) (givesP_self (oops_lt _ _) hst)
     ·refine hc2.useP (wkL_refl _) ?_
      have hv : G = (false, (symP hh).2) := by rw [← hG]; simp [holdsD_eq, holdsD_nil, hk3, hk4, he2]
      rw [hv]
      simp only [gw2, qqE, ↓reduceIte, qqA, qqL, qqD, qqM, ite_self]
      exact outS_p he2 (givesP_self (oops_lt _ _) hst)
   ·refine hc.useP (by rw [encD_mk]; exact wkL_refl _) ?_
    have hv : G = (false, 2) := by
     rw [← hG]
     simp only [listP] at he
     by_cases h4 : k = 4
     ·cases kids with
      | nil => simp [holdsD_nil, hk3]
      | cons x r => simp [h4] at he
     ·cases kids <;> simp [holdsD_eq, holdsD_nil, hk3, h4]
    have hv2 : (listP 1 (.mk k n nm sk sl kids)).2 = 2 := by
     simp only [listP] at he ⊢
     cases e : !decide (k = 4) || decide (kids.length < 1) with
     | true => rfl
     | false => rw [e] at he; exact absurd rfl he
    rw [hv, hv2]
    simp only [gw2, qqE, ↓reduceIte, qqA, qqL, qqD, qqM, ite_self]
    exact outS_p (show (2 : Int) ≠ 0 by decide) (givesP_self (oops_lt _ _) hst)
theorem exportP_ok : ∀ (l : List Datum) (o : Lib'), okO o → okO (exportP l o).1
 | [], o, h => h
 | d :: r, o, h => by
  simp only [exportP]
  cases decide ((exportOne d).2 = 0) with
  | false => exact h
  | true =>
   cases o.exps.any fun p => decide (p.1 = (exportOne d).1.1) with
   | true => exact h
   | false =>
    cases e : decide (o.exps.length = 200) with
    | true => exact h
    | false => exact exportP_ok r _ (okO_exp h _ (of_decide_eq_false e))
theorem okO_imp {o : Lib'} (h : okO o) (s : Set') (hl : o.imps.length ≠ 20) : okO { o with imps := o.imps ++ [s] } := ⟨h.1, by have := h.2.1; simp; omega, h.2.2⟩
theorem importP_ok : ∀ (l : List Datum) (o : Lib'), okO o → okO (importP l o).1
 | [], o, h => h
 | d :: r, o, h => by
  simp only [importP]
  cases e : decide (o.imps.length = 20) with
  | true => exact h
  | false =>
   cases decide ((setP 12 d).2 = 0) with
   | false => exact h
   | true => exact importP_ok r _ (okO_imp h _ (of_decide_eq_false e))
theorem includeP_ok (w : Wd) : ∀ (l : List Datum) (o : Lib'), okO o → okO (includeP w l o).1
 | [], o, h => h
 | d :: r, o, h => by
  rw [includeP]
  cases decide ((symP d).2 = 0) with
  | false => exact h
  | true =>
   simp only [cond_true]
   cases fileOf (symP d).1 w.files with
   | none => exact h
   | some t =>
    simp only
    cases readR t with
    | inl f => exact h
    | inr k =>
     simp only
     cases decide ((bodyL k o).2 = 0) with
     | true => exact includeP_ok w r _ (bodyL_ok h k)
     | false => exact bodyL_ok h k
mutual
theorem declD_ok (w : Wd) : ∀ (d : Datum) (o : Lib'), okO o → okO (declD w d o).1
 | .mk k n nm s l kids, o, h => by
  rw [declD_eq]
  cases !decide (k = 4) with
  | true => exact h
  | false =>
   simp only [cond_false]
   cases kids with
   | nil => exact h
   | cons hh t =>
    simp only
    cases !decide ((symP hh).2 = 0) with
    | true => exact h
    | false =>
     cases decide ((symP hh).1 = wExport) with
     | true =>
      cases decide (o.name = []) with
      | true => exact h
      | false => exact exportP_ok t o h
     | false =>
      cases decide ((symP hh).1 = wImport) with
      | true => exact importP_ok t o h
      | false =>
       cases decide ((symP hh).1 = wBegin) with
       | true => exact bodyL_ok h t
       | false =>
        cases decide ((symP hh).1 = wInclude) with
        | true => exact includeP_ok w t o h
        | false =>
         cases decide ((symP hh).1 = wCond) with
         | true => exact condL_ok w t o h
         | false => exact h
theorem declsL_ok (w : Wd) : ∀ (l : List Datum) (o : Lib'), okO o → okO (declsL w l o).1
 | [], o, h => h
 | d :: r, o, h => by
  rw [declsL_cons]
  cases decide ((declD w d o).2 = 0) with
  | true => exact declsL_ok w r _ (declD_ok w d o h)
  | false => exact declD_ok w d o h
theorem condL_ok (w : Wd) : ∀ (l : List Datum) (o : Lib'), okO o → okO (condL w l o).1
 | [], o, h => h
 | .mk k n nm s l kids :: r, o, h => by
  rw [condL_cons]
  cases !decide (k = 4) with
  | true => exact h
  | false =>
   simp only [cond_false]
   cases kids with
   | nil => exact h
   | cons hh t =>
    simp only
    cases isElse hh with
    | true => exact declsL_ok w t o h
    | false =>
     cases !decide ((holdsD w hh).2 = 0) with
     | true => exact h
     | false =>
      cases (holdsD w hh).1 with
      | true => exact declsL_ok w t o h
      | false => exact condL_ok w r o h
end
def DeclsC (w : Wd) (N : Nat) : Prop := ∀ l : List Datum, SizeOf.sizeOf l < N → okMs l → l.length ≤ 2000 → ∀ o, okO o → ∀ (st : St) (b : Nat), b + 3 < st.length →
 OutS 18 [.ptr b 0, lstD l] (wS st w b o) (.tup []) (declsL w l o).2 (wS st w b (declsL w l o).1)
def CondC (w : Wd) (N : Nat) : Prop := ∀ l : List Datum, SizeOf.sizeOf l < N → okMs l → l.length ≤ 2000 → ∀ o, okO o → ∀ (st : St) (b : Nat), b + 3 < st.length →
 OutS 47 [.ptr b 0, lstD l] (wS st w b o) (.tup []) (condL w l o).2 (wS st w b (condL w l o).1)
theorem bz8 : type_of% @List.drop_succ_cons.{0} ∧ type_of% @List.drop_zero.{0} ∧ type_of% @List.length_cons.{0} ∧ type_of% @List.length_map.{0,0} ∧ (Int.toNat 0 = 0) ∧ (Int.toNat 1 = 1) ∧ type_of% @wR_k ∧ type_of% @wR_k0 ∧ type_of% @wR_len ∧ type_of% @wR_sk ∧ type_of% @wR_sk0 := ⟨@List.drop_succ_cons.{0}, @List.drop_zero.{0}, @List.length_cons.{0}, @List.length_map.{0,0}, rfl, rfl, @wR_k, @wR_k0, @wR_len, @wR_sk, @wR_sk0⟩
set_option maxHeartbeats 4000000 in
theorem c_libdecls (w : Wd) (N : Nat) (ihC : CondC w N) : DeclsC w (N + 1) := by
 intro l hsz hm hl o ho st b hb
 refine OutS_of (by rw [wS_len, wS_len]; exact Nat.le_refl _) ?_
 refine vfunQ TT_ok (an := anL []) (L := [0, 1, 5, 6, 8, 9, 10, 11, 20, 38, 39, 40]) (rs := []) Tryz.func18 rfl (by kernel_rfl) rfl Tryz.ntmps18 rfl rfl fun hst ha hf => ?_
 have hw := fun o' => wS_ok hb o' hst
 simp only [gw2, qqE, ↓reduceIte, qqA, qqL, qqD, qqM, ite_self, lstD, List.length_map]
 refine vforD (σ := Nat × Lib') [0, 1, 9, 10, 11] (fun x => [(0, true, .ptr b 0), (1, true, lstD l), (9, true, lstD l), (10, true, .int .i64 l.length), (11, true, .int .i64 x.1)]) (fun x => wS st w b x.2) (fun x => l.length - x.1) (fun x => x.1 ≤ l.length ∧ okO x.2 ∧ declsL w l o = declsL w (l.drop x.1) x.2) (0, o) rfl TT_ok ⟨Nat.zero_le _, ho, rfl⟩ (wkE_refl _) rfl ?_
 rintro ⟨i, o1⟩ ⟨hi, ho1, hI⟩
 simp only at hi ho1 hI ⊢
 rw [hI]
 rcases at_or_end l i hi with ⟨rfl, hd⟩ | ⟨a, hlt, hget, hdr⟩
 ·rw [hd]
  simp only [gw2, qqE, ↓reduceIte, qqA, qqL, qqD, qqM, ite_self, lt_no, lstD]
  exact outS_g rfl (gives_self trivial (hw o1))
 ·rw [hdr]
  have hma : okM a := okMs_mem hm (List.mem_of_getElem? hget)
  have hE := declsL_cons w a (l.drop (i + 1)) o1
  have hok0 := declD_ok w a o1 ho1
  generalize hG : declsL w (a :: l.drop (i + 1)) o1 = G at hE
  have hsa := size_mem (List.mem_of_getElem? hget)
  obtain ⟨ka, na, nma, sa, la, kidsa⟩ := a
  simp only [wS, cellsW]
  simp only [bz17, bz14, gw2, qqE, ↓reduceIte, qqA, qqL, qqD, qqM, ite_self, lt_yes hlt, lstD, getD_map hget, Int.ofNat_lt.mpr hlt, wR_b hb, wR_1 hb, wR_2 hb, wR_3 hb, wR_sb hb, wR_sE hb, wR_sI hb, wR_sB hb, encD_mk]
  rcases (c_liblist (.mk ka na nma sa la kidsa) 1 (wR st b [.lst 2 none (rows2 w.files), encS w.feats, encS w.libs, .str o1.name, .lst 2 (some (b + 1)) (rows2 o1.exps), .arr (b + 2) o1.imps.length, .lst 6 (some (b + 3)) (o1.body.map encD), .int .i64 0] o1.exps.length (o1.imps.map encSet) o1.body.length ++ [.box [.int .i64 ka, .int .i64 na, .str nma, .int .i64 sa, .int .i64 la, .lst 6 none (kidsa.map encD)]])).cases with ⟨he, hc⟩ | ⟨he, hc⟩
  ·refine hc.use (by rw [encD_mk]; exact wkL_refl _) fun _ => ?_
   have hk4 : ka = 4 ∧ kidsa ≠ [] ∧ (listP 1 (.mk ka na nma sa la kidsa)).1 = kidsa := by
    simp only [listP] at he ⊢
    cases e : !decide (ka = 4) || decide (kidsa.length < 1) with
    | true => rw [e] at he; simp at he
    | false =>
     simp only [Bool.or_eq_false_iff, Bool.not_eq_false', decide_eq_true_eq, decide_eq_false_iff_not] at e
     exact ⟨e.1, fun h => by rw [h] at e; simp at e, rfl⟩
   obtain ⟨hk4, hne, hkk⟩ := hk4
   rw [hkk]
   have hmk := hma
   rw [okM] at hmk
   obtain ⟨hkl, hks⟩ := hmk.2 hk4
   cases kidsa with
   | nil => exact absurd rfl hne
   | cons hh t =>
    have htl : t.length + 1 ≤ 2000 := hkl
    have htm : okMs t := hks.2
    have hst2 : SizeOf.sizeOf t < N := by
     have g2 := size_kids ka na nma sa la (hh :: t)
     have g3 : SizeOf.sizeOf t < SizeOf.sizeOf (hh :: t) := by simp; omega
     omega
    simp only [bz8, bz12, gw2, qqE, ↓reduceIte, qqA, qqL, qqD, qqM, ite_self, lstD, List.map_cons, Nat.le_add_left, wR_b hb, wR_1 hb, wR_2 hb, wR_3 hb, wR_sb hb, wR_sE hb, wR_sI hb, wR_sB hb]
    refine ⟨⟨by omega, by omega⟩, ?_⟩
    rcases (c_libsym hh (wR st b [.lst 2 none (rows2 w.files), encS w.feats, encS w.libs, .str o1.name, .lst 2 (some (b + 1)) (rows2 o1.exps), .arr (b + 2) o1.imps.length, .lst 6 (some (b + 3)) (o1.body.map encD), .int .i64 0] o1.exps.length (o1.imps.map encSet) o1.body.length ++ [.box [.int .i64 ka, .int .i64 na, .str nma, .int .i64 sa, .int .i64 la, .lst 6 none (encD hh :: t.map encD)]])).cases with ⟨he2, hc2⟩ | ⟨he2, hc2⟩
    ·refine hc2.use (wkL_refl _) fun _ => ?_
     have hDD : declD w (.mk ka na nma sa la (hh :: t)) o1 = bif decide ((symP hh).1 = wExport) then (bif decide (o1.name = []) then (o1, 2) else exportP t o1)
      else bif decide ((symP hh).1 = wImport) then importP t o1
      else bif decide ((symP hh).1 = wBegin) then bodyL t o1
      else bif decide ((symP hh).1 = wInclude) then includeP w t o1
      else bif decide ((symP hh).1 = wCond) then condL w t o1
      else (o1, 2) := by rw [declD_eq, decide_eq_true hk4]; simp only [Bool.not_true, cond_false, decide_eq_true he2]
     generalize (symP hh).1 = wd at hDD
     simp only [gw2, qqE, ↓reduceIte, qqA, qqL, qqD, qqM, ite_self]
     refine iK_split (fun h1 => ?_) (fun h1 => ?_)
     ·rw [show decide (wd = wExport) = true from h1, cond_true] at hDD
      simp only [bz14, gw2, qqE, ↓reduceIte, qqA, qqL, qqD, qqM, ite_self, wR_b hb, wR_1 hb, wR_2 hb, wR_3 hb, wR_sb hb, wR_sE hb, wR_sI hb, wR_sB hb]
      refine iK_split (fun h2 => ?_) (fun h2 => ?_)
      ·rw [h2, cond_true] at hDD
       rw [hDD] at hE
       simp only [gw2, qqE, ↓reduceIte, qqA, qqL, qqD, qqM, ite_self]
       refine (c_libfail _ 2).useP (wkL_refl _) ?_
       rw [hE]
       simp only [gw2, qqE, ↓reduceIte, qqA, qqL, qqD, qqM, ite_self]
       exact outS_p (show (2 : Int) ≠ 0 by decide) (givesP_of (wk_refl _) (wkSt_refl _) (oops_lt _ _) (hw o1))
      ·rw [h2, cond_false] at hDD
       have hok := exportP_ok t o1 ho1
       simp only [bz8, gw2, qqE, ↓reduceIte, qqA, qqL, qqD, qqM, ite_self, Nat.le_add_left, wR_b hb, wR_1 hb, wR_2 hb, wR_3 hb, wR_sb hb, wR_sE hb, wR_sI hb, wR_sB hb]
       refine ⟨⟨by omega, by omega⟩, ?_⟩
       have hD : declD w (.mk ka na nma sa la (hh :: t)) o1 = exportP t o1 := by rw [hDD]
       rw [hD] at hE
       have hbd := c_libexport w t htm o1 ho1 (by omega) (st ++ [.box [.int .i64 ka, .int .i64 na, .str nma, .int .i64 sa, .int .i64 la, .lst 6 none (encD hh :: t.map encD)]]) b (by simp; omega)
       rw [wS_app hb, wS_app hb] at hbd
       rcases hbd.cases with ⟨he5, hc5⟩ | ⟨he5, hc5⟩
       ·simp only [wS, cellsW] at hc5
        refine hc5.use (wkL_refl _) fun _ => ?_
        rw [decide_eq_true he5, cond_true] at hE
        simp only [gw2, qqE, ↓reduceIte, qqA, qqL, qqD, qqM, ite_self, wR_len, Env.keep, next_i64 hlt (by omega)]
        refine ⟨(i + 1, (exportP t o1).1), ⟨wkE_refl _, wS st w b (exportP t o1).1, [.box [.int .i64 ka, .int .i64 na, .str nma, .int .i64 sa, .int .i64 la, .lst 6 none (encD hh :: t.map encD)]], by simp [wS, cellsW], wkSt_refl _, ?_, hw _, by rw [wR_len]; exact Nat.le_refl _⟩, by dsimp only; omega, hlt, hok, hE⟩
        simp only [ltE, V.lt]
        have hll := lstD_lt (wS st w b (exportP t o1).1).length l
        simp only [lstD, V.lt] at hll
        exact ⟨by rw [wR_len]; omega, hll, hll, trivial, trivial, trivial⟩
       ·simp only [wS, cellsW] at hc5
        refine hc5.useP (wkL_refl _) ?_
        rw [decide_eq_false he5, cond_false] at hE
        rw [hE]
        simp only [gw2, qqE, ↓reduceIte, qqA, qqL, qqD, qqM, ite_self]
        exact outS_p he5 (givesP_of (wk_refl _) (wkSt_refl _) (oops_lt _ _) (hw (exportP t o1).1))
     rw [show decide (wd = wExport) = false from h1, cond_false] at hDD
     simp only [gw2, qqE, ↓reduceIte, qqA, qqL, qqD, qqM, ite_self]
     refine iK_split (fun h2 => ?_) (fun h2 => ?_)
     ·rw [show decide (wd = wImport) = true from h2, cond_true] at hDD
      simp only [bz8, gw2, qqE, ↓reduceIte, qqA, qqL, qqD, qqM, ite_self, Nat.le_add_left, wR_b hb, wR_1 hb, wR_2 hb, wR_3 hb, wR_sb hb, wR_sE hb, wR_sI hb, wR_sB hb]
      refine ⟨⟨by omega, by omega⟩, ?_⟩
      rw [hDD] at hE
      refine vforD (σ := Nat × Lib') [0, 1, 5, 6, 9, 10, 11, 20, 38, 39, 40] (fun x => [(0, true, .ptr b 0), (1, true, lstD l), (5, true, .ptr st.length 0), (6, true, .lst 6 none (encD hh :: t.map encD)), (9, true, lstD l), (10, true, .int .i64 l.length), (11, true, .int .i64 i), (20, true, .str wd), (38, true, lstD t), (39, true, .int .i64 t.length), (40, true, .int .i64 x.1)]) (fun x => wS st w b x.2 ++ [.box [.int .i64 ka, .int .i64 na, .str nma, .int .i64 sa, .int .i64 la, .lst 6 none (encD hh :: t.map encD)]]) (fun x => t.length - x.1) (fun x => x.1 ≤ t.length ∧ okO x.2 ∧ importP t o1 = importP (t.drop x.1) x.2) (0, o1) rfl TT_ok ⟨Nat.zero_le _, ho1, rfl⟩ (wkE_refl _) rfl ?_
      rintro ⟨q, o2⟩ ⟨hq, ho2, hJ⟩
      simp only at hq ho2 hJ ⊢
      rw [hJ] at hE
      rcases at_or_end t q hq with ⟨rfl, hdd⟩ | ⟨x, hlt2, hget2, hdr2⟩
      ·rw [hdd, importP] at hE
       simp only [show decide ((0 : Int) = 0) = true from rfl, cond_true] at hE
       simp only [wS, cellsW]
       simp only [gw2, qqE, ↓reduceIte, qqA, qqL, qqD, qqM, ite_self, lt_no, lstD, wR_len, Env.keep, next_i64 hlt (by omega)]
       refine ⟨(i + 1, o2), ⟨wkE_refl _, wS st w b o2, [.box [.int .i64 ka, .int .i64 na, .str nma, .int .i64 sa, .int .i64 la, .lst 6 none (encD hh :: t.map encD)]], by simp [wS, cellsW], wkSt_refl _, ?_, hw _, by rw [wR_len]; exact Nat.le_refl _⟩, by dsimp only; omega, hlt, ho2, hE⟩
       simp only [ltE, V.lt]
       have hll := lstD_lt (wS st w b o2).length l
       simp only [lstD, V.lt] at hll
       exact ⟨by rw [wR_len]; omega, hll, hll, trivial, trivial, trivial⟩
      ·rw [hdr2, importP] at hE
       have hmx : okM x := okMs_mem htm (List.mem_of_getElem? hget2)
       have e7 : decide ((o2.imps.length : Int) = 20) = decide (o2.imps.length = 20) := by by_cases h : o2.imps.length = 20 <;> simp [h] <;> omega
       simp only [wS, cellsW]
       simp only [bz17, bz14, gw2, qqE, ↓reduceIte, qqA, qqL, qqD, qqM, ite_self, lt_yes hlt2, lstD, getD_map hget2, Int.ofNat_lt.mpr hlt2, wR_b hb, wR_1 hb, wR_2 hb, wR_3 hb, wR_sb hb, wR_sE hb, wR_sI hb, wR_sB hb, e7]
       refine iK_split (fun h3 => ?_) (fun h3 => ?_)
       ·rw [h3, cond_true, show decide ((5 : Int) = 0) = false from rfl, cond_false] at hE
        simp only [gw2, qqE, ↓reduceIte, qqA, qqL, qqD, qqM, ite_self]
        refine (c_libfail _ 5).useP (wkL_refl _) ?_
        rw [hE]
        simp only [gw2, qqE, ↓reduceIte, qqA, qqL, qqD, qqM, ite_self]
        exact outS_p (show (5 : Int) ≠ 0 by decide) (givesP_of (wk_refl _) (wkSt_refl _) (oops_lt _ _) (hw o2))
       ·rw [h3, cond_false] at hE
        simp only [bz14, gw2, qqE, ↓reduceIte, qqA, qqL, qqD, qqM, ite_self, wR_b hb, wR_1 hb, wR_2 hb, wR_3 hb, wR_sb hb, wR_sE hb, wR_sI hb, wR_sB hb]
        rcases (c_libset 12 x 1 (Nat.le_refl _) rfl hmx (wR st b [.lst 2 none (rows2 w.files), encS w.feats, encS w.libs, .str o2.name, .lst 2 (some (b + 1)) (rows2 o2.exps), .arr (b + 2) o2.imps.length, .lst 6 (some (b + 3)) (o2.body.map encD), .int .i64 0] o2.exps.length (o2.imps.map encSet) o2.body.length ++ [.box [.int .i64 ka, .int .i64 na, .str nma, .int .i64 sa, .int .i64 la, .lst 6 none (encD hh :: t.map encD)], .box (encD x)])).cases with ⟨he5, hc5⟩ | ⟨he5, hc5⟩
        ·rw [decide_eq_true he5, cond_true] at hE
         have hfree : ∀ s0 : St, VCalls Tryz.prog TT 44 [.agg (encD x), .int .i64 1] s0 fun r s' => r = .ret (.agg (encSet (setP 12 x).1)) ∧ s' = s0 := fun s0 => by
          rcases (c_libset 12 x 1 (Nat.le_refl _) rfl hmx s0).cases with ⟨_, h⟩ | ⟨h, _⟩
          ·exact h
          ·exact absurd he5 h
         have hset1 : ∀ z X : List V, (o2.imps.map encSet ++ [z]).set o2.imps.length X = o2.imps.map encSet ++ [X] := fun z X => by rw [List.set_append_right _ _ (by simp)]; simp
         have hget1 : ∀ z : List V, (o2.imps.map encSet ++ [z]).getD o2.imps.length [] = z := fun z => by simp [List.getD_eq_getElem?_getD]
         have hw1 : IntKind.i64.wrap ((o2.imps.length : Int) + 1) = ((o2.imps.length + 1 : Nat) : Int) := by have := ho2.2.1; rw [wrap_i64 (by omega) (by omega)]; omega
         refine vstageT TT_ok TT_mixed (σ := Unit) [] [0, 0, 0, 0, 1, 1, 0, 0, 0, 2, 0, 2, 0, 0, 0, 2] [0, 1, 2, 3, 4, 5, 6, 7, 8, 9] [10, 11, 12, 13, 14, 15] [.nd 10 [.nd 11 [.nd 12 [.nd 13 [.nd 14 [.nd 15 []]]]], .nd 12 [.nd 11 [.nd 13 [.nd 14 [.nd 15 []]]], .nd 13 [.nd 11 [.nd 14 [.nd 15 []]], .nd 14 [.nd 11 [.nd 15 []], .nd 15 [.nd 11 []]]]]], .nd 12 [.nd 10 [.nd 11 [.nd 13 [.nd 14 [.nd 15 []]]], .nd 13 [.nd 11 [.nd 14 [.nd 15 []]], .nd 14 [.nd 11 [.nd 15 []], .nd 15 [.nd 11 []]]]], .nd 13 [.nd 10 [.nd 11 [.nd 14 [.nd 15 []]], .nd 14 [.nd 11 [.nd 15 []], .nd 15 [.nd 11 []]]], .nd 14 [.nd 10 [.nd 11 [.nd 15 []], .nd 15 [.nd 11 []]], .nd 15 [.nd 10 [.nd 11 []]]]]]] [0, 1, 5, 6, 9, 10, 11, 20, 38, 39, 40, 8] (fun _x => [(0, true, .ptr b 0), (1, true, lstD l), (5, true, .ptr st.length 0), (6, true, .lst 6 none (encD hh :: t.map encD)), (9, true, lstD l), (10, true, .int .i64 l.length), (11, true, .int .i64 i), (20, true, .str wd), (38, true, lstD t), (39, true, .int .i64 t.length), (40, true, .int .i64 q), (8, true, .ptr (st.length + 1) 0)]) (fun _x => wR st b [.lst 2 none (rows2 w.files), encS w.feats, encS w.libs, .str o2.name, .lst 2 (some (b + 1)) (rows2 o2.exps), .arr (b + 2) (o2.imps.length + 1), .lst 6 (some (b + 3)) (o2.body.map encD), .int .i64 0] o2.exps.length (o2.imps.map encSet ++ [encSet (setP 12 x).1]) o2.body.length ++ [.box [.int .i64 ka, .int .i64 na, .str nma, .int .i64 sa, .int .i64 la, .lst 6 none (encD hh :: t.map encD)], .box (encD x)]) (fun _x => True) rfl (by kernel_rfl) ?_ ?_
         ·simp only [bz12, bz14, gw2, qqE, ↓reduceIte, qqA, qqL, qqD, qqM, ite_self, wR_b hb, wR_1 hb, wR_2 hb, wR_3 hb, wR_sb hb, wR_sE hb, wR_sI hb, wR_sB hb]
          refine eK3_free hfree (wkL_refl _) ?_
          simp only [bz17, bz14, gw2, qqE, ↓reduceIte, qqA, qqL, qqD, qqM, ite_self, wR_b hb, wR_1 hb, wR_2 hb, wR_3 hb, wR_sb hb, wR_sE hb, wR_sI hb, wR_sB hb, hset1, hget1, hw1, encSet_len, encSet_take, List.length_append, List.length_cons, List.length_nil]
          have hil := ho2.2.1
          repeat' (first | exact ⟨rfl, rfl, (), rfl, rfl, trivial⟩ | omega | apply And.intro)
         ·rintro - -
          simp only [bz14, gw2, qqE, ↓reduceIte, qqA, qqL, qqD, qqM, ite_self, wR_b hb, wR_1 hb, wR_2 hb, wR_3 hb, wR_sb hb, wR_sE hb, wR_sI hb, wR_sB hb, Env.keep, next_i64 hlt2 (by omega)]
          refine ⟨(q + 1, { o2 with imps := o2.imps ++ [(setP 12 x).1] }), ⟨wkE_refl _, wS st w b { o2 with imps := o2.imps ++ [(setP 12 x).1] } ++ [.box [.int .i64 ka, .int .i64 na, .str nma, .int .i64 sa, .int .i64 la, .lst 6 none (encD hh :: t.map encD)]], [.box (encD x)], by simp [wS, cellsW], by simp only [wS, cellsW]; exact wkSt_refl _, ?_, ?_, by simp [wS, wR_len]⟩, by dsimp only; omega, hlt2, okO_imp ho2 _ (of_decide_eq_false h3), by rw [hJ, hdr2, importP, h3, cond_false, decide_eq_true he5, cond_true]⟩
          ·have hls := wS_len st w b { o2 with imps := o2.imps ++ [(setP 12 x).1] }
           simp only [wS, cellsW] at hls
           have q1 := lstD_lt (st.length + 1) l
           have q2 := lstD_lt (st.length + 1) (hh :: t)
           have q3 := lstD_lt (st.length + 1) t
           simp only [lstD, V.lt, List.map_cons] at q1 q2 q3
           simp only [wS, cellsW, List.length_append, List.length_cons, List.length_nil, wR_len, ltE, V.lt, Nat.zero_add]
           exact ⟨by omega, q1, by omega, q2, q1, trivial, trivial, trivial, q3, trivial, trivial, trivial⟩
          ·refine ok_app (hw _) ⟨?_, trivial⟩
           have q1 := encD_lt (wS st w b { o2 with imps := o2.imps ++ [(setP 12 x).1] }).length (.mk ka na nma sa la (hh :: t))
           rw [encD_mk] at q1
           simp only [Ent.lt]
           exact ltL_mono (Nat.le_add_right _ _) q1
        ·rw [decide_eq_false he5, cond_false] at hE
         refine vpanic TT_ok TT_mixed [0, 0, 0, 0, 1, 1, 0, 0, 0, 2, 0, 2, 0, 0, 0, 2] [0, 1, 2, 3, 4, 5, 7, 8] 6 [9, 10, 11, 12, 13, 14, 15] [0, 1, 5, 6, 8, 9, 10, 11, 20, 38, 39, 40] rfl (by kernel_rfl) ?_
         simp only [bz12, bz14, gw2, qqE, ↓reduceIte, qqA, qqL, qqD, qqM, ite_self, wR_b hb, wR_1 hb, wR_2 hb, wR_3 hb, wR_sb hb, wR_sE hb, wR_sI hb, wR_sB hb]
         refine pK_of hc5 (wkL_refl _) ?_
         rw [decide_eq_false he5, cond_false] at hE
         rw [hE]
         exact outS_p he5 (givesP_of (wk_refl _) (wkSt_refl _) (oops_lt _ _) (hw o2))
     rw [show decide (wd = wImport) = false from h2, cond_false] at hDD
     simp only [gw2, qqE, ↓reduceIte, qqA, qqL, qqD, qqM, ite_self]
     refine iK_split (fun h3 => ?_) (fun h3 => ?_)
     ·rw [show decide (wd = wBegin) = true from h3, cond_true] at hDD
      have hok := bodyL_ok ho1 t
      simp only [bz8, gw2, qqE, ↓reduceIte, qqA, qqL, qqD, qqM, ite_self, Nat.le_add_left, wR_b hb, wR_1 hb, wR_2 hb, wR_3 hb, wR_sb hb, wR_sE hb, wR_sI hb, wR_sB hb]
      refine ⟨⟨by omega, by omega⟩, ?_⟩
      have hD : declD w (.mk ka na nma sa la (hh :: t)) o1 = bodyL t o1 := by rw [hDD]
      rw [hD] at hE
      have hbd := c_libbody w t o1 ho1 (by omega) (st ++ [.box [.int .i64 ka, .int .i64 na, .str nma, .int .i64 sa, .int .i64 la, .lst 6 none (encD hh :: t.map encD)]]) b (by simp; omega)
      rw [wS_app hb, wS_app hb] at hbd
      rcases hbd.cases with ⟨he5, hc5⟩ | ⟨he5, hc5⟩
      ·simp only [wS, cellsW] at hc5
       refine hc5.use (wkL_refl _) fun _ => ?_
       rw [decide_eq_true he5, cond_true] at hE
       simp only [gw2, qqE, ↓reduceIte, qqA, qqL, qqD, qqM, ite_self, wR_len, Env.keep, next_i64 hlt (by omega)]
       refine ⟨(i + 1, (bodyL t o1).1), ⟨wkE_refl _, wS st w b (bodyL t o1).1, [.box [.int .i64 ka, .int .i64 na, .str nma, .int .i64 sa, .int .i64 la, .lst 6 none (encD hh :: t.map encD)]], by simp [wS, cellsW], wkSt_refl _, ?_, hw _, by rw [wR_len]; exact Nat.le_refl _⟩, by dsimp only; omega, hlt, hok, hE⟩
       simp only [ltE, V.lt]
       have hll := lstD_lt (wS st w b (bodyL t o1).1).length l
       simp only [lstD, V.lt] at hll
       exact ⟨by rw [wR_len]; omega, hll, hll, trivial, trivial, trivial⟩
      ·simp only [wS, cellsW] at hc5
       refine hc5.useP (wkL_refl _) ?_
       rw [decide_eq_false he5, cond_false] at hE
       rw [hE]
       simp only [gw2, qqE, ↓reduceIte, qqA, qqL, qqD, qqM, ite_self]
       exact outS_p he5 (givesP_of (wk_refl _) (wkSt_refl _) (oops_lt _ _) (hw (bodyL t o1).1))
     rw [show decide (wd = wBegin) = false from h3, cond_false] at hDD
     simp only [gw2, qqE, ↓reduceIte, qqA, qqL, qqD, qqM, ite_self]
     refine iK_split (fun h4 => ?_) (fun h4 => ?_)
     ·rw [show decide (wd = wInclude) = true from h4, cond_true] at hDD
      have hok := includeP_ok w t o1 ho1
      simp only [bz8, gw2, qqE, ↓reduceIte, qqA, qqL, qqD, qqM, ite_self, Nat.le_add_left, wR_b hb, wR_1 hb, wR_2 hb, wR_3 hb, wR_sb hb, wR_sE hb, wR_sI hb, wR_sB hb]
      refine ⟨⟨by omega, by omega⟩, ?_⟩
      have hD : declD w (.mk ka na nma sa la (hh :: t)) o1 = includeP w t o1 := by rw [hDD]
      rw [hD] at hE
      have hbd := c_libinclude w t o1 ho1 (by omega) (st ++ [.box [.int .i64 ka, .int .i64 na, .str nma, .int .i64 sa, .int .i64 la, .lst 6 none (encD hh :: t.map encD)]]) b (by simp; omega)
      rw [wS_app hb, wS_app hb] at hbd
      rcases hbd.cases with ⟨he5, hc5⟩ | ⟨he5, hc5⟩
      ·simp only [wS, cellsW] at hc5
       refine hc5.use (wkL_refl _) fun _ => ?_
       rw [decide_eq_true he5, cond_true] at hE
       simp only [gw2, qqE, ↓reduceIte, qqA, qqL, qqD, qqM, ite_self, wR_len, Env.keep, next_i64 hlt (by omega)]
       refine ⟨(i + 1, (includeP w t o1).1), ⟨wkE_refl _, wS st w b (includeP w t o1).1, [.box [.int .i64 ka, .int .i64 na, .str nma, .int .i64 sa, .int .i64 la, .lst 6 none (encD hh :: t.map encD)]], by simp [wS, cellsW], wkSt_refl _, ?_, hw _, by rw [wR_len]; exact Nat.le_refl _⟩, by dsimp only; omega, hlt, hok, hE⟩
       simp only [ltE, V.lt]
       have hll := lstD_lt (wS st w b (includeP w t o1).1).length l
       simp only [lstD, V.lt] at hll
       exact ⟨by rw [wR_len]; omega, hll, hll, trivial, trivial, trivial⟩
      ·simp only [wS, cellsW] at hc5
       refine hc5.useP (wkL_refl _) ?_
       rw [decide_eq_false he5, cond_false] at hE
       rw [hE]
       simp only [gw2, qqE, ↓reduceIte, qqA, qqL, qqD, qqM, ite_self]
       exact outS_p he5 (givesP_of (wk_refl _) (wkSt_refl _) (oops_lt _ _) (hw (includeP w t o1).1))
     rw [show decide (wd = wInclude) = false from h4, cond_false] at hDD
     simp only [gw2, qqE, ↓reduceIte, qqA, qqL, qqD, qqM, ite_self]
     refine iK_split (fun h5 => ?_) (fun h5 => ?_)
     ·rw [show decide (wd = wCond) = true from h5, cond_true] at hDD
      have hok := condL_ok w t o1 ho1
      simp only [bz8, gw2, qqE, ↓reduceIte, qqA, qqL, qqD, qqM, ite_self, Nat.le_add_left, wR_b hb, wR_1 hb, wR_2 hb, wR_3 hb, wR_sb hb, wR_sE hb, wR_sI hb, wR_sB hb]
      refine ⟨⟨by omega, by omega⟩, ?_⟩
      have hD : declD w (.mk ka na nma sa la (hh :: t)) o1 = condL w t o1 := by rw [hDD]
      rw [hD] at hE
      have hbd := ihC t hst2 htm (by omega) o1 ho1 (st ++ [.box [.int .i64 ka, .int .i64 na, .str nma, .int .i64 sa, .int .i64 la, .lst 6 none (encD hh :: t.map encD)]]) b (by simp; omega)
      rw [wS_app hb, wS_app hb] at hbd
      rcases hbd.cases with ⟨he5, hc5⟩ | ⟨he5, hc5⟩
      ·simp only [wS, cellsW] at hc5
       refine hc5.use (wkL_refl _) fun _ => ?_
       rw [decide_eq_true he5, cond_true] at hE
       simp only [gw2, qqE, ↓reduceIte, qqA, qqL, qqD, qqM, ite_self, wR_len, Env.keep, next_i64 hlt (by omega)]
       refine ⟨(i + 1, (condL w t o1).1), ⟨wkE_refl _, wS st w b (condL w t o1).1, [.box [.int .i64 ka, .int .i64 na, .str nma, .int .i64 sa, .int .i64 la, .lst 6 none (encD hh :: t.map encD)]], by simp [wS, cellsW], wkSt_refl _, ?_, hw _, by rw [wR_len]; exact Nat.le_refl _⟩, by dsimp only; omega, hlt, hok, hE⟩
       simp only [ltE, V.lt]
       have hll := lstD_lt (wS st w b (condL w t o1).1).length l
       simp only [lstD, V.lt] at hll
       exact ⟨by rw [wR_len]; omega, hll, hll, trivial, trivial, trivial⟩
      ·simp only [wS, cellsW] at hc5
       refine hc5.useP (wkL_refl _) ?_
       rw [decide_eq_false he5, cond_false] at hE
       rw [hE]
       simp only [gw2, qqE, ↓reduceIte, qqA, qqL, qqD, qqM, ite_self]
       exact outS_p he5 (givesP_of (wk_refl _) (wkSt_refl _) (oops_lt _ _) (hw (condL w t o1).1))
     rw [show decide (wd = wCond) = false from h5, cond_false] at hDD
     rw [hDD] at hE
     simp only [gw2, qqE, ↓reduceIte, qqA, qqL, qqD, qqM, ite_self]
     refine (c_libfail _ 2).useP (wkL_refl _) ?_
     rw [hE]
     simp only [gw2, qqE, ↓reduceIte, qqA, qqL, qqD, qqM, ite_self]
     exact outS_p (show (2 : Int) ≠ 0 by decide) (givesP_of (wk_refl _) (wkSt_refl _) (oops_lt _ _) (hw o1))
    ·refine hc2.useP (wkL_refl _) ?_
     have hv : declD w (.mk ka na nma sa la (hh :: t)) o1 = (o1, (symP hh).2) := by rw [declD_eq, decide_eq_true hk4]; simp only [Bool.not_true, cond_false, decide_eq_false he2, Bool.not_false, cond_true]
     rw [hE, hv, decide_eq_false he2, cond_false]
     simp only [gw2, qqE, ↓reduceIte, qqA, qqL, qqD, qqM, ite_self]
     exact outS_p he2 (givesP_of (wk_refl _) (wkSt_refl _) (oops_lt _ _) (hw o1))
  ·refine hc.useP (by rw [encD_mk]; exact wkL_refl _) ?_
   have hv2 : (listP 1 (.mk ka na nma sa la kidsa)).2 = 2 ∧ declD w (.mk ka na nma sa la kidsa) o1 = (o1, 2) := by
    simp only [listP, declD_eq] at he ⊢
    cases e : decide (ka = 4) with
    | false => exact ⟨rfl, rfl⟩
    | true =>
     rw [e] at he
     cases kidsa with
     | nil => exact ⟨rfl, rfl⟩
     | cons x r => simp at he
   rw [hE, hv2.2, hv2.1]
   simp only [gw2, qqE, ↓reduceIte, qqA, qqL, qqD, qqM, ite_self]
   exact outS_p (show (2 : Int) ≠ 0 by decide) (givesP_of (wk_refl _) (wkSt_refl _) (oops_lt _ _) (hw o1))
set_option maxHeartbeats 4000000 in
theorem c_libcond (w : Wd) (N : Nat) (ihD : DeclsC w N) : CondC w (N + 1) := by
 intro l hsz hm hl o ho st b hb
 refine OutS_of (by rw [wS_len, wS_len]; exact Nat.le_refl _) ?_
 refine vfunQ TT_ok (an := anL []) (L := [0, 1, 5, 6, 7, 8, 9]) (rs := []) Tryz.func47 rfl (by kernel_rfl) rfl Tryz.ntmps47 rfl rfl fun hst ha hf => ?_
 have hw := fun o' => wS_ok hb o' hst
 simp only [gw2, qqE, ↓reduceIte, qqA, qqL, qqD, qqM, ite_self, lstD, List.length_map]
 refine vforD (σ := Nat × Lib') [0, 1, 7, 8, 9] (fun x => [(0, true, .ptr b 0), (1, true, lstD l), (7, true, lstD l), (8, true, .int .i64 l.length), (9, true, .int .i64 x.1)]) (fun x => wS st w b x.2) (fun x => l.length - x.1) (fun x => x.1 ≤ l.length ∧ okO x.2 ∧ condL w l o = condL w (l.drop x.1) x.2) (0, o) rfl TT_ok ⟨Nat.zero_le _, ho, rfl⟩ (wkE_refl _) rfl ?_
 rintro ⟨i, o1⟩ ⟨hi, ho1, hI⟩
 simp only at hi ho1 hI ⊢
 rw [hI]
 rcases at_or_end l i hi with ⟨rfl, hd⟩ | ⟨a, hlt, hget, hdr⟩
 ·rw [hd]
  simp only [gw2, qqE, ↓reduceIte, qqA, qqL, qqD, qqM, ite_self, lt_no, lstD]
  exact outS_g rfl (gives_self trivial (hw o1))
 ·rw [hdr]
  have hma : okM a := okMs_mem hm (List.mem_of_getElem? hget)
  have hsa := size_mem (List.mem_of_getElem? hget)
  obtain ⟨ka, na, nma, sa, la, kidsa⟩ := a
  have hE := condL_cons w ka na nma sa la kidsa (l.drop (i + 1)) o1
  generalize hG : condL w (.mk ka na nma sa la kidsa :: l.drop (i + 1)) o1 = G at hE
  simp only [wS, cellsW]
  simp only [bz17, bz14, gw2, qqE, ↓reduceIte, qqA, qqL, qqD, qqM, ite_self, lt_yes hlt, lstD, getD_map hget, Int.ofNat_lt.mpr hlt, wR_b hb, wR_1 hb, wR_2 hb, wR_3 hb, wR_sb hb, wR_sE hb, wR_sI hb, wR_sB hb, encD_mk]
  rcases (c_liblist (.mk ka na nma sa la kidsa) 1 (wR st b [.lst 2 none (rows2 w.files), encS w.feats, encS w.libs, .str o1.name, .lst 2 (some (b + 1)) (rows2 o1.exps), .arr (b + 2) o1.imps.length, .lst 6 (some (b + 3)) (o1.body.map encD), .int .i64 0] o1.exps.length (o1.imps.map encSet) o1.body.length ++ [.box [.int .i64 ka, .int .i64 na, .str nma, .int .i64 sa, .int .i64 la, .lst 6 none (kidsa.map encD)]])).cases with ⟨he, hc⟩ | ⟨he, hc⟩
  ·refine hc.use (by rw [encD_mk]; exact wkL_refl _) fun _ => ?_
   have hk4 : ka = 4 ∧ kidsa ≠ [] ∧ (listP 1 (.mk ka na nma sa la kidsa)).1 = kidsa := by
    simp only [listP] at he ⊢
    cases e : !decide (ka = 4) || decide (kidsa.length < 1) with
    | true => rw [e] at he; simp at he
    | false =>
     simp only [Bool.or_eq_false_iff, Bool.not_eq_false', decide_eq_true_eq, decide_eq_false_iff_not] at e
     exact ⟨e.1, fun h => by rw [h] at e; simp at e, rfl⟩
   obtain ⟨hk4, hne, hkk⟩ := hk4
   rw [hkk]
   have hmk := hma
   rw [okM] at hmk
   obtain ⟨hkl, hks⟩ := hmk.2 hk4
   cases kidsa with
   | nil => exact absurd rfl hne
   | cons hh t =>
    have htl : t.length + 1 ≤ 2000 := hkl
    have htm : okMs t := hks.2
    have hst2 : SizeOf.sizeOf t < N := by
     have g2 := size_kids ka na nma sa la (hh :: t)
     have g3 : SizeOf.sizeOf t < SizeOf.sizeOf (hh :: t) := by simp; omega
     omega
    obtain ⟨kh, nh, nmh, sh, lh, kidsh⟩ := hh
    simp only [decide_eq_true hk4, Bool.not_true, cond_false] at hE
    cases h1 : decide (kh = 3) with
    | false =>
     have hel : isElse (.mk kh nh nmh sh lh kidsh) = false := by show (decide (kh = 3) && _) = false; rw [h1]; rfl
     simp only [bz8, bz12, gw2, qqE, ↓reduceIte, qqA, qqL, qqD, qqM, ite_self, lstD, List.map_cons, encD_mk, Nat.le_add_left, wR_b hb, wR_1 hb, wR_2 hb, wR_3 hb, wR_sb hb, wR_sE hb, wR_sI hb, wR_sB hb, h1, Bool.true_and, Bool.false_and, Bool.and_true, Bool.and_false, Bool.not_true, Bool.not_false, Bool.true_or, Bool.false_or]
     refine ⟨⟨by omega, by omega⟩, ⟨by omega, by omega⟩, ?_⟩
     rw [hel, cond_false] at hE
     have hx : (wR st b [.lst 2 none (rows2 w.files), encS w.feats, encS w.libs, .str o1.name, .lst 2 (some (b + 1)) (rows2 o1.exps), .arr (b + 2) o1.imps.length, .lst 6 (some (b + 3)) (o1.body.map encD), .int .i64 0] o1.exps.length (o1.imps.map encSet) o1.body.length ++ [.box [.int .i64 ka, .int .i64 na, .str nma, .int .i64 sa, .int .i64 la, .lst 6 none ([.int .i64 kh, .int .i64 nh, .str nmh, .int .i64 sh, .int .i64 lh, .lst 6 none (kidsh.map encD)] :: t.map encD)]])[b]? = some (.box (cellsW w b o1.name (rows2 o1.exps) o1.imps.length (o1.body.map encD))) := wR_b hb _ _ _ _ _
     rcases (c_libholds w b _ (.mk kh nh nmh sh lh kidsh) (Nat.lt_succ_self _) hks.1 _ _ _ _ _ hx).cases with ⟨he4, hc4⟩ | ⟨he4, hc4⟩
     ·refine rK_go (hc4.use (by rw [encD_mk]; exact wkL_refl _) fun _ => ?_)
      rw [decide_eq_true he4, Bool.not_true, cond_false] at hE
      simp only [gw2, qqE, ↓reduceIte, qqA, qqL, qqD, qqM, ite_self, Bool.true_and, Bool.false_and, Bool.and_true, Bool.and_false, Bool.not_true, Bool.not_false, Bool.true_or, Bool.false_or]
      refine iK_split (fun h5 => ?_) (fun h5 => ?_)
      ·rw [h5, cond_true] at hE
       simp only [bz8, gw2, qqE, ↓reduceIte, qqA, qqL, qqD, qqM, ite_self, Nat.le_add_left, wR_b hb, wR_1 hb, wR_2 hb, wR_3 hb, wR_sb hb, wR_sE hb, wR_sI hb, wR_sB hb]
       refine ⟨⟨by omega, by omega⟩, ?_⟩
       have hbd := ihD t hst2 htm (by omega) o1 ho1 (st ++ [.box [.int .i64 ka, .int .i64 na, .str nma, .int .i64 sa, .int .i64 la, .lst 6 none ([.int .i64 kh, .int .i64 nh, .str nmh, .int .i64 sh, .int .i64 lh, .lst 6 none (kidsh.map encD)] :: t.map encD)]]) b (by simp; omega)
       rw [wS_app hb, wS_app hb] at hbd
       rcases hbd.cases with ⟨he5, hc5⟩ | ⟨he5, hc5⟩
       ·simp only [wS, cellsW] at hc5
        refine hc5.use (wkL_refl _) fun _ => ?_
        rw [hE]
        simp only [gw2, qqE, ↓reduceIte, qqA, qqL, qqD, qqM, ite_self]
        exact outS_g he5 (gives_of (wk_refl _) (wkSt_refl _) trivial (hw _))
       ·simp only [wS, cellsW] at hc5
        refine hc5.useP (wkL_refl _) ?_
        rw [hE]
        simp only [gw2, qqE, ↓reduceIte, qqA, qqL, qqD, qqM, ite_self]
        exact outS_p he5 (givesP_of (wk_refl _) (wkSt_refl _) (oops_lt _ _) (hw _))
      ·rw [h5, cond_false] at hE
       simp only [bz14, gw2, qqE, ↓reduceIte, qqA, qqL, qqD, qqM, ite_self, wR_b hb, wR_1 hb, wR_2 hb, wR_3 hb, wR_sb hb, wR_sE hb, wR_sI hb, wR_sB hb, Env.keep, next_i64 hlt (by omega)]
       refine ⟨(i + 1, o1), ⟨wkE_refl _, wS st w b o1, [.box [.int .i64 ka, .int .i64 na, .str nma, .int .i64 sa, .int .i64 la, .lst 6 none ([.int .i64 kh, .int .i64 nh, .str nmh, .int .i64 sh, .int .i64 lh, .lst 6 none (kidsh.map encD)] :: t.map encD)]], by simp [wS, cellsW], wkSt_refl _, ?_, hw _, by rw [wR_len]; exact Nat.le_refl _⟩, by dsimp only; omega, hlt, ho1, hE⟩
       simp only [ltE, V.lt]
       have hll := lstD_lt (wS st w b o1).length l
       simp only [lstD, V.lt] at hll
       exact ⟨by rw [wR_len]; omega, hll, hll, trivial, trivial, trivial⟩
     ·refine rK_go (hc4.useP (by rw [encD_mk]; exact wkL_refl _) ?_)
      rw [decide_eq_false he4, Bool.not_false, cond_true] at hE
      rw [hE]
      simp only [gw2, qqE, ↓reduceIte, qqA, qqL, qqD, qqM, ite_self]
      exact outS_p he4 (givesP_of (wk_refl _) (wkSt_refl _) (oops_lt _ _) (hw o1))
    | true =>
     cases h2 : decide (nmh = [101, 108, 115, 101]) with
     | false =>
      have hel : isElse (.mk kh nh nmh sh lh kidsh) = false := by show (decide (kh = 3) && decide (nmh = [101, 108, 115, 101])) = false; rw [h1, h2]; rfl
      simp only [bz8, bz12, gw2, qqE, ↓reduceIte, qqA, qqL, qqD, qqM, ite_self, lstD, List.map_cons, encD_mk, Nat.le_add_left, wR_b hb, wR_1 hb, wR_2 hb, wR_3 hb, wR_sb hb, wR_sE hb, wR_sI hb, wR_sB hb, h1, h2, Bool.true_and, Bool.false_and, Bool.and_true, Bool.and_false, Bool.not_true, Bool.not_false, Bool.true_or, Bool.false_or]
      refine ⟨⟨by omega, by omega⟩, ⟨by omega, by omega⟩, ⟨by omega, by omega⟩, ?_⟩
      rw [hel, cond_false] at hE
      have hx : (wR st b [.lst 2 none (rows2 w.files), encS w.feats, encS w.libs, .str o1.name, .lst 2 (some (b + 1)) (rows2 o1.exps), .arr (b + 2) o1.imps.length, .lst 6 (some (b + 3)) (o1.body.map encD), .int .i64 0] o1.exps.length (o1.imps.map encSet) o1.body.length ++ [.box [.int .i64 ka, .int .i64 na, .str nma, .int .i64 sa, .int .i64 la, .lst 6 none ([.int .i64 kh, .int .i64 nh, .str nmh, .int .i64 sh, .int .i64 lh, .lst 6 none (kidsh.map encD)] :: t.map encD)]])[b]? = some (.box (cellsW w b o1.name (rows2 o1.exps) o1.imps.length (o1.body.map encD))) := wR_b hb _ _ _ _ _
      rcases (c_libholds w b _ (.mk kh nh nmh sh lh kidsh) (Nat.lt_succ_self _) hks.1 _ _ _ _ _ hx).cases with ⟨he4, hc4⟩ | ⟨he4, hc4⟩
      ·refine rK_go (hc4.use (by rw [encD_mk]; exact wkL_refl _) fun _ => ?_)
       rw [decide_eq_true he4, Bool.not_true, cond_false] at hE
       simp only [gw2, qqE, ↓reduceIte, qqA, qqL, qqD, qqM, ite_self, Bool.true_and, Bool.false_and, Bool.and_true, Bool.and_false, Bool.not_true, Bool.not_false, Bool.true_or, Bool.false_or]
       refine iK_split (fun h5 => ?_) (fun h5 => ?_)
       ·rw [h5, cond_true] at hE
        simp only [bz8, gw2, qqE, ↓reduceIte, qqA, qqL, qqD, qqM, ite_self, Nat.le_add_left, wR_b hb, wR_1 hb, wR_2 hb, wR_3 hb, wR_sb hb, wR_sE hb, wR_sI hb, wR_sB hb]
        refine ⟨⟨by omega, by omega⟩, ?_⟩
        have hbd := ihD t hst2 htm (by omega) o1 ho1 (st ++ [.box [.int .i64 ka, .int .i64 na, .str nma, .int .i64 sa, .int .i64 la, .lst 6 none ([.int .i64 kh, .int .i64 nh, .str nmh, .int .i64 sh, .int .i64 lh, .lst 6 none (kidsh.map encD)] :: t.map encD)]]) b (by simp; omega)
        rw [wS_app hb, wS_app hb] at hbd
        rcases hbd.cases with ⟨he5, hc5⟩ | ⟨he5, hc5⟩
        ·simp only [wS, cellsW] at hc5
         refine hc5.use (wkL_refl _) fun _ => ?_
         rw [hE]
         simp only [gw2, qqE, ↓reduceIte, qqA, qqL, qqD, qqM, ite_self]
         exact outS_g he5 (gives_of (wk_refl _) (wkSt_refl _) trivial (hw _))
        ·simp only [wS, cellsW] at hc5
         refine hc5.useP (wkL_refl _) ?_
         rw [hE]
         simp only [gw2, qqE, ↓reduceIte, qqA, qqL, qqD, qqM, ite_self]
         exact outS_p he5 (givesP_of (wk_refl _) (wkSt_refl _) (oops_lt _ _) (hw _))
       ·rw [h5, cond_false] at hE
        simp only [bz14, gw2, qqE, ↓reduceIte, qqA, qqL, qqD, qqM, ite_self, wR_b hb, wR_1 hb, wR_2 hb, wR_3 hb, wR_sb hb, wR_sE hb, wR_sI hb, wR_sB hb, Env.keep, next_i64 hlt (by omega)]
        refine ⟨(i + 1, o1), ⟨wkE_refl _, wS st w b o1, [.box [.int .i64 ka, .int .i64 na, .str nma, .int .i64 sa, .int .i64 la, .lst 6 none ([.int .i64 kh, .int .i64 nh, .str nmh, .int .i64 sh, .int .i64 lh, .lst 6 none (kidsh.map encD)] :: t.map encD)]], by simp [wS, cellsW], wkSt_refl _, ?_, hw _, by rw [wR_len]; exact Nat.le_refl _⟩, by dsimp only; omega, hlt, ho1, hE⟩
        simp only [ltE, V.lt]
        have hll := lstD_lt (wS st w b o1).length l
        simp only [lstD, V.lt] at hll
        exact ⟨by rw [wR_len]; omega, hll, hll, trivial, trivial, trivial⟩
      ·refine rK_go (hc4.useP (by rw [encD_mk]; exact wkL_refl _) ?_)
       rw [decide_eq_false he4, Bool.not_false, cond_true] at hE
       rw [hE]
       simp only [gw2, qqE, ↓reduceIte, qqA, qqL, qqD, qqM, ite_self]
       exact outS_p he4 (givesP_of (wk_refl _) (wkSt_refl _) (oops_lt _ _) (hw o1))
     | true =>
      have hel : isElse (.mk kh nh nmh sh lh kidsh) = true := by show (decide (kh = 3) && decide (nmh = [101, 108, 115, 101])) = true; rw [h1, h2]; rfl
      rw [hel, cond_true] at hE
      simp only [bz8, bz12, gw2, qqE, ↓reduceIte, qqA, qqL, qqD, qqM, ite_self, lstD, List.map_cons, encD_mk, Nat.le_add_left, wR_b hb, wR_1 hb, wR_2 hb, wR_3 hb, wR_sb hb, wR_sE hb, wR_sI hb, wR_sB hb, h1, h2, Bool.true_and, Bool.false_and, Bool.and_true, Bool.and_false, Bool.not_true, Bool.not_false, Bool.true_or, Bool.false_or]
      refine ⟨⟨by omega, by omega⟩, ⟨by omega, by omega⟩, rK_not (.bool true) ?_⟩
      simp only [bz8, gw2, qqE, ↓reduceIte, qqA, qqL, qqD, qqM, ite_self, Nat.le_add_left, wR_b hb, wR_1 hb, wR_2 hb, wR_3 hb, wR_sb hb, wR_sE hb, wR_sI hb, wR_sB hb]
      refine ⟨⟨by omega, by omega⟩, ?_⟩
      have hbd := ihD t hst2 htm (by omega) o1 ho1 (st ++ [.box [.int .i64 ka, .int .i64 na, .str nma, .int .i64 sa, .int .i64 la, .lst 6 none ([.int .i64 kh, .int .i64 nh, .str nmh, .int .i64 sh, .int .i64 lh, .lst 6 none (kidsh.map encD)] :: t.map encD)]]) b (by simp; omega)
      rw [wS_app hb, wS_app hb] at hbd
      rcases hbd.cases with ⟨he5, hc5⟩ | ⟨he5, hc5⟩
      ·simp only [wS, cellsW] at hc5
       refine hc5.use (wkL_refl _) fun _ => ?_
       rw [hE]
       simp only [gw2, qqE, ↓reduceIte, qqA, qqL, qqD, qqM, ite_self]
       exact outS_g he5 (gives_of (wk_refl _) (wkSt_refl _) trivial (hw _))
      ·simp only [wS, cellsW] at hc5
       refine hc5.useP (wkL_refl _) ?_
       rw [hE]
       simp only [gw2, qqE, ↓reduceIte, qqA, qqL, qqD, qqM, ite_self]
       exact outS_p he5 (givesP_of (wk_refl _) (wkSt_refl _) (oops_lt _ _) (hw _))
  ·refine hc.useP (by rw [encD_mk]; exact wkL_refl _) ?_
   have hv2 : (listP 1 (.mk ka na nma sa la kidsa)).2 = 2 ∧ G = (o1, 2) := by
    rw [hE]
    simp only [listP] at he ⊢
    cases e : decide (ka = 4) with
    | false => exact ⟨rfl, rfl⟩
    | true =>
     rw [e] at he
     cases kidsa with
     | nil => exact ⟨rfl, rfl⟩
     | cons x r => simp at he
   rw [hv2.2, hv2.1]
   simp only [gw2, qqE, ↓reduceIte, qqA, qqL, qqD, qqM, ite_self]
   exact outS_p (show (2 : Int) ≠ 0 by decide) (givesP_of (wk_refl _) (wkSt_refl _) (oops_lt _ _) (hw o1))
theorem c_lib (w : Wd) : ∀ N, DeclsC w N ∧ CondC w N
 | 0 => ⟨fun l h => by omega, fun l h => by omega⟩
 | N + 1 => ⟨c_libdecls w N (c_lib w N).2, c_libcond w N (c_lib w N).1⟩
theorem c_decls (w : Wd) (l : List Datum) (hm : okMs l) (hl : l.length ≤ 2000) (o : Lib') (ho : okO o) (st : St) (b : Nat) (hb : b + 3 < st.length) :
  OutS 18 [.ptr b 0, lstD l] (wS st w b o) (.tup []) (declsL w l o).2 (wS st w b (declsL w l o).1) :=
 (c_lib w _).1 l (Nat.lt_succ_self _) hm hl o ho st b hb
end Go.Proofs.YtpllcpbhjglpaaaGreatDoor.Gx
