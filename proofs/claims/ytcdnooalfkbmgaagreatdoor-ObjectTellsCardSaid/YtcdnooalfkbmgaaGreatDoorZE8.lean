/- Numbers as bytes, in plain terms. Instructions, procedures, units: as they lie. Contract: when procedures are the same. Data that are right: what is bare of them, and that they are themselves. Contracts: small functions that look at units. Contracts: what is wrong with an instruction. Contracts: how a procedure uses the stack. Contracts: what is wrong with procedures, and with a unit. What a right unit has. Reading data: blanks, nodes, faults. Calls of the library that leave what there was. Reading data: numbers; faults; atoms. -/
import Derived.Test.YtcdnooalfkbmgaaGreatDoorZE7
import Derived.Shelf.Strconv.ParseIntPublic10
import Derived.Shelf.Lay
import Derived.Lib.AtoiErrMem
import Derived.Ground.NamesProg
namespace Go.Proofs.YtcdnooalfkbmgaaGreatDoor.Gx
open Go Go.Proofs.YtcdnooalfkbmgaaGreatDoor.Gw
open Nat (reduceEqDiff reduceAdd reduceLT reduceLeDiff reduceMul)
set_option linter.unusedSimpArgs false
set_option linter.unusedVariables false
/-- A number without a sign. -/
def zz (n : Int) : Nat := if n < 0 then (-(2 * n + 1)).toNat else (2 * n).toNat
def unzz (u : Nat) : Int := if u % 2 = 1 then -((u / 2 : Nat) : Int) - 1 else ((u / 2 : Nat) : Int)
theorem zz_unzz (u : Nat) : zz (unzz u) = u := by
 unfold unzz zz
 split <;> split <;> omega
theorem zz_lt {n : Int} (h0 : -9223372036854775808 ≤ n) (h1 : n ≤ 9223372036854775807) : zz n < 18446744073709551616 := by
 unfold zz
 split <;> omega
/-- Its bytes, the last ones first. -/
def vb : Nat → Nat → Str
 | 0, u => [UInt8.ofNat u]
 | f + 1, u => bif decide (u < 128) then [UInt8.ofNat u] else UInt8.ofNat (128 + u % 128) :: vb f (u / 128)
def numB (n : Int) : Str := vb 9 (zz n)
theorem vb_len : ∀ (f u : Nat), 1 ≤ (vb f u).length ∧ (vb f u).length ≤ f + 1
 | 0, u => by simp [vb]
 | f + 1, u => by
  have := vb_len f (u / 128)
  simp only [vb]
  cases decide (u < 128) <;> simp <;> omega
theorem numB_len (n : Int) : 1 ≤ (numB n).length ∧ (numB n).length ≤ 10 := vb_len 9 _
/-- Reading one, so many bytes behind, that come to so much: it, what is left, and whether it is none. -/
def rdV : Nat → Nat → Nat → Str → Int × Str × Bool
 | 0, _, _, s => (0, s, true)
 | f + 1, i, u, s => match s with
  | [] => (0, [], true)
  | c :: r => bif (decide (0 < i) && decide (c.toNat = 0)) || (decide (i = 9) && decide (1 < c.toNat)) then (0, r, true)
   else bif decide (c.toNat < 128) then (unzz (u + c.toNat % 128 * 128 ^ i), r, false)
   else rdV f (i + 1) (u + c.toNat % 128 * 128 ^ i) r
def numR (s : Str) : Int × Str × Bool := rdV 10 0 0 s
theorem rdV_le : ∀ (f i u : Nat) (s : Str), (rdV f i u s).2.1.length ≤ s.length ∧ ((rdV f i u s).2.2 = false → (rdV f i u s).2.1.length < s.length)
 | 0, _, _, s => by simp [rdV]
 | f + 1, i, u, [] => by simp [rdV]
 | f + 1, i, u, c :: r => by
  have := rdV_le f (i + 1) (u + c.toNat % 128 * 128 ^ i) r
  simp only [rdV]
  cases (decide (0 < i) && decide (c.toNat = 0)) || (decide (i = 9) && decide (1 < c.toNat)) <;> simp only [cond_true, cond_false]
  ·cases decide (c.toNat < 128) <;> simp only [cond_true, cond_false, List.length_cons]
   ·exact ⟨by omega, fun h => by have := this.2 h; omega⟩
   ·exact ⟨by omega, fun _ => by omega⟩
  ·simp
theorem byte_ofNat {n : Nat} (h : n < 256) : (UInt8.ofNat n).toNat = n := by simp; omega
/-- What is read is what is written of it. -/
theorem vb_rd : ∀ (f i u : Nat) (s : Str) (n : Int) (r : Str), f + i = 9 → rdV (f + 1) i u s = (n, r, false) → u < 128 ^ i → ∃ v, n = unzz (u + v * 128 ^ i) ∧ s = vb f v ++ r ∧ v < 2 * 128 ^ f ∧ (0 < i → 0 < v)
 | f, i, u, [], n, r, _, h, _ => by simp [rdV] at h
 | f, i, u, c :: s, n, r, hi, h, hu => by
  unfold rdV at h
  simp only at h
  have hc := c.toNat_lt
  have hco : UInt8.ofNat c.toNat = c := by simp
  cases e : (decide (0 < i) && decide (c.toNat = 0)) || (decide (i = 9) && decide (1 < c.toNat)) with
  | true => rw [e] at h; simp at h
  | false =>
   rw [e] at h
   simp only [Bool.or_eq_false_iff, Bool.and_eq_false_iff, decide_eq_false_iff_not] at e
   simp only [cond_false] at h
   by_cases h1 : c.toNat < 128
   ·simp only [h1, decide_true, cond_true, Prod.mk.injEq, and_true] at h
    obtain ⟨rfl, rfl⟩ := h
    refine ⟨c.toNat, by rw [Nat.mod_eq_of_lt h1], ?_, ?_, fun h => by omega⟩
    ·cases f with
     | zero => simp [vb]
     | succ f => simp only [vb, h1, decide_true, cond_true, hco, List.cons_append, List.nil_append]
    ·cases f with
     | zero => simp; omega
     | succ f =>
      have : 128 ^ (f + 1) ≥ 128 := by rw [Nat.pow_succ]; have := Nat.pow_pos (n := f) (show 0 < 128 by decide); omega
      omega
   ·simp only [h1, decide_false, cond_false] at h
    cases f with
    | zero => simp [rdV] at h
    | succ f =>
     obtain ⟨v, k1, k2, k3, k4⟩ := vb_rd f (i + 1) (u + c.toNat % 128 * 128 ^ i) s n r (by omega) h (by
      rw [Nat.pow_succ]
      have : c.toNat % 128 * 128 ^ i ≤ 127 * 128 ^ i := Nat.mul_le_mul_right _ (by omega)
      omega)
     have hv := k4 (by omega)
     refine ⟨c.toNat % 128 + 128 * v, ?_, ?_, ?_, fun _ => by omega⟩
     ·rw [k1, Nat.pow_succ, Nat.add_mul, Nat.mul_comm (128 ^ i) 128, ← Nat.mul_assoc, Nat.mul_comm v 128, Nat.add_assoc]
     ·have e3 : ¬ c.toNat % 128 + 128 * v < 128 := by omega
      simp only [vb, e3, decide_false, cond_false, List.cons_append]
      have e4 : (c.toNat % 128 + 128 * v) % 128 = c.toNat % 128 := by omega
      have e5 : (c.toNat % 128 + 128 * v) / 128 = v := by omega
      rw [e4, e5, show 128 + c.toNat % 128 = c.toNat by omega, hco, ← k2]
     ·rw [Nat.pow_succ]; omega
theorem numB_numR {s : Str} {n : Int} {r : Str} (h : numR s = (n, r, false)) : s = numB n ++ r ∧ -9223372036854775808 ≤ n ∧ n ≤ 9223372036854775807 := by
 obtain ⟨v, k1, k2, k3, _⟩ := vb_rd 9 0 0 s n r rfl h (by simp)
 simp only [Nat.pow_zero, Nat.mul_one, Nat.zero_add] at k1
 subst k1
 refine ⟨by rw [k2]; simp only [numB, zz_unzz], ?_, ?_⟩ <;> (unfold unzz; split <;> omega)
/-- An instruction. -/
structure Ins where
 op : Int
 a : Int := 0
 n : Int := 0
 lib : Str := []
 own : Str := []
 quote : Datum := .mk 0 0 [] 0 0 []
def encI (i : Ins) : List V := [.int .i64 i.op, .int .i64 i.a, .int .i64 i.n, .str i.lib, .str i.own] ++ encD i.quote
theorem encI_len (i : Ins) : (encI i).length = 11 := by simp only [encI, List.length_append, encD_len, List.length_cons, List.length_nil]
theorem encI_lt (n : Nat) (i : Ins) : ltL n (encI i) := ltL_append (by simp [ltL, V.lt]) (encD_lt n i.quote)
def noI : Ins := { op := 0 }
theorem wk_ins (op a n : Int) (lib own : Str) : wkL [.int .i64 op, .int .i64 a, .int .i64 n, .str lib, .str own, .int .i64 0, .int .i64 0, .str [], .int .i64 0, .int .i64 0, .nils] (encI { op := op, a := a, n := n, lib := lib, own := own }) := by
 simp only [encI, encD_mk]
 exact wkL_cons (wk_refl _) (wkL_cons (wk_refl _) (wkL_cons (wk_refl _) (wkL_cons (wk_refl _) (wkL_cons (wk_refl _) (wkL_cons (wk_refl _) (wkL_cons (wk_refl _) (wkL_cons (wk_refl _) (wkL_cons (wk_refl _) (wkL_cons (wk_refl _) (wkL_cons (wk_nils _) wkL_nil))))))))))
def lstI (l : List Ins) : V := .lst 11 none (l.map encI)
theorem lstI_lt (n : Nat) (l : List Ins) : (lstI l).lt n := by
 simp only [lstI, V.lt]
 exact ⟨fun e h => (by cases h), ltRows_map fun x _ => encI_lt _ _⟩
theorem encI_mk (op a n : Int) (lb ow : Str) (q : Datum) : encI ⟨op, a, n, lb, ow, q⟩ = .int .i64 op :: .int .i64 a :: .int .i64 n :: .str lb :: .str ow :: encD q := rfl
/-- A call of what is told by a relation. -/
theorem useQ {P : Program} {T : Nat → TI} {an : Nat → Nat} {L : List Nat} {ds : List Deferred} {f : FuncId} {args args' : List V} {st : St} {Q0 : VEnd → St → Prop} {dst : Option Tmp} {gc : Bool} {all : Array Oper} {os : List Oper} {env : Env} {k : Kont} {Q : VExit → Env → St → Prop}
  (h : VCalls P T f args' st Q0) (hw : wkL args args') (h3 : ∀ v s, ¬ Q0 (.panic v) s) (h2 : ∀ X s, X.fit → Q0 (.ret X) s → oK P T an L ds all os (env.put L dst gc X) s k Q) : VCalls P T f args st (aK P T an L ds dst gc all os env k Q) :=
 (h.args hw).monoF fun r s hf hq => by
  cases r with
  | ret X => exact h2 X s hf hq
  | panic v => exact absurd hq (h3 v s)
/-- A procedure in the making. -/
structure Pr where
 args : Int
 code : List Ins
def encPr (p : Pr) : List V := [.int .i64 p.args, lstI p.code]
def lstPr (l : List Pr) : V := .lst 2 none (l.map encPr)
theorem lstPr_lt (n : Nat) (l : List Pr) : (lstPr l).lt n := by
 simp only [lstPr, V.lt]
 exact ⟨fun e h => (by cases h), ltRows_map fun x _ => ⟨trivial, lstI_lt _ _, trivial⟩⟩
/-- A unit. -/
structure Unit' where
 name : Str
 protos : List Pr
def encU (u : Unit') : List V := [.str u.name, lstPr u.protos]
theorem fit_rows {α : Type} {f : α → List V} {l : List α} {a : α} (h : fitR (l.map f)) (ha : a ∈ l) : fitL (f a) := by
 induction l with
 | nil => simp at ha
 | cons x l ih =>
  rcases List.mem_cons.1 ha with rfl | ha
  ·exact h.1
  ·exact ih h.2 ha
def sameI (x y : Ins) : Bool := ((((decide (x.op = y.op) && decide (x.a = y.a)) && decide (x.n = y.n)) && decide (x.lib = y.lib)) && decide (x.own = y.own)) && eqD x.quote y.quote
def sameL : List Ins → List Ins → Bool
 | [], [] => true
 | x :: r, y :: s => sameI x y && sameL r s
 | [], _ :: _ => false
 | _ :: _, [] => false
def samePs : List Pr → List Pr → Bool
 | [], [] => true
 | p :: r, q :: s => (decide (p.args = q.args) && decide (p.code.length = q.code.length)) && (sameL p.code q.code && samePs r s)
 | [], _ :: _ => false
 | _ :: _, [] => false
theorem samePs_len : ∀ {l m : List Pr}, l.length ≠ m.length → samePs l m = false
 | [], [], h => absurd rfl h
 | [], _ :: _, _ => by simp only [samePs]
 | _ :: _, [], _ => by simp only [samePs]
 | a :: r, b :: r', h => by
  simp only [samePs, samePs_len (l := r) (m := r') (by simpa using h), Bool.and_false]
set_option maxRecDepth 20000 in
set_option maxHeartbeats 8000000 in
theorem c_SameProtos (l m : List Pr) (st : St) : VCalls Tryz.prog TT 40 [lstPr l, lstPr m] st fun r st' => r = .ret (.bool (samePs l m)) ∧ st' = st := by
 refine vfun TT_ok (an := anL []) (L := [0, 1, 4, 5, 6, 7, 8, 15, 16, 50, 51]) (rs := [.tmp 4]) Tryz.func40 rfl (by kernel_rfl) rfl Tryz.ntmps40 rfl rfl (Nat.le_refl _) fun hst ha hf => ?_
 simp only [lstPr, fitL, V.fit, List.length_map] at hf ⊢
 obtain ⟨⟨hkl, hfl⟩, ⟨hkm, hfm⟩, _⟩ := hf
 simp only [gw0, reduceEqDiff, ↓reduceIte, reduceAdd, reduceLT, reduceLeDiff, reduceMul, List.length_map]
 refine iK_split (fun h => ?_) (fun h => ?_)
 ·simp only [gw0, reduceEqDiff, ↓reduceIte, reduceAdd, reduceLT, reduceLeDiff, reduceMul]
  refine gives_bool ?_ hst
  rw [samePs_len]
  simp at h
  omega
 have hlen : l.length = m.length := by simp at h; omega
 simp only [gw0, reduceEqDiff, ↓reduceIte, reduceAdd, reduceLT, reduceLeDiff, reduceMul, List.length_map]
 refine vfor (σ := Nat × St) [0, 1, 4, 15, 16] (fun x => [(0, true, lstPr l), (1, true, lstPr m), (4, true, .bool false), (15, true, .int .i64 l.length), (16, true, .int .i64 x.1)]) (fun x => st ++ x.2) (fun x => l.length - x.1) (fun x => x.1 ≤ l.length ∧ samePs l m = samePs (l.drop x.1) (m.drop x.1)) (0, []) rfl TT_ok ⟨Nat.zero_le _, rfl⟩ rfl (List.append_nil st).symm ?_
 rintro ⟨i, ex⟩ ⟨hi, hx⟩
 simp only at hi hx ⊢
 rw [hx]
 simp only [lstPr]
 rcases at_or_end l i hi with ⟨rfl, hd⟩ | ⟨a, hlt, hget, hdr⟩
 ·have hd2 : m.drop l.length = [] := List.drop_of_length_le (by omega)
  simp only [gw0, reduceEqDiff, ↓reduceIte, reduceAdd, reduceLT, reduceLeDiff, reduceMul, lt_no, hd, hd2, samePs]
  exact gives_bool' rfl hst
 ·rcases at_or_end m i (by omega) with ⟨e, hd⟩ | ⟨b, hlt2, hget2, hdr2⟩
  ·omega
  simp only [gw0, reduceEqDiff, ↓reduceIte, reduceAdd, reduceLT, reduceLeDiff, reduceMul, lt_yes hlt, hdr, hdr2, samePs, List.length_map, Int.ofNat_lt.mpr hlt]
  refine vdraw TT_ok TT_mixed [0, 0, 0, 0, 1, 0, 0, 0, 0, 1, 0, 0, 0, 0, 0, 0, 1, 0, 0, 0, 0, 0, 1, 0, 0, 0] (by kernel_rfl) ?_
  simp only [gw0, reduceEqDiff, ↓reduceIte, reduceAdd, reduceLT, reduceLeDiff, reduceMul, List.length_map, getD_map hget, getD_map hget2, encPr, lstI, Int.ofNat_lt.mpr hlt, Int.ofNat_lt.mpr hlt2]
  have hfa := fit_rows hfl (List.mem_of_getElem? hget)
  simp only [encPr, lstI, fitL, V.fit, List.length_map] at hfa
  have hal : a.code.length ≤ 9223372036854775807 := hfa.2.1.1
  refine iK_split (fun h5 => ?_) (fun h5 => ?_)
  ·have e5 : (decide (a.args = b.args) && decide (a.code.length = b.code.length)) = false := by
    revert h5
    cases decide (a.args = b.args) <;> simp
    omega
   simp only [gw0, reduceEqDiff, ↓reduceIte, reduceAdd, reduceLT, reduceLeDiff, reduceMul, e5]
   exact gives_bool' rfl hst
  have e5 : (decide (a.args = b.args) && decide (a.code.length = b.code.length)) = true := by
   revert h5
   cases decide (a.args = b.args) <;> simp
   omega
  have hcl : a.code.length = b.code.length := by simp at e5; exact e5.2
  rw [e5]
  simp only [gw0, reduceEqDiff, ↓reduceIte, reduceAdd, reduceLT, reduceLeDiff, reduceMul, List.length_map, getD_map hget, encPr, lstI, Int.ofNat_lt.mpr hlt]
  refine vfor (σ := Nat × St) [0, 1, 4, 5, 15, 16, 50, 51] (fun x => [(0, true, lstPr l), (1, true, lstPr m), (4, true, .bool false), (5, true, .int .i64 i), (15, true, .int .i64 l.length), (16, true, .int .i64 i), (50, true, .int .i64 a.code.length), (51, true, .int .i64 x.1)]) (fun x => st ++ x.2) (fun x => a.code.length - x.1) (fun x => x.1 ≤ a.code.length ∧ sameL a.code b.code = sameL (a.code.drop x.1) (b.code.drop x.1)) (0, ex) rfl TT_ok ⟨Nat.zero_le _, rfl⟩ rfl rfl ?_
  rintro ⟨j, ex2⟩ ⟨hj, hy⟩
  simp only at hj hy ⊢
  rw [hy]
  simp only [lstPr]
  rcases at_or_end a.code j hj with ⟨rfl, hd3⟩ | ⟨u, hltj, hgetj, hdrj⟩
  ·have hd4 : b.code.drop a.code.length = [] := List.drop_of_length_le (by omega)
   simp only [gw0, reduceEqDiff, ↓reduceIte, reduceAdd, reduceLT, reduceLeDiff, reduceMul, lt_no, hd3, hd4, sameL]
   exact ⟨(i + 1, ex2), by simp only [next_i64 hlt hkl]; rfl, rfl, by simp only; omega, by simp only; omega, rfl⟩
  ·rcases at_or_end b.code j (by omega) with ⟨e, hd⟩ | ⟨v, hltj2, hgetj2, hdrj2⟩
   ·omega
   have encI_take : ∀ i : Ins, (encI i).take 11 = encI i := fun i => List.take_of_length_le (by rw [encI_len]; exact Nat.le_refl _)
   have encI_drop : ∀ i : Ins, (encI i).drop 11 = [] := fun i => List.drop_of_length_le (by rw [encI_len]; exact Nat.le_refl _)
   simp only [gw0, reduceEqDiff, ↓reduceIte, reduceAdd, reduceLT, reduceLeDiff, reduceMul, lt_yes hltj, hdrj, hdrj2, sameL, List.length_map, Int.ofNat_lt.mpr hltj]
   refine vdraw2 TT_ok TT_mixed (σ := Nat × Nat × St) [0, 0, 0, 0, 0, 0, 0, 0, 0, 0, 0, 0, 0, 0, 0, 0, 2, 2, 2, 2] [0, 1, 2, 3, 4, 5, 6, 7, 8, 9, 10, 11, 12, 13, 14, 15, 17, 16, 18, 19] 16 17 [0, 1, 4, 5, 7, 8, 15, 16, 50, 51] (fun x => [(0, true, lstPr l), (1, true, lstPr m), (4, true, .bool false), (5, true, .int .i64 i), (7, true, .ptr x.1 0), (8, true, .ptr x.2.1 0), (15, true, .int .i64 l.length), (16, true, .int .i64 i), (50, true, .int .i64 a.code.length), (51, true, .int .i64 j)]) (fun x => st ++ x.2.2) (fun x => (st ++ x.2.2)[x.1]? = some (.box (encI u)) ∧ (st ++ x.2.2)[x.2.1]? = some (.box (encI v))) rfl (by kernel_rfl) ?_ ?_ ?_
   ·simp only [gw0, reduceEqDiff, ↓reduceIte, reduceAdd, reduceLT, reduceLeDiff, reduceMul, List.length_map, getD_map hget, getD_map hget2, getD_map hgetj, getD_map hgetj2, encPr, lstI, Int.ofNat_lt.mpr hlt, Int.ofNat_lt.mpr hlt2, Int.ofNat_lt.mpr hltj, Int.ofNat_lt.mpr hltj2, encI_take, encI_len, encI_drop]
    exact ⟨rfl, rfl, (st.length + ex2.length, st.length + (ex2.length + 1), ex2 ++ [Ent.box (encI u), Ent.box (encI v)]), rfl, rfl, by simp [List.getElem?_append_right], by simp [List.getElem?_append_right]⟩
   ·simp only [pickO, pickC, List.map_cons, List.map_nil, List.getD_cons_zero, List.getD_cons_succ]
    simp only [gw0, reduceEqDiff, ↓reduceIte, reduceAdd, reduceLT, reduceLeDiff, reduceMul, List.length_map, getD_map hget, getD_map hget2, getD_map hgetj, getD_map hgetj2, encPr, lstI, Int.ofNat_lt.mpr hlt, Int.ofNat_lt.mpr hlt2, Int.ofNat_lt.mpr hltj, Int.ofNat_lt.mpr hltj2, encI_take, encI_len, encI_drop]
    exact ⟨rfl, rfl, (st.length + (ex2.length + 1), st.length + ex2.length, ex2 ++ [Ent.box (encI v), Ent.box (encI u)]), rfl, rfl, by simp [List.getElem?_append_right], by simp [List.getElem?_append_right]⟩
   ·rintro ⟨n1, n2, ex3⟩ ⟨h1, h2⟩
    simp only at h1 h2 ⊢
    obtain ⟨uop, ua, un, ul, uo, uq⟩ := u
    obtain ⟨vop, va, vn, vl, vo, vq⟩ := v
    simp only [encI_mk] at h1 h2
    have ql : 6 ≤ (encD uq).length := by rw [encD_len]; exact Nat.le_refl _
    have ql2 : 6 ≤ (encD vq).length := by rw [encD_len]; exact Nat.le_refl _
    simp only [gw0, reduceEqDiff, ↓reduceIte, reduceAdd, reduceLT, reduceLeDiff, reduceMul, h1, h2, encD_take, encD_len, encD_drop]
    refine rK_guarded (.bool (eqD uq vq)) (fun _ => c_Equal uq vq _) ?_
    simp only [gw0, reduceEqDiff, ↓reduceIte, reduceAdd, reduceLT, reduceLeDiff, reduceMul]
    have es : sameI ⟨uop, ua, un, ul, uo, uq⟩ ⟨vop, va, vn, vl, vo, vq⟩ = !(!decide (uop = vop) || !decide (ua = va) || !decide (un = vn) || !decide (ul = vl) || !decide (uo = vo) || !eqD uq vq) := by
     simp only [sameI, Bool.not_or, Bool.not_not]
    refine iK_split (fun h7 => ?_) (fun h7 => ?_)
    ·rw [h7] at es
     simp only [gw0, reduceEqDiff, ↓reduceIte, reduceAdd, reduceLT, reduceLeDiff, reduceMul, es]
     exact gives_bool' rfl hst
    ·rw [h7] at es
     simp only [gw0, reduceEqDiff, ↓reduceIte, reduceAdd, reduceLT, reduceLeDiff, reduceMul, es]
     exact ⟨(j + 1, ex3), by simp only [next_i64 hltj hal]; rfl, rfl, by simp only; omega, by simp only; omega, rfl⟩
mutual
/-- A datum of a kind that there is, whose lists are few. -/
def goodD : Datum → Prop
 | .mk k _ _ s l kids => (k = 1 ∨ k = 2 ∨ k = 3 ∨ k = 4) ∧ (k = 4 → kids.length ≤ 2000 ∧ goodDs kids) ∧ (k = 3 → s = 0 ∧ l = 0)
def goodDs : List Datum → Prop
 | [] => True
 | d :: r => goodD d ∧ goodDs r
end
mutual
theorem shapeD_good : ∀ (d : Datum) (deep c : Int), 0 ≤ c → (shapeD d deep c).1 = 0 → goodD d ∧ c + 1 ≤ (shapeD d deep c).2
 | .mk k n nm s l kids, deep, c, h0, h => by
  rw [goodD]
  unfold shapeD at h ⊢
  cases h1 : (decide (2000 < c + 1) || decide (40 < deep)) with
  | true => rw [h1] at h; simp at h
  | false =>
   have hc : c + 1 ≤ 2000 := by simp at h1; omega
   rw [h1] at h
   simp only [cond_false] at h ⊢
   cases h2 : decide (k = 1) <;> rw [h2] at h <;> simp only [cond_false, cond_true] at h ⊢
   ·have k1 := of_decide_eq_false h2
    cases h3 : decide (k = 2) <;> rw [h3] at h <;> simp only [cond_false, cond_true] at h ⊢
    ·have k2 := of_decide_eq_false h3
     cases h4 : decide (k = 3) <;> rw [h4] at h <;> simp only [cond_false, cond_true] at h ⊢
     ·cases h5 : decide (k = 4) <;> rw [h5] at h <;> simp only [cond_false, cond_true] at h ⊢
      ·simp at h
      ·have k4 := of_decide_eq_true h5
       have g := shapeDs_good kids (deep + 1) (c + 1) (by omega) hc h
       have t := shapeDs_ok kids (deep + 1) (c + 1) (by omega) hc h
       exact ⟨⟨by omega, fun _ => ⟨by omega, g.1⟩, fun h => by omega⟩, by omega⟩
     ·have k3 := of_decide_eq_true h4
      refine ⟨⟨by omega, fun h => by omega, fun _ => ?_⟩, ?_⟩
      ·revert h
       cases namedB nm <;> cases h6 : (decide (s = 0) && decide (l = 0)) <;> simp
       simpa using h6
      ·cases namedB nm <;> cases (decide (s = 0) && decide (l = 0)) <;> simp
    ·have k2 := of_decide_eq_true h3
     refine ⟨⟨by omega, fun h => by omega, fun h => by omega⟩, ?_⟩
     cases (decide (n = 0) || decide (n = 1)) <;> simp
   ·have k1 := of_decide_eq_true h2
    refine ⟨⟨by omega, fun h => by omega, fun h => by omega⟩, ?_⟩
    cases (decide (1000000000000000 < n) || decide (n < -1000000000000000)) <;> simp
theorem shapeDs_good : ∀ (l : List Datum) (deep c : Int), 0 ≤ c → c ≤ 2000 → (shapeDs l deep c).1 = 0 → goodDs l ∧ c + l.length ≤ (shapeDs l deep c).2
 | [], deep, c, h0, h1, h => by simp only [goodDs, shapeDs, List.length_nil, true_and]; omega
 | d :: r, deep, c, h0, h1, h => by
  simp only [shapeDs] at h ⊢
  cases h2 : decide ((shapeD d deep c).1 = 0) with
  | true =>
   rw [h2] at h
   simp only [cond_true] at h ⊢
   have k1 := shapeD_good d deep c h0 (of_decide_eq_true h2)
   have k3 := shapeD_ok d deep c h0 (of_decide_eq_true h2)
   have k2 := shapeDs_good r deep _ (by omega) k3.2 h
   rw [goodDs, List.length_cons]
   exact ⟨⟨k1.1, k2.1⟩, by omega⟩
  | false =>
   rw [h2] at h
   simp only [cond_false] at h
   exact absurd h (of_decide_eq_false h2)
end
theorem wrongL_good {q : Datum} (h : (wrongL [q] 0 0).1 = 0) : goodD q := by
 simp only [wrongL] at h
 cases h2 : decide ((shapeD q 1 0).1 = 0) with
 | true => exact (shapeD_good q 1 0 (by omega) (of_decide_eq_true h2)).1
 | false => rw [h2] at h; simp only [cond_false] at h; exact absurd h (of_decide_eq_false h2)
mutual
theorem eqD_self : ∀ d : Datum, eqD d d = true
 | .mk k n nm s l kids => by
  rw [eqD]
  simp only [decide_true, cond_true, Bool.and_self, eqDs_self kids]
  simp
theorem eqDs_self : ∀ l : List Datum, eqDs l l = true
 | [] => by rw [eqDs]
 | d :: r => by rw [eqDs, eqD_self d, eqDs_self r]; rfl
end
theorem sameL_self : ∀ l : List Ins, sameL l l = true
 | [] => rfl
 | i :: r => by simp [sameL, sameI, eqD_self, sameL_self r]
theorem samePs_self : ∀ l : List Pr, samePs l l = true
 | [] => rfl
 | p :: r => by simp [samePs, sameL_self, samePs_self r]
def badCh (c : UInt8) : Bool := decide ((c.toNat : Int) < 32) || decide (126 < (c.toNat : Int))
def printB (s : Str) : Bool := s.all fun c => !badCh c
def plainB (s : Str) : Bool := printB s && decide (s.length ≤ 60)
theorem c_plain (st : St) (s : Str) : VCalls Tryz.prog TT 18 [.str s] st fun r st' => r = .ret (.bool (plainB s)) ∧ st' = st := by
 refine vfun TT_ok (an := anL []) (L := [0, 2, 3, 8, 9]) (rs := [.tmp 2]) Tryz.func18 rfl (by kernel_rfl) rfl Tryz.ntmps18 rfl rfl (Nat.le_refl _) fun hst ha hf => ?_
 simp only [fitL, V.fit] at hf
 simp only [gw0, reduceEqDiff, ↓reduceIte, reduceAdd, reduceLT, reduceLeDiff, reduceMul]
 refine iK_split (fun h => ?_) (fun h => ?_)
 ·simp only [gw0, reduceEqDiff, ↓reduceIte, reduceAdd, reduceLT, reduceLeDiff, reduceMul]
  refine gives_bool ?_ hst
  have h' := of_decide_eq_true h
  have : ¬ s.length ≤ 60 := by omega
  simp [plainB, this]
 ·have h' : s.length ≤ 60 := by have := of_decide_eq_false h; omega
  have e : plainB s = printB s := by simp [plainB, h']
  rw [e]
  simp only [gw0, reduceEqDiff, ↓reduceIte, reduceAdd, reduceLT, reduceLeDiff, reduceMul]
  refine vfor (σ := Nat) [0, 2, 8, 9] (fun i => [(0, true, .str s), (2, true, .bool false), (8, true, .int .i64 s.length), (9, true, .int .i64 i)]) (fun i => st) (fun i => s.length - i) (fun i => i ≤ s.length ∧ printB s = printB (s.drop i)) 0 rfl TT_ok ⟨Nat.zero_le _, rfl⟩ rfl rfl ?_
  rintro i ⟨hi, hx⟩
  rw [hx]
  rcases at_or_end s i hi with ⟨rfl, hd⟩ | ⟨a, hlt, hget, hdr⟩
  ·simp only [gw0, reduceEqDiff, ↓reduceIte, reduceAdd, reduceLT, reduceLeDiff, reduceMul, lt_no, hd]
   exact gives_bool rfl hst
  ·simp only [gw0, reduceEqDiff, ↓reduceIte, reduceAdd, reduceLT, reduceLeDiff, reduceMul, lt_yes hlt, hdr, getD_at hget, Int.ofNat_lt.mpr hlt]
   refine iK_split (fun h2 => ?_) (fun h2 => ?_)
   ·simp only [gw0, reduceEqDiff, ↓reduceIte, reduceAdd, reduceLT, reduceLeDiff, reduceMul]
    refine gives_bool ?_ hst
    simp only [printB, List.all_cons, badCh, h2, Bool.not_true, Bool.false_and]
   ·simp only [gw0, reduceEqDiff, ↓reduceIte, reduceAdd, reduceLT, reduceLeDiff, reduceMul, Env.keep]
    refine ⟨i + 1, by rw [next_i64 hlt (by omega)], by omega, hlt, ?_⟩
    simp only [printB, List.all_cons, badCh, h2, Bool.not_false, Bool.true_and]
theorem c_ref_Plain (st : St) (s : Str) : VCalls Tryz.prog TT 17 [.str s] st fun r st' => r = .ret (.bool (plainB s)) ∧ st' = st := by
 refine vfun TT_ok (an := anL []) (L := [0, 2, 4, 6, 7, 8]) (rs := [.tmp 2]) Tryz.func17 rfl (by kernel_rfl) rfl Tryz.ntmps17 rfl rfl (Nat.le_refl _) fun hst ha hf => ?_
 simp only [fitL, V.fit] at hf
 have hll : (byteRows s).length = s.length := by simp [byteRows]
 simp only [gw0, reduceEqDiff, ↓reduceIte, reduceAdd, reduceLT, reduceLeDiff, reduceMul, convV]
 refine vfor (σ := Nat) [0, 2, 6, 7, 8] (fun i => [(0, true, .str s), (2, true, .bool false), (6, true, .lst 1 none (byteRows s)), (7, true, .int .i64 (byteRows s).length), (8, true, .int .i64 i)]) (fun i => st) (fun i => s.length - i) (fun i => i ≤ s.length ∧ printB s = printB (s.drop i)) 0 rfl TT_ok ⟨Nat.zero_le _, rfl⟩ rfl rfl ?_
 rintro i ⟨hi, hx⟩
 have hp : plainB s = (printB (s.drop i) && decide (s.length ≤ 60)) := by rw [plainB, hx]
 rcases at_or_end s i hi with ⟨rfl, hd⟩ | ⟨a, hlt, hget, hdr⟩
 ·rw [hp, hll]
  simp only [gw0, reduceEqDiff, ↓reduceIte, reduceAdd, reduceLT, reduceLeDiff, reduceMul, lt_no, hd]
  refine gives_bool ?_ hst
  simp [printB]
  omega
 ·rw [hll]
  have hg : (byteRows s).getD i [] = [V.int .u8 a.toNat] := getD_map hget
  simp only [gw0, reduceEqDiff, ↓reduceIte, reduceAdd, reduceLT, reduceLeDiff, reduceMul, lt_yes hlt, hdr, hll, hg, Int.ofNat_lt.mpr hlt]
  refine iK_split (fun h2 => ?_) (fun h2 => ?_)
  ·simp only [gw0, reduceEqDiff, ↓reduceIte, reduceAdd, reduceLT, reduceLeDiff, reduceMul]
   refine gives_bool ?_ hst
   rw [hp, hdr]
   simp only [printB, List.all_cons, badCh, h2, Bool.not_true, Bool.false_and]
  ·simp only [gw0, reduceEqDiff, ↓reduceIte, reduceAdd, reduceLT, reduceLeDiff, reduceMul, Env.keep]
   refine ⟨i + 1, by rw [next_i64 hlt hf.1], by omega, hlt, ?_⟩
   rw [hx, hdr]
   simp only [printB, List.all_cons, badCh, h2, Bool.not_false, Bool.true_and]
def amongE (a n : Int) : Int := bif decide (a < 0) || decide (n ≤ a) then 3 else 0
theorem c_among (st : St) (a n : Int) : VCalls Tryz.prog TT 71 [.int .i64 a, .int .i64 n] st fun r st' => r = .ret (.int .i64 (amongE a n)) ∧ st' = st := by
 refine vfun TT_ok (an := anL []) (L := [0, 1, 4]) (rs := [.tmp 4]) Tryz.func71 rfl (by kernel_rfl) rfl Tryz.ntmps71 rfl rfl (Nat.le_refl _) fun hst ha hf => ?_
 simp only [gw0, reduceEqDiff, ↓reduceIte, reduceAdd, reduceLT, reduceLeDiff, reduceMul]
 refine iK_split (fun h => ?_) (fun h => ?_)
 ·simp only [gw0, reduceEqDiff, ↓reduceIte, reduceAdd, reduceLT, reduceLeDiff, reduceMul]
  exact gives_int (by simp [amongE, h]) hst
 ·simp only [gw0, reduceEqDiff, ↓reduceIte, reduceAdd, reduceLT, reduceLeDiff, reduceMul]
  exact gives_int (by simp [amongE, h]) hst
-- slices of numbers
def rowsI (l : List Int) : List (List V) := l.map fun n => [V.int .i64 n]
def idxI (x : Int) : Nat → List Int → Int
 | _, [] => -1
 | i, a :: r => bif decide (x = a) then (i : Int) else idxI x (i + 1) r
theorem c_IndexI (st : St) (l : List Int) (x : Int) : VCalls Tryz.prog TT 77 [.lst 1 none (rowsI l), .int .i64 x] st fun r st' => r = .ret (.int .i64 (idxI x 0 l)) ∧ st' = st := by
 refine vfun TT_ok (an := anL []) (L := [0, 1, 4, 5, 7, 8]) (rs := [.tmp 4]) Tryz.func77 rfl (by kernel_rfl) rfl Tryz.ntmps77 rfl rfl (Nat.le_refl _) fun hst ha hf => ?_
 simp only [fitL, V.fit, rowsI, List.length_map] at hf
 simp only [rowsI]
 simp only [gw0, reduceEqDiff, ↓reduceIte, reduceAdd, reduceLT, reduceLeDiff, reduceMul, List.length_map]
 refine vfor (σ := Nat) [0, 1, 4, 7, 8] (fun i => [(0, true, .lst 1 none (rowsI l)), (1, true, .int .i64 x), (4, true, .int .i64 0), (7, true, .int .i64 l.length), (8, true, .int .i64 i)]) (fun i => st) (fun i => l.length - i) (fun i => i ≤ l.length ∧ idxI x 0 l = idxI x i (l.drop i)) 0 rfl TT_ok ⟨Nat.zero_le _, rfl⟩ rfl rfl ?_
 rintro i ⟨hi, hx⟩
 rw [hx]
 rcases at_or_end l i hi with ⟨rfl, hd⟩ | ⟨a, hlt, hget, hdr⟩
 ·simp only [gw0, reduceEqDiff, ↓reduceIte, reduceAdd, reduceLT, reduceLeDiff, reduceMul, lt_no, hd, idxI]
  exact gives_int rfl hst
 ·simp only [rowsI]
  simp only [gw0, reduceEqDiff, ↓reduceIte, reduceAdd, reduceLT, reduceLeDiff, reduceMul, lt_yes hlt, hdr, idxI, List.length_map, getD_map hget, Int.ofNat_lt.mpr hlt]
  refine iK_split (fun h => ?_) (fun h => ?_)
  ·simp only [gw0, reduceEqDiff, ↓reduceIte, reduceAdd, reduceLT, reduceLeDiff, reduceMul, h]
   exact gives_int rfl hst
  ·simp only [gw0, reduceEqDiff, ↓reduceIte, reduceAdd, reduceLT, reduceLeDiff, reduceMul, h, Env.keep]
   exact ⟨i + 1, by rw [next_i64 hlt hf.1.1], by omega, hlt, rfl⟩
theorem idxI_ge (s : Int) : ∀ (l : List Int) (i : Nat), decide (0 ≤ idxI s i l) = decide (s ∈ l)
 | [], i => by simp [idxI]
 | a :: r, i => by
  have := idxI_ge s r (i + 1)
  by_cases h : s = a
  ·subst h; simp [idxI]
  ·simp only [idxI, h, decide_false, cond_false, this, List.mem_cons, false_or]
theorem c_ContainsI (st : St) (l : List Int) (x : Int) : VCalls Tryz.prog TT 52 [.lst 1 none (rowsI l), .int .i64 x] st fun r st' => r = .ret (.bool (decide (x ∈ l))) ∧ st' = st := by
 refine vfun TT_ok (an := anL []) (L := [0, 1, 4]) (rs := [.tmp 4]) Tryz.func52 rfl (by kernel_rfl) rfl Tryz.ntmps52 rfl rfl (Nat.le_refl _) fun hst ha hf => ?_
 simp only [gw0, reduceEqDiff, ↓reduceIte, reduceAdd, reduceLT, reduceLeDiff, reduceMul]
 refine (c_IndexI st l x).use (wkL_refl _) fun _ => ?_
 simp only [gw0, reduceEqDiff, ↓reduceIte, reduceAdd, reduceLT, reduceLeDiff, reduceMul, idxI_ge]
 exact gives_bool rfl hst
-- slices of bindings
structure Bind' where
 here : Str := []
 lib : Str
 own : Str
deriving DecidableEq
def eqB (x y : Bind') : Bool := decide (x.here = y.here) && (decide (x.lib = y.lib) && (decide (x.own = y.own) && true))
def idxB (x : Bind') : Nat → List Bind' → Int
 | _, [] => -1
 | i, a :: r => bif eqB x a then (i : Int) else idxB x (i + 1) r
/-- How many an instruction takes, and puts. -/
def movesI (op a : Int) : Int × Int :=
 bif decide (op = 8) then (IntKind.i64.wrap (a + 1), 1) else bif decide (op = 9) then (0, 0) else bif decide (op = 10) || decide (op = 14) then (1, 0) else
 bif decide (op = 11) || decide (op = 12) || decide (op = 13) then (1, 1) else (0, 1)
theorem c_moves (st : St) (i : Ins) : VCalls Tryz.prog TT 76 [.ref (encI i)] st fun r st' => r = .ret (.tup [.int .i64 (movesI i.op i.a).1, .int .i64 (movesI i.op i.a).2]) ∧ st' = st := by
 refine vfun TT_ok (an := anL []) (L := [0, 2, 3, 7, 17, 20]) (rs := [.tmp 2, .tmp 3]) Tryz.func76 rfl (by kernel_rfl) rfl Tryz.ntmps76 rfl rfl (Nat.le_refl _) fun hst ha hf => ?_
 obtain ⟨op, a, n, lb, ow, q⟩ := i
 simp only [encI_mk]
 have fin : ∀ x y : Int, movesI op a = (x, y) → Gives (.tup [.int .i64 (movesI op a).1, .int .i64 (movesI op a).2]) st (.ret (.tup [.int .i64 x, .int .i64 y])) st := fun x y h => by
  rw [h]; exact gives_self (by simp [V.lt, ltL]) hst
 simp only [gw0, reduceEqDiff, ↓reduceIte, reduceAdd, reduceLT, reduceLeDiff, reduceMul]
 refine iK_split (fun h1 => ?_) (fun h1 => ?_)
 ·simp only [gw0, reduceEqDiff, ↓reduceIte, reduceAdd, reduceLT, reduceLeDiff, reduceMul]
  exact fin _ _ (by simp only [movesI, h1, cond_true])
 simp only [gw0, reduceEqDiff, ↓reduceIte, reduceAdd, reduceLT, reduceLeDiff, reduceMul]
 refine iK_split (fun h2 => ?_) (fun h2 => ?_)
 ·simp only [gw0, reduceEqDiff, ↓reduceIte, reduceAdd, reduceLT, reduceLeDiff, reduceMul]
  exact fin _ _ (by simp only [movesI, h1, h2, cond_true, cond_false])
 simp only [gw0, reduceEqDiff, ↓reduceIte, reduceAdd, reduceLT, reduceLeDiff, reduceMul]
 refine iK_split (fun h3 => ?_) (fun h3 => ?_)
 ·simp only [gw0, reduceEqDiff, ↓reduceIte, reduceAdd, reduceLT, reduceLeDiff, reduceMul, h3]
  exact fin _ _ (by simp only [movesI, h1, h2, h3, Bool.true_or, cond_true, cond_false])
 simp only [gw0, reduceEqDiff, ↓reduceIte, reduceAdd, reduceLT, reduceLeDiff, reduceMul, h3]
 refine iK_split (fun h4 => ?_) (fun h4 => ?_)
 ·simp only [gw0, reduceEqDiff, ↓reduceIte, reduceAdd, reduceLT, reduceLeDiff, reduceMul]
  exact fin _ _ (by simp only [movesI, h1, h2, h3, h4, Bool.false_or, cond_true, cond_false])
 simp only [gw0, reduceEqDiff, ↓reduceIte, reduceAdd, reduceLT, reduceLeDiff, reduceMul]
 refine iK_split (fun h5 => ?_) (fun h5 => ?_)
 ·simp only [gw0, reduceEqDiff, ↓reduceIte, reduceAdd, reduceLT, reduceLeDiff, reduceMul, h5]
  exact fin _ _ (by simp only [movesI, h1, h2, h3, h4, h5, Bool.or_self, Bool.true_or, cond_true, cond_false])
 simp only [gw0, reduceEqDiff, ↓reduceIte, reduceAdd, reduceLT, reduceLeDiff, reduceMul, h5]
 refine iK_split (fun h6 => ?_) (fun h6 => ?_)
 ·simp only [gw0, reduceEqDiff, ↓reduceIte, reduceAdd, reduceLT, reduceLeDiff, reduceMul, h6]
  exact fin _ _ (by simp only [movesI, h1, h2, h3, h4, h5, h6, Bool.or_self, Bool.true_or, Bool.or_true, Bool.false_or, cond_true, cond_false])
 simp only [gw0, reduceEqDiff, ↓reduceIte, reduceAdd, reduceLT, reduceLeDiff, reduceMul, h6]
 refine iK_split (fun h7 => ?_) (fun h7 => ?_)
 ·simp only [gw0, reduceEqDiff, ↓reduceIte, reduceAdd, reduceLT, reduceLeDiff, reduceMul]
  exact fin _ _ (by simp only [movesI, h1, h2, h3, h4, h5, h6, h7, Bool.or_self, Bool.true_or, Bool.or_true, Bool.false_or, cond_true, cond_false])
 ·simp only [gw0, reduceEqDiff, ↓reduceIte, reduceAdd, reduceLT, reduceLeDiff, reduceMul]
  exact fin _ _ (by simp only [movesI, h1, h2, h3, h4, h5, h6, h7, Bool.or_self, cond_true, cond_false])
/-- A shape of procedures, as it lies: how many parameters are around each, in an object. -/
structure SH (s : St) (b A : Nat) (ps : List Pr) (ar : List Int) (G : Int) : Prop where
 box : s[b]? = some (.box [lstPr ps, .arr A ar.length, .int .i64 G])
 arr : s[A]? = some (.arr 3 1 (rowsI ar))
theorem rowsI_len (l : List Int) : (rowsI l).length = l.length := by simp [rowsI]
def globalE (G : Int) (i : Ins) : Int := bif decide (0 ≤ G) then amongE i.a G else bif !plainB i.lib || !namedB i.own then 7 else 0
theorem c_global (s : St) (b A : Nat) (ps : List Pr) (ar : List Int) (G : Int) (i : Ins) (h : SH s b A ps ar G) : VCalls Tryz.prog TT 72 [.ptr b 0, .ref (encI i)] s fun r st' => r = .ret (.int .i64 (globalE G i)) ∧ st' = s := by
 refine vfun TT_ok (an := anL []) (L := [0, 1, 4]) (rs := [.tmp 4]) Tryz.func72 rfl (by kernel_rfl) rfl Tryz.ntmps72 rfl rfl (Nat.le_refl _) fun hst ha hf => ?_
 obtain ⟨op, a, n, lb, ow, q⟩ := i
 simp only [encI_mk]
 simp only [gw0, reduceEqDiff, ↓reduceIte, reduceAdd, reduceLT, reduceLeDiff, reduceMul, h.box]
 refine iK_split (fun h1 => ?_) (fun h1 => ?_)
 ·simp only [gw0, reduceEqDiff, ↓reduceIte, reduceAdd, reduceLT, reduceLeDiff, reduceMul]
  refine vdraw TT_ok TT_mixed [0, 0, 0, 1, 0, 0, 0, 1, 0, 0] (by kernel_rfl) ?_
  simp only [gw0, reduceEqDiff, ↓reduceIte, reduceAdd, reduceLT, reduceLeDiff, reduceMul, h.box]
  refine eK_free (fun s => c_among s a G) (wkL_refl _) ?_
  simp only [gw0, reduceEqDiff, ↓reduceIte, reduceAdd, reduceLT, reduceLeDiff, reduceMul]
  exact gives_int (by simp only [globalE, h1, cond_true]) hst
 ·simp only [gw0, reduceEqDiff, ↓reduceIte, reduceAdd, reduceLT, reduceLeDiff, reduceMul]
  refine (c_plain _ lb).use (wkL_refl _) fun _ => ?_
  simp only [gw0, reduceEqDiff, ↓reduceIte, reduceAdd, reduceLT, reduceLeDiff, reduceMul]
  refine rK_guarded (.bool (namedB ow)) (fun _ => c_text_Named _ ow) ?_
  simp only [gw0, reduceEqDiff, ↓reduceIte, reduceAdd, reduceLT, reduceLeDiff, reduceMul]
  refine iK_split (fun h2 => ?_) (fun h2 => ?_)
  ·simp only [gw0, reduceEqDiff, ↓reduceIte, reduceAdd, reduceLT, reduceLeDiff, reduceMul]
   exact gives_int (by simp only [globalE, h1, cond_false, h2, cond_true]) hst
  ·simp only [gw0, reduceEqDiff, ↓reduceIte, reduceAdd, reduceLT, reduceLeDiff, reduceMul]
   exact gives_int (by simp only [globalE, h1, cond_false, h2]) hst
theorem rowsI_set (l : List Int) (k : Nat) (x : Int) : (rowsI l).set k [V.int .i64 x] = rowsI (l.set k x) := by simp [rowsI, List.map_set]
/-- What is wrong with an instruction of a procedure; and how many parameters are around each behind it. -/
def insE (ps : List Pr) (G : Int) (p : Nat) (i : Ins) (ar : List Int) : Int × List Int :=
 bif decide (i.op = 1) then (bif decide (1000000000000000 < i.n) || decide (i.n < -1000000000000000) then 3 else 0, ar)
 else bif decide (i.op = 2) then (bif !decide (i.n = 0) && !decide (i.n = 1) then 3 else 0, ar)
 else bif decide (i.op = 3) then ((wrongL [i.quote] 0 0).1, ar)
 else bif decide (i.op = 4) || decide (i.op = 11) then (amongE i.a (ar.getD p 0), ar)
 else bif decide (i.op = 5) || decide (i.op = 12) || decide (i.op = 13) then (globalE G i, ar)
 else bif decide (i.op = 6) then (bif !decide (i.own ∈ prims) then 7 else 0, ar)
 else bif decide (i.op = 7) then
  (bif decide (i.a ≤ p) || decide ((ps.length : Int) ≤ i.a) then (3, ar) else bif decide (0 ≤ ar.getD i.a.toNat 0) then (8, ar)
   else (0, ar.set i.a.toNat (IntKind.i64.wrap (ar.getD p 0 + (ps.getD i.a.toNat ⟨0, []⟩).args))))
 else bif decide (i.op = 8) then (amongE i.a 2001, ar)
 else bif decide (i.op = 9) || decide (i.op = 10) then (amongE i.a ((ps.getD p ⟨0, []⟩).code.length), ar)
 else bif decide (i.op = 14) || decide (i.op = 15) then (0, ar)
 else (1, ar)
theorem insE_len (ps : List Pr) (G : Int) (p : Nat) (i : Ins) (ar : List Int) : (insE ps G p i ar).2.length = ar.length := by
 unfold insE
 repeat' (first | rfl | (simp only [Bool.cond_decide]) | split | (simp; done))
 all_goals simp [cond]
 all_goals repeat' split
 all_goals simp
set_option maxRecDepth 20000 in
set_option maxHeartbeats 8000000 in
theorem c_ins (s : St) (b A : Nat) (ps : List Pr) (ar : List Int) (G : Int) (p : Nat) (i : Ins) (h : SH s b A ps ar G) (hp : p < ar.length) (hl : ps.length = ar.length) (hl2 : ar.length ≤ 1000000000) :
  VCalls Tryz.prog TT 50 [.ptr b 0, .int .i64 p, .ref (encI i)] s fun r st' => r = .ret (.int .i64 (insE ps G p i ar).1) ∧ st' = s.set A (.arr 3 1 (rowsI (insE ps G p i ar).2)) := by
 have hset : s.set A (.arr 3 1 (rowsI ar)) = s := by
  apply List.ext_getElem?; intro j
  rw [List.getElem?_set]
  split
  ·rename_i e; subst e
   split
   ·exact h.arr.symm
   ·rename_i e; have := (List.getElem?_eq_some_iff.1 h.arr).1; omega
  ·rfl
 refine vfun TT_ok (an := anL []) (L := [0, 1, 2, 6, 10, 48, 63, 145, 162]) (rs := [.tmp 6]) Tryz.func50 rfl (by kernel_rfl) rfl Tryz.ntmps50 rfl rfl (by simp) fun hst ha hf => ?_
 obtain ⟨op, a, n, lb, ow, q⟩ := i
 generalize hr : insE ps G p ⟨op, a, n, lb, ow, q⟩ ar = r
 have fin : ∀ e : Int, insE ps G p ⟨op, a, n, lb, ow, q⟩ ar = (e, ar) → Gives (.int .i64 r.1) (s.set A (.arr 3 1 (rowsI r.2))) (.ret (.int .i64 e)) s := fun e he => by
  rw [← hr, he]; simp only; rw [hset]; exact gives_self (by simp [V.lt]) hst
 have hra : (rowsI ar).getD p [] = [.int .i64 (ar.getD p 0)] := by
  have e : ar[p]? = some (ar.getD p 0) := by rw [List.getD_eq_getElem?_getD, List.getElem?_eq_getElem hp]; rfl
  exact getD_map (f := fun n => [V.int .i64 n]) e
 have hrp : (ps.map encPr).getD p [] = encPr (ps.getD p ⟨0, []⟩) := by
  have e : ps[p]? = some (ps.getD p ⟨0, []⟩) := by rw [List.getD_eq_getElem?_getD, List.getElem?_eq_getElem (by omega : p < ps.length)]; rfl
  exact getD_map e
 have hpl : (p : Int) < (ar.length : Int) := Int.ofNat_lt.mpr hp
 simp only [encI_mk]
 simp only [gw0, reduceEqDiff, ↓reduceIte, reduceAdd, reduceLT, reduceLeDiff, reduceMul]
 refine iK_split (fun h1 => ?_) (fun h1 => ?_)
 ·simp only [gw0, reduceEqDiff, ↓reduceIte, reduceAdd, reduceLT, reduceLeDiff, reduceMul]
  refine iK_split (fun h2 => ?_) (fun h2 => ?_)
  ·simp only [gw0, reduceEqDiff, ↓reduceIte, reduceAdd, reduceLT, reduceLeDiff, reduceMul]
   exact fin _ (by simp only [insE, h1, h2, cond_true])
  ·simp only [gw0, reduceEqDiff, ↓reduceIte, reduceAdd, reduceLT, reduceLeDiff, reduceMul]
   exact fin _ (by simp only [insE, h1, h2, cond_true, cond_false])
 simp only [gw0, reduceEqDiff, ↓reduceIte, reduceAdd, reduceLT, reduceLeDiff, reduceMul]
 refine iK_split (fun h2 => ?_) (fun h2 => ?_)
 ·simp only [gw0, reduceEqDiff, ↓reduceIte, reduceAdd, reduceLT, reduceLeDiff, reduceMul]
  refine iK_split (fun h3 => ?_) (fun h3 => ?_)
  ·simp only [gw0, reduceEqDiff, ↓reduceIte, reduceAdd, reduceLT, reduceLeDiff, reduceMul]
   exact fin _ (by simp only [insE, h1, h2, h3, cond_true, cond_false])
  ·simp only [gw0, reduceEqDiff, ↓reduceIte, reduceAdd, reduceLT, reduceLeDiff, reduceMul]
   exact fin _ (by simp only [insE, h1, h2, h3, cond_true, cond_false])
 simp only [gw0, reduceEqDiff, ↓reduceIte, reduceAdd, reduceLT, reduceLeDiff, reduceMul]
 refine iK_split (fun h3 => ?_) (fun h3 => ?_)
 ·simp only [gw0, reduceEqDiff, ↓reduceIte, reduceAdd, reduceLT, reduceLeDiff, reduceMul, encD_take, encD_len]
  refine (c_text_Wrong _ [q]).use (wkL_refl _) fun _ => ?_
  simp only [gw0, reduceEqDiff, ↓reduceIte, reduceAdd, reduceLT, reduceLeDiff, reduceMul, fltV]
  exact fin _ (by simp only [insE, h1, h2, h3, cond_true, cond_false])
 simp only [gw0, reduceEqDiff, ↓reduceIte, reduceAdd, reduceLT, reduceLeDiff, reduceMul]
 refine iK_split (fun h4 => ?_) (fun h4 => ?_)
 ·simp only [gw0, reduceEqDiff, ↓reduceIte, reduceAdd, reduceLT, reduceLeDiff, reduceMul, h4]
  refine vdraw TT_ok TT_mixed [0, 0, 0, 1, 0, 0, 0, 1, 0, 1, 1, 0, 0] (by kernel_rfl) ?_
  simp only [gw0, reduceEqDiff, ↓reduceIte, reduceAdd, reduceLT, reduceLeDiff, reduceMul, h.box, h.arr, hra, rowsI_len]
  refine ⟨hpl, hp, ?_⟩
  refine eK_free (fun s => c_among s a (ar.getD p 0)) (wkL_refl _) ?_
  simp only [gw0, reduceEqDiff, ↓reduceIte, reduceAdd, reduceLT, reduceLeDiff, reduceMul]
  exact fin _ (by simp only [insE, h1, h2, h3, h4, Bool.true_or, Bool.or_true, Bool.false_or, cond_true, cond_false])
 simp only [gw0, reduceEqDiff, ↓reduceIte, reduceAdd, reduceLT, reduceLeDiff, reduceMul, h4]
 refine iK_split (fun h5 => ?_) (fun h5 => ?_)
 ·simp only [gw0, reduceEqDiff, ↓reduceIte, reduceAdd, reduceLT, reduceLeDiff, reduceMul, h5]
  refine vdraw TT_ok TT_mixed [0, 0, 0, 1, 0, 0, 0, 1, 0, 1, 1, 0, 0] (by kernel_rfl) ?_
  simp only [gw0, reduceEqDiff, ↓reduceIte, reduceAdd, reduceLT, reduceLeDiff, reduceMul, h.box, h.arr, hra, rowsI_len]
  refine ⟨hpl, hp, ?_⟩
  refine eK_free (fun s => c_among s a (ar.getD p 0)) (wkL_refl _) ?_
  simp only [gw0, reduceEqDiff, ↓reduceIte, reduceAdd, reduceLT, reduceLeDiff, reduceMul]
  exact fin _ (by simp only [insE, h1, h2, h3, h4, h5, Bool.true_or, Bool.or_true, Bool.false_or, cond_true, cond_false])
 simp only [gw0, reduceEqDiff, ↓reduceIte, reduceAdd, reduceLT, reduceLeDiff, reduceMul, h5]
 refine iK_split (fun h6 => ?_) (fun h6 => ?_)
 ·simp only [gw0, reduceEqDiff, ↓reduceIte, reduceAdd, reduceLT, reduceLeDiff, reduceMul, h6]
  refine (c_global s b A ps ar G ⟨op, a, n, lb, ow, q⟩ h).use (wkL_refl _) fun _ => ?_
  simp only [gw0, reduceEqDiff, ↓reduceIte, reduceAdd, reduceLT, reduceLeDiff, reduceMul]
  exact fin _ (by simp only [insE, h1, h2, h3, h4, h5, h6, Bool.true_or, Bool.or_true, Bool.false_or, Bool.or_false, Bool.or_self, cond_true, cond_false])
 simp only [gw0, reduceEqDiff, ↓reduceIte, reduceAdd, reduceLT, reduceLeDiff, reduceMul, h6]
 refine iK_split (fun h7 => ?_) (fun h7 => ?_)
 ·simp only [gw0, reduceEqDiff, ↓reduceIte, reduceAdd, reduceLT, reduceLeDiff, reduceMul, h7]
  refine (c_global s b A ps ar G ⟨op, a, n, lb, ow, q⟩ h).use (wkL_refl _) fun _ => ?_
  simp only [gw0, reduceEqDiff, ↓reduceIte, reduceAdd, reduceLT, reduceLeDiff, reduceMul]
  exact fin _ (by simp only [insE, h1, h2, h3, h4, h5, h6, h7, Bool.true_or, Bool.or_true, Bool.false_or, Bool.or_false, Bool.or_self, cond_true, cond_false])
 simp only [gw0, reduceEqDiff, ↓reduceIte, reduceAdd, reduceLT, reduceLeDiff, reduceMul, h7]
 refine iK_split (fun h8 => ?_) (fun h8 => ?_)
 ·simp only [gw0, reduceEqDiff, ↓reduceIte, reduceAdd, reduceLT, reduceLeDiff, reduceMul, h8]
  refine (c_global s b A ps ar G ⟨op, a, n, lb, ow, q⟩ h).use (wkL_refl _) fun _ => ?_
  simp only [gw0, reduceEqDiff, ↓reduceIte, reduceAdd, reduceLT, reduceLeDiff, reduceMul]
  exact fin _ (by simp only [insE, h1, h2, h3, h4, h5, h6, h7, h8, Bool.true_or, Bool.or_true, Bool.false_or, Bool.or_false, Bool.or_self, cond_true, cond_false])
 simp only [gw0, reduceEqDiff, ↓reduceIte, reduceAdd, reduceLT, reduceLeDiff, reduceMul, h8]
 refine iK_split (fun h9 => ?_) (fun h9 => ?_)
 ·simp only [gw0, reduceEqDiff, ↓reduceIte, reduceAdd, reduceLT, reduceLeDiff, reduceMul]
  refine vdraw TT_ok TT_mixed [0, 0, 0, 0, 1, 0, 0] (by kernel_rfl) ?_
  simp only [gw0, reduceEqDiff, ↓reduceIte, reduceAdd, reduceLT, reduceLeDiff, reduceMul]
  refine eK_free (fun s => c_Prims s) (wkL_refl _) ?_
  simp only [gw0, reduceEqDiff, ↓reduceIte, reduceAdd, reduceLT, reduceLeDiff, reduceMul]
  refine eK_free (fun s => c_Contains s prims ow) (wkL_refl _) ?_
  simp only [gw0, reduceEqDiff, ↓reduceIte, reduceAdd, reduceLT, reduceLeDiff, reduceMul]
  refine iK_split (fun h10 => ?_) (fun h10 => ?_)
  ·simp only [gw0, reduceEqDiff, ↓reduceIte, reduceAdd, reduceLT, reduceLeDiff, reduceMul]
   exact fin _ (by simp only [insE, h1, h2, h3, h4, h5, h6, h7, h8, h9, h10, Bool.true_or, Bool.or_true, Bool.false_or, Bool.or_false, Bool.or_self, cond_true, cond_false])
  ·simp only [gw0, reduceEqDiff, ↓reduceIte, reduceAdd, reduceLT, reduceLeDiff, reduceMul]
   exact fin _ (by simp only [insE, h1, h2, h3, h4, h5, h6, h7, h8, h9, h10, Bool.true_or, Bool.or_true, Bool.false_or, Bool.or_false, Bool.or_self, cond_true, cond_false])
 simp only [gw0, reduceEqDiff, ↓reduceIte, reduceAdd, reduceLT, reduceLeDiff, reduceMul]
 refine iK_split (fun h10 => ?_) (fun h10 => ?_)
 ·simp only [gw0, reduceEqDiff, ↓reduceIte, reduceAdd, reduceLT, reduceLeDiff, reduceMul]
  refine vdraw TT_ok TT_mixed [0, 0, 0, 1, 0, 0, 0, 0, 0, 0, 1, 0, 0, 0, 1, 0, 0, 0] (by kernel_rfl) ?_
  simp only [gw0, reduceEqDiff, ↓reduceIte, reduceAdd, reduceLT, reduceLeDiff, reduceMul, h.box, lstPr, List.length_map]
  refine iK_split (fun h11 => ?_) (fun h11 => ?_)
  ·simp only [gw0, reduceEqDiff, ↓reduceIte, reduceAdd, reduceLT, reduceLeDiff, reduceMul]
   exact fin _ (by simp only [insE, h1, h2, h3, h4, h5, h6, h7, h8, h9, h10, h11, Bool.true_or, Bool.or_true, Bool.false_or, Bool.or_false, Bool.or_self, cond_true, cond_false])
  have h11' := h11
  simp only [Bool.or_eq_false_iff, decide_eq_false_iff_not, Int.not_le] at h11'
  obtain ⟨ha1, ha2⟩ := h11'
  obtain ⟨a', rfl⟩ : ∃ a' : Nat, a = a' := ⟨a.toNat, by omega⟩
  have ha3 : a' < ar.length := by omega
  have hra2 : (rowsI ar).getD a' [] = [.int .i64 (ar.getD a' 0)] := by
   have e : ar[a']? = some (ar.getD a' 0) := by rw [List.getD_eq_getElem?_getD, List.getElem?_eq_getElem ha3]; rfl
   exact getD_map (f := fun n => [V.int .i64 n]) e
  have hrp2 : (ps.map encPr).getD a' [] = encPr (ps.getD a' ⟨0, []⟩) := by
   have e : ps[a']? = some (ps.getD a' ⟨0, []⟩) := by rw [List.getD_eq_getElem?_getD, List.getElem?_eq_getElem (by omega : a' < ps.length)]; rfl
   exact getD_map e
  have hal : (a' : Int) < (ar.length : Int) := Int.ofNat_lt.mpr ha3
  simp only [gw0, reduceEqDiff, ↓reduceIte, reduceAdd, reduceLT, reduceLeDiff, reduceMul]
  refine vdraw TT_ok TT_mixed [0, 0, 0, 1, 0, 0, 0, 1, 1, 1, 0] (by kernel_rfl) ?_
  simp only [gw0, reduceEqDiff, ↓reduceIte, reduceAdd, reduceLT, reduceLeDiff, reduceMul, h.box, h.arr, hra2, rowsI_len, Int.toNat_natCast]
  refine ⟨hal, ha3, ?_⟩
  refine iK_split (fun h12 => ?_) (fun h12 => ?_)
  ·simp only [gw0, reduceEqDiff, ↓reduceIte, reduceAdd, reduceLT, reduceLeDiff, reduceMul]
   exact fin _ (by simp only [insE, h1, h2, h3, h4, h5, h6, h7, h8, h9, h10, h11, h12, Int.toNat_natCast, Bool.true_or, Bool.or_true, Bool.false_or, Bool.or_false, Bool.or_self, cond_true, cond_false])
  simp only [gw0, reduceEqDiff, ↓reduceIte, reduceAdd, reduceLT, reduceLeDiff, reduceMul]
  refine vdraw TT_ok TT_mixed [0, 0, 0, 1, 0, 0, 0, 1, 0, 0, 0, 1, 0, 1, 1, 0, 0, 0, 1, 0, 0, 0, 1, 0, 0, 1, 0, 1, 2] (by kernel_rfl) ?_
  simp only [gw0, reduceEqDiff, ↓reduceIte, reduceAdd, reduceLT, reduceLeDiff, reduceMul, h.box, h.arr, hra, hra2, hrp2, rowsI_len, Int.toNat_natCast, lstPr, encPr, List.length_map]
  refine ⟨hpl, hp, by omega, hal, ha3, ?_⟩
  have e : insE ps G p ⟨op, a', n, lb, ow, q⟩ ar = (0, ar.set a' (IntKind.i64.wrap (ar.getD p 0 + (ps.getD a' ⟨0, []⟩).args))) := by
   simp only [insE, h1, h2, h3, h4, h5, h6, h7, h8, h9, h10, h11, h12, Int.toNat_natCast, Bool.true_or, Bool.or_true, Bool.false_or, Bool.or_false, Bool.or_self, cond_true, cond_false]
  rw [← hr, e]
  simp only
  rw [rowsI_set]
  exact gives_self (by simp [V.lt]) (ok_set hst (ltRows_map fun _ _ => ⟨trivial, trivial⟩))
 simp only [gw0, reduceEqDiff, ↓reduceIte, reduceAdd, reduceLT, reduceLeDiff, reduceMul]
 refine iK_split (fun h11 => ?_) (fun h11 => ?_)
 ·simp only [gw0, reduceEqDiff, ↓reduceIte, reduceAdd, reduceLT, reduceLeDiff, reduceMul]
  refine (c_among _ a 2001).use (wkL_refl _) fun _ => ?_
  simp only [gw0, reduceEqDiff, ↓reduceIte, reduceAdd, reduceLT, reduceLeDiff, reduceMul]
  exact fin _ (by simp only [insE, h1, h2, h3, h4, h5, h6, h7, h8, h9, h10, h11, Bool.true_or, Bool.or_true, Bool.false_or, Bool.or_false, Bool.or_self, cond_true, cond_false])
 simp only [gw0, reduceEqDiff, ↓reduceIte, reduceAdd, reduceLT, reduceLeDiff, reduceMul]
 refine iK_split (fun h12 => ?_) (fun h12 => ?_)
 ·simp only [gw0, reduceEqDiff, ↓reduceIte, reduceAdd, reduceLT, reduceLeDiff, reduceMul, h12]
  refine vdraw TT_ok TT_mixed [0, 0, 0, 1, 0, 0, 0, 1, 0, 0, 0, 1, 0, 0, 0] (by kernel_rfl) ?_
  simp only [gw0, reduceEqDiff, ↓reduceIte, reduceAdd, reduceLT, reduceLeDiff, reduceMul, h.box, lstPr, List.length_map, hrp, encPr, lstI]
  refine ⟨Int.ofNat_lt.mpr (by omega), ?_⟩
  refine eK_free (fun s => c_among s a _) (wkL_refl _) ?_
  simp only [gw0, reduceEqDiff, ↓reduceIte, reduceAdd, reduceLT, reduceLeDiff, reduceMul]
  exact fin _ (by simp only [insE, h1, h2, h3, h4, h5, h6, h7, h8, h9, h10, h11, h12, Bool.true_or, Bool.or_true, Bool.false_or, Bool.or_false, Bool.or_self, cond_true, cond_false])
 simp only [gw0, reduceEqDiff, ↓reduceIte, reduceAdd, reduceLT, reduceLeDiff, reduceMul, h12]
 refine iK_split (fun h13 => ?_) (fun h13 => ?_)
 ·simp only [gw0, reduceEqDiff, ↓reduceIte, reduceAdd, reduceLT, reduceLeDiff, reduceMul, h13]
  refine vdraw TT_ok TT_mixed [0, 0, 0, 1, 0, 0, 0, 1, 0, 0, 0, 1, 0, 0, 0] (by kernel_rfl) ?_
  simp only [gw0, reduceEqDiff, ↓reduceIte, reduceAdd, reduceLT, reduceLeDiff, reduceMul, h.box, lstPr, List.length_map, hrp, encPr, lstI]
  refine ⟨Int.ofNat_lt.mpr (by omega), ?_⟩
  refine eK_free (fun s => c_among s a _) (wkL_refl _) ?_
  simp only [gw0, reduceEqDiff, ↓reduceIte, reduceAdd, reduceLT, reduceLeDiff, reduceMul]
  exact fin _ (by simp only [insE, h1, h2, h3, h4, h5, h6, h7, h8, h9, h10, h11, h12, h13, Bool.true_or, Bool.or_true, Bool.false_or, Bool.or_false, Bool.or_self, cond_true, cond_false])
 simp only [gw0, reduceEqDiff, ↓reduceIte, reduceAdd, reduceLT, reduceLeDiff, reduceMul, h13]
 refine iK_split (fun h14 => ?_) (fun h14 => ?_)
 ·simp only [gw0, reduceEqDiff, ↓reduceIte, reduceAdd, reduceLT, reduceLeDiff, reduceMul, h14]
  exact fin _ (by simp only [insE, h1, h2, h3, h4, h5, h6, h7, h8, h9, h10, h11, h12, h13, h14, Bool.true_or, Bool.or_true, Bool.false_or, Bool.or_false, Bool.or_self, cond_true, cond_false])
 simp only [gw0, reduceEqDiff, ↓reduceIte, reduceAdd, reduceLT, reduceLeDiff, reduceMul, h14]
 refine iK_split (fun h15 => ?_) (fun h15 => ?_)
 ·simp only [gw0, reduceEqDiff, ↓reduceIte, reduceAdd, reduceLT, reduceLeDiff, reduceMul, h15]
  exact fin _ (by simp only [insE, h1, h2, h3, h4, h5, h6, h7, h8, h9, h10, h11, h12, h13, h14, h15, Bool.true_or, Bool.or_true, Bool.false_or, Bool.or_false, Bool.or_self, cond_true, cond_false])
 simp only [gw0, reduceEqDiff, ↓reduceIte, reduceAdd, reduceLT, reduceLeDiff, reduceMul, h15]
 exact fin _ (by simp only [insE, h1, h2, h3, h4, h5, h6, h7, h8, h9, h10, h11, h12, h13, h14, h15, Bool.true_or, Bool.or_true, Bool.false_or, Bool.or_false, Bool.or_self, cond_true, cond_false])
/-- Code, and heights, as the walk over them has them. -/
structure HS (s : St) (c hb H : Nat) (code : List Ins) (high : List Int) : Prop where
 code : s[c]? = some (.box [lstI code])
 box : s[hb]? = some (.box [.arr H high.length])
 arr : s[H]? = some (.arr 3 1 (rowsI high))
theorem rowsI_get {l : List Int} {k : Nat} (h : k < l.length) : (rowsI l).getD k [] = [.int .i64 (l.getD k 0)] := by
 have e : l[k]? = some (l.getD k 0) := by rw [List.getD_eq_getElem?_getD, List.getElem?_eq_getElem h]; rfl
 exact getD_map (f := fun n => [V.int .i64 n]) e
theorem set_same {s : St} {o : Nat} {e : Ent} (h : s[o]? = some e) : s.set o e = s := by
 apply List.ext_getElem?; intro j
 rw [List.getElem?_set]
 split
 ·rename_i e'; subst e'
  split
  ·exact h.symm
  ·rename_i e2; have := (List.getElem?_eq_some_iff.1 h).1; omega
 ·rfl
/-- Two ways meet at a place. -/
def meetP (n : Nat) (high : List Int) (i h : Int) : Bool × List Int :=
 bif decide ((n : Int) ≤ i) || (decide (0 ≤ high.getD i.toNat 0) && !decide (high.getD i.toNat 0 = h)) then (false, high) else (true, high.set i.toNat h)
theorem meetP_len (n : Nat) (high : List Int) (i h : Int) : (meetP n high i h).2.length = high.length := by
 unfold meetP
 cases decide ((n : Int) ≤ i) || (decide (0 ≤ high.getD i.toNat 0) && !decide (high.getD i.toNat 0 = h)) <;> simp
set_option maxRecDepth 20000 in
set_option maxHeartbeats 2000000 in
theorem c_meet (s : St) (c hb H : Nat) (code : List Ins) (high : List Int) (i : Nat) (h : Int) (hs : HS s c hb H code high) (hl : code.length = high.length) :
  VCalls Tryz.prog TT 75 [.int .i64 i, .int .i64 h, .ptr c 0, .ptr hb 0] s fun r st' => r = .ret (.bool (meetP code.length high i h).1) ∧ st' = s.set H (.arr 3 1 (rowsI (meetP code.length high i h).2)) := by
 refine vfun TT_ok (an := anL []) (L := [0, 1, 2, 3, 6]) (rs := [.tmp 6]) Tryz.func75 rfl (by kernel_rfl) rfl Tryz.ntmps75 rfl rfl (by simp) fun hst ha hf => ?_
 have bad : (meetP code.length high i h) = (false, high) → Gives (.bool (meetP code.length high i h).1) (s.set H (.arr 3 1 (rowsI (meetP code.length high i h).2))) (.ret (.bool false)) s := fun e => by
  rw [e]; simp only; rw [set_same hs.arr]; exact gives_self (by simp [V.lt]) hst
 rcases Nat.lt_or_ge i high.length with hlt | hge
 ·have e1 : decide ((code.length : Int) ≤ i) = false := decide_eq_false (by omega)
  have hgi := rowsI_get hlt
  have hil : (i : Int) < (high.length : Int) := Int.ofNat_lt.mpr hlt
  simp only [gw0, reduceEqDiff, ↓reduceIte, reduceAdd, reduceLT, reduceLeDiff, reduceMul, hs.code, hs.box, hs.arr, lstI, List.length_map, e1, hgi, rowsI_len, Int.toNat_natCast, Bool.not_false, Bool.false_or, forall_const]
  refine ⟨hil, hlt, fun _ => hil, fun _ => hlt, iK_split (fun h1 => ?_) (fun h1 => ?_)⟩
  ·simp only [gw0, reduceEqDiff, ↓reduceIte, reduceAdd, reduceLT, reduceLeDiff, reduceMul]
   exact bad (by simp only [meetP, e1, Int.toNat_natCast, h1, Bool.false_or, cond_true])
  ·simp only [gw0, reduceEqDiff, ↓reduceIte, reduceAdd, reduceLT, reduceLeDiff, reduceMul, hs.box, hs.arr, hgi, rowsI_len, Int.toNat_natCast]
   refine ⟨hil, hlt, ?_⟩
   have e : meetP code.length high i h = (true, high.set i h) := by simp only [meetP, e1, Int.toNat_natCast, h1, Bool.false_or, cond_false]
   rw [e]
   simp only
   rw [rowsI_set]
   exact gives_self (by simp [V.lt]) (ok_set hst (ltRows_map fun _ _ => ⟨trivial, trivial⟩))
 ·have e1 : decide ((code.length : Int) ≤ i) = true := decide_eq_true (by omega)
  have hgi : (rowsI high).getD i [] = [] := by rw [List.getD_eq_getElem?_getD, List.getElem?_eq_none (by rw [rowsI_len]; exact hge)]; rfl
  simp only [gw0, reduceEqDiff, ↓reduceIte, reduceAdd, reduceLT, reduceLeDiff, reduceMul, hs.code, hs.box, hs.arr, lstI, List.length_map, e1, hgi, rowsI_len, Int.toNat_natCast, Bool.not_true, Bool.true_or]
  exact bad (by simp only [meetP, e1, Bool.true_or, cond_true])
/-- The heights at first. -/
def initHt (n i : Nat) : List Int := (List.range n).map fun j => bif decide (j < i) then (bif decide (j = 0) then 0 else -1) else 0
theorem initHt_len (n i : Nat) : (initHt n i).length = n := by simp [initHt]
theorem initHt_zero (n : Nat) : rowsI (initHt n 0) = List.replicate n [V.int .i64 0] := by
 apply List.ext_getElem
 ·simp [rowsI, initHt]
 ·intro j h1 h2
  simp [rowsI, initHt]
theorem initHt_set (n i : Nat) (h : i < n) : (initHt n i).set i (bif decide (i = 0) then 0 else -1) = initHt n (i + 1) := by
 apply List.ext_getElem
 ·simp [initHt]
 ·intro j h1 h2
  rw [List.getElem_set]
  simp only [initHt, List.getElem_map, List.getElem_range]
  by_cases e : i = j
  ·subst e; simp
  ·have e1 : decide (j < i + 1) = decide (j < i) := by by_cases h : j < i <;> simp [h] <;> omega
   simp [e, e1]
def stackG (n : Nat) (body : Bool) : List Ins → Nat → List Int → Int
 | [], _, _ => 0
 | x :: r, i, high =>
  bif decide (high.getD i 0 < 0) || (decide (x.op = 15) && (decide (1 < high.getD i 0) || !(decide (high.getD i 0 = 0) == body))) then 8
  else bif decide (x.op = 15) then stackG n body r (i + 1) high
  else bif decide (IntKind.i64.wrap (high.getD i 0 - (movesI x.op x.a).1) < 0) then 8
  else bif decide (x.op = 9) then
   (bif decide (x.a ≤ i) then 8 else
    bif !(meetP n high x.a (IntKind.i64.wrap (IntKind.i64.wrap (high.getD i 0 - (movesI x.op x.a).1) + (movesI x.op x.a).2))).1 then 8 else
    stackG n body r (i + 1) (meetP n high x.a (IntKind.i64.wrap (IntKind.i64.wrap (high.getD i 0 - (movesI x.op x.a).1) + (movesI x.op x.a).2))).2)
  else bif decide (x.op = 10) then
   (bif decide (x.a ≤ i) then 8 else
    bif !(meetP n high x.a (IntKind.i64.wrap (IntKind.i64.wrap (high.getD i 0 - (movesI x.op x.a).1) + (movesI x.op x.a).2))).1 then 8 else
    bif !(meetP n (meetP n high x.a (IntKind.i64.wrap (IntKind.i64.wrap (high.getD i 0 - (movesI x.op x.a).1) + (movesI x.op x.a).2))).2 ((i + 1 : Nat) : Int) (IntKind.i64.wrap (IntKind.i64.wrap (high.getD i 0 - (movesI x.op x.a).1) + (movesI x.op x.a).2))).1 then 8 else
    stackG n body r (i + 1) (meetP n (meetP n high x.a (IntKind.i64.wrap (IntKind.i64.wrap (high.getD i 0 - (movesI x.op x.a).1) + (movesI x.op x.a).2))).2 ((i + 1 : Nat) : Int) (IntKind.i64.wrap (IntKind.i64.wrap (high.getD i 0 - (movesI x.op x.a).1) + (movesI x.op x.a).2))).2)
  else
   (bif !(meetP n high ((i + 1 : Nat) : Int) (IntKind.i64.wrap (IntKind.i64.wrap (high.getD i 0 - (movesI x.op x.a).1) + (movesI x.op x.a).2))).1 then 8 else
    stackG n body r (i + 1) (meetP n high ((i + 1 : Nat) : Int) (IntKind.i64.wrap (IntKind.i64.wrap (high.getD i 0 - (movesI x.op x.a).1) + (movesI x.op x.a).2))).2)
def stackE (code : List Ins) (body : Bool) : Int := stackG code.length body code 0 (initHt code.length code.length)
set_option maxRecDepth 20000 in
set_option maxHeartbeats 8000000 in
theorem c_stack (s : St) (b A : Nat) (ps : List Pr) (ar : List Int) (G : Int) (p : Nat) (q : Pr) (body : Bool) (h : SH s b A ps ar G) (hq : ps[p]? = some q) (hl : q.code.length ≤ 6000) :
  VCalls Tryz.prog TT 51 [.ptr b 0, .int .i64 p, .bool body] s fun r st' => r = .ret (.int .i64 (stackE q.code body)) ∧ st' = s := by
 refine vfun TT_ok (an := anL []) (L := [0, 1, 2, 6, 7, 8, 9, 10, 11, 12, 13, 14, 15, 16, 29, 30, 42, 43]) (rs := [.tmp 6]) Tryz.func51 rfl (by kernel_rfl) rfl Tryz.ntmps51 rfl rfl (Nat.le_refl _) fun hst ha hf => ?_
 have hrp : (ps.map encPr).getD p [] = encPr q := getD_map hq
 have hpl : (p : Int) < (ps.length : Int) := Int.ofNat_lt.mpr (List.getElem?_eq_some_iff.1 hq).1
 obtain ⟨qa, code⟩ := q
 simp only at hl ⊢
 simp only [gw0, reduceEqDiff, ↓reduceIte, reduceAdd, reduceLT, reduceLeDiff, reduceMul, h.box, lstPr, List.length_map, hrp, encPr, lstI]
 refine ⟨hpl, ⟨by omega, by omega⟩, ?_⟩
 rw [← initHt_zero]
 refine vfor (σ := Nat) [2, 7, 8, 29, 30] (fun i => [(2, true, .bool body), (7, true, .ptr s.length 0), (8, true, .ptr (s.length + 2) 0), (29, true, .int .i64 code.length), (30, true, .int .i64 i)]) (fun i => s ++ [.box [.lst 11 none (code.map encI)], .arr 3 1 (rowsI (initHt code.length i)), .box [.arr (s.length + 1) code.length]]) (fun i => code.length - i) (fun i => i ≤ code.length) 0 rfl TT_ok (Nat.zero_le _) rfl rfl ?_
 intro i hi
 have hil : (rowsI (initHt code.length i)).length = code.length := by rw [rowsI_len, initHt_len]
 rcases Nat.lt_or_ge i code.length with hlt | hge
 ·have hgi := rowsI_get (l := initHt code.length i) (by rw [initHt_len]; exact hlt)
  have w : IntKind.i64.wrap ((i : Int) + 1) = ((i + 1 : Nat) : Int) := next_i64 hlt (by omega)
  have wv : IntKind.i64.wrap (0 - if (1 : Int) < (i : Int) then (1 : Int) else (i : Int)) = (bif decide (i = 0) then 0 else -1) := by
   match i with
   | 0 => rfl
   | 1 => rfl
   | k + 2 =>
    have h2 : (1 : Int) < ((k + 2 : Nat) : Int) := by omega
    rw [if_pos h2]; rfl
  simp only [gw0, reduceEqDiff, ↓reduceIte, reduceAdd, reduceLT, reduceLeDiff, reduceMul, lt_yes hlt, hil, hgi, Int.toNat_natCast, Int.ofNat_lt.mpr hlt, w, rowsI_set, Env.keep]
  refine ⟨hlt, i + 1, rfl, ?_, by omega, hlt⟩
  rw [wv, initHt_set _ _ hlt]
 have hie : i = code.length := by omega
 subst hie
 simp only [gw0, reduceEqDiff, ↓reduceIte, reduceAdd, reduceLT, reduceLeDiff, reduceMul, lt_no, List.length_map]
 generalize hz : initHt code.length code.length = z0
 have hzl : z0.length = code.length := by rw [← hz, initHt_len]
 refine vfor (σ := Nat × List Int) [2, 7, 8, 10, 42, 43] (fun x => [(2, true, .bool body), (7, true, .ptr s.length 0), (8, true, .ptr (s.length + 2) 0), (10, true, .fn (.func 75) [.ptr s.length 0, .ptr (s.length + 2) 0]), (42, true, .int .i64 code.length), (43, true, .int .i64 x.1)]) (fun x => s ++ [.box [.lst 11 none (code.map encI)], .arr 3 1 (rowsI x.2), .box [.arr (s.length + 1) code.length]]) (fun x => code.length - x.1) (fun x => x.1 ≤ code.length ∧ x.2.length = code.length ∧ stackG code.length body code 0 z0 = stackG code.length body (code.drop x.1) x.1 x.2) (0, z0) rfl TT_ok ⟨Nat.zero_le _, hzl, rfl⟩ rfl rfl ?_
 rintro ⟨i, high⟩ ⟨hi, hhl, hx⟩
 simp only at hi hhl hx ⊢
 have hE : stackE code body = stackG code.length body (code.drop i) i high := by rw [stackE, hz]; exact hx
 rw [hE]
 rcases at_or_end code i hi with ⟨hie, hd⟩ | ⟨u, hlt, hget, hdr⟩
 ·have hie2 : i = code.length := hie
  subst hie2
  simp only [gw0, reduceEqDiff, ↓reduceIte, reduceAdd, reduceLT, reduceLeDiff, reduceMul, lt_no, hd, stackG]
  exact gives_int' rfl hst
 ·have hgi := rowsI_get (l := high) (k := i) (by omega)
  have hgu : (code.map encI).getD i [] = encI u := getD_map hget
  have hrl : (rowsI high).length = code.length := by rw [rowsI_len, hhl]
  have w : IntKind.i64.wrap ((i : Int) + 1) = ((i + 1 : Nat) : Int) := next_i64 hlt (by omega)
  have hil2 : (i : Int) < (code.length : Int) := Int.ofNat_lt.mpr hlt
  obtain ⟨op, a, n, lb, ow, qd⟩ := u
  simp only [encI_mk] at hgu
  rw [hdr, stackG] at hx ⊢
  simp only at hx ⊢
  generalize hgx : high.getD i 0 = hv at *
  simp only [gw0, reduceEqDiff, ↓reduceIte, reduceAdd, reduceLT, reduceLeDiff, reduceMul, lt_yes hlt, hil2, hgi, hgu, hrl, Int.toNat_natCast, w, List.length_map]
  refine ⟨hlt, fun _ => hlt, fun _ => hlt, fun h _ => ⟨h, fun h2 => by rw [h, h2]; rfl⟩, fun h _ => ⟨h, fun h2 => by rw [h, h2]; rfl⟩, iK_split (fun h1 => ?_) (fun h1 => ?_)⟩
  ·simp only [gw0, reduceEqDiff, ↓reduceIte, reduceAdd, reduceLT, reduceLeDiff, reduceMul, h1, cond_true]
   exact gives_int' rfl hst
  have hHS : HS (s ++ [Ent.box [.lst 11 none (code.map encI)], .arr 3 1 (rowsI high), .box [.arr (s.length + 1) code.length]]) s.length (s.length + 2) (s.length + 1) code high :=
   ⟨by simp [lstI], by simp [hhl], by simp⟩
  simp only [h1, cond_false] at hx
  simp only [gw0, reduceEqDiff, ↓reduceIte, reduceAdd, reduceLT, reduceLeDiff, reduceMul, h1, cond_false]
  refine iK_split (fun h15 => ?_) (fun h15 => ?_)
  ·simp only [h15, cond_true] at hx
   simp only [gw0, reduceEqDiff, ↓reduceIte, reduceAdd, reduceLT, reduceLeDiff, reduceMul, h15, cond_true, w, Env.keep]
   exact ⟨(i + 1, high), rfl, rfl, by simp only; omega, by simp only; omega, hhl, hx⟩
  simp only [h15, cond_false] at hx
  simp only [gw0, reduceEqDiff, ↓reduceIte, reduceAdd, reduceLT, reduceLeDiff, reduceMul, h15, cond_false]
  refine (c_moves _ ⟨op, a, n, lb, ow, qd⟩).use (wkL_refl _) fun _ => ?_
  simp only
  generalize (movesI op a).1 = tk at *
  generalize (movesI op a).2 = pt at *
  simp only [gw0, reduceEqDiff, ↓reduceIte, reduceAdd, reduceLT, reduceLeDiff, reduceMul, hgi, hrl, Int.toNat_natCast]
  refine ⟨hil2, hlt, iK_split (fun h3 => ?_) (fun h3 => ?_)⟩
  ·simp only [gw0, reduceEqDiff, ↓reduceIte, reduceAdd, reduceLT, reduceLeDiff, reduceMul, h3, cond_true]
   exact gives_int' rfl hst
  simp only [h3, cond_false] at hx
  simp only [h3, cond_false]
  obtain ⟨hh, hhe⟩ : ∃ hh : Int, hh = IntKind.i64.wrap (IntKind.i64.wrap (hv - tk) + pt) := ⟨_, rfl⟩
  have hh2 := hhe.symm
  rw [hh2] at hx ⊢
  have st2 : ∀ l : List Int, (s ++ [Ent.box [.lst 11 none (code.map encI)], .arr 3 1 (rowsI high), .box [.arr (s.length + 1) code.length]]).set (s.length + 1) (.arr 3 1 (rowsI l)) = s ++ [Ent.box [.lst 11 none (code.map encI)], .arr 3 1 (rowsI l), .box [.arr (s.length + 1) code.length]] := fun l => by simp [List.set_append]
  cases h9 : decide (op = 9) with
  | true =>
   simp only [h9, cond_true] at hx ⊢
   cases h10 : decide (a ≤ i) with
   | true =>
    simp only [h10, cond_true] at hx ⊢
    simp only [gw0, reduceEqDiff, ↓reduceIte, reduceAdd, reduceLT, reduceLeDiff, reduceMul, h3, h9, h10, hh2, cond_true, cond_false, Bool.true_or, Bool.or_true, Bool.false_or, Bool.or_false, Bool.not_true, Bool.not_false, Bool.and_true, Bool.true_and, Bool.false_and, Bool.and_false]
    refine rK_not (.bool false) ?_
    simp only [gw0, reduceEqDiff, ↓reduceIte, reduceAdd, reduceLT, reduceLeDiff, reduceMul, h3, h9, h10, hh2, cond_true, cond_false, Bool.true_or, Bool.or_true, Bool.false_or, Bool.or_false, Bool.not_true, Bool.not_false, Bool.and_true, Bool.true_and, Bool.false_and, Bool.and_false]
    refine rK_not (.bool false) ?_
    simp only [gw0, reduceEqDiff, ↓reduceIte, reduceAdd, reduceLT, reduceLeDiff, reduceMul, h3, h9, h10, hh2, cond_true, cond_false, Bool.true_or, Bool.or_true, Bool.false_or, Bool.or_false, Bool.not_true, Bool.not_false, Bool.and_true, Bool.true_and, Bool.false_and, Bool.and_false]
    exact gives_int' rfl hst
   | false =>
    simp only [h10, cond_false] at hx ⊢
    obtain ⟨a', rfl⟩ : ∃ a' : Nat, a = a' := ⟨a.toNat, by have := of_decide_eq_false h10; omega⟩
    have hmt := c_meet _ _ _ _ code high a' hh hHS (by omega)
    have hml := meetP_len code.length high a' hh
    rw [st2] at hmt
    generalize meetP code.length high a' hh = m at hx hmt hml ⊢
    obtain ⟨mb, m2⟩ := m
    simp only at hx hmt hml ⊢
    simp only [gw0, reduceEqDiff, ↓reduceIte, reduceAdd, reduceLT, reduceLeDiff, reduceMul, h3, h9, h10, hh2, cond_true, cond_false, Bool.true_or, Bool.or_true, Bool.false_or, Bool.or_false, Bool.not_true, Bool.not_false, Bool.and_true, Bool.true_and, Bool.false_and, Bool.and_false]
    refine rK_made hmt (wkL_refl _) ?_
    cases mb with
    | false =>
     simp only [gw0, reduceEqDiff, ↓reduceIte, reduceAdd, reduceLT, reduceLeDiff, reduceMul, h3, h9, h10, hh2, cond_true, cond_false, Bool.true_or, Bool.or_true, Bool.false_or, Bool.or_false, Bool.not_true, Bool.not_false, Bool.and_true, Bool.true_and, Bool.false_and, Bool.and_false]
     refine rK_not (.bool false) ?_
     simp only [gw0, reduceEqDiff, ↓reduceIte, reduceAdd, reduceLT, reduceLeDiff, reduceMul, h3, h9, h10, hh2, cond_true, cond_false, Bool.true_or, Bool.or_true, Bool.false_or, Bool.or_false, Bool.not_true, Bool.not_false, Bool.and_true, Bool.true_and, Bool.false_and, Bool.and_false]
     exact gives_int' rfl hst
    | true =>
     simp only [gw0, reduceEqDiff, ↓reduceIte, reduceAdd, reduceLT, reduceLeDiff, reduceMul, h3, h9, h10, hh2, cond_true, cond_false, Bool.true_or, Bool.or_true, Bool.false_or, Bool.or_false, Bool.not_true, Bool.not_false, Bool.and_true, Bool.true_and, Bool.false_and, Bool.and_false]
     refine rK_not (.bool false) ?_
     simp only [gw0, reduceEqDiff, ↓reduceIte, reduceAdd, reduceLT, reduceLeDiff, reduceMul, h3, h9, h10, hh2, cond_true, cond_false, Bool.true_or, Bool.or_true, Bool.false_or, Bool.or_false, Bool.not_true, Bool.not_false, Bool.and_true, Bool.true_and, Bool.false_and, Bool.and_false, w, Env.keep]
     simp only [Bool.not_true, cond_false] at hx
     exact ⟨(i + 1, m2), rfl, rfl, by simp only; omega, by simp only; omega, by simp only; omega, hx⟩
  | false =>
   simp only [h9, cond_false] at hx ⊢
   cases h0 : decide (op = 10) with
   | true =>
    simp only [h0, cond_true] at hx ⊢
    cases h10 : decide (a ≤ i) with
    | true =>
     simp only [h10, cond_true] at hx ⊢
     simp only [gw0, reduceEqDiff, ↓reduceIte, reduceAdd, reduceLT, reduceLeDiff, reduceMul, h3, h9, h0, h10, hh2, cond_true, cond_false, Bool.true_or, Bool.or_true, Bool.false_or, Bool.or_false, Bool.not_true, Bool.not_false, Bool.and_true, Bool.true_and, Bool.false_and, Bool.and_false]
     refine rK_not (.bool false) ?_
     simp only [gw0, reduceEqDiff, ↓reduceIte, reduceAdd, reduceLT, reduceLeDiff, reduceMul, h3, h9, h0, h10, hh2, cond_true, cond_false, Bool.true_or, Bool.or_true, Bool.false_or, Bool.or_false, Bool.not_true, Bool.not_false, Bool.and_true, Bool.true_and, Bool.false_and, Bool.and_false]
     refine rK_not (.bool false) ?_
     simp only [gw0, reduceEqDiff, ↓reduceIte, reduceAdd, reduceLT, reduceLeDiff, reduceMul, h3, h9, h0, h10, hh2, cond_true, cond_false, Bool.true_or, Bool.or_true, Bool.false_or, Bool.or_false, Bool.not_true, Bool.not_false, Bool.and_true, Bool.true_and, Bool.false_and, Bool.and_false]
     exact gives_int' rfl hst
    | false =>
     simp only [h10, cond_false] at hx ⊢
     obtain ⟨a', rfl⟩ : ∃ a' : Nat, a = a' := ⟨a.toNat, by have := of_decide_eq_false h10; omega⟩
     have hmt := c_meet _ _ _ _ code high a' hh hHS (by omega)
     have hml := meetP_len code.length high a' hh
     rw [st2] at hmt
     generalize meetP code.length high a' hh = m at hx hmt hml ⊢
     obtain ⟨mb, m2⟩ := m
     simp only at hx hmt hml ⊢
     simp only [gw0, reduceEqDiff, ↓reduceIte, reduceAdd, reduceLT, reduceLeDiff, reduceMul, h3, h9, h0, h10, hh2, cond_true, cond_false, Bool.true_or, Bool.or_true, Bool.false_or, Bool.or_false, Bool.not_true, Bool.not_false, Bool.and_true, Bool.true_and, Bool.false_and, Bool.and_false]
     refine rK_made hmt (wkL_refl _) ?_
     cases mb with
     | false =>
      simp only [gw0, reduceEqDiff, ↓reduceIte, reduceAdd, reduceLT, reduceLeDiff, reduceMul, h3, h9, h0, h10, hh2, cond_true, cond_false, Bool.true_or, Bool.or_true, Bool.false_or, Bool.or_false, Bool.not_true, Bool.not_false, Bool.and_true, Bool.true_and, Bool.false_and, Bool.and_false]
      refine rK_not (.bool false) ?_
      simp only [gw0, reduceEqDiff, ↓reduceIte, reduceAdd, reduceLT, reduceLeDiff, reduceMul, h3, h9, h0, h10, hh2, cond_true, cond_false, Bool.true_or, Bool.or_true, Bool.false_or, Bool.or_false, Bool.not_true, Bool.not_false, Bool.and_true, Bool.true_and, Bool.false_and, Bool.and_false]
      exact gives_int' rfl hst
     | true =>
      simp only [Bool.not_true, cond_false] at hx ⊢
      have hHS2 : HS (s ++ [Ent.box [.lst 11 none (code.map encI)], .arr 3 1 (rowsI m2), .box [.arr (s.length + 1) code.length]]) s.length (s.length + 2) (s.length + 1) code m2 :=
       ⟨by simp [lstI], by simp; omega, by simp⟩
      have st2' : ∀ l : List Int, (s ++ [Ent.box [.lst 11 none (code.map encI)], .arr 3 1 (rowsI m2), .box [.arr (s.length + 1) code.length]]).set (s.length + 1) (.arr 3 1 (rowsI l)) = s ++ [Ent.box [.lst 11 none (code.map encI)], .arr 3 1 (rowsI l), .box [.arr (s.length + 1) code.length]] := fun l => by simp [List.set_append]
      have hmtb := c_meet _ _ _ _ code m2 (i + 1) hh hHS2 (by omega)
      have hmlb := meetP_len code.length m2 ((i + 1 : Nat) : Int) hh
      rw [st2'] at hmtb
      generalize meetP code.length m2 ((i + 1 : Nat) : Int) hh = mb at hx hmtb hmlb ⊢
      obtain ⟨mbb, m2b⟩ := mb
      simp only at hx hmtb hmlb ⊢
      simp only [gw0, reduceEqDiff, ↓reduceIte, reduceAdd, reduceLT, reduceLeDiff, reduceMul, h3, h9, h0, h10, hh2, cond_true, cond_false, Bool.true_or, Bool.or_true, Bool.false_or, Bool.or_false, Bool.not_true, Bool.not_false, Bool.and_true, Bool.true_and, Bool.false_and, Bool.and_false]
      refine rK_made hmtb (wkL_cons (by rw [w]; exact wk_refl _) (wkL_refl _)) ?_
      cases mbb with
      | false =>
       simp only [gw0, reduceEqDiff, ↓reduceIte, reduceAdd, reduceLT, reduceLeDiff, reduceMul, h3, h9, h0, h10, hh2, cond_true, cond_false, Bool.true_or, Bool.or_true, Bool.false_or, Bool.or_false, Bool.not_true, Bool.not_false, Bool.and_true, Bool.true_and, Bool.false_and, Bool.and_false]
       exact gives_int' rfl hst
      | true =>
       simp only [gw0, reduceEqDiff, ↓reduceIte, reduceAdd, reduceLT, reduceLeDiff, reduceMul, h3, h9, h0, h10, hh2, cond_true, cond_false, Bool.true_or, Bool.or_true, Bool.false_or, Bool.or_false, Bool.not_true, Bool.not_false, Bool.and_true, Bool.true_and, Bool.false_and, Bool.and_false, w, Env.keep]
       simp only [Bool.not_true, cond_false] at hx
       exact ⟨(i + 1, m2b), rfl, rfl, by simp only; omega, by simp only; omega, by simp only; omega, hx⟩
   | false =>
    simp only [h0, cond_false] at hx ⊢
    have hmtb := c_meet _ _ _ _ code high (i + 1) hh hHS (by omega)
    have hmlb := meetP_len code.length high ((i + 1 : Nat) : Int) hh
    rw [st2] at hmtb
    generalize meetP code.length high ((i + 1 : Nat) : Int) hh = mb at hx hmtb hmlb ⊢
    obtain ⟨mbb, m2b⟩ := mb
    simp only at hx hmtb hmlb ⊢
    simp only [gw0, reduceEqDiff, ↓reduceIte, reduceAdd, reduceLT, reduceLeDiff, reduceMul, h3, h9, h0, hh2, cond_true, cond_false, Bool.true_or, Bool.or_true, Bool.false_or, Bool.or_false, Bool.not_true, Bool.not_false, Bool.and_true, Bool.true_and, Bool.false_and, Bool.and_false]
    refine rK_not (.bool false) ?_
    simp only [gw0, reduceEqDiff, ↓reduceIte, reduceAdd, reduceLT, reduceLeDiff, reduceMul, h3, h9, h0, hh2, cond_true, cond_false, Bool.true_or, Bool.or_true, Bool.false_or, Bool.or_false, Bool.not_true, Bool.not_false, Bool.and_true, Bool.true_and, Bool.false_and, Bool.and_false]
    refine rK_made hmtb (wkL_cons (by rw [w]; exact wk_refl _) (wkL_refl _)) ?_
    cases mbb with
    | false =>
     simp only [gw0, reduceEqDiff, ↓reduceIte, reduceAdd, reduceLT, reduceLeDiff, reduceMul, h3, h9, h0, hh2, cond_true, cond_false, Bool.true_or, Bool.or_true, Bool.false_or, Bool.or_false, Bool.not_true, Bool.not_false, Bool.and_true, Bool.true_and, Bool.false_and, Bool.and_false]
     exact gives_int' rfl hst
    | true =>
     simp only [gw0, reduceEqDiff, ↓reduceIte, reduceAdd, reduceLT, reduceLeDiff, reduceMul, h3, h9, h0, hh2, cond_true, cond_false, Bool.true_or, Bool.or_true, Bool.false_or, Bool.or_false, Bool.not_true, Bool.not_false, Bool.and_true, Bool.true_and, Bool.false_and, Bool.and_false, w, Env.keep]
     simp only [Bool.not_true, cond_false] at hx
     exact ⟨(i + 1, m2b), rfl, rfl, by simp only; omega, by simp only; omega, by simp only; omega, hx⟩
/-- What is left as it is. -/
def Ks (X : Nat → Prop) (s s' : St) : Prop := s.length ≤ s'.length ∧ ∀ j : Nat, j < s.length → ¬ X j → s'[j]? = s[j]?
theorem Ks.refl (X : Nat → Prop) (s : St) : Ks X s s := ⟨Nat.le_refl _, fun _ _ _ => rfl⟩
theorem Ks.pre {st ex s' : St} {X : Nat → Prop} (h : Ks X (st ++ ex) s') (hX : ∀ j, X j → st.length ≤ j) : s' = st ++ s'.drop st.length := by
 apply List.ext_getElem?; intro j
 rcases Nat.lt_or_ge j st.length with hj | hj
 ·rw [List.getElem?_append_left hj, h.2 j (by rw [List.length_append]; omega) (fun hx => by have := hX j hx; omega), st_old hj]
 ·rw [List.getElem?_append_right hj, List.getElem?_drop]; congr 1; omega
def formE : List Pr → Int
 | [] => 0
 | p :: r => bif decide ((p.code.length : Int) < 1) || decide (6000 < (p.code.length : Int)) then 5 else bif decide (p.args < 0) || decide (2000 < p.args) then 3 else formE r
theorem c_Form (st : St) (l : List Pr) (hl : l.length ≤ 1000000000) : VCalls Tryz.prog TT 19 [lstPr l] st fun r st' => r = .ret (.int .i64 (formE l)) ∧ st' = st := by
 refine vfun TT_ok (an := anL []) (L := [0, 2, 4, 5, 6, 7]) (rs := [.tmp 2]) Tryz.func19 rfl (by kernel_rfl) rfl Tryz.ntmps19 rfl rfl (Nat.le_refl _) fun hst ha hf => ?_
 simp only [lstPr]
 simp only [gw0, reduceEqDiff, ↓reduceIte, reduceAdd, reduceLT, reduceLeDiff, reduceMul, List.length_map]
 refine vforD (σ := Nat) [5, 6, 7] (fun i => [(5, true, lstPr l), (6, true, .int .i64 l.length), (7, true, .int .i64 i)]) (fun i => st) (fun i => l.length - i) (fun i => i ≤ l.length ∧ formE l = formE (l.drop i)) 0 rfl TT_ok ⟨Nat.zero_le _, rfl⟩ (wkE_refl _) rfl ?_
 rintro i ⟨hi, hx⟩
 rw [hx]
 simp only [lstPr]
 rcases at_or_end l i hi with ⟨rfl, hd⟩ | ⟨q, hlt, hget, hdr⟩
 ·simp only [gw0, reduceEqDiff, ↓reduceIte, reduceAdd, reduceLT, reduceLeDiff, reduceMul, lt_no, hd, formE]
  exact gives_int rfl hst
 ·rw [hdr, formE]
  obtain ⟨qa, qc⟩ := q
  have hg : (l.map encPr).getD i [] = encPr ⟨qa, qc⟩ := getD_map hget
  simp only [gw0, reduceEqDiff, ↓reduceIte, reduceAdd, reduceLT, reduceLeDiff, reduceMul, lt_yes hlt, hg, encPr, lstI, List.length_map, Int.ofNat_lt.mpr hlt]
  refine iK_split (fun h1 => ?_) (fun h1 => ?_)
  ·simp only [gw0, reduceEqDiff, ↓reduceIte, reduceAdd, reduceLT, reduceLeDiff, reduceMul, h1, cond_true]
   exact gives_int' rfl hst
  simp only [gw0, reduceEqDiff, ↓reduceIte, reduceAdd, reduceLT, reduceLeDiff, reduceMul, h1, cond_false]
  refine iK_split (fun h2 => ?_) (fun h2 => ?_)
  ·simp only [gw0, reduceEqDiff, ↓reduceIte, reduceAdd, reduceLT, reduceLeDiff, reduceMul, h2, cond_true]
   exact gives_int' rfl hst
  simp only [gw0, reduceEqDiff, ↓reduceIte, reduceAdd, reduceLT, reduceLeDiff, reduceMul, h2, cond_false, Env.keep]
  refine ⟨i + 1, ⟨?_, st, [.box [.int .i64 qa, .lst 11 none (qc.map encI)]], rfl, wkSt_refl _, ?_, hst, Nat.le_refl _⟩, by omega, hlt, rfl⟩
  ·simp only [gw0, reduceEqDiff, ↓reduceIte, reduceAdd, reduceLT, reduceLeDiff, reduceMul, Env.keep, next_i64 hlt (show l.length ≤ 9223372036854775807 by omega)]
   exact wkE_refl _
  ·simp only [ltE, V.lt]
   exact ⟨lstPr_lt _ _, trivial, trivial, trivial⟩
def fillM (n i : Nat) : List Int := (List.range n).map fun j => bif decide (j < i) then -1 else 0
theorem fillM_len (n i : Nat) : (fillM n i).length = n := by simp [fillM]
theorem fillM_zero (n : Nat) : List.replicate n [V.int .i64 0] = rowsI (fillM n 0) := by
 apply List.ext_getElem
 ·simp [rowsI, fillM]
 ·intro j h1 h2
  simp [rowsI, fillM]
theorem fillM_set (n i : Nat) (h : i < n) : (fillM n i).set i (-1) = fillM n (i + 1) := by
 apply List.ext_getElem
 ·simp [fillM]
 ·intro j h1 h2
  rw [List.getElem_set]
  simp only [fillM, List.getElem_map, List.getElem_range]
  by_cases e : i = j
  ·subst e; simp
  ·have e1 : decide (j < i + 1) = decide (j < i) := by by_cases h : j < i <;> simp [h] <;> omega
   simp [e, e1]
theorem fillM_all (n : Nat) : fillM n n = List.replicate n (-1) := by
 apply List.ext_getElem
 ·simp [fillM]
 ·intro j h1 h2
  have : j < n := by simpa [fillM] using h1
  simp [fillM, this]
/-- Bodies are procedures without parameters; around them is nothing. -/
def bodiesG (ps : List Pr) : List Int → List Int → Option (List Int)
 | [], ar => some ar
 | b :: r, ar => bif !decide ((ps.getD b.toNat ⟨0, []⟩).args = 0) then none else bodiesG ps r (ar.set b.toNat 0)
def insG (ps : List Pr) (G : Int) (p : Nat) : List Ins → List Int → Int × List Int
 | [], ar => (0, ar)
 | x :: r, ar => bif !decide ((insE ps G p x ar).1 = 0) then insE ps G p x ar else insG ps G p r (insE ps G p x ar).2
def protoG (ps : List Pr) (G : Int) (bs : List Int) : List Pr → Nat → List Int → Int
 | [], _, _ => 0
 | q :: r, p, ar =>
  bif decide (ar.getD p 0 < 0) then 8
  else bif !decide ((insG ps G p q.code ar).1 = 0) then (insG ps G p q.code ar).1
  else bif !decide (stackE q.code (decide ((p : Int) ∈ bs)) = 0) then stackE q.code (decide ((p : Int) ∈ bs))
  else protoG ps G bs r (p + 1) (insG ps G p q.code ar).2
def shapeE (ps : List Pr) (G : Int) (bs : List Int) : Int :=
 match bodiesG ps bs (List.replicate ps.length (-1)) with
 | none => 3
 | some ar => protoG ps G bs ps 0 ar
set_option maxRecDepth 20000 in
set_option maxHeartbeats 8000000 in
theorem c_Shape_Wrong (s : St) (b : Nat) (ps : List Pr) (av : V) (G : Int) (bs : List Int) (hb : s[b]? = some (.box [lstPr ps, av, .int .i64 G])) (hl : ps.length ≤ 1000000) (hc : ∀ q ∈ ps, q.code.length ≤ 6000) (hbs : ∀ x ∈ bs, 0 ≤ x ∧ x < ps.length) (hbl : bs.length ≤ 1000000000) :
  VCalls Tryz.prog TT 20 [.ptr b 0, .lst 1 none (rowsI bs)] s fun r s' => r = .ret (.int .i64 (shapeE ps G bs)) ∧ Ks (fun j => j = b) s s' := by
 have hblt : b < s.length := (List.getElem?_eq_some_iff.1 hb).1
 refine vfunQ TT_ok (an := anL []) (L := [0, 1, 4, 5, 7, 8, 9, 10, 11, 25, 26, 36, 37, 38, 62, 63, 82, 83]) (rs := [.tmp 4]) Tryz.func20 rfl (by kernel_rfl) rfl Tryz.ntmps20 rfl rfl fun hst ha hf => ?_
 simp only [gw0, reduceEqDiff, ↓reduceIte, reduceAdd, reduceLT, reduceLeDiff, reduceMul, hb, lstPr, List.length_map]
 refine ⟨⟨by omega, by omega⟩, ?_⟩
 have hb1 : ∀ ex : St, (s ++ ex)[b]? = some (.box [.lst 2 none (ps.map encPr), av, .int .i64 G]) := fun ex => by rw [st_old hblt, hb]; rfl
 obtain ⟨S0, hS0⟩ : ∃ S0 : St, S0 = s.set b (.box [.lst 2 none (ps.map encPr), .arr s.length ps.length, .int .i64 G]) := ⟨_, rfl⟩
 have hS0l : S0.length = s.length := by rw [hS0]; simp
 have hset : ∀ ex : St, (s ++ ex).set b (.box [.lst 2 none (ps.map encPr), .arr s.length ps.length, .int .i64 G]) = S0 ++ ex := fun ex => by rw [hS0, List.set_append_left _ _ hblt]
 have hb2 : ∀ ex : St, (S0 ++ ex)[b]? = some (.box [.lst 2 none (ps.map encPr), .arr s.length ps.length, .int .i64 G]) := fun ex => by rw [st_old (by omega), hS0, List.getElem?_set_self hblt]
 have hA2 : ∀ l : List Int, (S0 ++ [Ent.arr 3 1 (rowsI l)])[s.length]? = some (.arr 3 1 (rowsI l)) := fun l => by rw [List.getElem?_append_right (by omega)]; simp [hS0l]
 have hAs : ∀ (l m : List Int), (S0 ++ [Ent.arr 3 1 (rowsI l)]).set s.length (.arr 3 1 (rowsI m)) = S0 ++ [Ent.arr 3 1 (rowsI m)] := fun l m => by rw [List.set_append_right _ _ (by omega)]; simp [hS0l]
 have hKs : ∀ l : List Int, Ks (fun j => j = b) s (S0 ++ [Ent.arr 3 1 (rowsI l)]) := fun l =>
  ⟨by simp [hS0l], fun j h1 h2 => by rw [st_old (by omega), hS0, List.getElem?_set_ne (fun e => h2 e.symm)]⟩
 simp only [gw0, reduceEqDiff, ↓reduceIte, reduceAdd, reduceLT, reduceLeDiff, reduceMul, hb1, hset, hb2]
 rw [fillM_zero]
 refine vfor (σ := Nat) [0, 1, 25, 26] (fun i => [(0, true, .ptr b 0), (1, true, .lst 1 none (rowsI bs)), (25, true, .int .i64 ps.length), (26, true, .int .i64 i)]) (fun i => S0 ++ [Ent.arr 3 1 (rowsI (fillM ps.length i))]) (fun i => ps.length - i) (fun i => i ≤ ps.length) 0 rfl TT_ok (Nat.zero_le _) rfl rfl ?_
 intro i hi
 have hil : (rowsI (fillM ps.length i)).length = ps.length := by rw [rowsI_len, fillM_len]
 rcases Nat.lt_or_ge i ps.length with hlt | hge
 ·have hgi := rowsI_get (l := fillM ps.length i) (by rw [fillM_len]; exact hlt)
  have w : IntKind.i64.wrap ((i : Int) + 1) = ((i + 1 : Nat) : Int) := next_i64 hlt (by omega)
  simp only [gw0, reduceEqDiff, ↓reduceIte, reduceAdd, reduceLT, reduceLeDiff, reduceMul, lt_yes hlt, hb2, hA2, hil, hgi, Int.toNat_natCast, Int.ofNat_lt.mpr hlt, w, rowsI_set, hAs, Env.keep]
  refine ⟨hlt, i + 1, rfl, ?_, by omega, hlt⟩
  rw [fillM_set _ _ hlt]
 have hie : i = ps.length := by omega
 subst hie
 rw [fillM_all]
 simp only [gw0, reduceEqDiff, ↓reduceIte, reduceAdd, reduceLT, reduceLeDiff, reduceMul, lt_no, rowsI_len]
 refine vfor (σ := Nat × List Int) [0, 1, 36, 37, 38] (fun x => [(0, true, .ptr b 0), (1, true, .lst 1 none (rowsI bs)), (36, true, .lst 1 none (rowsI bs)), (37, true, .int .i64 bs.length), (38, true, .int .i64 x.1)]) (fun x => S0 ++ [Ent.arr 3 1 (rowsI x.2)]) (fun x => bs.length - x.1) (fun x => x.1 ≤ bs.length ∧ x.2.length = ps.length ∧ bodiesG ps bs (List.replicate ps.length (-1)) = bodiesG ps (bs.drop x.1) x.2) (0, List.replicate ps.length (-1)) rfl TT_ok ⟨Nat.zero_le _, by simp, rfl⟩ rfl rfl ?_
 rintro ⟨i, ar⟩ ⟨hi, hal, hx⟩
 simp only at hi hal hx ⊢
 have hrl : (rowsI ar).length = ps.length := by rw [rowsI_len, hal]
 rcases at_or_end bs i hi with ⟨hie, hd⟩ | ⟨u, hlt, hget, hdr⟩
 ·have hie2 : i = bs.length := hie
  subst hie2
  rw [hd, bodiesG] at hx
  have hE : shapeE ps G bs = protoG ps G bs ps 0 ar := by rw [shapeE, hx]
  rw [hE]
  simp only [gw0, reduceEqDiff, ↓reduceIte, reduceAdd, reduceLT, reduceLeDiff, reduceMul, lt_no, hb2, List.length_map]
  refine vfor (σ := Nat × List Int) [0, 1, 62, 63] (fun x => [(0, true, .ptr b 0), (1, true, .lst 1 none (rowsI bs)), (62, true, .int .i64 ps.length), (63, true, .int .i64 x.1)]) (fun x => S0 ++ [Ent.arr 3 1 (rowsI x.2)]) (fun x => ps.length - x.1) (fun x => x.1 ≤ ps.length ∧ x.2.length = ps.length ∧ protoG ps G bs ps 0 ar = protoG ps G bs (ps.drop x.1) x.1 x.2) (0, ar) rfl TT_ok ⟨Nat.zero_le _, hal, rfl⟩ rfl rfl ?_
  clear hal hrl hx hE
  rintro ⟨p, ar1⟩ ⟨hp, hal, hx⟩
  simp only at hp hal hx ⊢
  rw [hx]
  rcases at_or_end ps p hp with ⟨hpe, hpd⟩ | ⟨q, hpt, hpq, hpr⟩
  ·have hpe2 : p = ps.length := hpe
   subst hpe2
   rw [hpd, protoG]
   simp only [gw0, reduceEqDiff, ↓reduceIte, reduceAdd, reduceLT, reduceLeDiff, reduceMul, lt_no]
   exact hKs _
  ·have hgi := rowsI_get (l := ar1) (k := p) (by omega)
   have hgp : (ps.map encPr).getD p [] = encPr q := getD_map hpq
   have w : IntKind.i64.wrap ((p : Int) + 1) = ((p + 1 : Nat) : Int) := next_i64 hpt (by omega)
   rw [hpr, protoG] at hx ⊢
   have hSH : ∀ ar2 : List Int, ar2.length = ps.length → SH (S0 ++ [Ent.arr 3 1 (rowsI ar2)]) b s.length ps ar2 G := fun ar2 h2 => ⟨by rw [hb2, h2]; rfl, hA2 _⟩
   have hcl := hc q (List.mem_of_getElem? hpq)
   obtain ⟨qa, code⟩ := q
   simp only at hx hcl ⊢
   generalize hgx : ar1.getD p 0 = av1 at *
   simp only [gw0, reduceEqDiff, ↓reduceIte, reduceAdd, reduceLT, reduceLeDiff, reduceMul, lt_yes hpt, hb2, hA2, hgi, hgp, encPr, lstI, rowsI_len, hal, Int.toNat_natCast, Int.ofNat_lt.mpr hpt, List.length_map]
   refine ⟨hpt, iK_split (fun h1 => ?_) (fun h1 => ?_)⟩
   ·simp only [gw0, reduceEqDiff, ↓reduceIte, reduceAdd, reduceLT, reduceLeDiff, reduceMul, h1, cond_true]
    exact hKs _
   simp only [h1, cond_false] at hx
   simp only [h1, cond_false]
   simp only [gw0, reduceEqDiff, ↓reduceIte, reduceAdd, reduceLT, reduceLeDiff, reduceMul, hb2, hgp, encPr, lstI, Int.toNat_natCast, Int.ofNat_lt.mpr hpt, List.length_map]
   refine vfor (σ := Nat × List Int) [0, 1, 8, 62, 63, 82, 83] (fun x => [(0, true, .ptr b 0), (1, true, .lst 1 none (rowsI bs)), (8, true, .int .i64 p), (62, true, .int .i64 ps.length), (63, true, .int .i64 p), (82, true, .int .i64 code.length), (83, true, .int .i64 x.1)]) (fun x => S0 ++ [Ent.arr 3 1 (rowsI x.2)]) (fun x => code.length - x.1) (fun x => x.1 ≤ code.length ∧ x.2.length = ps.length ∧ insG ps G p code ar1 = insG ps G p (code.drop x.1) x.2) (0, ar1) rfl TT_ok ⟨Nat.zero_le _, hal, rfl⟩ rfl rfl ?_
   rintro ⟨j, ar2⟩ ⟨hj, hal2, hy⟩
   simp only at hj hal2 hy ⊢
   rcases at_or_end code j hj with ⟨hje, hjd⟩ | ⟨u, hjt, hju, hjr⟩
   ·have hje2 : j = code.length := hje
    subst hje2
    rw [hjd, insG] at hy
    rw [hy] at hx ⊢
    simp only [decide_true, Bool.not_true, cond_false] at hx ⊢
    simp only [gw0, reduceEqDiff, ↓reduceIte, reduceAdd, reduceLT, reduceLeDiff, reduceMul, lt_no]
    refine (c_ContainsI _ bs p).use (wkL_refl _) fun _ => ?_
    simp only [gw0, reduceEqDiff, ↓reduceIte, reduceAdd, reduceLT, reduceLeDiff, reduceMul]
    refine (c_stack _ b s.length ps ar2 G p ⟨qa, code⟩ (decide ((p : Int) ∈ bs)) (hSH ar2 hal2) hpq hcl).use (wkL_refl _) fun _ => ?_
    simp only
    simp only [gw0, reduceEqDiff, ↓reduceIte, reduceAdd, reduceLT, reduceLeDiff, reduceMul]
    refine iK_split (fun h2 => ?_) (fun h2 => ?_)
    ·simp only [gw0, reduceEqDiff, ↓reduceIte, reduceAdd, reduceLT, reduceLeDiff, reduceMul, h2, cond_true]
     exact hKs _
    ·simp only [h2, cond_false] at hx
     simp only [gw0, reduceEqDiff, ↓reduceIte, reduceAdd, reduceLT, reduceLeDiff, reduceMul, h2, cond_false, w, Env.keep]
     exact ⟨(p + 1, ar2), rfl, rfl, by simp only; omega, by simp only; omega, hal2, rfl⟩
   ·have hgu : (code.map encI).getD j [] = encI u := getD_map hju
    have w2 : IntKind.i64.wrap ((j : Int) + 1) = ((j + 1 : Nat) : Int) := next_i64 hjt (by omega)
    rw [hjr, insG] at hy
    simp only [gw0, reduceEqDiff, ↓reduceIte, reduceAdd, reduceLT, reduceLeDiff, reduceMul, lt_yes hjt, hb2, hgp, hgu, encPr, lstI, Int.toNat_natCast, Int.ofNat_lt.mpr hjt, Int.ofNat_lt.mpr hpt, List.length_map]
    have hci := c_ins _ b s.length ps ar2 G p u (hSH ar2 hal2) (by omega) (by omega) (by omega)
    have hil := insE_len ps G p u ar2
    rw [hAs] at hci
    refine hci.use (wkL_refl _) fun _ => ?_
    simp only [gw0, reduceEqDiff, ↓reduceIte, reduceAdd, reduceLT, reduceLeDiff, reduceMul]
    refine iK_split (fun h2 => ?_) (fun h2 => ?_)
    ·simp only [h2, cond_true] at hy
     rw [hy] at hx ⊢
     simp only [gw0, reduceEqDiff, ↓reduceIte, reduceAdd, reduceLT, reduceLeDiff, reduceMul, h2, cond_true]
     exact hKs _
    ·simp only [h2, cond_false] at hy
     simp only [gw0, reduceEqDiff, ↓reduceIte, reduceAdd, reduceLT, reduceLeDiff, reduceMul, w2, Env.keep]
     exact ⟨(j + 1, (insE ps G p u ar2).2), rfl, rfl, by simp only; omega, by simp only; omega, by simp only; omega, hy⟩
 ·obtain ⟨hu1, hu2⟩ := hbs u (List.mem_of_getElem? hget)
  obtain ⟨u', rfl⟩ : ∃ u' : Nat, u = u' := ⟨u.toNat, by omega⟩
  have hu3 : u' < ps.length := by omega
  have hgi := rowsI_get (l := ar) (k := u') (by omega)
  have hgb : (rowsI bs).getD i [] = [.int .i64 u'] := getD_map (f := fun n => [V.int .i64 n]) hget
  have hgp : (ps.map encPr).getD u' [] = encPr (ps.getD u' ⟨0, []⟩) := by
   have e : ps[u']? = some (ps.getD u' ⟨0, []⟩) := by rw [List.getD_eq_getElem?_getD, List.getElem?_eq_getElem hu3]; rfl
   exact getD_map e
  have w : IntKind.i64.wrap ((i : Int) + 1) = ((i + 1 : Nat) : Int) := next_i64 hlt (by omega)
  rw [hdr, bodiesG, Int.toNat_natCast] at hx
  simp only [gw0, reduceEqDiff, ↓reduceIte, reduceAdd, reduceLT, reduceLeDiff, reduceMul, lt_yes hlt, hb2, hA2, hgb, hgp, encPr, rowsI_len, hal, Int.toNat_natCast, Int.ofNat_lt.mpr hlt, List.length_map]
  refine ⟨hu2, iK_split (fun h1 => ?_) (fun h1 => ?_)⟩
  ·have hE : shapeE ps G bs = 3 := by rw [shapeE, hx, h1]; rfl
   rw [hE]
   simp only [gw0, reduceEqDiff, ↓reduceIte, reduceAdd, reduceLT, reduceLeDiff, reduceMul]
   exact hKs _
  simp only [h1, cond_false] at hx
  simp only [gw0, reduceEqDiff, ↓reduceIte, reduceAdd, reduceLT, reduceLeDiff, reduceMul, hb2, hA2, rowsI_len, hal, hgi, Int.toNat_natCast, rowsI_set, hAs, w, Env.keep]
  exact ⟨by omega, hu3, (i + 1, ar.set u' 0), rfl, rfl, by simp only; omega, by simp only; omega, by simp [hal], hx⟩
def unitE (u : Unit') : Int :=
 bif !plainB u.name then 7 else bif decide ((u.protos.length : Int) < 1) || decide (500 < (u.protos.length : Int)) then 5
 else bif !decide (formE u.protos = 0) then formE u.protos else shapeE u.protos (-1) [0]
theorem formE_code : ∀ {l : List Pr}, formE l = 0 → ∀ q ∈ l, 1 ≤ q.code.length ∧ q.code.length ≤ 6000 ∧ 0 ≤ q.args ∧ q.args ≤ 2000
 | [], _, q, h => by simp at h
 | p :: r, h, q, hq => by
  rw [formE] at h
  cases h1 : decide ((p.code.length : Int) < 1) || decide (6000 < (p.code.length : Int)) with
  | true => rw [h1] at h; simp at h
  | false =>
   rw [h1] at h
   cases h2 : decide (p.args < 0) || decide (2000 < p.args) with
   | true => rw [h2] at h; simp at h
   | false =>
    rw [h2] at h
    simp only [cond_false] at h
    simp only [Bool.or_eq_false_iff, decide_eq_false_iff_not] at h1 h2
    rcases List.mem_cons.1 hq with rfl | hq
    ·omega
    ·exact formE_code h q hq
set_option maxRecDepth 20000 in
set_option maxHeartbeats 4000000 in
theorem c_object_Wrong (u : Unit') (st : St) : VCalls Tryz.prog TT 5 [.agg (encU u)] st fun r st' => r = .ret (.int .i64 (unitE u)) ∧ st' = st := by
 refine vfun TT_ok (an := anL [(1, 1)]) (L := [0, 1, 2, 3]) (rs := [.tmp 2]) Tryz.func5 rfl (by kernel_rfl) rfl Tryz.ntmps5 rfl rfl (Nat.le_refl _) fun hst ha hf => ?_
 obtain ⟨nm, ps⟩ := u
 simp only [gw0, reduceEqDiff, ↓reduceIte, reduceAdd, reduceLT, reduceLeDiff, reduceMul, encU]
 refine (c_plain _ nm).use (wkL_refl _) fun _ => ?_
 simp only [gw0, reduceEqDiff, ↓reduceIte, reduceAdd, reduceLT, reduceLeDiff, reduceMul]
 refine iK_split (fun h1 => ?_) (fun h1 => ?_)
 ·simp only [gw0, reduceEqDiff, ↓reduceIte, reduceAdd, reduceLT, reduceLeDiff, reduceMul]
  exact gives_int (by simp only [unitE, h1, cond_true]) hst
 simp only [gw0, reduceEqDiff, ↓reduceIte, reduceAdd, reduceLT, reduceLeDiff, reduceMul, lstPr, List.length_map]
 refine iK_split (fun h2 => ?_) (fun h2 => ?_)
 ·simp only [gw0, reduceEqDiff, ↓reduceIte, reduceAdd, reduceLT, reduceLeDiff, reduceMul]
  exact gives_int (by simp only [unitE, h1, h2, cond_true, cond_false]) hst
 have h2' := h2
 simp only [Bool.or_eq_false_iff, decide_eq_false_iff_not] at h2'
 simp only [gw0, reduceEqDiff, ↓reduceIte, reduceAdd, reduceLT, reduceLeDiff, reduceMul]
 refine (c_Form _ ps (by omega)).use (wkL_refl _) fun _ => ?_
 simp only [gw0, reduceEqDiff, ↓reduceIte, reduceAdd, reduceLT, reduceLeDiff, reduceMul]
 refine iK_split (fun h3 => ?_) (fun h3 => ?_)
 ·simp only [gw0, reduceEqDiff, ↓reduceIte, reduceAdd, reduceLT, reduceLeDiff, reduceMul]
  exact gives_int (by simp only [unitE, h1, h2, h3, cond_true, cond_false]) hst
 have hf0 : formE ps = 0 := by simpa using h3
 simp only [gw0, reduceEqDiff, ↓reduceIte, reduceAdd, reduceLT, reduceLeDiff, reduceMul]
 have hfc := formE_code hf0
 have hW := c_Shape_Wrong (st ++ [Ent.box [.lst 2 none (ps.map encPr), .nils, .int .i64 (-1)]]) st.length ps .nils (-1) [0] (by rw [List.getElem?_append_right (Nat.le_refl _)]; simp [lstPr]) (by omega) (fun q hq => (hfc q hq).2.1) (fun x hx => by simp at hx; subst hx; omega) (by simp)
 refine useQ hW (wkL_refl _) (by rintro v s' ⟨h, _⟩; cases h) ?_
 rintro X S hX ⟨hX', hK⟩
 cases hX'
 simp only [gw0, reduceEqDiff, ↓reduceIte, reduceAdd, reduceLT, reduceLeDiff, reduceMul]
 rw [hK.pre (st := st) (fun j hj => by omega)]
 exact gives_int' (by simp only [unitE, h1, h2, h3, cond_false]) hst
theorem insG_zero {ps : List Pr} {G : Int} {p : Nat} : ∀ {l : List Ins} {ar : List Int}, (insG ps G p l ar).1 = 0 → ∀ x ∈ l, ∃ ar', (insE ps G p x ar').1 = 0
 | [], _, _, x, h => by simp at h
 | y :: r, ar, h, x, hx => by
  rw [insG] at h
  cases h1 : decide ((insE ps G p y ar).1 = 0) with
  | false => rw [h1] at h; simp only [Bool.not_false, cond_true] at h; exact absurd h (of_decide_eq_false h1)
  | true =>
   rw [h1] at h
   simp only [Bool.not_true, cond_false] at h
   rcases List.mem_cons.1 hx with rfl | hx
   ·exact ⟨ar, of_decide_eq_true h1⟩
   ·exact insG_zero h x hx
theorem protoG_zero {ps : List Pr} {G : Int} {bs : List Int} : ∀ {l : List Pr} {p : Nat} {ar : List Int}, protoG ps G bs l p ar = 0 → ∀ q ∈ l, ∃ p' ar', (insG ps G p' q.code ar').1 = 0
 | [], _, _, _, q, h => by simp at h
 | y :: r, p, ar, h, q, hq => by
  rw [protoG] at h
  cases h1 : decide (ar.getD p 0 < 0) with
  | true => rw [h1] at h; simp at h
  | false =>
   rw [h1] at h
   cases h2 : decide ((insG ps G p y.code ar).1 = 0) with
   | false => rw [h2] at h; simp only [Bool.not_false, cond_true, cond_false] at h; exact absurd h (of_decide_eq_false h2)
   | true =>
    rw [h2] at h
    cases h3 : decide (stackE y.code (decide ((p : Int) ∈ bs)) = 0) with
    | false => rw [h3] at h; simp only [Bool.not_false, Bool.not_true, cond_true, cond_false] at h; exact absurd h (of_decide_eq_false h3)
    | true =>
     rw [h3] at h
     simp only [Bool.not_true, cond_false] at h
     rcases List.mem_cons.1 hq with rfl | hq
     ·exact ⟨p, ar, of_decide_eq_true h2⟩
     ·exact protoG_zero h q hq
structure UnitOk (u : Unit') : Prop where
 plain : plainB u.name = true
 few : 1 ≤ u.protos.length ∧ u.protos.length ≤ 500
 form : ∀ q ∈ u.protos, 1 ≤ q.code.length ∧ q.code.length ≤ 6000 ∧ 0 ≤ q.args ∧ q.args ≤ 2000
 shape : shapeE u.protos (-1) [0] = 0
theorem unit_ok {u : Unit'} (h : unitE u = 0) : UnitOk u := by
 unfold unitE at h
 cases h1 : plainB u.name with
 | false => rw [h1] at h; simp at h
 | true =>
  rw [h1] at h
  cases h2 : decide ((u.protos.length : Int) < 1) || decide (500 < (u.protos.length : Int)) with
  | true => rw [h2] at h; simp at h
  | false =>
   rw [h2] at h
   simp only [Bool.or_eq_false_iff, decide_eq_false_iff_not] at h2
   cases h3 : decide (formE u.protos = 0) with
   | false => rw [h3] at h; simp only [Bool.not_false, Bool.not_true, cond_true, cond_false] at h; exact absurd h (of_decide_eq_false h3)
   | true =>
    rw [h3] at h
    simp only [Bool.not_true, cond_false] at h
    exact ⟨h1, by omega, formE_code (of_decide_eq_true h3), h⟩
theorem UnitOk.ins {u : Unit'} (h : UnitOk u) : ∀ q ∈ u.protos, ∀ x ∈ q.code, ∃ p ar, (insE u.protos (-1) p x ar).1 = 0 := by
 intro q hq x hx
 have hs := h.shape
 unfold shapeE at hs
 cases hb : bodiesG u.protos [0] (List.replicate u.protos.length (-1)) with
 | none => rw [hb] at hs; simp at hs
 | some ar =>
  rw [hb] at hs
  obtain ⟨p, ar', h1⟩ := protoG_zero hs q hq
  obtain ⟨ar2, h2⟩ := insG_zero h1 x hx
  exact ⟨p, ar2, h2⟩
theorem UnitOk.quote {u : Unit'} (h : UnitOk u) : ∀ q ∈ u.protos, ∀ x ∈ q.code, x.op = 3 → goodD x.quote := by
 intro q hq x hx h3
 obtain ⟨p, ar, h1⟩ := h.ins q hq x hx
 refine wrongL_good ?_
 simpa [insE, h3] using h1
/-- The reader: its text, where it is, how many nodes there were. -/
def rdE (s : Str) (p n : Nat) : Ent := .box [.str s, .int .i64 p, .int .i64 n]
theorem rd_ok {st : St} {b p n : Nat} {s : Str} (h : St.ok st) : St.ok (st.set b (rdE s p n)) := by
 intro e he
 rw [List.length_set]
 rcases List.mem_or_eq_of_mem_set he with h' | rfl
 ·exact h e h'
 ·simp [rdE, Ent.lt, ltL, V.lt]
def isBlank (c : UInt8) : Bool := decide (c = 32) || decide (c = 9) || decide (c = 10)
/-- What is left behind blanks and notes. -/
def blk : Bool → Str → Str
 | _, [] => []
 | false, c :: r => bif isBlank c then blk false r else bif decide (c = 59) then blk true r else c :: r
 | true, c :: r => bif decide (c = 10) then blk false r else blk true r
theorem blk_le : ∀ (l : Str) (b : Bool), (blk b l).length ≤ l.length
 | [], b => by cases b <;> simp [blk]
 | c :: r, false => by
  simp only [blk]
  have := blk_le r false
  have := blk_le r true
  cases isBlank c <;> cases decide (c = 59) <;> simp <;> omega
 | c :: r, true => by
  simp only [blk]
  have := blk_le r false
  have := blk_le r true
  cases decide (c = 10) <;> simp <;> omega
theorem blk_drop : ∀ (l : Str) (b : Bool), blk b l = l.drop (l.length - (blk b l).length)
 | [], b => by cases b <;> simp [blk]
 | c :: r, false => by
  simp only [blk]
  have h1 := blk_drop r false
  have h2 := blk_drop r true
  have k1 := blk_le r false
  have k2 := blk_le r true
  cases isBlank c <;> cases decide (c = 59) <;> simp only [cond_true, cond_false, List.length_cons]
  ·simp
  ·rw [show r.length + 1 - (blk true r).length = (r.length - (blk true r).length) + 1 by omega, List.drop_succ_cons]; exact h2
  ·rw [show r.length + 1 - (blk false r).length = (r.length - (blk false r).length) + 1 by omega, List.drop_succ_cons]; exact h1
  ·rw [show r.length + 1 - (blk false r).length = (r.length - (blk false r).length) + 1 by omega, List.drop_succ_cons]; exact h1
 | c :: r, true => by
  simp only [blk]
  have h1 := blk_drop r false
  have h2 := blk_drop r true
  have k1 := blk_le r false
  have k2 := blk_le r true
  cases decide (c = 10) <;> simp only [cond_true, cond_false, List.length_cons]
  ·rw [show r.length + 1 - (blk true r).length = (r.length - (blk true r).length) + 1 by omega, List.drop_succ_cons]; exact h2
  ·rw [show r.length + 1 - (blk false r).length = (r.length - (blk false r).length) + 1 by omega, List.drop_succ_cons]; exact h1
theorem isBlank_int (c : UInt8) : (decide ((c.toNat : Int) = 32) || decide ((c.toNat : Int) = 9) || decide ((c.toNat : Int) = 10)) = isBlank c :=
 of_decide_eq_true (all_bytes (p := fun c => decide ((decide ((c.toNat : Int) = 32) || decide ((c.toNat : Int) = 9) || decide ((c.toNat : Int) = 10)) = isBlank c)) (by decide +kernel) c)
theorem byte_eq (c d : UInt8) : decide ((c.toNat : Int) = (d.toNat : Int)) = decide (c = d) := by
 by_cases h : c = d
 ·simp [h]
 ·have : ¬ (c.toNat : Int) = (d.toNat : Int) := fun e => h (UInt8.toNat_inj.1 (by omega))
  simp [h, this]
theorem c_blank (s : Str) (st : St) (b p n : Nat) (hb : st[b]? = some (rdE s p n)) (hp : p ≤ s.length) (hs : s.length ≤ 6000) :
  VCalls Tryz.prog TT 95 [.ptr b 0] st fun r st' => r = .ret (.tup []) ∧ st' = st.set b (rdE s (s.length - (blk false (s.drop p)).length) n) := by
 refine vfun TT_ok (an := anL []) (L := [0, 2]) (rs := []) Tryz.func95 rfl (by kernel_rfl) rfl Tryz.ntmps95 rfl rfl (Nat.le_of_eq (List.length_set ..).symm) fun hst ha hf => ?_
 have hlt : b < st.length := (List.getElem?_eq_some_iff.1 hb).1
 have hset : ∀ x, (st.set b (rdE s x n))[b]? = some (.box [.str s, .int .i64 x, .int .i64 n]) := fun c' => List.getElem?_set_self hlt
 have hend : ∀ x, x ≤ s.length → blk false (s.drop p) = s.drop x → Gives (.tup []) (st.set b (rdE s (s.length - (blk false (s.drop p)).length) n)) (.ret (.tup [])) (st.set b (rdE s x n)) := by
  intro x hx h
  rw [h, List.length_drop, show s.length - (s.length - x) = x by omega]
  exact gives_self (by simp [V.lt, ltL]) (rd_ok hst)
 simp only [gw0, reduceEqDiff, ↓reduceIte, reduceAdd, reduceLT, reduceLeDiff, reduceMul]
 refine vfor (σ := Nat) [0] (fun x => [(0, true, .ptr b 0)]) (fun x => st.set b (rdE s x n)) (fun x => s.length - x) (fun x => x ≤ s.length ∧ blk false (s.drop p) = blk false (s.drop x)) p rfl TT_ok ⟨hp, rfl⟩ rfl (set_self hb).symm ?_
 rintro x ⟨hx, hI⟩
 simp only [gw0, reduceEqDiff, ↓reduceIte, reduceAdd, reduceLT, reduceLeDiff, reduceMul]
 refine vdraw TT_ok TT_mixed [0, 0, 0, 1, 0, 0, 0, 1, 0, 0] (by kernel_rfl) ?_
 rcases at_or_end s x hx with ⟨rfl, hd⟩ | ⟨c, hltx, hget, hdr⟩
 ·simp only [gw0, reduceEqDiff, ↓reduceIte, reduceAdd, reduceLT, reduceLeDiff, reduceMul, hset, lt_no]
  exact hend _ (Nat.le_refl _) (by rw [hI, hd]; rfl)
 have h63 : s.length ≤ 9223372036854775807 := by omega
 simp only [gw0, reduceEqDiff, ↓reduceIte, reduceAdd, reduceLT, reduceLeDiff, reduceMul, hset, lt_yes hltx]
 refine vdraw TT_ok TT_mixed [0, 0, 0, 1, 0, 0, 0, 1, 0, 0] (by kernel_rfl) ?_
 simp only [gw0, reduceEqDiff, ↓reduceIte, reduceAdd, reduceLT, reduceLeDiff, reduceMul, hset, getD_at hget, Int.ofNat_lt.mpr hltx]
 rw [isBlank_int]
 have hstep : ∀ y, y < s.length → (Tryz.prog = Tryz.prog) → IntKind.i64.wrap ((y : Int) + 1) = ((y + 1 : Nat) : Int) := fun y hy _ => next_i64 hy h63
 have hblk : blk false (s.drop x) = bif isBlank c then blk false (s.drop (x + 1)) else bif decide (c = 59) then blk true (s.drop (x + 1)) else s.drop x := by
  rw [hdr]; simp only [blk]
 refine iK_split (fun h => ?_) (fun h => ?_)
 ·simp only [gw0, reduceEqDiff, ↓reduceIte, reduceAdd, reduceLT, reduceLeDiff, reduceMul, hset, hstep x hltx rfl]
  simp only [gw0, reduceEqDiff, ↓reduceIte, reduceAdd, reduceLT, reduceLeDiff, reduceMul, Env.keep]
  exact ⟨x + 1, by rw [List.set_set]; rfl, by omega, by omega, by rw [hI, hblk, h]; rfl⟩
 ·have h59 : decide ((c.toNat : Int) = 59) = decide (c = 59) := byte_eq c 59
  simp only [gw0, reduceEqDiff, ↓reduceIte, reduceAdd, reduceLT, reduceLeDiff, reduceMul]
  rw [h59]
  refine iK_split (fun h2 => ?_) (fun h2 => ?_)
  ·simp only [gw0, reduceEqDiff, ↓reduceIte, reduceAdd, reduceLT, reduceLeDiff, reduceMul]
   have h2' := of_decide_eq_true h2
   subst h2'
   refine vfor (σ := Nat) [0] (fun y => [(0, true, .ptr b 0)]) (fun y => st.set b (rdE s y n)) (fun y => s.length - y) (fun y => x ≤ y ∧ y ≤ s.length ∧ blk false (s.drop p) = blk true (s.drop y)) x rfl TT_ok ⟨Nat.le_refl _, hx, by rw [hI, hdr]; simp [blk, isBlank]⟩ rfl rfl ?_
   rintro y ⟨hxy, hy, hJ⟩
   simp only [gw0, reduceEqDiff, ↓reduceIte, reduceAdd, reduceLT, reduceLeDiff, reduceMul]
   refine vdraw TT_ok TT_mixed [0, 0, 0, 1, 0, 0, 0, 1, 0, 0, 0, 0, 0, 0, 1, 0, 0, 0, 1, 0, 0, 0] (by kernel_rfl) ?_
   rcases at_or_end s y hy with ⟨rfl, hd⟩ | ⟨e, hlty, hgety, hdry⟩
   ·simp only [gw0, reduceEqDiff, ↓reduceIte, reduceAdd, reduceLT, reduceLeDiff, reduceMul, hset, lt_no]
    simp only [gw0, reduceEqDiff, ↓reduceIte, reduceAdd, reduceLT, reduceLeDiff, reduceMul, Env.keep]
    exact ⟨s.length, rfl, by omega, Nat.le_refl _, by rw [hJ, hd]; rfl⟩
   ·have h10 : decide ((e.toNat : Int) = 10) = decide (e = 10) := byte_eq e 10
    simp only [gw0, reduceEqDiff, ↓reduceIte, reduceAdd, reduceLT, reduceLeDiff, reduceMul, hset, lt_yes hlty, getD_at hgety, Int.ofNat_lt.mpr hlty]
    rw [h10]
    refine iK_split (fun h3 => ?_) (fun h3 => ?_)
    ·simp only [gw0, reduceEqDiff, ↓reduceIte, reduceAdd, reduceLT, reduceLeDiff, reduceMul, hset, hstep y hlty rfl]
     simp only [gw0, reduceEqDiff, ↓reduceIte, reduceAdd, reduceLT, reduceLeDiff, reduceMul, Env.keep]
     have h3' : ¬ e = 10 := by simpa using h3
     exact ⟨y + 1, by rw [List.set_set]; rfl, by omega, by omega, by omega, by rw [hJ, hdry]; simp [blk, h3']⟩
    ·simp only [gw0, reduceEqDiff, ↓reduceIte, reduceAdd, reduceLT, reduceLeDiff, reduceMul, Env.keep]
     have h3' : e = 10 := by simpa using h3
     subst h3'
     have hne : x ≠ y := by rintro rfl; rw [hget] at hgety; cases hgety
     exact ⟨y, rfl, by omega, hy, by rw [hJ, hdry]; simp [blk, isBlank]⟩
  ·simp only [gw0, reduceEqDiff, ↓reduceIte, reduceAdd, reduceLT, reduceLeDiff, reduceMul]
   exact hend x hx (by rw [hI, hblk, h, h2]; rfl)
theorem Ext.below {g : G} {w w' : World} (hb : Go.RowKit.Below w.heap.size w w') : Ext g w g w' :=
 ⟨hb.os, hb.tape, hb.output, hb.size, Nat.le_refl _, fun _ _ => rfl, fun _ _ => Nat.le_refl _, fun _ _ _ => rfl, fun b h1 h2 => ⟨hb.block b h1, h2⟩, fun b k h1 h2 => ⟨fun off _ => cell_of_block (hb.block b h1), fun k' h3 => by rw [h2] at h3; cases h3; exact Nat.le_refl _⟩, fun b h1 => shape_of_block (hb.block b h1)⟩
/-- A call of the library that leaves what there was, and makes perhaps something; it may look at the tables. -/
theorem VCalls.ofBelowA {P : Program} {T : Nat → TI} {f : FuncId} {args : List V} {st : St} {X : V} (he : Gw.Enters P f)
  (h : ∀ (g : G) (w : World) (vals : List Value), Amb g w → SimVs g w args vals → ∃ val, (∀ g' w', SimV g' w' X val) ∧ Calls P f vals.toArray w fun e w' => e = .returned val ∧ Go.RowKit.Below w.heap.size w w') : VCalls P T f args st fun r s => r = .ret X ∧ s = st :=
 ⟨he, fun g w vals h1 h2 => by
  obtain ⟨val, h3, h4⟩ := h g w vals h1.amb h2
  refine h4.mono ?_
  rintro e w' ⟨rfl, hb⟩
  exact ⟨.ret X, st, g, ⟨rfl, rfl⟩, ⟨val, rfl, h3 _ _⟩, h1.keep (Ext.below hb) rfl (fun _ _ => rfl) (fun b h5 _ => ⟨hb.block b h5, rfl⟩), Ext.below hb⟩⟩
/-- Where the tables are nothing to it. -/
theorem VCalls.ofBelow {P : Program} {T : Nat → TI} {f : FuncId} {args : List V} {st : St} {X : V} (he : Gw.Enters P f)
  (h : ∀ (g : G) (w : World) (vals : List Value), SimVs g w args vals → ∃ val, (∀ g' w', SimV g' w' X val) ∧ Calls P f vals.toArray w fun e w' => e = .returned val ∧ Go.RowKit.Below w.heap.size w w') : VCalls P T f args st fun r s => r = .ret X ∧ s = st :=
 VCalls.ofBelowA he fun g w vals _ hv => h g w vals hv
open Go.Proofs Go.Shelf in
shelf_lay LaysC.n174 Nm 174 at Tryz as YtcdnooalfkbmgaaGreatDoor.laysPI
theorem c_ParseInt (st : St) (s : Str) (v : Int) (h : Lib.parseIntB 64 s = .ok v) (hs : s.length ≤ 6000) :
  VCalls Tryz.prog TT 114 [.str s, .int .i64 10, .int .i64 64] st fun r st' => r = .ret (.tup [.int .i64 v, .nili]) ∧ st' = st := by
 refine VCalls.ofBelow ⟨_, Tryz.func114, by kernel_rfl, by kernel_rfl⟩ fun g w vals hv => ?_
 simp only [SimVs, SimV] at hv
 obtain ⟨_, _, rfl, ⟨rfl, _⟩, _, _, rfl, rfl, _, _, rfl, rfl, rfl⟩ := hv
 refine ⟨.tuple #[.int .i64 v, .nilIface], fun g' w' => by simp only [SimV, SimVs]; exact ⟨[.int .i64 v, .nilIface], rfl, _, _, rfl, rfl, _, _, rfl, rfl, rfl⟩, ?_⟩
 refine (Go.Proofs.Any.strconv_ParseInt_10_at64_ok YtcdnooalfkbmgaaGreatDoor.laysPI ⟨s.toArray⟩ (by simp [ByteArray.size]; omega) v (by simpa using h) w).mono ?_
 rintro e w' ⟨rfl, hw⟩
 refine ⟨rfl, ?_⟩
 rcases hw with rfl | ⟨t, rfl⟩
 ·exact Go.RowKit.Below.refl _ _
 ·exact Go.Lib.bytesWorld_below w _ t
/-- The number that digits spell. -/
def numN (r : Str) : Nat := r.foldl (fun a c => a * 10 + (c.toNat - 48)) 0
def numV : Str → Int
 | 45 :: r => -(numN r : Int)
 | r => numN r
theorem parse_digits : ∀ (r : Str) (k acc : Nat), digits r = true → acc < 10 ^ k → k + r.length ≤ 17 → Lib.parseUintM (2 ^ 64 - 1) acc r = .ok (r.foldl (fun a c => a * 10 + (c.toNat - 48)) acc) ∧ r.foldl (fun a c => a * 10 + (c.toNat - 48)) acc < 10 ^ (k + r.length)
 | [], k, acc, _, h, _ => by simpa [Lib.parseUintM] using h
 | c :: r, k, acc, hd, h, hl => by
  simp only [digits, List.all_cons, Bool.and_eq_true, decide_eq_true_eq] at hd
  obtain ⟨⟨h1, h2⟩, hd⟩ := hd
  simp only [List.length_cons] at hl
  have hacc : acc * 10 + (c.toNat - 48) < 10 ^ (k + 1) := by rw [Nat.pow_succ]; omega
  have hp : 10 ^ (k + 1) ≤ 10 ^ 17 := Nat.pow_le_pow_right (by decide) (by omega)
  have ih := parse_digits r (k + 1) (acc * 10 + (c.toNat - 48)) hd hacc (by omega)
  simp only [List.foldl_cons, List.length_cons]
  rw [show k + (r.length + 1) = k + 1 + r.length by omega]
  refine ⟨?_, ih.2⟩
  rw [← ih.1]
  conv => lhs; unfold Lib.parseUintM
  rw [if_pos ⟨h1, h2⟩, if_neg (by omega), if_neg (by omega)]
theorem looks_inv {s : Str} (h : looksB s = true) : (∃ r, s = 45 :: r ∧ digits r = true ∧ r ≠ []) ∨ ((∀ r, s ≠ 45 :: r) ∧ digits s = true ∧ s ≠ []) := by
 unfold looksB at h
 split at h
 ·rename_i r
  simp only [Bool.and_eq_true, Bool.not_eq_true', List.isEmpty_eq_false_iff] at h
  exact .inl ⟨r, rfl, h.1, h.2⟩
 ·rename_i hno
  simp only [Bool.and_eq_true, Bool.not_eq_true', List.isEmpty_eq_false_iff] at h
  exact .inr ⟨hno, h.1, h.2⟩
theorem parse_ok {s : Str} (h : looksB s = true) (hl : s.length ≤ 17) : Lib.parseIntB 64 s = .ok (numV s) ∧ -100000000000000000 ≤ numV s ∧ numV s ≤ 100000000000000000 := by
 rcases looks_inv h with ⟨r, rfl, hd, hne⟩ | ⟨hno, hd, hne⟩
 ·have hp := parse_digits r 0 0 hd (by decide) (by simp at hl; omega)
  have hb : (10 : Nat) ^ (0 + r.length) ≤ 10 ^ 17 := Nat.pow_le_pow_right (by decide) (by simp at hl; omega)
  have hlt := hp.2
  have hu : Lib.parseUintB 64 r = .ok (numN r) := by unfold Lib.parseUintB; rw [if_neg hne]; exact hp.1
  refine ⟨?_, ?_⟩
  ·unfold Lib.parseIntB
   have hn : ¬ 2 ^ (64 - 1) < numN r := by unfold numN; omega
   simp only [show (45 : UInt8).toNat = 45 from rfl, or_true, if_true]
   rw [hu]
   simp only [not_true_eq_false, false_and, if_false, true_and, if_neg hn]
   simp [numV]
  ·simp only [numV, numN]; omega
 ·cases s with
  | nil => exact absurd rfl hne
  | cons c r =>
   have hp := parse_digits (c :: r) 0 0 hd (by decide) (by simp at hl ⊢; omega)
   have hb : (10 : Nat) ^ (0 + (c :: r).length) ≤ 10 ^ 17 := Nat.pow_le_pow_right (by decide) (by simp at hl ⊢; omega)
   have hlt := hp.2
   have hu : Lib.parseUintB 64 (c :: r) = .ok (numN (c :: r)) := by unfold Lib.parseUintB; rw [if_neg hne]; exact hp.1
   have hd' := hd
   simp only [digits, List.all_cons, Bool.and_eq_true, decide_eq_true_eq] at hd'
   have hnv : numV (c :: r) = numN (c :: r) := by
    unfold numV
    split
    ·rename_i r' e; exact absurd e (hno r')
    ·rfl
   refine ⟨?_, ?_⟩
   ·unfold Lib.parseIntB
    have h1 : ¬ (c.toNat = 43 ∨ c.toNat = 45) := by omega
    have h2 : ¬ c.toNat = 45 := by omega
    have hn : ¬ 2 ^ (64 - 1) ≤ numN (c :: r) := by unfold numN; omega
    simp only [if_neg h1]
    rw [hu]
    simp only [h2, not_false_eq_true, true_and, if_neg hn, false_and, if_false]
    rw [hnv]
   ·rw [hnv]; simp only [numN]; omega
def faultV (e p : Int) : V := .iface 160 (.agg [.int .i64 e, .int .i64 p])
theorem c_fail (st : St) (e p : Int) : VCalls Tryz.prog TT 104 [.int .i64 e, .int .i64 p] st fun r st' => r = .panic (faultV e p) ∧ st' = st := by
 refine vfunP TT_ok (an := anL []) (L := [0, 1]) (rs := []) Tryz.func104 rfl (by kernel_rfl) rfl Tryz.ntmps104 rfl rfl (Nat.le_refl _) fun hst ha hf => ?_
 simp only [gw0, reduceEqDiff, ↓reduceIte, reduceAdd, reduceLT, reduceLeDiff, reduceMul]
 exact givesP_self (by simp [faultV, V.lt, ltL]) hst
theorem c_node_ok (s : Str) (st : St) (b p n : Nat) (deep q : Int) (hb : st[b]? = some (rdE s p n)) (h : ¬ 2000 < n + 1 ∧ ¬ 40 < deep) :
  VCalls Tryz.prog TT 103 [.ptr b 0, .int .i64 deep, .int .i64 q] st fun r st' => r = .ret (.tup []) ∧ st' = st.set b (rdE s p (n + 1)) := by
 refine vfun TT_ok (an := anL []) (L := [0, 1, 2]) (rs := []) Tryz.func103 rfl (by kernel_rfl) rfl Tryz.ntmps103 rfl rfl (Nat.le_of_eq (List.length_set ..).symm) fun hst ha hf => ?_
 have hlt : b < st.length := (List.getElem?_eq_some_iff.1 hb).1
 have hset : (st.set b (.box [.str s, .int .i64 p, .int .i64 (n + 1)]))[b]? = some (.box [.str s, .int .i64 p, .int .i64 (n + 1)]) := List.getElem?_set_self hlt
 simp only [rdE] at hb
 simp only [gw0, reduceEqDiff, ↓reduceIte, reduceAdd, reduceLT, reduceLeDiff, reduceMul, hb, wrap_i64 (show -9223372036854775808 ≤ (n : Int) + 1 by omega) (show (n : Int) + 1 ≤ 9223372036854775807 by omega), hset]
 refine iK_split (fun h2 => ?_) (fun h2 => ?_)
 ·exfalso
  simp at h2
  omega
 ·simp only [gw0, reduceEqDiff, ↓reduceIte, reduceAdd, reduceLT, reduceLeDiff, reduceMul]
  exact gives_self (by simp [V.lt, ltL]) (rd_ok hst)
theorem c_node_err (s : Str) (st : St) (b p n : Nat) (deep q : Int) (hb : st[b]? = some (rdE s p n)) (hn : n ≤ 2000) (h : 2000 < n + 1 ∨ 40 < deep) :
  VCalls Tryz.prog TT 103 [.ptr b 0, .int .i64 deep, .int .i64 q] st fun r st' => r = .panic (faultV 4 q) ∧ st' = st.set b (rdE s p (n + 1)) := by
 refine vfunP TT_ok (an := anL []) (L := [0, 1, 2]) (rs := []) Tryz.func103 rfl (by kernel_rfl) rfl Tryz.ntmps103 rfl rfl (Nat.le_of_eq (List.length_set ..).symm) fun hst ha hf => ?_
 have hlt : b < st.length := (List.getElem?_eq_some_iff.1 hb).1
 have hset : (st.set b (.box [.str s, .int .i64 p, .int .i64 (n + 1)]))[b]? = some (.box [.str s, .int .i64 p, .int .i64 (n + 1)]) := List.getElem?_set_self hlt
 simp only [rdE] at hb
 simp only [gw0, reduceEqDiff, ↓reduceIte, reduceAdd, reduceLT, reduceLeDiff, reduceMul, hb, wrap_i64 (show -9223372036854775808 ≤ (n : Int) + 1 by omega) (show (n : Int) + 1 ≤ 9223372036854775807 by omega), hset]
 refine iK_split (fun h2 => ?_) (fun h2 => ?_)
 ·simp only [gw0, reduceEqDiff, ↓reduceIte, reduceAdd, reduceLT, reduceLeDiff, reduceMul]
  refine (c_fail _ 4 q).useP (wkL_refl _) ?_
  simp only [gw0, reduceEqDiff, ↓reduceIte, reduceAdd, reduceLT, reduceLeDiff, reduceMul]
  exact givesP_self (by simp [faultV, V.lt, ltL]) (rd_ok hst)
 ·exfalso
  simp at h2
  omega
/-- What an atom is; or what is wrong with it. -/
def atomR (s : Str) : Sum Int Datum :=
 bif looksB s then (bif decide ((17 : Int) < s.length) then .inl 3 else bif decide (1000000000000000 < numV s) || decide (numV s < -1000000000000000) then .inl 3 else .inr (.mk 1 (numV s) [] 0 0 []))
 else bif decide ((20 : Int) < s.length) then .inl 7 else .inr (.mk 3 0 s 0 0 [])
theorem wk6 (a b c d e : V) : wkL [a, b, c, d, e, .nils] [a, b, c, d, e, .lst 6 none []] :=
 wkL_cons (wk_refl _) (wkL_cons (wk_refl _) (wkL_cons (wk_refl _) (wkL_cons (wk_refl _) (wkL_cons (wk_refl _) (wkL_cons (wk_nils _) wkL_nil)))))
theorem c_atom_ok (s : Str) (st : St) (q : Int) (d : Datum) (hs : s.length ≤ 6000) (h : atomR s = .inr d) :
  VCalls Tryz.prog TT 106 [.str s, .int .i64 q] st fun r st' => r = .ret (.agg (encD d)) ∧ st' = st := by
 refine vfun TT_ok (an := anL []) (L := [0, 1, 4, 5]) (rs := [.cell 4 49]) Tryz.func106 rfl (by kernel_rfl) rfl Tryz.ntmps106 rfl rfl (Nat.le_refl _) fun hst ha hf => ?_
 simp only [gw0, reduceEqDiff, ↓reduceIte, reduceAdd, reduceLT, reduceLeDiff, reduceMul]
 refine (c_number _ s).use (wkL_refl _) fun _ => ?_
 simp only [gw0, reduceEqDiff, ↓reduceIte, reduceAdd, reduceLT, reduceLeDiff, reduceMul]
 unfold atomR at h
 refine iK_split (fun hl => ?_) (fun hl => ?_)
 ·rw [hl] at h
  simp only [cond_true] at h
  simp only [gw0, reduceEqDiff, ↓reduceIte, reduceAdd, reduceLT, reduceLeDiff, reduceMul]
  refine iK_split (fun h17 => ?_) (fun h17 => ?_)
  ·exfalso
   rw [h17] at h
   cases h
  ·have h17' : s.length ≤ 17 := by simp at h17; omega
   rw [h17] at h
   simp only [cond_false] at h
   obtain ⟨p1, p2, p3⟩ := parse_ok hl h17'
   simp only [gw0, reduceEqDiff, ↓reduceIte, reduceAdd, reduceLT, reduceLeDiff, reduceMul]
   refine (c_ParseInt _ s (numV s) p1 hs).use (wkL_refl _) fun _ => ?_
   simp only [gw0, reduceEqDiff, ↓reduceIte, reduceAdd, reduceLT, reduceLeDiff, reduceMul]
   refine iK_split (fun h1 => ?_) (fun h1 => ?_)
   ·exfalso
    rw [h1] at h
    cases h
   ·rw [h1] at h
    simp only [cond_false, Sum.inr.injEq] at h
    subst h
    simp only [gw0, reduceEqDiff, ↓reduceIte, reduceAdd, reduceLT, reduceLeDiff, reduceMul, encD_mk]
    exact gives_of (wk_agg (wk6 ..)) (wkSt_refl _) (by simp only [V.lt]; exact encD_lt _ (.mk 1 (numV s) [] 0 0 [])) hst
 ·rw [hl] at h
  simp only [cond_false] at h
  simp only [gw0, reduceEqDiff, ↓reduceIte, reduceAdd, reduceLT, reduceLeDiff, reduceMul]
  refine iK_split (fun h20 => ?_) (fun h20 => ?_)
  ·exfalso
   rw [h20] at h
   cases h
  ·rw [h20] at h
   simp only [cond_false, Sum.inr.injEq] at h
   subst h
   simp only [gw0, reduceEqDiff, ↓reduceIte, reduceAdd, reduceLT, reduceLeDiff, reduceMul, encD_mk]
   exact gives_of (wk_agg (wk6 ..)) (wkSt_refl _) (by simp only [V.lt]; exact encD_lt _ (.mk 3 0 s 0 0 [])) hst
theorem c_atom_err (s : Str) (st : St) (q : Int) (e : Int) (hs : s.length ≤ 6000) (h : atomR s = .inl e) :
  VCalls Tryz.prog TT 106 [.str s, .int .i64 q] st fun r st' => r = .panic (faultV e q) ∧ st' = st := by
 refine vfunP TT_ok (an := anL []) (L := [0, 1, 4, 5]) (rs := [.cell 4 49]) Tryz.func106 rfl (by kernel_rfl) rfl Tryz.ntmps106 rfl rfl (Nat.le_refl _) fun hst ha hf => ?_
 simp only [gw0, reduceEqDiff, ↓reduceIte, reduceAdd, reduceLT, reduceLeDiff, reduceMul]
 refine (c_number _ s).use (wkL_refl _) fun _ => ?_
 simp only [gw0, reduceEqDiff, ↓reduceIte, reduceAdd, reduceLT, reduceLeDiff, reduceMul]
 unfold atomR at h
 have fin : ∀ ex, GivesP (faultV e q) st (.panic (faultV e q)) (st ++ ex) := fun ex => givesP_of (wk_refl _) (wkSt_refl _) (by simp [faultV, V.lt, ltL]) hst
 refine iK_split (fun hl => ?_) (fun hl => ?_)
 ·rw [hl] at h
  simp only [cond_true] at h
  simp only [gw0, reduceEqDiff, ↓reduceIte, reduceAdd, reduceLT, reduceLeDiff, reduceMul]
  refine iK_split (fun h17 => ?_) (fun h17 => ?_)
  ·rw [h17] at h
   simp only [cond_true, Sum.inl.injEq] at h
   subst h
   simp only [gw0, reduceEqDiff, ↓reduceIte, reduceAdd, reduceLT, reduceLeDiff, reduceMul]
   refine (c_fail _ 3 q).useP (wkL_refl _) ?_
   simp only [gw0, reduceEqDiff, ↓reduceIte, reduceAdd, reduceLT, reduceLeDiff, reduceMul]
   exact fin _
  ·have h17' : s.length ≤ 17 := by simp at h17; omega
   rw [h17] at h
   simp only [cond_false] at h
   obtain ⟨p1, p2, p3⟩ := parse_ok hl h17'
   simp only [gw0, reduceEqDiff, ↓reduceIte, reduceAdd, reduceLT, reduceLeDiff, reduceMul]
   refine (c_ParseInt _ s (numV s) p1 hs).use (wkL_refl _) fun _ => ?_
   simp only [gw0, reduceEqDiff, ↓reduceIte, reduceAdd, reduceLT, reduceLeDiff, reduceMul]
   refine iK_split (fun h1 => ?_) (fun h1 => ?_)
   ·rw [h1] at h
    simp only [cond_true, Sum.inl.injEq] at h
    subst h
    simp only [gw0, reduceEqDiff, ↓reduceIte, reduceAdd, reduceLT, reduceLeDiff, reduceMul]
    refine (c_fail _ 3 q).useP (wkL_refl _) ?_
    simp only [gw0, reduceEqDiff, ↓reduceIte, reduceAdd, reduceLT, reduceLeDiff, reduceMul]
    exact fin _
   ·exfalso
    rw [h1] at h
    cases h
 ·rw [hl] at h
  simp only [cond_false] at h
  simp only [gw0, reduceEqDiff, ↓reduceIte, reduceAdd, reduceLT, reduceLeDiff, reduceMul]
  refine iK_split (fun h20 => ?_) (fun h20 => ?_)
  ·rw [h20] at h
   simp only [cond_true, Sum.inl.injEq] at h
   subst h
   simp only [gw0, reduceEqDiff, ↓reduceIte, reduceAdd, reduceLT, reduceLeDiff, reduceMul]
   refine (c_fail _ 7 q).useP (wkL_refl _) ?_
   simp only [gw0, reduceEqDiff, ↓reduceIte, reduceAdd, reduceLT, reduceLeDiff, reduceMul]
   exact fin _
  ·exfalso
   rw [h20] at h
   cases h
end Go.Proofs.YtcdnooalfkbmgaaGreatDoor.Gx
