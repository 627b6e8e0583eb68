/- Contract of slices.Clone. Contract of graph.cycle: the least name, of those left, that needs itself by way of others. Small laws: sorting, the first of which it holds. Contract of graph.Order. Plain law: who stands, who can't. Plain law: what an order is like. Contracts of graftlaw4's own functions. The law GraphBehind answers true. What a row needs: how what comes in is read. How what comes in for GraphBehind is read. Nodes that come in: each needs no more names than the bulk of what is read. Plain law: no matter how it is told. -/
import Derived.Test.YtcegdbniggdckaaZT5
import Derived.WalkKit
import Derived.ProofKit
import Derived.OpenShut
import Derived.ShutString
import Derived.ChangeOld
import Derived.Below
import Derived.SizedLaws
import Derived.Carry
import Derived.JoinedCond
import Derived.Test.YtcegdbniggdckaaRows

namespace Go.Proofs.Ytcegdbniggdckaa.Gx
open Go Go.Proofs.Ytcegdbniggdckaa.Gw
set_option linter.unusedSimpArgs false
set_option linter.unusedVariables false

theorem rows_cells {g : G} {w : World} : ∀ {l : List Str} {b off : Nat}, SimRows g w ⟨b, off, none⟩ 1 (rowsS l) → ∀ (j : Nat) (s : Str), l[j]? = some s → w.cell? ⟨b, off + j, none⟩ = some (.string ⟨s.toArray⟩) ∧ s.length ≤ 9223372036854775807
  | [], b, off, _, j, s, hj => by simp at hj
  | x :: r, b, off, h, j, s, hj => by
    simp only [rowsS, List.map_cons, SimRows, SimAt, and_true] at h
    obtain ⟨-, ⟨v, h1, h2, h3, h4⟩, h5⟩ := h
    cases j with
    | zero =>
      simp only [List.getElem?_cons_zero, Option.some.injEq] at hj
      subst hj
      simp only [SimV] at h4
      exact ⟨by rw [Nat.add_zero, h2, h4.1], h4.2⟩
    | succ j =>
      have := rows_cells (b := b) (off := off + 1) h5 j s (by simpa using hj)
      rw [show off + (j + 1) = off + 1 + j by omega]
      exact this
theorem cells_rows {g : G} {w : World} : ∀ {l : List Str} {b off : Nat}, (∀ (j : Nat) (s : Str), l[j]? = some s → sealed g w ⟨b, off + j, none⟩ ∧ w.cell? ⟨b, off + j, none⟩ = some (.string ⟨s.toArray⟩) ∧ s.length ≤ 9223372036854775807) → SimRows g w ⟨b, off, none⟩ 1 (rowsS l)
  | [], b, off, _ => trivial
  | x :: r, b, off, h => by
    simp only [rowsS, List.map_cons, SimRows, SimAt, and_true]
    obtain ⟨h1, h2, h3⟩ := h 0 x rfl
    refine ⟨rfl, ⟨_, h1, h2, rfl, rfl, h3⟩, ?_⟩
    exact cells_rows (b := b) (off := off + 1) fun j s hj => by
      have := h (j + 1) s (by simpa using hj)
      rw [show off + (j + 1) = off + 1 + j by omega] at this
      exact this
variable {T : Nat → TI}
/-- A new row of strings. -/
theorem row_new {g : G} {w w' : World} {st : St} {e : TypeId} {l : List Str} {v : Value} (hst : SimSt T g st w) (he : (T e).size = 1) (hb : Go.RowKit.Below w.heap.size w w') (ho : w'.ownsRow w.heap.size e 1 v l.length (l.map encStr))
    (hl : ∀ s ∈ l, s.length ≤ 9223372036854775807) : ∃ g', SimSt T g' (st ++ [.tip e l.length]) w' ∧ Ext g w g' w' ∧ SimV g' w' (.lst 1 (some st.length) (rowsS l)) v := by
  have hn := hst.n
  have hgrow : ∀ (g1 : G) (hg : g1.n = g.n ∧ g1.pb = g.pb ∧ g1.tv = g.tv ∧ g1.len = g.len) (hown : ∀ b, b < w.heap.size → g1.own b = g.own b), Ext g w g1 w' := fun g1 hg hown =>
    ⟨hb.os, hb.tape, hb.output, hb.size, by rw [hg.1]; exact Nat.le_refl _, fun _ _ => by rw [hg.2.1], fun _ _ => by rw [hg.2.2.2]; exact Nat.le_refl _, fun _ _ _ => by rw [hg.2.2.1], fun b h1 h2 => ⟨hb.block b h1, by rw [hown b h1, h2]⟩,
      fun b k h1 h2 => ⟨fun off _ => cell_of_block (hb.block b h1), fun k' h3 => by rw [hown b h1, h2] at h3; cases h3; exact Nat.le_refl _⟩⟩
  obtain ⟨o1, o2⟩ := ho
  rcases o2 with ⟨rfl, h0⟩ | ⟨b, cap, cur, rfl, p1, p2, p3, p4, p5, p6⟩
  · have hl0 : l = [] := List.length_eq_zero_iff.1 h0
    subst hl0
    have x1 := hgrow g ⟨rfl, rfl, rfl, rfl⟩ fun _ _ => rfl
    have s1 : SimSt T g st w' := hst.keep x1 rfl (fun _ _ => rfl) fun b h1 _ => ⟨hb.block b h1, rfl⟩
    have x2 := Ext.push g w' 0 (.slice none 0 0) 0
    refine ⟨_, s1.push (b := 0) (v := .slice none 0 0) (k := 0) ⟨[], by simp [G.push], by simp, .inl ⟨rfl, by simp [G.push]⟩⟩ (fun c hc => by simp [blkOf, G.push, Value.ownBlock] at hc), x1.trans x2, ?_⟩
    simp only [SimV]
    refine ⟨none, 0, rfl, Nat.le_refl _, Nat.zero_le _, fun _ => rfl, .inl rfl, fun e' he' => ?_, trivial⟩
    cases he'
    exact ⟨by simp [G.push, hn], Nat.zero_le _, fun _ => by simp [G.push, hn, rowsS]⟩
  · have x1 := hgrow (g.new b (some l.length)) ⟨rfl, rfl, rfl, rfl⟩ fun c hc => by simp only [G.new]; rw [if_neg (by omega)]
    have s1 : SimSt T (g.new b (some l.length)) st w' := hst.keep x1 rfl (fun _ _ => rfl) fun c h1 _ => ⟨hb.block c h1, by simp only [G.new]; rw [if_neg (by omega)]⟩
    have x2 := Ext.push (g.new b (some l.length)) w' 0 (.slice (some ⟨b, 0, none⟩) l.length cap) l.length
    have hn2 : (g.new b (some l.length)).n = st.length := hn
    refine ⟨_, s1.push (b := 0) (v := .slice (some ⟨b, 0, none⟩) l.length cap) (k := l.length) ⟨cur.toList.take (l.length * (T e).size), by simp [G.push], ?_, .inr ⟨b, cap, cur, by simp [G.push], by simp [G.push, G.new, he], p2, p3, p4, by rw [he]; exact p5, rfl⟩⟩ ?_, x1.trans x2, ?_⟩
    · rw [he, p6]; simp
    · intro c hc i ei hi hbk
      simp only [blkOf, G.push, if_true, Value.ownBlock, Option.some.injEq] at hc
      subst hc
      have : blkOf g i ei = some b := by cases ei <;> exact hbk
      have := hst.blk_lt hi this
      omega
    · simp only [SimV]
      refine ⟨some ⟨b, 0, none⟩, cap, by simp [rowsS], by simpa [rowsS] using p3, p4, (fun h => by cases h), .inr rfl, fun e' he' => ?_, cells_rows fun j s hj => ?_⟩
      · cases he'
        exact ⟨by simp [G.push, hn2], by simp [G.push, hn2, rowsS], fun _ => by simp [G.push, hn2, rowsS]⟩
      · have hjl := (List.getElem?_eq_some_iff.1 hj).1
        refine ⟨⟨rfl, (Array.getElem?_eq_some_iff.1 p2).1, fun k hk => by simp [G.push, G.new] at hk; subst hk; show 0 + j < l.length; omega⟩, ?_, hl s (List.mem_of_getElem? hj)⟩
        have hc : cur[j]? = some (encStr s) := by
          have h6 : (cur.toList.take (l.length * 1))[j]? = (l.map encStr)[j]? := by rw [p6]
          rw [List.getElem?_take_of_lt (by omega), List.getElem?_map, hj] at h6
          simpa using h6
        simp [World.cell?, p2, hc]
theorem c_Clone (st : St) (l : List Str) (hl : l.length * 16 ≤ 140737488355328) : VCalls Try.prog TT 28 [encS l] st fun r st' => r = .ret (.lst 1 (some st.length) (rowsS l)) ∧ st' = st ++ [.tip 9 l.length] := by
  refine ⟨⟨_, Try.func28, by kernel_rfl, by kernel_rfl⟩, fun g w vals hst hv => ?_⟩
  simp only [SimVs, encS, SimV] at hv
  obtain ⟨v, _, rfl, ⟨a, cap, rfl, h1, h2, h3, h4, -, h5⟩, rfl⟩ := hv
  have fin : ∀ (v : Value) (w' : World), Go.RowKit.Below w.heap.size w w' → w'.ownsRow w.heap.size 9 1 v l.length (l.map encStr) → (∀ s ∈ l, s.length ≤ 9223372036854775807) →
      ∃ r st' g', (r = VEnd.ret (.lst 1 (some st.length) (rowsS l)) ∧ st' = st ++ [.tip 9 l.length]) ∧ SimEnd g' w' r (.returned v) ∧ SimSt TT g' st' w' ∧ Ext g w g' w' := fun v w' hb ho hl => by
    obtain ⟨g', e1, e2, e3⟩ := row_new hst rfl hb ho hl
    exact ⟨_, _, g', ⟨rfl, rfl⟩, ⟨v, rfl, e3⟩, e1, e2⟩
  rw [List.length_map]
  cases a with
  | none =>
    have hc0 := h3 rfl
    rw [List.length_map] at h1
    have hl0 : l = [] := List.length_eq_zero_iff.1 (by omega)
    subst hl0
    refine (Any.slices_Clone_string_nil Ytcegdbniggdckaa.lays16 _ _ w).mono ?_
    rintro e w' ⟨rfl, rfl⟩
    exact fin _ _ (Go.RowKit.Below.refl _ _) ⟨by simp, .inl ⟨rfl, rfl⟩⟩ (by simp)
  | some a =>
    by_cases hl0 : l = []
    · subst hl0
      refine (Any.slices_Clone_string_zero Ytcegdbniggdckaa.lays16 a _ w).mono ?_
      rintro e w' ⟨v', rfl, k1, k2, k3⟩
      exact fin _ _ k3 k1 (by simp)
    · obtain ⟨b, off, sp⟩ := a
      have hsp : sp = none := by
        rcases h4 with h4 | h4
        · exact absurd (List.map_eq_nil_iff.1 h4) hl0
        · exact h4
      subst hsp
      have hcells := rows_cells h5
      refine (Any.slices_Clone_string Ytcegdbniggdckaa.lays16 b off l.length cap (l.map fun s => ⟨s.toArray⟩) w (by simp) hl fun j hj => ?_).mono ?_
      · rw [List.length_map] at hj
        rw [(hcells j l[j] (List.getElem?_eq_getElem hj)).1, List.getD_eq_getElem?_getD, List.getElem?_map, List.getElem?_eq_getElem hj]
        rfl
      · rintro e w' ⟨v', rfl, k1, k2, k3⟩
        refine fin _ _ k3 ?_ fun s hs => ?_
        · have : ((l.map fun s => (⟨s.toArray⟩ : ByteArray)).take l.length).map Value.string = l.map encStr := by
            rw [List.take_of_length_le (by simp), List.map_map]; rfl
          rw [this] at k1
          exact k1
        · obtain ⟨j, hj⟩ := List.getElem?_of_mem hs
          exact (hcells j s hj).2
end Go.Proofs.Ytcegdbniggdckaa.Gx

namespace Go.Proofs.Ytcegdbniggdckaa.Gx
open Go Go.Proofs.Ytcegdbniggdckaa.Gw
set_option linter.unusedSimpArgs false
set_option linter.unusedVariables false

/-- A name needs another one, by way of others. -/
inductive Rch (f : Str → List Str) : Str → Str → Prop
  | one {a b : Str} : b ∈ f a → Rch f a b
  | step {a b c : Str} : Rch f a b → c ∈ f b → Rch f a c
open Classical in
noncomputable def cycL (f : Str → List Str) : List Str → Str
  | [] => []
  | n :: r => if Rch f n n then n else cycL f r
theorem rch_closed {f : Str → List Str} {n : Str} {seen : List Str} (h2 : ∀ m ∈ f n, m ∈ seen) (h3 : ∀ a ∈ seen, ∀ m ∈ f a, m ∈ seen) : ∀ {m : Str}, Rch f n m → m ∈ seen := by
  intro m h
  induction h with
  | one h => exact h2 _ h
  | step _ hc ih => exact h3 _ ih _ hc
/-- What a map's names need, all of it. -/
def needsU (M : NM) : List Str := M.flatMap (·.2)
theorem ndM_mem {M : NM} {n m : Str} (h : m ∈ ndM M n) : m ∈ needsU M := by
  unfold ndM at h
  induction M with
  | nil => simp [asc] at h
  | cons p r ih =>
    obtain ⟨a, l⟩ := p
    simp only [asc] at h
    simp only [needsU, List.flatMap_cons, List.mem_append]
    by_cases e : n = a
    · simp only [e, if_true, Option.getD_some] at h; exact .inl h
    · simp only [e, if_false] at h; exact .inr (ih h)
structure MOk (M : NM) : Prop where
  few : M.length ≤ 1048576
  len : ∀ p ∈ M, p.2.length ≤ 1048576
theorem needsU_len : ∀ {M : NM}, (∀ p ∈ M, p.2.length ≤ 1048576) → (needsU M).length ≤ M.length * 1048576
  | [], _ => by simp [needsU]
  | p :: r, h => by
    have h1 := h p (by simp)
    have h2 := needsU_len (M := r) fun q hq => h q (by simp [hq])
    simp only [needsU, List.flatMap_cons, List.length_append, List.length_cons, Nat.succ_mul] at *
    omega
theorem ndM_len {M : NM} (h : MOk M) (n : Str) : (ndM M n).length ≤ 1048576 := by
  unfold ndM
  have h' := h.len
  clear h
  induction M with
  | nil => simp [asc]
  | cons p r ih =>
    obtain ⟨a, l⟩ := p
    simp only [asc]
    by_cases e : n = a
    · simp only [e, if_true, Option.getD_some]; exact h' (a, l) (by simp)
    · simp only [e, if_false]; exact ih fun q hq => h' q (by simp [hq])
/-- How many are not seen yet. -/
def leftU (U seen : List Str) : Nat := (U.filter fun u => !decide (u ∈ seen)).length
theorem leftU_le (U : List Str) (seen : List Str) : leftU U seen ≤ U.length := List.length_filter_le _ _
theorem leftU_new {U seen : List Str} {m : Str} (h1 : m ∈ U) (h2 : m ∉ seen) : leftU U (seen ++ [m]) + 1 ≤ leftU U seen := by
  unfold leftU
  induction U with
  | nil => simp at h1
  | cons u r ih =>
    have key : ∀ r : List Str, (r.filter fun u => !decide (u ∈ seen ++ [m])).length ≤ (r.filter fun u => !decide (u ∈ seen)).length := by
      intro r
      induction r with
      | nil => simp
      | cons v t iht =>
        by_cases a : v ∈ seen
        · have b : v ∈ seen ++ [m] := by simp [a]
          rw [List.filter_cons_of_neg (by simp [a]), List.filter_cons_of_neg (by simp [a])]
          exact iht
        · rw [List.filter_cons_of_pos (p := fun u => !decide (u ∈ seen)) (by simp [a])]
          by_cases b : v ∈ seen ++ [m]
          · rw [List.filter_cons_of_neg (by rw [decide_eq_true b]; simp)]; simp only [List.length_cons]; omega
          · rw [List.filter_cons_of_pos (by rw [decide_eq_false b]; rfl)]; simp only [List.length_cons]; omega
    by_cases e : u = m
    · subst e
      rw [List.filter_cons_of_neg (by simp), List.filter_cons_of_pos (p := fun u => !decide (u ∈ seen)) (by simp [h2])]
      have := key r
      simp only [List.length_cons]; omega
    · have hm : m ∈ r := by rcases List.mem_cons.1 h1 with h | h
                            · exact absurd h.symm e
                            · exact h
      have := ih hm
      by_cases a : u ∈ seen
      · rw [List.filter_cons_of_neg (by simp [a]), List.filter_cons_of_neg (by simp [a])]
        exact this
      · rw [List.filter_cons_of_pos (by simp [a, e]), List.filter_cons_of_pos (p := fun u => !decide (u ∈ seen)) (by simp [a])]
        simp only [List.length_cons]; omega
theorem asc_need {M : NM} {n : Str} (h : (asc n M).isSome = true) : asc n M = some (ndM M n) := by
  unfold ndM
  cases e : asc n M with
  | none => rw [e] at h; cases h
  | some l => rfl
set_option maxRecDepth 20000 in
set_option maxHeartbeats 4000000 in
theorem c_cycle (st : St) (k o : Nat) (l : List Str) (M : NM) (h1 : st[k]? = some (.arr 9 1 (rowsS l))) (h2 : st[o]? = some (mapE V.str encS M)) (hl : l.length ≤ 1048576) (hM : MOk M)
    (hin : ∀ n ∈ l, (asc n M).isSome = true) (hall : ∀ n m, m ∈ ndM M n → (asc m M).isSome = true) :
    VCalls Try.prog TT 20 [.arr k l.length, .map o] st fun r st' => r = .ret (.str (cycL (ndM M) l)) ∧ st' = st := by
  refine vfun TT_ok (an := anL []) (L := [0, 1, 4, 6, 7, 8, 10, 11, 12, 13, 32, 33, 34]) (rs := [.tmp 4]) Try.func20 rfl (by kernel_rfl) rfl Try.ntmps20 rfl rfl (Nat.le_refl _) fun hst ha hf => ?_
  simp only [gwL, gwB, gwD, gwE, gwS, gwTT, gwZ, gwN, gwC, Nat.reduceEqDiff, ↓reduceIte, Nat.reduceAdd, Nat.reduceLT, Nat.reduceLeDiff, Nat.reduceMul]
  refine vfor (σ := Nat × St) [0, 1, 4, 11, 12, 13] (fun x => [(0, true, .arr k l.length), (1, true, .map o), (4, true, .str []), (11, true, .arr k l.length), (12, true, .int .i64 l.length), (13, true, .int .i64 x.1)]) (fun x => x.2) (fun x => l.length - x.1) (fun x => x.1 ≤ l.length ∧ (∃ ex, x.2 = st ++ ex) ∧ cycL (ndM M) l = cycL (ndM M) (l.drop x.1)) (0, st) rfl TT_ok ⟨Nat.zero_le _, ⟨[], by rw [List.append_nil]⟩, rfl⟩ rfl rfl ?_
  rintro ⟨i, S⟩ ⟨hi, ⟨ex, hex⟩, hx⟩
  simp only at hi hex hx ⊢
  have hok : k < st.length := (List.getElem?_eq_some_iff.1 h1).1
  have hoo : o < st.length := (List.getElem?_eq_some_iff.1 h2).1
  rw [hx]
  rcases at_or_end l i hi with ⟨rfl, hd⟩ | ⟨n, hlt, hget, hdr⟩
  · rw [hd, hex]
    simp only [gwL, gwB, gwD, gwE, gwS, gwTT, gwZ, gwN, gwC, Nat.reduceEqDiff, ↓reduceIte, Nat.reduceAdd, Nat.reduceLT, Nat.reduceLeDiff, Nat.reduceMul, lt_no, cycL]
    exact gives_of (wk_refl _) (wkSt_refl _) (by simp [V.lt]) hst
  have hg1 : S[k]? = some (.arr 9 1 (rowsS l)) := by rw [hex, st_old hok, h1]
  have hg2 : S[o]? = some (mapE V.str encS M) := by rw [hex, st_old hoo, h2]
  have hlk := fun (i : TI) (ok : Bool) (st : St) (n : Str) => look_mapE (ev := encS) (keyP_str TT) i ok n st M
  have hnn := asc_need (hin n (List.mem_of_getElem? hget))
  simp only [gwL, gwB, gwD, gwE, gwS, gwTT, gwZ, gwN, gwC, Nat.reduceEqDiff, ↓reduceIte, Nat.reduceAdd, Nat.reduceLT, Nat.reduceLeDiff, Nat.reduceMul, mapLook, mapPut, mapRange, mapLen, makeMapE, keyOk, keyKind, keyGood, lookR, zeroV, entV, entS, nextV, nextS, beq_self_eq_true, cond_true, cond_false, lt_yes hlt, hg1, hg2, rowsS_getD hget, rowsS_len, Int.toNat_natCast, hlk, hnn, Int.ofNat_lt.mpr hlt]
  refine ⟨hlt, ?_⟩
  have hU := needsU_len hM.len
  have hfew := hM.few
  have hnl := ndM_len hM n
  refine (c_Clone S (ndM M n) (by omega)).use (wkL_refl _) fun _ => ?_
  simp only [gwL, gwB, gwD, gwE, gwS, gwTT, gwZ, gwN, gwC, Nat.reduceEqDiff, ↓reduceIte, Nat.reduceAdd, Nat.reduceLT, Nat.reduceLeDiff, Nat.reduceMul]
  refine vfor (σ := Nat × St × List Str) [0, 1, 4, 11, 12, 13, 6, 7, 8] (fun x => [(0, true, .arr k l.length), (1, true, .map o), (4, true, .str []), (11, true, .arr k l.length), (12, true, .int .i64 l.length), (13, true, .int .i64 i), (6, true, .str n), (7, true, .lst 1 (some S.length) (rowsS x.2.2)), (8, true, .int .i64 x.1)]) (fun x => S ++ (Ent.tip 9 x.2.2.length :: x.2.1)) (fun x => leftU (needsU M) x.2.2 + x.2.2.length - x.1) (fun x => x.1 ≤ x.2.2.length ∧ leftU (needsU M) x.2.2 + x.2.2.length ≤ 1048576 * 1048577 ∧ (∀ m ∈ x.2.2, Rch (ndM M) n m) ∧ (∀ m ∈ ndM M n, m ∈ x.2.2) ∧ ∀ j a, j < x.1 → x.2.2[j]? = some a → ∀ m ∈ ndM M a, m ∈ x.2.2) (0, [], ndM M n) rfl TT_ok ⟨Nat.zero_le _, by have := leftU_le (needsU M) (ndM M n); have := Nat.mul_le_mul_right 1048576 hfew; simp only; omega, fun m hm => .one hm, fun m hm => hm, fun j a hj => by omega⟩ rfl rfl ?_
  rintro ⟨q, Y, seen⟩ ⟨hq, hqs, hc1, hc2, hc3⟩
  simp only at hq hqs hc1 hc2 hc3 ⊢
  rcases at_or_end seen q hq with ⟨hqe, hqd⟩ | ⟨a, hqt, hqg, hqr⟩
  · have hqe2 : q = seen.length := hqe
    subst hqe2
    have hcl : ∀ b ∈ seen, ∀ m ∈ ndM M b, m ∈ seen := fun b hb => by
      obtain ⟨j, hj⟩ := List.getElem?_of_mem hb
      exact hc3 j b (List.getElem?_eq_some_iff.1 hj).1 hj
    simp only [gwL, gwB, gwD, gwE, gwS, gwTT, gwZ, gwN, gwC, Nat.reduceEqDiff, ↓reduceIte, Nat.reduceAdd, Nat.reduceLT, Nat.reduceLeDiff, Nat.reduceMul, lt_no, rowsS_len]
    refine (c_Contains _ seen n).use (wkL_cons (wk_tok ..) (wkL_refl _)) fun _ => ?_
    simp only [gwL, gwB, gwD, gwE, gwS, gwTT, gwZ, gwN, gwC, Nat.reduceEqDiff, ↓reduceIte, Nat.reduceAdd, Nat.reduceLT, Nat.reduceLeDiff, Nat.reduceMul]
    have hiff : n ∈ seen ↔ Rch (ndM M) n n := ⟨hc1 n, rch_closed hc2 hcl⟩
    refine iK_split (fun h => ?_) (fun h => ?_)
    · have hr := hiff.1 (of_decide_eq_true h)
      simp only [gwL, gwB, gwD, gwE, gwS, gwTT, gwZ, gwN, gwC, Nat.reduceEqDiff, ↓reduceIte, Nat.reduceAdd, Nat.reduceLT, Nat.reduceLeDiff, Nat.reduceMul]
      rw [hdr, cycL, if_pos hr, hex, List.append_assoc]
      exact gives_of (wk_refl _) (wkSt_refl _) (by simp [V.lt]) hst
    · have hr : ¬ Rch (ndM M) n n := fun e => of_decide_eq_false h (hiff.2 e)
      have w : IntKind.i64.wrap ((i : Int) + 1) = ((i + 1 : Nat) : Int) := next_i64 hlt (by omega)
      simp only [gwL, gwB, gwD, gwE, gwS, gwTT, gwZ, gwN, gwC, Nat.reduceEqDiff, ↓reduceIte, Nat.reduceAdd, Nat.reduceLT, Nat.reduceLeDiff, Nat.reduceMul, w, Env.keep]
      refine ⟨(i + 1, _), rfl, rfl, by simp only; omega, by simp only; omega, ⟨_, by rw [hex, List.append_assoc]⟩, ?_⟩
      rw [hdr, cycL, if_neg hr]
  · have hga : asc a M = some (ndM M a) := asc_need (by
      have := hc1 a (List.mem_of_getElem? hqg)
      cases this with
      | one h => exact hall _ _ h
      | step _ h => exact hall _ _ h)
    have hg3 : ∀ X, (S ++ X)[o]? = some (mapE V.str encS M) := fun X => by rw [st_old (by rw [hex, List.length_append]; omega), hg2]
    have hdl := ndM_len hM a
    simp only [gwL, gwB, gwD, gwE, gwS, gwTT, gwZ, gwN, gwC, Nat.reduceEqDiff, ↓reduceIte, Nat.reduceAdd, Nat.reduceLT, Nat.reduceLeDiff, Nat.reduceMul, mapLook, mapPut, mapRange, mapLen, makeMapE, keyOk, keyKind, keyGood, lookR, zeroV, entV, entS, nextV, nextS, beq_self_eq_true, cond_true, cond_false, lt_yes hqt, hg3, rowsS_getD hqg, rowsS_len, Int.toNat_natCast, hlk, hga, Int.ofNat_lt.mpr hqt, encS, List.length_map]
    refine vfor (σ := Nat × St × List Str) [0, 1, 4, 11, 12, 13, 6, 7, 8, 32, 33, 34] (fun x => [(0, true, .arr k l.length), (1, true, .map o), (4, true, .str []), (11, true, .arr k l.length), (12, true, .int .i64 l.length), (13, true, .int .i64 i), (6, true, .str n), (7, true, .lst 1 (some S.length) (rowsS x.2.2)), (8, true, .int .i64 q), (32, true, .lst 1 none (rowsS (ndM M a))), (33, true, .int .i64 (ndM M a).length), (34, true, .int .i64 x.1)]) (fun x => S ++ (Ent.tip 9 x.2.2.length :: x.2.1)) (fun x => (ndM M a).length - x.1) (fun x => x.1 ≤ (ndM M a).length ∧ leftU (needsU M) x.2.2 + x.2.2.length ≤ leftU (needsU M) seen + seen.length ∧ (∀ m ∈ x.2.2, Rch (ndM M) n m) ∧ (∀ (j : Nat) (b : Str), seen[j]? = some b → x.2.2[j]? = some b) ∧ (∀ m ∈ (ndM M a).take x.1, m ∈ x.2.2)) (0, Y, seen) rfl TT_ok ⟨Nat.zero_le _, Nat.le_refl _, hc1, fun _ _ h => h, by simp⟩ rfl rfl ?_
    rintro ⟨p, Y2, s2⟩ ⟨hp, hps, hd1, hd2, hd3⟩
    simp only at hp hps hd1 hd2 hd3 ⊢
    have hsub : ∀ m ∈ seen, m ∈ s2 := fun m hm => by
      obtain ⟨j, hj⟩ := List.getElem?_of_mem hm
      exact List.mem_of_getElem? (hd2 j m hj)
    have hql : q < s2.length := (List.getElem?_eq_some_iff.1 (hd2 q a hqg)).1
    rcases at_or_end (ndM M a) p hp with ⟨hpe, hpd⟩ | ⟨c, hpt, hpg, hpr⟩
    · have hpe2 : p = (ndM M a).length := hpe
      subst hpe2
      rw [List.take_length] at hd3
      have w : IntKind.i64.wrap ((q : Int) + 1) = ((q + 1 : Nat) : Int) := next_i64 hql (by omega)
      simp only [gwL, gwB, gwD, gwE, gwS, gwTT, gwZ, gwN, gwC, Nat.reduceEqDiff, ↓reduceIte, Nat.reduceAdd, Nat.reduceLT, Nat.reduceLeDiff, Nat.reduceMul, lt_no, w, Env.keep]
      refine ⟨(q + 1, Y2, s2), rfl, rfl, by simp only; omega, by simp only; omega, by simp only; omega, hd1, fun m hm => hsub m (hc2 m hm), fun j b hj hb m hm => ?_⟩
      simp only at hj hb ⊢
      by_cases e : j = q
      · subst e
        rw [hd2 j a hqg] at hb
        cases hb
        exact hd3 m hm
      · have hjs : j < seen.length := by omega
        have hjb := hd2 j _ (List.getElem?_eq_getElem hjs)
        rw [hjb] at hb
        cases hb
        exact hsub m (hc3 j _ (by omega) (List.getElem?_eq_getElem hjs) m hm)
    · have hcR : Rch (ndM M) n c := .step (hc1 a (List.mem_of_getElem? hqg)) (List.mem_of_getElem? hpg)
      have w : IntKind.i64.wrap ((p : Int) + 1) = ((p + 1 : Nat) : Int) := next_i64 hpt (by omega)
      have htk : (ndM M a).take (p + 1) = (ndM M a).take p ++ [c] := by rw [List.take_add_one, hpg]; rfl
      simp only [gwL, gwB, gwD, gwE, gwS, gwTT, gwZ, gwN, gwC, Nat.reduceEqDiff, ↓reduceIte, Nat.reduceAdd, Nat.reduceLT, Nat.reduceLeDiff, Nat.reduceMul, lt_yes hpt, rowsS_getD hpg, rowsS_len, Int.toNat_natCast, Int.ofNat_lt.mpr hpt]
      refine (c_Contains _ s2 c).use (wkL_cons (wk_tok ..) (wkL_refl _)) fun _ => ?_
      simp only [gwL, gwB, gwD, gwE, gwS, gwTT, gwZ, gwN, gwC, Nat.reduceEqDiff, ↓reduceIte, Nat.reduceAdd, Nat.reduceLT, Nat.reduceLeDiff, Nat.reduceMul]
      refine iK_split (fun h => ?_) (fun h => ?_)
      · have hnc : c ∉ s2 := by simpa using h
        have hle := leftU_new (ndM_mem (List.mem_of_getElem? hpg)) hnc
        simp only [gwL, gwB, gwD, gwE, gwS, gwTT, gwZ, gwN, gwC, Nat.reduceEqDiff, ↓reduceIte, Nat.reduceAdd, Nat.reduceLT, Nat.reduceLeDiff, Nat.reduceMul, w, rowsS_len, Env.keep]
        have hrs : rowsS s2 ++ [[V.str c]] = rowsS (s2 ++ [c]) := by simp [rowsS]
        have hln : (s2 ++ [c]).length = s2.length + 1 := by simp
        refine ⟨by omega, (p + 1, Y2, s2 ++ [c]), by simp only [hrs], by simp only [hln], by simp only; omega, by simp only; omega, by simp only [hln]; omega, fun m hm => ?_, fun j b hj => ?_, fun m hm => ?_⟩
        · rcases List.mem_append.1 hm with hm | hm
          · exact hd1 m hm
          · rw [List.mem_singleton] at hm; subst hm; exact hcR
        · simp only
          rw [List.getElem?_append_left (List.getElem?_eq_some_iff.1 (hd2 j b hj)).1, hd2 j b hj]
        · simp only [htk] at hm ⊢
          rcases List.mem_append.1 hm with hm | hm
          · exact List.mem_append_left _ (hd3 m hm)
          · exact List.mem_append_right _ hm
      · have hnc : c ∈ s2 := by simpa using h
        simp only [gwL, gwB, gwD, gwE, gwS, gwTT, gwZ, gwN, gwC, Nat.reduceEqDiff, ↓reduceIte, Nat.reduceAdd, Nat.reduceLT, Nat.reduceLeDiff, Nat.reduceMul, w, Env.keep]
        exact ⟨(p + 1, Y2, s2), rfl, rfl, by simp only; omega, by simp only; omega, hps, hd1, hd2, fun m hm => by
          simp only [htk] at hm
          rcases List.mem_append.1 hm with hm | hm
          · exact hd3 m hm
          · rw [List.mem_singleton] at hm; subst hm; exact hnc⟩
end Go.Proofs.Ytcegdbniggdckaa.Gx

namespace Go.Proofs.Ytcegdbniggdckaa.Gx
open Go Go.Proofs.Ytcegdbniggdckaa.Gw
set_option linter.unusedSimpArgs false
set_option linter.unusedVariables false

def sortS (l : List Str) : List Str := l.mergeSort fun x y => decide (x ≤ y)
theorem sortS_perm (l : List Str) : (sortS l).Perm l := List.mergeSort_perm l _
theorem sortS_sorted (l : List Str) : (sortS l).Pairwise (· ≤ ·) := by
  have := List.pairwise_mergeSort (le := fun x y : Str => decide (x ≤ y)) (fun a b c h1 h2 => by
    simp only [decide_eq_true_eq] at *; exact List.le_trans h1 h2) (fun a b => by
    simp only [Bool.or_eq_true, decide_eq_true_eq]; exact List.le_total a b) l
  exact this.imp fun h => by simpa using h
theorem sorted_eq {l m : List Str} (h1 : l.Pairwise (· ≤ ·)) (h2 : m.Pairwise (· ≤ ·)) (h : l.Perm m) : l = m :=
  h.eq_of_pairwise (fun a b _ _ h1 h2 => List.le_antisymm h1 h2) h1 h2
theorem sortS_eq {l m : List Str} (h : l.Perm m) : sortS l = sortS m :=
  sorted_eq (sortS_sorted l) (sortS_sorted m) ((sortS_perm l).trans (h.trans (sortS_perm m).symm))
theorem seen_len {seen : List Nat} {n : Nat} (h1 : seen.Nodup) (h2 : ∀ i ∈ seen, i < n) : seen.length ≤ n := by
  have := h1.length_le_of_subset (l₂ := List.range n) fun i hi => List.mem_range.2 (h2 i hi)
  simpa using this
theorem seen_perm {seen : List Nat} {n : Nat} (h1 : seen.Nodup) (h2 : ∀ i ∈ seen, i < n) (h3 : ∀ i, i < n → i ∈ seen) : seen.Perm (List.range n) := by
  rw [List.perm_iff_count]
  intro a
  rw [h1.count, List.nodup_range.count]
  by_cases h : a ∈ seen
  · rw [if_pos h, if_pos (List.mem_range.2 (h2 a h))]
  · rw [if_neg h, if_neg (fun e => h (h3 a (List.mem_range.1 e)))]
theorem map_getD_range {α β : Type} (f : α → β) (d : α) : ∀ l : List α, (List.range l.length).map (fun i => f (l.getD i d)) = l.map f := by
  intro l
  apply List.ext_getElem?
  intro i
  by_cases h : i < l.length
  · simp [List.getElem?_map, List.getElem?_range h, List.getElem?_eq_getElem h]
  · simp [List.getElem?_eq_none (Nat.le_of_not_lt h), List.getElem?_eq_none (show (List.range l.length).length ≤ i by simp; omega)]
theorem idxF_at (p : Str → Bool) : ∀ (l : List Str) (i : Nat), idxF p i l < 0 ∧ (∀ a ∈ l, p a = false) ∨ ∃ (j : Nat) (a : Str), idxF p i l = ((i + j : Nat) : Int) ∧ j < l.length ∧ l[j]? = some a ∧ p a = true ∧ ∀ b ∈ l.take j, p b = false
  | [], i => .inl ⟨by simp [idxF], by simp⟩
  | x :: r, i => by
    cases h : p x with
    | true => exact .inr ⟨0, x, by simp [idxF, h], by simp, rfl, h, by simp⟩
    | false =>
      rw [idxF, h]
      simp only [cond_false]
      rcases idxF_at p r (i + 1) with ⟨h1, h2⟩ | ⟨j, a, h1, h2, h3, h4, h5⟩
      · exact .inl ⟨h1, fun a ha => by
          rcases List.mem_cons.1 ha with rfl | ha
          · exact h
          · exact h2 a ha⟩
      · refine .inr ⟨j + 1, a, by rw [h1]; congr 1; omega, by simp; omega, by simpa using h3, h4, fun b hb => ?_⟩
        rw [List.take_succ_cons] at hb
        rcases List.mem_cons.1 hb with rfl | hb
        · exact h
        · exact h5 b hb
theorem asc_ups {κ α : Type} [DecidableEq κ] (s t : κ) (a : α) : ∀ l : List (κ × α), asc t (ups s a l) = if t = s then some a else asc t l
  | [] => by
    simp only [ups, asc]
  | (k, b) :: r => by
    simp only [ups]
    by_cases h : s = k
    · subst h
      simp only [if_true, asc]
      by_cases h2 : t = s <;> simp [h2]
    · rw [if_neg h]
      simp only [asc]
      by_cases h2 : t = k
      · subst h2
        rw [if_pos rfl, if_neg (fun e => h e.symm), if_pos rfl]
      · rw [if_neg h2, if_neg h2]
        exact asc_ups s t a r
theorem ups_new {κ α : Type} [DecidableEq κ] {s : κ} {a : α} : ∀ {l : List (κ × α)}, asc s l = none → ups s a l = l ++ [(s, a)]
  | [], _ => rfl
  | (k, b) :: r, h => by
    simp only [asc] at h
    by_cases e : s = k
    · rw [if_pos e] at h; cases h
    · rw [if_neg e] at h
      simp only [ups, if_neg e, ups_new h, List.cons_append]
theorem asc_keys {κ α : Type} [DecidableEq κ] {s : κ} {l : List (κ × α)} : (asc s l).isSome = true ↔ s ∈ l.map (·.1) := by
  rw [asc_mem, decide_eq_true_iff]
end Go.Proofs.Ytcegdbniggdckaa.Gx

namespace Go.Proofs.Ytcegdbniggdckaa.Gx
open Go Go.Proofs.Ytcegdbniggdckaa.Gw
set_option linter.unusedSimpArgs false
set_option linter.unusedVariables false

structure Node' where
  name : Str
  needs : List Str
def encN (n : Node') : List V := [.str n.name, encS n.needs]
def lstN (l : List Node') : V := .lst 2 none (l.map encN)
/-- What nodes need, by name; or a name that comes twice. -/
def dupL : List Node' → NM → Option Str × NM
  | [], M => (none, M)
  | n :: r, M => if (asc n.name M).isSome = true then (some n.name, M) else dupL r (ups n.name n.needs M)
def missL (M : NM) : List Str → Option Str
  | [] => none
  | n :: r => if ((ndM M n).any fun m => !(asc m M).isSome) = true then some n else missL M r
def pickL (f : Str → List Str) (l : List Str) : Int := idxF (fun n => !((f n).any fun m => decide (m ∈ l))) 0 l
noncomputable def putL (f : Str → List Str) : Nat → List Str → List Str → List Str × Str × Int
  | 0, _, out => (out, [], 0)
  | k + 1, left, out =>
    if left = [] then (out, [], 0) else
    if pickL f left < 0 then ([], cycL f left, 9) else
    putL f k (left.take (pickL f left).toNat ++ left.drop ((pickL f left).toNat + 1)) (out ++ [left.getD (pickL f left).toNat []])
noncomputable def orderL (l : List Node') : List Str × Str × Int :=
  match (dupL l []).1 with
  | some n => ([], n, 8)
  | none => match missL (dupL l []).2 (sortS ((dupL l []).2.map (·.1))) with
    | some n => ([], n, 6)
    | none => putL (ndM (dupL l []).2) (sortS ((dupL l []).2.map (·.1))).length (sortS ((dupL l []).2.map (·.1))) []
def ordV (r : List Str × Str × Int) : V := .tup [encS r.1, .str r.2.1, .int .i64 r.2.2]
structure NOk (l : List Node') : Prop where
  few : l.length ≤ 1048576
  len : ∀ n ∈ l, n.needs.length ≤ 1048576
theorem encN_mk (a : Str) (b : List Str) : encN ⟨a, b⟩ = [.str a, encS b] := rfl
theorem missL_none {M : NM} : ∀ {l : List Str}, missL M l = none → ∀ n ∈ l, ∀ m ∈ ndM M n, (asc m M).isSome = true
  | [], _, n, hn => by simp at hn
  | x :: r, h, n, hn => by
    rw [missL] at h
    split at h
    · cases h
    · rename_i hx
      rcases List.mem_cons.1 hn with rfl | hn
      · intro m hm
        simp only [List.any_eq_true, not_exists, not_and, Bool.not_eq_true'] at hx
        have := hx m hm
        cases e : asc m M with
        | none => rw [e] at this; exact absurd rfl this
        | some v => rfl
      · exact missL_none h n hn
theorem ndM_none {M : NM} {n : Str} (h : asc n M = none) : ndM M n = [] := by unfold ndM; rw [h]; rfl
set_option maxRecDepth 20000 in
set_option maxHeartbeats 16000000 in
theorem c_Order (l : List Node') (st : St) (hN : NOk l) : VCalls Try.prog TT 8 [lstN l] st fun r st' => r = .ret (ordV (orderL l)) ∧ st' = st := by
  refine vfun TT_ok (an := anL [(39, 2)]) (L := [0, 2, 3, 4, 5, 7, 9, 10, 11, 13, 14, 15, 17, 18, 19, 41, 52, 53, 54]) (rs := [.tmp 2, .tmp 3, .tmp 4]) Try.func8 rfl (by kernel_rfl) rfl Try.ntmps8 rfl rfl (Nat.le_refl _) fun hst ha hf => ?_
  generalize hr : orderL l = res
  have hfew := hN.few
  simp only [lstN, fitL, V.fit, List.length_map] at hf ⊢
  simp only [gwL, gwB, gwD, gwE, gwS, gwTT, gwZ, gwN, gwC, Nat.reduceEqDiff, ↓reduceIte, Nat.reduceAdd, Nat.reduceLT, Nat.reduceLeDiff, Nat.reduceMul, mapLook, mapPut, mapRange, mapLen, makeMapE, keyOk, keyKind, keyGood, lookR, zeroV, entV, entS, nextV, nextS, beq_self_eq_true, cond_true, cond_false, List.length_map]
  have give : ∀ (v : V) (a : List Str) (b : Str) (e : Int) (ex : St), res = (a, b, e) → wk v (encS a) → Gives (ordV res) st (.ret (.tup [v, .str b, .int .i64 e])) (st ++ ex) := fun v a b e ex h hw => by
    rw [h]
    refine gives_of (wk_tup (wkL_cons hw (wkL_refl _))) (wkSt_refl _) ?_ hst
    simp only [ordV, encS, V.lt, ltL, and_true, true_and]
    exact ⟨fun e h => (by cases h), ltRows_map fun x _ => ⟨trivial, trivial⟩⟩
  refine vfor (σ := Nat × NM × St) [0, 2, 3, 4, 5, 17, 18, 19] (fun x => [(0, true, .lst 2 none (l.map encN)), (2, true, .nils), (3, true, .str []), (4, true, .int .i64 0), (5, true, .ptr (st.length + 1) 0), (17, true, .lst 2 none (l.map encN)), (18, true, .int .i64 l.length), (19, true, .int .i64 x.1)]) (fun x => st ++ (mapE V.str encS x.2.1 :: Ent.box [.map st.length] :: x.2.2)) (fun x => l.length - x.1) (fun x => x.1 ≤ l.length ∧ dupL l [] = dupL (l.drop x.1) x.2.1 ∧ x.2.1.length ≤ x.1 ∧ ∀ p ∈ x.2.1, p.2.length ≤ 1048576) (0, [], []) rfl TT_ok ⟨Nat.zero_le _, rfl, Nat.le_refl _, by simp⟩ rfl rfl ?_
  rintro ⟨i, M, Y⟩ ⟨hi, hx, hMl, hMn⟩
  simp only at hi hx hMl hMn ⊢
  have hlk := fun (i : TI) (ok : Bool) (st : St) (n : Str) (M : NM) => look_mapE (ev := encS) (keyP_str TT) i ok n st M
  have hpt := fun (o : Nat) (n : Str) (a : List Str) (st : St) (M : NM) => put_mapE (ev := encS) (keyP_str TT) o n a st M
  rcases at_or_end l i hi with ⟨hie, hd⟩ | ⟨u, hlt, hget, hdr⟩
  · have hie2 : i = l.length := hie
    subst hie2
    rw [hd, dupL] at hx
    obtain ⟨S1, hS1⟩ : ∃ S1 : St, S1 = st ++ (mapE V.str encS M :: Ent.box [.map st.length] :: Y) := ⟨_, rfl⟩
    have hm0 : ∀ X : St, (S1 ++ X)[st.length]? = some (mapE V.str encS M) := fun X => by rw [hS1, List.append_assoc, List.getElem?_append_right (by omega)]; simp
    have hm1 : ∀ X : St, (S1 ++ X)[st.length + 1]? = some (.box [.map st.length]) := fun X => by rw [hS1, List.append_assoc, List.getElem?_append_right (by omega)]; simp
    rw [← hS1]
    have hm00 := hm0 []
    have hm10 := hm1 []
    rw [List.append_nil] at hm00 hm10
    have hrm := fun (st1 : St) => range_mapE (ek := V.str) (ev := encS) st.length st1 M
    simp only [gwL, gwB, gwD, gwE, gwS, gwTT, gwZ, gwN, gwC, Nat.reduceEqDiff, ↓reduceIte, Nat.reduceAdd, Nat.reduceLT, Nat.reduceLeDiff, Nat.reduceMul, mapLook, mapPut, mapRange, mapLen, makeMapE, keyOk, keyKind, keyGood, lookR, zeroV, entV, entS, nextV, nextS, beq_self_eq_true, cond_true, cond_false, lt_no, hm00, hm10, hm1, hm0, hrm]
    clear hm00 hm10
    refine vfor (σ := List Nat × List Str × St) [0, 2, 3, 4, 5, 17, 18, 19, 10, 41] (fun x => [(0, true, .lst 2 none (l.map encN)), (2, true, .nils), (3, true, .str []), (4, true, .int .i64 0), (5, true, .ptr (st.length + 1) 0), (17, true, .lst 2 none (l.map encN)), (18, true, .int .i64 l.length), (19, true, .int .i64 l.length), (10, true, .ptr (S1.length + 1) 0), (41, true, .ptr (S1.length + 2) 0)]) (fun x => S1 ++ (Ent.arr 9 1 (rowsS x.2.1) :: Ent.box [.arr S1.length x.2.1.length] :: Ent.iter st.length M.length x.1 :: x.2.2)) (fun x => M.length - x.1.length) (fun x => x.1.Nodup ∧ (∀ i ∈ x.1, i < M.length) ∧ x.2.1 = x.1.map fun i => (M.getD i ([], [])).1) ([], [], []) rfl TT_ok ⟨List.nodup_nil, by simp, rfl⟩ rfl rfl ?_
    rintro ⟨seen, nms, Z⟩ ⟨hs1, hs2, hs3⟩
    simp only at hs1 hs2 hs3 ⊢
    have hnx := fun (o : Nat) (st1 : St) => next_mapE (ek := V.str) (ev := encS) o st.length seen st1 M
    simp only [gwL, gwB, gwD, gwE, gwS, gwTT, gwZ, gwN, gwC, Nat.reduceEqDiff, ↓reduceIte, Nat.reduceAdd, Nat.reduceLT, Nat.reduceLeDiff, Nat.reduceMul, mapLook, mapPut, mapRange, mapLen, makeMapE, keyOk, keyKind, keyGood, lookR, zeroV, entV, entS, nextV, nextS, beq_self_eq_true, cond_true, cond_false, hm0, hnx]
    refine nextL_all (fun hend => ?_) (fun e a hia hil his => ?_)
    · have hperm : nms.Perm (M.map (·.1)) := by
        rw [hs3, ← map_getD_range (fun p : Str × List Str => p.1) ([], []) M]
        exact (seen_perm hs1 hs2 hend).map _
      have hnl : nms.length = M.length := by rw [hperm.length_eq, List.length_map]
      simp only [gwL, gwB, gwD, gwE, gwS, gwTT, gwZ, gwN, gwC, Nat.reduceEqDiff, ↓reduceIte, Nat.reduceAdd, Nat.reduceLT, Nat.reduceLeDiff, Nat.reduceMul, mapLook, mapPut, mapRange, mapLen, makeMapE, keyOk, keyKind, keyGood, lookR, zeroV, entV, entS, nextV, nextS, beq_self_eq_true, cond_true, cond_false]
      refine (c_SortS nms S1.length _ (by simp) (by omega)).use (wkL_refl _) fun _ => ?_
      obtain ⟨left, hleft⟩ : ∃ left, left = nms.mergeSort fun x y => decide (x ≤ y) := ⟨_, rfl⟩
      have hleft2 : left = sortS (M.map (·.1)) := by rw [hleft]; exact sortS_eq hperm
      have hll : nms.length = left.length := by rw [hleft]; simp
      rw [← hleft, hll]
      clear hs1 hs2 hs3 hnx hend
      simp only [gwL, gwB, gwD, gwE, gwS, gwTT, gwZ, gwN, gwC, Nat.reduceEqDiff, ↓reduceIte, Nat.reduceAdd, Nat.reduceLT, Nat.reduceLeDiff, Nat.reduceMul, mapLook, mapPut, mapRange, mapLen, makeMapE, keyOk, keyKind, keyGood, lookR, zeroV, entV, entS, nextV, nextS, beq_self_eq_true, cond_true, cond_false, rowsS_len]
      have hlM : left.length = M.length := by rw [hleft2, (sortS_perm _).length_eq, List.length_map]
      have hkeys : ∀ n ∈ left, (asc n M).isSome = true := fun n hn => asc_keys.2 ((sortS_perm _).mem_iff.1 (by rw [← hleft2]; exact hn))
      clear hleft hll hnl hperm hrm
      obtain ⟨S2, hS2⟩ : ∃ S2 : St, S2 = S1 ++ (Ent.arr 9 1 (rowsS left) :: Ent.box [.arr S1.length left.length] :: Ent.iter st.length M.length seen :: Z) := ⟨_, rfl⟩
      rw [← hS2]
      have hA : S2[S1.length]? = some (.arr 9 1 (rowsS left)) := by rw [hS2]; simp
      have hB : S2[S1.length + 1]? = some (.box [.arr S1.length left.length]) := by rw [hS2]; simp
      have hC : S2[st.length]? = some (mapE V.str encS M) := by rw [hS2]; exact hm0 _
      have hD : S2[st.length + 1]? = some (.box [.map st.length]) := by rw [hS2]; exact hm1 _
      refine vfor (σ := Nat) [0, 2, 3, 4, 5, 17, 18, 19, 10, 41, 52, 53, 54] (fun i => [(0, true, .lst 2 none (l.map encN)), (2, true, .nils), (3, true, .str []), (4, true, .int .i64 0), (5, true, .ptr (st.length + 1) 0), (17, true, .lst 2 none (l.map encN)), (18, true, .int .i64 l.length), (19, true, .int .i64 l.length), (10, true, .ptr (S1.length + 1) 0), (41, true, .ptr (S1.length + 2) 0), (52, true, .arr S1.length left.length), (53, true, .int .i64 left.length), (54, true, .int .i64 i)]) (fun i => S2) (fun i => left.length - i) (fun i => i ≤ left.length ∧ missL M left = missL M (left.drop i)) 0 rfl TT_ok ⟨Nat.zero_le _, rfl⟩ rfl rfl ?_
      rintro i ⟨hi, hmi⟩
      rcases at_or_end left i hi with ⟨hie, hd⟩ | ⟨n, hlt, hget, hdr⟩
      · have hie2 : i = left.length := hie
        subst hie2
        rw [hd, missL] at hmi
        simp only [gwL, gwB, gwD, gwE, gwS, gwTT, gwZ, gwN, gwC, Nat.reduceEqDiff, ↓reduceIte, Nat.reduceAdd, Nat.reduceLT, Nat.reduceLeDiff, Nat.reduceMul, mapLook, mapPut, mapRange, mapLen, makeMapE, keyOk, keyKind, keyGood, lookR, zeroV, entV, entS, nextV, nextS, beq_self_eq_true, cond_true, cond_false, lt_no]
        have hMok : MOk M := ⟨by omega, hMn⟩
        have hall : ∀ n m, m ∈ ndM M n → (asc m M).isSome = true := fun n m hm => by
          cases hno : asc n M with
          | none => rw [ndM_none hno] at hm; simp at hm
          | some v =>
            have hk : n ∈ left := by rw [hleft2]; exact (sortS_perm _).mem_iff.2 (asc_keys.1 (by rw [hno]; rfl))
            exact missL_none hmi n hk m hm
        have hres : res = putL (ndM M) left.length left [] := by rw [← hr, orderL, hx]; simp only [← hleft2, hmi]
        refine vmore [9] [2, 3, 4, 5, 10, 14] [(2, true, .nils), (3, true, .str []), (4, true, .int .i64 0), (5, true, .ptr (st.length + 1) 0), (10, true, .ptr (S1.length + 1) 0), (14, true, .lst 1 (some S2.length) [])] (S2 ++ [Ent.tip 9 0]) rfl ?_ ?_ ?_
        · simp only [gwL, gwB, gwD, gwE, gwS, gwTT, gwZ, gwN, gwC, Nat.reduceEqDiff, ↓reduceIte, Nat.reduceAdd, Nat.reduceLT, Nat.reduceLeDiff, Nat.reduceMul, Env.keep]
          exact wkE_cons (wk_refl _) (wkE_cons (wk_refl _) (wkE_cons (wk_refl _) (wkE_cons (wk_refl _) (wkE_cons (wk_refl _) (wkE_cons (wk_tip _ (by simp [Tips])) wkE_nil)))))
        · exact ⟨_, wkSt_refl _, rfl⟩
        have hS2l : S1.length + 2 < S2.length := by rw [hS2]; simp
        refine vfor (σ := List Str × List Str × Nat × St) [2, 3, 4, 5, 10, 14] (fun x => [(2, true, .nils), (3, true, .str []), (4, true, .int .i64 0), (5, true, .ptr (st.length + 1) 0), (10, true, .ptr (S1.length + 1) 0), (14, true, .lst 1 (some S2.length) (rowsS x.2.1))]) (fun x => x.2.2.2) (fun x => x.1.length) (fun x => (∃ X, x.2.2.2 = S1 ++ X) ∧ x.2.2.2[S1.length + 1]? = some (.box [.arr x.2.2.1 x.1.length]) ∧ x.2.2.2[x.2.2.1]? = some (.arr 9 1 (rowsS x.1)) ∧ x.2.2.2[S2.length]? = some (.tip 9 x.2.1.length) ∧ S1.length ≤ x.2.2.1 ∧ x.1.length + x.2.1.length = M.length ∧ (∀ n ∈ x.1, (asc n M).isSome = true) ∧ res = putL (ndM M) x.1.length x.1 x.2.1) (left, [], S1.length, S2 ++ [Ent.tip 9 0]) rfl TT_ok ⟨⟨_, by rw [hS2, List.append_assoc]⟩, by show (S2 ++ [Ent.tip 9 0])[S1.length + 1]? = _; rw [st_old (by omega), hB], by show (S2 ++ [Ent.tip 9 0])[S1.length]? = _; rw [st_old (by omega), hA], by simp, Nat.le_refl _, by simp [hlM], hkeys, hres⟩ rfl rfl ?_
        rintro ⟨lf, out, kk, S⟩ ⟨⟨X, hX⟩, hSb, hSk, hSt, hkk, hsum, hin, hput⟩
        simp only at hX hSb hSk hSt hkk hsum hin hput ⊢
        have hSC : S[st.length]? = some (mapE V.str encS M) := by rw [hX]; exact hm0 _
        have hSD : S[st.length + 1]? = some (.box [.map st.length]) := by rw [hX]; exact hm1 _
        have hpre : ∃ Z, S = st ++ Z := ⟨_, by rw [hX, hS1, List.append_assoc]⟩
        by_cases hz : lf = []
        · subst hz
          have d0 : decide ((0 : Int) < ((0 : Nat) : Int)) = false := rfl
          simp only [gwL, gwB, gwD, gwE, gwS, gwTT, gwZ, gwN, gwC, Nat.reduceEqDiff, ↓reduceIte, Nat.reduceAdd, Nat.reduceLT, Nat.reduceLeDiff, Nat.reduceMul, mapLook, mapPut, mapRange, mapLen, makeMapE, keyOk, keyKind, keyGood, lookR, zeroV, entV, entS, nextV, nextS, beq_self_eq_true, cond_true, cond_false, hSb, d0]
          obtain ⟨Z', hZ'⟩ := hpre
          rw [hZ']
          exact give _ out _ _ _ hput (wk_tok ..)
        · have hpos : 0 < lf.length := List.length_pos_iff.2 hz
          have d0 : decide ((0 : Int) < (lf.length : Int)) = true := by simp; omega
          simp only [gwL, gwB, gwD, gwE, gwS, gwTT, gwZ, gwN, gwC, Nat.reduceEqDiff, ↓reduceIte, Nat.reduceAdd, Nat.reduceLT, Nat.reduceLeDiff, Nat.reduceMul, mapLook, mapPut, mapRange, mapLen, makeMapE, keyOk, keyKind, keyGood, lookR, zeroV, entV, entS, nextV, nextS, beq_self_eq_true, cond_true, cond_false, hSb, d0]
          refine (c_IndexFuncA S kk lf hSk (by omega) 17 [.ptr (st.length + 1) 0, .ptr (S1.length + 1) 0] (fun n => !((ndM M n).any fun m => decide (m ∈ lf))) fun n _ => c_Order2 S (st.length + 1) st.length M (S1.length + 1) kk lf n hSD hSC hSb hSk (by omega)).use (wkL_refl _) fun _ => ?_
          rw [show lf.length = (lf.length - 1) + 1 by omega, putL, if_neg hz] at hput
          rcases idxF_at (fun n => !((ndM M n).any fun m => decide (m ∈ lf))) lf 0 with ⟨hneg, -⟩ | ⟨j, a, hj1, hj2, hj3, -, -⟩
          · have hpk : pickL (ndM M) lf < 0 := hneg
            rw [if_pos hpk] at hput
            have d1 : decide (idxF (fun n => !((ndM M n).any fun m => decide (m ∈ lf))) 0 lf < 0) = true := decide_eq_true hneg
            simp only [gwL, gwB, gwD, gwE, gwS, gwTT, gwZ, gwN, gwC, Nat.reduceEqDiff, ↓reduceIte, Nat.reduceAdd, Nat.reduceLT, Nat.reduceLeDiff, Nat.reduceMul, mapLook, mapPut, mapRange, mapLen, makeMapE, keyOk, keyKind, keyGood, lookR, zeroV, entV, entS, nextV, nextS, beq_self_eq_true, cond_true, cond_false, hSb, hSD, d1]
            refine (c_cycle S kk st.length lf M hSk hSC (by omega) hMok hin hall).use (wkL_refl _) fun _ => ?_
            simp only [gwL, gwB, gwD, gwE, gwS, gwTT, gwZ, gwN, gwC, Nat.reduceEqDiff, ↓reduceIte, Nat.reduceAdd, Nat.reduceLT, Nat.reduceLeDiff, Nat.reduceMul]
            obtain ⟨Z', hZ'⟩ := hpre
            rw [hZ']
            exact give _ [] _ _ _ hput (wk_nils 1)
          · rw [Nat.zero_add] at hj1
            have hpk : pickL (ndM M) lf = (j : Int) := hj1
            rw [hpk, if_neg (by omega), Int.toNat_natCast] at hput
            have d1 : decide ((j : Int) < 0) = false := by simp
            have w : IntKind.i64.wrap ((j : Int) + 1) = ((j + 1 : Nat) : Int) := next_i64 hj2 (by omega)
            rw [hj1]
            have hne : kk ≠ S2.length := fun e => by rw [e, hSt] at hSk; cases hSk
            have hn1 : kk ≠ S1.length + 1 := fun e => by rw [e, hSb] at hSk; cases hSk
            have hl1 := (List.getElem?_eq_some_iff.1 hSb).1
            have hl2 := (List.getElem?_eq_some_iff.1 hSt).1
            have hl3 := (List.getElem?_eq_some_iff.1 hSk).1
            have hq1 : ∀ e : Ent, (S.set S2.length e)[S1.length + 1]? = some (.box [.arr kk lf.length]) := fun e => by rw [List.getElem?_set_ne (by omega), hSb]
            have hq2 : ∀ e : Ent, (S.set S2.length e)[kk]? = some (.arr 9 1 (rowsS lf)) := fun e => by rw [List.getElem?_set_ne (by omega), hSk]
            simp only [gwL, gwB, gwD, gwE, gwS, gwTT, gwZ, gwN, gwC, Nat.reduceEqDiff, ↓reduceIte, Nat.reduceAdd, Nat.reduceLT, Nat.reduceLeDiff, Nat.reduceMul, mapLook, mapPut, mapRange, mapLen, makeMapE, keyOk, keyKind, keyGood, lookR, zeroV, entV, entS, nextV, nextS, beq_self_eq_true, cond_true, cond_false, hSb, hSk, d1, rowsS_getD hj3, rowsS_len, Int.toNat_natCast, hSt, w, hq1]
            refine ⟨by omega, hj2, by omega, ?_⟩
            refine (c_DeleteS lf kk j _ (hq2 _) hj2).use (wkL_refl _) fun _ => ?_
            have hrs : rowsS out ++ [[V.str a]] = rowsS (out ++ [a]) := by simp [rowsS]
            have hln : (out ++ [a]).length = out.length + 1 := by simp
            have hlf : (lf.take j ++ lf.drop (j + 1)).length = lf.length - 1 := by simp; omega
            obtain ⟨S4, hS4⟩ : ∃ S4 : St, S4 = ((S.set S2.length (Ent.tip 9 (out.length + 1))).set kk .gone ++ [Ent.arr 9 1 (rowsS (lf.take j ++ lf.drop (j + 1)))]) := ⟨_, rfl⟩
            rw [← hS4]
            have hS4l : S4.length = S.length + 1 := by rw [hS4]; simp
            have hS4b : S4[S1.length + 1]? = some (.box [.arr kk lf.length]) := by rw [hS4, st_old (by simp; omega), List.getElem?_set_ne (by omega), hq1]
            have hS4t : S4[S2.length]? = some (.tip 9 (out.length + 1)) := by rw [hS4, st_old (by simp; omega), List.getElem?_set_ne (by omega), List.getElem?_set_self hl2]
            have hS4k : S4[S.length]? = some (.arr 9 1 (rowsS (lf.take j ++ lf.drop (j + 1)))) := by rw [hS4, List.getElem?_append_right (by simp)]; simp
            have hS4p : ∃ X, S4 = S1 ++ X := ⟨_, by rw [hS4, hX, List.set_append_right _ _ (by omega), List.set_append_right _ _ (by omega), List.append_assoc]⟩
            clear hS4
            simp only [gwL, gwB, gwD, gwE, gwS, gwTT, gwZ, gwN, gwC, Nat.reduceEqDiff, ↓reduceIte, Nat.reduceAdd, Nat.reduceLT, Nat.reduceLeDiff, Nat.reduceMul, mapLook, mapPut, mapRange, mapLen, makeMapE, keyOk, keyKind, keyGood, lookR, zeroV, entV, entS, nextV, nextS, beq_self_eq_true, cond_true, cond_false, hS4b, List.length_set, Env.keep]
            obtain ⟨X4, hX4⟩ := hS4p
            refine ⟨(lf.take j ++ lf.drop (j + 1), out ++ [a], S.length, _), by simp only [hrs], rfl, by simp only [hlf]; omega, ⟨_, by simp only; rw [hX4, List.set_append_right _ _ (by omega)]⟩, ?_, ?_, ?_, by simp only; omega, by simp only [hlf, hln]; omega, fun n hn => ?_, ?_⟩
            · simp only [hlf]; rw [List.getElem?_set_self (by omega)]
            · simp only; rw [List.getElem?_set_ne (by omega), hS4k]
            · simp only [hln]; rw [List.getElem?_set_ne (by omega), hS4t]
            · rcases List.mem_append.1 hn with hn | hn
              · exact hin n (List.mem_of_mem_take hn)
              · exact hin n (List.mem_of_mem_drop hn)
            · simp only [hlf]
              rw [hput, List.getD_eq_getElem?_getD, hj3]; rfl
      · have w : IntKind.i64.wrap ((i : Int) + 1) = ((i + 1 : Nat) : Int) := next_i64 hlt (by omega)
        have hnn := asc_need (hkeys n (List.mem_of_getElem? hget))
        rw [hdr, missL] at hmi
        simp only [gwL, gwB, gwD, gwE, gwS, gwTT, gwZ, gwN, gwC, Nat.reduceEqDiff, ↓reduceIte, Nat.reduceAdd, Nat.reduceLT, Nat.reduceLeDiff, Nat.reduceMul, mapLook, mapPut, mapRange, mapLen, makeMapE, keyOk, keyKind, keyGood, lookR, zeroV, entV, entS, nextV, nextS, beq_self_eq_true, cond_true, cond_false, lt_yes hlt, hA, hB, hC, hD, rowsS_getD hget, rowsS_len, Int.toNat_natCast, hlk, hnn, Int.ofNat_lt.mpr hlt]
        refine ⟨hlt, ?_⟩
        refine (c_ContainsFunc S2 (ndM M n) 15 [.ptr (st.length + 1) 0] (fun m => !(asc m M).isSome) fun m _ => c_Order1 S2 (st.length + 1) st.length M m hD hC).use (wkL_refl _) fun _ => ?_
        simp only [gwL, gwB, gwD, gwE, gwS, gwTT, gwZ, gwN, gwC, Nat.reduceEqDiff, ↓reduceIte, Nat.reduceAdd, Nat.reduceLT, Nat.reduceLeDiff, Nat.reduceMul]
        refine iK_split (fun h1 => ?_) (fun h1 => ?_)
        · rw [if_pos h1] at hmi
          simp only [gwL, gwB, gwD, gwE, gwS, gwTT, gwZ, gwN, gwC, Nat.reduceEqDiff, ↓reduceIte, Nat.reduceAdd, Nat.reduceLT, Nat.reduceLeDiff, Nat.reduceMul]
          rw [hS2, hS1, List.append_assoc]
          exact give _ [] _ _ _ (by rw [← hr, orderL, hx]; simp only [← hleft2, hmi]) (wk_nils 1)
        · rw [if_neg (by rw [h1]; simp)] at hmi
          simp only [gwL, gwB, gwD, gwE, gwS, gwTT, gwZ, gwN, gwC, Nat.reduceEqDiff, ↓reduceIte, Nat.reduceAdd, Nat.reduceLT, Nat.reduceLeDiff, Nat.reduceMul, w, Env.keep]
          exact ⟨i + 1, rfl, by omega, by omega, hmi⟩
    · have hent := fun (st1 : St) => ent_mapE (ek := V.str) (ev := encS) (seen := seen) (st := st1) hia
      simp only [gwL, gwB, gwD, gwE, gwS, gwTT, gwZ, gwN, gwC, Nat.reduceEqDiff, ↓reduceIte, Nat.reduceAdd, Nat.reduceLT, Nat.reduceLeDiff, Nat.reduceMul, mapLook, mapPut, mapRange, mapLen, makeMapE, keyOk, keyKind, keyGood, lookR, zeroV, entV, entS, nextV, nextS, beq_self_eq_true, cond_true, cond_false, hm0, hent, rowsS_len, Env.keep]
      have hnl : nms.length = seen.length := by rw [hs3, List.length_map]
      have hnd : (seen ++ [e]).Nodup := List.nodup_append.2 ⟨hs1, by simp, fun a ha b hb => by rw [List.mem_singleton] at hb; subst hb; intro e'; subst e'; exact his ha⟩
      have hlt2 : ∀ i ∈ seen ++ [e], i < M.length := fun i hi => by
        rcases List.mem_append.1 hi with hi | hi
        · exact hs2 i hi
        · rw [List.mem_singleton] at hi; rw [hi]; exact hil
      have hsl := seen_len hnd hlt2
      rw [List.length_append] at hsl
      simp only [List.length_cons, List.length_nil] at hsl
      have hrs : rowsS nms ++ [[V.str a.1]] = rowsS (nms ++ [a.1]) := by simp [rowsS]
      have hln : (nms ++ [a.1]).length = nms.length + 1 := by simp
      exact ⟨by omega, (seen ++ [e], nms ++ [a.1], Z), by simp only [hrs, hln], by simp only [List.length_append, List.length_cons, List.length_nil]; omega, hnd, hlt2, by simp only [List.map_append, hs3, List.map_cons, List.map_nil, List.getD_eq_getElem?_getD, hia, Option.getD_some]⟩
  · have hg : (l.map encN).getD i [] = encN u := getD_map hget
    have w : IntKind.i64.wrap ((i : Int) + 1) = ((i + 1 : Nat) : Int) := next_i64 hlt (by omega)
    obtain ⟨un, us⟩ := u
    rw [hdr, dupL] at hx
    simp only at hx
    simp only [gwL, gwB, gwD, gwE, gwS, gwTT, gwZ, gwN, gwC, Nat.reduceEqDiff, ↓reduceIte, Nat.reduceAdd, Nat.reduceLT, Nat.reduceLeDiff, Nat.reduceMul, mapLook, mapPut, mapRange, mapLen, makeMapE, keyOk, keyKind, keyGood, lookR, zeroV, entV, entS, nextV, nextS, beq_self_eq_true, cond_true, cond_false, lt_yes hlt, hg, encN_mk, List.length_map, Int.ofNat_lt.mpr hlt, Int.toNat_natCast, hlk]
    refine iK_split (fun h1 => ?_) (fun h1 => ?_)
    · rw [if_pos h1] at hx
      simp only [gwL, gwB, gwD, gwE, gwS, gwTT, gwZ, gwN, gwC, Nat.reduceEqDiff, ↓reduceIte, Nat.reduceAdd, Nat.reduceLT, Nat.reduceLeDiff, Nat.reduceMul]
      refine vdraw TT_ok TT_mixed [0, 1, 0, 0, 0] (by kernel_rfl) ?_
      simp only [gwL, gwB, gwD, gwE, gwS, gwTT, gwZ, gwN, gwC, Nat.reduceEqDiff, ↓reduceIte, Nat.reduceAdd, Nat.reduceLT, Nat.reduceLeDiff, Nat.reduceMul]
      exact give _ [] _ _ _ (by rw [← hr, orderL, hx]) (wk_nils 1)
    · rw [if_neg (by rw [h1]; simp)] at hx
      have hno : asc un M = none := by cases h : asc un M with
                                       | none => rfl
                                       | some v => rw [h] at h1; cases h1
      have hme : (List.map (fun s => [V.str s]) us) = rowsS us := rfl
      simp only [gwL, gwB, gwD, gwE, gwS, gwTT, gwZ, gwN, gwC, Nat.reduceEqDiff, ↓reduceIte, Nat.reduceAdd, Nat.reduceLT, Nat.reduceLeDiff, Nat.reduceMul, mapLook, mapPut, mapRange, mapLen, makeMapE, keyOk, keyKind, keyGood, lookR, zeroV, entV, entS, nextV, nextS, beq_self_eq_true, cond_true, cond_false, hpt, w, Env.keep]
      exact ⟨(i + 1, ups un us M, _), rfl, rfl, by simp only; omega, by simp only; omega, hx, by simp only [ups_new hno, List.length_append, List.length_cons, List.length_nil]; omega, fun p hp => by
        simp only [ups_new hno] at hp
        rcases List.mem_append.1 hp with hp | hp
        · exact hMn p hp
        · rw [List.mem_singleton] at hp; rw [hp]; exact hN.len _ (List.mem_of_getElem? hget)⟩
end Go.Proofs.Ytcegdbniggdckaa.Gx

namespace Go.Proofs.Ytcegdbniggdckaa.Gx
open Go Go.Proofs.Ytcegdbniggdckaa.Gw
set_option linter.unusedSimpArgs false
set_option linter.unusedVariables false

theorem Rch.trans {f : Str → List Str} {a b c : Str} (h : Rch f a b) (k : Rch f b c) : Rch f a c := by
  induction k with
  | one hc => exact .step h hc
  | step _ hc ih => exact .step ih hc
/-- Where each needs one of them, one needs itself. -/
theorem pigeon {f : Str → List Str} {R : List Str} (hne : R ≠ []) (h : ∀ n ∈ R, ∃ m ∈ f n, m ∈ R) : ∃ n ∈ R, Rch f n n := by
  refine Classical.byContradiction fun hno => ?_
  have hno' : ∀ n ∈ R, ¬ Rch f n n := fun n hn hr => hno ⟨n, hn, hr⟩
  obtain ⟨x0, hx0⟩ := List.exists_mem_of_ne_nil R hne
  have hg : ∃ g : Str → Str, ∀ n ∈ R, g n ∈ f n ∧ g n ∈ R :=
    ⟨fun n => if h' : n ∈ R then Classical.choose (h n h') else n, fun n hn => by
      simp only [hn, dif_pos]; exact Classical.choose_spec (h n hn)⟩
  obtain ⟨g, hg⟩ := hg
  have hseq : ∃ s : Nat → Str, s 0 = x0 ∧ ∀ k, s (k + 1) = g (s k) := ⟨fun k => Nat.rec x0 (fun _ y => g y) k, rfl, fun _ => rfl⟩
  obtain ⟨s, s0, s1⟩ := hseq
  have hin : ∀ k, s k ∈ R := fun k => by
    induction k with
    | zero => rw [s0]; exact hx0
    | succ k ih => rw [s1]; exact (hg _ ih).2
  have hr : ∀ i d, Rch f (s i) (s (i + d + 1)) := fun i d => by
    induction d with
    | zero => rw [Nat.add_zero, s1]; exact .one (hg _ (hin i)).1
    | succ d ih => rw [show i + (d + 1) + 1 = (i + d + 1) + 1 by omega, s1]; exact .step ih (hg _ (hin _)).1
  have hnd : ((List.range (R.length + 1)).map s).Nodup := by
    unfold List.Nodup
    rw [List.pairwise_map]
    refine List.pairwise_lt_range.imp fun {i j} hij e => ?_
    have := hr i (j - i - 1)
    rw [show i + (j - i - 1) + 1 = j by omega, ← e] at this
    exact hno' _ (hin i) this
  have := hnd.length_le_of_subset (l₂ := R) fun x hx => by
    obtain ⟨k, _, rfl⟩ := List.mem_map.1 hx
    exact hin k
  simp only [List.length_map, List.length_range] at this
  omega
theorem cycL_none {f : Str → List Str} : ∀ {l : List Str}, (∀ n ∈ l, ¬ Rch f n n) → cycL f l = []
  | [], _ => rfl
  | x :: r, h => by rw [cycL, if_neg (h x (by simp)), cycL_none fun n hn => h n (by simp [hn])]
theorem cycL_erase {f : Str → List Str} : ∀ {l : List Str} {j : Nat} {a : Str}, l[j]? = some a → ¬ Rch f a a → cycL f (l.take j ++ l.drop (j + 1)) = cycL f l
  | [], j, a, h, _ => by simp at h
  | x :: r, 0, a, h, ha => by
    simp at h; subst h
    rw [cycL, if_neg ha]; simp
  | x :: r, j + 1, a, h, ha => by
    have := cycL_erase (l := r) (j := j) (a := a) (by simpa using h) ha
    simp only [List.take_succ_cons, List.drop_succ_cons, List.cons_append, cycL, this]
/-- What stays when one is taken. -/
theorem mem_take_drop {l : List Str} {j : Nat} {a n : Str} (h : l[j]? = some a) (hn : l.Nodup) : n ∈ l.take j ++ l.drop (j + 1) ↔ n ∈ l ∧ n ≠ a := by
  have hj := (List.getElem?_eq_some_iff.1 h).1
  have e : l = l.take j ++ a :: l.drop (j + 1) := by
    conv => lhs; rw [← List.take_append_drop j l, List.drop_eq_getElem_cons hj, (List.getElem?_eq_some_iff.1 h).2]
  have hn' := hn
  rw [e] at hn'
  rw [List.nodup_append, List.nodup_cons] at hn'
  obtain ⟨-, ⟨h3, -⟩, h4⟩ := hn'
  have : n ∈ l ↔ n ∈ l.take j ∨ n = a ∨ n ∈ l.drop (j + 1) := by
    conv => lhs; rw [e]
    simp
  rw [this, List.mem_append]
  constructor
  · rintro (h | h)
    · exact ⟨.inl h, fun e => h4 n h a (by simp) e⟩
    · exact ⟨.inr (.inr h), fun e => h3 (e ▸ h)⟩
  · rintro ⟨h | h | h, hne⟩
    · exact .inl h
    · exact absurd h hne
    · exact .inr h
theorem nodup_take_drop {l : List Str} {j : Nat} (hn : l.Nodup) : (l.take j ++ l.drop (j + 1)).Nodup := by
  refine List.Nodup.sublist ?_ hn
  conv => rhs; rw [← List.take_append_drop j l]
  refine List.Sublist.append (List.Sublist.refl _) ?_
  rw [← List.drop_drop]
  exact List.drop_sublist _ _
/-- Who needs itself can't be put; the least one is told. -/
theorem put_cyc {f : Str → List Str} {all : List Str} (hcl : ∀ n ∈ all, ∀ m ∈ f n, m ∈ all) : ∀ (k : Nat) (left out : List Str), left.length = k → left.Nodup → (∀ n ∈ left, n ∈ all) → (∀ n ∈ all, Rch f n n → n ∈ left) → (∃ n ∈ all, Rch f n n) → putL f k left out = ([], cycL f left, 9)
  | 0, left, out, hk, _, _, hc, ⟨n, hn, hr⟩ => by
    have := hc n hn hr
    rw [List.length_eq_zero_iff.1 hk] at this
    simp at this
  | k + 1, left, out, hk, hnd, hsub, hc, hex => by
    have hne : left ≠ [] := by intro e; rw [e] at hk; simp at hk
    rw [putL, if_neg hne]
    rcases idxF_at (fun n => !((f n).any fun m => decide (m ∈ left))) left 0 with ⟨hneg, -⟩ | ⟨j, a, hj1, hj2, hj3, hj4, -⟩
    · have hpk : pickL f left < 0 := hneg
      rw [if_pos hpk]
    · rw [Nat.zero_add] at hj1
      have hpk : pickL f left = (j : Int) := hj1
      rw [hpk, if_neg (by omega), Int.toNat_natCast]
      have ham := List.mem_of_getElem? hj3
      have hna : ¬ Rch f a a := fun hr => by
        have key : ∀ b, Rch f a b → Rch f b a → ∃ m ∈ f a, m ∈ left := by
          intro b hb
          induction hb with
          | one hm => exact fun hba => ⟨_, hm, hc _ (hcl a (hsub a ham) _ hm) (hba.trans (.one hm))⟩
          | step hab hbc ih => exact fun hca => ih ((Rch.one hbc).trans hca)
        obtain ⟨m, hm, hml⟩ := key a hr hr
        simp only [Bool.not_eq_true', List.any_eq_false, decide_eq_true_eq] at hj4
        exact hj4 m hm hml
      rw [put_cyc hcl k _ _ (by simp; omega) (nodup_take_drop hnd) (fun n hn => hsub n ((mem_take_drop hj3 hnd).1 hn).1) (fun n hn hr => (mem_take_drop hj3 hnd).2 ⟨hc n hn hr, fun e => hna (e ▸ hr)⟩) hex, cycL_erase hj3 hna]
/-- Where none needs itself, there is always one that may be put. -/
theorem pick_some {f : Str → List Str} {left : List Str} (hne : left ≠ []) (hno : ∀ n ∈ left, ¬ Rch f n n) : ∃ (j : Nat) (a : Str), pickL f left = (j : Int) ∧ j < left.length ∧ left[j]? = some a ∧ (∀ m ∈ f a, m ∉ left) ∧ ∀ b ∈ left.take j, ∃ m ∈ f b, m ∈ left := by
  rcases idxF_at (fun n => !((f n).any fun m => decide (m ∈ left))) left 0 with ⟨-, hneg⟩ | ⟨j, a, hj1, hj2, hj3, hj4, hj5⟩
  · obtain ⟨n, hn, hr⟩ := pigeon hne fun n hn => by
      have := hneg n hn
      simpa using this
    exact absurd hr (hno n hn)
  · rw [Nat.zero_add] at hj1
    refine ⟨j, a, hj1, hj2, hj3, fun m hm hml => ?_, fun b hb => ?_⟩
    · simp only [Bool.not_eq_true', List.any_eq_false, decide_eq_true_eq] at hj4
      exact hj4 m hm hml
    · have := hj5 b hb
      simpa using this
end Go.Proofs.Ytcegdbniggdckaa.Gx

namespace Go.Proofs.Ytcegdbniggdckaa.Gx
open Go Go.Proofs.Ytcegdbniggdckaa.Gw
set_option linter.unusedSimpArgs false
set_option linter.unusedVariables false

/-- Each stands behind what it needs, and is the least that may. -/
def Good (f : Str → List Str) (left out ext : List Str) : Prop := ∀ (i : Nat) (x : Str), ext[i]? = some x →
  (∀ m ∈ f x, m ∈ out ++ ext.take i) ∧ ∀ n ∈ left, n ∉ ext.take i → n < x → ∃ m ∈ f n, m ∉ out ++ ext.take i
theorem put_ok {f : Str → List Str} {all : List Str} (hcl : ∀ n ∈ all, ∀ m ∈ f n, m ∈ all) : ∀ (k : Nat) (left out o : List Str) (nm : Str), left.length = k → left.Nodup → left.Pairwise (· ≤ ·) → (∀ n, n ∈ all ↔ n ∈ left ∨ n ∈ out) → (∀ n ∈ left, n ∉ out) →
    putL f k left out = (o, nm, 0) → ∃ ext, o = out ++ ext ∧ nm = [] ∧ ext.Perm left ∧ Good f left out ext
  | 0, left, out, o, nm, hk, _, _, _, _, h => by
    rw [putL] at h
    cases h
    rw [List.length_eq_zero_iff.1 hk]
    exact ⟨[], by simp, rfl, List.Perm.refl _, fun i x hx => by simp at hx⟩
  | k + 1, left, out, o, nm, hk, hnd, hso, hall, hdj, h => by
    have hne : left ≠ [] := by intro e; rw [e] at hk; simp at hk
    rw [putL, if_neg hne] at h
    rcases idxF_at (fun n => !((f n).any fun m => decide (m ∈ left))) left 0 with ⟨hneg, -⟩ | ⟨j, a, hj1, hj2, hj3, hj4, hj5⟩
    · have hpk : pickL f left < 0 := hneg
      rw [if_pos hpk] at h
      simp only [Prod.mk.injEq] at h
      exact absurd h.2.2 (by decide)
    · rw [Nat.zero_add] at hj1
      have hpk : pickL f left = (j : Int) := hj1
      rw [hpk, if_neg (by omega), Int.toNat_natCast, List.getD_eq_getElem?_getD, hj3] at h
      simp only [Option.getD_some] at h
      have ham := List.mem_of_getElem? hj3
      have hmem := fun n => mem_take_drop (n := n) hj3 hnd
      have hfa : ∀ m ∈ f a, m ∈ out := fun m hm => by
        simp only [Bool.not_eq_true', List.any_eq_false, decide_eq_true_eq] at hj4
        rcases (hall m).1 (hcl a ((hall a).2 (.inl ham)) m hm) with h | h
        · exact absurd h (hj4 m hm)
        · exact h
      have hsub : (left.take j ++ left.drop (j + 1)).Sublist left := by
        conv => rhs; rw [← List.take_append_drop j left]
        refine List.Sublist.append (List.Sublist.refl _) ?_
        rw [← List.drop_drop]
        exact List.drop_sublist _ _
      obtain ⟨ext, e1, e2, e3, e4⟩ := put_ok hcl k _ _ o nm (by simp; omega) (nodup_take_drop hnd) (hso.sublist hsub) (fun n => by
        rw [hall n, hmem n, List.mem_append, List.mem_singleton]
        constructor
        · rintro (h | h)
          · by_cases e : n = a
            · exact .inr (.inr e)
            · exact .inl ⟨h, e⟩
          · exact .inr (.inl h)
        · rintro (h | h | h)
          · exact .inl h.1
          · exact .inr h
          · rw [h]; exact .inl ham) (fun n hn => by
        have := (hmem n).1 hn
        rw [List.mem_append, List.mem_singleton]
        rintro (h | h)
        · exact hdj n this.1 h
        · exact this.2 h) h
      have hp : left.Perm (a :: (left.take j ++ left.drop (j + 1))) := by
        conv => lhs; rw [← List.take_append_drop j left, List.drop_eq_getElem_cons hj2, (List.getElem?_eq_some_iff.1 hj3).2]
        exact List.perm_middle
      refine ⟨a :: ext, by rw [e1]; simp, e2, (e3.cons a).trans hp.symm, fun i x hx => ?_⟩
      cases i with
      | zero =>
        simp at hx
        subst hx
        refine ⟨fun m hm => by simpa using hfa m hm, fun n hn _ hlt => ?_⟩
        have hnj : n ∈ left.take j := by
          have := hn
          rw [← List.take_append_drop j left, List.mem_append] at this
          rcases this with h | h
          · exact h
          · exfalso
            have hpw := hso
            rw [← List.take_append_drop j left, List.drop_eq_getElem_cons hj2, (List.getElem?_eq_some_iff.1 hj3).2, List.pairwise_append, List.pairwise_cons] at hpw
            rw [List.drop_eq_getElem_cons hj2, (List.getElem?_eq_some_iff.1 hj3).2] at h
            rcases List.mem_cons.1 h with rfl | h
            · exact List.lt_irrefl _ hlt
            · exact List.not_le.2 hlt (hpw.2.1.1 n h)
        have := hj5 n hnj
        simp only [Bool.not_eq_false', List.any_eq_true, decide_eq_true_eq] at this
        obtain ⟨m, hm, hml⟩ := this
        exact ⟨m, hm, by simpa using hdj m hml⟩
      | succ i =>
        simp only [List.getElem?_cons_succ] at hx
        obtain ⟨g1, g2⟩ := e4 i x hx
        simp only [List.take_succ_cons]
        have hap : out ++ [a] ++ ext.take i = out ++ a :: ext.take i := by simp
        rw [hap] at g1 g2
        refine ⟨g1, fun n hn hnt hlt => g2 n ((hmem n).2 ⟨hn, fun e => hnt (by rw [e]; simp)⟩) (fun h => hnt (by simp [h])) hlt⟩
theorem put_err {f : Str → List Str} : ∀ (k : Nat) (left out : List Str), (putL f k left out).2.2 ≠ 0 → (putL f k left out).1 = []
  | 0, left, out, h => by simp [putL] at h
  | k + 1, left, out, h => by
    rw [putL] at h ⊢
    by_cases h1 : left = []
    · rw [if_pos h1] at h; simp at h
    · rw [if_neg h1] at h ⊢
      by_cases h2 : pickL f left < 0
      · rw [if_pos h2]
      · rw [if_neg h2] at h ⊢; exact put_err k _ _ h
theorem order_err (l : List Node') (h : (orderL l).2.2 ≠ 0) : (orderL l).1 = [] := by
  unfold orderL at h ⊢
  cases h1 : (dupL l []).1 with
  | some n => rfl
  | none =>
    rw [h1] at h
    cases h2 : missL (dupL l []).2 (sortS ((dupL l []).2.map (·.1))) with
    | some n => rfl
    | none => rw [h2] at h; exact put_err _ _ _ h
/-- The needs of a name. -/
def fndL (s : Str) : List Node' → Option (List Str)
  | [] => none
  | n :: r => if n.name = s then some n.needs else fndL s r
theorem dup_none : ∀ {l : List Node'} {M : NM}, (dupL l M).1 = none → (∀ s, asc s (dupL l M).2 = match asc s M with | some v => some v | none => fndL s l) ∧ (dupL l M).2.map (·.1) = M.map (·.1) ++ l.map (·.name) ∧ (l.map (·.name)).Nodup ∧ (∀ n ∈ l, asc n.name M = none) ∧ ∀ n ∈ l, fndL n.name l = some n.needs
  | [], M, _ => ⟨fun s => by simp only [dupL, fndL]; cases asc s M <;> rfl, by simp [dupL], by simp, by simp, by simp⟩
  | u :: r, M, h => by
    rw [dupL] at h ⊢
    by_cases h1 : (asc u.name M).isSome = true
    · rw [if_pos h1] at h; simp at h
    · rw [if_neg h1] at h ⊢
      have hno : asc u.name M = none := by cases e : asc u.name M with
                                           | none => rfl
                                           | some v => rw [e] at h1; exact absurd rfl h1
      obtain ⟨e1, e2, e3, e4, e5⟩ := dup_none h
      have hur : ∀ n ∈ r, n.name ≠ u.name := fun n hn e => by
        have := e4 n hn
        rw [asc_ups, if_pos e] at this; cases this
      refine ⟨fun s => ?_, by rw [e2, ups_new hno]; simp, ?_, fun n hn => ?_, fun n hn => ?_⟩
      · rw [e1 s, asc_ups, fndL]
        by_cases e : s = u.name
        · rw [if_pos e, e, hno]; simp
        · rw [if_neg e, if_neg (Ne.symm e)]
      · rw [List.map_cons, List.nodup_cons]
        exact ⟨fun h => by obtain ⟨n, hn, he⟩ := List.mem_map.1 h; exact hur n hn he, e3⟩
      · rcases List.mem_cons.1 hn with rfl | hn
        · exact hno
        · have := e4 n hn
          rw [asc_ups, if_neg (hur n hn)] at this; exact this
      · rw [fndL]
        rcases List.mem_cons.1 hn with rfl | hn
        · rw [if_pos rfl]
        · rw [if_neg (fun e => hur n hn e.symm)]; exact e5 n hn
/-- An order that is told is right. -/
theorem order_ok {l : List Node'} {o : List Str} {nm : Str} (h : orderL l = (o, nm, 0)) : nm = [] ∧ (l.map (·.name)).Nodup ∧ o.Perm (l.map (·.name)) ∧
    ∀ (i : Nat) (x : Str), o[i]? = some x → ∀ u ∈ l, (u.name = x → ∀ m ∈ u.needs, m ∈ o.take i) ∧ (u.name ∉ o.take i → u.name < x → ∃ m ∈ u.needs, m ∉ o.take i) := by
  unfold orderL at h
  cases h1 : (dupL l []).1 with
  | some n => rw [h1] at h; simp only [Prod.mk.injEq] at h; exact absurd h.2.2 (by decide)
  | none =>
    rw [h1] at h
    obtain ⟨e1, e2, e3, -, e5⟩ := dup_none h1
    generalize (dupL l []).2 = M at *
    simp only [List.map_nil, List.nil_append] at e2
    rw [e2] at h
    cases h2 : missL M (sortS (l.map (·.name))) with
    | some n => rw [h2] at h; simp only [Prod.mk.injEq] at h; exact absurd h.2.2 (by decide)
    | none =>
      rw [h2] at h
      simp only at h
      have hp := sortS_perm (l.map (·.name))
      have hnd : (sortS (l.map (·.name))).Nodup := hp.nodup_iff.2 e3
      have hmi := missL_none h2
      have hkeys : ∀ s, (asc s M).isSome = true → s ∈ sortS (l.map (·.name)) := fun s hs => hp.mem_iff.2 (by rw [← e2]; exact asc_keys.1 hs)
      obtain ⟨ext, k1, k2, k3, k4⟩ := put_ok (all := sortS (l.map (·.name))) (fun n hn m hm => hkeys m (hmi n hn m hm)) _ _ _ o nm rfl hnd (sortS_sorted _) (fun n => by simp) (by simp) h
      rw [List.nil_append] at k1
      subst k1
      refine ⟨k2, e3, k3.trans hp, fun i x hx u hu => ?_⟩
      obtain ⟨g1, g2⟩ := k4 i x hx
      simp only [List.nil_append] at g1 g2
      have hu1 : ndM M u.name = u.needs := by
        unfold ndM; rw [e1, asc, e5 u hu]; rfl
      refine ⟨fun e m hm => g1 m (by rw [← e, hu1]; exact hm), fun hn hlt => ?_⟩
      have := g2 u.name (hp.mem_iff.2 (List.mem_map_of_mem hu)) hn hlt
      rw [hu1] at this
      exact this
end Go.Proofs.Ytcegdbniggdckaa.Gx

namespace Go.Proofs.Ytcegdbniggdckaa.Gx
open Go Go.Proofs.Ytcegdbniggdckaa.Gw
set_option linter.unusedSimpArgs false
set_option linter.unusedVariables false

def sameS : List Str → List Str → Bool
  | [], [] => true
  | x :: r, y :: s => bif !decide (x = y) then false else sameS r s
  | _, _ => false
theorem sameS_self : ∀ l : List Str, sameS l l = true
  | [] => rfl
  | x :: r => by simp [sameS, sameS_self r]
theorem sameS_len : ∀ {l m : List Str}, l.length ≠ m.length → sameS l m = false
  | [], [], h => absurd rfl h
  | [], _ :: _, _ => rfl
  | _ :: _, [], _ => rfl
  | x :: r, y :: s, h => by
    rw [sameS, sameS_len (l := r) (m := s) (by simpa using h)]
    cases decide (x = y) <;> rfl
set_option maxHeartbeats 4000000 in
theorem c_same (st : St) (l m : List Str) : VCalls Try.prog TT 10 [encS l, encS m] st fun r st' => r = .ret (.bool (sameS l m)) ∧ st' = st := by
  refine vfun TT_ok (an := anL []) (L := [0, 1, 4, 5, 12, 13]) (rs := [.tmp 4]) Try.func10 rfl (by kernel_rfl) rfl Try.ntmps10 rfl rfl (Nat.le_refl _) fun hst ha hf => ?_
  simp only [encS, fitL, V.fit, List.length_map] at hf
  simp only [encS]
  simp only [gwL, gwB, gwD, gwE, gwS, gwTT, gwZ, gwN, gwC, Nat.reduceEqDiff, ↓reduceIte, Nat.reduceAdd, Nat.reduceLT, Nat.reduceLeDiff, Nat.reduceMul, List.length_map]
  refine iK_split (fun h => ?_) (fun h => ?_)
  · simp only [gwL, gwB, gwD, gwE, gwS, gwTT, gwZ, gwN, gwC, Nat.reduceEqDiff, ↓reduceIte, Nat.reduceAdd, Nat.reduceLT, Nat.reduceLeDiff, Nat.reduceMul]
    exact gives_bool (by rw [sameS_len (by simpa [Int.ofNat_inj] using h)]) hst
  have hlm : l.length = m.length := by simpa [Int.ofNat_inj] using h
  simp only [gwL, gwB, gwD, gwE, gwS, gwTT, gwZ, gwN, gwC, Nat.reduceEqDiff, ↓reduceIte, Nat.reduceAdd, Nat.reduceLT, Nat.reduceLeDiff, Nat.reduceMul, List.length_map]
  refine vfor (σ := Nat) [0, 1, 4, 12, 13] (fun i => [(0, true, encS l), (1, true, encS m), (4, true, .bool false), (12, true, .int .i64 l.length), (13, true, .int .i64 i)]) (fun i => st) (fun i => l.length - i) (fun i => i ≤ l.length ∧ sameS l m = sameS (l.drop i) (m.drop i)) 0 rfl TT_ok ⟨Nat.zero_le _, rfl⟩ rfl rfl ?_
  rintro i ⟨hi, hx⟩
  rw [hx]
  rcases at_or_end l i hi with ⟨rfl, hd⟩ | ⟨a, hlt, hget, hdr⟩
  · simp only [gwL, gwB, gwD, gwE, gwS, gwTT, gwZ, gwN, gwC, Nat.reduceEqDiff, ↓reduceIte, Nat.reduceAdd, Nat.reduceLT, Nat.reduceLeDiff, Nat.reduceMul, lt_no, hd]
    exact gives_bool (by rw [hlm]; simp [sameS]) hst
  · rcases at_or_end m i (by omega) with ⟨hme, -⟩ | ⟨b, hltm, hgetm, hdrm⟩
    · omega
    simp only [encS]
    rw [hdr, hdrm, sameS]
    simp only [gwL, gwB, gwD, gwE, gwS, gwTT, gwZ, gwN, gwC, Nat.reduceEqDiff, ↓reduceIte, Nat.reduceAdd, Nat.reduceLT, Nat.reduceLeDiff, Nat.reduceMul, lt_yes hlt]
    refine vdraw TT_ok TT_mixed [0, 0, 0, 1, 0, 0, 0, 1, 0] (by kernel_rfl) ?_
    simp only [gwL, gwB, gwD, gwE, gwS, gwTT, gwZ, gwN, gwC, Nat.reduceEqDiff, ↓reduceIte, Nat.reduceAdd, Nat.reduceLT, Nat.reduceLeDiff, Nat.reduceMul, List.length_map, getD_map hget, getD_map hgetm, Int.ofNat_lt.mpr hlt, Int.ofNat_lt.mpr hltm, Int.toNat_natCast]
    refine iK_split (fun h1 => ?_) (fun h1 => ?_)
    · rw [h1]
      simp only [gwL, gwB, gwD, gwE, gwS, gwTT, gwZ, gwN, gwC, Nat.reduceEqDiff, ↓reduceIte, Nat.reduceAdd, Nat.reduceLT, Nat.reduceLeDiff, Nat.reduceMul]
      exact gives_bool rfl hst
    · rw [h1]
      have w : IntKind.i64.wrap ((i : Int) + 1) = ((i + 1 : Nat) : Int) := next_i64 hlt (by omega)
      simp only [gwL, gwB, gwD, gwE, gwS, gwTT, gwZ, gwN, gwC, Nat.reduceEqDiff, ↓reduceIte, Nat.reduceAdd, Nat.reduceLT, Nat.reduceLeDiff, Nat.reduceMul, w, Env.keep]
      exact ⟨i + 1, rfl, by omega, hlt, rfl⟩
theorem sortS_id {l : List Str} (h : l.Pairwise (· ≤ ·)) : sortS l = l := sorted_eq (sortS_sorted l) h (sortS_perm l)
theorem al1 : orderL [⟨[97], [[98]]⟩, ⟨[98], []⟩] = ([[98], [97]], [], 0) := by
  have hs : sortS [[97], [98]] = ([[97], [98]] : List Str) := sortS_id (by decide)
  have e1 : dupL [⟨[97], [[98]]⟩, ⟨[98], []⟩] [] = (none, [([97], [[98]]), ([98], [])]) := by rfl
  unfold orderL
  rw [e1]
  simp only [List.map_cons, List.map_nil, hs]
  rfl
theorem al2 : orderL [⟨[99], [[99]]⟩] = ([], [99], 9) := by
  have hs : sortS [[99]] = ([[99]] : List Str) := sortS_id (by decide)
  have e1 : dupL [⟨[99], [[99]]⟩] [] = (none, [([99], [[99]])]) := by rfl
  unfold orderL
  rw [e1]
  simp only [List.map_cons, List.map_nil, hs]
  have hr : Rch (ndM [([99], [[99]])]) [99] [99] := .one (by decide)
  have hc : cycL (ndM [([99], [[99]])]) [[99]] = [99] := by rw [cycL, if_pos hr]
  show putL (ndM [([99], [[99]])]) 1 [[99]] [] = _
  rw [putL, hc, if_neg (by decide), if_pos (by decide)]
theorem wkR_cons {p : Nat → Prop} {x y : List V} {xs ys : List (List V)} (h : wkLp p x y) (k : wkRp p xs ys) : wkRp p (x :: xs) (y :: ys) := by simp only [wkRp]; exact ⟨y, ys, rfl, h, k⟩
set_option maxHeartbeats 4000000 in
theorem c_alive (st : St) : VCalls Try.prog TT 11 [] st fun r st' => r = .ret (.bool true) ∧ st' = st := by
  refine vfun TT_ok (an := anL []) (L := [0, 1, 3, 5, 6]) (rs := [.tmp 0]) Try.func11 rfl (by kernel_rfl) rfl Try.ntmps11 rfl rfl (Nat.le_refl _) fun hst ha hf => ?_
  simp only [gwL, gwB, gwD, gwE, gwS, gwTT, gwZ, gwN, gwC, Nat.reduceEqDiff, ↓reduceIte, Nat.reduceAdd, Nat.reduceLT, Nat.reduceLeDiff, Nat.reduceMul]
  refine (c_Order [⟨[97], [[98]]⟩, ⟨[98], []⟩] _ ⟨by decide, by decide⟩).use (wkL_cons (wk_lst (wkR_cons (wkL_refl _) (wkR_cons (wkL_cons (wk_refl _) (wkL_cons (wk_nils 1) wkL_nil)) (wkR_refl _)))) wkL_nil) fun _ => ?_
  rw [al1]
  simp only [gwL, gwB, gwD, gwE, gwS, gwTT, gwZ, gwN, gwC, Nat.reduceEqDiff, ↓reduceIte, Nat.reduceAdd, Nat.reduceLT, Nat.reduceLeDiff, Nat.reduceMul, ordV, encS]
  refine (c_Order [⟨[99], [[99]]⟩] _ ⟨by decide, by decide⟩).use (wkL_refl _) fun _ => ?_
  rw [al2]
  have g0 : ∀ {α : Type} (x : α) (l : List α) (d : α), (x :: l).getD (Int.toNat 0) d = x := fun _ _ _ => rfl
  have d2 : decide (((2 : Nat) : Int) = 2) = true := rfl
  simp only [gwL, gwB, gwD, gwE, gwS, gwTT, gwZ, gwN, gwC, Nat.reduceEqDiff, ↓reduceIte, Nat.reduceAdd, Nat.reduceLT, Nat.reduceLeDiff, Nat.reduceMul, ordV, encS, g0, d2]
  exact ⟨⟨by decide, by decide⟩, gives_bool rfl hst⟩
end Go.Proofs.Ytcegdbniggdckaa.Gx

namespace Go.Proofs.Ytcegdbniggdckaa.Gx
open Go Go.Proofs.Ytcegdbniggdckaa.Gw
set_option linter.unusedSimpArgs false
set_option linter.unusedVariables false

theorem idxOf_take {m : Str} : ∀ {o : List Str} {i j : Nat}, m ∈ o.take j → (i : Int) ≤ idxOf m i o ∧ idxOf m i o < ((i + j : Nat) : Int)
  | [], i, j, h => by simp at h
  | x :: r, i, 0, h => by simp at h
  | x :: r, i, j + 1, h => by
    rw [idxOf]
    by_cases e : m = x
    · simp only [e, decide_true, cond_true]; omega
    · simp only [e, decide_false, cond_false]
      rw [List.take_succ_cons] at h
      rcases List.mem_cons.1 h with h | h
      · exact absurd h e
      · have := idxOf_take (i := i + 1) h
        omega
theorem idxOf_get {x : Str} : ∀ {o : List Str} {i j : Nat}, o.Nodup → o[j]? = some x → idxOf x i o = ((i + j : Nat) : Int)
  | [], i, j, _, h => by simp at h
  | y :: r, i, 0, _, h => by simp at h; subst h; simp [idxOf]
  | y :: r, i, j + 1, hn, h => by
    simp only [List.getElem?_cons_succ] at h
    rw [List.nodup_cons] at hn
    have e : x ≠ y := fun e => hn.1 (e ▸ List.mem_of_getElem? h)
    rw [idxOf]
    simp only [e, decide_false, cond_false]
    rw [idxOf_get (i := i + 1) hn.2 h]; congr 1; omega
set_option maxRecDepth 20000 in
set_option maxHeartbeats 8000000 in
theorem c_GraphBehind (l : List Node') (st : St) (hN : NOk l) : VCalls Try.prog TT 4 [lstN l] st fun r st' => r = .ret (.bool true) ∧ st' = st := by
  refine vfun TT_ok (an := anL []) (L := [0, 2, 3, 4, 5, 6, 7, 8, 10, 12, 27, 28, 29, 55, 56, 57, 62, 63, 64]) (rs := [.tmp 2]) Try.func4 rfl (by kernel_rfl) rfl Try.ntmps4 rfl rfl (Nat.le_refl _) fun hst ha hf => ?_
  simp only [gwL, gwB, gwD, gwE, gwS, gwTT, gwZ, gwN, gwC, Nat.reduceEqDiff, ↓reduceIte, Nat.reduceAdd, Nat.reduceLT, Nat.reduceLeDiff, Nat.reduceMul]
  refine (c_alive _).use (wkL_refl _) fun _ => ?_
  simp only [gwL, gwB, gwD, gwE, gwS, gwTT, gwZ, gwN, gwC, Nat.reduceEqDiff, ↓reduceIte, Nat.reduceAdd, Nat.reduceLT, Nat.reduceLeDiff, Nat.reduceMul]
  refine (c_Order l _ hN).use (wkL_refl _) fun _ => ?_
  have hOk := @order_ok l
  have hEr := order_err l
  have hfew := hN.few
  generalize orderL l = res at *
  obtain ⟨o, nm, e⟩ := res
  simp only at hEr
  simp only [lstN]
  simp only [gwL, gwB, gwD, gwE, gwS, gwTT, gwZ, gwN, gwC, Nat.reduceEqDiff, ↓reduceIte, Nat.reduceAdd, Nat.reduceLT, Nat.reduceLeDiff, Nat.reduceMul, ordV, encS]
  refine iK_split (fun h1 => ?_) (fun h1 => ?_)
  · have h1' : e ≠ 0 := by simpa using h1
    rw [hEr h1']
    simp only [gwL, gwB, gwD, gwE, gwS, gwTT, gwZ, gwN, gwC, Nat.reduceEqDiff, ↓reduceIte, Nat.reduceAdd, Nat.reduceLT, Nat.reduceLeDiff, Nat.reduceMul, List.map_nil, List.length_nil]
    exact gives_bool rfl hst
  have h1' : e = 0 := by simpa using h1
  subst h1'
  obtain ⟨hnm, hnd, hpm, hgo⟩ := hOk rfl
  subst hnm
  have hond : o.Nodup := hpm.nodup_iff.2 hnd
  have hol : o.length = l.length := by rw [hpm.length_eq, List.length_map]
  simp only [gwL, gwB, gwD, gwE, gwS, gwTT, gwZ, gwN, gwC, Nat.reduceEqDiff, ↓reduceIte, Nat.reduceAdd, Nat.reduceLT, Nat.reduceLeDiff, Nat.reduceMul, mapLook, mapPut, mapRange, mapLen, makeMapE, keyOk, keyKind, keyGood, lookR, zeroV, entV, entS, nextV, nextS, beq_self_eq_true, cond_true, cond_false, List.length_map]
  refine vfor (σ := Nat × List (Str × Int)) [0, 2, 3, 4, 6, 27, 28, 29] (fun x => [(0, true, .lst 2 none (l.map encN)), (2, true, .bool false), (3, true, .lst 1 none (rowsS o)), (4, true, .str []), (6, true, .map st.length), (27, true, .lst 1 none (rowsS o)), (28, true, .int .i64 o.length), (29, true, .int .i64 x.1)]) (fun x => st ++ [mapE V.str (V.int .i64) x.2]) (fun x => o.length - x.1) (fun x => x.1 ≤ o.length ∧ x.2.length = x.1 ∧ ∀ s, asc s x.2 = if s ∈ o.take x.1 then some (idxOf s 0 o + 1) else none) (0, []) rfl TT_ok ⟨Nat.zero_le _, rfl, fun s => by simp [asc]⟩ rfl rfl ?_
  rintro ⟨i, M⟩ ⟨hi, hMl, hM⟩
  simp only at hi hMl hM ⊢
  have hlk := fun (i : TI) (ok : Bool) (st : St) (n : Str) => look_mapE (ev := V.int .i64) (keyP_str TT) i ok n st M
  have hpt := fun (o : Nat) (n : Str) (a : Int) (st : St) => put_mapE (ev := V.int .i64) (keyP_str TT) o n a st M
  have hlm := fun (st : St) => len_mapE (ek := V.str) (ev := V.int .i64) st M
  rcases at_or_end o i hi with ⟨hie, hd⟩ | ⟨u, hlt, hget, hdr⟩
  · have hie2 : i = o.length := hie
    subst hie2
    rw [List.take_length] at hM
    have d1 : decide ((M.length : Int) = (l.length : Int)) = true := by rw [hMl, hol]; simp
    have d2 : decide ((o.length : Int) = (l.length : Int)) = true := by rw [hol]; simp
    have d3 : ∀ s : Str, decide (s = s) = true := fun s => by simp
    simp only [gwL, gwB, gwD, gwE, gwS, gwTT, gwZ, gwN, gwC, Nat.reduceEqDiff, ↓reduceIte, Nat.reduceAdd, Nat.reduceLT, Nat.reduceLeDiff, Nat.reduceMul, mapLook, mapPut, mapRange, mapLen, makeMapE, keyOk, keyKind, keyGood, lookR, zeroV, entV, entS, nextV, nextS, beq_self_eq_true, cond_true, cond_false, lt_no, rowsS_len, hlm, List.length_map, d1, d2, d3, Bool.not_true, Bool.or_self, Bool.not_false, forall_const]
    have hbad : ∀ u ∈ l, ∀ m ∈ u.needs, m ∈ o ∧ u.name ∈ o ∧ 0 ≤ idxOf m 0 o ∧ idxOf m 0 o < idxOf u.name 0 o := fun u hu m hm => by
      have huo : u.name ∈ o := hpm.mem_iff.2 (List.mem_map_of_mem hu)
      obtain ⟨j, hj⟩ := List.getElem?_of_mem huo
      have hmt := (hgo j u.name hj u hu).1 rfl m hm
      have := idxOf_take (i := 0) hmt
      have := idxOf_get (i := 0) hond hj
      exact ⟨List.mem_of_mem_take hmt, huo, by omega, by omega⟩
    refine vfor (σ := Nat × St) [0, 2, 6, 55, 56, 57] (fun x => [(0, true, .lst 2 none (l.map encN)), (2, true, .bool false), (6, true, .map st.length), (55, true, .lst 2 none (l.map encN)), (56, true, .int .i64 l.length), (57, true, .int .i64 x.1)]) (fun x => st ++ (mapE V.str (V.int .i64) M :: x.2)) (fun x => l.length - x.1) (fun x => x.1 ≤ l.length) (0, []) rfl TT_ok (Nat.zero_le _) rfl rfl ?_
    rintro ⟨p, ex⟩ hp
    simp only at hp ⊢
    rcases at_or_end l p hp with ⟨hpe, -⟩ | ⟨u, hpt2, hpg, -⟩
    · have hpe2 : p = l.length := hpe
      subst hpe2
      simp only [gwL, gwB, gwD, gwE, gwS, gwTT, gwZ, gwN, gwC, Nat.reduceEqDiff, ↓reduceIte, Nat.reduceAdd, Nat.reduceLT, Nat.reduceLeDiff, Nat.reduceMul, mapLook, mapPut, mapRange, mapLen, makeMapE, keyOk, keyKind, keyGood, lookR, zeroV, entV, entS, nextV, nextS, beq_self_eq_true, cond_true, cond_false, lt_no]
      exact gives_bool' rfl hst
    · have hg : (l.map encN).getD p [] = encN u := getD_map hpg
      have w : IntKind.i64.wrap ((p : Int) + 1) = ((p + 1 : Nat) : Int) := next_i64 hpt2 (by omega)
      have hum := List.mem_of_getElem? hpg
      have hul := hN.len u hum
      obtain ⟨un, us⟩ := u
      simp only at hul
      simp only [gwL, gwB, gwD, gwE, gwS, gwTT, gwZ, gwN, gwC, Nat.reduceEqDiff, ↓reduceIte, Nat.reduceAdd, Nat.reduceLT, Nat.reduceLeDiff, Nat.reduceMul, mapLook, mapPut, mapRange, mapLen, makeMapE, keyOk, keyKind, keyGood, lookR, zeroV, entV, entS, nextV, nextS, beq_self_eq_true, cond_true, cond_false, lt_yes hpt2, hg, encN_mk, encS, List.length_map, Int.ofNat_lt.mpr hpt2, Int.toNat_natCast]
      refine vfor (σ := Nat) [0, 2, 6, 55, 56, 57, 10, 62, 63, 64] (fun q => [(0, true, .lst 2 none (l.map encN)), (2, true, .bool false), (6, true, .map st.length), (55, true, .lst 2 none (l.map encN)), (56, true, .int .i64 l.length), (57, true, .int .i64 p), (10, true, .ptr (st.length + (ex.length + 1)) 0), (62, true, .lst 1 none (rowsS us)), (63, true, .int .i64 us.length), (64, true, .int .i64 q)]) (fun q => st ++ (mapE V.str (V.int .i64) M :: (ex ++ [Ent.box [.str un, .lst 1 none (rowsS us)]]))) (fun q => us.length - q) (fun q => q ≤ us.length) 0 rfl TT_ok (Nat.zero_le _) rfl rfl ?_
      intro q hq
      rcases at_or_end us q hq with ⟨hqe, -⟩ | ⟨m, hqt, hqg, -⟩
      · have hqe2 : q = us.length := hqe
        subst hqe2
        simp only [gwL, gwB, gwD, gwE, gwS, gwTT, gwZ, gwN, gwC, Nat.reduceEqDiff, ↓reduceIte, Nat.reduceAdd, Nat.reduceLT, Nat.reduceLeDiff, Nat.reduceMul, mapLook, mapPut, mapRange, mapLen, makeMapE, keyOk, keyKind, keyGood, lookR, zeroV, entV, entS, nextV, nextS, beq_self_eq_true, cond_true, cond_false, lt_no, w, Env.keep]
        exact ⟨(p + 1, _), rfl, rfl, by simp only; omega, by simp only; omega⟩
      · have wq : IntKind.i64.wrap ((q : Int) + 1) = ((q + 1 : Nat) : Int) := next_i64 hqt (by omega)
        obtain ⟨b1, b2, b3, b4⟩ := hbad _ hum m (List.mem_of_getElem? hqg)
        simp only at b2 b4
        have l1 : asc m M = some (idxOf m 0 o + 1) := by rw [hM m, if_pos b1]
        have l2 : asc un M = some (idxOf un 0 o + 1) := by rw [hM un, if_pos b2]
        have c1 : decide (idxOf m 0 o + 1 = 0) = false := decide_eq_false (by omega)
        have c2 : decide (idxOf un 0 o + 1 ≤ idxOf m 0 o + 1) = false := decide_eq_false (by omega)
        simp only [gwL, gwB, gwD, gwE, gwS, gwTT, gwZ, gwN, gwC, Nat.reduceEqDiff, ↓reduceIte, Nat.reduceAdd, Nat.reduceLT, Nat.reduceLeDiff, Nat.reduceMul, mapLook, mapPut, mapRange, mapLen, makeMapE, keyOk, keyKind, keyGood, lookR, zeroV, entV, entS, nextV, nextS, beq_self_eq_true, cond_true, cond_false, lt_yes hqt, rowsS_getD hqg, rowsS_len, Int.toNat_natCast, Int.ofNat_lt.mpr hqt, hlk, l1, l2, c1, c2, Option.map_some, Option.getD_some, Bool.or_self, wq, Env.keep]
        exact ⟨q + 1, rfl, by omega, by omega⟩
  · have w : IntKind.i64.wrap ((i : Int) + 1) = ((i + 1 : Nat) : Int) := next_i64 hlt (by omega)
    have hni : u ∉ o.take i := by
      have hn := hond
      rw [← List.take_append_drop i o, hdr, List.nodup_append] at hn
      exact fun h => hn.2.2 u h u (by simp) rfl
    have hno : asc u M = none := by rw [hM u, if_neg hni]
    have hig := idxOf_get (i := 0) hond hget
    simp only [gwL, gwB, gwD, gwE, gwS, gwTT, gwZ, gwN, gwC, Nat.reduceEqDiff, ↓reduceIte, Nat.reduceAdd, Nat.reduceLT, Nat.reduceLeDiff, Nat.reduceMul, mapLook, mapPut, mapRange, mapLen, makeMapE, keyOk, keyKind, keyGood, lookR, zeroV, entV, entS, nextV, nextS, beq_self_eq_true, cond_true, cond_false, lt_yes hlt, rowsS_getD hget, rowsS_len, Int.toNat_natCast, Int.ofNat_lt.mpr hlt, w, hpt, Env.keep]
    refine ⟨(i + 1, ups u ((i + 1 : Nat) : Int) M), rfl, rfl, by simp only; omega, by simp only; omega, by simp only [ups_new hno, List.length_append, List.length_cons, List.length_nil, hMl], fun s => ?_⟩
    simp only [asc_ups]
    have htk : o.take (i + 1) = o.take i ++ [u] := by rw [List.take_add_one, hget]; rfl
    by_cases e : s = u
    · subst e
      rw [if_pos rfl, if_pos (by rw [htk]; simp), hig]; congr 1; omega
    · rw [if_neg e, hM s, htk]; simp [e]
end Go.Proofs.Ytcegdbniggdckaa.Gx

namespace Go.Proofs.Ytcegdbniggdckaa.Gx
open Go Go.Proofs.Ytcegdbniggdckaa.Gw
set_option linter.unusedSimpArgs false
set_option linter.unusedVariables false
def encI1 (n : Int) : List V := [.int .i64 n]
def encS1 (s : Str) : List V := [.str s]

theorem len_succ {α : Type} {cs : List α} {n : Nat} (h : cs.length = n + 1) : ∃ c r, cs = c :: r ∧ r.length = n := by
  cases cs with
  | nil => simp at h
  | cons c r => exact ⟨c, r, rfl, by simpa using h⟩
open Go.ChangeShapes Go.WideShapes Go.ChangeAt Go.RowKit
theorem own : ownKnob Try.prog.godebug = none := by kernel_rfl
theorem laidOut : laidOutB Try.prog = true := by kernel_rfl
theorem below_of {W W' : World} {g' : G} (h : Ext g00 W g' W') : Below W.heap.size W W' := ⟨h.os, h.tape, h.output, h.size, fun k hk => (h.free k hk rfl).1⟩
theorem bulk_one {H : Type} (d : DataW H) : 1 ≤ Rows.uptoBulk d := by
  cases d with
  | lit l => cases l <;> simp [Rows.uptoBulk]
  | nil => simp [Rows.uptoBulk]
  | ptr d => simp [Rows.uptoBulk]
  | slice elems spare => simp [Rows.uptoBulk]
  | agg parts => simp [Rows.uptoBulk]
  | iface t d => simp [Rows.uptoBulk]
  | map entries => simp [Rows.uptoBulk]
  | held h => simp [Rows.uptoBulk]
theorem bulk_len {H : Type} : ∀ l : List (DataW H), l.length ≤ Rows.uptoBulkAll l
  | [] => by simp [Rows.uptoBulkAll]
  | x :: r => by have := bulk_one x; have := bulk_len r; simp only [Rows.uptoBulkAll, List.length_cons]; omega
/-- A slice that is read has no more elements than its bulk. -/
theorem bulk_slice {H : Type} {enc : TypeId × Value → H} {P : Program} {W : World} {spare : Nat → Bool} {held : Bool} {n : Nat} {t e : TypeId} {v : Value} {r : DataW H × List MemPlace} (ht : P.underlying t = some (.slice e)) {sz : Nat} {tp : Option Nat} {rows : List (List V)}
    (h : DataW.trod enc P W 0 spare held n t [v] = some r) (hs : SimV g00 W (.lst sz tp rows) v) : rows.length ≤ Rows.uptoBulk r.1 := by
  simp only [SimV] at hs
  obtain ⟨a, cap, rfl, -⟩ := hs
  cases n with
  | zero => simp [DataW.trod] at h
  | succ n =>
    unfold DataW.trod at h
    rw [ht] at h
    split at h <;> first | (cases h; done) | skip
    all_goals rename_i e'; first | (injection e' with e'; cases e'; done) | skip
    · simp only [List.cons.injEq, Value.slice.injEq, and_true] at e'
      obtain ⟨_, e', _⟩ := e'
      omega
    · simp only [List.cons.injEq, Value.slice.injEq, and_true] at e'
      obtain ⟨_, e', _⟩ := e'
      simp only at h
      split at h
      case isFalse => cases h
      rw [e']
      generalize hm : List.mapM (m := Option) _ _ = o at h
      cases o with
      | none => simp at h
      | some ys =>
        obtain ⟨hl, -⟩ := mapM_some hm
        simp only [Option.bind_some, Option.map_eq_some_iff] at h
        obtain ⟨zs, -, rfl⟩ := h
        have := bulk_len (ys.map (·.1))
        rw [List.length_map, hl, List.length_range] at this
        simp only [Rows.uptoBulk]
        omega
/-- A string that is read is no longer than its bulk. -/
theorem bulk_str {H : Type} {enc : TypeId × Value → H} {P : Program} {W : World} {spare : Nat → Bool} {held : Bool} {n : Nat} {t : TypeId} {s : List UInt8} {r : DataW H × List MemPlace} (ht : P.underlying t = some .string)
    (h : DataW.trod enc P W 0 spare held n t [.string ⟨s.toArray⟩] = some r) : s.length ≤ Rows.uptoBulk r.1 := by
  cases n with
  | zero => simp [DataW.trod] at h
  | succ n =>
    unfold DataW.trod at h
    rw [ht] at h
    split at h <;> first | (cases h; done) | skip
    all_goals rename_i e'; first | (injection e' with e'; cases e'; done) | skip
    · simp only [List.cons.injEq, Value.string.injEq, and_true] at e'
      subst e'
      split at h
      · simp only [Option.some.injEq] at h
        subst h
        simp [Rows.uptoBulk, ByteArray.size]
      · cases h
    · exact ((‹∀ s_1 : ByteArray, some TypeDesc.string = some TypeDesc.string → [Value.string ⟨s.toArray⟩] = [Value.string s_1] → False›) _ rfl rfl).elim
theorem okWide_slice {P : Program} {W : World} {r : Reach} {b : Nat} {t e : TypeId} {v : Value} (ht : P.underlying t = some (.slice e)) (h : Value.okWide P W r b t v) : v.cells.toList = [v] := by
  unfold Value.okWide at h
  rw [ht] at h
  simp only [Cell.okWide, ht] at h
  cases v <;> first | rfl | (simp [Cell.ok, ht] at h)
theorem okWide_str {P : Program} {W : World} {r : Reach} {b : Nat} {t : TypeId} {v : Value} (ht : P.underlying t = some .string) (h : Value.okWide P W r b t v) : v.cells.toList = [v] := by
  unfold Value.okWide at h
  rw [ht] at h
  simp only [Cell.okWide, ht] at h
  cases v <;> first | rfl | (simp [Cell.ok, ht] at h)
theorem okWide_int {P : Program} {W : World} {r : Reach} {b : Nat} {t : TypeId} {k : IntKind} {v : Value} (ht : P.underlying t = some (.int k)) (h : Value.okWide P W r b t v) : v.cells.toList = [v] := by
  unfold Value.okWide at h
  rw [ht] at h
  simp only [Cell.okWide, ht] at h
  cases v <;> first | rfl | (simp [Cell.ok, ht] at h)
theorem dec_int1 {H : Type} {enc : TypeId × Value → H} {P : Program} {W : World} {spare : Nat → Bool} {held : Bool} {t : TypeId} (ht : P.underlying t = some (.int .i64)) {n : Nat} {cs : List Value} {r : DataW H × List MemPlace} (h : DataW.trod enc P W 0 spare held n t cs = some r) : ∃ x : Int, SimVs g00 W (encI1 x) cs ∧ ∀ u ∈ cs, u.oneCell' = true := by
  obtain ⟨m, rfl⟩ := dec_int ht h
  exact ⟨m, ⟨_, _, rfl, rfl, rfl⟩, by simp [Value.oneCell']⟩
theorem dec_str1 {H : Type} {enc : TypeId × Value → H} {P : Program} {W : World} {spare : Nat → Bool} {held : Bool} {t : TypeId} (ht : P.underlying t = some .string) {n : Nat} {cs : List Value} {r : DataW H × List MemPlace} (h : DataW.trod enc P W 0 spare held n t cs = some r) : ∃ x : Str, SimVs g00 W (encS1 x) cs ∧ ∀ u ∈ cs, u.oneCell' = true := by
  obtain ⟨m, rfl, hm⟩ := dec_str ht h
  exact ⟨m, ⟨_, _, rfl, ⟨rfl, hm⟩, rfl⟩, by simp [Value.oneCell']⟩
end Go.Proofs.Ytcegdbniggdckaa.Gx

namespace Go.Proofs.Ytcegdbniggdckaa.Gx
open Go Go.Proofs.Ytcegdbniggdckaa.Gw
set_option linter.unusedSimpArgs false
set_option linter.unusedVariables false
theorem cells9 : Try.prog.cellsOf 9 = 1 := by kernel_rfl
theorem dec_Lstring {H : Type} {enc : TypeId × Value → H} {W : World} {spare : Nat → Bool} {held : Bool} {n : Nat} {cs : List Value} {r : DataW H × List MemPlace} (h : DataW.trod enc Try.prog W 0 spare held n 23 cs = some r) : ∃ (l : List (Str)) (v : Value), cs = [v] ∧ SimV g00 W (.lst 1 none (l.map encS1)) v ∧ v.oneCell' = true :=
  dec_slice (X := Str) encS1 Try.underlying23 cells9 (by decide) (fun m _ cs r hr => dec_str1 Try.underlying9 hr) h
theorem cells23 : Try.prog.cellsOf 23 = 1 := by kernel_rfl
theorem cells32 : Try.prog.cellsOf 32 = 2 := by kernel_rfl
theorem dec_Node {H : Type} {enc : TypeId × Value → H} {W : World} {spare : Nat → Bool} {held : Bool} : ∀ (n : Nat) (cs : List Value) (r : DataW H × List MemPlace), DataW.trod enc Try.prog W 0 spare held n 32 cs = some r → ∃ x : Node', SimVs g00 W (encN x) cs ∧ ∀ u ∈ cs, u.oneCell' = true := by
  intro n cs r h
  obtain ⟨m, rfl, hl, hf⟩ := dec_struct Try.underlying32 h
  rw [cells32] at hl
  obtain ⟨c0, t0, rfl, l0⟩ := len_succ hl
  obtain ⟨c1, t1, rfl, l1⟩ := len_succ l0
  obtain rfl := List.eq_nil_of_length_eq_zero l1
  simp only [List.forall_mem_cons, cells23, cells9, List.drop_zero, List.drop_succ_cons, List.take_succ_cons, List.take_zero] at hf
  obtain ⟨⟨y0, h0⟩, ⟨y1, h1⟩, _⟩ := hf
  obtain ⟨x0, e0, k0⟩ := dec_str Try.underlying9 h0
  obtain ⟨x1, v1, e1, k1, j1⟩ := dec_Lstring h1
  simp only [List.cons.injEq, and_true] at e0 e1
  subst e0 e1
  refine ⟨Node'.mk x0 x1, ?_, ?_⟩
  · exact ⟨_, _, rfl, ⟨rfl, k0⟩, ⟨_, _, rfl, k1, rfl⟩⟩
  · intro u hu
    simp only [List.mem_cons, List.not_mem_nil, or_false] at hu 
    rcases hu with rfl | rfl <;> first | rfl | exact j1
theorem dec_LNode {H : Type} {enc : TypeId × Value → H} {W : World} {spare : Nat → Bool} {held : Bool} {n : Nat} {cs : List Value} {r : DataW H × List MemPlace} (h : DataW.trod enc Try.prog W 0 spare held n 22 cs = some r) : ∃ (l : List (Node')) (v : Value), cs = [v] ∧ SimV g00 W (.lst 2 none (l.map encN)) v ∧ v.oneCell' = true :=
  dec_slice encN Try.underlying22 cells32 (by decide) (fun m _ cs r hr => dec_Node m cs r hr) h
end Go.Proofs.Ytcegdbniggdckaa.Gx

namespace Go.Proofs.Ytcegdbniggdckaa.Gx
open Go Go.Proofs.Ytcegdbniggdckaa.Gw
set_option linter.unusedSimpArgs false
set_option linter.unusedVariables false
open Go.ChangeShapes Go.WideShapes Go.ChangeAt Go.RowKit
section
variable {H : Type} {enc : TypeId × Value → H} {P : Program} {W : World} {spare : Nat → Bool} {held : Bool}
theorem bulk_mem {d : DataW H} : ∀ {l : List (DataW H)}, d ∈ l → Rows.uptoBulk d ≤ Rows.uptoBulkAll l
  | [], h => by simp at h
  | x :: r, h => by
    simp only [Rows.uptoBulkAll]
    rcases List.mem_cons.1 h with rfl | h
    · omega
    · have := bulk_mem h; omega
theorem dec_structB {t : TypeId} {fs : Array Field} (ht : P.underlying t = some (.struct fs)) {n : Nat} {cs : List Value} {r : DataW H × List MemPlace} (h : DataW.trod enc P W 0 spare held n t cs = some r) :
    ∃ m, n = m + 1 ∧ cs.length = P.cellsOf t ∧ ∀ f ∈ fs.toList, ∃ y, DataW.trod enc P W 0 spare held m f.type ((cs.drop f.offset).take (P.cellsOf f.type)) = some y ∧ Rows.uptoBulk y.1 ≤ Rows.uptoBulk r.1 := by
  cases n with
  | zero => simp [DataW.trod] at h
  | succ n =>
    unfold DataW.trod at h
    rw [ht] at h
    split at h <;> first | (cases h; done) | skip
    all_goals rename_i e; first | (injection e with e; cases e; done) | skip
    · rename_i cs _ _ _
      injection e with e
      injection e with e
      subst e
      split at h
      case isFalse => simp at h
      rename_i hl
      refine ⟨n, rfl, hl, fun f hf => ?_⟩
      cases hm : List.mapM (fun f => DataW.trod enc P W 0 spare held n f.type (List.take (P.cellsOf f.type) (List.drop f.offset cs))) fs.toList with
      | none => rw [hm] at h; simp at h
      | some ys =>
        obtain ⟨i, hi⟩ := List.getElem?_of_mem hf
        obtain ⟨y, hy1, hy⟩ := (mapM_some hm).2 i f hi
        refine ⟨y, hy, ?_⟩
        rw [hm] at h
        simp only [Option.map_some, Option.some.injEq] at h
        rw [← h]
        simp only [Rows.uptoBulk]
        have := bulk_mem (d := y.1) (l := ys.map (·.1)) (List.mem_map_of_mem (List.mem_of_getElem? hy1))
        omega
    · exact (‹∀ fs_1 : Array Field, some (TypeDesc.struct fs) = some (TypeDesc.struct fs_1) → False› fs rfl).elim
theorem dec_sliceB {X : Type} (f : X → List V) {sz : Nat} {e t : TypeId} (ht : P.underlying t = some (.slice e)) (hsz : P.cellsOf e = sz) (hpos : 0 < sz) {n : Nat} {cs : List Value} {r : DataW H × List MemPlace}
    (ih : ∀ m, m < n → ∀ cs y, DataW.trod enc P W 0 spare held m e cs = some y → Rows.uptoBulk y.1 ≤ Rows.uptoBulk r.1 → ∃ x : X, SimVs g00 W (f x) cs ∧ ∀ u ∈ cs, u.oneCell' = true) (h : DataW.trod enc P W 0 spare held n t cs = some r) :
    ∃ (l : List X) (v : Value), cs = [v] ∧ SimV g00 W (.lst sz none (l.map f)) v ∧ v.oneCell' = true := by
  cases n with
  | zero => simp [DataW.trod] at h
  | succ n =>
    unfold DataW.trod at h
    rw [ht] at h
    split at h <;> first | (cases h; done) | skip
    all_goals rename_i e'; first | (injection e' with e'; cases e'; done) | skip
    · exact ⟨[], _, rfl, by simp only [SimV]; exact ⟨none, 0, rfl, by simp, by simp [maxLen], by simp, .inl rfl, by simp, by simp [SimRows]⟩, rfl⟩
    · rename_i a len cap
      injection e' with e'
      injection e' with e'
      subst e'
      rw [hsz] at h
      split at h
      case isFalse => cases h
      rename_i hc
      obtain ⟨_, c1, c2⟩ := hc
      refine Exists.elim (show ∃ elems, (List.range len).mapM (fun i => (W.cells? 0 (a.add (i * sz)) sz).bind (DataW.trod enc P W 0 spare held n e)) = some elems from ?_) fun elems hm => ?_
      · cases hm : (List.range len).mapM (fun i => (W.cells? 0 (a.add (i * sz)) sz).bind (DataW.trod enc P W 0 spare held n e)) with
        | none => dsimp only at h; rw [hm] at h; simp at h
        | some ys => exact ⟨ys, rfl⟩
      obtain ⟨hl, hi⟩ := mapM_some hm
      have hbk : ∀ y ∈ elems, Rows.uptoBulk y.1 ≤ Rows.uptoBulk r.1 := by
        intro y hy
        dsimp only at h
        rw [hm] at h
        simp only [Option.bind_some, Option.map_eq_some_iff] at h
        obtain ⟨zs, -, rfl⟩ := h
        simp only [Rows.uptoBulk]
        have := bulk_mem (d := y.1) (l := elems.map (·.1)) (List.mem_map_of_mem hy)
        omega
      have each : ∀ i ∈ List.range len, ∃ x : X, ∃ cs : List Value, cs.length = sz ∧ SimVs g00 W (f x) cs ∧ (∀ u ∈ cs, u.oneCell' = true) ∧ ∀ (j : Nat) (u : Value), cs[j]? = some u → W.cell? ((a.add (i * sz)).add j) = some u := by
        intro i hir
        rw [List.mem_range] at hir
        obtain ⟨y, hy1, hy⟩ := hi i i (by rw [List.getElem?_range hir])
        cases hcs : W.cells? 0 (a.add (i * sz)) sz with
        | none => rw [hcs] at hy; simp at hy
        | some cs =>
          rw [hcs] at hy
          obtain ⟨k1, k2⟩ := dec_cells hcs
          obtain ⟨x, k3, k4⟩ := ih n (Nat.lt_succ_self n) cs y hy (hbk y (List.mem_of_getElem? hy1))
          exact ⟨x, cs, k1, k3, k4, k2⟩
      obtain ⟨xs, hxl, hxs⟩ := choose_list (List.range len) each
      rw [List.length_range] at hxl
      refine ⟨xs, _, rfl, ?_, rfl⟩
      simp only [SimV]
      refine ⟨some a, cap, by rw [List.length_map, hxl], by rw [List.length_map, hxl]; exact c1, c2, by simp, ?_, by simp, ?_⟩
      · cases xs with
        | nil => exact .inl rfl
        | cons x xs =>
          right
          obtain ⟨cs, k1, _, _, k2⟩ := hxs 0 0 x (by rw [List.getElem?_range (by simp at hxl; omega)]) rfl
          have h0 : cs[0]? = some (cs[0]'(by omega)) := List.getElem?_eq_getElem _
          have := World.cell?_spot (k2 0 _ h0)
          simpa [Addr.add] using this
      · cases xs with
        | nil => simp [SimRows]
        | cons x xs =>
          obtain ⟨cs, k1, _, _, k2⟩ := hxs 0 0 x (by rw [List.getElem?_range (by simp at hxl; omega)]) rfl
          have h0 : cs[0]? = some (cs[0]'(by omega)) := List.getElem?_eq_getElem _
          have hc0 := k2 0 _ h0
          have hsp : a.spot = none := by have := World.cell?_spot hc0; simpa [Addr.add] using this
          have hblk : a.block < W.heap.size := by
            unfold World.cell? at hc0
            split at hc0
            · rename_i hh
              have := (Array.getElem?_eq_some_iff.1 hh).1
              rw [Addr.add_eq hsp, Addr.add_eq rfl] at this
              exact this
            · cases hc0
          obtain ⟨b, off, sp⟩ := a
          simp only at hsp hblk
          subst hsp
          simp only [Option.getD_some]
          refine dec_rows hblk (x :: xs) off fun i y hy => ?_
          have hil : i < len := by rw [← hxl]; exact (List.getElem?_eq_some_iff.1 hy).1
          obtain ⟨cs, j1, j2, j3, j4⟩ := hxs i i y (by rw [List.getElem?_range hil]) hy
          refine ⟨cs, j1, j2, j3, fun j u hj => ?_⟩
          have := j4 j u hj
          rw [show (Addr.mk b off none).add (i * sz) = ⟨b, off + i * sz, none⟩ from Addr.add_eq rfl _, show (Addr.mk b (off + i * sz) none).add j = ⟨b, off + i * sz + j, none⟩ from Addr.add_eq rfl _] at this
          exact this
    all_goals first | (exact (‹∀ (e_1 : TypeId) (a : Addr) (len cap : Nat), some (TypeDesc.slice e) = some (TypeDesc.slice e_1) → _ → False› e _ _ _ rfl (by assumption)).elim) | (simp at h)
end
theorem dec_NodeB {H : Type} {enc : TypeId × Value → H} {W : World} {spare : Nat → Bool} {held : Bool} : ∀ (n : Nat) (cs : List Value) (r : DataW H × List MemPlace), DataW.trod enc Try.prog W 0 spare held n 32 cs = some r → Rows.uptoBulk r.1 ≤ 1048576 →
    ∃ x : { x : Node' // x.needs.length ≤ 1048576 }, SimVs g00 W (encN x.1) cs ∧ ∀ u ∈ cs, u.oneCell' = true := by
  intro n cs r h hb
  obtain ⟨m, rfl, hl, hf⟩ := dec_structB Try.underlying32 h
  rw [cells32] at hl
  obtain ⟨c0, t0, rfl, l0⟩ := len_succ hl
  obtain ⟨c1, t1, rfl, l1⟩ := len_succ l0
  obtain rfl := List.eq_nil_of_length_eq_zero l1
  simp only [List.forall_mem_cons, cells23, cells9, List.drop_zero, List.drop_succ_cons, List.take_succ_cons, List.take_zero] at hf
  obtain ⟨⟨y0, h0, -⟩, ⟨y1, h1, b1⟩, _⟩ := hf
  obtain ⟨x0, e0, k0⟩ := dec_str Try.underlying9 h0
  obtain ⟨x1, v1, e1, k1, j1⟩ := dec_Lstring h1
  simp only [List.cons.injEq, and_true] at e0 e1
  subst e0 e1
  have q := bulk_slice Try.underlying23 h1 k1
  rw [List.length_map] at q
  refine ⟨⟨Node'.mk x0 x1, by simp only; omega⟩, ?_, ?_⟩
  · exact ⟨_, _, rfl, ⟨rfl, k0⟩, ⟨_, _, rfl, k1, rfl⟩⟩
  · intro u hu
    simp only [List.mem_cons, List.not_mem_nil, or_false] at hu 
    rcases hu with rfl | rfl <;> first | rfl | exact j1
theorem dec_LNodeB {H : Type} {enc : TypeId × Value → H} {W : World} {spare : Nat → Bool} {held : Bool} {n : Nat} {cs : List Value} {r : DataW H × List MemPlace} (h : DataW.trod enc Try.prog W 0 spare held n 22 cs = some r) (hb : Rows.uptoBulk r.1 ≤ 1048576) :
    ∃ (l : List (Node')) (v : Value), cs = [v] ∧ SimV g00 W (.lst 2 none (l.map encN)) v ∧ v.oneCell' = true ∧ NOk l := by
  obtain ⟨l, v, rfl, k2, k3⟩ := dec_sliceB (X := { x : Node' // x.needs.length ≤ 1048576 }) (fun x => encN x.1) Try.underlying22 cells32 (by decide) (fun m _ cs y hy hyb => dec_NodeB m cs y hy (by omega)) h
  have e : l.map (fun x => encN x.1) = (l.map (·.1)).map encN := by rw [List.map_map]; rfl
  have q := bulk_slice Try.underlying22 h k2
  rw [List.length_map] at q
  refine ⟨l.map (·.1), v, rfl, by rw [← e]; exact k2, k3, ⟨by rw [List.length_map]; omega, fun n hn => ?_⟩⟩
  obtain ⟨x, _, rfl⟩ := List.mem_map.1 hn
  exact x.2
end Go.Proofs.Ytcegdbniggdckaa.Gx

namespace Go.Proofs.Ytcegdbniggdckaa.Gx
open Go Go.Proofs.Ytcegdbniggdckaa.Gw
set_option linter.unusedSimpArgs false
set_option linter.unusedVariables false

theorem any_congr {l m : List Str} (h : ∀ x, x ∈ l ↔ x ∈ m) (p : Str → Bool) : l.any p = m.any p := by
  rw [Bool.eq_iff_iff, List.any_eq_true, List.any_eq_true]
  exact ⟨fun ⟨x, hx, hp⟩ => ⟨x, (h x).1 hx, hp⟩, fun ⟨x, hx, hp⟩ => ⟨x, (h x).2 hx, hp⟩⟩
theorem rch_congr {f g : Str → List Str} (h : ∀ n m, m ∈ f n ↔ m ∈ g n) {a b : Str} (k : Rch f a b) : Rch g a b := by
  induction k with
  | one hb => exact .one ((h _ _).1 hb)
  | step _ hc ih => exact .step ih ((h _ _).1 hc)
theorem cycL_congr {f g : Str → List Str} (h : ∀ n m, m ∈ f n ↔ m ∈ g n) : ∀ l : List Str, cycL f l = cycL g l
  | [] => rfl
  | n :: r => by
    have e : Rch f n n ↔ Rch g n n := ⟨rch_congr h, rch_congr fun n m => (h n m).symm⟩
    rw [cycL, cycL, cycL_congr h r]
    by_cases c : Rch f n n
    · rw [if_pos c, if_pos (e.1 c)]
    · rw [if_neg c, if_neg (fun k => c (e.2 k))]
theorem pickL_congr {f g : Str → List Str} (h : ∀ n m, m ∈ f n ↔ m ∈ g n) (l : List Str) : pickL f l = pickL g l := by
  unfold pickL
  congr 1
  funext n
  rw [any_congr (h n)]
theorem putL_congr {f g : Str → List Str} (h : ∀ n m, m ∈ f n ↔ m ∈ g n) : ∀ (k : Nat) (left out : List Str), putL f k left out = putL g k left out
  | 0, _, _ => rfl
  | k + 1, left, out => by rw [putL, putL, pickL_congr h, cycL_congr h, putL_congr h k]
theorem missL_congr {M N : NM} (h : ∀ s, (asc s M).isSome = (asc s N).isSome) (h2 : ∀ n m, m ∈ ndM M n ↔ m ∈ ndM N n) : ∀ l : List Str, missL M l = missL N l
  | [] => rfl
  | n :: r => by
    rw [missL, missL, missL_congr h h2 r, any_congr (h2 n)]
    have : (fun m => !(asc m M).isSome) = fun m => !(asc m N).isSome := by funext m; rw [h]
    rw [this]
theorem dup_free : ∀ {l : List Node'} {M : NM}, (l.map (·.name)).Nodup → (∀ n ∈ l, asc n.name M = none) → (dupL l M).1 = none
  | [], _, _, _ => rfl
  | u :: r, M, h1, h2 => by
    rw [List.map_cons, List.nodup_cons] at h1
    rw [dupL, h2 u (by simp), if_neg (by simp)]
    refine dup_free h1.2 fun n hn => ?_
    have hne : n.name ≠ u.name := fun e => h1.1 (List.mem_map.2 ⟨n, hn, e⟩)
    rw [asc_ups, if_neg hne]
    exact h2 n (by simp [hn])
theorem fnd_mem {s : Str} {v : List Str} : ∀ {l : List Node'}, fndL s l = some v → ∃ n ∈ l, n.name = s ∧ n.needs = v
  | [], h => by simp [fndL] at h
  | n :: r, h => by
    rw [fndL] at h
    by_cases e : n.name = s
    · rw [if_pos e] at h; cases h; exact ⟨n, by simp, e, rfl⟩
    · rw [if_neg e] at h
      obtain ⟨m, h1, h2⟩ := fnd_mem h
      exact ⟨m, by simp [h1], h2⟩
theorem fnd_none {s : Str} : ∀ {l : List Node'}, fndL s l = none ↔ ∀ n ∈ l, n.name ≠ s
  | [] => by simp [fndL]
  | n :: r => by
    rw [fndL]
    by_cases e : n.name = s
    · rw [if_pos e]; simp [e]
    · rw [if_neg e, fnd_none]; simp [e]
/-- From the last one on. -/
def turnL (l : List Node') : List Node' := l.reverse.map fun n => ⟨n.name, n.needs.reverse⟩
theorem turn_names (l : List Node') : (turnL l).map (·.name) = (l.map (·.name)).reverse := by simp [turnL, List.map_map, Function.comp_def]
theorem order_turn (l : List Node') : (orderL l).2.2 = (orderL (turnL l)).2.2 ∧ (orderL l).1 = (orderL (turnL l)).1 ∧ ((orderL l).2.1 = (orderL (turnL l)).2.1 ∨ (orderL l).2.2 = 8) := by
  cases h1 : (dupL l []).1 with
  | some n =>
    have h2 : (dupL (turnL l) []).1 ≠ none := fun h2 => by
      obtain ⟨-, -, e3, -, -⟩ := dup_none h2
      rw [turn_names] at e3
      have := dup_free (l := l) (M := []) (List.reverse_perm _ |>.nodup_iff.1 e3) (fun n _ => rfl)
      rw [this] at h1; cases h1
    cases h3 : (dupL (turnL l) []).1 with
    | none => exact absurd h3 h2
    | some m => unfold orderL; rw [h1, h3]; exact ⟨rfl, rfl, .inr rfl⟩
  | none =>
    obtain ⟨e1, e2, e3, -, e5⟩ := dup_none h1
    have e3' : ((turnL l).map (·.name)).Nodup := by rw [turn_names]; exact (List.reverse_perm _).nodup_iff.2 e3
    have h2 := dup_free (l := turnL l) (M := []) e3' (fun n _ => rfl)
    obtain ⟨k1, k2, -, -, k5⟩ := dup_none h2
    have hf : ∀ s, fndL s (turnL l) = (fndL s l).map List.reverse := fun s => by
      cases h : fndL s l with
      | some v =>
        obtain ⟨n, hn, rfl, rfl⟩ := fnd_mem h
        have hm : (⟨n.name, n.needs.reverse⟩ : Node') ∈ turnL l := List.mem_map.2 ⟨n, List.mem_reverse.2 hn, rfl⟩
        exact k5 _ hm
      | none =>
        refine fnd_none.2 fun n hn e => ?_
        obtain ⟨m, hm, rfl⟩ := List.mem_map.1 hn
        exact fnd_none.1 h m (List.mem_reverse.1 hm) e
    have hs : orderL l = orderL (turnL l) := by
      unfold orderL
      rw [h1, h2]
      simp only
      generalize (dupL l []).2 = M at *
      generalize (dupL (turnL l) []).2 = N at *
      simp only [List.map_nil, List.nil_append, asc] at e1 e2 k1 k2
      have hA : ∀ s, asc s N = (asc s M).map List.reverse := fun s => by rw [k1, e1, hf]
      have hB : ∀ n m, m ∈ ndM M n ↔ m ∈ ndM N n := fun n m => by
        unfold ndM; rw [hA]; cases asc n M <;> simp
      have hC : sortS (M.map (·.1)) = sortS (N.map (·.1)) := sortS_eq (by rw [e2, k2, turn_names]; exact (List.reverse_perm _).symm)
      rw [← hC, missL_congr (fun s => by rw [hA]; cases asc s M <;> rfl) hB, putL_congr hB]
    rw [hs]
    exact ⟨rfl, rfl, .inl rfl⟩
end Go.Proofs.Ytcegdbniggdckaa.Gx
