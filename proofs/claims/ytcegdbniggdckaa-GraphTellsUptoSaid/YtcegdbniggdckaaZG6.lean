/- What comes in, as it is read, as abstract values: nothing of it is owned. Maps from which nothing is taken, as lists of what they hold. The equations of what an operation does, under two names. Sorting and taking out, off the shelf: what they do to an array of strings. The table of the types of this place, as the engine wants it: each row held against the program. Contracts of slices.Sort and slices.Delete, of an array of strings. Strings, and lists of strings. Contracts: slices.Index, Contains, IndexFunc, ContainsFunc, of lists and arrays of strings. Contracts: graph.Order's closures. Contract of slices.Clone. Contract of graph.cycle: the least name, of those left, that needs itself by way of others. Small laws: sorting, the first of which it holds. -/
import Derived.Test.YtcegdbniggdckaaZG5
import GoSem.ClaimChange
import Derived.ChangeOld
import Derived.Shelf.Lay
import Derived.Shelf.LaySoft
import Derived.Shelf.Sort.Plain
import Derived.Shelf.Slices.In.SortNone
import Derived.Shelf.Slices.Delete
import Derived.Shelf.Slices.Clone
import Derived.Sort.OwnSorted
import Derived.Test.YtcegdbniggdckaaProg
import Derived.KernelRfl
import Derived.Lib.Walk

namespace Go.Proofs.Ytcegdbniggdckaa.Gw
open Go
set_option linter.unusedSimpArgs false

/-- The ghost at the beginning. -/
def g00 : G := { own := fun _ => none, pb := fun _ => 0, tv := fun _ => .slice none 0 0, len := fun _ => 0, n := 0 }
theorem sim00 (T : Nat → TI) (w : World) : SimSt T g00 [] w := ⟨rfl, fun i e h => by simp at h, fun i j ei ej b h => by simp at h⟩

theorem mapM_some {α β : Type} {f : α → Option β} : ∀ {l : List α} {r : List β}, l.mapM f = some r → r.length = l.length ∧ ∀ (i : Nat) (x : α), l[i]? = some x → ∃ y, r[i]? = some y ∧ f x = some y
  | [], r, h => by simp at h; subst h; exact ⟨rfl, fun i x h => by simp at h⟩
  | a :: l, r, h => by
    rw [List.mapM_cons] at h
    cases ha : f a with
    | none => rw [ha] at h; simp at h
    | some y =>
      rw [ha] at h
      cases hl : l.mapM f with
      | none => rw [hl] at h; simp at h
      | some ys =>
        rw [hl] at h
        simp at h
        subst h
        obtain ⟨h1, h2⟩ := mapM_some hl
        refine ⟨by simp [h1], fun i x hx => ?_⟩
        cases i with
        | zero => simp at hx; subst hx; exact ⟨y, rfl, ha⟩
        | succ i => exact h2 i x (by simpa using hx)

section
variable {H : Type} {enc : TypeId × Value → H} {P : Program} {W : World} {spare : Nat → Bool} {held : Bool}

theorem dec_int {t : TypeId} {k : IntKind} (ht : P.underlying t = some (.int k)) {n : Nat} {cs : List Value} {r : DataW H × List MemPlace} (h : DataW.trod enc P W 0 spare held n t cs = some r) : ∃ m, cs = [.int k m] := by
  cases n with
  | zero => simp [DataW.trod] at h
  | succ n =>
    unfold DataW.trod at h
    rw [ht] at h
    split at h <;> first | (cases h; done) | skip
    all_goals rename_i e; first | (injection e with e; cases e; done) | skip
    all_goals simp_all
theorem dec_str {t : TypeId} (ht : P.underlying t = some .string) {n : Nat} {cs : List Value} {r : DataW H × List MemPlace} (h : DataW.trod enc P W 0 spare held n t cs = some r) : ∃ s : List UInt8, cs = [.string ⟨s.toArray⟩] ∧ s.length ≤ 9223372036854775807 := by
  cases n with
  | zero => simp [DataW.trod] at h
  | succ n =>
    unfold DataW.trod at h
    rw [ht] at h
    split at h <;> first | (cases h; done) | skip
    all_goals rename_i e; first | (injection e with e; cases e; done) | skip
    all_goals rename_i s
    all_goals split at h
    all_goals first | (cases h; done) | skip
    all_goals rename_i hs
    all_goals exact ⟨s.data.toList, by cases s; rfl, by rw [Array.length_toList]; exact hs⟩
theorem dec_struct {t : TypeId} {fs : Array Field} (ht : P.underlying t = some (.struct fs)) {n : Nat} {cs : List Value} {r : DataW H × List MemPlace} (h : DataW.trod enc P W 0 spare held n t cs = some r) :
    ∃ m, n = m + 1 ∧ cs.length = P.cellsOf t ∧ ∀ f ∈ fs.toList, ∃ y, DataW.trod enc P W 0 spare held m f.type ((cs.drop f.offset).take (P.cellsOf f.type)) = some y := by
  cases n with
  | zero => simp [DataW.trod] at h
  | succ n =>
    unfold DataW.trod at h
    rw [ht] at h
    split at h <;> first | (cases h; done) | skip
    all_goals rename_i e; first | (injection e with e; cases e; done) | skip
    · rename_i cs _ _ _
      injection e with e
      injection e with e
      subst e
      split at h
      case isFalse => simp at h
      rename_i hl
      refine ⟨n, rfl, hl, fun f hf => ?_⟩
      cases hm : List.mapM (fun f => DataW.trod enc P W 0 spare held n f.type (List.take (P.cellsOf f.type) (List.drop f.offset cs))) fs.toList with
      | none => rw [hm] at h; simp at h
      | some ys =>
        obtain ⟨i, hi⟩ := List.getElem?_of_mem hf
        obtain ⟨y, _, hy⟩ := (mapM_some hm).2 i f hi
        exact ⟨y, hy⟩
    · exact (‹∀ fs_1 : Array Field, some (TypeDesc.struct fs) = some (TypeDesc.struct fs_1) → False› fs rfl).elim
theorem dec_cells {a : Addr} {n : Nat} {cs : List Value} (h : W.cells? 0 a n = some cs) : cs.length = n ∧ ∀ (j : Nat) (u : Value), cs[j]? = some u → W.cell? (a.add j) = some u := by
  unfold World.cells? at h
  simp only [Nat.zero_le, if_true] at h
  obtain ⟨h1, h2⟩ := mapM_some h
  rw [List.length_range] at h1
  refine ⟨h1, fun j u hj => ?_⟩
  have hlt := (List.getElem?_eq_some_iff.1 hj).1
  obtain ⟨y, hy, hc⟩ := h2 j j (by rw [List.getElem?_range (by omega)])
  rw [hj] at hy
  cases hy
  exact hc
/-- Rows, at a plain address. -/
theorem dec_rows {X : Type} {f : X → List V} {sz b : Nat} (hb : b < W.heap.size) : ∀ (l : List X) (off : Nat), (∀ (i : Nat) (x : X), l[i]? = some x → ∃ cs : List Value, cs.length = sz ∧ SimVs g00 W (f x) cs ∧ (∀ u ∈ cs, u.oneCell' = true) ∧ ∀ (j : Nat) (u : Value), cs[j]? = some u → W.cell? ⟨b, off + i * sz + j, none⟩ = some u) →
    SimRows g00 W ⟨b, off, none⟩ sz (l.map f)
  | [], off, _ => by simp [SimRows]
  | x :: l, off, h => by
    obtain ⟨cs, h1, h2, h3, h4⟩ := h 0 x rfl
    simp only [List.map_cons, SimRows]
    have at_ : ∀ (ys : List V) (us : List Value) (o : Nat), SimVs g00 W ys us → (∀ u ∈ us, u.oneCell' = true) → (∀ (j : Nat) (u : Value), us[j]? = some u → W.cell? ⟨b, o + j, none⟩ = some u) → SimAt g00 W ⟨b, o, none⟩ ys := by
      intro ys
      induction ys with
      | nil => intro us o _ _ _; simp [SimAt]
      | cons y ys ih =>
        intro us o k1 k2 k3
        simp only [SimVs] at k1
        obtain ⟨u, r, rfl, k4, k5⟩ := k1
        simp only [SimAt]
        refine ⟨⟨u, ⟨rfl, hb, fun k hk => by cases hk⟩, by simpa using k3 0 u rfl, k2 u (by simp), k4⟩, ?_⟩
        have e1 : (Addr.mk b o none).add 1 = ⟨b, o + 1, none⟩ := Addr.add_eq rfl 1
        rw [e1]
        exact ih r (o + 1) k5 (fun v hv => k2 v (by simp [hv])) fun j v hj => by
          have := k3 (j + 1) v (by simpa using hj)
          rw [show o + (j + 1) = o + 1 + j by omega] at this; exact this
    refine ⟨by rw [← h2.length]; exact h1, at_ _ cs off h2 h3 (by simpa using h4), ?_⟩
    have e1 : (Addr.mk b off none).add sz = ⟨b, off + sz, none⟩ := Addr.add_eq rfl _
    rw [e1]
    refine dec_rows hb l (off + sz) fun i y hi => ?_
    obtain ⟨cs, k1, k2, k3, k4⟩ := h (i + 1) y (by simpa using hi)
    refine ⟨cs, k1, k2, k3, fun j u hj => ?_⟩
    have := k4 j u hj
    rw [show off + (i + 1) * sz + j = off + sz + i * sz + j by rw [Nat.succ_mul]; omega] at this
    exact this
theorem choose_list {α X : Type} {R : α → X → Prop} : ∀ (l : List α), (∀ a ∈ l, ∃ x, R a x) → ∃ m : List X, m.length = l.length ∧ ∀ (i : Nat) (a : α) (x : X), l[i]? = some a → m[i]? = some x → R a x
  | [], _ => ⟨[], rfl, fun i a x h => by simp at h⟩
  | a :: l, h => by
    obtain ⟨x, hx⟩ := h a (by simp)
    obtain ⟨m, h1, h2⟩ := choose_list l fun b hb => h b (by simp [hb])
    refine ⟨x :: m, by simp [h1], fun i b y hb hy => ?_⟩
    cases i with
    | zero => simp at hb hy; subst hb; subst hy; exact hx
    | succ i => exact h2 i b y (by simpa using hb) (by simpa using hy)

theorem dec_slice {X : Type} (f : X → List V) {sz : Nat} {e t : TypeId} (ht : P.underlying t = some (.slice e)) (hsz : P.cellsOf e = sz) (hpos : 0 < sz) {n : Nat} {cs : List Value} {r : DataW H × List MemPlace}
    (ih : ∀ m, m < n → ∀ cs r, DataW.trod enc P W 0 spare held m e cs = some r → ∃ x : X, SimVs g00 W (f x) cs ∧ ∀ u ∈ cs, u.oneCell' = true) (h : DataW.trod enc P W 0 spare held n t cs = some r) :
    ∃ (l : List X) (v : Value), cs = [v] ∧ SimV g00 W (.lst sz none (l.map f)) v ∧ v.oneCell' = true := by
  cases n with
  | zero => simp [DataW.trod] at h
  | succ n =>
    unfold DataW.trod at h
    rw [ht] at h
    split at h <;> first | (cases h; done) | skip
    all_goals rename_i e'; first | (injection e' with e'; cases e'; done) | skip
    · exact ⟨[], _, rfl, by simp only [SimV]; exact ⟨none, 0, rfl, by simp, by simp [maxLen], by simp, .inl rfl, by simp, by simp [SimRows]⟩, rfl⟩
    · rename_i a len cap
      injection e' with e'
      injection e' with e'
      subst e'
      rw [hsz] at h
      split at h
      case isFalse => cases h
      rename_i hc
      obtain ⟨_, c1, c2⟩ := hc
      refine Exists.elim (show ∃ elems, (List.range len).mapM (fun i => (W.cells? 0 (a.add (i * sz)) sz).bind (DataW.trod enc P W 0 spare held n e)) = some elems from ?_) fun elems hm => ?_
      · cases hm : (List.range len).mapM (fun i => (W.cells? 0 (a.add (i * sz)) sz).bind (DataW.trod enc P W 0 spare held n e)) with
        | none => dsimp only at h; rw [hm] at h; simp at h
        | some ys => exact ⟨ys, rfl⟩
      obtain ⟨hl, hi⟩ := mapM_some hm
      have each : ∀ i ∈ List.range len, ∃ x : X, ∃ cs : List Value, cs.length = sz ∧ SimVs g00 W (f x) cs ∧ (∀ u ∈ cs, u.oneCell' = true) ∧ ∀ (j : Nat) (u : Value), cs[j]? = some u → W.cell? ((a.add (i * sz)).add j) = some u := by
        intro i hir
        rw [List.mem_range] at hir
        obtain ⟨y, _, hy⟩ := hi i i (by rw [List.getElem?_range hir])
        cases hcs : W.cells? 0 (a.add (i * sz)) sz with
        | none => rw [hcs] at hy; simp at hy
        | some cs =>
          rw [hcs] at hy
          obtain ⟨k1, k2⟩ := dec_cells hcs
          obtain ⟨x, k3, k4⟩ := ih n (Nat.lt_succ_self n) cs y hy
          exact ⟨x, cs, k1, k3, k4, k2⟩
      obtain ⟨xs, hxl, hxs⟩ := choose_list (List.range len) each
      rw [List.length_range] at hxl
      refine ⟨xs, _, rfl, ?_, rfl⟩
      simp only [SimV]
      refine ⟨some a, cap, by rw [List.length_map, hxl], by rw [List.length_map, hxl]; exact c1, c2, by simp, ?_, by simp, ?_⟩
      · cases xs with
        | nil => exact .inl rfl
        | cons x xs =>
          right
          obtain ⟨cs, k1, _, _, k2⟩ := hxs 0 0 x (by rw [List.getElem?_range (by simp at hxl; omega)]) rfl
          have h0 : cs[0]? = some (cs[0]'(by omega)) := List.getElem?_eq_getElem _
          have := World.cell?_spot (k2 0 _ h0)
          simpa [Addr.add] using this
      · cases xs with
        | nil => simp [SimRows]
        | cons x xs =>
          obtain ⟨cs, k1, _, _, k2⟩ := hxs 0 0 x (by rw [List.getElem?_range (by simp at hxl; omega)]) rfl
          have h0 : cs[0]? = some (cs[0]'(by omega)) := List.getElem?_eq_getElem _
          have hc0 := k2 0 _ h0
          have hsp : a.spot = none := by have := World.cell?_spot hc0; simpa [Addr.add] using this
          have hblk : a.block < W.heap.size := by
            unfold World.cell? at hc0
            split at hc0
            · rename_i hh
              have := (Array.getElem?_eq_some_iff.1 hh).1
              rw [Addr.add_eq hsp, Addr.add_eq rfl] at this
              exact this
            · cases hc0
          obtain ⟨b, off, sp⟩ := a
          simp only at hsp hblk
          subst hsp
          simp only [Option.getD_some]
          refine dec_rows hblk (x :: xs) off fun i y hy => ?_
          have hil : i < len := by rw [← hxl]; exact (List.getElem?_eq_some_iff.1 hy).1
          obtain ⟨cs, j1, j2, j3, j4⟩ := hxs i i y (by rw [List.getElem?_range hil]) hy
          refine ⟨cs, j1, j2, j3, fun j u hj => ?_⟩
          have := j4 j u hj
          rw [show (Addr.mk b off none).add (i * sz) = ⟨b, off + i * sz, none⟩ from Addr.add_eq rfl _, show (Addr.mk b (off + i * sz) none).add j = ⟨b, off + i * sz + j, none⟩ from Addr.add_eq rfl _] at this
          exact this
    all_goals first | (exact (‹∀ (e_1 : TypeId) (a : Addr) (len cap : Nat), some (TypeDesc.slice e) = some (TypeDesc.slice e_1) → _ → False› e _ _ _ rfl (by assumption)).elim) | (simp at h)
end
end Go.Proofs.Ytcegdbniggdckaa.Gw

namespace Go.Proofs.Ytcegdbniggdckaa.Gw
open Go
set_option linter.unusedSimpArgs false

def numb : Nat → List (V × V) → List (Nat × V × V)
  | _, [] => []
  | n, (k, v) :: r => (n, k, v) :: numb (n + 1) r
section
variable {κ α : Type}
/-- Where a key stands, and what with. -/
def ascI [DecidableEq κ] (s : κ) : List (κ × α) → Nat → Option (Nat × α)
  | [], _ => none
  | (k, a) :: r, i => if s = k then some (i, a) else ascI s r (i + 1)
def asc [DecidableEq κ] (s : κ) : List (κ × α) → Option α
  | [] => none
  | (k, a) :: r => if s = k then some a else asc s r
/-- A key is laid in. -/
def ups [DecidableEq κ] (s : κ) (a : α) : List (κ × α) → List (κ × α)
  | [] => [(s, a)]
  | (k, b) :: r => if s = k then (s, a) :: r else (k, b) :: ups s a r
theorem ascI_snd [DecidableEq κ] (s : κ) : ∀ (l : List (κ × α)) (i : Nat), (ascI s l i).map (·.2) = asc s l
  | [], _ => rfl
  | (k, a) :: r, i => by
    simp only [ascI, asc]
    split
    · rfl
    · exact ascI_snd s r (i + 1)

def mkE (ek : κ → V) (ev : α → V) (n : Nat) (l : List (κ × α)) : List (Nat × V × V) := numb n (l.map fun p => (ek p.1, ev p.2))
def mapE (ek : κ → V) (ev : α → V) (l : List (κ × α)) : Ent := .map l.length (mkE ek ev 0 l)
/-- Keys that are told apart as they are. -/
def KeyP [DecidableEq κ] (T : Nat → TI) (k : TK) (ek : κ → V) : Prop := ∀ x y, keyEq T k (ek x) (ek y) = some (decide (x = y))
variable {ek : κ → V} {ev : α → V}
theorem mfind_mkE [DecidableEq κ] {T : Nat → TI} {k : TK} (hk : KeyP T k ek) (s : κ) : ∀ (l : List (κ × α)) (n i : Nat), mfind T k (ek s) (mkE ek ev n l) i = some ((ascI s l i).map fun p => (p.1, ev p.2))
  | [], n, i => rfl
  | (k', a) :: r, n, i => by
    have ih := mfind_mkE hk s r (n + 1) (i + 1)
    simp only [mkE] at ih
    have hk' := hk s k'
    simp only [mkE, List.map_cons, numb, mfind, hk', ascI]
    by_cases h : s = k'
    · simp [h]
    · simp [h, ih]
theorem look_mapE [DecidableEq κ] {T : Nat → TI} {k : TK} (hk : KeyP T k ek) (i : TI) (ok : Bool) (s : κ) (st : St) (l : List (κ × α)) :
    lookE T k i ok (ek s) st (some (mapE ek ev l)) = some (lookR ok (((asc s l).map ev).getD (zeroV i)) (asc s l).isSome, st, True) := by
  simp only [lookE, mapE, mfind_mkE hk, Option.map_some]
  rw [← ascI_snd s l 0]
  cases ascI s l 0 <;> rfl
theorem numb_len : ∀ (l : List (V × V)) (n : Nat), (numb n l).length = l.length
  | [], _ => rfl
  | (k, v) :: r, n => by simp [numb, numb_len r (n + 1)]
theorem mkE_len (n : Nat) (l : List (κ × α)) : (mkE ek ev n l).length = l.length := by simp [mkE, numb_len]
theorem put_none [DecidableEq κ] : ∀ (l : List (κ × α)) (s : κ) (a : α) (i n : Nat), ascI s l i = none → ups s a l = l ++ [(s, a)] ∧ mkE ek ev n (l ++ [(s, a)]) = mkE ek ev n l ++ [(n + l.length, ek s, ev a)]
  | [], s, a, i, n, _ => by simp [ups, mkE, numb]
  | (k, b) :: r, s, a, i, n, h => by
    simp only [ascI] at h
    split at h
    · cases h
    rename_i hk
    obtain ⟨h1, h2⟩ := put_none r s a (i + 1) (n + 1) h
    simp only [mkE] at h2
    refine ⟨by simp [ups, hk, h1], ?_⟩
    simp only [mkE, List.cons_append, List.map_cons, numb, h2, List.length_cons]
    rw [show n + (r.length + 1) = n + 1 + r.length by omega]
theorem put_some [DecidableEq κ] : ∀ (l : List (κ × α)) (s : κ) (a b : α) (i j n : Nat), ascI s l i = some (j, b) → (ups s a l).length = l.length ∧ i ≤ j ∧ mset (j - i) (ek s) (ev a) (mkE ek ev n l) = mkE ek ev n (ups s a l)
  | [], s, a, b, i, j, n, h => by simp [ascI] at h
  | (k, c) :: r, s, a, b, i, j, n, h => by
    simp only [ascI] at h
    split at h
    · rename_i hk
      simp only [Option.some.injEq, Prod.mk.injEq] at h
      obtain ⟨rfl, rfl⟩ := h
      simp [ups, hk, mkE, numb, mset]
    · rename_i hk
      obtain ⟨h1, h2, h3⟩ := put_some r s a b (i + 1) j (n + 1) h
      refine ⟨by simp [ups, hk, h1], by omega, ?_⟩
      simp only [mkE] at h3
      simp only [ups, hk, if_false, mkE, List.map_cons, numb]
      rw [show j - i = (j - (i + 1)) + 1 by omega]
      simp only [mset, h3]
theorem put_mapE [DecidableEq κ] {T : Nat → TI} {k : TK} (hk : KeyP T k ek) (o : Nat) (s : κ) (a : α) (st : St) (l : List (κ × α)) :
    putE T k o (ek s) (ev a) st (some (mapE ek ev l)) = some (.junk, st.set o (mapE ek ev (ups s a l)), True) := by
  simp only [putE, mapE, mfind_mkE hk, Option.map_some]
  cases h : ascI s l 0 with
  | none =>
    obtain ⟨h1, h2⟩ := put_none (ek := ek) (ev := ev) l s a 0 0 h
    simp only [Option.map_none, mput, h1, h2, List.length_append, List.length_cons, List.length_nil, Nat.zero_add]
  | some p =>
    obtain ⟨j, b⟩ := p
    obtain ⟨h1, h2, h3⟩ := put_some (ek := ek) (ev := ev) l s a b 0 j 0 h
    rw [Nat.sub_zero] at h3
    simp only [Option.map_some, mput, h1, h3]
theorem make_mapE {k e : TypeId} (ek : κ → V) (ev : α → V) (st : St) : makeMapE (.map k e) st = some (.map st.length, st ++ [mapE ek ev []], True) := rfl
theorem len_mapE (st : St) (l : List (κ × α)) : lenE st (some (mapE ek ev l)) = some (.int .i64 l.length, st, True) := by simp only [lenE, mapE, mkE_len]
theorem range_mapE (o : Nat) (st : St) (l : List (κ × α)) : rangeE o st (some (mapE ek ev l)) = some (.ptr st.length 0, st ++ [.iter o l.length []], True) := rfl

theorem mkE_mem : ∀ (l : List (κ × α)) (n : Nat) (e : Nat × V × V), e ∈ mkE ek ev n l → ∃ i a, l[i]? = some a ∧ e = (n + i, ek a.1, ev a.2)
  | [], n, e, h => by simp [mkE, numb] at h
  | (k, b) :: r, n, e, h => by
    simp only [mkE, List.map_cons, numb, List.mem_cons] at h
    rcases h with rfl | h
    · exact ⟨0, (k, b), rfl, rfl⟩
    · obtain ⟨i, a, h1, h2⟩ := mkE_mem r (n + 1) e h
      exact ⟨i + 1, a, by simpa using h1, by rw [h2, show n + 1 + i = n + (i + 1) by omega]⟩
theorem mkE_get : ∀ (l : List (κ × α)) (n i : Nat) (a : κ × α), l[i]? = some a → (n + i, ek a.1, ev a.2) ∈ mkE ek ev n l
  | [], n, i, a, h => by simp at h
  | (k, b) :: r, n, 0, a, h => by simp at h; subst h; simp [mkE, numb]
  | (k, b) :: r, n, i + 1, a, h => by
    have := mkE_get r (n + 1) i a (by simpa using h)
    simp only [mkE, List.map_cons, numb, List.mem_cons]
    right
    rw [show n + (i + 1) = n + 1 + i by omega]; exact this
/-- Whom a walk may meet. -/
def nextL (ek : κ → V) (ev : α → V) (o m : Nat) (l : List (κ × α)) (seen : List Nat) (st : St) : List (V × St) := match leftOf' (mkE ek ev 0 l) seen with
  | [] => [(.tup [.bool false], st)]
  | x => x.map fun e => (.tup [.bool true, e.2.1, e.2.2], st.set o (.iter m l.length (seen ++ [e.1])))
theorem next_mapE (o m : Nat) (seen : List Nat) (st : St) (l : List (κ × α)) : nextE o m l.length seen st (some (mapE ek ev l)) = some (nextL ek ev o m l seen st) := by
  simp only [nextE, mapE, if_true]
  rfl
/-- A walk's step: it is over, all being met; or it meets one. -/
theorem nextL_all {o m : Nat} {l : List (κ × α)} {seen : List Nat} {st : St} {X : V × St → Prop} (h0 : (∀ i, i < l.length → i ∈ seen) → X (.tup [.bool false], st))
    (h1 : ∀ i a, l[i]? = some a → i < l.length → i ∉ seen → X (.tup [.bool true, ek a.1, ev a.2], st.set o (.iter m l.length (seen ++ [i])))) : ∀ p ∈ nextL ek ev o m l seen st, X p := by
  intro p hp
  unfold nextL at hp
  split at hp
  · rename_i hn
    simp only [List.mem_singleton] at hp
    subst hp
    refine h0 fun i hi => ?_
    by_cases hs : i ∈ seen
    · exact hs
    · have := mkE_get (ek := ek) (ev := ev) l 0 i _ (List.getElem?_eq_getElem hi)
      have hm : (0 + i, ek l[i].1, ev l[i].2) ∈ leftOf' (mkE ek ev 0 l) seen := List.mem_filter.2 ⟨this, by simpa using hs⟩
      rw [hn] at hm
      simp at hm
  · obtain ⟨e, he, rfl⟩ := List.mem_map.1 hp
    obtain ⟨h2, h3⟩ := List.mem_filter.1 he
    obtain ⟨i, a, h4, rfl⟩ := mkE_mem l 0 e h2
    simp only [Nat.zero_add] at h3 ⊢
    exact h1 i a h4 (List.getElem?_eq_some_iff.1 h4).1 (by simpa using h3)
theorem entF_mkE : ∀ (l : List (κ × α)) (n i : Nat) (a : κ × α), l[i]? = some a → entF (n + i) (mkE ek ev n l) = some (ek a.1, ev a.2)
  | [], n, i, a, h => by simp at h
  | (k, b) :: r, n, 0, a, h => by simp at h; subst h; simp [mkE, numb, entF]
  | (k, b) :: r, n, i + 1, a, h => by
    have := entF_mkE r (n + 1) i a (by simpa using h)
    simp only [mkE] at this
    simp only [mkE, List.map_cons, numb, entF]
    rw [if_neg (by omega), show n + (i + 1) = n + 1 + i by omega]; exact this
theorem ent_mapE {seen : List Nat} {st : St} {l : List (κ × α)} {i : Nat} {a : κ × α} (h : l[i]? = some a) : entE l.length (seen ++ [i]) st (some (mapE ek ev l)) = some (.tup [ek a.1, ev a.2], st, True) := by
  have := entF_mkE (ek := ek) (ev := ev) l 0 i a h
  rw [Nat.zero_add] at this
  simp only [entE, mapE, if_true, List.getLast?_append, List.getLast?_singleton, Option.some_or, this, Option.map_some]
theorem mapE_lt {n : Nat} {l : List (κ × α)} (h1 : ∀ k, (ek k).lt n) (h2 : ∀ a, (ev a).lt n) : (mapE ek ev l).lt n := by
  intro e he
  obtain ⟨i, a, _, rfl⟩ := mkE_mem l 0 e he
  exact ⟨h1 _, h2 _⟩
theorem asc_mem [DecidableEq κ] {s : κ} : ∀ {l : List (κ × α)}, (asc s l).isSome = decide (s ∈ l.map (·.1))
  | [] => by simp [asc]
  | (k, a) :: r => by
    simp only [asc]
    split
    · rename_i h; simp [h]
    · rename_i h; simp [h, asc_mem (s := s) (l := r)]
end
theorem keyP_str (T : Nat → TI) : KeyP T .str V.str := fun _ _ => rfl
theorem keyP_i64 (T : Nat → TI) : KeyP T (.int .i64) (V.int .i64) := fun x y => by simp [keyEq, eqCell]
end Go.Proofs.Ytcegdbniggdckaa.Gw

namespace Go.Proofs.Ytcegdbniggdckaa.Gw
open Go

def lenK : TK → V → Option (V × Prop)
  | .str, .str s => some (.int .i64 s.length, True)
  | .slice _, .nils => some (.int .i64 0, True)
  | .slice _, .lst _ _ l => some (.int .i64 l.length, True)
  | .slice _, .arr _ n => some (.int .i64 n, True)
  | .map _ _, .nilm => some (.int .i64 0, True)
  | .map _ _, .map _ => none
  | _, _ => none
theorem builtinV_len (T : Nat → TI) (x : V) (t : TypeId) : builtinV T .len [x] [t] = lenK (T t).kind x := by
  simp only [builtinV]
  cases (T t).kind <;> cases x <;> rfl
def sliceK (T : Nat → TI) : TK → V → Option V → Option V → Option (V × Prop)
  | .str, .str s, none, none => some (.str s, True)
  | .str, .str s, some (.int _ a), none => some (.str (s.drop a.toNat), 0 ≤ a ∧ a ≤ s.length)
  | .str, .str s, none, some (.int _ b) => some (.str (s.take b.toNat), 0 ≤ b ∧ b ≤ s.length)
  | .str, .str s, some (.int _ a), some (.int _ b) => some (.str ((s.take b.toNat).drop a.toNat), 0 ≤ a ∧ a ≤ b ∧ b ≤ s.length)
  | .slice e, .lst sz _ l, none, none => if (T e).sized = true ∧ sz = (T e).size then some (.lst sz none l, True) else none
  | .slice e, .lst sz _ l, some (.int _ a), none => if (T e).sized = true ∧ sz = (T e).size then some (.lst sz none (l.drop a.toNat), 0 ≤ a ∧ a ≤ l.length) else none
  | .slice e, .lst sz _ l, none, some (.int _ b) => if (T e).sized = true ∧ sz = (T e).size then some (.lst sz none (l.take b.toNat), 0 ≤ b ∧ b ≤ l.length) else none
  | .slice e, .lst sz _ l, some (.int _ a), some (.int _ b) => if (T e).sized = true ∧ sz = (T e).size then some (.lst sz none ((l.take b.toNat).drop a.toNat), 0 ≤ a ∧ a ≤ b ∧ b ≤ l.length) else none
  | _, _, _, _ => none
theorem sliceV_K (T : Nat → TI) (t : TypeId) (x : V) (lo hi : Option V) : sliceV T t x lo hi = sliceK T (T t).kind x lo hi := by
  unfold sliceV
  generalize (T t).kind = k
  cases k with
  | str =>
    cases x with
    | str s =>
      match lo, hi with
      | none, none => rfl
      | some a, none => cases a <;> rfl
      | none, some b => cases b <;> rfl
      | some a, some b => cases a <;> cases b <;> rfl
    | _ => rfl
  | slice e =>
    cases x with
    | lst sz tk l =>
      by_cases hc : (T e).sized = true ∧ sz = (T e).size
      · simp only [if_pos hc]
        match lo, hi with
        | none, none => simp only [sliceK, if_pos hc]
        | some a, none => cases a <;> simp only [sliceK, if_pos hc]
        | none, some b => cases b <;> simp only [sliceK, if_pos hc]
        | some a, some b => cases a <;> cases b <;> simp only [sliceK, if_pos hc]
      · simp only [if_neg hc]
        match lo, hi with
        | none, none => simp only [sliceK, if_neg hc]
        | some a, none => cases a <;> simp only [sliceK, if_neg hc]
        | none, some b => cases b <;> simp only [sliceK, if_neg hc]
        | some a, some b => cases a <;> cases b <;> simp only [sliceK, if_neg hc]
    | _ => rfl
  | _ => rfl

theorem gwC :
    (∀ {α β : Type} (f : α → β) (a : α) (l : List α), List.map f (a :: l) = f a :: List.map f l) ∧
    (∀ {α β : Type} (f : α → β), List.map f [] = []) ∧
    (∀ {α β : Type} (a : α) (f : α → Option β), (some a).bind f = f a) ∧
    (∀ {α β : Type} (a : α) (f : α → β), (some a).map f = some (f a)) ∧
    (∀ {α : Type} (a : α) (l : List α) (d : α), (a :: l).headD d = a) ∧
    (∀ {α : Type} (a : α) (l : List α), (a :: l).reverse = l.reverse ++ [a]) ∧
    (∀ {α : Type}, ([] : List α).reverse = []) ∧
    (∀ {α : Type} (a : α) (l : List α), (a :: l).length = l.length + 1) ∧
    (∀ {α : Type}, ([] : List α).length = 0) ∧
    (∀ {α : Type} (l : List α), l ++ [] = l) ∧
    (∀ {α : Type} (a : α) (l m : List α), (a :: l) ++ m = a :: (l ++ m)) ∧
    (∀ {α : Type} (l : List α), [] ++ l = l) ∧
    (∀ {α : Type} (a : α) (l : List α) (n : Nat), (a :: l).drop (n + 1) = l.drop n) ∧
    (∀ {α : Type} (l : List α), l.drop 0 = l) ∧
    (∀ {α : Type} (n : Nat), ([] : List α).drop n = []) ∧
    (∀ {α : Type} (a : α) (l : List α) (n : Nat), (a :: l).take (n + 1) = a :: l.take n) ∧
    (∀ {α : Type} (l : List α), l.take 0 = []) ∧
    (∀ {α : Type} (n : Nat), ([] : List α).take n = []) ∧
    (∀ {α : Type} (a : α) (l : List α), (a :: l)[0]? = some a) ∧
    (∀ {α : Type} (a : α) (l : List α) (n : Nat), (a :: l)[n + 1]? = l[n]?) ∧
    (∀ {α : Type} (p : α → Bool) (a : α) (l : List α), (a :: l).all p = (p a && l.all p)) ∧
    (∀ {α : Type} (p : α → Bool), ([] : List α).all p = true) ∧
    (∀ {α : Type} (n : Nat) (a : α), List.replicate (n + 1) a = a :: List.replicate n a) ∧
    (∀ {α : Type} (a : α), List.replicate 0 a = []) ∧
    (∀ {α : Type} (a b : α) (l : List α), (a :: l).set 0 b = b :: l) ∧
    (∀ {α : Type} (a b : α) (l : List α) (n : Nat), (a :: l).set (n + 1) b = a :: l.set n b) ∧
    (∀ (h : Decidable True), @decide True h = true) ∧
    (∀ (h : Decidable False), @decide False h = false) ∧
    (∀ p : Prop, (True ∨ p) = True) ∧
    (∀ p : Prop, (p ∧ p) = p) ∧
    ((¬ False) = True) ∧
    (∀ {α : Type} (a b : α), (a ≠ b) = ¬ (a = b)) ∧
    (∀ {α : Type} (a : α), (a = a) = True) := by
  refine ⟨fun _ _ _ => rfl, fun _ => rfl, fun _ _ => rfl, fun _ _ => rfl, fun _ _ _ => rfl, fun _ _ => List.reverse_cons, rfl, fun _ _ => rfl, rfl, fun _ => List.append_nil _, fun _ _ _ => rfl, fun _ => rfl, fun _ _ _ => rfl, fun _ => rfl, fun _ => List.drop_nil, fun _ _ _ => rfl, fun _ => rfl, fun _ => List.take_nil, fun _ _ => rfl, fun _ _ _ => List.getElem?_cons_succ, fun _ _ _ => rfl, fun _ => rfl, fun _ _ => rfl, fun _ => rfl, fun _ _ _ => rfl, fun _ _ _ _ => rfl, fun h => by simp, fun h => by simp, fun _ => by simp, fun _ => by simp, by simp, fun _ _ => rfl, fun _ => by simp⟩
theorem gwN :
    (type_of% @builtinV_len) ∧
    (type_of% @sliceV_K) ∧ (∀ a b : Step, sliS 0 a b = a) ∧ (∀ a b : Step, sliS 3 a b = b) ∧
    (type_of% @lenK.eq_1) ∧
    (type_of% @lenK.eq_2) ∧
    (type_of% @lenK.eq_3) ∧
    (type_of% @lenK.eq_4) ∧
    (type_of% @lenK.eq_5) ∧
    (type_of% @lenK.eq_6) ∧
    (type_of% @lenK.eq_7) ∧
    (type_of% @sliceK.eq_1) ∧
    (type_of% @sliceK.eq_2) ∧
    (type_of% @sliceK.eq_3) ∧
    (type_of% @sliceK.eq_4) ∧
    (type_of% @sliceK.eq_5) ∧
    (type_of% @sliceK.eq_6) ∧
    (type_of% @sliceK.eq_7) ∧
    (type_of% @sliceK.eq_8) ∧
    (type_of% @sliceK.eq_9) ∧
    (type_of% @initG.eq_1) ∧
    (type_of% @initG.eq_2) ∧
    (type_of% @builtS.eq_1) ∧
    (type_of% @builtS.eq_2) ∧
    (type_of% @builtS.eq_3) ∧
    (type_of% @builtS.eq_4) ∧
    (type_of% @pureR.eq_1) ∧
    (type_of% @pureR.eq_2) ∧
    (type_of% @binV.eq_1) ∧
    (type_of% @binV.eq_2) ∧
    (type_of% @binV.eq_3) ∧
    (type_of% @binV.eq_4) ∧
    (type_of% @binV.eq_5) ∧
    (type_of% @binV.eq_6) ∧
    (type_of% @binV.eq_7) ∧
    (type_of% @binV.eq_8) ∧
    (type_of% @binV.eq_9) ∧
    (type_of% @binV.eq_10) ∧
    (type_of% @binV.eq_11) ∧
    (type_of% @binV.eq_12) ∧
    (type_of% @binV.eq_13) ∧
    (type_of% @binV.eq_14) ∧
    (type_of% @binV.eq_15) ∧
    (type_of% @binV.eq_16) ∧
    (type_of% @binV.eq_17) ∧
    (type_of% @binV.eq_18) ∧
    (type_of% @binV.eq_19) ∧
    (type_of% @binV.eq_20) ∧
    (type_of% @binV.eq_21) ∧
    (type_of% @binV.eq_22) ∧
    (type_of% @binV.eq_23) ∧
    (type_of% @binV.eq_24) ∧
    (type_of% @binV.eq_25) ∧
    (type_of% @aggEq.eq_1) ∧
    (type_of% @aggEq.eq_2) ∧
    (type_of% @aggEq.eq_3) ∧
    (type_of% @eqFs.eq_1) ∧
    (type_of% @eqFs.eq_2) ∧
    (type_of% @eqCell.eq_1) ∧
    (type_of% @eqCell.eq_2) ∧
    (type_of% @eqCell.eq_3) ∧
    (type_of% @eqCell.eq_4) ∧
    (type_of% @pickV.eq_1) ∧
    (type_of% @evO.eq_1) ∧
    (type_of% @evO.eq_2) ∧
    (type_of% @evO.eq_3) ∧
    (type_of% @evO.eq_4) ∧
    (type_of% @Env.look.eq_1) ∧
    (type_of% @find.eq_1) ∧
    (type_of% @find.eq_2) ∧
    (type_of% @V.ofConst.eq_1) ∧
    (type_of% @V.ofConst.eq_2) ∧
    (type_of% @V.ofConst.eq_3) ∧
    (type_of% @V.ofConst.eq_4) ∧
    (type_of% @V.ofConst.eq_5) ∧
    (type_of% @V.ofConst.eq_6) ∧
    (type_of% @V.ofConst.eq_7) ∧
    (type_of% @V.ofConst.eq_8) ∧
    (type_of% @V.ofConst.eq_9) ∧
    (type_of% @resV.eq_1) ∧
    (type_of% @resV.eq_2) ∧
    (type_of% @resOne.eq_1) ∧
    (type_of% @resOne.eq_2) ∧
    (type_of% @tupV.eq_1) ∧
    (type_of% @tupV.eq_2) ∧
    (type_of% @fillV.eq_1) ∧
    (type_of% @fillV.eq_2) ∧
    (type_of% @buildV.eq_1) ∧
    (type_of% @mkIface.eq_1) ∧
    (type_of% @litM.eq_1) ∧
    (type_of% @litM.eq_2) ∧
    (type_of% @litM.eq_3) ∧
    (type_of% @litM.eq_4) ∧
    (type_of% @litS.eq_1) ∧
    (type_of% @litS.eq_2) ∧
    (type_of% @litR.eq_1) ∧
    (type_of% @litRows.eq_1) ∧
    (type_of% @litRows.eq_2) ∧
    (type_of% @appS.eq_1) ∧
    (type_of% @appS.eq_2) ∧
    (type_of% @appS.eq_3) ∧
    (type_of% @appS.eq_4) ∧
    (type_of% @memA.eq_1) ∧
    (type_of% @memA.eq_2) ∧
    (type_of% @appendV.eq_1) ∧
    (type_of% @appendV.eq_2) ∧
    (type_of% @appendV.eq_3) ∧
    (type_of% @appendV.eq_4) ∧
    (type_of% @appendV.eq_5) ∧
    (type_of% @rowsOf.eq_1) ∧
    (type_of% @rowsOf.eq_2) ∧
    (type_of% @rowsOf.eq_3) ∧
    (type_of% @rowsOf.eq_4) ∧
    (type_of% @V.cells.eq_1) ∧
    (type_of% @V.cells.eq_2) ∧
    (type_of% @V.cells.eq_3) ∧
    (type_of% @V.cells.eq_4) ∧
    (type_of% @TI.sized.eq_1) ∧
    (type_of% @TI.known.eq_1) ∧
    (type_of% @TI.agg.eq_1) ∧
    (type_of% @anL.eq_1) ∧
    (type_of% @anL.eq_2) ∧
    (type_of% @loadV.eq_def) ∧
    (type_of% @builtinV.eq_7) ∧
    (type_of% @builtinV.eq_8) :=
  ⟨@builtinV_len, @sliceV_K, fun _ _ => rfl, fun _ _ => rfl, @lenK.eq_1, @lenK.eq_2, @lenK.eq_3, @lenK.eq_4, @lenK.eq_5, @lenK.eq_6, @lenK.eq_7, @sliceK.eq_1, @sliceK.eq_2, @sliceK.eq_3, @sliceK.eq_4, @sliceK.eq_5, @sliceK.eq_6, @sliceK.eq_7, @sliceK.eq_8, @sliceK.eq_9, @initG.eq_1, @initG.eq_2, @builtS.eq_1, @builtS.eq_2, @builtS.eq_3, @builtS.eq_4, @pureR.eq_1, @pureR.eq_2, @binV.eq_1, @binV.eq_2, @binV.eq_3, @binV.eq_4, @binV.eq_5, @binV.eq_6, @binV.eq_7, @binV.eq_8, @binV.eq_9, @binV.eq_10, @binV.eq_11, @binV.eq_12, @binV.eq_13, @binV.eq_14, @binV.eq_15, @binV.eq_16, @binV.eq_17, @binV.eq_18, @binV.eq_19, @binV.eq_20, @binV.eq_21, @binV.eq_22, @binV.eq_23, @binV.eq_24, @binV.eq_25, @aggEq.eq_1, @aggEq.eq_2, @aggEq.eq_3, @eqFs.eq_1, @eqFs.eq_2, @eqCell.eq_1, @eqCell.eq_2, @eqCell.eq_3, @eqCell.eq_4, @pickV.eq_1, @evO.eq_1, @evO.eq_2, @evO.eq_3, @evO.eq_4, @Env.look.eq_1, @find.eq_1, @find.eq_2, @V.ofConst.eq_1, @V.ofConst.eq_2, @V.ofConst.eq_3, @V.ofConst.eq_4, @V.ofConst.eq_5, @V.ofConst.eq_6, @V.ofConst.eq_7, @V.ofConst.eq_8, @V.ofConst.eq_9, @resV.eq_1, @resV.eq_2, @resOne.eq_1, @resOne.eq_2, @tupV.eq_1, @tupV.eq_2, @fillV.eq_1, @fillV.eq_2, @buildV.eq_1, @mkIface.eq_1, @litM.eq_1, @litM.eq_2, @litM.eq_3, @litM.eq_4, @litS.eq_1, @litS.eq_2, @litR.eq_1, @litRows.eq_1, @litRows.eq_2, @appS.eq_1, @appS.eq_2, @appS.eq_3, @appS.eq_4, @memA.eq_1, @memA.eq_2, @appendV.eq_1, @appendV.eq_2, @appendV.eq_3, @appendV.eq_4, @appendV.eq_5, @rowsOf.eq_1, @rowsOf.eq_2, @rowsOf.eq_3, @rowsOf.eq_4, @V.cells.eq_1, @V.cells.eq_2, @V.cells.eq_3, @V.cells.eq_4, @TI.sized.eq_1, @TI.known.eq_1, @TI.agg.eq_1, @anL.eq_1, @anL.eq_2, @loadV.eq_def, @builtinV.eq_7, @builtinV.eq_8⟩
end Go.Proofs.Ytcegdbniggdckaa.Gw

namespace Go.Proofs.Ytcegdbniggdckaa.Gx
open Go Go.Proofs.Ytcegdbniggdckaa.Gw
set_option linter.unusedSimpArgs false
set_option linter.unusedVariables false
open Go.Sort (putRow putCells grow Holds)

theorem Ext.grown {g : G} {w w' : World} {b : Nat} (h : w.grownBy w' (some b)) (ho : g.own b = some 0) : Ext g w g w' := by
  obtain ⟨h1, h2, h3, h4, h5⟩ := h
  refine ⟨h1, h2, h3, h4, Nat.le_refl _, fun _ _ => rfl, fun _ _ => Nat.le_refl _, fun _ _ _ => rfl, fun c hc hn => ⟨h5 c hc (fun e => by cases e; rw [ho] at hn; cases hn), hn⟩, fun c k hc hk => ⟨fun off hoff => ?_, fun k' hk' => by rw [hk] at hk'; cases hk'; exact Nat.le_refl _⟩⟩
  by_cases e : c = b
  · subst e; rw [ho] at hk; cases hk; omega
  · exact cell_of_block (h5 c hc (fun e' => e (by cases e'; rfl)))
def rowsS (l : List (List UInt8)) : List (List V) := l.map fun s => [V.str s]
theorem rowsS_flat : ∀ l : List (List UInt8), (rowsS l).flatten = l.map V.str
  | [] => rfl
  | s :: r => by simp only [rowsS, List.map_cons, List.flatten_cons] at *; rw [show (List.map (fun s => [V.str s]) r).flatten = r.map V.str from rowsS_flat r]; rfl
theorem simStr {g : G} {w : World} : ∀ {l : List (List UInt8)} {xs : List Value}, SimVs g w (l.map V.str) xs → xs = l.map encStr ∧ ∀ s ∈ l, s.length ≤ 9223372036854775807
  | [], xs, h => by simp only [List.map_nil, SimVs] at h; subst h; exact ⟨rfl, by simp⟩
  | s :: r, xs, h => by
    simp only [List.map_cons, SimVs] at h
    obtain ⟨v, t, rfl, h1, h2⟩ := h
    simp only [SimV] at h1
    obtain ⟨e, e2⟩ := simStr h2
    refine ⟨by rw [e, h1.1]; rfl, fun x hx => ?_⟩
    rcases List.mem_cons.1 hx with rfl | hx
    · exact h1.2
    · exact e2 x hx
theorem strSim {g : G} {w : World} : ∀ {l : List (List UInt8)}, (∀ s ∈ l, s.length ≤ 9223372036854775807) → SimVs g w (l.map V.str) (l.map encStr)
  | [], _ => rfl
  | s :: r, h => ⟨_, _, rfl, ⟨rfl, h s (by simp)⟩, strSim fun x hx => h x (by simp [hx])⟩
variable {T : Nat → TI}
theorem row_sorted {g : G} {w w' : World} {st : St} {k : Nat} {e : TypeId} {ss ds : List (List UInt8)} {b cap n : Nat} {os : Array Obj} (hst : SimSt T g st w) (hk : st[k]? = some (.arr e 1 (rowsS ss)))
    (hv : ∀ m c, g.tv k = .slice (some ⟨b, 0, none⟩) m c → True) (htv : g.tv k = .slice (some ⟨b, 0, none⟩) ss.length cap) (hl : ds.length = ss.length) (hd : ∀ s ∈ ds, s.length ≤ 9223372036854775807)
    (hw : w' = grow (putRow encStr (Sort.ahead w n) b 0 ds.toArray) os) : SimSt T g (st.set k (.arr e 1 (rowsS ds))) w' ∧ Ext g w g w' := by
  obtain ⟨m1, m2, xs, ⟨t1, t2, t3⟩, m3, m4⟩ := hst.ent k _ hk
  have hlen : (rowsS ss).length = ss.length := by simp [rowsS]
  rw [hlen] at t1 t2 t3
  replace t3 := tip2 t3 rfl
  rcases t3 with ⟨h0, h0'⟩ | ⟨b', cap', cur, k1, k2, k3, k4, k5, k6, k7⟩
  · rw [htv] at h0'; cases h0'
  rw [htv] at k1; cases k1
  simp only [Nat.zero_add, Nat.add_zero, List.drop_zero] at k2 k6 k7
  have hx : Ext g w g w' := Ext.grown (by rw [hw]; exact Go.grownBy_sorted _) k2
  have hb : w'.heap[b]? = some (.cells (putCells encStr 0 ds.toArray cur) e (0, 0)) := by rw [hw]; exact Go.heap_sorted _ k3
  refine ⟨hst.upd hk hx rfl (fun _ => rfl) (fun _ _ => ⟨rfl, rfl⟩) (fun c hc hne ho => ⟨?_, rfl⟩) ?_ (fun c hc => .inl hc), hx⟩
  · have hg : w.grownBy w' (some b) := by rw [hw]; exact Go.grownBy_sorted _
    exact hg.block c hc (fun e' => by cases e'; exact hne (by simp [blkOf, htv, Value.ownBlock]))
  · refine ⟨m1, fun r hr => by simp only [rowsS, List.mem_map] at hr; obtain ⟨s, _, rfl⟩ := hr; rfl, ds.map encStr, ?_, ?_, ?_⟩
    · refine ⟨by rw [t1]; simp [rowsS, hl], by rw [List.length_map]; simp [rowsS, ← m1], .inr <| .inr ⟨b, cap, _, by rw [htv]; simp [rowsS, hl], k2, hb, by simpa [rowsS, hl] using k4, k5, ?_, ?_⟩⟩
      · simp [putCells, k6]
      · rw [← m1, Nat.mul_one]
        have := Go.take_putCells cur ds (by rw [k6, ← m1]; omega)
        simpa [rowsS] using this
    · rw [rowsS_flat]; exact strSim hd
    · intro u hu
      obtain ⟨s, _, rfl⟩ := List.mem_map.1 hu
      rfl
/-- An array is taken over by a shorter slice of it. -/
theorem row_shorter {g : G} {w : World} {st : St} {k m : Nat} {e : TypeId} {sz : Nat} {c : List (List V)} {b cap : Nat} (hst : SimSt T g st w) (hk : st[k]? = some (.arr e sz c))
    (htv : g.tv k = .slice (some ⟨b, 0, none⟩) c.length cap) (hm : m ≤ c.length) :
    ∃ g', SimSt T g' (st.set k .gone ++ [.arr e sz (c.take m)]) w ∧ Ext g w g' w ∧ SimV g' w (.arr st.length m) (.slice (some ⟨b, 0, none⟩) m cap) := by
  obtain ⟨m1, m2, xs, ⟨t1, t2, t3⟩, m3, m4⟩ := hst.ent k _ hk
  replace t3 := tip2 t3 rfl
  rcases t3 with ⟨h0, h0'⟩ | ⟨b', cap', cur, k1, k2, k3, k4, k5, k6, k7⟩
  · rw [htv] at h0'; cases h0'
  rw [htv] at k1; cases k1
  simp only [Nat.zero_add, Nat.add_zero, List.drop_zero] at k2 k6 k7
  have s1 : SimSt T g (st.set k .gone) w := hst.upd hk (Ext.refl g w) rfl (fun _ => rfl) (fun _ _ => ⟨rfl, rfl⟩) (fun c hc hne ho => ⟨rfl, rfl⟩) trivial (fun c hc => by simp [blkOf] at hc)
  have hx := Ext.push g w 0 (.slice (some ⟨b, 0, none⟩) m cap) m
  have hn := hst.n
  have hbk : blkOf g k (.arr e sz c) = some b := by simp [blkOf, htv, Value.ownBlock]
  have hml : (c.take m).length = m := by simp [hm]
  refine ⟨_, s1.push (b := 0) (v := .slice (some ⟨b, 0, none⟩) m cap) (k := m) ?_ ?_, hx, ?_⟩
  · refine ⟨m1, fun r hr => m2 r (List.mem_of_mem_take hr), xs.take (m * sz), ?_, ?_, fun u hu => m4 u (List.mem_of_mem_take hu)⟩
    · refine ⟨by rw [hml]; simp [G.push], ?_, .inr <| .inr ⟨b, cap, cur, by rw [hml]; simp [G.push], k2, k3, by rw [hml]; omega, k5, by rw [Nat.zero_add]; exact k6, ?_⟩⟩
      · rw [List.length_take, hml, t2, ← m1]; exact Nat.min_eq_left (Nat.mul_le_mul_right _ hm)
      · rw [hml, List.drop_zero, ← k7, ← m1, List.take_take, Nat.min_eq_left (Nat.mul_le_mul_right _ hm)]
    · have hf : (c.take m).flatten = c.flatten.take (m * sz) := by
        clear t1 t2 k2 k3 k4 k6 k7 m3 m4 s1 htv hk hbk hx hml
        induction c generalizing m with
        | nil => simp
        | cons r t ih =>
          cases m with
          | zero => simp
          | succ m =>
            have hr := m2 r (by simp)
            rw [List.take_succ_cons, List.flatten_cons, List.flatten_cons, ih (by simp at hm; omega) (fun x hx => m2 x (by simp [hx])), Nat.succ_mul, Nat.add_comm (m * sz), ← hr, List.take_length_add_append]
      rw [hf]
      exact (m3.take _).ext hx
  · intro c' hc' i ei hi hb
    simp only [blkOf, G.push, if_true, Value.ownBlock, Option.map_some, Option.some.injEq] at hc'
    subst hc'
    by_cases hik : i = k
    · subst hik
      rw [List.getElem?_set_self (by have := (List.getElem?_eq_some_iff.1 hk).1; exact this)] at hi
      cases hi
      simp [blkOf] at hb
    · rw [List.getElem?_set_ne (Ne.symm hik)] at hi
      exact hik (hst.one i k ei _ b hi hk hb hbk)
  · simp only [SimV, G.push]
    refine ⟨by omega, by simp [hn], fun _ => by simp [hn], _, _, rfl⟩
end Go.Proofs.Ytcegdbniggdckaa.Gx

namespace Go.Proofs.Ytcegdbniggdckaa.Gw
open Go

def tab : List TI := [
  ⟨.other, 0, 0, []⟩,
  ⟨.func, 1, 8, [.nilf]⟩,
  ⟨.int .i64, 1, 8, [.int .i64 0]⟩,
  ⟨.int .i64, 1, 8, [.int .i64 0]⟩,
  ⟨.bool, 1, 1, [.bool false]⟩,
  ⟨.int .u8, 1, 1, [.int .u8 0]⟩,
  ⟨.int .u8, 1, 1, [.int .u8 0]⟩,
  ⟨.struct [(0, 2), (1, 3), (2, 4), (3, 6)], 4, 24, [.int .i64 0, .int .i64 0, .bool false, .int .u8 0]⟩,
  ⟨.struct [(0, 2), (1, 3), (2, 4), (3, 6)], 4, 24, [.int .i64 0, .int .i64 0, .bool false, .int .u8 0]⟩,
  ⟨.str, 1, 16, [.str []]⟩,
  ⟨.str, 1, 16, [.str []]⟩,
  ⟨.str, 1, 16, [.str []]⟩,
  ⟨.int .u64, 1, 8, [.int .u64 0]⟩,
  ⟨.other, 0, 0, []⟩,
  ⟨.other, 0, 0, []⟩,
  ⟨.ptr 75, 1, 8, [.nilp]⟩,
  ⟨.ptr 78, 1, 8, [.nilp]⟩,
  ⟨.ptr 87, 1, 8, [.nilp]⟩,
  ⟨.other, 0, 0, []⟩,
  ⟨.other, 0, 0, []⟩,
  ⟨.iface, 1, 16, [.nili]⟩,
  ⟨.int .i32, 1, 4, [.int .i32 0]⟩,
  ⟨.slice 32, 1, 24, [.nils]⟩,
  ⟨.slice 9, 1, 24, [.nils]⟩,
  ⟨.int .i64, 1, 8, [.int .i64 0]⟩,
  ⟨.other, 0, 0, []⟩,
  ⟨.func, 1, 8, [.nilf]⟩,
  ⟨.func, 1, 8, [.nilf]⟩,
  ⟨.func, 1, 8, [.nilf]⟩,
  ⟨.func, 1, 8, [.nilf]⟩,
  ⟨.map 9 3, 1, 8, [.nilm]⟩,
  ⟨.struct [(0, 9), (1, 23)], 2, 40, [.str [], .nils]⟩,
  ⟨.struct [(0, 9), (1, 23)], 2, 40, [.str [], .nils]⟩,
  ⟨.func, 1, 8, [.nilf]⟩,
  ⟨.map 9 4, 1, 8, [.nilm]⟩,
  ⟨.map 9 23, 1, 8, [.nilm]⟩,
  ⟨.other, 0, 0, []⟩,
  ⟨.func, 1, 8, [.nilf]⟩,
  ⟨.func, 1, 8, [.nilf]⟩,
  ⟨.func, 1, 8, [.nilf]⟩,
  ⟨.func, 1, 8, [.nilf]⟩,
  ⟨.func, 1, 8, [.nilf]⟩,
  ⟨.func, 1, 8, [.nilf]⟩,
  ⟨.func, 1, 8, [.nilf]⟩,
  ⟨.func, 1, 8, [.nilf]⟩,
  ⟨.func, 1, 8, [.nilf]⟩,
  ⟨.func, 1, 8, [.nilf]⟩,
  ⟨.func, 1, 8, [.nilf]⟩,
  ⟨.int .u64, 1, 8, [.int .u64 0]⟩,
  ⟨.func, 1, 8, [.nilf]⟩,
  ⟨.func, 1, 8, [.nilf]⟩,
  ⟨.func, 1, 8, [.nilf]⟩,
  ⟨.int .i64, 1, 8, [.int .i64 0]⟩,
  ⟨.other, 0, 0, []⟩,
  ⟨.func, 1, 8, [.nilf]⟩,
  ⟨.func, 1, 8, [.nilf]⟩,
  ⟨.func, 1, 8, [.nilf]⟩,
  ⟨.func, 1, 8, [.nilf]⟩,
  ⟨.other, 0, 0, []⟩,
  ⟨.func, 1, 8, [.nilf]⟩,
  ⟨.func, 1, 8, [.nilf]⟩,
  ⟨.int .u32, 1, 4, [.int .u32 0]⟩,
  ⟨.func, 1, 8, [.nilf]⟩,
  ⟨.int .u64, 1, 8, [.int .u64 0]⟩,
  ⟨.int .u64, 1, 8, [.int .u64 0]⟩,
  ⟨.func, 1, 8, [.nilf]⟩,
  ⟨.func, 1, 8, [.nilf]⟩,
  ⟨.func, 1, 8, [.nilf]⟩,
  ⟨.ptr 3, 1, 8, [.nilp]⟩,
  ⟨.func, 1, 8, [.nilf]⟩,
  ⟨.ptr 64, 1, 8, [.nilp]⟩,
  ⟨.other, 0, 0, []⟩,
  ⟨.func, 1, 8, [.nilf]⟩,
  ⟨.func, 1, 8, [.nilf]⟩,
  ⟨.other, 0, 0, []⟩,
  ⟨.other, 0, 0, []⟩,
  ⟨.other, 0, 0, []⟩,
  ⟨.other, 0, 0, []⟩,
  ⟨.other, 0, 0, []⟩,
  ⟨.func, 1, 8, [.nilf]⟩,
  ⟨.int .u8, 1, 1, [.int .u8 0]⟩,
  ⟨.int .u8, 1, 1, [.int .u8 0]⟩,
  ⟨.func, 1, 8, [.nilf]⟩,
  ⟨.ptr 5, 1, 8, [.nilp]⟩,
  ⟨.int .i32, 1, 4, [.int .i32 0]⟩,
  ⟨.int .i32, 1, 4, [.int .i32 0]⟩,
  ⟨.other, 0, 0, []⟩,
  ⟨.other, 0, 0, []⟩,
  ⟨.other, 0, 0, []⟩]

def TT (t : Nat) : TI := (tab[t]?).getD ⟨.other, 0, 0, []⟩


def rowsOk (P : Program) : Nat → List TI → Prop
  | _, [] => True
  | k, i :: r => (i.kind ≠ .other → TI.ok P k i) ∧ rowsOk P (k + 1) r

theorem rowsOk_get {P : Program} : ∀ (l : List TI) (k t : Nat) (i : TI), rowsOk P k l → l[t]? = some i → i.kind ≠ .other → TI.ok P (k + t) i
  | [], k, t, i, _, h, _ => by simp at h
  | j :: r, k, 0, i, h, h2, h3 => by simp at h2; subst h2; exact h.1 h3
  | j :: r, k, t + 1, i, h, h2, h3 => by
    have := rowsOk_get r (k + 1) t i h.2 (by simpa using h2) h3
    rw [show k + (t + 1) = k + 1 + t by omega]; exact this

theorem row_1 : TI.ok Try.prog 1 (TT 1) := ⟨by kernel_rfl, by kernel_rfl, by kernel_rfl, by kernel_rfl, (by intro h; first | rfl | cases h), (by intro h; first | kernel_rfl | cases h)⟩
theorem row_2 : TI.ok Try.prog 2 (TT 2) := ⟨by kernel_rfl, by kernel_rfl, by kernel_rfl, by kernel_rfl, (by intro h; first | rfl | cases h), (by intro h; first | kernel_rfl | cases h)⟩
theorem row_3 : TI.ok Try.prog 3 (TT 3) := ⟨by kernel_rfl, by kernel_rfl, by kernel_rfl, by kernel_rfl, (by intro h; first | rfl | cases h), (by intro h; first | kernel_rfl | cases h)⟩
theorem row_4 : TI.ok Try.prog 4 (TT 4) := ⟨by kernel_rfl, by kernel_rfl, by kernel_rfl, by kernel_rfl, (by intro h; first | rfl | cases h), (by intro h; first | kernel_rfl | cases h)⟩
theorem row_5 : TI.ok Try.prog 5 (TT 5) := ⟨by kernel_rfl, by kernel_rfl, by kernel_rfl, by kernel_rfl, (by intro h; first | rfl | cases h), (by intro h; first | kernel_rfl | cases h)⟩
theorem row_6 : TI.ok Try.prog 6 (TT 6) := ⟨by kernel_rfl, by kernel_rfl, by kernel_rfl, by kernel_rfl, (by intro h; first | rfl | cases h), (by intro h; first | kernel_rfl | cases h)⟩
theorem row_7 : TI.ok Try.prog 7 (TT 7) := ⟨by kernel_rfl, by kernel_rfl, by kernel_rfl, by kernel_rfl, (by intro h; first | rfl | cases h), (by intro h; first | kernel_rfl | cases h)⟩
theorem row_8 : TI.ok Try.prog 8 (TT 8) := ⟨by kernel_rfl, by kernel_rfl, by kernel_rfl, by kernel_rfl, (by intro h; first | rfl | cases h), (by intro h; first | kernel_rfl | cases h)⟩
theorem row_9 : TI.ok Try.prog 9 (TT 9) := ⟨by kernel_rfl, by kernel_rfl, by kernel_rfl, by kernel_rfl, (by intro h; first | rfl | cases h), (by intro h; first | kernel_rfl | cases h)⟩
theorem row_10 : TI.ok Try.prog 10 (TT 10) := ⟨by kernel_rfl, by kernel_rfl, by kernel_rfl, by kernel_rfl, (by intro h; first | rfl | cases h), (by intro h; first | kernel_rfl | cases h)⟩
theorem row_11 : TI.ok Try.prog 11 (TT 11) := ⟨by kernel_rfl, by kernel_rfl, by kernel_rfl, by kernel_rfl, (by intro h; first | rfl | cases h), (by intro h; first | kernel_rfl | cases h)⟩
theorem row_12 : TI.ok Try.prog 12 (TT 12) := ⟨by kernel_rfl, by kernel_rfl, by kernel_rfl, by kernel_rfl, (by intro h; first | rfl | cases h), (by intro h; first | kernel_rfl | cases h)⟩
theorem row_15 : TI.ok Try.prog 15 (TT 15) := ⟨by kernel_rfl, by kernel_rfl, by kernel_rfl, by kernel_rfl, (by intro h; first | rfl | cases h), (by intro h; first | kernel_rfl | cases h)⟩
theorem row_16 : TI.ok Try.prog 16 (TT 16) := ⟨by kernel_rfl, by kernel_rfl, by kernel_rfl, by kernel_rfl, (by intro h; first | rfl | cases h), (by intro h; first | kernel_rfl | cases h)⟩
theorem row_17 : TI.ok Try.prog 17 (TT 17) := ⟨by kernel_rfl, by kernel_rfl, by kernel_rfl, by kernel_rfl, (by intro h; first | rfl | cases h), (by intro h; first | kernel_rfl | cases h)⟩
theorem row_20 : TI.ok Try.prog 20 (TT 20) := ⟨by kernel_rfl, by kernel_rfl, by kernel_rfl, by kernel_rfl, (by intro h; first | rfl | cases h), (by intro h; first | kernel_rfl | cases h)⟩
theorem row_21 : TI.ok Try.prog 21 (TT 21) := ⟨by kernel_rfl, by kernel_rfl, by kernel_rfl, by kernel_rfl, (by intro h; first | rfl | cases h), (by intro h; first | kernel_rfl | cases h)⟩
theorem row_22 : TI.ok Try.prog 22 (TT 22) := ⟨by kernel_rfl, by kernel_rfl, by kernel_rfl, by kernel_rfl, (by intro h; first | rfl | cases h), (by intro h; first | kernel_rfl | cases h)⟩
theorem row_23 : TI.ok Try.prog 23 (TT 23) := ⟨by kernel_rfl, by kernel_rfl, by kernel_rfl, by kernel_rfl, (by intro h; first | rfl | cases h), (by intro h; first | kernel_rfl | cases h)⟩
theorem row_24 : TI.ok Try.prog 24 (TT 24) := ⟨by kernel_rfl, by kernel_rfl, by kernel_rfl, by kernel_rfl, (by intro h; first | rfl | cases h), (by intro h; first | kernel_rfl | cases h)⟩
theorem row_26 : TI.ok Try.prog 26 (TT 26) := ⟨by kernel_rfl, by kernel_rfl, by kernel_rfl, by kernel_rfl, (by intro h; first | rfl | cases h), (by intro h; first | kernel_rfl | cases h)⟩
theorem row_27 : TI.ok Try.prog 27 (TT 27) := ⟨by kernel_rfl, by kernel_rfl, by kernel_rfl, by kernel_rfl, (by intro h; first | rfl | cases h), (by intro h; first | kernel_rfl | cases h)⟩
theorem row_28 : TI.ok Try.prog 28 (TT 28) := ⟨by kernel_rfl, by kernel_rfl, by kernel_rfl, by kernel_rfl, (by intro h; first | rfl | cases h), (by intro h; first | kernel_rfl | cases h)⟩
theorem row_29 : TI.ok Try.prog 29 (TT 29) := ⟨by kernel_rfl, by kernel_rfl, by kernel_rfl, by kernel_rfl, (by intro h; first | rfl | cases h), (by intro h; first | kernel_rfl | cases h)⟩
theorem row_30 : TI.ok Try.prog 30 (TT 30) := ⟨by kernel_rfl, by kernel_rfl, by kernel_rfl, by kernel_rfl, (by intro h; first | rfl | cases h), (by intro h; first | kernel_rfl | cases h)⟩
theorem row_31 : TI.ok Try.prog 31 (TT 31) := ⟨by kernel_rfl, by kernel_rfl, by kernel_rfl, by kernel_rfl, (by intro h; first | rfl | cases h), (by intro h; first | kernel_rfl | cases h)⟩
theorem row_32 : TI.ok Try.prog 32 (TT 32) := ⟨by kernel_rfl, by kernel_rfl, by kernel_rfl, by kernel_rfl, (by intro h; first | rfl | cases h), (by intro h; first | kernel_rfl | cases h)⟩
theorem row_33 : TI.ok Try.prog 33 (TT 33) := ⟨by kernel_rfl, by kernel_rfl, by kernel_rfl, by kernel_rfl, (by intro h; first | rfl | cases h), (by intro h; first | kernel_rfl | cases h)⟩
theorem row_34 : TI.ok Try.prog 34 (TT 34) := ⟨by kernel_rfl, by kernel_rfl, by kernel_rfl, by kernel_rfl, (by intro h; first | rfl | cases h), (by intro h; first | kernel_rfl | cases h)⟩
theorem row_35 : TI.ok Try.prog 35 (TT 35) := ⟨by kernel_rfl, by kernel_rfl, by kernel_rfl, by kernel_rfl, (by intro h; first | rfl | cases h), (by intro h; first | kernel_rfl | cases h)⟩
theorem row_37 : TI.ok Try.prog 37 (TT 37) := ⟨by kernel_rfl, by kernel_rfl, by kernel_rfl, by kernel_rfl, (by intro h; first | rfl | cases h), (by intro h; first | kernel_rfl | cases h)⟩
theorem row_38 : TI.ok Try.prog 38 (TT 38) := ⟨by kernel_rfl, by kernel_rfl, by kernel_rfl, by kernel_rfl, (by intro h; first | rfl | cases h), (by intro h; first | kernel_rfl | cases h)⟩
theorem row_39 : TI.ok Try.prog 39 (TT 39) := ⟨by kernel_rfl, by kernel_rfl, by kernel_rfl, by kernel_rfl, (by intro h; first | rfl | cases h), (by intro h; first | kernel_rfl | cases h)⟩
theorem row_40 : TI.ok Try.prog 40 (TT 40) := ⟨by kernel_rfl, by kernel_rfl, by kernel_rfl, by kernel_rfl, (by intro h; first | rfl | cases h), (by intro h; first | kernel_rfl | cases h)⟩
theorem row_41 : TI.ok Try.prog 41 (TT 41) := ⟨by kernel_rfl, by kernel_rfl, by kernel_rfl, by kernel_rfl, (by intro h; first | rfl | cases h), (by intro h; first | kernel_rfl | cases h)⟩
theorem row_42 : TI.ok Try.prog 42 (TT 42) := ⟨by kernel_rfl, by kernel_rfl, by kernel_rfl, by kernel_rfl, (by intro h; first | rfl | cases h), (by intro h; first | kernel_rfl | cases h)⟩
theorem row_43 : TI.ok Try.prog 43 (TT 43) := ⟨by kernel_rfl, by kernel_rfl, by kernel_rfl, by kernel_rfl, (by intro h; first | rfl | cases h), (by intro h; first | kernel_rfl | cases h)⟩
theorem row_44 : TI.ok Try.prog 44 (TT 44) := ⟨by kernel_rfl, by kernel_rfl, by kernel_rfl, by kernel_rfl, (by intro h; first | rfl | cases h), (by intro h; first | kernel_rfl | cases h)⟩
theorem row_45 : TI.ok Try.prog 45 (TT 45) := ⟨by kernel_rfl, by kernel_rfl, by kernel_rfl, by kernel_rfl, (by intro h; first | rfl | cases h), (by intro h; first | kernel_rfl | cases h)⟩
theorem row_46 : TI.ok Try.prog 46 (TT 46) := ⟨by kernel_rfl, by kernel_rfl, by kernel_rfl, by kernel_rfl, (by intro h; first | rfl | cases h), (by intro h; first | kernel_rfl | cases h)⟩
theorem row_47 : TI.ok Try.prog 47 (TT 47) := ⟨by kernel_rfl, by kernel_rfl, by kernel_rfl, by kernel_rfl, (by intro h; first | rfl | cases h), (by intro h; first | kernel_rfl | cases h)⟩
theorem row_48 : TI.ok Try.prog 48 (TT 48) := ⟨by kernel_rfl, by kernel_rfl, by kernel_rfl, by kernel_rfl, (by intro h; first | rfl | cases h), (by intro h; first | kernel_rfl | cases h)⟩
theorem row_49 : TI.ok Try.prog 49 (TT 49) := ⟨by kernel_rfl, by kernel_rfl, by kernel_rfl, by kernel_rfl, (by intro h; first | rfl | cases h), (by intro h; first | kernel_rfl | cases h)⟩
theorem row_50 : TI.ok Try.prog 50 (TT 50) := ⟨by kernel_rfl, by kernel_rfl, by kernel_rfl, by kernel_rfl, (by intro h; first | rfl | cases h), (by intro h; first | kernel_rfl | cases h)⟩
theorem row_51 : TI.ok Try.prog 51 (TT 51) := ⟨by kernel_rfl, by kernel_rfl, by kernel_rfl, by kernel_rfl, (by intro h; first | rfl | cases h), (by intro h; first | kernel_rfl | cases h)⟩
theorem row_52 : TI.ok Try.prog 52 (TT 52) := ⟨by kernel_rfl, by kernel_rfl, by kernel_rfl, by kernel_rfl, (by intro h; first | rfl | cases h), (by intro h; first | kernel_rfl | cases h)⟩
theorem row_54 : TI.ok Try.prog 54 (TT 54) := ⟨by kernel_rfl, by kernel_rfl, by kernel_rfl, by kernel_rfl, (by intro h; first | rfl | cases h), (by intro h; first | kernel_rfl | cases h)⟩
theorem row_55 : TI.ok Try.prog 55 (TT 55) := ⟨by kernel_rfl, by kernel_rfl, by kernel_rfl, by kernel_rfl, (by intro h; first | rfl | cases h), (by intro h; first | kernel_rfl | cases h)⟩
theorem row_56 : TI.ok Try.prog 56 (TT 56) := ⟨by kernel_rfl, by kernel_rfl, by kernel_rfl, by kernel_rfl, (by intro h; first | rfl | cases h), (by intro h; first | kernel_rfl | cases h)⟩
theorem row_57 : TI.ok Try.prog 57 (TT 57) := ⟨by kernel_rfl, by kernel_rfl, by kernel_rfl, by kernel_rfl, (by intro h; first | rfl | cases h), (by intro h; first | kernel_rfl | cases h)⟩
theorem row_59 : TI.ok Try.prog 59 (TT 59) := ⟨by kernel_rfl, by kernel_rfl, by kernel_rfl, by kernel_rfl, (by intro h; first | rfl | cases h), (by intro h; first | kernel_rfl | cases h)⟩
theorem row_60 : TI.ok Try.prog 60 (TT 60) := ⟨by kernel_rfl, by kernel_rfl, by kernel_rfl, by kernel_rfl, (by intro h; first | rfl | cases h), (by intro h; first | kernel_rfl | cases h)⟩
theorem row_61 : TI.ok Try.prog 61 (TT 61) := ⟨by kernel_rfl, by kernel_rfl, by kernel_rfl, by kernel_rfl, (by intro h; first | rfl | cases h), (by intro h; first | kernel_rfl | cases h)⟩
theorem row_62 : TI.ok Try.prog 62 (TT 62) := ⟨by kernel_rfl, by kernel_rfl, by kernel_rfl, by kernel_rfl, (by intro h; first | rfl | cases h), (by intro h; first | kernel_rfl | cases h)⟩
theorem row_63 : TI.ok Try.prog 63 (TT 63) := ⟨by kernel_rfl, by kernel_rfl, by kernel_rfl, by kernel_rfl, (by intro h; first | rfl | cases h), (by intro h; first | kernel_rfl | cases h)⟩
theorem row_64 : TI.ok Try.prog 64 (TT 64) := ⟨by kernel_rfl, by kernel_rfl, by kernel_rfl, by kernel_rfl, (by intro h; first | rfl | cases h), (by intro h; first | kernel_rfl | cases h)⟩
theorem row_65 : TI.ok Try.prog 65 (TT 65) := ⟨by kernel_rfl, by kernel_rfl, by kernel_rfl, by kernel_rfl, (by intro h; first | rfl | cases h), (by intro h; first | kernel_rfl | cases h)⟩
theorem row_66 : TI.ok Try.prog 66 (TT 66) := ⟨by kernel_rfl, by kernel_rfl, by kernel_rfl, by kernel_rfl, (by intro h; first | rfl | cases h), (by intro h; first | kernel_rfl | cases h)⟩
theorem row_67 : TI.ok Try.prog 67 (TT 67) := ⟨by kernel_rfl, by kernel_rfl, by kernel_rfl, by kernel_rfl, (by intro h; first | rfl | cases h), (by intro h; first | kernel_rfl | cases h)⟩
theorem row_68 : TI.ok Try.prog 68 (TT 68) := ⟨by kernel_rfl, by kernel_rfl, by kernel_rfl, by kernel_rfl, (by intro h; first | rfl | cases h), (by intro h; first | kernel_rfl | cases h)⟩
theorem row_69 : TI.ok Try.prog 69 (TT 69) := ⟨by kernel_rfl, by kernel_rfl, by kernel_rfl, by kernel_rfl, (by intro h; first | rfl | cases h), (by intro h; first | kernel_rfl | cases h)⟩
theorem row_70 : TI.ok Try.prog 70 (TT 70) := ⟨by kernel_rfl, by kernel_rfl, by kernel_rfl, by kernel_rfl, (by intro h; first | rfl | cases h), (by intro h; first | kernel_rfl | cases h)⟩
theorem row_72 : TI.ok Try.prog 72 (TT 72) := ⟨by kernel_rfl, by kernel_rfl, by kernel_rfl, by kernel_rfl, (by intro h; first | rfl | cases h), (by intro h; first | kernel_rfl | cases h)⟩
theorem row_73 : TI.ok Try.prog 73 (TT 73) := ⟨by kernel_rfl, by kernel_rfl, by kernel_rfl, by kernel_rfl, (by intro h; first | rfl | cases h), (by intro h; first | kernel_rfl | cases h)⟩
theorem row_79 : TI.ok Try.prog 79 (TT 79) := ⟨by kernel_rfl, by kernel_rfl, by kernel_rfl, by kernel_rfl, (by intro h; first | rfl | cases h), (by intro h; first | kernel_rfl | cases h)⟩
theorem row_80 : TI.ok Try.prog 80 (TT 80) := ⟨by kernel_rfl, by kernel_rfl, by kernel_rfl, by kernel_rfl, (by intro h; first | rfl | cases h), (by intro h; first | kernel_rfl | cases h)⟩
theorem row_81 : TI.ok Try.prog 81 (TT 81) := ⟨by kernel_rfl, by kernel_rfl, by kernel_rfl, by kernel_rfl, (by intro h; first | rfl | cases h), (by intro h; first | kernel_rfl | cases h)⟩
theorem row_82 : TI.ok Try.prog 82 (TT 82) := ⟨by kernel_rfl, by kernel_rfl, by kernel_rfl, by kernel_rfl, (by intro h; first | rfl | cases h), (by intro h; first | kernel_rfl | cases h)⟩
theorem row_83 : TI.ok Try.prog 83 (TT 83) := ⟨by kernel_rfl, by kernel_rfl, by kernel_rfl, by kernel_rfl, (by intro h; first | rfl | cases h), (by intro h; first | kernel_rfl | cases h)⟩
theorem row_84 : TI.ok Try.prog 84 (TT 84) := ⟨by kernel_rfl, by kernel_rfl, by kernel_rfl, by kernel_rfl, (by intro h; first | rfl | cases h), (by intro h; first | kernel_rfl | cases h)⟩
theorem row_85 : TI.ok Try.prog 85 (TT 85) := ⟨by kernel_rfl, by kernel_rfl, by kernel_rfl, by kernel_rfl, (by intro h; first | rfl | cases h), (by intro h; first | kernel_rfl | cases h)⟩

theorem rows_ok : rowsOk Try.prog 0 tab := by
  refine ⟨fun h => absurd rfl h, fun _ => row_1, fun _ => row_2, fun _ => row_3, fun _ => row_4, fun _ => row_5, fun _ => row_6, fun _ => row_7, fun _ => row_8, fun _ => row_9, fun _ => row_10, fun _ => row_11, fun _ => row_12, fun h => absurd rfl h, fun h => absurd rfl h, fun _ => row_15, fun _ => row_16, fun _ => row_17, fun h => absurd rfl h, fun h => absurd rfl h, fun _ => row_20, fun _ => row_21, fun _ => row_22, fun _ => row_23, fun _ => row_24, fun h => absurd rfl h, fun _ => row_26, fun _ => row_27, fun _ => row_28, fun _ => row_29, fun _ => row_30, fun _ => row_31, fun _ => row_32, fun _ => row_33, fun _ => row_34, fun _ => row_35, fun h => absurd rfl h, fun _ => row_37, fun _ => row_38, fun _ => row_39, fun _ => row_40, fun _ => row_41, fun _ => row_42, fun _ => row_43, fun _ => row_44, fun _ => row_45, fun _ => row_46, fun _ => row_47, fun _ => row_48, fun _ => row_49, fun _ => row_50, fun _ => row_51, fun _ => row_52, fun h => absurd rfl h, fun _ => row_54, fun _ => row_55, fun _ => row_56, fun _ => row_57, fun h => absurd rfl h, fun _ => row_59, fun _ => row_60, fun _ => row_61, fun _ => row_62, fun _ => row_63, fun _ => row_64, fun _ => row_65, fun _ => row_66, fun _ => row_67, fun _ => row_68, fun _ => row_69, fun _ => row_70, fun h => absurd rfl h, fun _ => row_72, fun _ => row_73, fun h => absurd rfl h, fun h => absurd rfl h, fun h => absurd rfl h, fun h => absurd rfl h, fun h => absurd rfl h, fun _ => row_79, fun _ => row_80, fun _ => row_81, fun _ => row_82, fun _ => row_83, fun _ => row_84, fun _ => row_85, fun h => absurd rfl h, fun h => absurd rfl h, fun h => absurd rfl h, trivial⟩

theorem gwTT :
    (TT 1 = ⟨.func, 1, 8, [.nilf]⟩) ∧
    (TT 2 = ⟨.int .i64, 1, 8, [.int .i64 0]⟩) ∧
    (TT 3 = ⟨.int .i64, 1, 8, [.int .i64 0]⟩) ∧
    (TT 4 = ⟨.bool, 1, 1, [.bool false]⟩) ∧
    (TT 5 = ⟨.int .u8, 1, 1, [.int .u8 0]⟩) ∧
    (TT 6 = ⟨.int .u8, 1, 1, [.int .u8 0]⟩) ∧
    (TT 7 = ⟨.struct [(0, 2), (1, 3), (2, 4), (3, 6)], 4, 24, [.int .i64 0, .int .i64 0, .bool false, .int .u8 0]⟩) ∧
    (TT 8 = ⟨.struct [(0, 2), (1, 3), (2, 4), (3, 6)], 4, 24, [.int .i64 0, .int .i64 0, .bool false, .int .u8 0]⟩) ∧
    (TT 9 = ⟨.str, 1, 16, [.str []]⟩) ∧
    (TT 10 = ⟨.str, 1, 16, [.str []]⟩) ∧
    (TT 11 = ⟨.str, 1, 16, [.str []]⟩) ∧
    (TT 12 = ⟨.int .u64, 1, 8, [.int .u64 0]⟩) ∧
    (TT 15 = ⟨.ptr 75, 1, 8, [.nilp]⟩) ∧
    (TT 16 = ⟨.ptr 78, 1, 8, [.nilp]⟩) ∧
    (TT 17 = ⟨.ptr 87, 1, 8, [.nilp]⟩) ∧
    (TT 20 = ⟨.iface, 1, 16, [.nili]⟩) ∧
    (TT 21 = ⟨.int .i32, 1, 4, [.int .i32 0]⟩) ∧
    (TT 22 = ⟨.slice 32, 1, 24, [.nils]⟩) ∧
    (TT 23 = ⟨.slice 9, 1, 24, [.nils]⟩) ∧
    (TT 24 = ⟨.int .i64, 1, 8, [.int .i64 0]⟩) ∧
    (TT 26 = ⟨.func, 1, 8, [.nilf]⟩) ∧
    (TT 27 = ⟨.func, 1, 8, [.nilf]⟩) ∧
    (TT 28 = ⟨.func, 1, 8, [.nilf]⟩) ∧
    (TT 29 = ⟨.func, 1, 8, [.nilf]⟩) ∧
    (TT 30 = ⟨.map 9 3, 1, 8, [.nilm]⟩) ∧
    (TT 31 = ⟨.struct [(0, 9), (1, 23)], 2, 40, [.str [], .nils]⟩) ∧
    (TT 32 = ⟨.struct [(0, 9), (1, 23)], 2, 40, [.str [], .nils]⟩) ∧
    (TT 33 = ⟨.func, 1, 8, [.nilf]⟩) ∧
    (TT 34 = ⟨.map 9 4, 1, 8, [.nilm]⟩) ∧
    (TT 35 = ⟨.map 9 23, 1, 8, [.nilm]⟩) ∧
    (TT 37 = ⟨.func, 1, 8, [.nilf]⟩) ∧
    (TT 38 = ⟨.func, 1, 8, [.nilf]⟩) ∧
    (TT 39 = ⟨.func, 1, 8, [.nilf]⟩) ∧
    (TT 40 = ⟨.func, 1, 8, [.nilf]⟩) ∧
    (TT 41 = ⟨.func, 1, 8, [.nilf]⟩) ∧
    (TT 42 = ⟨.func, 1, 8, [.nilf]⟩) ∧
    (TT 43 = ⟨.func, 1, 8, [.nilf]⟩) ∧
    (TT 44 = ⟨.func, 1, 8, [.nilf]⟩) ∧
    (TT 45 = ⟨.func, 1, 8, [.nilf]⟩) ∧
    (TT 46 = ⟨.func, 1, 8, [.nilf]⟩) ∧
    (TT 47 = ⟨.func, 1, 8, [.nilf]⟩) ∧
    (TT 48 = ⟨.int .u64, 1, 8, [.int .u64 0]⟩) ∧
    (TT 49 = ⟨.func, 1, 8, [.nilf]⟩) ∧
    (TT 50 = ⟨.func, 1, 8, [.nilf]⟩) ∧
    (TT 51 = ⟨.func, 1, 8, [.nilf]⟩) ∧
    (TT 52 = ⟨.int .i64, 1, 8, [.int .i64 0]⟩) ∧
    (TT 54 = ⟨.func, 1, 8, [.nilf]⟩) ∧
    (TT 55 = ⟨.func, 1, 8, [.nilf]⟩) ∧
    (TT 56 = ⟨.func, 1, 8, [.nilf]⟩) ∧
    (TT 57 = ⟨.func, 1, 8, [.nilf]⟩) ∧
    (TT 59 = ⟨.func, 1, 8, [.nilf]⟩) ∧
    (TT 60 = ⟨.func, 1, 8, [.nilf]⟩) ∧
    (TT 61 = ⟨.int .u32, 1, 4, [.int .u32 0]⟩) ∧
    (TT 62 = ⟨.func, 1, 8, [.nilf]⟩) ∧
    (TT 63 = ⟨.int .u64, 1, 8, [.int .u64 0]⟩) ∧
    (TT 64 = ⟨.int .u64, 1, 8, [.int .u64 0]⟩) ∧
    (TT 65 = ⟨.func, 1, 8, [.nilf]⟩) ∧
    (TT 66 = ⟨.func, 1, 8, [.nilf]⟩) ∧
    (TT 67 = ⟨.func, 1, 8, [.nilf]⟩) ∧
    (TT 68 = ⟨.ptr 3, 1, 8, [.nilp]⟩) ∧
    (TT 69 = ⟨.func, 1, 8, [.nilf]⟩) ∧
    (TT 70 = ⟨.ptr 64, 1, 8, [.nilp]⟩) ∧
    (TT 72 = ⟨.func, 1, 8, [.nilf]⟩) ∧
    (TT 73 = ⟨.func, 1, 8, [.nilf]⟩) ∧
    (TT 79 = ⟨.func, 1, 8, [.nilf]⟩) ∧
    (TT 80 = ⟨.int .u8, 1, 1, [.int .u8 0]⟩) ∧
    (TT 81 = ⟨.int .u8, 1, 1, [.int .u8 0]⟩) ∧
    (TT 82 = ⟨.func, 1, 8, [.nilf]⟩) ∧
    (TT 83 = ⟨.ptr 5, 1, 8, [.nilp]⟩) ∧
    (TT 84 = ⟨.int .i32, 1, 4, [.int .i32 0]⟩) ∧
    (TT 85 = ⟨.int .i32, 1, 4, [.int .i32 0]⟩) := by
  refine ⟨rfl, rfl, rfl, rfl, rfl, rfl, rfl, rfl, rfl, rfl, rfl, rfl, rfl, rfl, rfl, rfl, rfl, rfl, rfl, rfl, rfl, rfl, rfl, rfl, rfl, rfl, rfl, rfl, rfl, rfl, rfl, rfl, rfl, rfl, rfl, rfl, rfl, rfl, rfl, rfl, rfl, rfl, rfl, rfl, rfl, rfl, rfl, rfl, rfl, rfl, rfl, rfl, rfl, rfl, rfl, rfl, rfl, rfl, rfl, rfl, rfl, rfl, rfl, rfl, rfl, rfl, rfl, rfl, rfl, rfl, rfl⟩

theorem TT_ok : Tab Try.prog TT := by
  intro t h
  unfold TT at h ⊢
  cases ht : tab[t]? with
  | none => rw [ht] at h; exact absurd rfl h
  | some i =>
    rw [ht] at h
    have := rowsOk_get tab 0 t i rows_ok ht h
    simpa using this
theorem TT_mixed : Try.prog.follows .mixedOrders = true := by kernel_rfl
end Go.Proofs.Ytcegdbniggdckaa.Gw

namespace Go.Proofs
open Go.Shelf
shelf_lay Lays.n190 Nm 190 at Try as Ytcegdbniggdckaa.lays190
shelf_lay Lays2.n24 Nm2 24 at Try as Ytcegdbniggdckaa.lays24
shelf_lay Lays2.n16 Nm2 16 at Try as Ytcegdbniggdckaa.lays16
end Go.Proofs
namespace Go.Proofs.Ytcegdbniggdckaa.Gx
open Go Go.Proofs.Ytcegdbniggdckaa.Gw
set_option linter.unusedSimpArgs false
set_option linter.unusedVariables false
open Go.Sort (putRow putCells grow Holds)
theorem c_SortS (ss : List (List UInt8)) (k : Nat) (st : St) (hk : st[k]? = some (.arr 9 1 (rowsS ss))) (hl : ss.length < 4611686018427387904) : VCalls Try.prog TT 13 [.arr k ss.length] st fun r st' =>
    r = .ret (.tup []) ∧ st' = st.set k (.arr 9 1 (rowsS (ss.mergeSort fun x y => decide (x ≤ y)))) := by
  refine ⟨⟨_, Try.func13, by kernel_rfl, by kernel_rfl⟩, fun g w vals hst hv => ?_⟩
  simp only [SimVs, SimV] at hv
  obtain ⟨v, _, rfl, ⟨-, -, h3, -⟩, rfl⟩ := hv
  obtain ⟨m1, m2, xs, ⟨t1, t2, t3⟩, m3, m4⟩ := hst.ent k _ hk
  have hlen : (rowsS ss).length = ss.length := by simp [rowsS]
  rw [hlen] at t1 t2 t3
  have hvv := h3 t1
  subst hvv
  replace t3 := tip2 t3 rfl
  rcases t3 with ⟨h0, h0'⟩ | ⟨b, cap, cur, k1, k2, k3, k4, k5, k6, k7⟩
  · have hnil : ss = [] := List.length_eq_zero_iff.1 h0
    rw [h0']
    subst hnil
    refine (Any.slices_Sort_string_none Ytcegdbniggdckaa.lays190 none 0 w).mono ?_
    rintro e w' ⟨rfl, rfl⟩
    refine ⟨.ret (.tup []), _, g, ⟨rfl, rfl⟩, ⟨_, rfl, by simp [SimV, SimVs]⟩, ?_, Ext.refl _ _⟩
    have : st.set k (.arr 9 1 (rowsS (([] : List (List UInt8)).mergeSort fun x y => decide (x ≤ y)))) = st := by
      rw [List.mergeSort_nil]
      apply List.ext_getElem?
      intro j
      by_cases e : j = k
      · subst e; rw [List.getElem?_set_self (List.getElem?_eq_some_iff.1 hk).1, hk]
      · rw [List.getElem?_set_ne (Ne.symm e)]
    rw [this]; exact hst
  · simp only [Nat.zero_add, Nat.add_zero, List.drop_zero] at k2 k6 k7
    rw [k1]
    rw [rowsS_flat] at m3
    obtain ⟨hxs, hfit⟩ := simStr m3
    have hH : Holds encStr w b 0 ss.toArray := Go.holds_of_block k3 (by rw [← hxs, ← k7, ← m1, Nat.mul_one])
    refine (Any.slices_Sort_string Ytcegdbniggdckaa.lays190 b 0 cap ss w hH (Array.getElem?_eq_some_iff.1 k3).1 hl).mono ?_
    rintro e w' ⟨rfl, n, os, rfl⟩
    obtain ⟨s1, s2⟩ := row_sorted hst hk (fun _ _ _ => trivial) k1 (ds := ss.mergeSort fun x y => decide (x ≤ y)) (by simp) (fun s hs => hfit s (List.mem_mergeSort.1 hs)) rfl
    exact ⟨.ret (.tup []), _, g, ⟨rfl, rfl⟩, ⟨_, rfl, by simp [SimV, SimVs]⟩, s1, s2⟩
theorem c_DeleteS (ss : List (List UInt8)) (k i : Nat) (st : St) (hk : st[k]? = some (.arr 9 1 (rowsS ss))) (hi : i < ss.length) : VCalls Try.prog TT 21 [.arr k ss.length, .int .i64 i, .int .i64 ((i + 1 : Nat) : Int)] st fun r st' =>
    r = .ret (.arr st.length (ss.length - 1)) ∧ st' = st.set k .gone ++ [.arr 9 1 (rowsS (ss.take i ++ ss.drop (i + 1)))] := by
  refine ⟨⟨_, Try.func21, by kernel_rfl, by kernel_rfl⟩, fun g w vals hst hv => ?_⟩
  simp only [SimVs, SimV] at hv
  obtain ⟨v, _, rfl, ⟨-, -, h3, -⟩, _, _, rfl, rfl, _, _, rfl, rfl, rfl⟩ := hv
  obtain ⟨m1, m2, xs, ⟨t1, t2, t3⟩, m3, m4⟩ := hst.ent k _ hk
  have hlen : (rowsS ss).length = ss.length := by simp [rowsS]
  rw [hlen] at t1 t2 t3
  have hvv := h3 t1
  subst hvv
  replace t3 := tip2 t3 rfl
  rcases t3 with ⟨h0, h0'⟩ | ⟨b, cap, cur, k1, k2, k3, k4, k5, k6, k7⟩
  · omega
  · simp only [Nat.zero_add, Nat.add_zero, List.drop_zero] at k2 k6 k7
    rw [k1]
    rw [rowsS_flat] at m3
    obtain ⟨hxs, hfit⟩ := simStr m3
    have hH : Holds encStr w b 0 ss.toArray := Go.holds_of_block k3 (by rw [← hxs, ← k7, ← m1, Nat.mul_one])
    refine (Any.slices_Delete_string Ytcegdbniggdckaa.lays24 b 0 cap i (i + 1) ss w hH k4 (Nat.le_trans k5 (by decide)) (by omega) (by omega)).mono ?_
    rintro e w' ⟨rfl, n, rfl⟩
    have hll : (ss.take i ++ ss.drop (i + 1) ++ List.replicate (i + 1 - i) []).length = ss.length := by simp; omega
    obtain ⟨s1, s2⟩ := row_sorted (os := #[]) hst hk (fun _ _ _ => trivial) k1 (ds := ss.take i ++ ss.drop (i + 1) ++ List.replicate (i + 1 - i) []) hll (fun s hs => by
      simp only [List.mem_append, List.mem_replicate] at hs
      rcases hs with (hs | hs) | ⟨_, rfl⟩
      · exact hfit s (List.mem_of_mem_take hs)
      · exact hfit s (List.mem_of_mem_drop hs)
      · simp) rfl
    rw [Go.Sort.grow_empty] at s1 s2
    have hk' : (st.set k (.arr 9 1 (rowsS (ss.take i ++ ss.drop (i + 1) ++ List.replicate (i + 1 - i) []))))[k]? = some (.arr 9 1 (rowsS (ss.take i ++ ss.drop (i + 1) ++ List.replicate (i + 1 - i) []))) := List.getElem?_set_self (List.getElem?_eq_some_iff.1 hk).1
    obtain ⟨g', e1, e2, e3⟩ := row_shorter (m := ss.length - 1) s1 hk' (b := b) (cap := cap) (by rw [k1]; congr 1; simp only [rowsS, List.length_map, hll]) (by simp only [rowsS, List.length_map, hll]; omega)
    refine ⟨.ret (.arr st.length (ss.length - 1)), _, g', ⟨rfl, ?_⟩, ⟨_, rfl, ?_⟩, e1, s2.trans e2⟩
    · rw [List.set_set]
      congr 3
      simp only [rowsS, List.map_append]
      rw [List.take_append_of_le_length (by simp; omega), List.take_of_length_le (by simp; omega)]
    · rw [List.length_set] at e3
      have : ss.length - (i + 1 - i) = ss.length - 1 := by omega
      rw [this]; exact e3
end Go.Proofs.Ytcegdbniggdckaa.Gx

namespace Go.Proofs.Ytcegdbniggdckaa.Gx
open Go Go.Proofs.Ytcegdbniggdckaa.Gw
abbrev Str := List UInt8
def encS (l : List Str) : V := .lst 1 none (l.map fun s => [.str s])
end Go.Proofs.Ytcegdbniggdckaa.Gx

namespace Go.Proofs.Ytcegdbniggdckaa.Gx
open Go Go.Proofs.Ytcegdbniggdckaa.Gw
set_option linter.unusedSimpArgs false
set_option linter.unusedVariables false

def idxOf (s : Str) : Nat → List Str → Int
  | _, [] => -1
  | i, a :: r => bif decide (s = a) then (i : Int) else idxOf s (i + 1) r
theorem c_Index (st : St) (l : List Str) (s : Str) : VCalls Try.prog TT 27 [encS l, .str s] st fun r st' => r = .ret (.int .i64 (idxOf s 0 l)) ∧ st' = st := by
  refine vfun TT_ok (an := anL []) (L := [0, 1, 4, 5, 7, 8]) (rs := [.tmp 4]) Try.func27 rfl (by kernel_rfl) rfl Try.ntmps27 rfl rfl (Nat.le_refl _) fun hst ha hf => ?_
  simp only [encS, fitL, V.fit, List.length_map] at hf
  simp only [encS]
  simp only [gwL, gwB, gwD, gwE, gwS, gwTT, gwZ, gwN, gwC, Nat.reduceEqDiff, ↓reduceIte, Nat.reduceAdd, Nat.reduceLT, Nat.reduceLeDiff, Nat.reduceMul, List.length_map]
  refine vfor (σ := Nat) [0, 1, 4, 7, 8] (fun i => [(0, true, encS l), (1, true, .str s), (4, true, .int .i64 0), (7, true, .int .i64 l.length), (8, true, .int .i64 i)]) (fun i => st) (fun i => l.length - i) (fun i => i ≤ l.length ∧ idxOf s 0 l = idxOf s i (l.drop i)) 0 rfl TT_ok ⟨Nat.zero_le _, rfl⟩ rfl rfl ?_
  rintro i ⟨hi, hx⟩
  rw [hx]
  rcases at_or_end l i hi with ⟨rfl, hd⟩ | ⟨a, hlt, hget, hdr⟩
  · simp only [gwL, gwB, gwD, gwE, gwS, gwTT, gwZ, gwN, gwC, Nat.reduceEqDiff, ↓reduceIte, Nat.reduceAdd, Nat.reduceLT, Nat.reduceLeDiff, Nat.reduceMul, lt_no, hd, idxOf]
    exact gives_int rfl hst
  · simp only [encS]
    simp only [gwL, gwB, gwD, gwE, gwS, gwTT, gwZ, gwN, gwC, Nat.reduceEqDiff, ↓reduceIte, Nat.reduceAdd, Nat.reduceLT, Nat.reduceLeDiff, Nat.reduceMul, lt_yes hlt, hdr, idxOf, List.length_map, getD_map hget, Int.ofNat_lt.mpr hlt]
    refine iK_split (fun h => ?_) (fun h => ?_)
    · simp only [gwL, gwB, gwD, gwE, gwS, gwTT, gwZ, gwN, gwC, Nat.reduceEqDiff, ↓reduceIte, Nat.reduceAdd, Nat.reduceLT, Nat.reduceLeDiff, Nat.reduceMul, h]
      exact gives_int rfl hst
    · simp only [gwL, gwB, gwD, gwE, gwS, gwTT, gwZ, gwN, gwC, Nat.reduceEqDiff, ↓reduceIte, Nat.reduceAdd, Nat.reduceLT, Nat.reduceLeDiff, Nat.reduceMul, h, Env.keep]
      exact ⟨i + 1, by rw [next_i64 hlt hf.1.1], by omega, hlt, rfl⟩
theorem idxOf_ge (s : Str) : ∀ (l : List Str) (i : Nat), decide (0 ≤ idxOf s i l) = decide (s ∈ l)
  | [], i => by simp [idxOf]
  | a :: r, i => by
    have := idxOf_ge s r (i + 1)
    by_cases h : s = a
    · subst h; simp [idxOf]
    · simp only [idxOf, h, decide_false, cond_false, this, List.mem_cons, false_or]
theorem c_Contains (st : St) (l : List Str) (s : Str) : VCalls Try.prog TT 19 [encS l, .str s] st fun r st' => r = .ret (.bool (decide (s ∈ l))) ∧ st' = st := by
  refine vfun TT_ok (an := anL []) (L := [0, 1, 4]) (rs := [.tmp 4]) Try.func19 rfl (by kernel_rfl) rfl Try.ntmps19 rfl rfl (Nat.le_refl _) fun hst ha hf => ?_
  simp only [encS]
  simp only [gwL, gwB, gwD, gwE, gwS, gwTT, gwZ, gwN, gwC, Nat.reduceEqDiff, ↓reduceIte, Nat.reduceAdd, Nat.reduceLT, Nat.reduceLeDiff, Nat.reduceMul]
  refine (c_Index st l s).use (by simp only [encS]; exact wkL_refl _) fun _ => ?_
  simp only [gwL, gwB, gwD, gwE, gwS, gwTT, gwZ, gwN, gwC, Nat.reduceEqDiff, ↓reduceIte, Nat.reduceAdd, Nat.reduceLT, Nat.reduceLeDiff, Nat.reduceMul, idxOf_ge]
  exact gives_bool rfl hst
theorem rowsS_getD {l : List Str} {i : Nat} {a : Str} (h : l[i]? = some a) : (rowsS l).getD i [] = [.str a] := getD_map (f := fun s => [V.str s]) h
theorem rowsS_len (l : List Str) : (rowsS l).length = l.length := by simp [rowsS]
theorem c_IndexA (st : St) (k : Nat) (l : List Str) (s : Str) (hk : st[k]? = some (.arr 9 1 (rowsS l))) (hl : l.length ≤ 1000000000000000000) : VCalls Try.prog TT 27 [.arr k l.length, .str s] st fun r st' => r = .ret (.int .i64 (idxOf s 0 l)) ∧ st' = st := by
  refine vfun TT_ok (an := anL []) (L := [0, 1, 4, 5, 7, 8]) (rs := [.tmp 4]) Try.func27 rfl (by kernel_rfl) rfl Try.ntmps27 rfl rfl (Nat.le_refl _) fun hst ha hf => ?_
  simp only [gwL, gwB, gwD, gwE, gwS, gwTT, gwZ, gwN, gwC, Nat.reduceEqDiff, ↓reduceIte, Nat.reduceAdd, Nat.reduceLT, Nat.reduceLeDiff, Nat.reduceMul]
  refine vfor (σ := Nat) [0, 1, 4, 7, 8] (fun i => [(0, true, .arr k l.length), (1, true, .str s), (4, true, .int .i64 0), (7, true, .int .i64 l.length), (8, true, .int .i64 i)]) (fun i => st) (fun i => l.length - i) (fun i => i ≤ l.length ∧ idxOf s 0 l = idxOf s i (l.drop i)) 0 rfl TT_ok ⟨Nat.zero_le _, rfl⟩ rfl rfl ?_
  rintro i ⟨hi, hx⟩
  rw [hx]
  rcases at_or_end l i hi with ⟨rfl, hd⟩ | ⟨a, hlt, hget, hdr⟩
  · simp only [gwL, gwB, gwD, gwE, gwS, gwTT, gwZ, gwN, gwC, Nat.reduceEqDiff, ↓reduceIte, Nat.reduceAdd, Nat.reduceLT, Nat.reduceLeDiff, Nat.reduceMul, lt_no, hd, idxOf]
    exact gives_int rfl hst
  · simp only [gwL, gwB, gwD, gwE, gwS, gwTT, gwZ, gwN, gwC, Nat.reduceEqDiff, ↓reduceIte, Nat.reduceAdd, Nat.reduceLT, Nat.reduceLeDiff, Nat.reduceMul, lt_yes hlt, hdr, idxOf, hk, rowsS_getD hget, rowsS_len, Int.toNat_natCast, Int.ofNat_lt.mpr hlt]
    refine ⟨hlt, ?_⟩
    refine iK_split (fun h => ?_) (fun h => ?_)
    · simp only [gwL, gwB, gwD, gwE, gwS, gwTT, gwZ, gwN, gwC, Nat.reduceEqDiff, ↓reduceIte, Nat.reduceAdd, Nat.reduceLT, Nat.reduceLeDiff, Nat.reduceMul, h]
      exact gives_int rfl hst
    · simp only [gwL, gwB, gwD, gwE, gwS, gwTT, gwZ, gwN, gwC, Nat.reduceEqDiff, ↓reduceIte, Nat.reduceAdd, Nat.reduceLT, Nat.reduceLeDiff, Nat.reduceMul, h, Env.keep]
      exact ⟨i + 1, by rw [next_i64 hlt (by omega)], by omega, hlt, rfl⟩
theorem c_ContainsA (st : St) (k : Nat) (l : List Str) (s : Str) (hk : st[k]? = some (.arr 9 1 (rowsS l))) (hl : l.length ≤ 1000000000000000000) : VCalls Try.prog TT 19 [.arr k l.length, .str s] st fun r st' => r = .ret (.bool (decide (s ∈ l))) ∧ st' = st := by
  refine vfun TT_ok (an := anL []) (L := [0, 1, 4]) (rs := [.tmp 4]) Try.func19 rfl (by kernel_rfl) rfl Try.ntmps19 rfl rfl (Nat.le_refl _) fun hst ha hf => ?_
  simp only [gwL, gwB, gwD, gwE, gwS, gwTT, gwZ, gwN, gwC, Nat.reduceEqDiff, ↓reduceIte, Nat.reduceAdd, Nat.reduceLT, Nat.reduceLeDiff, Nat.reduceMul]
  refine (c_IndexA st k l s hk hl).use (wkL_refl _) fun _ => ?_
  simp only [gwL, gwB, gwD, gwE, gwS, gwTT, gwZ, gwN, gwC, Nat.reduceEqDiff, ↓reduceIte, Nat.reduceAdd, Nat.reduceLT, Nat.reduceLeDiff, Nat.reduceMul, idxOf_ge]
  exact gives_bool rfl hst
/-- The first of which it holds. -/
def idxF (p : Str → Bool) : Nat → List Str → Int
  | _, [] => -1
  | i, a :: r => bif p a then (i : Int) else idxF p (i + 1) r
theorem idxF_ge (p : Str → Bool) : ∀ (l : List Str) (i : Nat), decide (0 ≤ idxF p i l) = l.any p
  | [], i => by simp [idxF]
  | a :: r, i => by
    have := idxF_ge p r (i + 1)
    cases h : p a
    · simp only [idxF, h, cond_false, this, List.any_cons, Bool.false_or]
    · simp [idxF, h]
theorem c_IndexFunc (st : St) (l : List Str) (k : FuncId) (cap : List V) (p : Str → Bool) (h : ∀ a ∈ l, VCalls Try.prog TT k (.str a :: cap) st fun r st' => r = .ret (.bool (p a)) ∧ st' = st) :
    VCalls Try.prog TT 16 [encS l, .fn (.func k) cap] st fun r st' => r = .ret (.int .i64 (idxF p 0 l)) ∧ st' = st := by
  refine vfun TT_ok (an := anL []) (L := [0, 1, 4, 5, 7, 8]) (rs := [.tmp 4]) Try.func16 rfl (by kernel_rfl) rfl Try.ntmps16 rfl rfl (Nat.le_refl _) fun hst ha hf => ?_
  simp only [fitL, V.fit, encS, List.length_map] at hf
  simp only [encS]
  simp only [gwL, gwB, gwD, gwE, gwS, gwTT, gwZ, gwN, gwC, Nat.reduceEqDiff, ↓reduceIte, Nat.reduceAdd, Nat.reduceLT, Nat.reduceLeDiff, Nat.reduceMul, List.length_map]
  refine vfor (σ := Nat) [0, 1, 4, 7, 8] (fun i => [(0, true, encS l), (1, true, .fn (.func k) cap), (4, true, .int .i64 0), (7, true, .int .i64 l.length), (8, true, .int .i64 i)]) (fun i => st) (fun i => l.length - i) (fun i => i ≤ l.length ∧ idxF p 0 l = idxF p i (l.drop i)) 0 rfl TT_ok ⟨Nat.zero_le _, rfl⟩ rfl rfl ?_
  rintro i ⟨hi, hx⟩
  rw [hx]
  rcases at_or_end l i hi with ⟨rfl, hd⟩ | ⟨a, hlt, hget, hdr⟩
  · simp only [gwL, gwB, gwD, gwE, gwS, gwTT, gwZ, gwN, gwC, Nat.reduceEqDiff, ↓reduceIte, Nat.reduceAdd, Nat.reduceLT, Nat.reduceLeDiff, Nat.reduceMul, lt_no, hd, idxF]
    exact gives_int rfl hst
  · simp only [encS]
    simp only [gwL, gwB, gwD, gwE, gwS, gwTT, gwZ, gwN, gwC, Nat.reduceEqDiff, ↓reduceIte, Nat.reduceAdd, Nat.reduceLT, Nat.reduceLeDiff, Nat.reduceMul, lt_yes hlt, hdr, idxF, List.length_map, getD_map hget, Int.ofNat_lt.mpr hlt, Nat.le_refl]
    refine (h a (List.mem_of_getElem? hget)).use (wkL_refl _) fun _ => ?_
    simp only [gwL, gwB, gwD, gwE, gwS, gwTT, gwZ, gwN, gwC, Nat.reduceEqDiff, ↓reduceIte, Nat.reduceAdd, Nat.reduceLT, Nat.reduceLeDiff, Nat.reduceMul]
    refine iK_split (fun h1 => ?_) (fun h1 => ?_)
    · simp only [gwL, gwB, gwD, gwE, gwS, gwTT, gwZ, gwN, gwC, Nat.reduceEqDiff, ↓reduceIte, Nat.reduceAdd, Nat.reduceLT, Nat.reduceLeDiff, Nat.reduceMul, h1, cond_true]
      exact gives_int rfl hst
    · simp only [gwL, gwB, gwD, gwE, gwS, gwTT, gwZ, gwN, gwC, Nat.reduceEqDiff, ↓reduceIte, Nat.reduceAdd, Nat.reduceLT, Nat.reduceLeDiff, Nat.reduceMul, h1, cond_false, Env.keep]
      exact ⟨i + 1, by rw [next_i64 hlt hf.1.1], by omega, hlt, rfl⟩
theorem c_IndexFuncA (st : St) (o : Nat) (l : List Str) (ho : st[o]? = some (.arr 9 1 (rowsS l))) (hl : l.length ≤ 1000000000000000000) (k : FuncId) (cap : List V) (p : Str → Bool) (h : ∀ a ∈ l, VCalls Try.prog TT k (.str a :: cap) st fun r st' => r = .ret (.bool (p a)) ∧ st' = st) :
    VCalls Try.prog TT 16 [.arr o l.length, .fn (.func k) cap] st fun r st' => r = .ret (.int .i64 (idxF p 0 l)) ∧ st' = st := by
  refine vfun TT_ok (an := anL []) (L := [0, 1, 4, 5, 7, 8]) (rs := [.tmp 4]) Try.func16 rfl (by kernel_rfl) rfl Try.ntmps16 rfl rfl (Nat.le_refl _) fun hst ha hf => ?_
  simp only [gwL, gwB, gwD, gwE, gwS, gwTT, gwZ, gwN, gwC, Nat.reduceEqDiff, ↓reduceIte, Nat.reduceAdd, Nat.reduceLT, Nat.reduceLeDiff, Nat.reduceMul]
  refine vfor (σ := Nat) [0, 1, 4, 7, 8] (fun i => [(0, true, .arr o l.length), (1, true, .fn (.func k) cap), (4, true, .int .i64 0), (7, true, .int .i64 l.length), (8, true, .int .i64 i)]) (fun i => st) (fun i => l.length - i) (fun i => i ≤ l.length ∧ idxF p 0 l = idxF p i (l.drop i)) 0 rfl TT_ok ⟨Nat.zero_le _, rfl⟩ rfl rfl ?_
  rintro i ⟨hi, hx⟩
  rw [hx]
  rcases at_or_end l i hi with ⟨rfl, hd⟩ | ⟨a, hlt, hget, hdr⟩
  · simp only [gwL, gwB, gwD, gwE, gwS, gwTT, gwZ, gwN, gwC, Nat.reduceEqDiff, ↓reduceIte, Nat.reduceAdd, Nat.reduceLT, Nat.reduceLeDiff, Nat.reduceMul, lt_no, hd, idxF]
    exact gives_int rfl hst
  · simp only [gwL, gwB, gwD, gwE, gwS, gwTT, gwZ, gwN, gwC, Nat.reduceEqDiff, ↓reduceIte, Nat.reduceAdd, Nat.reduceLT, Nat.reduceLeDiff, Nat.reduceMul, lt_yes hlt, hdr, idxF, ho, rowsS_getD hget, rowsS_len, Int.toNat_natCast, Int.ofNat_lt.mpr hlt]
    refine ⟨hlt, ?_⟩
    refine (h a (List.mem_of_getElem? hget)).use (wkL_refl _) fun _ => ?_
    simp only [gwL, gwB, gwD, gwE, gwS, gwTT, gwZ, gwN, gwC, Nat.reduceEqDiff, ↓reduceIte, Nat.reduceAdd, Nat.reduceLT, Nat.reduceLeDiff, Nat.reduceMul]
    refine iK_split (fun h1 => ?_) (fun h1 => ?_)
    · simp only [gwL, gwB, gwD, gwE, gwS, gwTT, gwZ, gwN, gwC, Nat.reduceEqDiff, ↓reduceIte, Nat.reduceAdd, Nat.reduceLT, Nat.reduceLeDiff, Nat.reduceMul, h1, cond_true]
      exact gives_int rfl hst
    · simp only [gwL, gwB, gwD, gwE, gwS, gwTT, gwZ, gwN, gwC, Nat.reduceEqDiff, ↓reduceIte, Nat.reduceAdd, Nat.reduceLT, Nat.reduceLeDiff, Nat.reduceMul, h1, cond_false, Env.keep]
      exact ⟨i + 1, by rw [next_i64 hlt (by omega)], by omega, hlt, rfl⟩
theorem c_ContainsFunc (st : St) (l : List Str) (k : FuncId) (cap : List V) (p : Str → Bool) (h : ∀ a ∈ l, VCalls Try.prog TT k (.str a :: cap) st fun r st' => r = .ret (.bool (p a)) ∧ st' = st) :
    VCalls Try.prog TT 14 [encS l, .fn (.func k) cap] st fun r st' => r = .ret (.bool (l.any p)) ∧ st' = st := by
  refine vfun TT_ok (an := anL []) (L := [0, 1, 4]) (rs := [.tmp 4]) Try.func14 rfl (by kernel_rfl) rfl Try.ntmps14 rfl rfl (Nat.le_refl _) fun hst ha hf => ?_
  simp only [encS]
  simp only [gwL, gwB, gwD, gwE, gwS, gwTT, gwZ, gwN, gwC, Nat.reduceEqDiff, ↓reduceIte, Nat.reduceAdd, Nat.reduceLT, Nat.reduceLeDiff, Nat.reduceMul]
  refine (c_IndexFunc st l k cap p h).use (wkL_refl _) fun _ => ?_
  simp only [gwL, gwB, gwD, gwE, gwS, gwTT, gwZ, gwN, gwC, Nat.reduceEqDiff, ↓reduceIte, Nat.reduceAdd, Nat.reduceLT, Nat.reduceLeDiff, Nat.reduceMul, idxF_ge]
  exact gives_bool rfl hst
end Go.Proofs.Ytcegdbniggdckaa.Gx

namespace Go.Proofs.Ytcegdbniggdckaa.Gx
open Go Go.Proofs.Ytcegdbniggdckaa.Gw
set_option linter.unusedSimpArgs false
set_option linter.unusedVariables false

abbrev NM := List (Str × List Str)
/-- What a name needs. -/
def ndM (M : NM) (n : Str) : List Str := (asc n M).getD []
theorem wk_need (M : NM) (n : Str) : wk ((Option.map encS (asc n M)).getD .nils) (encS (ndM M n)) := by
  unfold ndM
  cases asc n M with
  | none => simp only [Option.map_none, Option.getD_none]; exact wk_nils 1
  | some l => exact wk_refl _
set_option maxHeartbeats 1000000 in
theorem c_Order1 (st : St) (a o : Nat) (M : NM) (m : Str) (h1 : st[a]? = some (.box [.map o])) (h2 : st[o]? = some (mapE V.str encS M)) :
    VCalls Try.prog TT 15 [.str m, .ptr a 0] st fun r st' => r = .ret (.bool !(asc m M).isSome) ∧ st' = st := by
  refine vfun TT_ok (an := anL []) (L := [0, 1, 3, 5]) (rs := [.tmp 3]) Try.func15 rfl (by kernel_rfl) rfl Try.ntmps15 rfl rfl (Nat.le_refl _) fun hst ha hf => ?_
  have hlk := fun (i : TI) (ok : Bool) (st : St) => look_mapE (ev := encS) (keyP_str TT) i ok m st M
  simp only [gwL, gwB, gwD, gwE, gwS, gwTT, gwZ, gwN, gwC, Nat.reduceEqDiff, ↓reduceIte, Nat.reduceAdd, Nat.reduceLT, Nat.reduceLeDiff, Nat.reduceMul, mapLook, mapPut, mapRange, mapLen, makeMapE, keyOk, keyKind, keyGood, lookR, zeroV, entV, entS, nextV, nextS, beq_self_eq_true, cond_true, cond_false, h1, h2, hlk]
  exact gives_bool rfl hst
set_option maxHeartbeats 1000000 in
theorem c_Order21 (st : St) (b k : Nat) (l : List Str) (m : Str) (h1 : st[b]? = some (.box [.arr k l.length])) (h2 : st[k]? = some (.arr 9 1 (rowsS l))) (hl : l.length ≤ 1000000000000000000) :
    VCalls Try.prog TT 18 [.str m, .ptr b 0] st fun r st' => r = .ret (.bool (decide (m ∈ l))) ∧ st' = st := by
  refine vfun TT_ok (an := anL []) (L := [0, 1, 3]) (rs := [.tmp 3]) Try.func18 rfl (by kernel_rfl) rfl Try.ntmps18 rfl rfl (Nat.le_refl _) fun hst ha hf => ?_
  simp only [gwL, gwB, gwD, gwE, gwS, gwTT, gwZ, gwN, gwC, Nat.reduceEqDiff, ↓reduceIte, Nat.reduceAdd, Nat.reduceLT, Nat.reduceLeDiff, Nat.reduceMul, h1]
  refine (c_ContainsA st k l m h2 hl).use (wkL_refl _) fun _ => ?_
  simp only [gwL, gwB, gwD, gwE, gwS, gwTT, gwZ, gwN, gwC, Nat.reduceEqDiff, ↓reduceIte, Nat.reduceAdd, Nat.reduceLT, Nat.reduceLeDiff, Nat.reduceMul]
  exact gives_bool rfl hst
set_option maxHeartbeats 1000000 in
theorem c_Order2 (st : St) (a o : Nat) (M : NM) (b k : Nat) (l : List Str) (n : Str) (h1 : st[a]? = some (.box [.map o])) (h2 : st[o]? = some (mapE V.str encS M)) (h3 : st[b]? = some (.box [.arr k l.length])) (h4 : st[k]? = some (.arr 9 1 (rowsS l))) (hl : l.length ≤ 1000000000000000000) :
    VCalls Try.prog TT 17 [.str n, .ptr a 0, .ptr b 0] st fun r st' => r = .ret (.bool !((ndM M n).any fun m => decide (m ∈ l))) ∧ st' = st := by
  refine vfun TT_ok (an := anL []) (L := [0, 1, 2, 4]) (rs := [.tmp 4]) Try.func17 rfl (by kernel_rfl) rfl Try.ntmps17 rfl rfl (Nat.le_refl _) fun hst ha hf => ?_
  have hlk := fun (i : TI) (ok : Bool) (st : St) => look_mapE (ev := encS) (keyP_str TT) i ok n st M
  simp only [gwL, gwB, gwD, gwE, gwS, gwTT, gwZ, gwN, gwC, Nat.reduceEqDiff, ↓reduceIte, Nat.reduceAdd, Nat.reduceLT, Nat.reduceLeDiff, Nat.reduceMul, mapLook, mapPut, mapRange, mapLen, makeMapE, keyOk, keyKind, keyGood, lookR, zeroV, entV, entS, nextV, nextS, beq_self_eq_true, cond_true, cond_false, h1, h2, hlk]
  refine (c_ContainsFunc st (ndM M n) 18 [.ptr b 0] (fun m => decide (m ∈ l)) fun m _ => c_Order21 st b k l m h3 h4 hl).use (wkL_cons (wk_need _ _) (wkL_refl _)) fun _ => ?_
  simp only [gwL, gwB, gwD, gwE, gwS, gwTT, gwZ, gwN, gwC, Nat.reduceEqDiff, ↓reduceIte, Nat.reduceAdd, Nat.reduceLT, Nat.reduceLeDiff, Nat.reduceMul]
  exact gives_bool rfl hst
end Go.Proofs.Ytcegdbniggdckaa.Gx

namespace Go.Proofs.Ytcegdbniggdckaa.Gx
open Go Go.Proofs.Ytcegdbniggdckaa.Gw
set_option linter.unusedSimpArgs false
set_option linter.unusedVariables false

theorem rows_cells {g : G} {w : World} : ∀ {l : List Str} {b off : Nat}, SimRows g w ⟨b, off, none⟩ 1 (rowsS l) → ∀ (j : Nat) (s : Str), l[j]? = some s → w.cell? ⟨b, off + j, none⟩ = some (.string ⟨s.toArray⟩) ∧ s.length ≤ 9223372036854775807
  | [], b, off, _, j, s, hj => by simp at hj
  | x :: r, b, off, h, j, s, hj => by
    simp only [rowsS, List.map_cons, SimRows, SimAt, and_true] at h
    obtain ⟨-, ⟨v, h1, h2, h3, h4⟩, h5⟩ := h
    cases j with
    | zero =>
      simp only [List.getElem?_cons_zero, Option.some.injEq] at hj
      subst hj
      simp only [SimV] at h4
      exact ⟨by rw [Nat.add_zero, h2, h4.1], h4.2⟩
    | succ j =>
      have := rows_cells (b := b) (off := off + 1) h5 j s (by simpa using hj)
      rw [show off + (j + 1) = off + 1 + j by omega]
      exact this
theorem cells_rows {g : G} {w : World} : ∀ {l : List Str} {b off : Nat}, (∀ (j : Nat) (s : Str), l[j]? = some s → sealed g w ⟨b, off + j, none⟩ ∧ w.cell? ⟨b, off + j, none⟩ = some (.string ⟨s.toArray⟩) ∧ s.length ≤ 9223372036854775807) → SimRows g w ⟨b, off, none⟩ 1 (rowsS l)
  | [], b, off, _ => trivial
  | x :: r, b, off, h => by
    simp only [rowsS, List.map_cons, SimRows, SimAt, and_true]
    obtain ⟨h1, h2, h3⟩ := h 0 x rfl
    refine ⟨rfl, ⟨_, h1, h2, rfl, rfl, h3⟩, ?_⟩
    exact cells_rows (b := b) (off := off + 1) fun j s hj => by
      have := h (j + 1) s (by simpa using hj)
      rw [show off + (j + 1) = off + 1 + j by omega] at this
      exact this
variable {T : Nat → TI}
/-- A new row of strings. -/
theorem row_new {g : G} {w w' : World} {st : St} {e : TypeId} {l : List Str} {v : Value} (hst : SimSt T g st w) (he : (T e).size = 1) (hb : Go.RowKit.Below w.heap.size w w') (ho : w'.ownsRow w.heap.size e 1 v l.length (l.map encStr))
    (hl : ∀ s ∈ l, s.length ≤ 9223372036854775807) : ∃ g', SimSt T g' (st ++ [.tip e l.length]) w' ∧ Ext g w g' w' ∧ SimV g' w' (.lst 1 (some st.length) (rowsS l)) v := by
  have hn := hst.n
  have hgrow : ∀ (g1 : G) (hg : g1.n = g.n ∧ g1.pb = g.pb ∧ g1.tv = g.tv ∧ g1.len = g.len) (hown : ∀ b, b < w.heap.size → g1.own b = g.own b), Ext g w g1 w' := fun g1 hg hown =>
    ⟨hb.os, hb.tape, hb.output, hb.size, by rw [hg.1]; exact Nat.le_refl _, fun _ _ => by rw [hg.2.1], fun _ _ => by rw [hg.2.2.2]; exact Nat.le_refl _, fun _ _ _ => by rw [hg.2.2.1], fun b h1 h2 => ⟨hb.block b h1, by rw [hown b h1, h2]⟩,
      fun b k h1 h2 => ⟨fun off _ => cell_of_block (hb.block b h1), fun k' h3 => by rw [hown b h1, h2] at h3; cases h3; exact Nat.le_refl _⟩⟩
  obtain ⟨o1, o2⟩ := ho
  rcases o2 with ⟨rfl, h0⟩ | ⟨b, cap, cur, rfl, p1, p2, p3, p4, p5, p6⟩
  · have hl0 : l = [] := List.length_eq_zero_iff.1 h0
    subst hl0
    have x1 := hgrow g ⟨rfl, rfl, rfl, rfl⟩ fun _ _ => rfl
    have s1 : SimSt T g st w' := hst.keep x1 rfl (fun _ _ => rfl) fun b h1 _ => ⟨hb.block b h1, rfl⟩
    have x2 := Ext.push g w' 0 (.slice none 0 0) 0
    refine ⟨_, s1.push (b := 0) (v := .slice none 0 0) (k := 0) ⟨0, [], by simp [G.push], by simp, .inl ⟨rfl, by simp [G.push]⟩⟩ (fun c hc => by simp [blkOf, G.push, Value.ownBlock] at hc), x1.trans x2, ?_⟩
    simp only [SimV]
    refine ⟨none, 0, rfl, Nat.le_refl _, Nat.zero_le _, fun _ => rfl, .inl rfl, fun e' he' => ?_, trivial⟩
    cases he'
    exact ⟨by simp [G.push, hn], Nat.zero_le _, fun _ => by simp [G.push, hn, rowsS]⟩
  · have x1 := hgrow (g.new b (some l.length)) ⟨rfl, rfl, rfl, rfl⟩ fun c hc => by simp only [G.new]; rw [if_neg (by omega)]
    have s1 : SimSt T (g.new b (some l.length)) st w' := hst.keep x1 rfl (fun _ _ => rfl) fun c h1 _ => ⟨hb.block c h1, by simp only [G.new]; rw [if_neg (by omega)]⟩
    have x2 := Ext.push (g.new b (some l.length)) w' 0 (.slice (some ⟨b, 0, none⟩) l.length cap) l.length
    have hn2 : (g.new b (some l.length)).n = st.length := hn
    refine ⟨_, s1.push (b := 0) (v := .slice (some ⟨b, 0, none⟩) l.length cap) (k := l.length) ⟨0, cur.toList.take (l.length * (T e).size), by simp [G.push], ?_, .inr <| .inr ⟨b, cap, cur, by simp [G.push], by simp [G.push, G.new, he], p2, p3, p4, by rw [he, Nat.zero_add]; exact p5, by rw [List.drop_zero]⟩⟩ ?_, x1.trans x2, ?_⟩
    · rw [he, p6]; simp
    · intro c hc i ei hi hbk
      simp only [blkOf, G.push, if_true, Value.ownBlock, Option.some.injEq] at hc
      subst hc
      have : blkOf g i ei = some b := by cases ei <;> exact hbk
      have := hst.blk_lt hi this
      omega
    · simp only [SimV]
      refine ⟨some ⟨b, 0, none⟩, cap, by simp [rowsS], by simpa [rowsS] using p3, p4, (fun h => by cases h), .inr rfl, fun e' he' => ?_, cells_rows fun j s hj => ?_⟩
      · cases he'
        exact ⟨by simp [G.push, hn2], by simp [G.push, hn2, rowsS], fun _ => by simp [G.push, hn2, rowsS]⟩
      · have hjl := (List.getElem?_eq_some_iff.1 hj).1
        refine ⟨⟨rfl, (Array.getElem?_eq_some_iff.1 p2).1, fun k hk => by simp [G.push, G.new] at hk; subst hk; show 0 + j < l.length; omega⟩, ?_, hl s (List.mem_of_getElem? hj)⟩
        have hc : cur[j]? = some (encStr s) := by
          have h6 : (cur.toList.take (l.length * 1))[j]? = (l.map encStr)[j]? := by rw [p6]
          rw [List.getElem?_take_of_lt (by omega), List.getElem?_map, hj] at h6
          simpa using h6
        simp [World.cell?, p2, hc]
theorem c_Clone (st : St) (l : List Str) (hl : l.length * 16 ≤ 140737488355328) : VCalls Try.prog TT 28 [encS l] st fun r st' => r = .ret (.lst 1 (some st.length) (rowsS l)) ∧ st' = st ++ [.tip 9 l.length] := by
  refine ⟨⟨_, Try.func28, by kernel_rfl, by kernel_rfl⟩, fun g w vals hst hv => ?_⟩
  simp only [SimVs, encS, SimV] at hv
  obtain ⟨v, _, rfl, ⟨a, cap, rfl, h1, h2, h3, h4, -, h5⟩, rfl⟩ := hv
  have fin : ∀ (v : Value) (w' : World), Go.RowKit.Below w.heap.size w w' → w'.ownsRow w.heap.size 9 1 v l.length (l.map encStr) → (∀ s ∈ l, s.length ≤ 9223372036854775807) →
      ∃ r st' g', (r = VEnd.ret (.lst 1 (some st.length) (rowsS l)) ∧ st' = st ++ [.tip 9 l.length]) ∧ SimEnd g' w' r (.returned v) ∧ SimSt TT g' st' w' ∧ Ext g w g' w' := fun v w' hb ho hl => by
    obtain ⟨g', e1, e2, e3⟩ := row_new hst rfl hb ho hl
    exact ⟨_, _, g', ⟨rfl, rfl⟩, ⟨v, rfl, e3⟩, e1, e2⟩
  rw [List.length_map]
  cases a with
  | none =>
    have hc0 := h3 rfl
    rw [List.length_map] at h1
    have hl0 : l = [] := List.length_eq_zero_iff.1 (by omega)
    subst hl0
    refine (Any.slices_Clone_string_nil Ytcegdbniggdckaa.lays16 _ _ w).mono ?_
    rintro e w' ⟨rfl, rfl⟩
    exact fin _ _ (Go.RowKit.Below.refl _ _) ⟨by simp, .inl ⟨rfl, rfl⟩⟩ (by simp)
  | some a =>
    by_cases hl0 : l = []
    · subst hl0
      refine (Any.slices_Clone_string_zero Ytcegdbniggdckaa.lays16 a _ w).mono ?_
      rintro e w' ⟨v', rfl, k1, k2, k3⟩
      exact fin _ _ k3 k1 (by simp)
    · obtain ⟨b, off, sp⟩ := a
      have hsp : sp = none := by
        rcases h4 with h4 | h4
        · exact absurd (List.map_eq_nil_iff.1 h4) hl0
        · exact h4
      subst hsp
      have hcells := rows_cells h5
      refine (Any.slices_Clone_string Ytcegdbniggdckaa.lays16 b off l.length cap (l.map fun s => ⟨s.toArray⟩) w (by simp) hl fun j hj => ?_).mono ?_
      · rw [List.length_map] at hj
        rw [(hcells j l[j] (List.getElem?_eq_getElem hj)).1, List.getD_eq_getElem?_getD, List.getElem?_map, List.getElem?_eq_getElem hj]
        rfl
      · rintro e w' ⟨v', rfl, k1, k2, k3⟩
        refine fin _ _ k3 ?_ fun s hs => ?_
        · have : ((l.map fun s => (⟨s.toArray⟩ : ByteArray)).take l.length).map Value.string = l.map encStr := by
            rw [List.take_of_length_le (by simp), List.map_map]; rfl
          rw [this] at k1
          exact k1
        · obtain ⟨j, hj⟩ := List.getElem?_of_mem hs
          exact (hcells j s hj).2
end Go.Proofs.Ytcegdbniggdckaa.Gx

namespace Go.Proofs.Ytcegdbniggdckaa.Gx
open Go Go.Proofs.Ytcegdbniggdckaa.Gw
set_option linter.unusedSimpArgs false
set_option linter.unusedVariables false

/-- A name needs another one, by way of others. -/
inductive Rch (f : Str → List Str) : Str → Str → Prop
  | one {a b : Str} : b ∈ f a → Rch f a b
  | step {a b c : Str} : Rch f a b → c ∈ f b → Rch f a c
open Classical in
noncomputable def cycL (f : Str → List Str) : List Str → Str
  | [] => []
  | n :: r => if Rch f n n then n else cycL f r
theorem rch_closed {f : Str → List Str} {n : Str} {seen : List Str} (h2 : ∀ m ∈ f n, m ∈ seen) (h3 : ∀ a ∈ seen, ∀ m ∈ f a, m ∈ seen) : ∀ {m : Str}, Rch f n m → m ∈ seen := by
  intro m h
  induction h with
  | one h => exact h2 _ h
  | step _ hc ih => exact h3 _ ih _ hc
/-- What a map's names need, all of it. -/
def needsU (M : NM) : List Str := M.flatMap (·.2)
theorem ndM_mem {M : NM} {n m : Str} (h : m ∈ ndM M n) : m ∈ needsU M := by
  unfold ndM at h
  induction M with
  | nil => simp [asc] at h
  | cons p r ih =>
    obtain ⟨a, l⟩ := p
    simp only [asc] at h
    simp only [needsU, List.flatMap_cons, List.mem_append]
    by_cases e : n = a
    · simp only [e, if_true, Option.getD_some] at h; exact .inl h
    · simp only [e, if_false] at h; exact .inr (ih h)
structure MOk (M : NM) : Prop where
  few : M.length ≤ 1048576
  len : ∀ p ∈ M, p.2.length ≤ 1048576
theorem needsU_len : ∀ {M : NM}, (∀ p ∈ M, p.2.length ≤ 1048576) → (needsU M).length ≤ M.length * 1048576
  | [], _ => by simp [needsU]
  | p :: r, h => by
    have h1 := h p (by simp)
    have h2 := needsU_len (M := r) fun q hq => h q (by simp [hq])
    simp only [needsU, List.flatMap_cons, List.length_append, List.length_cons, Nat.succ_mul] at *
    omega
theorem ndM_len {M : NM} (h : MOk M) (n : Str) : (ndM M n).length ≤ 1048576 := by
  unfold ndM
  have h' := h.len
  clear h
  induction M with
  | nil => simp [asc]
  | cons p r ih =>
    obtain ⟨a, l⟩ := p
    simp only [asc]
    by_cases e : n = a
    · simp only [e, if_true, Option.getD_some]; exact h' (a, l) (by simp)
    · simp only [e, if_false]; exact ih fun q hq => h' q (by simp [hq])
/-- How many are not seen yet. -/
def leftU (U seen : List Str) : Nat := (U.filter fun u => !decide (u ∈ seen)).length
theorem leftU_le (U : List Str) (seen : List Str) : leftU U seen ≤ U.length := List.length_filter_le _ _
theorem leftU_new {U seen : List Str} {m : Str} (h1 : m ∈ U) (h2 : m ∉ seen) : leftU U (seen ++ [m]) + 1 ≤ leftU U seen := by
  unfold leftU
  induction U with
  | nil => simp at h1
  | cons u r ih =>
    have key : ∀ r : List Str, (r.filter fun u => !decide (u ∈ seen ++ [m])).length ≤ (r.filter fun u => !decide (u ∈ seen)).length := by
      intro r
      induction r with
      | nil => simp
      | cons v t iht =>
        by_cases a : v ∈ seen
        · have b : v ∈ seen ++ [m] := by simp [a]
          rw [List.filter_cons_of_neg (by simp [a]), List.filter_cons_of_neg (by simp [a])]
          exact iht
        · rw [List.filter_cons_of_pos (p := fun u => !decide (u ∈ seen)) (by simp [a])]
          by_cases b : v ∈ seen ++ [m]
          · rw [List.filter_cons_of_neg (by rw [decide_eq_true b]; simp)]; simp only [List.length_cons]; omega
          · rw [List.filter_cons_of_pos (by rw [decide_eq_false b]; rfl)]; simp only [List.length_cons]; omega
    by_cases e : u = m
    · subst e
      rw [List.filter_cons_of_neg (by simp), List.filter_cons_of_pos (p := fun u => !decide (u ∈ seen)) (by simp [h2])]
      have := key r
      simp only [List.length_cons]; omega
    · have hm : m ∈ r := by rcases List.mem_cons.1 h1 with h | h
                            · exact absurd h.symm e
                            · exact h
      have := ih hm
      by_cases a : u ∈ seen
      · rw [List.filter_cons_of_neg (by simp [a]), List.filter_cons_of_neg (by simp [a])]
        exact this
      · rw [List.filter_cons_of_pos (by simp [a, e]), List.filter_cons_of_pos (p := fun u => !decide (u ∈ seen)) (by simp [a])]
        simp only [List.length_cons]; omega
theorem asc_need {M : NM} {n : Str} (h : (asc n M).isSome = true) : asc n M = some (ndM M n) := by
  unfold ndM
  cases e : asc n M with
  | none => rw [e] at h; cases h
  | some l => rfl
set_option maxRecDepth 20000 in
set_option maxHeartbeats 4000000 in
theorem c_cycle (st : St) (k o : Nat) (l : List Str) (M : NM) (h1 : st[k]? = some (.arr 9 1 (rowsS l))) (h2 : st[o]? = some (mapE V.str encS M)) (hl : l.length ≤ 1048576) (hM : MOk M)
    (hin : ∀ n ∈ l, (asc n M).isSome = true) (hall : ∀ n m, m ∈ ndM M n → (asc m M).isSome = true) :
    VCalls Try.prog TT 20 [.arr k l.length, .map o] st fun r st' => r = .ret (.str (cycL (ndM M) l)) ∧ st' = st := by
  refine vfun TT_ok (an := anL []) (L := [0, 1, 4, 6, 7, 8, 10, 11, 12, 13, 32, 33, 34]) (rs := [.tmp 4]) Try.func20 rfl (by kernel_rfl) rfl Try.ntmps20 rfl rfl (Nat.le_refl _) fun hst ha hf => ?_
  simp only [gwL, gwB, gwD, gwE, gwS, gwTT, gwZ, gwN, gwC, Nat.reduceEqDiff, ↓reduceIte, Nat.reduceAdd, Nat.reduceLT, Nat.reduceLeDiff, Nat.reduceMul]
  refine vfor (σ := Nat × St) [0, 1, 4, 11, 12, 13] (fun x => [(0, true, .arr k l.length), (1, true, .map o), (4, true, .str []), (11, true, .arr k l.length), (12, true, .int .i64 l.length), (13, true, .int .i64 x.1)]) (fun x => x.2) (fun x => l.length - x.1) (fun x => x.1 ≤ l.length ∧ (∃ ex, x.2 = st ++ ex) ∧ cycL (ndM M) l = cycL (ndM M) (l.drop x.1)) (0, st) rfl TT_ok ⟨Nat.zero_le _, ⟨[], by rw [List.append_nil]⟩, rfl⟩ rfl rfl ?_
  rintro ⟨i, S⟩ ⟨hi, ⟨ex, hex⟩, hx⟩
  simp only at hi hex hx ⊢
  have hok : k < st.length := (List.getElem?_eq_some_iff.1 h1).1
  have hoo : o < st.length := (List.getElem?_eq_some_iff.1 h2).1
  rw [hx]
  rcases at_or_end l i hi with ⟨rfl, hd⟩ | ⟨n, hlt, hget, hdr⟩
  · rw [hd, hex]
    simp only [gwL, gwB, gwD, gwE, gwS, gwTT, gwZ, gwN, gwC, Nat.reduceEqDiff, ↓reduceIte, Nat.reduceAdd, Nat.reduceLT, Nat.reduceLeDiff, Nat.reduceMul, lt_no, cycL]
    exact gives_of (wk_refl _) (wkSt_refl _) (by simp [V.lt]) hst
  have hg1 : S[k]? = some (.arr 9 1 (rowsS l)) := by rw [hex, st_old hok, h1]
  have hg2 : S[o]? = some (mapE V.str encS M) := by rw [hex, st_old hoo, h2]
  have hlk := fun (i : TI) (ok : Bool) (st : St) (n : Str) => look_mapE (ev := encS) (keyP_str TT) i ok n st M
  have hnn := asc_need (hin n (List.mem_of_getElem? hget))
  simp only [gwL, gwB, gwD, gwE, gwS, gwTT, gwZ, gwN, gwC, Nat.reduceEqDiff, ↓reduceIte, Nat.reduceAdd, Nat.reduceLT, Nat.reduceLeDiff, Nat.reduceMul, mapLook, mapPut, mapRange, mapLen, makeMapE, keyOk, keyKind, keyGood, lookR, zeroV, entV, entS, nextV, nextS, beq_self_eq_true, cond_true, cond_false, lt_yes hlt, hg1, hg2, rowsS_getD hget, rowsS_len, Int.toNat_natCast, hlk, hnn, Int.ofNat_lt.mpr hlt]
  refine ⟨hlt, ?_⟩
  have hU := needsU_len hM.len
  have hfew := hM.few
  have hnl := ndM_len hM n
  refine (c_Clone S (ndM M n) (by omega)).use (wkL_refl _) fun _ => ?_
  simp only [gwL, gwB, gwD, gwE, gwS, gwTT, gwZ, gwN, gwC, Nat.reduceEqDiff, ↓reduceIte, Nat.reduceAdd, Nat.reduceLT, Nat.reduceLeDiff, Nat.reduceMul]
  refine vfor (σ := Nat × St × List Str) [0, 1, 4, 11, 12, 13, 6, 7, 8] (fun x => [(0, true, .arr k l.length), (1, true, .map o), (4, true, .str []), (11, true, .arr k l.length), (12, true, .int .i64 l.length), (13, true, .int .i64 i), (6, true, .str n), (7, true, .lst 1 (some S.length) (rowsS x.2.2)), (8, true, .int .i64 x.1)]) (fun x => S ++ (Ent.tip 9 x.2.2.length :: x.2.1)) (fun x => leftU (needsU M) x.2.2 + x.2.2.length - x.1) (fun x => x.1 ≤ x.2.2.length ∧ leftU (needsU M) x.2.2 + x.2.2.length ≤ 1048576 * 1048577 ∧ (∀ m ∈ x.2.2, Rch (ndM M) n m) ∧ (∀ m ∈ ndM M n, m ∈ x.2.2) ∧ ∀ j a, j < x.1 → x.2.2[j]? = some a → ∀ m ∈ ndM M a, m ∈ x.2.2) (0, [], ndM M n) rfl TT_ok ⟨Nat.zero_le _, by have := leftU_le (needsU M) (ndM M n); have := Nat.mul_le_mul_right 1048576 hfew; simp only; omega, fun m hm => .one hm, fun m hm => hm, fun j a hj => by omega⟩ rfl rfl ?_
  rintro ⟨q, Y, seen⟩ ⟨hq, hqs, hc1, hc2, hc3⟩
  simp only at hq hqs hc1 hc2 hc3 ⊢
  rcases at_or_end seen q hq with ⟨hqe, hqd⟩ | ⟨a, hqt, hqg, hqr⟩
  · have hqe2 : q = seen.length := hqe
    subst hqe2
    have hcl : ∀ b ∈ seen, ∀ m ∈ ndM M b, m ∈ seen := fun b hb => by
      obtain ⟨j, hj⟩ := List.getElem?_of_mem hb
      exact hc3 j b (List.getElem?_eq_some_iff.1 hj).1 hj
    simp only [gwL, gwB, gwD, gwE, gwS, gwTT, gwZ, gwN, gwC, Nat.reduceEqDiff, ↓reduceIte, Nat.reduceAdd, Nat.reduceLT, Nat.reduceLeDiff, Nat.reduceMul, lt_no, rowsS_len]
    refine (c_Contains _ seen n).use (wkL_cons (wk_tok ..) (wkL_refl _)) fun _ => ?_
    simp only [gwL, gwB, gwD, gwE, gwS, gwTT, gwZ, gwN, gwC, Nat.reduceEqDiff, ↓reduceIte, Nat.reduceAdd, Nat.reduceLT, Nat.reduceLeDiff, Nat.reduceMul]
    have hiff : n ∈ seen ↔ Rch (ndM M) n n := ⟨hc1 n, rch_closed hc2 hcl⟩
    refine iK_split (fun h => ?_) (fun h => ?_)
    · have hr := hiff.1 (of_decide_eq_true h)
      simp only [gwL, gwB, gwD, gwE, gwS, gwTT, gwZ, gwN, gwC, Nat.reduceEqDiff, ↓reduceIte, Nat.reduceAdd, Nat.reduceLT, Nat.reduceLeDiff, Nat.reduceMul]
      rw [hdr, cycL, if_pos hr, hex, List.append_assoc]
      exact gives_of (wk_refl _) (wkSt_refl _) (by simp [V.lt]) hst
    · have hr : ¬ Rch (ndM M) n n := fun e => of_decide_eq_false h (hiff.2 e)
      have w : IntKind.i64.wrap ((i : Int) + 1) = ((i + 1 : Nat) : Int) := next_i64 hlt (by omega)
      simp only [gwL, gwB, gwD, gwE, gwS, gwTT, gwZ, gwN, gwC, Nat.reduceEqDiff, ↓reduceIte, Nat.reduceAdd, Nat.reduceLT, Nat.reduceLeDiff, Nat.reduceMul, w, Env.keep]
      refine ⟨(i + 1, _), rfl, rfl, by simp only; omega, by simp only; omega, ⟨_, by rw [hex, List.append_assoc]⟩, ?_⟩
      rw [hdr, cycL, if_neg hr]
  · have hga : asc a M = some (ndM M a) := asc_need (by
      have := hc1 a (List.mem_of_getElem? hqg)
      cases this with
      | one h => exact hall _ _ h
      | step _ h => exact hall _ _ h)
    have hg3 : ∀ X, (S ++ X)[o]? = some (mapE V.str encS M) := fun X => by rw [st_old (by rw [hex, List.length_append]; omega), hg2]
    have hdl := ndM_len hM a
    simp only [gwL, gwB, gwD, gwE, gwS, gwTT, gwZ, gwN, gwC, Nat.reduceEqDiff, ↓reduceIte, Nat.reduceAdd, Nat.reduceLT, Nat.reduceLeDiff, Nat.reduceMul, mapLook, mapPut, mapRange, mapLen, makeMapE, keyOk, keyKind, keyGood, lookR, zeroV, entV, entS, nextV, nextS, beq_self_eq_true, cond_true, cond_false, lt_yes hqt, hg3, rowsS_getD hqg, rowsS_len, Int.toNat_natCast, hlk, hga, Int.ofNat_lt.mpr hqt, encS, List.length_map]
    refine vfor (σ := Nat × St × List Str) [0, 1, 4, 11, 12, 13, 6, 7, 8, 32, 33, 34] (fun x => [(0, true, .arr k l.length), (1, true, .map o), (4, true, .str []), (11, true, .arr k l.length), (12, true, .int .i64 l.length), (13, true, .int .i64 i), (6, true, .str n), (7, true, .lst 1 (some S.length) (rowsS x.2.2)), (8, true, .int .i64 q), (32, true, .lst 1 none (rowsS (ndM M a))), (33, true, .int .i64 (ndM M a).length), (34, true, .int .i64 x.1)]) (fun x => S ++ (Ent.tip 9 x.2.2.length :: x.2.1)) (fun x => (ndM M a).length - x.1) (fun x => x.1 ≤ (ndM M a).length ∧ leftU (needsU M) x.2.2 + x.2.2.length ≤ leftU (needsU M) seen + seen.length ∧ (∀ m ∈ x.2.2, Rch (ndM M) n m) ∧ (∀ (j : Nat) (b : Str), seen[j]? = some b → x.2.2[j]? = some b) ∧ (∀ m ∈ (ndM M a).take x.1, m ∈ x.2.2)) (0, Y, seen) rfl TT_ok ⟨Nat.zero_le _, Nat.le_refl _, hc1, fun _ _ h => h, by simp⟩ rfl rfl ?_
    rintro ⟨p, Y2, s2⟩ ⟨hp, hps, hd1, hd2, hd3⟩
    simp only at hp hps hd1 hd2 hd3 ⊢
    have hsub : ∀ m ∈ seen, m ∈ s2 := fun m hm => by
      obtain ⟨j, hj⟩ := List.getElem?_of_mem hm
      exact List.mem_of_getElem? (hd2 j m hj)
    have hql : q < s2.length := (List.getElem?_eq_some_iff.1 (hd2 q a hqg)).1
    rcases at_or_end (ndM M a) p hp with ⟨hpe, hpd⟩ | ⟨c, hpt, hpg, hpr⟩
    · have hpe2 : p = (ndM M a).length := hpe
      subst hpe2
      rw [List.take_length] at hd3
      have w : IntKind.i64.wrap ((q : Int) + 1) = ((q + 1 : Nat) : Int) := next_i64 hql (by omega)
      simp only [gwL, gwB, gwD, gwE, gwS, gwTT, gwZ, gwN, gwC, Nat.reduceEqDiff, ↓reduceIte, Nat.reduceAdd, Nat.reduceLT, Nat.reduceLeDiff, Nat.reduceMul, lt_no, w, Env.keep]
      refine ⟨(q + 1, Y2, s2), rfl, rfl, by simp only; omega, by simp only; omega, by simp only; omega, hd1, fun m hm => hsub m (hc2 m hm), fun j b hj hb m hm => ?_⟩
      simp only at hj hb ⊢
      by_cases e : j = q
      · subst e
        rw [hd2 j a hqg] at hb
        cases hb
        exact hd3 m hm
      · have hjs : j < seen.length := by omega
        have hjb := hd2 j _ (List.getElem?_eq_getElem hjs)
        rw [hjb] at hb
        cases hb
        exact hsub m (hc3 j _ (by omega) (List.getElem?_eq_getElem hjs) m hm)
    · have hcR : Rch (ndM M) n c := .step (hc1 a (List.mem_of_getElem? hqg)) (List.mem_of_getElem? hpg)
      have w : IntKind.i64.wrap ((p : Int) + 1) = ((p + 1 : Nat) : Int) := next_i64 hpt (by omega)
      have htk : (ndM M a).take (p + 1) = (ndM M a).take p ++ [c] := by rw [List.take_add_one, hpg]; rfl
      simp only [gwL, gwB, gwD, gwE, gwS, gwTT, gwZ, gwN, gwC, Nat.reduceEqDiff, ↓reduceIte, Nat.reduceAdd, Nat.reduceLT, Nat.reduceLeDiff, Nat.reduceMul, lt_yes hpt, rowsS_getD hpg, rowsS_len, Int.toNat_natCast, Int.ofNat_lt.mpr hpt]
      refine (c_Contains _ s2 c).use (wkL_cons (wk_tok ..) (wkL_refl _)) fun _ => ?_
      simp only [gwL, gwB, gwD, gwE, gwS, gwTT, gwZ, gwN, gwC, Nat.reduceEqDiff, ↓reduceIte, Nat.reduceAdd, Nat.reduceLT, Nat.reduceLeDiff, Nat.reduceMul]
      refine iK_split (fun h => ?_) (fun h => ?_)
      · have hnc : c ∉ s2 := by simpa using h
        have hle := leftU_new (ndM_mem (List.mem_of_getElem? hpg)) hnc
        simp only [gwL, gwB, gwD, gwE, gwS, gwTT, gwZ, gwN, gwC, Nat.reduceEqDiff, ↓reduceIte, Nat.reduceAdd, Nat.reduceLT, Nat.reduceLeDiff, Nat.reduceMul, w, rowsS_len, Env.keep]
        have hrs : rowsS s2 ++ [[V.str c]] = rowsS (s2 ++ [c]) := by simp [rowsS]
        have hln : (s2 ++ [c]).length = s2.length + 1 := by simp
        refine ⟨by omega, (p + 1, Y2, s2 ++ [c]), by simp only [hrs], by simp only [hln], by simp only; omega, by simp only; omega, by simp only [hln]; omega, fun m hm => ?_, fun j b hj => ?_, fun m hm => ?_⟩
        · rcases List.mem_append.1 hm with hm | hm
          · exact hd1 m hm
          · rw [List.mem_singleton] at hm; subst hm; exact hcR
        · simp only
          rw [List.getElem?_append_left (List.getElem?_eq_some_iff.1 (hd2 j b hj)).1, hd2 j b hj]
        · simp only [htk] at hm ⊢
          rcases List.mem_append.1 hm with hm | hm
          · exact List.mem_append_left _ (hd3 m hm)
          · exact List.mem_append_right _ hm
      · have hnc : c ∈ s2 := by simpa using h
        simp only [gwL, gwB, gwD, gwE, gwS, gwTT, gwZ, gwN, gwC, Nat.reduceEqDiff, ↓reduceIte, Nat.reduceAdd, Nat.reduceLT, Nat.reduceLeDiff, Nat.reduceMul, w, Env.keep]
        exact ⟨(p + 1, Y2, s2), rfl, rfl, by simp only; omega, by simp only; omega, hps, hd1, hd2, fun m hm => by
          simp only [htk] at hm
          rcases List.mem_append.1 hm with hm | hm
          · exact hd3 m hm
          · rw [List.mem_singleton] at hm; subst hm; exact hnc⟩
end Go.Proofs.Ytcegdbniggdckaa.Gx

namespace Go.Proofs.Ytcegdbniggdckaa.Gx
open Go Go.Proofs.Ytcegdbniggdckaa.Gw
set_option linter.unusedSimpArgs false
set_option linter.unusedVariables false

def sortS (l : List Str) : List Str := l.mergeSort fun x y => decide (x ≤ y)
theorem sortS_perm (l : List Str) : (sortS l).Perm l := List.mergeSort_perm l _
theorem sortS_sorted (l : List Str) : (sortS l).Pairwise (· ≤ ·) := by
  have := List.pairwise_mergeSort (le := fun x y : Str => decide (x ≤ y)) (fun a b c h1 h2 => by
    simp only [decide_eq_true_eq] at *; exact List.le_trans h1 h2) (fun a b => by
    simp only [Bool.or_eq_true, decide_eq_true_eq]; exact List.le_total a b) l
  exact this.imp fun h => by simpa using h
theorem sorted_eq {l m : List Str} (h1 : l.Pairwise (· ≤ ·)) (h2 : m.Pairwise (· ≤ ·)) (h : l.Perm m) : l = m :=
  h.eq_of_pairwise (fun a b _ _ h1 h2 => List.le_antisymm h1 h2) h1 h2
theorem sortS_eq {l m : List Str} (h : l.Perm m) : sortS l = sortS m :=
  sorted_eq (sortS_sorted l) (sortS_sorted m) ((sortS_perm l).trans (h.trans (sortS_perm m).symm))
theorem seen_len {seen : List Nat} {n : Nat} (h1 : seen.Nodup) (h2 : ∀ i ∈ seen, i < n) : seen.length ≤ n := by
  have := h1.length_le_of_subset (l₂ := List.range n) fun i hi => List.mem_range.2 (h2 i hi)
  simpa using this
theorem seen_perm {seen : List Nat} {n : Nat} (h1 : seen.Nodup) (h2 : ∀ i ∈ seen, i < n) (h3 : ∀ i, i < n → i ∈ seen) : seen.Perm (List.range n) := by
  rw [List.perm_iff_count]
  intro a
  rw [h1.count, List.nodup_range.count]
  by_cases h : a ∈ seen
  · rw [if_pos h, if_pos (List.mem_range.2 (h2 a h))]
  · rw [if_neg h, if_neg (fun e => h (h3 a (List.mem_range.1 e)))]
theorem map_getD_range {α β : Type} (f : α → β) (d : α) : ∀ l : List α, (List.range l.length).map (fun i => f (l.getD i d)) = l.map f := by
  intro l
  apply List.ext_getElem?
  intro i
  by_cases h : i < l.length
  · simp [List.getElem?_map, List.getElem?_range h, List.getElem?_eq_getElem h]
  · simp [List.getElem?_eq_none (Nat.le_of_not_lt h), List.getElem?_eq_none (show (List.range l.length).length ≤ i by simp; omega)]
theorem idxF_at (p : Str → Bool) : ∀ (l : List Str) (i : Nat), idxF p i l < 0 ∧ (∀ a ∈ l, p a = false) ∨ ∃ (j : Nat) (a : Str), idxF p i l = ((i + j : Nat) : Int) ∧ j < l.length ∧ l[j]? = some a ∧ p a = true ∧ ∀ b ∈ l.take j, p b = false
  | [], i => .inl ⟨by simp [idxF], by simp⟩
  | x :: r, i => by
    cases h : p x with
    | true => exact .inr ⟨0, x, by simp [idxF, h], by simp, rfl, h, by simp⟩
    | false =>
      rw [idxF, h]
      simp only [cond_false]
      rcases idxF_at p r (i + 1) with ⟨h1, h2⟩ | ⟨j, a, h1, h2, h3, h4, h5⟩
      · exact .inl ⟨h1, fun a ha => by
          rcases List.mem_cons.1 ha with rfl | ha
          · exact h
          · exact h2 a ha⟩
      · refine .inr ⟨j + 1, a, by rw [h1]; congr 1; omega, by simp; omega, by simpa using h3, h4, fun b hb => ?_⟩
        rw [List.take_succ_cons] at hb
        rcases List.mem_cons.1 hb with rfl | hb
        · exact h
        · exact h5 b hb
theorem asc_ups {κ α : Type} [DecidableEq κ] (s t : κ) (a : α) : ∀ l : List (κ × α), asc t (ups s a l) = if t = s then some a else asc t l
  | [] => by
    simp only [ups, asc]
  | (k, b) :: r => by
    simp only [ups]
    by_cases h : s = k
    · subst h
      simp only [if_true, asc]
      by_cases h2 : t = s <;> simp [h2]
    · rw [if_neg h]
      simp only [asc]
      by_cases h2 : t = k
      · subst h2
        rw [if_pos rfl, if_neg (fun e => h e.symm), if_pos rfl]
      · rw [if_neg h2, if_neg h2]
        exact asc_ups s t a r
theorem ups_new {κ α : Type} [DecidableEq κ] {s : κ} {a : α} : ∀ {l : List (κ × α)}, asc s l = none → ups s a l = l ++ [(s, a)]
  | [], _ => rfl
  | (k, b) :: r, h => by
    simp only [asc] at h
    by_cases e : s = k
    · rw [if_pos e] at h; cases h
    · rw [if_neg e] at h
      simp only [ups, if_neg e, ups_new h, List.cons_append]
theorem asc_keys {κ α : Type} [DecidableEq κ] {s : κ} {l : List (κ × α)} : (asc s l).isSome = true ↔ s ∈ l.map (·.1) := by
  rw [asc_mem, decide_eq_true_iff]
end Go.Proofs.Ytcegdbniggdckaa.Gx
