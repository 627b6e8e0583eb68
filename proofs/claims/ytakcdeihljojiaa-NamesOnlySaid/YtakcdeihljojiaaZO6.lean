/- What comes in, as it is read, as abstract values: nothing of it is owned. Maps from which nothing is taken, as lists of what they hold. The equations of what an operation does, under two names. The table of the types of this place, as the engine wants it: each row held against the program. Contracts: what the small functions on strings and on lists of strings give. Contracts: letters, numbers, names. Import sets: how they lie in memory; their form; slices.ContainsFunc. Plain laws: what a set brings of a table. -/
import Derived.Test.YtakcdeihljojiaaZO5
import GoSem.ClaimChange
import Derived.ChangeOld
import Derived.Test.YtakcdeihljojiaaProg
import Derived.KernelRfl
import Derived.Lib.Strings
import Derived.Lib.Walk
import Derived.Lib.Bytealg

namespace Go.Proofs.Ytakcdeihljojiaa.Gw
open Go
set_option linter.unusedSimpArgs false

/-- The ghost at the beginning. -/
def g00 : G := { own := fun _ => none, pb := fun _ => 0, tv := fun _ => .slice none 0 0, len := fun _ => 0, n := 0 }
theorem sim00 (T : Nat → TI) (w : World) : SimSt T g00 [] w := ⟨rfl, fun i e h => by simp at h, fun i j ei ej b h => by simp at h⟩

theorem mapM_some {α β : Type} {f : α → Option β} : ∀ {l : List α} {r : List β}, l.mapM f = some r → r.length = l.length ∧ ∀ (i : Nat) (x : α), l[i]? = some x → ∃ y, r[i]? = some y ∧ f x = some y
  | [], r, h => by simp at h; subst h; exact ⟨rfl, fun i x h => by simp at h⟩
  | a :: l, r, h => by
    rw [List.mapM_cons] at h
    cases ha : f a with
    | none => rw [ha] at h; simp at h
    | some y =>
      rw [ha] at h
      cases hl : l.mapM f with
      | none => rw [hl] at h; simp at h
      | some ys =>
        rw [hl] at h
        simp at h
        subst h
        obtain ⟨h1, h2⟩ := mapM_some hl
        refine ⟨by simp [h1], fun i x hx => ?_⟩
        cases i with
        | zero => simp at hx; subst hx; exact ⟨y, rfl, ha⟩
        | succ i => exact h2 i x (by simpa using hx)

section
variable {H : Type} {enc : TypeId × Value → H} {P : Program} {W : World} {spare : Nat → Bool} {held : Bool}

theorem dec_int {t : TypeId} {k : IntKind} (ht : P.underlying t = some (.int k)) {n : Nat} {cs : List Value} {r : DataW H × List MemPlace} (h : DataW.trod enc P W 0 spare held n t cs = some r) : ∃ m, cs = [.int k m] := by
  cases n with
  | zero => simp [DataW.trod] at h
  | succ n =>
    unfold DataW.trod at h
    rw [ht] at h
    split at h <;> first | (cases h; done) | skip
    all_goals rename_i e; first | (injection e with e; cases e; done) | skip
    all_goals simp_all
theorem dec_str {t : TypeId} (ht : P.underlying t = some .string) {n : Nat} {cs : List Value} {r : DataW H × List MemPlace} (h : DataW.trod enc P W 0 spare held n t cs = some r) : ∃ s : List UInt8, cs = [.string ⟨s.toArray⟩] ∧ s.length ≤ 9223372036854775807 := by
  cases n with
  | zero => simp [DataW.trod] at h
  | succ n =>
    unfold DataW.trod at h
    rw [ht] at h
    split at h <;> first | (cases h; done) | skip
    all_goals rename_i e; first | (injection e with e; cases e; done) | skip
    all_goals rename_i s
    all_goals split at h
    all_goals first | (cases h; done) | skip
    all_goals rename_i hs
    all_goals exact ⟨s.data.toList, by cases s; rfl, by rw [Array.length_toList]; exact hs⟩
theorem dec_struct {t : TypeId} {fs : Array Field} (ht : P.underlying t = some (.struct fs)) {n : Nat} {cs : List Value} {r : DataW H × List MemPlace} (h : DataW.trod enc P W 0 spare held n t cs = some r) :
    ∃ m, n = m + 1 ∧ cs.length = P.cellsOf t ∧ ∀ f ∈ fs.toList, ∃ y, DataW.trod enc P W 0 spare held m f.type ((cs.drop f.offset).take (P.cellsOf f.type)) = some y := by
  cases n with
  | zero => simp [DataW.trod] at h
  | succ n =>
    unfold DataW.trod at h
    rw [ht] at h
    split at h <;> first | (cases h; done) | skip
    all_goals rename_i e; first | (injection e with e; cases e; done) | skip
    · rename_i cs _ _ _
      injection e with e
      injection e with e
      subst e
      split at h
      case isFalse => simp at h
      rename_i hl
      refine ⟨n, rfl, hl, fun f hf => ?_⟩
      cases hm : List.mapM (fun f => DataW.trod enc P W 0 spare held n f.type (List.take (P.cellsOf f.type) (List.drop f.offset cs))) fs.toList with
      | none => rw [hm] at h; simp at h
      | some ys =>
        obtain ⟨i, hi⟩ := List.getElem?_of_mem hf
        obtain ⟨y, _, hy⟩ := (mapM_some hm).2 i f hi
        exact ⟨y, hy⟩
    · exact (‹∀ fs_1 : Array Field, some (TypeDesc.struct fs) = some (TypeDesc.struct fs_1) → False› fs rfl).elim
theorem dec_cells {a : Addr} {n : Nat} {cs : List Value} (h : W.cells? 0 a n = some cs) : cs.length = n ∧ ∀ (j : Nat) (u : Value), cs[j]? = some u → W.cell? (a.add j) = some u := by
  unfold World.cells? at h
  simp only [Nat.zero_le, if_true] at h
  obtain ⟨h1, h2⟩ := mapM_some h
  rw [List.length_range] at h1
  refine ⟨h1, fun j u hj => ?_⟩
  have hlt := (List.getElem?_eq_some_iff.1 hj).1
  obtain ⟨y, hy, hc⟩ := h2 j j (by rw [List.getElem?_range (by omega)])
  rw [hj] at hy
  cases hy
  exact hc
/-- Rows, at a plain address. -/
theorem dec_rows {X : Type} {f : X → List V} {sz b : Nat} (hb : b < W.heap.size) : ∀ (l : List X) (off : Nat), (∀ (i : Nat) (x : X), l[i]? = some x → ∃ cs : List Value, cs.length = sz ∧ SimVs g00 W (f x) cs ∧ (∀ u ∈ cs, u.oneCell' = true) ∧ ∀ (j : Nat) (u : Value), cs[j]? = some u → W.cell? ⟨b, off + i * sz + j, none⟩ = some u) →
    SimRows g00 W ⟨b, off, none⟩ sz (l.map f)
  | [], off, _ => by simp [SimRows]
  | x :: l, off, h => by
    obtain ⟨cs, h1, h2, h3, h4⟩ := h 0 x rfl
    simp only [List.map_cons, SimRows]
    have at_ : ∀ (ys : List V) (us : List Value) (o : Nat), SimVs g00 W ys us → (∀ u ∈ us, u.oneCell' = true) → (∀ (j : Nat) (u : Value), us[j]? = some u → W.cell? ⟨b, o + j, none⟩ = some u) → SimAt g00 W ⟨b, o, none⟩ ys := by
      intro ys
      induction ys with
      | nil => intro us o _ _ _; simp [SimAt]
      | cons y ys ih =>
        intro us o k1 k2 k3
        simp only [SimVs] at k1
        obtain ⟨u, r, rfl, k4, k5⟩ := k1
        simp only [SimAt]
        refine ⟨⟨u, ⟨rfl, hb, fun k hk => by cases hk⟩, by simpa using k3 0 u rfl, k2 u (by simp), k4⟩, ?_⟩
        have e1 : (Addr.mk b o none).add 1 = ⟨b, o + 1, none⟩ := Addr.add_eq rfl 1
        rw [e1]
        exact ih r (o + 1) k5 (fun v hv => k2 v (by simp [hv])) fun j v hj => by
          have := k3 (j + 1) v (by simpa using hj)
          rw [show o + (j + 1) = o + 1 + j by omega] at this; exact this
    refine ⟨by rw [← h2.length]; exact h1, at_ _ cs off h2 h3 (by simpa using h4), ?_⟩
    have e1 : (Addr.mk b off none).add sz = ⟨b, off + sz, none⟩ := Addr.add_eq rfl _
    rw [e1]
    refine dec_rows hb l (off + sz) fun i y hi => ?_
    obtain ⟨cs, k1, k2, k3, k4⟩ := h (i + 1) y (by simpa using hi)
    refine ⟨cs, k1, k2, k3, fun j u hj => ?_⟩
    have := k4 j u hj
    rw [show off + (i + 1) * sz + j = off + sz + i * sz + j by rw [Nat.succ_mul]; omega] at this
    exact this
theorem choose_list {α X : Type} {R : α → X → Prop} : ∀ (l : List α), (∀ a ∈ l, ∃ x, R a x) → ∃ m : List X, m.length = l.length ∧ ∀ (i : Nat) (a : α) (x : X), l[i]? = some a → m[i]? = some x → R a x
  | [], _ => ⟨[], rfl, fun i a x h => by simp at h⟩
  | a :: l, h => by
    obtain ⟨x, hx⟩ := h a (by simp)
    obtain ⟨m, h1, h2⟩ := choose_list l fun b hb => h b (by simp [hb])
    refine ⟨x :: m, by simp [h1], fun i b y hb hy => ?_⟩
    cases i with
    | zero => simp at hb hy; subst hb; subst hy; exact hx
    | succ i => exact h2 i b y (by simpa using hb) (by simpa using hy)

theorem dec_slice {X : Type} (f : X → List V) {sz : Nat} {e t : TypeId} (ht : P.underlying t = some (.slice e)) (hsz : P.cellsOf e = sz) (hpos : 0 < sz) {n : Nat} {cs : List Value} {r : DataW H × List MemPlace}
    (ih : ∀ m, m < n → ∀ cs r, DataW.trod enc P W 0 spare held m e cs = some r → ∃ x : X, SimVs g00 W (f x) cs ∧ ∀ u ∈ cs, u.oneCell' = true) (h : DataW.trod enc P W 0 spare held n t cs = some r) :
    ∃ (l : List X) (v : Value), cs = [v] ∧ SimV g00 W (.lst sz none (l.map f)) v ∧ v.oneCell' = true := by
  cases n with
  | zero => simp [DataW.trod] at h
  | succ n =>
    unfold DataW.trod at h
    rw [ht] at h
    split at h <;> first | (cases h; done) | skip
    all_goals rename_i e'; first | (injection e' with e'; cases e'; done) | skip
    · exact ⟨[], _, rfl, by simp only [SimV]; exact ⟨none, 0, rfl, by simp, by simp [maxLen], by simp, .inl rfl, by simp, by simp [SimRows]⟩, rfl⟩
    · rename_i a len cap
      injection e' with e'
      injection e' with e'
      subst e'
      rw [hsz] at h
      split at h
      case isFalse => cases h
      rename_i hc
      obtain ⟨_, c1, c2⟩ := hc
      refine Exists.elim (show ∃ elems, (List.range len).mapM (fun i => (W.cells? 0 (a.add (i * sz)) sz).bind (DataW.trod enc P W 0 spare held n e)) = some elems from ?_) fun elems hm => ?_
      · cases hm : (List.range len).mapM (fun i => (W.cells? 0 (a.add (i * sz)) sz).bind (DataW.trod enc P W 0 spare held n e)) with
        | none => dsimp only at h; rw [hm] at h; simp at h
        | some ys => exact ⟨ys, rfl⟩
      obtain ⟨hl, hi⟩ := mapM_some hm
      have each : ∀ i ∈ List.range len, ∃ x : X, ∃ cs : List Value, cs.length = sz ∧ SimVs g00 W (f x) cs ∧ (∀ u ∈ cs, u.oneCell' = true) ∧ ∀ (j : Nat) (u : Value), cs[j]? = some u → W.cell? ((a.add (i * sz)).add j) = some u := by
        intro i hir
        rw [List.mem_range] at hir
        obtain ⟨y, _, hy⟩ := hi i i (by rw [List.getElem?_range hir])
        cases hcs : W.cells? 0 (a.add (i * sz)) sz with
        | none => rw [hcs] at hy; simp at hy
        | some cs =>
          rw [hcs] at hy
          obtain ⟨k1, k2⟩ := dec_cells hcs
          obtain ⟨x, k3, k4⟩ := ih n (Nat.lt_succ_self n) cs y hy
          exact ⟨x, cs, k1, k3, k4, k2⟩
      obtain ⟨xs, hxl, hxs⟩ := choose_list (List.range len) each
      rw [List.length_range] at hxl
      refine ⟨xs, _, rfl, ?_, rfl⟩
      simp only [SimV]
      refine ⟨some a, cap, by rw [List.length_map, hxl], by rw [List.length_map, hxl]; exact c1, c2, by simp, ?_, by simp, ?_⟩
      · cases xs with
        | nil => exact .inl rfl
        | cons x xs =>
          right
          obtain ⟨cs, k1, _, _, k2⟩ := hxs 0 0 x (by rw [List.getElem?_range (by simp at hxl; omega)]) rfl
          have h0 : cs[0]? = some (cs[0]'(by omega)) := List.getElem?_eq_getElem _
          have := World.cell?_spot (k2 0 _ h0)
          simpa [Addr.add] using this
      · cases xs with
        | nil => simp [SimRows]
        | cons x xs =>
          obtain ⟨cs, k1, _, _, k2⟩ := hxs 0 0 x (by rw [List.getElem?_range (by simp at hxl; omega)]) rfl
          have h0 : cs[0]? = some (cs[0]'(by omega)) := List.getElem?_eq_getElem _
          have hc0 := k2 0 _ h0
          have hsp : a.spot = none := by have := World.cell?_spot hc0; simpa [Addr.add] using this
          have hblk : a.block < W.heap.size := by
            unfold World.cell? at hc0
            split at hc0
            · rename_i hh
              have := (Array.getElem?_eq_some_iff.1 hh).1
              rw [Addr.add_eq hsp, Addr.add_eq rfl] at this
              exact this
            · cases hc0
          obtain ⟨b, off, sp⟩ := a
          simp only at hsp hblk
          subst hsp
          simp only [Option.getD_some]
          refine dec_rows hblk (x :: xs) off fun i y hy => ?_
          have hil : i < len := by rw [← hxl]; exact (List.getElem?_eq_some_iff.1 hy).1
          obtain ⟨cs, j1, j2, j3, j4⟩ := hxs i i y (by rw [List.getElem?_range hil]) hy
          refine ⟨cs, j1, j2, j3, fun j u hj => ?_⟩
          have := j4 j u hj
          rw [show (Addr.mk b off none).add (i * sz) = ⟨b, off + i * sz, none⟩ from Addr.add_eq rfl _, show (Addr.mk b (off + i * sz) none).add j = ⟨b, off + i * sz + j, none⟩ from Addr.add_eq rfl _] at this
          exact this
    all_goals first | (exact (‹∀ (e_1 : TypeId) (a : Addr) (len cap : Nat), some (TypeDesc.slice e) = some (TypeDesc.slice e_1) → _ → False› e _ _ _ rfl (by assumption)).elim) | (simp at h)
end
end Go.Proofs.Ytakcdeihljojiaa.Gw

namespace Go.Proofs.Ytakcdeihljojiaa.Gw
open Go
set_option linter.unusedSimpArgs false

def numb : Nat → List (V × V) → List (Nat × V × V)
  | _, [] => []
  | n, (k, v) :: r => (n, k, v) :: numb (n + 1) r
section
variable {κ α : Type}
/-- Where a key stands, and what with. -/
def ascI [DecidableEq κ] (s : κ) : List (κ × α) → Nat → Option (Nat × α)
  | [], _ => none
  | (k, a) :: r, i => if s = k then some (i, a) else ascI s r (i + 1)
def asc [DecidableEq κ] (s : κ) : List (κ × α) → Option α
  | [] => none
  | (k, a) :: r => if s = k then some a else asc s r
/-- A key is laid in. -/
def ups [DecidableEq κ] (s : κ) (a : α) : List (κ × α) → List (κ × α)
  | [] => [(s, a)]
  | (k, b) :: r => if s = k then (s, a) :: r else (k, b) :: ups s a r
theorem ascI_snd [DecidableEq κ] (s : κ) : ∀ (l : List (κ × α)) (i : Nat), (ascI s l i).map (·.2) = asc s l
  | [], _ => rfl
  | (k, a) :: r, i => by
    simp only [ascI, asc]
    split
    · rfl
    · exact ascI_snd s r (i + 1)

def mkE (ek : κ → V) (ev : α → V) (n : Nat) (l : List (κ × α)) : List (Nat × V × V) := numb n (l.map fun p => (ek p.1, ev p.2))
def mapE (ek : κ → V) (ev : α → V) (l : List (κ × α)) : Ent := .map l.length (mkE ek ev 0 l)
/-- Keys that are told apart as they are. -/
def KeyP [DecidableEq κ] (T : Nat → TI) (k : TK) (ek : κ → V) : Prop := ∀ x y, keyEq T k (ek x) (ek y) = some (decide (x = y))
variable {ek : κ → V} {ev : α → V}
theorem mfind_mkE [DecidableEq κ] {T : Nat → TI} {k : TK} (hk : KeyP T k ek) (s : κ) : ∀ (l : List (κ × α)) (n i : Nat), mfind T k (ek s) (mkE ek ev n l) i = some ((ascI s l i).map fun p => (p.1, ev p.2))
  | [], n, i => rfl
  | (k', a) :: r, n, i => by
    have ih := mfind_mkE hk s r (n + 1) (i + 1)
    simp only [mkE] at ih
    have hk' := hk s k'
    simp only [mkE, List.map_cons, numb, mfind, hk', ascI]
    by_cases h : s = k'
    · simp [h]
    · simp [h, ih]
theorem look_mapE [DecidableEq κ] {T : Nat → TI} {k : TK} (hk : KeyP T k ek) (i : TI) (ok : Bool) (s : κ) (st : St) (l : List (κ × α)) :
    lookE T k i ok (ek s) st (some (mapE ek ev l)) = some (lookR ok (((asc s l).map ev).getD (zeroV i)) (asc s l).isSome, st, True) := by
  simp only [lookE, mapE, mfind_mkE hk, Option.map_some]
  rw [← ascI_snd s l 0]
  cases ascI s l 0 <;> rfl
theorem numb_len : ∀ (l : List (V × V)) (n : Nat), (numb n l).length = l.length
  | [], _ => rfl
  | (k, v) :: r, n => by simp [numb, numb_len r (n + 1)]
theorem mkE_len (n : Nat) (l : List (κ × α)) : (mkE ek ev n l).length = l.length := by simp [mkE, numb_len]
theorem put_none [DecidableEq κ] : ∀ (l : List (κ × α)) (s : κ) (a : α) (i n : Nat), ascI s l i = none → ups s a l = l ++ [(s, a)] ∧ mkE ek ev n (l ++ [(s, a)]) = mkE ek ev n l ++ [(n + l.length, ek s, ev a)]
  | [], s, a, i, n, _ => by simp [ups, mkE, numb]
  | (k, b) :: r, s, a, i, n, h => by
    simp only [ascI] at h
    split at h
    · cases h
    rename_i hk
    obtain ⟨h1, h2⟩ := put_none r s a (i + 1) (n + 1) h
    simp only [mkE] at h2
    refine ⟨by simp [ups, hk, h1], ?_⟩
    simp only [mkE, List.cons_append, List.map_cons, numb, h2, List.length_cons]
    rw [show n + (r.length + 1) = n + 1 + r.length by omega]
theorem put_some [DecidableEq κ] : ∀ (l : List (κ × α)) (s : κ) (a b : α) (i j n : Nat), ascI s l i = some (j, b) → (ups s a l).length = l.length ∧ i ≤ j ∧ mset (j - i) (ek s) (ev a) (mkE ek ev n l) = mkE ek ev n (ups s a l)
  | [], s, a, b, i, j, n, h => by simp [ascI] at h
  | (k, c) :: r, s, a, b, i, j, n, h => by
    simp only [ascI] at h
    split at h
    · rename_i hk
      simp only [Option.some.injEq, Prod.mk.injEq] at h
      obtain ⟨rfl, rfl⟩ := h
      simp [ups, hk, mkE, numb, mset]
    · rename_i hk
      obtain ⟨h1, h2, h3⟩ := put_some r s a b (i + 1) j (n + 1) h
      refine ⟨by simp [ups, hk, h1], by omega, ?_⟩
      simp only [mkE] at h3
      simp only [ups, hk, if_false, mkE, List.map_cons, numb]
      rw [show j - i = (j - (i + 1)) + 1 by omega]
      simp only [mset, h3]
theorem put_mapE [DecidableEq κ] {T : Nat → TI} {k : TK} (hk : KeyP T k ek) (o : Nat) (s : κ) (a : α) (st : St) (l : List (κ × α)) :
    putE T k o (ek s) (ev a) st (some (mapE ek ev l)) = some (.junk, st.set o (mapE ek ev (ups s a l)), True) := by
  simp only [putE, mapE, mfind_mkE hk, Option.map_some]
  cases h : ascI s l 0 with
  | none =>
    obtain ⟨h1, h2⟩ := put_none (ek := ek) (ev := ev) l s a 0 0 h
    simp only [Option.map_none, mput, h1, h2, List.length_append, List.length_cons, List.length_nil, Nat.zero_add]
  | some p =>
    obtain ⟨j, b⟩ := p
    obtain ⟨h1, h2, h3⟩ := put_some (ek := ek) (ev := ev) l s a b 0 j 0 h
    rw [Nat.sub_zero] at h3
    simp only [Option.map_some, mput, h1, h3]
theorem make_mapE {k e : TypeId} (ek : κ → V) (ev : α → V) (st : St) : makeMapE (.map k e) st = some (.map st.length, st ++ [mapE ek ev []], True) := rfl
theorem len_mapE (st : St) (l : List (κ × α)) : lenE st (some (mapE ek ev l)) = some (.int .i64 l.length, st, True) := by simp only [lenE, mapE, mkE_len]
theorem range_mapE (o : Nat) (st : St) (l : List (κ × α)) : rangeE o st (some (mapE ek ev l)) = some (.ptr st.length 0, st ++ [.iter o l.length []], True) := rfl

theorem mkE_mem : ∀ (l : List (κ × α)) (n : Nat) (e : Nat × V × V), e ∈ mkE ek ev n l → ∃ i a, l[i]? = some a ∧ e = (n + i, ek a.1, ev a.2)
  | [], n, e, h => by simp [mkE, numb] at h
  | (k, b) :: r, n, e, h => by
    simp only [mkE, List.map_cons, numb, List.mem_cons] at h
    rcases h with rfl | h
    · exact ⟨0, (k, b), rfl, rfl⟩
    · obtain ⟨i, a, h1, h2⟩ := mkE_mem r (n + 1) e h
      exact ⟨i + 1, a, by simpa using h1, by rw [h2, show n + 1 + i = n + (i + 1) by omega]⟩
theorem mkE_get : ∀ (l : List (κ × α)) (n i : Nat) (a : κ × α), l[i]? = some a → (n + i, ek a.1, ev a.2) ∈ mkE ek ev n l
  | [], n, i, a, h => by simp at h
  | (k, b) :: r, n, 0, a, h => by simp at h; subst h; simp [mkE, numb]
  | (k, b) :: r, n, i + 1, a, h => by
    have := mkE_get r (n + 1) i a (by simpa using h)
    simp only [mkE, List.map_cons, numb, List.mem_cons]
    right
    rw [show n + (i + 1) = n + 1 + i by omega]; exact this
/-- Whom a walk may meet. -/
def nextL (ek : κ → V) (ev : α → V) (o m : Nat) (l : List (κ × α)) (seen : List Nat) (st : St) : List (V × St) := match leftOf' (mkE ek ev 0 l) seen with
  | [] => [(.tup [.bool false], st)]
  | x => x.map fun e => (.tup [.bool true, e.2.1, e.2.2], st.set o (.iter m l.length (seen ++ [e.1])))
theorem next_mapE (o m : Nat) (seen : List Nat) (st : St) (l : List (κ × α)) : nextE o m l.length seen st (some (mapE ek ev l)) = some (nextL ek ev o m l seen st) := by
  simp only [nextE, mapE, if_true]
  rfl
/-- A walk's step: it is over, all being met; or it meets one. -/
theorem nextL_all {o m : Nat} {l : List (κ × α)} {seen : List Nat} {st : St} {X : V × St → Prop} (h0 : (∀ i, i < l.length → i ∈ seen) → X (.tup [.bool false], st))
    (h1 : ∀ i a, l[i]? = some a → i < l.length → i ∉ seen → X (.tup [.bool true, ek a.1, ev a.2], st.set o (.iter m l.length (seen ++ [i])))) : ∀ p ∈ nextL ek ev o m l seen st, X p := by
  intro p hp
  unfold nextL at hp
  split at hp
  · rename_i hn
    simp only [List.mem_singleton] at hp
    subst hp
    refine h0 fun i hi => ?_
    by_cases hs : i ∈ seen
    · exact hs
    · have := mkE_get (ek := ek) (ev := ev) l 0 i _ (List.getElem?_eq_getElem hi)
      have hm : (0 + i, ek l[i].1, ev l[i].2) ∈ leftOf' (mkE ek ev 0 l) seen := List.mem_filter.2 ⟨this, by simpa using hs⟩
      rw [hn] at hm
      simp at hm
  · obtain ⟨e, he, rfl⟩ := List.mem_map.1 hp
    obtain ⟨h2, h3⟩ := List.mem_filter.1 he
    obtain ⟨i, a, h4, rfl⟩ := mkE_mem l 0 e h2
    simp only [Nat.zero_add] at h3 ⊢
    exact h1 i a h4 (List.getElem?_eq_some_iff.1 h4).1 (by simpa using h3)
theorem entF_mkE : ∀ (l : List (κ × α)) (n i : Nat) (a : κ × α), l[i]? = some a → entF (n + i) (mkE ek ev n l) = some (ek a.1, ev a.2)
  | [], n, i, a, h => by simp at h
  | (k, b) :: r, n, 0, a, h => by simp at h; subst h; simp [mkE, numb, entF]
  | (k, b) :: r, n, i + 1, a, h => by
    have := entF_mkE r (n + 1) i a (by simpa using h)
    simp only [mkE] at this
    simp only [mkE, List.map_cons, numb, entF]
    rw [if_neg (by omega), show n + (i + 1) = n + 1 + i by omega]; exact this
theorem ent_mapE {seen : List Nat} {st : St} {l : List (κ × α)} {i : Nat} {a : κ × α} (h : l[i]? = some a) : entE l.length (seen ++ [i]) st (some (mapE ek ev l)) = some (.tup [ek a.1, ev a.2], st, True) := by
  have := entF_mkE (ek := ek) (ev := ev) l 0 i a h
  rw [Nat.zero_add] at this
  simp only [entE, mapE, if_true, List.getLast?_append, List.getLast?_singleton, Option.some_or, this, Option.map_some]
theorem mapE_lt {n : Nat} {l : List (κ × α)} (h1 : ∀ k, (ek k).lt n) (h2 : ∀ a, (ev a).lt n) : (mapE ek ev l).lt n := by
  intro e he
  obtain ⟨i, a, _, rfl⟩ := mkE_mem l 0 e he
  exact ⟨h1 _, h2 _⟩
theorem asc_mem [DecidableEq κ] {s : κ} : ∀ {l : List (κ × α)}, (asc s l).isSome = decide (s ∈ l.map (·.1))
  | [] => by simp [asc]
  | (k, a) :: r => by
    simp only [asc]
    split
    · rename_i h; simp [h]
    · rename_i h; simp [h, asc_mem (s := s) (l := r)]
end
theorem keyP_str (T : Nat → TI) : KeyP T .str V.str := fun _ _ => rfl
theorem keyP_i64 (T : Nat → TI) : KeyP T (.int .i64) (V.int .i64) := fun x y => by simp [keyEq, eqCell]
end Go.Proofs.Ytakcdeihljojiaa.Gw

namespace Go.Proofs.Ytakcdeihljojiaa.Gw
open Go

def lenK : TK → V → Option (V × Prop)
  | .str, .str s => some (.int .i64 s.length, True)
  | .slice _, .nils => some (.int .i64 0, True)
  | .slice _, .lst _ _ l => some (.int .i64 l.length, True)
  | .slice _, .arr _ n => some (.int .i64 n, True)
  | .map _ _, .nilm => some (.int .i64 0, True)
  | .map _ _, .map _ => none
  | _, _ => none
theorem builtinV_len (T : Nat → TI) (x : V) (t : TypeId) : builtinV T .len [x] [t] = lenK (T t).kind x := by
  simp only [builtinV]
  cases (T t).kind <;> cases x <;> rfl
def sliceK (T : Nat → TI) : TK → V → Option V → Option V → Option (V × Prop)
  | .str, .str s, none, none => some (.str s, True)
  | .str, .str s, some (.int _ a), none => some (.str (s.drop a.toNat), 0 ≤ a ∧ a ≤ s.length)
  | .str, .str s, none, some (.int _ b) => some (.str (s.take b.toNat), 0 ≤ b ∧ b ≤ s.length)
  | .str, .str s, some (.int _ a), some (.int _ b) => some (.str ((s.take b.toNat).drop a.toNat), 0 ≤ a ∧ a ≤ b ∧ b ≤ s.length)
  | .slice e, .lst sz _ l, none, none => if (T e).sized = true ∧ sz = (T e).size then some (.lst sz none l, True) else none
  | .slice e, .lst sz _ l, some (.int _ a), none => if (T e).sized = true ∧ sz = (T e).size then some (.lst sz none (l.drop a.toNat), 0 ≤ a ∧ a ≤ l.length) else none
  | .slice e, .lst sz _ l, none, some (.int _ b) => if (T e).sized = true ∧ sz = (T e).size then some (.lst sz none (l.take b.toNat), 0 ≤ b ∧ b ≤ l.length) else none
  | .slice e, .lst sz _ l, some (.int _ a), some (.int _ b) => if (T e).sized = true ∧ sz = (T e).size then some (.lst sz none ((l.take b.toNat).drop a.toNat), 0 ≤ a ∧ a ≤ b ∧ b ≤ l.length) else none
  | _, _, _, _ => none
theorem sliceV_K (T : Nat → TI) (t : TypeId) (x : V) (lo hi : Option V) : sliceV T t x lo hi = sliceK T (T t).kind x lo hi := by
  unfold sliceV
  generalize (T t).kind = k
  cases k with
  | str =>
    cases x with
    | str s =>
      match lo, hi with
      | none, none => rfl
      | some a, none => cases a <;> rfl
      | none, some b => cases b <;> rfl
      | some a, some b => cases a <;> cases b <;> rfl
    | _ => rfl
  | slice e =>
    cases x with
    | lst sz tk l =>
      by_cases hc : (T e).sized = true ∧ sz = (T e).size
      · simp only [if_pos hc]
        match lo, hi with
        | none, none => simp only [sliceK, if_pos hc]
        | some a, none => cases a <;> simp only [sliceK, if_pos hc]
        | none, some b => cases b <;> simp only [sliceK, if_pos hc]
        | some a, some b => cases a <;> cases b <;> simp only [sliceK, if_pos hc]
      · simp only [if_neg hc]
        match lo, hi with
        | none, none => simp only [sliceK, if_neg hc]
        | some a, none => cases a <;> simp only [sliceK, if_neg hc]
        | none, some b => cases b <;> simp only [sliceK, if_neg hc]
        | some a, some b => cases a <;> cases b <;> simp only [sliceK, if_neg hc]
    | _ => rfl
  | _ => rfl

theorem gwC :
    (∀ {α β : Type} (f : α → β) (a : α) (l : List α), List.map f (a :: l) = f a :: List.map f l) ∧
    (∀ {α β : Type} (f : α → β), List.map f [] = []) ∧
    (∀ {α β : Type} (a : α) (f : α → Option β), (some a).bind f = f a) ∧
    (∀ {α β : Type} (a : α) (f : α → β), (some a).map f = some (f a)) ∧
    (∀ {α : Type} (a : α) (l : List α) (d : α), (a :: l).headD d = a) ∧
    (∀ {α : Type} (a : α) (l : List α), (a :: l).reverse = l.reverse ++ [a]) ∧
    (∀ {α : Type}, ([] : List α).reverse = []) ∧
    (∀ {α : Type} (a : α) (l : List α), (a :: l).length = l.length + 1) ∧
    (∀ {α : Type}, ([] : List α).length = 0) ∧
    (∀ {α : Type} (l : List α), l ++ [] = l) ∧
    (∀ {α : Type} (a : α) (l m : List α), (a :: l) ++ m = a :: (l ++ m)) ∧
    (∀ {α : Type} (l : List α), [] ++ l = l) ∧
    (∀ {α : Type} (a : α) (l : List α) (n : Nat), (a :: l).drop (n + 1) = l.drop n) ∧
    (∀ {α : Type} (l : List α), l.drop 0 = l) ∧
    (∀ {α : Type} (n : Nat), ([] : List α).drop n = []) ∧
    (∀ {α : Type} (a : α) (l : List α) (n : Nat), (a :: l).take (n + 1) = a :: l.take n) ∧
    (∀ {α : Type} (l : List α), l.take 0 = []) ∧
    (∀ {α : Type} (n : Nat), ([] : List α).take n = []) ∧
    (∀ {α : Type} (a : α) (l : List α), (a :: l)[0]? = some a) ∧
    (∀ {α : Type} (a : α) (l : List α) (n : Nat), (a :: l)[n + 1]? = l[n]?) ∧
    (∀ {α : Type} (p : α → Bool) (a : α) (l : List α), (a :: l).all p = (p a && l.all p)) ∧
    (∀ {α : Type} (p : α → Bool), ([] : List α).all p = true) ∧
    (∀ {α : Type} (n : Nat) (a : α), List.replicate (n + 1) a = a :: List.replicate n a) ∧
    (∀ {α : Type} (a : α), List.replicate 0 a = []) ∧
    (∀ {α : Type} (a b : α) (l : List α), (a :: l).set 0 b = b :: l) ∧
    (∀ {α : Type} (a b : α) (l : List α) (n : Nat), (a :: l).set (n + 1) b = a :: l.set n b) ∧
    (∀ (h : Decidable True), @decide True h = true) ∧
    (∀ (h : Decidable False), @decide False h = false) ∧
    (∀ p : Prop, (True ∨ p) = True) ∧
    (∀ p : Prop, (p ∧ p) = p) ∧
    ((¬ False) = True) ∧
    (∀ {α : Type} (a b : α), (a ≠ b) = ¬ (a = b)) ∧
    (∀ {α : Type} (a : α), (a = a) = True) := by
  refine ⟨fun _ _ _ => rfl, fun _ => rfl, fun _ _ => rfl, fun _ _ => rfl, fun _ _ _ => rfl, fun _ _ => List.reverse_cons, rfl, fun _ _ => rfl, rfl, fun _ => List.append_nil _, fun _ _ _ => rfl, fun _ => rfl, fun _ _ _ => rfl, fun _ => rfl, fun _ => List.drop_nil, fun _ _ _ => rfl, fun _ => rfl, fun _ => List.take_nil, fun _ _ => rfl, fun _ _ _ => List.getElem?_cons_succ, fun _ _ _ => rfl, fun _ => rfl, fun _ _ => rfl, fun _ => rfl, fun _ _ _ => rfl, fun _ _ _ _ => rfl, fun h => by simp, fun h => by simp, fun _ => by simp, fun _ => by simp, by simp, fun _ _ => rfl, fun _ => by simp⟩
theorem gwN :
    (type_of% @builtinV_len) ∧
    (type_of% @sliceV_K) ∧ (∀ a b : Step, sliS 0 a b = a) ∧ (∀ a b : Step, sliS 3 a b = b) ∧
    (type_of% @lenK.eq_1) ∧
    (type_of% @lenK.eq_2) ∧
    (type_of% @lenK.eq_3) ∧
    (type_of% @lenK.eq_4) ∧
    (type_of% @lenK.eq_5) ∧
    (type_of% @lenK.eq_6) ∧
    (type_of% @lenK.eq_7) ∧
    (type_of% @sliceK.eq_1) ∧
    (type_of% @sliceK.eq_2) ∧
    (type_of% @sliceK.eq_3) ∧
    (type_of% @sliceK.eq_4) ∧
    (type_of% @sliceK.eq_5) ∧
    (type_of% @sliceK.eq_6) ∧
    (type_of% @sliceK.eq_7) ∧
    (type_of% @sliceK.eq_8) ∧
    (type_of% @sliceK.eq_9) ∧
    (type_of% @initG.eq_1) ∧
    (type_of% @initG.eq_2) ∧
    (type_of% @builtS.eq_1) ∧
    (type_of% @builtS.eq_2) ∧
    (type_of% @builtS.eq_3) ∧
    (type_of% @builtS.eq_4) ∧
    (type_of% @pureR.eq_1) ∧
    (type_of% @pureR.eq_2) ∧
    (type_of% @binV.eq_1) ∧
    (type_of% @binV.eq_2) ∧
    (type_of% @binV.eq_3) ∧
    (type_of% @binV.eq_4) ∧
    (type_of% @binV.eq_5) ∧
    (type_of% @binV.eq_6) ∧
    (type_of% @binV.eq_7) ∧
    (type_of% @binV.eq_8) ∧
    (type_of% @binV.eq_9) ∧
    (type_of% @binV.eq_10) ∧
    (type_of% @binV.eq_11) ∧
    (type_of% @binV.eq_12) ∧
    (type_of% @binV.eq_13) ∧
    (type_of% @binV.eq_14) ∧
    (type_of% @binV.eq_15) ∧
    (type_of% @binV.eq_16) ∧
    (type_of% @binV.eq_17) ∧
    (type_of% @binV.eq_18) ∧
    (type_of% @binV.eq_19) ∧
    (type_of% @binV.eq_20) ∧
    (type_of% @binV.eq_21) ∧
    (type_of% @binV.eq_22) ∧
    (type_of% @binV.eq_23) ∧
    (type_of% @binV.eq_24) ∧
    (type_of% @binV.eq_25) ∧
    (type_of% @aggEq.eq_1) ∧
    (type_of% @aggEq.eq_2) ∧
    (type_of% @aggEq.eq_3) ∧
    (type_of% @eqFs.eq_1) ∧
    (type_of% @eqFs.eq_2) ∧
    (type_of% @eqCell.eq_1) ∧
    (type_of% @eqCell.eq_2) ∧
    (type_of% @eqCell.eq_3) ∧
    (type_of% @eqCell.eq_4) ∧
    (type_of% @pickV.eq_1) ∧
    (type_of% @evO.eq_1) ∧
    (type_of% @evO.eq_2) ∧
    (type_of% @evO.eq_3) ∧
    (type_of% @evO.eq_4) ∧
    (type_of% @Env.look.eq_1) ∧
    (type_of% @find.eq_1) ∧
    (type_of% @find.eq_2) ∧
    (type_of% @V.ofConst.eq_1) ∧
    (type_of% @V.ofConst.eq_2) ∧
    (type_of% @V.ofConst.eq_3) ∧
    (type_of% @V.ofConst.eq_4) ∧
    (type_of% @V.ofConst.eq_5) ∧
    (type_of% @V.ofConst.eq_6) ∧
    (type_of% @V.ofConst.eq_7) ∧
    (type_of% @V.ofConst.eq_8) ∧
    (type_of% @V.ofConst.eq_9) ∧
    (type_of% @resV.eq_1) ∧
    (type_of% @resV.eq_2) ∧
    (type_of% @resOne.eq_1) ∧
    (type_of% @resOne.eq_2) ∧
    (type_of% @tupV.eq_1) ∧
    (type_of% @tupV.eq_2) ∧
    (type_of% @fillV.eq_1) ∧
    (type_of% @fillV.eq_2) ∧
    (type_of% @buildV.eq_1) ∧
    (type_of% @mkIface.eq_1) ∧
    (type_of% @litM.eq_1) ∧
    (type_of% @litM.eq_2) ∧
    (type_of% @litM.eq_3) ∧
    (type_of% @litM.eq_4) ∧
    (type_of% @litS.eq_1) ∧
    (type_of% @litS.eq_2) ∧
    (type_of% @litR.eq_1) ∧
    (type_of% @litRows.eq_1) ∧
    (type_of% @litRows.eq_2) ∧
    (type_of% @appS.eq_1) ∧
    (type_of% @appS.eq_2) ∧
    (type_of% @appS.eq_3) ∧
    (type_of% @appS.eq_4) ∧
    (type_of% @memA.eq_1) ∧
    (type_of% @memA.eq_2) ∧
    (type_of% @appendV.eq_1) ∧
    (type_of% @appendV.eq_2) ∧
    (type_of% @appendV.eq_3) ∧
    (type_of% @appendV.eq_4) ∧
    (type_of% @appendV.eq_5) ∧
    (type_of% @rowsOf.eq_1) ∧
    (type_of% @rowsOf.eq_2) ∧
    (type_of% @rowsOf.eq_3) ∧
    (type_of% @rowsOf.eq_4) ∧
    (type_of% @V.cells.eq_1) ∧
    (type_of% @V.cells.eq_2) ∧
    (type_of% @V.cells.eq_3) ∧
    (type_of% @V.cells.eq_4) ∧
    (type_of% @TI.sized.eq_1) ∧
    (type_of% @TI.known.eq_1) ∧
    (type_of% @TI.agg.eq_1) ∧
    (type_of% @anL.eq_1) ∧
    (type_of% @anL.eq_2) ∧
    (type_of% @loadV.eq_def) ∧
    (type_of% @builtinV.eq_7) ∧
    (type_of% @builtinV.eq_8) :=
  ⟨@builtinV_len, @sliceV_K, fun _ _ => rfl, fun _ _ => rfl, @lenK.eq_1, @lenK.eq_2, @lenK.eq_3, @lenK.eq_4, @lenK.eq_5, @lenK.eq_6, @lenK.eq_7, @sliceK.eq_1, @sliceK.eq_2, @sliceK.eq_3, @sliceK.eq_4, @sliceK.eq_5, @sliceK.eq_6, @sliceK.eq_7, @sliceK.eq_8, @sliceK.eq_9, @initG.eq_1, @initG.eq_2, @builtS.eq_1, @builtS.eq_2, @builtS.eq_3, @builtS.eq_4, @pureR.eq_1, @pureR.eq_2, @binV.eq_1, @binV.eq_2, @binV.eq_3, @binV.eq_4, @binV.eq_5, @binV.eq_6, @binV.eq_7, @binV.eq_8, @binV.eq_9, @binV.eq_10, @binV.eq_11, @binV.eq_12, @binV.eq_13, @binV.eq_14, @binV.eq_15, @binV.eq_16, @binV.eq_17, @binV.eq_18, @binV.eq_19, @binV.eq_20, @binV.eq_21, @binV.eq_22, @binV.eq_23, @binV.eq_24, @binV.eq_25, @aggEq.eq_1, @aggEq.eq_2, @aggEq.eq_3, @eqFs.eq_1, @eqFs.eq_2, @eqCell.eq_1, @eqCell.eq_2, @eqCell.eq_3, @eqCell.eq_4, @pickV.eq_1, @evO.eq_1, @evO.eq_2, @evO.eq_3, @evO.eq_4, @Env.look.eq_1, @find.eq_1, @find.eq_2, @V.ofConst.eq_1, @V.ofConst.eq_2, @V.ofConst.eq_3, @V.ofConst.eq_4, @V.ofConst.eq_5, @V.ofConst.eq_6, @V.ofConst.eq_7, @V.ofConst.eq_8, @V.ofConst.eq_9, @resV.eq_1, @resV.eq_2, @resOne.eq_1, @resOne.eq_2, @tupV.eq_1, @tupV.eq_2, @fillV.eq_1, @fillV.eq_2, @buildV.eq_1, @mkIface.eq_1, @litM.eq_1, @litM.eq_2, @litM.eq_3, @litM.eq_4, @litS.eq_1, @litS.eq_2, @litR.eq_1, @litRows.eq_1, @litRows.eq_2, @appS.eq_1, @appS.eq_2, @appS.eq_3, @appS.eq_4, @memA.eq_1, @memA.eq_2, @appendV.eq_1, @appendV.eq_2, @appendV.eq_3, @appendV.eq_4, @appendV.eq_5, @rowsOf.eq_1, @rowsOf.eq_2, @rowsOf.eq_3, @rowsOf.eq_4, @V.cells.eq_1, @V.cells.eq_2, @V.cells.eq_3, @V.cells.eq_4, @TI.sized.eq_1, @TI.known.eq_1, @TI.agg.eq_1, @anL.eq_1, @anL.eq_2, @loadV.eq_def, @builtinV.eq_7, @builtinV.eq_8⟩
end Go.Proofs.Ytakcdeihljojiaa.Gw

namespace Go.Proofs.Ytakcdeihljojiaa.Gw
open Go

def tab : List TI := [
  ⟨.other, 0, 0, []⟩,
  ⟨.func, 1, 8, [.nilf]⟩,
  ⟨.int .i64, 1, 8, [.int .i64 0]⟩,
  ⟨.int .i64, 1, 8, [.int .i64 0]⟩,
  ⟨.bool, 1, 1, [.bool false]⟩,
  ⟨.int .u8, 1, 1, [.int .u8 0]⟩,
  ⟨.int .u8, 1, 1, [.int .u8 0]⟩,
  ⟨.struct [(0, 2), (1, 3), (2, 4), (3, 6)], 4, 24, [.int .i64 0, .int .i64 0, .bool false, .int .u8 0]⟩,
  ⟨.struct [(0, 2), (1, 3), (2, 4), (3, 6)], 4, 24, [.int .i64 0, .int .i64 0, .bool false, .int .u8 0]⟩,
  ⟨.str, 1, 16, [.str []]⟩,
  ⟨.str, 1, 16, [.str []]⟩,
  ⟨.str, 1, 16, [.str []]⟩,
  ⟨.int .u64, 1, 8, [.int .u64 0]⟩,
  ⟨.other, 0, 0, []⟩,
  ⟨.other, 0, 0, []⟩,
  ⟨.ptr 107, 1, 8, [.nilp]⟩,
  ⟨.ptr 110, 1, 8, [.nilp]⟩,
  ⟨.ptr 119, 1, 8, [.nilp]⟩,
  ⟨.other, 0, 0, []⟩,
  ⟨.other, 0, 0, []⟩,
  ⟨.iface, 1, 16, [.nili]⟩,
  ⟨.int .i32, 1, 4, [.int .i32 0]⟩,
  ⟨.slice 9, 1, 24, [.nils]⟩,
  ⟨.slice 25, 1, 24, [.nils]⟩,
  ⟨.struct [(0, 3), (1, 9), (2, 22), (3, 22), (4, 9), (5, 23)], 6, 112, [.int .i64 0, .str [], .nils, .nils, .str [], .nils]⟩,
  ⟨.struct [(0, 3), (1, 9), (2, 22), (3, 22), (4, 9), (5, 23)], 6, 112, [.int .i64 0, .str [], .nils, .nils, .str [], .nils]⟩,
  ⟨.func, 1, 8, [.nilf]⟩,
  ⟨.slice 38, 1, 24, [.nils]⟩,
  ⟨.int .i64, 1, 8, [.int .i64 0]⟩,
  ⟨.other, 0, 0, []⟩,
  ⟨.func, 1, 8, [.nilf]⟩,
  ⟨.func, 1, 8, [.nilf]⟩,
  ⟨.func, 1, 8, [.nilf]⟩,
  ⟨.func, 1, 8, [.nilf]⟩,
  ⟨.func, 1, 8, [.nilf]⟩,
  ⟨.func, 1, 8, [.nilf]⟩,
  ⟨.func, 1, 8, [.nilf]⟩,
  ⟨.struct [(0, 9), (1, 9)], 2, 32, [.str [], .str []]⟩,
  ⟨.struct [(0, 9), (1, 9)], 2, 32, [.str [], .str []]⟩,
  ⟨.func, 1, 8, [.nilf]⟩,
  ⟨.func, 1, 8, [.nilf]⟩,
  ⟨.func, 1, 8, [.nilf]⟩,
  ⟨.func, 1, 8, [.nilf]⟩,
  ⟨.func, 1, 8, [.nilf]⟩,
  ⟨.slice 64, 1, 24, [.nils]⟩,
  ⟨.struct [(0, 28), (1, 3)], 2, 16, [.int .i64 0, .int .i64 0]⟩,
  ⟨.struct [(0, 28), (1, 3)], 2, 16, [.int .i64 0, .int .i64 0]⟩,
  ⟨.other, 0, 0, []⟩,
  ⟨.func, 1, 8, [.nilf]⟩,
  ⟨.func, 1, 8, [.nilf]⟩,
  ⟨.func, 1, 8, [.nilf]⟩,
  ⟨.func, 1, 8, [.nilf]⟩,
  ⟨.func, 1, 8, [.nilf]⟩,
  ⟨.func, 1, 8, [.nilf]⟩,
  ⟨.ptr 25, 1, 8, [.nilp]⟩,
  ⟨.map 9 9, 1, 8, [.nilm]⟩,
  ⟨.map 9 9, 1, 8, [.nilm]⟩,
  ⟨.other, 0, 0, []⟩,
  ⟨.other, 0, 0, []⟩,
  ⟨.func, 1, 8, [.nilf]⟩,
  ⟨.func, 1, 8, [.nilf]⟩,
  ⟨.slice 5, 1, 24, [.nils]⟩,
  ⟨.func, 1, 8, [.nilf]⟩,
  ⟨.struct [(0, 9), (1, 9), (2, 9)], 3, 48, [.str [], .str [], .str []]⟩,
  ⟨.struct [(0, 9), (1, 9), (2, 9)], 3, 48, [.str [], .str [], .str []]⟩,
  ⟨.other, 0, 0, []⟩,
  ⟨.func, 1, 8, [.nilf]⟩,
  ⟨.func, 1, 8, [.nilf]⟩,
  ⟨.func, 1, 8, [.nilf]⟩,
  ⟨.func, 1, 8, [.nilf]⟩,
  ⟨.func, 1, 8, [.nilf]⟩,
  ⟨.func, 1, 8, [.nilf]⟩,
  ⟨.func, 1, 8, [.nilf]⟩,
  ⟨.func, 1, 8, [.nilf]⟩,
  ⟨.func, 1, 8, [.nilf]⟩,
  ⟨.func, 1, 8, [.nilf]⟩,
  ⟨.int .u64, 1, 8, [.int .u64 0]⟩,
  ⟨.func, 1, 8, [.nilf]⟩,
  ⟨.func, 1, 8, [.nilf]⟩,
  ⟨.func, 1, 8, [.nilf]⟩,
  ⟨.func, 1, 8, [.nilf]⟩,
  ⟨.func, 1, 8, [.nilf]⟩,
  ⟨.func, 1, 8, [.nilf]⟩,
  ⟨.func, 1, 8, [.nilf]⟩,
  ⟨.int .i64, 1, 8, [.int .i64 0]⟩,
  ⟨.other, 0, 0, []⟩,
  ⟨.func, 1, 8, [.nilf]⟩,
  ⟨.func, 1, 8, [.nilf]⟩,
  ⟨.func, 1, 8, [.nilf]⟩,
  ⟨.func, 1, 8, [.nilf]⟩,
  ⟨.func, 1, 8, [.nilf]⟩,
  ⟨.int .u32, 1, 4, [.int .u32 0]⟩,
  ⟨.func, 1, 8, [.nilf]⟩,
  ⟨.int .u64, 1, 8, [.int .u64 0]⟩,
  ⟨.func, 1, 8, [.nilf]⟩,
  ⟨.func, 1, 8, [.nilf]⟩,
  ⟨.int .u64, 1, 8, [.int .u64 0]⟩,
  ⟨.func, 1, 8, [.nilf]⟩,
  ⟨.func, 1, 8, [.nilf]⟩,
  ⟨.func, 1, 8, [.nilf]⟩,
  ⟨.ptr 3, 1, 8, [.nilp]⟩,
  ⟨.func, 1, 8, [.nilf]⟩,
  ⟨.ptr 96, 1, 8, [.nilp]⟩,
  ⟨.other, 0, 0, []⟩,
  ⟨.func, 1, 8, [.nilf]⟩,
  ⟨.func, 1, 8, [.nilf]⟩,
  ⟨.other, 0, 0, []⟩,
  ⟨.other, 0, 0, []⟩,
  ⟨.other, 0, 0, []⟩,
  ⟨.other, 0, 0, []⟩,
  ⟨.other, 0, 0, []⟩,
  ⟨.func, 1, 8, [.nilf]⟩,
  ⟨.int .u8, 1, 1, [.int .u8 0]⟩,
  ⟨.int .u8, 1, 1, [.int .u8 0]⟩,
  ⟨.func, 1, 8, [.nilf]⟩,
  ⟨.ptr 5, 1, 8, [.nilp]⟩,
  ⟨.int .i32, 1, 4, [.int .i32 0]⟩,
  ⟨.int .i32, 1, 4, [.int .i32 0]⟩,
  ⟨.other, 0, 0, []⟩,
  ⟨.other, 0, 0, []⟩,
  ⟨.other, 0, 0, []⟩]

def TT (t : Nat) : TI := (tab[t]?).getD ⟨.other, 0, 0, []⟩


def rowsOk (P : Program) : Nat → List TI → Prop
  | _, [] => True
  | k, i :: r => (i.kind ≠ .other → TI.ok P k i) ∧ rowsOk P (k + 1) r

theorem rowsOk_get {P : Program} : ∀ (l : List TI) (k t : Nat) (i : TI), rowsOk P k l → l[t]? = some i → i.kind ≠ .other → TI.ok P (k + t) i
  | [], k, t, i, _, h, _ => by simp at h
  | j :: r, k, 0, i, h, h2, h3 => by simp at h2; subst h2; exact h.1 h3
  | j :: r, k, t + 1, i, h, h2, h3 => by
    have := rowsOk_get r (k + 1) t i h.2 (by simpa using h2) h3
    rw [show k + (t + 1) = k + 1 + t by omega]; exact this

theorem row_1 : TI.ok Try.prog 1 (TT 1) := ⟨by kernel_rfl, by kernel_rfl, by kernel_rfl, by kernel_rfl, (by intro h; first | rfl | cases h), (by intro h; first | kernel_rfl | cases h)⟩
theorem row_2 : TI.ok Try.prog 2 (TT 2) := ⟨by kernel_rfl, by kernel_rfl, by kernel_rfl, by kernel_rfl, (by intro h; first | rfl | cases h), (by intro h; first | kernel_rfl | cases h)⟩
theorem row_3 : TI.ok Try.prog 3 (TT 3) := ⟨by kernel_rfl, by kernel_rfl, by kernel_rfl, by kernel_rfl, (by intro h; first | rfl | cases h), (by intro h; first | kernel_rfl | cases h)⟩
theorem row_4 : TI.ok Try.prog 4 (TT 4) := ⟨by kernel_rfl, by kernel_rfl, by kernel_rfl, by kernel_rfl, (by intro h; first | rfl | cases h), (by intro h; first | kernel_rfl | cases h)⟩
theorem row_5 : TI.ok Try.prog 5 (TT 5) := ⟨by kernel_rfl, by kernel_rfl, by kernel_rfl, by kernel_rfl, (by intro h; first | rfl | cases h), (by intro h; first | kernel_rfl | cases h)⟩
theorem row_6 : TI.ok Try.prog 6 (TT 6) := ⟨by kernel_rfl, by kernel_rfl, by kernel_rfl, by kernel_rfl, (by intro h; first | rfl | cases h), (by intro h; first | kernel_rfl | cases h)⟩
theorem row_7 : TI.ok Try.prog 7 (TT 7) := ⟨by kernel_rfl, by kernel_rfl, by kernel_rfl, by kernel_rfl, (by intro h; first | rfl | cases h), (by intro h; first | kernel_rfl | cases h)⟩
theorem row_8 : TI.ok Try.prog 8 (TT 8) := ⟨by kernel_rfl, by kernel_rfl, by kernel_rfl, by kernel_rfl, (by intro h; first | rfl | cases h), (by intro h; first | kernel_rfl | cases h)⟩
theorem row_9 : TI.ok Try.prog 9 (TT 9) := ⟨by kernel_rfl, by kernel_rfl, by kernel_rfl, by kernel_rfl, (by intro h; first | rfl | cases h), (by intro h; first | kernel_rfl | cases h)⟩
theorem row_10 : TI.ok Try.prog 10 (TT 10) := ⟨by kernel_rfl, by kernel_rfl, by kernel_rfl, by kernel_rfl, (by intro h; first | rfl | cases h), (by intro h; first | kernel_rfl | cases h)⟩
theorem row_11 : TI.ok Try.prog 11 (TT 11) := ⟨by kernel_rfl, by kernel_rfl, by kernel_rfl, by kernel_rfl, (by intro h; first | rfl | cases h), (by intro h; first | kernel_rfl | cases h)⟩
theorem row_12 : TI.ok Try.prog 12 (TT 12) := ⟨by kernel_rfl, by kernel_rfl, by kernel_rfl, by kernel_rfl, (by intro h; first | rfl | cases h), (by intro h; first | kernel_rfl | cases h)⟩
theorem row_15 : TI.ok Try.prog 15 (TT 15) := ⟨by kernel_rfl, by kernel_rfl, by kernel_rfl, by kernel_rfl, (by intro h; first | rfl | cases h), (by intro h; first | kernel_rfl | cases h)⟩
theorem row_16 : TI.ok Try.prog 16 (TT 16) := ⟨by kernel_rfl, by kernel_rfl, by kernel_rfl, by kernel_rfl, (by intro h; first | rfl | cases h), (by intro h; first | kernel_rfl | cases h)⟩
theorem row_17 : TI.ok Try.prog 17 (TT 17) := ⟨by kernel_rfl, by kernel_rfl, by kernel_rfl, by kernel_rfl, (by intro h; first | rfl | cases h), (by intro h; first | kernel_rfl | cases h)⟩
theorem row_20 : TI.ok Try.prog 20 (TT 20) := ⟨by kernel_rfl, by kernel_rfl, by kernel_rfl, by kernel_rfl, (by intro h; first | rfl | cases h), (by intro h; first | kernel_rfl | cases h)⟩
theorem row_21 : TI.ok Try.prog 21 (TT 21) := ⟨by kernel_rfl, by kernel_rfl, by kernel_rfl, by kernel_rfl, (by intro h; first | rfl | cases h), (by intro h; first | kernel_rfl | cases h)⟩
theorem row_22 : TI.ok Try.prog 22 (TT 22) := ⟨by kernel_rfl, by kernel_rfl, by kernel_rfl, by kernel_rfl, (by intro h; first | rfl | cases h), (by intro h; first | kernel_rfl | cases h)⟩
theorem row_23 : TI.ok Try.prog 23 (TT 23) := ⟨by kernel_rfl, by kernel_rfl, by kernel_rfl, by kernel_rfl, (by intro h; first | rfl | cases h), (by intro h; first | kernel_rfl | cases h)⟩
theorem row_24 : TI.ok Try.prog 24 (TT 24) := ⟨by kernel_rfl, by kernel_rfl, by kernel_rfl, by kernel_rfl, (by intro h; first | rfl | cases h), (by intro h; first | kernel_rfl | cases h)⟩
theorem row_25 : TI.ok Try.prog 25 (TT 25) := ⟨by kernel_rfl, by kernel_rfl, by kernel_rfl, by kernel_rfl, (by intro h; first | rfl | cases h), (by intro h; first | kernel_rfl | cases h)⟩
theorem row_26 : TI.ok Try.prog 26 (TT 26) := ⟨by kernel_rfl, by kernel_rfl, by kernel_rfl, by kernel_rfl, (by intro h; first | rfl | cases h), (by intro h; first | kernel_rfl | cases h)⟩
theorem row_27 : TI.ok Try.prog 27 (TT 27) := ⟨by kernel_rfl, by kernel_rfl, by kernel_rfl, by kernel_rfl, (by intro h; first | rfl | cases h), (by intro h; first | kernel_rfl | cases h)⟩
theorem row_28 : TI.ok Try.prog 28 (TT 28) := ⟨by kernel_rfl, by kernel_rfl, by kernel_rfl, by kernel_rfl, (by intro h; first | rfl | cases h), (by intro h; first | kernel_rfl | cases h)⟩
theorem row_30 : TI.ok Try.prog 30 (TT 30) := ⟨by kernel_rfl, by kernel_rfl, by kernel_rfl, by kernel_rfl, (by intro h; first | rfl | cases h), (by intro h; first | kernel_rfl | cases h)⟩
theorem row_31 : TI.ok Try.prog 31 (TT 31) := ⟨by kernel_rfl, by kernel_rfl, by kernel_rfl, by kernel_rfl, (by intro h; first | rfl | cases h), (by intro h; first | kernel_rfl | cases h)⟩
theorem row_32 : TI.ok Try.prog 32 (TT 32) := ⟨by kernel_rfl, by kernel_rfl, by kernel_rfl, by kernel_rfl, (by intro h; first | rfl | cases h), (by intro h; first | kernel_rfl | cases h)⟩
theorem row_33 : TI.ok Try.prog 33 (TT 33) := ⟨by kernel_rfl, by kernel_rfl, by kernel_rfl, by kernel_rfl, (by intro h; first | rfl | cases h), (by intro h; first | kernel_rfl | cases h)⟩
theorem row_34 : TI.ok Try.prog 34 (TT 34) := ⟨by kernel_rfl, by kernel_rfl, by kernel_rfl, by kernel_rfl, (by intro h; first | rfl | cases h), (by intro h; first | kernel_rfl | cases h)⟩
theorem row_35 : TI.ok Try.prog 35 (TT 35) := ⟨by kernel_rfl, by kernel_rfl, by kernel_rfl, by kernel_rfl, (by intro h; first | rfl | cases h), (by intro h; first | kernel_rfl | cases h)⟩
theorem row_36 : TI.ok Try.prog 36 (TT 36) := ⟨by kernel_rfl, by kernel_rfl, by kernel_rfl, by kernel_rfl, (by intro h; first | rfl | cases h), (by intro h; first | kernel_rfl | cases h)⟩
theorem row_37 : TI.ok Try.prog 37 (TT 37) := ⟨by kernel_rfl, by kernel_rfl, by kernel_rfl, by kernel_rfl, (by intro h; first | rfl | cases h), (by intro h; first | kernel_rfl | cases h)⟩
theorem row_38 : TI.ok Try.prog 38 (TT 38) := ⟨by kernel_rfl, by kernel_rfl, by kernel_rfl, by kernel_rfl, (by intro h; first | rfl | cases h), (by intro h; first | kernel_rfl | cases h)⟩
theorem row_39 : TI.ok Try.prog 39 (TT 39) := ⟨by kernel_rfl, by kernel_rfl, by kernel_rfl, by kernel_rfl, (by intro h; first | rfl | cases h), (by intro h; first | kernel_rfl | cases h)⟩
theorem row_40 : TI.ok Try.prog 40 (TT 40) := ⟨by kernel_rfl, by kernel_rfl, by kernel_rfl, by kernel_rfl, (by intro h; first | rfl | cases h), (by intro h; first | kernel_rfl | cases h)⟩
theorem row_41 : TI.ok Try.prog 41 (TT 41) := ⟨by kernel_rfl, by kernel_rfl, by kernel_rfl, by kernel_rfl, (by intro h; first | rfl | cases h), (by intro h; first | kernel_rfl | cases h)⟩
theorem row_42 : TI.ok Try.prog 42 (TT 42) := ⟨by kernel_rfl, by kernel_rfl, by kernel_rfl, by kernel_rfl, (by intro h; first | rfl | cases h), (by intro h; first | kernel_rfl | cases h)⟩
theorem row_43 : TI.ok Try.prog 43 (TT 43) := ⟨by kernel_rfl, by kernel_rfl, by kernel_rfl, by kernel_rfl, (by intro h; first | rfl | cases h), (by intro h; first | kernel_rfl | cases h)⟩
theorem row_44 : TI.ok Try.prog 44 (TT 44) := ⟨by kernel_rfl, by kernel_rfl, by kernel_rfl, by kernel_rfl, (by intro h; first | rfl | cases h), (by intro h; first | kernel_rfl | cases h)⟩
theorem row_45 : TI.ok Try.prog 45 (TT 45) := ⟨by kernel_rfl, by kernel_rfl, by kernel_rfl, by kernel_rfl, (by intro h; first | rfl | cases h), (by intro h; first | kernel_rfl | cases h)⟩
theorem row_46 : TI.ok Try.prog 46 (TT 46) := ⟨by kernel_rfl, by kernel_rfl, by kernel_rfl, by kernel_rfl, (by intro h; first | rfl | cases h), (by intro h; first | kernel_rfl | cases h)⟩
theorem row_48 : TI.ok Try.prog 48 (TT 48) := ⟨by kernel_rfl, by kernel_rfl, by kernel_rfl, by kernel_rfl, (by intro h; first | rfl | cases h), (by intro h; first | kernel_rfl | cases h)⟩
theorem row_49 : TI.ok Try.prog 49 (TT 49) := ⟨by kernel_rfl, by kernel_rfl, by kernel_rfl, by kernel_rfl, (by intro h; first | rfl | cases h), (by intro h; first | kernel_rfl | cases h)⟩
theorem row_50 : TI.ok Try.prog 50 (TT 50) := ⟨by kernel_rfl, by kernel_rfl, by kernel_rfl, by kernel_rfl, (by intro h; first | rfl | cases h), (by intro h; first | kernel_rfl | cases h)⟩
theorem row_51 : TI.ok Try.prog 51 (TT 51) := ⟨by kernel_rfl, by kernel_rfl, by kernel_rfl, by kernel_rfl, (by intro h; first | rfl | cases h), (by intro h; first | kernel_rfl | cases h)⟩
theorem row_52 : TI.ok Try.prog 52 (TT 52) := ⟨by kernel_rfl, by kernel_rfl, by kernel_rfl, by kernel_rfl, (by intro h; first | rfl | cases h), (by intro h; first | kernel_rfl | cases h)⟩
theorem row_53 : TI.ok Try.prog 53 (TT 53) := ⟨by kernel_rfl, by kernel_rfl, by kernel_rfl, by kernel_rfl, (by intro h; first | rfl | cases h), (by intro h; first | kernel_rfl | cases h)⟩
theorem row_54 : TI.ok Try.prog 54 (TT 54) := ⟨by kernel_rfl, by kernel_rfl, by kernel_rfl, by kernel_rfl, (by intro h; first | rfl | cases h), (by intro h; first | kernel_rfl | cases h)⟩
theorem row_55 : TI.ok Try.prog 55 (TT 55) := ⟨by kernel_rfl, by kernel_rfl, by kernel_rfl, by kernel_rfl, (by intro h; first | rfl | cases h), (by intro h; first | kernel_rfl | cases h)⟩
theorem row_56 : TI.ok Try.prog 56 (TT 56) := ⟨by kernel_rfl, by kernel_rfl, by kernel_rfl, by kernel_rfl, (by intro h; first | rfl | cases h), (by intro h; first | kernel_rfl | cases h)⟩
theorem row_59 : TI.ok Try.prog 59 (TT 59) := ⟨by kernel_rfl, by kernel_rfl, by kernel_rfl, by kernel_rfl, (by intro h; first | rfl | cases h), (by intro h; first | kernel_rfl | cases h)⟩
theorem row_60 : TI.ok Try.prog 60 (TT 60) := ⟨by kernel_rfl, by kernel_rfl, by kernel_rfl, by kernel_rfl, (by intro h; first | rfl | cases h), (by intro h; first | kernel_rfl | cases h)⟩
theorem row_61 : TI.ok Try.prog 61 (TT 61) := ⟨by kernel_rfl, by kernel_rfl, by kernel_rfl, by kernel_rfl, (by intro h; first | rfl | cases h), (by intro h; first | kernel_rfl | cases h)⟩
theorem row_62 : TI.ok Try.prog 62 (TT 62) := ⟨by kernel_rfl, by kernel_rfl, by kernel_rfl, by kernel_rfl, (by intro h; first | rfl | cases h), (by intro h; first | kernel_rfl | cases h)⟩
theorem row_63 : TI.ok Try.prog 63 (TT 63) := ⟨by kernel_rfl, by kernel_rfl, by kernel_rfl, by kernel_rfl, (by intro h; first | rfl | cases h), (by intro h; first | kernel_rfl | cases h)⟩
theorem row_64 : TI.ok Try.prog 64 (TT 64) := ⟨by kernel_rfl, by kernel_rfl, by kernel_rfl, by kernel_rfl, (by intro h; first | rfl | cases h), (by intro h; first | kernel_rfl | cases h)⟩
theorem row_66 : TI.ok Try.prog 66 (TT 66) := ⟨by kernel_rfl, by kernel_rfl, by kernel_rfl, by kernel_rfl, (by intro h; first | rfl | cases h), (by intro h; first | kernel_rfl | cases h)⟩
theorem row_67 : TI.ok Try.prog 67 (TT 67) := ⟨by kernel_rfl, by kernel_rfl, by kernel_rfl, by kernel_rfl, (by intro h; first | rfl | cases h), (by intro h; first | kernel_rfl | cases h)⟩
theorem row_68 : TI.ok Try.prog 68 (TT 68) := ⟨by kernel_rfl, by kernel_rfl, by kernel_rfl, by kernel_rfl, (by intro h; first | rfl | cases h), (by intro h; first | kernel_rfl | cases h)⟩
theorem row_69 : TI.ok Try.prog 69 (TT 69) := ⟨by kernel_rfl, by kernel_rfl, by kernel_rfl, by kernel_rfl, (by intro h; first | rfl | cases h), (by intro h; first | kernel_rfl | cases h)⟩
theorem row_70 : TI.ok Try.prog 70 (TT 70) := ⟨by kernel_rfl, by kernel_rfl, by kernel_rfl, by kernel_rfl, (by intro h; first | rfl | cases h), (by intro h; first | kernel_rfl | cases h)⟩
theorem row_71 : TI.ok Try.prog 71 (TT 71) := ⟨by kernel_rfl, by kernel_rfl, by kernel_rfl, by kernel_rfl, (by intro h; first | rfl | cases h), (by intro h; first | kernel_rfl | cases h)⟩
theorem row_72 : TI.ok Try.prog 72 (TT 72) := ⟨by kernel_rfl, by kernel_rfl, by kernel_rfl, by kernel_rfl, (by intro h; first | rfl | cases h), (by intro h; first | kernel_rfl | cases h)⟩
theorem row_73 : TI.ok Try.prog 73 (TT 73) := ⟨by kernel_rfl, by kernel_rfl, by kernel_rfl, by kernel_rfl, (by intro h; first | rfl | cases h), (by intro h; first | kernel_rfl | cases h)⟩
theorem row_74 : TI.ok Try.prog 74 (TT 74) := ⟨by kernel_rfl, by kernel_rfl, by kernel_rfl, by kernel_rfl, (by intro h; first | rfl | cases h), (by intro h; first | kernel_rfl | cases h)⟩
theorem row_75 : TI.ok Try.prog 75 (TT 75) := ⟨by kernel_rfl, by kernel_rfl, by kernel_rfl, by kernel_rfl, (by intro h; first | rfl | cases h), (by intro h; first | kernel_rfl | cases h)⟩
theorem row_76 : TI.ok Try.prog 76 (TT 76) := ⟨by kernel_rfl, by kernel_rfl, by kernel_rfl, by kernel_rfl, (by intro h; first | rfl | cases h), (by intro h; first | kernel_rfl | cases h)⟩
theorem row_77 : TI.ok Try.prog 77 (TT 77) := ⟨by kernel_rfl, by kernel_rfl, by kernel_rfl, by kernel_rfl, (by intro h; first | rfl | cases h), (by intro h; first | kernel_rfl | cases h)⟩
theorem row_78 : TI.ok Try.prog 78 (TT 78) := ⟨by kernel_rfl, by kernel_rfl, by kernel_rfl, by kernel_rfl, (by intro h; first | rfl | cases h), (by intro h; first | kernel_rfl | cases h)⟩
theorem row_79 : TI.ok Try.prog 79 (TT 79) := ⟨by kernel_rfl, by kernel_rfl, by kernel_rfl, by kernel_rfl, (by intro h; first | rfl | cases h), (by intro h; first | kernel_rfl | cases h)⟩
theorem row_80 : TI.ok Try.prog 80 (TT 80) := ⟨by kernel_rfl, by kernel_rfl, by kernel_rfl, by kernel_rfl, (by intro h; first | rfl | cases h), (by intro h; first | kernel_rfl | cases h)⟩
theorem row_81 : TI.ok Try.prog 81 (TT 81) := ⟨by kernel_rfl, by kernel_rfl, by kernel_rfl, by kernel_rfl, (by intro h; first | rfl | cases h), (by intro h; first | kernel_rfl | cases h)⟩
theorem row_82 : TI.ok Try.prog 82 (TT 82) := ⟨by kernel_rfl, by kernel_rfl, by kernel_rfl, by kernel_rfl, (by intro h; first | rfl | cases h), (by intro h; first | kernel_rfl | cases h)⟩
theorem row_83 : TI.ok Try.prog 83 (TT 83) := ⟨by kernel_rfl, by kernel_rfl, by kernel_rfl, by kernel_rfl, (by intro h; first | rfl | cases h), (by intro h; first | kernel_rfl | cases h)⟩
theorem row_84 : TI.ok Try.prog 84 (TT 84) := ⟨by kernel_rfl, by kernel_rfl, by kernel_rfl, by kernel_rfl, (by intro h; first | rfl | cases h), (by intro h; first | kernel_rfl | cases h)⟩
theorem row_86 : TI.ok Try.prog 86 (TT 86) := ⟨by kernel_rfl, by kernel_rfl, by kernel_rfl, by kernel_rfl, (by intro h; first | rfl | cases h), (by intro h; first | kernel_rfl | cases h)⟩
theorem row_87 : TI.ok Try.prog 87 (TT 87) := ⟨by kernel_rfl, by kernel_rfl, by kernel_rfl, by kernel_rfl, (by intro h; first | rfl | cases h), (by intro h; first | kernel_rfl | cases h)⟩
theorem row_88 : TI.ok Try.prog 88 (TT 88) := ⟨by kernel_rfl, by kernel_rfl, by kernel_rfl, by kernel_rfl, (by intro h; first | rfl | cases h), (by intro h; first | kernel_rfl | cases h)⟩
theorem row_89 : TI.ok Try.prog 89 (TT 89) := ⟨by kernel_rfl, by kernel_rfl, by kernel_rfl, by kernel_rfl, (by intro h; first | rfl | cases h), (by intro h; first | kernel_rfl | cases h)⟩
theorem row_90 : TI.ok Try.prog 90 (TT 90) := ⟨by kernel_rfl, by kernel_rfl, by kernel_rfl, by kernel_rfl, (by intro h; first | rfl | cases h), (by intro h; first | kernel_rfl | cases h)⟩
theorem row_91 : TI.ok Try.prog 91 (TT 91) := ⟨by kernel_rfl, by kernel_rfl, by kernel_rfl, by kernel_rfl, (by intro h; first | rfl | cases h), (by intro h; first | kernel_rfl | cases h)⟩
theorem row_92 : TI.ok Try.prog 92 (TT 92) := ⟨by kernel_rfl, by kernel_rfl, by kernel_rfl, by kernel_rfl, (by intro h; first | rfl | cases h), (by intro h; first | kernel_rfl | cases h)⟩
theorem row_93 : TI.ok Try.prog 93 (TT 93) := ⟨by kernel_rfl, by kernel_rfl, by kernel_rfl, by kernel_rfl, (by intro h; first | rfl | cases h), (by intro h; first | kernel_rfl | cases h)⟩
theorem row_94 : TI.ok Try.prog 94 (TT 94) := ⟨by kernel_rfl, by kernel_rfl, by kernel_rfl, by kernel_rfl, (by intro h; first | rfl | cases h), (by intro h; first | kernel_rfl | cases h)⟩
theorem row_95 : TI.ok Try.prog 95 (TT 95) := ⟨by kernel_rfl, by kernel_rfl, by kernel_rfl, by kernel_rfl, (by intro h; first | rfl | cases h), (by intro h; first | kernel_rfl | cases h)⟩
theorem row_96 : TI.ok Try.prog 96 (TT 96) := ⟨by kernel_rfl, by kernel_rfl, by kernel_rfl, by kernel_rfl, (by intro h; first | rfl | cases h), (by intro h; first | kernel_rfl | cases h)⟩
theorem row_97 : TI.ok Try.prog 97 (TT 97) := ⟨by kernel_rfl, by kernel_rfl, by kernel_rfl, by kernel_rfl, (by intro h; first | rfl | cases h), (by intro h; first | kernel_rfl | cases h)⟩
theorem row_98 : TI.ok Try.prog 98 (TT 98) := ⟨by kernel_rfl, by kernel_rfl, by kernel_rfl, by kernel_rfl, (by intro h; first | rfl | cases h), (by intro h; first | kernel_rfl | cases h)⟩
theorem row_99 : TI.ok Try.prog 99 (TT 99) := ⟨by kernel_rfl, by kernel_rfl, by kernel_rfl, by kernel_rfl, (by intro h; first | rfl | cases h), (by intro h; first | kernel_rfl | cases h)⟩
theorem row_100 : TI.ok Try.prog 100 (TT 100) := ⟨by kernel_rfl, by kernel_rfl, by kernel_rfl, by kernel_rfl, (by intro h; first | rfl | cases h), (by intro h; first | kernel_rfl | cases h)⟩
theorem row_101 : TI.ok Try.prog 101 (TT 101) := ⟨by kernel_rfl, by kernel_rfl, by kernel_rfl, by kernel_rfl, (by intro h; first | rfl | cases h), (by intro h; first | kernel_rfl | cases h)⟩
theorem row_102 : TI.ok Try.prog 102 (TT 102) := ⟨by kernel_rfl, by kernel_rfl, by kernel_rfl, by kernel_rfl, (by intro h; first | rfl | cases h), (by intro h; first | kernel_rfl | cases h)⟩
theorem row_104 : TI.ok Try.prog 104 (TT 104) := ⟨by kernel_rfl, by kernel_rfl, by kernel_rfl, by kernel_rfl, (by intro h; first | rfl | cases h), (by intro h; first | kernel_rfl | cases h)⟩
theorem row_105 : TI.ok Try.prog 105 (TT 105) := ⟨by kernel_rfl, by kernel_rfl, by kernel_rfl, by kernel_rfl, (by intro h; first | rfl | cases h), (by intro h; first | kernel_rfl | cases h)⟩
theorem row_111 : TI.ok Try.prog 111 (TT 111) := ⟨by kernel_rfl, by kernel_rfl, by kernel_rfl, by kernel_rfl, (by intro h; first | rfl | cases h), (by intro h; first | kernel_rfl | cases h)⟩
theorem row_112 : TI.ok Try.prog 112 (TT 112) := ⟨by kernel_rfl, by kernel_rfl, by kernel_rfl, by kernel_rfl, (by intro h; first | rfl | cases h), (by intro h; first | kernel_rfl | cases h)⟩
theorem row_113 : TI.ok Try.prog 113 (TT 113) := ⟨by kernel_rfl, by kernel_rfl, by kernel_rfl, by kernel_rfl, (by intro h; first | rfl | cases h), (by intro h; first | kernel_rfl | cases h)⟩
theorem row_114 : TI.ok Try.prog 114 (TT 114) := ⟨by kernel_rfl, by kernel_rfl, by kernel_rfl, by kernel_rfl, (by intro h; first | rfl | cases h), (by intro h; first | kernel_rfl | cases h)⟩
theorem row_115 : TI.ok Try.prog 115 (TT 115) := ⟨by kernel_rfl, by kernel_rfl, by kernel_rfl, by kernel_rfl, (by intro h; first | rfl | cases h), (by intro h; first | kernel_rfl | cases h)⟩
theorem row_116 : TI.ok Try.prog 116 (TT 116) := ⟨by kernel_rfl, by kernel_rfl, by kernel_rfl, by kernel_rfl, (by intro h; first | rfl | cases h), (by intro h; first | kernel_rfl | cases h)⟩
theorem row_117 : TI.ok Try.prog 117 (TT 117) := ⟨by kernel_rfl, by kernel_rfl, by kernel_rfl, by kernel_rfl, (by intro h; first | rfl | cases h), (by intro h; first | kernel_rfl | cases h)⟩

theorem rows_ok : rowsOk Try.prog 0 tab := by
  refine ⟨fun h => absurd rfl h, fun _ => row_1, fun _ => row_2, fun _ => row_3, fun _ => row_4, fun _ => row_5, fun _ => row_6, fun _ => row_7, fun _ => row_8, fun _ => row_9, fun _ => row_10, fun _ => row_11, fun _ => row_12, fun h => absurd rfl h, fun h => absurd rfl h, fun _ => row_15, fun _ => row_16, fun _ => row_17, fun h => absurd rfl h, fun h => absurd rfl h, fun _ => row_20, fun _ => row_21, fun _ => row_22, fun _ => row_23, fun _ => row_24, fun _ => row_25, fun _ => row_26, fun _ => row_27, fun _ => row_28, fun h => absurd rfl h, fun _ => row_30, fun _ => row_31, fun _ => row_32, fun _ => row_33, fun _ => row_34, fun _ => row_35, fun _ => row_36, fun _ => row_37, fun _ => row_38, fun _ => row_39, fun _ => row_40, fun _ => row_41, fun _ => row_42, fun _ => row_43, fun _ => row_44, fun _ => row_45, fun _ => row_46, fun h => absurd rfl h, fun _ => row_48, fun _ => row_49, fun _ => row_50, fun _ => row_51, fun _ => row_52, fun _ => row_53, fun _ => row_54, fun _ => row_55, fun _ => row_56, fun h => absurd rfl h, fun h => absurd rfl h, fun _ => row_59, fun _ => row_60, fun _ => row_61, fun _ => row_62, fun _ => row_63, fun _ => row_64, fun h => absurd rfl h, fun _ => row_66, fun _ => row_67, fun _ => row_68, fun _ => row_69, fun _ => row_70, fun _ => row_71, fun _ => row_72, fun _ => row_73, fun _ => row_74, fun _ => row_75, fun _ => row_76, fun _ => row_77, fun _ => row_78, fun _ => row_79, fun _ => row_80, fun _ => row_81, fun _ => row_82, fun _ => row_83, fun _ => row_84, fun h => absurd rfl h, fun _ => row_86, fun _ => row_87, fun _ => row_88, fun _ => row_89, fun _ => row_90, fun _ => row_91, fun _ => row_92, fun _ => row_93, fun _ => row_94, fun _ => row_95, fun _ => row_96, fun _ => row_97, fun _ => row_98, fun _ => row_99, fun _ => row_100, fun _ => row_101, fun _ => row_102, fun h => absurd rfl h, fun _ => row_104, fun _ => row_105, fun h => absurd rfl h, fun h => absurd rfl h, fun h => absurd rfl h, fun h => absurd rfl h, fun h => absurd rfl h, fun _ => row_111, fun _ => row_112, fun _ => row_113, fun _ => row_114, fun _ => row_115, fun _ => row_116, fun _ => row_117, fun h => absurd rfl h, fun h => absurd rfl h, fun h => absurd rfl h, trivial⟩

theorem gwTT :
    (TT 1 = ⟨.func, 1, 8, [.nilf]⟩) ∧
    (TT 2 = ⟨.int .i64, 1, 8, [.int .i64 0]⟩) ∧
    (TT 3 = ⟨.int .i64, 1, 8, [.int .i64 0]⟩) ∧
    (TT 4 = ⟨.bool, 1, 1, [.bool false]⟩) ∧
    (TT 5 = ⟨.int .u8, 1, 1, [.int .u8 0]⟩) ∧
    (TT 6 = ⟨.int .u8, 1, 1, [.int .u8 0]⟩) ∧
    (TT 7 = ⟨.struct [(0, 2), (1, 3), (2, 4), (3, 6)], 4, 24, [.int .i64 0, .int .i64 0, .bool false, .int .u8 0]⟩) ∧
    (TT 8 = ⟨.struct [(0, 2), (1, 3), (2, 4), (3, 6)], 4, 24, [.int .i64 0, .int .i64 0, .bool false, .int .u8 0]⟩) ∧
    (TT 9 = ⟨.str, 1, 16, [.str []]⟩) ∧
    (TT 10 = ⟨.str, 1, 16, [.str []]⟩) ∧
    (TT 11 = ⟨.str, 1, 16, [.str []]⟩) ∧
    (TT 12 = ⟨.int .u64, 1, 8, [.int .u64 0]⟩) ∧
    (TT 15 = ⟨.ptr 107, 1, 8, [.nilp]⟩) ∧
    (TT 16 = ⟨.ptr 110, 1, 8, [.nilp]⟩) ∧
    (TT 17 = ⟨.ptr 119, 1, 8, [.nilp]⟩) ∧
    (TT 20 = ⟨.iface, 1, 16, [.nili]⟩) ∧
    (TT 21 = ⟨.int .i32, 1, 4, [.int .i32 0]⟩) ∧
    (TT 22 = ⟨.slice 9, 1, 24, [.nils]⟩) ∧
    (TT 23 = ⟨.slice 25, 1, 24, [.nils]⟩) ∧
    (TT 24 = ⟨.struct [(0, 3), (1, 9), (2, 22), (3, 22), (4, 9), (5, 23)], 6, 112, [.int .i64 0, .str [], .nils, .nils, .str [], .nils]⟩) ∧
    (TT 25 = ⟨.struct [(0, 3), (1, 9), (2, 22), (3, 22), (4, 9), (5, 23)], 6, 112, [.int .i64 0, .str [], .nils, .nils, .str [], .nils]⟩) ∧
    (TT 26 = ⟨.func, 1, 8, [.nilf]⟩) ∧
    (TT 27 = ⟨.slice 38, 1, 24, [.nils]⟩) ∧
    (TT 28 = ⟨.int .i64, 1, 8, [.int .i64 0]⟩) ∧
    (TT 30 = ⟨.func, 1, 8, [.nilf]⟩) ∧
    (TT 31 = ⟨.func, 1, 8, [.nilf]⟩) ∧
    (TT 32 = ⟨.func, 1, 8, [.nilf]⟩) ∧
    (TT 33 = ⟨.func, 1, 8, [.nilf]⟩) ∧
    (TT 34 = ⟨.func, 1, 8, [.nilf]⟩) ∧
    (TT 35 = ⟨.func, 1, 8, [.nilf]⟩) ∧
    (TT 36 = ⟨.func, 1, 8, [.nilf]⟩) ∧
    (TT 37 = ⟨.struct [(0, 9), (1, 9)], 2, 32, [.str [], .str []]⟩) ∧
    (TT 38 = ⟨.struct [(0, 9), (1, 9)], 2, 32, [.str [], .str []]⟩) ∧
    (TT 39 = ⟨.func, 1, 8, [.nilf]⟩) ∧
    (TT 40 = ⟨.func, 1, 8, [.nilf]⟩) ∧
    (TT 41 = ⟨.func, 1, 8, [.nilf]⟩) ∧
    (TT 42 = ⟨.func, 1, 8, [.nilf]⟩) ∧
    (TT 43 = ⟨.func, 1, 8, [.nilf]⟩) ∧
    (TT 44 = ⟨.slice 64, 1, 24, [.nils]⟩) ∧
    (TT 45 = ⟨.struct [(0, 28), (1, 3)], 2, 16, [.int .i64 0, .int .i64 0]⟩) ∧
    (TT 46 = ⟨.struct [(0, 28), (1, 3)], 2, 16, [.int .i64 0, .int .i64 0]⟩) ∧
    (TT 48 = ⟨.func, 1, 8, [.nilf]⟩) ∧
    (TT 49 = ⟨.func, 1, 8, [.nilf]⟩) ∧
    (TT 50 = ⟨.func, 1, 8, [.nilf]⟩) ∧
    (TT 51 = ⟨.func, 1, 8, [.nilf]⟩) ∧
    (TT 52 = ⟨.func, 1, 8, [.nilf]⟩) ∧
    (TT 53 = ⟨.func, 1, 8, [.nilf]⟩) ∧
    (TT 54 = ⟨.ptr 25, 1, 8, [.nilp]⟩) ∧
    (TT 55 = ⟨.map 9 9, 1, 8, [.nilm]⟩) ∧
    (TT 56 = ⟨.map 9 9, 1, 8, [.nilm]⟩) ∧
    (TT 59 = ⟨.func, 1, 8, [.nilf]⟩) ∧
    (TT 60 = ⟨.func, 1, 8, [.nilf]⟩) ∧
    (TT 61 = ⟨.slice 5, 1, 24, [.nils]⟩) ∧
    (TT 62 = ⟨.func, 1, 8, [.nilf]⟩) ∧
    (TT 63 = ⟨.struct [(0, 9), (1, 9), (2, 9)], 3, 48, [.str [], .str [], .str []]⟩) ∧
    (TT 64 = ⟨.struct [(0, 9), (1, 9), (2, 9)], 3, 48, [.str [], .str [], .str []]⟩) ∧
    (TT 66 = ⟨.func, 1, 8, [.nilf]⟩) ∧
    (TT 67 = ⟨.func, 1, 8, [.nilf]⟩) ∧
    (TT 68 = ⟨.func, 1, 8, [.nilf]⟩) ∧
    (TT 69 = ⟨.func, 1, 8, [.nilf]⟩) ∧
    (TT 70 = ⟨.func, 1, 8, [.nilf]⟩) ∧
    (TT 71 = ⟨.func, 1, 8, [.nilf]⟩) ∧
    (TT 72 = ⟨.func, 1, 8, [.nilf]⟩) ∧
    (TT 73 = ⟨.func, 1, 8, [.nilf]⟩) ∧
    (TT 74 = ⟨.func, 1, 8, [.nilf]⟩) ∧
    (TT 75 = ⟨.func, 1, 8, [.nilf]⟩) ∧
    (TT 76 = ⟨.int .u64, 1, 8, [.int .u64 0]⟩) ∧
    (TT 77 = ⟨.func, 1, 8, [.nilf]⟩) ∧
    (TT 78 = ⟨.func, 1, 8, [.nilf]⟩) ∧
    (TT 79 = ⟨.func, 1, 8, [.nilf]⟩) ∧
    (TT 80 = ⟨.func, 1, 8, [.nilf]⟩) ∧
    (TT 81 = ⟨.func, 1, 8, [.nilf]⟩) ∧
    (TT 82 = ⟨.func, 1, 8, [.nilf]⟩) ∧
    (TT 83 = ⟨.func, 1, 8, [.nilf]⟩) ∧
    (TT 84 = ⟨.int .i64, 1, 8, [.int .i64 0]⟩) ∧
    (TT 86 = ⟨.func, 1, 8, [.nilf]⟩) ∧
    (TT 87 = ⟨.func, 1, 8, [.nilf]⟩) ∧
    (TT 88 = ⟨.func, 1, 8, [.nilf]⟩) ∧
    (TT 89 = ⟨.func, 1, 8, [.nilf]⟩) ∧
    (TT 90 = ⟨.func, 1, 8, [.nilf]⟩) ∧
    (TT 91 = ⟨.int .u32, 1, 4, [.int .u32 0]⟩) ∧
    (TT 92 = ⟨.func, 1, 8, [.nilf]⟩) ∧
    (TT 93 = ⟨.int .u64, 1, 8, [.int .u64 0]⟩) ∧
    (TT 94 = ⟨.func, 1, 8, [.nilf]⟩) ∧
    (TT 95 = ⟨.func, 1, 8, [.nilf]⟩) ∧
    (TT 96 = ⟨.int .u64, 1, 8, [.int .u64 0]⟩) ∧
    (TT 97 = ⟨.func, 1, 8, [.nilf]⟩) ∧
    (TT 98 = ⟨.func, 1, 8, [.nilf]⟩) ∧
    (TT 99 = ⟨.func, 1, 8, [.nilf]⟩) ∧
    (TT 100 = ⟨.ptr 3, 1, 8, [.nilp]⟩) ∧
    (TT 101 = ⟨.func, 1, 8, [.nilf]⟩) ∧
    (TT 102 = ⟨.ptr 96, 1, 8, [.nilp]⟩) ∧
    (TT 104 = ⟨.func, 1, 8, [.nilf]⟩) ∧
    (TT 105 = ⟨.func, 1, 8, [.nilf]⟩) ∧
    (TT 111 = ⟨.func, 1, 8, [.nilf]⟩) ∧
    (TT 112 = ⟨.int .u8, 1, 1, [.int .u8 0]⟩) ∧
    (TT 113 = ⟨.int .u8, 1, 1, [.int .u8 0]⟩) ∧
    (TT 114 = ⟨.func, 1, 8, [.nilf]⟩) ∧
    (TT 115 = ⟨.ptr 5, 1, 8, [.nilp]⟩) ∧
    (TT 116 = ⟨.int .i32, 1, 4, [.int .i32 0]⟩) ∧
    (TT 117 = ⟨.int .i32, 1, 4, [.int .i32 0]⟩) := by
  refine ⟨rfl, rfl, rfl, rfl, rfl, rfl, rfl, rfl, rfl, rfl, rfl, rfl, rfl, rfl, rfl, rfl, rfl, rfl, rfl, rfl, rfl, rfl, rfl, rfl, rfl, rfl, rfl, rfl, rfl, rfl, rfl, rfl, rfl, rfl, rfl, rfl, rfl, rfl, rfl, rfl, rfl, rfl, rfl, rfl, rfl, rfl, rfl, rfl, rfl, rfl, rfl, rfl, rfl, rfl, rfl, rfl, rfl, rfl, rfl, rfl, rfl, rfl, rfl, rfl, rfl, rfl, rfl, rfl, rfl, rfl, rfl, rfl, rfl, rfl, rfl, rfl, rfl, rfl, rfl, rfl, rfl, rfl, rfl, rfl, rfl, rfl, rfl, rfl, rfl, rfl, rfl, rfl, rfl, rfl, rfl, rfl, rfl, rfl, rfl, rfl, rfl⟩

theorem TT_ok : Tab Try.prog TT := by
  intro t h
  unfold TT at h ⊢
  cases ht : tab[t]? with
  | none => rw [ht] at h; exact absurd rfl h
  | some i =>
    rw [ht] at h
    have := rowsOk_get tab 0 t i rows_ok ht h
    simpa using this
theorem TT_mixed : Try.prog.follows .mixedOrders = true := by kernel_rfl
end Go.Proofs.Ytakcdeihljojiaa.Gw

namespace Go.Proofs.Ytakcdeihljojiaa.Gx
open Go Go.Proofs.Ytakcdeihljojiaa.Gw
set_option linter.unusedSimpArgs false
set_option linter.unusedVariables false

abbrev Str := List UInt8
def encS (l : List Str) : V := .lst 1 none (l.map fun s => [.str s])

-- strings.IndexByte: the model's own entry stands where the library has no body
set_option maxHeartbeats 1000000 in
set_option maxRecDepth 100000 in
theorem r_IndexByte (s : ByteArray) (c : Int) (w : World) :
    Calls Try.prog 57 #[.string s, .int .u8 c] w fun e w' => e = .returned (.int .i64 (Lib.indexByte s.data.toList c.toNat.toUInt8)) ∧ w' = w := by
  go_enter Try.func57, Try.ntmps57
  go_wp2
  rw [run_callFunc_extern Try.func70 (by kernel_rfl) (by kernel_rfl) (by kernel_rfl) (e := Extern.BytealgIndexByte.indexByte) (by kernel_rfl), Lib.run_indexByteString]
  simp only [Result.andThen]
  rw [Oper.upon_value]
  go_wp2
  go_ret
  exact ⟨rfl, rfl⟩
theorem c_IndexByte0 (st : St) (s : Str) (c : Int) : VCalls Try.prog TT 57 [.str s, .int .u8 c] st fun r st' => r = .ret (.int .i64 (Lib.indexByte s c.toNat.toUInt8)) ∧ st' = st := by
  refine VCalls.ofReal ⟨_, Try.func57, by kernel_rfl, by kernel_rfl⟩ fun g w vals h => ?_
  simp only [SimVs, SimV] at h
  obtain ⟨_, _, rfl, ⟨rfl, _⟩, _, _, rfl, rfl, rfl⟩ := h
  exact ⟨_, by simp only [SimV], r_IndexByte ⟨s.toArray⟩ c w⟩
theorem c_IndexByte (st : St) (s : Str) (c : Int) : VCalls Try.prog TT 51 [.str s, .int .u8 c] st fun r st' => r = .ret (.int .i64 (Lib.indexByte s c.toNat.toUInt8)) ∧ st' = st := by
  refine vfun TT_ok (an := anL []) (L := [0, 1, 4]) (rs := [.tmp 4]) Try.func51 rfl (by kernel_rfl) rfl Try.ntmps51 rfl rfl (Nat.le_refl _) fun hst ha hf => ?_
  simp only [gwL, gwB, gwD, gwE, gwS, gwTT, gwZ, gwN, gwC, Nat.reduceEqDiff, ↓reduceIte, Nat.reduceAdd, Nat.reduceLT, Nat.reduceLeDiff, Nat.reduceMul]
  refine (c_IndexByte0 st s c).use (wkL_refl _) fun _ => ?_
  simp only [gwL, gwB, gwD, gwE, gwS, gwTT, gwZ, gwN, gwC, Nat.reduceEqDiff, ↓reduceIte, Nat.reduceAdd, Nat.reduceLT, Nat.reduceLeDiff, Nat.reduceMul]
  exact gives_int rfl hst

-- slices.Index, slices.Contains
def idxOf (s : Str) : Nat → List Str → Int
  | _, [] => -1
  | i, a :: r => bif decide (s = a) then (i : Int) else idxOf s (i + 1) r
theorem c_Index (st : St) (l : List Str) (s : Str) : VCalls Try.prog TT 43 [encS l, .str s] st fun r st' => r = .ret (.int .i64 (idxOf s 0 l)) ∧ st' = st := by
  refine vfun TT_ok (an := anL []) (L := [0, 1, 4, 5, 7, 8]) (rs := [.tmp 4]) Try.func43 rfl (by kernel_rfl) rfl Try.ntmps43 rfl rfl (Nat.le_refl _) fun hst ha hf => ?_
  simp only [encS, fitL, V.fit, List.length_map] at hf
  simp only [encS]
  simp only [gwL, gwB, gwD, gwE, gwS, gwTT, gwZ, gwN, gwC, Nat.reduceEqDiff, ↓reduceIte, Nat.reduceAdd, Nat.reduceLT, Nat.reduceLeDiff, Nat.reduceMul, List.length_map]
  refine vfor (σ := Nat) [0, 1, 4, 7, 8] (fun i => [(0, true, encS l), (1, true, .str s), (4, true, .int .i64 0), (7, true, .int .i64 l.length), (8, true, .int .i64 i)]) (fun i => st) (fun i => l.length - i) (fun i => i ≤ l.length ∧ idxOf s 0 l = idxOf s i (l.drop i)) 0 rfl TT_ok ⟨Nat.zero_le _, rfl⟩ rfl rfl ?_
  rintro i ⟨hi, hx⟩
  rw [hx]
  rcases at_or_end l i hi with ⟨rfl, hd⟩ | ⟨a, hlt, hget, hdr⟩
  · simp only [gwL, gwB, gwD, gwE, gwS, gwTT, gwZ, gwN, gwC, Nat.reduceEqDiff, ↓reduceIte, Nat.reduceAdd, Nat.reduceLT, Nat.reduceLeDiff, Nat.reduceMul, lt_no, hd, idxOf]
    exact gives_int rfl hst
  · simp only [encS]
    simp only [gwL, gwB, gwD, gwE, gwS, gwTT, gwZ, gwN, gwC, Nat.reduceEqDiff, ↓reduceIte, Nat.reduceAdd, Nat.reduceLT, Nat.reduceLeDiff, Nat.reduceMul, lt_yes hlt, hdr, idxOf, List.length_map, getD_map hget, Int.ofNat_lt.mpr hlt]
    refine iK_split (fun h => ?_) (fun h => ?_)
    · simp only [gwL, gwB, gwD, gwE, gwS, gwTT, gwZ, gwN, gwC, Nat.reduceEqDiff, ↓reduceIte, Nat.reduceAdd, Nat.reduceLT, Nat.reduceLeDiff, Nat.reduceMul, h]
      exact gives_int rfl hst
    · simp only [gwL, gwB, gwD, gwE, gwS, gwTT, gwZ, gwN, gwC, Nat.reduceEqDiff, ↓reduceIte, Nat.reduceAdd, Nat.reduceLT, Nat.reduceLeDiff, Nat.reduceMul, h, Env.keep]
      exact ⟨i + 1, by rw [next_i64 hlt hf.1.1], by omega, hlt, rfl⟩
theorem idxOf_ge (s : Str) : ∀ (l : List Str) (i : Nat), decide (0 ≤ idxOf s i l) = decide (s ∈ l)
  | [], i => by simp [idxOf]
  | a :: r, i => by
    have := idxOf_ge s r (i + 1)
    by_cases h : s = a
    · subst h; simp [idxOf]
    · simp only [idxOf, h, decide_false, cond_false, this, List.mem_cons, false_or]
-- strings.HasPrefix, TrimPrefix
def hasPre (s p : Str) : Bool := decide (p.length ≤ s.length) && decide (s.take p.length = p)
theorem c_HasPrefix (st : St) (s p : Str) : VCalls Try.prog TT 71 [.str s, .str p] st fun r st' => r = .ret (.bool (hasPre s p)) ∧ st' = st := by
  refine vfun TT_ok (an := anL []) (L := [0, 1, 4]) (rs := [.tmp 4]) Try.func71 rfl (by kernel_rfl) rfl Try.ntmps71 rfl rfl (Nat.le_refl _) fun hst ha hf => ?_
  simp only [gwL, gwB, gwD, gwE, gwS, gwTT, gwZ, gwN, gwC, Nat.reduceEqDiff, ↓reduceIte, Nat.reduceAdd, Nat.reduceLT, Nat.reduceLeDiff, Nat.reduceMul, Int.ofNat_le, Int.toNat_natCast]
  refine ⟨fun h => of_decide_eq_true h, gives_bool ?_ hst⟩
  rfl
def trimPre (s p : Str) : Str := bif hasPre s p then s.drop p.length else s
theorem c_TrimPrefix0 (st : St) (s p : Str) : VCalls Try.prog TT 58 [.str s, .str p] st fun r st' => r = .ret (.str (trimPre s p)) ∧ st' = st := by
  refine vfun TT_ok (an := anL []) (L := [0, 1, 4]) (rs := [.tmp 4]) Try.func58 rfl (by kernel_rfl) rfl Try.ntmps58 rfl rfl (Nat.le_refl _) fun hst ha hf => ?_
  simp only [gwL, gwB, gwD, gwE, gwS, gwTT, gwZ, gwN, gwC, Nat.reduceEqDiff, ↓reduceIte, Nat.reduceAdd, Nat.reduceLT, Nat.reduceLeDiff, Nat.reduceMul, List.length_nil]
  refine (c_HasPrefix st s p).use (wkL_refl _) fun _ => ?_
  simp only [gwL, gwB, gwD, gwE, gwS, gwTT, gwZ, gwN, gwC, Nat.reduceEqDiff, ↓reduceIte, Nat.reduceAdd, Nat.reduceLT, Nat.reduceLeDiff, Nat.reduceMul]
  refine iK_split (fun h => ?_) (fun h => ?_)
  · have h2 : p.length ≤ s.length := by simp only [hasPre, Bool.and_eq_true, decide_eq_true_eq] at h; exact h.1
    simp only [gwL, gwB, gwD, gwE, gwS, gwTT, gwZ, gwN, gwC, Nat.reduceEqDiff, ↓reduceIte, Nat.reduceAdd, Nat.reduceLT, Nat.reduceLeDiff, Nat.reduceMul, Int.ofNat_le, Int.toNat_natCast]
    exact ⟨h2, gives_str (by simp [trimPre, h]) hst⟩
  · simp only [gwL, gwB, gwD, gwE, gwS, gwTT, gwZ, gwN, gwC, Nat.reduceEqDiff, ↓reduceIte, Nat.reduceAdd, Nat.reduceLT, Nat.reduceLeDiff, Nat.reduceMul]
    exact gives_str (by simp [trimPre, h]) hst
theorem c_TrimPrefix (st : St) (s p : Str) : VCalls Try.prog TT 52 [.str s, .str p] st fun r st' => r = .ret (.str (trimPre s p)) ∧ st' = st := by
  refine vfun TT_ok (an := anL []) (L := [0, 1, 4]) (rs := [.tmp 4]) Try.func52 rfl (by kernel_rfl) rfl Try.ntmps52 rfl rfl (Nat.le_refl _) fun hst ha hf => ?_
  simp only [gwL, gwB, gwD, gwE, gwS, gwTT, gwZ, gwN, gwC, Nat.reduceEqDiff, ↓reduceIte, Nat.reduceAdd, Nat.reduceLT, Nat.reduceLeDiff, Nat.reduceMul, List.length_nil]
  refine (c_TrimPrefix0 st s p).use (wkL_refl _) fun _ => ?_
  simp only [gwL, gwB, gwD, gwE, gwS, gwTT, gwZ, gwN, gwC, Nat.reduceEqDiff, ↓reduceIte, Nat.reduceAdd, Nat.reduceLT, Nat.reduceLeDiff, Nat.reduceMul]
  exact gives_str rfl hst

-- letters and names
def letters : Str := [97, 98, 99, 100, 101, 102, 103, 104, 105, 106, 107, 108, 109, 110, 111, 112, 113, 114, 115, 116, 117, 118, 119, 120, 121, 122, 48, 49, 50, 51, 52, 53, 54, 55, 56, 57, 33, 63, 42, 43, 45, 47, 60, 61, 62, 95, 46]
def letterB (b : UInt8) : Bool := letters.contains b
theorem all_bytes {p : UInt8 → Bool} (h : (List.range 256).all (fun n => p (UInt8.ofNat n)) = true) (b : UInt8) : p b = true := by
  have := List.all_eq_true.1 h b.toNat (by simpa using b.toNat_lt)
  simpa using this
theorem c_letter (st : St) (b : UInt8) : VCalls Try.prog TT 40 [.int .u8 b.toNat] st fun r st' => r = .ret (.bool (letterB b)) ∧ st' = st := by
  refine vfun TT_ok (an := anL []) (L := [0, 2]) (rs := [.tmp 2]) Try.func40 rfl (by kernel_rfl) rfl Try.ntmps40 rfl rfl (Nat.le_refl _) fun hst ha hf => ?_
  simp only [gwL, gwB, gwD, gwE, gwS, gwTT, gwZ, gwN, gwC, Nat.reduceEqDiff, ↓reduceIte, Nat.reduceAdd, Nat.reduceLT, Nat.reduceLeDiff, Nat.reduceMul]
  refine ⟨by cases decide (97 ≤ (b.toNat : Int)) <;> cases decide ((b.toNat : Int) ≤ 122) <;> simp, ?_⟩
  refine rK_guarded (.int .i64 (Lib.indexByte [33, 63, 42, 43, 45, 47, 60, 61, 62, 95, 46] b)) (fun _ => ?_) ?_
  · have := c_IndexByte st [33, 63, 42, 43, 45, 47, 60, 61, 62, 95, 46] b.toNat
    simpa using this
  simp only [gwL, gwB, gwD, gwE, gwS, gwTT, gwZ, gwN, gwC, Nat.reduceEqDiff, ↓reduceIte, Nat.reduceAdd, Nat.reduceLT, Nat.reduceLeDiff, Nat.reduceMul]
  refine gives_bool ?_ hst
  refine of_decide_eq_true (all_bytes (p := fun b => decide ((((decide (97 ≤ (b.toNat : Int)) && decide ((b.toNat : Int) ≤ 122)) || (decide (48 ≤ (b.toNat : Int)) && decide ((b.toNat : Int) ≤ 57))) || decide (0 ≤ Lib.indexByte [33, 63, 42, 43, 45, 47, 60, 61, 62, 95, 46] b)) = letterB b)) (by kernel_rfl) b)
end Go.Proofs.Ytakcdeihljojiaa.Gx

namespace Go.Proofs.Ytakcdeihljojiaa.Gx
open Go Go.Proofs.Ytakcdeihljojiaa.Gw
set_option linter.unusedSimpArgs false
set_option linter.unusedVariables false

theorem c_Letter (st : St) (b : UInt8) : VCalls Try.prog TT 30 [.int .u8 b.toNat] st fun r st' => r = .ret (.bool (letterB b)) ∧ st' = st := by
  refine vfun TT_ok (an := anL [(5, 1)]) (L := [0, 2, 4, 6, 7, 8]) (rs := [.tmp 2]) Try.func30 rfl (by kernel_rfl) rfl Try.ntmps30 rfl rfl (Nat.le_refl _) fun hst ha hf => ?_
  simp only [decide_true, decide_false, gwL, gwB, gwD, gwE, gwS, gwTT, gwZ, initG, Nat.reduceEqDiff, ↓reduceIte, Nat.reduceAdd, Nat.reduceLT, Nat.reduceLeDiff, List.map_cons, List.map_nil, builtS, builtinV, pureR, binV, aggEq, eqFs, eqCell, Option.bind_some, Option.map_some, and_self, List.headD_cons, sliceV, pickV, evO, Env.look, find, V.ofConst, resV, resOne, tupV, loadV, fillV, buildV, mkIface, litS, litRows, List.reverse_cons, List.reverse_nil, Nat.reduceMul, appS, memA, appendV, rowsOf, V.cells, TI.sized, TI.known, TI.agg, anL, List.length_cons, List.length_nil, List.append_nil, List.cons_append, List.nil_append, List.drop_succ_cons, List.drop_zero, List.drop_nil, List.take_succ_cons, List.take_zero, List.take_nil, List.getElem?_cons_zero, List.getElem?_cons_succ, List.all_cons, List.all_nil, List.replicate_succ, List.replicate_zero, List.set_cons_zero, List.set_cons_succ, eq_self, true_or, ne_eq, not_false_eq_true, Nat.reduceEqDiff]
  refine rK_lit (byteRows letters) (by kernel_rfl) ?_
  simp only [decide_true, decide_false, gwL, gwB, gwD, gwE, gwS, gwTT, gwZ, initG, Nat.reduceEqDiff, ↓reduceIte, Nat.reduceAdd, Nat.reduceLT, Nat.reduceLeDiff, List.map_cons, List.map_nil, builtS, builtinV, pureR, binV, aggEq, eqFs, eqCell, Option.bind_some, Option.map_some, and_self, List.headD_cons, sliceV, pickV, evO, Env.look, find, V.ofConst, resV, resOne, tupV, loadV, fillV, buildV, mkIface, litM, litS, litRows, List.reverse_cons, List.reverse_nil, Nat.reduceMul, appS, memA, appendV, rowsOf, V.cells, TI.sized, TI.known, TI.agg, anL, List.length_cons, List.length_nil, List.append_nil, List.cons_append, List.nil_append, List.drop_succ_cons, List.drop_zero, List.drop_nil, List.take_succ_cons, List.take_zero, List.take_nil, List.getElem?_cons_zero, List.getElem?_cons_succ, List.all_cons, List.all_nil, List.replicate_succ, List.replicate_zero, List.set_cons_zero, List.set_cons_succ, eq_self, true_or, ne_eq, not_false_eq_true, Nat.reduceEqDiff, convV, Nat.lt_irrefl]
  refine ⟨rfl, ?_⟩
  have hll : (byteRows letters).length = letters.length := by simp [byteRows]
  refine vfor (σ := Nat) [0, 2, 6, 7, 8] (fun i => [(0, true, .int .u8 b.toNat), (2, true, .bool false), (6, true, .lst 1 none (byteRows letters)), (7, true, .int .i64 (byteRows letters).length), (8, true, .int .i64 i)]) (fun i => st ++ [.gone]) (fun i => letters.length - i) (fun i => i ≤ letters.length ∧ letterB b = (letters.drop i).contains b) 0 rfl TT_ok ⟨Nat.zero_le _, rfl⟩ rfl rfl ?_
  rintro i ⟨hi, hx⟩
  rw [hx]
  rcases at_or_end letters i hi with ⟨rfl, hd⟩ | ⟨a, hlt, hget, hdr⟩
  · rw [hll]
    simp only [gwL, gwB, gwD, gwE, gwS, gwTT, gwZ, gwN, gwC, Nat.reduceEqDiff, ↓reduceIte, Nat.reduceAdd, Nat.reduceLT, Nat.reduceLeDiff, Nat.reduceMul, lt_no, hd]
    exact gives_bool' (by simp) hst
  · rw [hll]
    have hg : (byteRows letters).getD i [] = [V.int .u8 a.toNat] := getD_map hget
    simp only [gwL, gwB, gwD, gwE, gwS, gwTT, gwZ, gwN, gwC, Nat.reduceEqDiff, ↓reduceIte, Nat.reduceAdd, Nat.reduceLT, Nat.reduceLeDiff, Nat.reduceMul, lt_yes hlt, hdr, hll, hg, Int.ofNat_lt.mpr hlt]
    refine iK_split (fun h => ?_) (fun h => ?_)
    · have h' : a = b := UInt8.toNat_inj.mp (by simpa [Int.natCast_inj] using h)
      simp only [gwL, gwB, gwD, gwE, gwS, gwTT, gwZ, gwN, gwC, Nat.reduceEqDiff, ↓reduceIte, Nat.reduceAdd, Nat.reduceLT, Nat.reduceLeDiff, Nat.reduceMul]
      exact gives_bool' (by simp [h']) hst
    · have h' : ¬ a = b := fun e => by simp [e] at h
      simp only [gwL, gwB, gwD, gwE, gwS, gwTT, gwZ, gwN, gwC, Nat.reduceEqDiff, ↓reduceIte, Nat.reduceAdd, Nat.reduceLT, Nat.reduceLeDiff, Nat.reduceMul, Env.keep]
      have h'' : ¬ b = a := fun e => h' e.symm
      exact ⟨i + 1, by rw [next_i64 hlt (by decide)], by omega, hlt, by simp [List.contains_cons, h'']⟩

def digits : Str → Bool := fun s => s.all fun b => decide (48 ≤ b.toNat) && decide (b.toNat ≤ 57)
/-- Does a text look like a number? -/
def looksB (s : Str) : Bool := (match s with | 45 :: r => digits r && !r.isEmpty | r => digits r && !r.isEmpty)
theorem trimPre_minus (s : Str) : (digits (trimPre s [45]) && !(trimPre s [45]).isEmpty) = looksB s := by
  unfold trimPre hasPre looksB
  cases s with
  | nil => rfl
  | cons a r =>
    by_cases h : a = 45
    · subst h; simp
    · simp only [List.take_succ_cons, List.take_zero, List.length_cons, List.length_nil]
      simp [h]
theorem c_number (st : St) (s : Str) : VCalls Try.prog TT 41 [.str s] st fun r st' => r = .ret (.bool (looksB s)) ∧ st' = st := by
  refine vfun TT_ok (an := anL []) (L := [0, 2, 3, 7, 8]) (rs := [.tmp 2]) Try.func41 rfl (by kernel_rfl) rfl Try.ntmps41 rfl rfl (Nat.le_refl _) fun hst ha hf => ?_
  simp only [gwL, gwB, gwD, gwE, gwS, gwTT, gwZ, gwN, gwC, Nat.reduceEqDiff, ↓reduceIte, Nat.reduceAdd, Nat.reduceLT, Nat.reduceLeDiff, Nat.reduceMul]
  refine (c_TrimPrefix st s [45]).use (wkL_refl _) fun hfx => ?_
  rw [← trimPre_minus s]
  simp only [V.fit] at hfx
  generalize trimPre s [45] = t at hfx ⊢
  simp only [gwL, gwB, gwD, gwE, gwS, gwTT, gwZ, gwN, gwC, Nat.reduceEqDiff, ↓reduceIte, Nat.reduceAdd, Nat.reduceLT, Nat.reduceLeDiff, Nat.reduceMul]
  refine vfor (σ := Nat) [0, 2, 7, 8] (fun i => [(0, true, .str t), (2, true, .bool false), (7, true, .int .i64 t.length), (8, true, .int .i64 i)]) (fun i => st) (fun i => t.length - i) (fun i => i ≤ t.length ∧ digits t = digits (t.drop i)) 0 rfl TT_ok ⟨Nat.zero_le _, rfl⟩ rfl rfl ?_
  rintro i ⟨hi, hx⟩
  rw [hx]
  rcases at_or_end t i hi with ⟨rfl, hd⟩ | ⟨a, hlt, hget, hdr⟩
  · simp only [gwL, gwB, gwD, gwE, gwS, gwTT, gwZ, gwN, gwC, Nat.reduceEqDiff, ↓reduceIte, Nat.reduceAdd, Nat.reduceLT, Nat.reduceLeDiff, Nat.reduceMul, lt_no, hd]
    exact gives_bool (by cases t <;> simp [digits]) hst
  · simp only [gwL, gwB, gwD, gwE, gwS, gwTT, gwZ, gwN, gwC, Nat.reduceEqDiff, ↓reduceIte, Nat.reduceAdd, Nat.reduceLT, Nat.reduceLeDiff, Nat.reduceMul, lt_yes hlt, hdr, getD_at hget, Int.ofNat_lt.mpr hlt]
    refine iK_split (fun h => ?_) (fun h => ?_)
    · simp only [gwL, gwB, gwD, gwE, gwS, gwTT, gwZ, gwN, gwC, Nat.reduceEqDiff, ↓reduceIte, Nat.reduceAdd, Nat.reduceLT, Nat.reduceLeDiff, Nat.reduceMul]
      refine gives_bool ?_ hst
      have : ¬ (48 ≤ a.toNat ∧ a.toNat ≤ 57) := by
        intro ⟨h1, h2⟩
        have e1 : decide ((a.toNat : Int) < 48) = false := by simp; omega
        have e2 : decide (57 < (a.toNat : Int)) = false := by simp; omega
        rw [e1, e2] at h; cases h
      simp only [digits, List.all_cons]
      rcases Nat.lt_or_ge a.toNat 48 with h1 | h1
      · simp [show ¬ 48 ≤ a.toNat by omega]
      · simp [show ¬ a.toNat ≤ 57 by omega]
    · have : 48 ≤ a.toNat ∧ a.toNat ≤ 57 := by
        constructor
        · refine Nat.le_of_not_lt fun h1 => ?_
          have e1 : decide ((a.toNat : Int) < 48) = true := by simp; omega
          rw [e1] at h; cases h
        · refine Nat.le_of_not_lt fun h1 => ?_
          have e2 : decide (57 < (a.toNat : Int)) = true := by simp; omega
          rw [e2] at h; revert h; cases decide ((a.toNat : Int) < 48) <;> simp
      simp only [gwL, gwB, gwD, gwE, gwS, gwTT, gwZ, gwN, gwC, Nat.reduceEqDiff, ↓reduceIte, Nat.reduceAdd, Nat.reduceLT, Nat.reduceLeDiff, Nat.reduceMul, Env.keep]
      exact ⟨i + 1, by rw [next_i64 hlt hfx], by omega, hlt, by simp [digits, this]⟩

theorem digit_yes {a : UInt8} (h : (decide ((a.toNat : Int) < 48) || decide (57 < (a.toNat : Int))) = true) : ∀ r, digits (a :: r) = false := by
  intro r
  simp only [digits, List.all_cons]
  rcases Nat.lt_or_ge a.toNat 48 with h1 | h1
  · simp [show ¬ 48 ≤ a.toNat by omega]
  · have e1 : decide ((a.toNat : Int) < 48) = false := by simp; omega
    rw [e1] at h
    have h2 : 57 < a.toNat := by simp only [Bool.false_or, decide_eq_true_eq] at h; omega
    simp [show ¬ a.toNat ≤ 57 by omega]
theorem digit_no {a : UInt8} (h : (decide ((a.toNat : Int) < 48) || decide (57 < (a.toNat : Int))) = false) : ∀ r, digits (a :: r) = digits r := by
  intro r
  have : 48 ≤ a.toNat ∧ a.toNat ≤ 57 := by
    constructor
    · refine Nat.le_of_not_lt fun h1 => ?_
      have e1 : decide ((a.toNat : Int) < 48) = true := by simp; omega
      rw [e1] at h; cases h
    · refine Nat.le_of_not_lt fun h1 => ?_
      have e2 : decide (57 < (a.toNat : Int)) = true := by simp; omega
      rw [e2] at h; revert h; cases decide ((a.toNat : Int) < 48) <;> simp
  simp [digits, this]
theorem c_Looks (st : St) (s : Str) : VCalls Try.prog TT 31 [.str s] st fun r st' => r = .ret (.bool (looksB s)) ∧ st' = st := by
  refine vfun TT_ok (an := anL []) (L := [0, 2, 4, 16, 17, 18]) (rs := [.tmp 2]) Try.func31 rfl (by kernel_rfl) rfl Try.ntmps31 rfl rfl (Nat.le_refl _) fun hst ha hf => ?_
  simp only [fitL, V.fit] at hf
  simp only [gwL, gwB, gwD, gwE, gwS, gwTT, gwZ, gwN, gwC, Nat.reduceEqDiff, ↓reduceIte, Nat.reduceAdd, Nat.reduceLT, Nat.reduceLeDiff, Nat.reduceMul]
  refine ⟨fun h => ⟨Int.le_refl _, of_decide_eq_true h⟩, iK_split (fun h => ?_) (fun h => ?_)⟩
  · have hs : ∃ r, s = 45 :: r := by
      cases s with
      | nil => simp at h
      | cons a r =>
        have : a = 45 := UInt8.toNat_inj.mp (by simp at h; show a.toNat = 45; omega)
        exact ⟨r, by rw [this]⟩
    obtain ⟨r, rfl⟩ := hs
    have e : looksB (45 :: r) = (digits r && !r.isEmpty) := rfl
    have hl : r.length ≤ 9223372036854775807 := by have := hf.1; simp at this; omega
    rw [e]
    simp only [gwL, gwB, gwD, gwE, gwS, gwTT, gwZ, gwN, gwC, Nat.reduceEqDiff, ↓reduceIte, Nat.reduceAdd, Nat.reduceLT, Nat.reduceLeDiff, Nat.reduceMul, convV, List.drop_succ_cons, List.drop_zero, Int.toNat_one]
    clear e hf ha h
    generalize r = t at hl ⊢
    refine ⟨⟨by omega, by omega⟩, ?_⟩
    have hll : (byteRows t).length = t.length := by simp [byteRows]
    refine vfor (σ := Nat) [0, 2, 16, 17, 18] (fun i => [(0, true, .str t), (2, true, .bool false), (16, true, .lst 1 none (byteRows t)), (17, true, .int .i64 (byteRows t).length), (18, true, .int .i64 i)]) (fun i => st) (fun i => t.length - i) (fun i => i ≤ t.length ∧ digits t = digits (t.drop i)) 0 rfl TT_ok ⟨Nat.zero_le _, rfl⟩ rfl rfl ?_
    rintro i ⟨hi, hx⟩
    rw [hx]
    rcases at_or_end t i hi with ⟨rfl, hd⟩ | ⟨a, hlt, hget, hdr⟩
    · rw [hll]
      simp only [gwL, gwB, gwD, gwE, gwS, gwTT, gwZ, gwN, gwC, Nat.reduceEqDiff, ↓reduceIte, Nat.reduceAdd, Nat.reduceLT, Nat.reduceLeDiff, Nat.reduceMul, lt_no, hd]
      exact gives_bool (by cases t <;> simp [digits]) hst
    · rw [hll]
      have hg : (byteRows t).getD i [] = [V.int .u8 a.toNat] := getD_map hget
      simp only [gwL, gwB, gwD, gwE, gwS, gwTT, gwZ, gwN, gwC, Nat.reduceEqDiff, ↓reduceIte, Nat.reduceAdd, Nat.reduceLT, Nat.reduceLeDiff, Nat.reduceMul, lt_yes hlt, hdr, hll, hg, Int.ofNat_lt.mpr hlt]
      refine iK_split (fun h => ?_) (fun h => ?_)
      · simp only [gwL, gwB, gwD, gwE, gwS, gwTT, gwZ, gwN, gwC, Nat.reduceEqDiff, ↓reduceIte, Nat.reduceAdd, Nat.reduceLT, Nat.reduceLeDiff, Nat.reduceMul]
        exact gives_bool (by rw [digit_yes h]; rfl) hst
      · simp only [gwL, gwB, gwD, gwE, gwS, gwTT, gwZ, gwN, gwC, Nat.reduceEqDiff, ↓reduceIte, Nat.reduceAdd, Nat.reduceLT, Nat.reduceLeDiff, Nat.reduceMul, Env.keep]
        exact ⟨i + 1, by rw [next_i64 hlt hl], by omega, hlt, digit_no h _⟩
  · have e : looksB s = (digits s && !s.isEmpty) := by
      unfold looksB
      split
      · simp at h
      · rfl
    have hl := hf.1
    rw [e]
    simp only [gwL, gwB, gwD, gwE, gwS, gwTT, gwZ, gwN, gwC, Nat.reduceEqDiff, ↓reduceIte, Nat.reduceAdd, Nat.reduceLT, Nat.reduceLeDiff, Nat.reduceMul, convV]
    clear e hf ha h
    generalize s = t at hl ⊢
    have hll : (byteRows t).length = t.length := by simp [byteRows]
    refine vfor (σ := Nat) [0, 2, 16, 17, 18] (fun i => [(0, true, .str t), (2, true, .bool false), (16, true, .lst 1 none (byteRows t)), (17, true, .int .i64 (byteRows t).length), (18, true, .int .i64 i)]) (fun i => st) (fun i => t.length - i) (fun i => i ≤ t.length ∧ digits t = digits (t.drop i)) 0 rfl TT_ok ⟨Nat.zero_le _, rfl⟩ rfl rfl ?_
    rintro i ⟨hi, hx⟩
    rw [hx]
    rcases at_or_end t i hi with ⟨rfl, hd⟩ | ⟨a, hlt, hget, hdr⟩
    · rw [hll]
      simp only [gwL, gwB, gwD, gwE, gwS, gwTT, gwZ, gwN, gwC, Nat.reduceEqDiff, ↓reduceIte, Nat.reduceAdd, Nat.reduceLT, Nat.reduceLeDiff, Nat.reduceMul, lt_no, hd]
      exact gives_bool (by cases t <;> simp [digits]) hst
    · rw [hll]
      have hg : (byteRows t).getD i [] = [V.int .u8 a.toNat] := getD_map hget
      simp only [gwL, gwB, gwD, gwE, gwS, gwTT, gwZ, gwN, gwC, Nat.reduceEqDiff, ↓reduceIte, Nat.reduceAdd, Nat.reduceLT, Nat.reduceLeDiff, Nat.reduceMul, lt_yes hlt, hdr, hll, hg, Int.ofNat_lt.mpr hlt]
      refine iK_split (fun h => ?_) (fun h => ?_)
      · simp only [gwL, gwB, gwD, gwE, gwS, gwTT, gwZ, gwN, gwC, Nat.reduceEqDiff, ↓reduceIte, Nat.reduceAdd, Nat.reduceLT, Nat.reduceLeDiff, Nat.reduceMul]
        exact gives_bool (by rw [digit_yes h]; rfl) hst
      · simp only [gwL, gwB, gwD, gwE, gwS, gwTT, gwZ, gwN, gwC, Nat.reduceEqDiff, ↓reduceIte, Nat.reduceAdd, Nat.reduceLT, Nat.reduceLeDiff, Nat.reduceMul, Env.keep]
        exact ⟨i + 1, by rw [next_i64 hlt hl], by omega, hlt, digit_no h _⟩

def namedB (s : Str) : Bool := s.all letterB && (decide (0 < s.length) && decide (s.length ≤ 20) && !looksB s)
theorem c_text_Named (st : St) (s : Str) : VCalls Try.prog TT 27 [.str s] st fun r st' => r = .ret (.bool (namedB s)) ∧ st' = st := by
  refine vfun TT_ok (an := anL []) (L := [0, 2, 3, 13, 14]) (rs := [.tmp 2]) Try.func27 rfl (by kernel_rfl) rfl Try.ntmps27 rfl rfl (Nat.le_refl _) fun hst ha hf => ?_
  simp only [gwL, gwB, gwD, gwE, gwS, gwTT, gwZ, gwN, gwC, Nat.reduceEqDiff, ↓reduceIte, Nat.reduceAdd, Nat.reduceLT, Nat.reduceLeDiff, Nat.reduceMul]
  refine iK_split (fun h => ?_) (fun h => ?_)
  · simp only [gwL, gwB, gwD, gwE, gwS, gwTT, gwZ, gwN, gwC, Nat.reduceEqDiff, ↓reduceIte, Nat.reduceAdd, Nat.reduceLT, Nat.reduceLeDiff, Nat.reduceMul]
    refine gives_bool ?_ hst
    have : ¬ (0 < s.length ∧ s.length ≤ 20) := by
      intro ⟨h1, h2⟩
      have e1 : decide ((s.length : Int) < 1) = false := by simp; omega
      have e2 : decide (20 < (s.length : Int)) = false := by simp; omega
      rw [e1, e2] at h; cases h
    rcases Nat.lt_or_ge 0 s.length with h1 | h1
    · simp [namedB, show ¬ s.length ≤ 20 from fun h2 => this ⟨h1, h2⟩]
    · simp [namedB, show ¬ 0 < s.length by omega]
  · have hl : 0 < s.length ∧ s.length ≤ 20 := by
      constructor
      · refine Nat.lt_of_not_le fun h1 => ?_
        have e1 : decide ((s.length : Int) < 1) = true := by simp; omega
        rw [e1] at h; cases h
      · refine Nat.le_of_not_lt fun h1 => ?_
        have e2 : decide (20 < (s.length : Int)) = true := by simp; omega
        rw [e2] at h; revert h; cases decide ((s.length : Int) < 1) <;> simp
    have e : namedB s = (s.all letterB && !looksB s) := by simp [namedB, hl]
    rw [e]
    simp only [gwL, gwB, gwD, gwE, gwS, gwTT, gwZ, gwN, gwC, Nat.reduceEqDiff, ↓reduceIte, Nat.reduceAdd, Nat.reduceLT, Nat.reduceLeDiff, Nat.reduceMul]
    refine vfor (σ := Nat) [0, 2, 13, 14] (fun i => [(0, true, .str s), (2, true, .bool false), (13, true, .int .i64 s.length), (14, true, .int .i64 i)]) (fun i => st) (fun i => s.length - i) (fun i => i ≤ s.length ∧ s.all letterB = (s.drop i).all letterB) 0 rfl TT_ok ⟨Nat.zero_le _, rfl⟩ rfl rfl ?_
    rintro i ⟨hi, hx⟩
    rw [hx]
    rcases at_or_end s i hi with ⟨rfl, hd⟩ | ⟨a, hlt, hget, hdr⟩
    · simp only [gwL, gwB, gwD, gwE, gwS, gwTT, gwZ, gwN, gwC, Nat.reduceEqDiff, ↓reduceIte, Nat.reduceAdd, Nat.reduceLT, Nat.reduceLeDiff, Nat.reduceMul, lt_no, hd]
      refine (c_number st s).use (wkL_refl _) fun _ => ?_
      simp only [gwL, gwB, gwD, gwE, gwS, gwTT, gwZ, gwN, gwC, Nat.reduceEqDiff, ↓reduceIte, Nat.reduceAdd, Nat.reduceLT, Nat.reduceLeDiff, Nat.reduceMul]
      exact gives_bool (by simp) hst
    · simp only [gwL, gwB, gwD, gwE, gwS, gwTT, gwZ, gwN, gwC, Nat.reduceEqDiff, ↓reduceIte, Nat.reduceAdd, Nat.reduceLT, Nat.reduceLeDiff, Nat.reduceMul, lt_yes hlt, hdr, getD_at hget, Int.ofNat_lt.mpr hlt]
      refine (c_letter st a).use (wkL_refl _) fun _ => ?_
      simp only [gwL, gwB, gwD, gwE, gwS, gwTT, gwZ, gwN, gwC, Nat.reduceEqDiff, ↓reduceIte, Nat.reduceAdd, Nat.reduceLT, Nat.reduceLeDiff, Nat.reduceMul]
      refine iK_split (fun h => ?_) (fun h => ?_)
      · simp only [gwL, gwB, gwD, gwE, gwS, gwTT, gwZ, gwN, gwC, Nat.reduceEqDiff, ↓reduceIte, Nat.reduceAdd, Nat.reduceLT, Nat.reduceLeDiff, Nat.reduceMul]
        exact gives_bool (by simp at h; simp [h]) hst
      · simp only [gwL, gwB, gwD, gwE, gwS, gwTT, gwZ, gwN, gwC, Nat.reduceEqDiff, ↓reduceIte, Nat.reduceAdd, Nat.reduceLT, Nat.reduceLeDiff, Nat.reduceMul, Env.keep]
        exact ⟨i + 1, by rw [next_i64 hlt (by omega)], by omega, hlt, by simp at h; simp [h]⟩
theorem c_ref_Named (st : St) (s : Str) : VCalls Try.prog TT 15 [.str s] st fun r st' => r = .ret (.bool (namedB s)) ∧ st' = st := by
  refine vfun TT_ok (an := anL []) (L := [0, 2, 4, 6, 7, 8]) (rs := [.tmp 2]) Try.func15 rfl (by kernel_rfl) rfl Try.ntmps15 rfl rfl (Nat.le_refl _) fun hst ha hf => ?_
  simp only [fitL, V.fit] at hf
  simp only [gwL, gwB, gwD, gwE, gwS, gwTT, gwZ, gwN, gwC, Nat.reduceEqDiff, ↓reduceIte, Nat.reduceAdd, Nat.reduceLT, Nat.reduceLeDiff, Nat.reduceMul, convV]
  have hll : (byteRows s).length = s.length := by simp [byteRows]
  refine vfor (σ := Nat) [0, 2, 6, 7, 8] (fun i => [(0, true, .str s), (2, true, .bool false), (6, true, .lst 1 none (byteRows s)), (7, true, .int .i64 (byteRows s).length), (8, true, .int .i64 i)]) (fun i => st) (fun i => s.length - i) (fun i => i ≤ s.length ∧ s.all letterB = (s.drop i).all letterB) 0 rfl TT_ok ⟨Nat.zero_le _, rfl⟩ rfl rfl ?_
  rintro i ⟨hi, hx⟩
  unfold namedB
  rw [hx]
  rcases at_or_end s i hi with ⟨rfl, hd⟩ | ⟨a, hlt, hget, hdr⟩
  · rw [hll]
    simp only [gwL, gwB, gwD, gwE, gwS, gwTT, gwZ, gwN, gwC, Nat.reduceEqDiff, ↓reduceIte, Nat.reduceAdd, Nat.reduceLT, Nat.reduceLeDiff, Nat.reduceMul, lt_no, hd]
    refine rK_guarded (.bool (looksB s)) (fun _ => c_Looks st s) ?_
    simp only [gwL, gwB, gwD, gwE, gwS, gwTT, gwZ, gwN, gwC, Nat.reduceEqDiff, ↓reduceIte, Nat.reduceAdd, Nat.reduceLT, Nat.reduceLeDiff, Nat.reduceMul]
    refine gives_bool ?_ hst
    have e1 : decide (0 < (s.length : Int)) = decide (0 < s.length) := by simp
    have e2 : decide ((s.length : Int) ≤ 20) = decide (s.length ≤ 20) := decide_eq_decide.mpr (by omega)
    rw [e1, e2]
  · rw [hll]
    have hg : (byteRows s).getD i [] = [V.int .u8 a.toNat] := getD_map hget
    simp only [gwL, gwB, gwD, gwE, gwS, gwTT, gwZ, gwN, gwC, Nat.reduceEqDiff, ↓reduceIte, Nat.reduceAdd, Nat.reduceLT, Nat.reduceLeDiff, Nat.reduceMul, lt_yes hlt, hdr, hll, hg, Int.ofNat_lt.mpr hlt]
    refine (c_Letter st a).use (wkL_refl _) fun _ => ?_
    simp only [gwL, gwB, gwD, gwE, gwS, gwTT, gwZ, gwN, gwC, Nat.reduceEqDiff, ↓reduceIte, Nat.reduceAdd, Nat.reduceLT, Nat.reduceLeDiff, Nat.reduceMul]
    refine iK_split (fun h => ?_) (fun h => ?_)
    · simp only [gwL, gwB, gwD, gwE, gwS, gwTT, gwZ, gwN, gwC, Nat.reduceEqDiff, ↓reduceIte, Nat.reduceAdd, Nat.reduceLT, Nat.reduceLeDiff, Nat.reduceMul]
      exact gives_bool (by simp at h; simp [h]) hst
    · simp only [gwL, gwB, gwD, gwE, gwS, gwTT, gwZ, gwN, gwC, Nat.reduceEqDiff, ↓reduceIte, Nat.reduceAdd, Nat.reduceLT, Nat.reduceLeDiff, Nat.reduceMul, Env.keep]
      exact ⟨i + 1, by rw [next_i64 hlt hf.1], by omega, hlt, by simp at h; simp [h]⟩
end Go.Proofs.Ytakcdeihljojiaa.Gx

namespace Go.Proofs.Ytakcdeihljojiaa.Gx
open Go Go.Proofs.Ytakcdeihljojiaa.Gw
set_option linter.unusedSimpArgs false
set_option linter.unusedVariables false

inductive Set' where
  | mk (kind : Int) (name : Str) (names az : List Str) (pre : Str) (kids : List Set')
mutual
def encSet : Set' → List V
  | .mk k n ns az p kids => [.int .i64 k, .str n, encS ns, encS az, .str p, .lst 6 none (encSets kids)]
def encSets : List Set' → List (List V)
  | [] => []
  | d :: r => encSet d :: encSets r
end
theorem encSets_map : ∀ l : List Set', encSets l = l.map encSet
  | [] => rfl
  | d :: r => by simp only [encSets, List.map_cons, encSets_map r]
theorem encSet_mk (k : Int) (n : Str) (ns az : List Str) (p : Str) (kids : List Set') : encSet (.mk k n ns az p kids) = [.int .i64 k, .str n, encS ns, encS az, .str p, .lst 6 none (kids.map encSet)] := by
  simp only [encSet, encSets_map]
theorem Set'.ind {p : Set' → Prop} (h : ∀ k n ns az pr kids, (∀ d ∈ kids, p d) → p (.mk k n ns az pr kids)) (d : Set') : p d :=
  Set'.rec (motive_1 := p) (motive_2 := fun l => ∀ d ∈ l, p d) h (by simp) (fun d r h1 h2 x hx => by rcases List.mem_cons.1 hx with rfl | hx; exact h1; exact h2 x hx) d
theorem encS_lt (n : Nat) (l : List Str) : (encS l).lt n := by
  simp only [encS, V.lt]
  exact ⟨fun e h => (by cases h), ltRows_map fun x _ => ⟨trivial, trivial⟩⟩

/-- The first of which it holds. -/
def idxF (p : Str → Bool) : Nat → List Str → Int
  | _, [] => -1
  | i, a :: r => bif p a then (i : Int) else idxF p (i + 1) r
theorem idxF_ge (p : Str → Bool) : ∀ (l : List Str) (i : Nat), decide (0 ≤ idxF p i l) = l.any p
  | [], i => by simp [idxF]
  | a :: r, i => by
    have := idxF_ge p r (i + 1)
    cases h : p a
    · simp only [idxF, h, cond_false, this, List.any_cons, Bool.false_or]
    · simp [idxF, h]
theorem c_IndexFunc (st : St) (l : List Str) (k : FuncId) (cap : List V) (p : Str → Bool) (h : ∀ a ∈ l, VCalls Try.prog TT k (.str a :: cap) st fun r st' => r = .ret (.bool (p a)) ∧ st' = st) :
    VCalls Try.prog TT 50 [encS l, .fn (.func k) cap] st fun r st' => r = .ret (.int .i64 (idxF p 0 l)) ∧ st' = st := by
  refine vfun TT_ok (an := anL []) (L := [0, 1, 4, 5, 7, 8]) (rs := [.tmp 4]) Try.func50 rfl (by kernel_rfl) rfl Try.ntmps50 rfl rfl (Nat.le_refl _) fun hst ha hf => ?_
  simp only [fitL, V.fit, encS, List.length_map] at hf
  simp only [encS]
  simp only [gwL, gwB, gwD, gwE, gwS, gwTT, gwZ, gwN, gwC, Nat.reduceEqDiff, ↓reduceIte, Nat.reduceAdd, Nat.reduceLT, Nat.reduceLeDiff, Nat.reduceMul, List.length_map]
  refine vfor (σ := Nat) [0, 1, 4, 7, 8] (fun i => [(0, true, encS l), (1, true, .fn (.func k) cap), (4, true, .int .i64 0), (7, true, .int .i64 l.length), (8, true, .int .i64 i)]) (fun i => st) (fun i => l.length - i) (fun i => i ≤ l.length ∧ idxF p 0 l = idxF p i (l.drop i)) 0 rfl TT_ok ⟨Nat.zero_le _, rfl⟩ rfl rfl ?_
  rintro i ⟨hi, hx⟩
  rw [hx]
  rcases at_or_end l i hi with ⟨rfl, hd⟩ | ⟨a, hlt, hget, hdr⟩
  · simp only [gwL, gwB, gwD, gwE, gwS, gwTT, gwZ, gwN, gwC, Nat.reduceEqDiff, ↓reduceIte, Nat.reduceAdd, Nat.reduceLT, Nat.reduceLeDiff, Nat.reduceMul, lt_no, hd, idxF]
    exact gives_int rfl hst
  · simp only [encS]
    simp only [gwL, gwB, gwD, gwE, gwS, gwTT, gwZ, gwN, gwC, Nat.reduceEqDiff, ↓reduceIte, Nat.reduceAdd, Nat.reduceLT, Nat.reduceLeDiff, Nat.reduceMul, lt_yes hlt, hdr, idxF, List.length_map, getD_map hget, Int.ofNat_lt.mpr hlt, Nat.le_refl]
    refine (h a (List.mem_of_getElem? hget)).use (wkL_refl _) fun _ => ?_
    simp only [gwL, gwB, gwD, gwE, gwS, gwTT, gwZ, gwN, gwC, Nat.reduceEqDiff, ↓reduceIte, Nat.reduceAdd, Nat.reduceLT, Nat.reduceLeDiff, Nat.reduceMul]
    refine iK_split (fun h1 => ?_) (fun h1 => ?_)
    · simp only [gwL, gwB, gwD, gwE, gwS, gwTT, gwZ, gwN, gwC, Nat.reduceEqDiff, ↓reduceIte, Nat.reduceAdd, Nat.reduceLT, Nat.reduceLeDiff, Nat.reduceMul, h1, cond_true]
      exact gives_int rfl hst
    · simp only [gwL, gwB, gwD, gwE, gwS, gwTT, gwZ, gwN, gwC, Nat.reduceEqDiff, ↓reduceIte, Nat.reduceAdd, Nat.reduceLT, Nat.reduceLeDiff, Nat.reduceMul, h1, cond_false, Env.keep]
      exact ⟨i + 1, by rw [next_i64 hlt hf.1.1], by omega, hlt, rfl⟩
theorem c_ContainsFunc (st : St) (l : List Str) (k : FuncId) (cap : List V) (p : Str → Bool) (h : ∀ a ∈ l, VCalls Try.prog TT k (.str a :: cap) st fun r st' => r = .ret (.bool (p a)) ∧ st' = st) :
    VCalls Try.prog TT 38 [encS l, .fn (.func k) cap] st fun r st' => r = .ret (.bool (l.any p)) ∧ st' = st := by
  refine vfun TT_ok (an := anL []) (L := [0, 1, 4]) (rs := [.tmp 4]) Try.func38 rfl (by kernel_rfl) rfl Try.ntmps38 rfl rfl (Nat.le_refl _) fun hst ha hf => ?_
  simp only [encS]
  simp only [gwL, gwB, gwD, gwE, gwS, gwTT, gwZ, gwN, gwC, Nat.reduceEqDiff, ↓reduceIte, Nat.reduceAdd, Nat.reduceLT, Nat.reduceLeDiff, Nat.reduceMul]
  refine (c_IndexFunc st l k cap p h).use (wkL_refl _) fun _ => ?_
  simp only [gwL, gwB, gwD, gwE, gwS, gwTT, gwZ, gwN, gwC, Nat.reduceEqDiff, ↓reduceIte, Nat.reduceAdd, Nat.reduceLT, Nat.reduceLeDiff, Nat.reduceMul, idxF_ge]
  exact gives_bool rfl hst

mutual
/-- What is wrong with a set's form. -/
def shapeS : Set' → Int → Int
  | .mk k _ ns az p kids, d =>
    bif decide (12 < d) then 4 else
    bif decide (k < 1) || decide (5 < k) then 1 else
    bif decide (k = 1) then 0 else
    bif !decide ((kids.length : Int) = 1) || decide (k = 5) && !decide ((ns.length : Int) = az.length) then 5 else
    bif decide (k = 4) && !namedB p then 7 else
    bif decide (k = 5) && az.any (fun n => !namedB n) then 7 else shapeSs kids (d + 1)
def shapeSs : List Set' → Int → Int
  | [], _ => 0
  | x :: _, d => shapeS x d
end
theorem c_shape1 (st : St) (s : Str) : VCalls Try.prog TT 39 [.str s] st fun r st' => r = .ret (.bool (!namedB s)) ∧ st' = st := by
  refine vfun TT_ok (an := anL []) (L := [0, 2]) (rs := [.tmp 2]) Try.func39 rfl (by kernel_rfl) rfl Try.ntmps39 rfl rfl (Nat.le_refl _) fun hst ha hf => ?_
  simp only [gwL, gwB, gwD, gwE, gwS, gwTT, gwZ, gwN, gwC, Nat.reduceEqDiff, ↓reduceIte, Nat.reduceAdd, Nat.reduceLT, Nat.reduceLeDiff, Nat.reduceMul]
  refine (c_text_Named st s).use (wkL_refl _) fun _ => ?_
  simp only [gwL, gwB, gwD, gwE, gwS, gwTT, gwZ, gwN, gwC, Nat.reduceEqDiff, ↓reduceIte, Nat.reduceAdd, Nat.reduceLT, Nat.reduceLeDiff, Nat.reduceMul]
  exact gives_bool rfl hst
set_option maxHeartbeats 4000000 in
theorem c_shapeS (s : Set') : ∀ (st : St) (d : Int), 0 ≤ d → d ≤ 13 → VCalls Try.prog TT 26 [.ref (encSet s), .int .i64 d] st fun r st' => r = .ret (.int .i64 (shapeS s d)) ∧ st' = st := by
  refine Set'.ind (p := fun s => ∀ (st : St) (d : Int), 0 ≤ d → d ≤ 13 → VCalls Try.prog TT 26 [.ref (encSet s), .int .i64 d] st fun r st' => r = .ret (.int .i64 (shapeS s d)) ∧ st' = st) ?_ s
  intro k n ns az p kids ih st d h0 h1
  refine vfun TT_ok (an := anL []) (L := [0, 1, 4]) (rs := [.tmp 4]) Try.func26 rfl (by kernel_rfl) rfl Try.ntmps26 rfl rfl (Nat.le_refl _) fun hst ha hf => ?_
  simp only [encSet_mk]
  simp only [gwL, gwB, gwD, gwE, gwS, gwTT, gwZ, gwN, gwC, Nat.reduceEqDiff, ↓reduceIte, Nat.reduceAdd, Nat.reduceLT, Nat.reduceLeDiff, Nat.reduceMul]
  unfold shapeS
  refine iK_split (fun h => ?_) (fun h => ?_)
  · rw [h]
    simp only [gwL, gwB, gwD, gwE, gwS, gwTT, gwZ, gwN, gwC, Nat.reduceEqDiff, ↓reduceIte, Nat.reduceAdd, Nat.reduceLT, Nat.reduceLeDiff, Nat.reduceMul]
    exact gives_int rfl hst
  rw [h]
  have hd : d ≤ 12 := by simpa using h
  simp only [gwL, gwB, gwD, gwE, gwS, gwTT, gwZ, gwN, gwC, Nat.reduceEqDiff, ↓reduceIte, Nat.reduceAdd, Nat.reduceLT, Nat.reduceLeDiff, Nat.reduceMul]
  refine iK_split (fun h1 => ?_) (fun h1 => ?_)
  · rw [h1]
    simp only [gwL, gwB, gwD, gwE, gwS, gwTT, gwZ, gwN, gwC, Nat.reduceEqDiff, ↓reduceIte, Nat.reduceAdd, Nat.reduceLT, Nat.reduceLeDiff, Nat.reduceMul]
    exact gives_int rfl hst
  rw [h1]
  simp only [gwL, gwB, gwD, gwE, gwS, gwTT, gwZ, gwN, gwC, Nat.reduceEqDiff, ↓reduceIte, Nat.reduceAdd, Nat.reduceLT, Nat.reduceLeDiff, Nat.reduceMul]
  refine iK_split (fun h2 => ?_) (fun h2 => ?_)
  · rw [h2]
    simp only [gwL, gwB, gwD, gwE, gwS, gwTT, gwZ, gwN, gwC, Nat.reduceEqDiff, ↓reduceIte, Nat.reduceAdd, Nat.reduceLT, Nat.reduceLeDiff, Nat.reduceMul]
    exact gives_int rfl hst
  rw [h2]
  simp only [gwL, gwB, gwD, gwE, gwS, gwTT, gwZ, gwN, gwC, Nat.reduceEqDiff, ↓reduceIte, Nat.reduceAdd, Nat.reduceLT, Nat.reduceLeDiff, Nat.reduceMul]
  refine vdraw TT_ok TT_mixed [0, 0, 0, 1, 0, 0, 0, 0, 0, 0, 1, 0, 0, 0, 0, 0, 1, 0, 0, 0, 0, 1, 0, 0, 0, 0, 0] (by kernel_rfl) ?_
  simp only [gwL, gwB, gwD, gwE, gwS, gwTT, gwZ, gwN, gwC, Nat.reduceEqDiff, ↓reduceIte, Nat.reduceAdd, Nat.reduceLT, Nat.reduceLeDiff, Nat.reduceMul, encS, List.length_map]
  refine ⟨fun h _ => ⟨h, fun h2 => by rw [h, h2]; rfl⟩, ?_⟩
  refine iK_split (fun h3 => ?_) (fun h3 => ?_)
  · rw [h3]
    simp only [gwL, gwB, gwD, gwE, gwS, gwTT, gwZ, gwN, gwC, Nat.reduceEqDiff, ↓reduceIte, Nat.reduceAdd, Nat.reduceLT, Nat.reduceLeDiff, Nat.reduceMul]
    exact gives_int rfl hst
  rw [h3]
  simp only [gwL, gwB, gwD, gwE, gwS, gwTT, gwZ, gwN, gwC, Nat.reduceEqDiff, ↓reduceIte, Nat.reduceAdd, Nat.reduceLT, Nat.reduceLeDiff, Nat.reduceMul]
  refine rK_guarded (.bool (namedB p)) (fun _ => c_text_Named st p) ?_
  simp only [gwL, gwB, gwD, gwE, gwS, gwTT, gwZ, gwN, gwC, Nat.reduceEqDiff, ↓reduceIte, Nat.reduceAdd, Nat.reduceLT, Nat.reduceLeDiff, Nat.reduceMul]
  refine iK_split (fun h4 => ?_) (fun h4 => ?_)
  · rw [h4]
    simp only [gwL, gwB, gwD, gwE, gwS, gwTT, gwZ, gwN, gwC, Nat.reduceEqDiff, ↓reduceIte, Nat.reduceAdd, Nat.reduceLT, Nat.reduceLeDiff, Nat.reduceMul]
    exact gives_int rfl hst
  rw [h4]
  simp only [gwL, gwB, gwD, gwE, gwS, gwTT, gwZ, gwN, gwC, Nat.reduceEqDiff, ↓reduceIte, Nat.reduceAdd, Nat.reduceLT, Nat.reduceLeDiff, Nat.reduceMul]
  refine rK_guarded (.bool (az.any fun n => !namedB n)) (fun _ => c_ContainsFunc st az 39 [] (fun n => !namedB n) fun a _ => c_shape1 st a) ?_
  simp only [gwL, gwB, gwD, gwE, gwS, gwTT, gwZ, gwN, gwC, Nat.reduceEqDiff, ↓reduceIte, Nat.reduceAdd, Nat.reduceLT, Nat.reduceLeDiff, Nat.reduceMul]
  refine iK_split (fun h5 => ?_) (fun h5 => ?_)
  · rw [h5]
    simp only [gwL, gwB, gwD, gwE, gwS, gwTT, gwZ, gwN, gwC, Nat.reduceEqDiff, ↓reduceIte, Nat.reduceAdd, Nat.reduceLT, Nat.reduceLeDiff, Nat.reduceMul]
    exact gives_int rfl hst
  rw [h5]
  have hk1 : kids.length = 1 := by
    have : decide ((kids.length : Int) = 1) = true := by revert h3; cases decide ((kids.length : Int) = 1) <;> simp
    have := of_decide_eq_true this
    omega
  obtain ⟨x, rfl⟩ := List.length_eq_one_iff.1 hk1
  have w : IntKind.i64.wrap (d + 1) = d + 1 := wrap_i64 (by omega) (by omega)
  simp only [gwL, gwB, gwD, gwE, gwS, gwTT, gwZ, gwN, gwC, Nat.reduceEqDiff, ↓reduceIte, Nat.reduceAdd, Nat.reduceLT, Nat.reduceLeDiff, Nat.reduceMul, w, List.map_cons, List.map_nil, List.length_cons, List.length_nil, List.getD_cons_zero]
  refine ⟨⟨by decide, by decide⟩, ?_⟩
  refine (ih x (by simp) st (d + 1) (by omega) (by omega)).use (wkL_refl _) fun _ => ?_
  simp only [gwL, gwB, gwD, gwE, gwS, gwTT, gwZ, gwN, gwC, Nat.reduceEqDiff, ↓reduceIte, Nat.reduceAdd, Nat.reduceLT, Nat.reduceLeDiff, Nat.reduceMul]
  exact gives_int rfl hst
end Go.Proofs.Ytakcdeihljojiaa.Gx

namespace Go.Proofs.Ytakcdeihljojiaa.Gx
open Go Go.Proofs.Ytakcdeihljojiaa.Gw
set_option linter.unusedSimpArgs false
set_option linter.unusedVariables false

abbrev Tb := List (Str × Str)
def keep1 (k : Int) (ns az : List Str) (p : Str) (q : Str × Str) : Option (Str × Str) :=
  if k = 2 ∧ idxOf q.1 0 ns < 0 then none
  else if k = 3 ∧ 0 ≤ idxOf q.1 0 ns then none
  else some (if k = 4 then p ++ q.1 else if k = 5 ∧ 0 ≤ idxOf q.1 0 ns then az.getD (idxOf q.1 0 ns).toNat [] else q.1, q.2)
def stepB (k : Int) (ns az : List Str) (p : Str) (r : Int × Tb) : Int × Tb :=
  if r.1 ≠ 0 then (r.1, []) else
  if k ≠ 4 ∧ (ns.any fun n => !(asc n r.2).isSome) = true then (6, []) else
  if ¬ ((r.2.filterMap (keep1 k ns az p)).map (·.1)).Nodup then (8, []) else
  if ((r.2.filterMap (keep1 k ns az p)).any fun q => !namedB q.1) = true then (7, []) else (0, r.2.filterMap (keep1 k ns az p))
mutual
def brS : Set' → Tb → Int × Tb
  | .mk k _ ns az p kids, M => if k = 1 then (0, M) else stepB k ns az p (brSs kids M)
def brSs : List Set' → Tb → Int × Tb
  | [], M => (0, M)
  | x :: _, M => brS x M
end
theorem asc_keys {κ α : Type} [DecidableEq κ] {s : κ} {l : List (κ × α)} : (asc s l).isSome = true ↔ s ∈ l.map (·.1) := by
  rw [asc_mem, decide_eq_true_iff]
theorem asc_ups {κ α : Type} [DecidableEq κ] (s t : κ) (a : α) : ∀ l : List (κ × α), asc t (ups s a l) = if t = s then some a else asc t l
  | [] => by
    simp only [ups, asc]
  | (k, b) :: r => by
    simp only [ups]
    by_cases h : s = k
    · subst h
      simp only [if_true, asc]
      by_cases h2 : t = s <;> simp [h2]
    · rw [if_neg h]
      simp only [asc]
      by_cases h2 : t = k
      · subst h2
        rw [if_pos rfl, if_neg (fun e => h e.symm), if_pos rfl]
      · rw [if_neg h2, if_neg h2]
        exact asc_ups s t a r
theorem ups_new {κ α : Type} [DecidableEq κ] {s : κ} {a : α} : ∀ {l : List (κ × α)}, asc s l = none → ups s a l = l ++ [(s, a)]
  | [], _ => rfl
  | (k, b) :: r, h => by
    simp only [asc] at h
    by_cases e : s = k
    · rw [if_pos e] at h; cases h
    · rw [if_neg e] at h
      simp only [ups, if_neg e, ups_new h, List.cons_append]
theorem seen_len {seen : List Nat} {n : Nat} (h1 : seen.Nodup) (h2 : ∀ i ∈ seen, i < n) : seen.length ≤ n := by
  have := h1.length_le_of_subset (l₂ := List.range n) fun i hi => List.mem_range.2 (h2 i hi)
  simpa using this
theorem seen_perm {seen : List Nat} {n : Nat} (h1 : seen.Nodup) (h2 : ∀ i ∈ seen, i < n) (h3 : ∀ i, i < n → i ∈ seen) : seen.Perm (List.range n) := by
  rw [List.perm_iff_count]
  intro a
  rw [h1.count, List.nodup_range.count]
  by_cases h : a ∈ seen
  · rw [if_pos h, if_pos (List.mem_range.2 (h2 a h))]
  · rw [if_neg h, if_neg (fun e => h (h3 a (List.mem_range.1 e)))]
theorem map_getD_range {α β : Type} (f : α → β) (d : α) : ∀ l : List α, (List.range l.length).map (fun i => f (l.getD i d)) = l.map f := by
  intro l
  apply List.ext_getElem?
  intro i
  by_cases h : i < l.length
  · simp [List.getElem?_map, List.getElem?_range h, List.getElem?_eq_getElem h]
  · simp [List.getElem?_eq_none (Nat.le_of_not_lt h), List.getElem?_eq_none (show (List.range l.length).length ≤ i by simp; omega)]
/-- What was met, kept. -/
def metB (f : Str × Str → Option (Str × Str)) (M : Tb) (seen : List Nat) : Tb := (seen.map fun i => M.getD i ([], [])).filterMap f
theorem metB_all {f : Str × Str → Option (Str × Str)} {M : Tb} {seen : List Nat} (h1 : seen.Nodup) (h2 : ∀ i ∈ seen, i < M.length) (h3 : ∀ i, i < M.length → i ∈ seen) : (metB f M seen).Perm (M.filterMap f) := by
  unfold metB
  refine List.Perm.filterMap f ?_
  have := (seen_perm h1 h2 h3).map fun i => M.getD i ([], [])
  rw [map_getD_range (fun q : Str × Str => q) ([], []) M] at this
  simpa using this
theorem metB_add {f : Str × Str → Option (Str × Str)} {M : Tb} {seen : List Nat} {i : Nat} {a : Str × Str} (h : M[i]? = some a) : metB f M (seen ++ [i]) = metB f M seen ++ (f a).toList := by
  unfold metB
  rw [List.map_append, List.filterMap_append]
  congr 1
  simp only [List.map_cons, List.map_nil, List.getD_eq_getElem?_getD, h, Option.getD_some, List.filterMap_cons, List.filterMap_nil]
  cases f a <;> rfl
/-- One comes twice. -/
theorem metB_dup {f : Str × Str → Option (Str × Str)} {M : Tb} {seen : List Nat} {i : Nat} {a b : Str × Str} (h : M[i]? = some a) (hf : f a = some b) (hi : i ∉ seen) (h2 : ∀ i ∈ seen, i < M.length) (hm : (asc b.1 (metB f M seen)).isSome = true) : ¬ ((M.filterMap f).map (·.1)).Nodup := by
  intro hnd
  unfold List.Nodup at hnd
  rw [List.pairwise_map, List.pairwise_filterMap, List.pairwise_iff_getElem] at hnd
  obtain ⟨c, hc, hcb⟩ := List.mem_map.1 (asc_keys.1 hm)
  unfold metB at hc
  obtain ⟨d, hd, hdc⟩ := List.mem_filterMap.1 hc
  obtain ⟨j, hj, rfl⟩ := List.mem_map.1 hd
  have hjl := h2 j hj
  obtain ⟨hil, hia⟩ := List.getElem?_eq_some_iff.1 h
  have hne : i ≠ j := fun e => hi (e ▸ hj)
  have ej : M.getD j ([], []) = M[j] := by rw [List.getD_eq_getElem?_getD, List.getElem?_eq_getElem hjl]; rfl
  rw [ej] at hdc
  rcases Nat.lt_or_gt_of_ne hne with hlt | hlt
  · exact hnd i j hil hjl hlt b (by rw [hia]; exact hf) c hdc hcb.symm
  · exact hnd j i hjl hil hlt c hdc b (by rw [hia]; exact hf) hcb
theorem asc_perm {M N : Tb} (h : M.Perm N) (n : Str) : (asc n M).isSome = (asc n N).isSome := by
  rw [asc_mem, asc_mem, decide_eq_decide]
  exact (h.map _).mem_iff
/-- The order of a table is nothing to what is kept of it. -/
theorem stepB_perm {k : Int} {ns az : List Str} {p : Str} {M N : Tb} (h : M.Perm N) : (stepB k ns az p (0, M)).1 = (stepB k ns az p (0, N)).1 ∧ (stepB k ns az p (0, M)).2.Perm (stepB k ns az p (0, N)).2 := by
  have hp := h.filterMap (keep1 k ns az p)
  have h1 : (fun n => !(asc n M).isSome) = fun n => !(asc n N).isSome := by funext n; rw [asc_perm h]
  have h2 := (hp.map (·.1)).nodup_iff
  have h3 : ((M.filterMap (keep1 k ns az p)).any fun q => !namedB q.1) = ((N.filterMap (keep1 k ns az p)).any fun q => !namedB q.1) := by
    rw [Bool.eq_iff_iff, List.any_eq_true, List.any_eq_true]
    exact ⟨fun ⟨x, hx, hq⟩ => ⟨x, hp.mem_iff.1 hx, hq⟩, fun ⟨x, hx, hq⟩ => ⟨x, hp.mem_iff.2 hx, hq⟩⟩
  unfold stepB
  simp only [ne_eq, not_true, if_false, h1, h2, h3]
  split
  · exact ⟨rfl, List.Perm.refl _⟩
  · split
    · exact ⟨rfl, List.Perm.refl _⟩
    · split
      · exact ⟨rfl, List.Perm.refl _⟩
      · exact ⟨rfl, hp⟩
structure TbOk (M : Tb) : Prop where
  nodup : (M.map (·.1)).Nodup
  named : ∀ q ∈ M, namedB q.1 = true
theorem TbOk.perm {M N : Tb} (h : M.Perm N) (k : TbOk N) : TbOk M := ⟨(h.map _).nodup_iff.2 k.nodup, fun q hq => k.named q (h.mem_iff.1 hq)⟩
theorem stepB_ok {k : Int} {ns az : List Str} {p : Str} {r : Int × Tb} (h : (stepB k ns az p r).1 = 0) : r.1 = 0 ∧ TbOk (stepB k ns az p r).2 ∧ (stepB k ns az p r).2 = r.2.filterMap (keep1 k ns az p) := by
  unfold stepB at h ⊢
  by_cases h1 : r.1 ≠ 0
  · rw [if_pos h1] at h; exact absurd h h1
  rw [if_neg h1] at h ⊢
  by_cases h2 : k ≠ 4 ∧ (ns.any fun n => !(asc n r.2).isSome) = true
  · rw [if_pos h2] at h; simp at h
  rw [if_neg h2] at h ⊢
  by_cases h3 : ¬ ((r.2.filterMap (keep1 k ns az p)).map (·.1)).Nodup
  · rw [if_pos h3] at h; simp at h
  rw [if_neg h3] at h ⊢
  by_cases h4 : ((r.2.filterMap (keep1 k ns az p)).any fun q => !namedB q.1) = true
  · rw [if_pos h4] at h; simp at h
  rw [if_neg h4]
  refine ⟨by simpa using h1, ⟨by simpa using h3, fun q hq => ?_⟩, rfl⟩
  simp only [List.any_eq_true, not_exists, not_and, Bool.not_eq_true'] at h4
  have := h4 q hq
  cases e : namedB q.1 with
  | true => rfl
  | false => exact absurd e (by simpa using this)
/-- A set whose form is right. -/
def FormS : Set' → Prop
  | .mk k _ ns az p kids => k = 1 ∨ (∃ x, kids = [x] ∧ ∃ d, 0 ≤ d ∧ shapeS x d = 0) ∧ 2 ≤ k ∧ k ≤ 5 ∧ (k = 5 → ns.length = az.length ∧ ∀ n ∈ az, namedB n = true) ∧ (k = 4 → namedB p = true)
theorem shapeS_form {s : Set'} {d : Int} (h0 : 0 ≤ d) (h : shapeS s d = 0) : FormS s := by
  obtain ⟨k, n, ns, az, p, kids⟩ := s
  unfold shapeS at h
  unfold FormS
  cases h1 : decide (12 < d) <;> rw [h1] at h <;> simp only [cond_true, cond_false] at h
  case true => exact absurd h (by decide)
  cases h2 : decide (k < 1) || decide (5 < k) <;> rw [h2] at h <;> simp only [cond_true, cond_false] at h
  case true => exact absurd h (by decide)
  cases h3 : decide (k = 1) <;> rw [h3] at h <;> simp only [cond_true, cond_false] at h
  case true => exact .inl (of_decide_eq_true h3)
  cases h4 : !decide ((kids.length : Int) = 1) || decide (k = 5) && !decide ((ns.length : Int) = az.length) <;> rw [h4] at h <;> simp only [cond_true, cond_false] at h
  case true => exact absurd h (by decide)
  cases h5 : decide (k = 4) && !namedB p <;> rw [h5] at h <;> simp only [cond_true, cond_false] at h
  case true => exact absurd h (by decide)
  cases h6 : decide (k = 5) && az.any (fun n => !namedB n) <;> rw [h6] at h <;> simp only [cond_true, cond_false] at h
  case true => exact absurd h (by decide)
  simp only [Bool.or_eq_false_iff, Bool.and_eq_false_iff, Bool.not_eq_false', decide_eq_true_eq, decide_eq_false_iff_not, List.any_eq_false, Bool.not_eq_true, Bool.not_eq_false] at h2 h3 h4 h5 h6
  have hl : kids.length = 1 := by omega
  obtain ⟨x, rfl⟩ := List.length_eq_one_iff.1 hl
  refine .inr ⟨⟨x, rfl, d + 1, by omega, h⟩, by omega, by omega, fun e => ⟨?_, ?_⟩, fun e => ?_⟩
  · have := h4.2.resolve_left (fun h => h e); omega
  · exact h6.resolve_left (fun h => h e)
  · exact h5.resolve_left (fun h => h e)
theorem shapeS_kid {k : Int} {n : Str} {ns az : List Str} {p : Str} {x : Set'} (h : FormS (.mk k n ns az p [x])) (hk : k ≠ 1) : ∃ d, 0 ≤ d ∧ shapeS x d = 0 := by
  unfold FormS at h
  obtain ⟨⟨y, hy, h⟩, -⟩ := h.resolve_left hk
  cases hy
  exact h
theorem brS_ok (s : Set') : ∀ {M : Tb}, TbOk M → (∃ d, 0 ≤ d ∧ shapeS s d = 0) → (brS s M).1 = 0 → TbOk (brS s M).2 := by
  refine Set'.ind (p := fun s => ∀ {M : Tb}, TbOk M → (∃ d, 0 ≤ d ∧ shapeS s d = 0) → (brS s M).1 = 0 → TbOk (brS s M).2) ?_ s
  intro k n ns az p kids ih M hM hs h
  rw [brS] at h ⊢
  by_cases hk : k = 1
  · rw [if_pos hk]; exact hM
  · rw [if_neg hk] at h ⊢
    exact (stepB_ok h).2.1
end Go.Proofs.Ytakcdeihljojiaa.Gx
