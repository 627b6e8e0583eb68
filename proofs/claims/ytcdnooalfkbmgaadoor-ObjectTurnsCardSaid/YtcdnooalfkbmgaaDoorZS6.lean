/- What comes in, as it is read, as abstract values: nothing of it is owned. Maps from which nothing is taken, as lists of what they hold. A nil slice may be taken for an array of nothing. Panics that are caught: functions that defer, what they defer, and contracts of what panics. Functions that defer one closure. Drawn regions, stage by stage, with calls that turn what the rest does not look at, or that panic. -/
import Derived.Test.YtcdnooalfkbmgaaDoorZS5
import GoSem.ClaimChange
import Derived.ChangeOld
import Derived.Recover

namespace Go.Proofs.YtcdnooalfkbmgaaDoor.Gw
open Go
set_option linter.unusedSimpArgs false

/-- The ghost at the beginning. -/
def g00 : G := { own := fun _ => none, pb := fun _ => 0, tv := fun _ => .slice none 0 0, len := fun _ => 0, n := 0 }
theorem sim00 (T : Nat → TI) (w : World) (h : Amb g00 w := by first | assumption | (intro p hp; simp [ambL] at hp)) : SimSt T g00 [] w := ⟨rfl, fun i e h => by simp at h, fun i j ei ej b h => by simp at h, h⟩

theorem mapM_some {α β : Type} {f : α → Option β} : ∀ {l : List α} {r : List β}, l.mapM f = some r → r.length = l.length ∧ ∀ (i : Nat) (x : α), l[i]? = some x → ∃ y, r[i]? = some y ∧ f x = some y
  | [], r, h => by simp at h; subst h; exact ⟨rfl, fun i x h => by simp at h⟩
  | a :: l, r, h => by
    rw [List.mapM_cons] at h
    cases ha : f a with
    | none => rw [ha] at h; simp at h
    | some y =>
      rw [ha] at h
      cases hl : l.mapM f with
      | none => rw [hl] at h; simp at h
      | some ys =>
        rw [hl] at h
        simp at h
        subst h
        obtain ⟨h1, h2⟩ := mapM_some hl
        refine ⟨by simp [h1], fun i x hx => ?_⟩
        cases i with
        | zero => simp at hx; subst hx; exact ⟨y, rfl, ha⟩
        | succ i => exact h2 i x (by simpa using hx)

section
variable {H : Type} {enc : TypeId × Value → H} {P : Program} {W : World} {spare : Nat → Bool} {held : Bool}

theorem dec_int {t : TypeId} {k : IntKind} (ht : P.underlying t = some (.int k)) {n : Nat} {cs : List Value} {r : DataW H × List MemPlace} (h : DataW.trod enc P W 0 spare held n t cs = some r) : ∃ m, cs = [.int k m] := by
  cases n with
  | zero => simp [DataW.trod] at h
  | succ n =>
    unfold DataW.trod at h
    rw [ht] at h
    split at h <;> first | (cases h; done) | skip
    all_goals rename_i e; first | (injection e with e; cases e; done) | skip
    all_goals simp_all
theorem dec_str {t : TypeId} (ht : P.underlying t = some .string) {n : Nat} {cs : List Value} {r : DataW H × List MemPlace} (h : DataW.trod enc P W 0 spare held n t cs = some r) : ∃ s : List UInt8, cs = [.string ⟨s.toArray⟩] ∧ s.length ≤ 9223372036854775807 := by
  cases n with
  | zero => simp [DataW.trod] at h
  | succ n =>
    unfold DataW.trod at h
    rw [ht] at h
    split at h <;> first | (cases h; done) | skip
    all_goals rename_i e; first | (injection e with e; cases e; done) | skip
    all_goals rename_i s
    all_goals split at h
    all_goals first | (cases h; done) | skip
    all_goals rename_i hs
    all_goals exact ⟨s.data.toList, by cases s; rfl, by rw [Array.length_toList]; exact hs⟩
theorem dec_struct {t : TypeId} {fs : Array Field} (ht : P.underlying t = some (.struct fs)) {n : Nat} {cs : List Value} {r : DataW H × List MemPlace} (h : DataW.trod enc P W 0 spare held n t cs = some r) :
    ∃ m, n = m + 1 ∧ cs.length = P.cellsOf t ∧ ∀ f ∈ fs.toList, ∃ y, DataW.trod enc P W 0 spare held m f.type ((cs.drop f.offset).take (P.cellsOf f.type)) = some y := by
  cases n with
  | zero => simp [DataW.trod] at h
  | succ n =>
    unfold DataW.trod at h
    rw [ht] at h
    split at h <;> first | (cases h; done) | skip
    all_goals rename_i e; first | (injection e with e; cases e; done) | skip
    · rename_i cs _ _ _
      injection e with e
      injection e with e
      subst e
      split at h
      case isFalse => simp at h
      rename_i hl
      refine ⟨n, rfl, hl, fun f hf => ?_⟩
      cases hm : List.mapM (fun f => DataW.trod enc P W 0 spare held n f.type (List.take (P.cellsOf f.type) (List.drop f.offset cs))) fs.toList with
      | none => rw [hm] at h; simp at h
      | some ys =>
        obtain ⟨i, hi⟩ := List.getElem?_of_mem hf
        obtain ⟨y, _, hy⟩ := (mapM_some hm).2 i f hi
        exact ⟨y, hy⟩
    · exact (‹∀ fs_1 : Array Field, some (TypeDesc.struct fs) = some (TypeDesc.struct fs_1) → False› fs rfl).elim
theorem dec_cells {a : Addr} {n : Nat} {cs : List Value} (h : W.cells? 0 a n = some cs) : cs.length = n ∧ ∀ (j : Nat) (u : Value), cs[j]? = some u → W.cell? (a.add j) = some u := by
  unfold World.cells? at h
  simp only [Nat.zero_le, if_true] at h
  obtain ⟨h1, h2⟩ := mapM_some h
  rw [List.length_range] at h1
  refine ⟨h1, fun j u hj => ?_⟩
  have hlt := (List.getElem?_eq_some_iff.1 hj).1
  obtain ⟨y, hy, hc⟩ := h2 j j (by rw [List.getElem?_range (by omega)])
  rw [hj] at hy
  cases hy
  exact hc
/-- Rows, at a plain address. -/
theorem dec_rows {X : Type} {f : X → List V} {sz b : Nat} (hb : b < W.heap.size) : ∀ (l : List X) (off : Nat), (∀ (i : Nat) (x : X), l[i]? = some x → ∃ cs : List Value, cs.length = sz ∧ SimVs g00 W (f x) cs ∧ (∀ u ∈ cs, u.oneCell' = true) ∧ ∀ (j : Nat) (u : Value), cs[j]? = some u → W.cell? ⟨b, off + i * sz + j, none⟩ = some u) →
    SimRows g00 W ⟨b, off, none⟩ sz (l.map f)
  | [], off, _ => by simp [SimRows]
  | x :: l, off, h => by
    obtain ⟨cs, h1, h2, h3, h4⟩ := h 0 x rfl
    simp only [List.map_cons, SimRows]
    have at_ : ∀ (ys : List V) (us : List Value) (o : Nat), SimVs g00 W ys us → (∀ u ∈ us, u.oneCell' = true) → (∀ (j : Nat) (u : Value), us[j]? = some u → W.cell? ⟨b, o + j, none⟩ = some u) → SimAt g00 W ⟨b, o, none⟩ ys := by
      intro ys
      induction ys with
      | nil => intro us o _ _ _; simp [SimAt]
      | cons y ys ih =>
        intro us o k1 k2 k3
        simp only [SimVs] at k1
        obtain ⟨u, r, rfl, k4, k5⟩ := k1
        simp only [SimAt]
        refine ⟨⟨u, ⟨rfl, hb, fun k hk => by cases hk⟩, by simpa using k3 0 u rfl, k2 u (by simp), k4⟩, ?_⟩
        have e1 : (Addr.mk b o none).add 1 = ⟨b, o + 1, none⟩ := Addr.add_eq rfl 1
        rw [e1]
        exact ih r (o + 1) k5 (fun v hv => k2 v (by simp [hv])) fun j v hj => by
          have := k3 (j + 1) v (by simpa using hj)
          rw [show o + (j + 1) = o + 1 + j by omega] at this; exact this
    refine ⟨by rw [← h2.length]; exact h1, at_ _ cs off h2 h3 (by simpa using h4), ?_⟩
    have e1 : (Addr.mk b off none).add sz = ⟨b, off + sz, none⟩ := Addr.add_eq rfl _
    rw [e1]
    refine dec_rows hb l (off + sz) fun i y hi => ?_
    obtain ⟨cs, k1, k2, k3, k4⟩ := h (i + 1) y (by simpa using hi)
    refine ⟨cs, k1, k2, k3, fun j u hj => ?_⟩
    have := k4 j u hj
    rw [show off + (i + 1) * sz + j = off + sz + i * sz + j by rw [Nat.succ_mul]; omega] at this
    exact this
theorem choose_list {α X : Type} {R : α → X → Prop} : ∀ (l : List α), (∀ a ∈ l, ∃ x, R a x) → ∃ m : List X, m.length = l.length ∧ ∀ (i : Nat) (a : α) (x : X), l[i]? = some a → m[i]? = some x → R a x
  | [], _ => ⟨[], rfl, fun i a x h => by simp at h⟩
  | a :: l, h => by
    obtain ⟨x, hx⟩ := h a (by simp)
    obtain ⟨m, h1, h2⟩ := choose_list l fun b hb => h b (by simp [hb])
    refine ⟨x :: m, by simp [h1], fun i b y hb hy => ?_⟩
    cases i with
    | zero => simp at hb hy; subst hb; subst hy; exact hx
    | succ i => exact h2 i b y (by simpa using hb) (by simpa using hy)

theorem dec_slice {X : Type} (f : X → List V) {sz : Nat} {e t : TypeId} (ht : P.underlying t = some (.slice e)) (hsz : P.cellsOf e = sz) (hpos : 0 < sz) {n : Nat} {cs : List Value} {r : DataW H × List MemPlace}
    (ih : ∀ m, m < n → ∀ cs r, DataW.trod enc P W 0 spare held m e cs = some r → ∃ x : X, SimVs g00 W (f x) cs ∧ ∀ u ∈ cs, u.oneCell' = true) (h : DataW.trod enc P W 0 spare held n t cs = some r) :
    ∃ (l : List X) (v : Value), cs = [v] ∧ SimV g00 W (.lst sz none (l.map f)) v ∧ v.oneCell' = true := by
  cases n with
  | zero => simp [DataW.trod] at h
  | succ n =>
    unfold DataW.trod at h
    rw [ht] at h
    split at h <;> first | (cases h; done) | skip
    all_goals rename_i e'; first | (injection e' with e'; cases e'; done) | skip
    · exact ⟨[], _, rfl, by simp only [SimV]; exact ⟨none, 0, rfl, by simp, by simp [maxLen], by simp, .inl rfl, by simp, by simp [SimRows]⟩, rfl⟩
    · rename_i a len cap
      injection e' with e'
      injection e' with e'
      subst e'
      rw [hsz] at h
      split at h
      case isFalse => cases h
      rename_i hc
      obtain ⟨_, c1, c2⟩ := hc
      refine Exists.elim (show ∃ elems, (List.range len).mapM (fun i => (W.cells? 0 (a.add (i * sz)) sz).bind (DataW.trod enc P W 0 spare held n e)) = some elems from ?_) fun elems hm => ?_
      · cases hm : (List.range len).mapM (fun i => (W.cells? 0 (a.add (i * sz)) sz).bind (DataW.trod enc P W 0 spare held n e)) with
        | none => dsimp only at h; rw [hm] at h; simp at h
        | some ys => exact ⟨ys, rfl⟩
      obtain ⟨hl, hi⟩ := mapM_some hm
      have each : ∀ i ∈ List.range len, ∃ x : X, ∃ cs : List Value, cs.length = sz ∧ SimVs g00 W (f x) cs ∧ (∀ u ∈ cs, u.oneCell' = true) ∧ ∀ (j : Nat) (u : Value), cs[j]? = some u → W.cell? ((a.add (i * sz)).add j) = some u := by
        intro i hir
        rw [List.mem_range] at hir
        obtain ⟨y, _, hy⟩ := hi i i (by rw [List.getElem?_range hir])
        cases hcs : W.cells? 0 (a.add (i * sz)) sz with
        | none => rw [hcs] at hy; simp at hy
        | some cs =>
          rw [hcs] at hy
          obtain ⟨k1, k2⟩ := dec_cells hcs
          obtain ⟨x, k3, k4⟩ := ih n (Nat.lt_succ_self n) cs y hy
          exact ⟨x, cs, k1, k3, k4, k2⟩
      obtain ⟨xs, hxl, hxs⟩ := choose_list (List.range len) each
      rw [List.length_range] at hxl
      refine ⟨xs, _, rfl, ?_, rfl⟩
      simp only [SimV]
      refine ⟨some a, cap, by rw [List.length_map, hxl], by rw [List.length_map, hxl]; exact c1, c2, by simp, ?_, by simp, ?_⟩
      · cases xs with
        | nil => exact .inl rfl
        | cons x xs =>
          right
          obtain ⟨cs, k1, _, _, k2⟩ := hxs 0 0 x (by rw [List.getElem?_range (by simp at hxl; omega)]) rfl
          have h0 : cs[0]? = some (cs[0]'(by omega)) := List.getElem?_eq_getElem _
          have := World.cell?_spot (k2 0 _ h0)
          simpa [Addr.add] using this
      · cases xs with
        | nil => simp [SimRows]
        | cons x xs =>
          obtain ⟨cs, k1, _, _, k2⟩ := hxs 0 0 x (by rw [List.getElem?_range (by simp at hxl; omega)]) rfl
          have h0 : cs[0]? = some (cs[0]'(by omega)) := List.getElem?_eq_getElem _
          have hc0 := k2 0 _ h0
          have hsp : a.spot = none := by have := World.cell?_spot hc0; simpa [Addr.add] using this
          have hblk : a.block < W.heap.size := by
            unfold World.cell? at hc0
            split at hc0
            · rename_i hh
              have := (Array.getElem?_eq_some_iff.1 hh).1
              rw [Addr.add_eq hsp, Addr.add_eq rfl] at this
              exact this
            · cases hc0
          obtain ⟨b, off, sp⟩ := a
          simp only at hsp hblk
          subst hsp
          simp only [Option.getD_some]
          refine dec_rows hblk (x :: xs) off fun i y hy => ?_
          have hil : i < len := by rw [← hxl]; exact (List.getElem?_eq_some_iff.1 hy).1
          obtain ⟨cs, j1, j2, j3, j4⟩ := hxs i i y (by rw [List.getElem?_range hil]) hy
          refine ⟨cs, j1, j2, j3, fun j u hj => ?_⟩
          have := j4 j u hj
          rw [show (Addr.mk b off none).add (i * sz) = ⟨b, off + i * sz, none⟩ from Addr.add_eq rfl _, show (Addr.mk b (off + i * sz) none).add j = ⟨b, off + i * sz + j, none⟩ from Addr.add_eq rfl _] at this
          exact this
    all_goals first | (exact (‹∀ (e_1 : TypeId) (a : Addr) (len cap : Nat), some (TypeDesc.slice e) = some (TypeDesc.slice e_1) → _ → False› e _ _ _ rfl (by assumption)).elim) | (simp at h)
end
end Go.Proofs.YtcdnooalfkbmgaaDoor.Gw

namespace Go.Proofs.YtcdnooalfkbmgaaDoor.Gw
open Go
set_option linter.unusedSimpArgs false

def numb : Nat → List (V × V) → List (Nat × V × V)
  | _, [] => []
  | n, (k, v) :: r => (n, k, v) :: numb (n + 1) r
section
variable {κ α : Type}
/-- Where a key stands, and what with. -/
def ascI [DecidableEq κ] (s : κ) : List (κ × α) → Nat → Option (Nat × α)
  | [], _ => none
  | (k, a) :: r, i => if s = k then some (i, a) else ascI s r (i + 1)
def asc [DecidableEq κ] (s : κ) : List (κ × α) → Option α
  | [] => none
  | (k, a) :: r => if s = k then some a else asc s r
/-- A key is laid in. -/
def ups [DecidableEq κ] (s : κ) (a : α) : List (κ × α) → List (κ × α)
  | [] => [(s, a)]
  | (k, b) :: r => if s = k then (s, a) :: r else (k, b) :: ups s a r
theorem ascI_snd [DecidableEq κ] (s : κ) : ∀ (l : List (κ × α)) (i : Nat), (ascI s l i).map (·.2) = asc s l
  | [], _ => rfl
  | (k, a) :: r, i => by
    simp only [ascI, asc]
    split
    · rfl
    · exact ascI_snd s r (i + 1)

def mkE (ek : κ → V) (ev : α → V) (n : Nat) (l : List (κ × α)) : List (Nat × V × V) := numb n (l.map fun p => (ek p.1, ev p.2))
def mapE (ek : κ → V) (ev : α → V) (l : List (κ × α)) : Ent := .map l.length (mkE ek ev 0 l)
/-- Keys that are told apart as they are. -/
def KeyP [DecidableEq κ] (T : Nat → TI) (k : TK) (ek : κ → V) : Prop := ∀ x y, keyEq T k (ek x) (ek y) = some (decide (x = y))
variable {ek : κ → V} {ev : α → V}
theorem mfind_mkE [DecidableEq κ] {T : Nat → TI} {k : TK} (hk : KeyP T k ek) (s : κ) : ∀ (l : List (κ × α)) (n i : Nat), mfind T k (ek s) (mkE ek ev n l) i = some ((ascI s l i).map fun p => (p.1, ev p.2))
  | [], n, i => rfl
  | (k', a) :: r, n, i => by
    have ih := mfind_mkE hk s r (n + 1) (i + 1)
    simp only [mkE] at ih
    have hk' := hk s k'
    simp only [mkE, List.map_cons, numb, mfind, hk', ascI]
    by_cases h : s = k'
    · simp [h]
    · simp [h, ih]
theorem look_mapE [DecidableEq κ] {T : Nat → TI} {k : TK} (hk : KeyP T k ek) (i : TI) (ok : Bool) (s : κ) (st : St) (l : List (κ × α)) :
    lookE T k i ok (ek s) st (some (mapE ek ev l)) = some (lookR ok (((asc s l).map ev).getD (zeroV i)) (asc s l).isSome, st, True) := by
  simp only [lookE, mapE, mfind_mkE hk, Option.map_some]
  rw [← ascI_snd s l 0]
  cases ascI s l 0 <;> rfl
theorem numb_len : ∀ (l : List (V × V)) (n : Nat), (numb n l).length = l.length
  | [], _ => rfl
  | (k, v) :: r, n => by simp [numb, numb_len r (n + 1)]
theorem mkE_len (n : Nat) (l : List (κ × α)) : (mkE ek ev n l).length = l.length := by simp [mkE, numb_len]
theorem put_none [DecidableEq κ] : ∀ (l : List (κ × α)) (s : κ) (a : α) (i n : Nat), ascI s l i = none → ups s a l = l ++ [(s, a)] ∧ mkE ek ev n (l ++ [(s, a)]) = mkE ek ev n l ++ [(n + l.length, ek s, ev a)]
  | [], s, a, i, n, _ => by simp [ups, mkE, numb]
  | (k, b) :: r, s, a, i, n, h => by
    simp only [ascI] at h
    split at h
    · cases h
    rename_i hk
    obtain ⟨h1, h2⟩ := put_none r s a (i + 1) (n + 1) h
    simp only [mkE] at h2
    refine ⟨by simp [ups, hk, h1], ?_⟩
    simp only [mkE, List.cons_append, List.map_cons, numb, h2, List.length_cons]
    rw [show n + (r.length + 1) = n + 1 + r.length by omega]
theorem put_some [DecidableEq κ] : ∀ (l : List (κ × α)) (s : κ) (a b : α) (i j n : Nat), ascI s l i = some (j, b) → (ups s a l).length = l.length ∧ i ≤ j ∧ mset (j - i) (ek s) (ev a) (mkE ek ev n l) = mkE ek ev n (ups s a l)
  | [], s, a, b, i, j, n, h => by simp [ascI] at h
  | (k, c) :: r, s, a, b, i, j, n, h => by
    simp only [ascI] at h
    split at h
    · rename_i hk
      simp only [Option.some.injEq, Prod.mk.injEq] at h
      obtain ⟨rfl, rfl⟩ := h
      simp [ups, hk, mkE, numb, mset]
    · rename_i hk
      obtain ⟨h1, h2, h3⟩ := put_some r s a b (i + 1) j (n + 1) h
      refine ⟨by simp [ups, hk, h1], by omega, ?_⟩
      simp only [mkE] at h3
      simp only [ups, hk, if_false, mkE, List.map_cons, numb]
      rw [show j - i = (j - (i + 1)) + 1 by omega]
      simp only [mset, h3]
theorem put_mapE [DecidableEq κ] {T : Nat → TI} {k : TK} (hk : KeyP T k ek) (o : Nat) (s : κ) (a : α) (st : St) (l : List (κ × α)) :
    putE T k o (ek s) (ev a) st (some (mapE ek ev l)) = some (.junk, st.set o (mapE ek ev (ups s a l)), True) := by
  simp only [putE, mapE, mfind_mkE hk, Option.map_some]
  cases h : ascI s l 0 with
  | none =>
    obtain ⟨h1, h2⟩ := put_none (ek := ek) (ev := ev) l s a 0 0 h
    simp only [Option.map_none, mput, h1, h2, List.length_append, List.length_cons, List.length_nil, Nat.zero_add]
  | some p =>
    obtain ⟨j, b⟩ := p
    obtain ⟨h1, h2, h3⟩ := put_some (ek := ek) (ev := ev) l s a b 0 j 0 h
    rw [Nat.sub_zero] at h3
    simp only [Option.map_some, mput, h1, h3]
theorem make_mapE {k e : TypeId} (ek : κ → V) (ev : α → V) (st : St) : makeMapE (.map k e) st = some (.map st.length, st ++ [mapE ek ev []], True) := rfl
theorem len_mapE (st : St) (l : List (κ × α)) : lenE st (some (mapE ek ev l)) = some (.int .i64 l.length, st, True) := by simp only [lenE, mapE, mkE_len]
theorem range_mapE (o : Nat) (st : St) (l : List (κ × α)) : rangeE o st (some (mapE ek ev l)) = some (.ptr st.length 0, st ++ [.iter o l.length []], True) := rfl

theorem mkE_mem : ∀ (l : List (κ × α)) (n : Nat) (e : Nat × V × V), e ∈ mkE ek ev n l → ∃ i a, l[i]? = some a ∧ e = (n + i, ek a.1, ev a.2)
  | [], n, e, h => by simp [mkE, numb] at h
  | (k, b) :: r, n, e, h => by
    simp only [mkE, List.map_cons, numb, List.mem_cons] at h
    rcases h with rfl | h
    · exact ⟨0, (k, b), rfl, rfl⟩
    · obtain ⟨i, a, h1, h2⟩ := mkE_mem r (n + 1) e h
      exact ⟨i + 1, a, by simpa using h1, by rw [h2, show n + 1 + i = n + (i + 1) by omega]⟩
theorem mkE_get : ∀ (l : List (κ × α)) (n i : Nat) (a : κ × α), l[i]? = some a → (n + i, ek a.1, ev a.2) ∈ mkE ek ev n l
  | [], n, i, a, h => by simp at h
  | (k, b) :: r, n, 0, a, h => by simp at h; subst h; simp [mkE, numb]
  | (k, b) :: r, n, i + 1, a, h => by
    have := mkE_get r (n + 1) i a (by simpa using h)
    simp only [mkE, List.map_cons, numb, List.mem_cons]
    right
    rw [show n + (i + 1) = n + 1 + i by omega]; exact this
/-- Whom a walk may meet. -/
def nextL (ek : κ → V) (ev : α → V) (o m : Nat) (l : List (κ × α)) (seen : List Nat) (st : St) : List (V × St) := match leftOf' (mkE ek ev 0 l) seen with
  | [] => [(.tup [.bool false], st)]
  | x => x.map fun e => (.tup [.bool true, e.2.1, e.2.2], st.set o (.iter m l.length (seen ++ [e.1])))
theorem next_mapE (o m : Nat) (seen : List Nat) (st : St) (l : List (κ × α)) : nextE o m l.length seen st (some (mapE ek ev l)) = some (nextL ek ev o m l seen st) := by
  simp only [nextE, mapE, if_true]
  rfl
/-- A walk's step: it is over, all being met; or it meets one. -/
theorem nextL_all {o m : Nat} {l : List (κ × α)} {seen : List Nat} {st : St} {X : V × St → Prop} (h0 : (∀ i, i < l.length → i ∈ seen) → X (.tup [.bool false], st))
    (h1 : ∀ i a, l[i]? = some a → i < l.length → i ∉ seen → X (.tup [.bool true, ek a.1, ev a.2], st.set o (.iter m l.length (seen ++ [i])))) : ∀ p ∈ nextL ek ev o m l seen st, X p := by
  intro p hp
  unfold nextL at hp
  split at hp
  · rename_i hn
    simp only [List.mem_singleton] at hp
    subst hp
    refine h0 fun i hi => ?_
    by_cases hs : i ∈ seen
    · exact hs
    · have := mkE_get (ek := ek) (ev := ev) l 0 i _ (List.getElem?_eq_getElem hi)
      have hm : (0 + i, ek l[i].1, ev l[i].2) ∈ leftOf' (mkE ek ev 0 l) seen := List.mem_filter.2 ⟨this, by simpa using hs⟩
      rw [hn] at hm
      simp at hm
  · obtain ⟨e, he, rfl⟩ := List.mem_map.1 hp
    obtain ⟨h2, h3⟩ := List.mem_filter.1 he
    obtain ⟨i, a, h4, rfl⟩ := mkE_mem l 0 e h2
    simp only [Nat.zero_add] at h3 ⊢
    exact h1 i a h4 (List.getElem?_eq_some_iff.1 h4).1 (by simpa using h3)
theorem entF_mkE : ∀ (l : List (κ × α)) (n i : Nat) (a : κ × α), l[i]? = some a → entF (n + i) (mkE ek ev n l) = some (ek a.1, ev a.2)
  | [], n, i, a, h => by simp at h
  | (k, b) :: r, n, 0, a, h => by simp at h; subst h; simp [mkE, numb, entF]
  | (k, b) :: r, n, i + 1, a, h => by
    have := entF_mkE r (n + 1) i a (by simpa using h)
    simp only [mkE] at this
    simp only [mkE, List.map_cons, numb, entF]
    rw [if_neg (by omega), show n + (i + 1) = n + 1 + i by omega]; exact this
theorem ent_mapE {seen : List Nat} {st : St} {l : List (κ × α)} {i : Nat} {a : κ × α} (h : l[i]? = some a) : entE l.length (seen ++ [i]) st (some (mapE ek ev l)) = some (.tup [ek a.1, ev a.2], st, True) := by
  have := entF_mkE (ek := ek) (ev := ev) l 0 i a h
  rw [Nat.zero_add] at this
  simp only [entE, mapE, if_true, List.getLast?_append, List.getLast?_singleton, Option.some_or, this, Option.map_some]
theorem mapE_lt {n : Nat} {l : List (κ × α)} (h1 : ∀ k, (ek k).lt n) (h2 : ∀ a, (ev a).lt n) : (mapE ek ev l).lt n := by
  intro e he
  obtain ⟨i, a, _, rfl⟩ := mkE_mem l 0 e he
  exact ⟨h1 _, h2 _⟩
theorem asc_mem [DecidableEq κ] {s : κ} : ∀ {l : List (κ × α)}, (asc s l).isSome = decide (s ∈ l.map (·.1))
  | [] => by simp [asc]
  | (k, a) :: r => by
    simp only [asc]
    split
    · rename_i h; simp [h]
    · rename_i h; simp [h, asc_mem (s := s) (l := r)]
end
theorem keyP_str (T : Nat → TI) : KeyP T .str V.str := fun _ _ => rfl
theorem keyP_i64 (T : Nat → TI) : KeyP T (.int .i64) (V.int .i64) := fun x y => by simp [keyEq, eqCell]
end Go.Proofs.YtcdnooalfkbmgaaDoor.Gw

namespace Go.Proofs.YtcdnooalfkbmgaaDoor.Gw
open Go
set_option linter.unusedSimpArgs false

def putG (t : Nat) (x : V) : List (Nat × Bool × V) → List (Nat × Bool × V)
  | [] => []
  | (k, b, v) :: r => (k, b, if k = t then x else v) :: putG t x r
theorem putG_find (t : Nat) (x : V) : ∀ (g : List (Nat × Bool × V)) (k : Nat), Gw.find (putG t x g) k = (Gw.find g k).map fun y => (y.1, if k = t then x else y.2)
  | [], k => rfl
  | (j, b, v) :: r, k => by
    simp only [putG, Gw.find]
    by_cases e : j = k
    · subst e; simp
    · simp only [e, if_false]
      exact putG_find t x r k
/-- What a named temporary holds may be taken for something else. -/
theorem env_put {g' : G} {w : World} {L : List Nat} {N : Nat} {g1 l : List (Nat × Bool × V)} {a : Act} {t : Nat} {v x : V} (hg : Gw.find g1 t = some (true, v)) (henv : SimEnv g' w ⟨N, g1, l⟩ a) (hok : EnvOK L ⟨N, g1, l⟩) (hx : ∀ u, SimV g' w v u → SimV g' w x u) :
    SimEnv g' w ⟨N, putG t x g1, []⟩ a ∧ EnvOK L ⟨N, putG t x g1, []⟩ := by
  have look1 : ∀ k y, Gw.find g1 k = some y → (⟨N, g1, l⟩ : Env).look k = some y := fun k y hk => (hok k y hk).2
  refine ⟨⟨henv.1, fun k b u hk => ?_⟩, fun k y hk => ?_⟩
  · simp only [Env.look, Gw.find] at hk
    rw [putG_find] at hk
    cases hf : Gw.find g1 k with
    | none => rw [hf] at hk; simp at hk
    | some y =>
      rw [hf] at hk
      simp only [Option.map_some, Option.some.injEq, Prod.mk.injEq] at hk
      have h1 := henv.2 k y.1 y.2 (by rw [look1 k y hf])
      obtain ⟨rfl, rfl⟩ := hk
      by_cases e : k = t
      · subst e
        rw [hg] at hf
        cases hf
        simp only [if_true] at h1 ⊢
        exact hx _ h1
      · rw [if_neg e]; exact h1
  · rw [putG_find] at hk
    refine ⟨?_, by simp only [Env.look, Gw.find]; rw [putG_find]; exact hk⟩
    cases hf : Gw.find g1 k with
    | none => rw [hf] at hk; simp at hk
    | some y => exact (hok k y hf).1
theorem vnilA {P : Program} {T : Nat → TI} {L : List Nat} {ds : List Deferred} {c : Code} {N : Nat} {g1 l : List (Nat × Bool × V)} {st : St} {Q : VExit → Env → St → Prop} (t : Nat) (e : TypeId) (hg : Gw.find g1 t = some (true, .nils))
    (h : VC P T L ds c ⟨N, putG t (.arr st.length 0) g1, []⟩ (st ++ [.arr e (T e).size []]) Q) : VC P T L ds c ⟨N, g1, l⟩ st Q := by
  intro g w a hst henv hok hds
  have hn := hst.n
  have hx := Ext.push g w 0 (.slice none 0 0) 0
  have hS : SimSt T (g.push 0 (.slice none 0 0) 0) (st ++ [.arr e (T e).size []]) w := hst.push ⟨rfl, by simp, [], ⟨by simp [G.push], by simp, .inl ⟨rfl, by simp [G.push]⟩⟩, by simp [SimVs], by simp⟩ (fun c hc => by simp [blkOf, G.push, Value.ownBlock] at hc)
  obtain ⟨k1, k2⟩ := env_put (x := .arr st.length 0) hg (henv.ext hx) hok fun u hu => by
    simp only [SimV] at hu ⊢
    subst hu
    exact ⟨by simp [G.push, hn], by simp [G.push, hn], fun _ => by simp [G.push, hn], none, 0, rfl⟩
  exact wp_mono (h _ w a hS k1 k2 hds) fun e a' u hL => hL.ext hx
theorem SimVs.setAt {g : G} {w : World} {x y : V} (hxy : ∀ u, SimV g w x u → SimV g w y u) : ∀ {cs : List V} {vs : List Value} {j : Nat}, cs[j]? = some x → SimVs g w cs vs → SimVs g w (cs.set j y) vs
  | [], vs, j, h, _ => by simp at h
  | c :: cs, vs, 0, h, hs => by
    simp only [List.getElem?_cons_zero, Option.some.injEq] at h
    subst h
    simp only [List.set_cons_zero, SimVs] at hs ⊢
    obtain ⟨v, r, h1, h2, h3⟩ := hs
    exact ⟨v, r, h1, hxy v h2, h3⟩
  | c :: cs, vs, j + 1, h, hs => by
    simp only [List.set_cons_succ, SimVs] at hs ⊢
    obtain ⟨v, r, h1, h2, h3⟩ := hs
    exact ⟨v, r, h1, h2, SimVs.setAt hxy (by simpa using h) h3⟩
/-- What a cell of a box holds may be taken for something else. -/
theorem SimSt.setBox {T : Nat → TI} {g : G} {w : World} {st : St} {o j : Nat} {cs : List V} {x y : V} (h : SimSt T g st w) (ho : st[o]? = some (.box cs)) (hj : cs[j]? = some x) (hxy : ∀ u, SimV g w x u → SimV g w y u) : SimSt T g (st.set o (.box (cs.set j y))) w := by
  have hlt := (List.getElem?_eq_some_iff.1 ho).1
  refine ⟨by rw [List.length_set]; exact h.n, fun i e hi => ?_, fun i k ei ek b hi hk k1 k2 => ?_, h.amb⟩
  · by_cases e' : o = i
    · subst e'
      rw [List.getElem?_set_self hlt] at hi
      cases hi
      have hb := h.ent o _ ho
      simp only [SimE] at hb ⊢
      obtain ⟨b1, vs, ty, b2, b3, b4⟩ := hb
      exact ⟨b1, vs, ty, b2, SimVs.setAt hxy hj b3, b4⟩
    · rw [List.getElem?_set_ne e'] at hi
      exact h.ent i e hi
  · have back : ∀ (i : Nat) (ei : Ent), (st.set o (.box (cs.set j y)))[i]? = some ei → blkOf g i ei = some b → ∃ e2, st[i]? = some e2 ∧ blkOf g i e2 = some b := by
      intro i ei hi hk
      by_cases e' : o = i
      · subst e'
        rw [List.getElem?_set_self hlt] at hi
        cases hi
        exact ⟨_, ho, hk⟩
      · rw [List.getElem?_set_ne e'] at hi
        exact ⟨ei, hi, hk⟩
    obtain ⟨e1, a1, a2⟩ := back i ei hi k1
    obtain ⟨e2, c1, c2⟩ := back k ek hk k2
    exact h.one i k e1 e2 b a1 c1 a2 c2
/-- A nil slice in a box may be taken for an array of nothing. -/
theorem vnilB {P : Program} {T : Nat → TI} {L : List Nat} {ds : List Deferred} {c : Code} {env : Env} {st : St} {Q : VExit → Env → St → Prop} (o j : Nat) (cs : List V) (e : TypeId) (ho : st[o]? = some (.box cs)) (hj : cs[j]? = some .nils)
    (h : VC P T L ds c env ((st ++ [Ent.arr e (T e).size []]).set o (Ent.box (cs.set j (V.arr st.length 0)))) Q) : VC P T L ds c env st Q := by
  intro g w a hst henv hok hds
  have hn := hst.n
  have hlt := (List.getElem?_eq_some_iff.1 ho).1
  have hx := Ext.push g w 0 (.slice none 0 0) 0
  have hS : SimSt T (g.push 0 (.slice none 0 0) 0) (st ++ [.arr e (T e).size []]) w := hst.push ⟨rfl, by simp, [], ⟨by simp [G.push], by simp, .inl ⟨rfl, by simp [G.push]⟩⟩, by simp [SimVs], by simp⟩ (fun c hc => by simp [blkOf, G.push, Value.ownBlock] at hc)
  have hS2 := hS.setBox (o := o) (j := j) (cs := cs) (x := .nils) (y := .arr st.length 0) (by rw [List.getElem?_append_left hlt]; exact ho) hj fun u hu => by
    simp only [SimV] at hu ⊢
    subst hu
    exact ⟨by simp [G.push, hn], by simp [G.push, hn], fun _ => by simp [G.push, hn], none, 0, rfl⟩
  exact wp_mono (h _ w a hS2 (henv.ext hx) hok hds) fun e a' u hL => hL.ext hx
/-- At a call, too. -/
theorem VCalls.nilB {P : Program} {T : Nat → TI} {f : FuncId} {args : List V} {st : St} {Q : VEnd → St → Prop} (o j : Nat) (cs : List V) (e : TypeId) (ho : st[o]? = some (.box cs)) (hj : cs[j]? = some .nils)
    (h : VCalls P T f args ((st ++ [Ent.arr e (T e).size []]).set o (Ent.box (cs.set j (V.arr st.length 0)))) Q) : VCalls P T f args st Q := by
  refine ⟨h.1, fun g w vals hst hv => ?_⟩
  have hn := hst.n
  have hlt := (List.getElem?_eq_some_iff.1 ho).1
  have hx := Ext.push g w 0 (.slice none 0 0) 0
  have hS : SimSt T (g.push 0 (.slice none 0 0) 0) (st ++ [.arr e (T e).size []]) w := hst.push ⟨rfl, by simp, [], ⟨by simp [G.push], by simp, .inl ⟨rfl, by simp [G.push]⟩⟩, by simp [SimVs], by simp⟩ (fun c hc => by simp [blkOf, G.push, Value.ownBlock] at hc)
  have hS2 := hS.setBox (o := o) (j := j) (cs := cs) (x := .nils) (y := .arr st.length 0) (by rw [List.getElem?_append_left hlt]; exact ho) hj fun u hu => by
    simp only [SimV] at hu ⊢
    subst hu
    exact ⟨by simp [G.push, hn], by simp [G.push, hn], fun _ => by simp [G.push, hn], none, 0, rfl⟩
  refine (h.2 _ w vals hS2 (SimVs.ext hx _ _ hv)).mono ?_
  rintro e' w' ⟨r, st', g', k1, k2, k3, k4⟩
  exact ⟨r, st', g', k1, k2, k3, hx.trans k4⟩
end Go.Proofs.YtcdnooalfkbmgaaDoor.Gw

namespace Go.Proofs.YtcdnooalfkbmgaaDoor.Gw
open Go
set_option linter.unusedSimpArgs false
set_option linter.unusedVariables false

section
variable {P : Program} {T : Nat → TI} {an : Nat → Nat} {L : List Nat} {ds : List Deferred}

/-- What a call comes to that panics, where what it made for itself is forgotten. -/
def GivesP (X : V) (st' : St) (r : VEnd) (s : St) : Prop := ∃ ex v su, s = su ++ ex ∧ wkSt su st' ∧ r = .panic v ∧ wk v X ∧ X.lt st'.length ∧ St.ok st'
theorem VCalls.giveP {f : FuncId} {args : List V} {st st' : St} {X : V} (h : VCalls P T f args st (GivesP X st')) (hn : st.length ≤ st'.length) : VCalls P T f args st fun r s => r = .panic X ∧ s = st' :=
  ⟨h.1, fun g w vals h1 h2 => (h.2 g w vals h1 h2).mono fun e w' ⟨r, s, g', ⟨ex, v, su, e1, e0, e2, e3, e4, e5⟩, k2, k3, k4⟩ => by
    subst e1; subst e2
    have k3 := k3.wk (e0.append (wkSt_refl ex))
    obtain ⟨val, rfl, hv⟩ := k2
    exact ⟨.panic X, st', g'.cut st'.length, ⟨rfl, rfl⟩, ⟨val, rfl, (e3.sim (nil0_no g') hv).cut e4⟩, k3.drop e5, k4.cut (by rw [h1.n]; exact hn)⟩⟩
/-- A function, by its body's condition, that panics. -/
theorem vfunP (hT : Tab P T) {f : FuncId} {fn : Func} {c : Code} (hf : P.funcs[f]? = some fn) (hb : fn.body = some c) (hnm : (fn.name == "runtime.NumGoroutine") = false) {rs : List ResultVar} (hrs : fn.results.toList = rs) {N : Nat} (hN : fn.ntmps = N)
    {args : List V} (hl : Nat.ble args.length N = true) (hL : (List.range args.length).all (memN L) = true) {st st' : St} {X : V} (hn : st.length ≤ st'.length)
    (h : St.ok st → ltL st.length args → fitL args → cK P T an L [] c ⟨N, initG 0 args, []⟩ st .done (vRet T rs (GivesP X st'))) : VCalls P T f args st fun r s => r = .panic X ∧ s = st' :=
  VCalls.giveP (vcalls hT hf hb hnm hrs hN (Nat.le_of_ble_eq_true hl) hL h) hn
theorem givesP_of {v X : V} {su st' ex : St} (hw : wk v X) (hs : wkSt su st') (h : X.lt st'.length) (hst : St.ok st') : GivesP X st' (.panic v) (su ++ ex) := ⟨ex, v, su, rfl, hs, rfl, hw, h, hst⟩
theorem givesP_self {X : V} {st : St} (h : X.lt st.length) (hst : St.ok st) : GivesP X st (.panic X) st := ⟨[], X, st, (List.append_nil _).symm, wkSt_refl st, rfl, wk_refl X, h, hst⟩
/-- A call that panics. -/
theorem VCalls.useP {f : FuncId} {args args' : List V} {st st' : St} {X : V} {dst : Option Tmp} {gc : Bool} {all : Array Oper} {os : List Oper} {env : Env} {k : Kont} {Q : VExit → Env → St → Prop}
    (h : VCalls P T f args' st fun r s => r = .panic X ∧ s = st') (hw : wkL args args') (h2 : qK P T an L ds k Q (.panic X) env st') : VCalls P T f args st (aK P T an L ds dst gc all os env k Q) :=
  (h.args hw).mono fun r s ⟨e1, e2⟩ => by subst e1; subst e2; exact h2

def ModeOf (g : G) (w : World) (u : FrameMode) : Option V → Prop
  | none => u = .returning
  | some v => ∃ val, u = .panicking [{ v := val, recovered := false }] ∧ SimV g w v val
/-- A deferred call of a function with what it has captured, of a frame that returns, or that panics with a value: it comes back, a panic is caught. -/
def VDefers (P : Program) (T : Nat → TI) (f : FuncId) (caps : List V) (x : Option V) (st st' : St) : Prop :=
  Enters P f ∧ ∀ g w (vals : List Value) u, SimSt T g st w → SimVs g w caps vals → ModeOf g w u x →
    CallsD P f vals.toArray u w fun e u' w' => (∃ z, e = .returned z) ∧ settle u' = .returning ∧ ∃ g', SimSt T g' st' w' ∧ Ext g w g' w'

theorem wpOpsS_list {ops : Array Oper} {Q : Exit → Act → List Frame → World → Prop} {QQ : Exit → Act → World → Prop} {cs : List Frame} (hq : ∀ e a w, QQ e a w → Q e a cs w) (hno : ¬ LetsOut QQ) : ∀ (l : List Oper) (k : Nat), (∀ j, l[j]? = ops[k + j]?) → ∀ (a : Act) (w : World), wpList P ops QQ l a w → wpOpsS P ops Q (List.range' k l.length) a cs w
  | [], k, _, a, w, h => by simp only [List.length_nil, List.range'_zero, wpOpsS]; exact hq _ _ _ h
  | o :: l, k, hk, a, w, h => by
    have h0 : ops[k]? = some o := by simpa using (hk 0).symm
    have ih := wpOpsS_list hq hno l (k + 1) (fun j => by have := hk (j + 1); simpa [Nat.add_assoc, Nat.add_comm 1 j] using this)
    simp only [List.length_cons, List.range'_succ, wpOpsS, h0]
    simp only [wpList] at h
    split
    · rename_i hw
      rw [if_pos hw] at h
      have h := h.resolve_right fun hh => hno hh.2
      unfold Oper.wp at h
      generalize (execOp a.eval o).run P w = r at h
      split
      · exact h.elim
      · rename_i hnot
        unfold Oper.upon at h ⊢
        split at h
        · exact ih _ _ h
        · exact ih _ _ h
        · exact ih _ _ h
        · refine h.mono fun e w' he => ?_
          cases e with
          | returned v => exact ih _ _ he
          | panicked ch => exact hq _ _ _ he
          | outgrown => exact absurd he hno
        · exact h.mono fun v w' hv => ih _ _ hv
        · exact hq _ _ _ h
        · exact h.elim
    · rename_i hw
      rw [if_neg hw] at h
      exact ih _ _ h

theorem vdefers (hT : Tab P T) {f : FuncId} {fn : Func} {id : Nat} {t : Tmp} {ats : Array TypeId} {ty : TypeId} {pos : String} {aft : Array Edge} {os : List Oper} {rest : Code} (hf : P.funcs[f]? = some fn)
    (hb : fn.body = some (.seq (.region id (⟨some t, .call ⟨.builtin .recover, #[], ats⟩, ty, pos, aft, none⟩ :: os).toArray false) rest)) (hnm : (fn.name == "runtime.NumGoroutine") = false) (hr : fn.results = #[]) {N : Nat} (hN : fn.ntmps = N) {caps : List V} (hl : Nat.ble caps.length N = true) (hL : (List.range caps.length).all (memN L) = true) (ht : t < N)
    {x : Option V} {st st' : St} (hn : st.length ≤ st'.length)
    (h : St.ok st → ltL st.length caps → fitL caps → oK P T an L [] (⟨some t, .call ⟨.builtin .recover, #[], ats⟩, ty, pos, aft, none⟩ :: os).toArray os ((⟨N, initG 0 caps, []⟩ : Env).put L (some t) true (x.getD .nili)) st (.seq rest .done)
      (fun ve _ s => (ve = .normal ∨ ve = .ret) ∧ ∃ ex su, s = su ++ ex ∧ wkSt su st' ∧ St.ok st')) : VDefers P T f caps x st st' := by
  refine ⟨⟨fn, hf, by rw [hb]; rfl, hnm⟩, fun g w vals u h1 h2 hu => callsD_of_wpS hf hb fun c0 cs hc0 => ?_⟩
  have hvl := h2.length
  have hl := Nat.le_of_ble_eq_true hl
  have henv : SimEnv g w ⟨N, initG 0 caps, []⟩ { tmps := vals.toArray ++ Array.replicate (fn.ntmps - vals.toArray.size) undef, defers := [] } := by
    refine ⟨by simp [hN]; omega, fun t c v hv => ?_⟩
    simp only [Env.look, find] at hv
    obtain ⟨_, u, hu, hx⟩ := find_initG 0 caps t _ hv
    cases hx
    obtain ⟨z, hz, hs⟩ := h2.get t (by simpa using hu)
    simp only [if_true]
    have : (vals.toArray ++ Array.replicate (fn.ntmps - vals.toArray.size) undef).getD t undef = z := by
      obtain ⟨htl, hz'⟩ := List.getElem?_eq_some_iff.1 hz
      simp [Array.getD_eq_getD_getElem?, Array.getElem?_append, htl, hz']
    rw [this]; exact hs
  have hok : EnvOK L ⟨N, initG 0 caps, []⟩ := by
    intro t x hx
    obtain ⟨_, u, hu, hx'⟩ := find_initG 0 caps t x hx
    have htl := (List.getElem?_eq_some_iff.1 hu).1
    simp only [List.all_eq_true] at hL
    exact ⟨hL t (by simpa using htl), by simpa [Env.look, find] using hx⟩
  have h := h h1.okSt (by rw [← h1.n]; exact h2.lt) h2.fit
  generalize ha0 : ({ tmps := vals.toArray ++ Array.replicate (fn.ntmps - vals.toArray.size) undef, defers := [] } : Act) = a0 at henv ⊢
  have hd0 : a0.defers = [] := by rw [← ha0]
  have main : ∀ (val : Value) (cs' : List Frame) (u' : FrameMode), cs' = { c0 with mode := u' } :: cs → settle u' = .returning → SimV g w (x.getD .nili) val →
      wpOpsS P (⟨some t, .call ⟨.builtin .recover, #[], ats⟩, ty, pos, aft, none⟩ :: os).toArray (Exit.thenS (rest.wpS P (bodyPostS P fn c0 cs fun e u' w' => (∃ z, e = .returned z) ∧ settle u' = .returning ∧ ∃ g', SimSt T g' st' w' ∧ Ext g w g' w')) (bodyPostS P fn c0 cs fun e u' w' => (∃ z, e = .returned z) ∧ settle u' = .returning ∧ ∃ g', SimSt T g' st' w' ∧ Ext g w g' w')) (List.range' 1 os.length) (a0.put (some t) val) cs' w := by
    intro val cs' u' hcs hset hval
    have hp := henv.put (L := L) (some t) ht (c := true) (v := x.getD .nili) (val := val) (by simpa using hval)
    have hd1 : (a0.put (some t) val).defers = [] := by simpa [Act.put] using hd0
    have hs := vOps_sound (ds := []) hT os _ st g w _ (Ext.refl g w) h1 hp (hok.put _ _ _) hd1 h
    have done : ∀ (e : Exit) (a' : Act) (w' : World) (g' : G) (s : St), a'.defers = [] → (e = .normal ∨ e = .ret) → (∃ ex su, s = su ++ ex ∧ wkSt su st' ∧ St.ok st') → SimSt T g' s w' → Ext g w g' w' → bodyPostS P fn c0 cs (fun e u' w' => (∃ z, e = .returned z) ∧ settle u' = .returning ∧ ∃ g', SimSt T g' st' w' ∧ Ext g w g' w') e a' cs' w' := by
      rintro e a' w' g' s hd he ⟨ex, su, rfl, e0, e5⟩ k3 k4
      have k3 := k3.wk (e0.append (wkSt_refl ex))
      have : a'.defers = [] ∧ ∃ u', cs' = { c0 with mode := u' } :: cs ∧ ∃ v, (results fn a'.tmps).run P w' = .ok v w' ∧ ((∃ z, Ending.returned v = .returned z) ∧ settle u' = .returning ∧ ∃ g', SimSt T g' st' w' ∧ Ext g w g' w') := by
        refine ⟨hd, u', hcs, .tuple #[], ?_, ⟨_, rfl⟩, hset, _, k3.drop e5, k4.cut (by rw [h1.n]; exact hn)⟩
        rw [results_eq, hr]
        simp
      rcases he with rfl | rfl <;> exact this
    refine wpOpsS_list (QQ := Lift T L [] g w _) ?_ ?_ os 1 (fun j => by simp [Nat.add_comm 1 j]) _ _ hs
    · rintro e a' w' ⟨ve, env', s, g', k1, k2, k3, k4, k5, k6, k7⟩
      cases ve with
      | normal =>
        simp only [SimExit] at k2; subst k2
        refine wpS_of_wp (wp_mono (vCode_sound hT rest env' s _ k1 g' w' a' k6 k3 k4 k5) ?_)
        rintro e2 a2 w2 ⟨ve2, env2, s2, g2, m1, m2, m3, m4, m5, m6, m7⟩
        obtain ⟨hve, hex⟩ := m1
        refine done e2 a2 w2 g2 s2 m5 ?_ hex m6 (k7.trans m7)
        rcases hve with rfl | rfl
        · simp only [SimExit] at m2; exact .inl m2
        · simp only [SimExit] at m2; exact .inr m2
      | exit i => exact absurd k1.1 (by simp)
      | ret =>
        simp only [SimExit] at k2; subst k2
        exact done .ret a' w' g' s k5 (.inr rfl) k1.2 k6 k7
      | panic v => exact absurd k1.1 (by simp)
    · rintro ⟨a', w', ve, env', s, g', k1, k2, _⟩
      cases ve <;> simp [SimExit] at k2
  apply wpS_seq
  apply wpS_region
  have hsz : List.range (⟨some t, .call ⟨.builtin .recover, #[], ats⟩, ty, pos, aft, none⟩ :: os : List Oper).toArray.size = 0 :: List.range' 1 os.length := by
    rw [List.range_eq_range']; simp [List.range'_succ]
  rw [hsz]
  have hrun : (execOp a0.eval ⟨some t, .call ⟨.builtin .recover, #[], ats⟩, ty, pos, aft, none⟩).run P w = .ok .recover w := by simp [go_sem]
  simp only [wpOpsS, List.getElem?_toArray, List.getElem?_cons_zero]
  rw [if_pos (by simp [Region.wanted]), hrun]
  simp only [recoverD, hc0]
  cases x with
  | none =>
    simp only [ModeOf] at hu
    subst hu
    simp only
    exact main .nilIface (c0 :: cs) .returning (by cases c0; simp at hc0; simp [hc0]) rfl (by simp [SimV])
  | some v =>
    obtain ⟨val, rfl, hv⟩ := hu
    simp only
    exact main val _ _ rfl (by simp [settle]) hv
end
end Go.Proofs.YtcdnooalfkbmgaaDoor.Gw

namespace Go.Proofs.YtcdnooalfkbmgaaDoor.Gw
open Go
set_option linter.unusedSimpArgs false
set_option linter.unusedVariables false

section
variable {P : Program} {T : Nat → TI} {an : Nat → Nat} {L : List Nat}

def RW (T : Nat → TI) (Q : VEnd → St → Prop) (g0 : G) (w0 : World) (e : Ending) (w' : World) : Prop := ∃ r st' g', Q r st' ∧ SimEnd g' w' r e ∧ SimSt T g' st' w' ∧ Ext g0 w0 g' w'
/-- What a body comes to, with whatever it defers. -/
def WA (P : Program) (T : Nat → TI) (L : List Nat) (fn : Func) (Q : VEnd → St → Prop) (c : Code) (env : Env) (st : St) : Prop :=
  ∀ g w a g0 w0, Ext g0 w0 g w → SimSt T g st w → SimEnv g w env a → EnvOK L env → a.defers = [] → c.wp P (bodyPostD P fn (RW T Q g0 w0)) a w

theorem results_run (hT : Tab P T) {fn : Func} {rs : List ResultVar} (hrs : fn.results.toList = rs) {Q : VEnd → St → Prop} {env : Env} {st : St} {g : G} {w : World} {g0 : G} {w0 : World} {a : Act} (k3 : SimEnv g w env a) (k6 : SimSt T g st w) (k7 : Ext g0 w0 g w)
    (hr : bindO (resV T env st rs) fun r => r.2 ∧ Q (.ret (tupV r.1)) st) : ∃ v, (results fn a.tmps).run P w = .ok v w ∧ RW T Q g0 w0 (.returned v) w := by
  unfold bindO at hr
  split at hr
  case h_2 => exact hr.elim
  rename_i r hres
  obtain ⟨vs, side⟩ := r
  obtain ⟨hs, hq⟩ := hr
  obtain ⟨vals', m1, m2⟩ := resV_sound hT k6 k3 hres hs
  have hrun : (results fn a.tmps).run P w = .ok (if h : vals'.toArray.size = 1 then vals'.toArray[0] else .tuple vals'.toArray) w := by
    rw [results_eq, Array.mapM_eq_mapM_toList, hrs]
    simp only [Sem.run_bind, Sem.run_map, m1, Result.andThen_ok, Sem.run_pure]
  refine ⟨_, hrun, .ret (tupV vs), st, g, hq, ⟨_, rfl, ?_⟩, k6, k7⟩
  have hlen := m2.length
  match vs, m2, hlen with
  | [], m2, hlen =>
    have : vals' = [] := by simpa using hlen
    subst this
    simp only [tupV, SimV]; exact ⟨[], by simp, m2⟩
  | [v], m2, hlen =>
    simp only [SimVs] at m2
    obtain ⟨u, r, rfl, m3, rfl⟩ := m2
    simpa [tupV] using m3
  | v :: v2 :: vs, m2, hlen =>
    have hne : ¬ vals'.toArray.size = 1 := by simp [hlen]
    simp only [hne, dite_false, tupV, SimV]
    exact ⟨vals', rfl, m2⟩

/-- What comes behind a first part. -/
def wQ (P : Program) (T : Nat → TI) (L : List Nat) (fn : Func) (rs : List ResultVar) (Q : VEnd → St → Prop) (y : Code) : VExit → Env → St → Prop
  | .normal, env, st => WA P T L fn Q y env st
  | e, env, st => vRet T rs Q e env st
theorem wQ_normal {fn : Func} {rs : List ResultVar} {Q : VEnd → St → Prop} {y : Code} {env : Env} {st : St} : wQ P T L fn rs Q y .normal env st = WA P T L fn Q y env st := rfl
theorem wQ_ret {fn : Func} {rs : List ResultVar} {Q : VEnd → St → Prop} {y : Code} {env : Env} {st : St} : wQ P T L fn rs Q y .ret env st = vRet T rs Q .ret env st := rfl
theorem wQ_panic {fn : Func} {rs : List ResultVar} {Q : VEnd → St → Prop} {y : Code} {env : Env} {st : St} {v : V} : wQ P T L fn rs Q y (.panic v) env st = vRet T rs Q (.panic v) env st := rfl

theorem waSeq (hT : Tab P T) {fn : Func} {rs : List ResultVar} (hrs : fn.results.toList = rs) {Q : VEnd → St → Prop} {x y : Code} {env : Env} {st : St} (h : cK P T an L [] x env st .done (wQ P T L fn rs Q y)) : WA P T L fn Q (.seq x y) env st := by
  intro g w a g0 w0 hx h1 h2 h3 h4
  refine wp_seq (wp_mono (vCode_sound hT x env st _ h g w a h1 h2 h3 h4) ?_)
  rintro e a' w' ⟨ve, env', st', g', k1, k2, k3, k4, k5, k6, k7⟩
  cases ve with
  | normal =>
    simp only [SimExit] at k2; subst k2
    exact k1 g' w' a' g0 w0 (hx.trans k7) k6 k3 k4 k5
  | exit i => exact k1.elim
  | ret =>
    simp only [SimExit] at k2; subst k2
    show Leaves P fn a'.tmps _ a'.defers .returning w'
    rw [k5]
    exact results_run hT hrs k3 k6 (hx.trans k7) k1
  | panic v =>
    obtain ⟨val, rfl, hv⟩ := k2
    show Leaves P fn a'.tmps _ a'.defers (.panicking _) w'
    rw [k5]
    exact ⟨.panic v, st', g', k1, ⟨val, rfl, hv⟩, k6, hx.trans k7⟩

/-- What follows a body that has deferred a closure. -/
def dQ (P : Program) (T : Nat → TI) (k : FuncId) (vs : List V) (rs : List ResultVar) (Q : VEnd → St → Prop) : VExit → Env → St → Prop
  | .normal, env, st => ∃ st2, VDefers P T k vs none st st2 ∧ bindO (resV T env st2 rs) fun r => r.2 ∧ Q (.ret (tupV r.1)) st2
  | .ret, env, st => ∃ st2, VDefers P T k vs none st st2 ∧ bindO (resV T env st2 rs) fun r => r.2 ∧ Q (.ret (tupV r.1)) st2
  | .panic v, env, st => ∃ st2, VDefers P T k vs (some v) st st2 ∧ bindO (resV T env st2 rs) fun r => r.2 ∧ Q (.ret (tupV r.1)) st2
  | .exit _, _, _ => False
theorem dQ_ret {k : FuncId} {vs : List V} {rs : List ResultVar} {Q : VEnd → St → Prop} {env : Env} {st st2 : St} (h : VDefers P T k vs none st st2) (h2 : bindO (resV T env st2 rs) fun r => r.2 ∧ Q (.ret (tupV r.1)) st2) : dQ P T k vs rs Q .ret env st := ⟨st2, h, h2⟩
theorem dQ_normal {k : FuncId} {vs : List V} {rs : List ResultVar} {Q : VEnd → St → Prop} {env : Env} {st st2 : St} (h : VDefers P T k vs none st st2) (h2 : bindO (resV T env st2 rs) fun r => r.2 ∧ Q (.ret (tupV r.1)) st2) : dQ P T k vs rs Q .normal env st := ⟨st2, h, h2⟩
theorem dQ_panic {k : FuncId} {vs : List V} {rs : List ResultVar} {Q : VEnd → St → Prop} {env : Env} {st st2 : St} {v : V} (h : VDefers P T k vs (some v) st st2) (h2 : bindO (resV T env st2 rs) fun r => r.2 ∧ Q (.ret (tupV r.1)) st2) : dQ P T k vs rs Q (.panic v) env st := ⟨st2, h, h2⟩

theorem run_invoke {k : FuncId} (he : Enters P k) (caps : List Value) (w : World) : (invoke (.fn (.func k) caps.toArray) #[]).run P w = .ok (.enter k caps.toArray) w := by
  obtain ⟨fn, e1, e2, e3⟩ := he
  have e2' : ¬ fn.body = none := by intro hb; rw [hb] at e2; simp at e2
  have e3' : ¬ fn.name = "runtime.NumGoroutine" := by simpa using e3
  simp [invoke, callFunc, e1, e2', e3']

theorem waDefer (hT : Tab P T) {fn : Func} {rs : List ResultVar} (hrs : fn.results.toList = rs) {Q : VEnd → St → Prop} {id : Nat} {t : Tmp} {k : FuncId} {cap : List Operand} {ty ty2 : TypeId} {pos pos2 : String} {aft aft2 : Array Edge} {dst2 : Option Tmp} {ats : Array TypeId} {y : Code} {N : Nat} {g1 l1 : List (Nat × Bool × V)} {st : St} (vs : List V)
    (he : Enters P k) (ht : t < N) (hd2 : dst2 = none) (hvs : cap.map (evG ⟨N, g1, []⟩ true) = vs) (h : ∀ d, cK P T an L [d] y ((⟨N, g1, []⟩ : Env).put L (some t) true (.fn (.func k) vs)) st .done (dQ P T k vs rs Q)) :
    WA P T L fn Q (.seq (.region id (List.toArray [⟨some t, .makeFunc (.func k) (List.toArray []) cap.toArray, ty, pos, aft, none⟩, ⟨dst2, .defer ⟨.value (.tmp t), (List.toArray []), ats⟩, ty2, pos2, aft2, none⟩]) false) y) ⟨N, g1, l1⟩ st := by
  subst hd2
  intro g w a g0 w0 hx h1 h2 h3 h4
  have h2' := h2.loc h3
  have h3' := h3.loc
  simp only at h2' h3'
  obtain ⟨cvals, hc1, hc2⟩ : ∃ cvals : List Value, cap.map a.eval = cvals ∧ SimVs g w vs cvals := ⟨_, rfl, by rw [← hvs]; exact evs_sim (fun x => evG_sim h2' rfl x) cap⟩
  have hfn : SimV g w (.fn (.func k) vs) (.func (.func k) #[] cvals.toArray) := by simp only [SimV]; exact ⟨cvals, rfl, hc2⟩
  have hp := h2'.put (L := L) (some t) ht (c := true) (v := .fn (.func k) vs) (val := .func (.func k) #[] cvals.toArray) (by simpa using hfn)
  have hok := h3'.put (L := L) (some t) true (.fn (.func k) vs)
  refine wp_seq (wp_region_lit ?_)
  have hta : (a.put (some t) (Value.func (.func k) #[] cvals.toArray)).eval (.tmp t) = .func (.func k) #[] cvals.toArray := by
    have hsz := h2'.1
    simp only at hsz
    simp [Act.eval, Act.put, Array.getD_eq_getD_getElem?, hsz, ht]
  refine wpList_step fun K hK => ?_
  rw [if_pos (by simp [Region.wanted])]
  have hr1 : (execOp a.eval ⟨some t, .makeFunc (.func k) (List.toArray []) cap.toArray, ty, pos, aft, none⟩).run P w = .ok (.value (.func (.func k) #[] cvals.toArray)) w := by
    rw [← hc1]
    simp [execOp, Instr.makeFunc]
  unfold Oper.wp Oper.upon
  rw [hr1]
  refine hK _ _ ?_
  refine wpList_step fun K hK => ?_
  rw [if_pos (by simp [Region.wanted])]
  have hr2 : (execOp (a.put (some t) (Value.func (.func k) #[] cvals.toArray)).eval ⟨none, .defer ⟨.value (.tmp t), (List.toArray []), ats⟩, ty2, pos2, aft2, none⟩).run P w = .ok (.defer ⟨.fn (.func k) cvals.toArray, #[]⟩) w := by
    simp [execOp, resolve, hta, Deferred.ofValue]
  unfold Oper.wp Oper.upon
  simp only at hr2 ⊢
  rw [hr2]
  refine hK _ _ ?_
  show y.wp P _ _ w
  have hds : ({ (a.put (some t) (Value.func (.func k) #[] cvals.toArray)) with defers := ⟨.fn (.func k) cvals.toArray, #[]⟩ :: (a.put (some t) (Value.func (.func k) #[] cvals.toArray)).defers } : Act).put none undef = { (a.put (some t) (Value.func (.func k) #[] cvals.toArray)) with defers := [⟨.fn (.func k) cvals.toArray, #[]⟩] } := by
    simp [Act.put, h4]
  rw [hds]
  refine wp_mono (vCode_sound hT y _ st _ (h ⟨.fn (.func k) cvals.toArray, #[]⟩) g w _ h1 ⟨hp.1, hp.2⟩ hok rfl) ?_
  rintro e a' w' ⟨ve, env', st', g', k1, k2, k3, k4, k5, k6, k7⟩
  have hc3 : SimVs g' w' vs cvals := hc2.ext k7
  have fin : ∀ (u : FrameMode) (x : Option V) (st2 : St), u ≠ .run → ModeOf g' w' u x → VDefers P T k vs x st' st2 → (bindO (resV T env' st2 rs) fun r => r.2 ∧ Q (.ret (tupV r.1)) st2) → Leaves P fn a'.tmps (RW T Q g0 w0) a'.defers u w' := by
    intro u x st2 hur hu hv hres
    rw [k5]
    refine leaves_cons hur (run_invoke he cvals w') ((hv.2 g' w' cvals u k6 hc3 hu).mono ?_)
    rintro e2 u' w2 ⟨⟨z, rfl⟩, hset, g2, m1, m2⟩
    simp only
    rw [hset]
    exact results_run hT hrs (k3.ext m2) m1 ((hx.trans k7).trans m2) hres
  cases ve with
  | normal =>
    simp only [SimExit] at k2; subst k2
    obtain ⟨st2, q1, q2⟩ := k1
    exact fin .returning none st2 (by simp) rfl q1 q2
  | exit i => exact k1.elim
  | ret =>
    simp only [SimExit] at k2; subst k2
    obtain ⟨st2, q1, q2⟩ := k1
    exact fin .returning none st2 (by simp) rfl q1 q2
  | panic v =>
    obtain ⟨val, rfl, hv⟩ := k2
    obtain ⟨st2, q1, q2⟩ := k1
    exact fin _ (some v) st2 (by simp) ⟨val, rfl, hv⟩ q1 q2

/-- A function that may defer. -/
theorem vfunD (hT : Tab P T) {f : FuncId} {fn : Func} {c : Code} (hf : P.funcs[f]? = some fn) (hb : fn.body = some c) (hnm : (fn.name == "runtime.NumGoroutine") = false) {N : Nat} (hN : fn.ntmps = N)
    {args : List V} (hl : Nat.ble args.length N = true) (hL : (List.range args.length).all (memN L) = true) {st : St} {Q : VEnd → St → Prop}
    (h : St.ok st → ltL st.length args → fitL args → WA P T L fn Q c ⟨N, initG 0 args, []⟩ st) : VCalls P T f args st Q := by
  refine ⟨⟨fn, hf, by rw [hb]; rfl, hnm⟩, fun g w vals h1 h2 => calls_of_wp_defers hf hb ?_⟩
  have hvl := h2.length
  have hl := Nat.le_of_ble_eq_true hl
  have henv : SimEnv g w ⟨N, initG 0 args, []⟩ { tmps := vals.toArray ++ Array.replicate (fn.ntmps - vals.toArray.size) undef, defers := [] } := by
    refine ⟨by simp [hN]; omega, fun t c v hv => ?_⟩
    simp only [Env.look, find] at hv
    obtain ⟨_, u, hu, hx⟩ := find_initG 0 args t _ hv
    cases hx
    obtain ⟨z, hz, hs⟩ := h2.get t (by simpa using hu)
    simp only [if_true]
    have : (vals.toArray ++ Array.replicate (fn.ntmps - vals.toArray.size) undef).getD t undef = z := by
      obtain ⟨htl, hz'⟩ := List.getElem?_eq_some_iff.1 hz
      simp [Array.getD_eq_getD_getElem?, Array.getElem?_append, htl, hz']
    rw [this]; exact hs
  have hok : EnvOK L ⟨N, initG 0 args, []⟩ := by
    intro t x hx
    obtain ⟨_, u, hu, hx'⟩ := find_initG 0 args t x hx
    have htl := (List.getElem?_eq_some_iff.1 hu).1
    simp only [List.all_eq_true] at hL
    exact ⟨hL t (by simpa using htl), by simpa [Env.look, find] using hx⟩
  exact h h1.okSt (by rw [← h1.n]; exact h2.lt) h2.fit g w _ g w (Ext.refl g w) h1 henv hok rfl
end
end Go.Proofs.YtcdnooalfkbmgaaDoor.Gw

namespace Go.Proofs.YtcdnooalfkbmgaaDoor.Gw
open Go
set_option linter.unusedSimpArgs false
set_option linter.unusedVariables false

section
variable (P : Program) (T : Nat → TI) (an : Nat → Nat) (L : List Nat) (ss : List St)

def memIs (r : Step) (gc : Bool) (s : St) (v : V) : Prop := match r with
  | .mem v' s' side => v' = v ∧ s' = s ∧ (gc = true → side)
  | _ => False
def stillK (step : St → Step) (gc : Bool) : List St → V → Prop
  | [], _ => True
  | s :: r, v => memIs (step s) gc s v ∧ stillK step gc r v
theorem stillK_mem {step : St → Step} {gc : Bool} {v : V} : ∀ {l : List St}, stillK step gc l v → ∀ s ∈ l, memIs (step s) gc s v
  | [], _, s, h => by simp at h
  | a :: l, h, s, hs => by
    rcases List.mem_cons.1 hs with rfl | hs
    · exact h.1
    · exact stillK_mem h.2 s hs

/-- Classes: 0, 1, 2 as they were; 3: it looks at what is the same in all states of ss; 4: a call from one of these to another one. -/
def dFun3 (step : St → Step) (gc : Bool) (cl : Nat) (st : St) (v : V) (st' : St) : Prop :=
  match cl with
  | 3 => st' = st ∧ memIs (step st) gc st v ∧ stillK step gc ss v
  | 4 => st ∈ ss ∧ st' ∈ ss ∧ gc = true ∧ ∃ f args, step st = .call f args ∧ VCalls P T f args st fun r s' => r = .ret v ∧ s' = st'
  | cl => dFun P T (step st) gc cl st v st'

def dStep3 (step : St → Step) (gc : Bool) (cl : Nat) (st : St) (K : V → St → Prop) : Prop := ∃ v st', dFun3 P T ss step gc cl st v st' ∧ K v st'

def dOps3 (all : Array Oper) : List (Oper × Nat) → Env → St → (VExit → Env → St → Prop) → Prop
  | [], env, st, Q => Q .normal env st
  | (o, cl) :: os, env, st, Q => bindO (guardV all env o.guard) fun gc => okDstB env.N o.dst ∧
      dStep3 P T ss (fun s => stepOp T an o.dst o.op gc env s) gc cl st fun v st' => dOps3 all os (env.put L o.dst gc v) st' Q
variable {P T an L ss}

theorem dOps3_same {all : Array Oper} {Q : VExit → Env → St → Prop} : ∀ (os : List (Oper × Nat)) (e e' : Env) (st : St), e.same e' → EnvOK L e → dOps3 P T an L ss all os e st Q → dOps3 P T an L ss all os e' st (Qe L Q)
  | [], e, e', st, h, hok, hd => ⟨e, h, hok, hd⟩
  | (o, cl) :: os, e, e', st, h, hok, hd => by
    simp only [dOps3] at hd ⊢
    rw [← guardV_same h]
    unfold bindO at hd ⊢
    split at hd
    · rename_i gc hg
      obtain ⟨h1, h2⟩ := hd
      refine ⟨by rw [← h.1]; exact h1, ?_⟩
      have : (fun s => stepOp T an o.dst o.op gc e' s) = fun s => stepOp T an o.dst o.op gc e s := funext fun s => (stepOp_same h).symm
      rw [this]
      obtain ⟨v, st', k1, k2⟩ := h2
      exact ⟨v, st', k1, dOps3_same os _ _ _ (h.put _ _ _) (hok.put _ _ _) k2⟩
    · exact hd

theorem dOps3_mono {all : Array Oper} {Q Q' : VExit → Env → St → Prop} (hq : ∀ e env st, Q e env st → Q' e env st) : ∀ (os : List (Oper × Nat)) (e : Env) (st : St), dOps3 P T an L ss all os e st Q → dOps3 P T an L ss all os e st Q'
  | [], e, st, h => hq _ _ _ h
  | (o, cl) :: os, e, st, h => by
    simp only [dOps3] at h ⊢
    unfold bindO at h ⊢
    split at h
    · obtain ⟨h1, v, st', k1, k2⟩ := h
      exact ⟨h1, v, st', k1, dOps3_mono hq os _ _ k2⟩
    · exact h

/-- May two operations be done in either order? -/
def indep3 (all : Array Oper) (x y : Oper × Nat) : Bool :=
  x.1.apart all y.1 && !(x.2 == 2 && y.2 != 0) && !(y.2 == 2 && x.2 != 0) && !(x.2 == 4 && y.2 != 0 && y.2 != 3) && !(y.2 == 4 && x.2 != 0 && x.2 != 3) && Nat.blt x.2 5 && Nat.blt y.2 5

theorem dFun3_still {step : St → Step} {gc : Bool} {cl : Nat} {s s' : St} {v : V} (hf : dFun3 P T ss step gc cl s v s') (h2 : cl ≠ 2) (h4 : cl ≠ 4) (h5 : cl < 5) : s' = s := by
  match cl, hf, h2, h4, h5 with
  | 0, hf, _, _, _ =>
    simp only [dFun3] at hf
    unfold dFun at hf
    split at hf
    · exact hf.2.1
    · rcases hf.2.2.2.1 with h | h
      · cases h
      · obtain ⟨_, rfl, _⟩ := hf; exact h.2
    · exact hf.1
    · exact hf.elim
  | 1, hf, _, _, _ =>
    simp only [dFun3] at hf
    unfold dFun at hf
    split at hf
    · exact hf.2.1
    · rcases hf.2.2.2.1 with h | h
      · cases h
      · obtain ⟨_, rfl, _⟩ := hf; exact h.2
    · exact hf.1
    · exact hf.elim
  | 2, _, h, _, _ => exact absurd rfl h
  | 3, hf, _, _, _ => exact hf.1
  | 4, _, _, h, _ => exact absurd rfl h
  | n + 5, _, _, _, h => omega

theorem dFun3_free {dst : Option Tmp} {op : Op} {gc : Bool} {e : Env} {s s' : St} {v : V} (hf : dFun3 P T ss (fun s => stepOp T an dst op gc e s) gc 0 s v s') (s2 : St) : dFun3 P T ss (fun s => stepOp T an dst op gc e s) gc 0 s2 v s2 := by
  simp only [dFun3] at hf ⊢
  generalize hr : stepOp T an dst op gc e s = r at hf
  unfold dFun at hf
  split at hf
  · rw [stepOp_pure hr s2]; exact ⟨hf.1, rfl, hf.2.2⟩
  · obtain ⟨_, _, _, h4, _⟩ := hf
    rcases h4 with h4 | ⟨h4, _⟩ <;> cases h4
  · rw [stepOp_call hr s2]; exact ⟨rfl, hf.2⟩
  · exact hf.elim

theorem dOps3_front {all : Array Oper} {Q : VExit → Env → St → Prop} (i : Oper × Nat) (post : List (Oper × Nat)) : ∀ (pre : List (Oper × Nat)) (e : Env) (st : St), (∀ x ∈ pre, indep3 all x i = true) → EnvOK L e →
    dOps3 P T an L ss all (pre ++ i :: post) e st Q → dOps3 P T an L ss all (i :: (pre ++ post)) e st (Qe L Q)
  | [], e, st, _, hok, h => dOps3_same _ e e st ⟨rfl, fun _ => rfl⟩ hok h
  | x :: pre, e, st, hi, hok, h => by
    have hxi := hi x (by simp)
    simp only [indep3, Bool.and_eq_true, Bool.not_eq_true', Bool.and_eq_false_iff, beq_eq_false_iff_ne, bne_eq_false_iff_eq, Nat.blt_eq] at hxi
    obtain ⟨⟨⟨⟨⟨⟨hap, hc1⟩, hc2⟩, hc3⟩, hc4⟩, hlx⟩, hli⟩ := hxi
    obtain ⟨a1, a2, a3⟩ := Oper.apart_spec hap
    obtain ⟨ox, cx⟩ := x
    obtain ⟨oi, ci⟩ := i
    simp only at hc1 hc2 hc3 hc4 a1 a2 a3 hlx hli
    rw [List.cons_append] at h
    simp only [dOps3] at h
    unfold bindO at h
    split at h
    case h_2 => exact h.elim
    rename_i gx hgx
    obtain ⟨hdx, vx, st1, fx, h⟩ := h
    have h := dOps3_front (oi, ci) post pre _ st1 (fun y hy => hi y (by simp [hy])) (hok.put _ _ _) h
    simp only [dOps3] at h
    unfold bindO at h
    split at h
    case h_2 => exact h.elim
    rename_i gi hgi
    obtain ⟨hdi, vi, st2, fi, h⟩ := h
    rw [guardV_put a1] at hgi
    have fi : dFun3 P T ss (fun s => stepOp T an oi.dst oi.op gi e s) gi ci st1 vi st2 := by
      have : (fun s => stepOp T an oi.dst oi.op gi (e.put L ox.dst gx vx) s) = fun s => stepOp T an oi.dst oi.op gi e s := funext fun s => stepOp_put a1
      rw [this] at fi; exact fi
    rw [put_N] at hdi
    have hsame : ((e.put L ox.dst gx vx).put L oi.dst gi vi).same ((e.put L oi.dst gi vi).put L ox.dst gx vx) := by
      refine ⟨by simp only [put_N], fun t => ?_⟩
      simp only [put_look]
      by_cases h1 : oi.dst = some t
      · by_cases h2 : ox.dst = some t
        · exact absurd h1 (a2 t h2)
        · simp [h1, h2]
      · by_cases h2 : ox.dst = some t <;> simp [h1, h2]
    have h := dOps3_same _ _ _ _ hsame ((hok.put _ _ _).put _ _ _) h
    have swap : ∃ s1, dFun3 P T ss (fun s => stepOp T an oi.dst oi.op gi e s) gi ci st vi s1 ∧ dFun3 P T ss (fun s => stepOp T an ox.dst ox.op gx e s) gx cx s1 vx st2 := by
      by_cases hx2 : cx = 2
      · have hi0 : ci = 0 := hc1.resolve_left (fun h => h hx2)
        subst hi0
        have e1 := dFun3_still fi (by decide) (by decide) (by decide)
        subst e1
        exact ⟨st, dFun3_free fi st, fx⟩
      · by_cases hx4 : cx = 4
        · subst hx4
          have hi03 : ci = 0 ∨ ci = 3 := by
            rcases hc3 with (h | h) | h
            · exact absurd rfl h
            · exact .inl h
            · exact .inr h
          rcases hi03 with rfl | rfl
          · have e1 := dFun3_still fi (by decide) (by decide) (by decide)
            subst e1
            exact ⟨st, dFun3_free fi st, fx⟩
          · have e1 := fi.1
            subst e1
            exact ⟨st, ⟨rfl, stillK_mem fi.2.2 st fx.1, fi.2.2⟩, fx⟩
        · have e1 := dFun3_still fx hx2 hx4 hlx
          subst e1
          by_cases hi2 : ci = 2
          · have hx0 : cx = 0 := hc2.resolve_left (fun h => h hi2)
            subst hx0
            exact ⟨st2, fi, dFun3_free fx st2⟩
          · by_cases hi4 : ci = 4
            · subst hi4
              have hx03 : cx = 0 ∨ cx = 3 := by
                rcases hc4 with (h | h) | h
                · exact absurd rfl h
                · exact .inl h
                · exact .inr h
              rcases hx03 with rfl | rfl
              · exact ⟨st2, fi, dFun3_free fx st2⟩
              · exact ⟨st2, fi, ⟨rfl, stillK_mem fx.2.2 st2 fi.2.1, fx.2.2⟩⟩
            · have e2 := dFun3_still fi hi2 hi4 hli
              subst e2
              exact ⟨st2, fi, fx⟩
    obtain ⟨s1, k1, k2⟩ := swap
    simp only [dOps3]
    rw [hgi]
    refine ⟨hdi, vi, s1, k1, ?_⟩
    rw [List.cons_append]
    simp only [dOps3]
    rw [guardV_put a3, hgx]
    refine ⟨by rw [put_N]; exact hdx, vx, st2, ?_, dOps3_mono hmonoQ _ _ _ h⟩
    have : (fun s => stepOp T an ox.dst ox.op gx (e.put L oi.dst gi vi) s) = fun s => stepOp T an ox.dst ox.op gx e s := funext fun s => stepOp_put a3
    rw [this]; exact k2

variable {ds : List Deferred}
theorem dstep3_sem (hT : Tab P T) {all : Array Oper} {g : G} {w : World} {st st' : St} {env : Env} {a : Act} (hst : SimSt T g st w) (henv : SimEnv g w env a) (hok : EnvOK L env) (hds : a.defers = ds) {o : Oper} {gc : Bool} {cl : Nat} {v : V}
    (hgc : guardV all env o.guard = some gc) (hd : okDstB env.N o.dst) (hf : dFun3 P T ss (fun s => stepOp T an o.dst o.op gc env s) gc cl st v st') {K : Act → World → Prop} {QQ : Exit → Act → World → Prop}
    (hK : ∀ g' w' a', Ext g w g' w' → SimSt T g' st' w' → SimEnv g' w' (env.put L o.dst gc v) a' → EnvOK L (env.put L o.dst gc v) → a'.defers = ds → K a' w') :
    if Region.wanted o (yielded all a.tmps) then o.wp P a w K QQ ∨ (o.asks P a w ∧ LetsOut QQ) else K (a.put o.dst undef) w := by
  have key : ∃ cl', dFun P T (stepOp T an o.dst o.op gc env st) gc cl' st v st' := by
    unfold dFun3 at hf
    split at hf
    · obtain ⟨rfl, h2, _⟩ := hf
      refine ⟨1, ?_⟩
      unfold memIs at h2
      split at h2
      · rename_i v' s' side hs
        obtain ⟨rfl, rfl, h3⟩ := h2
        simp only at hs
        rw [hs]
        exact ⟨rfl, rfl, .inr rfl, .inr ⟨rfl, rfl⟩, h3⟩
      · exact h2.elim
    · obtain ⟨_, _, h3, f, args, h4, h5⟩ := hf
      exact ⟨2, by simp only at h4; rw [h4]; exact ⟨h3, h5⟩⟩
    · exact ⟨_, hf⟩
  obtain ⟨cl', hf'⟩ := key
  exact dstep_sem hT hst henv hok hds hgc hd hf' hK

/-- What is listed, where something is left for later. -/
structure LeftW (all : Array Oper) (listed : Array Bool) (rs dead : List Nat) : Prop where
  nodup : (rs ++ dead).Nodup
  mem : ∀ i, i ∈ rs ++ dead ↔ i < all.size ∧ listed.getD i true = false
  size : listed.size = all.size
  down : ∀ j o, all[j]? = some o → listed.getD j true = true → ∀ e ∈ o.after.toList, Region.binds .any e = true → listed.getD e.on false = true

theorem LeftW.toL {all : Array Oper} {listed : Array Bool} {rs dead : List Nat} (h : LeftW all listed rs dead) : LeftL all listed (rs ++ dead) := ⟨h.nodup, h.mem, h.size, h.down⟩
theorem LeftW.next {all : Array Oper} {listed : Array Bool} {pre post dead : List Nat} {i : Nat} (hl : LeftW all listed (pre ++ i :: post) dead) (hi : i ∈ Region.ready .any all listed) : LeftW all (listed.setIfInBounds i true) (pre ++ post) dead := by
  have h := hl.toL
  rw [List.append_assoc, List.cons_append] at h
  have h2 := h.next hi
  rw [← List.append_assoc] at h2
  exact ⟨h2.nodup, h2.mem, h2.size, h2.down⟩

def good3 (all : Array Oper) (cls : List Nat) (x i : Nat) : Bool := reach all 3 x i || indep3 all (atC all cls x) (atC all cls i)

theorem pick3 {all : Array Oper} {cls : List Nat} {Q : VExit → Env → St → Prop} {rs dead : List Nat} {listed : Array Bool} {env : Env} {st : St} {i : Nat} (hl : LeftW all listed rs dead) (hg : rs.Pairwise fun x i => good3 all cls x i = true)
    (hi : i ∈ Region.ready .any all listed) (himem : i ∈ rs) (hok : EnvOK L env) (h : dOps3 P T an L ss all (rs.map (atC all cls)) env st (Qe L Q)) (hi1 : i < all.size) :
    ∃ pre post, rs = pre ++ i :: post ∧ ∃ gc v st', guardV all env all[i].guard = some gc ∧ okDstB env.N all[i].dst ∧ dFun3 P T ss (fun s => stepOp T an all[i].dst all[i].op gc env s) gc (cls.getD i 0) st v st' ∧
      dOps3 P T an L ss all ((pre ++ post).map (atC all cls)) (env.put L all[i].dst gc v) st' (Qe L Q) := by
  obtain ⟨_, hi2, hafter⟩ := ready_spec hi
  obtain ⟨pre, post, hsplit⟩ := List.append_of_mem himem
  refine ⟨pre, post, hsplit, ?_⟩
  rw [hsplit] at hg
  have hpre : ∀ x ∈ pre, good3 all cls x i = true := fun x hx => (List.pairwise_append.1 hg).2.2 x hx i (by simp)
  have hind : ∀ x ∈ pre.map (atC all cls), indep3 all x (atC all cls i) = true := by
    intro y hy
    obtain ⟨x, hx, rfl⟩ := List.mem_map.1 hy
    have hxi := hpre x hx
    have hxr : x ∈ rs := by rw [hsplit]; simp [hx]
    simp only [good3, Bool.or_eq_true] at hxi
    refine hxi.resolve_left fun hr => ?_
    have h1 := reach_listedL hl.toL 3 x i _ (Array.getElem?_eq_getElem hi1) hafter hr
    have h2 := (hl.mem x).1 (List.mem_append_left _ hxr)
    rw [getD_of_size (by rw [hl.size]; exact h2.1) false true, h2.2] at h1
    cases h1
  rw [hsplit, List.map_append, List.map_cons] at h
  have h := dOps3_front (atC all cls i) (post.map (atC all cls)) (pre.map (atC all cls)) env st hind hok h
  have hat : (atC all cls i) = (all[i], cls.getD i 0) := by simp [atC, Array.getD_eq_getD_getElem?, hi1]
  rw [hat] at h
  simp only [dOps3] at h
  unfold bindO at h
  split at h
  case h_2 => exact h.elim
  rename_i gc hgc
  obtain ⟨hd, v, st', hf, h⟩ := h
  have h := dOps3_mono hmonoQ _ _ _ h
  rw [← List.map_append] at h
  exact ⟨gc, v, st', hgc, hd, hf, h⟩

def edgeB (all : Array Oper) (j x : Nat) : Bool := match all[j]? with | none => false | some o => o.after.any fun e => Region.binds .any e && e.on == x
theorem edge_not_ready {all : Array Oper} {listed : Array Bool} {j x : Nat} (he : edgeB all j x = true) (hx : listed.getD x true = false) (hxs : x < listed.size) : j ∉ Region.ready .any all listed := by
  intro hj
  obtain ⟨hj1, _, hafter⟩ := ready_spec hj
  unfold edgeB at he
  rw [Array.getElem?_eq_getElem hj1] at he
  simp only [← Array.any_toList, List.any_eq_true, Bool.and_eq_true, beq_iff_eq] at he
  obtain ⟨e, h1, h2, rfl⟩ := he
  have := hafter e h1 h2
  rw [getD_of_size hxs false true, hx] at this
  cases this

/-- A stage: all of it, whatever the order; then the rest. -/
theorem stage_sound (hT : Tab P T) {all : Array Oper} {cls : List Nat} (hE : backB all = true) {Q QM : VExit → Env → St → Prop} {g0 : G} {w0 : World} {dead : List Nat} :
    ∀ (n : Nat) (rs : List Nat) (listed : Array Bool) (env : Env) (st : St) (g : G) (w : World) (a : Act), rs.length = n → LeftW all listed rs dead → (rs.Pairwise fun x i => good3 all cls x i = true) → (∀ j ∈ dead, ∀ x ∈ rs, edgeB all j x = true) → Ext g0 w0 g w → SimSt T g st w → SimEnv g w env a → EnvOK L env → a.defers = ds →
      dOps3 P T an L ss all (rs.map (atC all cls)) env st (Qe L QM) →
      (∀ listed' env' st' g' w' a', LeftL all listed' dead → QM .normal env' st' → Ext g0 w0 g' w' → SimSt T g' st' w' → SimEnv g' w' env' a' → EnvOK L env' → a'.defers = ds → wpAny P .any all (Lift T L ds g0 w0 Q) dead.length listed' a' w') →
      wpAny P .any all (Lift T L ds g0 w0 Q) (n + dead.length) listed a w := by
  intro n
  induction n with
  | zero =>
    intro rs listed env st g w a hn hl hg hb hx hst henv hok hds h hcont
    have : rs = [] := List.eq_nil_of_length_eq_zero hn
    subst this
    obtain ⟨env0, q1, q2, q3⟩ := h
    rw [Nat.zero_add]
    exact hcont listed env0 st g w a (by have := hl.toL; simpa using this) q3 hx hst ⟨henv.1.trans q1.1.symm, fun t c v hv => henv.2 t c v (by rw [← q1.2 t]; exact hv)⟩ q2 hds
  | succ n ih =>
    intro rs listed env st g w a hn hl hg hb hx hst henv hok hds h hcont
    have hne : rs ≠ [] := by intro e; rw [e] at hn; simp at hn
    have hne2 : rs ++ dead ≠ [] := by simp [hne]
    rw [show n + 1 + dead.length = (n + dead.length) + 1 by omega]
    refine ⟨fun hr => (some_ready hE hl.toL hne2 hr).elim, fun i hi => ?_⟩
    obtain ⟨hi1, hi2, _⟩ := ready_spec hi
    have himem : i ∈ rs := by
      have := (hl.mem i).2 ⟨hi1, hi2⟩
      rcases List.mem_append.1 this with hr | hd
      · exact hr
      · exfalso
        obtain ⟨x, hxr⟩ := List.exists_mem_of_ne_nil rs hne
        have hxm := (hl.mem x).1 (List.mem_append_left _ hxr)
        exact edge_not_ready (hb i hd x hxr) hxm.2 (by rw [hl.size]; exact hxm.1) hi
    obtain ⟨pre, post, hsplit, gc, v, st', hgc, hd, hf, hrest⟩ := pick3 hl hg hi himem hok h hi1
    simp only [wpOp, Array.getElem?_eq_getElem hi1]
    refine dstep3_sem hT hst henv hok hds hgc hd hf fun g' w' a' k1 k2 k3 k4 k5 => ?_
    subst hsplit
    exact ih (pre ++ post) _ _ st' g' w' a' (by simp at hn ⊢; omega) (hl.next hi) (hg.sublist (by simp)) (fun j hj x hx => hb j hj x (by simp only [List.mem_append, List.mem_cons] at hx ⊢; rcases hx with h | h <;> simp [h])) (hx.trans k1) k2 k3 k4 k5 hrest hcont

def pair3 (all : Array Oper) (cls : List Nat) : List Nat → Bool
  | [] => true
  | x :: r => r.all (good3 all cls x) && pair3 all cls r
theorem pair3_spec {all : Array Oper} {cls : List Nat} : ∀ {l : List Nat}, pair3 all cls l = true → l.Pairwise fun x i => good3 all cls x i = true
  | [], _ => .nil
  | x :: r, h => by
    simp only [pair3, Bool.and_eq_true, List.all_eq_true] at h
    exact .cons h.1 (pair3_spec h.2)

/-- A region's first stage, rs, and the rest, in one order (rs2), or in two (rs2, rs3: p and q don't go together). -/
def stageB (all : Array Oper) (cls rs rs2 rs3 : List Nat) (p q : Nat) : Bool :=
  backB all && pair3 all cls rs && rs2.all (fun j => rs.all fun x => edgeB all j x) && diffB (rs ++ rs2) && (rs ++ rs2).all (fun i => Nat.blt i all.size) && (List.range all.size).all (fun i => (rs ++ rs2).contains i) &&
    !(p == q) && pairB all cls (oneEx p q) rs2 && pairB all cls (oneEx q p) rs3 && diffB rs3 && (rs3.length == rs2.length) && rs3.all (fun i => rs2.contains i) && rs2.all (fun i => rs3.contains i) && (List.range all.size).all (fun i => rs.contains i || match all[i]? with | some o => noCallB o | none => true) && (rs.length + rs2.length == all.size)

theorem draw_sound2W (hT : Tab P T) {all : Array Oper} {cls : List Nat} (hE : backB all = true) {p q : Nat} (hpq : p ≠ q) {Q : VExit → Env → St → Prop} {g0 : G} {w0 : World} :
    ∀ (n : Nat) (rs rs' : List Nat) (listed : Array Bool) (env : Env) (st : St) (g : G) (w : World) (a : Act), (∀ i ∈ rs, ∀ (h : i < all.size), noCallB all[i] = true) → rs.length = n → rs'.length = n → LeftL all listed rs → LeftL all listed rs' → (rs.Pairwise fun x i => goodB all cls (oneEx p q) x i = true) → (rs'.Pairwise fun x i => goodB all cls (oneEx q p) x i = true) →
      Ext g0 w0 g w → SimSt T g st w → SimEnv g w env a → EnvOK L env → a.defers = ds →
      dOps P T an L all (rs.map (atC all cls)) env st (Qe L Q) → dOps P T an L all (rs'.map (atC all cls)) env st (Qe L Q) → wpAny P .any all (Lift T L ds g0 w0 Q) n listed a w := by
  intro n
  induction n with
  | zero =>
    intro rs rs' listed env st g w a _ hn hn' hl hl' hg hg' hx hst henv hok hds h h'
    have : rs = [] := List.eq_nil_of_length_eq_zero hn
    subst this
    exact draw_soundL hT hE 0 [] listed env st g w a rfl hl .nil hx hst henv hok hds h
  | succ n ih =>
    intro rs rs' listed env st g w a hC hn hn' hl hl' hg hg' hx hst henv hok hds h h'
    refine ⟨fun hr => (some_ready hE hl (by intro e; rw [e] at hn; simp at hn) hr).elim, fun i hi => ?_⟩
    obtain ⟨hi1, hi2, _⟩ := ready_spec hi
    have himem := (hl.mem i).2 ⟨hi1, hi2⟩
    have drop : ∀ {l : List Nat} {ex : Nat → Nat → Bool}, (l.Pairwise fun x i => goodB all cls ex x i = true) → (∀ x ∈ l, ∀ y ∈ l, ex x y = false) → l.Pairwise fun x i => goodB all cls (fun _ _ => false) x i = true := by
      intro l ex hp he
      refine List.Pairwise.imp_of_mem (fun {x y} hx hy hgd => ?_) hp
      simp only [goodB, he x hx y hy] at hgd ⊢
      exact hgd
    simp only [wpOp, Array.getElem?_eq_getElem hi1]
    by_cases hip : i = p
    · subst hip
      obtain ⟨pre, post, hsplit, gc, v, st', hgc, hd, hf, hrest⟩ := pick hl hg hi (fun x _ => by simp [oneEx, hpq]) hok h hi1
      subst hsplit
      refine dstep_sem hT hst henv hok hds hgc hd hf fun g' w' a' k1 k2 k3 k4 k5 => ?_
      have hnx := hl.next hi
      refine draw_soundL hT hE n (pre ++ post) _ _ st' g' w' a' (by simp at hn ⊢; omega) hnx (drop (hg.sublist (by simp)) fun x hx y hy => ?_) (hx.trans k1) k2 k3 k4 k5 hrest
      have hlsz : i < listed.size := by rw [hl.size]; exact hi1
      have hxi : x ≠ i := by
        rintro rfl
        have := ((hnx.mem x).1 hx).2
        simp [Array.getD_eq_getD_getElem?, hlsz] at this
      simp [oneEx, hxi]
    · by_cases hiq : i = q
      · subst hiq
        obtain ⟨pre, post, hsplit, gc, v, st', hgc, hd, hf, hrest⟩ := pick hl' hg' hi (fun x _ => by simp [oneEx, hip]) hok h' hi1
        subst hsplit
        refine dstep_sem hT hst henv hok hds hgc hd hf fun g' w' a' k1 k2 k3 k4 k5 => ?_
        have hnx := hl'.next hi
        refine draw_soundL hT hE n (pre ++ post) _ _ st' g' w' a' (by simp at hn' ⊢; omega) hnx (drop (hg'.sublist (by simp)) fun x hx y hy => ?_) (hx.trans k1) k2 k3 k4 k5 hrest
        have hlsz : i < listed.size := by rw [hl.size]; exact hi1
        have hxi : x ≠ i := by
          rintro rfl
          have := ((hnx.mem x).1 hx).2
          simp [Array.getD_eq_getD_getElem?, hlsz] at this
        simp [oneEx, hxi]
      · obtain ⟨pre, post, hsplit, gc, v, st', hgc, hd, hf, hrest⟩ := pick hl hg hi (fun x _ => by simp [oneEx, hiq]) hok h hi1
        obtain ⟨pre', post', hsplit', gc', v', st'', hgc', hd', hf', hrest'⟩ := pick hl' hg' hi (fun x _ => by simp [oneEx, hip]) hok h' hi1
        rw [hgc] at hgc'
        cases hgc'
        obtain ⟨rfl, rfl⟩ := dFun_one (hC i himem hi1) hf hf'
        subst hsplit
        subst hsplit'
        refine dstep_sem hT hst henv hok hds hgc hd hf fun g' w' a' k1 k2 k3 k4 k5 => ?_
        exact ih (pre ++ post) (pre' ++ post') _ _ st' g' w' a' (fun j hj => hC j (by simp only [List.mem_append, List.mem_cons] at hj ⊢; rcases hj with h | h <;> simp [h])) (by simp at hn ⊢; omega) (by simp at hn' ⊢; omega) (hl.next hi) (hl'.next hi) (hg.sublist (by simp)) (hg'.sublist (by simp)) (hx.trans k1) k2 k3 k4 k5 hrest hrest'

theorem VC.stage (hT : Tab P T) (hm : P.follows .mixedOrders = true) {id : Nat} {os : List Oper} {cls rs rs2 rs3 : List Nat} {p q : Nat} {env : Env} {st : St} {Q : VExit → Env → St → Prop} (hB : stageB os.toArray cls rs rs2 rs3 p q = true)
    (h : dOps3 P T an L ss os.toArray (zipC (pickO os rs) (pickC cls rs)) ⟨env.N, env.g, []⟩ st fun _ env' st' => dOps P T an L os.toArray (zipC (pickO os rs2) (pickC cls rs2)) env' st' Q ∧ dOps P T an L os.toArray (zipC (pickO os rs3) (pickC cls rs3)) env' st' Q) :
    VC P T L ds (.region id os.toArray true) env st Q := by
  intro g w a h1 h2 h3 h4
  refine wp_region_any hm ?_
  simp only [stageB, Bool.and_eq_true, List.all_eq_true, List.mem_range, Bool.not_eq_true', beq_eq_false_iff_ne, beq_iff_eq, Nat.blt_eq, List.contains_iff_mem, Bool.or_eq_true] at hB
  obtain ⟨⟨⟨⟨⟨⟨⟨⟨⟨⟨⟨⟨⟨⟨b1, b2⟩, b3⟩, b4⟩, b5⟩, b6⟩, b7⟩, b8⟩, b9⟩, b10⟩, b11⟩, b12⟩, b13⟩, b14⟩, b15⟩ := hB
  have hx := Ext.drew g w
  have henv : SimEnv g w ⟨env.N, env.g, []⟩ a := ⟨h2.1, fun t c v hv => h2.2 t c v (h3 t _ (by simpa [Env.look, find] using hv)).2⟩
  have hok : EnvOK L ⟨env.N, env.g, []⟩ := fun t x hx => ⟨(h3 t x hx).1, by simpa [Env.look, find] using hx⟩
  have h5 : SimSt T g st w.drew := h1.keep hx rfl (fun _ _ => rfl) fun b _ _ => ⟨rfl, rfl⟩
  have hd := dOps3_same _ _ _ st ⟨rfl, fun _ => rfl⟩ hok h
  rw [← pick_zip] at hd
  have hfalse : ∀ i, i < os.length → (Array.replicate os.toArray.size false).getD i true = false := fun i hi => by simp [Array.getD_eq_getD_getElem?, Array.getElem?_replicate, hi]
  have hdown : ∀ j o, os.toArray[j]? = some o → (Array.replicate os.toArray.size false).getD j true = true → ∀ e ∈ o.after.toList, Region.binds .any e = true → (Array.replicate os.toArray.size false).getD e.on false = true := by
    intro j o ho hj
    have hlt : j < os.length := by simpa using (Array.getElem?_eq_some_iff.1 ho).1
    rw [hfalse j hlt] at hj
    cases hj
  have hnd := diffB_spec b4
  have hl : LeftW os.toArray (Array.replicate os.toArray.size false) rs rs2 := by
    refine ⟨hnd, fun i => ?_, by simp, hdown⟩
    simp only [List.size_toArray]
    exact ⟨fun hi => ⟨by simpa using b5 i hi, hfalse i (by simpa using b5 i hi)⟩, fun hi => b6 i (by simpa using hi.1)⟩
  have hlen : rs.length + rs2.length = os.length := by simpa using b15
  have := stage_sound (ds := ds) hT b1 (Q := Q) (QM := fun _ env' st' => dOps P T an L os.toArray (zipC (pickO os rs2) (pickC cls rs2)) env' st' Q ∧ dOps P T an L os.toArray (zipC (pickO os rs3) (pickC cls rs3)) env' st' Q) (g0 := g) (w0 := w) (dead := rs2) rs.length rs _ _ st g w.drew a rfl hl (pair3_spec b2) (fun j hj x hxx => b3 j hj x hxx) hx h5 (henv.ext hx) hok h4 hd ?_
  · rw [hlen] at this
    simpa using this
  · rintro listed' env' st' g' w' a' hL ⟨q1, q2⟩ k1 k2 k3 k4 k5
    have q1 := dOps_same _ _ _ st' ⟨rfl, fun _ => rfl⟩ k4 q1
    have q2 := dOps_same _ _ _ st' ⟨rfl, fun _ => rfl⟩ k4 q2
    rw [← pick_zip] at q1 q2
    have hL3 : LeftL os.toArray listed' rs3 := ⟨diffB_spec b10, fun i => ⟨fun hi => (hL.mem i).1 (b12 i hi), fun hi => b13 i ((hL.mem i).2 hi)⟩, hL.size, hL.down⟩
    refine draw_sound2W hT b1 b7 rs2.length rs2 rs3 listed' env' st' g' w' a' (fun i hi hlt => ?_) rfl b11 hL hL3 (pairB_spec b8) (pairB_spec b9) k1 k2 k3 k4 k5 q1 q2
    have hd' : i ∉ rs := fun hr => by
      have := List.nodup_append.1 hnd
      exact this.2.2 i hr i hi rfl
    have := (b14 i (by simpa using hlt)).resolve_left hd'
    rw [Array.getElem?_eq_getElem hlt] at this
    exact this

-- a call that panics
def pK (P : Program) (T : Nat → TI) (r : Step) (gc : Option Bool) (st : St) (QP : V → St → Prop) : Prop := gc = some true ∧ ∃ k args, r = .call k args ∧ ∃ v st', VCalls P T k args st (fun r s => r = .panic v ∧ s = st') ∧ QP v st'
theorem pK_of {k : FuncId} {args args' : List V} {st st' : St} {X : V} {QP : V → St → Prop} (h : VCalls P T k args' st fun r s => r = .panic X ∧ s = st') (hw : wkL args args') (h2 : QP X st') : pK P T (.call k args) (some true) st QP := ⟨rfl, k, args, rfl, X, st', h.args hw, h2⟩

theorem front_call {all : Array Oper} {oc : Oper} {st : St} {QP : V → St → Prop} : ∀ (os : List (Oper × Nat)) (env : Env), (∀ x ∈ os, ∀ d, x.1.dst = some d → d ∉ oc.looksAt all) → (∀ x ∈ os, x.2 < 2) → dOps3 P T an L ss all os env st (Qe L fun _ e s => pK P T (stepOp T an oc.dst oc.op true e s) (guardV all e oc.guard) s QP) →
    pK P T (stepOp T an oc.dst oc.op true env st) (guardV all env oc.guard) st QP
  | [], env, h1, h2, ⟨env0, q1, q2, q3⟩ => by simp only at q3; rw [guardV_same q1, stepOp_same q1] at q3; exact q3
  | (o, cl) :: os, env, h1, h2, h => by
    simp only [dOps3] at h
    unfold bindO at h
    split at h
    case h_2 => exact h.elim
    rename_i gc hgc
    obtain ⟨hd, v, st', hf, h⟩ := h
    have hcl := h2 (o, cl) (by simp)
    simp only at hcl
    have e1 := dFun3_still hf (by omega) (by omega) (by omega)
    subst e1
    have := front_call os _ (fun x hx => h1 x (by simp [hx])) (fun x hx => h2 x (by simp [hx])) h
    rw [guardV_put (h1 (o, cl) (by simp)), stepOp_put (h1 (o, cl) (by simp))] at this
    exact this

theorem keep_put {ks : List Nat} {e : Env} {d : Option Nat} {c : Bool} {v : V} (h : ∀ t, d = some t → t ∉ ks) : (e.put L d c v).keep ks = e.keep ks := by
  induction ks with
  | nil => rfl
  | cons k ks ih =>
    have hk : (e.put L d c v).look k = e.look k := look_put_ne (fun hd => h k hd (by simp))
    simp only [Env.keep, hk, ih fun t ht hm => h t ht (by simp [hm])]

theorem call_enter {g : G} {w : World} {env : Env} {st : St} {a : Act} (henv : SimEnv g w env a) {o : Oper} {k : FuncId} {args : List V} (hr : stepOp T an o.dst o.op true env st = .call k args) : ∃ vals : List Value, (execOp a.eval o).run P w = (callFunc k vals.toArray).run P w ∧ SimVs g w args vals := by
  have hev : ∀ x, SimV g w (evG env true x) (a.eval x) := fun x => evG_sim henv rfl x
  unfold stepOp at hr
  split at hr
  · split at hr <;> cases hr
  · cases hr
  · generalize (an (o.dst.getD 0) == 3) = bb at hr
    cases bb with
    | false =>
      simp only [cond_false] at hr
      unfold pureStep memStep at hr
      split at hr
      · cases hr
      · split at hr
        · cases hr
        · split at hr <;> cases hr
    | true =>
      simp only [cond_true, sufS] at hr
      split at hr <;> cases hr
  · rename_i t n ps hop
    rw [hop] at hr
    exact absurd hr (lit_ncall (T := T) (an := an) (dst := o.dst) (gc := true) (env := env) (st := st) (t := t) (n := n) (ps := ps) k args)
  · rename_i it c hop
    cases c with
    | true => cases hr
    | false => simp only [cond_false] at hr; generalize nextV (evG env true it) st = r at hr; cases r <;> cases hr
  · rename_i c hop
    split at hr
    · rename_i f hcal
      split at hr
      case h_2 => cases hr
      rename_i k' cap hfe'
      cases hr
      have hfv := hev f
      rw [hfe'] at hfv
      simp only [SimV] at hfv
      obtain ⟨vs, hfe, hvs⟩ := hfv
      refine ⟨c.args.toList.map a.eval ++ vs, ?_, (evs_sim hev _).append hvs⟩
      have e : c.args.map a.eval ++ vs.toArray = (c.args.toList.map a.eval ++ vs).toArray := by apply Array.ext'; simp
      simp [execOp, hop, resolve, hcal, hfe, Deferred.ofValue, invoke, e]
    · unfold pureStep memStep at hr
      split at hr
      · cases hr
      · split at hr
        · cases hr
        · split at hr <;> cases hr
    · cases hr
  · unfold pureStep memStep at hr
    split at hr
    · cases hr
    · split at hr
      · cases hr
      · split at hr <;> cases hr

theorem run_enter {k : FuncId} (he : Enters P k) (vals : List Value) (w : World) : (callFunc k vals.toArray).run P w = .ok (.enter k vals.toArray) w := by
  obtain ⟨fn, e1, e2, e3⟩ := he
  have e2' : ¬ fn.body = none := by intro hb; rw [hb] at e2; simp at e2
  have e3' : ¬ fn.name = "runtime.NumGoroutine" := by simpa using e3
  simp [callFunc, e1, e2', e3']

theorem panic_sound (hT : Tab P T) {all : Array Oper} {cls : List Nat} (hE : backB all = true) {Q : VExit → Env → St → Prop} {g0 : G} {w0 : World} {dead : List Nat} {c : Nat} {oc : Oper} (hoc : all[c]? = some oc) {ks : List Nat} (hks : subN ks L = true) {N : Nat} {E0 : List (Nat × Bool × V)} {st : St}
    (hdead : ∀ j ∈ dead, edgeB all j c = true ∨ ∃ d ∈ dead, edgeB all j d = true) :
    ∀ (n : Nat) (rs : List Nat) (listed : Array Bool) (env : Env) (g : G) (w : World) (a : Act), rs.length = n → LeftW all listed (rs ++ [c]) dead → (rs.Pairwise fun x i => good3 all cls x i = true) → (∀ x ∈ rs, cls.getD x 0 < 2) → (∀ x ∈ rs, reach all 3 x c = true ∨ ∀ d, (atC all cls x).1.dst = some d → d ∉ oc.looksAt all) → (∀ x ∈ rs, ∀ t, (atC all cls x).1.dst = some t → t ∉ ks) →
      Ext g0 w0 g w → SimSt T g st w → SimEnv g w env a → EnvOK L env → a.defers = ds → env.N = N → env.keep ks = E0 →
      dOps3 P T an L ss all (rs.map (atC all cls)) env st (Qe L fun _ e s => pK P T (stepOp T an oc.dst oc.op true e s) (guardV all e oc.guard) s fun v st' => Q (.panic v) ⟨N, E0, []⟩ st') →
      wpAny P .any all (Lift T L ds g0 w0 Q) (n + 1 + dead.length) listed a w := by
  intro n
  induction n with
  | zero =>
    intro rs listed env g w a hn hl hg hcl hap hk hx hst henv hok hds hN hE0 h
    have : rs = [] := List.eq_nil_of_length_eq_zero hn
    subst this
    rw [show 0 + 1 + dead.length = dead.length + 1 by omega]
    refine ⟨fun hr => (some_ready hE hl.toL (by simp) hr).elim, fun i hi => ?_⟩
    obtain ⟨hi1, hi2, _⟩ := ready_spec hi
    have hic : i = c := by
      have := (hl.mem i).2 ⟨hi1, hi2⟩
      simp only [List.nil_append, List.singleton_append, List.mem_cons] at this
      rcases this with h | hd
      · exact h
      · exfalso
        rcases hdead i hd with he | ⟨d, hd2, he⟩
        · have hxm := (hl.mem c).1 (by simp)
          exact edge_not_ready he hxm.2 (by rw [hl.size]; exact hxm.1) hi
        · have hxm := (hl.mem d).1 (by simp [hd2])
          exact edge_not_ready he hxm.2 (by rw [hl.size]; exact hxm.1) hi
    subst hic
    have hpk := front_call [] env (by simp) (by simp) h
    obtain ⟨hgc, k, args, hr, v, st', hcall, hq⟩ := hpk
    have hw := guardV_wanted henv hgc
    have hoc' : all[i] = oc := by rw [Array.getElem?_eq_getElem hi1] at hoc; exact Option.some.inj hoc
    obtain ⟨vals, q1, q2⟩ := call_enter (P := P) henv hr
    simp only [wpOp, Array.getElem?_eq_getElem hi1]
    rw [hoc', hw]
    simp only [if_true]
    left
    unfold Oper.wp Oper.upon
    rw [q1, run_enter hcall.1]
    refine (hcall.2 g w vals hst q2).mono fun e w' ⟨r, s', g', ⟨k1, k1'⟩, k2, k3, k4⟩ => ?_
    subst k1; subst k1'
    obtain ⟨val, rfl, hv⟩ := k2
    refine ⟨.panic v, ⟨N, E0, []⟩, s', g', hq, ⟨val, rfl, hv⟩, ?_, ?_, hds, k3, hx.trans k4⟩
    · rw [← hN, ← hE0]; exact (henv.ext k4).keep ks
    · rw [← hN, ← hE0]; exact EnvOK.keep hks env
  | succ n ih =>
    intro rs listed env g w a hn hl hg hcl hap hk hx hst henv hok hds hN hE0 h
    rw [show n + 1 + 1 + dead.length = (n + 1 + dead.length) + 1 by omega]
    refine ⟨fun hr => (some_ready hE hl.toL (by simp) hr).elim, fun i hi => ?_⟩
    obtain ⟨hi1, hi2, hafter⟩ := ready_spec hi
    have him := (hl.mem i).2 ⟨hi1, hi2⟩
    simp only [List.mem_append, List.mem_singleton] at him
    have hcm := (hl.mem c).1 (by simp)
    rcases him with (hir | hic) | hid
    · obtain ⟨pre, post, hsplit⟩ := List.append_of_mem hir
      have hsub : (pre ++ post).Sublist rs := by rw [hsplit]; simp
      -- as in a stage
      have hind : ∀ x ∈ pre.map (atC all cls), indep3 all x (atC all cls i) = true := by
        intro y hy
        obtain ⟨x, hx, rfl⟩ := List.mem_map.1 hy
        have hgp := hg
        rw [hsplit] at hgp
        have hxi := (List.pairwise_append.1 hgp).2.2 x hx i (by simp)
        have hxr : x ∈ rs := by rw [hsplit]; simp [hx]
        simp only [good3, Bool.or_eq_true] at hxi
        refine hxi.resolve_left fun hr => ?_
        have h1 := reach_listedL hl.toL 3 x i _ (Array.getElem?_eq_getElem hi1) hafter hr
        have h2 := (hl.mem x).1 (by simp [hxr])
        rw [getD_of_size (by rw [hl.size]; exact h2.1) false true, h2.2] at h1
        cases h1
      have h7 := h
      rw [hsplit, List.map_append, List.map_cons] at h7
      have h8 := dOps3_front (atC all cls i) (post.map (atC all cls)) (pre.map (atC all cls)) env st hind hok h7
      have hat : (atC all cls i) = (all[i], cls.getD i 0) := by simp [atC, Array.getD_eq_getD_getElem?, hi1]
      rw [hat] at h8
      simp only [dOps3] at h8
      unfold bindO at h8
      split at h8
      case h_2 => exact h8.elim
      rename_i gc hgc
      obtain ⟨hd, v, st', hf, h9⟩ := h8
      have h10 := dOps3_mono hmonoQ _ _ _ h9
      rw [← List.map_append] at h10
      have hci := hcl i hir
      have e1 := dFun3_still hf (by omega) (by omega) (by omega)
      subst e1
      simp only [wpOp, Array.getElem?_eq_getElem hi1]
      refine dstep3_sem hT hst henv hok hds hgc hd hf fun g' w' a' k1 k2 k3 k4 k5 => ?_
      have hkeep : (env.put L all[i].dst gc v).keep ks = E0 := by
        rw [← hE0]
        refine keep_put fun t ht => hk i hir t ?_
        rw [hat]; exact ht
      have hlw : LeftW all (listed.setIfInBounds i true) ((pre ++ post) ++ [c]) dead := by
        have h2 : LeftW all listed (pre ++ i :: (post ++ [c])) dead := by
          have := hl
          rw [hsplit] at this
          simpa using this
        have := h2.next hi
        simpa using this
      exact ih (pre ++ post) _ _ g' w' a' (by rw [hsplit] at hn; simp at hn ⊢; omega) hlw (hg.sublist hsub) (fun x hx => hcl x (hsub.subset hx)) (fun x hx => hap x (hsub.subset hx)) (fun x hx => hk x (hsub.subset hx)) (hx.trans k1) k2 k3 k4 k5 (by rw [put_N]; exact hN) hkeep h10
    · subst hic
      have hap' : ∀ x ∈ rs.map (atC all cls), ∀ d, x.1.dst = some d → d ∉ oc.looksAt all := by
        intro y hy
        obtain ⟨x, hxr, rfl⟩ := List.mem_map.1 hy
        refine (hap x hxr).resolve_left fun hr => ?_
        have h1 := reach_listedL hl.toL 3 x i _ (Array.getElem?_eq_getElem hi1) hafter hr
        have h2 := (hl.mem x).1 (by simp [hxr])
        rw [getD_of_size (by rw [hl.size]; exact h2.1) false true, h2.2] at h1
        cases h1
      have hcl' : ∀ x ∈ rs.map (atC all cls), x.2 < 2 := by
        intro y hy
        obtain ⟨x, hxr, rfl⟩ := List.mem_map.1 hy
        exact hcl x hxr
      obtain ⟨hgc, k, args, hr, v, st', hcall, hq⟩ := front_call _ env hap' hcl' h
      have hw := guardV_wanted henv hgc
      have hoc' : all[i] = oc := by rw [Array.getElem?_eq_getElem hi1] at hoc; exact Option.some.inj hoc
      obtain ⟨vals, q1, q2⟩ := call_enter (P := P) henv hr
      simp only [wpOp, Array.getElem?_eq_getElem hi1]
      rw [hoc', hw]
      simp only [if_true]
      left
      unfold Oper.wp Oper.upon
      rw [q1, run_enter hcall.1]
      refine (hcall.2 g w vals hst q2).mono fun e w' ⟨r, s', g', ⟨k1, k1'⟩, k2, k3, k4⟩ => ?_
      subst k1; subst k1'
      obtain ⟨val, rfl, hv⟩ := k2
      refine ⟨.panic v, ⟨N, E0, []⟩, s', g', hq, ⟨val, rfl, hv⟩, ?_, ?_, hds, k3, hx.trans k4⟩
      · rw [← hN, ← hE0]; exact (henv.ext k4).keep ks
      · rw [← hN, ← hE0]; exact EnvOK.keep hks env
    · exfalso
      rcases hdead i hid with he | ⟨d, hd2, he⟩
      · exact edge_not_ready he hcm.2 (by rw [hl.size]; exact hcm.1) hi
      · have hxm := (hl.mem d).1 (by simp [hd2])
        exact edge_not_ready he hxm.2 (by rw [hl.size]; exact hxm.1) hi

def offB (d : Option Tmp) (l : List Nat) : Bool := match d with | none => true | some t => !l.contains t
def panicB (all : Array Oper) (cls rs : List Nat) (c : Nat) (dead ks : List Nat) : Bool :=
  backB all && pair3 all cls rs && rs.all (fun x => Nat.blt (cls.getD x 0) 2) && dead.all (fun j => edgeB all j c || dead.any fun d => edgeB all j d) && diffB (rs ++ [c] ++ dead) && (rs ++ [c] ++ dead).all (fun i => Nat.blt i all.size) && (List.range all.size).all (fun i => (rs ++ [c] ++ dead).contains i) &&
    rs.all (fun x => reach all 3 x c || offB (atC all cls x).1.dst ((atC all cls c).1.looksAt all)) && rs.all (fun x => offB (atC all cls x).1.dst ks) && (rs.length + 1 + dead.length == all.size)

theorem VC.panic (hT : Tab P T) (hm : P.follows .mixedOrders = true) {id : Nat} {os : List Oper} {cls rs : List Nat} {c : Nat} {dead ks : List Nat} (hks : subN ks L = true) {env : Env} {st : St} {Q : VExit → Env → St → Prop} (hB : panicB os.toArray cls rs c dead ks = true)
    (h : dOps3 P T an L ss os.toArray (zipC (pickO os rs) (pickC cls rs)) ⟨env.N, env.g, []⟩ st fun _ e s => pK P T (stepOp T an (os.getD c default).dst (os.getD c default).op true e s) (guardV os.toArray e (os.getD c default).guard) s fun v st' => Q (.panic v) ⟨env.N, (⟨env.N, env.g, []⟩ : Env).keep ks, []⟩ st') :
    VC P T L ds (.region id os.toArray true) env st Q := by
  intro g w a h1 h2 h3 h4
  refine wp_region_any hm ?_
  simp only [panicB, Bool.and_eq_true, List.all_eq_true, List.any_eq_true, List.mem_range, Bool.not_eq_true', beq_iff_eq, Nat.blt_eq, List.contains_iff_mem, Bool.or_eq_true] at hB
  obtain ⟨⟨⟨⟨⟨⟨⟨⟨⟨b1, b2⟩, b3⟩, b4⟩, b5⟩, b6⟩, b7⟩, b8⟩, b9⟩, b10⟩ := hB
  have hx := Ext.drew g w
  have henv : SimEnv g w ⟨env.N, env.g, []⟩ a := ⟨h2.1, fun t c v hv => h2.2 t c v (h3 t _ (by simpa [Env.look, find] using hv)).2⟩
  have hok : EnvOK L ⟨env.N, env.g, []⟩ := fun t x hx => ⟨(h3 t x hx).1, by simpa [Env.look, find] using hx⟩
  have h5 : SimSt T g st w.drew := h1.keep hx rfl (fun _ _ => rfl) fun b _ _ => ⟨rfl, rfl⟩
  have hd := dOps3_same _ _ _ st ⟨rfl, fun _ => rfl⟩ hok h
  rw [← pick_zip] at hd
  have hfalse : ∀ i, i < os.length → (Array.replicate os.toArray.size false).getD i true = false := fun i hi => by simp [Array.getD_eq_getD_getElem?, Array.getElem?_replicate, hi]
  have hdown : ∀ j o, os.toArray[j]? = some o → (Array.replicate os.toArray.size false).getD j true = true → ∀ e ∈ o.after.toList, Region.binds .any e = true → (Array.replicate os.toArray.size false).getD e.on false = true := by
    intro j o ho hj
    have hlt : j < os.length := by simpa using (Array.getElem?_eq_some_iff.1 ho).1
    rw [hfalse j hlt] at hj
    cases hj
  have hnd := diffB_spec b5
  have hl : LeftW os.toArray (Array.replicate os.toArray.size false) (rs ++ [c]) dead := by
    refine ⟨hnd, fun i => ?_, by simp, hdown⟩
    simp only [List.size_toArray]
    exact ⟨fun hi => ⟨by simpa using b6 i hi, hfalse i (by simpa using b6 i hi)⟩, fun hi => b7 i (by simpa using hi.1)⟩
  have hcs : c < os.length := by simpa using b6 c (by simp)
  have hoc : os.toArray[c]? = some (os.getD c default) := by simp [List.getD_eq_getElem?_getD, hcs]
  have hoffb : ∀ {d : Option Tmp} {l : List Nat}, offB d l = true → ∀ t, d = some t → t ∉ l := by
    rintro d l h t rfl
    simpa [offB] using h
  have hatc : (atC os.toArray cls c).1 = os.getD c default := by simp [atC, Array.getD_eq_getD_getElem?, List.getD_eq_getElem?_getD]
  have := panic_sound (ds := ds) hT b1 (Q := Q) (g0 := g) (w0 := w) hoc hks (N := env.N) (E0 := (⟨env.N, env.g, []⟩ : Env).keep ks) (dead := dead) (fun j hj => b4 j hj) rs.length rs _ _ g w.drew a rfl hl (pair3_spec b2) (fun x hx => b3 x hx) (fun x hx => (b8 x hx).imp (fun h => h) fun h d hd => by rw [← hatc]; exact hoffb h d hd) (fun x hx t ht => hoffb (b9 x hx) t ht) hx h5 (henv.ext hx) hok h4 rfl rfl hd
  have hb10 : rs.length + 1 + dead.length = os.length := by simpa using b10
  rw [hb10] at this
  simpa using this
end

section
variable (P : Program) (T : Nat → TI) (an : Nat → Nat) (L : List Nat) (ds : List Deferred) (ss : List St)
def dStepR (r : Step) (f : St → Step) (gc : Bool) (cl : Nat) (st : St) (K : V → St → Prop) : Prop :=
  match cl with
  | 3 => match r with
    | .mem v s0 side => s0 = st ∧ (gc = true → side) ∧ stillK f gc ss v ∧ K v st
    | _ => False
  | 4 => match r with
    | .call k args => ∃ v st', (gc = true ∧ st ∈ ss ∧ st' ∈ ss ∧ VCalls P T k args st fun r s' => r = .ret v ∧ s' = st') ∧ K v st'
    | _ => False
  | cl => dStep P T r gc cl st K
/-- A stage, computed. -/
def dK3 (all : Array Oper) : List Oper → List Nat → Env → St → (VExit → Env → St → Prop) → Prop
  | [], _, env, st, Q => Q .normal env st
  | o :: os, cs, env, st, Q => bindO (guardV all env o.guard) fun gc => okDstB env.N o.dst ∧
      dStepR P T ss (stepOp T an o.dst o.op gc env st) (fun s => stepOp T an o.dst o.op gc env s) gc (cs.headD 0) st fun v st' => dK3 all os cs.tail (env.put L o.dst gc v) st' Q
def eK3 (r : Step) (f : St → Step) (gc : Bool) (c : Nat) (dst : Option Tmp) (all : Array Oper) (os : List Oper) (cs : List Nat) (env : Env) (st : St) (Q : VExit → Env → St → Prop) : Prop :=
  dStepR P T ss r f gc c st fun v st' => dK3 P T an L ss all os cs (env.put L dst gc v) st' Q
def hK3 (g : Option Bool) (dst : Option Tmp) (op : Op) (c : Nat) (all : Array Oper) (os : List Oper) (cs : List Nat) (env : Env) (st : St) (Q : VExit → Env → St → Prop) : Prop :=
  match g with
  | some gc => okDstB env.N dst ∧ eK3 P T an L ss (stepOp T an dst op gc env st) (fun s => stepOp T an dst op gc env s) gc c dst all os cs env st Q
  | none => False
@[congr] theorem eK3_congr {r r' : Step} {f : St → Step} {gc : Bool} {c : Nat} {dst : Option Tmp} {all : Array Oper} {os : List Oper} {cs : List Nat} {env : Env} {st : St} {Q : VExit → Env → St → Prop} (h : r = r') :
    eK3 P T an L ss r f gc c dst all os cs env st Q = eK3 P T an L ss r' f gc c dst all os cs env st Q := by rw [h]
variable {P T an L ds ss}

theorem dStepR_mono {r : Step} {f : St → Step} {gc : Bool} {cl : Nat} {st : St} {K : V → St → Prop} (hr : r = f st) (h : dStepR P T ss r f gc cl st K) : dStep3 P T ss f gc cl st K := by
  subst hr
  unfold dStepR at h
  split at h
  · split at h
    · rename_i v s0 side hf
      obtain ⟨rfl, h2, h3, h4⟩ := h
      exact ⟨v, s0, ⟨rfl, by rw [hf]; exact ⟨rfl, rfl, h2⟩, h3⟩, h4⟩
    · exact h.elim
  · split at h
    · rename_i k args hf
      obtain ⟨v, st', ⟨h1, h2, h3, h4⟩, h5⟩ := h
      exact ⟨v, st', ⟨h2, h3, h1, k, args, hf, h4⟩, h5⟩
    · exact h.elim
  · rename_i h3 h4
    obtain ⟨v, st', k1, k2⟩ := dStep_fun h
    refine ⟨v, st', ?_, k2⟩
    unfold dFun3
    split
    · exact absurd rfl h3
    · exact absurd rfl h4
    · exact k1

theorem dK3_ops {all : Array Oper} {Q : VExit → Env → St → Prop} : ∀ (os : List Oper) (cs : List Nat) (env : Env) (st : St), dK3 P T an L ss all os cs env st Q → dOps3 P T an L ss all (zipC os cs) env st Q
  | [], cs, env, st, h => by simp only [zipC, dOps3]; exact h
  | o :: os, cs, env, st, h => by
    simp only [dK3] at h
    have : zipC (o :: os) cs = (o, cs.headD 0) :: zipC os cs.tail := by
      cases cs with
      | nil => simp [zipC]
      | cons c cs => simp [zipC]
    rw [this]
    simp only [dOps3]
    unfold bindO at h ⊢
    split at h
    case h_2 => exact h.elim
    obtain ⟨h1, h2⟩ := h
    obtain ⟨v, st', k1, k2⟩ := dStepR_mono rfl h2
    exact ⟨h1, v, st', k1, dK3_ops os cs.tail _ _ k2⟩

/-- The rest of a region, in two orders. -/
def stage2 (P : Program) (T : Nat → TI) (an : Nat → Nat) (L : List Nat) (ds : List Deferred) (all : Array Oper) (os2 : List Oper) (cs2 : List Nat) (os3 : List Oper) (cs3 : List Nat) (Qm : VExit → Env → St → Prop) (_ : VExit) (env : Env) (st : St) : Prop := dK P T an L ds all os2 cs2 env st .done Qm ∧ dK P T an L ds all os3 cs3 env st .done Qm
theorem stage2_of {all : Array Oper} {os2 os3 : List Oper} {cs2 cs3 : List Nat} {Qm : VExit → Env → St → Prop} {ex : VExit} {env : Env} {st : St} (h2 : dK P T an L ds all os2 cs2 env st .done Qm) (h3 : dK P T an L ds all os3 cs3 env st .done Qm) : stage2 P T an L ds all os2 cs2 os3 cs3 Qm ex env st := ⟨h2, h3⟩
/-- A stage of a region, then its rest, in two orders. -/
theorem vstage (hT : Tab P T) (hm : P.follows .mixedOrders = true) {σ : Type} {id : Nat} {os : List Oper} (ss : List St) (cls rs rs2 rs3 : List Nat) (p q : Nat) (ks : List Nat) (e : σ → List (Nat × Bool × V)) (s : σ → St) (I : σ → Prop) (hks : subN ks L = true) {N : Nat} {g l : List (Nat × Bool × V)} {st : St} {k : Kont} {Q : VExit → Env → St → Prop} (hB : stageB os.toArray cls rs rs2 rs3 p q = true)
    (h : dK3 P T an L ss os.toArray (pickO os rs) (pickC cls rs) ⟨N, g, []⟩ st (stage2 P T an L ds os.toArray (pickO os rs2) (pickC cls rs2) (pickO os rs3) (pickC cls rs3) (Mid N ks e s I)))
    (cont : ∀ x, I x → qK P T an L ds k Q .normal ⟨N, e x, []⟩ (s x)) : VC P T L ds (.region id os.toArray true) ⟨N, g, l⟩ st (qK P T an L ds k Q) := by
  intro g0 w a h1 h2 h3 h4
  refine wp_mono (VC.stage (ds := ds) (an := an) (ss := ss) (env := ⟨N, g, l⟩) (Q := Mid N ks e s I) hT hm hB (dK3_ops _ _ _ _ h) g0 w a h1 h2 h3 h4) fun e1 a' w' ⟨ve, env', st', g', k1, k2, k3, k4, k5, k6, k7⟩ => ?_
  obtain ⟨rfl, hN, x, hx1, rfl, hI⟩ := k1
  refine ⟨.normal, ⟨N, e x, []⟩, s x, g', cont x hI, k2, ?_, ?_, k5, k6, k7⟩
  · rw [← hN, ← hx1]; exact k3.keep ks
  · rw [← hN, ← hx1]; exact EnvOK.keep hks env'

/-- A region where a call panics. -/
theorem vpanic (hT : Tab P T) (hm : P.follows .mixedOrders = true) {id : Nat} {os : List Oper} (cls rs : List Nat) (c : Nat) (dead ks : List Nat) (hks : subN ks L = true) {N : Nat} {g l : List (Nat × Bool × V)} {st : St} {k : Kont} {Q : VExit → Env → St → Prop} (hB : panicB os.toArray cls rs c dead ks = true)
    (h : dK3 P T an L [] os.toArray (pickO os rs) (pickC cls rs) ⟨N, g, []⟩ st fun _ e s => pK P T (stepOp T an (os.getD c default).dst (os.getD c default).op true e s) (guardV os.toArray e (os.getD c default).guard) s fun v st' => qK P T an L ds k Q (.panic v) ⟨N, (⟨N, g, []⟩ : Env).keep ks, []⟩ st') :
    VC P T L ds (.region id os.toArray true) ⟨N, g, l⟩ st (qK P T an L ds k Q) := VC.panic (ss := []) hT hm hks hB (dK3_ops _ _ _ _ h)

theorem eK3_loud {f : FuncId} {F : St → Step} {args args' : List V} {dst : Option Tmp} {all : Array Oper} {os : List Oper} {cs : List Nat} {env : Env} {st st' : St} {Q : VExit → Env → St → Prop} {v : V}
    (h : VCalls P T f args' st fun r s' => r = .ret v ∧ s' = st') (hw : wkL args args') (h1 : st ∈ ss) (h2 : st' ∈ ss) (h3 : dK3 P T an L ss all os cs (env.put L dst true v) st' Q) : eK3 P T an L ss (.call f args) F true 4 dst all os cs env st Q := ⟨v, st', ⟨rfl, h1, h2, h.args hw⟩, h3⟩
theorem eK3_free {f : FuncId} {F : St → Step} {args args' : List V} {gc : Bool} {dst : Option Tmp} {all : Array Oper} {os : List Oper} {cs : List Nat} {env : Env} {st : St} {Q : VExit → Env → St → Prop} {v : V}
    (h : ∀ s, VCalls P T f args' s fun r s' => r = .ret v ∧ s' = s) (hw : wkL args args') (h2 : dK3 P T an L ss all os cs (env.put L dst gc v) st Q) : eK3 P T an L ss (.call f args) F gc 0 dst all os cs env st Q := ⟨v, fun _ s => (h s).args hw, h2⟩
theorem eK3_still {f : FuncId} {F : St → Step} {args args' : List V} {gc : Bool} {dst : Option Tmp} {all : Array Oper} {os : List Oper} {cs : List Nat} {env : Env} {st : St} {Q : VExit → Env → St → Prop} {v : V}
    (h : gc = true → VCalls P T f args' st fun r s' => r = .ret v ∧ s' = st) (hw : wkL args args') (h2 : dK3 P T an L ss all os cs (env.put L dst gc v) st Q) : eK3 P T an L ss (.call f args) F gc 1 dst all os cs env st Q := ⟨v, fun hg => (h hg).args hw, h2⟩
end

theorem gwD3 :
    (∀ (P : Program) (T : Nat → TI) (an : Nat → Nat) (L : List Nat) (ss : List St) (env : Env) (st : St) (Q : VExit → Env → St → Prop) (all : Array Oper) (cs : List Nat), dK3 P T an L ss all [] cs env st Q = Q .normal env st) ∧
    (∀ (P : Program) (T : Nat → TI) (an : Nat → Nat) (L : List Nat) (ss : List St) (env : Env) (st : St) (Q : VExit → Env → St → Prop) (all : Array Oper) (dst : Option Tmp) (op : Op) (ty : TypeId) (pos : String) (aft : Array Edge) (os : List Oper) (c : Nat) (cs : List Nat), dK3 P T an L ss all (⟨dst, op, ty, pos, aft, none⟩ :: os) (c :: cs) env st Q = (okDstB env.N dst ∧ eK3 P T an L ss (stepOp T an dst op true env st) (fun s => stepOp T an dst op true env s) true c dst all os cs env st Q)) ∧
    (∀ (P : Program) (T : Nat → TI) (an : Nat → Nat) (L : List Nat) (ss : List St) (env : Env) (st : St) (Q : VExit → Env → St → Prop) (all : Array Oper) (dst : Option Tmp) (op : Op) (ty : TypeId) (pos : String) (aft : Array Edge) (gd : Nat × Bool) (os : List Oper) (c : Nat) (cs : List Nat), dK3 P T an L ss all (⟨dst, op, ty, pos, aft, some gd⟩ :: os) (c :: cs) env st Q = hK3 P T an L ss (guardV all env (some gd)) dst op c all os cs env st Q) ∧
    (∀ (P : Program) (T : Nat → TI) (an : Nat → Nat) (L : List Nat) (ss : List St) (env : Env) (st : St) (Q : VExit → Env → St → Prop) (all : Array Oper) (dst : Option Tmp) (op : Op) (os : List Oper) (gc : Bool) (c : Nat) (cs : List Nat), hK3 P T an L ss (some gc) dst op c all os cs env st Q = (okDstB env.N dst ∧ eK3 P T an L ss (stepOp T an dst op gc env st) (fun s => stepOp T an dst op gc env s) gc c dst all os cs env st Q)) ∧
    (∀ (P : Program) (T : Nat → TI) (an : Nat → Nat) (L : List Nat) (ss : List St) (env : Env) (st : St) (Q : VExit → Env → St → Prop) (all : Array Oper) (dst : Option Tmp) (os : List Oper) (gc : Bool) (cs : List Nat) (v : V) (side : Prop) (F : St → Step), eK3 P T an L ss (.pure v side) F gc 0 dst all os cs env st Q = ((gc = true → side) ∧ dK3 P T an L ss all os cs (env.put L dst gc v) st Q)) ∧
    (∀ (P : Program) (T : Nat → TI) (an : Nat → Nat) (L : List Nat) (ss : List St) (env : Env) (st : St) (Q : VExit → Env → St → Prop) (all : Array Oper) (dst : Option Tmp) (os : List Oper) (gc : Bool) (cs : List Nat) (v : V) (st' : St) (side : Prop) (F : St → Step), eK3 P T an L ss (.mem v st' side) F gc 1 dst all os cs env st Q = ((gc = true ∨ st' = st) ∧ ((1 : Nat) = 2 ∨ (1 : Nat) = 1 ∧ st' = st) ∧ (gc = true → side) ∧ dK3 P T an L ss all os cs (env.put L dst gc v) st' Q)) ∧
    (∀ (P : Program) (T : Nat → TI) (an : Nat → Nat) (L : List Nat) (ss : List St) (env : Env) (st : St) (Q : VExit → Env → St → Prop) (all : Array Oper) (dst : Option Tmp) (os : List Oper) (gc : Bool) (cs : List Nat) (v : V) (st' : St) (side : Prop) (F : St → Step), eK3 P T an L ss (.mem v st' side) F gc 2 dst all os cs env st Q = ((gc = true ∨ st' = st) ∧ ((2 : Nat) = 2 ∨ (2 : Nat) = 1 ∧ st' = st) ∧ (gc = true → side) ∧ dK3 P T an L ss all os cs (env.put L dst gc v) st' Q)) ∧
    (∀ (P : Program) (T : Nat → TI) (an : Nat → Nat) (L : List Nat) (ss : List St) (env : Env) (st : St) (Q : VExit → Env → St → Prop) (all : Array Oper) (dst : Option Tmp) (os : List Oper) (gc : Bool) (cs : List Nat) (v : V) (s0 : St) (side : Prop) (F : St → Step), eK3 P T an L ss (.mem v s0 side) F gc 3 dst all os cs env st Q = (s0 = st ∧ (gc = true → side) ∧ stillK F gc ss v ∧ dK3 P T an L ss all os cs (env.put L dst gc v) st Q)) ∧
    (∀ (F : St → Step) (gc : Bool) (v : V), stillK F gc [] v = True) ∧
    (∀ (F : St → Step) (gc : Bool) (v : V) (s : St) (r : List St), stillK F gc (s :: r) v = (memIs (F s) gc s v ∧ stillK F gc r v)) ∧
    (∀ (gc : Bool) (s s' : St) (v v' : V) (side : Prop), memIs (.mem v' s' side) gc s v = (v' = v ∧ s' = s ∧ (gc = true → side))) := by
  and_intros <;> intros <;> first
    | rfl
    | (simp only [dK3, hK3, bindO, List.headD_cons, List.tail_cons]; generalize guardV _ _ _ = r; cases r <;> rfl)
end Go.Proofs.YtcdnooalfkbmgaaDoor.Gw
