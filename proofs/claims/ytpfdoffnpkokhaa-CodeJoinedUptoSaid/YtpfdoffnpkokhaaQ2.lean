/- The state: its objects, as they lie in memory; and the operations that make, read and write them. Appending, whatever is appended: by what it is read as. Operations that make, read and write memory. Literals of slices, and appending. Appending. Appending, as an operation. -/
import Derived.Test.YtpfdoffnpkokhaaQ1

namespace Go.Proofs.Ytpfdoffnpkokhaa.Gw
open Go
set_option linter.unusedSimpArgs false

section
variable {P : Program} {T : Nat → TI}

/-- A growing list's block: nothing yet, or a row of so many rows, sealed or not. -/
def SimTip (T : Nat → TI) (g : G) (w : World) (i : Nat) (e : TypeId) (n sl : Nat) (xs : List Value) : Prop :=
  g.len i = n ∧ xs.length = n * (T e).size ∧
    ((n = 0 ∧ g.tv i = .slice none 0 0) ∨
     ∃ b cap cur, g.tv i = .slice (some ⟨b, 0, none⟩) n cap ∧ g.own b = some sl ∧ w.heap[b]? = some (.cells cur e (0, 0)) ∧ n ≤ cap ∧ cap ≤ maxLen ∧ cur.size = cap * (T e).size ∧
       cur.toList.take (n * (T e).size) = xs)

def SimE (T : Nat → TI) (g : G) (w : World) (i : Nat) : Ent → Prop
  | .box c => g.own (g.pb i) = some 0 ∧ ∃ vs : List Value, ∃ t, w.heap[g.pb i]? = some (.cells vs.toArray t (0, 0)) ∧ SimVs g w c vs ∧ ∀ u ∈ vs, u.oneCell' = true
  | .tip e n => ∃ xs, SimTip T g w i e n (n * (T e).size) xs
  | .arr e sz c => sz = (T e).size ∧ (∀ r ∈ c, r.length = sz) ∧ ∃ xs, SimTip T g w i e c.length 0 xs ∧ SimVs g w c.flatten xs ∧ ∀ u ∈ xs, u.oneCell' = true
  | .gone => True

def blkOf (g : G) (i : Nat) : Ent → Option Nat
  | .box _ => some (g.pb i)
  | .tip _ _ | .arr _ _ _ => (g.tv i).ownBlock
  | .gone => none

structure SimSt (T : Nat → TI) (g : G) (st : St) (w : World) : Prop where
  n : g.n = st.length
  ent : ∀ i e, st[i]? = some e → SimE T g w i e
  one : ∀ i j ei ej b, st[i]? = some ei → st[j]? = some ej → blkOf g i ei = some b → blkOf g j ej = some b → i = j

theorem SimTip.keep {g g' : G} {w w' : World} {i : Nat} {e : TypeId} {n sl : Nat} {xs : List Value} (h : SimTip T g w i e n sl xs) (hl : g'.len i = g.len i) (ht : g'.tv i = g.tv i)
    (hb : ∀ b, (g.tv i).ownBlock = some b → w'.heap[b]? = w.heap[b]? ∧ g'.own b = g.own b) : SimTip T g' w' i e n sl xs := by
  obtain ⟨h1, h2, h3⟩ := h
  refine ⟨hl.trans h1, h2, ?_⟩
  rcases h3 with ⟨h3, h4⟩ | ⟨b, cap, cur, k1, k2, k3, k4⟩
  · exact .inl ⟨h3, ht.trans h4⟩
  · obtain ⟨e1, e2⟩ := hb b (by rw [k1]; rfl)
    exact .inr ⟨b, cap, cur, ht.trans k1, e2.trans k2, e1.trans k3, k4⟩

theorem SimE.keep {g g' : G} {w w' : World} {i : Nat} {e : Ent} (h : SimE T g w i e) (hx : Ext g w g' w') (hp : g'.pb i = g.pb i) (hl : g'.len i = g.len i) (ht : g'.tv i = g.tv i)
    (hb : ∀ b, blkOf g i e = some b → w'.heap[b]? = w.heap[b]? ∧ g'.own b = g.own b) : SimE T g' w' i e := by
  cases e with
  | box c =>
    obtain ⟨h1, vs, t, h2, h3, h4⟩ := h
    obtain ⟨e1, e2⟩ := hb _ rfl
    simp only [SimE, hp]
    exact ⟨e2.trans h1, vs, t, e1.trans h2, h3.ext hx, h4⟩
  | tip e n => obtain ⟨xs, h⟩ := h; exact ⟨xs, h.keep hl ht hb⟩
  | arr e sz c =>
    obtain ⟨h1, h2, xs, h3, h4, h5⟩ := h
    exact ⟨h1, h2, xs, h3.keep hl ht hb, h4.ext hx, h5⟩
  | gone => trivial

/-- The block of an entry is there, and owned. -/
theorem SimE.blk {g : G} {w : World} {i : Nat} {e : Ent} {b : Nat} (h : SimE T g w i e) (hb : blkOf g i e = some b) : b < w.heap.size ∧ (g.own b).isSome = true := by
  have tip : ∀ {e n sl xs}, SimTip T g w i e n sl xs → (g.tv i).ownBlock = some b → b < w.heap.size ∧ (g.own b).isSome = true := by
    intro e n sl xs h hb
    rcases h.2.2 with ⟨_, k⟩ | ⟨b', cap, cur, k1, k2, k3, _⟩
    · rw [k] at hb; simp [Value.ownBlock] at hb
    · rw [k1] at hb; simp [Value.ownBlock] at hb; subst hb
      exact ⟨(Array.getElem?_eq_some_iff.1 k3).1, by simp [k2]⟩
  cases e with
  | box c =>
    obtain ⟨h1, vs, t, h2, _⟩ := h
    simp only [blkOf, Option.some.injEq] at hb; subst hb
    exact ⟨(Array.getElem?_eq_some_iff.1 h2).1, by simp [h1]⟩
  | tip e n => obtain ⟨xs, h⟩ := h; exact tip h hb
  | arr e sz c => obtain ⟨_, _, xs, h, _⟩ := h; exact tip h hb
  | gone => simp [blkOf] at hb

/-- Where nothing that the state has is touched. -/
theorem SimSt.keep {g g' : G} {st : St} {w w' : World} (h : SimSt T g st w) (hx : Ext g w g' w') (hn : g'.n = g.n) (hl : ∀ o, o < g.n → g'.len o = g.len o)
    (hb : ∀ b, b < w.heap.size → (g.own b).isSome = true → w'.heap[b]? = w.heap[b]? ∧ g'.own b = g.own b) : SimSt T g' st w' where
  n := hn.trans h.n
  ent := fun i e hi => by
    have hlt : i < g.n := by rw [h.n]; exact (List.getElem?_eq_some_iff.1 hi).1
    have hl' := hl i hlt
    exact (h.ent i e hi).keep hx (hx.pb i hlt) hl' (hx.tv i hlt hl') fun b hbb => by
      obtain ⟨h1, h2⟩ := (h.ent i e hi).blk hbb
      exact hb b h1 h2
  one := fun i j ei ej b hi hj h1 h2 => by
    have hi' : i < g.n := by rw [h.n]; exact (List.getElem?_eq_some_iff.1 hi).1
    have hj' : j < g.n := by rw [h.n]; exact (List.getElem?_eq_some_iff.1 hj).1
    have e : ∀ k ek, k < g.n → blkOf g' k ek = blkOf g k ek := by
      intro k ek hk
      cases ek <;> simp [blkOf, hx.pb k hk, hx.tv k hk (hl k hk)]
    rw [e i ei hi'] at h1
    rw [e j ej hj'] at h2
    exact h.one i j ei ej b hi hj h1 h2

/-- A new block, owned or not. -/
def G.new (g : G) (b : Nat) (k : Option Nat) : G := { g with own := fun x => if x = b then k else g.own x }

theorem Ext.alloc (g : G) (w : World) (o : Obj) (k : Option Nat) : Ext g w (g.new w.heap.size k) (w.alloc o) where
  os := rfl
  tape := rfl
  output := rfl
  size := by simp
  n := Nat.le_refl _
  pb := fun _ _ => rfl
  len := fun _ _ => Nat.le_refl _
  tv := fun _ _ _ => rfl
  free := fun b hb ho => ⟨RowKit.Below.heap_alloc w o b hb, by simp only [G.new]; rw [if_neg (by omega)]; exact ho⟩
  kept := fun b k' hb ho => ⟨fun off _ => cell_of_block (RowKit.Below.heap_alloc w o b hb), fun k'' hk => by simp only [G.new] at hk; rw [if_neg (by omega), ho] at hk; cases hk; exact Nat.le_refl _⟩

theorem SimSt.alloc {g : G} {st : St} {w : World} (h : SimSt T g st w) (o : Obj) (k : Option Nat) : SimSt T (g.new w.heap.size k) st (w.alloc o) :=
  h.keep (Ext.alloc g w o k) rfl (fun _ _ => rfl) fun b hb _ => ⟨RowKit.Below.heap_alloc w o b hb, by simp only [G.new]; rw [if_neg (by omega)]⟩

/-- A new entry at the end: with its block, its value, its count. -/
def G.push (g : G) (b : Nat) (v : Value) (k : Nat) : G :=
  { g with pb := fun x => if x = g.n then b else g.pb x, tv := fun x => if x = g.n then v else g.tv x, len := fun x => if x = g.n then k else g.len x, n := g.n + 1 }

theorem Ext.push (g : G) (w : World) (b : Nat) (v : Value) (k : Nat) : Ext g w (g.push b v k) w where
  os := rfl
  tape := rfl
  output := rfl
  size := Nat.le_refl _
  n := by simp [G.push]
  pb := fun o ho => by simp only [G.push]; rw [if_neg (by omega)]
  len := fun o ho => by simp only [G.push]; rw [if_neg (by omega)]; exact Nat.le_refl _
  tv := fun o ho _ => by simp only [G.push]; rw [if_neg (by omega)]
  free := fun b hb ho => ⟨rfl, ho⟩
  kept := fun b k' hb ho => ⟨fun _ _ => rfl, fun k'' hk => by simp only [G.push] at hk; rw [ho] at hk; cases hk; exact Nat.le_refl _⟩

theorem SimSt.push {g : G} {st : St} {w : World} (h : SimSt T g st w) {b : Nat} {v : Value} {k : Nat} {e : Ent} (he : SimE T (g.push b v k) w g.n e)
    (hb : ∀ c, blkOf (g.push b v k) g.n e = some c → ∀ i ei, st[i]? = some ei → blkOf g i ei ≠ some c) : SimSt T (g.push b v k) (st ++ [e]) w := by
  have hx := Ext.push g w b v k
  have bk : ∀ i ei, i < g.n → blkOf (g.push b v k) i ei = blkOf g i ei := by
    intro i ei hi
    cases ei <;> simp only [blkOf, G.push] <;> rw [if_neg (by omega)]
  refine ⟨by simp [G.push, h.n], fun i ei hi => ?_, fun i j ei ej c hi hj h1 h2 => ?_⟩
  · rcases Nat.lt_or_ge i st.length with hlt | hge
    · rw [List.getElem?_append_left hlt] at hi
      have hlt' : i < g.n := by rw [h.n]; exact hlt
      have q : i ≠ g.n := by omega
      exact (h.ent i ei hi).keep hx (hx.pb i hlt') (by simp [G.push, q]) (by simp [G.push, q]) fun c _ => ⟨rfl, rfl⟩
    · have : i = st.length := by
        have := (List.getElem?_eq_some_iff.1 hi).1
        simp at this; omega
      subst this
      simp at hi; subst hi
      rw [← h.n]; exact he
  · have cse : ∀ i ei, (st ++ [e])[i]? = some ei → (i < g.n ∧ st[i]? = some ei) ∨ (i = g.n ∧ ei = e) := by
      intro i ei hi
      rcases Nat.lt_or_ge i st.length with hlt | hge
      · rw [List.getElem?_append_left hlt] at hi
        exact .inl ⟨by rw [h.n]; exact hlt, hi⟩
      · have : i = st.length := by
          have := (List.getElem?_eq_some_iff.1 hi).1
          simp at this; omega
        subst this
        simp at hi
        exact .inr ⟨h.n.symm, hi.symm⟩
    rcases cse i ei hi with ⟨hi1, hi2⟩ | ⟨rfl, rfl⟩ <;> rcases cse j ej hj with ⟨hj1, hj2⟩ | ⟨rfl, rfl⟩
    · rw [bk _ _ hi1] at h1; rw [bk _ _ hj1] at h2
      exact h.one i j ei ej c hi2 hj2 h1 h2
    · rw [bk _ _ hi1] at h1
      exact absurd h1 (hb c h2 i ei hi2)
    · rw [bk _ _ hj1] at h2
      exact absurd h2 (hb c h1 j ej hj2)
    · rfl

/-- Blocks of the state lie below what is new. -/
theorem SimSt.blk_lt {g : G} {st : St} {w : World} (h : SimSt T g st w) {i : Nat} {e : Ent} {b : Nat} (hi : st[i]? = some e) (hb : blkOf g i e = some b) : b < w.heap.size :=
  ((h.ent i e hi).blk hb).1

/-- A new box. -/
theorem SimSt.newBox {g : G} {st : St} {w : World} (h : SimSt T g st w) (t : TypeId) {c : List V} {vs : List Value} (hc : SimVs g w c vs) (ho : ∀ u ∈ vs, u.oneCell' = true) :
    ∃ g', Ext g w g' (w.alloc (.cells vs.toArray t)) ∧ SimSt T g' (st ++ [.box c]) (w.alloc (.cells vs.toArray t)) ∧ SimV g' (w.alloc (.cells vs.toArray t)) (.ptr st.length 0) (.pointer (some ⟨w.heap.size, 0, none⟩)) := by
  have h1 := h.alloc (.cells vs.toArray t) (some 0)
  have x1 := Ext.alloc g w (.cells vs.toArray t) (some 0)
  have x2 := Ext.push (g.new w.heap.size (some 0)) (w.alloc (.cells vs.toArray t)) w.heap.size default 0
  refine ⟨_, x1.trans x2, h1.push ?_ ?_, ?_⟩
  · have e1 : ((g.new w.heap.size (some 0)).push w.heap.size default 0).pb (g.new w.heap.size (some 0)).n = w.heap.size := by simp [G.push]
    simp only [SimE, e1]
    exact ⟨by simp [G.push, G.new], vs, t, heap_alloc_new w _, hc.ext (x1.trans x2), ho⟩
  · intro c' hc' i ei hi hb
    simp only [blkOf, G.push, if_true, Option.some.injEq] at hc'
    subst hc'
    have : blkOf g i ei = some w.heap.size := by
      cases ei <;> exact hb
    have := h.blk_lt hi this
    omega
  · simp only [SimV]
    have : g.n = st.length := h.n
    simp [G.push, G.new, this]

/-- A new row of cells that stay. -/
theorem newSealed {g : G} {w : World} (t : TypeId) {c : List V} {vs : List Value} (hc : SimVs g w c vs) (ho : ∀ u ∈ vs, u.oneCell' = true) :
    SimAt (g.new w.heap.size none) (w.alloc (.cells vs.toArray t)) ⟨w.heap.size, 0, none⟩ c := by
  have x1 := Ext.alloc g w (.cells vs.toArray t) none
  have hc := hc.ext x1
  have key : ∀ (c : List V) (us : List Value) (off : Nat), SimVs (g.new w.heap.size none) (w.alloc (.cells vs.toArray t)) c us → (∀ j u, us[j]? = some u → vs[off + j]? = some u) → SimAt (g.new w.heap.size none) (w.alloc (.cells vs.toArray t)) ⟨w.heap.size, off, none⟩ c := by
    intro c
    induction c with
    | nil => intro us off _ _; simp [SimAt]
    | cons x xs ih =>
      intro us off h1 h2
      simp only [SimVs] at h1
      obtain ⟨v, r, rfl, h3, h4⟩ := h1
      have hv : vs[off]? = some v := by simpa using h2 0 v (by simp)
      simp only [SimAt]
      refine ⟨⟨v, ⟨rfl, by simp, fun k hk => by simp [G.new] at hk⟩, by simpa using hv, ho v (List.mem_of_getElem? hv), h3⟩, ?_⟩
      have e : (Addr.mk w.heap.size off none).add 1 = ⟨w.heap.size, off + 1, none⟩ := Addr.add_eq rfl 1
      rw [e]
      exact ih r (off + 1) h4 fun j u hj => by
        have := h2 (j + 1) u (by simpa using hj)
        rw [show off + (j + 1) = off + 1 + j by omega] at this; exact this
  exact key c vs 0 hc (by simp)
end
end Go.Proofs.Ytpfdoffnpkokhaa.Gw

namespace Go.Proofs.Ytpfdoffnpkokhaa.Gw
open Go
set_option linter.unusedSimpArgs false

section
variable {P : Program} {T : Nat → TI}

/-- What is read of the second argument of an append. -/
structure Feeds (P : Program) (u : Value) (size m : Nat) (news : List Value) (w : World) : Prop where
  len : news.length = m * size
  one : ∀ x ∈ news, x.oneCell' = true
  now : (Builtin.lenOf u).run P w = .ok m w
  cells : (Builtin.firstCells size m u).run P w = .ok news.toArray w
  drew : (Builtin.firstCells size m u).run P w.drew = .ok news.toArray w.drew

theorem run_append_zero (w : World) (t xt ty e : TypeId) (i : TypeInfo) (d : TypeDesc) (ht : P.underlying t = some (.slice e)) (hx : P.underlying xt = some d) (hd : d = .string ∨ ∃ e', d = .slice e') (hi : P.info? e = some i)
    {u : Value} {news : List Value} (hf : Feeds P u i.size 0 news w) : (Builtin.append_ #[t, xt] ty #[.slice none 0 0, u]).run P w = .ok (.slice none 0 0) w := by
  have h1 := hf.now
  have h2 := hf.cells
  rcases hd with rfl | ⟨e', rfl⟩ <;> simp [Builtin.append_, run_underlying ht, run_underlying hx, Go.sizeOf, typeInfo, hi, h1, h2]

theorem run_append_none (w : World) (t xt ty e : TypeId) (i : TypeInfo) (z : Value) (d : TypeDesc) (ht : P.underlying t = some (.slice e)) (hx : P.underlying xt = some d) (hd : d = .string ∨ ∃ e', d = .slice e') (hi : P.info? e = some i) (hz : i.zero = some z)
    {u : Value} {m : Nat} {news : List Value} (hf : Feeds P u i.size m news w) (h0 : 0 < m) (h63 : (m : Int) ≤ 9223372036854775807) (h48 : m * i.bytes ≤ 281474976710656) :
    (Builtin.append_ #[t, xt] ty #[.slice none 0 0, u]).run P w =
      .ok (.slice (some ⟨w.heap.size, 0, none⟩) m (grownCap w m 0 e)) (w.drew.alloc (.cells (news.toArray ++ Builtin.zeroCells z.cells (grownCap w m 0 e - m)) e)) := by
  have hn : m ≠ 0 := by omega
  have h63' : ¬ (9223372036854775807 < (m : Int)) := by omega
  have h48' : ¬ (281474976710656 < Builtin.nextslicecap m 0 * i.bytes) := by rw [nextslicecap_zero h0]; omega
  have h1 := hf.now
  have h2 := hf.drew
  rcases hd with rfl | ⟨e', rfl⟩ <;> simp [Builtin.append_, run_underlying ht, run_underlying hx, Go.sizeOf, typeInfo, zeroValue, hi, hz, h1, h2, hn, h63', h48', Question.forced, run_firstCells_none, newRow, grownCap]

theorem run_append_more (w : World) (t xt ty e : TypeId) (i : TypeInfo) (z : Value) (d : TypeDesc) (ht : P.underlying t = some (.slice e)) (hx : P.underlying xt = some d) (hd : d = .string ∨ ∃ e', d = .slice e') (hi : P.info? e = some i) (hz : i.zero = some z)
    (b : Addr) (sLen sCap : Nat) (olds : List Value) (hlo : olds.length = sLen * i.size) (holds : ∀ j v, olds[j]? = some v → w.cell? (b.add j) = some v)
    {u : Value} {m : Nat} {news : List Value} (hf : Feeds P u i.size m news w) (hg : sCap < sLen + m) (h63 : ((sLen + m : Nat) : Int) ≤ 9223372036854775807) (hfit : Builtin.nextslicecap (sLen + m) sCap * i.bytes ≤ 281474976710656) :
    (Builtin.append_ #[t, xt] ty #[.slice (some b) sLen sCap, u]).run P w =
      .ok (.slice (some ⟨w.heap.size, 0, none⟩) (sLen + m) (grownCap w (sLen + m) sCap e))
        (w.drew.alloc (.cells (olds.toArray ++ news.toArray ++ Builtin.zeroCells z.cells (grownCap w (sLen + m) sCap e - (sLen + m))) e)) := by
  have hn : ¬ (sLen + m ≤ sCap) := by omega
  have h63' : ¬ (9223372036854775807 < ((sLen : Int) + (m : Int))) := by omega
  have h48' : ¬ (281474976710656 < Builtin.nextslicecap (sLen + m) sCap * i.bytes) := by omega
  have h1 := hf.now
  have h2 := hf.drew
  have hfo := run_firstCells_some (P := P) w.drew i.size sLen b sLen sCap olds hlo (by simpa using holds)
  rcases hd with rfl | ⟨e', rfl⟩ <;> simp [Builtin.append_, run_underlying ht, run_underlying hx, Go.sizeOf, typeInfo, zeroValue, hi, hz, h1, h2, hn, h63', h48', Question.forced, hfo, newRow, grownCap] <;> congr 2 <;> apply Array.ext' <;> simp

theorem run_append_fits (w : World) (t xt ty e : TypeId) (i : TypeInfo) (d : TypeDesc) (ht : P.underlying t = some (.slice e)) (hx : P.underlying xt = some d) (hd : d = .string ∨ ∃ e', d = .slice e') (hi : P.info? e = some i)
    (g sLen sCap : Nat) (cur : Array Value) (hg : w.heap[g]? = some (.cells cur e (0, 0)))
    {u : Value} {m : Nat} {news : List Value} (hf : Feeds P u i.size m news w)
    (hroom : sLen + m ≤ sCap) (hfit : sLen * i.size + news.length ≤ cur.size) :
    (Builtin.append_ #[t, xt] ty #[.slice (some ⟨g, 0, none⟩) sLen sCap, u]).run P w =
      .ok (.slice (some ⟨g, 0, none⟩) (sLen + m) sCap) (w.setRow g (cur.toList.take (sLen * i.size) ++ news ++ cur.toList.drop (sLen * i.size + news.length)).toArray) := by
  have hst := run_storeCells_at P g (sLen * i.size) e news 0 cur w hg (by simpa using hfit) hf.one
  simp only [Nat.add_zero] at hst
  have h1 := hf.now
  have h2 := hf.cells
  have e1 : (Addr.mk g 0 none).add (sLen * i.size) = ⟨g, sLen * i.size, none⟩ := by rw [Addr.add_eq rfl]; simp
  rcases hd with rfl | ⟨e', rfl⟩ <;> simp [Builtin.append_, run_underlying ht, run_underlying hx, Go.sizeOf, typeInfo, hi, h1, h2, hroom, e1, hst]

/-- A list as what is appended. -/
theorem Feeds.lst {g : G} {w : World} {sz : Nat} {tk : Option Nat} {l : List (List V)} {u : Value} (h : SimV g w (.lst sz tk l) u) :
    ∃ news, Feeds P u sz l.length news w ∧ SimVs g w l.flatten news ∧ ∀ r ∈ l, r.length = sz := by
  simp only [SimV] at h
  obtain ⟨a, cap, rfl, c1, c2, c3, c0, -, c5⟩ := h
  have key : ∀ (l : List (List V)) (a : Addr), a.spot = none → SimRows g w a sz l → SimAt g w a l.flatten ∧ (∀ r ∈ l, r.length = sz) ∧ l.flatten.length = l.length * sz := by
    intro l
    induction l with
    | nil => intro a _ _; simp [SimAt]
    | cons r rs ih =>
      intro a ha h
      simp only [SimRows] at h
      obtain ⟨h1, h2, h3⟩ := h
      obtain ⟨k1, k2, k3⟩ := ih _ (Addr.add_spot ha) h3
      refine ⟨?_, by simpa using ⟨h1, k2⟩, by simp only [List.flatten_cons, List.length_append, k3, h1, List.length_cons, Nat.succ_mul]; omega⟩
      have app : ∀ (x y : List V) (a : Addr), a.spot = none → SimAt g w a x → SimAt g w (a.add x.length) y → SimAt g w a (x ++ y) := by
        intro x
        induction x with
        | nil => intro y a _ _ h; simpa [Addr.add] using h
        | cons x xs ih =>
          intro y a ha h k
          simp only [SimAt, List.cons_append] at h ⊢
          refine ⟨h.1, ih y _ (Addr.add_spot ha) h.2 ?_⟩
          have e : (a.add 1).add xs.length = a.add (x :: xs).length := by
            rw [Addr.add_eq ha, Addr.add_eq ha, Addr.add_eq rfl]; simp only [Addr.mk.injEq, and_true, true_and, List.length_cons]; omega
          rw [e]; exact k
      rw [List.flatten_cons]
      exact app r _ a ha h2 (by rw [h1]; exact k1)
  rcases c0 with rfl | c0
  · cases a with
    | none => exact ⟨[], ⟨by simp, by simp, rfl, rfl, rfl⟩, by simp [SimVs], by simp⟩
    | some a => exact ⟨[], ⟨by simp, by simp, rfl, run_firstCells_some (P := P) w sz 0 a 0 cap [] (by simp) (by simp), run_firstCells_some (P := P) w.drew sz 0 a 0 cap [] (by simp) (by simp)⟩, by simp [SimVs], by simp⟩
  obtain ⟨k1, k2, k3⟩ := key l _ c0 c5
  obtain ⟨vs, v1, v2, v3⟩ := k1.list c0
  have hlen : vs.length = l.length * sz := by rw [v1.length, k3]
  cases a with
  | none =>
    have hl : l = [] := List.eq_nil_of_length_eq_zero (by have := c3 rfl; omega)
    subst hl
    have : vs = [] := by simpa using hlen
    subst this
    exact ⟨[], ⟨by simp, by simp, rfl, rfl, rfl⟩, by simp [SimVs], by simp⟩
  | some a =>
    simp only [Option.getD_some] at v3
    refine ⟨vs, ⟨hlen, v2, rfl, ?_, ?_⟩, v1, k2⟩
    · have := run_firstCells_some (P := P) w sz l.length a l.length cap vs hlen v3
      exact this
    · exact run_firstCells_some (P := P) w.drew sz l.length a l.length cap vs hlen (by simpa using v3)

theorem Feeds.nils {w : World} {sz : Nat} : Feeds P (.slice none 0 0) sz 0 [] w := ⟨by simp, by simp, rfl, rfl, rfl⟩

theorem Feeds.str {w : World} (s : List UInt8) : Feeds P (.string ⟨s.toArray⟩) 1 s.length (s.map fun b => Value.int .u8 b.toNat) w := by
  have e : ((ByteArray.mk s.toArray).extract 0 s.length) = ⟨s.toArray⟩ := by rw [str_extract]; simp
  refine ⟨by simp, by simp [Value.oneCell'], by simp [Builtin.lenOf, size_mk], ?_, ?_⟩ <;> simp [Builtin.firstCells, e]
end
end Go.Proofs.Ytpfdoffnpkokhaa.Gw

namespace Go.Proofs.Ytpfdoffnpkokhaa.Gw
open Go
set_option linter.unusedSimpArgs false

def rowsOf (sz : Nat) : V → Option (List (List V))
  | .nils => some []
  | .lst s _ l => if s = sz then some l else none
  | .str s => if sz = 1 then some (s.map fun b => [V.int .u8 b.toNat]) else none
  | _ => none

/-- Appending rows; what comes is a list, or, where the mode is 2, an array. -/
def appendV (mode : Nat) (e : TypeId) (i : TI) (s : V) (m : List (List V)) (st : St) : Option (V × St × Prop) :=
  match s with
  | .nils => match mode with
    | 2 => some (.arr st.length m.length, st ++ [.arr e i.size m], m.length * i.bytes ≤ 140737488355328)
    | _ => some (.lst i.size (some st.length) m, st ++ [.tip e m.length], m.length * i.bytes ≤ 140737488355328)
  | .lst sz (some k) l => match st[k]? with
    | some (.tip e' n) => if e' = e ∧ sz = i.size then some (.lst sz (some k) (l ++ m), st.set k (.tip e (l.length + m.length)), n = l.length ∧ (l.length + m.length) * i.bytes ≤ 140737488355328) else none
    | _ => none
  | .arr k n => match st[k]? with
    | some (.arr e' sz c) => if e' = e ∧ sz = i.size then some (.arr k (c.length + m.length), st.set k (.arr e sz (c ++ m)), n = c.length ∧ (c.length + m.length) * i.bytes ≤ 140737488355328) else none
    | _ => none
  | _ => none

/-- The rows of a literal. -/
def litRows (i : TI) (n : Nat) : List (Nat × V) → Option (List (List V))
  | [] => some (List.replicate n i.zero)
  | (k, v) :: r => match litRows i n r, v.cells with
    | some rows, some l => if k < n ∧ l.length = i.size then some (rows.set k l) else none
    | _, _ => none

def memOp (T : Nat → TI) (an : Nat → Nat) (dst : Option Tmp) (op : Op) (ev : Operand → V) (st : St) : Option (V × St × Prop) :=
  match op with
  | .alloc t => if (T t).known then
      match an (dst.getD 0) with
      | 0 => some (.ptr st.length 0, st ++ [.box (T t).zero], True)
      | _ => some (.ref (T t).zero, st, True)
    else none
  | .box _ x => match (ev x).cells with
    | some l => match an (dst.getD 0) with
      | 0 => some (.ptr st.length 0, st ++ [.box l], True)
      | _ => some (.ref l, st, True)
    | none => none
  | .load t x => match ev x with
    | .ptr o n => match st[o]? with
      | some (.box c) => if (T t).known then (loadV (T t) (c.drop n)).map fun r => (r.1, st, r.2) else none
      | _ => none
    | _ => none
  | .store t a x => match ev a with
    | .ptr o n => match st[o]?, (ev x).cells with
      | some (.box c), some l => if (T t).known ∧ l.length = (T t).size then some (.junk, st.set o (.box (c.take n ++ l ++ c.drop (n + l.length))), n + l.length ≤ c.length) else none
      | _, _ => none
    | _ => none
  | .buildSlice t n parts => match (T t).kind with
    | .slice e => if (T e).sized ∧ n * (T e).size ≤ 16777216 then match litRows (T e) n (parts.toList.reverse.map fun p => (p.1, ev p.2)) with
        | some rows => match an (dst.getD 0) with
          | 0 => some (.lst (T e).size none rows, st, True)
          | 1 => some (.lst (T e).size (some st.length) rows, st ++ [.tip e n], True)
          | _ => some (.arr st.length n, st ++ [.arr e (T e).size rows], True)
        | none => none
      else none
    | _ => none
  | .call c => match c.callee, c.args.toList.map ev, c.argTypes.toList with
    | .builtin .append, [s, x], [t, xt] => match (T t).kind, (T xt).kind with
      | .slice e, .slice _ => if (T e).sized ∧ (T e).bytes ≠ 0 then match rowsOf (T e).size x with
        | some m => appendV (an (dst.getD 0)) e (T e) s m st
        | none => none else none
      | .slice e, .str => if (T e).sized ∧ (T e).bytes ≠ 0 then match rowsOf (T e).size x with
        | some m => appendV (an (dst.getD 0)) e (T e) s m st
        | none => none else none
      | _, _ => none
    | _, _, _ => none
  | _ => none

section
variable {P : Program} {T : Nat → TI} {an : Nat → Nat} {dst : Option Tmp} {ty : TypeId} {pos : String} {aft : Array Edge} {gd : Option (Nat × Bool)}

/-- What an operation has done. -/
def Did (P : Program) (T : Nat → TI) (ρ : Operand → Value) (o : Oper) (g : G) (w : World) (v : V) (st' : St) : Prop :=
  ∃ r val w' g', (execOp ρ o).run P w = .ok r w' ∧ (r = .value val ∨ (r = .skip ∧ val = undef)) ∧ SimV g' w' v val ∧ SimSt T g' st' w' ∧ Ext g w g' w'

theorem zval_cells {i : TI} {t : TypeId} (h : TI.ok P t i) : i.zval.cells = (i.zero.map V.raw).toArray := by
  obtain ⟨h1, h2, h3, h4, h5⟩ := h
  unfold TI.zval
  cases ha : i.agg with
  | true => simp [Value.cells]
  | false =>
    have h1 := h4.trans (h5 ha)
    cases hz : i.zero with
    | nil => simp [hz] at h1
    | cons x xs =>
      cases xs with
      | cons y ys => simp [hz] at h1
      | nil =>
        have hx : x.flat = true := by simpa [hz] using h3
        simp only [List.map_cons, List.map_nil, List.headD_cons, Bool.false_eq_true, if_false]
        cases x <;> simp [V.flat] at hx <;> rfl

theorem s_new {g : G} {w : World} {st : St} (hst : SimSt T g st w) {ρ : Operand → Value} {o : Oper} (t : TypeId) {mode : Nat} {c : List V} {vs : List Value} (hc : SimVs g w c vs) (ho : ∀ u ∈ vs, u.oneCell' = true)
    (hr : (execOp ρ o).run P w = .ok (.value (.pointer (some ⟨w.heap.size, 0, none⟩))) (w.alloc (.cells vs.toArray t))) :
    (mode = 0 → Did P T ρ o g w (.ptr st.length 0) (st ++ [.box c])) ∧ Did P T ρ o g w (.ref c) st := by
  refine ⟨fun _ => ?_, ?_⟩
  · obtain ⟨g', x, s, v⟩ := hst.newBox t hc ho
    exact ⟨_, _, _, g', hr, .inl rfl, v, s, x⟩
  · exact ⟨_, _, _, _, hr, .inl rfl, by simp only [SimV]; exact ⟨_, rfl, rfl, newSealed t hc ho⟩, hst.alloc _ none, Ext.alloc g w _ none⟩

theorem s_alloc (hT : Tab P T) {g : G} {w : World} {st : St} (hst : SimSt T g st w) {ρ : Operand → Value} {t : TypeId} {v : V} {st' : St} {side : Prop} {ev : Operand → V}
    (h : memOp T an dst (.alloc t) ev st = some (v, st', side)) : Did P T ρ ⟨dst, .alloc t, ty, pos, aft, gd⟩ g w v st' := by
  simp only [memOp] at h
  split at h
  case isFalse => simp at h
  rename_i hk
  have hk := known_kind hk
  obtain ⟨i, h1, h2, h3, h4⟩ := hT.info hk
  have hz : (zeroValue t).run P w = .ok (T t).zval w := by simp [zeroValue, typeInfo, h1, h2]
  have hok := hT t hk
  have key := s_new (P := P) hst (ρ := ρ) (o := ⟨dst, .alloc t, ty, pos, aft, gd⟩) t (mode := an (dst.getD 0)) (raws_sim (g := g) (w := w) _ hok.2.2.1) (raws_one _ hok.2.2.1) (by
    simp [execOp, Instr.alloc, hz, newVar, newRow, zval_cells hok])
  split at h <;> simp only [Option.some.injEq, Prod.mk.injEq] at h <;> obtain ⟨rfl, rfl, rfl⟩ := h
  · rename_i h0; exact key.1 h0
  · exact key.2

theorem s_box {g : G} {w : World} {st : St} (hst : SimSt T g st w) {ρ : Operand → Value} {t : TypeId} {x : Operand} {v : V} {st' : St} {side : Prop} {ev : Operand → V} (hev : ∀ x, SimV g w (ev x) (ρ x))
    (h : memOp T an dst (.box t x) ev st = some (v, st', side)) : Did P T ρ ⟨dst, .box t x, ty, pos, aft, gd⟩ g w v st' := by
  simp only [memOp] at h
  split at h
  case h_2 => simp at h
  rename_i l hl
  obtain ⟨k1, k2⟩ := cells_sim hl (hev x)
  have key := s_new (P := P) hst (ρ := ρ) (o := ⟨dst, .box t x, ty, pos, aft, gd⟩) t (mode := an (dst.getD 0)) k1 k2 (by simp [execOp, Instr.box, newVar, newRow])
  split at h <;> simp only [Option.some.injEq, Prod.mk.injEq] at h <;> obtain ⟨rfl, rfl, rfl⟩ := h
  · rename_i h0; exact key.1 h0
  · exact key.2

theorem s_load (hT : Tab P T) {g : G} {w : World} {st : St} (hst : SimSt T g st w) {ρ : Operand → Value} {t : TypeId} {x : Operand} {v : V} {st' : St} {side : Prop} {ev : Operand → V} (hev : ∀ x, SimV g w (ev x) (ρ x))
    (h : memOp T an dst (.load t x) ev st = some (v, st', side)) (hs : side) : Did P T ρ ⟨dst, .load t x, ty, pos, aft, gd⟩ g w v st' := by
  simp only [memOp] at h
  have hx := hev x
  split at h
  case h_2 => simp at h
  rename_i o n hx'
  split at h
  case h_2 => simp at h
  rename_i c hc
  split at h
  case isFalse => simp at h
  rename_i hk
  cases hl : loadV (T t) (c.drop n) with
  | none => simp [hl] at h
  | some r =>
    simp only [hl, Option.map_some, Option.some.injEq, Prod.mk.injEq] at h
    obtain ⟨rfl, rfl, rfl⟩ := h
    rw [hx'] at hx
    simp only [SimV] at hx
    obtain ⟨ho, hx⟩ := hx
    obtain ⟨h1, vs, t', h2, h3, h4⟩ := hst.ent o _ hc
    have e : ∀ j u, (vs.drop n)[j]? = some u → w.cell? ((Addr.mk (g.pb o) n none).add j) = some u := by
      intro j u hj
      rw [Addr.add_eq rfl]
      simp only [World.cell?, h2]
      rw [List.getElem?_drop] at hj
      simpa using hj
    obtain ⟨val, r1, r2⟩ := load_cells hT (known_kind hk) (h3.drop n) (fun u hu => h4 u (List.mem_of_mem_drop hu)) e hl hs
    exact ⟨_, val, w, g, by simp [execOp, Instr.loadAt, Instr.sureAddr, hx, r1], .inl rfl, r2, hst, Ext.refl _ _⟩

/-- A write into a box. -/
theorem SimSt.write {g : G} {st : St} {w : World} (hst : SimSt T g st w) {o : Nat} {c c' : List V} {vs vs' : List Value} {t : TypeId} (ho : st[o]? = some (.box c)) (hw : w.heap[g.pb o]? = some (.cells vs.toArray t (0, 0)))
    (hc : SimVs g w c' vs') (h1 : ∀ u ∈ vs', u.oneCell' = true) : SimSt T g (st.set o (.box c')) (w.setRow (g.pb o) vs'.toArray) ∧ Ext g w g (w.setRow (g.pb o) vs'.toArray) := by
  have hown : g.own (g.pb o) = some 0 := (hst.ent o _ ho).1
  have hx : Ext g w g (w.setRow (g.pb o) vs'.toArray) := by
    refine ⟨rfl, rfl, rfl, by simp, Nat.le_refl _, fun _ _ => rfl, fun _ _ => Nat.le_refl _, fun _ _ _ => rfl, fun b hb hb' => ⟨setRow_other w _ b _ (fun e => by rw [e, hown] at hb'; cases hb'), hb'⟩, fun b k hb hb' => ⟨fun off hoff => ?_, fun k' hk' => by rw [hb'] at hk'; cases hk'; exact Nat.le_refl _⟩⟩
    by_cases e : b = g.pb o
    · subst e; rw [hown] at hb'; cases hb'; omega
    · exact cell_of_block (setRow_other w _ b _ e)
  have hlen : o < st.length := (List.getElem?_eq_some_iff.1 ho).1
  refine ⟨⟨by simpa using hst.n, fun i e hi => ?_, fun i j ei ej b hi hj k1 k2 => ?_⟩, hx⟩
  · by_cases hio : i = o
    · subst hio
      rw [List.getElem?_set_self hlen] at hi
      cases hi
      exact ⟨hown, vs', t, setRow_heap w _ _ _ _ _ hw, hc.ext hx, h1⟩
    · rw [List.getElem?_set_ne (by omega)] at hi
      refine (hst.ent i e hi).keep hx rfl rfl rfl fun b hb => ⟨setRow_other w _ b _ (fun e' => ?_), rfl⟩
      subst e'
      exact hio (hst.one i o e _ (g.pb o) hi ho hb rfl)
  · have bk : ∀ k ek, (st.set o (.box c'))[k]? = some ek → ∃ ek', st[k]? = some ek' ∧ blkOf g k ek = blkOf g k ek' := by
      intro k ek hk
      by_cases hko : k = o
      · subst hko
        rw [List.getElem?_set_self hlen] at hk
        cases hk
        exact ⟨_, ho, rfl⟩
      · rw [List.getElem?_set_ne (by omega)] at hk
        exact ⟨_, hk, rfl⟩
    obtain ⟨ei', i1, i2⟩ := bk i ei hi
    obtain ⟨ej', j1, j2⟩ := bk j ej hj
    exact hst.one i j ei' ej' b i1 j1 (i2 ▸ k1) (j2 ▸ k2)

theorem s_store (hT : Tab P T) {g : G} {w : World} {st : St} (hst : SimSt T g st w) {ρ : Operand → Value} {t : TypeId} {a x : Operand} {v : V} {st' : St} {side : Prop} {ev : Operand → V} (hev : ∀ x, SimV g w (ev x) (ρ x))
    (h : memOp T an dst (.store t a x) ev st = some (v, st', side)) (hs : side) : Did P T ρ ⟨dst, .store t a x, ty, pos, aft, gd⟩ g w v st' := by
  simp only [memOp] at h
  have ha := hev a
  split at h
  case h_2 => simp at h
  rename_i o n ha'
  split at h
  case h_2 => simp at h
  rename_i c l hc hl
  split at h
  case isFalse => simp at h
  rename_i hk
  obtain ⟨hk, hlen⟩ := hk
  simp only [Option.some.injEq, Prod.mk.injEq] at h
  obtain ⟨rfl, rfl, rfl⟩ := h
  rw [ha'] at ha
  simp only [SimV] at ha
  obtain ⟨hon, ha⟩ := ha
  obtain ⟨h1, vs, t', h2, h3, h4⟩ := hst.ent o _ hc
  obtain ⟨k1, k2⟩ := cells_sim hl (hev x)
  have hcl : (ρ x).cells.toList.length = l.length := k1.length
  have hvl := h3.length
  have hrun := run_storeCells_at P (g.pb o) n t' (ρ x).cells.toList 0 vs.toArray w h2 (by rw [hcl]; simp; omega) k2
  simp only [Nat.add_zero, hcl] at hrun
  obtain ⟨s1, s2⟩ := hst.write (c' := c.take n ++ l ++ c.drop (n + l.length)) (vs' := vs.take n ++ (ρ x).cells.toList ++ vs.drop (n + l.length)) hc h2
    (((h3.take n).append k1).append (h3.drop _)) (fun u hu => by
      simp only [List.mem_append] at hu
      rcases hu with (hu | hu) | hu
      · exact h4 u (List.mem_of_mem_take hu)
      · exact k2 u hu
      · exact h4 u (List.mem_of_mem_drop hu))
  refine ⟨.skip, undef, _, g, ?_, .inr ⟨rfl, rfl⟩, by simp [SimV], s1, s2⟩
  have hso := hT.sizeOf (known_kind hk) w
  have hcs : (ρ x).cells.size = (T t).size := by rw [← hlen, ← hcl]; simp
  simp [execOp, Instr.storeAt, Instr.sureAddr, ha, storeVar, hso, hcs, hrun]
end
end Go.Proofs.Ytpfdoffnpkokhaa.Gw

namespace Go.Proofs.Ytpfdoffnpkokhaa.Gw
open Go
set_option linter.unusedSimpArgs false

section
variable {P : Program} {T : Nat → TI} {an : Nat → Nat} {dst : Option Tmp} {ty : TypeId} {pos : String} {aft : Array Edge} {gd : Option (Nat × Bool)}

theorem flatten_len {sz : Nat} : ∀ (c : List (List V)), (∀ r ∈ c, r.length = sz) → c.flatten.length = c.length * sz
  | [], _ => by simp
  | r :: rs, h => by
    have := flatten_len rs fun x hx => h x (by simp [hx])
    simp only [List.flatten_cons, List.length_append, this, h r (by simp), List.length_cons, Nat.succ_mul]; omega

theorem litRows_len {i : TI} {n : Nat} : ∀ (p : List (Nat × V)) (rows : List (List V)), i.zero.length = i.size → litRows i n p = some rows → rows.length = n ∧ ∀ r ∈ rows, r.length = i.size
  | [], rows, hz, h => by
    simp only [litRows, Option.some.injEq] at h
    subst h
    exact ⟨by simp, fun r hr => by rw [List.eq_of_mem_replicate hr]; exact hz⟩
  | (k, v) :: r, rows, hz, h => by
    simp only [litRows] at h
    split at h
    case h_2 => simp at h
    rename_i rows' l hr hl
    split at h
    case isFalse => simp at h
    rename_i hk
    simp only [Option.some.injEq] at h
    subst h
    obtain ⟨h1, h2⟩ := litRows_len r rows' hz hr
    exact ⟨by simpa using h1, fun x hx => by
      rcases List.mem_or_eq_of_mem_set hx with hx | rfl
      · exact h2 x hx
      · exact hk.2⟩

theorem flatten_set {sz : Nat} : ∀ (c : List (List V)) (k : Nat) (l : List V), (∀ r ∈ c, r.length = sz) → l.length = sz → k < c.length →
    (c.set k l).flatten = c.flatten.take (k * sz) ++ l ++ c.flatten.drop (k * sz + sz)
  | [], k, l, _, _, h => by simp at h
  | r :: rs, 0, l, h, hl, _ => by
    have hr := h r (by simp)
    simp [List.drop_append, hr]
  | r :: rs, k + 1, l, h, hl, hk => by
    have hr := h r (by simp)
    have ih := flatten_set rs k l (fun x hx => h x (by simp [hx])) hl (by simpa using hk)
    simp only [List.set_cons_succ, List.flatten_cons, ih]
    have e1 : (k + 1) * sz = sz + k * sz := by rw [Nat.succ_mul]; omega
    rw [e1, List.take_append, hr]
    rw [List.take_of_length_le (by omega : r.length ≤ sz + k * sz)]
    rw [show sz + k * sz - sz = k * sz by omega]
    rw [List.drop_append, hr, List.drop_eq_nil_of_le (by omega : r.length ≤ sz + k * sz + sz)]
    rw [show sz + k * sz + sz - sz = k * sz + sz by omega]
    simp [List.append_assoc]

theorem SimVs.repl {g : G} {w : World} {z : List V} {vz : List Value} (hz : SimVs g w z vz) : ∀ n, SimVs g w (List.replicate n z).flatten (List.replicate n vz).flatten
  | 0 => by simp [SimVs]
  | n + 1 => by simp only [List.replicate_succ, List.flatten_cons]; exact hz.append (SimVs.repl hz n)

theorem zeros_list (z : List Value) (n : Nat) (hz : z ≠ []) : (Array.range (n * z.length)).map (z.toArray[· % z.toArray.size]!) = (List.replicate n z).flatten.toArray := by
  apply Array.ext'
  simp only [Array.toList_map, Array.toList_range, List.size_toArray]
  induction n with
  | zero => simp
  | succ n ih =>
    have hl : 0 < z.length := List.length_pos_iff.2 hz
    rw [List.replicate_succ', List.flatten_append, ← ih, Nat.succ_mul, List.range_add, List.map_append]
    congr 1
    simp only [List.map_map, List.flatten_cons, List.flatten_nil, List.append_nil]
    apply List.ext_getElem
    · simp
    · intro i h1 h2
      have hi : i < z.length := h2
      simp [Nat.add_mod, Nat.mod_eq_of_lt hi, hi]

theorem litRows_sound (i : TI) (n : Nat) (hz : i.zero.length = i.size) {g : G} {w : World} (hflat : i.zero.all V.flat = true) :
    ∀ (p : List (Nat × V)) (q : List (Nat × Value)) (rows : List (List V)), p.length = q.length → (∀ (j : Nat) (a : Nat × V) (b : Nat × Value), p[j]? = some a → q[j]? = some b → a.1 = b.1 ∧ SimV g w a.2 b.2) →
      litRows i n p = some rows → ∃ vout : List Value, Instr.fill (fun k => some (k * i.size, i.size)) (List.replicate n (i.zero.map V.raw)).flatten.toArray q.reverse = some vout.toArray ∧ SimVs g w rows.flatten vout ∧ ∀ u ∈ vout, u.oneCell' = true
  | [], q, rows, hl, hp, h => by
    have : q = [] := by simpa using hl.symm
    subst this
    simp only [litRows, Option.some.injEq] at h
    subst h
    refine ⟨_, rfl, SimVs.repl (raws_sim _ hflat) n, fun u hu => ?_⟩
    simp only [List.mem_flatten] at hu
    obtain ⟨r, hr, hu⟩ := hu
    rw [List.eq_of_mem_replicate hr] at hu
    exact raws_one _ hflat u hu
  | (k, v) :: r, [], rows, hl, hp, h => by simp at hl
  | (k, v) :: r, (k', u) :: q, rows, hl, hp, h => by
    obtain ⟨e1, e2⟩ := hp 0 (k, v) (k', u) rfl rfl
    simp only at e1 e2
    subst e1
    simp only [litRows] at h
    split at h
    case h_2 => simp at h
    rename_i rows' l hr hvl
    split at h
    case isFalse => simp at h
    rename_i hk
    simp only [Option.some.injEq] at h
    subst h
    obtain ⟨l1, l2⟩ := litRows_len r rows' hz hr
    obtain ⟨vout, k1, k2, k3⟩ := litRows_sound i n hz hflat r q rows' (by simpa using hl) (fun j a b ha hb => hp (j + 1) a b (by simpa using ha) (by simpa using hb)) hr
    obtain ⟨c1, c2⟩ := cells_sim hvl e2
    have hul : u.cells.toList.length = l.length := c1.length
    have hus : u.cells.size = i.size := by rw [← hk.2, ← hul]; simp
    have hvl' : vout.length = n * i.size := by rw [k2.length, flatten_len rows' l2, l1]
    have hb : k * i.size + i.size ≤ n * i.size := by
      have := Nat.mul_le_mul_right i.size (show k + 1 ≤ n by omega)
      rw [Nat.succ_mul] at this; exact this
    refine ⟨vout.take (k * i.size) ++ u.cells.toList ++ vout.drop (k * i.size + i.size), ?_, ?_, ?_⟩
    · have fa : ∀ (xs ys : List (Nat × Value)) (c : Array Value), Instr.fill (fun k => some (k * i.size, i.size)) c (xs ++ ys) = (Instr.fill (fun k => some (k * i.size, i.size)) c xs).bind fun c' => Instr.fill (fun k => some (k * i.size, i.size)) c' ys := by
        intro xs
        induction xs with
        | nil => intro ys c; rfl
        | cons x xs ih =>
          intro ys c
          obtain ⟨a, b⟩ := x
          simp only [List.cons_append, Instr.fill]
          split
          · rfl
          · exact ih ys _
      rw [List.reverse_cons, fa, k1, Option.bind_some]
      simp only [Instr.fill]
      rw [if_neg (by simp [hus, hvl']; omega)]
      congr 1
      have hz' : u.cells.zipIdx.foldl (fun cs x => cs.setIfInBounds (k * i.size + x.2) x.1) vout.toArray = (u.cells.toList.zipIdx.foldl (fun (cs : Array Value) (x : Value × Nat) => cs.setIfInBounds (k * i.size + x.2) x.1) vout.toArray) := by
        rw [← Array.foldl_toList, Array.toList_zipIdx]
      rw [hz', foldl_set _ 0 _ _ (by rw [hul, hk.2, hvl']; omega), hul, hk.2]
      simp
    · rw [flatten_set rows' k l l2 hk.2 (by rw [l1]; exact hk.1)]
      exact ((k2.take _).append c1).append (k2.drop _)
    · intro x hx
      simp only [List.mem_append] at hx
      rcases hx with (hx | hx) | hx
      · exact k3 x (List.mem_of_mem_take hx)
      · exact c2 x hx
      · exact k3 x (List.mem_of_mem_drop hx)

/-- A row that begins a growing list. -/
theorem SimSt.newTip {g : G} {st : St} {w : World} (hst : SimSt T g st w) (e : TypeId) {n cap : Nat} {cur : Array Value} {sl : Nat} {ent : Ent} (hnc : n ≤ cap) (hcm : cap ≤ maxLen) (hcs : cur.size = cap * (T e).size)
    (hent : ent = .tip e n ∧ sl = n * (T e).size ∨ ∃ c, ent = .arr e (T e).size c ∧ c.length = n ∧ sl = 0 ∧ (∀ r ∈ c, r.length = (T e).size) ∧ SimVs g w c.flatten (cur.toList.take (n * (T e).size)) ∧ ∀ u ∈ cur.toList.take (n * (T e).size), u.oneCell' = true) :
    ∃ g', Ext g w g' (w.alloc (.cells cur e)) ∧ SimSt T g' (st ++ [ent]) (w.alloc (.cells cur e)) ∧ g'.n = st.length + 1 ∧ g'.len st.length = n ∧ g'.tv st.length = .slice (some ⟨w.heap.size, 0, none⟩) n cap ∧ g'.own w.heap.size = some sl := by
  have h1 := hst.alloc (.cells cur e) (some sl)
  have x1 := Ext.alloc g w (.cells cur e) (some sl)
  have x2 := Ext.push (g.new w.heap.size (some sl)) (w.alloc (.cells cur e)) 0 (.slice (some ⟨w.heap.size, 0, none⟩) n cap) n
  have hn : g.n = st.length := hst.n
  refine ⟨_, x1.trans x2, h1.push ?_ ?_, by simp [G.push, G.new, hn], by simp [G.push, G.new, hn], by simp [G.push, G.new, hn], by simp [G.push, G.new]⟩
  · have tip : SimTip T ((g.new w.heap.size (some sl)).push 0 (.slice (some ⟨w.heap.size, 0, none⟩) n cap) n) (w.alloc (.cells cur e)) (g.new w.heap.size (some sl)).n e n sl (cur.toList.take (n * (T e).size)) := by
      refine ⟨by simp [G.push], ?_, .inr ⟨w.heap.size, cap, cur, by simp [G.push], by simp [G.push, G.new], heap_alloc_new w _, hnc, hcm, hcs, rfl⟩⟩
      have := Nat.mul_le_mul_right (T e).size hnc
      simp; omega
    rcases hent with ⟨rfl, rfl⟩ | ⟨c, rfl, rfl, rfl, c1, c2, c3⟩
    · exact ⟨_, tip⟩
    · exact ⟨rfl, c1, _, tip, c2.ext (x1.trans x2), c3⟩
  · intro c' hc' i ei hi hb
    have hc' : c' = w.heap.size := by
      rcases hent with ⟨rfl, rfl⟩ | ⟨c, rfl, _⟩ <;> simp [blkOf, G.push, Value.ownBlock] at hc' <;> omega
    subst hc'
    have : blkOf g i ei = some w.heap.size := by cases ei <;> exact hb
    have := hst.blk_lt hi this
    omega

theorem s_buildSlice (hT : Tab P T) {g : G} {w : World} {st : St} (hst : SimSt T g st w) {ρ : Operand → Value} {t : TypeId} {n : Nat} {parts : Array (Nat × Operand)} {v : V} {st' : St} {side : Prop} {ev : Operand → V} (hev : ∀ x, SimV g w (ev x) (ρ x))
    (h : memOp T an dst (.buildSlice t n parts) ev st = some (v, st', side)) : Did P T ρ ⟨dst, .buildSlice t n parts, ty, pos, aft, gd⟩ g w v st' := by
  simp only [memOp] at h
  split at h
  case h_2 => simp at h
  rename_i e hk
  split at h
  case isFalse => simp at h
  rename_i hsz
  obtain ⟨hsz, hbig⟩ := hsz
  have hke := sized_kind (i := T e) (by simp [hsz])
  split at h
  case h_2 => simp at h
  rename_i rows hrows
  have hu := hT.slice hk
  have hu' : (underlying t).run P w = .ok (.slice e) w := by simp [underlying, hu]
  obtain ⟨i, i1, i2, i3, i4⟩ := hT.info hke.1
  have hok := hT e hke.1
  have hso := hT.sizeOf hke.1 w
  have hz : (zeroValue e).run P w = .ok (T e).zval w := by simp [zeroValue, typeInfo, i1, i2]
  obtain ⟨vout, k1, k2, k3⟩ := litRows_sound (T e) n hok.2.2.2.1 (g := g) (w := w) hok.2.2.1 (parts.toList.reverse.map fun p => (p.1, ev p.2)) (parts.toList.reverse.map fun p => (p.1, ρ p.2)) rows (by simp)
    (fun j a b ha hb => by
      simp only [List.getElem?_map, Option.map_eq_some_iff] at ha hb
      obtain ⟨x, hx, rfl⟩ := ha
      obtain ⟨y, hy, rfl⟩ := hb
      rw [hx] at hy; cases hy
      exact ⟨rfl, hev _⟩) hrows
  obtain ⟨l1, l2⟩ := litRows_len _ rows hok.2.2.2.1 hrows
  have hvl : vout.length = n * (T e).size := by rw [k2.length, flatten_len rows l2, l1]
  have hrun : (execOp ρ ⟨dst, .buildSlice t n parts, ty, pos, aft, gd⟩).run P w = .ok (.value (.slice (some ⟨w.heap.size, 0, none⟩) n n)) (w.alloc (.cells vout.toArray e)) := by
    have hrev : (parts.toList.reverse.map fun p => (p.1, ρ p.2)).reverse = parts.toList.map fun p => (p.1, ρ p.2) := by simp
    rw [hrev] at k1
    have hcells := zval_cells hok
    have hzl : ((T e).zero.map V.raw).length = (T e).size := by simpa using hok.2.2.2.1
    have hne : (T e).zero.map V.raw ≠ [] := by intro h0; rw [h0] at hzl; simp at hzl; exact hke.2 hzl.symm
    have hzs := zeros_list ((T e).zero.map V.raw) n hne
    rw [hzl] at hzs
    simp only [execOp, Instr.buildSlice, Sem.run_bind, hu', Result.andThen_ok, hso]
    rw [show (16777216 : Nat) = 2 ^ 24 by rfl] at hbig
    rw [if_neg (by omega)]
    by_cases hn0 : n * (T e).size = 0
    · have hn : n = 0 := by
        rcases Nat.mul_eq_zero.1 hn0 with h | h
        · exact h
        · exact absurd h hke.2
      subst hn
      simp only [Nat.zero_mul, if_true, Sem.run_pure, Result.andThen_ok, Sem.run_bind]
      simp only [List.replicate_zero, List.flatten_nil] at k1
      have e0 : (Array.map (fun _ => (default : Value)) (Array.range 0)) = #[] := by simp
      simp [k1, newRow, e0]
    · rw [if_neg hn0]
      simp only [Sem.run_bind, hz, Result.andThen_ok, Sem.run_pure, hcells, hzs]
      simp [k1, newRow]
  have hnm : n ≤ maxLen := by
    have : n ≤ n * (T e).size := Nat.le_mul_of_pos_right _ (Nat.pos_of_ne_zero hke.2)
    unfold maxLen; omega
  have hsimrows : ∀ (c : List (List V)) (us : List Value) (off : Nat) (g' : G) (w' : World), (∀ r ∈ c, r.length = (T e).size) → SimAt g' w' ⟨w.heap.size, off, none⟩ c.flatten → SimRows g' w' ⟨w.heap.size, off, none⟩ (T e).size c := by
    intro c
    induction c with
    | nil => intro us off g' w' _ _; simp [SimRows]
    | cons r rs ih =>
      intro us off g' w' hl hs
      have hr := hl r (by simp)
      simp only [SimRows]
      rw [List.flatten_cons] at hs
      have h1 := hs.take r.length
      rw [List.take_left] at h1
      have h2 := hs.drop r.length rfl
      rw [List.drop_left, hr] at h2
      refine ⟨hr, h1, ?_⟩
      have e1 : (Addr.mk w.heap.size off none).add (T e).size = ⟨w.heap.size, off + (T e).size, none⟩ := Addr.add_eq rfl _
      rw [e1] at h2 ⊢
      exact ih us _ g' w' (fun x hx => hl x (by simp [hx])) h2
  split at h <;> simp only [Option.some.injEq, Prod.mk.injEq] at h <;> obtain ⟨rfl, rfl, rfl⟩ := h
  · have hs := newSealed (g := g) (w := w) e k2 k3
    refine ⟨_, _, _, _, hrun, .inl rfl, ?_, hst.alloc _ none, Ext.alloc g w _ none⟩
    simp only [SimV]
    refine ⟨some ⟨w.heap.size, 0, none⟩, n, by rw [l1], by rw [l1]; exact Nat.le_refl _, hnm, by simp, .inr rfl, by simp, ?_⟩
    exact hsimrows rows [] 0 _ _ l2 hs
  · obtain ⟨g', x, s, e1, e2, e3, e4⟩ := hst.newTip (e := e) (n := n) (cap := n) (cur := vout.toArray) (sl := n * (T e).size) (ent := .tip e n) (Nat.le_refl _) hnm (by simpa using hvl) (.inl ⟨rfl, rfl⟩)
    refine ⟨_, _, _, g', hrun, .inl rfl, ?_, s, x⟩
    simp only [SimV]
    refine ⟨some ⟨w.heap.size, 0, none⟩, n, by rw [l1], by rw [l1]; exact Nat.le_refl _, hnm, by simp, .inr rfl, fun k hk => ?_, ?_⟩
    · cases hk
      exact ⟨by omega, by rw [e2, l1]; exact Nat.le_refl _, fun _ => e3⟩
    · refine hsimrows rows [] 0 _ _ l2 ?_
      have k2' := k2.ext x
      have key : ∀ (c : List V) (us : List Value) (off : Nat), SimVs g' (w.alloc (.cells vout.toArray e)) c us → off + us.length = n * (T e).size → (∀ j u, us[j]? = some u → vout[off + j]? = some u) → SimAt g' (w.alloc (.cells vout.toArray e)) ⟨w.heap.size, off, none⟩ c := by
        intro c
        induction c with
        | nil => intro us off _ _ _; simp [SimAt]
        | cons y ys ih =>
          intro us off q1 q2 q3
          simp only [SimVs] at q1
          obtain ⟨z, r, rfl, q4, q5⟩ := q1
          have hv : vout[off]? = some z := by simpa using q3 0 z (by simp)
          simp only [SimAt]
          refine ⟨⟨z, ⟨rfl, by simp, fun k hk => ?_⟩, by simpa using hv, k3 z (List.mem_of_getElem? hv), q4⟩, ?_⟩
          · simp only at hk ⊢
            rw [e4] at hk; cases hk
            simp at q2; omega
          · have e : (Addr.mk w.heap.size off none).add 1 = ⟨w.heap.size, off + 1, none⟩ := Addr.add_eq rfl 1
            rw [e]
            exact ih r (off + 1) q5 (by simp at q2; omega) fun j u hj => by
              have := q3 (j + 1) u (by simpa using hj)
              rw [show off + (j + 1) = off + 1 + j by omega] at this; exact this
      exact key _ vout 0 k2' (by omega) (by simp)
  · have htk : vout.toArray.toList.take (n * (T e).size) = vout := by simp; rw [← hvl]; simp
    obtain ⟨g', x, s, e1, e2, e3, e4⟩ := hst.newTip (e := e) (n := n) (cap := n) (cur := vout.toArray) (sl := 0) (ent := .arr e (T e).size rows) (Nat.le_refl _) hnm (by simpa using hvl)
      (.inr ⟨rows, rfl, l1, rfl, l2, by rw [htk]; exact k2, by rw [htk]; exact k3⟩)
    refine ⟨_, _, _, g', hrun, .inl rfl, ?_, s, x⟩
    simp only [SimV]
    exact ⟨by omega, by rw [e2]; exact Nat.le_refl _, fun _ => e3, _, _, rfl⟩
end
end Go.Proofs.Ytpfdoffnpkokhaa.Gw

namespace Go.Proofs.Ytpfdoffnpkokhaa.Gw
open Go
set_option linter.unusedSimpArgs false

section
variable {P : Program} {T : Nat → TI} {an : Nat → Nat} {dst : Option Tmp} {ty : TypeId} {pos : String} {aft : Array Edge} {gd : Option (Nat × Bool)}

/-- One entry is another one now; all else is as it was. -/
theorem SimSt.upd {g g' : G} {st : St} {w w' : World} (hst : SimSt T g st w) {k : Nat} {ent ent' : Ent} (hk : st[k]? = some ent) (hx : Ext g w g' w') (hn : g'.n = g.n) (hpb : ∀ o, g'.pb o = g.pb o)
    (hother : ∀ o, o ≠ k → g'.len o = g.len o ∧ g'.tv o = g.tv o)
    (hb : ∀ b, b < w.heap.size → blkOf g k ent ≠ some b → (g.own b).isSome = true → w'.heap[b]? = w.heap[b]? ∧ g'.own b = g.own b)
    (he : SimE T g' w' k ent') (hblk : ∀ b, blkOf g' k ent' = some b → blkOf g k ent = some b ∨ w.heap.size ≤ b) : SimSt T g' (st.set k ent') w' := by
  have hlen : k < st.length := (List.getElem?_eq_some_iff.1 hk).1
  have bk : ∀ i ei, i ≠ k → blkOf g' i ei = blkOf g i ei := by
    intro i ei hi
    cases ei <;> simp [blkOf, hpb, (hother i hi).2]
  refine ⟨by simpa using hn.trans hst.n, fun i e hi => ?_, fun i j ei ej b hi hj k1 k2 => ?_⟩
  · by_cases hio : i = k
    · subst hio
      rw [List.getElem?_set_self hlen] at hi
      cases hi
      exact he
    · rw [List.getElem?_set_ne (by omega)] at hi
      refine (hst.ent i e hi).keep hx (hpb i) (hother i hio).1 (hother i hio).2 fun b hbb => ?_
      obtain ⟨q1, q2⟩ := (hst.ent i e hi).blk hbb
      exact hb b q1 (fun h => hio (hst.one i k e ent b hi hk hbb h)) q2
  · by_cases hi' : i = k <;> by_cases hj' : j = k
    · rw [hi', hj']
    · subst hi'
      rw [List.getElem?_set_self hlen] at hi
      cases hi
      rw [List.getElem?_set_ne (by omega)] at hj
      rw [bk j ej hj'] at k2
      rcases hblk b k1 with h | h
      · exact hst.one i j ent ej b hk hj h k2
      · have := hst.blk_lt hj k2; omega
    · subst hj'
      rw [List.getElem?_set_self hlen] at hj
      cases hj
      rw [List.getElem?_set_ne (by omega)] at hi
      rw [bk i ei hi'] at k1
      rcases hblk b k2 with h | h
      · exact hst.one i j ei ent b hi hk k1 h
      · have := hst.blk_lt hi k1; omega
    · rw [List.getElem?_set_ne (by omega)] at hi hj
      rw [bk i ei hi'] at k1
      rw [bk j ej hj'] at k2
      exact hst.one i j ei ej b hi hj k1 k2

/-- The ghost behind an append: the tip has another value and count; its block so many sealed cells. -/
def G.grow (g : G) (k : Nat) (v : Value) (n : Nat) (b : Option Nat) (c : Nat) (sl : Nat) : G :=
  { g with len := fun o => if o = k then n else g.len o, tv := fun o => if o = k then v else g.tv o, own := fun x => if x = c then some sl else if some x = b then none else g.own x }

/-- What is grown: the real step, for a tip whose real rows are xs. -/
theorem grow_step (hT : Tab P T) {g : G} {w : World} {st : St} (hst : SimSt T g st w) {k : Nat} {ent : Ent} (hk : st[k]? = some ent) (hbo : blkOf g k ent = (g.tv k).ownBlock) {e : TypeId} {n sl : Nat} {xs : List Value}
    (hke : (T e).kind ≠ .other) (_hsz : (T e).size ≠ 0) (htip : SimTip T g w k e n sl xs) {t xt : TypeId} {d : TypeDesc} (ht : P.underlying t = some (.slice e)) (hxt : P.underlying xt = some d) (hd : d = .string ∨ ∃ e', d = .slice e')
    {u : Value} {m : Nat} {news : List Value} (hf : Feeds P u (T e).size m news w) (hbound : (n + m) * (T e).bytes ≤ 140737488355328) (hbb : (T e).bytes ≠ 0) (sl' : Nat) (hsl : sl = 0 ∨ sl = n * (T e).size ∧ sl' = (n + m) * (T e).size) (hsl' : sl ≤ sl') :
    ∃ v' w' g', (Builtin.append_ #[t, xt] ty #[g.tv k, u]).run P w = .ok v' w' ∧ Ext g w g' w' ∧ g'.n = g.n ∧ (∀ o, g'.pb o = g.pb o) ∧ (∀ o, o ≠ k → g'.len o = g.len o ∧ g'.tv o = g.tv o) ∧ g'.tv k = v' ∧ g'.len k = n + m ∧
      (∀ b, b < w.heap.size → blkOf g k ent ≠ some b → (g.own b).isSome = true → w'.heap[b]? = w.heap[b]? ∧ g'.own b = g.own b) ∧
      (∃ xs', SimTip T g' w' k e (n + m) sl' xs' ∧ xs' = xs ++ news) ∧ (∀ b, v'.ownBlock = some b → blkOf g k ent = some b ∨ w.heap.size ≤ b) ∧
      (∃ a cap, v' = .slice a (n + m) cap ∧ n + m ≤ cap ∧ cap ≤ maxLen ∧ (a = none → cap = 0) ∧ (a.getD ⟨0, 0, none⟩).spot = none ∧ (∀ y, a = some y → y.off = 0 ∧ ∃ cur, w'.heap[y.block]? = some (.cells cur e (0, 0)) ∧ g'.own y.block = some sl' ∧ cur.toList.take ((n + m) * (T e).size) = xs ++ news)) := by
  have hkn : k < g.n := by rw [hst.n]; exact (List.getElem?_eq_some_iff.1 hk).1
  obtain ⟨i, i1, i2, i3, i4⟩ := hT.info hke
  have hnm : n + m ≤ (n + m) * (T e).bytes := Nat.le_mul_of_pos_right _ (Nat.pos_of_ne_zero hbb)
  have hmax : n + m ≤ maxLen := by unfold maxLen; omega
  have hzl : (T e).zval.cells.size = (T e).size := by
    have hok := hT e hke
    rw [zval_cells hok]; simpa using hok.2.2.2.1
  have hf' : Feeds P u i.size m news w := by rw [i3]; exact hf
  obtain ⟨t1, t2, t3⟩ := htip
  have grown : ∀ (cap0 : Nat) (ob : Option Nat), (g.tv k).ownBlock = ob → (∀ b, ob = some b → b < w.heap.size) → n ≤ n + m → xs.length = n * (T e).size →
      (Builtin.append_ #[t, xt] ty #[g.tv k, u]).run P w = .ok (.slice (some ⟨w.heap.size, 0, none⟩) (n + m) (grownCap w (n + m) cap0 e)) (w.drew.alloc (.cells (xs.toArray ++ news.toArray ++ Builtin.zeroCells (T e).zval.cells (grownCap w (n + m) cap0 e - (n + m))) e)) →
      ∃ v' w' g', (Builtin.append_ #[t, xt] ty #[g.tv k, u]).run P w = .ok v' w' ∧ Ext g w g' w' ∧ g'.n = g.n ∧ (∀ o, g'.pb o = g.pb o) ∧ (∀ o, o ≠ k → g'.len o = g.len o ∧ g'.tv o = g.tv o) ∧ g'.tv k = v' ∧ g'.len k = n + m ∧
      (∀ b, b < w.heap.size → blkOf g k ent ≠ some b → (g.own b).isSome = true → w'.heap[b]? = w.heap[b]? ∧ g'.own b = g.own b) ∧
      (∃ xs', SimTip T g' w' k e (n + m) sl' xs' ∧ xs' = xs ++ news) ∧ (∀ b, v'.ownBlock = some b → blkOf g k ent = some b ∨ w.heap.size ≤ b) ∧
      (∃ a cap, v' = .slice a (n + m) cap ∧ n + m ≤ cap ∧ cap ≤ maxLen ∧ (a = none → cap = 0) ∧ (a.getD ⟨0, 0, none⟩).spot = none ∧ (∀ y, a = some y → y.off = 0 ∧ ∃ cur, w'.heap[y.block]? = some (.cells cur e (0, 0)) ∧ g'.own y.block = some sl' ∧ cur.toList.take ((n + m) * (T e).size) = xs ++ news)) := by
    intro cap0 ob hob hobl _ hxl hrun
    have hge := grownCap_ge w (n + m) cap0 e
    have hcm : grownCap w (n + m) cap0 e ≤ maxLen := grownCap_le_maxLen w (n + m) cap0 e hmax
    have hcs : (xs.toArray ++ news.toArray ++ Builtin.zeroCells (T e).zval.cells (grownCap w (n + m) cap0 e - (n + m))).size = grownCap w (n + m) cap0 e * (T e).size := by
      simp only [Array.size_append, List.size_toArray, size_zeroCells, hzl, hxl, hf.len, ← Nat.add_mul]
      congr 1; omega
    have htk : (xs.toArray ++ news.toArray ++ Builtin.zeroCells (T e).zval.cells (grownCap w (n + m) cap0 e - (n + m))).toList.take ((n + m) * (T e).size) = xs ++ news := by
      have hlen : (xs ++ news).length = (n + m) * (T e).size := by rw [List.length_append, hxl, hf.len, Nat.add_mul]
      simp only [Array.toList_append, ← hlen]
      rw [List.take_left]
    have hnew : (w.drew.alloc (.cells (xs.toArray ++ news.toArray ++ Builtin.zeroCells (T e).zval.cells (grownCap w (n + m) cap0 e - (n + m))) e)).heap[w.heap.size]? = some (.cells (xs.toArray ++ news.toArray ++ Builtin.zeroCells (T e).zval.cells (grownCap w (n + m) cap0 e - (n + m))) e (0, 0)) := heap_alloc_new w.drew _
    have hold : ∀ b, b < w.heap.size → (w.drew.alloc (.cells (xs.toArray ++ news.toArray ++ Builtin.zeroCells (T e).zval.cells (grownCap w (n + m) cap0 e - (n + m))) e)).heap[b]? = w.heap[b]? := fun b hb => RowKit.Below.heap_alloc w.drew _ b hb
    refine ⟨_, _, g.grow k (.slice (some ⟨w.heap.size, 0, none⟩) (n + m) (grownCap w (n + m) cap0 e)) (n + m) ob w.heap.size sl', hrun, ?_, rfl, fun _ => rfl, fun o ho => ?_, ?_, ?_, ?_, ?_, ?_, ?_⟩
    · refine ⟨rfl, rfl, rfl, by simp, Nat.le_refl _, fun _ _ => rfl, fun o _ => ?_, fun o _ ho => ?_, fun b hb hb' => ⟨hold b hb, ?_⟩, fun b k' hb hb' => ⟨fun off _ => cell_of_block (hold b hb), fun k'' hk'' => ?_⟩⟩
      · simp only [G.grow]; split
        · rename_i h; subst h; omega
        · exact Nat.le_refl _
      · by_cases hok : o = k
        · subst hok
          simp only [G.grow, if_true] at ho ⊢
          have hm0 : m = 0 := by omega
          rcases t3 with ⟨h0, h1⟩ | ⟨b, cap, cur, h1, h2, h3, h4, _⟩
          · exfalso
            rw [h1] at hrun
            have hf0 : Feeds P u i.size 0 news w := hm0 ▸ hf'
            have hz := run_append_zero w t xt ty e i d ht hxt hd i1 hf0
            rw [hz] at hrun
            simp at hrun
          · exfalso
            have hnews : news = [] := List.eq_nil_of_length_eq_zero (by rw [hf.len, hm0]; simp)
            have hfit : n * i.size + news.length ≤ cur.size := by
              rw [hnews]
              have := Nat.mul_le_mul_right (T e).size h4
              rename_i hrest
              have := hrest.2.1
              rw [i3]; simp; omega
            have hr := run_append_fits w t xt ty e i d ht hxt hd i1 b n cap cur h3 hf' (by omega) hfit
            rw [h1, hr] at hrun
            simp only [Result.ok.injEq, Value.slice.injEq, Option.some.injEq, Addr.mk.injEq] at hrun
            have := (Array.getElem?_eq_some_iff.1 h3).1
            omega
        · simp only [G.grow, if_neg hok] at ho ⊢
      · simp only [G.grow]; rw [if_neg (by omega)]; split
        · rfl
        · exact hb'
      · simp only [G.grow] at hk''
        rw [if_neg (by omega)] at hk''
        split at hk''
        · cases hk''
        · rw [hb'] at hk''; cases hk''; exact Nat.le_refl _
    · simp only [G.grow, if_neg ho]; exact ⟨trivial, trivial⟩
    · simp [G.grow]
    · simp [G.grow]
    · intro b hb hne hs
      refine ⟨hold b hb, ?_⟩
      simp only [G.grow]
      rw [if_neg (by omega), if_neg (by rw [← hob, ← hbo]; exact fun h => hne h.symm)]
    · refine ⟨_, ⟨by simp [G.grow], ?_, .inr ⟨w.heap.size, _, _, by simp [G.grow], by simp [G.grow], hnew, hge, hcm, hcs, htk⟩⟩, rfl⟩
      rw [List.length_append, hxl, hf.len, Nat.add_mul]
    · intro b hb
      simp [Value.ownBlock] at hb
      exact .inr (by omega)
    · refine ⟨_, _, rfl, hge, hcm, by simp, rfl, fun y hy => ?_⟩
      cases hy
      exact ⟨rfl, _, hnew, by simp [G.grow], htk⟩
  rcases t3 with ⟨h0, h1⟩ | ⟨b, cap, cur, h1, h2, h3, h4, h5, h6, h7⟩
  · -- nothing yet
    subst h0
    have hxs : xs = [] := List.eq_nil_of_length_eq_zero (by simpa using t2)
    subst hxs
    by_cases hm : m = 0
    · subst hm
      have hnews : news = [] := List.eq_nil_of_length_eq_zero (by simpa using hf.len)
      subst hnews
      have hz := run_append_zero w t xt ty e i d ht hxt hd i1 hf'
      refine ⟨.slice none 0 0, w, g, by rw [h1]; exact hz, Ext.refl _ _, rfl, fun _ => rfl, fun _ _ => ⟨rfl, rfl⟩, h1, t1, fun _ _ _ _ => ⟨rfl, rfl⟩, ⟨[], ⟨t1, by simp, .inl ⟨rfl, h1⟩⟩, rfl⟩, by simp [Value.ownBlock], ?_⟩
      exact ⟨none, 0, rfl, by omega, by simp [maxLen], by simp, rfl, by simp⟩
    · have hr := run_append_none w t xt ty e i _ d ht hxt hd i1 i2 hf' (by omega) (by simp at hmax; unfold maxLen at hmax; omega) (by rw [i4]; simp at hbound; omega)
      simp only [Nat.zero_add] at grown ⊢
      exact grown 0 none (by rw [h1]; rfl) (by simp) (by omega) (by simp) (by rw [h1, hr]; simp)
  · have hblt := (Array.getElem?_eq_some_iff.1 h3).1
    have hob : (g.tv k).ownBlock = some b := by rw [h1]; rfl
    by_cases hroom : n + m ≤ cap
    · have hfit : n * i.size + news.length ≤ cur.size := by
        rw [hf.len, i3, h6, ← Nat.add_mul]; exact Nat.mul_le_mul_right _ hroom
      have hr := run_append_fits w t xt ty e i d ht hxt hd i1 b n cap cur h3 hf' hroom hfit
      rw [i3] at hr hfit
      have hxl : n * (T e).size ≤ cur.toList.length := by simp; rw [h6]; exact Nat.mul_le_mul_right _ h4
      refine ⟨_, _, g.grow k (.slice (some ⟨b, 0, none⟩) (n + m) cap) (n + m) none b sl', by rw [h1]; exact hr, ?_, rfl, fun _ => rfl, fun o ho => ?_, ?_, ?_, ?_, ?_, ?_, ?_⟩
      · refine ⟨rfl, rfl, rfl, by simp, Nat.le_refl _, fun _ _ => rfl, fun o _ => ?_, fun o _ ho => ?_, fun c hc hc' => ⟨setRow_other w b c _ (fun h => by rw [h, h2] at hc'; cases hc'), ?_⟩, fun c k' hc hc' => ⟨fun off hoff => ?_, fun k'' hk'' => ?_⟩⟩
        · simp only [G.grow]; split
          · rename_i h; subst h; omega
          · exact Nat.le_refl _
        · by_cases hok : o = k
          · subst hok
            simp only [G.grow, if_true] at ho ⊢
            have : m = 0 := by omega
            subst this; rw [h1]; rfl
          · simp only [G.grow, if_neg hok] at ho ⊢
        · simp only [G.grow]
          rw [if_neg (fun h => by rw [h, h2] at hc'; cases hc'), if_neg (by simp)]; exact hc'
        · by_cases hcb : c = b
          · subst hcb
            rw [h2] at hc'; cases hc'
            simp only [World.cell?, setRow_heap w c cur _ e _ h3, h3]
            have hsln : sl ≤ n * (T e).size := by rcases hsl with h | h <;> omega
            simp only [List.append_assoc, Option.isSome_none, Bool.false_eq_true, if_false, List.getElem?_toArray]
            rw [List.getElem?_append_left (by simp at hxl ⊢; omega), List.getElem?_take, if_pos (by omega)]
            simp
          · exact cell_of_block (setRow_other w b c _ hcb)
        · simp only [G.grow] at hk''
          split at hk''
          · rename_i h; subst h
            rw [h2] at hc'; cases hc'
            cases hk''; exact hsl'
          · rw [if_neg (by simp), hc'] at hk''; cases hk''; exact Nat.le_refl _
      · simp only [G.grow, if_neg ho]; exact ⟨trivial, trivial⟩
      · simp [G.grow]
      · simp [G.grow]
      · intro c hc hne hs
        have hcb : c ≠ b := by intro h; subst h; exact hne (by rw [hbo, hob])
        refine ⟨setRow_other w b c _ hcb, ?_⟩
        simp only [G.grow]
        rw [if_neg hcb, if_neg (by simp)]
      · refine ⟨_, ⟨by simp [G.grow], ?_, .inr ⟨b, cap, _, by simp [G.grow], by simp [G.grow], setRow_heap w b cur _ e _ h3, hroom, h5, ?_, rfl⟩⟩, ?_⟩
        · rw [List.length_take]
          have h8 := Nat.mul_le_mul_right (T e).size hroom
          simp [hf.len] at hxl ⊢
          rw [Nat.add_mul] at h8 ⊢
          omega
        · simp only [List.size_toArray, List.length_append, List.length_take, List.length_drop]
          simp at hxl ⊢; omega
        · rw [h7]
          have hlen : (xs ++ news).length = (n + m) * (T e).size := by rw [List.length_append, t2, hf.len, Nat.add_mul]
          rw [← hlen]
          exact List.take_left
      · intro c hc
        simp [Value.ownBlock] at hc
        subst hc
        exact .inl (by rw [hbo, hob])
      · refine ⟨_, _, rfl, hroom, h5, by simp, rfl, fun y hy => ?_⟩
        cases hy
        refine ⟨rfl, _, setRow_heap w b cur _ e _ h3, by simp [G.grow], ?_⟩
        rw [h7]
        have hlen : (xs ++ news).length = (n + m) * (T e).size := by rw [List.length_append, t2, hf.len, Nat.add_mul]
        rw [← hlen]
        exact List.take_left
    · have holds : ∀ j u, xs[j]? = some u → w.cell? ((⟨b, 0, none⟩ : Addr).add j) = some u := by
        intro j u' hj
        rw [Addr.add_eq rfl]
        simp only [World.cell?, h3]
        rw [← h7, List.getElem?_take] at hj
        split at hj
        · simpa using hj
        · cases hj
      have hr := run_append_more w t xt ty e i _ d ht hxt hd i1 i2 ⟨b, 0, none⟩ n cap xs (by rw [i3]; exact t2) holds hf' (by omega) (by unfold maxLen at hmax; omega) (growslice_fits (by omega) (by rw [i4]; exact hbound))
      exact grown cap (some b) hob (by intro b' hb'; cases hb'; exact hblt) (by omega) t2 (by rw [h1]; exact hr)
end
end Go.Proofs.Ytpfdoffnpkokhaa.Gw

namespace Go.Proofs.Ytpfdoffnpkokhaa.Gw
open Go
set_option linter.unusedSimpArgs false

section
variable {P : Program} {T : Nat → TI} {an : Nat → Nat} {dst : Option Tmp} {ty : TypeId} {pos : String} {aft : Array Edge} {gd : Option (Nat × Bool)}

theorem at_of_block {g : G} {w : World} {b : Nat} {cur : Array Value} {e : TypeId} {fr : Nat × Nat} (hb : w.heap[b]? = some (.cells cur e fr)) {vs : List Value} (hone : ∀ u ∈ vs, u.oneCell' = true)
    (hcur : ∀ (j : Nat) (u : Value), vs[j]? = some u → cur[j]? = some u) (hsl : ∀ k, g.own b = some k → vs.length ≤ k) :
    ∀ (c : List V) (us : List Value) (off : Nat), SimVs g w c us → (∀ j u, us[j]? = some u → vs[off + j]? = some u) → SimAt g w ⟨b, off, none⟩ c := by
  have hlt := (Array.getElem?_eq_some_iff.1 hb).1
  intro c
  induction c with
  | nil => intro us off _ _; simp [SimAt]
  | cons y ys ih =>
    intro us off q1 q3
    simp only [SimVs] at q1
    obtain ⟨z, r, rfl, q4, q5⟩ := q1
    have hv : vs[off]? = some z := by simpa using q3 0 z (by simp)
    have hoff := (List.getElem?_eq_some_iff.1 hv).1
    simp only [SimAt]
    refine ⟨⟨z, ⟨rfl, hlt, fun k hk => by have := hsl k hk; simp only; omega⟩, by simp [World.cell?, hb, hcur off z hv], hone z (List.mem_of_getElem? hv), q4⟩, ?_⟩
    have e1 : (Addr.mk b off none).add 1 = ⟨b, off + 1, none⟩ := Addr.add_eq rfl 1
    rw [e1]
    exact ih r (off + 1) q5 fun j u hj => by
      have := q3 (j + 1) u (by simpa using hj)
      rw [show off + (j + 1) = off + 1 + j by omega] at this; exact this

theorem rows_of_at {g : G} {w : World} {b sz : Nat} : ∀ (c : List (List V)) (off : Nat), (∀ r ∈ c, r.length = sz) → SimAt g w ⟨b, off, none⟩ c.flatten → SimRows g w ⟨b, off, none⟩ sz c
  | [], _, _, _ => by simp [SimRows]
  | r :: rs, off, hl, hs => by
    have hr := hl r (by simp)
    simp only [SimRows]
    rw [List.flatten_cons] at hs
    have h1 := hs.take r.length
    rw [List.take_left] at h1
    have h2 := hs.drop r.length rfl
    rw [List.drop_left, hr] at h2
    refine ⟨hr, h1, ?_⟩
    have e1 : (Addr.mk b off none).add sz = ⟨b, off + sz, none⟩ := Addr.add_eq rfl _
    rw [e1] at h2 ⊢
    exact rows_of_at rs _ (fun x hx => hl x (by simp [hx])) h2

/-- The real rows of a tip are those that its value tells. -/
theorem tip_rows {g : G} {w : World} {k : Nat} {e : TypeId} {sl : Nat} {xs : List Value} {l : List (List V)} {tk : Option Nat} (h : SimV g w (.lst (T e).size tk l) (g.tv k)) (ht : SimTip T g w k e l.length sl xs) :
    SimVs g w l.flatten xs ∧ (∀ u ∈ xs, u.oneCell' = true) ∧ ∀ r ∈ l, r.length = (T e).size := by
  obtain ⟨news, hf, h2, h3⟩ := Feeds.lst (P := default) h
  obtain ⟨t1, t2, t3⟩ := ht
  rcases t3 with ⟨h0, h1⟩ | ⟨b, cap, cur, h1, k2, k3, k4, k5, k6, k7⟩
  · have hl : l = [] := List.eq_nil_of_length_eq_zero h0
    subst hl
    have : xs = [] := List.eq_nil_of_length_eq_zero (by simpa using t2)
    subst this
    exact ⟨by simp [SimVs], by simp, by simp⟩
  · have hc := hf.cells
    rw [h1] at hc
    have holds : ∀ j u, xs[j]? = some u → w.cell? ((⟨b, 0, none⟩ : Addr).add j) = some u := by
      intro j u' hj
      rw [Addr.add_eq rfl]
      simp only [World.cell?, k3]
      rw [← k7, List.getElem?_take] at hj
      split at hj
      · simpa using hj
      · cases hj
    have hr := run_firstCells_some (P := default) w (T e).size l.length ⟨b, 0, none⟩ l.length cap xs t2 holds
    rw [hr] at hc
    simp only [Result.ok.injEq, and_true] at hc
    have : xs = news := by simpa using hc
    subst this
    exact ⟨h2, hf.one, h3⟩

/-- What is appended, as rows. -/
theorem rowsOf_feeds {g : G} {w : World} {sz : Nat} {x : V} {u : Value} {m : List (List V)} (h : rowsOf sz x = some m) (hx : SimV g w x u) :
    ∃ news, Feeds P u sz m.length news w ∧ SimVs g w m.flatten news ∧ ∀ r ∈ m, r.length = sz := by
  unfold rowsOf at h
  split at h
  · simp only [Option.some.injEq] at h; subst h
    simp only [SimV] at hx; subst hx
    exact ⟨[], Feeds.nils, by simp [SimVs], by simp⟩
  · split at h
    · rename_i hs
      subst hs
      simp only [Option.some.injEq] at h; subst h
      exact Feeds.lst hx
    · simp at h
  · rename_i s
    split at h
    · rename_i hs
      subst hs
      simp only [Option.some.injEq] at h; subst h
      simp only [SimV] at hx; obtain ⟨rfl, _⟩ := hx
      refine ⟨_, by simpa using Feeds.str s, ?_, by simp⟩
      rename_i hlen; clear hlen
      have : (s.map fun b => [V.int .u8 b.toNat]).flatten = s.map fun b => V.int .u8 b.toNat := by
        induction s with
        | nil => rfl
        | cons b s ih => simp only [List.map_cons, List.flatten_cons, ih]; rfl
      rw [this]
      exact SimVs.mk_map _ _ s fun b _ => by simp [SimV]
    · simp at h
  · simp at h

theorem s_append (hT : Tab P T) {g : G} {w : World} {st : St} (hst : SimSt T g st w) {mode : Nat} {e : TypeId} (hsz : (T e).sized = true) (hbb : (T e).bytes ≠ 0) {t xt : TypeId} {d : TypeDesc} (ht : P.underlying t = some (.slice e)) (hxt : P.underlying xt = some d) (hd : d = .string ∨ ∃ e', d = .slice e')
    {s x : V} {us ux : Value} {m : List (List V)} (hs : SimV g w s us) (hx : SimV g w x ux) (hm : rowsOf (T e).size x = some m) {v : V} {st' : St} {side : Prop} (h : appendV mode e (T e) s m st = some (v, st', side)) (hside : side) :
    ∃ val w' g', (Builtin.append_ #[t, xt] ty #[us, ux]).run P w = .ok val w' ∧ SimV g' w' v val ∧ SimSt T g' st' w' ∧ Ext g w g' w' := by
  have hke := sized_kind (i := T e) (by simp [hsz])
  -- a growing list
  have tipCase : ∀ {g : G} {w : World} {st : St} {k : Nat} {l : List (List V)} {us ux : Value}, SimSt T g st w → st[k]? = some (.tip e l.length) → SimV g w (.lst (T e).size (some k) l) us → us = g.tv k → SimV g w x ux → (l.length + m.length) * (T e).bytes ≤ 140737488355328 →
      ∃ val w' g', (Builtin.append_ #[t, xt] ty #[us, ux]).run P w = .ok val w' ∧ SimV g' w' (.lst (T e).size (some k) (l ++ m)) val ∧ SimSt T g' (st.set k (.tip e (l.length + m.length))) w' ∧ Ext g w g' w' ∧
        (∃ a cap, val = .slice a (l.length + m.length) cap) := by
    intro g w st k l us ux hst hk hus hust hx hb
    subst hust
    obtain ⟨xs, htip⟩ := hst.ent k _ hk
    obtain ⟨q1, q2, q3⟩ := tip_rows hus htip
    obtain ⟨news, f1, f2, f3⟩ := rowsOf_feeds (P := P) hm hx
    obtain ⟨v', w', g', r1, r2, r3, r4, r5, r6, r7, r8, ⟨xs', r9, r10⟩, r11, ⟨a, cap, r12, r13, r14, r15, r16, r17⟩⟩ :=
      grow_step hT hst hk rfl hke.1 hke.2 htip ht hxt hd f1 hb hbb ((l.length + m.length) * (T e).size) (.inr ⟨rfl, rfl⟩) (Nat.mul_le_mul_right _ (by omega)) (ty := ty)
    have hflat : SimVs g' w' (l ++ m).flatten (xs ++ news) := by
      rw [List.flatten_append]; exact (q1.ext r2).append (f2.ext r2)
    have hones : ∀ u ∈ xs ++ news, u.oneCell' = true := by
      intro u hu
      rcases List.mem_append.1 hu with h | h
      · exact q2 u h
      · exact f1.one u h
    have hrl : ∀ r ∈ l ++ m, r.length = (T e).size := by
      intro r hr
      rcases List.mem_append.1 hr with h | h
      · exact q3 r h
      · exact f3 r h
    have hkn : k < g.n := by rw [hst.n]; exact (List.getElem?_eq_some_iff.1 hk).1
    have hlen : (xs ++ news).length = (l.length + m.length) * (T e).size := by
      rw [hflat.length, flatten_len _ hrl, List.length_append]
    refine ⟨v', w', g', r1, ?_, hst.upd hk r2 r3 r4 r5 r8 ⟨xs', r9⟩ (fun b hb' => r11 b (by rw [← r6]; exact hb')), r2, a, cap, r12⟩
    simp only [SimV]
    refine ⟨a, cap, by rw [r12, List.length_append], by rw [List.length_append]; exact r13, r14, r15, .inr r16, fun k' hk' => ?_, ?_⟩
    · cases hk'
      exact ⟨by omega, by rw [r7, List.length_append]; exact Nat.le_refl _, fun _ => r6⟩
    · cases a with
      | none =>
        have : l ++ m = [] := List.eq_nil_of_length_eq_zero (by have := r15 rfl; rw [List.length_append]; omega)
        rw [this]; simp [SimRows]
      | some y =>
        obtain ⟨y1, cur, y2, y3, y4⟩ := r17 y rfl
        simp only [Option.getD_some] at r16 ⊢
        obtain ⟨yb, yo, ys⟩ := y
        simp only at y1 y2 y3 r16
        subst y1; subst r16
        refine rows_of_at _ 0 hrl (at_of_block (vs := xs ++ news) y2 hones (fun j u hj => ?_) (fun k' hk' => ?_) _ (xs ++ news) 0 hflat (by simp))
        · rw [← y4, List.getElem?_take] at hj
          split at hj
          · simpa using hj
          · cases hj
        · rw [y3] at hk'; cases hk'; omega
  -- a growing array
  have arrCase : ∀ {g : G} {w : World} {st : St} {k : Nat} {c : List (List V)} {us ux : Value}, SimSt T g st w → st[k]? = some (.arr e (T e).size c) → us = g.tv k → SimV g w x ux → (c.length + m.length) * (T e).bytes ≤ 140737488355328 →
      ∃ val w' g', (Builtin.append_ #[t, xt] ty #[us, ux]).run P w = .ok val w' ∧ SimV g' w' (.arr k (c.length + m.length)) val ∧ SimSt T g' (st.set k (.arr e (T e).size (c ++ m))) w' ∧ Ext g w g' w' := by
    intro g w st k c us ux hst hk hust hx hb
    subst hust
    obtain ⟨-, q3, xs, htip, q1, q2⟩ := hst.ent k _ hk
    obtain ⟨news, f1, f2, f3⟩ := rowsOf_feeds (P := P) hm hx
    obtain ⟨v', w', g', r1, r2, r3, r4, r5, r6, r7, r8, ⟨xs', r9, r10⟩, r11, ⟨a, cap, r12, r13, r14, r15, r16, r17⟩⟩ :=
      grow_step hT hst hk rfl hke.1 hke.2 htip ht hxt hd f1 hb hbb 0 (.inl rfl) (Nat.le_refl _) (ty := ty)
    have hflat : SimVs g' w' (c ++ m).flatten (xs ++ news) := by
      rw [List.flatten_append]; exact (q1.ext r2).append (f2.ext r2)
    have hkn : k < g.n := by rw [hst.n]; exact (List.getElem?_eq_some_iff.1 hk).1
    subst r10
    refine ⟨v', w', g', r1, ?_, hst.upd hk r2 r3 r4 r5 r8 ⟨rfl, ?_, xs ++ news, by rw [List.length_append]; exact r9, hflat, ?_⟩ (fun b hb' => r11 b (by rw [← r6]; exact hb')), r2⟩
    · simp only [SimV]
      exact ⟨by omega, by omega, fun _ => r6, a, cap, r12⟩
    · intro r hr
      rcases List.mem_append.1 hr with h | h
      · exact q3 r h
      · exact f3 r h
    · intro u hu
      rcases List.mem_append.1 hu with h | h
      · exact q2 u h
      · exact f1.one u h
  unfold appendV at h
  split at h
  · -- nil
    simp only [SimV] at hs
    subst hs
    have x2 := Ext.push g w 0 (.slice none 0 0) 0
    have hn : g.n = st.length := hst.n
    split at h <;> simp only [Option.some.injEq, Prod.mk.injEq] at h <;> obtain ⟨rfl, rfl, rfl⟩ := h
    · have h1 : SimSt T (g.push 0 (.slice none 0 0) 0) (st ++ [.arr e (T e).size []]) w := hst.push ⟨rfl, by simp, [], ⟨by simp [G.push], by simp, .inl ⟨rfl, by simp [G.push]⟩⟩, by simp [SimVs], by simp⟩ (fun c hc => by simp [blkOf, G.push, Value.ownBlock] at hc)
      obtain ⟨val, w', g', a1, a2, a3, a4⟩ := arrCase (k := st.length) (c := []) h1 (by simp) (by simp [G.push, hn]) (hx.ext x2) (by simpa using hside) (us := .slice none 0 0)
      refine ⟨val, w', g', a1, by simpa using a2, by simpa using a3, x2.trans a4⟩
    · have h1 : SimSt T (g.push 0 (.slice none 0 0) 0) (st ++ [.tip e 0]) w := hst.push ⟨[], by simp [G.push], by simp, .inl ⟨rfl, by simp [G.push]⟩⟩ (fun c hc => by simp [blkOf, G.push, Value.ownBlock] at hc)
      obtain ⟨val, w', g', a1, a2, a3, a4, _⟩ := tipCase (k := st.length) (l := []) h1 (by simp) (us := .slice none 0 0) (by
        simp only [SimV]
        exact ⟨none, 0, rfl, by simp, by simp [maxLen], by simp, by simp, fun k hk => by cases hk; exact ⟨by simp [G.push, hn], by simp, fun _ => by simp [G.push, hn]⟩, by simp [SimRows]⟩) (by simp [G.push, hn]) (hx.ext x2) (by simpa using hside)
      refine ⟨val, w', g', a1, by simpa using a2, by simpa using a3, x2.trans a4⟩
  · rename_i sz k l
    split at h
    case h_2 => simp at h
    rename_i e' n hk
    split at h
    case isFalse => simp at h
    rename_i hee
    obtain ⟨rfl, rfl⟩ := hee
    simp only [Option.some.injEq, Prod.mk.injEq] at h
    obtain ⟨rfl, rfl, rfl⟩ := h
    obtain ⟨rfl, hb⟩ := hside
    have hlen : g.len k = l.length := by obtain ⟨xs, h, _⟩ := hst.ent k _ hk; exact h
    have hus : us = g.tv k := by
      simp only [SimV] at hs
      obtain ⟨a, cap, c1, _, _, _, _, c2, _⟩ := hs
      exact ((c2 k rfl).2.2 hlen).symm
    obtain ⟨val, w', g', a1, a2, a3, a4, _⟩ := tipCase hst hk hs hus hx hb
    exact ⟨val, w', g', a1, a2, a3, a4⟩
  · rename_i k n
    split at h
    case h_2 => simp at h
    rename_i e' sz c hk
    split at h
    case isFalse => simp at h
    rename_i hee
    obtain ⟨rfl, rfl⟩ := hee
    simp only [Option.some.injEq, Prod.mk.injEq] at h
    obtain ⟨rfl, rfl, rfl⟩ := h
    obtain ⟨rfl, hb⟩ := hside
    have hlen : g.len k = c.length := by obtain ⟨_, _, xs, h, _⟩ := hst.ent k _ hk; exact h.1
    have hus : us = g.tv k := by
      simp only [SimV] at hs
      exact (hs.2.2.1 hlen).symm
    exact arrCase hst hk hus hx hb
  · simp at h
end
end Go.Proofs.Ytpfdoffnpkokhaa.Gw
