/- Whole bodies: loops, returns, calls; and what may be dropped. Code as a whole; loops; functions. Each operation's step, as an equation: what the condition of code is computed by. The condition of code with what comes behind it as data: so that computing it looks at nothing that is not come to yet. The equations by which the condition of code is computed, under few names. -/
import Derived.Test.YtcdnooalfkbmgaaDoorZS3
import Derived.Deep.LoopGhost

namespace Go.Proofs.YtcdnooalfkbmgaaDoor.Gw
open Go
set_option linter.unusedSimpArgs false

mutual
/-- Of objects below n alone is spoken. -/
def V.lt (n : Nat) : V → Prop
  | .lst _ t l => (∀ e, t = some e → e < n) ∧ ltRows n l
  | .arr e _ => e < n
  | .eptr e _ _ _ _ => e < n
  | .ptr o _ => o < n
  | .addr o _ _ => o < n
  | .map o => o < n
  | .agg l => ltL n l
  | .tup l => ltL n l
  | .ref l => ltL n l
  | .fn _ c => ltL n c
  | .iface _ v => V.lt n v
  | .int _ _ | .bool _ | .str _ | .nils | .nilp | .nilf | .nilm | .nili | .junk => True
def ltL (n : Nat) : List V → Prop
  | [] => True
  | x :: xs => V.lt n x ∧ ltL n xs
def ltRows (n : Nat) : List (List V) → Prop
  | [] => True
  | x :: xs => ltL n x ∧ ltRows n xs
end

mutual
/-- What is held is no longer than what an int holds. -/
def V.fit : V → Prop
  | .str s => s.length ≤ 9223372036854775807
  | .lst _ _ l => l.length ≤ 9223372036854775807 ∧ fitR l
  | .agg l => fitL l
  | .tup l => fitL l
  | .ref l => fitL l
  | .fn _ c => fitL c
  | .iface _ v => V.fit v
  | .arr _ _ | .addr _ _ _ | .eptr _ _ _ _ _ | .ptr _ _ | .map _ | .int _ _ | .bool _ | .nils | .nilp | .nilf | .nilm | .nili | .junk => True
def fitL : List V → Prop
  | [] => True
  | x :: xs => V.fit x ∧ fitL xs
def fitR : List (List V) → Prop
  | [] => True
  | x :: xs => fitL x ∧ fitR xs
end

mutual
theorem SimV.fit {g : G} {w : World} : ∀ {x : V} {v : Value}, SimV g w x v → x.fit
  | .lst sz t l, v, h => by
    simp only [SimV] at h
    obtain ⟨a, cap, _, h1, h2, _, _, _, h3⟩ := h
    simp only [V.fit]
    have : maxLen = 9223372036854775807 := rfl
    exact ⟨by omega, SimRows.fit h3⟩
  | .str s, v, h => by simp only [SimV] at h; simp only [V.fit]; exact h.2
  | .ref l, v, h => by simp only [SimV] at h; obtain ⟨a, _, _, h⟩ := h; simp only [V.fit]; exact SimAt.fit h
  | .agg l, v, h => by simp only [SimV] at h; obtain ⟨_, _, h, _⟩ := h; simp only [V.fit]; exact SimVs.fit h
  | .tup l, v, h => by simp only [SimV] at h; obtain ⟨_, _, h⟩ := h; simp only [V.fit]; exact SimVs.fit h
  | .fn f c, v, h => by simp only [SimV] at h; obtain ⟨_, _, h⟩ := h; simp only [V.fit]; exact SimVs.fit h
  | .iface t x, v, h => by simp only [SimV] at h; obtain ⟨_, _, h⟩ := h; simp only [V.fit]; exact SimV.fit h
  | .arr _ _, _, _ | .addr _ _ _, _, _ | .eptr _ _ _ _ _, _, _ | .ptr _ _, _, _ | .map _, _, _ | .int _ _, _, _ | .bool _, _, _ | .nils, _, _ | .nilp, _, _ | .nilf, _, _ | .nilm, _, _ | .nili, _, _ | .junk, _, _ => by simp [V.fit]
theorem SimVs.fit {g : G} {w : World} : ∀ {x : List V} {v : List Value}, SimVs g w x v → fitL x
  | [], _, _ => trivial
  | x :: xs, _, h => by
    simp only [SimVs] at h
    obtain ⟨v, r, _, h1, h2⟩ := h
    exact ⟨SimV.fit h1, SimVs.fit h2⟩
theorem SimAt.fit {g : G} {w : World} : ∀ {a : Addr} {x : List V}, SimAt g w a x → fitL x
  | _, [], _ => trivial
  | _, x :: xs, h => by
    simp only [SimAt] at h
    obtain ⟨⟨v, _, _, _, h1⟩, h2⟩ := h
    exact ⟨SimV.fit h1, SimAt.fit h2⟩
theorem SimRows.fit {g : G} {w : World} : ∀ {a : Addr} {sz : Nat} {x : List (List V)}, SimRows g w a sz x → fitR x
  | _, _, [], _ => trivial
  | _, _, x :: xs, h => by
    simp only [SimRows] at h
    exact ⟨SimAt.fit h.2.1, SimRows.fit h.2.2⟩
end

def Ent.lt (n : Nat) : Ent → Prop
  | .box c => ltL n c
  | .arr _ _ c => ltRows n c
  | .map _ es => ∀ e ∈ es, e.2.1.lt n ∧ e.2.2.lt n
  | .iter m _ _ => m < n
  | .tip _ _ | .gone => True

def St.ok (st : St) : Prop := ∀ e ∈ st, e.lt st.length

theorem ltL_append {n : Nat} : ∀ {x y : List V}, ltL n x → ltL n y → ltL n (x ++ y)
  | [], _, _, k => k
  | x :: xs, y, h, k => by simp only [List.cons_append, ltL] at h ⊢; exact ⟨h.1, ltL_append h.2 k⟩
theorem ltRows_append {n : Nat} : ∀ {x y : List (List V)}, ltRows n x → ltRows n y → ltRows n (x ++ y)
  | [], _, _, k => k
  | x :: xs, y, h, k => by simp only [List.cons_append, ltRows] at h ⊢; exact ⟨h.1, ltRows_append h.2 k⟩
theorem ltRows_map {α : Type} {n : Nat} {f : α → List V} : ∀ {l : List α}, (∀ x ∈ l, ltL n (f x)) → ltRows n (l.map f)
  | [], _ => trivial
  | x :: xs, h => ⟨h x (by simp), ltRows_map fun y hy => h y (by simp [hy])⟩

mutual
theorem SimV.lt {g : G} {w : World} : ∀ {x : V} {v : Value}, SimV g w x v → x.lt g.n
  | .lst sz t l, v, h => by
    simp only [SimV] at h
    obtain ⟨a, cap, _, _, _, _, _, h1, h2⟩ := h
    simp only [V.lt]
    exact ⟨fun e he => (h1 e he).1, SimRows.lt h2⟩
  | .arr e n, v, h => by simp only [SimV] at h; simp only [V.lt]; exact h.1
  | .eptr e n sz k off, v, h => by simp only [SimV] at h; simp only [V.lt]; exact h.1
  | .ref l, v, h => by simp only [SimV] at h; obtain ⟨a, _, _, h⟩ := h; simp only [V.lt]; exact SimAt.lt h
  | .ptr o off, v, h => by simp only [SimV] at h; simp only [V.lt]; exact h.1
  | .addr o _ _, v, h => by simp only [SimV] at h; simp only [V.lt]; exact h.1
  | .agg l, v, h => by simp only [SimV] at h; obtain ⟨_, _, h, _⟩ := h; simp only [V.lt]; exact SimVs.lt h
  | .tup l, v, h => by simp only [SimV] at h; obtain ⟨_, _, h⟩ := h; simp only [V.lt]; exact SimVs.lt h
  | .fn f c, v, h => by simp only [SimV] at h; obtain ⟨_, _, h⟩ := h; simp only [V.lt]; exact SimVs.lt h
  | .map o, v, h => by simp only [SimV] at h; simp only [V.lt]; exact h.1
  | .iface t x, v, h => by simp only [SimV] at h; obtain ⟨_, _, h⟩ := h; simp only [V.lt]; exact SimV.lt h
  | .int _ _, _, _ | .bool _, _, _ | .str _, _, _ | .nils, _, _ | .nilp, _, _ | .nilf, _, _ | .nilm, _, _ | .nili, _, _ | .junk, _, _ => by simp [V.lt]
theorem SimVs.lt {g : G} {w : World} : ∀ {x : List V} {v : List Value}, SimVs g w x v → ltL g.n x
  | [], _, _ => by simp [ltL]
  | x :: xs, _, h => by
    simp only [SimVs] at h
    obtain ⟨v, r, _, h2, h3⟩ := h
    simp only [ltL]
    exact ⟨SimV.lt h2, SimVs.lt h3⟩
theorem SimAt.lt {g : G} {w : World} : ∀ {a : Addr} {x : List V}, SimAt g w a x → ltL g.n x
  | _, [], _ => by simp [ltL]
  | a, x :: xs, h => by
    simp only [SimAt] at h
    obtain ⟨⟨v, _, _, _, h2⟩, h3⟩ := h
    simp only [ltL]
    exact ⟨SimV.lt h2, SimAt.lt h3⟩
theorem SimRows.lt {g : G} {w : World} : ∀ {a : Addr} {sz : Nat} {x : List (List V)}, SimRows g w a sz x → ltRows g.n x
  | _, _, [], _ => by simp [ltRows]
  | a, sz, x :: xs, h => by
    simp only [SimRows] at h
    simp only [ltRows]
    exact ⟨SimAt.lt h.2.1, SimRows.lt h.2.2⟩
end

def G.cut (g : G) (k : Nat) : G := { g with n := k }

mutual
theorem SimV.cut {g : G} {w : World} {k : Nat} : ∀ {x : V} {v : Value}, SimV g w x v → x.lt k → SimV (g.cut k) w x v
  | .lst sz t l, v, h, hl => by
    simp only [SimV] at h ⊢
    simp only [V.lt] at hl
    obtain ⟨a, cap, h1, h2, h3, h4, h5, h6, h7⟩ := h
    exact ⟨a, cap, h1, h2, h3, h4, h5, fun e he => ⟨hl.1 e he, (h6 e he).2⟩, SimRows.cut h7 hl.2⟩
  | .arr e n, v, h, hl => by simp only [SimV] at h ⊢; exact ⟨by simpa [V.lt, G.cut] using hl, h.2⟩
  | .eptr e n sz k off, v, h, hl => by simp only [SimV] at h ⊢; exact ⟨by simpa [V.lt, G.cut] using hl, h.2⟩
  | .ref l, v, h, hl => by simp only [SimV] at h ⊢; obtain ⟨a, h1, h2, h⟩ := h; exact ⟨a, h1, h2, SimAt.cut h (by simpa [V.lt] using hl)⟩
  | .ptr o off, v, h, hl => by simp only [SimV] at h ⊢; exact ⟨by simpa [V.lt, G.cut] using hl, h.2⟩
  | .addr o _ _, v, h, hl => by simp only [SimV] at h ⊢; exact ⟨by simpa [V.lt, G.cut] using hl, h.2⟩
  | .agg l, v, h, hl => by simp only [SimV] at h ⊢; obtain ⟨u, h1, h, h2⟩ := h; exact ⟨u, h1, SimVs.cut h (by simpa [V.lt] using hl), h2⟩
  | .tup l, v, h, hl => by simp only [SimV] at h ⊢; obtain ⟨u, h1, h⟩ := h; exact ⟨u, h1, SimVs.cut h (by simpa [V.lt] using hl)⟩
  | .fn f c, v, h, hl => by simp only [SimV] at h ⊢; obtain ⟨u, h1, h⟩ := h; exact ⟨u, h1, SimVs.cut h (by simpa [V.lt] using hl)⟩
  | .map o, v, h, hl => by simp only [SimV] at h ⊢; exact ⟨by simpa [V.lt, G.cut] using hl, h.2⟩
  | .iface t x, v, h, hl => by simp only [SimV] at h ⊢; obtain ⟨u, h1, h⟩ := h; exact ⟨u, h1, SimV.cut h (by simpa [V.lt] using hl)⟩
  | .int _ _, _, h, _ | .bool _, _, h, _ | .str _, _, h, _ | .nils, _, h, _ | .nilp, _, h, _ | .nilf, _, h, _ | .nilm, _, h, _ | .nili, _, h, _ => by simpa [SimV] using h
  | .junk, _, _, _ => by simp [SimV]
theorem SimVs.cut {g : G} {w : World} {k : Nat} : ∀ {x : List V} {v : List Value}, SimVs g w x v → ltL k x → SimVs (g.cut k) w x v
  | [], _, h, _ => by simpa [SimVs] using h
  | x :: xs, _, h, hl => by
    simp only [SimVs] at h ⊢
    simp only [ltL] at hl
    obtain ⟨v, r, h1, h2, h3⟩ := h
    exact ⟨v, r, h1, SimV.cut h2 hl.1, SimVs.cut h3 hl.2⟩
theorem SimAt.cut {g : G} {w : World} {k : Nat} : ∀ {a : Addr} {x : List V}, SimAt g w a x → ltL k x → SimAt (g.cut k) w a x
  | _, [], _, _ => by simp [SimAt]
  | a, x :: xs, h, hl => by
    simp only [SimAt] at h ⊢
    simp only [ltL] at hl
    obtain ⟨⟨v, h1, h2, h3, h4⟩, h5⟩ := h
    exact ⟨⟨v, h1, h2, h3, SimV.cut h4 hl.1⟩, SimAt.cut h5 hl.2⟩
theorem SimRows.cut {g : G} {w : World} {k : Nat} : ∀ {a : Addr} {sz : Nat} {x : List (List V)}, SimRows g w a sz x → ltRows k x → SimRows (g.cut k) w a sz x
  | _, _, [], _, _ => by simp [SimRows]
  | a, sz, x :: xs, h, hl => by
    simp only [SimRows] at h ⊢
    simp only [ltRows] at hl
    exact ⟨h.1, SimAt.cut h.2.1 hl.1, SimRows.cut h.2.2 hl.2⟩
end

section
variable {P : Program} {T : Nat → TI} {an : Nat → Nat} {L : List Nat} {ds : List Deferred}

theorem SimEs.lt {g : G} {w : World} : ∀ {es : List (Nat × V × V)} {l : List MapEntry}, SimEs g w es l → ∀ e ∈ es, e.2.1.lt g.n ∧ e.2.2.lt g.n
  | [], _, _, e, h => by simp at h
  | (b, k, v) :: r, _, h, e, he => by
    obtain ⟨e', t, _, _, h1, h2, h3⟩ := h
    rcases List.mem_cons.1 he with rfl | he
    · exact ⟨h1.lt, h2.lt⟩
    · exact h3.lt e he
theorem SimEs.cut {g : G} {w : World} {k : Nat} : ∀ {es : List (Nat × V × V)} {l : List MapEntry}, SimEs g w es l → (∀ e ∈ es, e.2.1.lt k ∧ e.2.2.lt k) → SimEs (g.cut k) w es l
  | [], _, h, _ => h
  | (b, x, v) :: r, _, h, hl => by
    obtain ⟨e', t, q1, q2, h1, h2, h3⟩ := h
    have := hl _ (List.mem_cons_self)
    exact ⟨e', t, q1, q2, h1.cut this.1, h2.cut this.2, h3.cut fun e he => hl e (List.mem_cons_of_mem _ he)⟩

theorem SimSt.okSt {g : G} {st : St} {w : World} (h : SimSt T g st w) : St.ok st := by
  intro e he
  obtain ⟨i, hi⟩ := List.getElem?_of_mem he
  have := h.ent i e hi
  rw [← h.n]
  cases e with
  | box c => obtain ⟨_, vs, t, _, h, _⟩ := this; exact h.lt
  | tip e n => trivial
  | gone => trivial
  | map c es => obtain ⟨_, _, l, _, h⟩ := this; exact h.lt
  | iter m since seen => exact this.2.1
  | arr e sz c =>
    obtain ⟨_, h1, xs, _, h, _⟩ := this
    simp only [Ent.lt]
    have key : ∀ c : List (List V), ltL g.n c.flatten → ltRows g.n c := by
      intro c
      induction c with
      | nil => intro _; trivial
      | cons r rs ih =>
        intro h
        rw [List.flatten_cons] at h
        have sp : ∀ (x y : List V), ltL g.n (x ++ y) → ltL g.n x ∧ ltL g.n y := by
          intro x
          induction x with
          | nil => intro y h; exact ⟨trivial, h⟩
          | cons a x ih => intro y h; simp only [List.cons_append, ltL] at h ⊢; exact ⟨⟨h.1, (ih y h.2).1⟩, (ih y h.2).2⟩
        exact ⟨(sp _ _ h).1, ih (sp _ _ h).2⟩
    exact key c h.lt

/-- The entries behind may be forgotten. -/
theorem SimSt.drop {g : G} {st ex : St} {w : World} (h : SimSt T g (st ++ ex) w) (hl : St.ok st) : SimSt T (g.cut st.length) st w where
  n := rfl
  ent := fun i e hi => by
    have hlt := (List.getElem?_eq_some_iff.1 hi).1
    have hi' : (st ++ ex)[i]? = some e := by rw [List.getElem?_append_left hlt]; exact hi
    have he := hl e (List.mem_of_getElem? hi)
    have := h.ent i e hi'
    cases e with
    | box c => obtain ⟨h1, vs, t, h2, h3, h4⟩ := this; exact ⟨h1, vs, t, h2, h3.cut he, h4⟩
    | tip e n => exact this
    | gone => trivial
    | map c es => obtain ⟨h1, h2, l, h3, h4⟩ := this; exact ⟨h1, h2, l, h3, h4.cut he⟩
    | iter m since seen => obtain ⟨h1, h2, h3⟩ := this; exact ⟨h1, he, h3⟩
    | arr e sz c =>
      obtain ⟨h1, h2, xs, h3, h4, h5⟩ := this
      have key : ∀ c : List (List V), ltRows st.length c → ltL st.length c.flatten := by
        intro c
        induction c with
        | nil => intro _; trivial
        | cons r rs ih => intro h; rw [List.flatten_cons]; exact ltL_append h.1 (ih h.2)
      exact ⟨h1, h2, xs, h3, h4.cut (key c he), h5⟩
  one := fun i j ei ej b hi hj k1 k2 => by
    have hi' : (st ++ ex)[i]? = some ei := by rw [List.getElem?_append_left (List.getElem?_eq_some_iff.1 hi).1]; exact hi
    have hj' : (st ++ ex)[j]? = some ej := by rw [List.getElem?_append_left (List.getElem?_eq_some_iff.1 hj).1]; exact hj
    exact h.one i j ei ej b hi' hj' (by cases ei <;> exact k1) (by cases ej <;> exact k2)
  amb := h.amb

theorem Ext.cut {g g' : G} {w w' : World} (h : Ext g w g' w') {k : Nat} (hk : g.n ≤ k) : Ext g w (g'.cut k) w' :=
  ⟨h.os, h.tape, h.output, h.size, hk, h.pb, h.len, h.tv, h.free, h.kept, h.ty⟩

-- what may be taken for what; where a nil slice may be taken for the tip of an object of p's, too
/-- The objects of p are slices that are nil. -/
def Nil0 (g : G) (p : Nat → Prop) : Prop := ∀ k, p k → k < g.n ∧ g.len k = 0 ∧ g.tv k = .slice none 0 0
def NoTok : Nat → Prop := fun _ => False
theorem nil0_no (g : G) : Nil0 g NoTok := fun _ h => h.elim
mutual
def wkp (p : Nat → Prop) : V → V → Prop
  | .lst sz t l, v => ∃ t' l', v = .lst sz t' l' ∧ (t' = t ∨ t' = none) ∧ wkRp p l l'
  | .nils, v => v = .nils ∨ ∃ sz t, v = .lst sz t [] ∧ ∀ k, t = some k → p k
  | .agg l, v => ∃ l', v = .agg l' ∧ wkLp p l l'
  | .tup l, v => ∃ l', v = .tup l' ∧ wkLp p l l'
  | .int k n, v => v = .int k n
  | .bool b, v => v = .bool b
  | .str s, v => v = .str s
  | .arr e n, v => v = .arr e n
  | .eptr e n sz k off, v => v = .eptr e n sz k off
  | .ref l, v => ∃ l', v = .ref l' ∧ wkLp p l l'
  | .ptr o n, v => v = .ptr o n
  | .nilp, v => v = .nilp
  | .fn f c, v => ∃ l', v = .fn f l' ∧ wkLp p c l'
  | .nilf, v => v = .nilf
  | .map o, v => v = .map o
  | .nilm, v => v = .nilm
  | .iface t x, v => ∃ y, v = .iface t y ∧ wkp p x y
  | .nili, v => v = .nili
  | .addr o t k, v => v = .addr o t k
  | .junk, v => v = .junk
def wkLp (p : Nat → Prop) : List V → List V → Prop
  | [], l => l = []
  | x :: xs, l => ∃ y ys, l = y :: ys ∧ wkp p x y ∧ wkLp p xs ys
def wkRp (p : Nat → Prop) : List (List V) → List (List V) → Prop
  | [], l => l = []
  | x :: xs, l => ∃ y ys, l = y :: ys ∧ wkLp p x y ∧ wkRp p xs ys
end

variable {p : Nat → Prop}
theorem wkLp.length : ∀ {x y : List V}, wkLp p x y → y.length = x.length
  | [], _, h => by simp only [wkLp] at h; subst h; rfl
  | x :: xs, _, h => by
    simp only [wkLp] at h
    obtain ⟨z, zs, rfl, _, h2⟩ := h
    simp [h2.length]
theorem wkRp.length : ∀ {x y : List (List V)}, wkRp p x y → y.length = x.length
  | [], _, h => by simp only [wkRp] at h; subst h; rfl
  | x :: xs, _, h => by
    simp only [wkRp] at h
    obtain ⟨z, zs, rfl, _, h2⟩ := h
    simp [h2.length]
theorem wkLp.append : ∀ {x y x' y' : List V}, wkLp p x x' → wkLp p y y' → wkLp p (x ++ y) (x' ++ y')
  | [], _, _, _, h, k => by simp only [wkLp] at h; subst h; exact k
  | x :: xs, y, _, y', h, k => by
    simp only [wkLp] at h
    obtain ⟨z, zs, rfl, h1, h2⟩ := h
    simp only [List.cons_append, wkLp]
    exact ⟨z, _, rfl, h1, h2.append k⟩
theorem wkRp.flatten : ∀ {x y : List (List V)}, wkRp p x y → wkLp p x.flatten y.flatten
  | [], _, h => by simp only [wkRp] at h; subst h; simp [wkLp]
  | x :: xs, _, h => by
    simp only [wkRp] at h
    obtain ⟨z, zs, rfl, h1, h2⟩ := h
    simp only [List.flatten_cons]
    exact h1.append h2.flatten
theorem wkRp.rows {sz : Nat} : ∀ {x y : List (List V)}, wkRp p x y → (∀ r ∈ x, r.length = sz) → ∀ r ∈ y, r.length = sz
  | [], _, h, _ => by simp only [wkRp] at h; subst h; simp
  | x :: xs, _, h, k => by
    simp only [wkRp] at h
    obtain ⟨z, zs, rfl, h1, h2⟩ := h
    intro r hr
    rcases List.mem_cons.1 hr with rfl | hr
    · rw [h1.length]; exact k x (by simp)
    · exact h2.rows (fun r hr => k r (by simp [hr])) r hr

mutual
theorem wkp.sim {g : G} {w : World} (hp : Nil0 g p) : ∀ {x y : V} {v : Value}, wkp p x y → SimV g w x v → SimV g w y v
  | .lst sz t l, y, v, h, s => by
    simp only [wkp] at h
    obtain ⟨t', l', rfl, ht, hl⟩ := h
    simp only [SimV] at s ⊢
    obtain ⟨a, cap, h1, h2, h3, h4, h5, h6, h7⟩ := s
    rw [hl.length]
    refine ⟨a, cap, h1, h2, h3, h4, h5.imp (fun e => List.eq_nil_of_length_eq_zero (by rw [hl.length, e]; rfl)) id, ?_, wkRp.sim hp hl h7⟩
    rcases ht with rfl | rfl
    · exact h6
    · simp
  | .nils, y, v, h, s => by
    simp only [wkp] at h
    rcases h with rfl | ⟨sz, t, rfl, ht⟩
    · exact s
    · simp only [SimV] at s ⊢
      refine ⟨none, 0, by simpa using s, by simp, by simp [maxLen], by simp, .inl trivial, fun e he => ?_, by simp [SimRows]⟩
      obtain ⟨q1, q2, q3⟩ := hp e (ht e he)
      exact ⟨q1, by simp, fun _ => by rw [q3, s]⟩
  | .agg l, y, v, h, s => by
    simp only [wkp] at h
    obtain ⟨l', rfl, h⟩ := h
    simp only [SimV] at s ⊢
    obtain ⟨vs, h1, h2, h3⟩ := s
    exact ⟨vs, h1, wkLp.sim hp h h2, h3⟩
  | .tup l, y, v, h, s => by
    simp only [wkp] at h
    obtain ⟨l', rfl, h⟩ := h
    simp only [SimV] at s ⊢
    obtain ⟨vs, h1, h2⟩ := s
    exact ⟨vs, h1, wkLp.sim hp h h2⟩
  | .ref l, y, v, h, s => by
    simp only [wkp] at h
    obtain ⟨l', rfl, h⟩ := h
    simp only [SimV] at s ⊢
    obtain ⟨a, h1, h2, h3⟩ := s
    exact ⟨a, h1, h2, wkLp.simAt hp h h3⟩
  | .fn f c, y, v, h, s => by
    simp only [wkp] at h
    obtain ⟨l', rfl, h⟩ := h
    simp only [SimV] at s ⊢
    obtain ⟨vs, h1, h2⟩ := s
    exact ⟨vs, h1, wkLp.sim hp h h2⟩
  | .iface t x, y, v, h, s => by
    simp only [wkp] at h
    obtain ⟨y, rfl, h⟩ := h
    simp only [SimV] at s ⊢
    obtain ⟨u, h1, h2⟩ := s
    exact ⟨u, h1, wkp.sim hp h h2⟩
  | .int _ _, _, _, h, s | .bool _, _, _, h, s | .str _, _, _, h, s | .arr _ _, _, _, h, s | .eptr _ _ _ _ _, _, _, h, s | .ptr _ _, _, _, h, s | .nilp, _, _, h, s
  | .nilf, _, _, h, s | .map _, _, _, h, s | .nilm, _, _, h, s | .nili, _, _, h, s | .addr _ _ _, _, _, h, s | .junk, _, _, h, s => by simp only [wkp] at h; subst h; exact s
theorem wkLp.sim {g : G} {w : World} (hp : Nil0 g p) : ∀ {x y : List V} {v : List Value}, wkLp p x y → SimVs g w x v → SimVs g w y v
  | [], y, v, h, s => by simp only [wkLp] at h; subst h; exact s
  | x :: xs, y, v, h, s => by
    simp only [wkLp] at h
    obtain ⟨z, zs, rfl, h1, h2⟩ := h
    simp only [SimVs] at s ⊢
    obtain ⟨u, r, h3, h4, h5⟩ := s
    exact ⟨u, r, h3, wkp.sim hp h1 h4, wkLp.sim hp h2 h5⟩
theorem wkLp.simAt {g : G} {w : World} (hp : Nil0 g p) : ∀ {x y : List V} {a : Addr}, wkLp p x y → SimAt g w a x → SimAt g w a y
  | [], y, v, h, s => by simp only [wkLp] at h; subst h; exact s
  | x :: xs, y, v, h, s => by
    simp only [wkLp] at h
    obtain ⟨z, zs, rfl, h1, h2⟩ := h
    simp only [SimAt] at s ⊢
    obtain ⟨⟨u, h3, h4, h5, h6⟩, h7⟩ := s
    exact ⟨⟨u, h3, h4, h5, wkp.sim hp h1 h6⟩, wkLp.simAt hp h2 h7⟩
theorem wkRp.sim {g : G} {w : World} (hp : Nil0 g p) : ∀ {x y : List (List V)} {a : Addr} {sz : Nat}, wkRp p x y → SimRows g w a sz x → SimRows g w a sz y
  | [], y, _, _, h, s => by simp only [wkRp] at h; subst h; exact s
  | x :: xs, y, _, _, h, s => by
    simp only [wkRp] at h
    obtain ⟨z, zs, rfl, h1, h2⟩ := h
    simp only [SimRows] at s ⊢
    exact ⟨by rw [h1.length]; exact s.1, wkLp.simAt hp h1 s.2.1, wkRp.sim hp h2 s.2.2⟩
end

mutual
theorem wk_refl : ∀ v : V, wkp p v v
  | .lst sz t l => by simp only [wkp]; exact ⟨t, l, rfl, .inl rfl, wkR_refl l⟩
  | .nils => by simp [wkp]
  | .agg l => by simp only [wkp]; exact ⟨l, rfl, wkL_refl l⟩
  | .tup l => by simp only [wkp]; exact ⟨l, rfl, wkL_refl l⟩
  | .ref l => by simp only [wkp]; exact ⟨l, rfl, wkL_refl l⟩
  | .fn f l => by simp only [wkp]; exact ⟨l, rfl, wkL_refl l⟩
  | .iface t x => by simp only [wkp]; exact ⟨x, rfl, wk_refl x⟩
  | .int _ _ | .bool _ | .str _ | .arr _ _ | .eptr _ _ _ _ _ | .ptr _ _ | .nilp | .nilf | .map _ | .nilm | .nili | .addr _ _ _ | .junk => by simp [wkp]
theorem wkL_refl : ∀ l : List V, wkLp p l l
  | [] => by simp [wkLp]
  | x :: xs => by simp only [wkLp]; exact ⟨x, xs, rfl, wk_refl x, wkL_refl xs⟩
theorem wkR_refl : ∀ l : List (List V), wkRp p l l
  | [] => by simp [wkRp]
  | x :: xs => by simp only [wkRp]; exact ⟨x, xs, rfl, wkL_refl x, wkR_refl xs⟩
end

theorem wk_tok (sz : Nat) (t : Option Nat) (l : List (List V)) : wkp p (.lst sz t l) (.lst sz none l) := by simp only [wkp]; exact ⟨none, l, rfl, .inr rfl, wkR_refl l⟩
theorem wk_lst {sz : Nat} {t : Option Nat} {l l' : List (List V)} (h : wkRp p l l') : wkp p (.lst sz t l) (.lst sz none l') := by simp only [wkp]; exact ⟨none, l', rfl, .inr rfl, h⟩
theorem wk_lst_same {sz : Nat} {t : Option Nat} {l l' : List (List V)} (h : wkRp p l l') : wkp p (.lst sz t l) (.lst sz t l') := by simp only [wkp]; exact ⟨t, l', rfl, .inl rfl, h⟩
theorem wk_nils (sz : Nat) : wkp p .nils (.lst sz none []) := by simp only [wkp]; exact .inr ⟨sz, none, rfl, fun k h => by cases h⟩
theorem wk_tip (sz : Nat) {k : Nat} (h : p k) : wkp p .nils (.lst sz (some k) []) := by simp only [wkp]; exact .inr ⟨sz, some k, rfl, fun j e => by cases e; exact h⟩
theorem wk_agg {l l' : List V} (h : wkLp p l l') : wkp p (.agg l) (.agg l') := by simp only [wkp]; exact ⟨l', rfl, h⟩
theorem wk_tup {l l' : List V} (h : wkLp p l l') : wkp p (.tup l) (.tup l') := by simp only [wkp]; exact ⟨l', rfl, h⟩
theorem wk_ref {l l' : List V} (h : wkLp p l l') : wkp p (.ref l) (.ref l') := by simp only [wkp]; exact ⟨l', rfl, h⟩
theorem wkL_cons {x y : V} {xs ys : List V} (h : wkp p x y) (k : wkLp p xs ys) : wkLp p (x :: xs) (y :: ys) := by simp only [wkLp]; exact ⟨y, ys, rfl, h, k⟩
theorem wkL_nil : wkLp p [] [] := by simp [wkLp]
theorem wkR_map {α : Type} {f f' : α → List V} (h : ∀ x, wkLp p (f x) (f' x)) : ∀ l : List α, wkRp p (l.map f) (l.map f')
  | [] => by simp [wkRp]
  | x :: xs => by simp only [List.map_cons, wkRp]; exact ⟨_, _, rfl, h x, wkR_map h xs⟩

def wkMp (p : Nat → Prop) : List (Nat × V × V) → List (Nat × V × V) → Prop
  | [], l => l = []
  | (b, k, v) :: r, l => ∃ k' v' t, l = (b, k', v') :: t ∧ wkp p k k' ∧ wkp p v v' ∧ wkMp p r t
theorem wkM_refl : ∀ l : List (Nat × V × V), wkMp p l l
  | [] => rfl
  | (_, k, v) :: r => ⟨k, v, r, rfl, wk_refl k, wk_refl v, wkM_refl r⟩
theorem wkMp.sim {g : G} {w : World} (hp : Nil0 g p) : ∀ {es es' : List (Nat × V × V)} {l : List MapEntry}, wkMp p es es' → SimEs g w es l → SimEs g w es' l
  | [], _, _, h, hs => by simp only [wkMp] at h; subst h; exact hs
  | (b, k, v) :: r, _, _, h, hs => by
    obtain ⟨k', v', t, rfl, h1, h2, h3⟩ := h
    obtain ⟨e, u, q1, q2, q3, q4, q5⟩ := hs
    exact ⟨e, u, q1, q2, h1.sim hp q3, h2.sim hp q4, h3.sim hp q5⟩
theorem wkMp.born : ∀ {es es' : List (Nat × V × V)} {c : Nat}, wkMp p es es' → (∀ e ∈ es, e.1 < c) → ∀ e ∈ es', e.1 < c
  | [], _, c, h, _ => by simp only [wkMp] at h; subst h; simp
  | (b, k, v) :: r, _, c, h, hb => by
    obtain ⟨k', v', t, rfl, h1, h2, h3⟩ := h
    intro e he
    rcases List.mem_cons.1 he with rfl | he
    · exact hb (b, k, v) (List.mem_cons_self)
    · exact h3.born (fun e he => hb e (List.mem_cons_of_mem _ he)) e he
def Ent.wkq (p : Nat → Prop) : Ent → Ent → Prop
  | .map c es, e => ∃ es', e = .map c es' ∧ wkMp p es es'
  | .iter m s l, e => e = .iter m s l
  | .box c, e => ∃ c', e = .box c' ∧ wkLp p c c'
  | .arr t sz c, e => ∃ c', e = .arr t sz c' ∧ wkRp p c c'
  | .tip t n, e => e = .tip t n
  | .gone, e => e = .gone
/-- What an object may be taken for: for one that is gone, always. -/
def Ent.wkp (p : Nat → Prop) (x e : Ent) : Prop := e = .gone ∨ x.wkq p e
def wkStp (p : Nat → Prop) : St → St → Prop
  | [], s => s = []
  | x :: xs, s => ∃ y ys, s = y :: ys ∧ x.wkp p y ∧ wkStp p xs ys

theorem Ent.wkp_refl (e : Ent) : e.wkp p e := by
  right
  cases e with
  | box c => exact ⟨c, rfl, wkL_refl c⟩
  | arr t sz c => exact ⟨c, rfl, wkR_refl c⟩
  | map c es => exact ⟨es, rfl, wkM_refl es⟩
  | _ => rfl
theorem Ent.wk_gone (e : Ent) : e.wkp p .gone := .inl rfl
theorem Ent.wk_box {c c' : List V} (h : wkLp p c c') : (Ent.box c).wkp p (.box c') := .inr ⟨c', rfl, h⟩
theorem wkSt_nil : wkStp p [] [] := rfl
theorem wkSt_cons {x y : Ent} {xs ys : St} (h : x.wkp p y) (k : wkStp p xs ys) : wkStp p (x :: xs) (y :: ys) := ⟨y, ys, rfl, h, k⟩
theorem wkSt_refl : ∀ s : St, wkStp p s s
  | [] => rfl
  | x :: xs => ⟨x, xs, rfl, x.wkp_refl, wkSt_refl xs⟩
theorem wkStp.append : ∀ {a a' b b' : St}, wkStp p a a' → wkStp p b b' → wkStp p (a ++ b) (a' ++ b')
  | [], _, _, _, h, k => by simp only [wkStp] at h; subst h; exact k
  | x :: xs, _, _, _, h, k => by
    obtain ⟨y, ys, rfl, h1, h2⟩ := h
    exact ⟨y, _, rfl, h1, h2.append k⟩
theorem wkStp.length : ∀ {s s' : St}, wkStp p s s' → s'.length = s.length
  | [], _, h => by simp only [wkStp] at h; subst h; rfl
  | x :: xs, _, h => by obtain ⟨y, ys, rfl, _, h2⟩ := h; simp [h2.length]
theorem wkStp.get : ∀ {s s' : St} {i : Nat} {e' : Ent}, wkStp p s s' → s'[i]? = some e' → ∃ e, s[i]? = some e ∧ e.wkp p e'
  | [], _, i, e', h, hi => by simp only [wkStp] at h; subst h; simp at hi
  | x :: xs, _, i, e', h, hi => by
    obtain ⟨y, ys, rfl, h1, h2⟩ := h
    cases i with
    | zero => simp at hi; subst hi; exact ⟨x, by simp, h1⟩
    | succ i => simpa using h2.get (by simpa using hi)
theorem wkStp.set : ∀ {s s' : St} {i : Nat} {e e' : Ent}, wkStp p s s' → e.wkp p e' → wkStp p (s.set i e) (s'.set i e')
  | [], _, i, e, e', h, _ => by simp only [wkStp] at h; subst h; rfl
  | x :: xs, _, i, e, e', h, k => by
    obtain ⟨y, ys, rfl, h1, h2⟩ := h
    cases i with
    | zero => exact ⟨e', ys, rfl, k, h2⟩
    | succ i => exact ⟨y, _, rfl, h1, h2.set k⟩
theorem SimSt.wkp {g : G} {w : World} {s s' : St} (h : SimSt T g s w) (hp : Nil0 g p) (k : wkStp p s s') : SimSt T g s' w := by
  refine ⟨h.n.trans k.length.symm, fun i e' hi => ?_, fun i j ei ej b hi hj h1 h2 => ?_, h.amb⟩
  · obtain ⟨e, h1, h2⟩ := k.get hi
    have := h.ent i e h1
    rcases h2 with rfl | h2
    · trivial
    cases e with
    | box c =>
      obtain ⟨c', rfl, hc⟩ := h2
      obtain ⟨q1, vs, t, q2, q3, q4⟩ := this
      exact ⟨q1, vs, t, q2, hc.sim hp q3, q4⟩
    | arr t sz c =>
      obtain ⟨c', rfl, hc⟩ := h2
      obtain ⟨q1, q2, xs, q3, q4, q5⟩ := this
      exact ⟨q1, hc.rows q2, xs, by rw [hc.length]; exact q3, hc.flatten.sim hp q4, q5⟩
    | tip t n => simp only [Ent.wkq] at h2; subst h2; exact this
    | gone => simp only [Ent.wkq] at h2; subst h2; trivial
    | map c es =>
      obtain ⟨es', rfl, hc⟩ := h2
      obtain ⟨q1, q2, l, q3, q4⟩ := this
      exact ⟨q1, hc.born q2, l, q3, hc.sim hp q4⟩
    | iter m s l => simp only [Ent.wkq] at h2; subst h2; exact this
  · have bk : ∀ {i : Nat} {e e' : Ent} {b : Nat}, e.wkp p e' → blkOf g i e' = some b → blkOf g i e = some b := by
      intro i e e' b h hb
      rcases h with rfl | h
      · cases hb
      cases e with
      | box c => obtain ⟨c', rfl, _⟩ := h; exact hb
      | arr t sz c => obtain ⟨c', rfl, _⟩ := h; exact hb
      | tip t n => simp only [Ent.wkq] at h; subst h; exact hb
      | gone => simp only [Ent.wkq] at h; subst h; exact hb
      | map c es => obtain ⟨es', rfl, _⟩ := h; exact hb
      | iter m s l => simp only [Ent.wkq] at h; subst h; exact hb
    obtain ⟨e1, i1, i2⟩ := k.get hi
    obtain ⟨e2, j1, j2⟩ := k.get hj
    exact h.one i j e1 e2 b i1 j1 (bk i2 h1) (bk j2 h2)

abbrev wk := wkp NoTok
abbrev wkL := wkLp NoTok
abbrev wkR := wkRp NoTok
abbrev wkSt := wkStp NoTok
theorem SimSt.wk {g : G} {w : World} {s s' : St} (h : SimSt T g s w) (k : wkSt s s') : SimSt T g s' w := h.wkp (nil0_no g) k

/-- What is given is no longer than what an int holds. -/
def VEnd.fit : VEnd → Prop
  | .ret v => v.fit
  | .panic v => v.fit
theorem VCalls.monoF {f : FuncId} {args : List V} {st : St} {Q Q' : VEnd → St → Prop} (h : VCalls P T f args st Q) (hq : ∀ r st, r.fit → Q r st → Q' r st) : VCalls P T f args st Q' :=
  ⟨h.1, fun g w vals h1 h2 => (h.2 g w vals h1 h2).mono fun _ _ ⟨r, st', g', k1, k2, k3⟩ => ⟨r, st', g', hq _ _ (by
    cases r with
    | ret v => obtain ⟨val, _, hv⟩ := k2; exact hv.fit
    | panic v => obtain ⟨val, _, hv⟩ := k2; exact hv.fit) k1, k2, k3⟩⟩
theorem VCalls.args {f : FuncId} {args args' : List V} {st : St} {Q : VEnd → St → Prop} (h : VCalls P T f args' st Q) (hw : wkL args args') : VCalls P T f args st Q :=
  ⟨h.1, fun g w vals h1 h2 => h.2 g w vals h1 (hw.sim (nil0_no g) h2)⟩
end
end Go.Proofs.YtcdnooalfkbmgaaDoor.Gw

namespace Go.Proofs.YtcdnooalfkbmgaaDoor.Gw
open Go
set_option linter.unusedSimpArgs false

section
variable {P : Program} {T : Nat → TI} {an : Nat → Nat} {L : List Nat} {ds : List Deferred}

theorem SimEnv.loc {g : G} {w : World} {env : Env} {a : Act} (h : SimEnv g w env a) (hl : EnvOK L env) : SimEnv g w { env with l := [] } a :=
  ⟨h.1, fun t c v hv => h.2 t c v (hl t _ (by simpa [Env.look, find] using hv)).2⟩
theorem EnvOK.loc {env : Env} (hl : EnvOK L env) : EnvOK L { env with l := [] } :=
  fun t x hx => ⟨(hl t x hx).1, by simp only [Env.look, find]; exact hx⟩

theorem vCode_sound (hT : Tab P T) : ∀ (c : Code) (env : Env) (st : St) (Q : VExit → Env → St → Prop), vCode P T an L ds c env st Q → VC P T L ds c env st Q := by
  intro c
  induction c with
  | skip => intro env st Q h g w a h1 h2 h3 h4; exact wp_skip ⟨.normal, env, st, g, h, rfl, h2, h3, h4, h1, Ext.refl _ _⟩
  | region id ops draw =>
    intro env st Q h
    cases draw with
    | true => exact h
    | false =>
      intro g w a h1 h2 h3 h4
      exact wp_region_list (vOps_sound hT ops.toList _ st g w a (Ext.refl _ _) h1 (h2.loc h3) h3.loc h4 h)
  | seq x y ihx ihy =>
    intro env st Q h g w a h1 h2 h3 h4
    refine wp_seq (wp_mono (ihx env st _ h g w a h1 h2 h3 h4) ?_)
    intro e a' w' ⟨ve, env', st', g', k1, k2, k3, k4, k5, k6, k7⟩
    cases ve with
    | normal =>
      simp only [SimExit] at k2; subst k2
      exact wp_mono (ihy env' st' Q k1 g' w' a' k6 k3 k4 k5) fun _ _ _ hq => hq.ext k7
    | exit id => simp only [SimExit] at k2; subst k2; exact ⟨.exit id, env', st', g', k1, rfl, k3, k4, k5, k6, k7⟩
    | ret => simp only [SimExit] at k2; subst k2; exact ⟨.ret, env', st', g', k1, rfl, k3, k4, k5, k6, k7⟩
    | panic v => have k2' := k2; obtain ⟨val, rfl, _⟩ := k2; exact ⟨.panic v, env', st', g', k1, k2', k3, k4, k5, k6, k7⟩
  | cond c x y ihx ihy =>
    intro env st Q h g w a h1 h2 h3 h4
    simp only [vCode] at h
    unfold bindO at h
    split at h
    case h_2 => exact h.elim
    rename_i r hr
    split at h
    case h_2 => exact h.elim
    rename_i t
    have hc := evO_sim h2 hr
    simp only [if_true, SimV] at hc
    obtain ⟨s1, s2⟩ := h
    refine wp_cond_split hc (fun ht => ihx env st Q (s1 ht) g w a h1 h2 h3 h4) (fun ht => ihy env st Q (s2 ht) g w a h1 h2 h3 h4)
  | block id c ih =>
    intro env st Q h g w a h1 h2 h3 h4
    refine wp_block (wp_mono (ih env st _ h g w a h1 h2 h3 h4) ?_)
    intro e a' w' ⟨ve, env', st', g', k1, k2, k3⟩
    cases ve with
    | normal => simp only [SimExit] at k2; subst k2; exact ⟨.normal, env', st', g', k1, rfl, k3⟩
    | exit i =>
      simp only [SimExit] at k2; subst k2
      simp only [vBlock] at k1
      simp only [Exit.inBlock]
      split
      · rename_i e; rw [if_pos e] at k1; exact ⟨.normal, env', st', g', k1, rfl, k3⟩
      · rename_i e; rw [if_neg e] at k1; exact ⟨.exit i, env', st', g', k1, rfl, k3⟩
    | ret => simp only [SimExit] at k2; subst k2; exact ⟨.ret, env', st', g', k1, rfl, k3⟩
    | panic v => have k2' := k2; obtain ⟨val, rfl, _⟩ := k2; exact ⟨.panic v, env', st', g', k1, k2', k3⟩
  | exit id => intro env st Q h g w a h1 h2 h3 h4; exact wp_exit ⟨.exit id, env, st, g, h, rfl, h2, h3, h4, h1, Ext.refl _ _⟩
  | ret => intro env st Q h g w a h1 h2 h3 h4; exact wp_ret ⟨.ret, env, st, g, h, rfl, h2, h3, h4, h1, Ext.refl _ _⟩
  | loop c ih => intro env st Q h; exact h
  | rangeFunc f p x y ihx ihy => intro env st Q h; exact h
  | scope c ih => intro env st Q h; exact h
  | label l => intro env st Q h; exact h
  | goto l => intro env st Q h; exact h
  | refuse s => intro env st Q h; exact h

/-- What is kept of an environment. -/
def Env.keep (e : Env) : List Nat → List (Nat × Bool × V)
  | [] => []
  | t :: ts => match e.look t with
    | some x => (t, x) :: e.keep ts
    | none => e.keep ts

theorem find_keep (e : Env) : ∀ (ts : List Nat) (t : Nat) (x : Bool × V), find (e.keep ts) t = some x → e.look t = some x ∧ memN ts t = true
  | [], t, x, h => by simp [Env.keep, find] at h
  | u :: ts, t, x, h => by
    simp only [Env.keep] at h
    split at h
    · rename_i y hy
      simp only [find] at h
      split at h
      · rename_i hu; subst hu; cases h; exact ⟨hy, by simp [memN]⟩
      · rename_i hu
        obtain ⟨h1, h2⟩ := find_keep e ts t x h
        exact ⟨h1, by simp [memN, hu, h2]⟩
    · obtain ⟨h1, h2⟩ := find_keep e ts t x h
      exact ⟨h1, by simp only [memN]; split <;> simp [h2]⟩

def subN (ks L : List Nat) : Bool := ks.all (memN L)

theorem memN_mem : ∀ {ks : List Nat} {t : Nat}, memN ks t = true → t ∈ ks
  | [], t, h => by simp [memN] at h
  | k :: ks, t, h => by
    simp only [memN] at h
    split at h
    · rename_i e; simp [e]
    · exact List.mem_cons_of_mem _ (memN_mem h)

theorem SimEnv.keep {g : G} {w : World} {env : Env} {a : Act} (h : SimEnv g w env a) (ks : List Nat) : SimEnv g w ⟨env.N, env.keep ks, []⟩ a :=
  ⟨h.1, fun t c v hv => h.2 t c v (find_keep env ks t _ (by simpa [Env.look, find] using hv)).1⟩
theorem EnvOK.keep {ks : List Nat} (hs : subN ks L = true) (env : Env) : EnvOK L ⟨env.N, env.keep ks, []⟩ := by
  intro t x hx
  obtain ⟨h1, h2⟩ := find_keep env ks t x hx
  refine ⟨?_, by simpa [Env.look, find] using hx⟩
  simp only [subN, List.all_eq_true] at hs
  exact hs t (memN_mem h2)

/-- Of an environment less may be told. -/
theorem VC.keep (ks : List Nat) (hs : subN ks L = true) {c : Code} {env : Env} {st : St} {Q : VExit → Env → St → Prop} (h : VC P T L ds c ⟨env.N, env.keep ks, []⟩ st Q) : VC P T L ds c env st Q :=
  fun g w a h1 h2 _ h4 => h g w a h1 (h2.keep ks) (EnvOK.keep hs env) h4

/-- A loop: what holds at each round's head, of what is kept; a number that each round lowers. -/
theorem VC.loop (ks : List Nat) (hs : subN ks L = true) {c : Code} {env : Env} {st : St} {Q : VExit → Env → St → Prop} (I : Nat → Env → St → Prop) (k : Nat) (h0 : I k ⟨env.N, env.keep ks, []⟩ st)
    (step : ∀ k env st, I k env st → VC P T L ds c env st (vSeq (fun env' st' => ∃ k', k' < k ∧ I k' ⟨env'.N, env'.keep ks, []⟩ st') Q)) : VC P T L ds (.loop c) env st Q := by
  intro g w a h1 h2 h3 h4
  refine wp_loop_ghost (fun k a' w' => ∃ env' st' g', I k env' st' ∧ SimSt T g' st' w' ∧ SimEnv g' w' env' a' ∧ EnvOK L env' ∧ a'.defers = ds ∧ Ext g w g' w') k ⟨_, st, g, h0, h1, h2.keep ks, EnvOK.keep hs env, h4, Ext.refl _ _⟩ ?_
  intro n a' w' ⟨env', st', g', i1, i2, i3, i4, i5, i6⟩
  refine wp_mono (step n env' st' i1 g' w' a' i2 i3 i4 i5) ?_
  intro e a2 w2 ⟨ve, env2, st2, g2, k1, k2, k3, k4, k5, k6, k7⟩
  cases ve with
  | normal =>
    simp only [SimExit] at k2; subst k2
    obtain ⟨k', hk, hI⟩ := k1
    exact ⟨k', hk, _, st2, g2, hI, k6, k3.keep ks, EnvOK.keep hs env2, k5, i6.trans k7⟩
  | exit id => simp only [SimExit] at k2; subst k2; exact ⟨.exit id, env2, st2, g2, k1, rfl, k3, k4, k5, k6, i6.trans k7⟩
  | ret => simp only [SimExit] at k2; subst k2; exact ⟨.ret, env2, st2, g2, k1, rfl, k3, k4, k5, k6, i6.trans k7⟩
  | panic v => have k2' := k2; obtain ⟨val, rfl, _⟩ := k2; exact ⟨.panic v, env2, st2, g2, k1, k2', k3, k4, k5, k6, i6.trans k7⟩

-- functions

def resOne (T : Nat → TI) (env : Env) (st : St) : ResultVar → Option (V × Prop)
  | .tmp t => match env.look t with
    | some (c, v) => some (v, c = true)
    | none => none
  | .cell a t => match env.look a with
    | some (c, .ptr o n) => match st[o]? with
      | some (.box l) => if (T t).known then (loadV (T t) (l.drop n)).map fun r => (r.1, c = true ∧ r.2) else none
      | _ => none
    | some (c, .ref l) => if (T t).known then (loadV (T t) l).map fun r => (r.1, c = true ∧ r.2) else none
    | _ => none

def resV (T : Nat → TI) (env : Env) (st : St) : List ResultVar → Option (List V × Prop)
  | [] => some ([], True)
  | r :: rs => match resOne T env st r, resV T env st rs with
    | some (v, p), some (vs, q) => some (v :: vs, p ∧ q)
    | _, _ => none

def tupV : List V → V
  | [v] => v
  | l => .tup l

def vRet (T : Nat → TI) (rs : List ResultVar) (Q : VEnd → St → Prop) : VExit → Env → St → Prop
  | .normal, env, st => bindO (resV T env st rs) fun r => r.2 ∧ Q (.ret (tupV r.1)) st
  | .ret, env, st => bindO (resV T env st rs) fun r => r.2 ∧ Q (.ret (tupV r.1)) st
  | .panic v, _, st => Q (.panic v) st
  | .exit _, _, _ => False

theorem vRet_normal (rs : List ResultVar) (Q : VEnd → St → Prop) (env : Env) (st : St) : vRet T rs Q .normal env st = bindO (resV T env st rs) fun r => r.2 ∧ Q (.ret (tupV r.1)) st := rfl
theorem vRet_ret (rs : List ResultVar) (Q : VEnd → St → Prop) (env : Env) (st : St) : vRet T rs Q .ret env st = bindO (resV T env st rs) fun r => r.2 ∧ Q (.ret (tupV r.1)) st := rfl
theorem vRet_panic (rs : List ResultVar) (Q : VEnd → St → Prop) (env : Env) (st : St) (v : V) : vRet T rs Q (.panic v) env st = Q (.panic v) st := rfl

def resSem (tmps : Array Value) : ResultVar → Sem Value
  | .tmp t => pure (tmps.getD t undef)
  | .cell a t => do loadVar t (← asAddr (tmps.getD a undef))

theorem results_eq (fn : Func) (tmps : Array Value) : results fn tmps = (do let vs ← fn.results.mapM (resSem tmps); pure (if h : vs.size = 1 then vs[0] else .tuple vs)) := by
  unfold results
  congr 1

theorem resOne_sound (hT : Tab P T) {g : G} {w : World} {env : Env} {st : St} {a : Act} (h1 : SimSt T g st w) (h2 : SimEnv g w env a) {r : ResultVar} {v : V} {side : Prop} (h : resOne T env st r = some (v, side)) (hs : side) :
    ∃ val, (resSem a.tmps r).run P w = .ok val w ∧ SimV g w v val := by
  cases r with
  | tmp t =>
    simp only [resOne] at h
    split at h
    case h_2 => simp at h
    rename_i c v' hl
    simp only [Option.some.injEq, Prod.mk.injEq] at h
    obtain ⟨rfl, rfl⟩ := h
    have := h2.2 t c _ hl
    rw [if_pos hs] at this
    exact ⟨_, rfl, this⟩
  | cell x t =>
    simp only [resOne] at h
    split at h
    · rename_i c o n hl
      split at h
      case h_2 => simp at h
      rename_i l ho
      split at h
      case isFalse => simp at h
      rename_i hk
      cases hld : loadV (T t) (l.drop n) with
      | none => simp [hld] at h
      | some r =>
        simp only [hld, Option.map_some, Option.some.injEq, Prod.mk.injEq] at h
        obtain ⟨rfl, rfl⟩ := h
        have hx := h2.2 x c _ hl
        rw [if_pos hs.1] at hx
        simp only [SimV] at hx
        obtain ⟨q1, vs, t', q2, q3, q4⟩ := h1.ent o _ ho
        have e : ∀ j u, (vs.drop n)[j]? = some u → w.cell? ((Addr.mk (g.pb o) n none).add j) = some u := by
          intro j u hj
          rw [Addr.add_eq rfl]
          simp only [World.cell?, q2]
          rw [List.getElem?_drop] at hj
          simpa using hj
        obtain ⟨val, r1, r2⟩ := load_cells hT (known_kind hk) (q3.drop n) (fun u hu => q4 u (List.mem_of_mem_drop hu)) e hld hs.2
        exact ⟨val, by simp [resSem, hx.2, asAddr, r1], r2⟩
    · rename_i c l hl
      split at h
      case isFalse => simp at h
      rename_i hk
      cases hld : loadV (T t) l with
      | none => simp [hld] at h
      | some r =>
        simp only [hld, Option.map_some, Option.some.injEq, Prod.mk.injEq] at h
        obtain ⟨rfl, rfl⟩ := h
        have hx := h2.2 x c _ hl
        rw [if_pos hs.1] at hx
        simp only [SimV] at hx
        obtain ⟨ad, k1, k2, k3⟩ := hx
        obtain ⟨val, r1, r2⟩ := load_sealed hT (known_kind hk) k2 k3 hld hs.2
        exact ⟨val, by simp [resSem, k1, asAddr, r1], r2⟩
    · simp at h

theorem resV_sound (hT : Tab P T) {g : G} {w : World} {env : Env} {st : St} {a : Act} (h1 : SimSt T g st w) (h2 : SimEnv g w env a) : ∀ {rs : List ResultVar} {vs : List V} {side : Prop}, resV T env st rs = some (vs, side) → side →
    ∃ vals : List Value, (rs.mapM (resSem a.tmps)).run P w = Result.ok vals w ∧ SimVs g w vs vals
  | [], vs, side, h, hs => by
    simp only [resV, Option.some.injEq, Prod.mk.injEq] at h
    obtain ⟨rfl, rfl⟩ := h
    exact ⟨[], rfl, by simp [SimVs]⟩
  | r :: rs, vs, side, h, hs => by
    simp only [resV] at h
    split at h
    case h_2 => simp at h
    rename_i v p vs' q e1 e2
    simp only [Option.some.injEq, Prod.mk.injEq] at h
    obtain ⟨rfl, rfl⟩ := h
    obtain ⟨val, k1, k2⟩ := resOne_sound hT h1 h2 e1 hs.1
    obtain ⟨vals, k3, k4⟩ := resV_sound hT h1 h2 e2 hs.2
    refine ⟨val :: vals, ?_, by simp only [SimVs]; exact ⟨val, vals, rfl, k2, k4⟩⟩
    rw [List.mapM_cons]
    simp only [Sem.run_bind, k1, k3, Result.andThen_ok, Sem.run_pure]

def initG : Nat → List V → List (Nat × Bool × V)
  | _, [] => []
  | k, v :: vs => (k, true, v) :: initG (k + 1) vs

theorem find_initG : ∀ (k : Nat) (vs : List V) (t : Nat) (x : Bool × V), find (initG k vs) t = some x → k ≤ t ∧ ∃ v, vs[t - k]? = some v ∧ x = (true, v)
  | k, [], t, x, h => by simp [initG, find] at h
  | k, v :: vs, t, x, h => by
    simp only [initG, find] at h
    split at h
    · rename_i e; subst e; cases h; exact ⟨Nat.le_refl _, v, by simp, rfl⟩
    · obtain ⟨h1, u, h2, h3⟩ := find_initG (k + 1) vs t x h
      refine ⟨by omega, u, ?_, h3⟩
      rw [show t - k = (t - (k + 1)) + 1 by omega]; simpa using h2

/-- A function, by its body's condition. -/
theorem vcalls (hT : Tab P T) {f : FuncId} {fn : Func} {c : Code} (hf : P.funcs[f]? = some fn) (hb : fn.body = some c) (hnm : (fn.name == "runtime.NumGoroutine") = false) {rs : List ResultVar} (hrs : fn.results.toList = rs) {N : Nat} (hN : fn.ntmps = N)
    {args : List V} (hl : args.length ≤ N) (hL : (List.range args.length).all (memN L) = true) {st : St} {Q : VEnd → St → Prop} (h : St.ok st → ltL st.length args → fitL args → vCode P T an L [] c ⟨N, initG 0 args, []⟩ st (vRet T rs Q)) : VCalls P T f args st Q := by
  refine ⟨⟨fn, hf, by rw [hb]; rfl, hnm⟩, fun g w vals h1 h2 => calls_of_wp hf hb ?_⟩
  have hvl := h2.length
  have henv : SimEnv g w ⟨N, initG 0 args, []⟩ { tmps := vals.toArray ++ Array.replicate (fn.ntmps - vals.toArray.size) undef, defers := [] } := by
    refine ⟨by simp [hN]; omega, fun t c v hv => ?_⟩
    simp only [Env.look, find] at hv
    obtain ⟨_, u, hu, hx⟩ := find_initG 0 args t _ hv
    cases hx
    obtain ⟨z, hz, hs⟩ := h2.get t (by simpa using hu)
    simp only [if_true]
    have : (vals.toArray ++ Array.replicate (fn.ntmps - vals.toArray.size) undef).getD t undef = z := by
      obtain ⟨htl, hz'⟩ := List.getElem?_eq_some_iff.1 hz
      simp [Array.getD_eq_getD_getElem?, Array.getElem?_append, htl, hz']
    rw [this]; exact hs
  have hok : EnvOK L ⟨N, initG 0 args, []⟩ := by
    intro t x hx
    obtain ⟨_, u, hu, hx'⟩ := find_initG 0 args t x hx
    have htl := (List.getElem?_eq_some_iff.1 hu).1
    simp only [List.all_eq_true] at hL
    exact ⟨hL t (by simpa using htl), by simpa [Env.look, find] using hx⟩
  refine wp_mono (vCode_sound hT c _ st _ (h h1.okSt (by rw [← h1.n]; exact h2.lt) h2.fit) g w _ h1 henv hok rfl) ?_
  intro e a' w' ⟨ve, env', st', g', k1, k2, k3, k4, k5, k6, k7⟩
  have done : (bindO (resV T env' st' rs) fun r => r.2 ∧ Q (.ret (tupV r.1)) st') → a'.defers = [] ∧ ∃ v, (results fn a'.tmps).run P w' = .ok v w' ∧ (∃ r st' g', Q r st' ∧ SimEnd g' w' r (.returned v) ∧ SimSt T g' st' w' ∧ Ext g w g' w') := by
    intro hr
    unfold bindO at hr
    split at hr
    case h_2 => exact hr.elim
    rename_i r hres
    obtain ⟨vs, side⟩ := r
    obtain ⟨hs, hq⟩ := hr
    obtain ⟨vals', m1, m2⟩ := resV_sound hT k6 k3 hres hs
    have hrun : (results fn a'.tmps).run P w' = .ok (if h : vals'.toArray.size = 1 then vals'.toArray[0] else .tuple vals'.toArray) w' := by
      rw [results_eq, Array.mapM_eq_mapM_toList, hrs]
      simp only [Sem.run_bind, Sem.run_map, m1, Result.andThen_ok, Sem.run_pure]
    refine ⟨k5, _, hrun, .ret (tupV vs), st', g', hq, ⟨_, rfl, ?_⟩, k6, k7⟩
    have hlen := m2.length
    match vs, m2, hlen with
    | [], m2, hlen =>
      have : vals' = [] := by simpa using hlen
      subst this
      simp only [tupV, SimV]; exact ⟨[], by simp, m2⟩
    | [v], m2, hlen =>
      simp only [SimVs] at m2
      obtain ⟨u, r, rfl, m3, rfl⟩ := m2
      simpa [tupV] using m3
    | v :: v2 :: vs, m2, hlen =>
      have hne : ¬ vals'.toArray.size = 1 := by simp [hlen]
      simp only [hne, dite_false, tupV, SimV]
      exact ⟨vals', rfl, m2⟩
  cases ve with
  | normal => simp only [SimExit] at k2; subst k2; exact done k1
  | ret => simp only [SimExit] at k2; subst k2; exact done k1
  | exit id => exact k1.elim
  | panic v =>
    obtain ⟨val, rfl, hv⟩ := k2
    exact ⟨k5, .panic v, st', g', k1, ⟨val, rfl, hv⟩, k6, k7⟩

/-- What a call comes to, where what it made for itself is forgotten. -/
def Gives (X : V) (st' : St) (r : VEnd) (s : St) : Prop := ∃ ex v su, s = su ++ ex ∧ wkSt su st' ∧ r = .ret v ∧ wk v X ∧ X.lt st'.length ∧ St.ok st'

theorem VCalls.give {f : FuncId} {args : List V} {st st' : St} {X : V} (h : VCalls P T f args st (Gives X st')) (hn : st.length ≤ st'.length) : VCalls P T f args st fun r s => r = .ret X ∧ s = st' :=
  ⟨h.1, fun g w vals h1 h2 => (h.2 g w vals h1 h2).mono fun e w' ⟨r, s, g', ⟨ex, v, su, e1, e0, e2, e3, e4, e5⟩, k2, k3, k4⟩ => by
    subst e1; subst e2
    have k3 := k3.wk (e0.append (wkSt_refl ex))
    obtain ⟨val, rfl, hv⟩ := k2
    exact ⟨.ret X, st', g'.cut st'.length, ⟨rfl, rfl⟩, ⟨val, rfl, (e3.sim (nil0_no g') hv).cut e4⟩, k3.drop e5, k4.cut (by rw [h1.n]; exact hn)⟩⟩
end
end Go.Proofs.YtcdnooalfkbmgaaDoor.Gw

namespace Go.Proofs.YtcdnooalfkbmgaaDoor.Gw
open Go

def condV : V → Prop → Prop → Prop
  | .bool t, A, B => Split t A B
  | _, _, _ => False
@[congr] theorem condV_congr {v v' : V} {A B : Prop} (h : v = v') : condV v A B = condV v' A B := by rw [h]

def lookT (gc : Bool) (t : Nat) : List (Nat × Bool × V) → List (Nat × Bool × V) → V
  | [], g => match find g t with | some x => bif (!gc || x.1) then x.2 else .junk | none => .junk
  | (k, x) :: l, g => if k = t then (bif (!gc || x.1) then x.2 else .junk) else lookT gc t l g

def lookG (gc : Bool) (t : Nat) : List (Nat × Bool × V) → V
  | [] => .junk
  | (k, x) :: g => if k = t then (bif (!gc || x.1) then x.2 else .junk) else lookG gc t g

def gbit (want c : Bool) : V → Option Bool
  | .bool b => some (c && (bif want then b else !b))
  | _ => none
def dstL : List Oper → Nat → Option Tmp
  | [], _ => none
  | o :: _, 0 => o.dst
  | _ :: os, k + 1 => dstL os k
def guardG (d : Nat) (w : Bool) : List (Nat × Bool × V) → Option Bool
  | [] => none
  | (k, x) :: g => if k = d then gbit w x.1 x.2 else guardG d w g
def guardL (d : Option Tmp) (w : Bool) : List (Nat × Bool × V) → List (Nat × Bool × V) → Option Bool
  | [], g => match d with | some d => guardG d w g | none => none
  | (k, x) :: l, g => match d with | some d => if k = d then gbit w x.1 x.2 else guardL (some d) w l g | none => none

section
variable (T : Nat → TI) (an : Nat → Nat) (dst : Option Tmp) (gc : Bool) (env : Env) (st : St)

theorem evG_tmp (t : Nat) (N : Nat) (g l : List (Nat × Bool × V)) : evG ⟨N, g, l⟩ gc (.tmp t) = match find l t with
    | some x => bif (!gc || x.1) then x.2 else .junk
    | none => match find g t with | some x => bif (!gc || x.1) then x.2 else .junk | none => .junk := by
  simp only [evG, evO, Env.look]
  cases find l t with
  | some x => rfl
  | none => cases find g t <;> rfl

theorem evG_look (t : Nat) (N : Nat) (g l : List (Nat × Bool × V)) : evG ⟨N, g, l⟩ gc (.tmp t) = lookT gc t l g := by
  rw [evG_tmp]
  induction l with
  | nil => rfl
  | cons y l ih =>
    obtain ⟨k, x⟩ := y
    by_cases h : k = t
    · simp only [find, lookT, if_pos h]
    · simp only [find, lookT, if_neg h]; exact ih

theorem lookT_nil (t : Nat) (g : List (Nat × Bool × V)) : lookT gc t [] g = lookG gc t g := by
  simp only [lookT]
  induction g with
  | nil => rfl
  | cons y g ih =>
    obtain ⟨k, x⟩ := y
    by_cases h : k = t
    · simp only [find, lookG, if_pos h]
    · simp only [find, lookG, if_neg h]; exact ih

theorem lookT_cons (t k : Nat) (c : Bool) (v : V) (l g : List (Nat × Bool × V)) : lookT gc t ((k, c, v) :: l) g = if k = t then (bif (!gc || c) then v else .junk) else lookT gc t l g := rfl
theorem lookG_cons (t k : Nat) (c : Bool) (v : V) (g : List (Nat × Bool × V)) : lookG gc t ((k, c, v) :: g) = if k = t then (bif (!gc || c) then v else .junk) else lookG gc t g := rfl
theorem evG_const (v : Value) : evG env gc (.const v) = V.ofConst v := by simp [evG, evO]
theorem evG_func (f : FuncId) : evG env gc (.func f) = .fn (.func f) [] := by simp [evG, evO]
theorem ofC1_str (s : List UInt8) : V.ofC1 (.string ⟨s.toArray⟩) = if s.length ≤ 1000000 then some (.str s) else none := by simp [V.ofC1]
theorem ofConst_agg (l : List Value) : V.ofConst (.agg l.toArray) = aggR (V.ofCs l) := by simp [V.ofConst]
theorem ofConst_str (s : List UInt8) : V.ofConst (.string ⟨s.toArray⟩) = if s.length ≤ 1000000 then .str s else .junk := by simp [V.ofConst]

theorem evO_look (t : Nat) (N : Nat) (g l : List (Nat × Bool × V)) {A B : Prop} : (bindO (evO ⟨N, g, l⟩ (.tmp t)) fun r => match r with | (true, .bool b) => Split b A B | _ => False) = condV (lookT true t l g) A B := by
  rw [← evG_look true t N g l]
  simp only [evG]
  cases evO ⟨N, g, l⟩ (.tmp t) with
  | none => rfl
  | some r =>
    obtain ⟨c, v⟩ := r
    cases c with
    | true => cases v <;> rfl
    | false => rfl

theorem cond_eq (P : Program) (T : Nat → TI) (an : Nat → Nat) (L : List Nat) (ds : List Deferred) (N : Nat) (g l : List (Nat × Bool × V)) (st : St) (Q : VExit → Env → St → Prop) (t : Nat) (x y : Code) :
    vCode P T an L ds (.cond (.tmp t) x y) ⟨N, g, l⟩ st Q = condV (lookT true t l g) (vCode P T an L ds x ⟨N, g, l⟩ st Q) (vCode P T an L ds y ⟨N, g, l⟩ st Q) := evO_look t N g l

theorem guardG_eq (d : Nat) (w : Bool) (g : List (Nat × Bool × V)) : guardG d w g = match find g d with | some (c, .bool b) => some (c && (bif w then b else !b)) | _ => none := by
  induction g with
  | nil => rfl
  | cons y g ih =>
    obtain ⟨k, c, v⟩ := y
    by_cases h : k = d
    · simp only [guardG, find, if_pos h] <;> (cases v <;> rfl)
    · simp only [guardG, find, if_neg h]; exact ih

theorem guard_eq (all : List Oper) (N : Nat) (g l : List (Nat × Bool × V)) (j : Nat) (w : Bool) : guardV all.toArray ⟨N, g, l⟩ (some (j, w)) = guardL (dstL all j) w l g := by
  have e : dstAt all.toArray j = dstL all j := by
    simp only [dstAt, List.getElem?_toArray]
    induction all generalizing j with
    | nil => rfl
    | cons o os ih => cases j with | zero => rfl | succ j => simpa [dstL] using ih j
  simp only [guardV, e]
  cases dstL all j with
  | none => cases l <;> rfl
  | some d =>
    simp only [Env.look]
    induction l with
    | nil => simp only [find, guardL, guardG_eq] <;> rfl
    | cons y l ih =>
      obtain ⟨k, c, v⟩ := y
      by_cases h : k = d
      · simp only [guardL, find, if_pos h] <;> (cases v <;> rfl)
      · simp only [guardL, find, if_neg h]; exact ih
theorem guardL_cons (w : Bool) (d : Nat) (k : Nat) (c : Bool) (v : V) (l g : List (Nat × Bool × V)) : guardL (some d) w ((k, c, v) :: l) g = if k = d then gbit w c v else guardL (some d) w l g := rfl
theorem guardG_cons (w : Bool) (d : Nat) (k : Nat) (c : Bool) (v : V) (g : List (Nat × Bool × V)) : guardG d w ((k, c, v) :: g) = if k = d then gbit w c v else guardG d w g := rfl

def pureR (r : Option (V × Prop)) (m : Step) : Step := match r with | some (v, side) => .pure v side | none => m
@[congr] theorem pureR_congr {r r' : Option (V × Prop)} {m : Step} (h : r = r') : pureR r m = pureR r' m := by rw [h]

def nilV : V → Step
  | .ref l => .pure (.ref l) True
  | .ptr o f => .pure (.ptr o f) True
  | .eptr e n sz k f => .pure (.eptr e n sz k f) True
  | .fn f c => .pure (.fn f c) (∀ n, f ≠ .method n)
  | .iface t v => .pure (.iface t v) True
  | _ => .fail
theorem step_nilCheck (x : Operand) : stepOp T an dst (.nilCheck x) gc env st = nilV (evG env gc x) := by
  simp only [stepOp, pureStep, pureOp, memStep, memOp, moreOp]
  cases evG env gc x <;> rfl

def notV : V → Step
  | .bool b => .pure (.bool (!b)) True
  | _ => .fail
theorem step_not (t : TypeId) (x : Operand) : stepOp T an dst (.unOp .not t x) gc env st = notV (evG env gc x) := by
  simp only [stepOp, pureStep, pureOp, memStep, memOp, moreOp]
  cases evG env gc x <;> rfl
def negV : V → Step
  | .int k n => .pure (.int k (k.wrap (0 - n))) True
  | _ => .fail
theorem step_neg (t : TypeId) (x : Operand) : stepOp T an dst (.unOp .neg t x) gc env st = negV (evG env gc x) := by
  simp only [stepOp, pureStep, pureOp, memStep, memOp, moreOp]
  cases evG env gc x <;> rfl

def fieldW (T : Nat → TI) (f : Option (Nat × TypeId)) (x : V) : Option (V × Prop) := match f with
      | some (off, ft) => if (T ft).sized = false then none else match x with
        | .ref l => some (.ref (l.drop off), True)
        | .ptr o n => some (.ptr o (n + off), True)
        | .eptr e n sz k f => some (.eptr e n sz k (f + off), True)
        | _ => none
      | none => none
def fieldV (T : Nat → TI) (k : TK) (f : Nat) (x : V) : Option (V × Prop) := match k with
    | .struct fs => fieldW T fs[f]? x
    | _ => none
def fldW (T : Nat → TI) (f : Option (Nat × TypeId)) (l : List V) : Option (V × Prop) := match f with
  | some (off, ft) => if (T ft).sized = false then none else loadV (T ft) (l.drop off)
  | none => none
def fldV (T : Nat → TI) (k : TK) (f : Nat) (x : V) : Option (V × Prop) := match k, x with
    | .struct fs, .agg l => fldW T fs[f]? l
    | _, _ => none
theorem step_field (s : TypeId) (x : Operand) (f : Nat) : stepOp T an dst (.field s x f) gc env st = pureR (fldV T (T s).kind f (evG env gc x)) .fail := by
  simp only [stepOp, pureStep, pureOp, memStep, memOp, moreOp, fldV]
  generalize (T s).kind = k
  generalize evG env gc x = v
  cases k <;> try rfl
  rename_i fs
  simp only
  cases v <;> try (cases fs[f]? <;> rfl)
  simp only [fldW]
  cases fs[f]? with
  | none => rfl
  | some p =>
    obtain ⟨off, ft⟩ := p
    simp only
    by_cases h : (T ft).sized = false
    · simp only [if_pos h] <;> rfl
    · simp only [if_neg h, pureR] <;> (generalize loadV _ _ = r; cases r <;> rfl)
def idxB (i : TI) (o n : Nat) (k : Int) (st : St) : Option Ent → Step
  | some (.arr _ sz c) => if i.sized = true ∧ sz = i.size then .mem (.eptr o n sz k.toNat 0) st (n = c.length ∧ 0 ≤ k ∧ k < n) else .fail
  | _ => .fail
def idxS (T : Nat → TI) (k : TK) (x i : V) (st : St) : Step := match k, x, i with
    | .slice e, .lst sz _ l, .int _ n => if (T e).sized = true ∧ sz = (T e).size then .pure (.ref (l.getD n.toNat [])) (0 ≤ n ∧ n < l.length) else .fail
    | .slice e, .arr o n, .int _ k => idxB (T e) o n k st st[o]?
    | _, _, _ => .fail
theorem step_indexAddr (t : TypeId) (x i : Operand) : stepOp T an dst (.indexAddr t x i) gc env st = idxS T (T t).kind (evG env gc x) (evG env gc i) st := by
  simp only [stepOp, pureStep, pureOp, memStep, memOp, moreOp, idxS]
  cases (T t).kind <;> try rfl
  rename_i e
  cases evG env gc x <;> try rfl
  · rename_i sz tk l
    cases evG env gc i <;> try rfl
    rename_i kk n
    simp only
    by_cases h : (T e).sized = true ∧ sz = (T e).size
    · simp only [if_pos h]
    · simp only [if_neg h]
  · rename_i o n
    cases evG env gc i <;> try rfl
    rename_i kk k
    simp only [idxB]
    cases st[o]? with
    | none => rfl
    | some ent =>
      cases ent with
      | arr et sz c =>
        simp only
        by_cases h : (T e).sized = true ∧ sz = (T e).size
        · simp only [if_pos h]
        · simp only [if_neg h]
      | _ => rfl
def convS (r : Option (V × St × Prop)) : Step := match r with | some (v, st, p) => .mem v st p | none => .fail
theorem step_binOp (T : Nat → TI) (an : Nat → Nat) (dst : Option Tmp) (gc : Bool) (env : Env) (st : St) (op : BinOp) (t : TypeId) (x y : Operand) (u : TypeId) : stepOp T an dst (.binOp op t x y u) gc env st = pureR (binV T (T t).kind op (evG env gc x) (evG env gc y)) (convS (nilB st (nilCmp (T t).kind op (nilC y) (evG env gc x) (evG env gc y)) (bitV op (evG env gc x) (evG env gc y)))) := rfl
theorem step_typeAssert (T : Nat → TI) (an : Nat → Nat) (dst : Option Tmp) (gc : Bool) (env : Env) (st : St) (x : Operand) (xt t : TypeId) (ok : Bool) : stepOp T an dst (.typeAssert x xt t ok) gc env st = convS (nilR st (assertV (T t) t ok (evG env gc x))) := rfl
theorem pureR_none (m : Step) : pureR none m = m := rfl
theorem step_convert (src d : TypeId) (x : Operand) : stepOp T an dst (.convert src d x) gc env st = convS (convV T src d (evG env gc x) st) := rfl
def idxV (k : TK) (x i : V) : Option (V × Prop) := match k, x, i with
    | .str, .str s, .int _ n => some (.int .u8 (s.getD n.toNat 0).toNat, 0 ≤ n ∧ n < s.length)
    | _, _, _ => none
def extW : Option V → Step
  | some v => .pure v True
  | none => .fail
def extV (i : Nat) : V → Step
  | .tup l => extW l[i]?
  | _ => .fail
theorem step_extract (x : Operand) (i : Nat) : stepOp T an dst (.extract x i) gc env st = extV i (evG env gc x) := by
  simp only [stepOp, pureStep, pureOp, memStep, memOp, moreOp, extV]
  cases evG env gc x <;> try rfl
  rename_i l
  simp only
  cases l[i]? <;> rfl
def buildV (T : Nat → TI) (i : TI) (parts : List (Nat × V)) : Option (V × Prop) := match i.kind with
    | .struct fs => if (fs.all fun p => (T p.2).known) = false then none else (fillV T fs i.zero parts).map fun l => (.agg l, True)
    | _ => none
theorem step_build (t : TypeId) (parts : List (Nat × Operand)) : stepOp T an dst (.build t parts.toArray) gc env st = pureR (buildV T (T t) (parts.map fun p => (p.1, evG env gc p.2))) .fail := rfl
def mkIface (i : TI) (t : TypeId) (x : V) : Option (V × Prop) := match i.kind with | .iface => none | .other => none | _ => if i.sized = false then none else some (.iface t x, True)
theorem step_makeInterface (t : TypeId) (x : Operand) : stepOp T an dst (.makeInterface t x) gc env st = pureR (mkIface (T t) t (evG env gc x)) .fail := rfl

def loadN (st : St) (n k m : Nat) : Option (V × Prop) → Step
  | some (v, p) => .mem v st (p ∧ n = m ∧ k < n)
  | none => .fail
def loadM (st : St) : Option (V × Prop) → Step
  | some (v, p) => .mem v st p
  | none => .fail
def loadB (i : TI) (n : Nat) (st : St) : Option Ent → Step
  | some (.box c) => if i.known then loadM st (loadV i (c.drop n)) else .fail
  | _ => .fail
def loadE (i : TI) (n sz k off : Nat) (st : St) : Option Ent → Step
  | some (.arr _ sz' c) => if i.known = true ∧ sz' = sz then loadN st n k c.length (loadV i ((c.getD k []).drop off)) else .fail
  | _ => .fail
def loadS (T : Nat → TI) (t : TypeId) (st : St) : V → Step
  | .eptr o n sz k off => loadE (T t) n sz k off st st[o]?
  | .ref l => if (T t).sized = false then .fail else pureR (loadV (T t) l) .fail
  | .ptr o n => loadB (T t) n st st[o]?
  | _ => .fail
theorem loadS_ptr (T : Nat → TI) (t : TypeId) (st : St) (o n : Nat) : loadS T t st (.ptr o n) = loadB (T t) n st st[o]? := rfl
theorem step_load (t : TypeId) (x : Operand) : stepOp T an dst (.load t x) gc env st = loadS T t st (evG env gc x) := by
  simp only [stepOp, pureStep, pureOp, memStep, memOp, moreOp, loadS]
  generalize evG env gc x = v
  cases v with
  | ref l =>
    by_cases h : (T t).sized = false
    · simp only [if_pos h]
    · simp only [if_neg h]
      cases loadV (T t) l <;> rfl
  | ptr o n =>
    simp only [loadB]
    cases st[o]? with
    | none => rfl
    | some e =>
      cases e with
      | box c =>
        simp only
        by_cases h : (T t).known = true
        · simp only [if_pos h]
          cases loadV (T t) (c.drop n) <;> rfl
        · simp only [if_neg h]
      | _ => rfl
  | eptr o n sz k off =>
    simp only [loadE]
    cases st[o]? with
    | none => rfl
    | some e =>
      cases e with
      | arr et sz' c =>
        simp only
        by_cases h : (T t).known = true ∧ sz' = sz
        · simp only [if_pos h]
          cases loadV (T t) ((c.getD k []).drop off) <;> rfl
        · simp only [if_neg h]
      | _ => rfl
  | _ => rfl

def addrS (t k : Nat) (st : St) : List V → Step
  | .nilp :: r => .mem (.ptr st.length 0) (st ++ [.box (.addr st.length t k :: r)]) True
  | _ => .fail
def allocS (t : TypeId) (i : TI) (mode : Nat) (st : St) : Step := if i.known then match mode with
  | 0 => .mem (.ptr st.length 0) (st ++ [.box i.zero]) True
  | 5 => addrS t i.size st i.zero
  | _ => .mem (.ref i.zero) st True
  else .fail
theorem step_alloc (t : TypeId) : stepOp T an dst (.alloc t) gc env st = allocS t (T t) (an (dst.getD 0)) st := by
  simp only [stepOp, pureStep, pureOp, memStep, memOp, moreOp, allocS]
  by_cases h : (T t).known = true
  · simp only [if_pos h]
    match an (dst.getD 0) with
    | 0 | 1 | 2 | 3 | 4 => rfl
    | 5 =>
      simp only []
      generalize (T t).zero = z
      cases z with
      | nil => rfl
      | cons a r => cases a <;> rfl
    | _ + 6 => rfl
  · simp only [if_neg h]
def boxS (t mode : Nat) (x : Option (List V)) (st : St) : Step := match mode, x with
  | 0, some l => .mem (.ptr st.length 0) (st ++ [.box l]) True
  | 5, some l => addrS t (l.length) st l
  | _, some l => .mem (.ref l) st True
  | _, none => .fail
theorem step_box (t : TypeId) (x : Operand) : stepOp T an dst (.box t x) gc env st = boxS t (an (dst.getD 0)) (V.cells (evG env gc x)) st := by
  simp only [stepOp, pureStep, pureOp, memStep, memOp, moreOp]
  cases V.cells (evG env gc x) with
  | none =>
    match an (dst.getD 0) with
    | 0 | 1 | 2 | 3 | 4 | 5 => rfl
    | _ + 6 => rfl
  | some l =>
    match an (dst.getD 0) with
    | 0 | 1 | 2 | 3 | 4 => rfl
    | 5 =>
      cases l with
      | nil => rfl
      | cons a r => cases a <;> rfl
    | _ + 6 => rfl
def storeB (i : TI) (st : St) (o n : Nat) (l : List V) : Option Ent → Step
  | some (.box c) => if i.known ∧ l.length = i.size then .mem .junk (st.set o (.box (c.take n ++ l ++ c.drop (n + l.length)))) (n + l.length ≤ c.length) else .fail
  | _ => .fail
def storeE (i : TI) (st : St) (o n sz k off : Nat) (l : List V) : Option Ent → Step
  | some (.arr e sz' c) => if i.known = true ∧ l.length = i.size ∧ sz' = sz then .mem .junk (st.set o (.arr e sz (c.set k ((c.getD k []).take off ++ l ++ (c.getD k []).drop (off + l.length))))) (n = c.length ∧ k < n ∧ off + l.length ≤ sz) else .fail
  | _ => .fail
def storeS (i : TI) (st : St) (a : V) (x : Option (List V)) : Step := match a, x with
  | .eptr o n sz k off, some l => storeE i st o n sz k off l st[o]?
  | .ptr o n, some l => storeB i st o n l st[o]?
  | _, _ => .fail
theorem step_store (t : TypeId) (a x : Operand) : stepOp T an dst (.store t a x) gc env st = storeS (T t) st (evG env gc a) (V.cells (evG env gc x)) := by
  simp only [stepOp, pureStep, pureOp, memStep, memOp, moreOp, storeS]
  cases evG env gc a <;> try (cases V.cells (evG env gc x) <;> rfl)
  · rename_i o n sz k off
    simp only
    cases hx : V.cells (evG env gc x) with
    | none => cases st[o]? <;> try rfl
              rename_i e; cases e <;> rfl
    | some l =>
      simp only [storeE]
      cases st[o]? with
      | none => rfl
      | some e =>
        cases e with
        | arr et sz' c =>
          simp only
          by_cases h : (T t).known = true ∧ l.length = (T t).size ∧ sz' = sz
          · simp only [if_pos h]
          · simp only [if_neg h]
        | _ => rfl
  · rename_i o n
    simp only
    cases hx : V.cells (evG env gc x) with
    | none => cases st[o]? <;> try rfl
              rename_i e; cases e <;> rfl
    | some l =>
      simp only [storeB]
      cases st[o]? with
      | none => rfl
      | some e =>
        cases e with
        | box c =>
          simp only
          by_cases h : (T t).known = true ∧ l.length = (T t).size
          · simp only [if_pos h]
          · simp only [if_neg h]
        | _ => rfl
def litM (e : TypeId) (sz n : Nat) (mode : Nat) (st : St) : Option (List (List V)) → Step
  | some rows => match mode with
    | 0 => .pure (.lst sz none rows) True
    | 1 => .mem (.lst sz (some st.length) rows) (st ++ [.tip e n]) True
    | _ => .mem (.arr st.length n) (st ++ [.arr e sz rows]) True
  | none => .fail
def litR (i : TI) (n : Nat) (parts : List (Nat × V)) : Option (List (List V)) := litRows i n parts.reverse
def litS (T : Nat → TI) (mode n : Nat) (st : St) (k : TK) (parts : List (Nat × V)) : Step := match k with
  | .slice e => if (T e).sized ∧ n * (T e).size ≤ 16777216 then litM e (T e).size n mode st (litR (T e) n parts) else .fail
  | _ => .fail
theorem step_buildSlice (t : TypeId) (n : Nat) (parts : List (Nat × Operand)) : stepOp T an dst (.buildSlice t n parts.toArray) gc env st = litS T (an (dst.getD 0)) n st (T t).kind (parts.map fun p => (p.1, evG env gc p.2)) := by
  simp only [stepOp, pureStep, pureOp, memStep, memOp, moreOp, litS, litR, List.map_reverse]
  cases (T t).kind <;> try (simp only [toPure, Bool.cond_self])
  rename_i e
  by_cases h : (T e).sized = true ∧ n * (T e).size ≤ 16777216
  · simp only [if_pos h]
    cases litRows (T e) n (parts.map fun p => (p.1, evG env gc p.2)).reverse with
    | none => simp only [Bool.cond_self, litM]
    | some rows =>
      simp only [litM]
      match an (dst.getD 0) with
      | 0 => rfl
      | 1 => rfl
      | _ + 2 => rfl
  · simp only [if_neg h, Bool.cond_self]
def makeS (T : Nat → TI) (st : St) : TK → V → V → Step
  | .slice e, .int _ n, .int _ m => if (T e).sized = true then .mem (.arr st.length n.toNat) (st ++ [.arr e (T e).size (List.replicate n.toNat (T e).zero)]) (n = m ∧ 0 ≤ n ∧ n ≤ 100000000000000 ∧ n * (T e).bytes ≤ 100000000000000) else .fail
  | _, _, _ => .fail
theorem step_makeSlice (t : TypeId) (x y : Operand) : stepOp T an dst (.makeSlice t x y) gc env st = makeS T st (T t).kind (evG env gc x) (evG env gc y) := by
  simp only [stepOp, pureStep, pureOp, memStep, memOp, moreOp]
  cases (T t).kind <;> try rfl
  rename_i e
  cases evG env gc x <;> try rfl
  cases evG env gc y <;> try rfl
  simp only [makeS]
  by_cases h : (T e).sized = true
  · simp only [if_pos h]
  · simp only [if_neg h]
theorem step_next (it : Operand) : stepOp T an dst (.next it false) gc env st = anyS (nextV (evG env gc it) st) := rfl
theorem step_entry (it : Operand) : stepOp T an dst (.entry it) gc env st = convS (entV (evG env gc it) st) := rfl
theorem step_makeMap (t : TypeId) : stepOp T an dst (.makeMap t none) gc env st = convS (makeMapE (T t).kind st) := rfl
theorem step_lookup (t : TypeId) (m x : Operand) (ok : Bool) : stepOp T an dst (.lookup t m x ok) gc env st = convS (mapLook T (T t).kind (evG env gc m) (evG env gc x) ok st) := rfl
theorem step_mapUpdate (t : TypeId) (m x y : Operand) : stepOp T an dst (.mapUpdate t m x y) gc env st = convS (mapPut T (T t).kind (evG env gc m) (evG env gc x) (evG env gc y) st) := rfl
theorem step_insert (t : TypeId) (m x y : Operand) : stepOp T an dst (.insert t m x y) gc env st = convS (mapPut T (T t).kind (evG env gc m) (evG env gc x) (evG env gc y) st) := rfl
theorem step_range (t : TypeId) (m : Operand) : stepOp T an dst (.range t m) gc env st = convS (mapRange (T t).kind (evG env gc m) st) := rfl
def sliS (k : Nat) (a b : Step) : Step := bif k == 3 then b else a
theorem step_slice (t : TypeId) (x : Operand) (lo hi : Option Operand) : stepOp T an dst (.slice t x lo hi none) gc env st = sliS (an (dst.getD 0)) (pureR (sliceV T t (evG env gc x) (lo.map (evG env gc)) (hi.map (evG env gc))) .fail) (sufS (sufE T (T t).kind (evG env gc x) (lo.map (evG env gc)) (hi.map (evG env gc)) st)) := rfl
def callS (f : V) (args : List V) : Step := match f with
  | .fn (.func k) cap => .call k (args ++ cap)
  | _ => .fail
theorem step_call (f : Operand) (args : List Operand) (ts : Array TypeId) : stepOp T an dst (.call ⟨.value f, args.toArray, ts⟩) gc env st = callS (evG env gc f) (args.map (evG env gc)) := by
  simp only [stepOp, callS] <;> (cases evG env gc f <;> rfl)
def memA : Option (V × St × Prop) → Step
  | some (v, st', side) => .mem v st' side
  | none => .fail
def appS (T : Nat → TI) (mode : Nat) (k kx : TK) (s x : V) (st : St) : Step := match k with
  | .slice e => match kx with
    | .slice _ | .str => if (T e).sized ∧ (T e).bytes ≠ 0 then match rowsOf (T e).size x with
        | some m => memA (appendV mode e (T e) s m st)
        | none => .fail else .fail
    | _ => .fail
  | _ => .fail
def builtS (T : Nat → TI) (mode : Nat) (b : Builtin) (args : List V) (ts : List TypeId) (st : St) : Step := match b with
  | .append => match args, ts with
    | [s, x], [t, xt] => appS T mode (T t).kind (T xt).kind s x st
    | _, _ => .fail
  | .len => pureR (builtinV T .len args ts) (convS (mapLen T args ts st))
  | b => pureR (builtinV T b args ts) .fail
theorem step_builtin (b : Builtin) (args : List Operand) (ts : List TypeId) : stepOp T an dst (.call ⟨.builtin b, args.toArray, ts.toArray⟩) gc env st = builtS T (an (dst.getD 0)) b (args.map (evG env gc)) ts st := by
  simp only [stepOp, pureStep, pureOp, memStep, builtS]
  cases b with
  | append =>
    simp only [builtinV, memOp]
    generalize args.map (evG env gc) = vs
    match vs, ts with
    | [], _ => rfl
    | [_], _ => rfl
    | [_, _], [] => rfl
    | [_, _], [_] => rfl
    | [s, x], [t, xt] =>
      simp only [appS]
      cases (T t).kind <;> try (cases (T xt).kind <;> rfl)
      rename_i e
      cases (T xt).kind <;> try rfl
      all_goals
        simp only
        by_cases h : (T e).sized = true ∧ (T e).bytes ≠ 0
        · simp only [if_pos h]
          cases rowsOf (T e).size x with
          | none => rfl
          | some m =>
            simp only
            cases appendV (an (dst.getD 0)) e (T e) s m st <;> rfl
        · simp only [if_neg h] <;> (rfl)
    | [_, _], _ :: _ :: _ :: _ => rfl
    | _ :: _ :: _ :: _, _ => rfl
  | len =>
    simp only [memOp, moreOp]
    generalize builtinV T _ _ _ = r
    cases r with
    | some r => rfl
    | none =>
      simp only [pureR]
      generalize hm : mapLen T _ _ st = q
      have : mapLen T (List.map (evG env gc) args.toArray.toList) ts.toArray.toList st = q := hm
      cases q <;> rfl
  | _ =>
    all_goals
      simp only [memOp]
      generalize builtinV T _ _ _ = r
      cases r <;> rfl
end
end Go.Proofs.YtcdnooalfkbmgaaDoor.Gw

namespace Go.Proofs.YtcdnooalfkbmgaaDoor.Gw
open Go

inductive Kont where
  | done
  | seq (c : Code) (k : Kont)
  | block (id : Nat) (k : Kont)

section
variable (P : Program) (T : Nat → TI) (an : Nat → Nat) (L : List Nat) (ds : List Deferred)

def qK : Kont → (VExit → Env → St → Prop) → VExit → Env → St → Prop
  | .done, Q => Q
  | .seq c k, Q => vSeq (fun env st => vCode P T an L ds c env st (qK k Q)) (qK k Q)
  | .block id k, Q => vBlock id (qK k Q)

def cK (c : Code) (env : Env) (st : St) (k : Kont) (Q : VExit → Env → St → Prop) : Prop := vCode P T an L ds c env st (qK P T an L ds k Q)
def oK (all : Array Oper) (os : List Oper) (env : Env) (st : St) (k : Kont) (Q : VExit → Env → St → Prop) : Prop := vOps P T an L all os env st (qK P T an L ds k Q)
def rK (r : Step) (gc guarded : Bool) (dst : Option Tmp) (all : Array Oper) (os : List Oper) (env : Env) (st : St) (k : Kont) (Q : VExit → Env → St → Prop) : Prop :=
  runStep P T r gc guarded env st (fun v st' => vOps P T an L all os (env.put L dst gc v) st' (qK P T an L ds k Q)) (qK P T an L ds k Q)
def gK (g : Option Bool) (dst : Option Tmp) (op : Op) (guarded : Bool) (all : Array Oper) (os : List Oper) (env : Env) (st : St) (k : Kont) (Q : VExit → Env → St → Prop) : Prop :=
  match g with
  | some gc => okDstB env.N dst ∧ rK P T an L ds (stepOp T an dst op gc env st) gc guarded dst all os env st k Q
  | none => False
def aK (dst : Option Tmp) (gc : Bool) (all : Array Oper) (os : List Oper) (env : Env) (k : Kont) (Q : VExit → Env → St → Prop) : VEnd → St → Prop :=
  afterCall env (fun v st' => vOps P T an L all os (env.put L dst gc v) st' (qK P T an L ds k Q)) (qK P T an L ds k Q)
def iK (v : V) (x y : Code) (env : Env) (st : St) (k : Kont) (Q : VExit → Env → St → Prop) : Prop :=
  condV v (cK P T an L ds x env st k Q) (cK P T an L ds y env st k Q)

variable {P T an L ds}
theorem iK_split {t : Bool} {x y : Code} {env : Env} {st : St} {k : Kont} {Q : VExit → Env → St → Prop} (h1 : t = true → cK P T an L ds x env st k Q) (h2 : t = false → cK P T an L ds y env st k Q) : iK P T an L ds (.bool t) x y env st k Q := ⟨h1, h2⟩
/-- A call under a guard: what it gives, where it is made. -/
theorem rK_guarded {f : FuncId} {args : List V} {gc : Bool} {dst : Option Tmp} {all : Array Oper} {os : List Oper} {env : Env} {st : St} {k : Kont} {Q : VExit → Env → St → Prop} (v : V)
    (h : gc = true → VCalls P T f args st fun r st' => r = .ret v ∧ st' = st) (h2 : oK P T an L ds all os (env.put L dst gc v) st k Q) : rK P T an L ds (.call f args) gc true dst all os env st k Q := ⟨v, st, h, fun _ => rfl, h2⟩
/-- A call under a guard that holds. -/
theorem rK_made {f : FuncId} {args args' : List V} {dst : Option Tmp} {all : Array Oper} {os : List Oper} {env : Env} {st st2 : St} {k : Kont} {Q : VExit → Env → St → Prop} {v : V}
    (h : VCalls P T f args' st fun r st' => r = .ret v ∧ st' = st2) (hw : wkL args args') (h2 : oK P T an L ds all os (env.put L dst true v) st2 k Q) : rK P T an L ds (.call f args) true true dst all os env st k Q := ⟨v, st2, fun _ => h.args hw, fun e => (by cases e), h2⟩
/-- A call under a guard that does not hold. -/
theorem rK_not {f : FuncId} {args : List V} {dst : Option Tmp} {all : Array Oper} {os : List Oper} {env : Env} {st : St} {k : Kont} {Q : VExit → Env → St → Prop} (v : V)
    (h2 : oK P T an L ds all os (env.put L dst false v) st k Q) : rK P T an L ds (.call f args) false true dst all os env st k Q := ⟨v, st, fun e => (by cases e), fun _ => rfl, h2⟩
/-- A call. -/
theorem VCalls.use {f : FuncId} {args args' : List V} {st st' : St} {X : V} {dst : Option Tmp} {gc : Bool} {all : Array Oper} {os : List Oper} {env : Env} {k : Kont} {Q : VExit → Env → St → Prop}
    (h : VCalls P T f args' st fun r s => r = .ret X ∧ s = st') (hw : wkL args args') (h2 : X.fit → oK P T an L ds all os (env.put L dst gc X) st' k Q) : VCalls P T f args st (aK P T an L ds dst gc all os env k Q) :=
  (h.args hw).monoF fun r s hf ⟨e1, e2⟩ => by subst e1; subst e2; exact h2 hf
/-- A function, by its body's condition. -/
theorem vfun (hT : Tab P T) {f : FuncId} {fn : Func} {c : Code} (hf : P.funcs[f]? = some fn) (hb : fn.body = some c) (hnm : (fn.name == "runtime.NumGoroutine") = false) {rs : List ResultVar} (hrs : fn.results.toList = rs) {N : Nat} (hN : fn.ntmps = N)
    {args : List V} (hl : Nat.ble args.length N = true) (hL : (List.range args.length).all (memN L) = true) {st st' : St} {X : V} (hn : st.length ≤ st'.length)
    (h : St.ok st → ltL st.length args → fitL args → cK P T an L [] c ⟨N, initG 0 args, []⟩ st .done (vRet T rs (Gives X st'))) : VCalls P T f args st fun r s => r = .ret X ∧ s = st' :=
  VCalls.give (vcalls hT hf hb hnm hrs hN (Nat.le_of_ble_eq_true hl) hL h) hn
/-- A function, by its body's condition, whatever it comes to. -/
theorem vfunQ (hT : Tab P T) {f : FuncId} {fn : Func} {c : Code} (hf : P.funcs[f]? = some fn) (hb : fn.body = some c) (hnm : (fn.name == "runtime.NumGoroutine") = false) {rs : List ResultVar} (hrs : fn.results.toList = rs) {N : Nat} (hN : fn.ntmps = N)
    {args : List V} (hl : Nat.ble args.length N = true) (hL : (List.range args.length).all (memN L) = true) {st : St} {Q : VEnd → St → Prop}
    (h : St.ok st → ltL st.length args → fitL args → cK P T an L [] c ⟨N, initG 0 args, []⟩ st .done (vRet T rs Q)) : VCalls P T f args st Q :=
  vcalls hT hf hb hnm hrs hN (Nat.le_of_ble_eq_true hl) hL h
/-- A loop. -/
theorem vloop (ks : List Nat) (hs : subN ks L = true) {c : Code} {env : Env} {st : St} {k0 : Kont} {Q : VExit → Env → St → Prop} (I : Nat → Env → St → Prop) (n : Nat) (h0 : I n ⟨env.N, env.keep ks, []⟩ st)
    (hT : Tab P T) (step : ∀ n env st, I n env st → cK P T an L ds c env st .done (vSeq (fun env' st' => ∃ n', n' < n ∧ I n' ⟨env'.N, env'.keep ks, []⟩ st') (qK P T an L ds k0 Q))) : VC P T L ds (.loop c) env st (qK P T an L ds k0 Q) :=
  VC.loop ks hs I n h0 fun n env st h => vCode_sound hT c env st _ (step n env st h)
end

theorem gwB :
    (∀ (P : Program) (T : Nat → TI) (an : Nat → Nat) (L : List Nat) (ds : List Deferred) (env : Env) (st : St) (k : Kont) (Q : VExit → Env → St → Prop), cK P T an L ds .skip env st k Q = qK P T an L ds k Q .normal env st) ∧
    (∀ (P : Program) (T : Nat → TI) (an : Nat → Nat) (L : List Nat) (ds : List Deferred) (env : Env) (st : St) (k : Kont) (Q : VExit → Env → St → Prop) (id : Nat), cK P T an L ds (.exit id) env st k Q = qK P T an L ds k Q (.exit id) env st) ∧
    (∀ (P : Program) (T : Nat → TI) (an : Nat → Nat) (L : List Nat) (ds : List Deferred) (env : Env) (st : St) (k : Kont) (Q : VExit → Env → St → Prop), cK P T an L ds .ret env st k Q = qK P T an L ds k Q .ret env st) ∧
    (∀ (P : Program) (T : Nat → TI) (an : Nat → Nat) (L : List Nat) (ds : List Deferred) (env : Env) (st : St) (k : Kont) (Q : VExit → Env → St → Prop) (c : Code), cK P T an L ds (.loop c) env st k Q = VC P T L ds (.loop c) env st (qK P T an L ds k Q)) ∧
    (∀ (P : Program) (T : Nat → TI) (an : Nat → Nat) (L : List Nat) (ds : List Deferred) (env : Env) (st : St) (k : Kont) (Q : VExit → Env → St → Prop) (id : Nat) (ops : Array Oper), cK P T an L ds (.region id ops true) env st k Q = VC P T L ds (.region id ops true) env st (qK P T an L ds k Q)) ∧
    (∀ (P : Program) (T : Nat → TI) (an : Nat → Nat) (L : List Nat) (ds : List Deferred) (env : Env) (st : St) (k : Kont) (Q : VExit → Env → St → Prop) (a b : Code), cK P T an L ds (.seq a b) env st k Q = cK P T an L ds a env st (.seq b k) Q) ∧
    (∀ (P : Program) (T : Nat → TI) (an : Nat → Nat) (L : List Nat) (ds : List Deferred) (env : Env) (st : St) (k : Kont) (Q : VExit → Env → St → Prop) (id : Nat) (c : Code), cK P T an L ds (.block id c) env st k Q = cK P T an L ds c env st (.block id k) Q) ∧
    (∀ (P : Program) (T : Nat → TI) (an : Nat → Nat) (L : List Nat) (ds : List Deferred) (N : Nat) (g l : List (Nat × Bool × V)) (st : St) (k : Kont) (Q : VExit → Env → St → Prop) (id : Nat) (ops : List Oper), cK P T an L ds (.region id ops.toArray false) ⟨N, g, l⟩ st k Q = oK P T an L ds ops.toArray ops ⟨N, g, []⟩ st k Q) ∧
    (∀ (P : Program) (T : Nat → TI) (an : Nat → Nat) (L : List Nat) (ds : List Deferred) (N : Nat) (g l : List (Nat × Bool × V)) (st : St) (k : Kont) (Q : VExit → Env → St → Prop) (t : Nat) (x y : Code), cK P T an L ds (.cond (.tmp t) x y) ⟨N, g, l⟩ st k Q = iK P T an L ds (lookT true t l g) x y ⟨N, g, l⟩ st k Q) ∧
    (∀ (P : Program) (T : Nat → TI) (an : Nat → Nat) (L : List Nat) (ds : List Deferred) (env : Env) (st : St) (k : Kont) (Q : VExit → Env → St → Prop) (x y : Code), iK P T an L ds (.bool true) x y env st k Q = cK P T an L ds x env st k Q) ∧
    (∀ (P : Program) (T : Nat → TI) (an : Nat → Nat) (L : List Nat) (ds : List Deferred) (env : Env) (st : St) (k : Kont) (Q : VExit → Env → St → Prop) (x y : Code), iK P T an L ds (.bool false) x y env st k Q = cK P T an L ds y env st k Q) ∧
    (∀ (P : Program) (T : Nat → TI) (an : Nat → Nat) (L : List Nat) (ds : List Deferred) (env : Env) (st : St) (k : Kont) (Q : VExit → Env → St → Prop) (all : Array Oper), oK P T an L ds all [] env st k Q = qK P T an L ds k Q .normal env st) ∧
    (∀ (P : Program) (T : Nat → TI) (an : Nat → Nat) (L : List Nat) (ds : List Deferred) (env : Env) (st : St) (k : Kont) (Q : VExit → Env → St → Prop) (all : Array Oper) (dst : Option Tmp) (op : Op) (ty : TypeId) (pos : String) (aft : Array Edge) (os : List Oper), oK P T an L ds all (⟨dst, op, ty, pos, aft, none⟩ :: os) env st k Q = (okDstB env.N dst ∧ rK P T an L ds (stepOp T an dst op true env st) true false dst all os env st k Q)) ∧
    (∀ (P : Program) (T : Nat → TI) (an : Nat → Nat) (L : List Nat) (ds : List Deferred) (env : Env) (st : St) (k : Kont) (Q : VExit → Env → St → Prop) (all : Array Oper) (dst : Option Tmp) (op : Op) (ty : TypeId) (pos : String) (aft : Array Edge) (gd : Nat × Bool) (os : List Oper), oK P T an L ds all (⟨dst, op, ty, pos, aft, some gd⟩ :: os) env st k Q = gK P T an L ds (guardV all env (some gd)) dst op true all os env st k Q) ∧
    (∀ (P : Program) (T : Nat → TI) (an : Nat → Nat) (L : List Nat) (ds : List Deferred) (env : Env) (st : St) (k : Kont) (Q : VExit → Env → St → Prop) (all : Array Oper) (dst : Option Tmp) (op : Op) (os : List Oper) (gc b : Bool), gK P T an L ds (some gc) dst op b all os env st k Q = (okDstB env.N dst ∧ rK P T an L ds (stepOp T an dst op gc env st) gc b dst all os env st k Q)) ∧
    (∀ (P : Program) (T : Nat → TI) (an : Nat → Nat) (L : List Nat) (ds : List Deferred) (env : Env) (st : St) (k : Kont) (Q : VExit → Env → St → Prop) (all : Array Oper) (dst : Option Tmp) (os : List Oper) (gc b : Bool) (v : V) (side : Prop), rK P T an L ds (.pure v side) gc b dst all os env st k Q = ((gc = true → side) ∧ oK P T an L ds all os (env.put L dst gc v) st k Q)) ∧
    (∀ (P : Program) (T : Nat → TI) (an : Nat → Nat) (L : List Nat) (ds : List Deferred) (env : Env) (st : St) (k : Kont) (Q : VExit → Env → St → Prop) (all : Array Oper) (dst : Option Tmp) (os : List Oper) (b : Bool) (v : V) (st' : St) (side : Prop), rK P T an L ds (.mem v st' side) true b dst all os env st k Q = ((true = true → side) ∧ oK P T an L ds all os (env.put L dst true v) st' k Q)) ∧
    (∀ (P : Program) (T : Nat → TI) (an : Nat → Nat) (L : List Nat) (ds : List Deferred) (env : Env) (st : St) (k : Kont) (Q : VExit → Env → St → Prop) (all : Array Oper) (dst : Option Tmp) (os : List Oper) (b : Bool) (v : V) (st' : St) (side : Prop), rK P T an L ds (.mem v st' side) false b dst all os env st k Q = ((false = true → side) ∧ oK P T an L ds all os (env.put L dst false v) st k Q)) ∧
    (∀ (P : Program) (T : Nat → TI) (an : Nat → Nat) (L : List Nat) (ds : List Deferred) (env : Env) (st : St) (k : Kont) (Q : VExit → Env → St → Prop) (all : Array Oper) (dst : Option Tmp) (os : List Oper) (gc b : Bool) (v : V) (side : Prop), rK P T an L ds (.mem v st side) gc b dst all os env st k Q = ((gc = true → side) ∧ oK P T an L ds all os (env.put L dst gc v) st k Q)) ∧
    (∀ (P : Program) (T : Nat → TI) (an : Nat → Nat) (L : List Nat) (ds : List Deferred) (env : Env) (st : St) (k : Kont) (Q : VExit → Env → St → Prop) (all : Array Oper) (dst : Option Tmp) (os : List Oper) (b : Bool), rK P T an L ds .fail false b dst all os env st k Q = (false = false ∧ oK P T an L ds all os (env.put L dst false .junk) st k Q)) ∧
    (∀ (P : Program) (T : Nat → TI) (an : Nat → Nat) (L : List Nat) (ds : List Deferred) (env : Env) (st : St) (k : Kont) (Q : VExit → Env → St → Prop) (all : Array Oper) (dst : Option Tmp) (os : List Oper) (gc : Bool) (f : FuncId) (args : List V), rK P T an L ds (.call f args) gc false dst all os env st k Q = (gc = true ∧ VCalls P T f args st (aK P T an L ds dst gc all os env k Q))) ∧
    (∀ (P : Program) (T : Nat → TI) (an : Nat → Nat) (L : List Nat) (ds : List Deferred) (env : Env) (st : St) (k : Kont) (Q : VExit → Env → St → Prop) (all : Array Oper) (dst : Option Tmp) (os : List Oper) (gc b : Bool) (t : TypeId) (x : V), rK P T an L ds (.panic (.iface t x)) gc b dst all os env st k Q = (gc = true ∧ qK P T an L ds k Q (.panic (.iface t x)) env st)) ∧
    (∀ (P : Program) (T : Nat → TI) (an : Nat → Nat) (L : List Nat) (ds : List Deferred) (env : Env) (st : St) (k : Kont) (Q : VExit → Env → St → Prop) (all : Array Oper) (dst : Option Tmp) (os : List Oper) (gc b : Bool) (l : List (V × St)), rK P T an L ds (.any l) gc b dst all os env st k Q = (gc = true ∧ ∀ p ∈ l, oK P T an L ds all os (env.put L dst gc p.1) p.2 k Q)) ∧
    (∀ (P : Program) (T : Nat → TI) (an : Nat → Nat) (L : List Nat) (ds : List Deferred) (env : Env) (k : Kont) (Q : VExit → Env → St → Prop) (all : Array Oper) (dst : Option Tmp) (os : List Oper) (gc : Bool) (v : V) (st : St), aK P T an L ds dst gc all os env k Q (.ret v) st = oK P T an L ds all os (env.put L dst gc v) st k Q) ∧
    (∀ (P : Program) (T : Nat → TI) (an : Nat → Nat) (L : List Nat) (ds : List Deferred) (env : Env) (k : Kont) (Q : VExit → Env → St → Prop) (all : Array Oper) (dst : Option Tmp) (os : List Oper) (gc : Bool) (v : V) (st : St), aK P T an L ds dst gc all os env k Q (.panic v) st = qK P T an L ds k Q (.panic v) env st) ∧
    (∀ (P : Program) (T : Nat → TI) (an : Nat → Nat) (L : List Nat) (ds : List Deferred) (env : Env) (st : St) (Q : VExit → Env → St → Prop) (e : VExit), qK P T an L ds .done Q e env st = Q e env st) ∧
    (∀ (P : Program) (T : Nat → TI) (an : Nat → Nat) (L : List Nat) (ds : List Deferred) (env : Env) (st : St) (k : Kont) (Q : VExit → Env → St → Prop) (c : Code), qK P T an L ds (.seq c k) Q .normal env st = cK P T an L ds c env st k Q) ∧
    (∀ (P : Program) (T : Nat → TI) (an : Nat → Nat) (L : List Nat) (ds : List Deferred) (env : Env) (st : St) (k : Kont) (Q : VExit → Env → St → Prop) (c : Code) (id : Nat), qK P T an L ds (.seq c k) Q (.exit id) env st = qK P T an L ds k Q (.exit id) env st) ∧
    (∀ (P : Program) (T : Nat → TI) (an : Nat → Nat) (L : List Nat) (ds : List Deferred) (env : Env) (st : St) (k : Kont) (Q : VExit → Env → St → Prop) (c : Code), qK P T an L ds (.seq c k) Q .ret env st = qK P T an L ds k Q .ret env st) ∧
    (∀ (P : Program) (T : Nat → TI) (an : Nat → Nat) (L : List Nat) (ds : List Deferred) (env : Env) (st : St) (k : Kont) (Q : VExit → Env → St → Prop) (c : Code) (v : V), qK P T an L ds (.seq c k) Q (.panic v) env st = qK P T an L ds k Q (.panic v) env st) ∧
    (∀ (P : Program) (T : Nat → TI) (an : Nat → Nat) (L : List Nat) (ds : List Deferred) (env : Env) (st : St) (k : Kont) (Q : VExit → Env → St → Prop) (id : Nat), qK P T an L ds (.block id k) Q .normal env st = qK P T an L ds k Q .normal env st) ∧
    (∀ (P : Program) (T : Nat → TI) (an : Nat → Nat) (L : List Nat) (ds : List Deferred) (env : Env) (st : St) (k : Kont) (Q : VExit → Env → St → Prop) (id i : Nat), qK P T an L ds (.block id k) Q (.exit i) env st = if i = id then qK P T an L ds k Q .normal env st else qK P T an L ds k Q (.exit i) env st) ∧
    (∀ (P : Program) (T : Nat → TI) (an : Nat → Nat) (L : List Nat) (ds : List Deferred) (env : Env) (st : St) (k : Kont) (Q : VExit → Env → St → Prop) (id : Nat), qK P T an L ds (.block id k) Q .ret env st = qK P T an L ds k Q .ret env st) ∧
    (∀ (P : Program) (T : Nat → TI) (an : Nat → Nat) (L : List Nat) (ds : List Deferred) (env : Env) (st : St) (k : Kont) (Q : VExit → Env → St → Prop) (id : Nat) (v : V), qK P T an L ds (.block id k) Q (.panic v) env st = qK P T an L ds k Q (.panic v) env st) ∧
    (∀ (k : Env → St → Prop) (Q : VExit → Env → St → Prop) (env : Env) (st : St), vSeq k Q .normal env st = k env st) ∧
    (∀ (k : Env → St → Prop) (Q : VExit → Env → St → Prop) (env : Env) (st : St) (i : Nat), vSeq k Q (.exit i) env st = Q (.exit i) env st) ∧
    (∀ (k : Env → St → Prop) (Q : VExit → Env → St → Prop) (env : Env) (st : St), vSeq k Q .ret env st = Q .ret env st) ∧
    (∀ (k : Env → St → Prop) (Q : VExit → Env → St → Prop) (env : Env) (st : St) (v : V), vSeq k Q (.panic v) env st = Q (.panic v) env st) ∧
    (∀ (T : Nat → TI) (rs : List ResultVar) (Q : VEnd → St → Prop) (env : Env) (st : St), vRet T rs Q .normal env st = bindO (resV T env st rs) fun r => r.2 ∧ Q (.ret (tupV r.1)) st) ∧
    (∀ (T : Nat → TI) (rs : List ResultVar) (Q : VEnd → St → Prop) (env : Env) (st : St), vRet T rs Q .ret env st = bindO (resV T env st rs) fun r => r.2 ∧ Q (.ret (tupV r.1)) st) ∧
    (∀ (T : Nat → TI) (rs : List ResultVar) (Q : VEnd → St → Prop) (env : Env) (st : St) (v : V), vRet T rs Q (.panic v) env st = Q (.panic v) st) ∧
    (∀ {α : Type} (a : α) (k : α → Prop), bindO (some a) k = k a) := by
  refine ⟨?_, ?_, ?_, ?_, ?_, ?_, ?_, ?_, ?_, ?_, ?_, ?_, ?_, ?_, ?_, ?_, ?_, ?_, ?_, ?_, ?_, ?_, ?_, ?_, ?_, ?_, ?_, ?_, ?_, ?_, ?_, ?_, ?_, ?_, ?_, ?_, ?_, ?_, ?_, ?_, ?_, ?_⟩ <;> intros <;> first
    | rfl
    | (rename_i gc _ _ _ ; cases gc <;> rfl)
    | exact cond_eq _ _ _ _ _ _ _ _ _ _ _ _ _
    | exact runStep_panic _ _ _ _ _ _ _ _ _ _
    | (simp only [oK, gK, vOps, bindO]; generalize guardV _ _ _ = r; cases r <;> rfl)
    | (simp only [iK, condV, Split_true, Split_false]; done)
end Go.Proofs.YtcdnooalfkbmgaaDoor.Gw

namespace Go.Proofs.YtcdnooalfkbmgaaDoor.Gw
open Go

theorem gwE :
    (∀ (N : Nat) (g l : List (Nat × Bool × V)) (c : Bool) (v : V) (L : List Nat), Env.put ⟨N, g, l⟩ L none c v = ⟨N, g, l⟩) ∧
    (∀ (N : Nat) (g l : List (Nat × Bool × V)) (t : Nat) (c : Bool) (v : V) (L : List Nat), Env.put ⟨N, g, l⟩ L (some t) c v = if memN L t then ⟨N, ins g t (c, v), (t, c, v) :: l⟩ else ⟨N, g, (t, c, v) :: l⟩) ∧
    (∀ (gc : Bool) (t N : Nat) (g l : List (Nat × Bool × V)), evG ⟨N, g, l⟩ gc (.tmp t) = lookT gc t l g) ∧
    (∀ (gc : Bool) (t : Nat) (g : List (Nat × Bool × V)), lookT gc t [] g = lookG gc t g) ∧
    (∀ (gc : Bool) (t k : Nat) (c : Bool) (v : V) (l g : List (Nat × Bool × V)), lookT gc t ((k, c, v) :: l) g = if k = t then (bif (!gc || c) then v else .junk) else lookT gc t l g) ∧
    (∀ (gc : Bool) (t k : Nat) (c : Bool) (v : V) (g : List (Nat × Bool × V)), lookG gc t ((k, c, v) :: g) = if k = t then (bif (!gc || c) then v else .junk) else lookG gc t g) ∧
    (∀ (gc : Bool) (env : Env) (v : Value), evG env gc (.const v) = V.ofConst v) ∧
    (∀ (gc : Bool) (env : Env) (f : FuncId), evG env gc (.func f) = .fn (.func f) []) ∧
    (∀ (k : IntKind) (n : Int), V.ofConst (.int k n) = .int k n) ∧
    (∀ (b : Bool), V.ofConst (.bool b) = .bool b) ∧
    (∀ (s : List UInt8), V.ofConst (.string ⟨s.toArray⟩) = if s.length ≤ 1000000 then .str s else .junk) ∧
    (V.ofConst (.slice none 0 0) = .nils) ∧
    (V.ofConst (.pointer none) = .nilp) ∧
    (V.ofConst .nilFunc = .nilf) ∧
    (V.ofConst (.map none) = .nilm) ∧
    (V.ofConst .nilIface = .nili) ∧
    (∀ (l : List Value), V.ofConst (.agg l.toArray) = aggR (V.ofCs l)) ∧
    (∀ (l : List V), aggR (some l) = .agg l) ∧
    (V.ofCs [] = some []) ∧
    (∀ (v : Value) (l : List Value), V.ofCs (v :: l) = consO (V.ofC1 v) (V.ofCs l)) ∧
    (∀ (x : V) (l : List V), consO (some x) (some l) = some (x :: l)) ∧
    (∀ (k : IntKind) (n : Int), V.ofC1 (.int k n) = some (.int k n)) ∧
    (∀ (b : Bool), V.ofC1 (.bool b) = some (.bool b)) ∧
    (∀ (s : List UInt8), V.ofC1 (.string ⟨s.toArray⟩) = if s.length ≤ 1000000 then some (.str s) else none) ∧
    (V.ofC1 (.slice none 0 0) = some .nils) ∧
    (V.ofC1 (.pointer none) = some .nilp) ∧
    (V.ofC1 .nilFunc = some .nilf) ∧
    (V.ofC1 (.map none) = some .nilm) ∧
    (V.ofC1 .nilIface = some .nili) ∧
    (∀ (t : Nat), memN [] t = false) ∧
    (∀ (k : Nat) (r : List Nat) (t : Nat), memN (k :: r) t = if k = t then true else memN r t) ∧
    (∀ (t : Nat) (x : Bool × V), ins [] t x = [(t, x)]) ∧
    (∀ (k : Nat) (y : Bool × V) (r : List (Nat × Bool × V)) (t : Nat) (x : Bool × V), ins ((k, y) :: r) t x = if k = t then (t, x) :: r else (k, y) :: ins r t x) ∧
    (∀ (N d : Nat), okDstB N (some d) = (d < N)) ∧
    (∀ (N : Nat), okDstB N none = True) ∧
    (∀ (all : List Oper) (N : Nat) (g l : List (Nat × Bool × V)) (j : Nat) (w : Bool), guardV all.toArray ⟨N, g, l⟩ (some (j, w)) = guardL (dstL all j) w l g) ∧
    (∀ (w : Bool) (d : Nat) (k : Nat) (c : Bool) (v : V) (l g : List (Nat × Bool × V)), guardL (some d) w ((k, c, v) :: l) g = if k = d then gbit w c v else guardL (some d) w l g) ∧
    (∀ (w : Bool) (d : Nat) (g : List (Nat × Bool × V)), guardL (some d) w [] g = guardG d w g) ∧
    (∀ (w : Bool) (d : Nat) (k : Nat) (c : Bool) (v : V) (g : List (Nat × Bool × V)), guardG d w ((k, c, v) :: g) = if k = d then gbit w c v else guardG d w g) ∧
    (∀ (c b : Bool), gbit true c (.bool b) = some (c && b)) ∧
    (∀ (c b : Bool), gbit false c (.bool b) = some (c && !b)) ∧
    (∀ (dst : Option Tmp) (op : Op) (ty : TypeId) (pos : String) (aft : Array Edge) (gd : Option (Nat × Bool)) (os : List Oper), dstL (⟨dst, op, ty, pos, aft, gd⟩ :: os) 0 = dst) ∧
    (∀ (o : Oper) (os : List Oper) (k : Nat), dstL (o :: os) (k + 1) = dstL os k) := by
  refine ⟨fun _ _ _ _ _ _ => rfl,
    fun _ _ _ _ _ _ _ => rfl,
    evG_look,
    lookT_nil,
    lookT_cons,
    lookG_cons,
    evG_const,
    evG_func,
    fun _ _ => rfl,
    fun _ => rfl,
    ofConst_str,
    rfl,
    rfl,
    rfl,
    rfl,
    rfl,
    ofConst_agg,
    fun _ => rfl,
    rfl,
    fun _ _ => rfl,
    fun _ _ => rfl,
    fun _ _ => rfl,
    fun _ => rfl,
    ofC1_str,
    rfl,
    rfl,
    rfl,
    rfl,
    rfl,
    fun _ => rfl,
    fun _ _ _ => rfl,
    fun _ _ => rfl,
    fun _ _ _ _ _ => rfl,
    fun _ _ => rfl,
    fun _ => rfl,
    guard_eq,
    guardL_cons,
    fun _ _ _ => rfl,
    guardG_cons,
    fun _ _ => rfl,
    fun _ _ => rfl,
    fun _ _ _ _ _ _ _ => rfl,
    fun _ _ _ => rfl⟩

theorem gwS :
    (∀ (T : Nat → TI) (an : Nat → Nat) (dst : Option Tmp) (gc : Bool) (env : Env) (st : St) (x : Operand), stepOp T an dst (.move x) gc env st = .pure (evG env gc x) True) ∧
    (∀ (T : Nat → TI) (an : Nat → Nat) (dst : Option Tmp) (gc : Bool) (env : Env) (st : St) (x : Operand), stepOp T an dst (.assign x) gc env st = .pure (evG env gc x) True) ∧
    (∀ (T : Nat → TI) (an : Nat → Nat) (dst : Option Tmp) (gc : Bool) (env : Env) (st : St) (x : Operand), stepOp T an dst (.nilCheck x) gc env st = nilV (evG env gc x)) ∧
    (∀ (l : List V), nilV (.ref l) = .pure (.ref l) True) ∧
    (∀ (o f : Nat), nilV (.ptr o f) = .pure (.ptr o f) True) ∧
    (∀ (f : Fn) (c : List V), nilV (.fn f c) = .pure (.fn f c) (∀ n, f ≠ .method n)) ∧
    (∀ (t : TypeId) (v : V), nilV (.iface t v) = .pure (.iface t v) True) ∧
    (∀ (T : Nat → TI) (an : Nat → Nat) (dst : Option Tmp) (gc : Bool) (env : Env) (st : St) (op : BinOp) (t : TypeId) (x y : Operand) (u : TypeId), stepOp T an dst (.binOp op t x y u) gc env st = pureR (binV T (T t).kind op (evG env gc x) (evG env gc y)) (convS (nilB st (nilCmp (T t).kind op (nilC y) (evG env gc x) (evG env gc y)) (bitV op (evG env gc x) (evG env gc y))))) ∧
    (∀ (T : Nat → TI) (an : Nat → Nat) (dst : Option Tmp) (gc : Bool) (env : Env) (st : St) (t : TypeId) (x : Operand), stepOp T an dst (.unOp .not t x) gc env st = notV (evG env gc x)) ∧
    (∀ (b : Bool), notV (.bool b) = .pure (.bool (!b)) True) ∧
    (∀ (T : Nat → TI) (an : Nat → Nat) (dst : Option Tmp) (gc : Bool) (env : Env) (st : St) (t : TypeId) (x : Operand), stepOp T an dst (.unOp .neg t x) gc env st = negV (evG env gc x)) ∧
    (∀ (k : IntKind) (n : Int), negV (.int k n) = .pure (.int k (k.wrap (0 - n))) True) ∧
    (∀ (T : Nat → TI) (an : Nat → Nat) (dst : Option Tmp) (gc : Bool) (env : Env) (st : St) (s : TypeId) (x : Operand) (f : Nat), stepOp T an dst (.fieldAddr s x f) gc env st = pureR (fieldV T (T s).kind f (evG env gc x)) .fail) ∧
    (∀ (T : Nat → TI) (fs : List (Nat × TypeId)) (f : Nat) (x : V), fieldV T (.struct fs) f x = fieldW T fs[f]? x) ∧
    (∀ (T : Nat → TI) (off : Nat) (ft : TypeId) (l : List V), fieldW T (some (off, ft)) (.ref l) = if (T ft).sized = false then none else some (.ref (l.drop off), True)) ∧
    (∀ (T : Nat → TI) (off : Nat) (ft : TypeId) (o n : Nat), fieldW T (some (off, ft)) (.ptr o n) = if (T ft).sized = false then none else some (.ptr o (n + off), True)) ∧
    (∀ (T : Nat → TI) (an : Nat → Nat) (dst : Option Tmp) (gc : Bool) (env : Env) (st : St) (s : TypeId) (x : Operand) (f : Nat), stepOp T an dst (.field s x f) gc env st = pureR (fldV T (T s).kind f (evG env gc x)) .fail) ∧
    (∀ (T : Nat → TI) (fs : List (Nat × TypeId)) (f : Nat) (l : List V), fldV T (.struct fs) f (.agg l) = fldW T fs[f]? l) ∧
    (∀ (T : Nat → TI) (off : Nat) (ft : TypeId) (l : List V), fldW T (some (off, ft)) l = if (T ft).sized = false then none else loadV (T ft) (l.drop off)) ∧
    (∀ (T : Nat → TI) (an : Nat → Nat) (dst : Option Tmp) (gc : Bool) (env : Env) (st : St) (t : TypeId) (x i : Operand), stepOp T an dst (.indexAddr t x i) gc env st = idxS T (T t).kind (evG env gc x) (evG env gc i) st) ∧
    (∀ (T : Nat → TI) (e : TypeId) (sz : Nat) (tk : Option Nat) (l : List (List V)) (k : IntKind) (n : Int) (st : St), idxS T (.slice e) (.lst sz tk l) (.int k n) st = if (T e).sized = true ∧ sz = (T e).size then .pure (.ref (l.getD n.toNat [])) (0 ≤ n ∧ n < l.length) else .fail) ∧
    (∀ (T : Nat → TI) (e : TypeId) (o n : Nat) (kk : IntKind) (k : Int) (st : St), idxS T (.slice e) (.arr o n) (.int kk k) st = idxB (T e) o n k st st[o]?) ∧
    (∀ (i : TI) (o n : Nat) (k : Int) (st : St) (e sz : Nat) (c : List (List V)), idxB i o n k st (some (.arr e sz c)) = if i.sized = true ∧ sz = i.size then .mem (.eptr o n sz k.toNat 0) st (n = c.length ∧ 0 ≤ k ∧ k < n) else .fail) ∧
    (∀ (e n sz k f : Nat), nilV (.eptr e n sz k f) = .pure (.eptr e n sz k f) True) ∧
    (∀ (T : Nat → TI) (off : Nat) (ft : TypeId) (e n sz k f : Nat), fieldW T (some (off, ft)) (.eptr e n sz k f) = if (T ft).sized = false then none else some (.eptr e n sz k (f + off), True)) ∧
    (∀ (T : Nat → TI) (t : TypeId) (st : St) (o n sz k off : Nat), loadS T t st (.eptr o n sz k off) = loadE (T t) n sz k off st st[o]?) ∧
    (∀ (i : TI) (n sz k off : Nat) (st : St) (e sz' : Nat) (c : List (List V)), loadE i n sz k off st (some (.arr e sz' c)) = if i.known = true ∧ sz' = sz then loadN st n k c.length (loadV i ((c.getD k []).drop off)) else .fail) ∧
    (∀ (st : St) (n k m : Nat) (v : V) (p : Prop), loadN st n k m (some (v, p)) = .mem v st (p ∧ n = m ∧ k < n)) ∧
    (∀ (i : TI) (st : St) (o n sz k off : Nat) (l : List V), storeS i st (.eptr o n sz k off) (some l) = storeE i st o n sz k off l st[o]?) ∧
    (∀ (i : TI) (st : St) (o n sz k off : Nat) (l : List V) (e sz' : Nat) (c : List (List V)), storeE i st o n sz k off l (some (.arr e sz' c)) = if i.known = true ∧ l.length = i.size ∧ sz' = sz then .mem .junk (st.set o (.arr e sz (c.set k ((c.getD k []).take off ++ l ++ (c.getD k []).drop (off + l.length))))) (n = c.length ∧ k < n ∧ off + l.length ≤ sz) else .fail) ∧
    (∀ (T : Nat → TI) (an : Nat → Nat) (dst : Option Tmp) (gc : Bool) (env : Env) (st : St) (src d : TypeId) (x : Operand), stepOp T an dst (.convert src d x) gc env st = convS (convV T src d (evG env gc x) st)) ∧
    (∀ (v : V) (st : St) (p : Prop), convS (some (v, st, p)) = .mem v st p) ∧
    (∀ (T : Nat → TI) (an : Nat → Nat) (dst : Option Tmp) (gc : Bool) (env : Env) (st : St) (t : TypeId) (x i : Operand), stepOp T an dst (.index t x i) gc env st = pureR (idxV (T t).kind (evG env gc x) (evG env gc i)) .fail) ∧
    (∀ (s : List UInt8) (k : IntKind) (n : Int), idxV .str (.str s) (.int k n) = some (.int .u8 (s.getD n.toNat 0).toNat, 0 ≤ n ∧ n < s.length)) ∧
    (∀ (T : Nat → TI) (an : Nat → Nat) (dst : Option Tmp) (gc : Bool) (env : Env) (st : St) (x : Operand) (i : Nat), stepOp T an dst (.extract x i) gc env st = extV i (evG env gc x)) ∧
    (∀ (i : Nat) (l : List V), extV i (.tup l) = extW l[i]?) ∧
    (∀ (v : V), extW (some v) = .pure v True) ∧
    (∀ (T : Nat → TI) (an : Nat → Nat) (dst : Option Tmp) (gc : Bool) (env : Env) (st : St) (t : TypeId) (parts : List (Nat × Operand)), stepOp T an dst (.build t parts.toArray) gc env st = pureR (buildV T (T t) (parts.map fun p => (p.1, evG env gc p.2))) .fail) ∧
    (∀ (T : Nat → TI) (an : Nat → Nat) (dst : Option Tmp) (gc : Bool) (env : Env) (st : St) (t : TypeId) (x : Operand), stepOp T an dst (.makeInterface t x) gc env st = pureR (mkIface (T t) t (evG env gc x)) .fail) ∧
    (∀ (T : Nat → TI) (an : Nat → Nat) (dst : Option Tmp) (gc : Bool) (env : Env) (st : St) (f : Fn) (c : List Operand), stepOp T an dst (.makeFunc f (List.toArray []) c.toArray) gc env st = .pure (.fn f (c.map (evG env gc))) True) ∧
    (∀ (T : Nat → TI) (an : Nat → Nat) (dst : Option Tmp) (gc : Bool) (env : Env) (st : St) (t : TypeId) (x : Operand) (lo hi : Option Operand), stepOp T an dst (.slice t x lo hi none) gc env st = sliS (an (dst.getD 0)) (pureR (sliceV T t (evG env gc x) (lo.map (evG env gc)) (hi.map (evG env gc))) .fail) (sufS (sufE T (T t).kind (evG env gc x) (lo.map (evG env gc)) (hi.map (evG env gc)) st))) ∧
    (∀ (T : Nat → TI) (an : Nat → Nat) (dst : Option Tmp) (gc : Bool) (env : Env) (st : St) (t : TypeId) (x : Operand), stepOp T an dst (.load t x) gc env st = loadS T t st (evG env gc x)) ∧
    (∀ (T : Nat → TI) (t : TypeId) (st : St) (l : List V), loadS T t st (.ref l) = if (T t).sized = false then .fail else pureR (loadV (T t) l) .fail) ∧
    (∀ (T : Nat → TI) (t : TypeId) (st : St) (o n : Nat), loadS T t st (.ptr o n) = loadB (T t) n st st[o]?) ∧
    (∀ (i : TI) (n : Nat) (st : St) (c : List V), loadB i n st (some (.box c)) = if i.known then loadM st (loadV i (c.drop n)) else .fail) ∧
    (∀ (st : St) (v : V) (p : Prop), loadM st (some (v, p)) = .mem v st p) ∧
    (∀ (T : Nat → TI) (an : Nat → Nat) (dst : Option Tmp) (gc : Bool) (env : Env) (st : St) (t : TypeId), stepOp T an dst (.alloc t) gc env st = allocS t (T t) (an (dst.getD 0)) st) ∧
    (∀ (t : TypeId) (i : TI) (st : St), allocS t i 0 st = if i.known then .mem (.ptr st.length 0) (st ++ [.box i.zero]) True else .fail) ∧
    (∀ (t : TypeId) (i : TI) (st : St), allocS t i 1 st = if i.known then .mem (.ref i.zero) st True else .fail) ∧
    (∀ (t : TypeId) (i : TI) (st : St), allocS t i 5 st = if i.known then addrS t i.size st i.zero else .fail) ∧
    (∀ (t k : Nat) (st : St) (r : List V), addrS t k st (.nilp :: r) = .mem (.ptr st.length 0) (st ++ [.box (.addr st.length t k :: r)]) True) ∧
    (∀ (T : Nat → TI) (an : Nat → Nat) (dst : Option Tmp) (gc : Bool) (env : Env) (st : St) (t : TypeId) (x : Operand), stepOp T an dst (.box t x) gc env st = boxS t (an (dst.getD 0)) (V.cells (evG env gc x)) st) ∧
    (∀ (t : Nat) (l : List V) (st : St), boxS t 0 (some l) st = .mem (.ptr st.length 0) (st ++ [.box l]) True) ∧
    (∀ (t : Nat) (l : List V) (st : St), boxS t 1 (some l) st = .mem (.ref l) st True) ∧
    (∀ (t : Nat) (l : List V) (st : St), boxS t 5 (some l) st = addrS t l.length st l) ∧
    (∀ (T : Nat → TI) (an : Nat → Nat) (dst : Option Tmp) (gc : Bool) (env : Env) (st : St) (t : TypeId) (a x : Operand), stepOp T an dst (.store t a x) gc env st = storeS (T t) st (evG env gc a) (V.cells (evG env gc x))) ∧
    (∀ (i : TI) (st : St) (o n : Nat) (l : List V), storeS i st (.ptr o n) (some l) = storeB i st o n l st[o]?) ∧
    (∀ (i : TI) (st : St) (o n : Nat) (l c : List V), storeB i st o n l (some (.box c)) = if i.known ∧ l.length = i.size then .mem .junk (st.set o (.box (c.take n ++ l ++ c.drop (n + l.length)))) (n + l.length ≤ c.length) else .fail) ∧
    (∀ (T : Nat → TI) (an : Nat → Nat) (dst : Option Tmp) (gc : Bool) (env : Env) (st : St) (t : TypeId) (n : Nat) (parts : List (Nat × Operand)), stepOp T an dst (.buildSlice t n parts.toArray) gc env st = litS T (an (dst.getD 0)) n st (T t).kind (parts.map fun p => (p.1, evG env gc p.2))) ∧
    (∀ (T : Nat → TI) (an : Nat → Nat) (dst : Option Tmp) (gc : Bool) (env : Env) (st : St) (t : TypeId) (x y : Operand), stepOp T an dst (.makeSlice t x y) gc env st = makeS T st (T t).kind (evG env gc x) (evG env gc y)) ∧
    (∀ (T : Nat → TI) (st : St) (e : TypeId) (k k' : IntKind) (n m : Int), makeS T st (.slice e) (.int k n) (.int k' m) = if (T e).sized = true then .mem (.arr st.length n.toNat) (st ++ [.arr e (T e).size (List.replicate n.toNat (T e).zero)]) (n = m ∧ 0 ≤ n ∧ n ≤ 100000000000000 ∧ n * (T e).bytes ≤ 100000000000000) else .fail) ∧
    (∀ (T : Nat → TI) (an : Nat → Nat) (dst : Option Tmp) (gc : Bool) (env : Env) (st : St) (f : Operand) (args : List Operand) (ts : Array TypeId), stepOp T an dst (.call ⟨.value f, args.toArray, ts⟩) gc env st = callS (evG env gc f) (args.map (evG env gc))) ∧
    (∀ (k : FuncId) (cap args : List V), callS (.fn (.func k) cap) args = .call k (args ++ cap)) ∧
    (∀ (T : Nat → TI) (an : Nat → Nat) (dst : Option Tmp) (gc : Bool) (env : Env) (st : St) (b : Builtin) (args : List Operand) (ts : List TypeId), stepOp T an dst (.call ⟨.builtin b, args.toArray, ts.toArray⟩) gc env st = builtS T (an (dst.getD 0)) b (args.map (evG env gc)) ts st) ∧
    (∀ (T : Nat → TI) (an : Nat → Nat) (dst : Option Tmp) (gc : Bool) (env : Env) (st : St) (x : Operand), stepOp T an dst (.panic x) gc env st = .panic (evG env gc x)) ∧
    (∀ (T : Nat → TI) (an : Nat → Nat) (dst : Option Tmp) (gc : Bool) (env : Env) (st : St) (c a b : Operand), stepOp T an dst (.pick c a b) gc env st = pureR (pickV env gc c a b) .fail) ∧
    (∀ (v : V) (side : Prop) (m : Step), pureR (some (v, side)) m = .pure v side) ∧
    (∀ (T : Nat → TI) (an : Nat → Nat) (dst : Option Tmp) (gc : Bool) (env : Env) (st : St) (it : Operand), stepOp T an dst (.next it false) gc env st = anyS (nextV (evG env gc it) st)) ∧
    (∀ (l : List (V × St)), anyS (some l) = .any l) ∧
    (∀ (T : Nat → TI) (an : Nat → Nat) (dst : Option Tmp) (gc : Bool) (env : Env) (st : St) (it : Operand), stepOp T an dst (.entry it) gc env st = convS (entV (evG env gc it) st)) ∧
    (∀ (T : Nat → TI) (an : Nat → Nat) (dst : Option Tmp) (gc : Bool) (env : Env) (st : St) (t : TypeId), stepOp T an dst (.makeMap t none) gc env st = convS (makeMapE (T t).kind st)) ∧
    (∀ (T : Nat → TI) (an : Nat → Nat) (dst : Option Tmp) (gc : Bool) (env : Env) (st : St) (t : TypeId) (m x : Operand) (ok : Bool), stepOp T an dst (.lookup t m x ok) gc env st = convS (mapLook T (T t).kind (evG env gc m) (evG env gc x) ok st)) ∧
    (∀ (T : Nat → TI) (an : Nat → Nat) (dst : Option Tmp) (gc : Bool) (env : Env) (st : St) (t : TypeId) (m x y : Operand), stepOp T an dst (.mapUpdate t m x y) gc env st = convS (mapPut T (T t).kind (evG env gc m) (evG env gc x) (evG env gc y) st)) ∧
    (∀ (T : Nat → TI) (an : Nat → Nat) (dst : Option Tmp) (gc : Bool) (env : Env) (st : St) (t : TypeId) (m x y : Operand), stepOp T an dst (.insert t m x y) gc env st = convS (mapPut T (T t).kind (evG env gc m) (evG env gc x) (evG env gc y) st)) ∧
    (∀ (T : Nat → TI) (an : Nat → Nat) (dst : Option Tmp) (gc : Bool) (env : Env) (st : St) (t : TypeId) (m : Operand), stepOp T an dst (.range t m) gc env st = convS (mapRange (T t).kind (evG env gc m) st)) ∧
    (∀ (T : Nat → TI) (an : Nat → Nat) (dst : Option Tmp) (gc : Bool) (env : Env) (st : St) (x : Operand) (xt t : TypeId) (ok : Bool), stepOp T an dst (.typeAssert x xt t ok) gc env st = convS (nilR st (assertV (T t) t ok (evG env gc x)))) := by
  refine ⟨fun _ _ _ _ _ _ _ => rfl,
    fun _ _ _ _ _ _ _ => rfl,
    step_nilCheck,
    fun _ => rfl,
    fun _ _ => rfl,
    fun _ _ => rfl,
    fun _ _ => rfl,
    step_binOp,
    step_not,
    fun _ => rfl,
    step_neg,
    fun _ _ => rfl,
    fun _ _ _ _ _ _ _ _ _ => rfl,
    fun _ _ _ _ => rfl,
    fun _ _ _ _ => rfl,
    fun _ _ _ _ _ => rfl,
    step_field,
    fun _ _ _ _ => rfl,
    fun _ _ _ _ => rfl,
    step_indexAddr,
    by intros; rfl,
    by intros; rfl,
    by intros; rfl,
    by intros; rfl,
    by intros; rfl,
    by intros; rfl,
    by intros; rfl,
    by intros; rfl,
    by intros; rfl,
    by intros; rfl,
    step_convert,
    by intros; rfl,
    fun _ _ _ _ _ _ _ _ _ => rfl,
    fun _ _ _ => rfl,
    step_extract,
    fun _ _ => rfl,
    fun _ => rfl,
    step_build,
    step_makeInterface,
    fun _ _ _ _ _ _ _ _ => rfl,
    fun _ _ _ _ _ _ _ _ _ _ => rfl,
    step_load,
    fun _ _ _ _ => rfl,
    loadS_ptr,
    fun _ _ _ _ => rfl,
    fun _ _ _ => rfl,
    step_alloc,
    fun _ _ _ => rfl,
    fun _ _ _ => rfl,
    fun _ _ _ => rfl,
    fun _ _ _ _ => rfl,
    step_box,
    fun _ _ _ => rfl,
    fun _ _ _ => rfl,
    fun _ _ _ => rfl,
    step_store,
    fun _ _ _ _ _ => rfl,
    fun _ _ _ _ _ _ => rfl,
    step_buildSlice,
    step_makeSlice,
    fun _ _ _ _ _ _ _ => rfl,
    step_call,
    fun _ _ _ => rfl,
    step_builtin,
    fun _ _ _ _ _ _ _ => rfl,
    fun _ _ _ _ _ _ _ _ _ => rfl,
    fun _ _ _ => rfl,
    fun _ _ _ _ _ _ _ => rfl,
    fun _ => rfl,
    fun _ _ _ _ _ _ _ => rfl,
    fun _ _ _ _ _ _ _ => rfl,
    fun _ _ _ _ _ _ _ _ _ _ => rfl,
    fun _ _ _ _ _ _ _ _ _ _ => rfl,
    fun _ _ _ _ _ _ _ _ _ _ => rfl,
    fun _ _ _ _ _ _ _ _ => rfl,
    step_typeAssert⟩

end Go.Proofs.YtcdnooalfkbmgaaDoor.Gw
