/- What was written and is written no more is a list: where a call has come to its end, arrays of its own, reached from what it gives, are frozen. Regions whose order is drawn, where two operations that are unordered don't go together: each order is looked at, and what both come to. What comes in, as it is read, as abstract values: nothing of it is owned. -/
import Derived.Test.YtpfdoffnpkokhaaQ4
import GoSem.ClaimChange
import Derived.ChangeOld

namespace Go.Proofs.Ytpfdoffnpkokhaa.Gw
open Go
set_option linter.unusedSimpArgs false

section
variable (st : St) (m : Nat)
mutual
inductive Thaw : V → V → Prop
  | same (v : V) : Thaw v v
  | arr {o n : Nat} {e : TypeId} {sz : Nat} {rows rows' : List (List V)} (hm : m ≤ o) (h : st[o]? = some (.arr e sz rows)) (hn : rows.length = n) (hr : ThawR rows rows') : Thaw (.arr o n) (.lst sz none rows')
  | agg {l l' : List V} (h : ThawL l l') : Thaw (.agg l) (.agg l')
  | tup {l l' : List V} (h : ThawL l l') : Thaw (.tup l) (.tup l')
inductive ThawL : List V → List V → Prop
  | nil : ThawL [] []
  | cons {x y : V} {xs ys : List V} (h : Thaw x y) (k : ThawL xs ys) : ThawL (x :: xs) (y :: ys)
inductive ThawR : List (List V) → List (List V) → Prop
  | nil : ThawR [] []
  | cons {x y : List V} {xs ys : List (List V)} (h : ThawL x y) (k : ThawR xs ys) : ThawR (x :: xs) (y :: ys)
end
end

theorem ThawL.refl {st : St} {m : Nat} : ∀ l : List V, ThawL st m l l
  | [] => .nil
  | x :: l => .cons (.same x) (ThawL.refl l)

open Classical in
/-- Blocks that are written no more. -/
noncomputable def G.melt (g : G) (F : Nat → Prop) : G := { g with own := fun b => if F b then none else g.own b }

theorem Ext.melt (g : G) (w : World) (F : Nat → Prop) : Ext g w (g.melt F) w where
  os := rfl
  tape := rfl
  output := rfl
  size := Nat.le_refl _
  n := Nat.le_refl _
  pb := fun _ _ => rfl
  len := fun _ _ => Nat.le_refl _
  tv := fun _ _ _ => rfl
  free := fun b _ ho => ⟨rfl, by simp only [G.melt]; split <;> simp [ho]⟩
  kept := fun b k _ ho => ⟨fun _ _ => rfl, fun k' hk => by
    simp only [G.melt] at hk
    split at hk
    · cases hk
    · rw [ho] at hk; cases hk; exact Nat.le_refl _⟩

/-- The blocks of the entries behind. -/
def Behind (g : G) (st : St) (m : Nat) (b : Nat) : Prop := ∃ i e, m ≤ i ∧ st[i]? = some e ∧ blkOf g i e = some b

section
variable {T : Nat → TI} {g : G} {w : World} {st : St} {m : Nat}

theorem Thaw.simAll (hS : SimSt T g st w) :
    (∀ {x y : V}, Thaw st m x y → ∀ v, SimV g w x v → SimV (g.melt (Behind g st m)) w y v) := by
  have hx := Ext.melt g w (Behind g st m)
  intro x y h
  refine Thaw.rec (motive_1 := fun x y _ => ∀ v, SimV g w x v → SimV (g.melt (Behind g st m)) w y v)
    (motive_2 := fun x y _ => x.length = y.length ∧ ∀ vs, SimVs g w x vs → SimVs (g.melt (Behind g st m)) w y vs)
    (motive_3 := fun x y _ => x.length = y.length ∧ (∀ sz : Nat, (∀ r ∈ x, r.length = sz) → ∀ r ∈ y, r.length = sz) ∧ ∀ vs, SimVs g w x.flatten vs → SimVs (g.melt (Behind g st m)) w y.flatten vs) ?_ ?_ ?_ ?_ ?_ ?_ ?_ ?_ h
  · intro v u hu; exact hu.ext hx
  · intro o n e sz rows rows' hm ho hn _ ih v hv
    obtain ⟨ih1, ih2, ih3⟩ := ih
    simp only [SimV] at hv ⊢
    obtain ⟨h1, h2, h3, _⟩ := hv
    have he := hS.ent o _ ho
    simp only [SimE] at he
    obtain ⟨e1, e2, xs, ⟨t1, t2, t3⟩, e4, e5⟩ := he
    subst hn
    have hval := h3 t1
    rcases t3 with ⟨t3, t4⟩ | ⟨b, cap, cur, k1, k2, k3, k4, k5, k6, k7⟩
    · have h0 : rows' = [] := List.eq_nil_of_length_eq_zero (by omega)
      subst h0
      exact ⟨none, 0, by rw [← hval, t4]; rfl, by simp, by simp [maxLen], by simp, .inl rfl, (fun k hk => by cases hk), by simp [SimRows]⟩
    · have hF : Behind g st m b := ⟨o, _, hm, ho, by simp only [blkOf, k1, Value.ownBlock]⟩
      refine ⟨some ⟨b, 0, none⟩, cap, by rw [← hval, k1, ih1], by omega, k5, by simp, .inr rfl, (fun k hk => by cases hk), ?_⟩
      have hxs : ∀ (j : Nat) (u : Value), xs[j]? = some u → cur[j]? = some u := by
        intro j u hj
        rw [← k7] at hj
        have hlt := (List.getElem?_eq_some_iff.1 hj).1
        rw [List.length_take] at hlt
        rw [List.getElem?_take_of_lt (by omega)] at hj
        simpa using hj
      have := at_of_block (g := g.melt (Behind g st m)) k3 e5 hxs (fun k hk => by simp only [G.melt, if_pos hF] at hk; cases hk) rows'.flatten xs 0 (ih3 xs e4) (fun j u hj => by simpa using hj)
      exact rows_of_at rows' 0 (ih2 sz e2) this
  · intro l l' _ ih v hv
    simp only [SimV] at hv ⊢
    obtain ⟨vs, h1, h2, h3⟩ := hv
    exact ⟨vs, h1, ih.2 vs h2, h3⟩
  · intro l l' _ ih v hv
    simp only [SimV] at hv ⊢
    obtain ⟨vs, h1, h2⟩ := hv
    exact ⟨vs, h1, ih.2 vs h2⟩
  · exact ⟨rfl, fun vs h => by simpa [SimVs] using h⟩
  · intro x y xs ys _ _ ih1 ih2
    refine ⟨by simp [ih2.1], fun vs h => ?_⟩
    simp only [SimVs] at h ⊢
    obtain ⟨v, r, h1, h2, h3⟩ := h
    exact ⟨v, r, h1, ih1 v h2, ih2.2 r h3⟩
  · exact ⟨rfl, fun _ h => h, fun vs h => by simpa [SimVs] using h⟩
  · intro x y xs ys _ _ ih1 ih2
    have app : ∀ (a b : List V) (vs : List Value), SimVs g w (a ++ b) vs → ∃ u r, vs = u ++ r ∧ SimVs g w a u ∧ SimVs g w b r := by
      intro a
      induction a with
      | nil => intro b vs h; exact ⟨[], vs, rfl, by simp [SimVs], h⟩
      | cons a l ih =>
        intro b vs h
        simp only [List.cons_append, SimVs] at h
        obtain ⟨v, r, rfl, h2, h3⟩ := h
        obtain ⟨u, r', rfl, h4, h5⟩ := ih b r h3
        exact ⟨v :: u, r', rfl, by simp only [SimVs]; exact ⟨v, u, rfl, h2, h4⟩, h5⟩
    have join : ∀ (g : G) (a b : List V) (u r : List Value), SimVs g w a u → SimVs g w b r → SimVs g w (a ++ b) (u ++ r) := by
      intro g a
      induction a with
      | nil => intro b u r h k; simp only [SimVs] at h; subst h; exact k
      | cons a l ih =>
        intro b u r h k
        simp only [SimVs] at h
        obtain ⟨v, u', rfl, h2, h3⟩ := h
        simp only [List.cons_append, SimVs]
        exact ⟨v, u' ++ r, rfl, h2, ih b u' r h3 k⟩
    refine ⟨by simp [ih2.1], fun sz h r hr => ?_, fun vs h => ?_⟩
    · rcases List.mem_cons.1 hr with rfl | hr
      · rw [← ih1.1]; exact h x (by simp)
      · exact ih2.2.1 sz (fun r hr => h r (by simp [hr])) r hr
    · rw [List.flatten_cons] at h ⊢
      obtain ⟨u, r, rfl, h1, h2⟩ := app _ _ _ h
      exact join _ _ _ _ _ (ih1.2 u h1) (ih2.2.2 r h2)

theorem SimSt.melt {st0 ex : St} (hS : SimSt T g (st0 ++ ex) w) (h0 : SimSt T (g.cut st0.length) st0 w) : SimSt T ((g.melt (Behind g (st0 ++ ex) st0.length)).cut st0.length) st0 w where
  n := rfl
  ent := fun i e hi => by
    have hlt := (List.getElem?_eq_some_iff.1 hi).1
    have hx : Ext (g.cut st0.length) w ((g.melt (Behind g (st0 ++ ex) st0.length)).cut st0.length) w :=
      ⟨rfl, rfl, rfl, Nat.le_refl _, Nat.le_refl _, fun _ _ => rfl, fun _ _ => Nat.le_refl _, fun _ _ _ => rfl, (Ext.melt g w (Behind g (st0 ++ ex) st0.length)).free, (Ext.melt g w (Behind g (st0 ++ ex) st0.length)).kept⟩
    refine (h0.ent i e hi).keep hx rfl rfl rfl fun b hb => ⟨rfl, ?_⟩
    have hn : ¬ Behind g (st0 ++ ex) st0.length b := by
      rintro ⟨j, e', hj, he', hb'⟩
      have hi' : (st0 ++ ex)[i]? = some e := by rw [List.getElem?_append_left hlt]; exact hi
      have := hS.one i j e e' b hi' he' (by cases e <;> exact hb) hb'
      omega
    simp only [G.cut, G.melt, if_neg hn]
  one := fun i j ei ej b hi hj k1 k2 => h0.one i j ei ej b hi hj (by cases ei <;> exact k1) (by cases ej <;> exact k2)

/-- What a call comes to, frozen. -/
theorem VCalls.freeze {P : Program} {f : FuncId} {args : List V} {st0 : St} {Q : VEnd → St → Prop} {X : V} (h : VCalls P T f args st0 Q)
    (hq : ∀ r st', Q r st' → ∃ v u ex, r = .ret v ∧ st' = st0 ++ ex ∧ Thaw st' st0.length v u ∧ wk u X ∧ X.lt st0.length) : VCalls P T f args st0 fun r s => r = .ret X ∧ s = st0 :=
  ⟨h.1, fun g w vals h1 h2 => (h.2 g w vals h1 h2).mono fun e w' ⟨r, s, g', k1, k2, k3, k4⟩ => by
    obtain ⟨v, u, ex, rfl, rfl, ht, hw, hl⟩ := hq r s k1
    obtain ⟨val, rfl, hv⟩ := k2
    have hm := ht.simAll k3 val hv
    have hx := k4.trans (Ext.melt g' w' (Behind g' (st0 ++ ex) st0.length))
    exact ⟨.ret X, st0, (g'.melt (Behind g' (st0 ++ ex) st0.length)).cut st0.length, ⟨rfl, rfl⟩, ⟨val, rfl, (hw.sim (nil0_no _) hm).cut hl⟩, k3.melt (k3.drop h1.okSt), hx.cut (by rw [h1.n]; exact Nat.le_refl _)⟩⟩
end

/-- A box that is written no more: a pointer to it is one to cells that stay. -/
def meltE (t : Nat) (cs : List V) : List (Nat × Bool × V) → List (Nat × Bool × V)
  | [] => []
  | (k, b, v) :: r => (k, b, if k = t then .ref cs else v) :: meltE t cs r
theorem meltE_find (t : Nat) (cs : List V) : ∀ (g : List (Nat × Bool × V)) (k : Nat), Gw.find (meltE t cs g) k = (Gw.find g k).map fun x => (x.1, if k = t then .ref cs else x.2)
  | [], k => rfl
  | (j, b, v) :: r, k => by
    simp only [meltE, Gw.find]
    by_cases e : j = k
    · subst e; simp
    · simp only [e, if_false]
      exact meltE_find t cs r k

theorem vmelt {P : Program} {T : Nat → TI} {L : List Nat} {ds : List Deferred} {c : Code} {N : Nat} {g1 l : List (Nat × Bool × V)} {st : St} {Q : VExit → Env → St → Prop} (t o : Nat) (cs : List V) (hg : Gw.find g1 t = some (true, .ptr o 0)) (ho : st[o]? = some (.box cs))
    (h : VC P T L ds c ⟨N, meltE t cs g1, []⟩ (st.set o .gone) Q) : VC P T L ds c ⟨N, g1, l⟩ st Q := by
  intro g w a hst henv hok hds
  have hx := Ext.melt g w (fun b => b = g.pb o)
  have hbox := hst.ent o _ ho
  simp only [SimE] at hbox
  obtain ⟨b1, vs, ty, b2, b3, b4⟩ := hbox
  have hon : o < g.n := by rw [hst.n]; exact (List.getElem?_eq_some_iff.1 ho).1
  have look1 : ∀ k x, Gw.find g1 k = some x → (⟨N, g1, l⟩ : Env).look k = some x := fun k x hk => (hok k x hk).2
  have hcell : SimAt (g.melt fun b => b = g.pb o) w ⟨g.pb o, 0, none⟩ cs :=
    at_of_block (vs := vs) b2 b4 (fun j u hj => by simpa using hj) (fun k hk => by simp [G.melt] at hk) cs vs 0 (b3.ext hx) (fun j u hj => by simpa using hj)
  refine wp_mono (h (g.melt fun b => b = g.pb o) w a ⟨?_, ?_, ?_⟩ ⟨henv.1, fun k b v hk => ?_⟩ (fun k x hk => ?_) hds) fun e a' u hL => hL.ext hx
  · simp only [List.length_set]; exact hst.n
  · intro i e hi
    by_cases e' : o = i
    · subst e'
      rw [List.getElem?_set_self (by rw [← hst.n]; exact hon)] at hi
      cases hi
      trivial
    · rw [List.getElem?_set_ne e'] at hi
      have hin : i < g.n := by rw [hst.n]; exact (List.getElem?_eq_some_iff.1 hi).1
      refine (hst.ent i e hi).keep hx rfl rfl rfl fun b hb => ⟨rfl, ?_⟩
      have : b ≠ g.pb o := by
        intro hb'
        subst hb'
        exact e' (hst.one o i _ e _ ho hi rfl hb)
      simp only [G.melt, if_neg this]
  · intro i j ei ej b hi hj k1 k2
    have gone : ∀ (i : Nat) (ei : Ent), (st.set o .gone)[i]? = some ei → blkOf (g.melt fun b => b = g.pb o) i ei = some b → st[i]? = some ei ∧ blkOf g i ei = some b := by
      intro i ei hi hk
      by_cases e' : o = i
      · subst e'
        rw [List.getElem?_set_self (by rw [← hst.n]; exact hon)] at hi
        cases hi
        simp [blkOf] at hk
      · rw [List.getElem?_set_ne e'] at hi
        exact ⟨hi, by cases ei <;> exact hk⟩
    obtain ⟨i1, i2⟩ := gone i ei hi k1
    obtain ⟨j1, j2⟩ := gone j ej hj k2
    exact hst.one i j ei ej b i1 j1 i2 j2
  · simp only [Env.look, Gw.find] at hk
    rw [meltE_find] at hk
    cases hf : Gw.find g1 k with
    | none => rw [hf] at hk; simp at hk
    | some x =>
      rw [hf] at hk
      simp only [Option.map_some, Option.some.injEq, Prod.mk.injEq] at hk
      have h1 := henv.2 k x.1 x.2 (by rw [look1 k x hf])
      obtain ⟨rfl, rfl⟩ := hk
      by_cases e : k = t
      · subst e
        rw [hg] at hf
        cases hf
        simp only [if_true, SimV] at h1 ⊢
        exact ⟨_, h1.2, rfl, hcell⟩
      · rw [if_neg e]
        cases hx1 : x.1 with
        | true => rw [hx1] at h1; simp only [if_true] at h1 ⊢; exact h1.ext hx
        | false => rw [hx1] at h1; simpa using h1
  · rw [meltE_find] at hk
    refine ⟨?_, by simp only [Env.look, Gw.find]; rw [meltE_find]; exact hk⟩
    cases hf : Gw.find g1 k with
    | none => rw [hf] at hk; simp at hk
    | some x => exact (hok k x hf).1

/-- What a call comes to may be taken for more. -/
theorem VCalls.relax {P : Program} {T : Nat → TI} {f : FuncId} {args : List V} {st : St} {Q : VEnd → St → Prop} (h : VCalls P T f args st fun r s => ∃ v X s', r = .ret v ∧ wk v X ∧ wkSt s s' ∧ Q (.ret X) s') : VCalls P T f args st Q :=
  ⟨h.1, fun g w vals h1 h2 => (h.2 g w vals h1 h2).mono fun e w' ⟨r, s, g', ⟨v, X, s', e1, e2, e3, e4⟩, k2, k3, k4⟩ => by
    subst e1
    obtain ⟨val, rfl, hv⟩ := k2
    exact ⟨.ret X, s', g', e4, ⟨val, rfl, e2.sim (nil0_no g') hv⟩, k3.wk e3, k4⟩⟩
theorem VCalls.st {P : Program} {T : Nat → TI} {f : FuncId} {args : List V} {st st' : St} {Q : VEnd → St → Prop} (h : VCalls P T f args st' Q) (hw : wkSt st st') : VCalls P T f args st Q :=
  ⟨h.1, fun g w vals h1 h2 => h.2 g w vals (h1.wk hw) h2⟩
/-- A call of what is told by a relation, in a state that may be taken for more. -/
theorem useQS {P : Program} {T : Nat → TI} {an : Nat → Nat} {L : List Nat} {ds : List Deferred} {f : FuncId} {args args' : List V} {st st' : St} {Q0 : VEnd → St → Prop} {dst : Option Tmp} {gc : Bool} {all : Array Oper} {os : List Oper} {env : Env} {k : Kont} {Q : VExit → Env → St → Prop}
    (h : VCalls P T f args' st' Q0) (hw : wkL args args') (hs : wkSt st st') (h3 : ∀ v s, ¬ Q0 (.panic v) s) (h2 : ∀ X s, X.fit → Q0 (.ret X) s → oK P T an L ds all os (env.put L dst gc X) s k Q) : VCalls P T f args st (aK P T an L ds dst gc all os env k Q) :=
  ((h.args hw).st hs).monoF fun r s hf hq => by
    cases r with
    | ret X => exact h2 X s hf hq
    | panic v => exact absurd hq (h3 v s)
end Go.Proofs.Ytpfdoffnpkokhaa.Gw

namespace Go.Proofs.Ytpfdoffnpkokhaa.Gw
open Go
set_option linter.unusedSimpArgs false

section
variable {P : Program} {T : Nat → TI} {an : Nat → Nat} {L : List Nat} {ds : List Deferred}

def goodB (all : Array Oper) (cls : List Nat) (ex : Nat → Nat → Bool) (x i : Nat) : Bool := reach all 3 x i || indep all (atC all cls x) (atC all cls i) || ex x i
def backB (all : Array Oper) : Bool := (List.range all.size).all fun j => match all[j]? with | none => false | some o => o.after.all fun e => !Region.binds .any e || Nat.blt e.on j
def noCallB (o : Oper) : Bool := match o.op with | .call c => (match c.callee with | .builtin _ => true | _ => false) | _ => true
def oneEx (p q : Nat) (x i : Nat) : Bool := x == p && i == q

structure LeftL (all : Array Oper) (listed : Array Bool) (rs : List Nat) : Prop where
  nodup : rs.Nodup
  mem : ∀ i, i ∈ rs ↔ i < all.size ∧ listed.getD i true = false
  size : listed.size = all.size
  down : ∀ j o, all[j]? = some o → listed.getD j true = true → ∀ e ∈ o.after.toList, Region.binds .any e = true → listed.getD e.on false = true

theorem reach_listedL {all : Array Oper} {listed : Array Bool} {rs : List Nat} (hl : LeftL all listed rs) : ∀ (n x i : Nat) (o : Oper), all[i]? = some o → (∀ e ∈ o.after.toList, Region.binds .any e = true → listed.getD e.on false = true) → reach all n x i = true → listed.getD x false = true
  | 0, x, i, o, ho, ha, h => by cases h
  | n + 1, x, i, o, ho, ha, h => by
    simp only [reach, ho, ← Array.any_toList, List.any_eq_true, Bool.and_eq_true, Bool.or_eq_true, beq_iff_eq] at h
    obtain ⟨e, he, hb, h⟩ := h
    have h1 := ha e he hb
    rcases h with h | h
    · rw [← h]; exact h1
    · have hlt : e.on < listed.size := by
        rcases Nat.lt_or_ge e.on listed.size with h2 | h2
        · exact h2
        · simp [Array.getD_eq_getD_getElem?, h2] at h1
      have hlt2 : e.on < all.size := by rw [← hl.size]; exact hlt
      refine reach_listedL hl n x e.on _ (Array.getElem?_eq_getElem hlt2) (hl.down e.on _ (Array.getElem?_eq_getElem hlt2) (by rw [getD_of_size hlt true false]; exact h1)) h

/-- What is ready is unlisted, and what it stands behind is listed. -/
theorem ready_spec {all : Array Oper} {listed : Array Bool} {i : Nat} (hi : i ∈ Region.ready .any all listed) : ∃ h : i < all.size, listed.getD i true = false ∧ ∀ e ∈ all[i].after.toList, Region.binds .any e = true → listed.getD e.on false = true := by
  unfold Region.ready at hi
  simp only [List.mem_filter, List.mem_range, Bool.and_eq_true, Bool.not_eq_true'] at hi
  obtain ⟨hi1, hi2, hi3⟩ := hi
  rw [Array.getElem?_eq_getElem hi1] at hi3
  simp only [Option.map_some, Option.getD_some, ← Array.all_toList, List.all_eq_true, Bool.or_eq_true, Bool.not_eq_true'] at hi3
  exact ⟨hi1, hi2, fun e he hb => (hi3 e he).resolve_left (by rw [hb]; simp)⟩

theorem LeftL.next {all : Array Oper} {listed : Array Bool} {pre post : List Nat} {i : Nat} (hl : LeftL all listed (pre ++ i :: post)) (hi : i ∈ Region.ready .any all listed) : LeftL all (listed.setIfInBounds i true) (pre ++ post) := by
  obtain ⟨hi1, hi2, hafter⟩ := ready_spec hi
  have hlsz : i < listed.size := by rw [hl.size]; exact hi1
  have hget : ∀ j b, (listed.setIfInBounds i true).getD j b = if i = j then true else listed.getD j b := by
    intro j b
    simp only [Array.getD_eq_getD_getElem?, Array.getElem?_setIfInBounds]
    by_cases hj : i = j
    · subst hj; simp [hlsz]
    · simp [hj]
  have hnd := hl.nodup
  have hnin : i ∉ pre ++ post := by
    intro h
    have := List.nodup_append.1 hnd
    rcases List.mem_append.1 h with h | h
    · exact this.2.2 i h i (by simp) rfl
    · exact (List.nodup_cons.1 this.2.1).1 h
  refine ⟨hnd.sublist (by simp), fun j => ?_, by simp [hl.size], fun j o ho hj e he hb => ?_⟩
  · rw [hget]
    by_cases hj : i = j
    · subst hj
      simp only [if_true, reduceCtorEq, and_false, iff_false]
      exact hnin
    · rw [if_neg hj, ← hl.mem j]
      simp only [List.mem_append, List.mem_cons]
      constructor
      · rintro (h | h)
        · exact .inl h
        · exact .inr (.inr h)
      · rintro (h | h | h)
        · exact .inl h
        · exact absurd h.symm hj
        · exact .inr h
  · rw [hget] at hj ⊢
    have hlist : listed.getD e.on false = true := by
      by_cases hji : i = j
      · subst hji
        rw [Array.getElem?_eq_getElem hi1] at ho
        cases ho
        exact hafter e he hb
      · rw [if_neg hji] at hj
        exact hl.down j o ho hj e he hb
    split
    · rfl
    · exact hlist

theorem hmonoQ {Q : VExit → Env → St → Prop} : ∀ e1 env1 s1, Qe L (Qe L Q) e1 env1 s1 → Qe L Q e1 env1 s1 := by
  rintro e1 env1 s1 ⟨e2, q1, q2, e3, q3, q4, q5⟩
  exact ⟨e3, ⟨q3.1.trans q1.1, fun t => (q3.2 t).trans (q1.2 t)⟩, q4, q5⟩

/-- One that is ready, ahead of all others. -/
theorem pick {all : Array Oper} {cls : List Nat} {ex : Nat → Nat → Bool} {Q : VExit → Env → St → Prop} {rs : List Nat} {listed : Array Bool} {env : Env} {st : St} {i : Nat} (hl : LeftL all listed rs) (hg : rs.Pairwise fun x i => goodB all cls ex x i = true)
    (hi : i ∈ Region.ready .any all listed) (hex : ∀ x ∈ rs, ex x i = false) (hok : EnvOK L env) (h : dOps P T an L all (rs.map (atC all cls)) env st (Qe L Q)) (hi1 : i < all.size) :
    ∃ pre post, rs = pre ++ i :: post ∧ ∃ gc v st', guardV all env all[i].guard = some gc ∧ okDstB env.N all[i].dst ∧ dFun P T (stepOp T an all[i].dst all[i].op gc env st) gc (cls.getD i 0) st v st' ∧
      dOps P T an L all ((pre ++ post).map (atC all cls)) (env.put L all[i].dst gc v) st' (Qe L Q) := by
  obtain ⟨_, hi2, hafter⟩ := ready_spec hi
  have himem := (hl.mem i).2 ⟨hi1, hi2⟩
  obtain ⟨pre, post, hsplit⟩ := List.append_of_mem himem
  refine ⟨pre, post, hsplit, ?_⟩
  rw [hsplit] at hg
  have hpre : ∀ x ∈ pre, goodB all cls ex x i = true := fun x hx => (List.pairwise_append.1 hg).2.2 x hx i (by simp)
  have hind : ∀ x ∈ pre.map (atC all cls), indep all x (atC all cls i) = true := by
    intro y hy
    obtain ⟨x, hx, rfl⟩ := List.mem_map.1 hy
    have hxi := hpre x hx
    have hxr : x ∈ rs := by rw [hsplit]; simp [hx]
    simp only [goodB, Bool.or_eq_true, hex x hxr, Bool.false_eq_true, or_false] at hxi
    refine hxi.resolve_left fun hr => ?_
    have h1 := reach_listedL hl 3 x i _ (Array.getElem?_eq_getElem hi1) hafter hr
    have h2 := (hl.mem x).1 hxr
    rw [getD_of_size (by rw [hl.size]; exact h2.1) false true, h2.2] at h1
    cases h1
  rw [hsplit, List.map_append, List.map_cons] at h
  have h := dOps_front (atC all cls i) (post.map (atC all cls)) (pre.map (atC all cls)) env st hind hok h
  have hat : (atC all cls i) = (all[i], cls.getD i 0) := by simp [atC, Array.getD_eq_getD_getElem?, hi1]
  rw [hat] at h
  simp only [dOps] at h
  unfold bindO at h
  split at h
  case h_2 => exact h.elim
  rename_i gc hgc
  obtain ⟨hd, h⟩ := h
  obtain ⟨v, st', hf, h⟩ := dStep_fun h
  have h := dOps_mono hmonoQ _ _ _ h
  rw [← List.map_append] at h
  exact ⟨gc, v, st', hgc, hd, hf, h⟩

theorem exists_min : ∀ {rs : List Nat}, rs ≠ [] → ∃ r ∈ rs, ∀ x ∈ rs, r ≤ x
  | [], h => absurd rfl h
  | [a], _ => ⟨a, by simp, by simp⟩
  | a :: b :: r, _ => by
    obtain ⟨m, h1, h2⟩ := exists_min (rs := b :: r) (by simp)
    rcases Nat.le_total a m with h | h
    · refine ⟨a, by simp, fun x hx => ?_⟩
      rcases List.mem_cons.1 hx with rfl | hx
      · exact Nat.le_refl _
      · exact Nat.le_trans h (h2 x hx)
    · refine ⟨m, List.mem_cons_of_mem _ h1, fun x hx => ?_⟩
      rcases List.mem_cons.1 hx with rfl | hx
      · exact h
      · exact h2 x hx

/-- Something is always ready. -/
theorem some_ready {all : Array Oper} (hE : backB all = true) {listed : Array Bool} {rs : List Nat} (hl : LeftL all listed rs) (hne : rs ≠ []) : Region.ready .any all listed ≠ [] := by
  intro hr
  obtain ⟨r, hrm, hmin⟩ := exists_min hne
  have hr1 := (hl.mem r).1 hrm
  simp only [backB, List.all_eq_true, List.mem_range] at hE
  have hin : r ∈ Region.ready .any all listed := by
    unfold Region.ready
    simp only [List.mem_filter, List.mem_range, Bool.and_eq_true, Bool.not_eq_true']
    refine ⟨hr1.1, hr1.2, ?_⟩
    rw [Array.getElem?_eq_getElem hr1.1]
    simp only [Option.map_some, Option.getD_some, ← Array.all_toList, List.all_eq_true, Bool.or_eq_true, Bool.not_eq_true']
    intro e he
    have h1 := hE r hr1.1
    rw [Array.getElem?_eq_getElem hr1.1] at h1
    simp only [← Array.all_toList, List.all_eq_true, Bool.or_eq_true, Bool.not_eq_true', Nat.blt_eq] at h1
    rcases h1 e he with h2 | h2
    · exact .inl h2
    · right
      have hlt : e.on < listed.size := by rw [hl.size]; omega
      rw [getD_of_size hlt false true]
      cases hc : listed.getD e.on true with
      | true => rfl
      | false =>
        have := hmin e.on ((hl.mem e.on).2 ⟨by omega, hc⟩)
        omega
  rw [hr] at hin
  simp at hin

theorem draw_soundL (hT : Tab P T) {all : Array Oper} {cls : List Nat} (hE : backB all = true) {Q : VExit → Env → St → Prop} {g0 : G} {w0 : World} :
    ∀ (n : Nat) (rs : List Nat) (listed : Array Bool) (env : Env) (st : St) (g : G) (w : World) (a : Act), rs.length = n → LeftL all listed rs → (rs.Pairwise fun x i => goodB all cls (fun _ _ => false) x i = true) → Ext g0 w0 g w → SimSt T g st w → SimEnv g w env a → EnvOK L env → a.defers = ds →
      dOps P T an L all (rs.map (atC all cls)) env st (Qe L Q) → wpAny P .any all (Lift T L ds g0 w0 Q) n listed a w := by
  intro n
  induction n with
  | zero =>
    intro rs listed env st g w a hn hl hg hx hst henv hok hds h
    have : rs = [] := List.eq_nil_of_length_eq_zero hn
    subst this
    refine ⟨?_, ?_⟩
    · unfold Region.ready
      rw [List.filter_eq_nil_iff]
      intro i hi hr
      have hi' : i < all.size := by simpa using hi
      have : listed.getD i true = false := by simp only [Bool.and_eq_true, Bool.not_eq_true'] at hr; exact hr.1
      have := (hl.mem i).2 ⟨hi', this⟩
      simp at this
    · obtain ⟨env0, q1, q2, q3⟩ := h
      exact ⟨.normal, env0, st, g, q3, rfl, ⟨henv.1.trans q1.1.symm, fun t c v hv => henv.2 t c v (by rw [← q1.2 t]; exact hv)⟩, q2, hds, hst, hx⟩
  | succ n ih =>
    intro rs listed env st g w a hn hl hg hx hst henv hok hds h
    refine ⟨fun hr => (some_ready hE hl (by intro e; rw [e] at hn; simp at hn) hr).elim, fun i hi => ?_⟩
    obtain ⟨hi1, _⟩ := ready_spec hi
    obtain ⟨pre, post, hsplit, gc, v, st', hgc, hd, hf, hrest⟩ := pick hl hg hi (fun _ _ => rfl) hok h hi1
    simp only [wpOp, Array.getElem?_eq_getElem hi1]
    refine dstep_sem hT hst henv hok hds hgc hd hf fun g' w' a' k1 k2 k3 k4 k5 => ?_
    subst hsplit
    exact ih (pre ++ post) _ _ st' g' w' a' (by simp at hn ⊢; omega) (hl.next hi) (hg.sublist (by simp)) (hx.trans k1) k2 k3 k4 k5 hrest

/-- A step that is no call has one outcome. -/
theorem dFun_one {o : Oper} (hc : noCallB o = true) {gc : Bool} {cl : Nat} {env : Env} {st : St} {v v' : V} {s s' : St} (h : dFun P T (stepOp T an o.dst o.op gc env st) gc cl st v s) (h' : dFun P T (stepOp T an o.dst o.op gc env st) gc cl st v' s') : v = v' ∧ s = s' := by
  have hnc : ∀ f args, stepOp T an o.dst o.op gc env st ≠ .call f args := by
    intro f args e
    unfold noCallB at hc
    unfold stepOp pureStep memStep at e
    split at e
    · split at e <;> cases e
    · cases e
    · rename_i c hop
      rw [hop] at hc
      simp only at hc
      split at hc
      · rename_i b hb
        rw [hb] at e
        simp only at e
        split at e
        · cases e
        · split at e
          · cases e
          · split at e <;> cases e
      · cases hc
    · split at e
      · cases e
      · split at e
        · cases e
        · split at e <;> cases e
  generalize hr : stepOp T an o.dst o.op gc env st = r at h h' hnc
  unfold dFun at h h'
  cases r with
  | pure v0 side => exact ⟨h.1.trans h'.1.symm, h.2.1.trans h'.2.1.symm⟩
  | mem v0 s0 side => exact ⟨h.1.trans h'.1.symm, h.2.1.trans h'.2.1.symm⟩
  | call f args => exact absurd rfl (hnc f args)
  | panic v0 => exact h.elim
  | fail => exact h.elim

theorem draw_sound2 (hT : Tab P T) {all : Array Oper} {cls : List Nat} (hE : backB all = true) (hC : ∀ i (h : i < all.size), noCallB all[i] = true) {p q : Nat} (hpq : p ≠ q) {Q : VExit → Env → St → Prop} {g0 : G} {w0 : World} :
    ∀ (n : Nat) (rs rs' : List Nat) (listed : Array Bool) (env : Env) (st : St) (g : G) (w : World) (a : Act), rs.length = n → rs'.length = n → LeftL all listed rs → LeftL all listed rs' → (rs.Pairwise fun x i => goodB all cls (oneEx p q) x i = true) → (rs'.Pairwise fun x i => goodB all cls (oneEx q p) x i = true) →
      Ext g0 w0 g w → SimSt T g st w → SimEnv g w env a → EnvOK L env → a.defers = ds →
      dOps P T an L all (rs.map (atC all cls)) env st (Qe L Q) → dOps P T an L all (rs'.map (atC all cls)) env st (Qe L Q) → wpAny P .any all (Lift T L ds g0 w0 Q) n listed a w := by
  intro n
  induction n with
  | zero =>
    intro rs rs' listed env st g w a hn hn' hl hl' hg hg' hx hst henv hok hds h h'
    have : rs = [] := List.eq_nil_of_length_eq_zero hn
    subst this
    exact draw_soundL hT hE 0 [] listed env st g w a rfl hl .nil hx hst henv hok hds h
  | succ n ih =>
    intro rs rs' listed env st g w a hn hn' hl hl' hg hg' hx hst henv hok hds h h'
    refine ⟨fun hr => (some_ready hE hl (by intro e; rw [e] at hn; simp at hn) hr).elim, fun i hi => ?_⟩
    obtain ⟨hi1, hi2, _⟩ := ready_spec hi
    have drop : ∀ {l : List Nat} {ex : Nat → Nat → Bool}, (l.Pairwise fun x i => goodB all cls ex x i = true) → (∀ x ∈ l, ∀ y ∈ l, ex x y = false) → l.Pairwise fun x i => goodB all cls (fun _ _ => false) x i = true := by
      intro l ex hp he
      refine List.Pairwise.imp_of_mem (fun {x y} hx hy hgd => ?_) hp
      simp only [goodB, he x hx y hy] at hgd ⊢
      exact hgd
    simp only [wpOp, Array.getElem?_eq_getElem hi1]
    by_cases hip : i = p
    · subst hip
      obtain ⟨pre, post, hsplit, gc, v, st', hgc, hd, hf, hrest⟩ := pick hl hg hi (fun x _ => by simp [oneEx, hpq]) hok h hi1
      subst hsplit
      refine dstep_sem hT hst henv hok hds hgc hd hf fun g' w' a' k1 k2 k3 k4 k5 => ?_
      have hnx := hl.next hi
      refine draw_soundL hT hE n (pre ++ post) _ _ st' g' w' a' (by simp at hn ⊢; omega) hnx (drop (hg.sublist (by simp)) fun x hx y hy => ?_) (hx.trans k1) k2 k3 k4 k5 hrest
      have hlsz : i < listed.size := by rw [hl.size]; exact hi1
      have hxi : x ≠ i := by
        rintro rfl
        have := ((hnx.mem x).1 hx).2
        simp [Array.getD_eq_getD_getElem?, hlsz] at this
      simp [oneEx, hxi]
    · by_cases hiq : i = q
      · subst hiq
        obtain ⟨pre, post, hsplit, gc, v, st', hgc, hd, hf, hrest⟩ := pick hl' hg' hi (fun x _ => by simp [oneEx, hip]) hok h' hi1
        subst hsplit
        refine dstep_sem hT hst henv hok hds hgc hd hf fun g' w' a' k1 k2 k3 k4 k5 => ?_
        have hnx := hl'.next hi
        refine draw_soundL hT hE n (pre ++ post) _ _ st' g' w' a' (by simp at hn' ⊢; omega) hnx (drop (hg'.sublist (by simp)) fun x hx y hy => ?_) (hx.trans k1) k2 k3 k4 k5 hrest
        have hlsz : i < listed.size := by rw [hl.size]; exact hi1
        have hxi : x ≠ i := by
          rintro rfl
          have := ((hnx.mem x).1 hx).2
          simp [Array.getD_eq_getD_getElem?, hlsz] at this
        simp [oneEx, hxi]
      · obtain ⟨pre, post, hsplit, gc, v, st', hgc, hd, hf, hrest⟩ := pick hl hg hi (fun x _ => by simp [oneEx, hiq]) hok h hi1
        obtain ⟨pre', post', hsplit', gc', v', st'', hgc', hd', hf', hrest'⟩ := pick hl' hg' hi (fun x _ => by simp [oneEx, hip]) hok h' hi1
        rw [hgc] at hgc'
        cases hgc'
        obtain ⟨rfl, rfl⟩ := dFun_one (hC i hi1) hf hf'
        subst hsplit
        subst hsplit'
        refine dstep_sem hT hst henv hok hds hgc hd hf fun g' w' a' k1 k2 k3 k4 k5 => ?_
        exact ih (pre ++ post) (pre' ++ post') _ _ st' g' w' a' (by simp at hn ⊢; omega) (by simp at hn' ⊢; omega) (hl.next hi) (hl'.next hi) (hg.sublist (by simp)) (hg'.sublist (by simp)) (hx.trans k1) k2 k3 k4 k5 hrest hrest'

def pairB (all : Array Oper) (cls : List Nat) (ex : Nat → Nat → Bool) : List Nat → Bool
  | [] => true
  | x :: r => r.all (goodB all cls ex x) && pairB all cls ex r
theorem pairB_spec {all : Array Oper} {cls : List Nat} {ex : Nat → Nat → Bool} : ∀ {l : List Nat}, pairB all cls ex l = true → l.Pairwise fun x i => goodB all cls ex x i = true
  | [], _ => .nil
  | x :: r, h => by
    simp only [pairB, Bool.and_eq_true, List.all_eq_true] at h
    exact .cons h.1 (pairB_spec h.2)
def diffB : List Nat → Bool
  | [] => true
  | x :: r => r.all (fun y => !(x == y)) && diffB r
theorem diffB_spec : ∀ {l : List Nat}, diffB l = true → l.Nodup
  | [], _ => .nil
  | x :: r, h => by
    simp only [diffB, Bool.and_eq_true, List.all_eq_true, Bool.not_eq_true', beq_eq_false_iff_ne] at h
    exact .cons h.1 (diffB_spec h.2)
/-- Two operations alone don't go together; here are two orders, one for each. -/
def draw2B (all : Array Oper) (cls : List Nat) (ord : List Nat) (p q : Nat) : Bool :=
  backB all && !(p == q) && (List.range all.size).all (fun i => match all[i]? with | some o => noCallB o | none => true) && pairB all cls (oneEx p q) (List.range all.size) && pairB all cls (oneEx q p) ord &&
    (ord.length == all.size) && ord.all (fun i => Nat.blt i all.size) && diffB ord && (List.range all.size).all fun i => ord.contains i

def pickO (os : List Oper) (ord : List Nat) : List Oper := ord.map fun i => os.getD i default
def pickC (cls : List Nat) (ord : List Nat) : List Nat := ord.map fun i => cls.getD i 0
theorem pick_zip (os : List Oper) (cls : List Nat) : ∀ ord : List Nat, ord.map (atC os.toArray cls) = zipC (pickO os ord) (pickC cls ord)
  | [] => rfl
  | i :: ord => by
    simp only [List.map_cons, pickO, pickC, zipC]
    have := pick_zip os cls ord
    simp only [pickO, pickC] at this
    rw [this]
    congr 1
    simp [atC, Array.getD_eq_getD_getElem?, List.getD_eq_getElem?_getD]

theorem VC.draw2 (hT : Tab P T) (hm : P.follows .mixedOrders = true) {id : Nat} {os : List Oper} {cls ord : List Nat} {p q : Nat} {env : Env} {st : St} {Q : VExit → Env → St → Prop} (hB : draw2B os.toArray cls ord p q = true)
    (h : dOps P T an L os.toArray (zipC os cls) ⟨env.N, env.g, []⟩ st Q) (h' : dOps P T an L os.toArray (zipC (pickO os ord) (pickC cls ord)) ⟨env.N, env.g, []⟩ st Q) : VC P T L ds (.region id os.toArray true) env st Q := by
  intro g w a h1 h2 h3 h4
  refine wp_region_any hm ?_
  simp only [draw2B, Bool.and_eq_true, List.all_eq_true, List.mem_range, Bool.not_eq_true', beq_eq_false_iff_ne, beq_iff_eq, Nat.blt_eq, List.contains_iff_mem] at hB
  obtain ⟨⟨⟨⟨⟨⟨⟨⟨b1, b2⟩, b3⟩, b4⟩, b5⟩, b6⟩, b7⟩, b8⟩, b9⟩ := hB
  have hx := Ext.drew g w
  have henv : SimEnv g w ⟨env.N, env.g, []⟩ a := ⟨h2.1, fun t c v hv => h2.2 t c v (h3 t _ (by simpa [Env.look, find] using hv)).2⟩
  have hok : EnvOK L ⟨env.N, env.g, []⟩ := fun t x hx => ⟨(h3 t x hx).1, by simpa [Env.look, find] using hx⟩
  have h5 : SimSt T g st w.drew := h1.keep hx rfl (fun _ _ => rfl) fun b _ _ => ⟨rfl, rfl⟩
  have hd := dOps_same _ _ _ st ⟨rfl, fun _ => rfl⟩ hok h
  have hd' := dOps_same _ _ _ st ⟨rfl, fun _ => rfl⟩ hok h'
  rw [← zipC_eq] at hd
  rw [← pick_zip] at hd'
  have hfalse : ∀ i, i < os.length → (Array.replicate os.toArray.size false).getD i true = false := fun i hi => by simp [Array.getD_eq_getD_getElem?, Array.getElem?_replicate, hi]
  have hdown : ∀ j o, os.toArray[j]? = some o → (Array.replicate os.toArray.size false).getD j true = true → ∀ e ∈ o.after.toList, Region.binds .any e = true → (Array.replicate os.toArray.size false).getD e.on false = true := by
    intro j o ho hj
    have hlt : j < os.length := by simpa using (Array.getElem?_eq_some_iff.1 ho).1
    rw [hfalse j hlt] at hj
    cases hj
  have hl : LeftL os.toArray (Array.replicate os.toArray.size false) (List.range os.length) := by
    refine ⟨List.nodup_range, fun i => ?_, by simp, hdown⟩
    simp only [List.mem_range, List.size_toArray]
    exact ⟨fun hi => ⟨hi, hfalse i hi⟩, fun hi => hi.1⟩
  have hl' : LeftL os.toArray (Array.replicate os.toArray.size false) ord := by
    refine ⟨diffB_spec b8, fun i => ?_, by simp, hdown⟩
    simp only [List.size_toArray]
    exact ⟨fun hi => ⟨b7 i hi, hfalse i (b7 i hi)⟩, fun hi => b9 i hi.1⟩
  have := draw_sound2 hT b1 (fun i hi => by have := b3 i hi; rw [Array.getElem?_eq_getElem hi] at this; exact this) b2 (Q := Q) (g0 := g) (w0 := w) os.length (List.range os.length) ord _ _ st g w.drew a (by simp) (by simpa using b6) hl hl' (pairB_spec b4) (pairB_spec b5) hx h5 (henv.ext hx) hok h4 hd hd'
  simpa using this

/-- What holds at a place on the way. -/
def Mid {σ : Type} (N : Nat) (ks : List Nat) (e : σ → List (Nat × Bool × V)) (s : σ → St) (I : σ → Prop) (ex : VExit) (env : Env) (st : St) : Prop := ex = .normal ∧ env.N = N ∧ ∃ x, env.keep ks = e x ∧ st = s x ∧ I x
theorem vdraw2 (hT : Tab P T) (hm : P.follows .mixedOrders = true) {σ : Type} {id : Nat} {os : List Oper} (cls ord : List Nat) (p q : Nat) (ks : List Nat) (e : σ → List (Nat × Bool × V)) (s : σ → St) (I : σ → Prop) (hks : subN ks L = true) {N : Nat} {g l : List (Nat × Bool × V)} {st : St} {k : Kont} {Q : VExit → Env → St → Prop} (hB : draw2B os.toArray cls ord p q = true)
    (h : dK P T an L ds os.toArray os cls ⟨N, g, []⟩ st .done (Mid N ks e s I)) (h' : dK P T an L ds os.toArray (pickO os ord) (pickC cls ord) ⟨N, g, []⟩ st .done (Mid N ks e s I))
    (cont : ∀ x, I x → qK P T an L ds k Q .normal ⟨N, e x, []⟩ (s x)) : VC P T L ds (.region id os.toArray true) ⟨N, g, l⟩ st (qK P T an L ds k Q) := by
  intro g0 w a h1 h2 h3 h4
  refine wp_mono (VC.draw2 (ds := ds) (an := an) (env := ⟨N, g, l⟩) (Q := Mid N ks e s I) hT hm hB h h' g0 w a h1 h2 h3 h4) fun e1 a' w' ⟨ve, env', st', g', k1, k2, k3, k4, k5, k6, k7⟩ => ?_
  obtain ⟨rfl, hN, x, hx1, rfl, hI⟩ := k1
  refine ⟨.normal, ⟨N, e x, []⟩, s x, g', cont x hI, k2, ?_, ?_, k5, k6, k7⟩
  · rw [← hN, ← hx1]; exact k3.keep ks
  · rw [← hN, ← hx1]; exact EnvOK.keep hks env'
/-- A state may be taken for more. -/
theorem VC.wkst {c : Code} {env : Env} {st st' : St} {Q : VExit → Env → St → Prop} (h : VC P T L ds c env st' Q) (hw : wkSt st st') : VC P T L ds c env st Q :=
  fun g w a h1 h2 h3 h4 => h g w a (h1.wk hw) h2 h3 h4
/-- What is known may be taken for more; and nil slices may become tips. -/
theorem vmore (es : List TypeId) (ks : List Nat) (e1 : List (Nat × Bool × V)) (s1 : St) (hks : subN ks L = true) {N : Nat} {g l : List (Nat × Bool × V)} {c : Code} {st : St} {Q : VExit → Env → St → Prop}
    (he : wkEp (Tips st.length es.length) (Env.keep ⟨N, g, l⟩ ks) e1) (hs : ∃ s0, wkStp (Tips st.length es.length) st s0 ∧ s1 = s0 ++ tips es) (h : VC P T L ds c ⟨N, e1, []⟩ s1 Q) : VC P T L ds c ⟨N, g, l⟩ st Q := by
  intro g0 w0 a0 h1 h2 h3 h4
  obtain ⟨gt, xt, ht1, ht2⟩ := h1.pushTips es
  have hp : Nil0 gt (Tips st.length es.length) := ht2
  obtain ⟨s0, hs1, hs2⟩ := hs
  have h1' : SimSt T gt s1 w0 := by rw [hs2]; exact ht1.wkp hp (hs1.append (wkSt_refl _))
  have hk := (h2.ext xt).keep ks
  have hok := EnvOK.keep hks (⟨N, g, l⟩ : Env)
  refine wp_mono (h gt w0 a0 h1' ⟨hk.1, fun t c v hv => ?_⟩ (fun t y hy => ?_) h4) fun e a' u hL => hL.ext xt
  · simp only [Env.look, Gw.find] at hv
    obtain ⟨v0, f1, f2⟩ := he.find hv
    have := hk.2 t c v0 (by simpa [Env.look, Gw.find] using f1)
    cases c with
    | true => simp only [if_true] at this ⊢; exact f2.sim hp this
    | false => simpa using this
  · obtain ⟨c, v⟩ := y
    obtain ⟨v0, f1, f2⟩ := he.find hy
    exact ⟨(hok t _ f1).1, by simpa [Env.look, Gw.find] using hy⟩
/-- A call, where nil slices may become tips. -/
theorem VCalls.more (es : List TypeId) {f : FuncId} {args args' : List V} {st s0 : St} {Q : VEnd → St → Prop} (h : VCalls P T f args' (s0 ++ tips es) Q) (hw : wkLp (Tips st.length es.length) args args') (hs : wkStp (Tips st.length es.length) st s0) : VCalls P T f args st Q :=
  ⟨h.1, fun g w vals h1 h2 => by
    obtain ⟨gt, xt, ht1, ht2⟩ := h1.pushTips es
    have hp : Nil0 gt (Tips st.length es.length) := ht2
    exact (h.2 gt w vals (ht1.wkp hp (hs.append (wkSt_refl _))) (hw.sim hp (h2.ext xt))).mono fun e w' ⟨r, s, g', k1, k2, k3, k4⟩ => ⟨r, s, g', k1, k2, k3, xt.trans k4⟩⟩
theorem useTips (es : List TypeId) {f : FuncId} {args args' : List V} {st s0 : St} {Q0 : VEnd → St → Prop} {dst : Option Tmp} {gc : Bool} {all : Array Oper} {os : List Oper} {env : Env} {k : Kont} {Q : VExit → Env → St → Prop}
    (h : VCalls P T f args' (s0 ++ tips es) Q0) (hw : wkLp (Tips st.length es.length) args args') (hs : wkStp (Tips st.length es.length) st s0) (h3 : ∀ v s, ¬ Q0 (.panic v) s) (h2 : ∀ X s, X.fit → Q0 (.ret X) s → oK P T an L ds all os (env.put L dst gc X) s k Q) : VCalls P T f args st (aK P T an L ds dst gc all os env k Q) :=
  (h.more es hw hs).monoF fun r s hf hq => by
    cases r with
    | ret X => exact h2 X s hf hq
    | panic v => exact absurd hq (h3 v s)
end
end Go.Proofs.Ytpfdoffnpkokhaa.Gw

namespace Go.Proofs.Ytpfdoffnpkokhaa.Gw
open Go
set_option linter.unusedSimpArgs false

/-- The ghost at the beginning. -/
def g00 : G := { own := fun _ => none, pb := fun _ => 0, tv := fun _ => .slice none 0 0, len := fun _ => 0, n := 0 }
theorem sim00 (T : Nat → TI) (w : World) : SimSt T g00 [] w := ⟨rfl, fun i e h => by simp at h, fun i j ei ej b h => by simp at h⟩

theorem mapM_some {α β : Type} {f : α → Option β} : ∀ {l : List α} {r : List β}, l.mapM f = some r → r.length = l.length ∧ ∀ (i : Nat) (x : α), l[i]? = some x → ∃ y, r[i]? = some y ∧ f x = some y
  | [], r, h => by simp at h; subst h; exact ⟨rfl, fun i x h => by simp at h⟩
  | a :: l, r, h => by
    rw [List.mapM_cons] at h
    cases ha : f a with
    | none => rw [ha] at h; simp at h
    | some y =>
      rw [ha] at h
      cases hl : l.mapM f with
      | none => rw [hl] at h; simp at h
      | some ys =>
        rw [hl] at h
        simp at h
        subst h
        obtain ⟨h1, h2⟩ := mapM_some hl
        refine ⟨by simp [h1], fun i x hx => ?_⟩
        cases i with
        | zero => simp at hx; subst hx; exact ⟨y, rfl, ha⟩
        | succ i => exact h2 i x (by simpa using hx)

section
variable {H : Type} {enc : TypeId × Value → H} {P : Program} {W : World} {spare : Nat → Bool} {held : Bool}

theorem dec_int {t : TypeId} {k : IntKind} (ht : P.underlying t = some (.int k)) {n : Nat} {cs : List Value} {r : DataW H × List MemPlace} (h : DataW.trod enc P W 0 spare held n t cs = some r) : ∃ m, cs = [.int k m] := by
  cases n with
  | zero => simp [DataW.trod] at h
  | succ n =>
    unfold DataW.trod at h
    rw [ht] at h
    split at h <;> first | (cases h; done) | skip
    all_goals rename_i e; first | (injection e with e; cases e; done) | skip
    all_goals simp_all
theorem dec_str {t : TypeId} (ht : P.underlying t = some .string) {n : Nat} {cs : List Value} {r : DataW H × List MemPlace} (h : DataW.trod enc P W 0 spare held n t cs = some r) : ∃ s : List UInt8, cs = [.string ⟨s.toArray⟩] ∧ s.length ≤ 9223372036854775807 := by
  cases n with
  | zero => simp [DataW.trod] at h
  | succ n =>
    unfold DataW.trod at h
    rw [ht] at h
    split at h <;> first | (cases h; done) | skip
    all_goals rename_i e; first | (injection e with e; cases e; done) | skip
    all_goals rename_i s
    all_goals split at h
    all_goals first | (cases h; done) | skip
    all_goals rename_i hs
    all_goals exact ⟨s.data.toList, by cases s; rfl, by rw [Array.length_toList]; exact hs⟩
theorem dec_struct {t : TypeId} {fs : Array Field} (ht : P.underlying t = some (.struct fs)) {n : Nat} {cs : List Value} {r : DataW H × List MemPlace} (h : DataW.trod enc P W 0 spare held n t cs = some r) :
    ∃ m, n = m + 1 ∧ cs.length = P.cellsOf t ∧ ∀ f ∈ fs.toList, ∃ y, DataW.trod enc P W 0 spare held m f.type ((cs.drop f.offset).take (P.cellsOf f.type)) = some y := by
  cases n with
  | zero => simp [DataW.trod] at h
  | succ n =>
    unfold DataW.trod at h
    rw [ht] at h
    split at h <;> first | (cases h; done) | skip
    all_goals rename_i e; first | (injection e with e; cases e; done) | skip
    · rename_i cs _ _ _
      injection e with e
      injection e with e
      subst e
      split at h
      case isFalse => simp at h
      rename_i hl
      refine ⟨n, rfl, hl, fun f hf => ?_⟩
      cases hm : List.mapM (fun f => DataW.trod enc P W 0 spare held n f.type (List.take (P.cellsOf f.type) (List.drop f.offset cs))) fs.toList with
      | none => rw [hm] at h; simp at h
      | some ys =>
        obtain ⟨i, hi⟩ := List.getElem?_of_mem hf
        obtain ⟨y, _, hy⟩ := (mapM_some hm).2 i f hi
        exact ⟨y, hy⟩
    · exact (‹∀ fs_1 : Array Field, some (TypeDesc.struct fs) = some (TypeDesc.struct fs_1) → False› fs rfl).elim
theorem dec_cells {a : Addr} {n : Nat} {cs : List Value} (h : W.cells? 0 a n = some cs) : cs.length = n ∧ ∀ (j : Nat) (u : Value), cs[j]? = some u → W.cell? (a.add j) = some u := by
  unfold World.cells? at h
  simp only [Nat.zero_le, if_true] at h
  obtain ⟨h1, h2⟩ := mapM_some h
  rw [List.length_range] at h1
  refine ⟨h1, fun j u hj => ?_⟩
  have hlt := (List.getElem?_eq_some_iff.1 hj).1
  obtain ⟨y, hy, hc⟩ := h2 j j (by rw [List.getElem?_range (by omega)])
  rw [hj] at hy
  cases hy
  exact hc
/-- Rows, at a plain address. -/
theorem dec_rows {X : Type} {f : X → List V} {sz b : Nat} (hb : b < W.heap.size) : ∀ (l : List X) (off : Nat), (∀ (i : Nat) (x : X), l[i]? = some x → ∃ cs : List Value, cs.length = sz ∧ SimVs g00 W (f x) cs ∧ (∀ u ∈ cs, u.oneCell' = true) ∧ ∀ (j : Nat) (u : Value), cs[j]? = some u → W.cell? ⟨b, off + i * sz + j, none⟩ = some u) →
    SimRows g00 W ⟨b, off, none⟩ sz (l.map f)
  | [], off, _ => by simp [SimRows]
  | x :: l, off, h => by
    obtain ⟨cs, h1, h2, h3, h4⟩ := h 0 x rfl
    simp only [List.map_cons, SimRows]
    have at_ : ∀ (ys : List V) (us : List Value) (o : Nat), SimVs g00 W ys us → (∀ u ∈ us, u.oneCell' = true) → (∀ (j : Nat) (u : Value), us[j]? = some u → W.cell? ⟨b, o + j, none⟩ = some u) → SimAt g00 W ⟨b, o, none⟩ ys := by
      intro ys
      induction ys with
      | nil => intro us o _ _ _; simp [SimAt]
      | cons y ys ih =>
        intro us o k1 k2 k3
        simp only [SimVs] at k1
        obtain ⟨u, r, rfl, k4, k5⟩ := k1
        simp only [SimAt]
        refine ⟨⟨u, ⟨rfl, hb, fun k hk => by cases hk⟩, by simpa using k3 0 u rfl, k2 u (by simp), k4⟩, ?_⟩
        have e1 : (Addr.mk b o none).add 1 = ⟨b, o + 1, none⟩ := Addr.add_eq rfl 1
        rw [e1]
        exact ih r (o + 1) k5 (fun v hv => k2 v (by simp [hv])) fun j v hj => by
          have := k3 (j + 1) v (by simpa using hj)
          rw [show o + (j + 1) = o + 1 + j by omega] at this; exact this
    refine ⟨by rw [← h2.length]; exact h1, at_ _ cs off h2 h3 (by simpa using h4), ?_⟩
    have e1 : (Addr.mk b off none).add sz = ⟨b, off + sz, none⟩ := Addr.add_eq rfl _
    rw [e1]
    refine dec_rows hb l (off + sz) fun i y hi => ?_
    obtain ⟨cs, k1, k2, k3, k4⟩ := h (i + 1) y (by simpa using hi)
    refine ⟨cs, k1, k2, k3, fun j u hj => ?_⟩
    have := k4 j u hj
    rw [show off + (i + 1) * sz + j = off + sz + i * sz + j by rw [Nat.succ_mul]; omega] at this
    exact this
theorem choose_list {α X : Type} {R : α → X → Prop} : ∀ (l : List α), (∀ a ∈ l, ∃ x, R a x) → ∃ m : List X, m.length = l.length ∧ ∀ (i : Nat) (a : α) (x : X), l[i]? = some a → m[i]? = some x → R a x
  | [], _ => ⟨[], rfl, fun i a x h => by simp at h⟩
  | a :: l, h => by
    obtain ⟨x, hx⟩ := h a (by simp)
    obtain ⟨m, h1, h2⟩ := choose_list l fun b hb => h b (by simp [hb])
    refine ⟨x :: m, by simp [h1], fun i b y hb hy => ?_⟩
    cases i with
    | zero => simp at hb hy; subst hb; subst hy; exact hx
    | succ i => exact h2 i b y (by simpa using hb) (by simpa using hy)

theorem dec_slice {X : Type} (f : X → List V) {sz : Nat} {e t : TypeId} (ht : P.underlying t = some (.slice e)) (hsz : P.cellsOf e = sz) (hpos : 0 < sz) {n : Nat} {cs : List Value} {r : DataW H × List MemPlace}
    (ih : ∀ m, m < n → ∀ cs r, DataW.trod enc P W 0 spare held m e cs = some r → ∃ x : X, SimVs g00 W (f x) cs ∧ ∀ u ∈ cs, u.oneCell' = true) (h : DataW.trod enc P W 0 spare held n t cs = some r) :
    ∃ (l : List X) (v : Value), cs = [v] ∧ SimV g00 W (.lst sz none (l.map f)) v ∧ v.oneCell' = true := by
  cases n with
  | zero => simp [DataW.trod] at h
  | succ n =>
    unfold DataW.trod at h
    rw [ht] at h
    split at h <;> first | (cases h; done) | skip
    all_goals rename_i e'; first | (injection e' with e'; cases e'; done) | skip
    · exact ⟨[], _, rfl, by simp only [SimV]; exact ⟨none, 0, rfl, by simp, by simp [maxLen], by simp, .inl rfl, by simp, by simp [SimRows]⟩, rfl⟩
    · rename_i a len cap
      injection e' with e'
      injection e' with e'
      subst e'
      rw [hsz] at h
      split at h
      case isFalse => cases h
      rename_i hc
      obtain ⟨_, c1, c2⟩ := hc
      refine Exists.elim (show ∃ elems, (List.range len).mapM (fun i => (W.cells? 0 (a.add (i * sz)) sz).bind (DataW.trod enc P W 0 spare held n e)) = some elems from ?_) fun elems hm => ?_
      · cases hm : (List.range len).mapM (fun i => (W.cells? 0 (a.add (i * sz)) sz).bind (DataW.trod enc P W 0 spare held n e)) with
        | none => dsimp only at h; rw [hm] at h; simp at h
        | some ys => exact ⟨ys, rfl⟩
      obtain ⟨hl, hi⟩ := mapM_some hm
      have each : ∀ i ∈ List.range len, ∃ x : X, ∃ cs : List Value, cs.length = sz ∧ SimVs g00 W (f x) cs ∧ (∀ u ∈ cs, u.oneCell' = true) ∧ ∀ (j : Nat) (u : Value), cs[j]? = some u → W.cell? ((a.add (i * sz)).add j) = some u := by
        intro i hir
        rw [List.mem_range] at hir
        obtain ⟨y, _, hy⟩ := hi i i (by rw [List.getElem?_range hir])
        cases hcs : W.cells? 0 (a.add (i * sz)) sz with
        | none => rw [hcs] at hy; simp at hy
        | some cs =>
          rw [hcs] at hy
          obtain ⟨k1, k2⟩ := dec_cells hcs
          obtain ⟨x, k3, k4⟩ := ih n (Nat.lt_succ_self n) cs y hy
          exact ⟨x, cs, k1, k3, k4, k2⟩
      obtain ⟨xs, hxl, hxs⟩ := choose_list (List.range len) each
      rw [List.length_range] at hxl
      refine ⟨xs, _, rfl, ?_, rfl⟩
      simp only [SimV]
      refine ⟨some a, cap, by rw [List.length_map, hxl], by rw [List.length_map, hxl]; exact c1, c2, by simp, ?_, by simp, ?_⟩
      · cases xs with
        | nil => exact .inl rfl
        | cons x xs =>
          right
          obtain ⟨cs, k1, _, _, k2⟩ := hxs 0 0 x (by rw [List.getElem?_range (by simp at hxl; omega)]) rfl
          have h0 : cs[0]? = some (cs[0]'(by omega)) := List.getElem?_eq_getElem _
          have := World.cell?_spot (k2 0 _ h0)
          simpa [Addr.add] using this
      · cases xs with
        | nil => simp [SimRows]
        | cons x xs =>
          obtain ⟨cs, k1, _, _, k2⟩ := hxs 0 0 x (by rw [List.getElem?_range (by simp at hxl; omega)]) rfl
          have h0 : cs[0]? = some (cs[0]'(by omega)) := List.getElem?_eq_getElem _
          have hc0 := k2 0 _ h0
          have hsp : a.spot = none := by have := World.cell?_spot hc0; simpa [Addr.add] using this
          have hblk : a.block < W.heap.size := by
            unfold World.cell? at hc0
            split at hc0
            · rename_i hh
              have := (Array.getElem?_eq_some_iff.1 hh).1
              rw [Addr.add_eq hsp, Addr.add_eq rfl] at this
              exact this
            · cases hc0
          obtain ⟨b, off, sp⟩ := a
          simp only at hsp hblk
          subst hsp
          simp only [Option.getD_some]
          refine dec_rows hblk (x :: xs) off fun i y hy => ?_
          have hil : i < len := by rw [← hxl]; exact (List.getElem?_eq_some_iff.1 hy).1
          obtain ⟨cs, j1, j2, j3, j4⟩ := hxs i i y (by rw [List.getElem?_range hil]) hy
          refine ⟨cs, j1, j2, j3, fun j u hj => ?_⟩
          have := j4 j u hj
          rw [show (Addr.mk b off none).add (i * sz) = ⟨b, off + i * sz, none⟩ from Addr.add_eq rfl _, show (Addr.mk b (off + i * sz) none).add j = ⟨b, off + i * sz + j, none⟩ from Addr.add_eq rfl _] at this
          exact this
    all_goals first | (exact (‹∀ (e_1 : TypeId) (a : Addr) (len cap : Nat), some (TypeDesc.slice e) = some (TypeDesc.slice e_1) → _ → False› e _ _ _ rfl (by assumption)).elim) | (simp at h)
end
end Go.Proofs.Ytpfdoffnpkokhaa.Gw
