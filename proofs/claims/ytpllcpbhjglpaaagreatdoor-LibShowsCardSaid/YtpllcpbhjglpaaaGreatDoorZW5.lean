/- The rest of what computing a body needs, under few names. What was written and is written no more is a list: where a call has come to its end, arrays of its own, reached from what it gives, are frozen. Regions whose order is drawn, where two operations that are unordered don't go together: each order is looked at, and what both come to. What comes in, as it is read, as abstract values: nothing of it is owned. Maps from which nothing is taken, as lists of what they hold. A nil slice may be taken for an array of nothing. Panics that are caught: functions that defer, what they defer, and contracts of what panics. Functions that defer one closure. -/
import Derived.Test.YtpllcpbhjglpaaaGreatDoorZW4
import GoSem.ClaimChange
import Derived.ChangeOld
import Derived.Recover
namespace Go.Proofs.YtpllcpbhjglpaaaGreatDoor.Gw
open Go
/-- How things are made, by the temporary: told as a list. -/
def anL : List (Nat × Nat) → Nat → Nat
 | [], _ => 0
 | (k, m) :: r, t => if k = t then m else anL r t
theorem gwZ :
  ((false = true) = False) ∧ ((true = false) = False) ∧ ((!true) = false) ∧ ((!false) = true) ∧
  (∀ b : Bool, (false || b) = b) ∧ (∀ b : Bool, (true || b) = true) ∧ (∀ b : Bool, (b || false) = b) ∧ (∀ b : Bool, (b || true) = true) ∧
  (∀ b : Bool, (false && b) = false) ∧ (∀ b : Bool, (true && b) = b) ∧ (∀ b : Bool, (b && false) = false) ∧ (∀ b : Bool, (b && true) = b) ∧
  (∀ {α : Type} (a b : α), (bif true then a else b) = a) ∧ (∀ {α : Type} (a b : α), (bif false then a else b) = b) ∧
  (∀ a : Bool, ((!a) || a) = true) ∧ (∀ a b : Bool, ((!(a && b)) || a) = true) ∧ (∀ a b : Bool, ((!(a && b)) || b) = true) ∧
  (∀ p : Prop, (True ∧ p) = p) ∧ (∀ p : Prop, (p ∧ True) = p) ∧ (∀ p : Prop, (False ∧ p) = False) ∧ (∀ p : Prop, (p ∧ False) = False) ∧
  (∀ p : Prop, (True ∨ p) = True) ∧ (∀ p : Prop, (p ∨ True) = True) ∧ (∀ p : Prop, (False ∨ p) = p) ∧ (∀ p : Prop, (p ∨ False) = p) ∧
  (∀ p : Prop, (True → p) = p) ∧ (∀ p : Prop, (False → p) = True) ∧ (∀ p : Prop, (p → True) = True) ∧
  (∀ {α : Type} (a : α), (a = a) = True) ∧
  (∀ {α : Type} (l : List α), l.toArray.toList = l) ∧
  (∀ {α β : Type} (f : α → β) (a : α), Option.map f (some a) = some (f a)) ∧ (∀ {α β : Type} (f : α → β), Option.map f none = none) ∧
  (∀ {α : Type} (a b : α), (some a).getD b = a) ∧ (∀ {α : Type} (b : α), (none : Option α).getD b = b) ∧
  (∀ n : Nat, (n : Int).toNat = n) ∧
  (∀ n : Nat, (0 ≤ (n : Int)) = True) ∧
  (∀ a b : Bool, (bif a then true else b) = (a || b)) ∧ (∀ a b : Bool, (bif a then b else false) = (a && b)) ∧
  (∀ b : Bool, (b = false → (!b) = true) = True) ∧ (∀ p : Prop, (p → p) = True) ∧ (∀ a b : Bool, ((a || b) = false → (!a) = true) = True) ∧
  (∀ (t : Nat), anL [] t = 0) ∧ (∀ (k m t : Nat) (r : List (Nat × Nat)), anL ((k, m) :: r) t = if k = t then m else anL r t) := by
 and_intros <;> first | decide | (intros; rfl) | simp
/-- A long literal: its rows are told. -/
theorem rK_lit {P : Program} {T : Nat → TI} {an : Nat → Nat} {L : List Nat} {ds : List Deferred} {e : TypeId} {sz n mode : Nat} {st : St} {i : TI} {m : Nat} {parts : List (Nat × V)} {gc b : Bool} {dst : Option Tmp} {all : Array Oper} {os : List Oper} {env : Env} {st0 : St} {k : Kont} {Q : VExit → Env → St → Prop}
  (rows : List (List V)) (h : litR i m parts = some rows) (h2 : rK P T an L ds (litM e sz n mode st (some rows)) gc b dst all os env st0 k Q) : rK P T an L ds (litM e sz n mode st (litR i m parts)) gc b dst all os env st0 k Q := by rw [h]; exact h2
/-- A loop, by a state of one's own. -/
theorem vfor {P : Program} {T : Nat → TI} {an : Nat → Nat} {L : List Nat} {ds : List Deferred} {σ : Type} (ks : List Nat) (e : σ → List (Nat × Bool × V)) (s : σ → St) (m : σ → Nat) (I : σ → Prop) (x0 : σ) (hks : subN ks L = true) {N : Nat} {g l : List (Nat × Bool × V)} {c : Code} {st : St} {k0 : Kont} {Q : VExit → Env → St → Prop}
  (hT : Tab P T) (h0 : I x0) (he : (Env.keep ⟨N, g, l⟩ ks) = e x0) (hs : st = s x0)
  (step : ∀ x, I x → cK P T an L ds c ⟨N, e x, []⟩ (s x) .done (vSeq (fun env' st' => env'.N = N ∧ ∃ y, env'.keep ks = e y ∧ st' = s y ∧ m y < m x ∧ I y) (qK P T an L ds k0 Q))) :
  VC P T L ds (.loop c) ⟨N, g, l⟩ st (qK P T an L ds k0 Q) := by
 refine VC.loop ks hks (fun n env st => ∃ x, I x ∧ n = m x ∧ env = ⟨N, e x, []⟩ ∧ st = s x) (m x0) ⟨x0, h0, rfl, by rw [← he], hs⟩ ?_
 rintro n env st ⟨x, hx, rfl, rfl, rfl⟩
 refine (vCode_sound hT c _ _ _ (step x hx)).mono ?_
 intro e1 env1 st1 h
 cases e1 with
 | normal =>
  obtain ⟨hN, y, h1, h2, h3, h4⟩ := h
  exact ⟨m y, h3, y, h4, rfl, by rw [hN, h1], h2⟩
 | _ => exact h
def wkEp (p : Nat → Prop) : List (Nat × Bool × V) → List (Nat × Bool × V) → Prop
 | [], l => l = []
 | (k, c, v) :: r, l => ∃ v' r', l = (k, c, v') :: r' ∧ wkp p v v' ∧ wkEp p r r'
abbrev wkE := wkEp NoTok
def ltE (n : Nat) : List (Nat × Bool × V) → Prop
 | [] => True
 | (_, _, v) :: r => v.lt n ∧ ltE n r
section
variable {p : Nat → Prop}
theorem wkE_nil : wkEp p [] [] := rfl
theorem wkE_cons {k : Nat} {c : Bool} {v v' : V} {r r' : List (Nat × Bool × V)} (h : wkp p v v') (h2 : wkEp p r r') : wkEp p ((k, c, v) :: r) ((k, c, v') :: r') := ⟨v', r', rfl, h, h2⟩
theorem wkE_refl : ∀ l : List (Nat × Bool × V), wkEp p l l
 | [] => rfl
 | (_, _, v) :: r => wkE_cons (wk_refl v) (wkE_refl r)
theorem wkEp.find : ∀ {l l' : List (Nat × Bool × V)} {t : Nat} {c : Bool} {v' : V}, wkEp p l l' → Gw.find l' t = some (c, v') → ∃ v, Gw.find l t = some (c, v) ∧ wkp p v v'
 | [], _, t, c, v', h, hf => by simp only [wkEp] at h; subst h; simp [Gw.find] at hf
 | (k, c0, v) :: r, _, t, c, v', h, hf => by
  obtain ⟨v1, r1, rfl, h1, h2⟩ := h
  simp only [Gw.find] at hf ⊢
  by_cases e : k = t
  ·rw [if_pos e] at hf ⊢; cases hf; exact ⟨v, rfl, h1⟩
  ·rw [if_neg e] at hf ⊢; exact h2.find hf
end
theorem ltE.find : ∀ {l : List (Nat × Bool × V)} {n t : Nat} {c : Bool} {v : V}, ltE n l → Gw.find l t = some (c, v) → v.lt n
 | [], n, t, c, v, h, hf => by simp [Gw.find] at hf
 | (k, c0, v0) :: r, n, t, c, v, h, hf => by
  simp only [Gw.find] at hf
  by_cases e : k = t
  ·rw [if_pos e] at hf; cases hf; exact h.1
  ·rw [if_neg e] at hf; exact h.2.find hf
/-- A round's end: what the next one knows, what the round made for itself being forgotten. -/
def Next (ks : List Nat) (n0 : Nat) (e : List (Nat × Bool × V)) (s : St) (env' : Env) (st' : St) : Prop :=
 wkE (env'.keep ks) e ∧ ∃ su ex, st' = su ++ ex ∧ wkSt su s ∧ ltE s.length e ∧ St.ok s ∧ n0 ≤ s.length
/-- The places of so many new tips. -/
def Tips (n m : Nat) : Nat → Prop := fun k => n ≤ k ∧ k < n + m
def tips (es : List TypeId) : St := es.map fun e => .tip e 0
theorem SimSt.pushTips {T : Nat → TI} : ∀ (es : List TypeId) {g : G} {w : World} {st : St}, SimSt T g st w → ∃ g', Ext g w g' w ∧ SimSt T g' (st ++ tips es) w ∧ ∀ k, Tips st.length es.length k → k < g'.n ∧ g'.len k = 0 ∧ g'.tv k = .slice none 0 0
 | [], g, w, st, h => ⟨g, Ext.refl _ _, by simpa [tips] using h, fun k hk => by simp [Tips] at hk; omega⟩
 | e :: es, g, w, st, h => by
  have hn := h.n
  have x1 := Ext.push g w 0 (.slice none 0 0) 0
  have h1 : SimSt T (g.push 0 (.slice none 0 0) 0) (st ++ [.tip e 0]) w := h.push ⟨0, [], by simp [G.push], by simp, .inl ⟨rfl, by simp [G.push]⟩⟩ (fun c hc => by simp [blkOf, G.push, Value.ownBlock] at hc)
  obtain ⟨g', x2, h2, h3⟩ := SimSt.pushTips es h1
  refine ⟨g', x1.trans x2, by simpa [tips] using h2, fun k hk => ?_⟩
  by_cases hk0 : k = st.length
  ·subst hk0
   have hlt : st.length < (g.push 0 (.slice none 0 0) 0).n := by simp [G.push, hn]
   have q : g'.n = (st ++ [Ent.tip e 0] ++ tips es).length := h2.n
   have e2 := h2.ent st.length (.tip e 0) (by simp)
   obtain ⟨_, xs, t1, t2, t3⟩ := e2
   refine ⟨by rw [q]; simp, t1, ?_⟩
   have hl0 : (g.push 0 (.slice none 0 0) 0).len st.length = 0 := by simp [G.push, hn]
   rw [x2.tv st.length hlt (by rw [t1, hl0])]
   simp [G.push, hn]
  ·exact h3 k (by simp [Tips] at hk ⊢; omega)
/-- A loop, by a state of one's own; what a round makes for itself is forgotten at its end. At its beginning nil slices may become tips. -/
theorem vforT {P : Program} {T : Nat → TI} {an : Nat → Nat} {L : List Nat} {ds : List Deferred} {σ : Type} (es : List TypeId) (ks : List Nat) (e : σ → List (Nat × Bool × V)) (s : σ → St) (m : σ → Nat) (I : σ → Prop) (x0 : σ) (hks : subN ks L = true) {N : Nat} {g l : List (Nat × Bool × V)} {c : Code} {st : St} {k0 : Kont} {Q : VExit → Env → St → Prop}
  (hT : Tab P T) (h0 : I x0) (he : wkEp (Tips st.length es.length) (Env.keep ⟨N, g, l⟩ ks) (e x0)) (hs : ∃ s0, wkStp (Tips st.length es.length) st s0 ∧ s x0 = s0 ++ tips es)
  (step : ∀ x, I x → cK P T an L ds c ⟨N, e x, []⟩ (s x) .done (vSeq (fun env' st' => env'.N = N ∧ ∃ y, Next ks st.length (e y) (s y) env' st' ∧ m y < m x ∧ I y) (qK P T an L ds k0 Q))) :
  VC P T L ds (.loop c) ⟨N, g, l⟩ st (qK P T an L ds k0 Q) := by
 intro g0 w0 a0 h1 h2 h3 h4
 have hsub : ∀ {p : Nat → Prop} {x : σ} {g1 : G} {w1 : World} {a1 : Act} {env1 : Env}, Nil0 g1 p → env1.N = N → wkEp p (env1.keep ks) (e x) → SimEnv g1 w1 env1 a1 → SimEnv g1 w1 ⟨N, e x, []⟩ a1 ∧ EnvOK L ⟨N, e x, []⟩ := by
  intro p x g1 w1 a1 env1 hp hN hw hsim
  have hk := hsim.keep ks
  have hok := EnvOK.keep hks env1
  refine ⟨⟨by rw [← hN]; exact hk.1, fun t c v hv => ?_⟩, fun t y hy => ?_⟩
  ·simp only [Env.look, Gw.find] at hv
   obtain ⟨v0, f1, f2⟩ := hw.find hv
   have := hk.2 t c v0 (by simpa [Env.look, Gw.find] using f1)
   cases c with
   | true => simp only [if_true] at this ⊢; exact f2.sim hp this
   | false => simpa using this
  ·obtain ⟨c, v⟩ := y
   obtain ⟨v0, f1, f2⟩ := hw.find hy
   exact ⟨(hok t _ f1).1, by simpa [Env.look, Gw.find] using hy⟩
 obtain ⟨gt, xt, ht1, ht2⟩ := h1.pushTips es
 have hp : Nil0 gt (Tips st.length es.length) := ht2
 obtain ⟨s0, hs1, hs2⟩ := hs
 have h1' : SimSt T gt (s x0) w0 := by rw [hs2]; exact ht1.wkp hp (hs1.append (wkSt_refl _))
 obtain ⟨i1, i2⟩ := hsub (x := x0) hp rfl he (h2.ext xt)
 refine wp_loop_ghost (fun k a' w' => ∃ x g', I x ∧ k = m x ∧ SimSt T g' (s x) w' ∧ SimEnv g' w' ⟨N, e x, []⟩ a' ∧ EnvOK L ⟨N, e x, []⟩ ∧ a'.defers = ds ∧ Ext g0 w0 g' w') (m x0) ⟨x0, gt, h0, rfl, h1', i1, i2, h4, xt⟩ ?_
 rintro n a' w' ⟨x, g', j1, rfl, j2, j3, hok, j4, j5⟩
 refine wp_mono (vCode_sound hT c _ _ _ (step x j1) g' w' a' j2 j3 hok j4) ?_
 intro e2 a2 w2 ⟨ve, env2, st2, g2, k1, k2, k3, k4, k5, k6, k7⟩
 cases ve with
 | normal =>
  simp only [SimExit] at k2; subst k2
  obtain ⟨hN, y, ⟨n1, su, ex, rfl, n2, n3, n4, n5⟩, n6, n7⟩ := k1
  have k6 := (k6.wk (n2.append (wkSt_refl ex))).drop n4
  obtain ⟨p1, p2⟩ := hsub (x := y) (nil0_no g2) hN n1 k3
  refine ⟨m y, n6, y, g2.cut (s y).length, n7, rfl, k6, ⟨p1.1, fun t c v hv => ?_⟩, p2, k5, (j5.trans k7).cut (by rw [h1.n]; exact n5)⟩
  have := p1.2 t c v hv
  cases c with
  | true => simp only [if_true] at this ⊢; exact this.cut (n3.find (by simpa [Env.look, Gw.find] using hv))
  | false => simpa using this
 | exit id => simp only [SimExit] at k2; subst k2; exact ⟨.exit id, env2, st2, g2, k1, rfl, k3, k4, k5, k6, j5.trans k7⟩
 | ret => simp only [SimExit] at k2; subst k2; exact ⟨.ret, env2, st2, g2, k1, rfl, k3, k4, k5, k6, j5.trans k7⟩
 | panic v => have k2' := k2; obtain ⟨val, rfl, _⟩ := k2; exact ⟨.panic v, env2, st2, g2, k1, k2', k3, k4, k5, k6, j5.trans k7⟩
/-- A loop, by a state of one's own; what a round makes for itself is forgotten at its end. -/
theorem vforD {P : Program} {T : Nat → TI} {an : Nat → Nat} {L : List Nat} {ds : List Deferred} {σ : Type} (ks : List Nat) (e : σ → List (Nat × Bool × V)) (s : σ → St) (m : σ → Nat) (I : σ → Prop) (x0 : σ) (hks : subN ks L = true) {N : Nat} {g l : List (Nat × Bool × V)} {c : Code} {st : St} {k0 : Kont} {Q : VExit → Env → St → Prop}
  (hT : Tab P T) (h0 : I x0) (he : wkEp (Tips st.length 0) (Env.keep ⟨N, g, l⟩ ks) (e x0)) (hs : st = s x0)
  (step : ∀ x, I x → cK P T an L ds c ⟨N, e x, []⟩ (s x) .done (vSeq (fun env' st' => env'.N = N ∧ ∃ y, Next ks st.length (e y) (s y) env' st' ∧ m y < m x ∧ I y) (qK P T an L ds k0 Q))) :
  VC P T L ds (.loop c) ⟨N, g, l⟩ st (qK P T an L ds k0 Q) :=
 vforT [] ks e s m I x0 hks hT h0 he ⟨st, wkSt_refl _, by rw [← hs]; exact (List.append_nil _).symm⟩ step
mutual
theorem V.lt_mono {n m : Nat} (h : n ≤ m) : ∀ {v : V}, v.lt n → v.lt m
 | .lst _ t l, k => by simp only [V.lt] at k ⊢; exact ⟨fun e he => Nat.lt_of_lt_of_le (k.1 e he) h, ltRows_mono h k.2⟩
 | .arr e _, k => by simp only [V.lt] at k ⊢; omega
 | .eptr e _ _ _ _, k => by simp only [V.lt] at k ⊢; omega
 | .ptr o _, k => by simp only [V.lt] at k ⊢; omega
 | .map o, k => by simp only [V.lt] at k ⊢; omega
 | .agg l, k => by simp only [V.lt] at k ⊢; exact ltL_mono h k
 | .tup l, k => by simp only [V.lt] at k ⊢; exact ltL_mono h k
 | .ref l, k => by simp only [V.lt] at k ⊢; exact ltL_mono h k
 | .fn _ c, k => by simp only [V.lt] at k ⊢; exact ltL_mono h k
 | .iface _ v, k => by simp only [V.lt] at k ⊢; exact V.lt_mono h k
 | .addr o _ _, k => by simp only [V.lt] at k ⊢; omega
 | .int _ _, _ | .bool _, _ | .str _, _ | .nils, _ | .nilp, _ | .nilf, _ | .nilm, _ | .nili, _ | .junk, _ => by simp [V.lt]
theorem ltL_mono {n m : Nat} (h : n ≤ m) : ∀ {l : List V}, ltL n l → ltL m l
 | [], _ => trivial
 | _ :: _, k => ⟨V.lt_mono h k.1, ltL_mono h k.2⟩
theorem ltRows_mono {n m : Nat} (h : n ≤ m) : ∀ {l : List (List V)}, ltRows n l → ltRows m l
 | [], _ => trivial
 | _ :: _, k => ⟨ltL_mono h k.1, ltRows_mono h k.2⟩
end
theorem Ent.lt_mono {n m : Nat} (h : n ≤ m) {e : Ent} (k : e.lt n) : e.lt m := by
 cases e with
 | box c => exact ltL_mono h k
 | arr _ _ c => exact ltRows_mono h k
 | tip _ _ => trivial
 | gone => trivial
 | map _ es => exact fun e he => ⟨V.lt_mono h (k e he).1, V.lt_mono h (k e he).2⟩
 | iter m _ _ => exact Nat.lt_of_lt_of_le k h
def ltEs (n : Nat) : St → Prop
 | [] => True
 | e :: r => e.lt n ∧ ltEs n r
theorem ltEs_all {n : Nat} : ∀ {l : St}, ltEs n l → ∀ e ∈ l, e.lt n
 | [], _, e, he => by simp at he
 | x :: l, h, e, he => by
  rcases List.mem_cons.1 he with rfl | he
  ·exact h.1
  ·exact ltEs_all h.2 e he
/-- Entries behind a state. -/
theorem ok_app {st l : St} (hst : St.ok st) (h : ltEs (st.length + l.length) l) : St.ok (st ++ l) := by
 intro e he
 rw [List.length_append]
 rcases List.mem_append.1 he with he | he
 ·exact Ent.lt_mono (Nat.le_add_right _ _) (hst e he)
 ·exact ltEs_all h e he
/-- At a place of a list: its end, or an element. -/
theorem at_or_end {α : Type} (l : List α) (i : Nat) (h : i ≤ l.length) : (i = l.length ∧ l.drop i = []) ∨ ∃ a, i < l.length ∧ l[i]? = some a ∧ l.drop i = a :: l.drop (i + 1) := by
 rcases Nat.lt_or_ge i l.length with hlt | hge
 ·exact .inr ⟨l[i], hlt, List.getElem?_eq_getElem hlt, List.drop_eq_getElem_cons hlt⟩
 ·exact .inl ⟨by omega, List.drop_eq_nil_of_le hge⟩
theorem getD_map {α β : Type} {l : List α} {f : α → β} {i : Nat} {a : α} {d : β} (h : l[i]? = some a) : (l.map f).getD i d = f a := by
 simp [List.getD_eq_getElem?_getD, h]
theorem getD_at {α : Type} {l : List α} {i : Nat} {a : α} {d : α} (h : l[i]? = some a) : l.getD i d = a := by
 simp [List.getD_eq_getElem?_getD, h]
theorem wrap_i64 {n : Int} (h : -9223372036854775808 ≤ n) (h2 : n ≤ 9223372036854775807) : IntKind.i64.wrap n = n := by
 simp only [IntKind.wrap, IntKind.bits, IntKind.signed]
 simp
 omega
theorem next_i64 {i n : Nat} (h : i < n) (h2 : n ≤ 9223372036854775807) : IntKind.i64.wrap ((i : Int) + 1) = ((i + 1 : Nat) : Int) := by
 rw [wrap_i64 (by omega) (by omega)]; omega
theorem lt_yes {i n : Nat} (h : i < n) : decide ((i : Int) < (n : Int)) = true := by simpa using h
theorem gives_self {X : V} {st : St} (h : X.lt st.length) (hst : St.ok st) : Gives X st (.ret X) st := ⟨[], X, st, (List.append_nil _).symm, wkSt_refl st, rfl, wk_refl X, h, hst⟩
/-- What a body gives: its value may be taken for X, its state, but for what it made, for st'. -/
theorem gives_of {v X : V} {su st' ex : St} (hw : wk v X) (hs : wkSt su st') (h : X.lt st'.length) (hst : St.ok st') : Gives X st' (.ret v) (su ++ ex) := ⟨ex, v, su, rfl, hs, rfl, hw, h, hst⟩
theorem gives_int {k : IntKind} {n m : Int} {st : St} (e : n = m) (hst : St.ok st) : Gives (.int k m) st (.ret (.int k n)) st := by subst e; exact gives_self (by simp [V.lt]) hst
theorem gives_bool {b c : Bool} {st : St} (e : b = c) (hst : St.ok st) : Gives (.bool c) st (.ret (.bool b)) st := by subst e; exact gives_self (by simp [V.lt]) hst
theorem gives_str {b c : List UInt8} {st : St} (e : b = c) (hst : St.ok st) : Gives (.str c) st (.ret (.str b)) st := by subst e; exact gives_self (by simp [V.lt]) hst
theorem gives_int' {k : IntKind} {n m : Int} {st ex : St} (e : n = m) (hst : St.ok st) : Gives (.int k m) st (.ret (.int k n)) (st ++ ex) := by subst e; exact gives_of (wk_refl _) (wkSt_refl _) (by simp [V.lt]) hst
theorem gives_bool' {b c : Bool} {st ex : St} (e : b = c) (hst : St.ok st) : Gives (.bool c) st (.ret (.bool b)) (st ++ ex) := by subst e; exact gives_of (wk_refl _) (wkSt_refl _) (by simp [V.lt]) hst
/-- Entries behind a state: where they lie. -/
theorem gwL :
  (∀ (st l m : St), (st ++ l) ++ m = st ++ (l ++ m)) ∧
  (∀ (st l : St), (st ++ l).length = st.length + l.length) ∧
  (∀ (st l : St) (k : Nat), (st ++ l)[st.length + k]? = l[k]?) ∧
  (∀ (st l : St), (st ++ l)[st.length]? = l[0]?) ∧
  (∀ (st l : St) (k : Nat) (e : Ent), (st ++ l).set (st.length + k) e = st ++ l.set k e) ∧
  (∀ (st l : St) (e : Ent), (st ++ l).set st.length e = st ++ l.set 0 e) ∧
  (∀ (e : Ent) (l : St), (e :: l)[0]? = some e) ∧ (∀ (e : Ent) (l : St) (k : Nat), (e :: l)[k + 1]? = l[k]?) ∧
  (∀ (e x : Ent) (l : St), (e :: l).set 0 x = x :: l) ∧ (∀ (e x : Ent) (l : St) (k : Nat), (e :: l).set (k + 1) x = e :: l.set k x) ∧
  (∀ (e : Ent) (l m : St), (e :: l) ++ m = e :: (l ++ m)) ∧ (∀ (l : St), [] ++ l = l) ∧ (∀ (e : Ent) (l : St), (e :: l).length = l.length + 1) ∧ (([] : St).length = 0) ∧
  (∀ a b c : Nat, a + b + c = a + (b + c)) ∧ (∀ a : Nat, a + 0 = a) ∧ (∀ a : Nat, 0 + a = a) := by
 refine ⟨fun _ _ _ => List.append_assoc _ _ _, fun _ _ => List.length_append, fun st l k => by rw [List.getElem?_append_right (by omega)]; congr 1; omega, fun st l => by rw [List.getElem?_append_right (by omega)]; congr 1; omega,
  fun st l k e => by rw [List.set_append_right _ _ (by omega)]; congr 2; omega, fun st l e => by rw [List.set_append_right _ _ (by omega)]; congr 2; omega, fun _ _ => rfl, fun _ _ _ => by simp, fun _ _ _ => rfl, fun _ _ _ _ => rfl, fun _ _ _ => rfl, fun _ => rfl, fun _ _ => rfl, rfl, Nat.add_assoc, fun _ => rfl, Nat.zero_add⟩
theorem st_old {st l : St} {o : Nat} (h : o < st.length) : (st ++ l)[o]? = st[o]? := List.getElem?_append_left h
theorem st_oldset {st l : St} {o : Nat} {e : Ent} (h : o < st.length) : (st ++ l).set o e = st.set o e ++ l := List.set_append_left _ _ h
/-- A contract off a real law of the model: the state is as it was. -/
theorem VCalls.ofReal {P : Program} {T : Nat → TI} {f : FuncId} {args : List V} {st : St} {X : V} (he : Enters P f)
  (h : ∀ (g : G) (w : World) (vals : List Value), SimVs g w args vals → ∃ val, SimV g w X val ∧ Calls P f vals.toArray w fun e w' => e = .returned val ∧ w' = w) : VCalls P T f args st fun r s => r = .ret X ∧ s = st :=
 ⟨he, fun g w vals h1 h2 => by
  obtain ⟨val, h3, h4⟩ := h g w vals h2
  refine h4.mono ?_
  rintro e w' ⟨rfl, rfl⟩
  exact ⟨.ret X, st, g, ⟨rfl, rfl⟩, ⟨val, rfl, h3⟩, h1, Ext.refl _ _⟩⟩
theorem lt_no {n : Nat} : decide ((n : Int) < (n : Int)) = false := by simp
end Go.Proofs.YtpllcpbhjglpaaaGreatDoor.Gw
namespace Go.Proofs.YtpllcpbhjglpaaaGreatDoor.Gw
open Go
set_option linter.unusedSimpArgs false
section
variable (st : St) (m : Nat)
mutual
inductive Thaw : V → V → Prop
 | same (v : V) : Thaw v v
 | arr {o n : Nat} {e : TypeId} {sz : Nat} {rows rows' : List (List V)} (hm : m ≤ o) (h : st[o]? = some (.arr e sz rows)) (hn : rows.length = n) (hr : ThawR rows rows') : Thaw (.arr o n) (.lst sz none rows')
 | agg {l l' : List V} (h : ThawL l l') : Thaw (.agg l) (.agg l')
 | tup {l l' : List V} (h : ThawL l l') : Thaw (.tup l) (.tup l')
inductive ThawL : List V → List V → Prop
 | nil : ThawL [] []
 | cons {x y : V} {xs ys : List V} (h : Thaw x y) (k : ThawL xs ys) : ThawL (x :: xs) (y :: ys)
inductive ThawR : List (List V) → List (List V) → Prop
 | nil : ThawR [] []
 | cons {x y : List V} {xs ys : List (List V)} (h : ThawL x y) (k : ThawR xs ys) : ThawR (x :: xs) (y :: ys)
end
end
theorem ThawL.refl {st : St} {m : Nat} : ∀ l : List V, ThawL st m l l
 | [] => .nil
 | x :: l => .cons (.same x) (ThawL.refl l)
open Classical in
/-- Blocks that are written no more. -/
noncomputable def G.melt (g : G) (F : Nat → Prop) : G := { g with own := fun b => if F b then none else g.own b }
theorem Ext.melt (g : G) (w : World) (F : Nat → Prop) : Ext g w (g.melt F) w where
 os := rfl
 tape := rfl
 output := rfl
 size := Nat.le_refl _
 n := Nat.le_refl _
 pb := fun _ _ => rfl
 len := fun _ _ => Nat.le_refl _
 tv := fun _ _ _ => rfl
 free := fun b _ ho => ⟨rfl, by simp only [G.melt]; split <;> simp [ho]⟩
 kept := fun b k _ ho => ⟨fun _ _ => rfl, fun k' hk => by
  simp only [G.melt] at hk
  split at hk
  ·cases hk
  ·rw [ho] at hk; cases hk; exact Nat.le_refl _⟩
 ty := fun _ _ => rfl
/-- The blocks of the entries behind. -/
def Behind (g : G) (st : St) (m : Nat) (b : Nat) : Prop := ∃ i e, m ≤ i ∧ st[i]? = some e ∧ blkOf g i e = some b
section
variable {T : Nat → TI} {g : G} {w : World} {st : St} {m : Nat}
theorem Thaw.simAll (hS : SimSt T g st w) :
  (∀ {x y : V}, Thaw st m x y → ∀ v, SimV g w x v → SimV (g.melt (Behind g st m)) w y v) := by
 have hx := Ext.melt g w (Behind g st m)
 intro x y h
 refine Thaw.rec (motive_1 := fun x y _ => ∀ v, SimV g w x v → SimV (g.melt (Behind g st m)) w y v)
  (motive_2 := fun x y _ => x.length = y.length ∧ ∀ vs, SimVs g w x vs → SimVs (g.melt (Behind g st m)) w y vs)
  (motive_3 := fun x y _ => x.length = y.length ∧ (∀ sz : Nat, (∀ r ∈ x, r.length = sz) → ∀ r ∈ y, r.length = sz) ∧ ∀ vs, SimVs g w x.flatten vs → SimVs (g.melt (Behind g st m)) w y.flatten vs) ?_ ?_ ?_ ?_ ?_ ?_ ?_ ?_ h
 ·intro v u hu; exact hu.ext hx
 ·intro o n e sz rows rows' hm ho hn _ ih v hv
  obtain ⟨ih1, ih2, ih3⟩ := ih
  simp only [SimV] at hv ⊢
  obtain ⟨h1, h2, h3, _⟩ := hv
  have he := hS.ent o _ ho
  simp only [SimE] at he
  obtain ⟨e1, e2, xs, ⟨t1, t2, t3⟩, e4, e5⟩ := he
  subst hn
  have hval := h3 t1
  replace t3 := tip2 t3 rfl
  rcases t3 with ⟨t3, t4⟩ | ⟨b, cap, cur, k1, k2, k3, k4, k5, k6, k7⟩
  ·have h0 : rows' = [] := List.eq_nil_of_length_eq_zero (by omega)
   subst h0
   exact ⟨none, 0, by rw [← hval, t4]; rfl, by simp, by simp [maxLen], by simp, .inl rfl, (fun k hk => by cases hk), by simp [SimRows]⟩
  ·simp only [Nat.zero_add, Nat.add_zero, List.drop_zero] at k2 k6 k7
   have hF : Behind g st m b := ⟨o, _, hm, ho, by simp only [blkOf, k1, Value.ownBlock]⟩
   refine ⟨some ⟨b, 0, none⟩, cap, by rw [← hval, k1, ih1], by omega, k5, by simp, .inr rfl, (fun k hk => by cases hk), ?_⟩
   have hxs : ∀ (j : Nat) (u : Value), xs[j]? = some u → cur[0 + j]? = some u := by
    intro j u hj
    rw [Nat.zero_add]
    rw [← k7] at hj
    have hlt := (List.getElem?_eq_some_iff.1 hj).1
    rw [List.length_take] at hlt
    rw [List.getElem?_take_of_lt (by omega)] at hj
    simpa using hj
   have := at_of_block (g := g.melt (Behind g st m)) k3 e5 hxs (fun k hk => by simp only [G.melt, if_pos hF] at hk; cases hk) rows'.flatten xs 0 (ih3 xs e4) (fun j u hj => by simpa using hj)
   exact rows_of_at rows' 0 (ih2 sz e2) this
 ·intro l l' _ ih v hv
  simp only [SimV] at hv ⊢
  obtain ⟨vs, h1, h2, h3⟩ := hv
  exact ⟨vs, h1, ih.2 vs h2, h3⟩
 ·intro l l' _ ih v hv
  simp only [SimV] at hv ⊢
  obtain ⟨vs, h1, h2⟩ := hv
  exact ⟨vs, h1, ih.2 vs h2⟩
 ·exact ⟨rfl, fun vs h => by simpa [SimVs] using h⟩
 ·intro x y xs ys _ _ ih1 ih2
  refine ⟨by simp [ih2.1], fun vs h => ?_⟩
  simp only [SimVs] at h ⊢
  obtain ⟨v, r, h1, h2, h3⟩ := h
  exact ⟨v, r, h1, ih1 v h2, ih2.2 r h3⟩
 ·exact ⟨rfl, fun _ h => h, fun vs h => by simpa [SimVs] using h⟩
 ·intro x y xs ys _ _ ih1 ih2
  have app : ∀ (a b : List V) (vs : List Value), SimVs g w (a ++ b) vs → ∃ u r, vs = u ++ r ∧ SimVs g w a u ∧ SimVs g w b r := by
   intro a
   induction a with
   | nil => intro b vs h; exact ⟨[], vs, rfl, by simp [SimVs], h⟩
   | cons a l ih =>
    intro b vs h
    simp only [List.cons_append, SimVs] at h
    obtain ⟨v, r, rfl, h2, h3⟩ := h
    obtain ⟨u, r', rfl, h4, h5⟩ := ih b r h3
    exact ⟨v :: u, r', rfl, by simp only [SimVs]; exact ⟨v, u, rfl, h2, h4⟩, h5⟩
  have join : ∀ (g : G) (a b : List V) (u r : List Value), SimVs g w a u → SimVs g w b r → SimVs g w (a ++ b) (u ++ r) := by
   intro g a
   induction a with
   | nil => intro b u r h k; simp only [SimVs] at h; subst h; exact k
   | cons a l ih =>
    intro b u r h k
    simp only [SimVs] at h
    obtain ⟨v, u', rfl, h2, h3⟩ := h
    simp only [List.cons_append, SimVs]
    exact ⟨v, u' ++ r, rfl, h2, ih b u' r h3 k⟩
  refine ⟨by simp [ih2.1], fun sz h r hr => ?_, fun vs h => ?_⟩
  ·rcases List.mem_cons.1 hr with rfl | hr
   ·rw [← ih1.1]; exact h x (by simp)
   ·exact ih2.2.1 sz (fun r hr => h r (by simp [hr])) r hr
  ·rw [List.flatten_cons] at h ⊢
   obtain ⟨u, r, rfl, h1, h2⟩ := app _ _ _ h
   exact join _ _ _ _ _ (ih1.2 u h1) (ih2.2.2 r h2)
theorem SimSt.melt {st0 ex : St} (hS : SimSt T g (st0 ++ ex) w) (h0 : SimSt T (g.cut st0.length) st0 w) : SimSt T ((g.melt (Behind g (st0 ++ ex) st0.length)).cut st0.length) st0 w where
 n := rfl
 ent := fun i e hi => by
  have hlt := (List.getElem?_eq_some_iff.1 hi).1
  have hx : Ext (g.cut st0.length) w ((g.melt (Behind g (st0 ++ ex) st0.length)).cut st0.length) w :=
   ⟨rfl, rfl, rfl, Nat.le_refl _, Nat.le_refl _, fun _ _ => rfl, fun _ _ => Nat.le_refl _, fun _ _ _ => rfl, (Ext.melt g w (Behind g (st0 ++ ex) st0.length)).free, (Ext.melt g w (Behind g (st0 ++ ex) st0.length)).kept, fun _ _ => rfl⟩
  refine (h0.ent i e hi).keep hx rfl rfl rfl fun b hb => ⟨rfl, ?_⟩
  have hn : ¬ Behind g (st0 ++ ex) st0.length b := by
   rintro ⟨j, e', hj, he', hb'⟩
   have hi' : (st0 ++ ex)[i]? = some e := by rw [List.getElem?_append_left hlt]; exact hi
   have := hS.one i j e e' b hi' he' (by cases e <;> exact hb) hb'
   omega
  simp only [G.cut, G.melt, if_neg hn]
 one := fun i j ei ej b hi hj k1 k2 => h0.one i j ei ej b hi hj (by cases ei <;> exact k1) (by cases ej <;> exact k2)
 amb := (hS.amb.ext (Ext.melt g w (Behind g (st0 ++ ex) st0.length)) :)
/-- What a call comes to, frozen. -/
theorem VCalls.freeze {P : Program} {f : FuncId} {args : List V} {st0 : St} {Q : VEnd → St → Prop} {X : V} (h : VCalls P T f args st0 Q)
  (hq : ∀ r st', Q r st' → ∃ v u ex, r = .ret v ∧ st' = st0 ++ ex ∧ Thaw st' st0.length v u ∧ wk u X ∧ X.lt st0.length) : VCalls P T f args st0 fun r s => r = .ret X ∧ s = st0 :=
 ⟨h.1, fun g w vals h1 h2 => (h.2 g w vals h1 h2).mono fun e w' ⟨r, s, g', k1, k2, k3, k4⟩ => by
  obtain ⟨v, u, ex, rfl, rfl, ht, hw, hl⟩ := hq r s k1
  obtain ⟨val, rfl, hv⟩ := k2
  have hm := ht.simAll k3 val hv
  have hx := k4.trans (Ext.melt g' w' (Behind g' (st0 ++ ex) st0.length))
  exact ⟨.ret X, st0, (g'.melt (Behind g' (st0 ++ ex) st0.length)).cut st0.length, ⟨rfl, rfl⟩, ⟨val, rfl, (hw.sim (nil0_no _) hm).cut hl⟩, k3.melt (k3.drop h1.okSt), hx.cut (by rw [h1.n]; exact Nat.le_refl _)⟩⟩
end
/-- A box that is written no more: a pointer to it is one to cells that stay. -/
def meltE (t : Nat) (cs : List V) : List (Nat × Bool × V) → List (Nat × Bool × V)
 | [] => []
 | (k, b, v) :: r => (k, b, if k = t then .ref cs else v) :: meltE t cs r
theorem meltE_find (t : Nat) (cs : List V) : ∀ (g : List (Nat × Bool × V)) (k : Nat), Gw.find (meltE t cs g) k = (Gw.find g k).map fun x => (x.1, if k = t then .ref cs else x.2)
 | [], k => rfl
 | (j, b, v) :: r, k => by
  simp only [meltE, Gw.find]
  by_cases e : j = k
  ·subst e; simp
  ·simp only [e, if_false]
   exact meltE_find t cs r k
theorem vmelt {P : Program} {T : Nat → TI} {L : List Nat} {ds : List Deferred} {c : Code} {N : Nat} {g1 l : List (Nat × Bool × V)} {st : St} {Q : VExit → Env → St → Prop} (t o : Nat) (cs : List V) (hg : Gw.find g1 t = some (true, .ptr o 0)) (ho : st[o]? = some (.box cs))
  (h : VC P T L ds c ⟨N, meltE t cs g1, []⟩ (st.set o .gone) Q) : VC P T L ds c ⟨N, g1, l⟩ st Q := by
 intro g w a hst henv hok hds
 have hx := Ext.melt g w (fun b => b = g.pb o)
 have hbox := hst.ent o _ ho
 simp only [SimE] at hbox
 obtain ⟨b1, vs, ty, b2, b3, b4⟩ := hbox
 have hon : o < g.n := by rw [hst.n]; exact (List.getElem?_eq_some_iff.1 ho).1
 have look1 : ∀ k x, Gw.find g1 k = some x → (⟨N, g1, l⟩ : Env).look k = some x := fun k x hk => (hok k x hk).2
 have hcell : SimAt (g.melt fun b => b = g.pb o) w ⟨g.pb o, 0, none⟩ cs :=
  at_of_block (vs := vs) b2 b4 (fun j u hj => by simpa using hj) (fun k hk => by simp [G.melt] at hk) cs vs 0 (b3.ext hx) (fun j u hj => by simpa using hj)
 refine wp_mono (h (g.melt fun b => b = g.pb o) w a ⟨?_, ?_, ?_, hst.amb.ext hx⟩ ⟨henv.1, fun k b v hk => ?_⟩ (fun k x hk => ?_) hds) fun e a' u hL => hL.ext hx
 ·simp only [List.length_set]; exact hst.n
 ·intro i e hi
  by_cases e' : o = i
  ·subst e'
   rw [List.getElem?_set_self (by rw [← hst.n]; exact hon)] at hi
   cases hi
   trivial
  ·rw [List.getElem?_set_ne e'] at hi
   have hin : i < g.n := by rw [hst.n]; exact (List.getElem?_eq_some_iff.1 hi).1
   refine (hst.ent i e hi).keep hx rfl rfl rfl fun b hb => ⟨rfl, ?_⟩
   have : b ≠ g.pb o := by
    intro hb'
    subst hb'
    exact e' (hst.one o i _ e _ ho hi rfl hb)
   simp only [G.melt, if_neg this]
 ·intro i j ei ej b hi hj k1 k2
  have gone : ∀ (i : Nat) (ei : Ent), (st.set o .gone)[i]? = some ei → blkOf (g.melt fun b => b = g.pb o) i ei = some b → st[i]? = some ei ∧ blkOf g i ei = some b := by
   intro i ei hi hk
   by_cases e' : o = i
   ·subst e'
    rw [List.getElem?_set_self (by rw [← hst.n]; exact hon)] at hi
    cases hi
    simp [blkOf] at hk
   ·rw [List.getElem?_set_ne e'] at hi
    exact ⟨hi, by cases ei <;> exact hk⟩
  obtain ⟨i1, i2⟩ := gone i ei hi k1
  obtain ⟨j1, j2⟩ := gone j ej hj k2
  exact hst.one i j ei ej b i1 j1 i2 j2
 ·simp only [Env.look, Gw.find] at hk
  rw [meltE_find] at hk
  cases hf : Gw.find g1 k with
  | none => rw [hf] at hk; simp at hk
  | some x =>
   rw [hf] at hk
   simp only [Option.map_some, Option.some.injEq, Prod.mk.injEq] at hk
   have h1 := henv.2 k x.1 x.2 (by rw [look1 k x hf])
   obtain ⟨rfl, rfl⟩ := hk
   by_cases e : k = t
   ·subst e
    rw [hg] at hf
    cases hf
    simp only [if_true, SimV] at h1 ⊢
    exact ⟨_, h1.2, rfl, hcell⟩
   ·rw [if_neg e]
    cases hx1 : x.1 with
    | true => rw [hx1] at h1; simp only [if_true] at h1 ⊢; exact h1.ext hx
    | false => rw [hx1] at h1; simpa using h1
 ·rw [meltE_find] at hk
  refine ⟨?_, by simp only [Env.look, Gw.find]; rw [meltE_find]; exact hk⟩
  cases hf : Gw.find g1 k with
  | none => rw [hf] at hk; simp at hk
  | some x => exact (hok k x hf).1
theorem VCalls.st {P : Program} {T : Nat → TI} {f : FuncId} {args : List V} {st st' : St} {Q : VEnd → St → Prop} (h : VCalls P T f args st' Q) (hw : wkSt st st') : VCalls P T f args st Q :=
 ⟨h.1, fun g w vals h1 h2 => h.2 g w vals (h1.wk hw) h2⟩
end Go.Proofs.YtpllcpbhjglpaaaGreatDoor.Gw
namespace Go.Proofs.YtpllcpbhjglpaaaGreatDoor.Gw
open Go
set_option linter.unusedSimpArgs false
section
variable {P : Program} {T : Nat → TI} {an : Nat → Nat} {L : List Nat} {ds : List Deferred}
def goodB (all : Array Oper) (cls : List Nat) (ex : Nat → Nat → Bool) (x i : Nat) : Bool := reach all 3 x i || indep all (atC all cls x) (atC all cls i) || ex x i
def backB (all : Array Oper) : Bool := (List.range all.size).all fun j => match all[j]? with | none => false | some o => o.after.all fun e => !Region.binds .any e || Nat.blt e.on j
def noCallB (o : Oper) : Bool := match o.op with | .call c => (match c.callee with | .builtin _ => true | _ => false) | _ => true
def oneEx (p q : Nat) (x i : Nat) : Bool := x == p && i == q
structure LeftL (all : Array Oper) (listed : Array Bool) (rs : List Nat) : Prop where
 nodup : rs.Nodup
 mem : ∀ i, i ∈ rs ↔ i < all.size ∧ listed.getD i true = false
 size : listed.size = all.size
 down : ∀ j o, all[j]? = some o → listed.getD j true = true → ∀ e ∈ o.after.toList, Region.binds .any e = true → listed.getD e.on false = true
theorem reach_listedL {all : Array Oper} {listed : Array Bool} {rs : List Nat} (hl : LeftL all listed rs) : ∀ (n x i : Nat) (o : Oper), all[i]? = some o → (∀ e ∈ o.after.toList, Region.binds .any e = true → listed.getD e.on false = true) → reach all n x i = true → listed.getD x false = true
 | 0, x, i, o, ho, ha, h => by cases h
 | n + 1, x, i, o, ho, ha, h => by
  simp only [reach, ho, ← Array.any_toList, List.any_eq_true, Bool.and_eq_true, Bool.or_eq_true, beq_iff_eq] at h
  obtain ⟨e, he, hb, h⟩ := h
  have h1 := ha e he hb
  rcases h with h | h
  ·rw [← h]; exact h1
  ·have hlt : e.on < listed.size := by
    rcases Nat.lt_or_ge e.on listed.size with h2 | h2
    ·exact h2
    ·simp [Array.getD_eq_getD_getElem?, h2] at h1
   have hlt2 : e.on < all.size := by rw [← hl.size]; exact hlt
   refine reach_listedL hl n x e.on _ (Array.getElem?_eq_getElem hlt2) (hl.down e.on _ (Array.getElem?_eq_getElem hlt2) (by rw [getD_of_size hlt true false]; exact h1)) h
/-- What is ready is unlisted, and what it stands behind is listed. -/
theorem ready_spec {all : Array Oper} {listed : Array Bool} {i : Nat} (hi : i ∈ Region.ready .any all listed) : ∃ h : i < all.size, listed.getD i true = false ∧ ∀ e ∈ all[i].after.toList, Region.binds .any e = true → listed.getD e.on false = true := by
 unfold Region.ready at hi
 simp only [List.mem_filter, List.mem_range, Bool.and_eq_true, Bool.not_eq_true'] at hi
 obtain ⟨hi1, hi2, hi3⟩ := hi
 rw [Array.getElem?_eq_getElem hi1] at hi3
 simp only [Option.map_some, Option.getD_some, ← Array.all_toList, List.all_eq_true, Bool.or_eq_true, Bool.not_eq_true'] at hi3
 exact ⟨hi1, hi2, fun e he hb => (hi3 e he).resolve_left (by rw [hb]; simp)⟩
theorem LeftL.next {all : Array Oper} {listed : Array Bool} {pre post : List Nat} {i : Nat} (hl : LeftL all listed (pre ++ i :: post)) (hi : i ∈ Region.ready .any all listed) : LeftL all (listed.setIfInBounds i true) (pre ++ post) := by
 obtain ⟨hi1, hi2, hafter⟩ := ready_spec hi
 have hlsz : i < listed.size := by rw [hl.size]; exact hi1
 have hget : ∀ j b, (listed.setIfInBounds i true).getD j b = if i = j then true else listed.getD j b := by
  intro j b
  simp only [Array.getD_eq_getD_getElem?, Array.getElem?_setIfInBounds]
  by_cases hj : i = j
  ·subst hj; simp [hlsz]
  ·simp [hj]
 have hnd := hl.nodup
 have hnin : i ∉ pre ++ post := by
  intro h
  have := List.nodup_append.1 hnd
  rcases List.mem_append.1 h with h | h
  ·exact this.2.2 i h i (by simp) rfl
  ·exact (List.nodup_cons.1 this.2.1).1 h
 refine ⟨hnd.sublist (by simp), fun j => ?_, by simp [hl.size], fun j o ho hj e he hb => ?_⟩
 ·rw [hget]
  by_cases hj : i = j
  ·subst hj
   simp only [if_true, reduceCtorEq, and_false, iff_false]
   exact hnin
  ·rw [if_neg hj, ← hl.mem j]
   simp only [List.mem_append, List.mem_cons]
   constructor
   ·rintro (h | h)
    ·exact .inl h
    ·exact .inr (.inr h)
   ·rintro (h | h | h)
    ·exact .inl h
    ·exact absurd h.symm hj
    ·exact .inr h
 ·rw [hget] at hj ⊢
  have hlist : listed.getD e.on false = true := by
   by_cases hji : i = j
   ·subst hji
    rw [Array.getElem?_eq_getElem hi1] at ho
    cases ho
    exact hafter e he hb
   ·rw [if_neg hji] at hj
    exact hl.down j o ho hj e he hb
  split
  ·rfl
  ·exact hlist
theorem hmonoQ {Q : VExit → Env → St → Prop} : ∀ e1 env1 s1, Qe L (Qe L Q) e1 env1 s1 → Qe L Q e1 env1 s1 := by
 rintro e1 env1 s1 ⟨e2, q1, q2, e3, q3, q4, q5⟩
 exact ⟨e3, ⟨q3.1.trans q1.1, fun t => (q3.2 t).trans (q1.2 t)⟩, q4, q5⟩
/-- One that is ready, ahead of all others. -/
theorem pick {all : Array Oper} {cls : List Nat} {ex : Nat → Nat → Bool} {Q : VExit → Env → St → Prop} {rs : List Nat} {listed : Array Bool} {env : Env} {st : St} {i : Nat} (hl : LeftL all listed rs) (hg : rs.Pairwise fun x i => goodB all cls ex x i = true)
  (hi : i ∈ Region.ready .any all listed) (hex : ∀ x ∈ rs, ex x i = false) (hok : EnvOK L env) (h : dOps P T an L all (rs.map (atC all cls)) env st (Qe L Q)) (hi1 : i < all.size) :
  ∃ pre post, rs = pre ++ i :: post ∧ ∃ gc v st', guardV all env all[i].guard = some gc ∧ okDstB env.N all[i].dst ∧ dFun P T (stepOp T an all[i].dst all[i].op gc env st) gc (cls.getD i 0) st v st' ∧
   dOps P T an L all ((pre ++ post).map (atC all cls)) (env.put L all[i].dst gc v) st' (Qe L Q) := by
 obtain ⟨_, hi2, hafter⟩ := ready_spec hi
 have himem := (hl.mem i).2 ⟨hi1, hi2⟩
 obtain ⟨pre, post, hsplit⟩ := List.append_of_mem himem
 refine ⟨pre, post, hsplit, ?_⟩
 rw [hsplit] at hg
 have hpre : ∀ x ∈ pre, goodB all cls ex x i = true := fun x hx => (List.pairwise_append.1 hg).2.2 x hx i (by simp)
 have hind : ∀ x ∈ pre.map (atC all cls), indep all x (atC all cls i) = true := by
  intro y hy
  obtain ⟨x, hx, rfl⟩ := List.mem_map.1 hy
  have hxi := hpre x hx
  have hxr : x ∈ rs := by rw [hsplit]; simp [hx]
  simp only [goodB, Bool.or_eq_true, hex x hxr, Bool.false_eq_true, or_false] at hxi
  refine hxi.resolve_left fun hr => ?_
  have h1 := reach_listedL hl 3 x i _ (Array.getElem?_eq_getElem hi1) hafter hr
  have h2 := (hl.mem x).1 hxr
  rw [getD_of_size (by rw [hl.size]; exact h2.1) false true, h2.2] at h1
  cases h1
 rw [hsplit, List.map_append, List.map_cons] at h
 have h := dOps_front (atC all cls i) (post.map (atC all cls)) (pre.map (atC all cls)) env st hind hok h
 have hat : (atC all cls i) = (all[i], cls.getD i 0) := by simp [atC, Array.getD_eq_getD_getElem?, hi1]
 rw [hat] at h
 simp only [dOps] at h
 unfold bindO at h
 split at h
 case h_2 => exact h.elim
 rename_i gc hgc
 obtain ⟨hd, h⟩ := h
 obtain ⟨v, st', hf, h⟩ := dStep_fun h
 have h := dOps_mono hmonoQ _ _ _ h
 rw [← List.map_append] at h
 exact ⟨gc, v, st', hgc, hd, hf, h⟩
theorem exists_min : ∀ {rs : List Nat}, rs ≠ [] → ∃ r ∈ rs, ∀ x ∈ rs, r ≤ x
 | [], h => absurd rfl h
 | [a], _ => ⟨a, by simp, by simp⟩
 | a :: b :: r, _ => by
  obtain ⟨m, h1, h2⟩ := exists_min (rs := b :: r) (by simp)
  rcases Nat.le_total a m with h | h
  ·refine ⟨a, by simp, fun x hx => ?_⟩
   rcases List.mem_cons.1 hx with rfl | hx
   ·exact Nat.le_refl _
   ·exact Nat.le_trans h (h2 x hx)
  ·refine ⟨m, List.mem_cons_of_mem _ h1, fun x hx => ?_⟩
   rcases List.mem_cons.1 hx with rfl | hx
   ·exact h
   ·exact h2 x hx
/-- Something is always ready. -/
theorem some_ready {all : Array Oper} (hE : backB all = true) {listed : Array Bool} {rs : List Nat} (hl : LeftL all listed rs) (hne : rs ≠ []) : Region.ready .any all listed ≠ [] := by
 intro hr
 obtain ⟨r, hrm, hmin⟩ := exists_min hne
 have hr1 := (hl.mem r).1 hrm
 simp only [backB, List.all_eq_true, List.mem_range] at hE
 have hin : r ∈ Region.ready .any all listed := by
  unfold Region.ready
  simp only [List.mem_filter, List.mem_range, Bool.and_eq_true, Bool.not_eq_true']
  refine ⟨hr1.1, hr1.2, ?_⟩
  rw [Array.getElem?_eq_getElem hr1.1]
  simp only [Option.map_some, Option.getD_some, ← Array.all_toList, List.all_eq_true, Bool.or_eq_true, Bool.not_eq_true']
  intro e he
  have h1 := hE r hr1.1
  rw [Array.getElem?_eq_getElem hr1.1] at h1
  simp only [← Array.all_toList, List.all_eq_true, Bool.or_eq_true, Bool.not_eq_true', Nat.blt_eq] at h1
  rcases h1 e he with h2 | h2
  ·exact .inl h2
  ·right
   have hlt : e.on < listed.size := by rw [hl.size]; omega
   rw [getD_of_size hlt false true]
   cases hc : listed.getD e.on true with
   | true => rfl
   | false =>
    have := hmin e.on ((hl.mem e.on).2 ⟨by omega, hc⟩)
    omega
 rw [hr] at hin
 simp at hin
theorem draw_soundL (hT : Tab P T) {all : Array Oper} {cls : List Nat} (hE : backB all = true) {Q : VExit → Env → St → Prop} {g0 : G} {w0 : World} :
  ∀ (n : Nat) (rs : List Nat) (listed : Array Bool) (env : Env) (st : St) (g : G) (w : World) (a : Act), rs.length = n → LeftL all listed rs → (rs.Pairwise fun x i => goodB all cls (fun _ _ => false) x i = true) → Ext g0 w0 g w → SimSt T g st w → SimEnv g w env a → EnvOK L env → a.defers = ds →
   dOps P T an L all (rs.map (atC all cls)) env st (Qe L Q) → wpAny P .any all (Lift T L ds g0 w0 Q) n listed a w := by
 intro n
 induction n with
 | zero =>
  intro rs listed env st g w a hn hl hg hx hst henv hok hds h
  have : rs = [] := List.eq_nil_of_length_eq_zero hn
  subst this
  refine ⟨?_, ?_⟩
  ·unfold Region.ready
   rw [List.filter_eq_nil_iff]
   intro i hi hr
   have hi' : i < all.size := by simpa using hi
   have : listed.getD i true = false := by simp only [Bool.and_eq_true, Bool.not_eq_true'] at hr; exact hr.1
   have := (hl.mem i).2 ⟨hi', this⟩
   simp at this
  ·obtain ⟨env0, q1, q2, q3⟩ := h
   exact ⟨.normal, env0, st, g, q3, rfl, ⟨henv.1.trans q1.1.symm, fun t c v hv => henv.2 t c v (by rw [← q1.2 t]; exact hv)⟩, q2, hds, hst, hx⟩
 | succ n ih =>
  intro rs listed env st g w a hn hl hg hx hst henv hok hds h
  refine ⟨fun hr => (some_ready hE hl (by intro e; rw [e] at hn; simp at hn) hr).elim, fun i hi => ?_⟩
  obtain ⟨hi1, _⟩ := ready_spec hi
  obtain ⟨pre, post, hsplit, gc, v, st', hgc, hd, hf, hrest⟩ := pick hl hg hi (fun _ _ => rfl) hok h hi1
  simp only [wpOp, Array.getElem?_eq_getElem hi1]
  refine dstep_sem hT hst henv hok hds hgc hd hf fun g' w' a' k1 k2 k3 k4 k5 => ?_
  subst hsplit
  exact ih (pre ++ post) _ _ st' g' w' a' (by simp at hn ⊢; omega) (hl.next hi) (hg.sublist (by simp)) (hx.trans k1) k2 k3 k4 k5 hrest
/-- A step that is no call has one outcome. -/
theorem dFun_one {o : Oper} (hc : noCallB o = true) {gc : Bool} {cl : Nat} {env : Env} {st : St} {v v' : V} {s s' : St} (h : dFun P T (stepOp T an o.dst o.op gc env st) gc cl st v s) (h' : dFun P T (stepOp T an o.dst o.op gc env st) gc cl st v' s') : v = v' ∧ s = s' := by
 have hnc : ∀ f args, stepOp T an o.dst o.op gc env st ≠ .call f args := by
  intro f args e
  unfold noCallB at hc
  unfold stepOp pureStep memStep at e
  split at e
  ·split at e <;> cases e
  ·cases e
  ·generalize (an (o.dst.getD 0) == 3) = bb at e
   cases bb with
   | false =>
    simp only [cond_false] at e
    split at e
    ·cases e
    ·split at e
     ·cases e
     ·split at e <;> cases e
   | true =>
    simp only [cond_true, sufS] at e
    split at e <;> cases e
  ·rename_i t n ps hop
   rw [hop] at e
   exact lit_ncall (T := T) (an := an) (dst := o.dst) (gc := gc) (env := env) (st := st) (t := t) (n := n) (ps := ps) f args e
  ·rename_i it c hop
   cases c with
   | true => cases e
   | false => simp only [cond_false] at e; generalize nextV (evG env gc it) st = r at e; cases r <;> cases e
  ·rename_i c hop
   rw [hop] at hc
   simp only at hc
   split at hc
   ·rename_i b hb
    rw [hb] at e
    simp only at e
    split at e
    ·cases e
    ·split at e
     ·cases e
     ·split at e <;> cases e
   ·cases hc
  ·split at e
   ·cases e
   ·split at e
    ·cases e
    ·split at e <;> cases e
 generalize hr : stepOp T an o.dst o.op gc env st = r at h h' hnc
 unfold dFun at h h'
 cases r with
 | pure v0 side => exact ⟨h.1.trans h'.1.symm, h.2.1.trans h'.2.1.symm⟩
 | mem v0 s0 side => exact ⟨h.1.trans h'.1.symm, h.2.1.trans h'.2.1.symm⟩
 | call f args => exact absurd rfl (hnc f args)
 | panic v0 => exact h.elim
 | any l => exact h.elim
 | fail => exact h.elim
theorem draw_sound2 (hT : Tab P T) {all : Array Oper} {cls : List Nat} (hE : backB all = true) (hC : ∀ i (h : i < all.size), noCallB all[i] = true) {p q : Nat} (hpq : p ≠ q) {Q : VExit → Env → St → Prop} {g0 : G} {w0 : World} :
  ∀ (n : Nat) (rs rs' : List Nat) (listed : Array Bool) (env : Env) (st : St) (g : G) (w : World) (a : Act), rs.length = n → rs'.length = n → LeftL all listed rs → LeftL all listed rs' → (rs.Pairwise fun x i => goodB all cls (oneEx p q) x i = true) → (rs'.Pairwise fun x i => goodB all cls (oneEx q p) x i = true) →
   Ext g0 w0 g w → SimSt T g st w → SimEnv g w env a → EnvOK L env → a.defers = ds →
   dOps P T an L all (rs.map (atC all cls)) env st (Qe L Q) → dOps P T an L all (rs'.map (atC all cls)) env st (Qe L Q) → wpAny P .any all (Lift T L ds g0 w0 Q) n listed a w := by
 intro n
 induction n with
 | zero =>
  intro rs rs' listed env st g w a hn hn' hl hl' hg hg' hx hst henv hok hds h h'
  have : rs = [] := List.eq_nil_of_length_eq_zero hn
  subst this
  exact draw_soundL hT hE 0 [] listed env st g w a rfl hl .nil hx hst henv hok hds h
 | succ n ih =>
  intro rs rs' listed env st g w a hn hn' hl hl' hg hg' hx hst henv hok hds h h'
  refine ⟨fun hr => (some_ready hE hl (by intro e; rw [e] at hn; simp at hn) hr).elim, fun i hi => ?_⟩
  obtain ⟨hi1, hi2, _⟩ := ready_spec hi
  have drop : ∀ {l : List Nat} {ex : Nat → Nat → Bool}, (l.Pairwise fun x i => goodB all cls ex x i = true) → (∀ x ∈ l, ∀ y ∈ l, ex x y = false) → l.Pairwise fun x i => goodB all cls (fun _ _ => false) x i = true := by
   intro l ex hp he
   refine List.Pairwise.imp_of_mem (fun {x y} hx hy hgd => ?_) hp
   simp only [goodB, he x hx y hy] at hgd ⊢
   exact hgd
  simp only [wpOp, Array.getElem?_eq_getElem hi1]
  by_cases hip : i = p
  ·subst hip
   obtain ⟨pre, post, hsplit, gc, v, st', hgc, hd, hf, hrest⟩ := pick hl hg hi (fun x _ => by simp [oneEx, hpq]) hok h hi1
   subst hsplit
   refine dstep_sem hT hst henv hok hds hgc hd hf fun g' w' a' k1 k2 k3 k4 k5 => ?_
   have hnx := hl.next hi
   refine draw_soundL hT hE n (pre ++ post) _ _ st' g' w' a' (by simp at hn ⊢; omega) hnx (drop (hg.sublist (by simp)) fun x hx y hy => ?_) (hx.trans k1) k2 k3 k4 k5 hrest
   have hlsz : i < listed.size := by rw [hl.size]; exact hi1
   have hxi : x ≠ i := by
    rintro rfl
    have := ((hnx.mem x).1 hx).2
    simp [Array.getD_eq_getD_getElem?, hlsz] at this
   simp [oneEx, hxi]
  ·by_cases hiq : i = q
   ·subst hiq
    obtain ⟨pre, post, hsplit, gc, v, st', hgc, hd, hf, hrest⟩ := pick hl' hg' hi (fun x _ => by simp [oneEx, hip]) hok h' hi1
    subst hsplit
    refine dstep_sem hT hst henv hok hds hgc hd hf fun g' w' a' k1 k2 k3 k4 k5 => ?_
    have hnx := hl'.next hi
    refine draw_soundL hT hE n (pre ++ post) _ _ st' g' w' a' (by simp at hn' ⊢; omega) hnx (drop (hg'.sublist (by simp)) fun x hx y hy => ?_) (hx.trans k1) k2 k3 k4 k5 hrest
    have hlsz : i < listed.size := by rw [hl.size]; exact hi1
    have hxi : x ≠ i := by
     rintro rfl
     have := ((hnx.mem x).1 hx).2
     simp [Array.getD_eq_getD_getElem?, hlsz] at this
    simp [oneEx, hxi]
   ·obtain ⟨pre, post, hsplit, gc, v, st', hgc, hd, hf, hrest⟩ := pick hl hg hi (fun x _ => by simp [oneEx, hiq]) hok h hi1
    obtain ⟨pre', post', hsplit', gc', v', st'', hgc', hd', hf', hrest'⟩ := pick hl' hg' hi (fun x _ => by simp [oneEx, hip]) hok h' hi1
    rw [hgc] at hgc'
    cases hgc'
    obtain ⟨rfl, rfl⟩ := dFun_one (hC i hi1) hf hf'
    subst hsplit
    subst hsplit'
    refine dstep_sem hT hst henv hok hds hgc hd hf fun g' w' a' k1 k2 k3 k4 k5 => ?_
    exact ih (pre ++ post) (pre' ++ post') _ _ st' g' w' a' (by simp at hn ⊢; omega) (by simp at hn' ⊢; omega) (hl.next hi) (hl'.next hi) (hg.sublist (by simp)) (hg'.sublist (by simp)) (hx.trans k1) k2 k3 k4 k5 hrest hrest'
def pairB (all : Array Oper) (cls : List Nat) (ex : Nat → Nat → Bool) : List Nat → Bool
 | [] => true
 | x :: r => r.all (goodB all cls ex x) && pairB all cls ex r
theorem pairB_spec {all : Array Oper} {cls : List Nat} {ex : Nat → Nat → Bool} : ∀ {l : List Nat}, pairB all cls ex l = true → l.Pairwise fun x i => goodB all cls ex x i = true
 | [], _ => .nil
 | x :: r, h => by
  simp only [pairB, Bool.and_eq_true, List.all_eq_true] at h
  exact .cons h.1 (pairB_spec h.2)
def diffB : List Nat → Bool
 | [] => true
 | x :: r => r.all (fun y => !(x == y)) && diffB r
theorem diffB_spec : ∀ {l : List Nat}, diffB l = true → l.Nodup
 | [], _ => .nil
 | x :: r, h => by
  simp only [diffB, Bool.and_eq_true, List.all_eq_true, Bool.not_eq_true', beq_eq_false_iff_ne] at h
  exact .cons h.1 (diffB_spec h.2)
/-- Two operations alone don't go together; here are two orders, one for each. -/
def draw2B (all : Array Oper) (cls : List Nat) (ord : List Nat) (p q : Nat) : Bool :=
 backB all && !(p == q) && (List.range all.size).all (fun i => match all[i]? with | some o => noCallB o | none => true) && pairB all cls (oneEx p q) (List.range all.size) && pairB all cls (oneEx q p) ord &&
  (ord.length == all.size) && ord.all (fun i => Nat.blt i all.size) && diffB ord && (List.range all.size).all fun i => ord.contains i
def pickO (os : List Oper) (ord : List Nat) : List Oper := ord.map fun i => os.getD i default
def pickC (cls : List Nat) (ord : List Nat) : List Nat := ord.map fun i => cls.getD i 0
theorem pick_zip (os : List Oper) (cls : List Nat) : ∀ ord : List Nat, ord.map (atC os.toArray cls) = zipC (pickO os ord) (pickC cls ord)
 | [] => rfl
 | i :: ord => by
  simp only [List.map_cons, pickO, pickC, zipC]
  have := pick_zip os cls ord
  simp only [pickO, pickC] at this
  rw [this]
  congr 1
  simp [atC, Array.getD_eq_getD_getElem?, List.getD_eq_getElem?_getD]
theorem VC.draw2 (hT : Tab P T) (hm : P.follows .mixedOrders = true) {id : Nat} {os : List Oper} {cls ord : List Nat} {p q : Nat} {env : Env} {st : St} {Q : VExit → Env → St → Prop} (hB : draw2B os.toArray cls ord p q = true)
  (h : dOps P T an L os.toArray (zipC os cls) ⟨env.N, env.g, []⟩ st Q) (h' : dOps P T an L os.toArray (zipC (pickO os ord) (pickC cls ord)) ⟨env.N, env.g, []⟩ st Q) : VC P T L ds (.region id os.toArray true) env st Q := by
 intro g w a h1 h2 h3 h4
 refine wp_region_any hm ?_
 simp only [draw2B, Bool.and_eq_true, List.all_eq_true, List.mem_range, Bool.not_eq_true', beq_eq_false_iff_ne, beq_iff_eq, Nat.blt_eq, List.contains_iff_mem] at hB
 obtain ⟨⟨⟨⟨⟨⟨⟨⟨b1, b2⟩, b3⟩, b4⟩, b5⟩, b6⟩, b7⟩, b8⟩, b9⟩ := hB
 have hx := Ext.drew g w
 have henv : SimEnv g w ⟨env.N, env.g, []⟩ a := ⟨h2.1, fun t c v hv => h2.2 t c v (h3 t _ (by simpa [Env.look, find] using hv)).2⟩
 have hok : EnvOK L ⟨env.N, env.g, []⟩ := fun t x hx => ⟨(h3 t x hx).1, by simpa [Env.look, find] using hx⟩
 have h5 : SimSt T g st w.drew := h1.keep hx rfl (fun _ _ => rfl) fun b _ _ => ⟨rfl, rfl⟩
 have hd := dOps_same _ _ _ st ⟨rfl, fun _ => rfl⟩ hok h
 have hd' := dOps_same _ _ _ st ⟨rfl, fun _ => rfl⟩ hok h'
 rw [← zipC_eq] at hd
 rw [← pick_zip] at hd'
 have hfalse : ∀ i, i < os.length → (Array.replicate os.toArray.size false).getD i true = false := fun i hi => by simp [Array.getD_eq_getD_getElem?, Array.getElem?_replicate, hi]
 have hdown : ∀ j o, os.toArray[j]? = some o → (Array.replicate os.toArray.size false).getD j true = true → ∀ e ∈ o.after.toList, Region.binds .any e = true → (Array.replicate os.toArray.size false).getD e.on false = true := by
  intro j o ho hj
  have hlt : j < os.length := by simpa using (Array.getElem?_eq_some_iff.1 ho).1
  rw [hfalse j hlt] at hj
  cases hj
 have hl : LeftL os.toArray (Array.replicate os.toArray.size false) (List.range os.length) := by
  refine ⟨List.nodup_range, fun i => ?_, by simp, hdown⟩
  simp only [List.mem_range, List.size_toArray]
  exact ⟨fun hi => ⟨hi, hfalse i hi⟩, fun hi => hi.1⟩
 have hl' : LeftL os.toArray (Array.replicate os.toArray.size false) ord := by
  refine ⟨diffB_spec b8, fun i => ?_, by simp, hdown⟩
  simp only [List.size_toArray]
  exact ⟨fun hi => ⟨b7 i hi, hfalse i (b7 i hi)⟩, fun hi => b9 i hi.1⟩
 have := draw_sound2 hT b1 (fun i hi => by have := b3 i hi; rw [Array.getElem?_eq_getElem hi] at this; exact this) b2 (Q := Q) (g0 := g) (w0 := w) os.length (List.range os.length) ord _ _ st g w.drew a (by simp) (by simpa using b6) hl hl' (pairB_spec b4) (pairB_spec b5) hx h5 (henv.ext hx) hok h4 hd hd'
 simpa using this
/-- What holds at a place on the way. -/
def Mid {σ : Type} (N : Nat) (ks : List Nat) (e : σ → List (Nat × Bool × V)) (s : σ → St) (I : σ → Prop) (ex : VExit) (env : Env) (st : St) : Prop := ex = .normal ∧ env.N = N ∧ ∃ x, env.keep ks = e x ∧ st = s x ∧ I x
theorem vdraw2 (hT : Tab P T) (hm : P.follows .mixedOrders = true) {σ : Type} {id : Nat} {os : List Oper} (cls ord : List Nat) (p q : Nat) (ks : List Nat) (e : σ → List (Nat × Bool × V)) (s : σ → St) (I : σ → Prop) (hks : subN ks L = true) {N : Nat} {g l : List (Nat × Bool × V)} {st : St} {k : Kont} {Q : VExit → Env → St → Prop} (hB : draw2B os.toArray cls ord p q = true)
  (h : dK P T an L ds os.toArray os cls ⟨N, g, []⟩ st .done (Mid N ks e s I)) (h' : dK P T an L ds os.toArray (pickO os ord) (pickC cls ord) ⟨N, g, []⟩ st .done (Mid N ks e s I))
  (cont : ∀ x, I x → qK P T an L ds k Q .normal ⟨N, e x, []⟩ (s x)) : VC P T L ds (.region id os.toArray true) ⟨N, g, l⟩ st (qK P T an L ds k Q) := by
 intro g0 w a h1 h2 h3 h4
 refine wp_mono (VC.draw2 (ds := ds) (an := an) (env := ⟨N, g, l⟩) (Q := Mid N ks e s I) hT hm hB h h' g0 w a h1 h2 h3 h4) fun e1 a' w' ⟨ve, env', st', g', k1, k2, k3, k4, k5, k6, k7⟩ => ?_
 obtain ⟨rfl, hN, x, hx1, rfl, hI⟩ := k1
 refine ⟨.normal, ⟨N, e x, []⟩, s x, g', cont x hI, k2, ?_, ?_, k5, k6, k7⟩
 ·rw [← hN, ← hx1]; exact k3.keep ks
 ·rw [← hN, ← hx1]; exact EnvOK.keep hks env'
/-- A call, where nil slices may become tips. -/
theorem VCalls.more (es : List TypeId) {f : FuncId} {args args' : List V} {st s0 : St} {Q : VEnd → St → Prop} (h : VCalls P T f args' (s0 ++ tips es) Q) (hw : wkLp (Tips st.length es.length) args args') (hs : wkStp (Tips st.length es.length) st s0) : VCalls P T f args st Q :=
 ⟨h.1, fun g w vals h1 h2 => by
  obtain ⟨gt, xt, ht1, ht2⟩ := h1.pushTips es
  have hp : Nil0 gt (Tips st.length es.length) := ht2
  exact (h.2 gt w vals (ht1.wkp hp (hs.append (wkSt_refl _))) (hw.sim hp (h2.ext xt))).mono fun e w' ⟨r, s, g', k1, k2, k3, k4⟩ => ⟨r, s, g', k1, k2, k3, xt.trans k4⟩⟩
end
end Go.Proofs.YtpllcpbhjglpaaaGreatDoor.Gw
namespace Go.Proofs.YtpllcpbhjglpaaaGreatDoor.Gw
open Go
set_option linter.unusedSimpArgs false
/-- The ghost at the beginning. -/
def g00 : G := { own := fun _ => none, pb := fun _ => 0, tv := fun _ => .slice none 0 0, len := fun _ => 0, n := 0 }
theorem sim00 (T : Nat → TI) (w : World) (h : Amb g00 w := by first | assumption | (intro p hp; simp [ambL] at hp)) : SimSt T g00 [] w := ⟨rfl, fun i e h => by simp at h, fun i j ei ej b h => by simp at h, h⟩
theorem mapM_some {α β : Type} {f : α → Option β} : ∀ {l : List α} {r : List β}, l.mapM f = some r → r.length = l.length ∧ ∀ (i : Nat) (x : α), l[i]? = some x → ∃ y, r[i]? = some y ∧ f x = some y
 | [], r, h => by simp at h; subst h; exact ⟨rfl, fun i x h => by simp at h⟩
 | a :: l, r, h => by
  rw [List.mapM_cons] at h
  cases ha : f a with
  | none => rw [ha] at h; simp at h
  | some y =>
   rw [ha] at h
   cases hl : l.mapM f with
   | none => rw [hl] at h; simp at h
   | some ys =>
    rw [hl] at h
    simp at h
    subst h
    obtain ⟨h1, h2⟩ := mapM_some hl
    refine ⟨by simp [h1], fun i x hx => ?_⟩
    cases i with
    | zero => simp at hx; subst hx; exact ⟨y, rfl, ha⟩
    | succ i => exact h2 i x (by simpa using hx)
section
variable {H : Type} {enc : TypeId × Value → H} {P : Program} {W : World} {spare : Nat → Bool} {held : Bool}
theorem dec_int {t : TypeId} {k : IntKind} (ht : P.underlying t = some (.int k)) {n : Nat} {cs : List Value} {r : DataW H × List MemPlace} (h : DataW.trod enc P W 0 spare held n t cs = some r) : ∃ m, cs = [.int k m] := by
 cases n with
 | zero => simp [DataW.trod] at h
 | succ n =>
  unfold DataW.trod at h
  rw [ht] at h
  split at h <;> first | (cases h; done) | skip
  all_goals rename_i e; first | (injection e with e; cases e; done) | skip
  all_goals simp_all
theorem dec_str {t : TypeId} (ht : P.underlying t = some .string) {n : Nat} {cs : List Value} {r : DataW H × List MemPlace} (h : DataW.trod enc P W 0 spare held n t cs = some r) : ∃ s : List UInt8, cs = [.string ⟨s.toArray⟩] ∧ s.length ≤ 9223372036854775807 := by
 cases n with
 | zero => simp [DataW.trod] at h
 | succ n =>
  unfold DataW.trod at h
  rw [ht] at h
  split at h <;> first | (cases h; done) | skip
  all_goals rename_i e; first | (injection e with e; cases e; done) | skip
  all_goals rename_i s
  all_goals split at h
  all_goals first | (cases h; done) | skip
  all_goals rename_i hs
  all_goals exact ⟨s.data.toList, by cases s; rfl, by rw [Array.length_toList]; exact hs⟩
theorem dec_struct {t : TypeId} {fs : Array Field} (ht : P.underlying t = some (.struct fs)) {n : Nat} {cs : List Value} {r : DataW H × List MemPlace} (h : DataW.trod enc P W 0 spare held n t cs = some r) :
  ∃ m, n = m + 1 ∧ cs.length = P.cellsOf t ∧ ∀ f ∈ fs.toList, ∃ y, DataW.trod enc P W 0 spare held m f.type ((cs.drop f.offset).take (P.cellsOf f.type)) = some y := by
 cases n with
 | zero => simp [DataW.trod] at h
 | succ n =>
  unfold DataW.trod at h
  rw [ht] at h
  split at h <;> first | (cases h; done) | skip
  all_goals rename_i e; first | (injection e with e; cases e; done) | skip
  ·rename_i cs _ _ _
   injection e with e
   injection e with e
   subst e
   split at h
   case isFalse => simp at h
   rename_i hl
   refine ⟨n, rfl, hl, fun f hf => ?_⟩
   cases hm : List.mapM (fun f => DataW.trod enc P W 0 spare held n f.type (List.take (P.cellsOf f.type) (List.drop f.offset cs))) fs.toList with
   | none => rw [hm] at h; simp at h
   | some ys =>
    obtain ⟨i, hi⟩ := List.getElem?_of_mem hf
    obtain ⟨y, _, hy⟩ := (mapM_some hm).2 i f hi
    exact ⟨y, hy⟩
  ·exact (‹∀ fs_1 : Array Field, some (TypeDesc.struct fs) = some (TypeDesc.struct fs_1) → False› fs rfl).elim
theorem dec_cells {a : Addr} {n : Nat} {cs : List Value} (h : W.cells? 0 a n = some cs) : cs.length = n ∧ ∀ (j : Nat) (u : Value), cs[j]? = some u → W.cell? (a.add j) = some u := by
 unfold World.cells? at h
 simp only [Nat.zero_le, if_true] at h
 obtain ⟨h1, h2⟩ := mapM_some h
 rw [List.length_range] at h1
 refine ⟨h1, fun j u hj => ?_⟩
 have hlt := (List.getElem?_eq_some_iff.1 hj).1
 obtain ⟨y, hy, hc⟩ := h2 j j (by rw [List.getElem?_range (by omega)])
 rw [hj] at hy
 cases hy
 exact hc
/-- Rows, at a plain address. -/
theorem dec_rows {X : Type} {f : X → List V} {sz b : Nat} (hb : b < W.heap.size) : ∀ (l : List X) (off : Nat), (∀ (i : Nat) (x : X), l[i]? = some x → ∃ cs : List Value, cs.length = sz ∧ SimVs g00 W (f x) cs ∧ (∀ u ∈ cs, u.oneCell' = true) ∧ ∀ (j : Nat) (u : Value), cs[j]? = some u → W.cell? ⟨b, off + i * sz + j, none⟩ = some u) →
  SimRows g00 W ⟨b, off, none⟩ sz (l.map f)
 | [], off, _ => by simp [SimRows]
 | x :: l, off, h => by
  obtain ⟨cs, h1, h2, h3, h4⟩ := h 0 x rfl
  simp only [List.map_cons, SimRows]
  have at_ : ∀ (ys : List V) (us : List Value) (o : Nat), SimVs g00 W ys us → (∀ u ∈ us, u.oneCell' = true) → (∀ (j : Nat) (u : Value), us[j]? = some u → W.cell? ⟨b, o + j, none⟩ = some u) → SimAt g00 W ⟨b, o, none⟩ ys := by
   intro ys
   induction ys with
   | nil => intro us o _ _ _; simp [SimAt]
   | cons y ys ih =>
    intro us o k1 k2 k3
    simp only [SimVs] at k1
    obtain ⟨u, r, rfl, k4, k5⟩ := k1
    simp only [SimAt]
    refine ⟨⟨u, ⟨rfl, hb, fun k hk => by cases hk⟩, by simpa using k3 0 u rfl, k2 u (by simp), k4⟩, ?_⟩
    have e1 : (Addr.mk b o none).add 1 = ⟨b, o + 1, none⟩ := Addr.add_eq rfl 1
    rw [e1]
    exact ih r (o + 1) k5 (fun v hv => k2 v (by simp [hv])) fun j v hj => by
     have := k3 (j + 1) v (by simpa using hj)
     rw [show o + (j + 1) = o + 1 + j by omega] at this; exact this
  refine ⟨by rw [← h2.length]; exact h1, at_ _ cs off h2 h3 (by simpa using h4), ?_⟩
  have e1 : (Addr.mk b off none).add sz = ⟨b, off + sz, none⟩ := Addr.add_eq rfl _
  rw [e1]
  refine dec_rows hb l (off + sz) fun i y hi => ?_
  obtain ⟨cs, k1, k2, k3, k4⟩ := h (i + 1) y (by simpa using hi)
  refine ⟨cs, k1, k2, k3, fun j u hj => ?_⟩
  have := k4 j u hj
  rw [show off + (i + 1) * sz + j = off + sz + i * sz + j by rw [Nat.succ_mul]; omega] at this
  exact this
theorem choose_list {α X : Type} {R : α → X → Prop} : ∀ (l : List α), (∀ a ∈ l, ∃ x, R a x) → ∃ m : List X, m.length = l.length ∧ ∀ (i : Nat) (a : α) (x : X), l[i]? = some a → m[i]? = some x → R a x
 | [], _ => ⟨[], rfl, fun i a x h => by simp at h⟩
 | a :: l, h => by
  obtain ⟨x, hx⟩ := h a (by simp)
  obtain ⟨m, h1, h2⟩ := choose_list l fun b hb => h b (by simp [hb])
  refine ⟨x :: m, by simp [h1], fun i b y hb hy => ?_⟩
  cases i with
  | zero => simp at hb hy; subst hb; subst hy; exact hx
  | succ i => exact h2 i b y (by simpa using hb) (by simpa using hy)
theorem dec_slice {X : Type} (f : X → List V) {sz : Nat} {e t : TypeId} (ht : P.underlying t = some (.slice e)) (hsz : P.cellsOf e = sz) (hpos : 0 < sz) {n : Nat} {cs : List Value} {r : DataW H × List MemPlace}
  (ih : ∀ m, m < n → ∀ cs r, DataW.trod enc P W 0 spare held m e cs = some r → ∃ x : X, SimVs g00 W (f x) cs ∧ ∀ u ∈ cs, u.oneCell' = true) (h : DataW.trod enc P W 0 spare held n t cs = some r) :
  ∃ (l : List X) (v : Value), cs = [v] ∧ SimV g00 W (.lst sz none (l.map f)) v ∧ v.oneCell' = true := by
 cases n with
 | zero => simp [DataW.trod] at h
 | succ n =>
  unfold DataW.trod at h
  rw [ht] at h
  split at h <;> first | (cases h; done) | skip
  all_goals rename_i e'; first | (injection e' with e'; cases e'; done) | skip
  ·exact ⟨[], _, rfl, by simp only [SimV]; exact ⟨none, 0, rfl, by simp, by simp [maxLen], by simp, .inl rfl, by simp, by simp [SimRows]⟩, rfl⟩
  ·rename_i a len cap
   injection e' with e'
   injection e' with e'
   subst e'
   rw [hsz] at h
   split at h
   case isFalse => cases h
   rename_i hc
   obtain ⟨_, c1, c2⟩ := hc
   refine Exists.elim (show ∃ elems, (List.range len).mapM (fun i => (W.cells? 0 (a.add (i * sz)) sz).bind (DataW.trod enc P W 0 spare held n e)) = some elems from ?_) fun elems hm => ?_
   ·cases hm : (List.range len).mapM (fun i => (W.cells? 0 (a.add (i * sz)) sz).bind (DataW.trod enc P W 0 spare held n e)) with
    | none => dsimp only at h; rw [hm] at h; simp at h
    | some ys => exact ⟨ys, rfl⟩
   obtain ⟨hl, hi⟩ := mapM_some hm
   have each : ∀ i ∈ List.range len, ∃ x : X, ∃ cs : List Value, cs.length = sz ∧ SimVs g00 W (f x) cs ∧ (∀ u ∈ cs, u.oneCell' = true) ∧ ∀ (j : Nat) (u : Value), cs[j]? = some u → W.cell? ((a.add (i * sz)).add j) = some u := by
    intro i hir
    rw [List.mem_range] at hir
    obtain ⟨y, _, hy⟩ := hi i i (by rw [List.getElem?_range hir])
    cases hcs : W.cells? 0 (a.add (i * sz)) sz with
    | none => rw [hcs] at hy; simp at hy
    | some cs =>
     rw [hcs] at hy
     obtain ⟨k1, k2⟩ := dec_cells hcs
     obtain ⟨x, k3, k4⟩ := ih n (Nat.lt_succ_self n) cs y hy
     exact ⟨x, cs, k1, k3, k4, k2⟩
   obtain ⟨xs, hxl, hxs⟩ := choose_list (List.range len) each
   rw [List.length_range] at hxl
   refine ⟨xs, _, rfl, ?_, rfl⟩
   simp only [SimV]
   refine ⟨some a, cap, by rw [List.length_map, hxl], by rw [List.length_map, hxl]; exact c1, c2, by simp, ?_, by simp, ?_⟩
   ·cases xs with
    | nil => exact .inl rfl
    | cons x xs =>
     right
     obtain ⟨cs, k1, _, _, k2⟩ := hxs 0 0 x (by rw [List.getElem?_range (by simp at hxl; omega)]) rfl
     have h0 : cs[0]? = some (cs[0]'(by omega)) := List.getElem?_eq_getElem _
     have := World.cell?_spot (k2 0 _ h0)
     simpa [Addr.add] using this
   ·cases xs with
    | nil => simp [SimRows]
    | cons x xs =>
     obtain ⟨cs, k1, _, _, k2⟩ := hxs 0 0 x (by rw [List.getElem?_range (by simp at hxl; omega)]) rfl
     have h0 : cs[0]? = some (cs[0]'(by omega)) := List.getElem?_eq_getElem _
     have hc0 := k2 0 _ h0
     have hsp : a.spot = none := by have := World.cell?_spot hc0; simpa [Addr.add] using this
     have hblk : a.block < W.heap.size := by
      unfold World.cell? at hc0
      split at hc0
      ·rename_i hh
       have := (Array.getElem?_eq_some_iff.1 hh).1
       rw [Addr.add_eq hsp, Addr.add_eq rfl] at this
       exact this
      ·cases hc0
     obtain ⟨b, off, sp⟩ := a
     simp only at hsp hblk
     subst hsp
     simp only [Option.getD_some]
     refine dec_rows hblk (x :: xs) off fun i y hy => ?_
     have hil : i < len := by rw [← hxl]; exact (List.getElem?_eq_some_iff.1 hy).1
     obtain ⟨cs, j1, j2, j3, j4⟩ := hxs i i y (by rw [List.getElem?_range hil]) hy
     refine ⟨cs, j1, j2, j3, fun j u hj => ?_⟩
     have := j4 j u hj
     rw [show (Addr.mk b off none).add (i * sz) = ⟨b, off + i * sz, none⟩ from Addr.add_eq rfl _, show (Addr.mk b (off + i * sz) none).add j = ⟨b, off + i * sz + j, none⟩ from Addr.add_eq rfl _] at this
     exact this
  all_goals first | (exact (‹∀ (e_1 : TypeId) (a : Addr) (len cap : Nat), some (TypeDesc.slice e) = some (TypeDesc.slice e_1) → _ → False› e _ _ _ rfl (by assumption)).elim) | (simp at h)
end
end Go.Proofs.YtpllcpbhjglpaaaGreatDoor.Gw
namespace Go.Proofs.YtpllcpbhjglpaaaGreatDoor.Gw
open Go
set_option linter.unusedSimpArgs false
def numb : Nat → List (V × V) → List (Nat × V × V)
 | _, [] => []
 | n, (k, v) :: r => (n, k, v) :: numb (n + 1) r
section
variable {κ α : Type}
/-- Where a key stands, and what with. -/
def ascI [DecidableEq κ] (s : κ) : List (κ × α) → Nat → Option (Nat × α)
 | [], _ => none
 | (k, a) :: r, i => if s = k then some (i, a) else ascI s r (i + 1)
def asc [DecidableEq κ] (s : κ) : List (κ × α) → Option α
 | [] => none
 | (k, a) :: r => if s = k then some a else asc s r
/-- A key is laid in. -/
def ups [DecidableEq κ] (s : κ) (a : α) : List (κ × α) → List (κ × α)
 | [] => [(s, a)]
 | (k, b) :: r => if s = k then (s, a) :: r else (k, b) :: ups s a r
theorem ascI_snd [DecidableEq κ] (s : κ) : ∀ (l : List (κ × α)) (i : Nat), (ascI s l i).map (·.2) = asc s l
 | [], _ => rfl
 | (k, a) :: r, i => by
  simp only [ascI, asc]
  split
  ·rfl
  ·exact ascI_snd s r (i + 1)
def mkE (ek : κ → V) (ev : α → V) (n : Nat) (l : List (κ × α)) : List (Nat × V × V) := numb n (l.map fun p => (ek p.1, ev p.2))
def mapE (ek : κ → V) (ev : α → V) (l : List (κ × α)) : Ent := .map l.length (mkE ek ev 0 l)
/-- Keys that are told apart as they are. -/
def KeyP [DecidableEq κ] (T : Nat → TI) (k : TK) (ek : κ → V) : Prop := ∀ x y, keyEq T k (ek x) (ek y) = some (decide (x = y))
variable {ek : κ → V} {ev : α → V}
theorem mfind_mkE [DecidableEq κ] {T : Nat → TI} {k : TK} (hk : KeyP T k ek) (s : κ) : ∀ (l : List (κ × α)) (n i : Nat), mfind T k (ek s) (mkE ek ev n l) i = some ((ascI s l i).map fun p => (p.1, ev p.2))
 | [], n, i => rfl
 | (k', a) :: r, n, i => by
  have ih := mfind_mkE hk s r (n + 1) (i + 1)
  simp only [mkE] at ih
  have hk' := hk s k'
  simp only [mkE, List.map_cons, numb, mfind, hk', ascI]
  by_cases h : s = k'
  ·simp [h]
  ·simp [h, ih]
theorem look_mapE [DecidableEq κ] {T : Nat → TI} {k : TK} (hk : KeyP T k ek) (i : TI) (ok : Bool) (s : κ) (st : St) (l : List (κ × α)) :
  lookE T k i ok (ek s) st (some (mapE ek ev l)) = some (lookR ok (((asc s l).map ev).getD (zeroV i)) (asc s l).isSome, st, True) := by
 simp only [lookE, mapE, mfind_mkE hk, Option.map_some]
 rw [← ascI_snd s l 0]
 cases ascI s l 0 <;> rfl
theorem put_none [DecidableEq κ] : ∀ (l : List (κ × α)) (s : κ) (a : α) (i n : Nat), ascI s l i = none → ups s a l = l ++ [(s, a)] ∧ mkE ek ev n (l ++ [(s, a)]) = mkE ek ev n l ++ [(n + l.length, ek s, ev a)]
 | [], s, a, i, n, _ => by simp [ups, mkE, numb]
 | (k, b) :: r, s, a, i, n, h => by
  simp only [ascI] at h
  split at h
  ·cases h
  rename_i hk
  obtain ⟨h1, h2⟩ := put_none r s a (i + 1) (n + 1) h
  simp only [mkE] at h2
  refine ⟨by simp [ups, hk, h1], ?_⟩
  simp only [mkE, List.cons_append, List.map_cons, numb, h2, List.length_cons]
  rw [show n + (r.length + 1) = n + 1 + r.length by omega]
theorem put_some [DecidableEq κ] : ∀ (l : List (κ × α)) (s : κ) (a b : α) (i j n : Nat), ascI s l i = some (j, b) → (ups s a l).length = l.length ∧ i ≤ j ∧ mset (j - i) (ek s) (ev a) (mkE ek ev n l) = mkE ek ev n (ups s a l)
 | [], s, a, b, i, j, n, h => by simp [ascI] at h
 | (k, c) :: r, s, a, b, i, j, n, h => by
  simp only [ascI] at h
  split at h
  ·rename_i hk
   simp only [Option.some.injEq, Prod.mk.injEq] at h
   obtain ⟨rfl, rfl⟩ := h
   simp [ups, hk, mkE, numb, mset]
  ·rename_i hk
   obtain ⟨h1, h2, h3⟩ := put_some r s a b (i + 1) j (n + 1) h
   refine ⟨by simp [ups, hk, h1], by omega, ?_⟩
   simp only [mkE] at h3
   simp only [ups, hk, if_false, mkE, List.map_cons, numb]
   rw [show j - i = (j - (i + 1)) + 1 by omega]
   simp only [mset, h3]
theorem put_mapE [DecidableEq κ] {T : Nat → TI} {k : TK} (hk : KeyP T k ek) (o : Nat) (s : κ) (a : α) (st : St) (l : List (κ × α)) :
  putE T k o (ek s) (ev a) st (some (mapE ek ev l)) = some (.junk, st.set o (mapE ek ev (ups s a l)), True) := by
 simp only [putE, mapE, mfind_mkE hk, Option.map_some]
 cases h : ascI s l 0 with
 | none =>
  obtain ⟨h1, h2⟩ := put_none (ek := ek) (ev := ev) l s a 0 0 h
  simp only [Option.map_none, mput, h1, h2, List.length_append, List.length_cons, List.length_nil, Nat.zero_add]
 | some p =>
  obtain ⟨j, b⟩ := p
  obtain ⟨h1, h2, h3⟩ := put_some (ek := ek) (ev := ev) l s a b 0 j 0 h
  rw [Nat.sub_zero] at h3
  simp only [Option.map_some, mput, h1, h3]
theorem mkE_mem : ∀ (l : List (κ × α)) (n : Nat) (e : Nat × V × V), e ∈ mkE ek ev n l → ∃ i a, l[i]? = some a ∧ e = (n + i, ek a.1, ev a.2)
 | [], n, e, h => by simp [mkE, numb] at h
 | (k, b) :: r, n, e, h => by
  simp only [mkE, List.map_cons, numb, List.mem_cons] at h
  rcases h with rfl | h
  ·exact ⟨0, (k, b), rfl, rfl⟩
  ·obtain ⟨i, a, h1, h2⟩ := mkE_mem r (n + 1) e h
   exact ⟨i + 1, a, by simpa using h1, by rw [h2, show n + 1 + i = n + (i + 1) by omega]⟩
theorem mapE_lt {n : Nat} {l : List (κ × α)} (h1 : ∀ k, (ek k).lt n) (h2 : ∀ a, (ev a).lt n) : (mapE ek ev l).lt n := by
 intro e he
 obtain ⟨i, a, _, rfl⟩ := mkE_mem l 0 e he
 exact ⟨h1 _, h2 _⟩
end
theorem keyP_str (T : Nat → TI) : KeyP T .str V.str := fun _ _ => rfl
end Go.Proofs.YtpllcpbhjglpaaaGreatDoor.Gw
namespace Go.Proofs.YtpllcpbhjglpaaaGreatDoor.Gw
open Go
set_option linter.unusedSimpArgs false
theorem SimVs.setAt {g : G} {w : World} {x y : V} (hxy : ∀ u, SimV g w x u → SimV g w y u) : ∀ {cs : List V} {vs : List Value} {j : Nat}, cs[j]? = some x → SimVs g w cs vs → SimVs g w (cs.set j y) vs
 | [], vs, j, h, _ => by simp at h
 | c :: cs, vs, 0, h, hs => by
  simp only [List.getElem?_cons_zero, Option.some.injEq] at h
  subst h
  simp only [List.set_cons_zero, SimVs] at hs ⊢
  obtain ⟨v, r, h1, h2, h3⟩ := hs
  exact ⟨v, r, h1, hxy v h2, h3⟩
 | c :: cs, vs, j + 1, h, hs => by
  simp only [List.set_cons_succ, SimVs] at hs ⊢
  obtain ⟨v, r, h1, h2, h3⟩ := hs
  exact ⟨v, r, h1, h2, SimVs.setAt hxy (by simpa using h) h3⟩
/-- What a cell of a box holds may be taken for something else. -/
theorem SimSt.setBox {T : Nat → TI} {g : G} {w : World} {st : St} {o j : Nat} {cs : List V} {x y : V} (h : SimSt T g st w) (ho : st[o]? = some (.box cs)) (hj : cs[j]? = some x) (hxy : ∀ u, SimV g w x u → SimV g w y u) : SimSt T g (st.set o (.box (cs.set j y))) w := by
 have hlt := (List.getElem?_eq_some_iff.1 ho).1
 refine ⟨by rw [List.length_set]; exact h.n, fun i e hi => ?_, fun i k ei ek b hi hk k1 k2 => ?_, h.amb⟩
 ·by_cases e' : o = i
  ·subst e'
   rw [List.getElem?_set_self hlt] at hi
   cases hi
   have hb := h.ent o _ ho
   simp only [SimE] at hb ⊢
   obtain ⟨b1, vs, ty, b2, b3, b4⟩ := hb
   exact ⟨b1, vs, ty, b2, SimVs.setAt hxy hj b3, b4⟩
  ·rw [List.getElem?_set_ne e'] at hi
   exact h.ent i e hi
 ·have back : ∀ (i : Nat) (ei : Ent), (st.set o (.box (cs.set j y)))[i]? = some ei → blkOf g i ei = some b → ∃ e2, st[i]? = some e2 ∧ blkOf g i e2 = some b := by
   intro i ei hi hk
   by_cases e' : o = i
   ·subst e'
    rw [List.getElem?_set_self hlt] at hi
    cases hi
    exact ⟨_, ho, hk⟩
   ·rw [List.getElem?_set_ne e'] at hi
    exact ⟨ei, hi, hk⟩
  obtain ⟨e1, a1, a2⟩ := back i ei hi k1
  obtain ⟨e2, c1, c2⟩ := back k ek hk k2
  exact h.one i k e1 e2 b a1 c1 a2 c2
/-- A nil slice in a box may be taken for an array of nothing. -/
theorem vnilB {P : Program} {T : Nat → TI} {L : List Nat} {ds : List Deferred} {c : Code} {env : Env} {st : St} {Q : VExit → Env → St → Prop} (o j : Nat) (cs : List V) (e : TypeId) (ho : st[o]? = some (.box cs)) (hj : cs[j]? = some .nils)
  (h : VC P T L ds c env ((st ++ [Ent.arr e (T e).size []]).set o (Ent.box (cs.set j (V.arr st.length 0)))) Q) : VC P T L ds c env st Q := by
 intro g w a hst henv hok hds
 have hn := hst.n
 have hlt := (List.getElem?_eq_some_iff.1 ho).1
 have hx := Ext.push g w 0 (.slice none 0 0) 0
 have hS : SimSt T (g.push 0 (.slice none 0 0) 0) (st ++ [.arr e (T e).size []]) w := hst.push ⟨rfl, by simp, [], ⟨by simp [G.push], by simp, .inl ⟨rfl, by simp [G.push]⟩⟩, by simp [SimVs], by simp⟩ (fun c hc => by simp [blkOf, G.push, Value.ownBlock] at hc)
 have hS2 := hS.setBox (o := o) (j := j) (cs := cs) (x := .nils) (y := .arr st.length 0) (by rw [List.getElem?_append_left hlt]; exact ho) hj fun u hu => by
  simp only [SimV] at hu ⊢
  subst hu
  exact ⟨by simp [G.push, hn], by simp [G.push, hn], fun _ => by simp [G.push, hn], none, 0, rfl⟩
 exact wp_mono (h _ w a hS2 (henv.ext hx) hok hds) fun e a' u hL => hL.ext hx
/-- At a call, too. -/
theorem VCalls.nilB {P : Program} {T : Nat → TI} {f : FuncId} {args : List V} {st : St} {Q : VEnd → St → Prop} (o j : Nat) (cs : List V) (e : TypeId) (ho : st[o]? = some (.box cs)) (hj : cs[j]? = some .nils)
  (h : VCalls P T f args ((st ++ [Ent.arr e (T e).size []]).set o (Ent.box (cs.set j (V.arr st.length 0)))) Q) : VCalls P T f args st Q := by
 refine ⟨h.1, fun g w vals hst hv => ?_⟩
 have hn := hst.n
 have hlt := (List.getElem?_eq_some_iff.1 ho).1
 have hx := Ext.push g w 0 (.slice none 0 0) 0
 have hS : SimSt T (g.push 0 (.slice none 0 0) 0) (st ++ [.arr e (T e).size []]) w := hst.push ⟨rfl, by simp, [], ⟨by simp [G.push], by simp, .inl ⟨rfl, by simp [G.push]⟩⟩, by simp [SimVs], by simp⟩ (fun c hc => by simp [blkOf, G.push, Value.ownBlock] at hc)
 have hS2 := hS.setBox (o := o) (j := j) (cs := cs) (x := .nils) (y := .arr st.length 0) (by rw [List.getElem?_append_left hlt]; exact ho) hj fun u hu => by
  simp only [SimV] at hu ⊢
  subst hu
  exact ⟨by simp [G.push, hn], by simp [G.push, hn], fun _ => by simp [G.push, hn], none, 0, rfl⟩
 refine (h.2 _ w vals hS2 (SimVs.ext hx _ _ hv)).mono ?_
 rintro e' w' ⟨r, st', g', k1, k2, k3, k4⟩
 exact ⟨r, st', g', k1, k2, k3, hx.trans k4⟩
end Go.Proofs.YtpllcpbhjglpaaaGreatDoor.Gw
namespace Go.Proofs.YtpllcpbhjglpaaaGreatDoor.Gw
open Go
set_option linter.unusedSimpArgs false
set_option linter.unusedVariables false
section
variable {P : Program} {T : Nat → TI} {an : Nat → Nat} {L : List Nat} {ds : List Deferred}
/-- What a call comes to that panics, where what it made for itself is forgotten. -/
def GivesP (X : V) (st' : St) (r : VEnd) (s : St) : Prop := ∃ ex v su, s = su ++ ex ∧ wkSt su st' ∧ r = .panic v ∧ wk v X ∧ X.lt st'.length ∧ St.ok st'
theorem VCalls.giveP {f : FuncId} {args : List V} {st st' : St} {X : V} (h : VCalls P T f args st (GivesP X st')) (hn : st.length ≤ st'.length) : VCalls P T f args st fun r s => r = .panic X ∧ s = st' :=
 ⟨h.1, fun g w vals h1 h2 => (h.2 g w vals h1 h2).mono fun e w' ⟨r, s, g', ⟨ex, v, su, e1, e0, e2, e3, e4, e5⟩, k2, k3, k4⟩ => by
  subst e1; subst e2
  have k3 := k3.wk (e0.append (wkSt_refl ex))
  obtain ⟨val, rfl, hv⟩ := k2
  exact ⟨.panic X, st', g'.cut st'.length, ⟨rfl, rfl⟩, ⟨val, rfl, (e3.sim (nil0_no g') hv).cut e4⟩, k3.drop e5, k4.cut (by rw [h1.n]; exact hn)⟩⟩
/-- A function, by its body's condition, that panics. -/
theorem vfunP (hT : Tab P T) {f : FuncId} {fn : Func} {c : Code} (hf : P.funcs[f]? = some fn) (hb : fn.body = some c) (hnm : (fn.name == "runtime.NumGoroutine") = false) {rs : List ResultVar} (hrs : fn.results.toList = rs) {N : Nat} (hN : fn.ntmps = N)
  {args : List V} (hl : Nat.ble args.length N = true) (hL : (List.range args.length).all (memN L) = true) {st st' : St} {X : V} (hn : st.length ≤ st'.length)
  (h : St.ok st → ltL st.length args → fitL args → cK P T an L [] c ⟨N, initG 0 args, []⟩ st .done (vRet T rs (GivesP X st'))) : VCalls P T f args st fun r s => r = .panic X ∧ s = st' :=
 VCalls.giveP (vcalls hT hf hb hnm hrs hN (Nat.le_of_ble_eq_true hl) hL h) hn
theorem givesP_of {v X : V} {su st' ex : St} (hw : wk v X) (hs : wkSt su st') (h : X.lt st'.length) (hst : St.ok st') : GivesP X st' (.panic v) (su ++ ex) := ⟨ex, v, su, rfl, hs, rfl, hw, h, hst⟩
theorem givesP_self {X : V} {st : St} (h : X.lt st.length) (hst : St.ok st) : GivesP X st (.panic X) st := ⟨[], X, st, (List.append_nil _).symm, wkSt_refl st, rfl, wk_refl X, h, hst⟩
/-- A call that panics. -/
theorem VCalls.useP {f : FuncId} {args args' : List V} {st st' : St} {X : V} {dst : Option Tmp} {gc : Bool} {all : Array Oper} {os : List Oper} {env : Env} {k : Kont} {Q : VExit → Env → St → Prop}
  (h : VCalls P T f args' st fun r s => r = .panic X ∧ s = st') (hw : wkL args args') (h2 : qK P T an L ds k Q (.panic X) env st') : VCalls P T f args st (aK P T an L ds dst gc all os env k Q) :=
 (h.args hw).mono fun r s ⟨e1, e2⟩ => by subst e1; subst e2; exact h2
def ModeOf (g : G) (w : World) (u : FrameMode) : Option V → Prop
 | none => u = .returning
 | some v => ∃ val, u = .panicking [{ v := val, recovered := false }] ∧ SimV g w v val
/-- A deferred call of a function with what it has captured, of a frame that returns, or that panics with a value: it comes back, a panic is caught. -/
def VDefers (P : Program) (T : Nat → TI) (f : FuncId) (caps : List V) (x : Option V) (st st' : St) : Prop :=
 Enters P f ∧ ∀ g w (vals : List Value) u, SimSt T g st w → SimVs g w caps vals → ModeOf g w u x →
  CallsD P f vals.toArray u w fun e u' w' => (∃ z, e = .returned z) ∧ settle u' = .returning ∧ ∃ g', SimSt T g' st' w' ∧ Ext g w g' w'
theorem wpOpsS_list {ops : Array Oper} {Q : Exit → Act → List Frame → World → Prop} {QQ : Exit → Act → World → Prop} {cs : List Frame} (hq : ∀ e a w, QQ e a w → Q e a cs w) (hno : ¬ LetsOut QQ) : ∀ (l : List Oper) (k : Nat), (∀ j, l[j]? = ops[k + j]?) → ∀ (a : Act) (w : World), wpList P ops QQ l a w → wpOpsS P ops Q (List.range' k l.length) a cs w
 | [], k, _, a, w, h => by simp only [List.length_nil, List.range'_zero, wpOpsS]; exact hq _ _ _ h
 | o :: l, k, hk, a, w, h => by
  have h0 : ops[k]? = some o := by simpa using (hk 0).symm
  have ih := wpOpsS_list hq hno l (k + 1) (fun j => by have := hk (j + 1); simpa [Nat.add_assoc, Nat.add_comm 1 j] using this)
  simp only [List.length_cons, List.range'_succ, wpOpsS, h0]
  simp only [wpList] at h
  split
  ·rename_i hw
   rw [if_pos hw] at h
   have h := h.resolve_right fun hh => hno hh.2
   unfold Oper.wp at h
   generalize (execOp a.eval o).run P w = r at h
   split
   ·exact h.elim
   ·rename_i hnot
    unfold Oper.upon at h ⊢
    split at h
    ·exact ih _ _ h
    ·exact ih _ _ h
    ·exact ih _ _ h
    ·refine h.mono fun e w' he => ?_
     cases e with
     | returned v => exact ih _ _ he
     | panicked ch => exact hq _ _ _ he
     | outgrown => exact absurd he hno
    ·exact h.mono fun v w' hv => ih _ _ hv
    ·exact hq _ _ _ h
    ·exact h.elim
  ·rename_i hw
   rw [if_neg hw] at h
   exact ih _ _ h
theorem vdefers (hT : Tab P T) {f : FuncId} {fn : Func} {id : Nat} {t : Tmp} {ats : Array TypeId} {ty : TypeId} {pos : String} {aft : Array Edge} {os : List Oper} {rest : Code} (hf : P.funcs[f]? = some fn)
  (hb : fn.body = some (.seq (.region id (⟨some t, .call ⟨.builtin .recover, #[], ats⟩, ty, pos, aft, none⟩ :: os).toArray false) rest)) (hnm : (fn.name == "runtime.NumGoroutine") = false) (hr : fn.results = #[]) {N : Nat} (hN : fn.ntmps = N) {caps : List V} (hl : Nat.ble caps.length N = true) (hL : (List.range caps.length).all (memN L) = true) (ht : t < N)
  {x : Option V} {st st' : St} (hn : st.length ≤ st'.length)
  (h : St.ok st → ltL st.length caps → fitL caps → oK P T an L [] (⟨some t, .call ⟨.builtin .recover, #[], ats⟩, ty, pos, aft, none⟩ :: os).toArray os ((⟨N, initG 0 caps, []⟩ : Env).put L (some t) true (x.getD .nili)) st (.seq rest .done)
   (fun ve _ s => (ve = .normal ∨ ve = .ret) ∧ ∃ ex su, s = su ++ ex ∧ wkSt su st' ∧ St.ok st')) : VDefers P T f caps x st st' := by
 refine ⟨⟨fn, hf, by rw [hb]; rfl, hnm⟩, fun g w vals u h1 h2 hu => callsD_of_wpS hf hb fun c0 cs hc0 => ?_⟩
 have hvl := h2.length
 have hl := Nat.le_of_ble_eq_true hl
 have henv : SimEnv g w ⟨N, initG 0 caps, []⟩ { tmps := vals.toArray ++ Array.replicate (fn.ntmps - vals.toArray.size) undef, defers := [] } := by
  refine ⟨by simp [hN]; omega, fun t c v hv => ?_⟩
  simp only [Env.look, find] at hv
  obtain ⟨_, u, hu, hx⟩ := find_initG 0 caps t _ hv
  cases hx
  obtain ⟨z, hz, hs⟩ := h2.get t (by simpa using hu)
  simp only [if_true]
  have : (vals.toArray ++ Array.replicate (fn.ntmps - vals.toArray.size) undef).getD t undef = z := by
   obtain ⟨htl, hz'⟩ := List.getElem?_eq_some_iff.1 hz
   simp [Array.getD_eq_getD_getElem?, Array.getElem?_append, htl, hz']
  rw [this]; exact hs
 have hok : EnvOK L ⟨N, initG 0 caps, []⟩ := by
  intro t x hx
  obtain ⟨_, u, hu, hx'⟩ := find_initG 0 caps t x hx
  have htl := (List.getElem?_eq_some_iff.1 hu).1
  simp only [List.all_eq_true] at hL
  exact ⟨hL t (by simpa using htl), by simpa [Env.look, find] using hx⟩
 have h := h h1.okSt (by rw [← h1.n]; exact h2.lt) h2.fit
 generalize ha0 : ({ tmps := vals.toArray ++ Array.replicate (fn.ntmps - vals.toArray.size) undef, defers := [] } : Act) = a0 at henv ⊢
 have hd0 : a0.defers = [] := by rw [← ha0]
 have main : ∀ (val : Value) (cs' : List Frame) (u' : FrameMode), cs' = { c0 with mode := u' } :: cs → settle u' = .returning → SimV g w (x.getD .nili) val →
   wpOpsS P (⟨some t, .call ⟨.builtin .recover, #[], ats⟩, ty, pos, aft, none⟩ :: os).toArray (Exit.thenS (rest.wpS P (bodyPostS P fn c0 cs fun e u' w' => (∃ z, e = .returned z) ∧ settle u' = .returning ∧ ∃ g', SimSt T g' st' w' ∧ Ext g w g' w')) (bodyPostS P fn c0 cs fun e u' w' => (∃ z, e = .returned z) ∧ settle u' = .returning ∧ ∃ g', SimSt T g' st' w' ∧ Ext g w g' w')) (List.range' 1 os.length) (a0.put (some t) val) cs' w := by
  intro val cs' u' hcs hset hval
  have hp := henv.put (L := L) (some t) ht (c := true) (v := x.getD .nili) (val := val) (by simpa using hval)
  have hd1 : (a0.put (some t) val).defers = [] := by simpa [Act.put] using hd0
  have hs := vOps_sound (ds := []) hT os _ st g w _ (Ext.refl g w) h1 hp (hok.put _ _ _) hd1 h
  have done : ∀ (e : Exit) (a' : Act) (w' : World) (g' : G) (s : St), a'.defers = [] → (e = .normal ∨ e = .ret) → (∃ ex su, s = su ++ ex ∧ wkSt su st' ∧ St.ok st') → SimSt T g' s w' → Ext g w g' w' → bodyPostS P fn c0 cs (fun e u' w' => (∃ z, e = .returned z) ∧ settle u' = .returning ∧ ∃ g', SimSt T g' st' w' ∧ Ext g w g' w') e a' cs' w' := by
   rintro e a' w' g' s hd he ⟨ex, su, rfl, e0, e5⟩ k3 k4
   have k3 := k3.wk (e0.append (wkSt_refl ex))
   have : a'.defers = [] ∧ ∃ u', cs' = { c0 with mode := u' } :: cs ∧ ∃ v, (results fn a'.tmps).run P w' = .ok v w' ∧ ((∃ z, Ending.returned v = .returned z) ∧ settle u' = .returning ∧ ∃ g', SimSt T g' st' w' ∧ Ext g w g' w') := by
    refine ⟨hd, u', hcs, .tuple #[], ?_, ⟨_, rfl⟩, hset, _, k3.drop e5, k4.cut (by rw [h1.n]; exact hn)⟩
    rw [results_eq, hr]
    simp
   rcases he with rfl | rfl <;> exact this
  refine wpOpsS_list (QQ := Lift T L [] g w _) ?_ ?_ os 1 (fun j => by simp [Nat.add_comm 1 j]) _ _ hs
  ·rintro e a' w' ⟨ve, env', s, g', k1, k2, k3, k4, k5, k6, k7⟩
   cases ve with
   | normal =>
    simp only [SimExit] at k2; subst k2
    refine wpS_of_wp (wp_mono (vCode_sound hT rest env' s _ k1 g' w' a' k6 k3 k4 k5) ?_)
    rintro e2 a2 w2 ⟨ve2, env2, s2, g2, m1, m2, m3, m4, m5, m6, m7⟩
    obtain ⟨hve, hex⟩ := m1
    refine done e2 a2 w2 g2 s2 m5 ?_ hex m6 (k7.trans m7)
    rcases hve with rfl | rfl
    ·simp only [SimExit] at m2; exact .inl m2
    ·simp only [SimExit] at m2; exact .inr m2
   | exit i => exact absurd k1.1 (by simp)
   | ret =>
    simp only [SimExit] at k2; subst k2
    exact done .ret a' w' g' s k5 (.inr rfl) k1.2 k6 k7
   | panic v => exact absurd k1.1 (by simp)
  ·rintro ⟨a', w', ve, env', s, g', k1, k2, _⟩
   cases ve <;> simp [SimExit] at k2
 apply wpS_seq
 apply wpS_region
 have hsz : List.range (⟨some t, .call ⟨.builtin .recover, #[], ats⟩, ty, pos, aft, none⟩ :: os : List Oper).toArray.size = 0 :: List.range' 1 os.length := by
  rw [List.range_eq_range']; simp [List.range'_succ]
 rw [hsz]
 have hrun : (execOp a0.eval ⟨some t, .call ⟨.builtin .recover, #[], ats⟩, ty, pos, aft, none⟩).run P w = .ok .recover w := by simp [go_sem]
 simp only [wpOpsS, List.getElem?_toArray, List.getElem?_cons_zero]
 rw [if_pos (by simp [Region.wanted]), hrun]
 simp only [recoverD, hc0]
 cases x with
 | none =>
  simp only [ModeOf] at hu
  subst hu
  simp only
  exact main .nilIface (c0 :: cs) .returning (by cases c0; simp at hc0; simp [hc0]) rfl (by simp [SimV])
 | some v =>
  obtain ⟨val, rfl, hv⟩ := hu
  simp only
  exact main val _ _ rfl (by simp [settle]) hv
end
end Go.Proofs.YtpllcpbhjglpaaaGreatDoor.Gw
namespace Go.Proofs.YtpllcpbhjglpaaaGreatDoor.Gw
open Go
set_option linter.unusedSimpArgs false
set_option linter.unusedVariables false
section
variable {P : Program} {T : Nat → TI} {an : Nat → Nat} {L : List Nat}
def RW (T : Nat → TI) (Q : VEnd → St → Prop) (g0 : G) (w0 : World) (e : Ending) (w' : World) : Prop := ∃ r st' g', Q r st' ∧ SimEnd g' w' r e ∧ SimSt T g' st' w' ∧ Ext g0 w0 g' w'
/-- What a body comes to, with whatever it defers. -/
def WA (P : Program) (T : Nat → TI) (L : List Nat) (fn : Func) (Q : VEnd → St → Prop) (c : Code) (env : Env) (st : St) : Prop :=
 ∀ g w a g0 w0, Ext g0 w0 g w → SimSt T g st w → SimEnv g w env a → EnvOK L env → a.defers = [] → c.wp P (bodyPostD P fn (RW T Q g0 w0)) a w
theorem results_run (hT : Tab P T) {fn : Func} {rs : List ResultVar} (hrs : fn.results.toList = rs) {Q : VEnd → St → Prop} {env : Env} {st : St} {g : G} {w : World} {g0 : G} {w0 : World} {a : Act} (k3 : SimEnv g w env a) (k6 : SimSt T g st w) (k7 : Ext g0 w0 g w)
  (hr : bindO (resV T env st rs) fun r => r.2 ∧ Q (.ret (tupV r.1)) st) : ∃ v, (results fn a.tmps).run P w = .ok v w ∧ RW T Q g0 w0 (.returned v) w := by
 unfold bindO at hr
 split at hr
 case h_2 => exact hr.elim
 rename_i r hres
 obtain ⟨vs, side⟩ := r
 obtain ⟨hs, hq⟩ := hr
 obtain ⟨vals', m1, m2⟩ := resV_sound hT k6 k3 hres hs
 have hrun : (results fn a.tmps).run P w = .ok (if h : vals'.toArray.size = 1 then vals'.toArray[0] else .tuple vals'.toArray) w := by
  rw [results_eq, Array.mapM_eq_mapM_toList, hrs]
  simp only [Sem.run_bind, Sem.run_map, m1, Result.andThen_ok, Sem.run_pure]
 refine ⟨_, hrun, .ret (tupV vs), st, g, hq, ⟨_, rfl, ?_⟩, k6, k7⟩
 have hlen := m2.length
 match vs, m2, hlen with
 | [], m2, hlen =>
  have : vals' = [] := by simpa using hlen
  subst this
  simp only [tupV, SimV]; exact ⟨[], by simp, m2⟩
 | [v], m2, hlen =>
  simp only [SimVs] at m2
  obtain ⟨u, r, rfl, m3, rfl⟩ := m2
  simpa [tupV] using m3
 | v :: v2 :: vs, m2, hlen =>
  have hne : ¬ vals'.toArray.size = 1 := by simp [hlen]
  simp only [hne, dite_false, tupV, SimV]
  exact ⟨vals', rfl, m2⟩
/-- What comes behind a first part. -/
def wQ (P : Program) (T : Nat → TI) (L : List Nat) (fn : Func) (rs : List ResultVar) (Q : VEnd → St → Prop) (y : Code) : VExit → Env → St → Prop
 | .normal, env, st => WA P T L fn Q y env st
 | e, env, st => vRet T rs Q e env st
theorem wQ_normal {fn : Func} {rs : List ResultVar} {Q : VEnd → St → Prop} {y : Code} {env : Env} {st : St} : wQ P T L fn rs Q y .normal env st = WA P T L fn Q y env st := rfl
theorem wQ_ret {fn : Func} {rs : List ResultVar} {Q : VEnd → St → Prop} {y : Code} {env : Env} {st : St} : wQ P T L fn rs Q y .ret env st = vRet T rs Q .ret env st := rfl
theorem wQ_panic {fn : Func} {rs : List ResultVar} {Q : VEnd → St → Prop} {y : Code} {env : Env} {st : St} {v : V} : wQ P T L fn rs Q y (.panic v) env st = vRet T rs Q (.panic v) env st := rfl
theorem waSeq (hT : Tab P T) {fn : Func} {rs : List ResultVar} (hrs : fn.results.toList = rs) {Q : VEnd → St → Prop} {x y : Code} {env : Env} {st : St} (h : cK P T an L [] x env st .done (wQ P T L fn rs Q y)) : WA P T L fn Q (.seq x y) env st := by
 intro g w a g0 w0 hx h1 h2 h3 h4
 refine wp_seq (wp_mono (vCode_sound hT x env st _ h g w a h1 h2 h3 h4) ?_)
 rintro e a' w' ⟨ve, env', st', g', k1, k2, k3, k4, k5, k6, k7⟩
 cases ve with
 | normal =>
  simp only [SimExit] at k2; subst k2
  exact k1 g' w' a' g0 w0 (hx.trans k7) k6 k3 k4 k5
 | exit i => exact k1.elim
 | ret =>
  simp only [SimExit] at k2; subst k2
  show Leaves P fn a'.tmps _ a'.defers .returning w'
  rw [k5]
  exact results_run hT hrs k3 k6 (hx.trans k7) k1
 | panic v =>
  obtain ⟨val, rfl, hv⟩ := k2
  show Leaves P fn a'.tmps _ a'.defers (.panicking _) w'
  rw [k5]
  exact ⟨.panic v, st', g', k1, ⟨val, rfl, hv⟩, k6, hx.trans k7⟩
/-- What follows a body that has deferred a closure. -/
def dQ (P : Program) (T : Nat → TI) (k : FuncId) (vs : List V) (rs : List ResultVar) (Q : VEnd → St → Prop) : VExit → Env → St → Prop
 | .normal, env, st => ∃ st2, VDefers P T k vs none st st2 ∧ bindO (resV T env st2 rs) fun r => r.2 ∧ Q (.ret (tupV r.1)) st2
 | .ret, env, st => ∃ st2, VDefers P T k vs none st st2 ∧ bindO (resV T env st2 rs) fun r => r.2 ∧ Q (.ret (tupV r.1)) st2
 | .panic v, env, st => ∃ st2, VDefers P T k vs (some v) st st2 ∧ bindO (resV T env st2 rs) fun r => r.2 ∧ Q (.ret (tupV r.1)) st2
 | .exit _, _, _ => False
theorem dQ_ret {k : FuncId} {vs : List V} {rs : List ResultVar} {Q : VEnd → St → Prop} {env : Env} {st st2 : St} (h : VDefers P T k vs none st st2) (h2 : bindO (resV T env st2 rs) fun r => r.2 ∧ Q (.ret (tupV r.1)) st2) : dQ P T k vs rs Q .ret env st := ⟨st2, h, h2⟩
theorem dQ_panic {k : FuncId} {vs : List V} {rs : List ResultVar} {Q : VEnd → St → Prop} {env : Env} {st st2 : St} {v : V} (h : VDefers P T k vs (some v) st st2) (h2 : bindO (resV T env st2 rs) fun r => r.2 ∧ Q (.ret (tupV r.1)) st2) : dQ P T k vs rs Q (.panic v) env st := ⟨st2, h, h2⟩
theorem run_invoke {k : FuncId} (he : Enters P k) (caps : List Value) (w : World) : (invoke (.fn (.func k) caps.toArray) #[]).run P w = .ok (.enter k caps.toArray) w := by
 obtain ⟨fn, e1, e2, e3⟩ := he
 have e2' : ¬ fn.body = none := by intro hb; rw [hb] at e2; simp at e2
 have e3' : ¬ fn.name = "runtime.NumGoroutine" := by simpa using e3
 simp [invoke, callFunc, e1, e2', e3']
theorem waDefer (hT : Tab P T) {fn : Func} {rs : List ResultVar} (hrs : fn.results.toList = rs) {Q : VEnd → St → Prop} {id : Nat} {t : Tmp} {k : FuncId} {cap : List Operand} {ty ty2 : TypeId} {pos pos2 : String} {aft aft2 : Array Edge} {dst2 : Option Tmp} {ats : Array TypeId} {y : Code} {N : Nat} {g1 l1 : List (Nat × Bool × V)} {st : St} (vs : List V)
  (he : Enters P k) (ht : t < N) (hd2 : dst2 = none) (hvs : cap.map (evG ⟨N, g1, []⟩ true) = vs) (h : ∀ d, cK P T an L [d] y ((⟨N, g1, []⟩ : Env).put L (some t) true (.fn (.func k) vs)) st .done (dQ P T k vs rs Q)) :
  WA P T L fn Q (.seq (.region id (List.toArray [⟨some t, .makeFunc (.func k) (List.toArray []) cap.toArray, ty, pos, aft, none⟩, ⟨dst2, .defer ⟨.value (.tmp t), (List.toArray []), ats⟩, ty2, pos2, aft2, none⟩]) false) y) ⟨N, g1, l1⟩ st := by
 subst hd2
 intro g w a g0 w0 hx h1 h2 h3 h4
 have h2' := h2.loc h3
 have h3' := h3.loc
 simp only at h2' h3'
 obtain ⟨cvals, hc1, hc2⟩ : ∃ cvals : List Value, cap.map a.eval = cvals ∧ SimVs g w vs cvals := ⟨_, rfl, by rw [← hvs]; exact evs_sim (fun x => evG_sim h2' rfl x) cap⟩
 have hfn : SimV g w (.fn (.func k) vs) (.func (.func k) #[] cvals.toArray) := by simp only [SimV]; exact ⟨cvals, rfl, hc2⟩
 have hp := h2'.put (L := L) (some t) ht (c := true) (v := .fn (.func k) vs) (val := .func (.func k) #[] cvals.toArray) (by simpa using hfn)
 have hok := h3'.put (L := L) (some t) true (.fn (.func k) vs)
 refine wp_seq (wp_region_lit ?_)
 have hta : (a.put (some t) (Value.func (.func k) #[] cvals.toArray)).eval (.tmp t) = .func (.func k) #[] cvals.toArray := by
  have hsz := h2'.1
  simp only at hsz
  simp [Act.eval, Act.put, Array.getD_eq_getD_getElem?, hsz, ht]
 refine wpList_step fun K hK => ?_
 rw [if_pos (by simp [Region.wanted])]
 have hr1 : (execOp a.eval ⟨some t, .makeFunc (.func k) (List.toArray []) cap.toArray, ty, pos, aft, none⟩).run P w = .ok (.value (.func (.func k) #[] cvals.toArray)) w := by
  rw [← hc1]
  simp [execOp, Instr.makeFunc]
 unfold Oper.wp Oper.upon
 rw [hr1]
 refine hK _ _ ?_
 refine wpList_step fun K hK => ?_
 rw [if_pos (by simp [Region.wanted])]
 have hr2 : (execOp (a.put (some t) (Value.func (.func k) #[] cvals.toArray)).eval ⟨none, .defer ⟨.value (.tmp t), (List.toArray []), ats⟩, ty2, pos2, aft2, none⟩).run P w = .ok (.defer ⟨.fn (.func k) cvals.toArray, #[]⟩) w := by
  simp [execOp, resolve, hta, Deferred.ofValue]
 unfold Oper.wp Oper.upon
 simp only at hr2 ⊢
 rw [hr2]
 refine hK _ _ ?_
 show y.wp P _ _ w
 have hds : ({ (a.put (some t) (Value.func (.func k) #[] cvals.toArray)) with defers := ⟨.fn (.func k) cvals.toArray, #[]⟩ :: (a.put (some t) (Value.func (.func k) #[] cvals.toArray)).defers } : Act).put none undef = { (a.put (some t) (Value.func (.func k) #[] cvals.toArray)) with defers := [⟨.fn (.func k) cvals.toArray, #[]⟩] } := by
  simp [Act.put, h4]
 rw [hds]
 refine wp_mono (vCode_sound hT y _ st _ (h ⟨.fn (.func k) cvals.toArray, #[]⟩) g w _ h1 ⟨hp.1, hp.2⟩ hok rfl) ?_
 rintro e a' w' ⟨ve, env', st', g', k1, k2, k3, k4, k5, k6, k7⟩
 have hc3 : SimVs g' w' vs cvals := hc2.ext k7
 have fin : ∀ (u : FrameMode) (x : Option V) (st2 : St), u ≠ .run → ModeOf g' w' u x → VDefers P T k vs x st' st2 → (bindO (resV T env' st2 rs) fun r => r.2 ∧ Q (.ret (tupV r.1)) st2) → Leaves P fn a'.tmps (RW T Q g0 w0) a'.defers u w' := by
  intro u x st2 hur hu hv hres
  rw [k5]
  refine leaves_cons hur (run_invoke he cvals w') ((hv.2 g' w' cvals u k6 hc3 hu).mono ?_)
  rintro e2 u' w2 ⟨⟨z, rfl⟩, hset, g2, m1, m2⟩
  simp only
  rw [hset]
  exact results_run hT hrs (k3.ext m2) m1 ((hx.trans k7).trans m2) hres
 cases ve with
 | normal =>
  simp only [SimExit] at k2; subst k2
  obtain ⟨st2, q1, q2⟩ := k1
  exact fin .returning none st2 (by simp) rfl q1 q2
 | exit i => exact k1.elim
 | ret =>
  simp only [SimExit] at k2; subst k2
  obtain ⟨st2, q1, q2⟩ := k1
  exact fin .returning none st2 (by simp) rfl q1 q2
 | panic v =>
  obtain ⟨val, rfl, hv⟩ := k2
  obtain ⟨st2, q1, q2⟩ := k1
  exact fin _ (some v) st2 (by simp) ⟨val, rfl, hv⟩ q1 q2
/-- A function that may defer. -/
theorem vfunD (hT : Tab P T) {f : FuncId} {fn : Func} {c : Code} (hf : P.funcs[f]? = some fn) (hb : fn.body = some c) (hnm : (fn.name == "runtime.NumGoroutine") = false) {N : Nat} (hN : fn.ntmps = N)
  {args : List V} (hl : Nat.ble args.length N = true) (hL : (List.range args.length).all (memN L) = true) {st : St} {Q : VEnd → St → Prop}
  (h : St.ok st → ltL st.length args → fitL args → WA P T L fn Q c ⟨N, initG 0 args, []⟩ st) : VCalls P T f args st Q := by
 refine ⟨⟨fn, hf, by rw [hb]; rfl, hnm⟩, fun g w vals h1 h2 => calls_of_wp_defers hf hb ?_⟩
 have hvl := h2.length
 have hl := Nat.le_of_ble_eq_true hl
 have henv : SimEnv g w ⟨N, initG 0 args, []⟩ { tmps := vals.toArray ++ Array.replicate (fn.ntmps - vals.toArray.size) undef, defers := [] } := by
  refine ⟨by simp [hN]; omega, fun t c v hv => ?_⟩
  simp only [Env.look, find] at hv
  obtain ⟨_, u, hu, hx⟩ := find_initG 0 args t _ hv
  cases hx
  obtain ⟨z, hz, hs⟩ := h2.get t (by simpa using hu)
  simp only [if_true]
  have : (vals.toArray ++ Array.replicate (fn.ntmps - vals.toArray.size) undef).getD t undef = z := by
   obtain ⟨htl, hz'⟩ := List.getElem?_eq_some_iff.1 hz
   simp [Array.getD_eq_getD_getElem?, Array.getElem?_append, htl, hz']
  rw [this]; exact hs
 have hok : EnvOK L ⟨N, initG 0 args, []⟩ := by
  intro t x hx
  obtain ⟨_, u, hu, hx'⟩ := find_initG 0 args t x hx
  have htl := (List.getElem?_eq_some_iff.1 hu).1
  simp only [List.all_eq_true] at hL
  exact ⟨hL t (by simpa using htl), by simpa [Env.look, find] using hx⟩
 exact h h1.okSt (by rw [← h1.n]; exact h2.lt) h2.fit g w _ g w (Ext.refl g w) h1 henv hok rfl
end
end Go.Proofs.YtpllcpbhjglpaaaGreatDoor.Gw
