/- Regions whose order is drawn, where two operations that are unordered don't go together: each order is looked at, and what both come to. What comes in, as it is read, as abstract values: nothing of it is owned. Maps from which nothing is taken, as lists of what they hold. The equations of what an operation does, under two names. Sorting and taking out, off the shelf: what they do to an array of strings. The table of the types of this place, as the engine wants it: each row held against the program. Contracts of slices.Sort and slices.Delete, of an array of strings. Strings, and lists of strings. Contracts: slices.Index, Contains, IndexFunc, ContainsFunc, of lists and arrays of strings. Contracts: graph.Order's closures. -/
import Derived.Test.YtcegdbniggdckaaZT4
import GoSem.ClaimChange
import Derived.ChangeOld
import Derived.Shelf.Lay
import Derived.Shelf.LaySoft
import Derived.Shelf.Sort.Plain
import Derived.Shelf.Slices.In.SortNone
import Derived.Shelf.Slices.Delete
import Derived.Shelf.Slices.Clone
import Derived.Sort.OwnSorted
import Derived.Test.YtcegdbniggdckaaProg
import Derived.KernelRfl
import Derived.Lib.Walk

namespace Go.Proofs.Ytcegdbniggdckaa.Gw
open Go
set_option linter.unusedSimpArgs false

section
variable {P : Program} {T : Nat → TI} {an : Nat → Nat} {L : List Nat} {ds : List Deferred}

def goodB (all : Array Oper) (cls : List Nat) (ex : Nat → Nat → Bool) (x i : Nat) : Bool := reach all 3 x i || indep all (atC all cls x) (atC all cls i) || ex x i
def backB (all : Array Oper) : Bool := (List.range all.size).all fun j => match all[j]? with | none => false | some o => o.after.all fun e => !Region.binds .any e || Nat.blt e.on j
def noCallB (o : Oper) : Bool := match o.op with | .call c => (match c.callee with | .builtin _ => true | _ => false) | _ => true
def oneEx (p q : Nat) (x i : Nat) : Bool := x == p && i == q

structure LeftL (all : Array Oper) (listed : Array Bool) (rs : List Nat) : Prop where
  nodup : rs.Nodup
  mem : ∀ i, i ∈ rs ↔ i < all.size ∧ listed.getD i true = false
  size : listed.size = all.size
  down : ∀ j o, all[j]? = some o → listed.getD j true = true → ∀ e ∈ o.after.toList, Region.binds .any e = true → listed.getD e.on false = true

theorem reach_listedL {all : Array Oper} {listed : Array Bool} {rs : List Nat} (hl : LeftL all listed rs) : ∀ (n x i : Nat) (o : Oper), all[i]? = some o → (∀ e ∈ o.after.toList, Region.binds .any e = true → listed.getD e.on false = true) → reach all n x i = true → listed.getD x false = true
  | 0, x, i, o, ho, ha, h => by cases h
  | n + 1, x, i, o, ho, ha, h => by
    simp only [reach, ho, ← Array.any_toList, List.any_eq_true, Bool.and_eq_true, Bool.or_eq_true, beq_iff_eq] at h
    obtain ⟨e, he, hb, h⟩ := h
    have h1 := ha e he hb
    rcases h with h | h
    · rw [← h]; exact h1
    · have hlt : e.on < listed.size := by
        rcases Nat.lt_or_ge e.on listed.size with h2 | h2
        · exact h2
        · simp [Array.getD_eq_getD_getElem?, h2] at h1
      have hlt2 : e.on < all.size := by rw [← hl.size]; exact hlt
      refine reach_listedL hl n x e.on _ (Array.getElem?_eq_getElem hlt2) (hl.down e.on _ (Array.getElem?_eq_getElem hlt2) (by rw [getD_of_size hlt true false]; exact h1)) h

/-- What is ready is unlisted, and what it stands behind is listed. -/
theorem ready_spec {all : Array Oper} {listed : Array Bool} {i : Nat} (hi : i ∈ Region.ready .any all listed) : ∃ h : i < all.size, listed.getD i true = false ∧ ∀ e ∈ all[i].after.toList, Region.binds .any e = true → listed.getD e.on false = true := by
  unfold Region.ready at hi
  simp only [List.mem_filter, List.mem_range, Bool.and_eq_true, Bool.not_eq_true'] at hi
  obtain ⟨hi1, hi2, hi3⟩ := hi
  rw [Array.getElem?_eq_getElem hi1] at hi3
  simp only [Option.map_some, Option.getD_some, ← Array.all_toList, List.all_eq_true, Bool.or_eq_true, Bool.not_eq_true'] at hi3
  exact ⟨hi1, hi2, fun e he hb => (hi3 e he).resolve_left (by rw [hb]; simp)⟩

theorem LeftL.next {all : Array Oper} {listed : Array Bool} {pre post : List Nat} {i : Nat} (hl : LeftL all listed (pre ++ i :: post)) (hi : i ∈ Region.ready .any all listed) : LeftL all (listed.setIfInBounds i true) (pre ++ post) := by
  obtain ⟨hi1, hi2, hafter⟩ := ready_spec hi
  have hlsz : i < listed.size := by rw [hl.size]; exact hi1
  have hget : ∀ j b, (listed.setIfInBounds i true).getD j b = if i = j then true else listed.getD j b := by
    intro j b
    simp only [Array.getD_eq_getD_getElem?, Array.getElem?_setIfInBounds]
    by_cases hj : i = j
    · subst hj; simp [hlsz]
    · simp [hj]
  have hnd := hl.nodup
  have hnin : i ∉ pre ++ post := by
    intro h
    have := List.nodup_append.1 hnd
    rcases List.mem_append.1 h with h | h
    · exact this.2.2 i h i (by simp) rfl
    · exact (List.nodup_cons.1 this.2.1).1 h
  refine ⟨hnd.sublist (by simp), fun j => ?_, by simp [hl.size], fun j o ho hj e he hb => ?_⟩
  · rw [hget]
    by_cases hj : i = j
    · subst hj
      simp only [if_true, reduceCtorEq, and_false, iff_false]
      exact hnin
    · rw [if_neg hj, ← hl.mem j]
      simp only [List.mem_append, List.mem_cons]
      constructor
      · rintro (h | h)
        · exact .inl h
        · exact .inr (.inr h)
      · rintro (h | h | h)
        · exact .inl h
        · exact absurd h.symm hj
        · exact .inr h
  · rw [hget] at hj ⊢
    have hlist : listed.getD e.on false = true := by
      by_cases hji : i = j
      · subst hji
        rw [Array.getElem?_eq_getElem hi1] at ho
        cases ho
        exact hafter e he hb
      · rw [if_neg hji] at hj
        exact hl.down j o ho hj e he hb
    split
    · rfl
    · exact hlist

theorem hmonoQ {Q : VExit → Env → St → Prop} : ∀ e1 env1 s1, Qe L (Qe L Q) e1 env1 s1 → Qe L Q e1 env1 s1 := by
  rintro e1 env1 s1 ⟨e2, q1, q2, e3, q3, q4, q5⟩
  exact ⟨e3, ⟨q3.1.trans q1.1, fun t => (q3.2 t).trans (q1.2 t)⟩, q4, q5⟩

/-- One that is ready, ahead of all others. -/
theorem pick {all : Array Oper} {cls : List Nat} {ex : Nat → Nat → Bool} {Q : VExit → Env → St → Prop} {rs : List Nat} {listed : Array Bool} {env : Env} {st : St} {i : Nat} (hl : LeftL all listed rs) (hg : rs.Pairwise fun x i => goodB all cls ex x i = true)
    (hi : i ∈ Region.ready .any all listed) (hex : ∀ x ∈ rs, ex x i = false) (hok : EnvOK L env) (h : dOps P T an L all (rs.map (atC all cls)) env st (Qe L Q)) (hi1 : i < all.size) :
    ∃ pre post, rs = pre ++ i :: post ∧ ∃ gc v st', guardV all env all[i].guard = some gc ∧ okDstB env.N all[i].dst ∧ dFun P T (stepOp T an all[i].dst all[i].op gc env st) gc (cls.getD i 0) st v st' ∧
      dOps P T an L all ((pre ++ post).map (atC all cls)) (env.put L all[i].dst gc v) st' (Qe L Q) := by
  obtain ⟨_, hi2, hafter⟩ := ready_spec hi
  have himem := (hl.mem i).2 ⟨hi1, hi2⟩
  obtain ⟨pre, post, hsplit⟩ := List.append_of_mem himem
  refine ⟨pre, post, hsplit, ?_⟩
  rw [hsplit] at hg
  have hpre : ∀ x ∈ pre, goodB all cls ex x i = true := fun x hx => (List.pairwise_append.1 hg).2.2 x hx i (by simp)
  have hind : ∀ x ∈ pre.map (atC all cls), indep all x (atC all cls i) = true := by
    intro y hy
    obtain ⟨x, hx, rfl⟩ := List.mem_map.1 hy
    have hxi := hpre x hx
    have hxr : x ∈ rs := by rw [hsplit]; simp [hx]
    simp only [goodB, Bool.or_eq_true, hex x hxr, Bool.false_eq_true, or_false] at hxi
    refine hxi.resolve_left fun hr => ?_
    have h1 := reach_listedL hl 3 x i _ (Array.getElem?_eq_getElem hi1) hafter hr
    have h2 := (hl.mem x).1 hxr
    rw [getD_of_size (by rw [hl.size]; exact h2.1) false true, h2.2] at h1
    cases h1
  rw [hsplit, List.map_append, List.map_cons] at h
  have h := dOps_front (atC all cls i) (post.map (atC all cls)) (pre.map (atC all cls)) env st hind hok h
  have hat : (atC all cls i) = (all[i], cls.getD i 0) := by simp [atC, Array.getD_eq_getD_getElem?, hi1]
  rw [hat] at h
  simp only [dOps] at h
  unfold bindO at h
  split at h
  case h_2 => exact h.elim
  rename_i gc hgc
  obtain ⟨hd, h⟩ := h
  obtain ⟨v, st', hf, h⟩ := dStep_fun h
  have h := dOps_mono hmonoQ _ _ _ h
  rw [← List.map_append] at h
  exact ⟨gc, v, st', hgc, hd, hf, h⟩

theorem exists_min : ∀ {rs : List Nat}, rs ≠ [] → ∃ r ∈ rs, ∀ x ∈ rs, r ≤ x
  | [], h => absurd rfl h
  | [a], _ => ⟨a, by simp, by simp⟩
  | a :: b :: r, _ => by
    obtain ⟨m, h1, h2⟩ := exists_min (rs := b :: r) (by simp)
    rcases Nat.le_total a m with h | h
    · refine ⟨a, by simp, fun x hx => ?_⟩
      rcases List.mem_cons.1 hx with rfl | hx
      · exact Nat.le_refl _
      · exact Nat.le_trans h (h2 x hx)
    · refine ⟨m, List.mem_cons_of_mem _ h1, fun x hx => ?_⟩
      rcases List.mem_cons.1 hx with rfl | hx
      · exact h
      · exact h2 x hx

/-- Something is always ready. -/
theorem some_ready {all : Array Oper} (hE : backB all = true) {listed : Array Bool} {rs : List Nat} (hl : LeftL all listed rs) (hne : rs ≠ []) : Region.ready .any all listed ≠ [] := by
  intro hr
  obtain ⟨r, hrm, hmin⟩ := exists_min hne
  have hr1 := (hl.mem r).1 hrm
  simp only [backB, List.all_eq_true, List.mem_range] at hE
  have hin : r ∈ Region.ready .any all listed := by
    unfold Region.ready
    simp only [List.mem_filter, List.mem_range, Bool.and_eq_true, Bool.not_eq_true']
    refine ⟨hr1.1, hr1.2, ?_⟩
    rw [Array.getElem?_eq_getElem hr1.1]
    simp only [Option.map_some, Option.getD_some, ← Array.all_toList, List.all_eq_true, Bool.or_eq_true, Bool.not_eq_true']
    intro e he
    have h1 := hE r hr1.1
    rw [Array.getElem?_eq_getElem hr1.1] at h1
    simp only [← Array.all_toList, List.all_eq_true, Bool.or_eq_true, Bool.not_eq_true', Nat.blt_eq] at h1
    rcases h1 e he with h2 | h2
    · exact .inl h2
    · right
      have hlt : e.on < listed.size := by rw [hl.size]; omega
      rw [getD_of_size hlt false true]
      cases hc : listed.getD e.on true with
      | true => rfl
      | false =>
        have := hmin e.on ((hl.mem e.on).2 ⟨by omega, hc⟩)
        omega
  rw [hr] at hin
  simp at hin

theorem draw_soundL (hT : Tab P T) {all : Array Oper} {cls : List Nat} (hE : backB all = true) {Q : VExit → Env → St → Prop} {g0 : G} {w0 : World} :
    ∀ (n : Nat) (rs : List Nat) (listed : Array Bool) (env : Env) (st : St) (g : G) (w : World) (a : Act), rs.length = n → LeftL all listed rs → (rs.Pairwise fun x i => goodB all cls (fun _ _ => false) x i = true) → Ext g0 w0 g w → SimSt T g st w → SimEnv g w env a → EnvOK L env → a.defers = ds →
      dOps P T an L all (rs.map (atC all cls)) env st (Qe L Q) → wpAny P .any all (Lift T L ds g0 w0 Q) n listed a w := by
  intro n
  induction n with
  | zero =>
    intro rs listed env st g w a hn hl hg hx hst henv hok hds h
    have : rs = [] := List.eq_nil_of_length_eq_zero hn
    subst this
    refine ⟨?_, ?_⟩
    · unfold Region.ready
      rw [List.filter_eq_nil_iff]
      intro i hi hr
      have hi' : i < all.size := by simpa using hi
      have : listed.getD i true = false := by simp only [Bool.and_eq_true, Bool.not_eq_true'] at hr; exact hr.1
      have := (hl.mem i).2 ⟨hi', this⟩
      simp at this
    · obtain ⟨env0, q1, q2, q3⟩ := h
      exact ⟨.normal, env0, st, g, q3, rfl, ⟨henv.1.trans q1.1.symm, fun t c v hv => henv.2 t c v (by rw [← q1.2 t]; exact hv)⟩, q2, hds, hst, hx⟩
  | succ n ih =>
    intro rs listed env st g w a hn hl hg hx hst henv hok hds h
    refine ⟨fun hr => (some_ready hE hl (by intro e; rw [e] at hn; simp at hn) hr).elim, fun i hi => ?_⟩
    obtain ⟨hi1, _⟩ := ready_spec hi
    obtain ⟨pre, post, hsplit, gc, v, st', hgc, hd, hf, hrest⟩ := pick hl hg hi (fun _ _ => rfl) hok h hi1
    simp only [wpOp, Array.getElem?_eq_getElem hi1]
    refine dstep_sem hT hst henv hok hds hgc hd hf fun g' w' a' k1 k2 k3 k4 k5 => ?_
    subst hsplit
    exact ih (pre ++ post) _ _ st' g' w' a' (by simp at hn ⊢; omega) (hl.next hi) (hg.sublist (by simp)) (hx.trans k1) k2 k3 k4 k5 hrest

/-- A step that is no call has one outcome. -/
theorem dFun_one {o : Oper} (hc : noCallB o = true) {gc : Bool} {cl : Nat} {env : Env} {st : St} {v v' : V} {s s' : St} (h : dFun P T (stepOp T an o.dst o.op gc env st) gc cl st v s) (h' : dFun P T (stepOp T an o.dst o.op gc env st) gc cl st v' s') : v = v' ∧ s = s' := by
  have hnc : ∀ f args, stepOp T an o.dst o.op gc env st ≠ .call f args := by
    intro f args e
    unfold noCallB at hc
    unfold stepOp pureStep memStep at e
    split at e
    · split at e <;> cases e
    · cases e
    · rename_i it c hop
      cases c with
      | true => cases e
      | false => simp only [cond_false] at e; generalize nextV (evG env gc it) st = r at e; cases r <;> cases e
    · rename_i c hop
      rw [hop] at hc
      simp only at hc
      split at hc
      · rename_i b hb
        rw [hb] at e
        simp only at e
        split at e
        · cases e
        · split at e
          · cases e
          · split at e <;> cases e
      · cases hc
    · split at e
      · cases e
      · split at e
        · cases e
        · split at e <;> cases e
  generalize hr : stepOp T an o.dst o.op gc env st = r at h h' hnc
  unfold dFun at h h'
  cases r with
  | pure v0 side => exact ⟨h.1.trans h'.1.symm, h.2.1.trans h'.2.1.symm⟩
  | mem v0 s0 side => exact ⟨h.1.trans h'.1.symm, h.2.1.trans h'.2.1.symm⟩
  | call f args => exact absurd rfl (hnc f args)
  | panic v0 => exact h.elim
  | any l => exact h.elim
  | fail => exact h.elim

theorem draw_sound2 (hT : Tab P T) {all : Array Oper} {cls : List Nat} (hE : backB all = true) (hC : ∀ i (h : i < all.size), noCallB all[i] = true) {p q : Nat} (hpq : p ≠ q) {Q : VExit → Env → St → Prop} {g0 : G} {w0 : World} :
    ∀ (n : Nat) (rs rs' : List Nat) (listed : Array Bool) (env : Env) (st : St) (g : G) (w : World) (a : Act), rs.length = n → rs'.length = n → LeftL all listed rs → LeftL all listed rs' → (rs.Pairwise fun x i => goodB all cls (oneEx p q) x i = true) → (rs'.Pairwise fun x i => goodB all cls (oneEx q p) x i = true) →
      Ext g0 w0 g w → SimSt T g st w → SimEnv g w env a → EnvOK L env → a.defers = ds →
      dOps P T an L all (rs.map (atC all cls)) env st (Qe L Q) → dOps P T an L all (rs'.map (atC all cls)) env st (Qe L Q) → wpAny P .any all (Lift T L ds g0 w0 Q) n listed a w := by
  intro n
  induction n with
  | zero =>
    intro rs rs' listed env st g w a hn hn' hl hl' hg hg' hx hst henv hok hds h h'
    have : rs = [] := List.eq_nil_of_length_eq_zero hn
    subst this
    exact draw_soundL hT hE 0 [] listed env st g w a rfl hl .nil hx hst henv hok hds h
  | succ n ih =>
    intro rs rs' listed env st g w a hn hn' hl hl' hg hg' hx hst henv hok hds h h'
    refine ⟨fun hr => (some_ready hE hl (by intro e; rw [e] at hn; simp at hn) hr).elim, fun i hi => ?_⟩
    obtain ⟨hi1, hi2, _⟩ := ready_spec hi
    have drop : ∀ {l : List Nat} {ex : Nat → Nat → Bool}, (l.Pairwise fun x i => goodB all cls ex x i = true) → (∀ x ∈ l, ∀ y ∈ l, ex x y = false) → l.Pairwise fun x i => goodB all cls (fun _ _ => false) x i = true := by
      intro l ex hp he
      refine List.Pairwise.imp_of_mem (fun {x y} hx hy hgd => ?_) hp
      simp only [goodB, he x hx y hy] at hgd ⊢
      exact hgd
    simp only [wpOp, Array.getElem?_eq_getElem hi1]
    by_cases hip : i = p
    · subst hip
      obtain ⟨pre, post, hsplit, gc, v, st', hgc, hd, hf, hrest⟩ := pick hl hg hi (fun x _ => by simp [oneEx, hpq]) hok h hi1
      subst hsplit
      refine dstep_sem hT hst henv hok hds hgc hd hf fun g' w' a' k1 k2 k3 k4 k5 => ?_
      have hnx := hl.next hi
      refine draw_soundL hT hE n (pre ++ post) _ _ st' g' w' a' (by simp at hn ⊢; omega) hnx (drop (hg.sublist (by simp)) fun x hx y hy => ?_) (hx.trans k1) k2 k3 k4 k5 hrest
      have hlsz : i < listed.size := by rw [hl.size]; exact hi1
      have hxi : x ≠ i := by
        rintro rfl
        have := ((hnx.mem x).1 hx).2
        simp [Array.getD_eq_getD_getElem?, hlsz] at this
      simp [oneEx, hxi]
    · by_cases hiq : i = q
      · subst hiq
        obtain ⟨pre, post, hsplit, gc, v, st', hgc, hd, hf, hrest⟩ := pick hl' hg' hi (fun x _ => by simp [oneEx, hip]) hok h' hi1
        subst hsplit
        refine dstep_sem hT hst henv hok hds hgc hd hf fun g' w' a' k1 k2 k3 k4 k5 => ?_
        have hnx := hl'.next hi
        refine draw_soundL hT hE n (pre ++ post) _ _ st' g' w' a' (by simp at hn' ⊢; omega) hnx (drop (hg'.sublist (by simp)) fun x hx y hy => ?_) (hx.trans k1) k2 k3 k4 k5 hrest
        have hlsz : i < listed.size := by rw [hl.size]; exact hi1
        have hxi : x ≠ i := by
          rintro rfl
          have := ((hnx.mem x).1 hx).2
          simp [Array.getD_eq_getD_getElem?, hlsz] at this
        simp [oneEx, hxi]
      · obtain ⟨pre, post, hsplit, gc, v, st', hgc, hd, hf, hrest⟩ := pick hl hg hi (fun x _ => by simp [oneEx, hiq]) hok h hi1
        obtain ⟨pre', post', hsplit', gc', v', st'', hgc', hd', hf', hrest'⟩ := pick hl' hg' hi (fun x _ => by simp [oneEx, hip]) hok h' hi1
        rw [hgc] at hgc'
        cases hgc'
        obtain ⟨rfl, rfl⟩ := dFun_one (hC i hi1) hf hf'
        subst hsplit
        subst hsplit'
        refine dstep_sem hT hst henv hok hds hgc hd hf fun g' w' a' k1 k2 k3 k4 k5 => ?_
        exact ih (pre ++ post) (pre' ++ post') _ _ st' g' w' a' (by simp at hn ⊢; omega) (by simp at hn' ⊢; omega) (hl.next hi) (hl'.next hi) (hg.sublist (by simp)) (hg'.sublist (by simp)) (hx.trans k1) k2 k3 k4 k5 hrest hrest'

def pairB (all : Array Oper) (cls : List Nat) (ex : Nat → Nat → Bool) : List Nat → Bool
  | [] => true
  | x :: r => r.all (goodB all cls ex x) && pairB all cls ex r
theorem pairB_spec {all : Array Oper} {cls : List Nat} {ex : Nat → Nat → Bool} : ∀ {l : List Nat}, pairB all cls ex l = true → l.Pairwise fun x i => goodB all cls ex x i = true
  | [], _ => .nil
  | x :: r, h => by
    simp only [pairB, Bool.and_eq_true, List.all_eq_true] at h
    exact .cons h.1 (pairB_spec h.2)
def diffB : List Nat → Bool
  | [] => true
  | x :: r => r.all (fun y => !(x == y)) && diffB r
theorem diffB_spec : ∀ {l : List Nat}, diffB l = true → l.Nodup
  | [], _ => .nil
  | x :: r, h => by
    simp only [diffB, Bool.and_eq_true, List.all_eq_true, Bool.not_eq_true', beq_eq_false_iff_ne] at h
    exact .cons h.1 (diffB_spec h.2)
/-- Two operations alone don't go together; here are two orders, one for each. -/
def draw2B (all : Array Oper) (cls : List Nat) (ord : List Nat) (p q : Nat) : Bool :=
  backB all && !(p == q) && (List.range all.size).all (fun i => match all[i]? with | some o => noCallB o | none => true) && pairB all cls (oneEx p q) (List.range all.size) && pairB all cls (oneEx q p) ord &&
    (ord.length == all.size) && ord.all (fun i => Nat.blt i all.size) && diffB ord && (List.range all.size).all fun i => ord.contains i

def pickO (os : List Oper) (ord : List Nat) : List Oper := ord.map fun i => os.getD i default
def pickC (cls : List Nat) (ord : List Nat) : List Nat := ord.map fun i => cls.getD i 0
theorem pick_zip (os : List Oper) (cls : List Nat) : ∀ ord : List Nat, ord.map (atC os.toArray cls) = zipC (pickO os ord) (pickC cls ord)
  | [] => rfl
  | i :: ord => by
    simp only [List.map_cons, pickO, pickC, zipC]
    have := pick_zip os cls ord
    simp only [pickO, pickC] at this
    rw [this]
    congr 1
    simp [atC, Array.getD_eq_getD_getElem?, List.getD_eq_getElem?_getD]

theorem VC.draw2 (hT : Tab P T) (hm : P.follows .mixedOrders = true) {id : Nat} {os : List Oper} {cls ord : List Nat} {p q : Nat} {env : Env} {st : St} {Q : VExit → Env → St → Prop} (hB : draw2B os.toArray cls ord p q = true)
    (h : dOps P T an L os.toArray (zipC os cls) ⟨env.N, env.g, []⟩ st Q) (h' : dOps P T an L os.toArray (zipC (pickO os ord) (pickC cls ord)) ⟨env.N, env.g, []⟩ st Q) : VC P T L ds (.region id os.toArray true) env st Q := by
  intro g w a h1 h2 h3 h4
  refine wp_region_any hm ?_
  simp only [draw2B, Bool.and_eq_true, List.all_eq_true, List.mem_range, Bool.not_eq_true', beq_eq_false_iff_ne, beq_iff_eq, Nat.blt_eq, List.contains_iff_mem] at hB
  obtain ⟨⟨⟨⟨⟨⟨⟨⟨b1, b2⟩, b3⟩, b4⟩, b5⟩, b6⟩, b7⟩, b8⟩, b9⟩ := hB
  have hx := Ext.drew g w
  have henv : SimEnv g w ⟨env.N, env.g, []⟩ a := ⟨h2.1, fun t c v hv => h2.2 t c v (h3 t _ (by simpa [Env.look, find] using hv)).2⟩
  have hok : EnvOK L ⟨env.N, env.g, []⟩ := fun t x hx => ⟨(h3 t x hx).1, by simpa [Env.look, find] using hx⟩
  have h5 : SimSt T g st w.drew := h1.keep hx rfl (fun _ _ => rfl) fun b _ _ => ⟨rfl, rfl⟩
  have hd := dOps_same _ _ _ st ⟨rfl, fun _ => rfl⟩ hok h
  have hd' := dOps_same _ _ _ st ⟨rfl, fun _ => rfl⟩ hok h'
  rw [← zipC_eq] at hd
  rw [← pick_zip] at hd'
  have hfalse : ∀ i, i < os.length → (Array.replicate os.toArray.size false).getD i true = false := fun i hi => by simp [Array.getD_eq_getD_getElem?, Array.getElem?_replicate, hi]
  have hdown : ∀ j o, os.toArray[j]? = some o → (Array.replicate os.toArray.size false).getD j true = true → ∀ e ∈ o.after.toList, Region.binds .any e = true → (Array.replicate os.toArray.size false).getD e.on false = true := by
    intro j o ho hj
    have hlt : j < os.length := by simpa using (Array.getElem?_eq_some_iff.1 ho).1
    rw [hfalse j hlt] at hj
    cases hj
  have hl : LeftL os.toArray (Array.replicate os.toArray.size false) (List.range os.length) := by
    refine ⟨List.nodup_range, fun i => ?_, by simp, hdown⟩
    simp only [List.mem_range, List.size_toArray]
    exact ⟨fun hi => ⟨hi, hfalse i hi⟩, fun hi => hi.1⟩
  have hl' : LeftL os.toArray (Array.replicate os.toArray.size false) ord := by
    refine ⟨diffB_spec b8, fun i => ?_, by simp, hdown⟩
    simp only [List.size_toArray]
    exact ⟨fun hi => ⟨b7 i hi, hfalse i (b7 i hi)⟩, fun hi => b9 i hi.1⟩
  have := draw_sound2 hT b1 (fun i hi => by have := b3 i hi; rw [Array.getElem?_eq_getElem hi] at this; exact this) b2 (Q := Q) (g0 := g) (w0 := w) os.length (List.range os.length) ord _ _ st g w.drew a (by simp) (by simpa using b6) hl hl' (pairB_spec b4) (pairB_spec b5) hx h5 (henv.ext hx) hok h4 hd hd'
  simpa using this

/-- What holds at a place on the way. -/
def Mid {σ : Type} (N : Nat) (ks : List Nat) (e : σ → List (Nat × Bool × V)) (s : σ → St) (I : σ → Prop) (ex : VExit) (env : Env) (st : St) : Prop := ex = .normal ∧ env.N = N ∧ ∃ x, env.keep ks = e x ∧ st = s x ∧ I x
theorem vdraw2 (hT : Tab P T) (hm : P.follows .mixedOrders = true) {σ : Type} {id : Nat} {os : List Oper} (cls ord : List Nat) (p q : Nat) (ks : List Nat) (e : σ → List (Nat × Bool × V)) (s : σ → St) (I : σ → Prop) (hks : subN ks L = true) {N : Nat} {g l : List (Nat × Bool × V)} {st : St} {k : Kont} {Q : VExit → Env → St → Prop} (hB : draw2B os.toArray cls ord p q = true)
    (h : dK P T an L ds os.toArray os cls ⟨N, g, []⟩ st .done (Mid N ks e s I)) (h' : dK P T an L ds os.toArray (pickO os ord) (pickC cls ord) ⟨N, g, []⟩ st .done (Mid N ks e s I))
    (cont : ∀ x, I x → qK P T an L ds k Q .normal ⟨N, e x, []⟩ (s x)) : VC P T L ds (.region id os.toArray true) ⟨N, g, l⟩ st (qK P T an L ds k Q) := by
  intro g0 w a h1 h2 h3 h4
  refine wp_mono (VC.draw2 (ds := ds) (an := an) (env := ⟨N, g, l⟩) (Q := Mid N ks e s I) hT hm hB h h' g0 w a h1 h2 h3 h4) fun e1 a' w' ⟨ve, env', st', g', k1, k2, k3, k4, k5, k6, k7⟩ => ?_
  obtain ⟨rfl, hN, x, hx1, rfl, hI⟩ := k1
  refine ⟨.normal, ⟨N, e x, []⟩, s x, g', cont x hI, k2, ?_, ?_, k5, k6, k7⟩
  · rw [← hN, ← hx1]; exact k3.keep ks
  · rw [← hN, ← hx1]; exact EnvOK.keep hks env'
/-- A state may be taken for more. -/
theorem VC.wkst {c : Code} {env : Env} {st st' : St} {Q : VExit → Env → St → Prop} (h : VC P T L ds c env st' Q) (hw : wkSt st st') : VC P T L ds c env st Q :=
  fun g w a h1 h2 h3 h4 => h g w a (h1.wk hw) h2 h3 h4
/-- What is known may be taken for more; and nil slices may become tips. -/
theorem vmore (es : List TypeId) (ks : List Nat) (e1 : List (Nat × Bool × V)) (s1 : St) (hks : subN ks L = true) {N : Nat} {g l : List (Nat × Bool × V)} {c : Code} {st : St} {Q : VExit → Env → St → Prop}
    (he : wkEp (Tips st.length es.length) (Env.keep ⟨N, g, l⟩ ks) e1) (hs : ∃ s0, wkStp (Tips st.length es.length) st s0 ∧ s1 = s0 ++ tips es) (h : VC P T L ds c ⟨N, e1, []⟩ s1 Q) : VC P T L ds c ⟨N, g, l⟩ st Q := by
  intro g0 w0 a0 h1 h2 h3 h4
  obtain ⟨gt, xt, ht1, ht2⟩ := h1.pushTips es
  have hp : Nil0 gt (Tips st.length es.length) := ht2
  obtain ⟨s0, hs1, hs2⟩ := hs
  have h1' : SimSt T gt s1 w0 := by rw [hs2]; exact ht1.wkp hp (hs1.append (wkSt_refl _))
  have hk := (h2.ext xt).keep ks
  have hok := EnvOK.keep hks (⟨N, g, l⟩ : Env)
  refine wp_mono (h gt w0 a0 h1' ⟨hk.1, fun t c v hv => ?_⟩ (fun t y hy => ?_) h4) fun e a' u hL => hL.ext xt
  · simp only [Env.look, Gw.find] at hv
    obtain ⟨v0, f1, f2⟩ := he.find hv
    have := hk.2 t c v0 (by simpa [Env.look, Gw.find] using f1)
    cases c with
    | true => simp only [if_true] at this ⊢; exact f2.sim hp this
    | false => simpa using this
  · obtain ⟨c, v⟩ := y
    obtain ⟨v0, f1, f2⟩ := he.find hy
    exact ⟨(hok t _ f1).1, by simpa [Env.look, Gw.find] using hy⟩
/-- A call, where nil slices may become tips. -/
theorem VCalls.more (es : List TypeId) {f : FuncId} {args args' : List V} {st s0 : St} {Q : VEnd → St → Prop} (h : VCalls P T f args' (s0 ++ tips es) Q) (hw : wkLp (Tips st.length es.length) args args') (hs : wkStp (Tips st.length es.length) st s0) : VCalls P T f args st Q :=
  ⟨h.1, fun g w vals h1 h2 => by
    obtain ⟨gt, xt, ht1, ht2⟩ := h1.pushTips es
    have hp : Nil0 gt (Tips st.length es.length) := ht2
    exact (h.2 gt w vals (ht1.wkp hp (hs.append (wkSt_refl _))) (hw.sim hp (h2.ext xt))).mono fun e w' ⟨r, s, g', k1, k2, k3, k4⟩ => ⟨r, s, g', k1, k2, k3, xt.trans k4⟩⟩
theorem useTips (es : List TypeId) {f : FuncId} {args args' : List V} {st s0 : St} {Q0 : VEnd → St → Prop} {dst : Option Tmp} {gc : Bool} {all : Array Oper} {os : List Oper} {env : Env} {k : Kont} {Q : VExit → Env → St → Prop}
    (h : VCalls P T f args' (s0 ++ tips es) Q0) (hw : wkLp (Tips st.length es.length) args args') (hs : wkStp (Tips st.length es.length) st s0) (h3 : ∀ v s, ¬ Q0 (.panic v) s) (h2 : ∀ X s, X.fit → Q0 (.ret X) s → oK P T an L ds all os (env.put L dst gc X) s k Q) : VCalls P T f args st (aK P T an L ds dst gc all os env k Q) :=
  (h.more es hw hs).monoF fun r s hf hq => by
    cases r with
    | ret X => exact h2 X s hf hq
    | panic v => exact absurd hq (h3 v s)
end
end Go.Proofs.Ytcegdbniggdckaa.Gw

namespace Go.Proofs.Ytcegdbniggdckaa.Gw
open Go
set_option linter.unusedSimpArgs false

/-- The ghost at the beginning. -/
def g00 : G := { own := fun _ => none, pb := fun _ => 0, tv := fun _ => .slice none 0 0, len := fun _ => 0, n := 0 }
theorem sim00 (T : Nat → TI) (w : World) : SimSt T g00 [] w := ⟨rfl, fun i e h => by simp at h, fun i j ei ej b h => by simp at h⟩

theorem mapM_some {α β : Type} {f : α → Option β} : ∀ {l : List α} {r : List β}, l.mapM f = some r → r.length = l.length ∧ ∀ (i : Nat) (x : α), l[i]? = some x → ∃ y, r[i]? = some y ∧ f x = some y
  | [], r, h => by simp at h; subst h; exact ⟨rfl, fun i x h => by simp at h⟩
  | a :: l, r, h => by
    rw [List.mapM_cons] at h
    cases ha : f a with
    | none => rw [ha] at h; simp at h
    | some y =>
      rw [ha] at h
      cases hl : l.mapM f with
      | none => rw [hl] at h; simp at h
      | some ys =>
        rw [hl] at h
        simp at h
        subst h
        obtain ⟨h1, h2⟩ := mapM_some hl
        refine ⟨by simp [h1], fun i x hx => ?_⟩
        cases i with
        | zero => simp at hx; subst hx; exact ⟨y, rfl, ha⟩
        | succ i => exact h2 i x (by simpa using hx)

section
variable {H : Type} {enc : TypeId × Value → H} {P : Program} {W : World} {spare : Nat → Bool} {held : Bool}

theorem dec_int {t : TypeId} {k : IntKind} (ht : P.underlying t = some (.int k)) {n : Nat} {cs : List Value} {r : DataW H × List MemPlace} (h : DataW.trod enc P W 0 spare held n t cs = some r) : ∃ m, cs = [.int k m] := by
  cases n with
  | zero => simp [DataW.trod] at h
  | succ n =>
    unfold DataW.trod at h
    rw [ht] at h
    split at h <;> first | (cases h; done) | skip
    all_goals rename_i e; first | (injection e with e; cases e; done) | skip
    all_goals simp_all
theorem dec_str {t : TypeId} (ht : P.underlying t = some .string) {n : Nat} {cs : List Value} {r : DataW H × List MemPlace} (h : DataW.trod enc P W 0 spare held n t cs = some r) : ∃ s : List UInt8, cs = [.string ⟨s.toArray⟩] ∧ s.length ≤ 9223372036854775807 := by
  cases n with
  | zero => simp [DataW.trod] at h
  | succ n =>
    unfold DataW.trod at h
    rw [ht] at h
    split at h <;> first | (cases h; done) | skip
    all_goals rename_i e; first | (injection e with e; cases e; done) | skip
    all_goals rename_i s
    all_goals split at h
    all_goals first | (cases h; done) | skip
    all_goals rename_i hs
    all_goals exact ⟨s.data.toList, by cases s; rfl, by rw [Array.length_toList]; exact hs⟩
theorem dec_struct {t : TypeId} {fs : Array Field} (ht : P.underlying t = some (.struct fs)) {n : Nat} {cs : List Value} {r : DataW H × List MemPlace} (h : DataW.trod enc P W 0 spare held n t cs = some r) :
    ∃ m, n = m + 1 ∧ cs.length = P.cellsOf t ∧ ∀ f ∈ fs.toList, ∃ y, DataW.trod enc P W 0 spare held m f.type ((cs.drop f.offset).take (P.cellsOf f.type)) = some y := by
  cases n with
  | zero => simp [DataW.trod] at h
  | succ n =>
    unfold DataW.trod at h
    rw [ht] at h
    split at h <;> first | (cases h; done) | skip
    all_goals rename_i e; first | (injection e with e; cases e; done) | skip
    · rename_i cs _ _ _
      injection e with e
      injection e with e
      subst e
      split at h
      case isFalse => simp at h
      rename_i hl
      refine ⟨n, rfl, hl, fun f hf => ?_⟩
      cases hm : List.mapM (fun f => DataW.trod enc P W 0 spare held n f.type (List.take (P.cellsOf f.type) (List.drop f.offset cs))) fs.toList with
      | none => rw [hm] at h; simp at h
      | some ys =>
        obtain ⟨i, hi⟩ := List.getElem?_of_mem hf
        obtain ⟨y, _, hy⟩ := (mapM_some hm).2 i f hi
        exact ⟨y, hy⟩
    · exact (‹∀ fs_1 : Array Field, some (TypeDesc.struct fs) = some (TypeDesc.struct fs_1) → False› fs rfl).elim
theorem dec_cells {a : Addr} {n : Nat} {cs : List Value} (h : W.cells? 0 a n = some cs) : cs.length = n ∧ ∀ (j : Nat) (u : Value), cs[j]? = some u → W.cell? (a.add j) = some u := by
  unfold World.cells? at h
  simp only [Nat.zero_le, if_true] at h
  obtain ⟨h1, h2⟩ := mapM_some h
  rw [List.length_range] at h1
  refine ⟨h1, fun j u hj => ?_⟩
  have hlt := (List.getElem?_eq_some_iff.1 hj).1
  obtain ⟨y, hy, hc⟩ := h2 j j (by rw [List.getElem?_range (by omega)])
  rw [hj] at hy
  cases hy
  exact hc
/-- Rows, at a plain address. -/
theorem dec_rows {X : Type} {f : X → List V} {sz b : Nat} (hb : b < W.heap.size) : ∀ (l : List X) (off : Nat), (∀ (i : Nat) (x : X), l[i]? = some x → ∃ cs : List Value, cs.length = sz ∧ SimVs g00 W (f x) cs ∧ (∀ u ∈ cs, u.oneCell' = true) ∧ ∀ (j : Nat) (u : Value), cs[j]? = some u → W.cell? ⟨b, off + i * sz + j, none⟩ = some u) →
    SimRows g00 W ⟨b, off, none⟩ sz (l.map f)
  | [], off, _ => by simp [SimRows]
  | x :: l, off, h => by
    obtain ⟨cs, h1, h2, h3, h4⟩ := h 0 x rfl
    simp only [List.map_cons, SimRows]
    have at_ : ∀ (ys : List V) (us : List Value) (o : Nat), SimVs g00 W ys us → (∀ u ∈ us, u.oneCell' = true) → (∀ (j : Nat) (u : Value), us[j]? = some u → W.cell? ⟨b, o + j, none⟩ = some u) → SimAt g00 W ⟨b, o, none⟩ ys := by
      intro ys
      induction ys with
      | nil => intro us o _ _ _; simp [SimAt]
      | cons y ys ih =>
        intro us o k1 k2 k3
        simp only [SimVs] at k1
        obtain ⟨u, r, rfl, k4, k5⟩ := k1
        simp only [SimAt]
        refine ⟨⟨u, ⟨rfl, hb, fun k hk => by cases hk⟩, by simpa using k3 0 u rfl, k2 u (by simp), k4⟩, ?_⟩
        have e1 : (Addr.mk b o none).add 1 = ⟨b, o + 1, none⟩ := Addr.add_eq rfl 1
        rw [e1]
        exact ih r (o + 1) k5 (fun v hv => k2 v (by simp [hv])) fun j v hj => by
          have := k3 (j + 1) v (by simpa using hj)
          rw [show o + (j + 1) = o + 1 + j by omega] at this; exact this
    refine ⟨by rw [← h2.length]; exact h1, at_ _ cs off h2 h3 (by simpa using h4), ?_⟩
    have e1 : (Addr.mk b off none).add sz = ⟨b, off + sz, none⟩ := Addr.add_eq rfl _
    rw [e1]
    refine dec_rows hb l (off + sz) fun i y hi => ?_
    obtain ⟨cs, k1, k2, k3, k4⟩ := h (i + 1) y (by simpa using hi)
    refine ⟨cs, k1, k2, k3, fun j u hj => ?_⟩
    have := k4 j u hj
    rw [show off + (i + 1) * sz + j = off + sz + i * sz + j by rw [Nat.succ_mul]; omega] at this
    exact this
theorem choose_list {α X : Type} {R : α → X → Prop} : ∀ (l : List α), (∀ a ∈ l, ∃ x, R a x) → ∃ m : List X, m.length = l.length ∧ ∀ (i : Nat) (a : α) (x : X), l[i]? = some a → m[i]? = some x → R a x
  | [], _ => ⟨[], rfl, fun i a x h => by simp at h⟩
  | a :: l, h => by
    obtain ⟨x, hx⟩ := h a (by simp)
    obtain ⟨m, h1, h2⟩ := choose_list l fun b hb => h b (by simp [hb])
    refine ⟨x :: m, by simp [h1], fun i b y hb hy => ?_⟩
    cases i with
    | zero => simp at hb hy; subst hb; subst hy; exact hx
    | succ i => exact h2 i b y (by simpa using hb) (by simpa using hy)

theorem dec_slice {X : Type} (f : X → List V) {sz : Nat} {e t : TypeId} (ht : P.underlying t = some (.slice e)) (hsz : P.cellsOf e = sz) (hpos : 0 < sz) {n : Nat} {cs : List Value} {r : DataW H × List MemPlace}
    (ih : ∀ m, m < n → ∀ cs r, DataW.trod enc P W 0 spare held m e cs = some r → ∃ x : X, SimVs g00 W (f x) cs ∧ ∀ u ∈ cs, u.oneCell' = true) (h : DataW.trod enc P W 0 spare held n t cs = some r) :
    ∃ (l : List X) (v : Value), cs = [v] ∧ SimV g00 W (.lst sz none (l.map f)) v ∧ v.oneCell' = true := by
  cases n with
  | zero => simp [DataW.trod] at h
  | succ n =>
    unfold DataW.trod at h
    rw [ht] at h
    split at h <;> first | (cases h; done) | skip
    all_goals rename_i e'; first | (injection e' with e'; cases e'; done) | skip
    · exact ⟨[], _, rfl, by simp only [SimV]; exact ⟨none, 0, rfl, by simp, by simp [maxLen], by simp, .inl rfl, by simp, by simp [SimRows]⟩, rfl⟩
    · rename_i a len cap
      injection e' with e'
      injection e' with e'
      subst e'
      rw [hsz] at h
      split at h
      case isFalse => cases h
      rename_i hc
      obtain ⟨_, c1, c2⟩ := hc
      refine Exists.elim (show ∃ elems, (List.range len).mapM (fun i => (W.cells? 0 (a.add (i * sz)) sz).bind (DataW.trod enc P W 0 spare held n e)) = some elems from ?_) fun elems hm => ?_
      · cases hm : (List.range len).mapM (fun i => (W.cells? 0 (a.add (i * sz)) sz).bind (DataW.trod enc P W 0 spare held n e)) with
        | none => dsimp only at h; rw [hm] at h; simp at h
        | some ys => exact ⟨ys, rfl⟩
      obtain ⟨hl, hi⟩ := mapM_some hm
      have each : ∀ i ∈ List.range len, ∃ x : X, ∃ cs : List Value, cs.length = sz ∧ SimVs g00 W (f x) cs ∧ (∀ u ∈ cs, u.oneCell' = true) ∧ ∀ (j : Nat) (u : Value), cs[j]? = some u → W.cell? ((a.add (i * sz)).add j) = some u := by
        intro i hir
        rw [List.mem_range] at hir
        obtain ⟨y, _, hy⟩ := hi i i (by rw [List.getElem?_range hir])
        cases hcs : W.cells? 0 (a.add (i * sz)) sz with
        | none => rw [hcs] at hy; simp at hy
        | some cs =>
          rw [hcs] at hy
          obtain ⟨k1, k2⟩ := dec_cells hcs
          obtain ⟨x, k3, k4⟩ := ih n (Nat.lt_succ_self n) cs y hy
          exact ⟨x, cs, k1, k3, k4, k2⟩
      obtain ⟨xs, hxl, hxs⟩ := choose_list (List.range len) each
      rw [List.length_range] at hxl
      refine ⟨xs, _, rfl, ?_, rfl⟩
      simp only [SimV]
      refine ⟨some a, cap, by rw [List.length_map, hxl], by rw [List.length_map, hxl]; exact c1, c2, by simp, ?_, by simp, ?_⟩
      · cases xs with
        | nil => exact .inl rfl
        | cons x xs =>
          right
          obtain ⟨cs, k1, _, _, k2⟩ := hxs 0 0 x (by rw [List.getElem?_range (by simp at hxl; omega)]) rfl
          have h0 : cs[0]? = some (cs[0]'(by omega)) := List.getElem?_eq_getElem _
          have := World.cell?_spot (k2 0 _ h0)
          simpa [Addr.add] using this
      · cases xs with
        | nil => simp [SimRows]
        | cons x xs =>
          obtain ⟨cs, k1, _, _, k2⟩ := hxs 0 0 x (by rw [List.getElem?_range (by simp at hxl; omega)]) rfl
          have h0 : cs[0]? = some (cs[0]'(by omega)) := List.getElem?_eq_getElem _
          have hc0 := k2 0 _ h0
          have hsp : a.spot = none := by have := World.cell?_spot hc0; simpa [Addr.add] using this
          have hblk : a.block < W.heap.size := by
            unfold World.cell? at hc0
            split at hc0
            · rename_i hh
              have := (Array.getElem?_eq_some_iff.1 hh).1
              rw [Addr.add_eq hsp, Addr.add_eq rfl] at this
              exact this
            · cases hc0
          obtain ⟨b, off, sp⟩ := a
          simp only at hsp hblk
          subst hsp
          simp only [Option.getD_some]
          refine dec_rows hblk (x :: xs) off fun i y hy => ?_
          have hil : i < len := by rw [← hxl]; exact (List.getElem?_eq_some_iff.1 hy).1
          obtain ⟨cs, j1, j2, j3, j4⟩ := hxs i i y (by rw [List.getElem?_range hil]) hy
          refine ⟨cs, j1, j2, j3, fun j u hj => ?_⟩
          have := j4 j u hj
          rw [show (Addr.mk b off none).add (i * sz) = ⟨b, off + i * sz, none⟩ from Addr.add_eq rfl _, show (Addr.mk b (off + i * sz) none).add j = ⟨b, off + i * sz + j, none⟩ from Addr.add_eq rfl _] at this
          exact this
    all_goals first | (exact (‹∀ (e_1 : TypeId) (a : Addr) (len cap : Nat), some (TypeDesc.slice e) = some (TypeDesc.slice e_1) → _ → False› e _ _ _ rfl (by assumption)).elim) | (simp at h)
end
end Go.Proofs.Ytcegdbniggdckaa.Gw

namespace Go.Proofs.Ytcegdbniggdckaa.Gw
open Go
set_option linter.unusedSimpArgs false

def numb : Nat → List (V × V) → List (Nat × V × V)
  | _, [] => []
  | n, (k, v) :: r => (n, k, v) :: numb (n + 1) r
section
variable {κ α : Type}
/-- Where a key stands, and what with. -/
def ascI [DecidableEq κ] (s : κ) : List (κ × α) → Nat → Option (Nat × α)
  | [], _ => none
  | (k, a) :: r, i => if s = k then some (i, a) else ascI s r (i + 1)
def asc [DecidableEq κ] (s : κ) : List (κ × α) → Option α
  | [] => none
  | (k, a) :: r => if s = k then some a else asc s r
/-- A key is laid in. -/
def ups [DecidableEq κ] (s : κ) (a : α) : List (κ × α) → List (κ × α)
  | [] => [(s, a)]
  | (k, b) :: r => if s = k then (s, a) :: r else (k, b) :: ups s a r
theorem ascI_snd [DecidableEq κ] (s : κ) : ∀ (l : List (κ × α)) (i : Nat), (ascI s l i).map (·.2) = asc s l
  | [], _ => rfl
  | (k, a) :: r, i => by
    simp only [ascI, asc]
    split
    · rfl
    · exact ascI_snd s r (i + 1)

def mkE (ek : κ → V) (ev : α → V) (n : Nat) (l : List (κ × α)) : List (Nat × V × V) := numb n (l.map fun p => (ek p.1, ev p.2))
def mapE (ek : κ → V) (ev : α → V) (l : List (κ × α)) : Ent := .map l.length (mkE ek ev 0 l)
/-- Keys that are told apart as they are. -/
def KeyP [DecidableEq κ] (T : Nat → TI) (k : TK) (ek : κ → V) : Prop := ∀ x y, keyEq T k (ek x) (ek y) = some (decide (x = y))
variable {ek : κ → V} {ev : α → V}
theorem mfind_mkE [DecidableEq κ] {T : Nat → TI} {k : TK} (hk : KeyP T k ek) (s : κ) : ∀ (l : List (κ × α)) (n i : Nat), mfind T k (ek s) (mkE ek ev n l) i = some ((ascI s l i).map fun p => (p.1, ev p.2))
  | [], n, i => rfl
  | (k', a) :: r, n, i => by
    have ih := mfind_mkE hk s r (n + 1) (i + 1)
    simp only [mkE] at ih
    have hk' := hk s k'
    simp only [mkE, List.map_cons, numb, mfind, hk', ascI]
    by_cases h : s = k'
    · simp [h]
    · simp [h, ih]
theorem look_mapE [DecidableEq κ] {T : Nat → TI} {k : TK} (hk : KeyP T k ek) (i : TI) (ok : Bool) (s : κ) (st : St) (l : List (κ × α)) :
    lookE T k i ok (ek s) st (some (mapE ek ev l)) = some (lookR ok (((asc s l).map ev).getD (zeroV i)) (asc s l).isSome, st, True) := by
  simp only [lookE, mapE, mfind_mkE hk, Option.map_some]
  rw [← ascI_snd s l 0]
  cases ascI s l 0 <;> rfl
theorem numb_len : ∀ (l : List (V × V)) (n : Nat), (numb n l).length = l.length
  | [], _ => rfl
  | (k, v) :: r, n => by simp [numb, numb_len r (n + 1)]
theorem mkE_len (n : Nat) (l : List (κ × α)) : (mkE ek ev n l).length = l.length := by simp [mkE, numb_len]
theorem put_none [DecidableEq κ] : ∀ (l : List (κ × α)) (s : κ) (a : α) (i n : Nat), ascI s l i = none → ups s a l = l ++ [(s, a)] ∧ mkE ek ev n (l ++ [(s, a)]) = mkE ek ev n l ++ [(n + l.length, ek s, ev a)]
  | [], s, a, i, n, _ => by simp [ups, mkE, numb]
  | (k, b) :: r, s, a, i, n, h => by
    simp only [ascI] at h
    split at h
    · cases h
    rename_i hk
    obtain ⟨h1, h2⟩ := put_none r s a (i + 1) (n + 1) h
    simp only [mkE] at h2
    refine ⟨by simp [ups, hk, h1], ?_⟩
    simp only [mkE, List.cons_append, List.map_cons, numb, h2, List.length_cons]
    rw [show n + (r.length + 1) = n + 1 + r.length by omega]
theorem put_some [DecidableEq κ] : ∀ (l : List (κ × α)) (s : κ) (a b : α) (i j n : Nat), ascI s l i = some (j, b) → (ups s a l).length = l.length ∧ i ≤ j ∧ mset (j - i) (ek s) (ev a) (mkE ek ev n l) = mkE ek ev n (ups s a l)
  | [], s, a, b, i, j, n, h => by simp [ascI] at h
  | (k, c) :: r, s, a, b, i, j, n, h => by
    simp only [ascI] at h
    split at h
    · rename_i hk
      simp only [Option.some.injEq, Prod.mk.injEq] at h
      obtain ⟨rfl, rfl⟩ := h
      simp [ups, hk, mkE, numb, mset]
    · rename_i hk
      obtain ⟨h1, h2, h3⟩ := put_some r s a b (i + 1) j (n + 1) h
      refine ⟨by simp [ups, hk, h1], by omega, ?_⟩
      simp only [mkE] at h3
      simp only [ups, hk, if_false, mkE, List.map_cons, numb]
      rw [show j - i = (j - (i + 1)) + 1 by omega]
      simp only [mset, h3]
theorem put_mapE [DecidableEq κ] {T : Nat → TI} {k : TK} (hk : KeyP T k ek) (o : Nat) (s : κ) (a : α) (st : St) (l : List (κ × α)) :
    putE T k o (ek s) (ev a) st (some (mapE ek ev l)) = some (.junk, st.set o (mapE ek ev (ups s a l)), True) := by
  simp only [putE, mapE, mfind_mkE hk, Option.map_some]
  cases h : ascI s l 0 with
  | none =>
    obtain ⟨h1, h2⟩ := put_none (ek := ek) (ev := ev) l s a 0 0 h
    simp only [Option.map_none, mput, h1, h2, List.length_append, List.length_cons, List.length_nil, Nat.zero_add]
  | some p =>
    obtain ⟨j, b⟩ := p
    obtain ⟨h1, h2, h3⟩ := put_some (ek := ek) (ev := ev) l s a b 0 j 0 h
    rw [Nat.sub_zero] at h3
    simp only [Option.map_some, mput, h1, h3]
theorem make_mapE {k e : TypeId} (ek : κ → V) (ev : α → V) (st : St) : makeMapE (.map k e) st = some (.map st.length, st ++ [mapE ek ev []], True) := rfl
theorem len_mapE (st : St) (l : List (κ × α)) : lenE st (some (mapE ek ev l)) = some (.int .i64 l.length, st, True) := by simp only [lenE, mapE, mkE_len]
theorem range_mapE (o : Nat) (st : St) (l : List (κ × α)) : rangeE o st (some (mapE ek ev l)) = some (.ptr st.length 0, st ++ [.iter o l.length []], True) := rfl

theorem mkE_mem : ∀ (l : List (κ × α)) (n : Nat) (e : Nat × V × V), e ∈ mkE ek ev n l → ∃ i a, l[i]? = some a ∧ e = (n + i, ek a.1, ev a.2)
  | [], n, e, h => by simp [mkE, numb] at h
  | (k, b) :: r, n, e, h => by
    simp only [mkE, List.map_cons, numb, List.mem_cons] at h
    rcases h with rfl | h
    · exact ⟨0, (k, b), rfl, rfl⟩
    · obtain ⟨i, a, h1, h2⟩ := mkE_mem r (n + 1) e h
      exact ⟨i + 1, a, by simpa using h1, by rw [h2, show n + 1 + i = n + (i + 1) by omega]⟩
theorem mkE_get : ∀ (l : List (κ × α)) (n i : Nat) (a : κ × α), l[i]? = some a → (n + i, ek a.1, ev a.2) ∈ mkE ek ev n l
  | [], n, i, a, h => by simp at h
  | (k, b) :: r, n, 0, a, h => by simp at h; subst h; simp [mkE, numb]
  | (k, b) :: r, n, i + 1, a, h => by
    have := mkE_get r (n + 1) i a (by simpa using h)
    simp only [mkE, List.map_cons, numb, List.mem_cons]
    right
    rw [show n + (i + 1) = n + 1 + i by omega]; exact this
/-- Whom a walk may meet. -/
def nextL (ek : κ → V) (ev : α → V) (o m : Nat) (l : List (κ × α)) (seen : List Nat) (st : St) : List (V × St) := match leftOf' (mkE ek ev 0 l) seen with
  | [] => [(.tup [.bool false], st)]
  | x => x.map fun e => (.tup [.bool true, e.2.1, e.2.2], st.set o (.iter m l.length (seen ++ [e.1])))
theorem next_mapE (o m : Nat) (seen : List Nat) (st : St) (l : List (κ × α)) : nextE o m l.length seen st (some (mapE ek ev l)) = some (nextL ek ev o m l seen st) := by
  simp only [nextE, mapE, if_true]
  rfl
/-- A walk's step: it is over, all being met; or it meets one. -/
theorem nextL_all {o m : Nat} {l : List (κ × α)} {seen : List Nat} {st : St} {X : V × St → Prop} (h0 : (∀ i, i < l.length → i ∈ seen) → X (.tup [.bool false], st))
    (h1 : ∀ i a, l[i]? = some a → i < l.length → i ∉ seen → X (.tup [.bool true, ek a.1, ev a.2], st.set o (.iter m l.length (seen ++ [i])))) : ∀ p ∈ nextL ek ev o m l seen st, X p := by
  intro p hp
  unfold nextL at hp
  split at hp
  · rename_i hn
    simp only [List.mem_singleton] at hp
    subst hp
    refine h0 fun i hi => ?_
    by_cases hs : i ∈ seen
    · exact hs
    · have := mkE_get (ek := ek) (ev := ev) l 0 i _ (List.getElem?_eq_getElem hi)
      have hm : (0 + i, ek l[i].1, ev l[i].2) ∈ leftOf' (mkE ek ev 0 l) seen := List.mem_filter.2 ⟨this, by simpa using hs⟩
      rw [hn] at hm
      simp at hm
  · obtain ⟨e, he, rfl⟩ := List.mem_map.1 hp
    obtain ⟨h2, h3⟩ := List.mem_filter.1 he
    obtain ⟨i, a, h4, rfl⟩ := mkE_mem l 0 e h2
    simp only [Nat.zero_add] at h3 ⊢
    exact h1 i a h4 (List.getElem?_eq_some_iff.1 h4).1 (by simpa using h3)
theorem entF_mkE : ∀ (l : List (κ × α)) (n i : Nat) (a : κ × α), l[i]? = some a → entF (n + i) (mkE ek ev n l) = some (ek a.1, ev a.2)
  | [], n, i, a, h => by simp at h
  | (k, b) :: r, n, 0, a, h => by simp at h; subst h; simp [mkE, numb, entF]
  | (k, b) :: r, n, i + 1, a, h => by
    have := entF_mkE r (n + 1) i a (by simpa using h)
    simp only [mkE] at this
    simp only [mkE, List.map_cons, numb, entF]
    rw [if_neg (by omega), show n + (i + 1) = n + 1 + i by omega]; exact this
theorem ent_mapE {seen : List Nat} {st : St} {l : List (κ × α)} {i : Nat} {a : κ × α} (h : l[i]? = some a) : entE l.length (seen ++ [i]) st (some (mapE ek ev l)) = some (.tup [ek a.1, ev a.2], st, True) := by
  have := entF_mkE (ek := ek) (ev := ev) l 0 i a h
  rw [Nat.zero_add] at this
  simp only [entE, mapE, if_true, List.getLast?_append, List.getLast?_singleton, Option.some_or, this, Option.map_some]
theorem mapE_lt {n : Nat} {l : List (κ × α)} (h1 : ∀ k, (ek k).lt n) (h2 : ∀ a, (ev a).lt n) : (mapE ek ev l).lt n := by
  intro e he
  obtain ⟨i, a, _, rfl⟩ := mkE_mem l 0 e he
  exact ⟨h1 _, h2 _⟩
theorem asc_mem [DecidableEq κ] {s : κ} : ∀ {l : List (κ × α)}, (asc s l).isSome = decide (s ∈ l.map (·.1))
  | [] => by simp [asc]
  | (k, a) :: r => by
    simp only [asc]
    split
    · rename_i h; simp [h]
    · rename_i h; simp [h, asc_mem (s := s) (l := r)]
end
theorem keyP_str (T : Nat → TI) : KeyP T .str V.str := fun _ _ => rfl
theorem keyP_i64 (T : Nat → TI) : KeyP T (.int .i64) (V.int .i64) := fun x y => by simp [keyEq, eqCell]
end Go.Proofs.Ytcegdbniggdckaa.Gw

namespace Go.Proofs.Ytcegdbniggdckaa.Gw
open Go

def lenK : TK → V → Option (V × Prop)
  | .str, .str s => some (.int .i64 s.length, True)
  | .slice _, .nils => some (.int .i64 0, True)
  | .slice _, .lst _ _ l => some (.int .i64 l.length, True)
  | .slice _, .arr _ n => some (.int .i64 n, True)
  | .map _ _, .nilm => some (.int .i64 0, True)
  | .map _ _, .map _ => none
  | _, _ => none
theorem builtinV_len (T : Nat → TI) (x : V) (t : TypeId) : builtinV T .len [x] [t] = lenK (T t).kind x := by
  simp only [builtinV]
  cases (T t).kind <;> cases x <;> rfl
def sliceK (T : Nat → TI) : TK → V → Option V → Option V → Option (V × Prop)
  | .str, .str s, none, none => some (.str s, True)
  | .str, .str s, some (.int _ a), none => some (.str (s.drop a.toNat), 0 ≤ a ∧ a ≤ s.length)
  | .str, .str s, none, some (.int _ b) => some (.str (s.take b.toNat), 0 ≤ b ∧ b ≤ s.length)
  | .str, .str s, some (.int _ a), some (.int _ b) => some (.str ((s.take b.toNat).drop a.toNat), 0 ≤ a ∧ a ≤ b ∧ b ≤ s.length)
  | .slice e, .lst sz _ l, none, none => if (T e).sized = true ∧ sz = (T e).size then some (.lst sz none l, True) else none
  | .slice e, .lst sz _ l, some (.int _ a), none => if (T e).sized = true ∧ sz = (T e).size then some (.lst sz none (l.drop a.toNat), 0 ≤ a ∧ a ≤ l.length) else none
  | .slice e, .lst sz _ l, none, some (.int _ b) => if (T e).sized = true ∧ sz = (T e).size then some (.lst sz none (l.take b.toNat), 0 ≤ b ∧ b ≤ l.length) else none
  | .slice e, .lst sz _ l, some (.int _ a), some (.int _ b) => if (T e).sized = true ∧ sz = (T e).size then some (.lst sz none ((l.take b.toNat).drop a.toNat), 0 ≤ a ∧ a ≤ b ∧ b ≤ l.length) else none
  | _, _, _, _ => none
theorem sliceV_K (T : Nat → TI) (t : TypeId) (x : V) (lo hi : Option V) : sliceV T t x lo hi = sliceK T (T t).kind x lo hi := by
  unfold sliceV
  generalize (T t).kind = k
  cases k with
  | str =>
    cases x with
    | str s =>
      match lo, hi with
      | none, none => rfl
      | some a, none => cases a <;> rfl
      | none, some b => cases b <;> rfl
      | some a, some b => cases a <;> cases b <;> rfl
    | _ => rfl
  | slice e =>
    cases x with
    | lst sz tk l =>
      by_cases hc : (T e).sized = true ∧ sz = (T e).size
      · simp only [if_pos hc]
        match lo, hi with
        | none, none => simp only [sliceK, if_pos hc]
        | some a, none => cases a <;> simp only [sliceK, if_pos hc]
        | none, some b => cases b <;> simp only [sliceK, if_pos hc]
        | some a, some b => cases a <;> cases b <;> simp only [sliceK, if_pos hc]
      · simp only [if_neg hc]
        match lo, hi with
        | none, none => simp only [sliceK, if_neg hc]
        | some a, none => cases a <;> simp only [sliceK, if_neg hc]
        | none, some b => cases b <;> simp only [sliceK, if_neg hc]
        | some a, some b => cases a <;> cases b <;> simp only [sliceK, if_neg hc]
    | _ => rfl
  | _ => rfl

theorem gwC :
    (∀ {α β : Type} (f : α → β) (a : α) (l : List α), List.map f (a :: l) = f a :: List.map f l) ∧
    (∀ {α β : Type} (f : α → β), List.map f [] = []) ∧
    (∀ {α β : Type} (a : α) (f : α → Option β), (some a).bind f = f a) ∧
    (∀ {α β : Type} (a : α) (f : α → β), (some a).map f = some (f a)) ∧
    (∀ {α : Type} (a : α) (l : List α) (d : α), (a :: l).headD d = a) ∧
    (∀ {α : Type} (a : α) (l : List α), (a :: l).reverse = l.reverse ++ [a]) ∧
    (∀ {α : Type}, ([] : List α).reverse = []) ∧
    (∀ {α : Type} (a : α) (l : List α), (a :: l).length = l.length + 1) ∧
    (∀ {α : Type}, ([] : List α).length = 0) ∧
    (∀ {α : Type} (l : List α), l ++ [] = l) ∧
    (∀ {α : Type} (a : α) (l m : List α), (a :: l) ++ m = a :: (l ++ m)) ∧
    (∀ {α : Type} (l : List α), [] ++ l = l) ∧
    (∀ {α : Type} (a : α) (l : List α) (n : Nat), (a :: l).drop (n + 1) = l.drop n) ∧
    (∀ {α : Type} (l : List α), l.drop 0 = l) ∧
    (∀ {α : Type} (n : Nat), ([] : List α).drop n = []) ∧
    (∀ {α : Type} (a : α) (l : List α) (n : Nat), (a :: l).take (n + 1) = a :: l.take n) ∧
    (∀ {α : Type} (l : List α), l.take 0 = []) ∧
    (∀ {α : Type} (n : Nat), ([] : List α).take n = []) ∧
    (∀ {α : Type} (a : α) (l : List α), (a :: l)[0]? = some a) ∧
    (∀ {α : Type} (a : α) (l : List α) (n : Nat), (a :: l)[n + 1]? = l[n]?) ∧
    (∀ {α : Type} (p : α → Bool) (a : α) (l : List α), (a :: l).all p = (p a && l.all p)) ∧
    (∀ {α : Type} (p : α → Bool), ([] : List α).all p = true) ∧
    (∀ {α : Type} (n : Nat) (a : α), List.replicate (n + 1) a = a :: List.replicate n a) ∧
    (∀ {α : Type} (a : α), List.replicate 0 a = []) ∧
    (∀ {α : Type} (a b : α) (l : List α), (a :: l).set 0 b = b :: l) ∧
    (∀ {α : Type} (a b : α) (l : List α) (n : Nat), (a :: l).set (n + 1) b = a :: l.set n b) ∧
    (∀ (h : Decidable True), @decide True h = true) ∧
    (∀ (h : Decidable False), @decide False h = false) ∧
    (∀ p : Prop, (True ∨ p) = True) ∧
    (∀ p : Prop, (p ∧ p) = p) ∧
    ((¬ False) = True) ∧
    (∀ {α : Type} (a b : α), (a ≠ b) = ¬ (a = b)) ∧
    (∀ {α : Type} (a : α), (a = a) = True) := by
  refine ⟨fun _ _ _ => rfl, fun _ => rfl, fun _ _ => rfl, fun _ _ => rfl, fun _ _ _ => rfl, fun _ _ => List.reverse_cons, rfl, fun _ _ => rfl, rfl, fun _ => List.append_nil _, fun _ _ _ => rfl, fun _ => rfl, fun _ _ _ => rfl, fun _ => rfl, fun _ => List.drop_nil, fun _ _ _ => rfl, fun _ => rfl, fun _ => List.take_nil, fun _ _ => rfl, fun _ _ _ => List.getElem?_cons_succ, fun _ _ _ => rfl, fun _ => rfl, fun _ _ => rfl, fun _ => rfl, fun _ _ _ => rfl, fun _ _ _ _ => rfl, fun h => by simp, fun h => by simp, fun _ => by simp, fun _ => by simp, by simp, fun _ _ => rfl, fun _ => by simp⟩
theorem gwN :
    (type_of% @builtinV_len) ∧
    (type_of% @sliceV_K) ∧
    (type_of% @lenK.eq_1) ∧
    (type_of% @lenK.eq_2) ∧
    (type_of% @lenK.eq_3) ∧
    (type_of% @lenK.eq_4) ∧
    (type_of% @lenK.eq_5) ∧
    (type_of% @lenK.eq_6) ∧
    (type_of% @lenK.eq_7) ∧
    (type_of% @sliceK.eq_1) ∧
    (type_of% @sliceK.eq_2) ∧
    (type_of% @sliceK.eq_3) ∧
    (type_of% @sliceK.eq_4) ∧
    (type_of% @sliceK.eq_5) ∧
    (type_of% @sliceK.eq_6) ∧
    (type_of% @sliceK.eq_7) ∧
    (type_of% @sliceK.eq_8) ∧
    (type_of% @sliceK.eq_9) ∧
    (type_of% @initG.eq_1) ∧
    (type_of% @initG.eq_2) ∧
    (type_of% @builtS.eq_1) ∧
    (type_of% @builtS.eq_2) ∧
    (type_of% @builtS.eq_3) ∧
    (type_of% @builtS.eq_4) ∧
    (type_of% @pureR.eq_1) ∧
    (type_of% @pureR.eq_2) ∧
    (type_of% @binV.eq_1) ∧
    (type_of% @binV.eq_2) ∧
    (type_of% @binV.eq_3) ∧
    (type_of% @binV.eq_4) ∧
    (type_of% @binV.eq_5) ∧
    (type_of% @binV.eq_6) ∧
    (type_of% @binV.eq_7) ∧
    (type_of% @binV.eq_8) ∧
    (type_of% @binV.eq_9) ∧
    (type_of% @binV.eq_10) ∧
    (type_of% @binV.eq_11) ∧
    (type_of% @binV.eq_12) ∧
    (type_of% @binV.eq_13) ∧
    (type_of% @binV.eq_14) ∧
    (type_of% @binV.eq_15) ∧
    (type_of% @binV.eq_16) ∧
    (type_of% @binV.eq_17) ∧
    (type_of% @binV.eq_18) ∧
    (type_of% @binV.eq_19) ∧
    (type_of% @binV.eq_20) ∧
    (type_of% @binV.eq_21) ∧
    (type_of% @binV.eq_22) ∧
    (type_of% @binV.eq_23) ∧
    (type_of% @binV.eq_24) ∧
    (type_of% @binV.eq_25) ∧
    (type_of% @aggEq.eq_1) ∧
    (type_of% @aggEq.eq_2) ∧
    (type_of% @aggEq.eq_3) ∧
    (type_of% @eqFs.eq_1) ∧
    (type_of% @eqFs.eq_2) ∧
    (type_of% @eqCell.eq_1) ∧
    (type_of% @eqCell.eq_2) ∧
    (type_of% @eqCell.eq_3) ∧
    (type_of% @eqCell.eq_4) ∧
    (type_of% @pickV.eq_1) ∧
    (type_of% @evO.eq_1) ∧
    (type_of% @evO.eq_2) ∧
    (type_of% @evO.eq_3) ∧
    (type_of% @evO.eq_4) ∧
    (type_of% @Env.look.eq_1) ∧
    (type_of% @find.eq_1) ∧
    (type_of% @find.eq_2) ∧
    (type_of% @V.ofConst.eq_1) ∧
    (type_of% @V.ofConst.eq_2) ∧
    (type_of% @V.ofConst.eq_3) ∧
    (type_of% @V.ofConst.eq_4) ∧
    (type_of% @V.ofConst.eq_5) ∧
    (type_of% @V.ofConst.eq_6) ∧
    (type_of% @V.ofConst.eq_7) ∧
    (type_of% @V.ofConst.eq_8) ∧
    (type_of% @V.ofConst.eq_9) ∧
    (type_of% @resV.eq_1) ∧
    (type_of% @resV.eq_2) ∧
    (type_of% @resOne.eq_1) ∧
    (type_of% @resOne.eq_2) ∧
    (type_of% @tupV.eq_1) ∧
    (type_of% @tupV.eq_2) ∧
    (type_of% @fillV.eq_1) ∧
    (type_of% @fillV.eq_2) ∧
    (type_of% @buildV.eq_1) ∧
    (type_of% @mkIface.eq_1) ∧
    (type_of% @litM.eq_1) ∧
    (type_of% @litM.eq_2) ∧
    (type_of% @litM.eq_3) ∧
    (type_of% @litM.eq_4) ∧
    (type_of% @litS.eq_1) ∧
    (type_of% @litS.eq_2) ∧
    (type_of% @litR.eq_1) ∧
    (type_of% @litRows.eq_1) ∧
    (type_of% @litRows.eq_2) ∧
    (type_of% @appS.eq_1) ∧
    (type_of% @appS.eq_2) ∧
    (type_of% @appS.eq_3) ∧
    (type_of% @appS.eq_4) ∧
    (type_of% @memA.eq_1) ∧
    (type_of% @memA.eq_2) ∧
    (type_of% @appendV.eq_1) ∧
    (type_of% @appendV.eq_2) ∧
    (type_of% @appendV.eq_3) ∧
    (type_of% @appendV.eq_4) ∧
    (type_of% @appendV.eq_5) ∧
    (type_of% @rowsOf.eq_1) ∧
    (type_of% @rowsOf.eq_2) ∧
    (type_of% @rowsOf.eq_3) ∧
    (type_of% @rowsOf.eq_4) ∧
    (type_of% @V.cells.eq_1) ∧
    (type_of% @V.cells.eq_2) ∧
    (type_of% @V.cells.eq_3) ∧
    (type_of% @V.cells.eq_4) ∧
    (type_of% @TI.sized.eq_1) ∧
    (type_of% @TI.known.eq_1) ∧
    (type_of% @TI.agg.eq_1) ∧
    (type_of% @anL.eq_1) ∧
    (type_of% @anL.eq_2) ∧
    (type_of% @loadV.eq_def) ∧
    (type_of% @builtinV.eq_7) ∧
    (type_of% @builtinV.eq_8) :=
  ⟨@builtinV_len, @sliceV_K, @lenK.eq_1, @lenK.eq_2, @lenK.eq_3, @lenK.eq_4, @lenK.eq_5, @lenK.eq_6, @lenK.eq_7, @sliceK.eq_1, @sliceK.eq_2, @sliceK.eq_3, @sliceK.eq_4, @sliceK.eq_5, @sliceK.eq_6, @sliceK.eq_7, @sliceK.eq_8, @sliceK.eq_9, @initG.eq_1, @initG.eq_2, @builtS.eq_1, @builtS.eq_2, @builtS.eq_3, @builtS.eq_4, @pureR.eq_1, @pureR.eq_2, @binV.eq_1, @binV.eq_2, @binV.eq_3, @binV.eq_4, @binV.eq_5, @binV.eq_6, @binV.eq_7, @binV.eq_8, @binV.eq_9, @binV.eq_10, @binV.eq_11, @binV.eq_12, @binV.eq_13, @binV.eq_14, @binV.eq_15, @binV.eq_16, @binV.eq_17, @binV.eq_18, @binV.eq_19, @binV.eq_20, @binV.eq_21, @binV.eq_22, @binV.eq_23, @binV.eq_24, @binV.eq_25, @aggEq.eq_1, @aggEq.eq_2, @aggEq.eq_3, @eqFs.eq_1, @eqFs.eq_2, @eqCell.eq_1, @eqCell.eq_2, @eqCell.eq_3, @eqCell.eq_4, @pickV.eq_1, @evO.eq_1, @evO.eq_2, @evO.eq_3, @evO.eq_4, @Env.look.eq_1, @find.eq_1, @find.eq_2, @V.ofConst.eq_1, @V.ofConst.eq_2, @V.ofConst.eq_3, @V.ofConst.eq_4, @V.ofConst.eq_5, @V.ofConst.eq_6, @V.ofConst.eq_7, @V.ofConst.eq_8, @V.ofConst.eq_9, @resV.eq_1, @resV.eq_2, @resOne.eq_1, @resOne.eq_2, @tupV.eq_1, @tupV.eq_2, @fillV.eq_1, @fillV.eq_2, @buildV.eq_1, @mkIface.eq_1, @litM.eq_1, @litM.eq_2, @litM.eq_3, @litM.eq_4, @litS.eq_1, @litS.eq_2, @litR.eq_1, @litRows.eq_1, @litRows.eq_2, @appS.eq_1, @appS.eq_2, @appS.eq_3, @appS.eq_4, @memA.eq_1, @memA.eq_2, @appendV.eq_1, @appendV.eq_2, @appendV.eq_3, @appendV.eq_4, @appendV.eq_5, @rowsOf.eq_1, @rowsOf.eq_2, @rowsOf.eq_3, @rowsOf.eq_4, @V.cells.eq_1, @V.cells.eq_2, @V.cells.eq_3, @V.cells.eq_4, @TI.sized.eq_1, @TI.known.eq_1, @TI.agg.eq_1, @anL.eq_1, @anL.eq_2, @loadV.eq_def, @builtinV.eq_7, @builtinV.eq_8⟩
end Go.Proofs.Ytcegdbniggdckaa.Gw

namespace Go.Proofs.Ytcegdbniggdckaa.Gx
open Go Go.Proofs.Ytcegdbniggdckaa.Gw
set_option linter.unusedSimpArgs false
set_option linter.unusedVariables false
open Go.Sort (putRow putCells grow Holds)

theorem Ext.grown {g : G} {w w' : World} {b : Nat} (h : w.grownBy w' (some b)) (ho : g.own b = some 0) : Ext g w g w' := by
  obtain ⟨h1, h2, h3, h4, h5⟩ := h
  refine ⟨h1, h2, h3, h4, Nat.le_refl _, fun _ _ => rfl, fun _ _ => Nat.le_refl _, fun _ _ _ => rfl, fun c hc hn => ⟨h5 c hc (fun e => by cases e; rw [ho] at hn; cases hn), hn⟩, fun c k hc hk => ⟨fun off hoff => ?_, fun k' hk' => by rw [hk] at hk'; cases hk'; exact Nat.le_refl _⟩⟩
  by_cases e : c = b
  · subst e; rw [ho] at hk; cases hk; omega
  · exact cell_of_block (h5 c hc (fun e' => e (by cases e'; rfl)))
def rowsS (l : List (List UInt8)) : List (List V) := l.map fun s => [V.str s]
theorem rowsS_flat : ∀ l : List (List UInt8), (rowsS l).flatten = l.map V.str
  | [] => rfl
  | s :: r => by simp only [rowsS, List.map_cons, List.flatten_cons] at *; rw [show (List.map (fun s => [V.str s]) r).flatten = r.map V.str from rowsS_flat r]; rfl
theorem simStr {g : G} {w : World} : ∀ {l : List (List UInt8)} {xs : List Value}, SimVs g w (l.map V.str) xs → xs = l.map encStr ∧ ∀ s ∈ l, s.length ≤ 9223372036854775807
  | [], xs, h => by simp only [List.map_nil, SimVs] at h; subst h; exact ⟨rfl, by simp⟩
  | s :: r, xs, h => by
    simp only [List.map_cons, SimVs] at h
    obtain ⟨v, t, rfl, h1, h2⟩ := h
    simp only [SimV] at h1
    obtain ⟨e, e2⟩ := simStr h2
    refine ⟨by rw [e, h1.1]; rfl, fun x hx => ?_⟩
    rcases List.mem_cons.1 hx with rfl | hx
    · exact h1.2
    · exact e2 x hx
theorem strSim {g : G} {w : World} : ∀ {l : List (List UInt8)}, (∀ s ∈ l, s.length ≤ 9223372036854775807) → SimVs g w (l.map V.str) (l.map encStr)
  | [], _ => rfl
  | s :: r, h => ⟨_, _, rfl, ⟨rfl, h s (by simp)⟩, strSim fun x hx => h x (by simp [hx])⟩
variable {T : Nat → TI}
theorem row_sorted {g : G} {w w' : World} {st : St} {k : Nat} {e : TypeId} {ss ds : List (List UInt8)} {b cap n : Nat} {os : Array Obj} (hst : SimSt T g st w) (hk : st[k]? = some (.arr e 1 (rowsS ss)))
    (hv : ∀ m c, g.tv k = .slice (some ⟨b, 0, none⟩) m c → True) (htv : g.tv k = .slice (some ⟨b, 0, none⟩) ss.length cap) (hl : ds.length = ss.length) (hd : ∀ s ∈ ds, s.length ≤ 9223372036854775807)
    (hw : w' = grow (putRow encStr (Sort.ahead w n) b 0 ds.toArray) os) : SimSt T g (st.set k (.arr e 1 (rowsS ds))) w' ∧ Ext g w g w' := by
  obtain ⟨m1, m2, xs, ⟨t1, t2, t3⟩, m3, m4⟩ := hst.ent k _ hk
  have hlen : (rowsS ss).length = ss.length := by simp [rowsS]
  rw [hlen] at t1 t2 t3
  rcases t3 with ⟨h0, h0'⟩ | ⟨b', cap', cur, k1, k2, k3, k4, k5, k6, k7⟩
  · rw [htv] at h0'; cases h0'
  rw [htv] at k1; cases k1
  have hx : Ext g w g w' := Ext.grown (by rw [hw]; exact Go.grownBy_sorted _) k2
  have hb : w'.heap[b]? = some (.cells (putCells encStr 0 ds.toArray cur) e (0, 0)) := by rw [hw]; exact Go.heap_sorted _ k3
  refine ⟨hst.upd hk hx rfl (fun _ => rfl) (fun _ _ => ⟨rfl, rfl⟩) (fun c hc hne ho => ⟨?_, rfl⟩) ?_ (fun c hc => .inl hc), hx⟩
  · have hg : w.grownBy w' (some b) := by rw [hw]; exact Go.grownBy_sorted _
    exact hg.block c hc (fun e' => by cases e'; exact hne (by simp [blkOf, htv, Value.ownBlock]))
  · refine ⟨m1, fun r hr => by simp only [rowsS, List.mem_map] at hr; obtain ⟨s, _, rfl⟩ := hr; rfl, ds.map encStr, ?_, ?_, ?_⟩
    · refine ⟨by rw [t1]; simp [rowsS, hl], by rw [List.length_map]; simp [rowsS, ← m1], .inr ⟨b, cap, _, by rw [htv]; simp [rowsS, hl], k2, hb, by simpa [rowsS, hl] using k4, k5, ?_, ?_⟩⟩
      · simp [putCells, k6]
      · rw [← m1, Nat.mul_one]
        have := Go.take_putCells cur ds (by rw [k6, ← m1]; omega)
        simpa [rowsS] using this
    · rw [rowsS_flat]; exact strSim hd
    · intro u hu
      obtain ⟨s, _, rfl⟩ := List.mem_map.1 hu
      rfl
/-- An array is taken over by a shorter slice of it. -/
theorem row_shorter {g : G} {w : World} {st : St} {k m : Nat} {e : TypeId} {sz : Nat} {c : List (List V)} {b cap : Nat} (hst : SimSt T g st w) (hk : st[k]? = some (.arr e sz c))
    (htv : g.tv k = .slice (some ⟨b, 0, none⟩) c.length cap) (hm : m ≤ c.length) :
    ∃ g', SimSt T g' (st.set k .gone ++ [.arr e sz (c.take m)]) w ∧ Ext g w g' w ∧ SimV g' w (.arr st.length m) (.slice (some ⟨b, 0, none⟩) m cap) := by
  obtain ⟨m1, m2, xs, ⟨t1, t2, t3⟩, m3, m4⟩ := hst.ent k _ hk
  rcases t3 with ⟨h0, h0'⟩ | ⟨b', cap', cur, k1, k2, k3, k4, k5, k6, k7⟩
  · rw [htv] at h0'; cases h0'
  rw [htv] at k1; cases k1
  have s1 : SimSt T g (st.set k .gone) w := hst.upd hk (Ext.refl g w) rfl (fun _ => rfl) (fun _ _ => ⟨rfl, rfl⟩) (fun c hc hne ho => ⟨rfl, rfl⟩) trivial (fun c hc => by simp [blkOf] at hc)
  have hx := Ext.push g w 0 (.slice (some ⟨b, 0, none⟩) m cap) m
  have hn := hst.n
  have hbk : blkOf g k (.arr e sz c) = some b := by simp [blkOf, htv, Value.ownBlock]
  have hml : (c.take m).length = m := by simp [hm]
  refine ⟨_, s1.push (b := 0) (v := .slice (some ⟨b, 0, none⟩) m cap) (k := m) ?_ ?_, hx, ?_⟩
  · refine ⟨m1, fun r hr => m2 r (List.mem_of_mem_take hr), xs.take (m * sz), ?_, ?_, fun u hu => m4 u (List.mem_of_mem_take hu)⟩
    · refine ⟨by rw [hml]; simp [G.push], ?_, .inr ⟨b, cap, cur, by rw [hml]; simp [G.push], k2, k3, by rw [hml]; omega, k5, k6, ?_⟩⟩
      · rw [List.length_take, hml, t2, ← m1]; exact Nat.min_eq_left (Nat.mul_le_mul_right _ hm)
      · rw [hml, ← k7, ← m1, List.take_take, Nat.min_eq_left (Nat.mul_le_mul_right _ hm)]
    · have hf : (c.take m).flatten = c.flatten.take (m * sz) := by
        clear t1 t2 k2 k3 k4 k6 k7 m3 m4 s1 htv hk hbk hx hml
        induction c generalizing m with
        | nil => simp
        | cons r t ih =>
          cases m with
          | zero => simp
          | succ m =>
            have hr := m2 r (by simp)
            rw [List.take_succ_cons, List.flatten_cons, List.flatten_cons, ih (by simp at hm; omega) (fun x hx => m2 x (by simp [hx])), Nat.succ_mul, Nat.add_comm (m * sz), ← hr, List.take_length_add_append]
      rw [hf]
      exact (m3.take _).ext hx
  · intro c' hc' i ei hi hb
    simp only [blkOf, G.push, if_true, Value.ownBlock, Option.map_some, Option.some.injEq] at hc'
    subst hc'
    by_cases hik : i = k
    · subst hik
      rw [List.getElem?_set_self (by have := (List.getElem?_eq_some_iff.1 hk).1; exact this)] at hi
      cases hi
      simp [blkOf] at hb
    · rw [List.getElem?_set_ne (Ne.symm hik)] at hi
      exact hik (hst.one i k ei _ b hi hk hb hbk)
  · simp only [SimV, G.push]
    refine ⟨by omega, by simp [hn], fun _ => by simp [hn], _, _, rfl⟩
end Go.Proofs.Ytcegdbniggdckaa.Gx

namespace Go.Proofs.Ytcegdbniggdckaa.Gw
open Go

def tab : List TI := [
  ⟨.other, 0, 0, []⟩,
  ⟨.func, 1, 8, [.nilf]⟩,
  ⟨.int .i64, 1, 8, [.int .i64 0]⟩,
  ⟨.int .i64, 1, 8, [.int .i64 0]⟩,
  ⟨.bool, 1, 1, [.bool false]⟩,
  ⟨.int .u8, 1, 1, [.int .u8 0]⟩,
  ⟨.int .u8, 1, 1, [.int .u8 0]⟩,
  ⟨.struct [(0, 2), (1, 3), (2, 4), (3, 6)], 4, 24, [.int .i64 0, .int .i64 0, .bool false, .int .u8 0]⟩,
  ⟨.struct [(0, 2), (1, 3), (2, 4), (3, 6)], 4, 24, [.int .i64 0, .int .i64 0, .bool false, .int .u8 0]⟩,
  ⟨.str, 1, 16, [.str []]⟩,
  ⟨.str, 1, 16, [.str []]⟩,
  ⟨.str, 1, 16, [.str []]⟩,
  ⟨.int .u64, 1, 8, [.int .u64 0]⟩,
  ⟨.other, 0, 0, []⟩,
  ⟨.other, 0, 0, []⟩,
  ⟨.ptr 75, 1, 8, [.nilp]⟩,
  ⟨.ptr 78, 1, 8, [.nilp]⟩,
  ⟨.ptr 87, 1, 8, [.nilp]⟩,
  ⟨.other, 0, 0, []⟩,
  ⟨.other, 0, 0, []⟩,
  ⟨.iface, 1, 16, [.nili]⟩,
  ⟨.int .i32, 1, 4, [.int .i32 0]⟩,
  ⟨.slice 32, 1, 24, [.nils]⟩,
  ⟨.slice 9, 1, 24, [.nils]⟩,
  ⟨.int .i64, 1, 8, [.int .i64 0]⟩,
  ⟨.other, 0, 0, []⟩,
  ⟨.func, 1, 8, [.nilf]⟩,
  ⟨.func, 1, 8, [.nilf]⟩,
  ⟨.func, 1, 8, [.nilf]⟩,
  ⟨.func, 1, 8, [.nilf]⟩,
  ⟨.map 9 3, 1, 8, [.nilm]⟩,
  ⟨.struct [(0, 9), (1, 23)], 2, 40, [.str [], .nils]⟩,
  ⟨.struct [(0, 9), (1, 23)], 2, 40, [.str [], .nils]⟩,
  ⟨.func, 1, 8, [.nilf]⟩,
  ⟨.map 9 4, 1, 8, [.nilm]⟩,
  ⟨.map 9 23, 1, 8, [.nilm]⟩,
  ⟨.other, 0, 0, []⟩,
  ⟨.func, 1, 8, [.nilf]⟩,
  ⟨.func, 1, 8, [.nilf]⟩,
  ⟨.func, 1, 8, [.nilf]⟩,
  ⟨.func, 1, 8, [.nilf]⟩,
  ⟨.func, 1, 8, [.nilf]⟩,
  ⟨.func, 1, 8, [.nilf]⟩,
  ⟨.func, 1, 8, [.nilf]⟩,
  ⟨.func, 1, 8, [.nilf]⟩,
  ⟨.func, 1, 8, [.nilf]⟩,
  ⟨.func, 1, 8, [.nilf]⟩,
  ⟨.func, 1, 8, [.nilf]⟩,
  ⟨.int .u64, 1, 8, [.int .u64 0]⟩,
  ⟨.func, 1, 8, [.nilf]⟩,
  ⟨.func, 1, 8, [.nilf]⟩,
  ⟨.func, 1, 8, [.nilf]⟩,
  ⟨.int .i64, 1, 8, [.int .i64 0]⟩,
  ⟨.other, 0, 0, []⟩,
  ⟨.func, 1, 8, [.nilf]⟩,
  ⟨.func, 1, 8, [.nilf]⟩,
  ⟨.func, 1, 8, [.nilf]⟩,
  ⟨.func, 1, 8, [.nilf]⟩,
  ⟨.other, 0, 0, []⟩,
  ⟨.func, 1, 8, [.nilf]⟩,
  ⟨.func, 1, 8, [.nilf]⟩,
  ⟨.int .u32, 1, 4, [.int .u32 0]⟩,
  ⟨.func, 1, 8, [.nilf]⟩,
  ⟨.int .u64, 1, 8, [.int .u64 0]⟩,
  ⟨.int .u64, 1, 8, [.int .u64 0]⟩,
  ⟨.func, 1, 8, [.nilf]⟩,
  ⟨.func, 1, 8, [.nilf]⟩,
  ⟨.func, 1, 8, [.nilf]⟩,
  ⟨.ptr 3, 1, 8, [.nilp]⟩,
  ⟨.func, 1, 8, [.nilf]⟩,
  ⟨.ptr 64, 1, 8, [.nilp]⟩,
  ⟨.other, 0, 0, []⟩,
  ⟨.func, 1, 8, [.nilf]⟩,
  ⟨.func, 1, 8, [.nilf]⟩,
  ⟨.other, 0, 0, []⟩,
  ⟨.other, 0, 0, []⟩,
  ⟨.other, 0, 0, []⟩,
  ⟨.other, 0, 0, []⟩,
  ⟨.other, 0, 0, []⟩,
  ⟨.func, 1, 8, [.nilf]⟩,
  ⟨.int .u8, 1, 1, [.int .u8 0]⟩,
  ⟨.int .u8, 1, 1, [.int .u8 0]⟩,
  ⟨.func, 1, 8, [.nilf]⟩,
  ⟨.ptr 5, 1, 8, [.nilp]⟩,
  ⟨.int .i32, 1, 4, [.int .i32 0]⟩,
  ⟨.int .i32, 1, 4, [.int .i32 0]⟩,
  ⟨.other, 0, 0, []⟩,
  ⟨.other, 0, 0, []⟩,
  ⟨.other, 0, 0, []⟩]

def TT (t : Nat) : TI := (tab[t]?).getD ⟨.other, 0, 0, []⟩


def rowsOk (P : Program) : Nat → List TI → Prop
  | _, [] => True
  | k, i :: r => (i.kind ≠ .other → TI.ok P k i) ∧ rowsOk P (k + 1) r

theorem rowsOk_get {P : Program} : ∀ (l : List TI) (k t : Nat) (i : TI), rowsOk P k l → l[t]? = some i → i.kind ≠ .other → TI.ok P (k + t) i
  | [], k, t, i, _, h, _ => by simp at h
  | j :: r, k, 0, i, h, h2, h3 => by simp at h2; subst h2; exact h.1 h3
  | j :: r, k, t + 1, i, h, h2, h3 => by
    have := rowsOk_get r (k + 1) t i h.2 (by simpa using h2) h3
    rw [show k + (t + 1) = k + 1 + t by omega]; exact this

theorem row_1 : TI.ok Try.prog 1 (TT 1) := ⟨by kernel_rfl, by kernel_rfl, by kernel_rfl, by kernel_rfl, (by intro h; first | rfl | cases h), (by intro h; first | kernel_rfl | cases h)⟩
theorem row_2 : TI.ok Try.prog 2 (TT 2) := ⟨by kernel_rfl, by kernel_rfl, by kernel_rfl, by kernel_rfl, (by intro h; first | rfl | cases h), (by intro h; first | kernel_rfl | cases h)⟩
theorem row_3 : TI.ok Try.prog 3 (TT 3) := ⟨by kernel_rfl, by kernel_rfl, by kernel_rfl, by kernel_rfl, (by intro h; first | rfl | cases h), (by intro h; first | kernel_rfl | cases h)⟩
theorem row_4 : TI.ok Try.prog 4 (TT 4) := ⟨by kernel_rfl, by kernel_rfl, by kernel_rfl, by kernel_rfl, (by intro h; first | rfl | cases h), (by intro h; first | kernel_rfl | cases h)⟩
theorem row_5 : TI.ok Try.prog 5 (TT 5) := ⟨by kernel_rfl, by kernel_rfl, by kernel_rfl, by kernel_rfl, (by intro h; first | rfl | cases h), (by intro h; first | kernel_rfl | cases h)⟩
theorem row_6 : TI.ok Try.prog 6 (TT 6) := ⟨by kernel_rfl, by kernel_rfl, by kernel_rfl, by kernel_rfl, (by intro h; first | rfl | cases h), (by intro h; first | kernel_rfl | cases h)⟩
theorem row_7 : TI.ok Try.prog 7 (TT 7) := ⟨by kernel_rfl, by kernel_rfl, by kernel_rfl, by kernel_rfl, (by intro h; first | rfl | cases h), (by intro h; first | kernel_rfl | cases h)⟩
theorem row_8 : TI.ok Try.prog 8 (TT 8) := ⟨by kernel_rfl, by kernel_rfl, by kernel_rfl, by kernel_rfl, (by intro h; first | rfl | cases h), (by intro h; first | kernel_rfl | cases h)⟩
theorem row_9 : TI.ok Try.prog 9 (TT 9) := ⟨by kernel_rfl, by kernel_rfl, by kernel_rfl, by kernel_rfl, (by intro h; first | rfl | cases h), (by intro h; first | kernel_rfl | cases h)⟩
theorem row_10 : TI.ok Try.prog 10 (TT 10) := ⟨by kernel_rfl, by kernel_rfl, by kernel_rfl, by kernel_rfl, (by intro h; first | rfl | cases h), (by intro h; first | kernel_rfl | cases h)⟩
theorem row_11 : TI.ok Try.prog 11 (TT 11) := ⟨by kernel_rfl, by kernel_rfl, by kernel_rfl, by kernel_rfl, (by intro h; first | rfl | cases h), (by intro h; first | kernel_rfl | cases h)⟩
theorem row_12 : TI.ok Try.prog 12 (TT 12) := ⟨by kernel_rfl, by kernel_rfl, by kernel_rfl, by kernel_rfl, (by intro h; first | rfl | cases h), (by intro h; first | kernel_rfl | cases h)⟩
theorem row_15 : TI.ok Try.prog 15 (TT 15) := ⟨by kernel_rfl, by kernel_rfl, by kernel_rfl, by kernel_rfl, (by intro h; first | rfl | cases h), (by intro h; first | kernel_rfl | cases h)⟩
theorem row_16 : TI.ok Try.prog 16 (TT 16) := ⟨by kernel_rfl, by kernel_rfl, by kernel_rfl, by kernel_rfl, (by intro h; first | rfl | cases h), (by intro h; first | kernel_rfl | cases h)⟩
theorem row_17 : TI.ok Try.prog 17 (TT 17) := ⟨by kernel_rfl, by kernel_rfl, by kernel_rfl, by kernel_rfl, (by intro h; first | rfl | cases h), (by intro h; first | kernel_rfl | cases h)⟩
theorem row_20 : TI.ok Try.prog 20 (TT 20) := ⟨by kernel_rfl, by kernel_rfl, by kernel_rfl, by kernel_rfl, (by intro h; first | rfl | cases h), (by intro h; first | kernel_rfl | cases h)⟩
theorem row_21 : TI.ok Try.prog 21 (TT 21) := ⟨by kernel_rfl, by kernel_rfl, by kernel_rfl, by kernel_rfl, (by intro h; first | rfl | cases h), (by intro h; first | kernel_rfl | cases h)⟩
theorem row_22 : TI.ok Try.prog 22 (TT 22) := ⟨by kernel_rfl, by kernel_rfl, by kernel_rfl, by kernel_rfl, (by intro h; first | rfl | cases h), (by intro h; first | kernel_rfl | cases h)⟩
theorem row_23 : TI.ok Try.prog 23 (TT 23) := ⟨by kernel_rfl, by kernel_rfl, by kernel_rfl, by kernel_rfl, (by intro h; first | rfl | cases h), (by intro h; first | kernel_rfl | cases h)⟩
theorem row_24 : TI.ok Try.prog 24 (TT 24) := ⟨by kernel_rfl, by kernel_rfl, by kernel_rfl, by kernel_rfl, (by intro h; first | rfl | cases h), (by intro h; first | kernel_rfl | cases h)⟩
theorem row_26 : TI.ok Try.prog 26 (TT 26) := ⟨by kernel_rfl, by kernel_rfl, by kernel_rfl, by kernel_rfl, (by intro h; first | rfl | cases h), (by intro h; first | kernel_rfl | cases h)⟩
theorem row_27 : TI.ok Try.prog 27 (TT 27) := ⟨by kernel_rfl, by kernel_rfl, by kernel_rfl, by kernel_rfl, (by intro h; first | rfl | cases h), (by intro h; first | kernel_rfl | cases h)⟩
theorem row_28 : TI.ok Try.prog 28 (TT 28) := ⟨by kernel_rfl, by kernel_rfl, by kernel_rfl, by kernel_rfl, (by intro h; first | rfl | cases h), (by intro h; first | kernel_rfl | cases h)⟩
theorem row_29 : TI.ok Try.prog 29 (TT 29) := ⟨by kernel_rfl, by kernel_rfl, by kernel_rfl, by kernel_rfl, (by intro h; first | rfl | cases h), (by intro h; first | kernel_rfl | cases h)⟩
theorem row_30 : TI.ok Try.prog 30 (TT 30) := ⟨by kernel_rfl, by kernel_rfl, by kernel_rfl, by kernel_rfl, (by intro h; first | rfl | cases h), (by intro h; first | kernel_rfl | cases h)⟩
theorem row_31 : TI.ok Try.prog 31 (TT 31) := ⟨by kernel_rfl, by kernel_rfl, by kernel_rfl, by kernel_rfl, (by intro h; first | rfl | cases h), (by intro h; first | kernel_rfl | cases h)⟩
theorem row_32 : TI.ok Try.prog 32 (TT 32) := ⟨by kernel_rfl, by kernel_rfl, by kernel_rfl, by kernel_rfl, (by intro h; first | rfl | cases h), (by intro h; first | kernel_rfl | cases h)⟩
theorem row_33 : TI.ok Try.prog 33 (TT 33) := ⟨by kernel_rfl, by kernel_rfl, by kernel_rfl, by kernel_rfl, (by intro h; first | rfl | cases h), (by intro h; first | kernel_rfl | cases h)⟩
theorem row_34 : TI.ok Try.prog 34 (TT 34) := ⟨by kernel_rfl, by kernel_rfl, by kernel_rfl, by kernel_rfl, (by intro h; first | rfl | cases h), (by intro h; first | kernel_rfl | cases h)⟩
theorem row_35 : TI.ok Try.prog 35 (TT 35) := ⟨by kernel_rfl, by kernel_rfl, by kernel_rfl, by kernel_rfl, (by intro h; first | rfl | cases h), (by intro h; first | kernel_rfl | cases h)⟩
theorem row_37 : TI.ok Try.prog 37 (TT 37) := ⟨by kernel_rfl, by kernel_rfl, by kernel_rfl, by kernel_rfl, (by intro h; first | rfl | cases h), (by intro h; first | kernel_rfl | cases h)⟩
theorem row_38 : TI.ok Try.prog 38 (TT 38) := ⟨by kernel_rfl, by kernel_rfl, by kernel_rfl, by kernel_rfl, (by intro h; first | rfl | cases h), (by intro h; first | kernel_rfl | cases h)⟩
theorem row_39 : TI.ok Try.prog 39 (TT 39) := ⟨by kernel_rfl, by kernel_rfl, by kernel_rfl, by kernel_rfl, (by intro h; first | rfl | cases h), (by intro h; first | kernel_rfl | cases h)⟩
theorem row_40 : TI.ok Try.prog 40 (TT 40) := ⟨by kernel_rfl, by kernel_rfl, by kernel_rfl, by kernel_rfl, (by intro h; first | rfl | cases h), (by intro h; first | kernel_rfl | cases h)⟩
theorem row_41 : TI.ok Try.prog 41 (TT 41) := ⟨by kernel_rfl, by kernel_rfl, by kernel_rfl, by kernel_rfl, (by intro h; first | rfl | cases h), (by intro h; first | kernel_rfl | cases h)⟩
theorem row_42 : TI.ok Try.prog 42 (TT 42) := ⟨by kernel_rfl, by kernel_rfl, by kernel_rfl, by kernel_rfl, (by intro h; first | rfl | cases h), (by intro h; first | kernel_rfl | cases h)⟩
theorem row_43 : TI.ok Try.prog 43 (TT 43) := ⟨by kernel_rfl, by kernel_rfl, by kernel_rfl, by kernel_rfl, (by intro h; first | rfl | cases h), (by intro h; first | kernel_rfl | cases h)⟩
theorem row_44 : TI.ok Try.prog 44 (TT 44) := ⟨by kernel_rfl, by kernel_rfl, by kernel_rfl, by kernel_rfl, (by intro h; first | rfl | cases h), (by intro h; first | kernel_rfl | cases h)⟩
theorem row_45 : TI.ok Try.prog 45 (TT 45) := ⟨by kernel_rfl, by kernel_rfl, by kernel_rfl, by kernel_rfl, (by intro h; first | rfl | cases h), (by intro h; first | kernel_rfl | cases h)⟩
theorem row_46 : TI.ok Try.prog 46 (TT 46) := ⟨by kernel_rfl, by kernel_rfl, by kernel_rfl, by kernel_rfl, (by intro h; first | rfl | cases h), (by intro h; first | kernel_rfl | cases h)⟩
theorem row_47 : TI.ok Try.prog 47 (TT 47) := ⟨by kernel_rfl, by kernel_rfl, by kernel_rfl, by kernel_rfl, (by intro h; first | rfl | cases h), (by intro h; first | kernel_rfl | cases h)⟩
theorem row_48 : TI.ok Try.prog 48 (TT 48) := ⟨by kernel_rfl, by kernel_rfl, by kernel_rfl, by kernel_rfl, (by intro h; first | rfl | cases h), (by intro h; first | kernel_rfl | cases h)⟩
theorem row_49 : TI.ok Try.prog 49 (TT 49) := ⟨by kernel_rfl, by kernel_rfl, by kernel_rfl, by kernel_rfl, (by intro h; first | rfl | cases h), (by intro h; first | kernel_rfl | cases h)⟩
theorem row_50 : TI.ok Try.prog 50 (TT 50) := ⟨by kernel_rfl, by kernel_rfl, by kernel_rfl, by kernel_rfl, (by intro h; first | rfl | cases h), (by intro h; first | kernel_rfl | cases h)⟩
theorem row_51 : TI.ok Try.prog 51 (TT 51) := ⟨by kernel_rfl, by kernel_rfl, by kernel_rfl, by kernel_rfl, (by intro h; first | rfl | cases h), (by intro h; first | kernel_rfl | cases h)⟩
theorem row_52 : TI.ok Try.prog 52 (TT 52) := ⟨by kernel_rfl, by kernel_rfl, by kernel_rfl, by kernel_rfl, (by intro h; first | rfl | cases h), (by intro h; first | kernel_rfl | cases h)⟩
theorem row_54 : TI.ok Try.prog 54 (TT 54) := ⟨by kernel_rfl, by kernel_rfl, by kernel_rfl, by kernel_rfl, (by intro h; first | rfl | cases h), (by intro h; first | kernel_rfl | cases h)⟩
theorem row_55 : TI.ok Try.prog 55 (TT 55) := ⟨by kernel_rfl, by kernel_rfl, by kernel_rfl, by kernel_rfl, (by intro h; first | rfl | cases h), (by intro h; first | kernel_rfl | cases h)⟩
theorem row_56 : TI.ok Try.prog 56 (TT 56) := ⟨by kernel_rfl, by kernel_rfl, by kernel_rfl, by kernel_rfl, (by intro h; first | rfl | cases h), (by intro h; first | kernel_rfl | cases h)⟩
theorem row_57 : TI.ok Try.prog 57 (TT 57) := ⟨by kernel_rfl, by kernel_rfl, by kernel_rfl, by kernel_rfl, (by intro h; first | rfl | cases h), (by intro h; first | kernel_rfl | cases h)⟩
theorem row_59 : TI.ok Try.prog 59 (TT 59) := ⟨by kernel_rfl, by kernel_rfl, by kernel_rfl, by kernel_rfl, (by intro h; first | rfl | cases h), (by intro h; first | kernel_rfl | cases h)⟩
theorem row_60 : TI.ok Try.prog 60 (TT 60) := ⟨by kernel_rfl, by kernel_rfl, by kernel_rfl, by kernel_rfl, (by intro h; first | rfl | cases h), (by intro h; first | kernel_rfl | cases h)⟩
theorem row_61 : TI.ok Try.prog 61 (TT 61) := ⟨by kernel_rfl, by kernel_rfl, by kernel_rfl, by kernel_rfl, (by intro h; first | rfl | cases h), (by intro h; first | kernel_rfl | cases h)⟩
theorem row_62 : TI.ok Try.prog 62 (TT 62) := ⟨by kernel_rfl, by kernel_rfl, by kernel_rfl, by kernel_rfl, (by intro h; first | rfl | cases h), (by intro h; first | kernel_rfl | cases h)⟩
theorem row_63 : TI.ok Try.prog 63 (TT 63) := ⟨by kernel_rfl, by kernel_rfl, by kernel_rfl, by kernel_rfl, (by intro h; first | rfl | cases h), (by intro h; first | kernel_rfl | cases h)⟩
theorem row_64 : TI.ok Try.prog 64 (TT 64) := ⟨by kernel_rfl, by kernel_rfl, by kernel_rfl, by kernel_rfl, (by intro h; first | rfl | cases h), (by intro h; first | kernel_rfl | cases h)⟩
theorem row_65 : TI.ok Try.prog 65 (TT 65) := ⟨by kernel_rfl, by kernel_rfl, by kernel_rfl, by kernel_rfl, (by intro h; first | rfl | cases h), (by intro h; first | kernel_rfl | cases h)⟩
theorem row_66 : TI.ok Try.prog 66 (TT 66) := ⟨by kernel_rfl, by kernel_rfl, by kernel_rfl, by kernel_rfl, (by intro h; first | rfl | cases h), (by intro h; first | kernel_rfl | cases h)⟩
theorem row_67 : TI.ok Try.prog 67 (TT 67) := ⟨by kernel_rfl, by kernel_rfl, by kernel_rfl, by kernel_rfl, (by intro h; first | rfl | cases h), (by intro h; first | kernel_rfl | cases h)⟩
theorem row_68 : TI.ok Try.prog 68 (TT 68) := ⟨by kernel_rfl, by kernel_rfl, by kernel_rfl, by kernel_rfl, (by intro h; first | rfl | cases h), (by intro h; first | kernel_rfl | cases h)⟩
theorem row_69 : TI.ok Try.prog 69 (TT 69) := ⟨by kernel_rfl, by kernel_rfl, by kernel_rfl, by kernel_rfl, (by intro h; first | rfl | cases h), (by intro h; first | kernel_rfl | cases h)⟩
theorem row_70 : TI.ok Try.prog 70 (TT 70) := ⟨by kernel_rfl, by kernel_rfl, by kernel_rfl, by kernel_rfl, (by intro h; first | rfl | cases h), (by intro h; first | kernel_rfl | cases h)⟩
theorem row_72 : TI.ok Try.prog 72 (TT 72) := ⟨by kernel_rfl, by kernel_rfl, by kernel_rfl, by kernel_rfl, (by intro h; first | rfl | cases h), (by intro h; first | kernel_rfl | cases h)⟩
theorem row_73 : TI.ok Try.prog 73 (TT 73) := ⟨by kernel_rfl, by kernel_rfl, by kernel_rfl, by kernel_rfl, (by intro h; first | rfl | cases h), (by intro h; first | kernel_rfl | cases h)⟩
theorem row_79 : TI.ok Try.prog 79 (TT 79) := ⟨by kernel_rfl, by kernel_rfl, by kernel_rfl, by kernel_rfl, (by intro h; first | rfl | cases h), (by intro h; first | kernel_rfl | cases h)⟩
theorem row_80 : TI.ok Try.prog 80 (TT 80) := ⟨by kernel_rfl, by kernel_rfl, by kernel_rfl, by kernel_rfl, (by intro h; first | rfl | cases h), (by intro h; first | kernel_rfl | cases h)⟩
theorem row_81 : TI.ok Try.prog 81 (TT 81) := ⟨by kernel_rfl, by kernel_rfl, by kernel_rfl, by kernel_rfl, (by intro h; first | rfl | cases h), (by intro h; first | kernel_rfl | cases h)⟩
theorem row_82 : TI.ok Try.prog 82 (TT 82) := ⟨by kernel_rfl, by kernel_rfl, by kernel_rfl, by kernel_rfl, (by intro h; first | rfl | cases h), (by intro h; first | kernel_rfl | cases h)⟩
theorem row_83 : TI.ok Try.prog 83 (TT 83) := ⟨by kernel_rfl, by kernel_rfl, by kernel_rfl, by kernel_rfl, (by intro h; first | rfl | cases h), (by intro h; first | kernel_rfl | cases h)⟩
theorem row_84 : TI.ok Try.prog 84 (TT 84) := ⟨by kernel_rfl, by kernel_rfl, by kernel_rfl, by kernel_rfl, (by intro h; first | rfl | cases h), (by intro h; first | kernel_rfl | cases h)⟩
theorem row_85 : TI.ok Try.prog 85 (TT 85) := ⟨by kernel_rfl, by kernel_rfl, by kernel_rfl, by kernel_rfl, (by intro h; first | rfl | cases h), (by intro h; first | kernel_rfl | cases h)⟩

theorem rows_ok : rowsOk Try.prog 0 tab := by
  refine ⟨fun h => absurd rfl h, fun _ => row_1, fun _ => row_2, fun _ => row_3, fun _ => row_4, fun _ => row_5, fun _ => row_6, fun _ => row_7, fun _ => row_8, fun _ => row_9, fun _ => row_10, fun _ => row_11, fun _ => row_12, fun h => absurd rfl h, fun h => absurd rfl h, fun _ => row_15, fun _ => row_16, fun _ => row_17, fun h => absurd rfl h, fun h => absurd rfl h, fun _ => row_20, fun _ => row_21, fun _ => row_22, fun _ => row_23, fun _ => row_24, fun h => absurd rfl h, fun _ => row_26, fun _ => row_27, fun _ => row_28, fun _ => row_29, fun _ => row_30, fun _ => row_31, fun _ => row_32, fun _ => row_33, fun _ => row_34, fun _ => row_35, fun h => absurd rfl h, fun _ => row_37, fun _ => row_38, fun _ => row_39, fun _ => row_40, fun _ => row_41, fun _ => row_42, fun _ => row_43, fun _ => row_44, fun _ => row_45, fun _ => row_46, fun _ => row_47, fun _ => row_48, fun _ => row_49, fun _ => row_50, fun _ => row_51, fun _ => row_52, fun h => absurd rfl h, fun _ => row_54, fun _ => row_55, fun _ => row_56, fun _ => row_57, fun h => absurd rfl h, fun _ => row_59, fun _ => row_60, fun _ => row_61, fun _ => row_62, fun _ => row_63, fun _ => row_64, fun _ => row_65, fun _ => row_66, fun _ => row_67, fun _ => row_68, fun _ => row_69, fun _ => row_70, fun h => absurd rfl h, fun _ => row_72, fun _ => row_73, fun h => absurd rfl h, fun h => absurd rfl h, fun h => absurd rfl h, fun h => absurd rfl h, fun h => absurd rfl h, fun _ => row_79, fun _ => row_80, fun _ => row_81, fun _ => row_82, fun _ => row_83, fun _ => row_84, fun _ => row_85, fun h => absurd rfl h, fun h => absurd rfl h, fun h => absurd rfl h, trivial⟩

theorem gwTT :
    (TT 1 = ⟨.func, 1, 8, [.nilf]⟩) ∧
    (TT 2 = ⟨.int .i64, 1, 8, [.int .i64 0]⟩) ∧
    (TT 3 = ⟨.int .i64, 1, 8, [.int .i64 0]⟩) ∧
    (TT 4 = ⟨.bool, 1, 1, [.bool false]⟩) ∧
    (TT 5 = ⟨.int .u8, 1, 1, [.int .u8 0]⟩) ∧
    (TT 6 = ⟨.int .u8, 1, 1, [.int .u8 0]⟩) ∧
    (TT 7 = ⟨.struct [(0, 2), (1, 3), (2, 4), (3, 6)], 4, 24, [.int .i64 0, .int .i64 0, .bool false, .int .u8 0]⟩) ∧
    (TT 8 = ⟨.struct [(0, 2), (1, 3), (2, 4), (3, 6)], 4, 24, [.int .i64 0, .int .i64 0, .bool false, .int .u8 0]⟩) ∧
    (TT 9 = ⟨.str, 1, 16, [.str []]⟩) ∧
    (TT 10 = ⟨.str, 1, 16, [.str []]⟩) ∧
    (TT 11 = ⟨.str, 1, 16, [.str []]⟩) ∧
    (TT 12 = ⟨.int .u64, 1, 8, [.int .u64 0]⟩) ∧
    (TT 15 = ⟨.ptr 75, 1, 8, [.nilp]⟩) ∧
    (TT 16 = ⟨.ptr 78, 1, 8, [.nilp]⟩) ∧
    (TT 17 = ⟨.ptr 87, 1, 8, [.nilp]⟩) ∧
    (TT 20 = ⟨.iface, 1, 16, [.nili]⟩) ∧
    (TT 21 = ⟨.int .i32, 1, 4, [.int .i32 0]⟩) ∧
    (TT 22 = ⟨.slice 32, 1, 24, [.nils]⟩) ∧
    (TT 23 = ⟨.slice 9, 1, 24, [.nils]⟩) ∧
    (TT 24 = ⟨.int .i64, 1, 8, [.int .i64 0]⟩) ∧
    (TT 26 = ⟨.func, 1, 8, [.nilf]⟩) ∧
    (TT 27 = ⟨.func, 1, 8, [.nilf]⟩) ∧
    (TT 28 = ⟨.func, 1, 8, [.nilf]⟩) ∧
    (TT 29 = ⟨.func, 1, 8, [.nilf]⟩) ∧
    (TT 30 = ⟨.map 9 3, 1, 8, [.nilm]⟩) ∧
    (TT 31 = ⟨.struct [(0, 9), (1, 23)], 2, 40, [.str [], .nils]⟩) ∧
    (TT 32 = ⟨.struct [(0, 9), (1, 23)], 2, 40, [.str [], .nils]⟩) ∧
    (TT 33 = ⟨.func, 1, 8, [.nilf]⟩) ∧
    (TT 34 = ⟨.map 9 4, 1, 8, [.nilm]⟩) ∧
    (TT 35 = ⟨.map 9 23, 1, 8, [.nilm]⟩) ∧
    (TT 37 = ⟨.func, 1, 8, [.nilf]⟩) ∧
    (TT 38 = ⟨.func, 1, 8, [.nilf]⟩) ∧
    (TT 39 = ⟨.func, 1, 8, [.nilf]⟩) ∧
    (TT 40 = ⟨.func, 1, 8, [.nilf]⟩) ∧
    (TT 41 = ⟨.func, 1, 8, [.nilf]⟩) ∧
    (TT 42 = ⟨.func, 1, 8, [.nilf]⟩) ∧
    (TT 43 = ⟨.func, 1, 8, [.nilf]⟩) ∧
    (TT 44 = ⟨.func, 1, 8, [.nilf]⟩) ∧
    (TT 45 = ⟨.func, 1, 8, [.nilf]⟩) ∧
    (TT 46 = ⟨.func, 1, 8, [.nilf]⟩) ∧
    (TT 47 = ⟨.func, 1, 8, [.nilf]⟩) ∧
    (TT 48 = ⟨.int .u64, 1, 8, [.int .u64 0]⟩) ∧
    (TT 49 = ⟨.func, 1, 8, [.nilf]⟩) ∧
    (TT 50 = ⟨.func, 1, 8, [.nilf]⟩) ∧
    (TT 51 = ⟨.func, 1, 8, [.nilf]⟩) ∧
    (TT 52 = ⟨.int .i64, 1, 8, [.int .i64 0]⟩) ∧
    (TT 54 = ⟨.func, 1, 8, [.nilf]⟩) ∧
    (TT 55 = ⟨.func, 1, 8, [.nilf]⟩) ∧
    (TT 56 = ⟨.func, 1, 8, [.nilf]⟩) ∧
    (TT 57 = ⟨.func, 1, 8, [.nilf]⟩) ∧
    (TT 59 = ⟨.func, 1, 8, [.nilf]⟩) ∧
    (TT 60 = ⟨.func, 1, 8, [.nilf]⟩) ∧
    (TT 61 = ⟨.int .u32, 1, 4, [.int .u32 0]⟩) ∧
    (TT 62 = ⟨.func, 1, 8, [.nilf]⟩) ∧
    (TT 63 = ⟨.int .u64, 1, 8, [.int .u64 0]⟩) ∧
    (TT 64 = ⟨.int .u64, 1, 8, [.int .u64 0]⟩) ∧
    (TT 65 = ⟨.func, 1, 8, [.nilf]⟩) ∧
    (TT 66 = ⟨.func, 1, 8, [.nilf]⟩) ∧
    (TT 67 = ⟨.func, 1, 8, [.nilf]⟩) ∧
    (TT 68 = ⟨.ptr 3, 1, 8, [.nilp]⟩) ∧
    (TT 69 = ⟨.func, 1, 8, [.nilf]⟩) ∧
    (TT 70 = ⟨.ptr 64, 1, 8, [.nilp]⟩) ∧
    (TT 72 = ⟨.func, 1, 8, [.nilf]⟩) ∧
    (TT 73 = ⟨.func, 1, 8, [.nilf]⟩) ∧
    (TT 79 = ⟨.func, 1, 8, [.nilf]⟩) ∧
    (TT 80 = ⟨.int .u8, 1, 1, [.int .u8 0]⟩) ∧
    (TT 81 = ⟨.int .u8, 1, 1, [.int .u8 0]⟩) ∧
    (TT 82 = ⟨.func, 1, 8, [.nilf]⟩) ∧
    (TT 83 = ⟨.ptr 5, 1, 8, [.nilp]⟩) ∧
    (TT 84 = ⟨.int .i32, 1, 4, [.int .i32 0]⟩) ∧
    (TT 85 = ⟨.int .i32, 1, 4, [.int .i32 0]⟩) := by
  refine ⟨rfl, rfl, rfl, rfl, rfl, rfl, rfl, rfl, rfl, rfl, rfl, rfl, rfl, rfl, rfl, rfl, rfl, rfl, rfl, rfl, rfl, rfl, rfl, rfl, rfl, rfl, rfl, rfl, rfl, rfl, rfl, rfl, rfl, rfl, rfl, rfl, rfl, rfl, rfl, rfl, rfl, rfl, rfl, rfl, rfl, rfl, rfl, rfl, rfl, rfl, rfl, rfl, rfl, rfl, rfl, rfl, rfl, rfl, rfl, rfl, rfl, rfl, rfl, rfl, rfl, rfl, rfl, rfl, rfl, rfl, rfl⟩

theorem TT_ok : Tab Try.prog TT := by
  intro t h
  unfold TT at h ⊢
  cases ht : tab[t]? with
  | none => rw [ht] at h; exact absurd rfl h
  | some i =>
    rw [ht] at h
    have := rowsOk_get tab 0 t i rows_ok ht h
    simpa using this
theorem TT_mixed : Try.prog.follows .mixedOrders = true := by kernel_rfl
end Go.Proofs.Ytcegdbniggdckaa.Gw

namespace Go.Proofs
open Go.Shelf
shelf_lay Lays.n190 Nm 190 at Try as Ytcegdbniggdckaa.lays190
shelf_lay Lays2.n24 Nm2 24 at Try as Ytcegdbniggdckaa.lays24
shelf_lay Lays2.n16 Nm2 16 at Try as Ytcegdbniggdckaa.lays16
end Go.Proofs
namespace Go.Proofs.Ytcegdbniggdckaa.Gx
open Go Go.Proofs.Ytcegdbniggdckaa.Gw
set_option linter.unusedSimpArgs false
set_option linter.unusedVariables false
open Go.Sort (putRow putCells grow Holds)
theorem c_SortS (ss : List (List UInt8)) (k : Nat) (st : St) (hk : st[k]? = some (.arr 9 1 (rowsS ss))) (hl : ss.length < 4611686018427387904) : VCalls Try.prog TT 13 [.arr k ss.length] st fun r st' =>
    r = .ret (.tup []) ∧ st' = st.set k (.arr 9 1 (rowsS (ss.mergeSort fun x y => decide (x ≤ y)))) := by
  refine ⟨⟨_, Try.func13, by kernel_rfl, by kernel_rfl⟩, fun g w vals hst hv => ?_⟩
  simp only [SimVs, SimV] at hv
  obtain ⟨v, _, rfl, ⟨-, -, h3, -⟩, rfl⟩ := hv
  obtain ⟨m1, m2, xs, ⟨t1, t2, t3⟩, m3, m4⟩ := hst.ent k _ hk
  have hlen : (rowsS ss).length = ss.length := by simp [rowsS]
  rw [hlen] at t1 t2 t3
  have hvv := h3 t1
  subst hvv
  rcases t3 with ⟨h0, h0'⟩ | ⟨b, cap, cur, k1, k2, k3, k4, k5, k6, k7⟩
  · have hnil : ss = [] := List.length_eq_zero_iff.1 h0
    rw [h0']
    subst hnil
    refine (Any.slices_Sort_string_none Ytcegdbniggdckaa.lays190 none 0 w).mono ?_
    rintro e w' ⟨rfl, rfl⟩
    refine ⟨.ret (.tup []), _, g, ⟨rfl, rfl⟩, ⟨_, rfl, by simp [SimV, SimVs]⟩, ?_, Ext.refl _ _⟩
    have : st.set k (.arr 9 1 (rowsS (([] : List (List UInt8)).mergeSort fun x y => decide (x ≤ y)))) = st := by
      rw [List.mergeSort_nil]
      apply List.ext_getElem?
      intro j
      by_cases e : j = k
      · subst e; rw [List.getElem?_set_self (List.getElem?_eq_some_iff.1 hk).1, hk]
      · rw [List.getElem?_set_ne (Ne.symm e)]
    rw [this]; exact hst
  · rw [k1]
    rw [rowsS_flat] at m3
    obtain ⟨hxs, hfit⟩ := simStr m3
    have hH : Holds encStr w b 0 ss.toArray := Go.holds_of_block k3 (by rw [← hxs, ← k7, ← m1, Nat.mul_one])
    refine (Any.slices_Sort_string Ytcegdbniggdckaa.lays190 b 0 cap ss w hH (Array.getElem?_eq_some_iff.1 k3).1 hl).mono ?_
    rintro e w' ⟨rfl, n, os, rfl⟩
    obtain ⟨s1, s2⟩ := row_sorted hst hk (fun _ _ _ => trivial) k1 (ds := ss.mergeSort fun x y => decide (x ≤ y)) (by simp) (fun s hs => hfit s (List.mem_mergeSort.1 hs)) rfl
    exact ⟨.ret (.tup []), _, g, ⟨rfl, rfl⟩, ⟨_, rfl, by simp [SimV, SimVs]⟩, s1, s2⟩
theorem c_DeleteS (ss : List (List UInt8)) (k i : Nat) (st : St) (hk : st[k]? = some (.arr 9 1 (rowsS ss))) (hi : i < ss.length) : VCalls Try.prog TT 21 [.arr k ss.length, .int .i64 i, .int .i64 ((i + 1 : Nat) : Int)] st fun r st' =>
    r = .ret (.arr st.length (ss.length - 1)) ∧ st' = st.set k .gone ++ [.arr 9 1 (rowsS (ss.take i ++ ss.drop (i + 1)))] := by
  refine ⟨⟨_, Try.func21, by kernel_rfl, by kernel_rfl⟩, fun g w vals hst hv => ?_⟩
  simp only [SimVs, SimV] at hv
  obtain ⟨v, _, rfl, ⟨-, -, h3, -⟩, _, _, rfl, rfl, _, _, rfl, rfl, rfl⟩ := hv
  obtain ⟨m1, m2, xs, ⟨t1, t2, t3⟩, m3, m4⟩ := hst.ent k _ hk
  have hlen : (rowsS ss).length = ss.length := by simp [rowsS]
  rw [hlen] at t1 t2 t3
  have hvv := h3 t1
  subst hvv
  rcases t3 with ⟨h0, h0'⟩ | ⟨b, cap, cur, k1, k2, k3, k4, k5, k6, k7⟩
  · omega
  · rw [k1]
    rw [rowsS_flat] at m3
    obtain ⟨hxs, hfit⟩ := simStr m3
    have hH : Holds encStr w b 0 ss.toArray := Go.holds_of_block k3 (by rw [← hxs, ← k7, ← m1, Nat.mul_one])
    refine (Any.slices_Delete_string Ytcegdbniggdckaa.lays24 b 0 cap i (i + 1) ss w hH k4 (Nat.le_trans k5 (by decide)) (by omega) (by omega)).mono ?_
    rintro e w' ⟨rfl, n, rfl⟩
    have hll : (ss.take i ++ ss.drop (i + 1) ++ List.replicate (i + 1 - i) []).length = ss.length := by simp; omega
    obtain ⟨s1, s2⟩ := row_sorted (os := #[]) hst hk (fun _ _ _ => trivial) k1 (ds := ss.take i ++ ss.drop (i + 1) ++ List.replicate (i + 1 - i) []) hll (fun s hs => by
      simp only [List.mem_append, List.mem_replicate] at hs
      rcases hs with (hs | hs) | ⟨_, rfl⟩
      · exact hfit s (List.mem_of_mem_take hs)
      · exact hfit s (List.mem_of_mem_drop hs)
      · simp) rfl
    rw [Go.Sort.grow_empty] at s1 s2
    have hk' : (st.set k (.arr 9 1 (rowsS (ss.take i ++ ss.drop (i + 1) ++ List.replicate (i + 1 - i) []))))[k]? = some (.arr 9 1 (rowsS (ss.take i ++ ss.drop (i + 1) ++ List.replicate (i + 1 - i) []))) := List.getElem?_set_self (List.getElem?_eq_some_iff.1 hk).1
    obtain ⟨g', e1, e2, e3⟩ := row_shorter (m := ss.length - 1) s1 hk' (b := b) (cap := cap) (by rw [k1]; congr 1; simp only [rowsS, List.length_map, hll]) (by simp only [rowsS, List.length_map, hll]; omega)
    refine ⟨.ret (.arr st.length (ss.length - 1)), _, g', ⟨rfl, ?_⟩, ⟨_, rfl, ?_⟩, e1, s2.trans e2⟩
    · rw [List.set_set]
      congr 3
      simp only [rowsS, List.map_append]
      rw [List.take_append_of_le_length (by simp; omega), List.take_of_length_le (by simp; omega)]
    · rw [List.length_set] at e3
      have : ss.length - (i + 1 - i) = ss.length - 1 := by omega
      rw [this]; exact e3
end Go.Proofs.Ytcegdbniggdckaa.Gx

namespace Go.Proofs.Ytcegdbniggdckaa.Gx
open Go Go.Proofs.Ytcegdbniggdckaa.Gw
abbrev Str := List UInt8
def encS (l : List Str) : V := .lst 1 none (l.map fun s => [.str s])
end Go.Proofs.Ytcegdbniggdckaa.Gx

namespace Go.Proofs.Ytcegdbniggdckaa.Gx
open Go Go.Proofs.Ytcegdbniggdckaa.Gw
set_option linter.unusedSimpArgs false
set_option linter.unusedVariables false

def idxOf (s : Str) : Nat → List Str → Int
  | _, [] => -1
  | i, a :: r => bif decide (s = a) then (i : Int) else idxOf s (i + 1) r
theorem c_Index (st : St) (l : List Str) (s : Str) : VCalls Try.prog TT 27 [encS l, .str s] st fun r st' => r = .ret (.int .i64 (idxOf s 0 l)) ∧ st' = st := by
  refine vfun TT_ok (an := anL []) (L := [0, 1, 4, 5, 7, 8]) (rs := [.tmp 4]) Try.func27 rfl (by kernel_rfl) rfl Try.ntmps27 rfl rfl (Nat.le_refl _) fun hst ha hf => ?_
  simp only [encS, fitL, V.fit, List.length_map] at hf
  simp only [encS]
  simp only [gwL, gwB, gwD, gwE, gwS, gwTT, gwZ, gwN, gwC, Nat.reduceEqDiff, ↓reduceIte, Nat.reduceAdd, Nat.reduceLT, Nat.reduceLeDiff, Nat.reduceMul, List.length_map]
  refine vfor (σ := Nat) [0, 1, 4, 7, 8] (fun i => [(0, true, encS l), (1, true, .str s), (4, true, .int .i64 0), (7, true, .int .i64 l.length), (8, true, .int .i64 i)]) (fun i => st) (fun i => l.length - i) (fun i => i ≤ l.length ∧ idxOf s 0 l = idxOf s i (l.drop i)) 0 rfl TT_ok ⟨Nat.zero_le _, rfl⟩ rfl rfl ?_
  rintro i ⟨hi, hx⟩
  rw [hx]
  rcases at_or_end l i hi with ⟨rfl, hd⟩ | ⟨a, hlt, hget, hdr⟩
  · simp only [gwL, gwB, gwD, gwE, gwS, gwTT, gwZ, gwN, gwC, Nat.reduceEqDiff, ↓reduceIte, Nat.reduceAdd, Nat.reduceLT, Nat.reduceLeDiff, Nat.reduceMul, lt_no, hd, idxOf]
    exact gives_int rfl hst
  · simp only [encS]
    simp only [gwL, gwB, gwD, gwE, gwS, gwTT, gwZ, gwN, gwC, Nat.reduceEqDiff, ↓reduceIte, Nat.reduceAdd, Nat.reduceLT, Nat.reduceLeDiff, Nat.reduceMul, lt_yes hlt, hdr, idxOf, List.length_map, getD_map hget, Int.ofNat_lt.mpr hlt]
    refine iK_split (fun h => ?_) (fun h => ?_)
    · simp only [gwL, gwB, gwD, gwE, gwS, gwTT, gwZ, gwN, gwC, Nat.reduceEqDiff, ↓reduceIte, Nat.reduceAdd, Nat.reduceLT, Nat.reduceLeDiff, Nat.reduceMul, h]
      exact gives_int rfl hst
    · simp only [gwL, gwB, gwD, gwE, gwS, gwTT, gwZ, gwN, gwC, Nat.reduceEqDiff, ↓reduceIte, Nat.reduceAdd, Nat.reduceLT, Nat.reduceLeDiff, Nat.reduceMul, h, Env.keep]
      exact ⟨i + 1, by rw [next_i64 hlt hf.1.1], by omega, hlt, rfl⟩
theorem idxOf_ge (s : Str) : ∀ (l : List Str) (i : Nat), decide (0 ≤ idxOf s i l) = decide (s ∈ l)
  | [], i => by simp [idxOf]
  | a :: r, i => by
    have := idxOf_ge s r (i + 1)
    by_cases h : s = a
    · subst h; simp [idxOf]
    · simp only [idxOf, h, decide_false, cond_false, this, List.mem_cons, false_or]
theorem c_Contains (st : St) (l : List Str) (s : Str) : VCalls Try.prog TT 19 [encS l, .str s] st fun r st' => r = .ret (.bool (decide (s ∈ l))) ∧ st' = st := by
  refine vfun TT_ok (an := anL []) (L := [0, 1, 4]) (rs := [.tmp 4]) Try.func19 rfl (by kernel_rfl) rfl Try.ntmps19 rfl rfl (Nat.le_refl _) fun hst ha hf => ?_
  simp only [encS]
  simp only [gwL, gwB, gwD, gwE, gwS, gwTT, gwZ, gwN, gwC, Nat.reduceEqDiff, ↓reduceIte, Nat.reduceAdd, Nat.reduceLT, Nat.reduceLeDiff, Nat.reduceMul]
  refine (c_Index st l s).use (by simp only [encS]; exact wkL_refl _) fun _ => ?_
  simp only [gwL, gwB, gwD, gwE, gwS, gwTT, gwZ, gwN, gwC, Nat.reduceEqDiff, ↓reduceIte, Nat.reduceAdd, Nat.reduceLT, Nat.reduceLeDiff, Nat.reduceMul, idxOf_ge]
  exact gives_bool rfl hst
theorem rowsS_getD {l : List Str} {i : Nat} {a : Str} (h : l[i]? = some a) : (rowsS l).getD i [] = [.str a] := getD_map (f := fun s => [V.str s]) h
theorem rowsS_len (l : List Str) : (rowsS l).length = l.length := by simp [rowsS]
theorem c_IndexA (st : St) (k : Nat) (l : List Str) (s : Str) (hk : st[k]? = some (.arr 9 1 (rowsS l))) (hl : l.length ≤ 1000000000000000000) : VCalls Try.prog TT 27 [.arr k l.length, .str s] st fun r st' => r = .ret (.int .i64 (idxOf s 0 l)) ∧ st' = st := by
  refine vfun TT_ok (an := anL []) (L := [0, 1, 4, 5, 7, 8]) (rs := [.tmp 4]) Try.func27 rfl (by kernel_rfl) rfl Try.ntmps27 rfl rfl (Nat.le_refl _) fun hst ha hf => ?_
  simp only [gwL, gwB, gwD, gwE, gwS, gwTT, gwZ, gwN, gwC, Nat.reduceEqDiff, ↓reduceIte, Nat.reduceAdd, Nat.reduceLT, Nat.reduceLeDiff, Nat.reduceMul]
  refine vfor (σ := Nat) [0, 1, 4, 7, 8] (fun i => [(0, true, .arr k l.length), (1, true, .str s), (4, true, .int .i64 0), (7, true, .int .i64 l.length), (8, true, .int .i64 i)]) (fun i => st) (fun i => l.length - i) (fun i => i ≤ l.length ∧ idxOf s 0 l = idxOf s i (l.drop i)) 0 rfl TT_ok ⟨Nat.zero_le _, rfl⟩ rfl rfl ?_
  rintro i ⟨hi, hx⟩
  rw [hx]
  rcases at_or_end l i hi with ⟨rfl, hd⟩ | ⟨a, hlt, hget, hdr⟩
  · simp only [gwL, gwB, gwD, gwE, gwS, gwTT, gwZ, gwN, gwC, Nat.reduceEqDiff, ↓reduceIte, Nat.reduceAdd, Nat.reduceLT, Nat.reduceLeDiff, Nat.reduceMul, lt_no, hd, idxOf]
    exact gives_int rfl hst
  · simp only [gwL, gwB, gwD, gwE, gwS, gwTT, gwZ, gwN, gwC, Nat.reduceEqDiff, ↓reduceIte, Nat.reduceAdd, Nat.reduceLT, Nat.reduceLeDiff, Nat.reduceMul, lt_yes hlt, hdr, idxOf, hk, rowsS_getD hget, rowsS_len, Int.toNat_natCast, Int.ofNat_lt.mpr hlt]
    refine ⟨hlt, ?_⟩
    refine iK_split (fun h => ?_) (fun h => ?_)
    · simp only [gwL, gwB, gwD, gwE, gwS, gwTT, gwZ, gwN, gwC, Nat.reduceEqDiff, ↓reduceIte, Nat.reduceAdd, Nat.reduceLT, Nat.reduceLeDiff, Nat.reduceMul, h]
      exact gives_int rfl hst
    · simp only [gwL, gwB, gwD, gwE, gwS, gwTT, gwZ, gwN, gwC, Nat.reduceEqDiff, ↓reduceIte, Nat.reduceAdd, Nat.reduceLT, Nat.reduceLeDiff, Nat.reduceMul, h, Env.keep]
      exact ⟨i + 1, by rw [next_i64 hlt (by omega)], by omega, hlt, rfl⟩
theorem c_ContainsA (st : St) (k : Nat) (l : List Str) (s : Str) (hk : st[k]? = some (.arr 9 1 (rowsS l))) (hl : l.length ≤ 1000000000000000000) : VCalls Try.prog TT 19 [.arr k l.length, .str s] st fun r st' => r = .ret (.bool (decide (s ∈ l))) ∧ st' = st := by
  refine vfun TT_ok (an := anL []) (L := [0, 1, 4]) (rs := [.tmp 4]) Try.func19 rfl (by kernel_rfl) rfl Try.ntmps19 rfl rfl (Nat.le_refl _) fun hst ha hf => ?_
  simp only [gwL, gwB, gwD, gwE, gwS, gwTT, gwZ, gwN, gwC, Nat.reduceEqDiff, ↓reduceIte, Nat.reduceAdd, Nat.reduceLT, Nat.reduceLeDiff, Nat.reduceMul]
  refine (c_IndexA st k l s hk hl).use (wkL_refl _) fun _ => ?_
  simp only [gwL, gwB, gwD, gwE, gwS, gwTT, gwZ, gwN, gwC, Nat.reduceEqDiff, ↓reduceIte, Nat.reduceAdd, Nat.reduceLT, Nat.reduceLeDiff, Nat.reduceMul, idxOf_ge]
  exact gives_bool rfl hst
/-- The first of which it holds. -/
def idxF (p : Str → Bool) : Nat → List Str → Int
  | _, [] => -1
  | i, a :: r => bif p a then (i : Int) else idxF p (i + 1) r
theorem idxF_ge (p : Str → Bool) : ∀ (l : List Str) (i : Nat), decide (0 ≤ idxF p i l) = l.any p
  | [], i => by simp [idxF]
  | a :: r, i => by
    have := idxF_ge p r (i + 1)
    cases h : p a
    · simp only [idxF, h, cond_false, this, List.any_cons, Bool.false_or]
    · simp [idxF, h]
theorem c_IndexFunc (st : St) (l : List Str) (k : FuncId) (cap : List V) (p : Str → Bool) (h : ∀ a ∈ l, VCalls Try.prog TT k (.str a :: cap) st fun r st' => r = .ret (.bool (p a)) ∧ st' = st) :
    VCalls Try.prog TT 16 [encS l, .fn (.func k) cap] st fun r st' => r = .ret (.int .i64 (idxF p 0 l)) ∧ st' = st := by
  refine vfun TT_ok (an := anL []) (L := [0, 1, 4, 5, 7, 8]) (rs := [.tmp 4]) Try.func16 rfl (by kernel_rfl) rfl Try.ntmps16 rfl rfl (Nat.le_refl _) fun hst ha hf => ?_
  simp only [fitL, V.fit, encS, List.length_map] at hf
  simp only [encS]
  simp only [gwL, gwB, gwD, gwE, gwS, gwTT, gwZ, gwN, gwC, Nat.reduceEqDiff, ↓reduceIte, Nat.reduceAdd, Nat.reduceLT, Nat.reduceLeDiff, Nat.reduceMul, List.length_map]
  refine vfor (σ := Nat) [0, 1, 4, 7, 8] (fun i => [(0, true, encS l), (1, true, .fn (.func k) cap), (4, true, .int .i64 0), (7, true, .int .i64 l.length), (8, true, .int .i64 i)]) (fun i => st) (fun i => l.length - i) (fun i => i ≤ l.length ∧ idxF p 0 l = idxF p i (l.drop i)) 0 rfl TT_ok ⟨Nat.zero_le _, rfl⟩ rfl rfl ?_
  rintro i ⟨hi, hx⟩
  rw [hx]
  rcases at_or_end l i hi with ⟨rfl, hd⟩ | ⟨a, hlt, hget, hdr⟩
  · simp only [gwL, gwB, gwD, gwE, gwS, gwTT, gwZ, gwN, gwC, Nat.reduceEqDiff, ↓reduceIte, Nat.reduceAdd, Nat.reduceLT, Nat.reduceLeDiff, Nat.reduceMul, lt_no, hd, idxF]
    exact gives_int rfl hst
  · simp only [encS]
    simp only [gwL, gwB, gwD, gwE, gwS, gwTT, gwZ, gwN, gwC, Nat.reduceEqDiff, ↓reduceIte, Nat.reduceAdd, Nat.reduceLT, Nat.reduceLeDiff, Nat.reduceMul, lt_yes hlt, hdr, idxF, List.length_map, getD_map hget, Int.ofNat_lt.mpr hlt, Nat.le_refl]
    refine (h a (List.mem_of_getElem? hget)).use (wkL_refl _) fun _ => ?_
    simp only [gwL, gwB, gwD, gwE, gwS, gwTT, gwZ, gwN, gwC, Nat.reduceEqDiff, ↓reduceIte, Nat.reduceAdd, Nat.reduceLT, Nat.reduceLeDiff, Nat.reduceMul]
    refine iK_split (fun h1 => ?_) (fun h1 => ?_)
    · simp only [gwL, gwB, gwD, gwE, gwS, gwTT, gwZ, gwN, gwC, Nat.reduceEqDiff, ↓reduceIte, Nat.reduceAdd, Nat.reduceLT, Nat.reduceLeDiff, Nat.reduceMul, h1, cond_true]
      exact gives_int rfl hst
    · simp only [gwL, gwB, gwD, gwE, gwS, gwTT, gwZ, gwN, gwC, Nat.reduceEqDiff, ↓reduceIte, Nat.reduceAdd, Nat.reduceLT, Nat.reduceLeDiff, Nat.reduceMul, h1, cond_false, Env.keep]
      exact ⟨i + 1, by rw [next_i64 hlt hf.1.1], by omega, hlt, rfl⟩
theorem c_IndexFuncA (st : St) (o : Nat) (l : List Str) (ho : st[o]? = some (.arr 9 1 (rowsS l))) (hl : l.length ≤ 1000000000000000000) (k : FuncId) (cap : List V) (p : Str → Bool) (h : ∀ a ∈ l, VCalls Try.prog TT k (.str a :: cap) st fun r st' => r = .ret (.bool (p a)) ∧ st' = st) :
    VCalls Try.prog TT 16 [.arr o l.length, .fn (.func k) cap] st fun r st' => r = .ret (.int .i64 (idxF p 0 l)) ∧ st' = st := by
  refine vfun TT_ok (an := anL []) (L := [0, 1, 4, 5, 7, 8]) (rs := [.tmp 4]) Try.func16 rfl (by kernel_rfl) rfl Try.ntmps16 rfl rfl (Nat.le_refl _) fun hst ha hf => ?_
  simp only [gwL, gwB, gwD, gwE, gwS, gwTT, gwZ, gwN, gwC, Nat.reduceEqDiff, ↓reduceIte, Nat.reduceAdd, Nat.reduceLT, Nat.reduceLeDiff, Nat.reduceMul]
  refine vfor (σ := Nat) [0, 1, 4, 7, 8] (fun i => [(0, true, .arr o l.length), (1, true, .fn (.func k) cap), (4, true, .int .i64 0), (7, true, .int .i64 l.length), (8, true, .int .i64 i)]) (fun i => st) (fun i => l.length - i) (fun i => i ≤ l.length ∧ idxF p 0 l = idxF p i (l.drop i)) 0 rfl TT_ok ⟨Nat.zero_le _, rfl⟩ rfl rfl ?_
  rintro i ⟨hi, hx⟩
  rw [hx]
  rcases at_or_end l i hi with ⟨rfl, hd⟩ | ⟨a, hlt, hget, hdr⟩
  · simp only [gwL, gwB, gwD, gwE, gwS, gwTT, gwZ, gwN, gwC, Nat.reduceEqDiff, ↓reduceIte, Nat.reduceAdd, Nat.reduceLT, Nat.reduceLeDiff, Nat.reduceMul, lt_no, hd, idxF]
    exact gives_int rfl hst
  · simp only [gwL, gwB, gwD, gwE, gwS, gwTT, gwZ, gwN, gwC, Nat.reduceEqDiff, ↓reduceIte, Nat.reduceAdd, Nat.reduceLT, Nat.reduceLeDiff, Nat.reduceMul, lt_yes hlt, hdr, idxF, ho, rowsS_getD hget, rowsS_len, Int.toNat_natCast, Int.ofNat_lt.mpr hlt]
    refine ⟨hlt, ?_⟩
    refine (h a (List.mem_of_getElem? hget)).use (wkL_refl _) fun _ => ?_
    simp only [gwL, gwB, gwD, gwE, gwS, gwTT, gwZ, gwN, gwC, Nat.reduceEqDiff, ↓reduceIte, Nat.reduceAdd, Nat.reduceLT, Nat.reduceLeDiff, Nat.reduceMul]
    refine iK_split (fun h1 => ?_) (fun h1 => ?_)
    · simp only [gwL, gwB, gwD, gwE, gwS, gwTT, gwZ, gwN, gwC, Nat.reduceEqDiff, ↓reduceIte, Nat.reduceAdd, Nat.reduceLT, Nat.reduceLeDiff, Nat.reduceMul, h1, cond_true]
      exact gives_int rfl hst
    · simp only [gwL, gwB, gwD, gwE, gwS, gwTT, gwZ, gwN, gwC, Nat.reduceEqDiff, ↓reduceIte, Nat.reduceAdd, Nat.reduceLT, Nat.reduceLeDiff, Nat.reduceMul, h1, cond_false, Env.keep]
      exact ⟨i + 1, by rw [next_i64 hlt (by omega)], by omega, hlt, rfl⟩
theorem c_ContainsFunc (st : St) (l : List Str) (k : FuncId) (cap : List V) (p : Str → Bool) (h : ∀ a ∈ l, VCalls Try.prog TT k (.str a :: cap) st fun r st' => r = .ret (.bool (p a)) ∧ st' = st) :
    VCalls Try.prog TT 14 [encS l, .fn (.func k) cap] st fun r st' => r = .ret (.bool (l.any p)) ∧ st' = st := by
  refine vfun TT_ok (an := anL []) (L := [0, 1, 4]) (rs := [.tmp 4]) Try.func14 rfl (by kernel_rfl) rfl Try.ntmps14 rfl rfl (Nat.le_refl _) fun hst ha hf => ?_
  simp only [encS]
  simp only [gwL, gwB, gwD, gwE, gwS, gwTT, gwZ, gwN, gwC, Nat.reduceEqDiff, ↓reduceIte, Nat.reduceAdd, Nat.reduceLT, Nat.reduceLeDiff, Nat.reduceMul]
  refine (c_IndexFunc st l k cap p h).use (wkL_refl _) fun _ => ?_
  simp only [gwL, gwB, gwD, gwE, gwS, gwTT, gwZ, gwN, gwC, Nat.reduceEqDiff, ↓reduceIte, Nat.reduceAdd, Nat.reduceLT, Nat.reduceLeDiff, Nat.reduceMul, idxF_ge]
  exact gives_bool rfl hst
end Go.Proofs.Ytcegdbniggdckaa.Gx

namespace Go.Proofs.Ytcegdbniggdckaa.Gx
open Go Go.Proofs.Ytcegdbniggdckaa.Gw
set_option linter.unusedSimpArgs false
set_option linter.unusedVariables false

abbrev NM := List (Str × List Str)
/-- What a name needs. -/
def ndM (M : NM) (n : Str) : List Str := (asc n M).getD []
theorem wk_need (M : NM) (n : Str) : wk ((Option.map encS (asc n M)).getD .nils) (encS (ndM M n)) := by
  unfold ndM
  cases asc n M with
  | none => simp only [Option.map_none, Option.getD_none]; exact wk_nils 1
  | some l => exact wk_refl _
set_option maxHeartbeats 1000000 in
theorem c_Order1 (st : St) (a o : Nat) (M : NM) (m : Str) (h1 : st[a]? = some (.box [.map o])) (h2 : st[o]? = some (mapE V.str encS M)) :
    VCalls Try.prog TT 15 [.str m, .ptr a 0] st fun r st' => r = .ret (.bool !(asc m M).isSome) ∧ st' = st := by
  refine vfun TT_ok (an := anL []) (L := [0, 1, 3, 5]) (rs := [.tmp 3]) Try.func15 rfl (by kernel_rfl) rfl Try.ntmps15 rfl rfl (Nat.le_refl _) fun hst ha hf => ?_
  have hlk := fun (i : TI) (ok : Bool) (st : St) => look_mapE (ev := encS) (keyP_str TT) i ok m st M
  simp only [gwL, gwB, gwD, gwE, gwS, gwTT, gwZ, gwN, gwC, Nat.reduceEqDiff, ↓reduceIte, Nat.reduceAdd, Nat.reduceLT, Nat.reduceLeDiff, Nat.reduceMul, mapLook, mapPut, mapRange, mapLen, makeMapE, keyOk, keyKind, keyGood, lookR, zeroV, entV, entS, nextV, nextS, beq_self_eq_true, cond_true, cond_false, h1, h2, hlk]
  exact gives_bool rfl hst
set_option maxHeartbeats 1000000 in
theorem c_Order21 (st : St) (b k : Nat) (l : List Str) (m : Str) (h1 : st[b]? = some (.box [.arr k l.length])) (h2 : st[k]? = some (.arr 9 1 (rowsS l))) (hl : l.length ≤ 1000000000000000000) :
    VCalls Try.prog TT 18 [.str m, .ptr b 0] st fun r st' => r = .ret (.bool (decide (m ∈ l))) ∧ st' = st := by
  refine vfun TT_ok (an := anL []) (L := [0, 1, 3]) (rs := [.tmp 3]) Try.func18 rfl (by kernel_rfl) rfl Try.ntmps18 rfl rfl (Nat.le_refl _) fun hst ha hf => ?_
  simp only [gwL, gwB, gwD, gwE, gwS, gwTT, gwZ, gwN, gwC, Nat.reduceEqDiff, ↓reduceIte, Nat.reduceAdd, Nat.reduceLT, Nat.reduceLeDiff, Nat.reduceMul, h1]
  refine (c_ContainsA st k l m h2 hl).use (wkL_refl _) fun _ => ?_
  simp only [gwL, gwB, gwD, gwE, gwS, gwTT, gwZ, gwN, gwC, Nat.reduceEqDiff, ↓reduceIte, Nat.reduceAdd, Nat.reduceLT, Nat.reduceLeDiff, Nat.reduceMul]
  exact gives_bool rfl hst
set_option maxHeartbeats 1000000 in
theorem c_Order2 (st : St) (a o : Nat) (M : NM) (b k : Nat) (l : List Str) (n : Str) (h1 : st[a]? = some (.box [.map o])) (h2 : st[o]? = some (mapE V.str encS M)) (h3 : st[b]? = some (.box [.arr k l.length])) (h4 : st[k]? = some (.arr 9 1 (rowsS l))) (hl : l.length ≤ 1000000000000000000) :
    VCalls Try.prog TT 17 [.str n, .ptr a 0, .ptr b 0] st fun r st' => r = .ret (.bool !((ndM M n).any fun m => decide (m ∈ l))) ∧ st' = st := by
  refine vfun TT_ok (an := anL []) (L := [0, 1, 2, 4]) (rs := [.tmp 4]) Try.func17 rfl (by kernel_rfl) rfl Try.ntmps17 rfl rfl (Nat.le_refl _) fun hst ha hf => ?_
  have hlk := fun (i : TI) (ok : Bool) (st : St) => look_mapE (ev := encS) (keyP_str TT) i ok n st M
  simp only [gwL, gwB, gwD, gwE, gwS, gwTT, gwZ, gwN, gwC, Nat.reduceEqDiff, ↓reduceIte, Nat.reduceAdd, Nat.reduceLT, Nat.reduceLeDiff, Nat.reduceMul, mapLook, mapPut, mapRange, mapLen, makeMapE, keyOk, keyKind, keyGood, lookR, zeroV, entV, entS, nextV, nextS, beq_self_eq_true, cond_true, cond_false, h1, h2, hlk]
  refine (c_ContainsFunc st (ndM M n) 18 [.ptr b 0] (fun m => decide (m ∈ l)) fun m _ => c_Order21 st b k l m h3 h4 hl).use (wkL_cons (wk_need _ _) (wkL_refl _)) fun _ => ?_
  simp only [gwL, gwB, gwD, gwE, gwS, gwTT, gwZ, gwN, gwC, Nat.reduceEqDiff, ↓reduceIte, Nat.reduceAdd, Nat.reduceLT, Nat.reduceLeDiff, Nat.reduceMul]
  exact gives_bool rfl hst
end Go.Proofs.Ytcegdbniggdckaa.Gx
