/- Regions whose order is drawn: where what depends on the state is ordered, any order gives what the text's order gives. The rest of what computing a body needs, under few names. What was written and is written no more is a list: where a call has come to its end, arrays of its own, reached from what it gives, are frozen. Regions whose order is drawn, where two operations that are unordered don't go together: each order is looked at, and what both come to. -/
import Derived.Test.YtcdnooalfkbmgaaDoorZS4
import Derived.Orders

namespace Go.Proofs.YtcdnooalfkbmgaaDoor.Gw
open Go
set_option linter.unusedSimpArgs false

section
variable (P : Program) (T : Nat → TI) (an : Nat → Nat) (L : List Nat)

/-- What one operation does, as a function. Its class: 0: the state is nothing to it; 1: it looks at it; 2: it may turn it. -/
def dFun (r : Step) (gc : Bool) (cl : Nat) (st : St) (v : V) (st' : St) : Prop :=
  match r with
  | .pure v0 side => v = v0 ∧ st' = st ∧ (gc = true → side)
  | .mem v0 s0 side => v = v0 ∧ st' = s0 ∧ (gc = true ∨ s0 = st) ∧ (cl = 2 ∨ cl = 1 ∧ s0 = st) ∧ (gc = true → side)
  | .call f args => match cl with
    | 0 => st' = st ∧ (gc = true → ∀ s, VCalls P T f args s fun r s' => r = .ret v ∧ s' = s)
    | 1 => st' = st ∧ (gc = true → VCalls P T f args st fun r s' => r = .ret v ∧ s' = st)
    | _ => gc = true ∧ VCalls P T f args st fun r s' => r = .ret v ∧ s' = st'
  | _ => False

def dStep (r : Step) (gc : Bool) (cl : Nat) (st : St) (K : V → St → Prop) : Prop :=
  match r with
  | .pure v side => (gc = true → side) ∧ K v st
  | .mem v st' side => (gc = true ∨ st' = st) ∧ (cl = 2 ∨ cl = 1 ∧ st' = st) ∧ (gc = true → side) ∧ K v st'
  | .call f args => match cl with
    | 0 => ∃ v, (gc = true → ∀ s, VCalls P T f args s fun r s' => r = .ret v ∧ s' = s) ∧ Later (K v st)
    | 1 => ∃ v, (gc = true → VCalls P T f args st fun r s' => r = .ret v ∧ s' = st) ∧ Later (K v st)
    | _ => ∃ v st', (gc = true ∧ VCalls P T f args st fun r s' => r = .ret v ∧ s' = st') ∧ Later (K v st')
  | _ => False

variable {P T an L}
theorem dStep_fun {r : Step} {gc : Bool} {cl : Nat} {st : St} {K : V → St → Prop} (h : dStep P T r gc cl st K) : ∃ v st', dFun P T r gc cl st v st' ∧ K v st' := by
  unfold dStep at h
  split at h
  · exact ⟨_, _, ⟨rfl, rfl, h.1⟩, h.2⟩
  · exact ⟨_, _, ⟨rfl, rfl, h.1, h.2.1, h.2.2.1⟩, h.2.2.2⟩
  · match cl, h with
    | 0, h => obtain ⟨v, h1, h2⟩ := h; exact ⟨v, st, ⟨rfl, h1⟩, h2⟩
    | 1, h => obtain ⟨v, h1, h2⟩ := h; exact ⟨v, st, ⟨rfl, h1⟩, h2⟩
    | n + 2, h => obtain ⟨v, st', h1, h2⟩ := h; exact ⟨v, st', h1, h2⟩
  · exact h.elim
theorem dStep_of {r : Step} {gc : Bool} {cl : Nat} {st : St} {K : V → St → Prop} {v : V} {st' : St} (h : dFun P T r gc cl st v st') (k : K v st') : dStep P T r gc cl st K := by
  unfold dFun at h
  unfold dStep
  split at h
  · obtain ⟨rfl, rfl, h3⟩ := h; exact ⟨h3, k⟩
  · obtain ⟨rfl, rfl, h3, h4, h5⟩ := h; exact ⟨h3, h4, h5, k⟩
  · match cl, h with
    | 0, h => exact ⟨v, h.2, by rw [h.1] at k; exact k⟩
    | 1, h => exact ⟨v, h.2, by rw [h.1] at k; exact k⟩
    | n + 2, h => exact ⟨v, st', h, k⟩
  · exact h.elim
variable (P T an L)

def dOps (all : Array Oper) : List (Oper × Nat) → Env → St → (VExit → Env → St → Prop) → Prop
  | [], env, st, Q => Q .normal env st
  | (o, cl) :: os, env, st, Q => bindO (guardV all env o.guard) fun gc => okDstB env.N o.dst ∧
      dStep P T (stepOp T an o.dst o.op gc env st) gc cl st fun v st' => dOps all os (env.put L o.dst gc v) st' Q
variable {P T an L}

/-- Environments that tell the same. -/
def Env.same (e e' : Env) : Prop := e.N = e'.N ∧ ∀ t, e.look t = e'.look t

theorem put_look (e : Env) (d : Option Nat) (c : Bool) (v : V) (t : Nat) : (e.put L d c v).look t = if d = some t then some (c, v) else e.look t := by
  cases d with
  | none => simp [Env.put]
  | some d =>
    simp only [Env.put]
    split
    · simp only [Env.look, find]
      by_cases h : d = t
      · simp [h]
      · have ins_ne : ∀ (g : List (Nat × Bool × V)) (x : Bool × V), find (ins g d x) t = find g t := by
          intro g x
          induction g with
          | nil => simp [ins, find, h]
          | cons y g ih =>
            obtain ⟨k, y⟩ := y
            simp only [ins]
            split
            · rename_i hk; subst hk; simp [find, h]
            · simp only [find]; split <;> simp [ih]
        simp only [Option.some.injEq, h, if_false, ins_ne]
    · simp only [Env.look, find]
      by_cases h : d = t
      · simp [h]
      · simp [h]
theorem put_N (e : Env) (d : Option Nat) (c : Bool) (v : V) : (e.put L d c v).N = e.N := by
  cases d with
  | none => rfl
  | some d => simp only [Env.put]; split <;> rfl
theorem Env.same.put {e e' : Env} (h : e.same e') (d : Option Nat) (c : Bool) (v : V) : (e.put L d c v).same (e'.put L d c v) :=
  ⟨by rw [put_N, put_N]; exact h.1, fun t => by rw [put_look, put_look, h.2 t]⟩

theorem evO_congr {e e' : Env} {x : Operand} (h : ∀ t, x = .tmp t → e.look t = e'.look t) : evO e x = evO e' x := by
  cases x <;> simp only [evO]
  exact h _ rfl
theorem evG_congr {e e' : Env} {x : Operand} (gc : Bool) (h : ∀ t, x = .tmp t → e.look t = e'.look t) : evG e gc x = evG e' gc x := by
  unfold evG; rw [evO_congr h]

theorem stepOp_congr {dst : Option Tmp} {op : Op} {gc : Bool} {e e' : Env} {st : St} (h : ∀ x ∈ op.operands, ∀ t, x = .tmp t → e.look t = e'.look t) : stepOp T an dst op gc e st = stepOp T an dst op gc e' st := by
  have hv : ∀ x ∈ op.operands, evG e gc x = evG e' gc x := fun x hx => evG_congr gc (h x hx)
  have ho : ∀ x ∈ op.operands, evO e x = evO e' x := fun x hx => evO_congr (h x hx)
  cases op with
  | move x => have q := hv x (by simp [Op.operands]); simp only [stepOp, pureStep, pureOp, memStep, memOp, moreOp, q]
  | assign x => have q := hv x (by simp [Op.operands]); simp only [stepOp, pureStep, pureOp, memStep, memOp, moreOp, q]
  | box t x => have q := hv x (by simp [Op.operands]); simp only [stepOp, pureStep, pureOp, memStep, memOp, moreOp, q]
  | load t x => have q := hv x (by simp [Op.operands]); simp only [stepOp, pureStep, pureOp, memStep, memOp, moreOp, q]
  | nilCheck x => have q := hv x (by simp [Op.operands]); simp only [stepOp, pureStep, pureOp, memStep, memOp, moreOp, q]
  | convert a b x => have q := hv x (by simp [Op.operands]); simp only [stepOp, pureStep, pureOp, memStep, memOp, moreOp, q]
  | extract x i => have q := hv x (by simp [Op.operands]); simp only [stepOp, pureStep, pureOp, memStep, memOp, moreOp, q]
  | makeInterface t x => have q := hv x (by simp [Op.operands]); simp only [stepOp, pureStep, pureOp, memStep, memOp, moreOp, q]
  | fieldAddr s x f => have q := hv x (by simp [Op.operands]); simp only [stepOp, pureStep, pureOp, memStep, memOp, moreOp, q]
  | field s x f => have q := hv x (by simp [Op.operands]); simp only [stepOp, pureStep, pureOp, memStep, memOp, moreOp, q]
  | unOp u t x =>
    have q := hv x (by simp [Op.operands])
    cases u <;> simp only [stepOp, pureStep, pureOp, memStep, memOp, moreOp, q]
  | store t x y => have q := hv x (by simp [Op.operands]); have q2 := hv y (by simp [Op.operands]); simp only [stepOp, pureStep, pureOp, memStep, memOp, moreOp, q, q2]
  | binOp o t x y u => have q := hv x (by simp [Op.operands]); have q2 := hv y (by simp [Op.operands]); simp only [stepOp, pureStep, pureOp, memStep, memOp, moreOp, q, q2]
  | typeAssert x a b c => have q := hv x (by simp [Op.operands]); simp only [stepOp, pureStep, pureOp, memStep, memOp, moreOp, q]
  | indexAddr t x y => have q := hv x (by simp [Op.operands]); have q2 := hv y (by simp [Op.operands]); simp only [stepOp, pureStep, pureOp, memStep, memOp, moreOp, q, q2]
  | makeSlice t x y => have q := hv x (by simp [Op.operands]); have q2 := hv y (by simp [Op.operands]); simp only [stepOp, pureStep, pureOp, memStep, memOp, moreOp, q, q2]
  | index t x y => have q := hv x (by simp [Op.operands]); have q2 := hv y (by simp [Op.operands]); simp only [stepOp, pureStep, pureOp, memStep, memOp, moreOp, q, q2]
  | pick c a b =>
    have q := ho c (by simp [Op.operands]); have q2 := ho a (by simp [Op.operands]); have q3 := ho b (by simp [Op.operands])
    simp only [stepOp, pickV, q, q2, q3]
  | panic x => have q := hv x (by simp [Op.operands]); simp only [stepOp, q]
  | build t ps =>
    have q : ps.toList.map (fun p => (p.1, evG e gc p.2)) = ps.toList.map (fun p => (p.1, evG e' gc p.2)) := List.map_congr_left fun p hp => by rw [hv p.2 (by simp only [Op.operands, List.mem_toArray, List.mem_map]; exact ⟨p, hp, rfl⟩)]
    simp only [stepOp, pureStep, pureOp, memStep, memOp, moreOp, q]
  | buildSlice t n ps =>
    have q : ps.toList.reverse.map (fun p => (p.1, evG e gc p.2)) = ps.toList.reverse.map (fun p => (p.1, evG e' gc p.2)) := List.map_congr_left fun p hp => by rw [hv p.2 (by simp only [Op.operands, List.mem_toArray, List.mem_map]; exact ⟨p, List.mem_reverse.1 hp, rfl⟩)]
    simp only [stepOp, pureStep, pureOp, memStep, memOp, moreOp, q]
  | makeFunc f first c =>
    have q : c.toList.map (evG e gc) = c.toList.map (evG e' gc) := List.map_congr_left fun p hp => hv p (by simp only [Op.operands, Array.mem_append]; exact .inr (by simpa using hp))
    simp only [stepOp, pureStep, pureOp, memStep, memOp, moreOp, q]
  | slice t x l u m =>
    have q := hv x (by simp [Op.operands])
    have q2 : l.map (evG e gc) = l.map (evG e' gc) := by cases l with | none => rfl | some y => simp only [Option.map_some]; rw [hv y (by simp [Op.operands])]
    have q3 : u.map (evG e gc) = u.map (evG e' gc) := by cases u with | none => rfl | some y => simp only [Option.map_some]; rw [hv y (by simp [Op.operands])]
    cases m <;> simp only [stepOp, pureStep, pureOp, memStep, memOp, moreOp, q, q2, q3]
  | call c =>
    have q : c.args.toList.map (evG e gc) = c.args.toList.map (evG e' gc) := List.map_congr_left fun p hp => hv p (by simp only [Op.operands, Call.operands, Array.mem_append]; exact .inr (by simpa using hp))
    simp only [stepOp]
    cases hc : c.callee with
    | value f =>
      have q2 := hv f (by simp [Op.operands, Call.operands, hc])
      simp only [q, q2]
    | builtin b => simp only [pureStep, pureOp, memStep, memOp, moreOp, hc, q]
    | invoke _ _ => rfl
  | next it s => have q := hv it (by simp [Op.operands]); simp only [stepOp, q]
  | entry it => have q := hv it (by simp [Op.operands]); simp only [stepOp, pureStep, pureOp, memStep, memOp, moreOp, q]
  | range t x => have q := hv x (by simp [Op.operands]); simp only [stepOp, pureStep, pureOp, memStep, memOp, moreOp, q]
  | lookup t x y ok => have q := hv x (by simp [Op.operands]); have q2 := hv y (by simp [Op.operands]); simp only [stepOp, pureStep, pureOp, memStep, memOp, moreOp, q, q2]
  | mapUpdate t x y z => have q := hv x (by simp [Op.operands]); have q2 := hv y (by simp [Op.operands]); have q3 := hv z (by simp [Op.operands]); simp only [stepOp, pureStep, pureOp, memStep, memOp, moreOp, q, q2, q3]
  | insert t x y z => have q := hv x (by simp [Op.operands]); have q2 := hv y (by simp [Op.operands]); have q3 := hv z (by simp [Op.operands]); simp only [stepOp, pureStep, pureOp, memStep, memOp, moreOp, q, q2, q3]
  | makeMap t r => cases r <;> rfl
  | _ => rfl

/-- What the state is nothing to. -/
theorem stepOp_pure {dst : Option Tmp} {op : Op} {gc : Bool} {e : Env} {st : St} {v : V} {side : Prop} (h : stepOp T an dst op gc e st = .pure v side) (s : St) : stepOp T an dst op gc e s = .pure v side := by
  have key : ∀ st, pureStep T an dst op (evG e gc) st = .pure v side → ∀ s, pureStep T an dst op (evG e gc) s = .pure v side := by
    intro st h s
    unfold pureStep at h ⊢
    cases hp : pureOp T op (evG e gc) with
    | some r => rw [hp] at h; exact h
    | none =>
      rw [hp] at h
      simp only [memStep] at h
      split at h
      · cases h
      · split at h <;> cases h
  unfold stepOp at h ⊢
  cases op with
  | pick c a b => exact h
  | panic x => cases h
  | slice t x lo hi mx =>
    cases mx with
    | some m => exact key st h s
    | none =>
      cases h3 : an (dst.getD 0) == 3 with
      | false => simp only [h3, cond_false] at h ⊢; exact key st h s
      | true => simp only [h3, cond_true] at h; generalize sufE T (T t).kind (evG e gc x) (lo.map (evG e gc)) (hi.map (evG e gc)) st = r at h; cases r <;> cases h
  | buildSlice t n ps =>
    cases h3 : an (dst.getD 0) == 0 with
    | false => simp only [h3, cond_false] at h ⊢; exact key st h s
    | true =>
      simp only [h3, cond_true] at h ⊢
      rcases lit_still (T := T) (t := t) (n := n) (ps := ps) (ev := evG e gc) h3 st with hs | ⟨v0, hs⟩
      · rw [hs] at h; cases h
      · rw [(hs st).2] at h; rw [(hs s).2]; exact h
  | next it s =>
    cases s with
    | true => cases h
    | false => simp only [cond_false] at h; generalize nextV (evG e gc it) st = r at h; cases r <;> cases h
  | call c =>
    simp only at h ⊢
    cases hc : c.callee with
    | value f => rw [hc] at h; simp only at h ⊢; split at h <;> cases h
    | builtin b => rw [hc] at h; exact key st h s
    | invoke _ _ => rw [hc] at h; cases h
  | _ => exact key st h s
theorem stepOp_call {dst : Option Tmp} {op : Op} {gc : Bool} {e : Env} {st : St} {f : FuncId} {args : List V} (h : stepOp T an dst op gc e st = .call f args) (s : St) : stepOp T an dst op gc e s = .call f args := by
  have key : ∀ st, pureStep T an dst op (evG e gc) st ≠ .call f args := by
    intro st h
    unfold pureStep memStep at h
    split at h
    · cases h
    · split at h
      · cases h
      · split at h <;> cases h
  unfold stepOp at h ⊢
  cases op with
  | pick c a b => simp only at h; split at h <;> cases h
  | panic x => cases h
  | slice t x lo hi mx =>
    cases mx with
    | some m => exact absurd h (key st)
    | none =>
      cases h3 : an (dst.getD 0) == 3 with
      | false => simp only [h3, cond_false] at h; exact absurd h (key st)
      | true => simp only [h3, cond_true] at h; generalize sufE T (T t).kind (evG e gc x) (lo.map (evG e gc)) (hi.map (evG e gc)) st = r at h; cases r <;> cases h
  | buildSlice t n ps =>
    cases h3 : an (dst.getD 0) == 0 with
    | false => simp only [h3, cond_false] at h; exact absurd h (key st)
    | true =>
      simp only [h3, cond_true] at h
      rcases lit_still (T := T) (t := t) (n := n) (ps := ps) (ev := evG e gc) h3 st with hs | ⟨v0, hs⟩
      · rw [hs] at h; cases h
      · rw [(hs st).2] at h; cases h
  | next it s =>
    cases s with
    | true => cases h
    | false => simp only [cond_false] at h; generalize nextV (evG e gc it) st = r at h; cases r <;> cases h
  | call c =>
    simp only at h ⊢
    cases hc : c.callee with
    | value f => rw [hc] at h; exact h
    | builtin b => rw [hc] at h; exact absurd h (key st)
    | invoke _ _ => rw [hc] at h; cases h
  | _ => exact absurd h (key st)

/-- May two operations be done in either order? -/
def indep (all : Array Oper) (x y : Oper × Nat) : Bool :=
  x.1.apart all y.1 && !(x.2 == 2 && y.2 != 0) && !(y.2 == 2 && x.2 != 0) && Nat.blt x.2 3 && Nat.blt y.2 3

theorem look_put_ne {e : Env} {d : Option Nat} {c : Bool} {v : V} {t : Nat} (h : d ≠ some t) : (e.put L d c v).look t = e.look t := by rw [put_look, if_neg h]

theorem guardV_put {all : Array Oper} {e : Env} {o x : Oper} {c : Bool} {v : V} (h : ∀ d, x.dst = some d → d ∉ o.looksAt all) : guardV all (e.put L x.dst c v) o.guard = guardV all e o.guard := by
  unfold guardV
  cases hg : o.guard with
  | none => rfl
  | some p =>
    obtain ⟨j, w⟩ := p
    simp only
    cases hd : dstAt all j with
    | none => rfl
    | some d =>
      simp only
      rw [look_put_ne]
      intro hx
      refine h d hx (List.mem_append_right _ ?_)
      simp only [hg]
      simp only [dstAt] at hd
      rw [hd]; simp

theorem stepOp_put {all : Array Oper} {e : Env} {o x : Oper} {c : Bool} {v : V} {gc : Bool} {st : St} (h : ∀ d, x.dst = some d → d ∉ o.looksAt all) : stepOp T an o.dst o.op gc (e.put L x.dst c v) st = stepOp T an o.dst o.op gc e st := by
  refine stepOp_congr fun y hy t ht => look_put_ne fun hx => ?_
  subst ht
  exact h t hx (List.mem_append_left _ (List.mem_filterMap.2 ⟨.tmp t, by simpa using hy, rfl⟩))

theorem guardV_same {all : Array Oper} {e e' : Env} (h : e.same e') (g : Option (Nat × Bool)) : guardV all e g = guardV all e' g := by
  unfold guardV
  cases g with
  | none => rfl
  | some p =>
    obtain ⟨j, w⟩ := p
    simp only
    cases dstAt all j with
    | none => rfl
    | some d => simp only [h.2 d]
theorem stepOp_same {e e' : Env} (h : e.same e') {dst : Option Tmp} {op : Op} {gc : Bool} {st : St} : stepOp T an dst op gc e st = stepOp T an dst op gc e' st := stepOp_congr fun _ _ t _ => h.2 t

/-- A condition, of environments that tell the same. -/
def Qe (L : List Nat) (Q : VExit → Env → St → Prop) (e : VExit) (env : Env) (st : St) : Prop := ∃ env0, env0.same env ∧ EnvOK L env0 ∧ Q e env0 st

theorem dOps_same {all : Array Oper} {Q : VExit → Env → St → Prop} : ∀ (os : List (Oper × Nat)) (e e' : Env) (st : St), e.same e' → EnvOK L e → dOps P T an L all os e st Q → dOps P T an L all os e' st (Qe L Q)
  | [], e, e', st, h, hok, hd => ⟨e, h, hok, hd⟩
  | (o, cl) :: os, e, e', st, h, hok, hd => by
    simp only [dOps] at hd ⊢
    rw [← guardV_same h]
    unfold bindO at hd ⊢
    split at hd
    · rename_i gc hg
      obtain ⟨h1, h2⟩ := hd
      refine ⟨by rw [← h.1]; exact h1, ?_⟩
      rw [← stepOp_same h]
      obtain ⟨v, st', k1, k2⟩ := dStep_fun h2
      exact dStep_of k1 (dOps_same os _ _ _ (h.put _ _ _) (hok.put _ _ _) k2)
    · exact hd

theorem dOps_mono {all : Array Oper} {Q Q' : VExit → Env → St → Prop} (hq : ∀ e env st, Q e env st → Q' e env st) : ∀ (os : List (Oper × Nat)) (e : Env) (st : St), dOps P T an L all os e st Q → dOps P T an L all os e st Q'
  | [], e, st, h => hq _ _ _ h
  | (o, cl) :: os, e, st, h => by
    simp only [dOps] at h ⊢
    unfold bindO at h ⊢
    split at h
    · obtain ⟨h1, h2⟩ := h
      obtain ⟨v, st', k1, k2⟩ := dStep_fun h2
      exact ⟨h1, dStep_of k1 (dOps_mono hq os _ _ k2)⟩
    · exact h

/-- What stands behind others that it may go ahead of. -/
theorem dOps_front {all : Array Oper} {Q : VExit → Env → St → Prop} (i : Oper × Nat) (post : List (Oper × Nat)) : ∀ (pre : List (Oper × Nat)) (e : Env) (st : St), (∀ x ∈ pre, indep all x i = true) → EnvOK L e →
    dOps P T an L all (pre ++ i :: post) e st Q → dOps P T an L all (i :: (pre ++ post)) e st (Qe L Q)
  | [], e, st, _, hok, h => dOps_same _ e e st ⟨rfl, fun _ => rfl⟩ hok h
  | x :: pre, e, st, hi, hok, h => by
    have hxi := hi x (by simp)
    simp only [indep, Bool.and_eq_true, Bool.not_eq_true', Bool.and_eq_false_iff, beq_eq_false_iff_ne, bne_eq_false_iff_eq, Nat.blt_eq] at hxi
    obtain ⟨⟨⟨⟨hap, hc1⟩, hc2⟩, hlx⟩, hli⟩ := hxi
    obtain ⟨a1, a2, a3⟩ := Oper.apart_spec hap
    obtain ⟨ox, cx⟩ := x
    obtain ⟨oi, ci⟩ := i
    simp only at hc1 hc2 a1 a2 a3 hlx hli
    rw [List.cons_append] at h
    simp only [dOps] at h
    unfold bindO at h
    split at h
    case h_2 => exact h.elim
    rename_i gx hgx
    obtain ⟨hdx, h⟩ := h
    obtain ⟨vx, st1, fx, h⟩ := dStep_fun h
    have h := dOps_front (oi, ci) post pre _ st1 (fun y hy => hi y (by simp [hy])) (hok.put _ _ _) h
    simp only [dOps] at h
    unfold bindO at h
    split at h
    case h_2 => exact h.elim
    rename_i gi hgi
    obtain ⟨hdi, h⟩ := h
    obtain ⟨vi, st2, fi, h⟩ := dStep_fun h
    rw [guardV_put a1] at hgi
    rw [stepOp_put a1] at fi
    rw [put_N] at hdi
    have hsame : ((e.put L ox.dst gx vx).put L oi.dst gi vi).same ((e.put L oi.dst gi vi).put L ox.dst gx vx) := by
      refine ⟨by simp only [put_N], fun t => ?_⟩
      simp only [put_look]
      by_cases h1 : oi.dst = some t
      · by_cases h2 : ox.dst = some t
        · exact absurd h1 (a2 t h2)
        · simp [h1, h2]
      · by_cases h2 : ox.dst = some t <;> simp [h1, h2]
    have h := dOps_same _ _ _ _ hsame ((hok.put _ _ _).put _ _ _) h
    have hmono : ∀ e1 env1 s1, Qe L (Qe L Q) e1 env1 s1 → Qe L Q e1 env1 s1 := by
      rintro e1 env1 s1 ⟨e2, q1, q2, e3, q3, q4, q5⟩
      exact ⟨e3, ⟨q3.1.trans q1.1, fun t => (q3.2 t).trans (q1.2 t)⟩, q4, q5⟩
    -- the two steps, the other way round
    have swap : ∃ s1, dFun P T (stepOp T an oi.dst oi.op gi e st) gi ci st vi s1 ∧ dFun P T (stepOp T an ox.dst ox.op gx e s1) gx cx s1 vx st2 := by
      have still : ∀ {r : Step} {gc : Bool} {cl : Nat} {s s' : St} {v : V}, dFun P T r gc cl s v s' → cl ≠ 2 → cl < 3 → s' = s := by
        intro r gc cl s s' v hf h2 h3
        unfold dFun at hf
        split at hf
        · exact hf.2.1
        · obtain ⟨_, rfl, _, h4, _⟩ := hf
          rcases h4 with h4 | h4
          · exact absurd h4 h2
          · exact h4.2
        · match cl, hf, h2, h3 with
          | 0, hf, _, _ => exact hf.1
          | 1, hf, _, _ => exact hf.1
          | n + 2, _, h2, h3 => exact absurd (by omega : n + 2 = 2) h2
        · exact hf.elim
      have free : ∀ {dst : Option Tmp} {op : Op} {gc : Bool} {s s' : St} {v : V}, dFun P T (stepOp T an dst op gc e s) gc 0 s v s' → ∀ s2, dFun P T (stepOp T an dst op gc e s2) gc 0 s2 v s2 := by
        intro dst op gc s s' v hf s2
        generalize hr : stepOp T an dst op gc e s = r at hf
        unfold dFun at hf
        split at hf
        · rw [stepOp_pure hr s2]; exact ⟨hf.1, rfl, hf.2.2⟩
        · obtain ⟨_, _, _, h4, _⟩ := hf
          rcases h4 with h4 | ⟨h4, _⟩ <;> cases h4
        · rw [stepOp_call hr s2]; exact ⟨rfl, hf.2⟩
        · exact hf.elim
      by_cases hx2 : cx = 2
      · have hi0 : ci = 0 := hc1.resolve_left (fun h => h hx2)
        subst hi0
        have e1 := still fi (by decide) (by decide)
        subst e1
        exact ⟨st, free fi st, fx⟩
      · have e1 := still fx hx2 hlx
        subst e1
        by_cases hi2 : ci = 2
        · have hx0 : cx = 0 := hc2.resolve_left (fun h => h hi2)
          subst hx0
          exact ⟨st2, fi, free fx st2⟩
        · have e2 := still fi hi2 hli
          subst e2
          exact ⟨st2, fi, fx⟩
    obtain ⟨s1, k1, k2⟩ := swap
    simp only [dOps]
    rw [hgi]
    refine ⟨hdi, dStep_of k1 ?_⟩
    rw [List.cons_append]
    simp only [dOps]
    rw [guardV_put a3, hgx]
    refine ⟨by rw [put_N]; exact hdx, ?_⟩
    rw [stepOp_put a3]
    exact dStep_of k2 (dOps_mono hmono _ _ _ h)

variable {ds : List Deferred}

theorem step_did (hT : Tab P T) {g : G} {w : World} {st st' : St} {env : Env} {a : Act} (hst : SimSt T g st w) (henv : SimEnv g w env a) {o : Oper} {v : V} {side : Prop}
    (h : stepOp T an o.dst o.op true env st = .pure v side ∧ st' = st ∨ stepOp T an o.dst o.op true env st = .mem v st' side) (hs : side) : Did P T a.eval o g w v st' := by
  have hev : ∀ x, SimV g w (evG env true x) (a.eval x) := fun x => evG_sim henv rfl x
  have key : (pureStep T an o.dst o.op (evG env true) st = .pure v side ∧ st' = st ∨ pureStep T an o.dst o.op (evG env true) st = .mem v st' side) → Did P T a.eval o g w v st' := by
    intro h
    unfold pureStep at h
    cases hp : pureOp T o.op (evG env true) with
    | some r =>
      rw [hp] at h
      simp only [Step.pure.injEq, reduceCtorEq, or_false] at h
      obtain ⟨⟨h1, h2⟩, rfl⟩ := h
      refine Did.of_pure hst ?_
      obtain ⟨dst, op, ty, pos, aft, gd⟩ := o
      refine pureOp_sound hT hev (v := v) (side := side) ?_ hs
      rw [hp, ← h1, ← h2]
    | none =>
      rw [hp] at h
      simp only [memStep] at h
      cases hm : memOp T an o.dst o.op (evG env true) st with
      | some r =>
        rw [hm] at h
        simp only [Step.mem.injEq, reduceCtorEq, false_and, false_or] at h
        obtain ⟨h1, h2, h3⟩ := h
        exact memOp_sound hT hst hev (by rw [hm, ← h1, ← h2, ← h3]) hs
      | none =>
        rw [hm] at h
        simp only at h
        cases hq : moreOp T o.op (evG env true) st with
        | some r =>
          rw [hq] at h
          simp only [Step.mem.injEq, reduceCtorEq, false_and, false_or] at h
          obtain ⟨h1, h2, h3⟩ := h
          exact moreOp_sound hT hst hev (by rw [hq, ← h1, ← h2, ← h3]) hs
        | none => rw [hq] at h; simp at h
  cases hop : o.op with
  | pick c x y =>
    simp only [hop, stepOp] at h
    cases hp : pickV env true c x y with
    | none => rw [hp] at h; simp at h
    | some r =>
      rw [hp] at h
      simp only [Step.pure.injEq, reduceCtorEq, or_false] at h
      obtain ⟨⟨h1, h2⟩, rfl⟩ := h
      exact Did.of_pure hst (s_pick henv rfl (by rw [hp, ← h1, ← h2]) hs hop)
  | panic x => simp [hop, stepOp] at h
  | slice t x lo hi mx =>
    cases mx with
    | some m => simp only [hop, stepOp] at h; exact key (by rw [hop]; exact h)
    | none =>
      simp only [hop, stepOp] at h
      cases h3 : an (o.dst.getD 0) == 3 with
      | false => simp only [h3, cond_false] at h; exact key (by rw [hop]; exact h)
      | true =>
        simp only [h3, cond_true] at h
        cases hq : sufE T (T t).kind (evG env true x) (lo.map (evG env true)) (hi.map (evG env true)) st with
        | none => rw [hq] at h; simp [sufS] at h
        | some r =>
          rw [hq] at h
          simp only [sufS, Step.mem.injEq, reduceCtorEq, false_and, false_or] at h
          obtain ⟨h1, h2, h3⟩ := h
          exact s_suf hT hst hev hop (by rw [hq, ← h1, ← h2, ← h3]) hs
  | buildSlice t n ps =>
    simp only [hop, stepOp] at h
    cases h3 : an (o.dst.getD 0) == 0 with
    | false => simp only [h3, cond_false] at h; exact key (by rw [hop]; exact h)
    | true =>
      simp only [h3, cond_true] at h
      rcases lit_still (T := T) (t := t) (n := n) (ps := ps) (ev := evG env true) h3 st with hs' | ⟨v0, hs'⟩
      · rw [hs'] at h; simp [toPure] at h
      · rw [(hs' st).2] at h
        simp only [toPure, Step.pure.injEq, reduceCtorEq, or_false] at h
        obtain ⟨⟨h1, h2⟩, rfl⟩ := h
        exact memOp_sound hT hst hev (by rw [hop, ← h1]; exact (hs' _).1) trivial
  | next it s =>
    simp only [hop, stepOp] at h
    cases s with
    | true => simp at h
    | false => simp only [cond_false] at h; generalize nextV (evG env true it) st = r at h; cases r <;> simp [anyS] at h
  | call c =>
    simp only [hop, stepOp] at h
    cases hc : c.callee with
    | value f => rw [hc] at h; simp only at h; split at h <;> simp at h
    | builtin b => rw [hc] at h; exact key (by rw [hop]; exact h)
    | invoke _ _ => rw [hc] at h; simp at h
  | _ => all_goals (simp only [hop, stepOp] at h; exact key (by rw [hop]; exact h))

theorem dstep_sem (hT : Tab P T) {all : Array Oper} {g : G} {w : World} {st st' : St} {env : Env} {a : Act} (hst : SimSt T g st w) (henv : SimEnv g w env a) (hok : EnvOK L env) (hds : a.defers = ds) {o : Oper} {gc : Bool} {cl : Nat} {v : V}
    (hgc : guardV all env o.guard = some gc) (hd : okDstB env.N o.dst) (hf : dFun P T (stepOp T an o.dst o.op gc env st) gc cl st v st') {K : Act → World → Prop} {QQ : Exit → Act → World → Prop}
    (hK : ∀ g' w' a', Ext g w g' w' → SimSt T g' st' w' → SimEnv g' w' (env.put L o.dst gc v) a' → EnvOK L (env.put L o.dst gc v) → a'.defers = ds → K a' w') :
    if Region.wanted o (yielded all a.tmps) then o.wp P a w K QQ ∨ (o.asks P a w ∧ LetsOut QQ) else K (a.put o.dst undef) w := by
  have hw := guardV_wanted henv hgc
  have off : gc = false → st' = st → K (a.put o.dst undef) w := by
    intro h1 h2
    subst h1; subst h2
    exact hK g w _ (Ext.refl _ _) hst (henv.put o.dst hd (by simp)) (hok.put _ _ _) (by cases hh : o.dst <;> simpa [Act.put] using hds)
  have on : gc = true → Did P T a.eval o g w v st' → o.wp P a w K QQ := by
    intro hg hdid
    subst hg
    obtain ⟨r, val, w', g', h1, h2, h3, h4, h5⟩ := hdid
    have hp := (henv.ext h5).put (L := L) o.dst hd (c := true) (v := v) (val := val) (by simpa using h3)
    have := hK g' w' _ h5 h4 hp (hok.put _ _ _) (by cases hh : o.dst <;> simpa [Act.put] using hds)
    unfold Oper.wp Oper.upon
    rcases h2 with rfl | ⟨rfl, rfl⟩ <;> rw [h1] <;> exact this
  rw [hw]
  generalize hr : stepOp T an o.dst o.op gc env st = r at hf
  unfold dFun at hf
  split at hf
  · obtain ⟨rfl, rfl, hs⟩ := hf
    cases gc with
    | true => simp only [if_true]; exact .inl (on rfl (step_did hT hst henv (.inl ⟨hr, rfl⟩) (hs rfl)))
    | false => simp only [Bool.false_eq_true, if_false]; exact off rfl rfl
  · obtain ⟨rfl, rfl, h0, _, hs⟩ := hf
    cases gc with
    | true => simp only [if_true]; exact .inl (on rfl (step_did hT hst henv (.inr hr) (hs rfl)))
    | false => simp only [Bool.false_eq_true, if_false]; exact off rfl (h0.resolve_left (by simp))
  · rename_i k args
    have hcall : gc = true → VCalls P T k args st fun r s' => r = .ret v ∧ s' = st' := by
      intro hg
      match cl, hf with
      | 0, hf => have := hf.2 hg st; rw [hf.1]; exact this
      | 1, hf => have := hf.2 hg; rw [hf.1]; exact this
      | n + 2, hf => exact hf.2
    have hoff : gc = false → st' = st := by
      intro hg
      match cl, hf with
      | 0, hf => exact hf.1
      | 1, hf => exact hf.1
      | n + 2, hf => rw [hg] at hf; cases hf.1
    cases gc with
    | false => simp only [Bool.false_eq_true, if_false]; exact off rfl (hoff rfl)
    | true =>
      simp only [if_true]
      left
      have hev : ∀ x, SimV g w (evG env true x) (a.eval x) := fun x => evG_sim henv rfl x
      obtain ⟨⟨fn, e1, e2, e3⟩, hcall⟩ := hcall rfl
      have henter : ∃ vals : List Value, (execOp a.eval o).run P w = (callFunc k vals.toArray).run P w ∧ SimVs g w args vals := by
        unfold stepOp at hr
        split at hr
        · split at hr <;> cases hr
        · cases hr
        · generalize (an (o.dst.getD 0) == 3) = bb at hr
          cases bb with
          | false =>
            simp only [cond_false] at hr
            unfold pureStep memStep at hr
            split at hr
            · cases hr
            · split at hr
              · cases hr
              · split at hr <;> cases hr
          | true =>
            simp only [cond_true, sufS] at hr
            split at hr <;> cases hr
        · rename_i t n ps hop
          rw [hop] at hr
          exact absurd hr (lit_ncall (T := T) (an := an) (dst := o.dst) (gc := true) (env := env) (st := st) (t := t) (n := n) (ps := ps) k args)
        · rename_i it c hop
          cases c with
          | true => cases hr
          | false => simp only [cond_false] at hr; generalize nextV (evG env true it) st = r at hr; cases r <;> cases hr
        · rename_i c hop
          split at hr
          · rename_i f hcal
            split at hr
            case h_2 => cases hr
            rename_i k' cap hfe'
            cases hr
            have hfv := hev f
            rw [hfe'] at hfv
            simp only [SimV] at hfv
            obtain ⟨vs, hfe, hvs⟩ := hfv
            refine ⟨c.args.toList.map a.eval ++ vs, ?_, (evs_sim hev _).append hvs⟩
            have e : c.args.map a.eval ++ vs.toArray = (c.args.toList.map a.eval ++ vs).toArray := by apply Array.ext'; simp
            simp [execOp, hop, resolve, hcal, hfe, Deferred.ofValue, invoke, e]
          · unfold pureStep memStep at hr
            split at hr
            · cases hr
            · split at hr
              · cases hr
              · split at hr <;> cases hr
          · cases hr
        · unfold pureStep memStep at hr
          split at hr
          · cases hr
          · split at hr
            · cases hr
            · split at hr <;> cases hr
      obtain ⟨vals, q1, q2⟩ := henter
      have hcf : (callFunc k vals.toArray).run P w = .ok (.enter k vals.toArray) w := by
        have e2' : ¬ fn.body = none := by intro hb; rw [hb] at e2; simp at e2
        have e3' : ¬ fn.name = "runtime.NumGoroutine" := by simpa using e3
        simp [callFunc, e1, e2', e3']
      unfold Oper.wp Oper.upon
      rw [q1, hcf]
      refine (hcall g w vals hst q2).mono fun e w' ⟨r, s', g', ⟨k1, k1'⟩, k2, k3, k4⟩ => ?_
      subst k1; subst k1'
      obtain ⟨val, rfl, hv⟩ := k2
      have hp := (henv.ext k4).put (L := L) o.dst hd (c := true) (v := v) (val := val) (by simpa using hv)
      exact hK g' w' _ k4 k3 hp (hok.put _ _ _) (by cases hh : o.dst <;> simpa [Act.put] using hds)
  · exact hf.elim

def reach (all : Array Oper) : Nat → Nat → Nat → Bool
  | 0, _, _ => false
  | n + 1, x, i => match all[i]? with
    | none => false
    | some o => o.after.any fun e => Region.binds .any e && (e.on == x || reach all n x e.on)

def atC (all : Array Oper) (cls : List Nat) (i : Nat) : Oper × Nat := (all.getD i default, cls.getD i 0)

/-- Is what depends on the state ordered? -/
def drawB (all : Array Oper) (cls : List Nat) : Bool :=
  (List.range all.size).all fun j => (match all[j]? with | none => false | some o => o.after.all fun e => !Region.binds .any e || Nat.blt e.on j) &&
    (List.range j).all fun i => reach all 3 i j || indep all (atC all cls i) (atC all cls j)

structure Left (all : Array Oper) (listed : Array Bool) (rs : List Nat) : Prop where
  sorted : rs.Pairwise (· < ·)
  mem : ∀ i, i ∈ rs ↔ i < all.size ∧ listed.getD i true = false
  size : listed.size = all.size
  down : ∀ j o, all[j]? = some o → listed.getD j true = true → ∀ e ∈ o.after.toList, Region.binds .any e = true → listed.getD e.on false = true

theorem getD_of_size {listed : Array Bool} {i : Nat} (h : i < listed.size) (b c : Bool) : listed.getD i b = listed.getD i c := by
  simp [Array.getD_eq_getD_getElem?, h]

theorem reach_listed {all : Array Oper} {listed : Array Bool} {rs : List Nat} (hl : Left all listed rs) : ∀ (n x i : Nat) (o : Oper), all[i]? = some o → (∀ e ∈ o.after.toList, Region.binds .any e = true → listed.getD e.on false = true) → reach all n x i = true → listed.getD x false = true
  | 0, x, i, o, ho, ha, h => by cases h
  | n + 1, x, i, o, ho, ha, h => by
    simp only [reach, ho, ← Array.any_toList, List.any_eq_true, Bool.and_eq_true, Bool.or_eq_true, beq_iff_eq] at h
    obtain ⟨e, he, hb, h⟩ := h
    have h1 := ha e he hb
    rcases h with h | h
    · rw [← h]; exact h1
    · have hlt : e.on < listed.size := by
        rcases Nat.lt_or_ge e.on listed.size with h2 | h2
        · exact h2
        · simp [Array.getD_eq_getD_getElem?, h2] at h1
      have hlt2 : e.on < all.size := by rw [← hl.size]; exact hlt
      refine reach_listed hl n x e.on _ (Array.getElem?_eq_getElem hlt2) (hl.down e.on _ (Array.getElem?_eq_getElem hlt2) (by rw [getD_of_size hlt true false]; exact h1)) h

theorem draw_sound (hT : Tab P T) {all : Array Oper} {cls : List Nat} (hB : drawB all cls = true) {Q : VExit → Env → St → Prop} {g0 : G} {w0 : World} :
    ∀ (rs : List Nat) (listed : Array Bool) (env : Env) (st : St) (g : G) (w : World) (a : Act), Left all listed rs → Ext g0 w0 g w → SimSt T g st w → SimEnv g w env a → EnvOK L env → a.defers = ds →
      dOps P T an L all (rs.map (atC all cls)) env st (Qe L Q) → wpAny P .any all (Lift T L ds g0 w0 Q) rs.length listed a w := by
  intro rs
  generalize hn : rs.length = n
  induction n generalizing rs with
  | zero =>
    intro listed env st g w a hl hx hst henv hok hds h
    have : rs = [] := List.eq_nil_of_length_eq_zero hn
    subst this
    refine ⟨?_, ?_⟩
    · unfold Region.ready
      rw [List.filter_eq_nil_iff]
      intro i hi hr
      have hi' : i < all.size := by simpa using hi
      have : listed.getD i true = false := by simp only [Bool.and_eq_true, Bool.not_eq_true'] at hr; exact hr.1
      have := (hl.mem i).2 ⟨hi', this⟩
      simp at this
    · obtain ⟨env0, q1, q2, q3⟩ := h
      exact ⟨.normal, env0, st, g, q3, rfl, ⟨henv.1.trans q1.1.symm, fun t c v hv => henv.2 t c v (by rw [← q1.2 t]; exact hv)⟩, q2, hds, hst, hx⟩
  | succ n ih =>
    intro listed env st g w a hl hx hst henv hok hds h
    have hB' := hB
    simp only [drawB, List.all_eq_true, List.mem_range, Bool.and_eq_true] at hB'
    refine ⟨fun hr => ?_, fun i hi => ?_⟩
    · exfalso
      cases hrs : rs with
      | nil => rw [hrs] at hn; simp at hn
      | cons r rs' =>
        have hr1 := (hl.mem r).1 (by rw [hrs]; simp)
        have hin : r ∈ Region.ready .any all listed := by
          unfold Region.ready
          simp only [List.mem_filter, List.mem_range, Bool.and_eq_true, Bool.not_eq_true']
          refine ⟨hr1.1, hr1.2, ?_⟩
          rw [Array.getElem?_eq_getElem hr1.1]
          simp only [Option.map_some, Option.getD_some, ← Array.all_toList, List.all_eq_true, Bool.or_eq_true, Bool.not_eq_true']
          intro e he
          have h1 := (hB' r hr1.1).1
          rw [Array.getElem?_eq_getElem hr1.1] at h1
          simp only [← Array.all_toList, List.all_eq_true, Bool.or_eq_true, Bool.not_eq_true', Nat.blt_eq] at h1
          rcases h1 e he with h2 | h2
          · exact .inl h2
          · right
            have hlt : e.on < listed.size := by rw [hl.size]; omega
            rw [getD_of_size hlt false true]
            cases hc : listed.getD e.on true with
            | true => rfl
            | false =>
              have := (hl.mem e.on).2 ⟨by omega, hc⟩
              rw [hrs] at this
              rcases List.mem_cons.1 this with h3 | h3
              · omega
              · have hs := hl.sorted
                rw [hrs] at hs
                have := List.rel_of_pairwise_cons hs h3
                omega
        rw [hr] at hin
        simp at hin
    · unfold Region.ready at hi
      simp only [List.mem_filter, List.mem_range, Bool.and_eq_true, Bool.not_eq_true'] at hi
      obtain ⟨hi1, hi2, hi3⟩ := hi
      rw [Array.getElem?_eq_getElem hi1] at hi3
      simp only [Option.map_some, Option.getD_some, ← Array.all_toList, List.all_eq_true, Bool.or_eq_true, Bool.not_eq_true'] at hi3
      have hafter : ∀ e ∈ all[i].after.toList, Region.binds .any e = true → listed.getD e.on false = true := fun e he hb => (hi3 e he).resolve_left (by rw [hb]; simp)
      have himem := (hl.mem i).2 ⟨hi1, hi2⟩
      obtain ⟨pre, post, hsplit⟩ := List.append_of_mem himem
      have hs := hl.sorted
      rw [hsplit] at hs
      have hpre : ∀ x ∈ pre, x < i := fun x hx => (List.pairwise_append.1 hs).2.2 x hx i (by simp)
      have hind : ∀ x ∈ pre.map (atC all cls), indep all x (atC all cls i) = true := by
        intro y hy
        obtain ⟨x, hx, rfl⟩ := List.mem_map.1 hy
        have hxi := hpre x hx
        have := (hB' i hi1).2 x hxi
        simp only [Bool.or_eq_true] at this
        refine this.resolve_left fun hr => ?_
        have h1 := reach_listed hl 3 x i _ (Array.getElem?_eq_getElem hi1) hafter hr
        have h2 := (hl.mem x).1 (by rw [hsplit]; simp [hx])
        rw [getD_of_size (by rw [hl.size]; exact h2.1) false true, h2.2] at h1
        cases h1
      rw [hsplit, List.map_append, List.map_cons] at h
      have h := dOps_front (atC all cls i) (post.map (atC all cls)) (pre.map (atC all cls)) env st hind hok h
      have hat : (atC all cls i).1 = all[i] := by simp [atC, Array.getD_eq_getD_getElem?, hi1]
      rcases hai : atC all cls i with ⟨oi, ci⟩
      simp only [hai] at hat
      rw [hai] at h
      simp only [dOps] at h
      unfold bindO at h
      split at h
      case h_2 => exact h.elim
      rename_i gc hgc
      obtain ⟨hd, h⟩ := h
      obtain ⟨v, st', hf, h⟩ := dStep_fun h
      have hmono : ∀ e1 env1 s1, Qe L (Qe L Q) e1 env1 s1 → Qe L Q e1 env1 s1 := by
        rintro e1 env1 s1 ⟨e2, q1, q2, e3, q3, q4, q5⟩
        exact ⟨e3, ⟨q3.1.trans q1.1, fun t => (q3.2 t).trans (q1.2 t)⟩, q4, q5⟩
      have h := dOps_mono hmono _ _ _ h
      rw [← List.map_append] at h
      simp only [wpOp, Array.getElem?_eq_getElem hi1]
      rw [← hat]
      refine dstep_sem hT hst henv hok hds hgc hd hf fun g' w' a' k1 k2 k3 k4 k5 => ?_
      refine ih (pre ++ post) (by rw [hsplit] at hn; simp at hn ⊢; omega) _ _ st' g' w' a' ?_ (hx.trans k1) k2 k3 k4 k5 h
      have hlsz : i < listed.size := by rw [hl.size]; exact hi1
      have hget : ∀ j b, (listed.setIfInBounds i true).getD j b = if i = j then true else listed.getD j b := by
        intro j b
        simp only [Array.getD_eq_getD_getElem?, Array.getElem?_setIfInBounds]
        by_cases hj : i = j
        · subst hj; simp [hlsz]
        · simp [hj]
      refine ⟨?_, fun j => ?_, by simp [hl.size], fun j o ho hj e he hb => ?_⟩
      · have := hs
        exact this.sublist (by simp)
      · rw [hget]
        by_cases hj : i = j
        · subst hj
          simp only [if_true, reduceCtorEq, and_false, iff_false]
          intro hm
          rcases List.mem_append.1 hm with hm | hm
          · exact absurd (hpre i hm) (Nat.lt_irrefl i)
          · have := List.rel_of_pairwise_cons (List.pairwise_append.1 hs).2.1 hm
            exact absurd this (Nat.lt_irrefl i)
        · rw [if_neg hj, ← hl.mem j, hsplit]
          simp only [List.mem_append, List.mem_cons]
          constructor
          · rintro (h | h)
            · exact .inl h
            · exact .inr (.inr h)
          · rintro (h | h | h)
            · exact .inl h
            · exact absurd h.symm hj
            · exact .inr h
      · rw [hget] at hj ⊢
        have hlist : listed.getD e.on false = true := by
          by_cases hji : i = j
          · subst hji
            rw [Array.getElem?_eq_getElem hi1] at ho
            cases ho
            exact hafter e he hb
          · rw [if_neg hji] at hj
            exact hl.down j o ho hj e he hb
        split
        · rfl
        · exact hlist

def zipC : List Oper → List Nat → List (Oper × Nat)
  | [], _ => []
  | o :: os, [] => (o, 0) :: zipC os []
  | o :: os, c :: cs => (o, c) :: zipC os cs
theorem zipC_eq : ∀ (os : List Oper) (cs : List Nat), (List.range os.length).map (atC os.toArray cs) = zipC os cs
  | [], cs => rfl
  | o :: os, [] => by
    rw [List.length_cons, List.range_succ_eq_map, List.map_cons, List.map_map, zipC, ← zipC_eq os []]
    congr 1
    exact List.map_congr_left fun i _ => by simp [atC, Array.getD_eq_getD_getElem?]
  | o :: os, c :: cs => by
    rw [List.length_cons, List.range_succ_eq_map, List.map_cons, List.map_map, zipC, ← zipC_eq os cs]
    congr 1
    exact List.map_congr_left fun i _ => by simp [atC, Array.getD_eq_getD_getElem?]

theorem Ext.drew (g : G) (w : World) : Ext g w g w.drew :=
  ⟨rfl, rfl, rfl, Nat.le_refl _, Nat.le_refl _, fun _ _ => rfl, fun _ _ => Nat.le_refl _, fun _ _ _ => rfl, fun _ _ h => ⟨rfl, h⟩, fun _ _ _ h => ⟨fun _ _ => rfl, fun k' h' => by rw [h] at h'; cases h'; exact Nat.le_refl _⟩, fun _ _ => rfl⟩

/-- A region whose order is drawn. -/
theorem VC.draw (hT : Tab P T) (hm : P.follows .mixedOrders = true) {id : Nat} {os : List Oper} {cls : List Nat} {env : Env} {st : St} {Q : VExit → Env → St → Prop} (hB : drawB os.toArray cls = true)
    (h : dOps P T an L os.toArray (zipC os cls) ⟨env.N, env.g, []⟩ st Q) : VC P T L ds (.region id os.toArray true) env st Q := by
  intro g w a h1 h2 h3 h4
  refine wp_region_any hm ?_
  have hx := Ext.drew g w
  have henv : SimEnv g w ⟨env.N, env.g, []⟩ a := ⟨h2.1, fun t c v hv => h2.2 t c v (h3 t _ (by simpa [Env.look, find] using hv)).2⟩
  have hok : EnvOK L ⟨env.N, env.g, []⟩ := fun t x hx => ⟨(h3 t x hx).1, by simpa [Env.look, find] using hx⟩
  have h5 : SimSt T g st w.drew := h1.keep hx rfl (fun _ _ => rfl) fun b _ _ => ⟨rfl, rfl⟩
  have hd := dOps_same _ _ _ st ⟨rfl, fun _ => rfl⟩ hok h
  rw [← zipC_eq] at hd
  have hl : Left os.toArray (Array.replicate os.toArray.size false) (List.range os.length) := by
    refine ⟨List.pairwise_lt_range, fun i => ?_, by simp, fun j o ho hj => ?_⟩
    · simp only [List.mem_range, List.size_toArray, Array.getD_eq_getD_getElem?]
      constructor
      · intro hi; exact ⟨hi, by simp [Array.getElem?_replicate, hi]⟩
      · exact fun hi => hi.1
    · exfalso
      have hlt : j < os.length := by simpa using (Array.getElem?_eq_some_iff.1 ho).1
      simp [Array.getD_eq_getD_getElem?, Array.getElem?_replicate, hlt] at hj
  have := draw_sound hT hB (Q := Q) (g0 := g) (w0 := w) (List.range os.length) _ _ st g w.drew a hl hx h5 (henv.ext hx) hok h4 hd
  rw [List.length_range] at this
  simpa using this
end

section
variable (P : Program) (T : Nat → TI) (an : Nat → Nat) (L : List Nat) (ds : List Deferred)
def dK (all : Array Oper) (os : List Oper) (cs : List Nat) (env : Env) (st : St) (k : Kont) (Q : VExit → Env → St → Prop) : Prop := dOps P T an L all (zipC os cs) env st (qK P T an L ds k Q)
def eK (r : Step) (gc : Bool) (c : Nat) (dst : Option Tmp) (all : Array Oper) (os : List Oper) (cs : List Nat) (env : Env) (st : St) (k : Kont) (Q : VExit → Env → St → Prop) : Prop :=
  dStep P T r gc c st fun v st' => dOps P T an L all (zipC os cs) (env.put L dst gc v) st' (qK P T an L ds k Q)
def hK (g : Option Bool) (dst : Option Tmp) (op : Op) (c : Nat) (all : Array Oper) (os : List Oper) (cs : List Nat) (env : Env) (st : St) (k : Kont) (Q : VExit → Env → St → Prop) : Prop :=
  match g with
  | some gc => okDstB env.N dst ∧ eK P T an L ds (stepOp T an dst op gc env st) gc c dst all os cs env st k Q
  | none => False
variable {P T an L ds}
theorem vdraw (hT : Tab P T) (hm : P.follows .mixedOrders = true) {id : Nat} {os : List Oper} (cls : List Nat) {N : Nat} {g l : List (Nat × Bool × V)} {st : St} {k : Kont} {Q : VExit → Env → St → Prop} (hB : drawB os.toArray cls = true)
    (h : dK P T an L ds os.toArray os cls ⟨N, g, []⟩ st k Q) : VC P T L ds (.region id os.toArray true) ⟨N, g, l⟩ st (qK P T an L ds k Q) := VC.draw hT hm hB h
/-- A call that looks at no state. -/
theorem eK_free {f : FuncId} {args args' : List V} {gc : Bool} {dst : Option Tmp} {all : Array Oper} {os : List Oper} {cs : List Nat} {env : Env} {st : St} {k : Kont} {Q : VExit → Env → St → Prop} {v : V}
    (h : ∀ s, VCalls P T f args' s fun r s' => r = .ret v ∧ s' = s) (hw : wkL args args') (h2 : dK P T an L ds all os cs (env.put L dst gc v) st k Q) : eK P T an L ds (.call f args) gc 0 dst all os cs env st k Q := ⟨v, fun _ s => (h s).args hw, h2⟩
/-- A call that looks at the state, and leaves it. -/
theorem eK_still {f : FuncId} {args args' : List V} {gc : Bool} {dst : Option Tmp} {all : Array Oper} {os : List Oper} {cs : List Nat} {env : Env} {st : St} {k : Kont} {Q : VExit → Env → St → Prop} {v : V}
    (h : gc = true → VCalls P T f args' st fun r s' => r = .ret v ∧ s' = st) (hw : wkL args args') (h2 : dK P T an L ds all os cs (env.put L dst gc v) st k Q) : eK P T an L ds (.call f args) gc 1 dst all os cs env st k Q := ⟨v, fun hg => (h hg).args hw, h2⟩
/-- A call that turns the state. -/
theorem eK_loud {f : FuncId} {args args' : List V} {dst : Option Tmp} {all : Array Oper} {os : List Oper} {cs : List Nat} {env : Env} {st st' : St} {k : Kont} {Q : VExit → Env → St → Prop} {v : V}
    (h : VCalls P T f args' st fun r s' => r = .ret v ∧ s' = st') (hw : wkL args args') (h2 : dK P T an L ds all os cs (env.put L dst true v) st' k Q) : eK P T an L ds (.call f args) true 2 dst all os cs env st k Q := ⟨v, st', ⟨rfl, h.args hw⟩, h2⟩
end

theorem gwD :
    (∀ (P : Program) (T : Nat → TI) (an : Nat → Nat) (L : List Nat) (ds : List Deferred) (env : Env) (st : St) (k : Kont) (Q : VExit → Env → St → Prop) (all : Array Oper), dK P T an L ds all [] [] env st k Q = qK P T an L ds k Q .normal env st) ∧
    (∀ (P : Program) (T : Nat → TI) (an : Nat → Nat) (L : List Nat) (ds : List Deferred) (env : Env) (st : St) (k : Kont) (Q : VExit → Env → St → Prop) (all : Array Oper) (dst : Option Tmp) (op : Op) (ty : TypeId) (pos : String) (aft : Array Edge) (os : List Oper) (c : Nat) (cs : List Nat), dK P T an L ds all (⟨dst, op, ty, pos, aft, none⟩ :: os) (c :: cs) env st k Q = (okDstB env.N dst ∧ eK P T an L ds (stepOp T an dst op true env st) true c dst all os cs env st k Q)) ∧
    (∀ (P : Program) (T : Nat → TI) (an : Nat → Nat) (L : List Nat) (ds : List Deferred) (env : Env) (st : St) (k : Kont) (Q : VExit → Env → St → Prop) (all : Array Oper) (dst : Option Tmp) (op : Op) (ty : TypeId) (pos : String) (aft : Array Edge) (gd : Nat × Bool) (os : List Oper) (c : Nat) (cs : List Nat), dK P T an L ds all (⟨dst, op, ty, pos, aft, some gd⟩ :: os) (c :: cs) env st k Q = hK P T an L ds (guardV all env (some gd)) dst op c all os cs env st k Q) ∧
    (∀ (P : Program) (T : Nat → TI) (an : Nat → Nat) (L : List Nat) (ds : List Deferred) (env : Env) (st : St) (k : Kont) (Q : VExit → Env → St → Prop) (all : Array Oper) (dst : Option Tmp) (op : Op) (os : List Oper) (gc : Bool) (c : Nat) (cs : List Nat), hK P T an L ds (some gc) dst op c all os cs env st k Q = (okDstB env.N dst ∧ eK P T an L ds (stepOp T an dst op gc env st) gc c dst all os cs env st k Q)) ∧
    (∀ (P : Program) (T : Nat → TI) (an : Nat → Nat) (L : List Nat) (ds : List Deferred) (env : Env) (st : St) (k : Kont) (Q : VExit → Env → St → Prop) (all : Array Oper) (dst : Option Tmp) (os : List Oper) (gc : Bool) (c : Nat) (cs : List Nat) (v : V) (side : Prop), eK P T an L ds (.pure v side) gc c dst all os cs env st k Q = ((gc = true → side) ∧ dK P T an L ds all os cs (env.put L dst gc v) st k Q)) ∧
    (∀ (P : Program) (T : Nat → TI) (an : Nat → Nat) (L : List Nat) (ds : List Deferred) (env : Env) (st : St) (k : Kont) (Q : VExit → Env → St → Prop) (all : Array Oper) (dst : Option Tmp) (os : List Oper) (gc : Bool) (c : Nat) (cs : List Nat) (v : V) (st' : St) (side : Prop), eK P T an L ds (.mem v st' side) gc c dst all os cs env st k Q = ((gc = true ∨ st' = st) ∧ (c = 2 ∨ c = 1 ∧ st' = st) ∧ (gc = true → side) ∧ dK P T an L ds all os cs (env.put L dst gc v) st' k Q)) := by
  and_intros <;> intros <;> first
    | rfl
    | (simp only [dK, hK, zipC, dOps, bindO]; generalize guardV _ _ _ = r; cases r <;> rfl)
end Go.Proofs.YtcdnooalfkbmgaaDoor.Gw

namespace Go.Proofs.YtcdnooalfkbmgaaDoor.Gw
open Go

/-- How things are made, by the temporary: told as a list. -/
def anL : List (Nat × Nat) → Nat → Nat
  | [], _ => 0
  | (k, m) :: r, t => if k = t then m else anL r t

theorem not_and_or_l (a b : Bool) : ((!(a && b)) || a) = true → True := fun _ => trivial

theorem gwZ :
    ((false = true) = False) ∧ ((true = false) = False) ∧ ((!true) = false) ∧ ((!false) = true) ∧
    (∀ b : Bool, (false || b) = b) ∧ (∀ b : Bool, (true || b) = true) ∧ (∀ b : Bool, (b || false) = b) ∧ (∀ b : Bool, (b || true) = true) ∧
    (∀ b : Bool, (false && b) = false) ∧ (∀ b : Bool, (true && b) = b) ∧ (∀ b : Bool, (b && false) = false) ∧ (∀ b : Bool, (b && true) = b) ∧
    (∀ {α : Type} (a b : α), (bif true then a else b) = a) ∧ (∀ {α : Type} (a b : α), (bif false then a else b) = b) ∧
    (∀ a : Bool, ((!a) || a) = true) ∧ (∀ a b : Bool, ((!(a && b)) || a) = true) ∧ (∀ a b : Bool, ((!(a && b)) || b) = true) ∧
    (∀ p : Prop, (True ∧ p) = p) ∧ (∀ p : Prop, (p ∧ True) = p) ∧ (∀ p : Prop, (False ∧ p) = False) ∧ (∀ p : Prop, (p ∧ False) = False) ∧
    (∀ p : Prop, (True ∨ p) = True) ∧ (∀ p : Prop, (p ∨ True) = True) ∧ (∀ p : Prop, (False ∨ p) = p) ∧ (∀ p : Prop, (p ∨ False) = p) ∧
    (∀ p : Prop, (True → p) = p) ∧ (∀ p : Prop, (False → p) = True) ∧ (∀ p : Prop, (p → True) = True) ∧
    (∀ {α : Type} (a : α), (a = a) = True) ∧
    (∀ {α : Type} (l : List α), l.toArray.toList = l) ∧
    (∀ {α β : Type} (f : α → β) (a : α), Option.map f (some a) = some (f a)) ∧ (∀ {α β : Type} (f : α → β), Option.map f none = none) ∧
    (∀ {α : Type} (a b : α), (some a).getD b = a) ∧ (∀ {α : Type} (b : α), (none : Option α).getD b = b) ∧
    (∀ n : Nat, (n : Int).toNat = n) ∧
    (∀ n : Nat, (0 ≤ (n : Int)) = True) ∧
    (∀ a b : Bool, (bif a then true else b) = (a || b)) ∧ (∀ a b : Bool, (bif a then b else false) = (a && b)) ∧
    (∀ b : Bool, (b = false → (!b) = true) = True) ∧ (∀ p : Prop, (p → p) = True) ∧ (∀ a b : Bool, ((a || b) = false → (!a) = true) = True) ∧
    (∀ (t : Nat), anL [] t = 0) ∧ (∀ (k m t : Nat) (r : List (Nat × Nat)), anL ((k, m) :: r) t = if k = t then m else anL r t) := by
  and_intros <;> first | decide | (intros; rfl) | simp

/-- A long literal: its rows are told. -/
theorem rK_lit {P : Program} {T : Nat → TI} {an : Nat → Nat} {L : List Nat} {ds : List Deferred} {e : TypeId} {sz n mode : Nat} {st : St} {i : TI} {m : Nat} {parts : List (Nat × V)} {gc b : Bool} {dst : Option Tmp} {all : Array Oper} {os : List Oper} {env : Env} {st0 : St} {k : Kont} {Q : VExit → Env → St → Prop}
    (rows : List (List V)) (h : litR i m parts = some rows) (h2 : rK P T an L ds (litM e sz n mode st (some rows)) gc b dst all os env st0 k Q) : rK P T an L ds (litM e sz n mode st (litR i m parts)) gc b dst all os env st0 k Q := by rw [h]; exact h2

/-- A loop, by a state of one's own. -/
theorem vfor {P : Program} {T : Nat → TI} {an : Nat → Nat} {L : List Nat} {ds : List Deferred} {σ : Type} (ks : List Nat) (e : σ → List (Nat × Bool × V)) (s : σ → St) (m : σ → Nat) (I : σ → Prop) (x0 : σ) (hks : subN ks L = true) {N : Nat} {g l : List (Nat × Bool × V)} {c : Code} {st : St} {k0 : Kont} {Q : VExit → Env → St → Prop}
    (hT : Tab P T) (h0 : I x0) (he : (Env.keep ⟨N, g, l⟩ ks) = e x0) (hs : st = s x0)
    (step : ∀ x, I x → cK P T an L ds c ⟨N, e x, []⟩ (s x) .done (vSeq (fun env' st' => env'.N = N ∧ ∃ y, env'.keep ks = e y ∧ st' = s y ∧ m y < m x ∧ I y) (qK P T an L ds k0 Q))) :
    VC P T L ds (.loop c) ⟨N, g, l⟩ st (qK P T an L ds k0 Q) := by
  refine VC.loop ks hks (fun n env st => ∃ x, I x ∧ n = m x ∧ env = ⟨N, e x, []⟩ ∧ st = s x) (m x0) ⟨x0, h0, rfl, by rw [← he], hs⟩ ?_
  rintro n env st ⟨x, hx, rfl, rfl, rfl⟩
  refine (vCode_sound hT c _ _ _ (step x hx)).mono ?_
  intro e1 env1 st1 h
  cases e1 with
  | normal =>
    obtain ⟨hN, y, h1, h2, h3, h4⟩ := h
    exact ⟨m y, h3, y, h4, rfl, by rw [hN, h1], h2⟩
  | _ => exact h

def wkEp (p : Nat → Prop) : List (Nat × Bool × V) → List (Nat × Bool × V) → Prop
  | [], l => l = []
  | (k, c, v) :: r, l => ∃ v' r', l = (k, c, v') :: r' ∧ wkp p v v' ∧ wkEp p r r'
abbrev wkE := wkEp NoTok
def ltE (n : Nat) : List (Nat × Bool × V) → Prop
  | [] => True
  | (_, _, v) :: r => v.lt n ∧ ltE n r
section
variable {p : Nat → Prop}
theorem wkE_nil : wkEp p [] [] := rfl
theorem wkE_cons {k : Nat} {c : Bool} {v v' : V} {r r' : List (Nat × Bool × V)} (h : wkp p v v') (h2 : wkEp p r r') : wkEp p ((k, c, v) :: r) ((k, c, v') :: r') := ⟨v', r', rfl, h, h2⟩
theorem wkE_refl : ∀ l : List (Nat × Bool × V), wkEp p l l
  | [] => rfl
  | (_, _, v) :: r => wkE_cons (wk_refl v) (wkE_refl r)
theorem wkEp.find : ∀ {l l' : List (Nat × Bool × V)} {t : Nat} {c : Bool} {v' : V}, wkEp p l l' → Gw.find l' t = some (c, v') → ∃ v, Gw.find l t = some (c, v) ∧ wkp p v v'
  | [], _, t, c, v', h, hf => by simp only [wkEp] at h; subst h; simp [Gw.find] at hf
  | (k, c0, v) :: r, _, t, c, v', h, hf => by
    obtain ⟨v1, r1, rfl, h1, h2⟩ := h
    simp only [Gw.find] at hf ⊢
    by_cases e : k = t
    · rw [if_pos e] at hf ⊢; cases hf; exact ⟨v, rfl, h1⟩
    · rw [if_neg e] at hf ⊢; exact h2.find hf
end
theorem ltE.find : ∀ {l : List (Nat × Bool × V)} {n t : Nat} {c : Bool} {v : V}, ltE n l → Gw.find l t = some (c, v) → v.lt n
  | [], n, t, c, v, h, hf => by simp [Gw.find] at hf
  | (k, c0, v0) :: r, n, t, c, v, h, hf => by
    simp only [Gw.find] at hf
    by_cases e : k = t
    · rw [if_pos e] at hf; cases hf; exact h.1
    · rw [if_neg e] at hf; exact h.2.find hf

/-- A round's end: what the next one knows, what the round made for itself being forgotten. -/
def Next (ks : List Nat) (n0 : Nat) (e : List (Nat × Bool × V)) (s : St) (env' : Env) (st' : St) : Prop :=
  wkE (env'.keep ks) e ∧ ∃ su ex, st' = su ++ ex ∧ wkSt su s ∧ ltE s.length e ∧ St.ok s ∧ n0 ≤ s.length

/-- The places of so many new tips. -/
def Tips (n m : Nat) : Nat → Prop := fun k => n ≤ k ∧ k < n + m
def tips (es : List TypeId) : St := es.map fun e => .tip e 0

theorem SimSt.pushTips {T : Nat → TI} : ∀ (es : List TypeId) {g : G} {w : World} {st : St}, SimSt T g st w → ∃ g', Ext g w g' w ∧ SimSt T g' (st ++ tips es) w ∧ ∀ k, Tips st.length es.length k → k < g'.n ∧ g'.len k = 0 ∧ g'.tv k = .slice none 0 0
  | [], g, w, st, h => ⟨g, Ext.refl _ _, by simpa [tips] using h, fun k hk => by simp [Tips] at hk; omega⟩
  | e :: es, g, w, st, h => by
    have hn := h.n
    have x1 := Ext.push g w 0 (.slice none 0 0) 0
    have h1 : SimSt T (g.push 0 (.slice none 0 0) 0) (st ++ [.tip e 0]) w := h.push ⟨0, [], by simp [G.push], by simp, .inl ⟨rfl, by simp [G.push]⟩⟩ (fun c hc => by simp [blkOf, G.push, Value.ownBlock] at hc)
    obtain ⟨g', x2, h2, h3⟩ := SimSt.pushTips es h1
    refine ⟨g', x1.trans x2, by simpa [tips] using h2, fun k hk => ?_⟩
    by_cases hk0 : k = st.length
    · subst hk0
      have hlt : st.length < (g.push 0 (.slice none 0 0) 0).n := by simp [G.push, hn]
      have q : g'.n = (st ++ [Ent.tip e 0] ++ tips es).length := h2.n
      have e2 := h2.ent st.length (.tip e 0) (by simp)
      obtain ⟨_, xs, t1, t2, t3⟩ := e2
      refine ⟨by rw [q]; simp, t1, ?_⟩
      have hl0 : (g.push 0 (.slice none 0 0) 0).len st.length = 0 := by simp [G.push, hn]
      rw [x2.tv st.length hlt (by rw [t1, hl0])]
      simp [G.push, hn]
    · exact h3 k (by simp [Tips] at hk ⊢; omega)

/-- A loop, by a state of one's own; what a round makes for itself is forgotten at its end. At its beginning nil slices may become tips. -/
theorem vforT {P : Program} {T : Nat → TI} {an : Nat → Nat} {L : List Nat} {ds : List Deferred} {σ : Type} (es : List TypeId) (ks : List Nat) (e : σ → List (Nat × Bool × V)) (s : σ → St) (m : σ → Nat) (I : σ → Prop) (x0 : σ) (hks : subN ks L = true) {N : Nat} {g l : List (Nat × Bool × V)} {c : Code} {st : St} {k0 : Kont} {Q : VExit → Env → St → Prop}
    (hT : Tab P T) (h0 : I x0) (he : wkEp (Tips st.length es.length) (Env.keep ⟨N, g, l⟩ ks) (e x0)) (hs : ∃ s0, wkStp (Tips st.length es.length) st s0 ∧ s x0 = s0 ++ tips es)
    (step : ∀ x, I x → cK P T an L ds c ⟨N, e x, []⟩ (s x) .done (vSeq (fun env' st' => env'.N = N ∧ ∃ y, Next ks st.length (e y) (s y) env' st' ∧ m y < m x ∧ I y) (qK P T an L ds k0 Q))) :
    VC P T L ds (.loop c) ⟨N, g, l⟩ st (qK P T an L ds k0 Q) := by
  intro g0 w0 a0 h1 h2 h3 h4
  have hsub : ∀ {p : Nat → Prop} {x : σ} {g1 : G} {w1 : World} {a1 : Act} {env1 : Env}, Nil0 g1 p → env1.N = N → wkEp p (env1.keep ks) (e x) → SimEnv g1 w1 env1 a1 → SimEnv g1 w1 ⟨N, e x, []⟩ a1 ∧ EnvOK L ⟨N, e x, []⟩ := by
    intro p x g1 w1 a1 env1 hp hN hw hsim
    have hk := hsim.keep ks
    have hok := EnvOK.keep hks env1
    refine ⟨⟨by rw [← hN]; exact hk.1, fun t c v hv => ?_⟩, fun t y hy => ?_⟩
    · simp only [Env.look, Gw.find] at hv
      obtain ⟨v0, f1, f2⟩ := hw.find hv
      have := hk.2 t c v0 (by simpa [Env.look, Gw.find] using f1)
      cases c with
      | true => simp only [if_true] at this ⊢; exact f2.sim hp this
      | false => simpa using this
    · obtain ⟨c, v⟩ := y
      obtain ⟨v0, f1, f2⟩ := hw.find hy
      exact ⟨(hok t _ f1).1, by simpa [Env.look, Gw.find] using hy⟩
  obtain ⟨gt, xt, ht1, ht2⟩ := h1.pushTips es
  have hp : Nil0 gt (Tips st.length es.length) := ht2
  obtain ⟨s0, hs1, hs2⟩ := hs
  have h1' : SimSt T gt (s x0) w0 := by rw [hs2]; exact ht1.wkp hp (hs1.append (wkSt_refl _))
  obtain ⟨i1, i2⟩ := hsub (x := x0) hp rfl he (h2.ext xt)
  refine wp_loop_ghost (fun k a' w' => ∃ x g', I x ∧ k = m x ∧ SimSt T g' (s x) w' ∧ SimEnv g' w' ⟨N, e x, []⟩ a' ∧ EnvOK L ⟨N, e x, []⟩ ∧ a'.defers = ds ∧ Ext g0 w0 g' w') (m x0) ⟨x0, gt, h0, rfl, h1', i1, i2, h4, xt⟩ ?_
  rintro n a' w' ⟨x, g', j1, rfl, j2, j3, hok, j4, j5⟩
  refine wp_mono (vCode_sound hT c _ _ _ (step x j1) g' w' a' j2 j3 hok j4) ?_
  intro e2 a2 w2 ⟨ve, env2, st2, g2, k1, k2, k3, k4, k5, k6, k7⟩
  cases ve with
  | normal =>
    simp only [SimExit] at k2; subst k2
    obtain ⟨hN, y, ⟨n1, su, ex, rfl, n2, n3, n4, n5⟩, n6, n7⟩ := k1
    have k6 := (k6.wk (n2.append (wkSt_refl ex))).drop n4
    obtain ⟨p1, p2⟩ := hsub (x := y) (nil0_no g2) hN n1 k3
    refine ⟨m y, n6, y, g2.cut (s y).length, n7, rfl, k6, ⟨p1.1, fun t c v hv => ?_⟩, p2, k5, (j5.trans k7).cut (by rw [h1.n]; exact n5)⟩
    have := p1.2 t c v hv
    cases c with
    | true => simp only [if_true] at this ⊢; exact this.cut (n3.find (by simpa [Env.look, Gw.find] using hv))
    | false => simpa using this
  | exit id => simp only [SimExit] at k2; subst k2; exact ⟨.exit id, env2, st2, g2, k1, rfl, k3, k4, k5, k6, j5.trans k7⟩
  | ret => simp only [SimExit] at k2; subst k2; exact ⟨.ret, env2, st2, g2, k1, rfl, k3, k4, k5, k6, j5.trans k7⟩
  | panic v => have k2' := k2; obtain ⟨val, rfl, _⟩ := k2; exact ⟨.panic v, env2, st2, g2, k1, k2', k3, k4, k5, k6, j5.trans k7⟩

/-- A loop, by a state of one's own; what a round makes for itself is forgotten at its end. -/
theorem vforD {P : Program} {T : Nat → TI} {an : Nat → Nat} {L : List Nat} {ds : List Deferred} {σ : Type} (ks : List Nat) (e : σ → List (Nat × Bool × V)) (s : σ → St) (m : σ → Nat) (I : σ → Prop) (x0 : σ) (hks : subN ks L = true) {N : Nat} {g l : List (Nat × Bool × V)} {c : Code} {st : St} {k0 : Kont} {Q : VExit → Env → St → Prop}
    (hT : Tab P T) (h0 : I x0) (he : wkEp (Tips st.length 0) (Env.keep ⟨N, g, l⟩ ks) (e x0)) (hs : st = s x0)
    (step : ∀ x, I x → cK P T an L ds c ⟨N, e x, []⟩ (s x) .done (vSeq (fun env' st' => env'.N = N ∧ ∃ y, Next ks st.length (e y) (s y) env' st' ∧ m y < m x ∧ I y) (qK P T an L ds k0 Q))) :
    VC P T L ds (.loop c) ⟨N, g, l⟩ st (qK P T an L ds k0 Q) :=
  vforT [] ks e s m I x0 hks hT h0 he ⟨st, wkSt_refl _, by rw [← hs]; exact (List.append_nil _).symm⟩ step

mutual
theorem V.lt_mono {n m : Nat} (h : n ≤ m) : ∀ {v : V}, v.lt n → v.lt m
  | .lst _ t l, k => by simp only [V.lt] at k ⊢; exact ⟨fun e he => Nat.lt_of_lt_of_le (k.1 e he) h, ltRows_mono h k.2⟩
  | .arr e _, k => by simp only [V.lt] at k ⊢; omega
  | .eptr e _ _ _ _, k => by simp only [V.lt] at k ⊢; omega
  | .ptr o _, k => by simp only [V.lt] at k ⊢; omega
  | .map o, k => by simp only [V.lt] at k ⊢; omega
  | .agg l, k => by simp only [V.lt] at k ⊢; exact ltL_mono h k
  | .tup l, k => by simp only [V.lt] at k ⊢; exact ltL_mono h k
  | .ref l, k => by simp only [V.lt] at k ⊢; exact ltL_mono h k
  | .fn _ c, k => by simp only [V.lt] at k ⊢; exact ltL_mono h k
  | .iface _ v, k => by simp only [V.lt] at k ⊢; exact V.lt_mono h k
  | .addr o _ _, k => by simp only [V.lt] at k ⊢; omega
  | .int _ _, _ | .bool _, _ | .str _, _ | .nils, _ | .nilp, _ | .nilf, _ | .nilm, _ | .nili, _ | .junk, _ => by simp [V.lt]
theorem ltL_mono {n m : Nat} (h : n ≤ m) : ∀ {l : List V}, ltL n l → ltL m l
  | [], _ => trivial
  | _ :: _, k => ⟨V.lt_mono h k.1, ltL_mono h k.2⟩
theorem ltRows_mono {n m : Nat} (h : n ≤ m) : ∀ {l : List (List V)}, ltRows n l → ltRows m l
  | [], _ => trivial
  | _ :: _, k => ⟨ltL_mono h k.1, ltRows_mono h k.2⟩
end
theorem Ent.lt_mono {n m : Nat} (h : n ≤ m) {e : Ent} (k : e.lt n) : e.lt m := by
  cases e with
  | box c => exact ltL_mono h k
  | arr _ _ c => exact ltRows_mono h k
  | tip _ _ => trivial
  | gone => trivial
  | map _ es => exact fun e he => ⟨V.lt_mono h (k e he).1, V.lt_mono h (k e he).2⟩
  | iter m _ _ => exact Nat.lt_of_lt_of_le k h
def ltEs (n : Nat) : St → Prop
  | [] => True
  | e :: r => e.lt n ∧ ltEs n r
theorem ltEs_all {n : Nat} : ∀ {l : St}, ltEs n l → ∀ e ∈ l, e.lt n
  | [], _, e, he => by simp at he
  | x :: l, h, e, he => by
    rcases List.mem_cons.1 he with rfl | he
    · exact h.1
    · exact ltEs_all h.2 e he
/-- Entries behind a state. -/
theorem ok_app {st l : St} (hst : St.ok st) (h : ltEs (st.length + l.length) l) : St.ok (st ++ l) := by
  intro e he
  rw [List.length_append]
  rcases List.mem_append.1 he with he | he
  · exact Ent.lt_mono (Nat.le_add_right _ _) (hst e he)
  · exact ltEs_all h e he
theorem ok_set {st : St} {o : Nat} {e : Ent} (hst : St.ok st) (h : e.lt st.length) : St.ok (st.set o e) := by
  intro x hx
  rw [List.length_set]
  rcases List.mem_or_eq_of_mem_set hx with hx | rfl
  · exact hst x hx
  · exact h

/-- At a place of a list: its end, or an element. -/
theorem at_or_end {α : Type} (l : List α) (i : Nat) (h : i ≤ l.length) : (i = l.length ∧ l.drop i = []) ∨ ∃ a, i < l.length ∧ l[i]? = some a ∧ l.drop i = a :: l.drop (i + 1) := by
  rcases Nat.lt_or_ge i l.length with hlt | hge
  · exact .inr ⟨l[i], hlt, List.getElem?_eq_getElem hlt, List.drop_eq_getElem_cons hlt⟩
  · exact .inl ⟨by omega, List.drop_eq_nil_of_le hge⟩

theorem getD_map {α β : Type} {l : List α} {f : α → β} {i : Nat} {a : α} {d : β} (h : l[i]? = some a) : (l.map f).getD i d = f a := by
  simp [List.getD_eq_getElem?_getD, h]
theorem getD_at {α : Type} {l : List α} {i : Nat} {a : α} {d : α} (h : l[i]? = some a) : l.getD i d = a := by
  simp [List.getD_eq_getElem?_getD, h]
theorem wrap_i64 {n : Int} (h : -9223372036854775808 ≤ n) (h2 : n ≤ 9223372036854775807) : IntKind.i64.wrap n = n := by
  simp only [IntKind.wrap, IntKind.bits, IntKind.signed]
  simp
  omega
theorem next_i64 {i n : Nat} (h : i < n) (h2 : n ≤ 9223372036854775807) : IntKind.i64.wrap ((i : Int) + 1) = ((i + 1 : Nat) : Int) := by
  rw [wrap_i64 (by omega) (by omega)]; omega
theorem lt_yes {i n : Nat} (h : i < n) : decide ((i : Int) < (n : Int)) = true := by simpa using h
theorem gives_self {X : V} {st : St} (h : X.lt st.length) (hst : St.ok st) : Gives X st (.ret X) st := ⟨[], X, st, (List.append_nil _).symm, wkSt_refl st, rfl, wk_refl X, h, hst⟩
/-- What a body gives: its value may be taken for X, its state, but for what it made, for st'. -/
theorem gives_of {v X : V} {su st' ex : St} (hw : wk v X) (hs : wkSt su st') (h : X.lt st'.length) (hst : St.ok st') : Gives X st' (.ret v) (su ++ ex) := ⟨ex, v, su, rfl, hs, rfl, hw, h, hst⟩
theorem gives_int {k : IntKind} {n m : Int} {st : St} (e : n = m) (hst : St.ok st) : Gives (.int k m) st (.ret (.int k n)) st := by subst e; exact gives_self (by simp [V.lt]) hst
theorem gives_bool {b c : Bool} {st : St} (e : b = c) (hst : St.ok st) : Gives (.bool c) st (.ret (.bool b)) st := by subst e; exact gives_self (by simp [V.lt]) hst
theorem gives_str {b c : List UInt8} {st : St} (e : b = c) (hst : St.ok st) : Gives (.str c) st (.ret (.str b)) st := by subst e; exact gives_self (by simp [V.lt]) hst
theorem gives_int' {k : IntKind} {n m : Int} {st ex : St} (e : n = m) (hst : St.ok st) : Gives (.int k m) st (.ret (.int k n)) (st ++ ex) := by subst e; exact gives_of (wk_refl _) (wkSt_refl _) (by simp [V.lt]) hst
theorem gives_bool' {b c : Bool} {st ex : St} (e : b = c) (hst : St.ok st) : Gives (.bool c) st (.ret (.bool b)) (st ++ ex) := by subst e; exact gives_of (wk_refl _) (wkSt_refl _) (by simp [V.lt]) hst
theorem gives_str' {b c : List UInt8} {st ex : St} (e : b = c) (hst : St.ok st) : Gives (.str c) st (.ret (.str b)) (st ++ ex) := by subst e; exact gives_of (wk_refl _) (wkSt_refl _) (by simp [V.lt]) hst

/-- Entries behind a state: where they lie. -/
theorem gwL :
    (∀ (st l m : St), (st ++ l) ++ m = st ++ (l ++ m)) ∧
    (∀ (st l : St), (st ++ l).length = st.length + l.length) ∧
    (∀ (st l : St) (k : Nat), (st ++ l)[st.length + k]? = l[k]?) ∧
    (∀ (st l : St), (st ++ l)[st.length]? = l[0]?) ∧
    (∀ (st l : St) (k : Nat) (e : Ent), (st ++ l).set (st.length + k) e = st ++ l.set k e) ∧
    (∀ (st l : St) (e : Ent), (st ++ l).set st.length e = st ++ l.set 0 e) ∧
    (∀ (e : Ent) (l : St), (e :: l)[0]? = some e) ∧ (∀ (e : Ent) (l : St) (k : Nat), (e :: l)[k + 1]? = l[k]?) ∧
    (∀ (e x : Ent) (l : St), (e :: l).set 0 x = x :: l) ∧ (∀ (e x : Ent) (l : St) (k : Nat), (e :: l).set (k + 1) x = e :: l.set k x) ∧
    (∀ (e : Ent) (l m : St), (e :: l) ++ m = e :: (l ++ m)) ∧ (∀ (l : St), [] ++ l = l) ∧ (∀ (e : Ent) (l : St), (e :: l).length = l.length + 1) ∧ (([] : St).length = 0) ∧
    (∀ a b c : Nat, a + b + c = a + (b + c)) ∧ (∀ a : Nat, a + 0 = a) ∧ (∀ a : Nat, 0 + a = a) := by
  refine ⟨fun _ _ _ => List.append_assoc _ _ _, fun _ _ => List.length_append, fun st l k => by rw [List.getElem?_append_right (by omega)]; congr 1; omega, fun st l => by rw [List.getElem?_append_right (by omega)]; congr 1; omega,
    fun st l k e => by rw [List.set_append_right _ _ (by omega)]; congr 2; omega, fun st l e => by rw [List.set_append_right _ _ (by omega)]; congr 2; omega, fun _ _ => rfl, fun _ _ _ => by simp, fun _ _ _ => rfl, fun _ _ _ _ => rfl, fun _ _ _ => rfl, fun _ => rfl, fun _ _ => rfl, rfl, Nat.add_assoc, fun _ => rfl, Nat.zero_add⟩
theorem st_old {st l : St} {o : Nat} (h : o < st.length) : (st ++ l)[o]? = st[o]? := List.getElem?_append_left h
theorem st_oldset {st l : St} {o : Nat} {e : Ent} (h : o < st.length) : (st ++ l).set o e = st.set o e ++ l := List.set_append_left _ _ h

/-- A contract off a real law of the model: the state is as it was. -/
theorem VCalls.ofReal {P : Program} {T : Nat → TI} {f : FuncId} {args : List V} {st : St} {X : V} (he : Enters P f)
    (h : ∀ (g : G) (w : World) (vals : List Value), SimVs g w args vals → ∃ val, SimV g w X val ∧ Calls P f vals.toArray w fun e w' => e = .returned val ∧ w' = w) : VCalls P T f args st fun r s => r = .ret X ∧ s = st :=
  ⟨he, fun g w vals h1 h2 => by
    obtain ⟨val, h3, h4⟩ := h g w vals h2
    refine h4.mono ?_
    rintro e w' ⟨rfl, rfl⟩
    exact ⟨.ret X, st, g, ⟨rfl, rfl⟩, ⟨val, rfl, h3⟩, h1, Ext.refl _ _⟩⟩
theorem lt_no {n : Nat} : decide ((n : Int) < (n : Int)) = false := by simp
end Go.Proofs.YtcdnooalfkbmgaaDoor.Gw

namespace Go.Proofs.YtcdnooalfkbmgaaDoor.Gw
open Go
set_option linter.unusedSimpArgs false

section
variable (st : St) (m : Nat)
mutual
inductive Thaw : V → V → Prop
  | same (v : V) : Thaw v v
  | arr {o n : Nat} {e : TypeId} {sz : Nat} {rows rows' : List (List V)} (hm : m ≤ o) (h : st[o]? = some (.arr e sz rows)) (hn : rows.length = n) (hr : ThawR rows rows') : Thaw (.arr o n) (.lst sz none rows')
  | agg {l l' : List V} (h : ThawL l l') : Thaw (.agg l) (.agg l')
  | tup {l l' : List V} (h : ThawL l l') : Thaw (.tup l) (.tup l')
inductive ThawL : List V → List V → Prop
  | nil : ThawL [] []
  | cons {x y : V} {xs ys : List V} (h : Thaw x y) (k : ThawL xs ys) : ThawL (x :: xs) (y :: ys)
inductive ThawR : List (List V) → List (List V) → Prop
  | nil : ThawR [] []
  | cons {x y : List V} {xs ys : List (List V)} (h : ThawL x y) (k : ThawR xs ys) : ThawR (x :: xs) (y :: ys)
end
end

theorem ThawL.refl {st : St} {m : Nat} : ∀ l : List V, ThawL st m l l
  | [] => .nil
  | x :: l => .cons (.same x) (ThawL.refl l)

open Classical in
/-- Blocks that are written no more. -/
noncomputable def G.melt (g : G) (F : Nat → Prop) : G := { g with own := fun b => if F b then none else g.own b }

theorem Ext.melt (g : G) (w : World) (F : Nat → Prop) : Ext g w (g.melt F) w where
  os := rfl
  tape := rfl
  output := rfl
  size := Nat.le_refl _
  n := Nat.le_refl _
  pb := fun _ _ => rfl
  len := fun _ _ => Nat.le_refl _
  tv := fun _ _ _ => rfl
  free := fun b _ ho => ⟨rfl, by simp only [G.melt]; split <;> simp [ho]⟩
  kept := fun b k _ ho => ⟨fun _ _ => rfl, fun k' hk => by
    simp only [G.melt] at hk
    split at hk
    · cases hk
    · rw [ho] at hk; cases hk; exact Nat.le_refl _⟩
  ty := fun _ _ => rfl

/-- The blocks of the entries behind. -/
def Behind (g : G) (st : St) (m : Nat) (b : Nat) : Prop := ∃ i e, m ≤ i ∧ st[i]? = some e ∧ blkOf g i e = some b

section
variable {T : Nat → TI} {g : G} {w : World} {st : St} {m : Nat}

theorem Thaw.simAll (hS : SimSt T g st w) :
    (∀ {x y : V}, Thaw st m x y → ∀ v, SimV g w x v → SimV (g.melt (Behind g st m)) w y v) := by
  have hx := Ext.melt g w (Behind g st m)
  intro x y h
  refine Thaw.rec (motive_1 := fun x y _ => ∀ v, SimV g w x v → SimV (g.melt (Behind g st m)) w y v)
    (motive_2 := fun x y _ => x.length = y.length ∧ ∀ vs, SimVs g w x vs → SimVs (g.melt (Behind g st m)) w y vs)
    (motive_3 := fun x y _ => x.length = y.length ∧ (∀ sz : Nat, (∀ r ∈ x, r.length = sz) → ∀ r ∈ y, r.length = sz) ∧ ∀ vs, SimVs g w x.flatten vs → SimVs (g.melt (Behind g st m)) w y.flatten vs) ?_ ?_ ?_ ?_ ?_ ?_ ?_ ?_ h
  · intro v u hu; exact hu.ext hx
  · intro o n e sz rows rows' hm ho hn _ ih v hv
    obtain ⟨ih1, ih2, ih3⟩ := ih
    simp only [SimV] at hv ⊢
    obtain ⟨h1, h2, h3, _⟩ := hv
    have he := hS.ent o _ ho
    simp only [SimE] at he
    obtain ⟨e1, e2, xs, ⟨t1, t2, t3⟩, e4, e5⟩ := he
    subst hn
    have hval := h3 t1
    replace t3 := tip2 t3 rfl
    rcases t3 with ⟨t3, t4⟩ | ⟨b, cap, cur, k1, k2, k3, k4, k5, k6, k7⟩
    · have h0 : rows' = [] := List.eq_nil_of_length_eq_zero (by omega)
      subst h0
      exact ⟨none, 0, by rw [← hval, t4]; rfl, by simp, by simp [maxLen], by simp, .inl rfl, (fun k hk => by cases hk), by simp [SimRows]⟩
    · simp only [Nat.zero_add, Nat.add_zero, List.drop_zero] at k2 k6 k7
      have hF : Behind g st m b := ⟨o, _, hm, ho, by simp only [blkOf, k1, Value.ownBlock]⟩
      refine ⟨some ⟨b, 0, none⟩, cap, by rw [← hval, k1, ih1], by omega, k5, by simp, .inr rfl, (fun k hk => by cases hk), ?_⟩
      have hxs : ∀ (j : Nat) (u : Value), xs[j]? = some u → cur[0 + j]? = some u := by
        intro j u hj
        rw [Nat.zero_add]
        rw [← k7] at hj
        have hlt := (List.getElem?_eq_some_iff.1 hj).1
        rw [List.length_take] at hlt
        rw [List.getElem?_take_of_lt (by omega)] at hj
        simpa using hj
      have := at_of_block (g := g.melt (Behind g st m)) k3 e5 hxs (fun k hk => by simp only [G.melt, if_pos hF] at hk; cases hk) rows'.flatten xs 0 (ih3 xs e4) (fun j u hj => by simpa using hj)
      exact rows_of_at rows' 0 (ih2 sz e2) this
  · intro l l' _ ih v hv
    simp only [SimV] at hv ⊢
    obtain ⟨vs, h1, h2, h3⟩ := hv
    exact ⟨vs, h1, ih.2 vs h2, h3⟩
  · intro l l' _ ih v hv
    simp only [SimV] at hv ⊢
    obtain ⟨vs, h1, h2⟩ := hv
    exact ⟨vs, h1, ih.2 vs h2⟩
  · exact ⟨rfl, fun vs h => by simpa [SimVs] using h⟩
  · intro x y xs ys _ _ ih1 ih2
    refine ⟨by simp [ih2.1], fun vs h => ?_⟩
    simp only [SimVs] at h ⊢
    obtain ⟨v, r, h1, h2, h3⟩ := h
    exact ⟨v, r, h1, ih1 v h2, ih2.2 r h3⟩
  · exact ⟨rfl, fun _ h => h, fun vs h => by simpa [SimVs] using h⟩
  · intro x y xs ys _ _ ih1 ih2
    have app : ∀ (a b : List V) (vs : List Value), SimVs g w (a ++ b) vs → ∃ u r, vs = u ++ r ∧ SimVs g w a u ∧ SimVs g w b r := by
      intro a
      induction a with
      | nil => intro b vs h; exact ⟨[], vs, rfl, by simp [SimVs], h⟩
      | cons a l ih =>
        intro b vs h
        simp only [List.cons_append, SimVs] at h
        obtain ⟨v, r, rfl, h2, h3⟩ := h
        obtain ⟨u, r', rfl, h4, h5⟩ := ih b r h3
        exact ⟨v :: u, r', rfl, by simp only [SimVs]; exact ⟨v, u, rfl, h2, h4⟩, h5⟩
    have join : ∀ (g : G) (a b : List V) (u r : List Value), SimVs g w a u → SimVs g w b r → SimVs g w (a ++ b) (u ++ r) := by
      intro g a
      induction a with
      | nil => intro b u r h k; simp only [SimVs] at h; subst h; exact k
      | cons a l ih =>
        intro b u r h k
        simp only [SimVs] at h
        obtain ⟨v, u', rfl, h2, h3⟩ := h
        simp only [List.cons_append, SimVs]
        exact ⟨v, u' ++ r, rfl, h2, ih b u' r h3 k⟩
    refine ⟨by simp [ih2.1], fun sz h r hr => ?_, fun vs h => ?_⟩
    · rcases List.mem_cons.1 hr with rfl | hr
      · rw [← ih1.1]; exact h x (by simp)
      · exact ih2.2.1 sz (fun r hr => h r (by simp [hr])) r hr
    · rw [List.flatten_cons] at h ⊢
      obtain ⟨u, r, rfl, h1, h2⟩ := app _ _ _ h
      exact join _ _ _ _ _ (ih1.2 u h1) (ih2.2.2 r h2)

theorem SimSt.melt {st0 ex : St} (hS : SimSt T g (st0 ++ ex) w) (h0 : SimSt T (g.cut st0.length) st0 w) : SimSt T ((g.melt (Behind g (st0 ++ ex) st0.length)).cut st0.length) st0 w where
  n := rfl
  ent := fun i e hi => by
    have hlt := (List.getElem?_eq_some_iff.1 hi).1
    have hx : Ext (g.cut st0.length) w ((g.melt (Behind g (st0 ++ ex) st0.length)).cut st0.length) w :=
      ⟨rfl, rfl, rfl, Nat.le_refl _, Nat.le_refl _, fun _ _ => rfl, fun _ _ => Nat.le_refl _, fun _ _ _ => rfl, (Ext.melt g w (Behind g (st0 ++ ex) st0.length)).free, (Ext.melt g w (Behind g (st0 ++ ex) st0.length)).kept, fun _ _ => rfl⟩
    refine (h0.ent i e hi).keep hx rfl rfl rfl fun b hb => ⟨rfl, ?_⟩
    have hn : ¬ Behind g (st0 ++ ex) st0.length b := by
      rintro ⟨j, e', hj, he', hb'⟩
      have hi' : (st0 ++ ex)[i]? = some e := by rw [List.getElem?_append_left hlt]; exact hi
      have := hS.one i j e e' b hi' he' (by cases e <;> exact hb) hb'
      omega
    simp only [G.cut, G.melt, if_neg hn]
  one := fun i j ei ej b hi hj k1 k2 => h0.one i j ei ej b hi hj (by cases ei <;> exact k1) (by cases ej <;> exact k2)
  amb := (hS.amb.ext (Ext.melt g w (Behind g (st0 ++ ex) st0.length)) :)

/-- What a call comes to, frozen. -/
theorem VCalls.freeze {P : Program} {f : FuncId} {args : List V} {st0 : St} {Q : VEnd → St → Prop} {X : V} (h : VCalls P T f args st0 Q)
    (hq : ∀ r st', Q r st' → ∃ v u ex, r = .ret v ∧ st' = st0 ++ ex ∧ Thaw st' st0.length v u ∧ wk u X ∧ X.lt st0.length) : VCalls P T f args st0 fun r s => r = .ret X ∧ s = st0 :=
  ⟨h.1, fun g w vals h1 h2 => (h.2 g w vals h1 h2).mono fun e w' ⟨r, s, g', k1, k2, k3, k4⟩ => by
    obtain ⟨v, u, ex, rfl, rfl, ht, hw, hl⟩ := hq r s k1
    obtain ⟨val, rfl, hv⟩ := k2
    have hm := ht.simAll k3 val hv
    have hx := k4.trans (Ext.melt g' w' (Behind g' (st0 ++ ex) st0.length))
    exact ⟨.ret X, st0, (g'.melt (Behind g' (st0 ++ ex) st0.length)).cut st0.length, ⟨rfl, rfl⟩, ⟨val, rfl, (hw.sim (nil0_no _) hm).cut hl⟩, k3.melt (k3.drop h1.okSt), hx.cut (by rw [h1.n]; exact Nat.le_refl _)⟩⟩
end

/-- A box that is written no more: a pointer to it is one to cells that stay. -/
def meltE (t : Nat) (cs : List V) : List (Nat × Bool × V) → List (Nat × Bool × V)
  | [] => []
  | (k, b, v) :: r => (k, b, if k = t then .ref cs else v) :: meltE t cs r
theorem meltE_find (t : Nat) (cs : List V) : ∀ (g : List (Nat × Bool × V)) (k : Nat), Gw.find (meltE t cs g) k = (Gw.find g k).map fun x => (x.1, if k = t then .ref cs else x.2)
  | [], k => rfl
  | (j, b, v) :: r, k => by
    simp only [meltE, Gw.find]
    by_cases e : j = k
    · subst e; simp
    · simp only [e, if_false]
      exact meltE_find t cs r k

theorem vmelt {P : Program} {T : Nat → TI} {L : List Nat} {ds : List Deferred} {c : Code} {N : Nat} {g1 l : List (Nat × Bool × V)} {st : St} {Q : VExit → Env → St → Prop} (t o : Nat) (cs : List V) (hg : Gw.find g1 t = some (true, .ptr o 0)) (ho : st[o]? = some (.box cs))
    (h : VC P T L ds c ⟨N, meltE t cs g1, []⟩ (st.set o .gone) Q) : VC P T L ds c ⟨N, g1, l⟩ st Q := by
  intro g w a hst henv hok hds
  have hx := Ext.melt g w (fun b => b = g.pb o)
  have hbox := hst.ent o _ ho
  simp only [SimE] at hbox
  obtain ⟨b1, vs, ty, b2, b3, b4⟩ := hbox
  have hon : o < g.n := by rw [hst.n]; exact (List.getElem?_eq_some_iff.1 ho).1
  have look1 : ∀ k x, Gw.find g1 k = some x → (⟨N, g1, l⟩ : Env).look k = some x := fun k x hk => (hok k x hk).2
  have hcell : SimAt (g.melt fun b => b = g.pb o) w ⟨g.pb o, 0, none⟩ cs :=
    at_of_block (vs := vs) b2 b4 (fun j u hj => by simpa using hj) (fun k hk => by simp [G.melt] at hk) cs vs 0 (b3.ext hx) (fun j u hj => by simpa using hj)
  refine wp_mono (h (g.melt fun b => b = g.pb o) w a ⟨?_, ?_, ?_, hst.amb.ext hx⟩ ⟨henv.1, fun k b v hk => ?_⟩ (fun k x hk => ?_) hds) fun e a' u hL => hL.ext hx
  · simp only [List.length_set]; exact hst.n
  · intro i e hi
    by_cases e' : o = i
    · subst e'
      rw [List.getElem?_set_self (by rw [← hst.n]; exact hon)] at hi
      cases hi
      trivial
    · rw [List.getElem?_set_ne e'] at hi
      have hin : i < g.n := by rw [hst.n]; exact (List.getElem?_eq_some_iff.1 hi).1
      refine (hst.ent i e hi).keep hx rfl rfl rfl fun b hb => ⟨rfl, ?_⟩
      have : b ≠ g.pb o := by
        intro hb'
        subst hb'
        exact e' (hst.one o i _ e _ ho hi rfl hb)
      simp only [G.melt, if_neg this]
  · intro i j ei ej b hi hj k1 k2
    have gone : ∀ (i : Nat) (ei : Ent), (st.set o .gone)[i]? = some ei → blkOf (g.melt fun b => b = g.pb o) i ei = some b → st[i]? = some ei ∧ blkOf g i ei = some b := by
      intro i ei hi hk
      by_cases e' : o = i
      · subst e'
        rw [List.getElem?_set_self (by rw [← hst.n]; exact hon)] at hi
        cases hi
        simp [blkOf] at hk
      · rw [List.getElem?_set_ne e'] at hi
        exact ⟨hi, by cases ei <;> exact hk⟩
    obtain ⟨i1, i2⟩ := gone i ei hi k1
    obtain ⟨j1, j2⟩ := gone j ej hj k2
    exact hst.one i j ei ej b i1 j1 i2 j2
  · simp only [Env.look, Gw.find] at hk
    rw [meltE_find] at hk
    cases hf : Gw.find g1 k with
    | none => rw [hf] at hk; simp at hk
    | some x =>
      rw [hf] at hk
      simp only [Option.map_some, Option.some.injEq, Prod.mk.injEq] at hk
      have h1 := henv.2 k x.1 x.2 (by rw [look1 k x hf])
      obtain ⟨rfl, rfl⟩ := hk
      by_cases e : k = t
      · subst e
        rw [hg] at hf
        cases hf
        simp only [if_true, SimV] at h1 ⊢
        exact ⟨_, h1.2, rfl, hcell⟩
      · rw [if_neg e]
        cases hx1 : x.1 with
        | true => rw [hx1] at h1; simp only [if_true] at h1 ⊢; exact h1.ext hx
        | false => rw [hx1] at h1; simpa using h1
  · rw [meltE_find] at hk
    refine ⟨?_, by simp only [Env.look, Gw.find]; rw [meltE_find]; exact hk⟩
    cases hf : Gw.find g1 k with
    | none => rw [hf] at hk; simp at hk
    | some x => exact (hok k x hf).1

/-- What a call comes to may be taken for more. -/
theorem VCalls.relax {P : Program} {T : Nat → TI} {f : FuncId} {args : List V} {st : St} {Q : VEnd → St → Prop} (h : VCalls P T f args st fun r s => ∃ v X s', r = .ret v ∧ wk v X ∧ wkSt s s' ∧ Q (.ret X) s') : VCalls P T f args st Q :=
  ⟨h.1, fun g w vals h1 h2 => (h.2 g w vals h1 h2).mono fun e w' ⟨r, s, g', ⟨v, X, s', e1, e2, e3, e4⟩, k2, k3, k4⟩ => by
    subst e1
    obtain ⟨val, rfl, hv⟩ := k2
    exact ⟨.ret X, s', g', e4, ⟨val, rfl, e2.sim (nil0_no g') hv⟩, k3.wk e3, k4⟩⟩
theorem VCalls.st {P : Program} {T : Nat → TI} {f : FuncId} {args : List V} {st st' : St} {Q : VEnd → St → Prop} (h : VCalls P T f args st' Q) (hw : wkSt st st') : VCalls P T f args st Q :=
  ⟨h.1, fun g w vals h1 h2 => h.2 g w vals (h1.wk hw) h2⟩
/-- A call of what is told by a relation, in a state that may be taken for more. -/
theorem useQS {P : Program} {T : Nat → TI} {an : Nat → Nat} {L : List Nat} {ds : List Deferred} {f : FuncId} {args args' : List V} {st st' : St} {Q0 : VEnd → St → Prop} {dst : Option Tmp} {gc : Bool} {all : Array Oper} {os : List Oper} {env : Env} {k : Kont} {Q : VExit → Env → St → Prop}
    (h : VCalls P T f args' st' Q0) (hw : wkL args args') (hs : wkSt st st') (h3 : ∀ v s, ¬ Q0 (.panic v) s) (h2 : ∀ X s, X.fit → Q0 (.ret X) s → oK P T an L ds all os (env.put L dst gc X) s k Q) : VCalls P T f args st (aK P T an L ds dst gc all os env k Q) :=
  ((h.args hw).st hs).monoF fun r s hf hq => by
    cases r with
    | ret X => exact h2 X s hf hq
    | panic v => exact absurd hq (h3 v s)
end Go.Proofs.YtcdnooalfkbmgaaDoor.Gw

namespace Go.Proofs.YtcdnooalfkbmgaaDoor.Gw
open Go
set_option linter.unusedSimpArgs false

section
variable {P : Program} {T : Nat → TI} {an : Nat → Nat} {L : List Nat} {ds : List Deferred}

def goodB (all : Array Oper) (cls : List Nat) (ex : Nat → Nat → Bool) (x i : Nat) : Bool := reach all 3 x i || indep all (atC all cls x) (atC all cls i) || ex x i
def backB (all : Array Oper) : Bool := (List.range all.size).all fun j => match all[j]? with | none => false | some o => o.after.all fun e => !Region.binds .any e || Nat.blt e.on j
def noCallB (o : Oper) : Bool := match o.op with | .call c => (match c.callee with | .builtin _ => true | _ => false) | _ => true
def oneEx (p q : Nat) (x i : Nat) : Bool := x == p && i == q

structure LeftL (all : Array Oper) (listed : Array Bool) (rs : List Nat) : Prop where
  nodup : rs.Nodup
  mem : ∀ i, i ∈ rs ↔ i < all.size ∧ listed.getD i true = false
  size : listed.size = all.size
  down : ∀ j o, all[j]? = some o → listed.getD j true = true → ∀ e ∈ o.after.toList, Region.binds .any e = true → listed.getD e.on false = true

theorem reach_listedL {all : Array Oper} {listed : Array Bool} {rs : List Nat} (hl : LeftL all listed rs) : ∀ (n x i : Nat) (o : Oper), all[i]? = some o → (∀ e ∈ o.after.toList, Region.binds .any e = true → listed.getD e.on false = true) → reach all n x i = true → listed.getD x false = true
  | 0, x, i, o, ho, ha, h => by cases h
  | n + 1, x, i, o, ho, ha, h => by
    simp only [reach, ho, ← Array.any_toList, List.any_eq_true, Bool.and_eq_true, Bool.or_eq_true, beq_iff_eq] at h
    obtain ⟨e, he, hb, h⟩ := h
    have h1 := ha e he hb
    rcases h with h | h
    · rw [← h]; exact h1
    · have hlt : e.on < listed.size := by
        rcases Nat.lt_or_ge e.on listed.size with h2 | h2
        · exact h2
        · simp [Array.getD_eq_getD_getElem?, h2] at h1
      have hlt2 : e.on < all.size := by rw [← hl.size]; exact hlt
      refine reach_listedL hl n x e.on _ (Array.getElem?_eq_getElem hlt2) (hl.down e.on _ (Array.getElem?_eq_getElem hlt2) (by rw [getD_of_size hlt true false]; exact h1)) h

/-- What is ready is unlisted, and what it stands behind is listed. -/
theorem ready_spec {all : Array Oper} {listed : Array Bool} {i : Nat} (hi : i ∈ Region.ready .any all listed) : ∃ h : i < all.size, listed.getD i true = false ∧ ∀ e ∈ all[i].after.toList, Region.binds .any e = true → listed.getD e.on false = true := by
  unfold Region.ready at hi
  simp only [List.mem_filter, List.mem_range, Bool.and_eq_true, Bool.not_eq_true'] at hi
  obtain ⟨hi1, hi2, hi3⟩ := hi
  rw [Array.getElem?_eq_getElem hi1] at hi3
  simp only [Option.map_some, Option.getD_some, ← Array.all_toList, List.all_eq_true, Bool.or_eq_true, Bool.not_eq_true'] at hi3
  exact ⟨hi1, hi2, fun e he hb => (hi3 e he).resolve_left (by rw [hb]; simp)⟩

theorem LeftL.next {all : Array Oper} {listed : Array Bool} {pre post : List Nat} {i : Nat} (hl : LeftL all listed (pre ++ i :: post)) (hi : i ∈ Region.ready .any all listed) : LeftL all (listed.setIfInBounds i true) (pre ++ post) := by
  obtain ⟨hi1, hi2, hafter⟩ := ready_spec hi
  have hlsz : i < listed.size := by rw [hl.size]; exact hi1
  have hget : ∀ j b, (listed.setIfInBounds i true).getD j b = if i = j then true else listed.getD j b := by
    intro j b
    simp only [Array.getD_eq_getD_getElem?, Array.getElem?_setIfInBounds]
    by_cases hj : i = j
    · subst hj; simp [hlsz]
    · simp [hj]
  have hnd := hl.nodup
  have hnin : i ∉ pre ++ post := by
    intro h
    have := List.nodup_append.1 hnd
    rcases List.mem_append.1 h with h | h
    · exact this.2.2 i h i (by simp) rfl
    · exact (List.nodup_cons.1 this.2.1).1 h
  refine ⟨hnd.sublist (by simp), fun j => ?_, by simp [hl.size], fun j o ho hj e he hb => ?_⟩
  · rw [hget]
    by_cases hj : i = j
    · subst hj
      simp only [if_true, reduceCtorEq, and_false, iff_false]
      exact hnin
    · rw [if_neg hj, ← hl.mem j]
      simp only [List.mem_append, List.mem_cons]
      constructor
      · rintro (h | h)
        · exact .inl h
        · exact .inr (.inr h)
      · rintro (h | h | h)
        · exact .inl h
        · exact absurd h.symm hj
        · exact .inr h
  · rw [hget] at hj ⊢
    have hlist : listed.getD e.on false = true := by
      by_cases hji : i = j
      · subst hji
        rw [Array.getElem?_eq_getElem hi1] at ho
        cases ho
        exact hafter e he hb
      · rw [if_neg hji] at hj
        exact hl.down j o ho hj e he hb
    split
    · rfl
    · exact hlist

theorem hmonoQ {Q : VExit → Env → St → Prop} : ∀ e1 env1 s1, Qe L (Qe L Q) e1 env1 s1 → Qe L Q e1 env1 s1 := by
  rintro e1 env1 s1 ⟨e2, q1, q2, e3, q3, q4, q5⟩
  exact ⟨e3, ⟨q3.1.trans q1.1, fun t => (q3.2 t).trans (q1.2 t)⟩, q4, q5⟩

/-- One that is ready, ahead of all others. -/
theorem pick {all : Array Oper} {cls : List Nat} {ex : Nat → Nat → Bool} {Q : VExit → Env → St → Prop} {rs : List Nat} {listed : Array Bool} {env : Env} {st : St} {i : Nat} (hl : LeftL all listed rs) (hg : rs.Pairwise fun x i => goodB all cls ex x i = true)
    (hi : i ∈ Region.ready .any all listed) (hex : ∀ x ∈ rs, ex x i = false) (hok : EnvOK L env) (h : dOps P T an L all (rs.map (atC all cls)) env st (Qe L Q)) (hi1 : i < all.size) :
    ∃ pre post, rs = pre ++ i :: post ∧ ∃ gc v st', guardV all env all[i].guard = some gc ∧ okDstB env.N all[i].dst ∧ dFun P T (stepOp T an all[i].dst all[i].op gc env st) gc (cls.getD i 0) st v st' ∧
      dOps P T an L all ((pre ++ post).map (atC all cls)) (env.put L all[i].dst gc v) st' (Qe L Q) := by
  obtain ⟨_, hi2, hafter⟩ := ready_spec hi
  have himem := (hl.mem i).2 ⟨hi1, hi2⟩
  obtain ⟨pre, post, hsplit⟩ := List.append_of_mem himem
  refine ⟨pre, post, hsplit, ?_⟩
  rw [hsplit] at hg
  have hpre : ∀ x ∈ pre, goodB all cls ex x i = true := fun x hx => (List.pairwise_append.1 hg).2.2 x hx i (by simp)
  have hind : ∀ x ∈ pre.map (atC all cls), indep all x (atC all cls i) = true := by
    intro y hy
    obtain ⟨x, hx, rfl⟩ := List.mem_map.1 hy
    have hxi := hpre x hx
    have hxr : x ∈ rs := by rw [hsplit]; simp [hx]
    simp only [goodB, Bool.or_eq_true, hex x hxr, Bool.false_eq_true, or_false] at hxi
    refine hxi.resolve_left fun hr => ?_
    have h1 := reach_listedL hl 3 x i _ (Array.getElem?_eq_getElem hi1) hafter hr
    have h2 := (hl.mem x).1 hxr
    rw [getD_of_size (by rw [hl.size]; exact h2.1) false true, h2.2] at h1
    cases h1
  rw [hsplit, List.map_append, List.map_cons] at h
  have h := dOps_front (atC all cls i) (post.map (atC all cls)) (pre.map (atC all cls)) env st hind hok h
  have hat : (atC all cls i) = (all[i], cls.getD i 0) := by simp [atC, Array.getD_eq_getD_getElem?, hi1]
  rw [hat] at h
  simp only [dOps] at h
  unfold bindO at h
  split at h
  case h_2 => exact h.elim
  rename_i gc hgc
  obtain ⟨hd, h⟩ := h
  obtain ⟨v, st', hf, h⟩ := dStep_fun h
  have h := dOps_mono hmonoQ _ _ _ h
  rw [← List.map_append] at h
  exact ⟨gc, v, st', hgc, hd, hf, h⟩

theorem exists_min : ∀ {rs : List Nat}, rs ≠ [] → ∃ r ∈ rs, ∀ x ∈ rs, r ≤ x
  | [], h => absurd rfl h
  | [a], _ => ⟨a, by simp, by simp⟩
  | a :: b :: r, _ => by
    obtain ⟨m, h1, h2⟩ := exists_min (rs := b :: r) (by simp)
    rcases Nat.le_total a m with h | h
    · refine ⟨a, by simp, fun x hx => ?_⟩
      rcases List.mem_cons.1 hx with rfl | hx
      · exact Nat.le_refl _
      · exact Nat.le_trans h (h2 x hx)
    · refine ⟨m, List.mem_cons_of_mem _ h1, fun x hx => ?_⟩
      rcases List.mem_cons.1 hx with rfl | hx
      · exact h
      · exact h2 x hx

/-- Something is always ready. -/
theorem some_ready {all : Array Oper} (hE : backB all = true) {listed : Array Bool} {rs : List Nat} (hl : LeftL all listed rs) (hne : rs ≠ []) : Region.ready .any all listed ≠ [] := by
  intro hr
  obtain ⟨r, hrm, hmin⟩ := exists_min hne
  have hr1 := (hl.mem r).1 hrm
  simp only [backB, List.all_eq_true, List.mem_range] at hE
  have hin : r ∈ Region.ready .any all listed := by
    unfold Region.ready
    simp only [List.mem_filter, List.mem_range, Bool.and_eq_true, Bool.not_eq_true']
    refine ⟨hr1.1, hr1.2, ?_⟩
    rw [Array.getElem?_eq_getElem hr1.1]
    simp only [Option.map_some, Option.getD_some, ← Array.all_toList, List.all_eq_true, Bool.or_eq_true, Bool.not_eq_true']
    intro e he
    have h1 := hE r hr1.1
    rw [Array.getElem?_eq_getElem hr1.1] at h1
    simp only [← Array.all_toList, List.all_eq_true, Bool.or_eq_true, Bool.not_eq_true', Nat.blt_eq] at h1
    rcases h1 e he with h2 | h2
    · exact .inl h2
    · right
      have hlt : e.on < listed.size := by rw [hl.size]; omega
      rw [getD_of_size hlt false true]
      cases hc : listed.getD e.on true with
      | true => rfl
      | false =>
        have := hmin e.on ((hl.mem e.on).2 ⟨by omega, hc⟩)
        omega
  rw [hr] at hin
  simp at hin

theorem draw_soundL (hT : Tab P T) {all : Array Oper} {cls : List Nat} (hE : backB all = true) {Q : VExit → Env → St → Prop} {g0 : G} {w0 : World} :
    ∀ (n : Nat) (rs : List Nat) (listed : Array Bool) (env : Env) (st : St) (g : G) (w : World) (a : Act), rs.length = n → LeftL all listed rs → (rs.Pairwise fun x i => goodB all cls (fun _ _ => false) x i = true) → Ext g0 w0 g w → SimSt T g st w → SimEnv g w env a → EnvOK L env → a.defers = ds →
      dOps P T an L all (rs.map (atC all cls)) env st (Qe L Q) → wpAny P .any all (Lift T L ds g0 w0 Q) n listed a w := by
  intro n
  induction n with
  | zero =>
    intro rs listed env st g w a hn hl hg hx hst henv hok hds h
    have : rs = [] := List.eq_nil_of_length_eq_zero hn
    subst this
    refine ⟨?_, ?_⟩
    · unfold Region.ready
      rw [List.filter_eq_nil_iff]
      intro i hi hr
      have hi' : i < all.size := by simpa using hi
      have : listed.getD i true = false := by simp only [Bool.and_eq_true, Bool.not_eq_true'] at hr; exact hr.1
      have := (hl.mem i).2 ⟨hi', this⟩
      simp at this
    · obtain ⟨env0, q1, q2, q3⟩ := h
      exact ⟨.normal, env0, st, g, q3, rfl, ⟨henv.1.trans q1.1.symm, fun t c v hv => henv.2 t c v (by rw [← q1.2 t]; exact hv)⟩, q2, hds, hst, hx⟩
  | succ n ih =>
    intro rs listed env st g w a hn hl hg hx hst henv hok hds h
    refine ⟨fun hr => (some_ready hE hl (by intro e; rw [e] at hn; simp at hn) hr).elim, fun i hi => ?_⟩
    obtain ⟨hi1, _⟩ := ready_spec hi
    obtain ⟨pre, post, hsplit, gc, v, st', hgc, hd, hf, hrest⟩ := pick hl hg hi (fun _ _ => rfl) hok h hi1
    simp only [wpOp, Array.getElem?_eq_getElem hi1]
    refine dstep_sem hT hst henv hok hds hgc hd hf fun g' w' a' k1 k2 k3 k4 k5 => ?_
    subst hsplit
    exact ih (pre ++ post) _ _ st' g' w' a' (by simp at hn ⊢; omega) (hl.next hi) (hg.sublist (by simp)) (hx.trans k1) k2 k3 k4 k5 hrest

/-- A step that is no call has one outcome. -/
theorem dFun_one {o : Oper} (hc : noCallB o = true) {gc : Bool} {cl : Nat} {env : Env} {st : St} {v v' : V} {s s' : St} (h : dFun P T (stepOp T an o.dst o.op gc env st) gc cl st v s) (h' : dFun P T (stepOp T an o.dst o.op gc env st) gc cl st v' s') : v = v' ∧ s = s' := by
  have hnc : ∀ f args, stepOp T an o.dst o.op gc env st ≠ .call f args := by
    intro f args e
    unfold noCallB at hc
    unfold stepOp pureStep memStep at e
    split at e
    · split at e <;> cases e
    · cases e
    · generalize (an (o.dst.getD 0) == 3) = bb at e
      cases bb with
      | false =>
        simp only [cond_false] at e
        split at e
        · cases e
        · split at e
          · cases e
          · split at e <;> cases e
      | true =>
        simp only [cond_true, sufS] at e
        split at e <;> cases e
    · rename_i t n ps hop
      rw [hop] at e
      exact lit_ncall (T := T) (an := an) (dst := o.dst) (gc := gc) (env := env) (st := st) (t := t) (n := n) (ps := ps) f args e
    · rename_i it c hop
      cases c with
      | true => cases e
      | false => simp only [cond_false] at e; generalize nextV (evG env gc it) st = r at e; cases r <;> cases e
    · rename_i c hop
      rw [hop] at hc
      simp only at hc
      split at hc
      · rename_i b hb
        rw [hb] at e
        simp only at e
        split at e
        · cases e
        · split at e
          · cases e
          · split at e <;> cases e
      · cases hc
    · split at e
      · cases e
      · split at e
        · cases e
        · split at e <;> cases e
  generalize hr : stepOp T an o.dst o.op gc env st = r at h h' hnc
  unfold dFun at h h'
  cases r with
  | pure v0 side => exact ⟨h.1.trans h'.1.symm, h.2.1.trans h'.2.1.symm⟩
  | mem v0 s0 side => exact ⟨h.1.trans h'.1.symm, h.2.1.trans h'.2.1.symm⟩
  | call f args => exact absurd rfl (hnc f args)
  | panic v0 => exact h.elim
  | any l => exact h.elim
  | fail => exact h.elim

theorem draw_sound2 (hT : Tab P T) {all : Array Oper} {cls : List Nat} (hE : backB all = true) (hC : ∀ i (h : i < all.size), noCallB all[i] = true) {p q : Nat} (hpq : p ≠ q) {Q : VExit → Env → St → Prop} {g0 : G} {w0 : World} :
    ∀ (n : Nat) (rs rs' : List Nat) (listed : Array Bool) (env : Env) (st : St) (g : G) (w : World) (a : Act), rs.length = n → rs'.length = n → LeftL all listed rs → LeftL all listed rs' → (rs.Pairwise fun x i => goodB all cls (oneEx p q) x i = true) → (rs'.Pairwise fun x i => goodB all cls (oneEx q p) x i = true) →
      Ext g0 w0 g w → SimSt T g st w → SimEnv g w env a → EnvOK L env → a.defers = ds →
      dOps P T an L all (rs.map (atC all cls)) env st (Qe L Q) → dOps P T an L all (rs'.map (atC all cls)) env st (Qe L Q) → wpAny P .any all (Lift T L ds g0 w0 Q) n listed a w := by
  intro n
  induction n with
  | zero =>
    intro rs rs' listed env st g w a hn hn' hl hl' hg hg' hx hst henv hok hds h h'
    have : rs = [] := List.eq_nil_of_length_eq_zero hn
    subst this
    exact draw_soundL hT hE 0 [] listed env st g w a rfl hl .nil hx hst henv hok hds h
  | succ n ih =>
    intro rs rs' listed env st g w a hn hn' hl hl' hg hg' hx hst henv hok hds h h'
    refine ⟨fun hr => (some_ready hE hl (by intro e; rw [e] at hn; simp at hn) hr).elim, fun i hi => ?_⟩
    obtain ⟨hi1, hi2, _⟩ := ready_spec hi
    have drop : ∀ {l : List Nat} {ex : Nat → Nat → Bool}, (l.Pairwise fun x i => goodB all cls ex x i = true) → (∀ x ∈ l, ∀ y ∈ l, ex x y = false) → l.Pairwise fun x i => goodB all cls (fun _ _ => false) x i = true := by
      intro l ex hp he
      refine List.Pairwise.imp_of_mem (fun {x y} hx hy hgd => ?_) hp
      simp only [goodB, he x hx y hy] at hgd ⊢
      exact hgd
    simp only [wpOp, Array.getElem?_eq_getElem hi1]
    by_cases hip : i = p
    · subst hip
      obtain ⟨pre, post, hsplit, gc, v, st', hgc, hd, hf, hrest⟩ := pick hl hg hi (fun x _ => by simp [oneEx, hpq]) hok h hi1
      subst hsplit
      refine dstep_sem hT hst henv hok hds hgc hd hf fun g' w' a' k1 k2 k3 k4 k5 => ?_
      have hnx := hl.next hi
      refine draw_soundL hT hE n (pre ++ post) _ _ st' g' w' a' (by simp at hn ⊢; omega) hnx (drop (hg.sublist (by simp)) fun x hx y hy => ?_) (hx.trans k1) k2 k3 k4 k5 hrest
      have hlsz : i < listed.size := by rw [hl.size]; exact hi1
      have hxi : x ≠ i := by
        rintro rfl
        have := ((hnx.mem x).1 hx).2
        simp [Array.getD_eq_getD_getElem?, hlsz] at this
      simp [oneEx, hxi]
    · by_cases hiq : i = q
      · subst hiq
        obtain ⟨pre, post, hsplit, gc, v, st', hgc, hd, hf, hrest⟩ := pick hl' hg' hi (fun x _ => by simp [oneEx, hip]) hok h' hi1
        subst hsplit
        refine dstep_sem hT hst henv hok hds hgc hd hf fun g' w' a' k1 k2 k3 k4 k5 => ?_
        have hnx := hl'.next hi
        refine draw_soundL hT hE n (pre ++ post) _ _ st' g' w' a' (by simp at hn' ⊢; omega) hnx (drop (hg'.sublist (by simp)) fun x hx y hy => ?_) (hx.trans k1) k2 k3 k4 k5 hrest
        have hlsz : i < listed.size := by rw [hl.size]; exact hi1
        have hxi : x ≠ i := by
          rintro rfl
          have := ((hnx.mem x).1 hx).2
          simp [Array.getD_eq_getD_getElem?, hlsz] at this
        simp [oneEx, hxi]
      · obtain ⟨pre, post, hsplit, gc, v, st', hgc, hd, hf, hrest⟩ := pick hl hg hi (fun x _ => by simp [oneEx, hiq]) hok h hi1
        obtain ⟨pre', post', hsplit', gc', v', st'', hgc', hd', hf', hrest'⟩ := pick hl' hg' hi (fun x _ => by simp [oneEx, hip]) hok h' hi1
        rw [hgc] at hgc'
        cases hgc'
        obtain ⟨rfl, rfl⟩ := dFun_one (hC i hi1) hf hf'
        subst hsplit
        subst hsplit'
        refine dstep_sem hT hst henv hok hds hgc hd hf fun g' w' a' k1 k2 k3 k4 k5 => ?_
        exact ih (pre ++ post) (pre' ++ post') _ _ st' g' w' a' (by simp at hn ⊢; omega) (by simp at hn' ⊢; omega) (hl.next hi) (hl'.next hi) (hg.sublist (by simp)) (hg'.sublist (by simp)) (hx.trans k1) k2 k3 k4 k5 hrest hrest'

def pairB (all : Array Oper) (cls : List Nat) (ex : Nat → Nat → Bool) : List Nat → Bool
  | [] => true
  | x :: r => r.all (goodB all cls ex x) && pairB all cls ex r
theorem pairB_spec {all : Array Oper} {cls : List Nat} {ex : Nat → Nat → Bool} : ∀ {l : List Nat}, pairB all cls ex l = true → l.Pairwise fun x i => goodB all cls ex x i = true
  | [], _ => .nil
  | x :: r, h => by
    simp only [pairB, Bool.and_eq_true, List.all_eq_true] at h
    exact .cons h.1 (pairB_spec h.2)
def diffB : List Nat → Bool
  | [] => true
  | x :: r => r.all (fun y => !(x == y)) && diffB r
theorem diffB_spec : ∀ {l : List Nat}, diffB l = true → l.Nodup
  | [], _ => .nil
  | x :: r, h => by
    simp only [diffB, Bool.and_eq_true, List.all_eq_true, Bool.not_eq_true', beq_eq_false_iff_ne] at h
    exact .cons h.1 (diffB_spec h.2)
/-- Two operations alone don't go together; here are two orders, one for each. -/
def draw2B (all : Array Oper) (cls : List Nat) (ord : List Nat) (p q : Nat) : Bool :=
  backB all && !(p == q) && (List.range all.size).all (fun i => match all[i]? with | some o => noCallB o | none => true) && pairB all cls (oneEx p q) (List.range all.size) && pairB all cls (oneEx q p) ord &&
    (ord.length == all.size) && ord.all (fun i => Nat.blt i all.size) && diffB ord && (List.range all.size).all fun i => ord.contains i

def pickO (os : List Oper) (ord : List Nat) : List Oper := ord.map fun i => os.getD i default
def pickC (cls : List Nat) (ord : List Nat) : List Nat := ord.map fun i => cls.getD i 0
theorem pick_zip (os : List Oper) (cls : List Nat) : ∀ ord : List Nat, ord.map (atC os.toArray cls) = zipC (pickO os ord) (pickC cls ord)
  | [] => rfl
  | i :: ord => by
    simp only [List.map_cons, pickO, pickC, zipC]
    have := pick_zip os cls ord
    simp only [pickO, pickC] at this
    rw [this]
    congr 1
    simp [atC, Array.getD_eq_getD_getElem?, List.getD_eq_getElem?_getD]

theorem VC.draw2 (hT : Tab P T) (hm : P.follows .mixedOrders = true) {id : Nat} {os : List Oper} {cls ord : List Nat} {p q : Nat} {env : Env} {st : St} {Q : VExit → Env → St → Prop} (hB : draw2B os.toArray cls ord p q = true)
    (h : dOps P T an L os.toArray (zipC os cls) ⟨env.N, env.g, []⟩ st Q) (h' : dOps P T an L os.toArray (zipC (pickO os ord) (pickC cls ord)) ⟨env.N, env.g, []⟩ st Q) : VC P T L ds (.region id os.toArray true) env st Q := by
  intro g w a h1 h2 h3 h4
  refine wp_region_any hm ?_
  simp only [draw2B, Bool.and_eq_true, List.all_eq_true, List.mem_range, Bool.not_eq_true', beq_eq_false_iff_ne, beq_iff_eq, Nat.blt_eq, List.contains_iff_mem] at hB
  obtain ⟨⟨⟨⟨⟨⟨⟨⟨b1, b2⟩, b3⟩, b4⟩, b5⟩, b6⟩, b7⟩, b8⟩, b9⟩ := hB
  have hx := Ext.drew g w
  have henv : SimEnv g w ⟨env.N, env.g, []⟩ a := ⟨h2.1, fun t c v hv => h2.2 t c v (h3 t _ (by simpa [Env.look, find] using hv)).2⟩
  have hok : EnvOK L ⟨env.N, env.g, []⟩ := fun t x hx => ⟨(h3 t x hx).1, by simpa [Env.look, find] using hx⟩
  have h5 : SimSt T g st w.drew := h1.keep hx rfl (fun _ _ => rfl) fun b _ _ => ⟨rfl, rfl⟩
  have hd := dOps_same _ _ _ st ⟨rfl, fun _ => rfl⟩ hok h
  have hd' := dOps_same _ _ _ st ⟨rfl, fun _ => rfl⟩ hok h'
  rw [← zipC_eq] at hd
  rw [← pick_zip] at hd'
  have hfalse : ∀ i, i < os.length → (Array.replicate os.toArray.size false).getD i true = false := fun i hi => by simp [Array.getD_eq_getD_getElem?, Array.getElem?_replicate, hi]
  have hdown : ∀ j o, os.toArray[j]? = some o → (Array.replicate os.toArray.size false).getD j true = true → ∀ e ∈ o.after.toList, Region.binds .any e = true → (Array.replicate os.toArray.size false).getD e.on false = true := by
    intro j o ho hj
    have hlt : j < os.length := by simpa using (Array.getElem?_eq_some_iff.1 ho).1
    rw [hfalse j hlt] at hj
    cases hj
  have hl : LeftL os.toArray (Array.replicate os.toArray.size false) (List.range os.length) := by
    refine ⟨List.nodup_range, fun i => ?_, by simp, hdown⟩
    simp only [List.mem_range, List.size_toArray]
    exact ⟨fun hi => ⟨hi, hfalse i hi⟩, fun hi => hi.1⟩
  have hl' : LeftL os.toArray (Array.replicate os.toArray.size false) ord := by
    refine ⟨diffB_spec b8, fun i => ?_, by simp, hdown⟩
    simp only [List.size_toArray]
    exact ⟨fun hi => ⟨b7 i hi, hfalse i (b7 i hi)⟩, fun hi => b9 i hi.1⟩
  have := draw_sound2 hT b1 (fun i hi => by have := b3 i hi; rw [Array.getElem?_eq_getElem hi] at this; exact this) b2 (Q := Q) (g0 := g) (w0 := w) os.length (List.range os.length) ord _ _ st g w.drew a (by simp) (by simpa using b6) hl hl' (pairB_spec b4) (pairB_spec b5) hx h5 (henv.ext hx) hok h4 hd hd'
  simpa using this

/-- What holds at a place on the way. -/
def Mid {σ : Type} (N : Nat) (ks : List Nat) (e : σ → List (Nat × Bool × V)) (s : σ → St) (I : σ → Prop) (ex : VExit) (env : Env) (st : St) : Prop := ex = .normal ∧ env.N = N ∧ ∃ x, env.keep ks = e x ∧ st = s x ∧ I x
theorem vdraw2 (hT : Tab P T) (hm : P.follows .mixedOrders = true) {σ : Type} {id : Nat} {os : List Oper} (cls ord : List Nat) (p q : Nat) (ks : List Nat) (e : σ → List (Nat × Bool × V)) (s : σ → St) (I : σ → Prop) (hks : subN ks L = true) {N : Nat} {g l : List (Nat × Bool × V)} {st : St} {k : Kont} {Q : VExit → Env → St → Prop} (hB : draw2B os.toArray cls ord p q = true)
    (h : dK P T an L ds os.toArray os cls ⟨N, g, []⟩ st .done (Mid N ks e s I)) (h' : dK P T an L ds os.toArray (pickO os ord) (pickC cls ord) ⟨N, g, []⟩ st .done (Mid N ks e s I))
    (cont : ∀ x, I x → qK P T an L ds k Q .normal ⟨N, e x, []⟩ (s x)) : VC P T L ds (.region id os.toArray true) ⟨N, g, l⟩ st (qK P T an L ds k Q) := by
  intro g0 w a h1 h2 h3 h4
  refine wp_mono (VC.draw2 (ds := ds) (an := an) (env := ⟨N, g, l⟩) (Q := Mid N ks e s I) hT hm hB h h' g0 w a h1 h2 h3 h4) fun e1 a' w' ⟨ve, env', st', g', k1, k2, k3, k4, k5, k6, k7⟩ => ?_
  obtain ⟨rfl, hN, x, hx1, rfl, hI⟩ := k1
  refine ⟨.normal, ⟨N, e x, []⟩, s x, g', cont x hI, k2, ?_, ?_, k5, k6, k7⟩
  · rw [← hN, ← hx1]; exact k3.keep ks
  · rw [← hN, ← hx1]; exact EnvOK.keep hks env'
/-- A state may be taken for more. -/
theorem VC.wkst {c : Code} {env : Env} {st st' : St} {Q : VExit → Env → St → Prop} (h : VC P T L ds c env st' Q) (hw : wkSt st st') : VC P T L ds c env st Q :=
  fun g w a h1 h2 h3 h4 => h g w a (h1.wk hw) h2 h3 h4
/-- What is known may be taken for more; and nil slices may become tips. -/
theorem vmore (es : List TypeId) (ks : List Nat) (e1 : List (Nat × Bool × V)) (s1 : St) (hks : subN ks L = true) {N : Nat} {g l : List (Nat × Bool × V)} {c : Code} {st : St} {Q : VExit → Env → St → Prop}
    (he : wkEp (Tips st.length es.length) (Env.keep ⟨N, g, l⟩ ks) e1) (hs : ∃ s0, wkStp (Tips st.length es.length) st s0 ∧ s1 = s0 ++ tips es) (h : VC P T L ds c ⟨N, e1, []⟩ s1 Q) : VC P T L ds c ⟨N, g, l⟩ st Q := by
  intro g0 w0 a0 h1 h2 h3 h4
  obtain ⟨gt, xt, ht1, ht2⟩ := h1.pushTips es
  have hp : Nil0 gt (Tips st.length es.length) := ht2
  obtain ⟨s0, hs1, hs2⟩ := hs
  have h1' : SimSt T gt s1 w0 := by rw [hs2]; exact ht1.wkp hp (hs1.append (wkSt_refl _))
  have hk := (h2.ext xt).keep ks
  have hok := EnvOK.keep hks (⟨N, g, l⟩ : Env)
  refine wp_mono (h gt w0 a0 h1' ⟨hk.1, fun t c v hv => ?_⟩ (fun t y hy => ?_) h4) fun e a' u hL => hL.ext xt
  · simp only [Env.look, Gw.find] at hv
    obtain ⟨v0, f1, f2⟩ := he.find hv
    have := hk.2 t c v0 (by simpa [Env.look, Gw.find] using f1)
    cases c with
    | true => simp only [if_true] at this ⊢; exact f2.sim hp this
    | false => simpa using this
  · obtain ⟨c, v⟩ := y
    obtain ⟨v0, f1, f2⟩ := he.find hy
    exact ⟨(hok t _ f1).1, by simpa [Env.look, Gw.find] using hy⟩
/-- A call, where nil slices may become tips. -/
theorem VCalls.more (es : List TypeId) {f : FuncId} {args args' : List V} {st s0 : St} {Q : VEnd → St → Prop} (h : VCalls P T f args' (s0 ++ tips es) Q) (hw : wkLp (Tips st.length es.length) args args') (hs : wkStp (Tips st.length es.length) st s0) : VCalls P T f args st Q :=
  ⟨h.1, fun g w vals h1 h2 => by
    obtain ⟨gt, xt, ht1, ht2⟩ := h1.pushTips es
    have hp : Nil0 gt (Tips st.length es.length) := ht2
    exact (h.2 gt w vals (ht1.wkp hp (hs.append (wkSt_refl _))) (hw.sim hp (h2.ext xt))).mono fun e w' ⟨r, s, g', k1, k2, k3, k4⟩ => ⟨r, s, g', k1, k2, k3, xt.trans k4⟩⟩
theorem useTips (es : List TypeId) {f : FuncId} {args args' : List V} {st s0 : St} {Q0 : VEnd → St → Prop} {dst : Option Tmp} {gc : Bool} {all : Array Oper} {os : List Oper} {env : Env} {k : Kont} {Q : VExit → Env → St → Prop}
    (h : VCalls P T f args' (s0 ++ tips es) Q0) (hw : wkLp (Tips st.length es.length) args args') (hs : wkStp (Tips st.length es.length) st s0) (h3 : ∀ v s, ¬ Q0 (.panic v) s) (h2 : ∀ X s, X.fit → Q0 (.ret X) s → oK P T an L ds all os (env.put L dst gc X) s k Q) : VCalls P T f args st (aK P T an L ds dst gc all os env k Q) :=
  (h.more es hw hs).monoF fun r s hf hq => by
    cases r with
    | ret X => exact h2 X s hf hq
    | panic v => exact absurd hq (h3 v s)
end
end Go.Proofs.YtcdnooalfkbmgaaDoor.Gw
