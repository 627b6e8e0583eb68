/- Conditions on code, said of abstract values; and that what is so shown holds of the model's run. What is so shown holds of the model's run. Whole bodies: loops, returns, calls; and what may be dropped. Code as a whole; loops; functions. Each operation's step, as an equation: what the condition of code is computed by. -/
import Derived.Test.YtcegdbniggdckaaZT2
import Derived.Deep.LoopGhost

namespace Go.Proofs.Ytcegdbniggdckaa.Gw
open Go
set_option linter.unusedSimpArgs false

inductive VEnd where
  | ret (v : V)
  | panic (v : V)

inductive VExit where
  | normal
  | exit (id : Nat)
  | ret
  | panic (v : V)

def SimEnd (g : G) (w : World) : VEnd → Ending → Prop
  | .ret v, e => ∃ val, e = .returned val ∧ SimV g w v val
  | .panic v, e => ∃ val, e = .panicked [{ v := val, recovered := false }] ∧ SimV g w v val

def SimExit (g : G) (w : World) : VExit → Exit → Prop
  | .normal, e => e = .normal
  | .exit id, e => e = .exit id
  | .ret, e => e = .ret
  | .panic v, e => ∃ val, e = .panic [{ v := val, recovered := false }] ∧ SimV g w v val

/-- What is named is of L, and not hidden. -/
def EnvOK (L : List Nat) (env : Env) : Prop := ∀ t x, find env.g t = some x → memN L t = true ∧ env.look t = some x

def SimEnv (g : G) (w : World) (env : Env) (a : Act) : Prop :=
  a.tmps.size = env.N ∧ ∀ t c v, env.look t = some (c, v) → if c then SimV g w v (a.tmps.getD t undef) else a.tmps.getD t undef = undef

/-- A function with a body, that is entered where it is called. -/
def Enters (P : Program) (f : FuncId) : Prop := ∃ fn, P.funcs[f]? = some fn ∧ fn.body.isSome = true ∧ (fn.name == "runtime.NumGoroutine") = false

/-- A call of a function, whatever the memory: by what its arguments are read as, and the state. -/
def VCalls (P : Program) (T : Nat → TI) (f : FuncId) (args : List V) (st : St) (Q : VEnd → St → Prop) : Prop :=
  Enters P f ∧ ∀ g w (vals : List Value), SimSt T g st w → SimVs g w args vals → Calls P f vals.toArray w fun e w' => ∃ r st' g', Q r st' ∧ SimEnd g' w' r e ∧ SimSt T g' st' w' ∧ Ext g w g' w'

def Lift (T : Nat → TI) (L : List Nat) (ds : List Deferred) (g : G) (w : World) (Q : VExit → Env → St → Prop) : Exit → Act → World → Prop := fun e a' w' =>
  ∃ ve env' st' g', Q ve env' st' ∧ SimExit g' w' ve e ∧ SimEnv g' w' env' a' ∧ EnvOK L env' ∧ a'.defers = ds ∧ SimSt T g' st' w' ∧ Ext g w g' w'

/-- Code, from an environment and a state. -/
def VC (P : Program) (T : Nat → TI) (L : List Nat) (ds : List Deferred) (c : Code) (env : Env) (st : St) (Q : VExit → Env → St → Prop) : Prop :=
  ∀ g w a, SimSt T g st w → SimEnv g w env a → EnvOK L env → a.defers = ds → c.wp P (Lift T L ds g w Q) a w

theorem Lift.ext {T : Nat → TI} {L : List Nat} {ds : List Deferred} {g g' : G} {w w' : World} {Q : VExit → Env → St → Prop} (h : Ext g w g' w') {e : Exit} {a : Act} {u : World} (k : Lift T L ds g' w' Q e a u) : Lift T L ds g w Q e a u := by
  obtain ⟨ve, env', st', g2, h1, h2, h3, h0, h4, h5, h6⟩ := k
  exact ⟨ve, env', st', g2, h1, h2, h3, h0, h4, h5, h.trans h6⟩

theorem VC.mono {P : Program} {T : Nat → TI} {L : List Nat} {ds : List Deferred} {c : Code} {env : Env} {st : St} {Q Q' : VExit → Env → St → Prop} (h : VC P T L ds c env st Q) (hq : ∀ e env st, Q e env st → Q' e env st) : VC P T L ds c env st Q' :=
  fun g w a h1 h2 h3 h4 => wp_mono (h g w a h1 h2 h3 h4) fun _ _ _ ⟨ve, env', st', g', k1, k2⟩ => ⟨ve, env', st', g', hq _ _ _ k1, k2⟩

theorem VCalls.mono {P : Program} {T : Nat → TI} {f : FuncId} {args : List V} {st : St} {Q Q' : VEnd → St → Prop} (h : VCalls P T f args st Q) (hq : ∀ r st, Q r st → Q' r st) : VCalls P T f args st Q' :=
  ⟨h.1, fun g w vals h1 h2 => (h.2 g w vals h1 h2).mono fun _ _ ⟨r, st', g', k1, k2⟩ => ⟨r, st', g', hq _ _ k1, k2⟩⟩

-- the computed condition

def bindO {α : Type} (x : Option α) (k : α → Prop) : Prop := match x with | some a => k a | none => False
@[congr] theorem bindO_congr {α : Type} {x x' : Option α} {k : α → Prop} (h : x = x') : bindO x k = bindO x' k := by rw [h]
theorem bindO_some {α : Type} (a : α) (k : α → Prop) : bindO (some a) k = k a := rfl
theorem bindO_none {α : Type} (k : α → Prop) : bindO none k = False := rfl

def Later (p : Prop) : Prop := p
@[congr] theorem Later_congr (p : Prop) : Later p = Later p := rfl

def Split (t : Bool) (A B : Prop) : Prop := (t = true → A) ∧ (t = false → B)
@[congr] theorem Split_congr {t t' : Bool} {A B : Prop} (h : t = t') : Split t A B = Split t' A B := by rw [h]
theorem Split_true (A B : Prop) : Split true A B = A := by simp [Split]
theorem Split_false (A B : Prop) : Split false A B = B := by simp [Split]

@[congr] theorem VCalls_congr {P : Program} {T : Nat → TI} {f : FuncId} {args args' : List V} {st st' : St} {Q : VEnd → St → Prop} (h1 : args = args') (h2 : st = st') : VCalls P T f args st Q = VCalls P T f args' st' Q := by rw [h1, h2]
@[congr] theorem VC_congr {P : Program} {T : Nat → TI} {L : List Nat} {ds : List Deferred} {c : Code} {env env' : Env} {st st' : St} {Q : VExit → Env → St → Prop} (h1 : env = env') (h2 : st = st') : VC P T L ds c env st Q = VC P T L ds c env' st' Q := by rw [h1, h2]

def dstAt (all : Array Oper) (j : Nat) : Option Tmp := (all[j]?).bind (·.dst)

def guardV (all : Array Oper) (env : Env) : Option (Nat × Bool) → Option Bool
  | none => some true
  | some (j, want) => match dstAt all j with
    | some d => match env.look d with
      | some (c, .bool b) => some (c && (bif want then b else !b))
      | _ => none
    | none => none

def evG (env : Env) (gc : Bool) (x : Operand) : V :=
  match evO env x with
  | some (c, v) => bif (!gc || c) then v else .junk
  | none => .junk

def pickV (env : Env) (gc : Bool) (c a b : Operand) : Option (V × Prop) :=
  match evO env c, evO env a, evO env b with
  | some (cc, .bool x), some (ca, .bool p), some (cb, .bool q) => some (.bool (bif x then p else q), gc = true → cc = true ∧ (x = true → ca = true) ∧ (x = false → cb = true))
  | _, _, _ => none

inductive Step where
  | pure (v : V) (side : Prop)
  | mem (v : V) (st : St) (side : Prop)
  | call (f : FuncId) (args : List V)
  | panic (v : V)
  /-- One of these. -/
  | any (l : List (V × St))
  | fail

def memStep (T : Nat → TI) (an : Nat → Nat) (dst : Option Tmp) (op : Op) (ev : Operand → V) (st : St) : Step :=
  match memOp T an dst op ev st with
  | some (v, st', side) => .mem v st' side
  | none => match moreOp T op ev st with
    | some (v, st', side) => .mem v st' side
    | none => .fail

def pureStep (T : Nat → TI) (an : Nat → Nat) (dst : Option Tmp) (op : Op) (ev : Operand → V) (st : St) : Step :=
  match pureOp T op ev with
  | some (v, side) => .pure v side
  | none => memStep T an dst op ev st

def anyS : Option (List (V × St)) → Step
  | some l => .any l
  | none => .fail
def stepOp (T : Nat → TI) (an : Nat → Nat) (dst : Option Tmp) (op : Op) (gc : Bool) (env : Env) (st : St) : Step :=
  match op with
  | .pick c a b => match pickV env gc c a b with
    | some (v, side) => .pure v side
    | none => .fail
  | .panic x => .panic (evG env gc x)
  | .next it s => bif s then .fail else anyS (nextV (evG env gc it) st)
  | .call c => match c.callee with
    | .value f => match evG env gc f with
      | .fn (.func k) cap => .call k (c.args.toList.map (evG env gc) ++ cap)
      | _ => .fail
    | .builtin _ => pureStep T an dst op (evG env gc) st
    | .invoke _ _ => .fail
  | op => pureStep T an dst op (evG env gc) st

def okDstB (N : Nat) : Option Tmp → Prop
  | none => True
  | some d => d < N

def afterCall (env : Env) (K : V → St → Prop) (Q : VExit → Env → St → Prop) : VEnd → St → Prop
  | .ret v, st' => K v st'
  | .panic v, st' => Q (.panic v) env st'

def runStep (P : Program) (T : Nat → TI) (r : Step) (gc guarded : Bool) (env : Env) (st : St) (K : V → St → Prop) (Q : VExit → Env → St → Prop) : Prop :=
  match r with
  | .pure v side => (gc = true → side) ∧ K v st
  | .mem v st' side => (gc = true ∨ st' = st) ∧ (gc = true → side) ∧ K v st'
  | .call f args => match guarded with
    | false => gc = true ∧ VCalls P T f args st (afterCall env K Q)
    | true => ∃ v st2, (gc = true → VCalls P T f args st fun r st' => r = .ret v ∧ st' = st2) ∧ (gc = false → st2 = st) ∧ Later (K v st2)
  | .panic v => gc = true ∧ (∀ t x, v = .iface t x → Q (.panic v) env st) ∧ ∃ t x, v = .iface t x
  | .any l => gc = true ∧ ∀ p ∈ l, K p.1 p.2
  | .fail => False

@[congr] theorem runStep_congr {P : Program} {T : Nat → TI} {r r' : Step} {gc gc' guarded : Bool} {env : Env} {st st' : St} {K : V → St → Prop} {Q : VExit → Env → St → Prop} (h1 : r = r') (h2 : gc = gc') (h3 : st = st') :
    runStep P T r gc guarded env st K Q = runStep P T r' gc' guarded env st' K Q := by rw [h1, h2, h3]

section
variable (P : Program) (T : Nat → TI) (env : Env) (st : St) (K : V → St → Prop) (Q : VExit → Env → St → Prop)
theorem runStep_pure (v : V) (side : Prop) (gc b : Bool) : runStep P T (.pure v side) gc b env st K Q = ((gc = true → side) ∧ K v st) := rfl
theorem runStep_mem (v : V) (st' : St) (side : Prop) (gc b : Bool) : runStep P T (.mem v st' side) gc b env st K Q = ((gc = true ∨ st' = st) ∧ (gc = true → side) ∧ K v st') := rfl
theorem runStep_call (f : FuncId) (args : List V) (gc : Bool) : runStep P T (.call f args) gc false env st K Q = (gc = true ∧ VCalls P T f args st (afterCall env K Q)) := rfl
theorem runStep_gcall (f : FuncId) (args : List V) (gc : Bool) : runStep P T (.call f args) gc true env st K Q = ∃ v st2, (gc = true → VCalls P T f args st fun r st' => r = .ret v ∧ st' = st2) ∧ (gc = false → st2 = st) ∧ Later (K v st2) := rfl
theorem runStep_panic (t : TypeId) (x : V) (gc b : Bool) : runStep P T (.panic (.iface t x)) gc b env st K Q = (gc = true ∧ Q (.panic (.iface t x)) env st) := by
  simp [runStep]
theorem runStep_any (l : List (V × St)) (gc b : Bool) : runStep P T (.any l) gc b env st K Q = (gc = true ∧ ∀ p ∈ l, K p.1 p.2) := rfl
theorem runStep_fail (gc b : Bool) : runStep P T .fail gc b env st K Q = False := rfl
theorem afterCall_ret (v : V) : afterCall env K Q (.ret v) st = K v st := rfl
theorem afterCall_panic (v : V) : afterCall env K Q (.panic v) st = Q (.panic v) env st := rfl
end

/-- The operations of a region, in the order of the text. -/
def vOps (P : Program) (T : Nat → TI) (an : Nat → Nat) (L : List Nat) (all : Array Oper) : List Oper → Env → St → (VExit → Env → St → Prop) → Prop
  | [], env, st, Q => Q .normal env st
  | o :: os, env, st, Q => bindO (guardV all env o.guard) fun gc => okDstB env.N o.dst ∧
      runStep P T (stepOp T an o.dst o.op gc env st) gc o.guard.isSome env st (fun v st' => vOps P T an L all os (env.put L o.dst gc v) st' Q) Q

@[congr] theorem vOps_congr {P : Program} {T : Nat → TI} {an : Nat → Nat} {L : List Nat} {all : Array Oper} {os : List Oper} {env env' : Env} {st st' : St} {Q : VExit → Env → St → Prop} (h1 : env = env') (h2 : st = st') :
    vOps P T an L all os env st Q = vOps P T an L all os env' st' Q := by rw [h1, h2]
theorem vOps_nil (P : Program) (T : Nat → TI) (an : Nat → Nat) (L : List Nat) (all : Array Oper) (env : Env) (st : St) (Q : VExit → Env → St → Prop) : vOps P T an L all [] env st Q = Q .normal env st := rfl
theorem vOps_cons (P : Program) (T : Nat → TI) (an : Nat → Nat) (L : List Nat) (all : Array Oper) (dst : Option Tmp) (op : Op) (ty : TypeId) (pos : String) (aft : Array Edge) (gd : Option (Nat × Bool)) (os : List Oper) (env : Env) (st : St) (Q : VExit → Env → St → Prop) :
    vOps P T an L all (⟨dst, op, ty, pos, aft, gd⟩ :: os) env st Q = bindO (guardV all env gd) fun gc => okDstB env.N dst ∧
      runStep P T (stepOp T an dst op gc env st) gc gd.isSome env st (fun v st' => vOps P T an L all os (env.put L dst gc v) st' Q) Q := rfl

def vSeq (k : Env → St → Prop) (Q : VExit → Env → St → Prop) : VExit → Env → St → Prop
  | .normal, env, st => k env st
  | e, env, st => Q e env st
def vBlock (id : Nat) (Q : VExit → Env → St → Prop) : VExit → Env → St → Prop
  | .exit id', env, st => if id' = id then Q .normal env st else Q (.exit id') env st
  | e, env, st => Q e env st

theorem vSeq_normal (k : Env → St → Prop) (Q : VExit → Env → St → Prop) (env : Env) (st : St) : vSeq k Q .normal env st = k env st := rfl
theorem vSeq_exit (k : Env → St → Prop) (Q : VExit → Env → St → Prop) (env : Env) (st : St) (i : Nat) : vSeq k Q (.exit i) env st = Q (.exit i) env st := rfl
theorem vSeq_ret (k : Env → St → Prop) (Q : VExit → Env → St → Prop) (env : Env) (st : St) : vSeq k Q .ret env st = Q .ret env st := rfl
theorem vSeq_panic (k : Env → St → Prop) (Q : VExit → Env → St → Prop) (env : Env) (st : St) (v : V) : vSeq k Q (.panic v) env st = Q (.panic v) env st := rfl
theorem vBlock_normal (id : Nat) (Q : VExit → Env → St → Prop) (env : Env) (st : St) : vBlock id Q .normal env st = Q .normal env st := rfl
theorem vBlock_exit (id : Nat) (Q : VExit → Env → St → Prop) (env : Env) (st : St) (i : Nat) : vBlock id Q (.exit i) env st = if i = id then Q .normal env st else Q (.exit i) env st := rfl
theorem vBlock_ret (id : Nat) (Q : VExit → Env → St → Prop) (env : Env) (st : St) : vBlock id Q .ret env st = Q .ret env st := rfl
theorem vBlock_panic (id : Nat) (Q : VExit → Env → St → Prop) (env : Env) (st : St) (v : V) : vBlock id Q (.panic v) env st = Q (.panic v) env st := rfl

/-- Code but for its loops. -/
def vCode (P : Program) (T : Nat → TI) (an : Nat → Nat) (L : List Nat) (ds : List Deferred) : Code → Env → St → (VExit → Env → St → Prop) → Prop
  | .skip, env, st, Q => Q .normal env st
  | .region _ ops false, env, st, Q => vOps P T an L ops ops.toList { env with l := [] } st Q
  | .seq a b, env, st, Q => vCode P T an L ds a env st (vSeq (fun env st => vCode P T an L ds b env st Q) Q)
  | .cond c x y, env, st, Q => bindO (evO env c) fun r => match r with
    | (true, .bool t) => Split t (vCode P T an L ds x env st Q) (vCode P T an L ds y env st Q)
    | _ => False
  | .block id c, env, st, Q => vCode P T an L ds c env st (vBlock id Q)
  | .exit id, env, st, Q => Q (.exit id) env st
  | .ret, env, st, Q => Q .ret env st
  | c, env, st, Q => VC P T L ds c env st Q

@[congr] theorem vCode_congr {P : Program} {T : Nat → TI} {an : Nat → Nat} {L : List Nat} {ds : List Deferred} {c : Code} {env env' : Env} {st st' : St} {Q : VExit → Env → St → Prop} (h1 : env = env') (h2 : st = st') :
    vCode P T an L ds c env st Q = vCode P T an L ds c env' st' Q := by rw [h1, h2]

section
variable (P : Program) (T : Nat → TI) (an : Nat → Nat) (L : List Nat) (ds : List Deferred) (env : Env) (st : St) (Q : VExit → Env → St → Prop)
theorem vCode_skip : vCode P T an L ds .skip env st Q = Q .normal env st := rfl
theorem vCode_region (id : Nat) (ops : Array Oper) : vCode P T an L ds (.region id ops false) env st Q = vOps P T an L ops ops.toList { env with l := [] } st Q := rfl
theorem vCode_draw (id : Nat) (ops : Array Oper) : vCode P T an L ds (.region id ops true) env st Q = VC P T L ds (.region id ops true) env st Q := rfl
theorem vCode_seq (a b : Code) : vCode P T an L ds (.seq a b) env st Q = vCode P T an L ds a env st (vSeq (fun env st => vCode P T an L ds b env st Q) Q) := rfl
theorem vCode_cond (c : Operand) (x y : Code) : vCode P T an L ds (.cond c x y) env st Q = bindO (evO env c) fun r => match r with
    | (true, .bool t) => Split t (vCode P T an L ds x env st Q) (vCode P T an L ds y env st Q)
    | _ => False := rfl
theorem vCode_block (id : Nat) (c : Code) : vCode P T an L ds (.block id c) env st Q = vCode P T an L ds c env st (vBlock id Q) := rfl
theorem vCode_exit (id : Nat) : vCode P T an L ds (.exit id) env st Q = Q (.exit id) env st := rfl
theorem vCode_ret : vCode P T an L ds .ret env st Q = Q .ret env st := rfl
theorem vCode_loop (c : Code) : vCode P T an L ds (.loop c) env st Q = VC P T L ds (.loop c) env st Q := rfl
end
end Go.Proofs.Ytcegdbniggdckaa.Gw

namespace Go.Proofs.Ytcegdbniggdckaa.Gw
open Go
set_option linter.unusedSimpArgs false

section
variable {P : Program} {T : Nat → TI} {an : Nat → Nat} {L : List Nat} {ds : List Deferred}

theorem find_ins (m : List (Nat × Bool × V)) (t : Nat) (x : Bool × V) (u : Nat) : find (ins m t x) u = if t = u then some x else find m u := by
  induction m with
  | nil => simp [ins, find]
  | cons y r ih =>
    obtain ⟨k, y⟩ := y
    simp only [ins]
    split
    · rename_i h; subst h
      simp only [find]
      split <;> rfl
    · rename_i h
      simp only [find, ih]
      by_cases hk : k = u
      · subst hk; simp [Ne.symm h]
      · simp [hk]

theorem SimEnv.ext {g g' : G} {w w' : World} {env : Env} {a : Act} (h : SimEnv g w env a) (hx : Ext g w g' w') : SimEnv g' w' env a :=
  ⟨h.1, fun t c v hv => by
    have := h.2 t c v hv
    split at this
    · rename_i hc; rw [if_pos hc]; exact this.ext hx
    · rename_i hc; rw [if_neg hc]; exact this⟩

theorem SimEnv.put {g : G} {w : World} {env : Env} {a : Act} (h : SimEnv g w env a) (d : Option Tmp) (hd : okDstB env.N d) {c : Bool} {v : V} {val : Value} (hv : if c then SimV g w v val else val = undef) : SimEnv g w (env.put L d c v) (a.put d val) := by
  cases d with
  | none => exact h
  | some d =>
    have hd : d < env.N := hd
    have hsz : d < a.tmps.size := by rw [h.1]; exact hd
    have hget : ∀ t, (a.tmps.setIfInBounds d val).getD t undef = if d = t then val else a.tmps.getD t undef := by
      intro t
      simp only [Array.getD_eq_getD_getElem?, Array.getElem?_setIfInBounds]
      split
      · rename_i e; subst e; simp [hsz]
      · rfl
    have hlook : ∀ t, (env.put L (some d) c v).look t = if d = t then some (c, v) else env.look t := by
      intro t
      simp only [Env.put]
      split <;> simp only [Env.look, find, find_ins] <;> by_cases e : d = t <;> simp [e]
    have hN : (env.put L (some d) c v).N = env.N := by simp only [Env.put]; split <;> rfl
    refine ⟨by simp [Act.put, hN, h.1], fun t c' v' ht => ?_⟩
    rw [hlook] at ht
    simp only [Act.put, hget]
    split at ht
    · rename_i e
      cases ht
      rw [if_pos e]; exact hv
    · rename_i e
      rw [if_neg e]; exact h.2 t c' v' ht

theorem EnvOK.put {env : Env} (h : EnvOK L env) (d : Option Tmp) (c : Bool) (v : V) : EnvOK L (env.put L d c v) := by
  cases d with
  | none => exact h
  | some d =>
    intro t x ht
    simp only [Env.put] at ht ⊢
    split at ht
    · rename_i hm
      rw [if_pos hm]
      simp only [find_ins] at ht
      simp only [Env.look, find]
      split at ht
      · rename_i e; subst e
        cases ht
        exact ⟨hm, by simp⟩
      · rename_i e
        have := h t x ht
        simp only [Env.look] at this
        simp only [find_ins, if_neg e]
        exact this
    · rename_i hm
      rw [if_neg hm]
      have := h t x ht
      have e : d ≠ t := by intro e; subst e; exact hm this.1
      simp only [Env.look, find, if_neg e]
      exact this

theorem evO_sim {g : G} {w : World} {env : Env} {a : Act} (h : SimEnv g w env a) {x : Operand} {c : Bool} {v : V} (hx : evO env x = some (c, v)) : if c then SimV g w v (a.eval x) else a.eval x = undef := by
  cases x with
  | tmp t => exact h.2 t c v hx
  | const u => simp only [evO, Option.some.injEq, Prod.mk.injEq] at hx; obtain ⟨rfl, rfl⟩ := hx; exact ofConst_sim g w u
  | func f => simp only [evO, Option.some.injEq, Prod.mk.injEq] at hx; obtain ⟨rfl, rfl⟩ := hx; simp only [if_true, SimV]; exact ⟨[], rfl, by simp [SimVs]⟩
  | global n => simp [evO] at hx

theorem evG_sim {g : G} {w : World} {env : Env} {a : Act} (h : SimEnv g w env a) {gc : Bool} (hg : gc = true) (x : Operand) : SimV g w (evG env gc x) (a.eval x) := by
  subst hg
  unfold evG
  split
  · rename_i c v hx
    have := evO_sim h hx
    cases c with
    | true => simpa using this
    | false => simp [SimV]
  · simp [SimV]

theorem guardV_wanted {g : G} {w : World} {env : Env} {a : Act} (h : SimEnv g w env a) {all : Array Oper} {o : Oper} {gc : Bool} (hg : guardV all env o.guard = some gc) : Region.wanted o (yielded all a.tmps) = gc := by
  unfold guardV at hg
  unfold Region.wanted
  split at hg
  · rename_i e; simp only [Option.some.injEq] at hg; subst hg; rw [e]
  · rename_i j want e
    rw [e]
    split at hg
    case h_2 => simp at hg
    rename_i d hd
    split at hg
    case h_2 => simp at hg
    rename_i c b hl
    simp only [Option.some.injEq] at hg
    subst hg
    have hs := h.2 d c _ hl
    simp only [dstAt] at hd
    have hget : a.tmps[d]? = some (a.tmps.getD d undef) ∨ a.tmps[d]? = none ∧ a.tmps.getD d undef = undef := by
      rcases Nat.lt_or_ge d a.tmps.size with hlt | hge
      · left; simp [Array.getD_eq_getD_getElem?, hlt]
      · right; simp [Array.getD_eq_getD_getElem?, hge]
    simp only [yielded, hd, Option.bind_some]
    cases c with
    | true =>
      simp only [if_true, SimV] at hs
      rcases hget with hg | ⟨_, hg⟩
      · rw [hg, hs]
        cases b <;> cases want <;> rfl
      · rw [hs] at hg; simp [undef] at hg
    | false =>
      simp only [Bool.false_eq_true, if_false] at hs
      rcases hget with hg | ⟨hg, _⟩
      · rw [hg, hs]; rfl
      · rw [hg]; rfl

theorem s_pick {g : G} {w : World} {env : Env} {a : Act} (h : SimEnv g w env a) {gc : Bool} (hg : gc = true) {c x y : Operand} {v : V} {side : Prop} (hp : pickV env gc c x y = some (v, side)) (hs : side) {o : Oper} (ho : o.op = .pick c x y) :
    ∃ val, (execOp a.eval o).run P w = .ok (.value val) w ∧ SimV g w v val := by
  unfold pickV at hp
  split at hp
  case h_2 => simp at hp
  rename_i cc b ca p cb q hc hx hy
  simp only [Option.some.injEq, Prod.mk.injEq] at hp
  obtain ⟨rfl, rfl⟩ := hp
  obtain ⟨s1, s2, s3⟩ := hs hg
  have k1 := evO_sim h hc
  have k2 := evO_sim h hx
  have k3 := evO_sim h hy
  simp only [s1, if_true, SimV] at k1
  cases b with
  | true =>
    simp only [s2 rfl, if_true, SimV] at k2
    exact ⟨.bool p, by simp [execOp, ho, k1, asBool, k2], by simp [SimV]⟩
  | false =>
    simp only [s3 rfl, if_true, SimV] at k3
    exact ⟨.bool q, by simp [execOp, ho, k1, asBool, k3], by simp [SimV]⟩

theorem memOp_sound (hT : Tab P T) {g : G} {w : World} {st : St} (hst : SimSt T g st w) {ρ : Operand → Value} {ev : Operand → V} (hev : ∀ x, SimV g w (ev x) (ρ x)) {o : Oper} {v : V} {st' : St} {side : Prop}
    (h : memOp T an o.dst o.op ev st = some (v, st', side)) (hs : side) : Did P T ρ o g w v st' := by
  obtain ⟨dst, op, ty, pos, aft, gd⟩ := o
  simp only at h
  cases op with
  | alloc t => exact s_alloc hT hst h
  | box t x => exact s_box hst hev h
  | load t x => exact s_load hT hst hev h hs
  | store t x y => exact s_store hT hst hev h hs
  | buildSlice t n parts => exact s_buildSlice hT hst hev h
  | call c =>
    simp only [memOp] at h
    split at h
    case h_2 => simp at h
    rename_i s x t xt hc ha ht
    have hts : c.argTypes = #[t, xt] := by cases hh : c.argTypes; rw [hh] at ht; simpa using ht
    have key : ∀ {e : TypeId} {d : TypeDesc}, P.underlying t = some (.slice e) → P.underlying xt = some d → (d = .string ∨ ∃ e', d = .slice e') →
        (if (T e).sized ∧ (T e).bytes ≠ 0 then match rowsOf (T e).size x with | some m => appendV (an (dst.getD 0)) e (T e) s m st | none => none else none) = some (v, st', side) →
        Did P T ρ ⟨dst, .call c, ty, pos, aft, gd⟩ g w v st' := by
      intro e d hu hx hd h2
      split at h2
      case isFalse => simp at h2
      rename_i hsz
      split at h2
      case h_2 => simp at h2
      rename_i m hm
      cases hal : c.args.toList with
      | nil => rw [hal] at ha; simp at ha
      | cons a0 r =>
        cases r with
        | nil => rw [hal] at ha; simp at ha
        | cons a1 r =>
          cases r with
          | cons _ _ => rw [hal] at ha; simp at ha
          | nil =>
            rw [hal] at ha
            simp only [List.map_cons, List.map_nil, List.cons.injEq, and_true] at ha
            obtain ⟨rfl, rfl⟩ := ha
            have has : c.args = #[a0, a1] := by cases hh : c.args; rw [hh] at hal; simpa using hal
            obtain ⟨val, w', g', r1, r2, r3, r4⟩ := s_append hT hst hsz.1 hsz.2 hu hx hd (hev a0) (hev a1) hm h2 hs (ty := ty)
            refine ⟨.value val, val, w', g', ?_, .inl rfl, r2, r3, r4⟩
            simp [execOp, resolve, hc, has, hts, invoke, builtin, r1]
    split at h
    · rename_i e _ h1 h2
      exact key (hT.slice h1) (hT.slice h2) (.inr ⟨_, rfl⟩) h
    · rename_i e h1 h2
      exact key (hT.slice h1) (hT.str h2) (.inl rfl) h
    · simp at h
  | _ => simp [memOp] at h

theorem okQ_step {all : Array Oper} {g0 g : G} {w0 w : World} (hx : Ext g0 w0 g w) {Q : VExit → Env → St → Prop} {o : Oper} {os : List Oper} {env : Env} {st : St} {a : Act}
    (hst : SimSt T g st w) (henv : SimEnv g w env a) (hok : EnvOK L env) (hds : a.defers = ds) {gc : Bool} (hw : Region.wanted o (yielded all a.tmps) = gc) (hd : okDstB env.N o.dst)
    (hrest : ∀ (env' : Env) (st' : St) (g' : G) (w' : World) (a' : Act), Ext g0 w0 g' w' → SimSt T g' st' w' → SimEnv g' w' env' a' → EnvOK L env' → a'.defers = ds → vOps P T an L all os env' st' Q → wpList P all (Lift T L ds g0 w0 Q) os a' w')
    {v : V} {st' : St} (hgc : gc = true → Did P T a.eval o g w v st') (hst' : gc = false → st' = st)
    (hk : vOps P T an L all os (env.put L o.dst gc v) st' Q) : wpList P all (Lift T L ds g0 w0 Q) (o :: os) a w := by
  simp only [wpList, hw]
  cases gc with
  | true =>
    simp only [if_true]
    obtain ⟨r, val, w', g', h1, h2, h3, h4, h5⟩ := hgc rfl
    left
    have hp := (henv.ext h5).put (L := L) o.dst hd (c := true) (v := v) (val := val) (by simpa using h3)
    have hds' : (a.put o.dst val).defers = ds := by cases hh : o.dst <;> simpa [Act.put] using hds
    have := hrest _ st' g' w' _ (hx.trans h5) h4 hp (hok.put _ _ _) hds' hk
    unfold Oper.wp Oper.upon
    rcases h2 with rfl | ⟨rfl, rfl⟩ <;> rw [h1] <;> exact this
  | false =>
    simp only [Bool.false_eq_true, if_false]
    have := hst' rfl
    subst this
    have hp := henv.put (L := L) o.dst hd (c := false) (v := v) (val := undef) (by simp)
    have hds' : (a.put o.dst undef).defers = ds := by cases hh : o.dst <;> simpa [Act.put] using hds
    exact hrest _ st' g w _ hx hst hp (hok.put _ _ _) hds' hk

theorem Did.of_pure {o : Oper} {ρ : Operand → Value} {g : G} {w : World} {st : St} {v : V} (hst : SimSt T g st w) (h : ∃ val, (execOp ρ o).run P w = .ok (.value val) w ∧ SimV g w v val) : Did P T ρ o g w v st := by
  obtain ⟨val, h1, h2⟩ := h
  exact ⟨_, val, w, g, h1, .inl rfl, h2, hst, Ext.refl _ _⟩

theorem vOps_sound (hT : Tab P T) {all : Array Oper} {Q : VExit → Env → St → Prop} {g0 : G} {w0 : World} : ∀ (os : List Oper) (env : Env) (st : St) (g : G) (w : World) (a : Act),
    Ext g0 w0 g w → SimSt T g st w → SimEnv g w env a → EnvOK L env → a.defers = ds → vOps P T an L all os env st Q → wpList P all (Lift T L ds g0 w0 Q) os a w
  | [], env, st, g, w, a, hx, hst, henv, hok, hds, h => ⟨.normal, env, st, g, h, rfl, henv, hok, hds, hst, hx⟩
  | o :: os, env, st, g, w, a, hx, hst, henv, hok, hds, h => by
    have hrest : ∀ (env' : Env) (st' : St) (g' : G) (w' : World) (a' : Act), Ext g0 w0 g' w' → SimSt T g' st' w' → SimEnv g' w' env' a' → EnvOK L env' → a'.defers = ds → vOps P T an L all os env' st' Q → wpList P all (Lift T L ds g0 w0 Q) os a' w' :=
      fun env' st' g' w' a' h1 h2 h3 h0 h4 h5 => vOps_sound hT os env' st' g' w' a' h1 h2 h3 h0 h4 h5
    simp only [vOps] at h
    unfold bindO at h
    split at h
    case h_2 => exact h.elim
    rename_i gc hgc
    obtain ⟨hd, h⟩ := h
    have hw := guardV_wanted henv hgc
    have hev : gc = true → ∀ x, SimV g w (evG env gc x) (a.eval x) := fun hg x => evG_sim henv hg x
    have pureCase : ∀ {r : Step}, r = pureStep T an o.dst o.op (evG env gc) st → runStep P T r gc o.guard.isSome env st (fun v st' => vOps P T an L all os (env.put L o.dst gc v) st' Q) Q → wpList P all (Lift T L ds g0 w0 Q) (o :: os) a w := by
      intro r hr h
      subst hr
      unfold pureStep at h
      split at h
      · rename_i v side hp
        obtain ⟨h1, h2⟩ := h
        exact okQ_step hx hst henv hok hds hw hd hrest (v := v) (st' := st) (fun hg => Did.of_pure hst (by
          obtain ⟨dst, op, ty, pos, aft, gd⟩ := o
          exact pureOp_sound hT (hev hg) hp (h1 hg))) (fun _ => rfl) h2
      · unfold memStep at h
        split at h
        · rename_i v st' side hp
          obtain ⟨h0, h1, h2⟩ := h
          exact okQ_step hx hst henv hok hds hw hd hrest (v := v) (st' := st') (fun hg => memOp_sound hT hst (hev hg) hp (h1 hg)) (fun hf => h0.resolve_left (by rw [hf]; simp)) h2
        · split at h
          · rename_i v st' side hp
            obtain ⟨h0, h1, h2⟩ := h
            exact okQ_step hx hst henv hok hds hw hd hrest (v := v) (st' := st') (fun hg => moreOp_sound hT hst (hev hg) hp (h1 hg)) (fun hf => h0.resolve_left (by rw [hf]; simp)) h2
          · exact h.elim
    cases hop : o.op with
    | pick c x y =>
      simp only [hop, stepOp] at h
      split at h
      · rename_i v side hp
        obtain ⟨h1, h2⟩ := h
        exact okQ_step hx hst henv hok hds hw hd hrest (v := v) (st' := st) (fun hg => Did.of_pure hst (s_pick henv hg hp (h1 hg) hop)) (fun _ => rfl) h2
      · exact h.elim
    | panic x =>
      simp only [hop, stepOp] at h
      obtain ⟨hg, h1, t, y, h2⟩ := h
      subst hg
      have hv := hev rfl x
      simp only [wpList, hw, if_true]
      left
      rw [h2] at hv
      have hv' := hv
      simp only [SimV] at hv
      obtain ⟨z, hz, _⟩ := hv
      unfold Oper.wp Oper.upon
      have hrun : (execOp a.eval o).run P w = .halt (.panic (.iface t z)) w := by simp [execOp, hop, Instr.panic, hz]
      rw [hrun]
      refine ⟨.panic (.iface t y), env, st, g, ?_, ⟨_, rfl, by rw [← hz]; exact hv'⟩, henv, hok, hds, hst, hx⟩
      have := h1 t y h2
      rw [h2] at this; exact this
    | next it s =>
      simp only [hop, stepOp] at h
      cases s with
      | true => exact h.elim
      | false =>
        simp only [cond_false] at h
        cases hn : nextV (evG env gc it) st with
        | none => rw [hn] at h; exact h.elim
        | some l =>
          rw [hn] at h
          obtain ⟨hg, h⟩ := h
          subst hg
          obtain ⟨p, hp, val, w', g', h1, h2, h3, h4⟩ := s_next (P := P) hst (hev rfl it) hn (ty := o.type)
          exact okQ_step hx hst henv hok hds hw hd hrest (v := p.1) (st' := p.2) (fun _ => ⟨.value val, val, w', g', by simp [execOp, hop, h1], .inl rfl, h2, h3, h4⟩) (fun hf => by cases hf) (h p hp)
    | call c =>
      simp only [hop, stepOp] at h
      split at h
      · rename_i f hcal
        split at h
        case h_2 => exact h.elim
        rename_i k cap hf
        have henter : gc = true → ∃ vals : List Value, (execOp a.eval o).run P w = (callFunc k vals.toArray).run P w ∧ SimVs g w (c.args.toList.map (evG env gc) ++ cap) vals := by
          intro hg
          have hfv := hev hg f
          rw [hf] at hfv
          simp only [SimV] at hfv
          obtain ⟨vs, hfe, hvs⟩ := hfv
          refine ⟨c.args.toList.map a.eval ++ vs, ?_, (evs_sim (hev hg) _).append hvs⟩
          have e : c.args.map a.eval ++ vs.toArray = (c.args.toList.map a.eval ++ vs).toArray := by apply Array.ext'; simp
          simp [execOp, hop, resolve, hcal, hfe, Deferred.ofValue, invoke, e]
        have hstep : ∀ {args : List V} {K : V → St → Prop} (hg : gc = true), VCalls P T k args st (afterCall env K Q) → (∀ v st', K v st' → vOps P T an L all os (env.put L o.dst gc v) st' Q) → (∀ vals : List Value, (execOp a.eval o).run P w = (callFunc k vals.toArray).run P w → SimVs g w args vals → o.wp P a w (wpList P all (Lift T L ds g0 w0 Q) os) (Lift T L ds g0 w0 Q)) := by
          intro args K hg hcall hK vals hrun hsim
          obtain ⟨⟨fn, e1, e2, e3⟩, hcall⟩ := hcall
          have hcf : (callFunc k vals.toArray).run P w = .ok (.enter k vals.toArray) w := by
            have e2' : ¬ fn.body = none := by intro hb; rw [hb] at e2; simp at e2
            have e3' : ¬ fn.name = "runtime.NumGoroutine" := by simpa using e3
            simp [callFunc, e1, e2', e3']
          unfold Oper.wp Oper.upon
          rw [hrun, hcf]
          refine (hcall g w vals hst hsim).mono fun e w' ⟨r, st', g', k1, k2, k3, k4⟩ => ?_
          cases r with
          | ret v =>
            obtain ⟨val, rfl, hv⟩ := k2
            have hp := (henv.ext k4).put (L := L) o.dst hd (c := true) (v := v) (val := val) (by simpa using hv)
            have hds' : (a.put o.dst val).defers = ds := by cases hh : o.dst <;> simpa [Act.put] using hds
            have := hK v st' k1
            rw [hg] at this
            exact hrest _ st' g' w' _ (hx.trans k4) k3 hp (hok.put _ _ _) hds' this
          | panic v =>
            obtain ⟨val, rfl, hv⟩ := k2
            exact ⟨.panic v, env, st', g', k1, ⟨val, rfl, hv⟩, henv.ext k4, hok, hds, k3, hx.trans k4⟩
        cases hgd : o.guard.isSome with
        | false =>
          rw [hgd] at h
          simp only [runStep] at h
          obtain ⟨hg, h⟩ := h
          obtain ⟨vals, q1, q2⟩ := henter hg
          simp only [wpList, hw, hg, if_true]
          exact .inl (hstep hg h (fun v st' hk => hk) vals q1 q2)
        | true =>
          rw [hgd] at h
          simp only [runStep] at h
          obtain ⟨v, st2, h1, h3, h2⟩ := h
          cases hg : gc with
          | true =>
            obtain ⟨vals, q1, q2⟩ := henter hg
            simp only [wpList, hw, hg, if_true]
            refine .inl (hstep (K := fun v' st' => v' = v ∧ st' = st2) hg ((h1 hg).mono fun r st' ⟨e1, e2⟩ => by subst e1; exact ⟨rfl, e2⟩) (fun v' st' ⟨e1, e2⟩ => by subst e1; subst e2; exact h2) vals q1 q2)
          | false =>
            exact okQ_step hx hst henv hok hds hw hd hrest (v := v) (st' := st2) (fun hg' => by rw [hg] at hg'; cases hg') (fun _ => h3 hg) h2
      · simp only [← hop] at h
        exact pureCase rfl h
      · exact h.elim
    | _ => all_goals (simp only [hop, stepOp] at h; exact pureCase (by rw [hop]) h)
end
end Go.Proofs.Ytcegdbniggdckaa.Gw

namespace Go.Proofs.Ytcegdbniggdckaa.Gw
open Go
set_option linter.unusedSimpArgs false

mutual
/-- Of objects below n alone is spoken. -/
def V.lt (n : Nat) : V → Prop
  | .lst _ t l => (∀ e, t = some e → e < n) ∧ ltRows n l
  | .arr e _ => e < n
  | .eptr e _ _ _ _ => e < n
  | .ptr o _ => o < n
  | .map o => o < n
  | .agg l => ltL n l
  | .tup l => ltL n l
  | .ref l => ltL n l
  | .fn _ c => ltL n c
  | .iface _ v => V.lt n v
  | .int _ _ | .bool _ | .str _ | .nils | .nilp | .nilf | .nilm | .nili | .junk => True
def ltL (n : Nat) : List V → Prop
  | [] => True
  | x :: xs => V.lt n x ∧ ltL n xs
def ltRows (n : Nat) : List (List V) → Prop
  | [] => True
  | x :: xs => ltL n x ∧ ltRows n xs
end

mutual
/-- What is held is no longer than what an int holds. -/
def V.fit : V → Prop
  | .str s => s.length ≤ 9223372036854775807
  | .lst _ _ l => l.length ≤ 9223372036854775807 ∧ fitR l
  | .agg l => fitL l
  | .tup l => fitL l
  | .ref l => fitL l
  | .fn _ c => fitL c
  | .iface _ v => V.fit v
  | .arr _ _ | .eptr _ _ _ _ _ | .ptr _ _ | .map _ | .int _ _ | .bool _ | .nils | .nilp | .nilf | .nilm | .nili | .junk => True
def fitL : List V → Prop
  | [] => True
  | x :: xs => V.fit x ∧ fitL xs
def fitR : List (List V) → Prop
  | [] => True
  | x :: xs => fitL x ∧ fitR xs
end

mutual
theorem SimV.fit {g : G} {w : World} : ∀ {x : V} {v : Value}, SimV g w x v → x.fit
  | .lst sz t l, v, h => by
    simp only [SimV] at h
    obtain ⟨a, cap, _, h1, h2, _, _, _, h3⟩ := h
    simp only [V.fit]
    have : maxLen = 9223372036854775807 := rfl
    exact ⟨by omega, SimRows.fit h3⟩
  | .str s, v, h => by simp only [SimV] at h; simp only [V.fit]; exact h.2
  | .ref l, v, h => by simp only [SimV] at h; obtain ⟨a, _, _, h⟩ := h; simp only [V.fit]; exact SimAt.fit h
  | .agg l, v, h => by simp only [SimV] at h; obtain ⟨_, _, h, _⟩ := h; simp only [V.fit]; exact SimVs.fit h
  | .tup l, v, h => by simp only [SimV] at h; obtain ⟨_, _, h⟩ := h; simp only [V.fit]; exact SimVs.fit h
  | .fn f c, v, h => by simp only [SimV] at h; obtain ⟨_, _, h⟩ := h; simp only [V.fit]; exact SimVs.fit h
  | .iface t x, v, h => by simp only [SimV] at h; obtain ⟨_, _, h⟩ := h; simp only [V.fit]; exact SimV.fit h
  | .arr _ _, _, _ | .eptr _ _ _ _ _, _, _ | .ptr _ _, _, _ | .map _, _, _ | .int _ _, _, _ | .bool _, _, _ | .nils, _, _ | .nilp, _, _ | .nilf, _, _ | .nilm, _, _ | .nili, _, _ | .junk, _, _ => by simp [V.fit]
theorem SimVs.fit {g : G} {w : World} : ∀ {x : List V} {v : List Value}, SimVs g w x v → fitL x
  | [], _, _ => trivial
  | x :: xs, _, h => by
    simp only [SimVs] at h
    obtain ⟨v, r, _, h1, h2⟩ := h
    exact ⟨SimV.fit h1, SimVs.fit h2⟩
theorem SimAt.fit {g : G} {w : World} : ∀ {a : Addr} {x : List V}, SimAt g w a x → fitL x
  | _, [], _ => trivial
  | _, x :: xs, h => by
    simp only [SimAt] at h
    obtain ⟨⟨v, _, _, _, h1⟩, h2⟩ := h
    exact ⟨SimV.fit h1, SimAt.fit h2⟩
theorem SimRows.fit {g : G} {w : World} : ∀ {a : Addr} {sz : Nat} {x : List (List V)}, SimRows g w a sz x → fitR x
  | _, _, [], _ => trivial
  | _, _, x :: xs, h => by
    simp only [SimRows] at h
    exact ⟨SimAt.fit h.2.1, SimRows.fit h.2.2⟩
end

def Ent.lt (n : Nat) : Ent → Prop
  | .box c => ltL n c
  | .arr _ _ c => ltRows n c
  | .map _ es => ∀ e ∈ es, e.2.1.lt n ∧ e.2.2.lt n
  | .iter m _ _ => m < n
  | .tip _ _ | .gone => True

def St.ok (st : St) : Prop := ∀ e ∈ st, e.lt st.length

theorem ltL_append {n : Nat} : ∀ {x y : List V}, ltL n x → ltL n y → ltL n (x ++ y)
  | [], _, _, k => k
  | x :: xs, y, h, k => by simp only [List.cons_append, ltL] at h ⊢; exact ⟨h.1, ltL_append h.2 k⟩
theorem ltRows_append {n : Nat} : ∀ {x y : List (List V)}, ltRows n x → ltRows n y → ltRows n (x ++ y)
  | [], _, _, k => k
  | x :: xs, y, h, k => by simp only [List.cons_append, ltRows] at h ⊢; exact ⟨h.1, ltRows_append h.2 k⟩
theorem ltRows_map {α : Type} {n : Nat} {f : α → List V} : ∀ {l : List α}, (∀ x ∈ l, ltL n (f x)) → ltRows n (l.map f)
  | [], _ => trivial
  | x :: xs, h => ⟨h x (by simp), ltRows_map fun y hy => h y (by simp [hy])⟩

mutual
theorem SimV.lt {g : G} {w : World} : ∀ {x : V} {v : Value}, SimV g w x v → x.lt g.n
  | .lst sz t l, v, h => by
    simp only [SimV] at h
    obtain ⟨a, cap, _, _, _, _, _, h1, h2⟩ := h
    simp only [V.lt]
    exact ⟨fun e he => (h1 e he).1, SimRows.lt h2⟩
  | .arr e n, v, h => by simp only [SimV] at h; simp only [V.lt]; exact h.1
  | .eptr e n sz k off, v, h => by simp only [SimV] at h; simp only [V.lt]; exact h.1
  | .ref l, v, h => by simp only [SimV] at h; obtain ⟨a, _, _, h⟩ := h; simp only [V.lt]; exact SimAt.lt h
  | .ptr o off, v, h => by simp only [SimV] at h; simp only [V.lt]; exact h.1
  | .agg l, v, h => by simp only [SimV] at h; obtain ⟨_, _, h, _⟩ := h; simp only [V.lt]; exact SimVs.lt h
  | .tup l, v, h => by simp only [SimV] at h; obtain ⟨_, _, h⟩ := h; simp only [V.lt]; exact SimVs.lt h
  | .fn f c, v, h => by simp only [SimV] at h; obtain ⟨_, _, h⟩ := h; simp only [V.lt]; exact SimVs.lt h
  | .map o, v, h => by simp only [SimV] at h; simp only [V.lt]; exact h.1
  | .iface t x, v, h => by simp only [SimV] at h; obtain ⟨_, _, h⟩ := h; simp only [V.lt]; exact SimV.lt h
  | .int _ _, _, _ | .bool _, _, _ | .str _, _, _ | .nils, _, _ | .nilp, _, _ | .nilf, _, _ | .nilm, _, _ | .nili, _, _ | .junk, _, _ => by simp [V.lt]
theorem SimVs.lt {g : G} {w : World} : ∀ {x : List V} {v : List Value}, SimVs g w x v → ltL g.n x
  | [], _, _ => by simp [ltL]
  | x :: xs, _, h => by
    simp only [SimVs] at h
    obtain ⟨v, r, _, h2, h3⟩ := h
    simp only [ltL]
    exact ⟨SimV.lt h2, SimVs.lt h3⟩
theorem SimAt.lt {g : G} {w : World} : ∀ {a : Addr} {x : List V}, SimAt g w a x → ltL g.n x
  | _, [], _ => by simp [ltL]
  | a, x :: xs, h => by
    simp only [SimAt] at h
    obtain ⟨⟨v, _, _, _, h2⟩, h3⟩ := h
    simp only [ltL]
    exact ⟨SimV.lt h2, SimAt.lt h3⟩
theorem SimRows.lt {g : G} {w : World} : ∀ {a : Addr} {sz : Nat} {x : List (List V)}, SimRows g w a sz x → ltRows g.n x
  | _, _, [], _ => by simp [ltRows]
  | a, sz, x :: xs, h => by
    simp only [SimRows] at h
    simp only [ltRows]
    exact ⟨SimAt.lt h.2.1, SimRows.lt h.2.2⟩
end

def G.cut (g : G) (k : Nat) : G := { g with n := k }

mutual
theorem SimV.cut {g : G} {w : World} {k : Nat} : ∀ {x : V} {v : Value}, SimV g w x v → x.lt k → SimV (g.cut k) w x v
  | .lst sz t l, v, h, hl => by
    simp only [SimV] at h ⊢
    simp only [V.lt] at hl
    obtain ⟨a, cap, h1, h2, h3, h4, h5, h6, h7⟩ := h
    exact ⟨a, cap, h1, h2, h3, h4, h5, fun e he => ⟨hl.1 e he, (h6 e he).2⟩, SimRows.cut h7 hl.2⟩
  | .arr e n, v, h, hl => by simp only [SimV] at h ⊢; exact ⟨by simpa [V.lt, G.cut] using hl, h.2⟩
  | .eptr e n sz k off, v, h, hl => by simp only [SimV] at h ⊢; exact ⟨by simpa [V.lt, G.cut] using hl, h.2⟩
  | .ref l, v, h, hl => by simp only [SimV] at h ⊢; obtain ⟨a, h1, h2, h⟩ := h; exact ⟨a, h1, h2, SimAt.cut h (by simpa [V.lt] using hl)⟩
  | .ptr o off, v, h, hl => by simp only [SimV] at h ⊢; exact ⟨by simpa [V.lt, G.cut] using hl, h.2⟩
  | .agg l, v, h, hl => by simp only [SimV] at h ⊢; obtain ⟨u, h1, h, h2⟩ := h; exact ⟨u, h1, SimVs.cut h (by simpa [V.lt] using hl), h2⟩
  | .tup l, v, h, hl => by simp only [SimV] at h ⊢; obtain ⟨u, h1, h⟩ := h; exact ⟨u, h1, SimVs.cut h (by simpa [V.lt] using hl)⟩
  | .fn f c, v, h, hl => by simp only [SimV] at h ⊢; obtain ⟨u, h1, h⟩ := h; exact ⟨u, h1, SimVs.cut h (by simpa [V.lt] using hl)⟩
  | .map o, v, h, hl => by simp only [SimV] at h ⊢; exact ⟨by simpa [V.lt, G.cut] using hl, h.2⟩
  | .iface t x, v, h, hl => by simp only [SimV] at h ⊢; obtain ⟨u, h1, h⟩ := h; exact ⟨u, h1, SimV.cut h (by simpa [V.lt] using hl)⟩
  | .int _ _, _, h, _ | .bool _, _, h, _ | .str _, _, h, _ | .nils, _, h, _ | .nilp, _, h, _ | .nilf, _, h, _ | .nilm, _, h, _ | .nili, _, h, _ => by simpa [SimV] using h
  | .junk, _, _, _ => by simp [SimV]
theorem SimVs.cut {g : G} {w : World} {k : Nat} : ∀ {x : List V} {v : List Value}, SimVs g w x v → ltL k x → SimVs (g.cut k) w x v
  | [], _, h, _ => by simpa [SimVs] using h
  | x :: xs, _, h, hl => by
    simp only [SimVs] at h ⊢
    simp only [ltL] at hl
    obtain ⟨v, r, h1, h2, h3⟩ := h
    exact ⟨v, r, h1, SimV.cut h2 hl.1, SimVs.cut h3 hl.2⟩
theorem SimAt.cut {g : G} {w : World} {k : Nat} : ∀ {a : Addr} {x : List V}, SimAt g w a x → ltL k x → SimAt (g.cut k) w a x
  | _, [], _, _ => by simp [SimAt]
  | a, x :: xs, h, hl => by
    simp only [SimAt] at h ⊢
    simp only [ltL] at hl
    obtain ⟨⟨v, h1, h2, h3, h4⟩, h5⟩ := h
    exact ⟨⟨v, h1, h2, h3, SimV.cut h4 hl.1⟩, SimAt.cut h5 hl.2⟩
theorem SimRows.cut {g : G} {w : World} {k : Nat} : ∀ {a : Addr} {sz : Nat} {x : List (List V)}, SimRows g w a sz x → ltRows k x → SimRows (g.cut k) w a sz x
  | _, _, [], _, _ => by simp [SimRows]
  | a, sz, x :: xs, h, hl => by
    simp only [SimRows] at h ⊢
    simp only [ltRows] at hl
    exact ⟨h.1, SimAt.cut h.2.1 hl.1, SimRows.cut h.2.2 hl.2⟩
end

section
variable {P : Program} {T : Nat → TI} {an : Nat → Nat} {L : List Nat} {ds : List Deferred}

theorem SimEs.lt {g : G} {w : World} : ∀ {es : List (Nat × V × V)} {l : List MapEntry}, SimEs g w es l → ∀ e ∈ es, e.2.1.lt g.n ∧ e.2.2.lt g.n
  | [], _, _, e, h => by simp at h
  | (b, k, v) :: r, _, h, e, he => by
    obtain ⟨e', t, _, _, h1, h2, h3⟩ := h
    rcases List.mem_cons.1 he with rfl | he
    · exact ⟨h1.lt, h2.lt⟩
    · exact h3.lt e he
theorem SimEs.cut {g : G} {w : World} {k : Nat} : ∀ {es : List (Nat × V × V)} {l : List MapEntry}, SimEs g w es l → (∀ e ∈ es, e.2.1.lt k ∧ e.2.2.lt k) → SimEs (g.cut k) w es l
  | [], _, h, _ => h
  | (b, x, v) :: r, _, h, hl => by
    obtain ⟨e', t, q1, q2, h1, h2, h3⟩ := h
    have := hl _ (List.mem_cons_self)
    exact ⟨e', t, q1, q2, h1.cut this.1, h2.cut this.2, h3.cut fun e he => hl e (List.mem_cons_of_mem _ he)⟩

theorem SimSt.okSt {g : G} {st : St} {w : World} (h : SimSt T g st w) : St.ok st := by
  intro e he
  obtain ⟨i, hi⟩ := List.getElem?_of_mem he
  have := h.ent i e hi
  rw [← h.n]
  cases e with
  | box c => obtain ⟨_, vs, t, _, h, _⟩ := this; exact h.lt
  | tip e n => trivial
  | gone => trivial
  | map c es => obtain ⟨_, _, l, _, h⟩ := this; exact h.lt
  | iter m since seen => exact this.2.1
  | arr e sz c =>
    obtain ⟨_, h1, xs, _, h, _⟩ := this
    simp only [Ent.lt]
    have key : ∀ c : List (List V), ltL g.n c.flatten → ltRows g.n c := by
      intro c
      induction c with
      | nil => intro _; trivial
      | cons r rs ih =>
        intro h
        rw [List.flatten_cons] at h
        have sp : ∀ (x y : List V), ltL g.n (x ++ y) → ltL g.n x ∧ ltL g.n y := by
          intro x
          induction x with
          | nil => intro y h; exact ⟨trivial, h⟩
          | cons a x ih => intro y h; simp only [List.cons_append, ltL] at h ⊢; exact ⟨⟨h.1, (ih y h.2).1⟩, (ih y h.2).2⟩
        exact ⟨(sp _ _ h).1, ih (sp _ _ h).2⟩
    exact key c h.lt

/-- The entries behind may be forgotten. -/
theorem SimSt.drop {g : G} {st ex : St} {w : World} (h : SimSt T g (st ++ ex) w) (hl : St.ok st) : SimSt T (g.cut st.length) st w where
  n := rfl
  ent := fun i e hi => by
    have hlt := (List.getElem?_eq_some_iff.1 hi).1
    have hi' : (st ++ ex)[i]? = some e := by rw [List.getElem?_append_left hlt]; exact hi
    have he := hl e (List.mem_of_getElem? hi)
    have := h.ent i e hi'
    cases e with
    | box c => obtain ⟨h1, vs, t, h2, h3, h4⟩ := this; exact ⟨h1, vs, t, h2, h3.cut he, h4⟩
    | tip e n => exact this
    | gone => trivial
    | map c es => obtain ⟨h1, h2, l, h3, h4⟩ := this; exact ⟨h1, h2, l, h3, h4.cut he⟩
    | iter m since seen => obtain ⟨h1, h2, h3⟩ := this; exact ⟨h1, he, h3⟩
    | arr e sz c =>
      obtain ⟨h1, h2, xs, h3, h4, h5⟩ := this
      have key : ∀ c : List (List V), ltRows st.length c → ltL st.length c.flatten := by
        intro c
        induction c with
        | nil => intro _; trivial
        | cons r rs ih => intro h; rw [List.flatten_cons]; exact ltL_append h.1 (ih h.2)
      exact ⟨h1, h2, xs, h3, h4.cut (key c he), h5⟩
  one := fun i j ei ej b hi hj k1 k2 => by
    have hi' : (st ++ ex)[i]? = some ei := by rw [List.getElem?_append_left (List.getElem?_eq_some_iff.1 hi).1]; exact hi
    have hj' : (st ++ ex)[j]? = some ej := by rw [List.getElem?_append_left (List.getElem?_eq_some_iff.1 hj).1]; exact hj
    exact h.one i j ei ej b hi' hj' (by cases ei <;> exact k1) (by cases ej <;> exact k2)

theorem Ext.cut {g g' : G} {w w' : World} (h : Ext g w g' w') {k : Nat} (hk : g.n ≤ k) : Ext g w (g'.cut k) w' :=
  ⟨h.os, h.tape, h.output, h.size, hk, h.pb, h.len, h.tv, h.free, h.kept⟩

-- what may be taken for what; where a nil slice may be taken for the tip of an object of p's, too
/-- The objects of p are slices that are nil. -/
def Nil0 (g : G) (p : Nat → Prop) : Prop := ∀ k, p k → k < g.n ∧ g.len k = 0 ∧ g.tv k = .slice none 0 0
def NoTok : Nat → Prop := fun _ => False
theorem nil0_no (g : G) : Nil0 g NoTok := fun _ h => h.elim
mutual
def wkp (p : Nat → Prop) : V → V → Prop
  | .lst sz t l, v => ∃ t' l', v = .lst sz t' l' ∧ (t' = t ∨ t' = none) ∧ wkRp p l l'
  | .nils, v => v = .nils ∨ ∃ sz t, v = .lst sz t [] ∧ ∀ k, t = some k → p k
  | .agg l, v => ∃ l', v = .agg l' ∧ wkLp p l l'
  | .tup l, v => ∃ l', v = .tup l' ∧ wkLp p l l'
  | .int k n, v => v = .int k n
  | .bool b, v => v = .bool b
  | .str s, v => v = .str s
  | .arr e n, v => v = .arr e n
  | .eptr e n sz k off, v => v = .eptr e n sz k off
  | .ref l, v => ∃ l', v = .ref l' ∧ wkLp p l l'
  | .ptr o n, v => v = .ptr o n
  | .nilp, v => v = .nilp
  | .fn f c, v => ∃ l', v = .fn f l' ∧ wkLp p c l'
  | .nilf, v => v = .nilf
  | .map o, v => v = .map o
  | .nilm, v => v = .nilm
  | .iface t x, v => ∃ y, v = .iface t y ∧ wkp p x y
  | .nili, v => v = .nili
  | .junk, v => v = .junk
def wkLp (p : Nat → Prop) : List V → List V → Prop
  | [], l => l = []
  | x :: xs, l => ∃ y ys, l = y :: ys ∧ wkp p x y ∧ wkLp p xs ys
def wkRp (p : Nat → Prop) : List (List V) → List (List V) → Prop
  | [], l => l = []
  | x :: xs, l => ∃ y ys, l = y :: ys ∧ wkLp p x y ∧ wkRp p xs ys
end

variable {p : Nat → Prop}
theorem wkLp.length : ∀ {x y : List V}, wkLp p x y → y.length = x.length
  | [], _, h => by simp only [wkLp] at h; subst h; rfl
  | x :: xs, _, h => by
    simp only [wkLp] at h
    obtain ⟨z, zs, rfl, _, h2⟩ := h
    simp [h2.length]
theorem wkRp.length : ∀ {x y : List (List V)}, wkRp p x y → y.length = x.length
  | [], _, h => by simp only [wkRp] at h; subst h; rfl
  | x :: xs, _, h => by
    simp only [wkRp] at h
    obtain ⟨z, zs, rfl, _, h2⟩ := h
    simp [h2.length]
theorem wkLp.append : ∀ {x y x' y' : List V}, wkLp p x x' → wkLp p y y' → wkLp p (x ++ y) (x' ++ y')
  | [], _, _, _, h, k => by simp only [wkLp] at h; subst h; exact k
  | x :: xs, y, _, y', h, k => by
    simp only [wkLp] at h
    obtain ⟨z, zs, rfl, h1, h2⟩ := h
    simp only [List.cons_append, wkLp]
    exact ⟨z, _, rfl, h1, h2.append k⟩
theorem wkRp.flatten : ∀ {x y : List (List V)}, wkRp p x y → wkLp p x.flatten y.flatten
  | [], _, h => by simp only [wkRp] at h; subst h; simp [wkLp]
  | x :: xs, _, h => by
    simp only [wkRp] at h
    obtain ⟨z, zs, rfl, h1, h2⟩ := h
    simp only [List.flatten_cons]
    exact h1.append h2.flatten
theorem wkRp.rows {sz : Nat} : ∀ {x y : List (List V)}, wkRp p x y → (∀ r ∈ x, r.length = sz) → ∀ r ∈ y, r.length = sz
  | [], _, h, _ => by simp only [wkRp] at h; subst h; simp
  | x :: xs, _, h, k => by
    simp only [wkRp] at h
    obtain ⟨z, zs, rfl, h1, h2⟩ := h
    intro r hr
    rcases List.mem_cons.1 hr with rfl | hr
    · rw [h1.length]; exact k x (by simp)
    · exact h2.rows (fun r hr => k r (by simp [hr])) r hr

mutual
theorem wkp.sim {g : G} {w : World} (hp : Nil0 g p) : ∀ {x y : V} {v : Value}, wkp p x y → SimV g w x v → SimV g w y v
  | .lst sz t l, y, v, h, s => by
    simp only [wkp] at h
    obtain ⟨t', l', rfl, ht, hl⟩ := h
    simp only [SimV] at s ⊢
    obtain ⟨a, cap, h1, h2, h3, h4, h5, h6, h7⟩ := s
    rw [hl.length]
    refine ⟨a, cap, h1, h2, h3, h4, h5.imp (fun e => List.eq_nil_of_length_eq_zero (by rw [hl.length, e]; rfl)) id, ?_, wkRp.sim hp hl h7⟩
    rcases ht with rfl | rfl
    · exact h6
    · simp
  | .nils, y, v, h, s => by
    simp only [wkp] at h
    rcases h with rfl | ⟨sz, t, rfl, ht⟩
    · exact s
    · simp only [SimV] at s ⊢
      refine ⟨none, 0, by simpa using s, by simp, by simp [maxLen], by simp, .inl trivial, fun e he => ?_, by simp [SimRows]⟩
      obtain ⟨q1, q2, q3⟩ := hp e (ht e he)
      exact ⟨q1, by simp, fun _ => by rw [q3, s]⟩
  | .agg l, y, v, h, s => by
    simp only [wkp] at h
    obtain ⟨l', rfl, h⟩ := h
    simp only [SimV] at s ⊢
    obtain ⟨vs, h1, h2, h3⟩ := s
    exact ⟨vs, h1, wkLp.sim hp h h2, h3⟩
  | .tup l, y, v, h, s => by
    simp only [wkp] at h
    obtain ⟨l', rfl, h⟩ := h
    simp only [SimV] at s ⊢
    obtain ⟨vs, h1, h2⟩ := s
    exact ⟨vs, h1, wkLp.sim hp h h2⟩
  | .ref l, y, v, h, s => by
    simp only [wkp] at h
    obtain ⟨l', rfl, h⟩ := h
    simp only [SimV] at s ⊢
    obtain ⟨a, h1, h2, h3⟩ := s
    exact ⟨a, h1, h2, wkLp.simAt hp h h3⟩
  | .fn f c, y, v, h, s => by
    simp only [wkp] at h
    obtain ⟨l', rfl, h⟩ := h
    simp only [SimV] at s ⊢
    obtain ⟨vs, h1, h2⟩ := s
    exact ⟨vs, h1, wkLp.sim hp h h2⟩
  | .iface t x, y, v, h, s => by
    simp only [wkp] at h
    obtain ⟨y, rfl, h⟩ := h
    simp only [SimV] at s ⊢
    obtain ⟨u, h1, h2⟩ := s
    exact ⟨u, h1, wkp.sim hp h h2⟩
  | .int _ _, _, _, h, s | .bool _, _, _, h, s | .str _, _, _, h, s | .arr _ _, _, _, h, s | .eptr _ _ _ _ _, _, _, h, s | .ptr _ _, _, _, h, s | .nilp, _, _, h, s
  | .nilf, _, _, h, s | .map _, _, _, h, s | .nilm, _, _, h, s | .nili, _, _, h, s | .junk, _, _, h, s => by simp only [wkp] at h; subst h; exact s
theorem wkLp.sim {g : G} {w : World} (hp : Nil0 g p) : ∀ {x y : List V} {v : List Value}, wkLp p x y → SimVs g w x v → SimVs g w y v
  | [], y, v, h, s => by simp only [wkLp] at h; subst h; exact s
  | x :: xs, y, v, h, s => by
    simp only [wkLp] at h
    obtain ⟨z, zs, rfl, h1, h2⟩ := h
    simp only [SimVs] at s ⊢
    obtain ⟨u, r, h3, h4, h5⟩ := s
    exact ⟨u, r, h3, wkp.sim hp h1 h4, wkLp.sim hp h2 h5⟩
theorem wkLp.simAt {g : G} {w : World} (hp : Nil0 g p) : ∀ {x y : List V} {a : Addr}, wkLp p x y → SimAt g w a x → SimAt g w a y
  | [], y, v, h, s => by simp only [wkLp] at h; subst h; exact s
  | x :: xs, y, v, h, s => by
    simp only [wkLp] at h
    obtain ⟨z, zs, rfl, h1, h2⟩ := h
    simp only [SimAt] at s ⊢
    obtain ⟨⟨u, h3, h4, h5, h6⟩, h7⟩ := s
    exact ⟨⟨u, h3, h4, h5, wkp.sim hp h1 h6⟩, wkLp.simAt hp h2 h7⟩
theorem wkRp.sim {g : G} {w : World} (hp : Nil0 g p) : ∀ {x y : List (List V)} {a : Addr} {sz : Nat}, wkRp p x y → SimRows g w a sz x → SimRows g w a sz y
  | [], y, _, _, h, s => by simp only [wkRp] at h; subst h; exact s
  | x :: xs, y, _, _, h, s => by
    simp only [wkRp] at h
    obtain ⟨z, zs, rfl, h1, h2⟩ := h
    simp only [SimRows] at s ⊢
    exact ⟨by rw [h1.length]; exact s.1, wkLp.simAt hp h1 s.2.1, wkRp.sim hp h2 s.2.2⟩
end

mutual
theorem wk_refl : ∀ v : V, wkp p v v
  | .lst sz t l => by simp only [wkp]; exact ⟨t, l, rfl, .inl rfl, wkR_refl l⟩
  | .nils => by simp [wkp]
  | .agg l => by simp only [wkp]; exact ⟨l, rfl, wkL_refl l⟩
  | .tup l => by simp only [wkp]; exact ⟨l, rfl, wkL_refl l⟩
  | .ref l => by simp only [wkp]; exact ⟨l, rfl, wkL_refl l⟩
  | .fn f l => by simp only [wkp]; exact ⟨l, rfl, wkL_refl l⟩
  | .iface t x => by simp only [wkp]; exact ⟨x, rfl, wk_refl x⟩
  | .int _ _ | .bool _ | .str _ | .arr _ _ | .eptr _ _ _ _ _ | .ptr _ _ | .nilp | .nilf | .map _ | .nilm | .nili | .junk => by simp [wkp]
theorem wkL_refl : ∀ l : List V, wkLp p l l
  | [] => by simp [wkLp]
  | x :: xs => by simp only [wkLp]; exact ⟨x, xs, rfl, wk_refl x, wkL_refl xs⟩
theorem wkR_refl : ∀ l : List (List V), wkRp p l l
  | [] => by simp [wkRp]
  | x :: xs => by simp only [wkRp]; exact ⟨x, xs, rfl, wkL_refl x, wkR_refl xs⟩
end

theorem wk_tok (sz : Nat) (t : Option Nat) (l : List (List V)) : wkp p (.lst sz t l) (.lst sz none l) := by simp only [wkp]; exact ⟨none, l, rfl, .inr rfl, wkR_refl l⟩
theorem wk_lst {sz : Nat} {t : Option Nat} {l l' : List (List V)} (h : wkRp p l l') : wkp p (.lst sz t l) (.lst sz none l') := by simp only [wkp]; exact ⟨none, l', rfl, .inr rfl, h⟩
theorem wk_lst_same {sz : Nat} {t : Option Nat} {l l' : List (List V)} (h : wkRp p l l') : wkp p (.lst sz t l) (.lst sz t l') := by simp only [wkp]; exact ⟨t, l', rfl, .inl rfl, h⟩
theorem wk_nils (sz : Nat) : wkp p .nils (.lst sz none []) := by simp only [wkp]; exact .inr ⟨sz, none, rfl, fun k h => by cases h⟩
theorem wk_tip (sz : Nat) {k : Nat} (h : p k) : wkp p .nils (.lst sz (some k) []) := by simp only [wkp]; exact .inr ⟨sz, some k, rfl, fun j e => by cases e; exact h⟩
theorem wk_agg {l l' : List V} (h : wkLp p l l') : wkp p (.agg l) (.agg l') := by simp only [wkp]; exact ⟨l', rfl, h⟩
theorem wk_tup {l l' : List V} (h : wkLp p l l') : wkp p (.tup l) (.tup l') := by simp only [wkp]; exact ⟨l', rfl, h⟩
theorem wk_ref {l l' : List V} (h : wkLp p l l') : wkp p (.ref l) (.ref l') := by simp only [wkp]; exact ⟨l', rfl, h⟩
theorem wkL_cons {x y : V} {xs ys : List V} (h : wkp p x y) (k : wkLp p xs ys) : wkLp p (x :: xs) (y :: ys) := by simp only [wkLp]; exact ⟨y, ys, rfl, h, k⟩
theorem wkL_nil : wkLp p [] [] := by simp [wkLp]
theorem wkR_map {α : Type} {f f' : α → List V} (h : ∀ x, wkLp p (f x) (f' x)) : ∀ l : List α, wkRp p (l.map f) (l.map f')
  | [] => by simp [wkRp]
  | x :: xs => by simp only [List.map_cons, wkRp]; exact ⟨_, _, rfl, h x, wkR_map h xs⟩

def wkMp (p : Nat → Prop) : List (Nat × V × V) → List (Nat × V × V) → Prop
  | [], l => l = []
  | (b, k, v) :: r, l => ∃ k' v' t, l = (b, k', v') :: t ∧ wkp p k k' ∧ wkp p v v' ∧ wkMp p r t
theorem wkM_refl : ∀ l : List (Nat × V × V), wkMp p l l
  | [] => rfl
  | (_, k, v) :: r => ⟨k, v, r, rfl, wk_refl k, wk_refl v, wkM_refl r⟩
theorem wkMp.sim {g : G} {w : World} (hp : Nil0 g p) : ∀ {es es' : List (Nat × V × V)} {l : List MapEntry}, wkMp p es es' → SimEs g w es l → SimEs g w es' l
  | [], _, _, h, hs => by simp only [wkMp] at h; subst h; exact hs
  | (b, k, v) :: r, _, _, h, hs => by
    obtain ⟨k', v', t, rfl, h1, h2, h3⟩ := h
    obtain ⟨e, u, q1, q2, q3, q4, q5⟩ := hs
    exact ⟨e, u, q1, q2, h1.sim hp q3, h2.sim hp q4, h3.sim hp q5⟩
theorem wkMp.born : ∀ {es es' : List (Nat × V × V)} {c : Nat}, wkMp p es es' → (∀ e ∈ es, e.1 < c) → ∀ e ∈ es', e.1 < c
  | [], _, c, h, _ => by simp only [wkMp] at h; subst h; simp
  | (b, k, v) :: r, _, c, h, hb => by
    obtain ⟨k', v', t, rfl, h1, h2, h3⟩ := h
    intro e he
    rcases List.mem_cons.1 he with rfl | he
    · exact hb (b, k, v) (List.mem_cons_self)
    · exact h3.born (fun e he => hb e (List.mem_cons_of_mem _ he)) e he
def Ent.wkq (p : Nat → Prop) : Ent → Ent → Prop
  | .map c es, e => ∃ es', e = .map c es' ∧ wkMp p es es'
  | .iter m s l, e => e = .iter m s l
  | .box c, e => ∃ c', e = .box c' ∧ wkLp p c c'
  | .arr t sz c, e => ∃ c', e = .arr t sz c' ∧ wkRp p c c'
  | .tip t n, e => e = .tip t n
  | .gone, e => e = .gone
/-- What an object may be taken for: for one that is gone, always. -/
def Ent.wkp (p : Nat → Prop) (x e : Ent) : Prop := e = .gone ∨ x.wkq p e
def wkStp (p : Nat → Prop) : St → St → Prop
  | [], s => s = []
  | x :: xs, s => ∃ y ys, s = y :: ys ∧ x.wkp p y ∧ wkStp p xs ys

theorem Ent.wkp_refl (e : Ent) : e.wkp p e := by
  right
  cases e with
  | box c => exact ⟨c, rfl, wkL_refl c⟩
  | arr t sz c => exact ⟨c, rfl, wkR_refl c⟩
  | map c es => exact ⟨es, rfl, wkM_refl es⟩
  | _ => rfl
theorem Ent.wk_gone (e : Ent) : e.wkp p .gone := .inl rfl
theorem Ent.wk_box {c c' : List V} (h : wkLp p c c') : (Ent.box c).wkp p (.box c') := .inr ⟨c', rfl, h⟩
theorem wkSt_nil : wkStp p [] [] := rfl
theorem wkSt_cons {x y : Ent} {xs ys : St} (h : x.wkp p y) (k : wkStp p xs ys) : wkStp p (x :: xs) (y :: ys) := ⟨y, ys, rfl, h, k⟩
theorem wkSt_refl : ∀ s : St, wkStp p s s
  | [] => rfl
  | x :: xs => ⟨x, xs, rfl, x.wkp_refl, wkSt_refl xs⟩
theorem wkStp.append : ∀ {a a' b b' : St}, wkStp p a a' → wkStp p b b' → wkStp p (a ++ b) (a' ++ b')
  | [], _, _, _, h, k => by simp only [wkStp] at h; subst h; exact k
  | x :: xs, _, _, _, h, k => by
    obtain ⟨y, ys, rfl, h1, h2⟩ := h
    exact ⟨y, _, rfl, h1, h2.append k⟩
theorem wkStp.length : ∀ {s s' : St}, wkStp p s s' → s'.length = s.length
  | [], _, h => by simp only [wkStp] at h; subst h; rfl
  | x :: xs, _, h => by obtain ⟨y, ys, rfl, _, h2⟩ := h; simp [h2.length]
theorem wkStp.get : ∀ {s s' : St} {i : Nat} {e' : Ent}, wkStp p s s' → s'[i]? = some e' → ∃ e, s[i]? = some e ∧ e.wkp p e'
  | [], _, i, e', h, hi => by simp only [wkStp] at h; subst h; simp at hi
  | x :: xs, _, i, e', h, hi => by
    obtain ⟨y, ys, rfl, h1, h2⟩ := h
    cases i with
    | zero => simp at hi; subst hi; exact ⟨x, by simp, h1⟩
    | succ i => simpa using h2.get (by simpa using hi)
theorem wkStp.set : ∀ {s s' : St} {i : Nat} {e e' : Ent}, wkStp p s s' → e.wkp p e' → wkStp p (s.set i e) (s'.set i e')
  | [], _, i, e, e', h, _ => by simp only [wkStp] at h; subst h; rfl
  | x :: xs, _, i, e, e', h, k => by
    obtain ⟨y, ys, rfl, h1, h2⟩ := h
    cases i with
    | zero => exact ⟨e', ys, rfl, k, h2⟩
    | succ i => exact ⟨y, _, rfl, h1, h2.set k⟩
theorem SimSt.wkp {g : G} {w : World} {s s' : St} (h : SimSt T g s w) (hp : Nil0 g p) (k : wkStp p s s') : SimSt T g s' w := by
  refine ⟨h.n.trans k.length.symm, fun i e' hi => ?_, fun i j ei ej b hi hj h1 h2 => ?_⟩
  · obtain ⟨e, h1, h2⟩ := k.get hi
    have := h.ent i e h1
    rcases h2 with rfl | h2
    · trivial
    cases e with
    | box c =>
      obtain ⟨c', rfl, hc⟩ := h2
      obtain ⟨q1, vs, t, q2, q3, q4⟩ := this
      exact ⟨q1, vs, t, q2, hc.sim hp q3, q4⟩
    | arr t sz c =>
      obtain ⟨c', rfl, hc⟩ := h2
      obtain ⟨q1, q2, xs, q3, q4, q5⟩ := this
      exact ⟨q1, hc.rows q2, xs, by rw [hc.length]; exact q3, hc.flatten.sim hp q4, q5⟩
    | tip t n => simp only [Ent.wkq] at h2; subst h2; exact this
    | gone => simp only [Ent.wkq] at h2; subst h2; trivial
    | map c es =>
      obtain ⟨es', rfl, hc⟩ := h2
      obtain ⟨q1, q2, l, q3, q4⟩ := this
      exact ⟨q1, hc.born q2, l, q3, hc.sim hp q4⟩
    | iter m s l => simp only [Ent.wkq] at h2; subst h2; exact this
  · have bk : ∀ {i : Nat} {e e' : Ent} {b : Nat}, e.wkp p e' → blkOf g i e' = some b → blkOf g i e = some b := by
      intro i e e' b h hb
      rcases h with rfl | h
      · cases hb
      cases e with
      | box c => obtain ⟨c', rfl, _⟩ := h; exact hb
      | arr t sz c => obtain ⟨c', rfl, _⟩ := h; exact hb
      | tip t n => simp only [Ent.wkq] at h; subst h; exact hb
      | gone => simp only [Ent.wkq] at h; subst h; exact hb
      | map c es => obtain ⟨es', rfl, _⟩ := h; exact hb
      | iter m s l => simp only [Ent.wkq] at h; subst h; exact hb
    obtain ⟨e1, i1, i2⟩ := k.get hi
    obtain ⟨e2, j1, j2⟩ := k.get hj
    exact h.one i j e1 e2 b i1 j1 (bk i2 h1) (bk j2 h2)

abbrev wk := wkp NoTok
abbrev wkL := wkLp NoTok
abbrev wkR := wkRp NoTok
abbrev wkSt := wkStp NoTok
theorem SimSt.wk {g : G} {w : World} {s s' : St} (h : SimSt T g s w) (k : wkSt s s') : SimSt T g s' w := h.wkp (nil0_no g) k

/-- What is given is no longer than what an int holds. -/
def VEnd.fit : VEnd → Prop
  | .ret v => v.fit
  | .panic v => v.fit
theorem VCalls.monoF {f : FuncId} {args : List V} {st : St} {Q Q' : VEnd → St → Prop} (h : VCalls P T f args st Q) (hq : ∀ r st, r.fit → Q r st → Q' r st) : VCalls P T f args st Q' :=
  ⟨h.1, fun g w vals h1 h2 => (h.2 g w vals h1 h2).mono fun _ _ ⟨r, st', g', k1, k2, k3⟩ => ⟨r, st', g', hq _ _ (by
    cases r with
    | ret v => obtain ⟨val, _, hv⟩ := k2; exact hv.fit
    | panic v => obtain ⟨val, _, hv⟩ := k2; exact hv.fit) k1, k2, k3⟩⟩
theorem VCalls.args {f : FuncId} {args args' : List V} {st : St} {Q : VEnd → St → Prop} (h : VCalls P T f args' st Q) (hw : wkL args args') : VCalls P T f args st Q :=
  ⟨h.1, fun g w vals h1 h2 => h.2 g w vals h1 (hw.sim (nil0_no g) h2)⟩
end
end Go.Proofs.Ytcegdbniggdckaa.Gw

namespace Go.Proofs.Ytcegdbniggdckaa.Gw
open Go
set_option linter.unusedSimpArgs false

section
variable {P : Program} {T : Nat → TI} {an : Nat → Nat} {L : List Nat} {ds : List Deferred}

theorem SimEnv.loc {g : G} {w : World} {env : Env} {a : Act} (h : SimEnv g w env a) (hl : EnvOK L env) : SimEnv g w { env with l := [] } a :=
  ⟨h.1, fun t c v hv => h.2 t c v (hl t _ (by simpa [Env.look, find] using hv)).2⟩
theorem EnvOK.loc {env : Env} (hl : EnvOK L env) : EnvOK L { env with l := [] } :=
  fun t x hx => ⟨(hl t x hx).1, by simp only [Env.look, find]; exact hx⟩

theorem vCode_sound (hT : Tab P T) : ∀ (c : Code) (env : Env) (st : St) (Q : VExit → Env → St → Prop), vCode P T an L ds c env st Q → VC P T L ds c env st Q := by
  intro c
  induction c with
  | skip => intro env st Q h g w a h1 h2 h3 h4; exact wp_skip ⟨.normal, env, st, g, h, rfl, h2, h3, h4, h1, Ext.refl _ _⟩
  | region id ops draw =>
    intro env st Q h
    cases draw with
    | true => exact h
    | false =>
      intro g w a h1 h2 h3 h4
      exact wp_region_list (vOps_sound hT ops.toList _ st g w a (Ext.refl _ _) h1 (h2.loc h3) h3.loc h4 h)
  | seq x y ihx ihy =>
    intro env st Q h g w a h1 h2 h3 h4
    refine wp_seq (wp_mono (ihx env st _ h g w a h1 h2 h3 h4) ?_)
    intro e a' w' ⟨ve, env', st', g', k1, k2, k3, k4, k5, k6, k7⟩
    cases ve with
    | normal =>
      simp only [SimExit] at k2; subst k2
      exact wp_mono (ihy env' st' Q k1 g' w' a' k6 k3 k4 k5) fun _ _ _ hq => hq.ext k7
    | exit id => simp only [SimExit] at k2; subst k2; exact ⟨.exit id, env', st', g', k1, rfl, k3, k4, k5, k6, k7⟩
    | ret => simp only [SimExit] at k2; subst k2; exact ⟨.ret, env', st', g', k1, rfl, k3, k4, k5, k6, k7⟩
    | panic v => have k2' := k2; obtain ⟨val, rfl, _⟩ := k2; exact ⟨.panic v, env', st', g', k1, k2', k3, k4, k5, k6, k7⟩
  | cond c x y ihx ihy =>
    intro env st Q h g w a h1 h2 h3 h4
    simp only [vCode] at h
    unfold bindO at h
    split at h
    case h_2 => exact h.elim
    rename_i r hr
    split at h
    case h_2 => exact h.elim
    rename_i t
    have hc := evO_sim h2 hr
    simp only [if_true, SimV] at hc
    obtain ⟨s1, s2⟩ := h
    refine wp_cond_split hc (fun ht => ihx env st Q (s1 ht) g w a h1 h2 h3 h4) (fun ht => ihy env st Q (s2 ht) g w a h1 h2 h3 h4)
  | block id c ih =>
    intro env st Q h g w a h1 h2 h3 h4
    refine wp_block (wp_mono (ih env st _ h g w a h1 h2 h3 h4) ?_)
    intro e a' w' ⟨ve, env', st', g', k1, k2, k3⟩
    cases ve with
    | normal => simp only [SimExit] at k2; subst k2; exact ⟨.normal, env', st', g', k1, rfl, k3⟩
    | exit i =>
      simp only [SimExit] at k2; subst k2
      simp only [vBlock] at k1
      simp only [Exit.inBlock]
      split
      · rename_i e; rw [if_pos e] at k1; exact ⟨.normal, env', st', g', k1, rfl, k3⟩
      · rename_i e; rw [if_neg e] at k1; exact ⟨.exit i, env', st', g', k1, rfl, k3⟩
    | ret => simp only [SimExit] at k2; subst k2; exact ⟨.ret, env', st', g', k1, rfl, k3⟩
    | panic v => have k2' := k2; obtain ⟨val, rfl, _⟩ := k2; exact ⟨.panic v, env', st', g', k1, k2', k3⟩
  | exit id => intro env st Q h g w a h1 h2 h3 h4; exact wp_exit ⟨.exit id, env, st, g, h, rfl, h2, h3, h4, h1, Ext.refl _ _⟩
  | ret => intro env st Q h g w a h1 h2 h3 h4; exact wp_ret ⟨.ret, env, st, g, h, rfl, h2, h3, h4, h1, Ext.refl _ _⟩
  | loop c ih => intro env st Q h; exact h
  | rangeFunc f p x y ihx ihy => intro env st Q h; exact h
  | scope c ih => intro env st Q h; exact h
  | label l => intro env st Q h; exact h
  | goto l => intro env st Q h; exact h
  | refuse s => intro env st Q h; exact h

/-- What is kept of an environment. -/
def Env.keep (e : Env) : List Nat → List (Nat × Bool × V)
  | [] => []
  | t :: ts => match e.look t with
    | some x => (t, x) :: e.keep ts
    | none => e.keep ts

theorem find_keep (e : Env) : ∀ (ts : List Nat) (t : Nat) (x : Bool × V), find (e.keep ts) t = some x → e.look t = some x ∧ memN ts t = true
  | [], t, x, h => by simp [Env.keep, find] at h
  | u :: ts, t, x, h => by
    simp only [Env.keep] at h
    split at h
    · rename_i y hy
      simp only [find] at h
      split at h
      · rename_i hu; subst hu; cases h; exact ⟨hy, by simp [memN]⟩
      · rename_i hu
        obtain ⟨h1, h2⟩ := find_keep e ts t x h
        exact ⟨h1, by simp [memN, hu, h2]⟩
    · obtain ⟨h1, h2⟩ := find_keep e ts t x h
      exact ⟨h1, by simp only [memN]; split <;> simp [h2]⟩

def subN (ks L : List Nat) : Bool := ks.all (memN L)

theorem memN_mem : ∀ {ks : List Nat} {t : Nat}, memN ks t = true → t ∈ ks
  | [], t, h => by simp [memN] at h
  | k :: ks, t, h => by
    simp only [memN] at h
    split at h
    · rename_i e; simp [e]
    · exact List.mem_cons_of_mem _ (memN_mem h)

theorem SimEnv.keep {g : G} {w : World} {env : Env} {a : Act} (h : SimEnv g w env a) (ks : List Nat) : SimEnv g w ⟨env.N, env.keep ks, []⟩ a :=
  ⟨h.1, fun t c v hv => h.2 t c v (find_keep env ks t _ (by simpa [Env.look, find] using hv)).1⟩
theorem EnvOK.keep {ks : List Nat} (hs : subN ks L = true) (env : Env) : EnvOK L ⟨env.N, env.keep ks, []⟩ := by
  intro t x hx
  obtain ⟨h1, h2⟩ := find_keep env ks t x hx
  refine ⟨?_, by simpa [Env.look, find] using hx⟩
  simp only [subN, List.all_eq_true] at hs
  exact hs t (memN_mem h2)

/-- Of an environment less may be told. -/
theorem VC.keep (ks : List Nat) (hs : subN ks L = true) {c : Code} {env : Env} {st : St} {Q : VExit → Env → St → Prop} (h : VC P T L ds c ⟨env.N, env.keep ks, []⟩ st Q) : VC P T L ds c env st Q :=
  fun g w a h1 h2 _ h4 => h g w a h1 (h2.keep ks) (EnvOK.keep hs env) h4

/-- A loop: what holds at each round's head, of what is kept; a number that each round lowers. -/
theorem VC.loop (ks : List Nat) (hs : subN ks L = true) {c : Code} {env : Env} {st : St} {Q : VExit → Env → St → Prop} (I : Nat → Env → St → Prop) (k : Nat) (h0 : I k ⟨env.N, env.keep ks, []⟩ st)
    (step : ∀ k env st, I k env st → VC P T L ds c env st (vSeq (fun env' st' => ∃ k', k' < k ∧ I k' ⟨env'.N, env'.keep ks, []⟩ st') Q)) : VC P T L ds (.loop c) env st Q := by
  intro g w a h1 h2 h3 h4
  refine wp_loop_ghost (fun k a' w' => ∃ env' st' g', I k env' st' ∧ SimSt T g' st' w' ∧ SimEnv g' w' env' a' ∧ EnvOK L env' ∧ a'.defers = ds ∧ Ext g w g' w') k ⟨_, st, g, h0, h1, h2.keep ks, EnvOK.keep hs env, h4, Ext.refl _ _⟩ ?_
  intro n a' w' ⟨env', st', g', i1, i2, i3, i4, i5, i6⟩
  refine wp_mono (step n env' st' i1 g' w' a' i2 i3 i4 i5) ?_
  intro e a2 w2 ⟨ve, env2, st2, g2, k1, k2, k3, k4, k5, k6, k7⟩
  cases ve with
  | normal =>
    simp only [SimExit] at k2; subst k2
    obtain ⟨k', hk, hI⟩ := k1
    exact ⟨k', hk, _, st2, g2, hI, k6, k3.keep ks, EnvOK.keep hs env2, k5, i6.trans k7⟩
  | exit id => simp only [SimExit] at k2; subst k2; exact ⟨.exit id, env2, st2, g2, k1, rfl, k3, k4, k5, k6, i6.trans k7⟩
  | ret => simp only [SimExit] at k2; subst k2; exact ⟨.ret, env2, st2, g2, k1, rfl, k3, k4, k5, k6, i6.trans k7⟩
  | panic v => have k2' := k2; obtain ⟨val, rfl, _⟩ := k2; exact ⟨.panic v, env2, st2, g2, k1, k2', k3, k4, k5, k6, i6.trans k7⟩

-- functions

def resOne (T : Nat → TI) (env : Env) (st : St) : ResultVar → Option (V × Prop)
  | .tmp t => match env.look t with
    | some (c, v) => some (v, c = true)
    | none => none
  | .cell a t => match env.look a with
    | some (c, .ptr o n) => match st[o]? with
      | some (.box l) => if (T t).known then (loadV (T t) (l.drop n)).map fun r => (r.1, c = true ∧ r.2) else none
      | _ => none
    | some (c, .ref l) => if (T t).known then (loadV (T t) l).map fun r => (r.1, c = true ∧ r.2) else none
    | _ => none

def resV (T : Nat → TI) (env : Env) (st : St) : List ResultVar → Option (List V × Prop)
  | [] => some ([], True)
  | r :: rs => match resOne T env st r, resV T env st rs with
    | some (v, p), some (vs, q) => some (v :: vs, p ∧ q)
    | _, _ => none

def tupV : List V → V
  | [v] => v
  | l => .tup l

def vRet (T : Nat → TI) (rs : List ResultVar) (Q : VEnd → St → Prop) : VExit → Env → St → Prop
  | .normal, env, st => bindO (resV T env st rs) fun r => r.2 ∧ Q (.ret (tupV r.1)) st
  | .ret, env, st => bindO (resV T env st rs) fun r => r.2 ∧ Q (.ret (tupV r.1)) st
  | .panic v, _, st => Q (.panic v) st
  | .exit _, _, _ => False

theorem vRet_normal (rs : List ResultVar) (Q : VEnd → St → Prop) (env : Env) (st : St) : vRet T rs Q .normal env st = bindO (resV T env st rs) fun r => r.2 ∧ Q (.ret (tupV r.1)) st := rfl
theorem vRet_ret (rs : List ResultVar) (Q : VEnd → St → Prop) (env : Env) (st : St) : vRet T rs Q .ret env st = bindO (resV T env st rs) fun r => r.2 ∧ Q (.ret (tupV r.1)) st := rfl
theorem vRet_panic (rs : List ResultVar) (Q : VEnd → St → Prop) (env : Env) (st : St) (v : V) : vRet T rs Q (.panic v) env st = Q (.panic v) st := rfl

def resSem (tmps : Array Value) : ResultVar → Sem Value
  | .tmp t => pure (tmps.getD t undef)
  | .cell a t => do loadVar t (← asAddr (tmps.getD a undef))

theorem results_eq (fn : Func) (tmps : Array Value) : results fn tmps = (do let vs ← fn.results.mapM (resSem tmps); pure (if h : vs.size = 1 then vs[0] else .tuple vs)) := by
  unfold results
  congr 1

theorem resOne_sound (hT : Tab P T) {g : G} {w : World} {env : Env} {st : St} {a : Act} (h1 : SimSt T g st w) (h2 : SimEnv g w env a) {r : ResultVar} {v : V} {side : Prop} (h : resOne T env st r = some (v, side)) (hs : side) :
    ∃ val, (resSem a.tmps r).run P w = .ok val w ∧ SimV g w v val := by
  cases r with
  | tmp t =>
    simp only [resOne] at h
    split at h
    case h_2 => simp at h
    rename_i c v' hl
    simp only [Option.some.injEq, Prod.mk.injEq] at h
    obtain ⟨rfl, rfl⟩ := h
    have := h2.2 t c _ hl
    rw [if_pos hs] at this
    exact ⟨_, rfl, this⟩
  | cell x t =>
    simp only [resOne] at h
    split at h
    · rename_i c o n hl
      split at h
      case h_2 => simp at h
      rename_i l ho
      split at h
      case isFalse => simp at h
      rename_i hk
      cases hld : loadV (T t) (l.drop n) with
      | none => simp [hld] at h
      | some r =>
        simp only [hld, Option.map_some, Option.some.injEq, Prod.mk.injEq] at h
        obtain ⟨rfl, rfl⟩ := h
        have hx := h2.2 x c _ hl
        rw [if_pos hs.1] at hx
        simp only [SimV] at hx
        obtain ⟨q1, vs, t', q2, q3, q4⟩ := h1.ent o _ ho
        have e : ∀ j u, (vs.drop n)[j]? = some u → w.cell? ((Addr.mk (g.pb o) n none).add j) = some u := by
          intro j u hj
          rw [Addr.add_eq rfl]
          simp only [World.cell?, q2]
          rw [List.getElem?_drop] at hj
          simpa using hj
        obtain ⟨val, r1, r2⟩ := load_cells hT (known_kind hk) (q3.drop n) (fun u hu => q4 u (List.mem_of_mem_drop hu)) e hld hs.2
        exact ⟨val, by simp [resSem, hx.2, asAddr, r1], r2⟩
    · rename_i c l hl
      split at h
      case isFalse => simp at h
      rename_i hk
      cases hld : loadV (T t) l with
      | none => simp [hld] at h
      | some r =>
        simp only [hld, Option.map_some, Option.some.injEq, Prod.mk.injEq] at h
        obtain ⟨rfl, rfl⟩ := h
        have hx := h2.2 x c _ hl
        rw [if_pos hs.1] at hx
        simp only [SimV] at hx
        obtain ⟨ad, k1, k2, k3⟩ := hx
        obtain ⟨val, r1, r2⟩ := load_sealed hT (known_kind hk) k2 k3 hld hs.2
        exact ⟨val, by simp [resSem, k1, asAddr, r1], r2⟩
    · simp at h

theorem resV_sound (hT : Tab P T) {g : G} {w : World} {env : Env} {st : St} {a : Act} (h1 : SimSt T g st w) (h2 : SimEnv g w env a) : ∀ {rs : List ResultVar} {vs : List V} {side : Prop}, resV T env st rs = some (vs, side) → side →
    ∃ vals : List Value, (rs.mapM (resSem a.tmps)).run P w = Result.ok vals w ∧ SimVs g w vs vals
  | [], vs, side, h, hs => by
    simp only [resV, Option.some.injEq, Prod.mk.injEq] at h
    obtain ⟨rfl, rfl⟩ := h
    exact ⟨[], rfl, by simp [SimVs]⟩
  | r :: rs, vs, side, h, hs => by
    simp only [resV] at h
    split at h
    case h_2 => simp at h
    rename_i v p vs' q e1 e2
    simp only [Option.some.injEq, Prod.mk.injEq] at h
    obtain ⟨rfl, rfl⟩ := h
    obtain ⟨val, k1, k2⟩ := resOne_sound hT h1 h2 e1 hs.1
    obtain ⟨vals, k3, k4⟩ := resV_sound hT h1 h2 e2 hs.2
    refine ⟨val :: vals, ?_, by simp only [SimVs]; exact ⟨val, vals, rfl, k2, k4⟩⟩
    rw [List.mapM_cons]
    simp only [Sem.run_bind, k1, k3, Result.andThen_ok, Sem.run_pure]

def initG : Nat → List V → List (Nat × Bool × V)
  | _, [] => []
  | k, v :: vs => (k, true, v) :: initG (k + 1) vs

theorem find_initG : ∀ (k : Nat) (vs : List V) (t : Nat) (x : Bool × V), find (initG k vs) t = some x → k ≤ t ∧ ∃ v, vs[t - k]? = some v ∧ x = (true, v)
  | k, [], t, x, h => by simp [initG, find] at h
  | k, v :: vs, t, x, h => by
    simp only [initG, find] at h
    split at h
    · rename_i e; subst e; cases h; exact ⟨Nat.le_refl _, v, by simp, rfl⟩
    · obtain ⟨h1, u, h2, h3⟩ := find_initG (k + 1) vs t x h
      refine ⟨by omega, u, ?_, h3⟩
      rw [show t - k = (t - (k + 1)) + 1 by omega]; simpa using h2

/-- A function, by its body's condition. -/
theorem vcalls (hT : Tab P T) {f : FuncId} {fn : Func} {c : Code} (hf : P.funcs[f]? = some fn) (hb : fn.body = some c) (hnm : (fn.name == "runtime.NumGoroutine") = false) {rs : List ResultVar} (hrs : fn.results.toList = rs) {N : Nat} (hN : fn.ntmps = N)
    {args : List V} (hl : args.length ≤ N) (hL : (List.range args.length).all (memN L) = true) {st : St} {Q : VEnd → St → Prop} (h : St.ok st → ltL st.length args → fitL args → vCode P T an L [] c ⟨N, initG 0 args, []⟩ st (vRet T rs Q)) : VCalls P T f args st Q := by
  refine ⟨⟨fn, hf, by rw [hb]; rfl, hnm⟩, fun g w vals h1 h2 => calls_of_wp hf hb ?_⟩
  have hvl := h2.length
  have henv : SimEnv g w ⟨N, initG 0 args, []⟩ { tmps := vals.toArray ++ Array.replicate (fn.ntmps - vals.toArray.size) undef, defers := [] } := by
    refine ⟨by simp [hN]; omega, fun t c v hv => ?_⟩
    simp only [Env.look, find] at hv
    obtain ⟨_, u, hu, hx⟩ := find_initG 0 args t _ hv
    cases hx
    obtain ⟨z, hz, hs⟩ := h2.get t (by simpa using hu)
    simp only [if_true]
    have : (vals.toArray ++ Array.replicate (fn.ntmps - vals.toArray.size) undef).getD t undef = z := by
      obtain ⟨htl, hz'⟩ := List.getElem?_eq_some_iff.1 hz
      simp [Array.getD_eq_getD_getElem?, Array.getElem?_append, htl, hz']
    rw [this]; exact hs
  have hok : EnvOK L ⟨N, initG 0 args, []⟩ := by
    intro t x hx
    obtain ⟨_, u, hu, hx'⟩ := find_initG 0 args t x hx
    have htl := (List.getElem?_eq_some_iff.1 hu).1
    simp only [List.all_eq_true] at hL
    exact ⟨hL t (by simpa using htl), by simpa [Env.look, find] using hx⟩
  refine wp_mono (vCode_sound hT c _ st _ (h h1.okSt (by rw [← h1.n]; exact h2.lt) h2.fit) g w _ h1 henv hok rfl) ?_
  intro e a' w' ⟨ve, env', st', g', k1, k2, k3, k4, k5, k6, k7⟩
  have done : (bindO (resV T env' st' rs) fun r => r.2 ∧ Q (.ret (tupV r.1)) st') → a'.defers = [] ∧ ∃ v, (results fn a'.tmps).run P w' = .ok v w' ∧ (∃ r st' g', Q r st' ∧ SimEnd g' w' r (.returned v) ∧ SimSt T g' st' w' ∧ Ext g w g' w') := by
    intro hr
    unfold bindO at hr
    split at hr
    case h_2 => exact hr.elim
    rename_i r hres
    obtain ⟨vs, side⟩ := r
    obtain ⟨hs, hq⟩ := hr
    obtain ⟨vals', m1, m2⟩ := resV_sound hT k6 k3 hres hs
    have hrun : (results fn a'.tmps).run P w' = .ok (if h : vals'.toArray.size = 1 then vals'.toArray[0] else .tuple vals'.toArray) w' := by
      rw [results_eq, Array.mapM_eq_mapM_toList, hrs]
      simp only [Sem.run_bind, Sem.run_map, m1, Result.andThen_ok, Sem.run_pure]
    refine ⟨k5, _, hrun, .ret (tupV vs), st', g', hq, ⟨_, rfl, ?_⟩, k6, k7⟩
    have hlen := m2.length
    match vs, m2, hlen with
    | [], m2, hlen =>
      have : vals' = [] := by simpa using hlen
      subst this
      simp only [tupV, SimV]; exact ⟨[], by simp, m2⟩
    | [v], m2, hlen =>
      simp only [SimVs] at m2
      obtain ⟨u, r, rfl, m3, rfl⟩ := m2
      simpa [tupV] using m3
    | v :: v2 :: vs, m2, hlen =>
      have hne : ¬ vals'.toArray.size = 1 := by simp [hlen]
      simp only [hne, dite_false, tupV, SimV]
      exact ⟨vals', rfl, m2⟩
  cases ve with
  | normal => simp only [SimExit] at k2; subst k2; exact done k1
  | ret => simp only [SimExit] at k2; subst k2; exact done k1
  | exit id => exact k1.elim
  | panic v =>
    obtain ⟨val, rfl, hv⟩ := k2
    exact ⟨k5, .panic v, st', g', k1, ⟨val, rfl, hv⟩, k6, k7⟩

/-- What a call comes to, where what it made for itself is forgotten. -/
def Gives (X : V) (st' : St) (r : VEnd) (s : St) : Prop := ∃ ex v su, s = su ++ ex ∧ wkSt su st' ∧ r = .ret v ∧ wk v X ∧ X.lt st'.length ∧ St.ok st'

theorem VCalls.give {f : FuncId} {args : List V} {st st' : St} {X : V} (h : VCalls P T f args st (Gives X st')) (hn : st.length ≤ st'.length) : VCalls P T f args st fun r s => r = .ret X ∧ s = st' :=
  ⟨h.1, fun g w vals h1 h2 => (h.2 g w vals h1 h2).mono fun e w' ⟨r, s, g', ⟨ex, v, su, e1, e0, e2, e3, e4, e5⟩, k2, k3, k4⟩ => by
    subst e1; subst e2
    have k3 := k3.wk (e0.append (wkSt_refl ex))
    obtain ⟨val, rfl, hv⟩ := k2
    exact ⟨.ret X, st', g'.cut st'.length, ⟨rfl, rfl⟩, ⟨val, rfl, (e3.sim (nil0_no g') hv).cut e4⟩, k3.drop e5, k4.cut (by rw [h1.n]; exact hn)⟩⟩
end
end Go.Proofs.Ytcegdbniggdckaa.Gw

namespace Go.Proofs.Ytcegdbniggdckaa.Gw
open Go

def condV : V → Prop → Prop → Prop
  | .bool t, A, B => Split t A B
  | _, _, _ => False
@[congr] theorem condV_congr {v v' : V} {A B : Prop} (h : v = v') : condV v A B = condV v' A B := by rw [h]

def lookT (gc : Bool) (t : Nat) : List (Nat × Bool × V) → List (Nat × Bool × V) → V
  | [], g => match find g t with | some x => bif (!gc || x.1) then x.2 else .junk | none => .junk
  | (k, x) :: l, g => if k = t then (bif (!gc || x.1) then x.2 else .junk) else lookT gc t l g

def lookG (gc : Bool) (t : Nat) : List (Nat × Bool × V) → V
  | [] => .junk
  | (k, x) :: g => if k = t then (bif (!gc || x.1) then x.2 else .junk) else lookG gc t g

def gbit (want c : Bool) : V → Option Bool
  | .bool b => some (c && (bif want then b else !b))
  | _ => none
def dstL : List Oper → Nat → Option Tmp
  | [], _ => none
  | o :: _, 0 => o.dst
  | _ :: os, k + 1 => dstL os k
def guardG (d : Nat) (w : Bool) : List (Nat × Bool × V) → Option Bool
  | [] => none
  | (k, x) :: g => if k = d then gbit w x.1 x.2 else guardG d w g
def guardL (d : Option Tmp) (w : Bool) : List (Nat × Bool × V) → List (Nat × Bool × V) → Option Bool
  | [], g => match d with | some d => guardG d w g | none => none
  | (k, x) :: l, g => match d with | some d => if k = d then gbit w x.1 x.2 else guardL (some d) w l g | none => none

section
variable (T : Nat → TI) (an : Nat → Nat) (dst : Option Tmp) (gc : Bool) (env : Env) (st : St)

theorem evG_tmp (t : Nat) (N : Nat) (g l : List (Nat × Bool × V)) : evG ⟨N, g, l⟩ gc (.tmp t) = match find l t with
    | some x => bif (!gc || x.1) then x.2 else .junk
    | none => match find g t with | some x => bif (!gc || x.1) then x.2 else .junk | none => .junk := by
  simp only [evG, evO, Env.look]
  cases find l t with
  | some x => rfl
  | none => cases find g t <;> rfl

theorem evG_look (t : Nat) (N : Nat) (g l : List (Nat × Bool × V)) : evG ⟨N, g, l⟩ gc (.tmp t) = lookT gc t l g := by
  rw [evG_tmp]
  induction l with
  | nil => rfl
  | cons y l ih =>
    obtain ⟨k, x⟩ := y
    by_cases h : k = t
    · simp only [find, lookT, if_pos h]
    · simp only [find, lookT, if_neg h]; exact ih

theorem lookT_nil (t : Nat) (g : List (Nat × Bool × V)) : lookT gc t [] g = lookG gc t g := by
  simp only [lookT]
  induction g with
  | nil => rfl
  | cons y g ih =>
    obtain ⟨k, x⟩ := y
    by_cases h : k = t
    · simp only [find, lookG, if_pos h]
    · simp only [find, lookG, if_neg h]; exact ih

theorem lookT_cons (t k : Nat) (c : Bool) (v : V) (l g : List (Nat × Bool × V)) : lookT gc t ((k, c, v) :: l) g = if k = t then (bif (!gc || c) then v else .junk) else lookT gc t l g := rfl
theorem lookG_cons (t k : Nat) (c : Bool) (v : V) (g : List (Nat × Bool × V)) : lookG gc t ((k, c, v) :: g) = if k = t then (bif (!gc || c) then v else .junk) else lookG gc t g := rfl
theorem evG_const (v : Value) : evG env gc (.const v) = V.ofConst v := by simp [evG, evO]
theorem evG_func (f : FuncId) : evG env gc (.func f) = .fn (.func f) [] := by simp [evG, evO]
theorem ofConst_str (s : List UInt8) : V.ofConst (.string ⟨s.toArray⟩) = if s.length ≤ 1000000 then .str s else .junk := by simp [V.ofConst]

theorem evO_look (t : Nat) (N : Nat) (g l : List (Nat × Bool × V)) {A B : Prop} : (bindO (evO ⟨N, g, l⟩ (.tmp t)) fun r => match r with | (true, .bool b) => Split b A B | _ => False) = condV (lookT true t l g) A B := by
  rw [← evG_look true t N g l]
  simp only [evG]
  cases evO ⟨N, g, l⟩ (.tmp t) with
  | none => rfl
  | some r =>
    obtain ⟨c, v⟩ := r
    cases c with
    | true => cases v <;> rfl
    | false => rfl

theorem cond_eq (P : Program) (T : Nat → TI) (an : Nat → Nat) (L : List Nat) (ds : List Deferred) (N : Nat) (g l : List (Nat × Bool × V)) (st : St) (Q : VExit → Env → St → Prop) (t : Nat) (x y : Code) :
    vCode P T an L ds (.cond (.tmp t) x y) ⟨N, g, l⟩ st Q = condV (lookT true t l g) (vCode P T an L ds x ⟨N, g, l⟩ st Q) (vCode P T an L ds y ⟨N, g, l⟩ st Q) := evO_look t N g l

theorem guardG_eq (d : Nat) (w : Bool) (g : List (Nat × Bool × V)) : guardG d w g = match find g d with | some (c, .bool b) => some (c && (bif w then b else !b)) | _ => none := by
  induction g with
  | nil => rfl
  | cons y g ih =>
    obtain ⟨k, c, v⟩ := y
    by_cases h : k = d
    · simp only [guardG, find, if_pos h] <;> (cases v <;> rfl)
    · simp only [guardG, find, if_neg h]; exact ih

theorem guard_eq (all : List Oper) (N : Nat) (g l : List (Nat × Bool × V)) (j : Nat) (w : Bool) : guardV all.toArray ⟨N, g, l⟩ (some (j, w)) = guardL (dstL all j) w l g := by
  have e : dstAt all.toArray j = dstL all j := by
    simp only [dstAt, List.getElem?_toArray]
    induction all generalizing j with
    | nil => rfl
    | cons o os ih => cases j with | zero => rfl | succ j => simpa [dstL] using ih j
  simp only [guardV, e]
  cases dstL all j with
  | none => cases l <;> rfl
  | some d =>
    simp only [Env.look]
    induction l with
    | nil => simp only [find, guardL, guardG_eq] <;> rfl
    | cons y l ih =>
      obtain ⟨k, c, v⟩ := y
      by_cases h : k = d
      · simp only [guardL, find, if_pos h] <;> (cases v <;> rfl)
      · simp only [guardL, find, if_neg h]; exact ih
theorem guardL_cons (w : Bool) (d : Nat) (k : Nat) (c : Bool) (v : V) (l g : List (Nat × Bool × V)) : guardL (some d) w ((k, c, v) :: l) g = if k = d then gbit w c v else guardL (some d) w l g := rfl
theorem guardG_cons (w : Bool) (d : Nat) (k : Nat) (c : Bool) (v : V) (g : List (Nat × Bool × V)) : guardG d w ((k, c, v) :: g) = if k = d then gbit w c v else guardG d w g := rfl

def pureR (r : Option (V × Prop)) (m : Step) : Step := match r with | some (v, side) => .pure v side | none => m
@[congr] theorem pureR_congr {r r' : Option (V × Prop)} {m : Step} (h : r = r') : pureR r m = pureR r' m := by rw [h]

def nilV : V → Step
  | .ref l => .pure (.ref l) True
  | .ptr o f => .pure (.ptr o f) True
  | .eptr e n sz k f => .pure (.eptr e n sz k f) True
  | .fn f c => .pure (.fn f c) (∀ n, f ≠ .method n)
  | .iface t v => .pure (.iface t v) True
  | _ => .fail
theorem step_nilCheck (x : Operand) : stepOp T an dst (.nilCheck x) gc env st = nilV (evG env gc x) := by
  simp only [stepOp, pureStep, pureOp, memStep, memOp, moreOp]
  cases evG env gc x <;> rfl

def notV : V → Step
  | .bool b => .pure (.bool (!b)) True
  | _ => .fail
theorem step_not (t : TypeId) (x : Operand) : stepOp T an dst (.unOp .not t x) gc env st = notV (evG env gc x) := by
  simp only [stepOp, pureStep, pureOp, memStep, memOp, moreOp]
  cases evG env gc x <;> rfl
def negV : V → Step
  | .int k n => .pure (.int k (k.wrap (0 - n))) True
  | _ => .fail
theorem step_neg (t : TypeId) (x : Operand) : stepOp T an dst (.unOp .neg t x) gc env st = negV (evG env gc x) := by
  simp only [stepOp, pureStep, pureOp, memStep, memOp, moreOp]
  cases evG env gc x <;> rfl

def fieldW (T : Nat → TI) (f : Option (Nat × TypeId)) (x : V) : Option (V × Prop) := match f with
      | some (off, ft) => if (T ft).sized = false then none else match x with
        | .ref l => some (.ref (l.drop off), True)
        | .ptr o n => some (.ptr o (n + off), True)
        | .eptr e n sz k f => some (.eptr e n sz k (f + off), True)
        | _ => none
      | none => none
def fieldV (T : Nat → TI) (k : TK) (f : Nat) (x : V) : Option (V × Prop) := match k with
    | .struct fs => fieldW T fs[f]? x
    | _ => none
def fldW (T : Nat → TI) (f : Option (Nat × TypeId)) (l : List V) : Option (V × Prop) := match f with
  | some (off, ft) => if (T ft).sized = false then none else loadV (T ft) (l.drop off)
  | none => none
def fldV (T : Nat → TI) (k : TK) (f : Nat) (x : V) : Option (V × Prop) := match k, x with
    | .struct fs, .agg l => fldW T fs[f]? l
    | _, _ => none
theorem step_field (s : TypeId) (x : Operand) (f : Nat) : stepOp T an dst (.field s x f) gc env st = pureR (fldV T (T s).kind f (evG env gc x)) .fail := by
  simp only [stepOp, pureStep, pureOp, memStep, memOp, moreOp, fldV]
  generalize (T s).kind = k
  generalize evG env gc x = v
  cases k <;> try rfl
  rename_i fs
  simp only
  cases v <;> try (cases fs[f]? <;> rfl)
  simp only [fldW]
  cases fs[f]? with
  | none => rfl
  | some p =>
    obtain ⟨off, ft⟩ := p
    simp only
    by_cases h : (T ft).sized = false
    · simp only [if_pos h] <;> rfl
    · simp only [if_neg h, pureR] <;> (generalize loadV _ _ = r; cases r <;> rfl)
def idxB (i : TI) (o n : Nat) (k : Int) (st : St) : Option Ent → Step
  | some (.arr _ sz c) => if i.sized = true ∧ sz = i.size then .mem (.eptr o n sz k.toNat 0) st (n = c.length ∧ 0 ≤ k ∧ k < n) else .fail
  | _ => .fail
def idxS (T : Nat → TI) (k : TK) (x i : V) (st : St) : Step := match k, x, i with
    | .slice e, .lst sz _ l, .int _ n => if (T e).sized = true ∧ sz = (T e).size then .pure (.ref (l.getD n.toNat [])) (0 ≤ n ∧ n < l.length) else .fail
    | .slice e, .arr o n, .int _ k => idxB (T e) o n k st st[o]?
    | _, _, _ => .fail
theorem step_indexAddr (t : TypeId) (x i : Operand) : stepOp T an dst (.indexAddr t x i) gc env st = idxS T (T t).kind (evG env gc x) (evG env gc i) st := by
  simp only [stepOp, pureStep, pureOp, memStep, memOp, moreOp, idxS]
  cases (T t).kind <;> try rfl
  rename_i e
  cases evG env gc x <;> try rfl
  · rename_i sz tk l
    cases evG env gc i <;> try rfl
    rename_i kk n
    simp only
    by_cases h : (T e).sized = true ∧ sz = (T e).size
    · simp only [if_pos h]
    · simp only [if_neg h]
  · rename_i o n
    cases evG env gc i <;> try rfl
    rename_i kk k
    simp only [idxB]
    cases st[o]? with
    | none => rfl
    | some ent =>
      cases ent with
      | arr et sz c =>
        simp only
        by_cases h : (T e).sized = true ∧ sz = (T e).size
        · simp only [if_pos h]
        · simp only [if_neg h]
      | _ => rfl
def convS (r : Option (V × St × Prop)) : Step := match r with | some (v, st, p) => .mem v st p | none => .fail
theorem step_convert (src d : TypeId) (x : Operand) : stepOp T an dst (.convert src d x) gc env st = convS (convV T src d (evG env gc x) st) := rfl
def idxV (k : TK) (x i : V) : Option (V × Prop) := match k, x, i with
    | .str, .str s, .int _ n => some (.int .u8 (s.getD n.toNat 0).toNat, 0 ≤ n ∧ n < s.length)
    | _, _, _ => none
def extW : Option V → Step
  | some v => .pure v True
  | none => .fail
def extV (i : Nat) : V → Step
  | .tup l => extW l[i]?
  | _ => .fail
theorem step_extract (x : Operand) (i : Nat) : stepOp T an dst (.extract x i) gc env st = extV i (evG env gc x) := by
  simp only [stepOp, pureStep, pureOp, memStep, memOp, moreOp, extV]
  cases evG env gc x <;> try rfl
  rename_i l
  simp only
  cases l[i]? <;> rfl
def buildV (T : Nat → TI) (i : TI) (parts : List (Nat × V)) : Option (V × Prop) := match i.kind with
    | .struct fs => if (fs.all fun p => (T p.2).known) = false then none else (fillV T fs i.zero parts).map fun l => (.agg l, True)
    | _ => none
theorem step_build (t : TypeId) (parts : List (Nat × Operand)) : stepOp T an dst (.build t parts.toArray) gc env st = pureR (buildV T (T t) (parts.map fun p => (p.1, evG env gc p.2))) .fail := rfl
def mkIface (i : TI) (t : TypeId) (x : V) : Option (V × Prop) := match i.kind with | .iface => none | .other => none | _ => if i.sized = false then none else some (.iface t x, True)
theorem step_makeInterface (t : TypeId) (x : Operand) : stepOp T an dst (.makeInterface t x) gc env st = pureR (mkIface (T t) t (evG env gc x)) .fail := rfl

def loadN (st : St) (n k m : Nat) : Option (V × Prop) → Step
  | some (v, p) => .mem v st (p ∧ n = m ∧ k < n)
  | none => .fail
def loadM (st : St) : Option (V × Prop) → Step
  | some (v, p) => .mem v st p
  | none => .fail
def loadB (i : TI) (n : Nat) (st : St) : Option Ent → Step
  | some (.box c) => if i.known then loadM st (loadV i (c.drop n)) else .fail
  | _ => .fail
def loadE (i : TI) (n sz k off : Nat) (st : St) : Option Ent → Step
  | some (.arr _ sz' c) => if i.known = true ∧ sz' = sz then loadN st n k c.length (loadV i ((c.getD k []).drop off)) else .fail
  | _ => .fail
def loadS (T : Nat → TI) (t : TypeId) (st : St) : V → Step
  | .eptr o n sz k off => loadE (T t) n sz k off st st[o]?
  | .ref l => if (T t).sized = false then .fail else pureR (loadV (T t) l) .fail
  | .ptr o n => loadB (T t) n st st[o]?
  | _ => .fail
theorem loadS_ptr (T : Nat → TI) (t : TypeId) (st : St) (o n : Nat) : loadS T t st (.ptr o n) = loadB (T t) n st st[o]? := rfl
theorem step_load (t : TypeId) (x : Operand) : stepOp T an dst (.load t x) gc env st = loadS T t st (evG env gc x) := by
  simp only [stepOp, pureStep, pureOp, memStep, memOp, moreOp, loadS]
  generalize evG env gc x = v
  cases v with
  | ref l =>
    by_cases h : (T t).sized = false
    · simp only [if_pos h]
    · simp only [if_neg h]
      cases loadV (T t) l <;> rfl
  | ptr o n =>
    simp only [loadB]
    cases st[o]? with
    | none => rfl
    | some e =>
      cases e with
      | box c =>
        simp only
        by_cases h : (T t).known = true
        · simp only [if_pos h]
          cases loadV (T t) (c.drop n) <;> rfl
        · simp only [if_neg h]
      | _ => rfl
  | eptr o n sz k off =>
    simp only [loadE]
    cases st[o]? with
    | none => rfl
    | some e =>
      cases e with
      | arr et sz' c =>
        simp only
        by_cases h : (T t).known = true ∧ sz' = sz
        · simp only [if_pos h]
          cases loadV (T t) ((c.getD k []).drop off) <;> rfl
        · simp only [if_neg h]
      | _ => rfl
  | _ => rfl

def allocS (i : TI) (mode : Nat) (st : St) : Step := if i.known then match mode with
  | 0 => .mem (.ptr st.length 0) (st ++ [.box i.zero]) True
  | _ + 1 => .mem (.ref i.zero) st True
  else .fail
theorem step_alloc (t : TypeId) : stepOp T an dst (.alloc t) gc env st = allocS (T t) (an (dst.getD 0)) st := by
  simp only [stepOp, pureStep, pureOp, memStep, memOp, moreOp, allocS]
  by_cases h : (T t).known = true
  · simp only [if_pos h] <;> (cases an (dst.getD 0) <;> rfl)
  · simp only [if_neg h]
def boxS (mode : Nat) (x : Option (List V)) (st : St) : Step := match mode, x with
  | 0, some l => .mem (.ptr st.length 0) (st ++ [.box l]) True
  | _ + 1, some l => .mem (.ref l) st True
  | _, none => .fail
theorem step_box (t : TypeId) (x : Operand) : stepOp T an dst (.box t x) gc env st = boxS (an (dst.getD 0)) (V.cells (evG env gc x)) st := by
  simp only [stepOp, pureStep, pureOp, memStep, memOp, moreOp, boxS]
  cases V.cells (evG env gc x) <;> cases an (dst.getD 0) <;> rfl
def storeB (i : TI) (st : St) (o n : Nat) (l : List V) : Option Ent → Step
  | some (.box c) => if i.known ∧ l.length = i.size then .mem .junk (st.set o (.box (c.take n ++ l ++ c.drop (n + l.length)))) (n + l.length ≤ c.length) else .fail
  | _ => .fail
def storeE (i : TI) (st : St) (o n sz k off : Nat) (l : List V) : Option Ent → Step
  | some (.arr e sz' c) => if i.known = true ∧ l.length = i.size ∧ sz' = sz then .mem .junk (st.set o (.arr e sz (c.set k ((c.getD k []).take off ++ l ++ (c.getD k []).drop (off + l.length))))) (n = c.length ∧ k < n ∧ off + l.length ≤ sz) else .fail
  | _ => .fail
def storeS (i : TI) (st : St) (a : V) (x : Option (List V)) : Step := match a, x with
  | .eptr o n sz k off, some l => storeE i st o n sz k off l st[o]?
  | .ptr o n, some l => storeB i st o n l st[o]?
  | _, _ => .fail
theorem step_store (t : TypeId) (a x : Operand) : stepOp T an dst (.store t a x) gc env st = storeS (T t) st (evG env gc a) (V.cells (evG env gc x)) := by
  simp only [stepOp, pureStep, pureOp, memStep, memOp, moreOp, storeS]
  cases evG env gc a <;> try (cases V.cells (evG env gc x) <;> rfl)
  · rename_i o n sz k off
    simp only
    cases hx : V.cells (evG env gc x) with
    | none => cases st[o]? <;> try rfl
              rename_i e; cases e <;> rfl
    | some l =>
      simp only [storeE]
      cases st[o]? with
      | none => rfl
      | some e =>
        cases e with
        | arr et sz' c =>
          simp only
          by_cases h : (T t).known = true ∧ l.length = (T t).size ∧ sz' = sz
          · simp only [if_pos h]
          · simp only [if_neg h]
        | _ => rfl
  · rename_i o n
    simp only
    cases hx : V.cells (evG env gc x) with
    | none => cases st[o]? <;> try rfl
              rename_i e; cases e <;> rfl
    | some l =>
      simp only [storeB]
      cases st[o]? with
      | none => rfl
      | some e =>
        cases e with
        | box c =>
          simp only
          by_cases h : (T t).known = true ∧ l.length = (T t).size
          · simp only [if_pos h]
          · simp only [if_neg h]
        | _ => rfl
def litM (e : TypeId) (sz n : Nat) (mode : Nat) (st : St) : Option (List (List V)) → Step
  | some rows => match mode with
    | 0 => .mem (.lst sz none rows) st True
    | 1 => .mem (.lst sz (some st.length) rows) (st ++ [.tip e n]) True
    | _ => .mem (.arr st.length n) (st ++ [.arr e sz rows]) True
  | none => .fail
def litR (i : TI) (n : Nat) (parts : List (Nat × V)) : Option (List (List V)) := litRows i n parts.reverse
def litS (T : Nat → TI) (mode n : Nat) (st : St) (k : TK) (parts : List (Nat × V)) : Step := match k with
  | .slice e => if (T e).sized ∧ n * (T e).size ≤ 16777216 then litM e (T e).size n mode st (litR (T e) n parts) else .fail
  | _ => .fail
theorem step_buildSlice (t : TypeId) (n : Nat) (parts : List (Nat × Operand)) : stepOp T an dst (.buildSlice t n parts.toArray) gc env st = litS T (an (dst.getD 0)) n st (T t).kind (parts.map fun p => (p.1, evG env gc p.2)) := by
  simp only [stepOp, pureStep, pureOp, memStep, memOp, moreOp, litS, litR, List.map_reverse]
  cases (T t).kind <;> try rfl
  rename_i e
  simp only
  by_cases h : (T e).sized = true ∧ n * (T e).size ≤ 16777216
  · simp only [if_pos h]
    cases litRows (T e) n (parts.map fun p => (p.1, evG env gc p.2)).reverse with
    | none => rfl
    | some rows =>
      simp only [litM]
      match an (dst.getD 0) with
      | 0 => rfl
      | 1 => rfl
      | _ + 2 => rfl
  · simp only [if_neg h]
def makeS (T : Nat → TI) (st : St) : TK → V → V → Step
  | .slice e, .int _ n, .int _ m => if (T e).sized = true then .mem (.arr st.length n.toNat) (st ++ [.arr e (T e).size (List.replicate n.toNat (T e).zero)]) (n = m ∧ 0 ≤ n ∧ n ≤ 100000000000000 ∧ n * (T e).bytes ≤ 100000000000000) else .fail
  | _, _, _ => .fail
theorem step_makeSlice (t : TypeId) (x y : Operand) : stepOp T an dst (.makeSlice t x y) gc env st = makeS T st (T t).kind (evG env gc x) (evG env gc y) := by
  simp only [stepOp, pureStep, pureOp, memStep, memOp, moreOp]
  cases (T t).kind <;> try rfl
  rename_i e
  cases evG env gc x <;> try rfl
  cases evG env gc y <;> try rfl
  simp only [makeS]
  by_cases h : (T e).sized = true
  · simp only [if_pos h]
  · simp only [if_neg h]
theorem step_next (it : Operand) : stepOp T an dst (.next it false) gc env st = anyS (nextV (evG env gc it) st) := rfl
theorem step_entry (it : Operand) : stepOp T an dst (.entry it) gc env st = convS (entV (evG env gc it) st) := rfl
theorem step_makeMap (t : TypeId) : stepOp T an dst (.makeMap t none) gc env st = convS (makeMapE (T t).kind st) := rfl
theorem step_lookup (t : TypeId) (m x : Operand) (ok : Bool) : stepOp T an dst (.lookup t m x ok) gc env st = convS (mapLook T (T t).kind (evG env gc m) (evG env gc x) ok st) := rfl
theorem step_mapUpdate (t : TypeId) (m x y : Operand) : stepOp T an dst (.mapUpdate t m x y) gc env st = convS (mapPut T (T t).kind (evG env gc m) (evG env gc x) (evG env gc y) st) := rfl
theorem step_insert (t : TypeId) (m x y : Operand) : stepOp T an dst (.insert t m x y) gc env st = convS (mapPut T (T t).kind (evG env gc m) (evG env gc x) (evG env gc y) st) := rfl
theorem step_range (t : TypeId) (m : Operand) : stepOp T an dst (.range t m) gc env st = convS (mapRange (T t).kind (evG env gc m) st) := rfl
def callS (f : V) (args : List V) : Step := match f with
  | .fn (.func k) cap => .call k (args ++ cap)
  | _ => .fail
theorem step_call (f : Operand) (args : List Operand) (ts : Array TypeId) : stepOp T an dst (.call ⟨.value f, args.toArray, ts⟩) gc env st = callS (evG env gc f) (args.map (evG env gc)) := by
  simp only [stepOp, callS] <;> (cases evG env gc f <;> rfl)
def memA : Option (V × St × Prop) → Step
  | some (v, st', side) => .mem v st' side
  | none => .fail
def appS (T : Nat → TI) (mode : Nat) (k kx : TK) (s x : V) (st : St) : Step := match k with
  | .slice e => match kx with
    | .slice _ | .str => if (T e).sized ∧ (T e).bytes ≠ 0 then match rowsOf (T e).size x with
        | some m => memA (appendV mode e (T e) s m st)
        | none => .fail else .fail
    | _ => .fail
  | _ => .fail
def builtS (T : Nat → TI) (mode : Nat) (b : Builtin) (args : List V) (ts : List TypeId) (st : St) : Step := match b with
  | .append => match args, ts with
    | [s, x], [t, xt] => appS T mode (T t).kind (T xt).kind s x st
    | _, _ => .fail
  | .len => pureR (builtinV T .len args ts) (convS (mapLen T args ts st))
  | b => pureR (builtinV T b args ts) .fail
theorem step_builtin (b : Builtin) (args : List Operand) (ts : List TypeId) : stepOp T an dst (.call ⟨.builtin b, args.toArray, ts.toArray⟩) gc env st = builtS T (an (dst.getD 0)) b (args.map (evG env gc)) ts st := by
  simp only [stepOp, pureStep, pureOp, memStep, builtS]
  cases b with
  | append =>
    simp only [builtinV, memOp]
    generalize args.map (evG env gc) = vs
    match vs, ts with
    | [], _ => rfl
    | [_], _ => rfl
    | [_, _], [] => rfl
    | [_, _], [_] => rfl
    | [s, x], [t, xt] =>
      simp only [appS]
      cases (T t).kind <;> try (cases (T xt).kind <;> rfl)
      rename_i e
      cases (T xt).kind <;> try rfl
      all_goals
        simp only
        by_cases h : (T e).sized = true ∧ (T e).bytes ≠ 0
        · simp only [if_pos h]
          cases rowsOf (T e).size x with
          | none => rfl
          | some m =>
            simp only
            cases appendV (an (dst.getD 0)) e (T e) s m st <;> rfl
        · simp only [if_neg h] <;> (rfl)
    | [_, _], _ :: _ :: _ :: _ => rfl
    | _ :: _ :: _ :: _, _ => rfl
  | len =>
    simp only [memOp, moreOp]
    generalize builtinV T _ _ _ = r
    cases r with
    | some r => rfl
    | none =>
      simp only [pureR]
      generalize hm : mapLen T _ _ st = q
      have : mapLen T (List.map (evG env gc) args.toArray.toList) ts.toArray.toList st = q := hm
      cases q <;> rfl
  | _ =>
    all_goals
      simp only [memOp]
      generalize builtinV T _ _ _ = r
      cases r <;> rfl
end
end Go.Proofs.Ytcegdbniggdckaa.Gw
