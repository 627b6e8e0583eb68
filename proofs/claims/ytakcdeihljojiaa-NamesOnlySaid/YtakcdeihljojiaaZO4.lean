/- Code as a whole; loops; functions. Each operation's step, as an equation: what the condition of code is computed by. The condition of code with what comes behind it as data: so that computing it looks at nothing that is not come to yet. The equations by which the condition of code is computed, under few names. -/
import Derived.Test.YtakcdeihljojiaaZO3

namespace Go.Proofs.Ytakcdeihljojiaa.Gw
open Go
set_option linter.unusedSimpArgs false

section
variable {P : Program} {T : Nat → TI} {an : Nat → Nat} {L : List Nat} {ds : List Deferred}

theorem SimEnv.loc {g : G} {w : World} {env : Env} {a : Act} (h : SimEnv g w env a) (hl : EnvOK L env) : SimEnv g w { env with l := [] } a :=
  ⟨h.1, fun t c v hv => h.2 t c v (hl t _ (by simpa [Env.look, find] using hv)).2⟩
theorem EnvOK.loc {env : Env} (hl : EnvOK L env) : EnvOK L { env with l := [] } :=
  fun t x hx => ⟨(hl t x hx).1, by simp only [Env.look, find]; exact hx⟩

theorem vCode_sound (hT : Tab P T) : ∀ (c : Code) (env : Env) (st : St) (Q : VExit → Env → St → Prop), vCode P T an L ds c env st Q → VC P T L ds c env st Q := by
  intro c
  induction c with
  | skip => intro env st Q h g w a h1 h2 h3 h4; exact wp_skip ⟨.normal, env, st, g, h, rfl, h2, h3, h4, h1, Ext.refl _ _⟩
  | region id ops draw =>
    intro env st Q h
    cases draw with
    | true => exact h
    | false =>
      intro g w a h1 h2 h3 h4
      exact wp_region_list (vOps_sound hT ops.toList _ st g w a (Ext.refl _ _) h1 (h2.loc h3) h3.loc h4 h)
  | seq x y ihx ihy =>
    intro env st Q h g w a h1 h2 h3 h4
    refine wp_seq (wp_mono (ihx env st _ h g w a h1 h2 h3 h4) ?_)
    intro e a' w' ⟨ve, env', st', g', k1, k2, k3, k4, k5, k6, k7⟩
    cases ve with
    | normal =>
      simp only [SimExit] at k2; subst k2
      exact wp_mono (ihy env' st' Q k1 g' w' a' k6 k3 k4 k5) fun _ _ _ hq => hq.ext k7
    | exit id => simp only [SimExit] at k2; subst k2; exact ⟨.exit id, env', st', g', k1, rfl, k3, k4, k5, k6, k7⟩
    | ret => simp only [SimExit] at k2; subst k2; exact ⟨.ret, env', st', g', k1, rfl, k3, k4, k5, k6, k7⟩
    | panic v => have k2' := k2; obtain ⟨val, rfl, _⟩ := k2; exact ⟨.panic v, env', st', g', k1, k2', k3, k4, k5, k6, k7⟩
  | cond c x y ihx ihy =>
    intro env st Q h g w a h1 h2 h3 h4
    simp only [vCode] at h
    unfold bindO at h
    split at h
    case h_2 => exact h.elim
    rename_i r hr
    split at h
    case h_2 => exact h.elim
    rename_i t
    have hc := evO_sim h2 hr
    simp only [if_true, SimV] at hc
    obtain ⟨s1, s2⟩ := h
    refine wp_cond_split hc (fun ht => ihx env st Q (s1 ht) g w a h1 h2 h3 h4) (fun ht => ihy env st Q (s2 ht) g w a h1 h2 h3 h4)
  | block id c ih =>
    intro env st Q h g w a h1 h2 h3 h4
    refine wp_block (wp_mono (ih env st _ h g w a h1 h2 h3 h4) ?_)
    intro e a' w' ⟨ve, env', st', g', k1, k2, k3⟩
    cases ve with
    | normal => simp only [SimExit] at k2; subst k2; exact ⟨.normal, env', st', g', k1, rfl, k3⟩
    | exit i =>
      simp only [SimExit] at k2; subst k2
      simp only [vBlock] at k1
      simp only [Exit.inBlock]
      split
      · rename_i e; rw [if_pos e] at k1; exact ⟨.normal, env', st', g', k1, rfl, k3⟩
      · rename_i e; rw [if_neg e] at k1; exact ⟨.exit i, env', st', g', k1, rfl, k3⟩
    | ret => simp only [SimExit] at k2; subst k2; exact ⟨.ret, env', st', g', k1, rfl, k3⟩
    | panic v => have k2' := k2; obtain ⟨val, rfl, _⟩ := k2; exact ⟨.panic v, env', st', g', k1, k2', k3⟩
  | exit id => intro env st Q h g w a h1 h2 h3 h4; exact wp_exit ⟨.exit id, env, st, g, h, rfl, h2, h3, h4, h1, Ext.refl _ _⟩
  | ret => intro env st Q h g w a h1 h2 h3 h4; exact wp_ret ⟨.ret, env, st, g, h, rfl, h2, h3, h4, h1, Ext.refl _ _⟩
  | loop c ih => intro env st Q h; exact h
  | rangeFunc f p x y ihx ihy => intro env st Q h; exact h
  | scope c ih => intro env st Q h; exact h
  | label l => intro env st Q h; exact h
  | goto l => intro env st Q h; exact h
  | refuse s => intro env st Q h; exact h

/-- What is kept of an environment. -/
def Env.keep (e : Env) : List Nat → List (Nat × Bool × V)
  | [] => []
  | t :: ts => match e.look t with
    | some x => (t, x) :: e.keep ts
    | none => e.keep ts

theorem find_keep (e : Env) : ∀ (ts : List Nat) (t : Nat) (x : Bool × V), find (e.keep ts) t = some x → e.look t = some x ∧ memN ts t = true
  | [], t, x, h => by simp [Env.keep, find] at h
  | u :: ts, t, x, h => by
    simp only [Env.keep] at h
    split at h
    · rename_i y hy
      simp only [find] at h
      split at h
      · rename_i hu; subst hu; cases h; exact ⟨hy, by simp [memN]⟩
      · rename_i hu
        obtain ⟨h1, h2⟩ := find_keep e ts t x h
        exact ⟨h1, by simp [memN, hu, h2]⟩
    · obtain ⟨h1, h2⟩ := find_keep e ts t x h
      exact ⟨h1, by simp only [memN]; split <;> simp [h2]⟩

def subN (ks L : List Nat) : Bool := ks.all (memN L)

theorem memN_mem : ∀ {ks : List Nat} {t : Nat}, memN ks t = true → t ∈ ks
  | [], t, h => by simp [memN] at h
  | k :: ks, t, h => by
    simp only [memN] at h
    split at h
    · rename_i e; simp [e]
    · exact List.mem_cons_of_mem _ (memN_mem h)

theorem SimEnv.keep {g : G} {w : World} {env : Env} {a : Act} (h : SimEnv g w env a) (ks : List Nat) : SimEnv g w ⟨env.N, env.keep ks, []⟩ a :=
  ⟨h.1, fun t c v hv => h.2 t c v (find_keep env ks t _ (by simpa [Env.look, find] using hv)).1⟩
theorem EnvOK.keep {ks : List Nat} (hs : subN ks L = true) (env : Env) : EnvOK L ⟨env.N, env.keep ks, []⟩ := by
  intro t x hx
  obtain ⟨h1, h2⟩ := find_keep env ks t x hx
  refine ⟨?_, by simpa [Env.look, find] using hx⟩
  simp only [subN, List.all_eq_true] at hs
  exact hs t (memN_mem h2)

/-- Of an environment less may be told. -/
theorem VC.keep (ks : List Nat) (hs : subN ks L = true) {c : Code} {env : Env} {st : St} {Q : VExit → Env → St → Prop} (h : VC P T L ds c ⟨env.N, env.keep ks, []⟩ st Q) : VC P T L ds c env st Q :=
  fun g w a h1 h2 _ h4 => h g w a h1 (h2.keep ks) (EnvOK.keep hs env) h4

/-- A loop: what holds at each round's head, of what is kept; a number that each round lowers. -/
theorem VC.loop (ks : List Nat) (hs : subN ks L = true) {c : Code} {env : Env} {st : St} {Q : VExit → Env → St → Prop} (I : Nat → Env → St → Prop) (k : Nat) (h0 : I k ⟨env.N, env.keep ks, []⟩ st)
    (step : ∀ k env st, I k env st → VC P T L ds c env st (vSeq (fun env' st' => ∃ k', k' < k ∧ I k' ⟨env'.N, env'.keep ks, []⟩ st') Q)) : VC P T L ds (.loop c) env st Q := by
  intro g w a h1 h2 h3 h4
  refine wp_loop_ghost (fun k a' w' => ∃ env' st' g', I k env' st' ∧ SimSt T g' st' w' ∧ SimEnv g' w' env' a' ∧ EnvOK L env' ∧ a'.defers = ds ∧ Ext g w g' w') k ⟨_, st, g, h0, h1, h2.keep ks, EnvOK.keep hs env, h4, Ext.refl _ _⟩ ?_
  intro n a' w' ⟨env', st', g', i1, i2, i3, i4, i5, i6⟩
  refine wp_mono (step n env' st' i1 g' w' a' i2 i3 i4 i5) ?_
  intro e a2 w2 ⟨ve, env2, st2, g2, k1, k2, k3, k4, k5, k6, k7⟩
  cases ve with
  | normal =>
    simp only [SimExit] at k2; subst k2
    obtain ⟨k', hk, hI⟩ := k1
    exact ⟨k', hk, _, st2, g2, hI, k6, k3.keep ks, EnvOK.keep hs env2, k5, i6.trans k7⟩
  | exit id => simp only [SimExit] at k2; subst k2; exact ⟨.exit id, env2, st2, g2, k1, rfl, k3, k4, k5, k6, i6.trans k7⟩
  | ret => simp only [SimExit] at k2; subst k2; exact ⟨.ret, env2, st2, g2, k1, rfl, k3, k4, k5, k6, i6.trans k7⟩
  | panic v => have k2' := k2; obtain ⟨val, rfl, _⟩ := k2; exact ⟨.panic v, env2, st2, g2, k1, k2', k3, k4, k5, k6, i6.trans k7⟩

-- functions

def resOne (T : Nat → TI) (env : Env) (st : St) : ResultVar → Option (V × Prop)
  | .tmp t => match env.look t with
    | some (c, v) => some (v, c = true)
    | none => none
  | .cell a t => match env.look a with
    | some (c, .ptr o n) => match st[o]? with
      | some (.box l) => if (T t).known then (loadV (T t) (l.drop n)).map fun r => (r.1, c = true ∧ r.2) else none
      | _ => none
    | some (c, .ref l) => if (T t).known then (loadV (T t) l).map fun r => (r.1, c = true ∧ r.2) else none
    | _ => none

def resV (T : Nat → TI) (env : Env) (st : St) : List ResultVar → Option (List V × Prop)
  | [] => some ([], True)
  | r :: rs => match resOne T env st r, resV T env st rs with
    | some (v, p), some (vs, q) => some (v :: vs, p ∧ q)
    | _, _ => none

def tupV : List V → V
  | [v] => v
  | l => .tup l

def vRet (T : Nat → TI) (rs : List ResultVar) (Q : VEnd → St → Prop) : VExit → Env → St → Prop
  | .normal, env, st => bindO (resV T env st rs) fun r => r.2 ∧ Q (.ret (tupV r.1)) st
  | .ret, env, st => bindO (resV T env st rs) fun r => r.2 ∧ Q (.ret (tupV r.1)) st
  | .panic v, _, st => Q (.panic v) st
  | .exit _, _, _ => False

theorem vRet_normal (rs : List ResultVar) (Q : VEnd → St → Prop) (env : Env) (st : St) : vRet T rs Q .normal env st = bindO (resV T env st rs) fun r => r.2 ∧ Q (.ret (tupV r.1)) st := rfl
theorem vRet_ret (rs : List ResultVar) (Q : VEnd → St → Prop) (env : Env) (st : St) : vRet T rs Q .ret env st = bindO (resV T env st rs) fun r => r.2 ∧ Q (.ret (tupV r.1)) st := rfl
theorem vRet_panic (rs : List ResultVar) (Q : VEnd → St → Prop) (env : Env) (st : St) (v : V) : vRet T rs Q (.panic v) env st = Q (.panic v) st := rfl

def resSem (tmps : Array Value) : ResultVar → Sem Value
  | .tmp t => pure (tmps.getD t undef)
  | .cell a t => do loadVar t (← asAddr (tmps.getD a undef))

theorem results_eq (fn : Func) (tmps : Array Value) : results fn tmps = (do let vs ← fn.results.mapM (resSem tmps); pure (if h : vs.size = 1 then vs[0] else .tuple vs)) := by
  unfold results
  congr 1

theorem resOne_sound (hT : Tab P T) {g : G} {w : World} {env : Env} {st : St} {a : Act} (h1 : SimSt T g st w) (h2 : SimEnv g w env a) {r : ResultVar} {v : V} {side : Prop} (h : resOne T env st r = some (v, side)) (hs : side) :
    ∃ val, (resSem a.tmps r).run P w = .ok val w ∧ SimV g w v val := by
  cases r with
  | tmp t =>
    simp only [resOne] at h
    split at h
    case h_2 => simp at h
    rename_i c v' hl
    simp only [Option.some.injEq, Prod.mk.injEq] at h
    obtain ⟨rfl, rfl⟩ := h
    have := h2.2 t c _ hl
    rw [if_pos hs] at this
    exact ⟨_, rfl, this⟩
  | cell x t =>
    simp only [resOne] at h
    split at h
    · rename_i c o n hl
      split at h
      case h_2 => simp at h
      rename_i l ho
      split at h
      case isFalse => simp at h
      rename_i hk
      cases hld : loadV (T t) (l.drop n) with
      | none => simp [hld] at h
      | some r =>
        simp only [hld, Option.map_some, Option.some.injEq, Prod.mk.injEq] at h
        obtain ⟨rfl, rfl⟩ := h
        have hx := h2.2 x c _ hl
        rw [if_pos hs.1] at hx
        simp only [SimV] at hx
        obtain ⟨q1, vs, t', q2, q3, q4⟩ := h1.ent o _ ho
        have e : ∀ j u, (vs.drop n)[j]? = some u → w.cell? ((Addr.mk (g.pb o) n none).add j) = some u := by
          intro j u hj
          rw [Addr.add_eq rfl]
          simp only [World.cell?, q2]
          rw [List.getElem?_drop] at hj
          simpa using hj
        obtain ⟨val, r1, r2⟩ := load_cells hT (known_kind hk) (q3.drop n) (fun u hu => q4 u (List.mem_of_mem_drop hu)) e hld hs.2
        exact ⟨val, by simp [resSem, hx.2, asAddr, r1], r2⟩
    · rename_i c l hl
      split at h
      case isFalse => simp at h
      rename_i hk
      cases hld : loadV (T t) l with
      | none => simp [hld] at h
      | some r =>
        simp only [hld, Option.map_some, Option.some.injEq, Prod.mk.injEq] at h
        obtain ⟨rfl, rfl⟩ := h
        have hx := h2.2 x c _ hl
        rw [if_pos hs.1] at hx
        simp only [SimV] at hx
        obtain ⟨ad, k1, k2, k3⟩ := hx
        obtain ⟨val, r1, r2⟩ := load_sealed hT (known_kind hk) k2 k3 hld hs.2
        exact ⟨val, by simp [resSem, k1, asAddr, r1], r2⟩
    · simp at h

theorem resV_sound (hT : Tab P T) {g : G} {w : World} {env : Env} {st : St} {a : Act} (h1 : SimSt T g st w) (h2 : SimEnv g w env a) : ∀ {rs : List ResultVar} {vs : List V} {side : Prop}, resV T env st rs = some (vs, side) → side →
    ∃ vals : List Value, (rs.mapM (resSem a.tmps)).run P w = Result.ok vals w ∧ SimVs g w vs vals
  | [], vs, side, h, hs => by
    simp only [resV, Option.some.injEq, Prod.mk.injEq] at h
    obtain ⟨rfl, rfl⟩ := h
    exact ⟨[], rfl, by simp [SimVs]⟩
  | r :: rs, vs, side, h, hs => by
    simp only [resV] at h
    split at h
    case h_2 => simp at h
    rename_i v p vs' q e1 e2
    simp only [Option.some.injEq, Prod.mk.injEq] at h
    obtain ⟨rfl, rfl⟩ := h
    obtain ⟨val, k1, k2⟩ := resOne_sound hT h1 h2 e1 hs.1
    obtain ⟨vals, k3, k4⟩ := resV_sound hT h1 h2 e2 hs.2
    refine ⟨val :: vals, ?_, by simp only [SimVs]; exact ⟨val, vals, rfl, k2, k4⟩⟩
    rw [List.mapM_cons]
    simp only [Sem.run_bind, k1, k3, Result.andThen_ok, Sem.run_pure]

def initG : Nat → List V → List (Nat × Bool × V)
  | _, [] => []
  | k, v :: vs => (k, true, v) :: initG (k + 1) vs

theorem find_initG : ∀ (k : Nat) (vs : List V) (t : Nat) (x : Bool × V), find (initG k vs) t = some x → k ≤ t ∧ ∃ v, vs[t - k]? = some v ∧ x = (true, v)
  | k, [], t, x, h => by simp [initG, find] at h
  | k, v :: vs, t, x, h => by
    simp only [initG, find] at h
    split at h
    · rename_i e; subst e; cases h; exact ⟨Nat.le_refl _, v, by simp, rfl⟩
    · obtain ⟨h1, u, h2, h3⟩ := find_initG (k + 1) vs t x h
      refine ⟨by omega, u, ?_, h3⟩
      rw [show t - k = (t - (k + 1)) + 1 by omega]; simpa using h2

/-- A function, by its body's condition. -/
theorem vcalls (hT : Tab P T) {f : FuncId} {fn : Func} {c : Code} (hf : P.funcs[f]? = some fn) (hb : fn.body = some c) (hnm : (fn.name == "runtime.NumGoroutine") = false) {rs : List ResultVar} (hrs : fn.results.toList = rs) {N : Nat} (hN : fn.ntmps = N)
    {args : List V} (hl : args.length ≤ N) (hL : (List.range args.length).all (memN L) = true) {st : St} {Q : VEnd → St → Prop} (h : St.ok st → ltL st.length args → fitL args → vCode P T an L [] c ⟨N, initG 0 args, []⟩ st (vRet T rs Q)) : VCalls P T f args st Q := by
  refine ⟨⟨fn, hf, by rw [hb]; rfl, hnm⟩, fun g w vals h1 h2 => calls_of_wp hf hb ?_⟩
  have hvl := h2.length
  have henv : SimEnv g w ⟨N, initG 0 args, []⟩ { tmps := vals.toArray ++ Array.replicate (fn.ntmps - vals.toArray.size) undef, defers := [] } := by
    refine ⟨by simp [hN]; omega, fun t c v hv => ?_⟩
    simp only [Env.look, find] at hv
    obtain ⟨_, u, hu, hx⟩ := find_initG 0 args t _ hv
    cases hx
    obtain ⟨z, hz, hs⟩ := h2.get t (by simpa using hu)
    simp only [if_true]
    have : (vals.toArray ++ Array.replicate (fn.ntmps - vals.toArray.size) undef).getD t undef = z := by
      obtain ⟨htl, hz'⟩ := List.getElem?_eq_some_iff.1 hz
      simp [Array.getD_eq_getD_getElem?, Array.getElem?_append, htl, hz']
    rw [this]; exact hs
  have hok : EnvOK L ⟨N, initG 0 args, []⟩ := by
    intro t x hx
    obtain ⟨_, u, hu, hx'⟩ := find_initG 0 args t x hx
    have htl := (List.getElem?_eq_some_iff.1 hu).1
    simp only [List.all_eq_true] at hL
    exact ⟨hL t (by simpa using htl), by simpa [Env.look, find] using hx⟩
  refine wp_mono (vCode_sound hT c _ st _ (h h1.okSt (by rw [← h1.n]; exact h2.lt) h2.fit) g w _ h1 henv hok rfl) ?_
  intro e a' w' ⟨ve, env', st', g', k1, k2, k3, k4, k5, k6, k7⟩
  have done : (bindO (resV T env' st' rs) fun r => r.2 ∧ Q (.ret (tupV r.1)) st') → a'.defers = [] ∧ ∃ v, (results fn a'.tmps).run P w' = .ok v w' ∧ (∃ r st' g', Q r st' ∧ SimEnd g' w' r (.returned v) ∧ SimSt T g' st' w' ∧ Ext g w g' w') := by
    intro hr
    unfold bindO at hr
    split at hr
    case h_2 => exact hr.elim
    rename_i r hres
    obtain ⟨vs, side⟩ := r
    obtain ⟨hs, hq⟩ := hr
    obtain ⟨vals', m1, m2⟩ := resV_sound hT k6 k3 hres hs
    have hrun : (results fn a'.tmps).run P w' = .ok (if h : vals'.toArray.size = 1 then vals'.toArray[0] else .tuple vals'.toArray) w' := by
      rw [results_eq, Array.mapM_eq_mapM_toList, hrs]
      simp only [Sem.run_bind, Sem.run_map, m1, Result.andThen_ok, Sem.run_pure]
    refine ⟨k5, _, hrun, .ret (tupV vs), st', g', hq, ⟨_, rfl, ?_⟩, k6, k7⟩
    have hlen := m2.length
    match vs, m2, hlen with
    | [], m2, hlen =>
      have : vals' = [] := by simpa using hlen
      subst this
      simp only [tupV, SimV]; exact ⟨[], by simp, m2⟩
    | [v], m2, hlen =>
      simp only [SimVs] at m2
      obtain ⟨u, r, rfl, m3, rfl⟩ := m2
      simpa [tupV] using m3
    | v :: v2 :: vs, m2, hlen =>
      have hne : ¬ vals'.toArray.size = 1 := by simp [hlen]
      simp only [hne, dite_false, tupV, SimV]
      exact ⟨vals', rfl, m2⟩
  cases ve with
  | normal => simp only [SimExit] at k2; subst k2; exact done k1
  | ret => simp only [SimExit] at k2; subst k2; exact done k1
  | exit id => exact k1.elim
  | panic v =>
    obtain ⟨val, rfl, hv⟩ := k2
    exact ⟨k5, .panic v, st', g', k1, ⟨val, rfl, hv⟩, k6, k7⟩

/-- What a call comes to, where what it made for itself is forgotten. -/
def Gives (X : V) (st' : St) (r : VEnd) (s : St) : Prop := ∃ ex v su, s = su ++ ex ∧ wkSt su st' ∧ r = .ret v ∧ wk v X ∧ X.lt st'.length ∧ St.ok st'

theorem VCalls.give {f : FuncId} {args : List V} {st st' : St} {X : V} (h : VCalls P T f args st (Gives X st')) (hn : st.length ≤ st'.length) : VCalls P T f args st fun r s => r = .ret X ∧ s = st' :=
  ⟨h.1, fun g w vals h1 h2 => (h.2 g w vals h1 h2).mono fun e w' ⟨r, s, g', ⟨ex, v, su, e1, e0, e2, e3, e4, e5⟩, k2, k3, k4⟩ => by
    subst e1; subst e2
    have k3 := k3.wk (e0.append (wkSt_refl ex))
    obtain ⟨val, rfl, hv⟩ := k2
    exact ⟨.ret X, st', g'.cut st'.length, ⟨rfl, rfl⟩, ⟨val, rfl, (e3.sim (nil0_no g') hv).cut e4⟩, k3.drop e5, k4.cut (by rw [h1.n]; exact hn)⟩⟩
end
end Go.Proofs.Ytakcdeihljojiaa.Gw

namespace Go.Proofs.Ytakcdeihljojiaa.Gw
open Go

def condV : V → Prop → Prop → Prop
  | .bool t, A, B => Split t A B
  | _, _, _ => False
@[congr] theorem condV_congr {v v' : V} {A B : Prop} (h : v = v') : condV v A B = condV v' A B := by rw [h]

def lookT (gc : Bool) (t : Nat) : List (Nat × Bool × V) → List (Nat × Bool × V) → V
  | [], g => match find g t with | some x => bif (!gc || x.1) then x.2 else .junk | none => .junk
  | (k, x) :: l, g => if k = t then (bif (!gc || x.1) then x.2 else .junk) else lookT gc t l g

def lookG (gc : Bool) (t : Nat) : List (Nat × Bool × V) → V
  | [] => .junk
  | (k, x) :: g => if k = t then (bif (!gc || x.1) then x.2 else .junk) else lookG gc t g

def gbit (want c : Bool) : V → Option Bool
  | .bool b => some (c && (bif want then b else !b))
  | _ => none
def dstL : List Oper → Nat → Option Tmp
  | [], _ => none
  | o :: _, 0 => o.dst
  | _ :: os, k + 1 => dstL os k
def guardG (d : Nat) (w : Bool) : List (Nat × Bool × V) → Option Bool
  | [] => none
  | (k, x) :: g => if k = d then gbit w x.1 x.2 else guardG d w g
def guardL (d : Option Tmp) (w : Bool) : List (Nat × Bool × V) → List (Nat × Bool × V) → Option Bool
  | [], g => match d with | some d => guardG d w g | none => none
  | (k, x) :: l, g => match d with | some d => if k = d then gbit w x.1 x.2 else guardL (some d) w l g | none => none

section
variable (T : Nat → TI) (an : Nat → Nat) (dst : Option Tmp) (gc : Bool) (env : Env) (st : St)

theorem evG_tmp (t : Nat) (N : Nat) (g l : List (Nat × Bool × V)) : evG ⟨N, g, l⟩ gc (.tmp t) = match find l t with
    | some x => bif (!gc || x.1) then x.2 else .junk
    | none => match find g t with | some x => bif (!gc || x.1) then x.2 else .junk | none => .junk := by
  simp only [evG, evO, Env.look]
  cases find l t with
  | some x => rfl
  | none => cases find g t <;> rfl

theorem evG_look (t : Nat) (N : Nat) (g l : List (Nat × Bool × V)) : evG ⟨N, g, l⟩ gc (.tmp t) = lookT gc t l g := by
  rw [evG_tmp]
  induction l with
  | nil => rfl
  | cons y l ih =>
    obtain ⟨k, x⟩ := y
    by_cases h : k = t
    · simp only [find, lookT, if_pos h]
    · simp only [find, lookT, if_neg h]; exact ih

theorem lookT_nil (t : Nat) (g : List (Nat × Bool × V)) : lookT gc t [] g = lookG gc t g := by
  simp only [lookT]
  induction g with
  | nil => rfl
  | cons y g ih =>
    obtain ⟨k, x⟩ := y
    by_cases h : k = t
    · simp only [find, lookG, if_pos h]
    · simp only [find, lookG, if_neg h]; exact ih

theorem lookT_cons (t k : Nat) (c : Bool) (v : V) (l g : List (Nat × Bool × V)) : lookT gc t ((k, c, v) :: l) g = if k = t then (bif (!gc || c) then v else .junk) else lookT gc t l g := rfl
theorem lookG_cons (t k : Nat) (c : Bool) (v : V) (g : List (Nat × Bool × V)) : lookG gc t ((k, c, v) :: g) = if k = t then (bif (!gc || c) then v else .junk) else lookG gc t g := rfl
theorem evG_const (v : Value) : evG env gc (.const v) = V.ofConst v := by simp [evG, evO]
theorem evG_func (f : FuncId) : evG env gc (.func f) = .fn (.func f) [] := by simp [evG, evO]
theorem ofConst_str (s : List UInt8) : V.ofConst (.string ⟨s.toArray⟩) = if s.length ≤ 1000000 then .str s else .junk := by simp [V.ofConst]

theorem evO_look (t : Nat) (N : Nat) (g l : List (Nat × Bool × V)) {A B : Prop} : (bindO (evO ⟨N, g, l⟩ (.tmp t)) fun r => match r with | (true, .bool b) => Split b A B | _ => False) = condV (lookT true t l g) A B := by
  rw [← evG_look true t N g l]
  simp only [evG]
  cases evO ⟨N, g, l⟩ (.tmp t) with
  | none => rfl
  | some r =>
    obtain ⟨c, v⟩ := r
    cases c with
    | true => cases v <;> rfl
    | false => rfl

theorem cond_eq (P : Program) (T : Nat → TI) (an : Nat → Nat) (L : List Nat) (ds : List Deferred) (N : Nat) (g l : List (Nat × Bool × V)) (st : St) (Q : VExit → Env → St → Prop) (t : Nat) (x y : Code) :
    vCode P T an L ds (.cond (.tmp t) x y) ⟨N, g, l⟩ st Q = condV (lookT true t l g) (vCode P T an L ds x ⟨N, g, l⟩ st Q) (vCode P T an L ds y ⟨N, g, l⟩ st Q) := evO_look t N g l

theorem guardG_eq (d : Nat) (w : Bool) (g : List (Nat × Bool × V)) : guardG d w g = match find g d with | some (c, .bool b) => some (c && (bif w then b else !b)) | _ => none := by
  induction g with
  | nil => rfl
  | cons y g ih =>
    obtain ⟨k, c, v⟩ := y
    by_cases h : k = d
    · simp only [guardG, find, if_pos h] <;> (cases v <;> rfl)
    · simp only [guardG, find, if_neg h]; exact ih

theorem guard_eq (all : List Oper) (N : Nat) (g l : List (Nat × Bool × V)) (j : Nat) (w : Bool) : guardV all.toArray ⟨N, g, l⟩ (some (j, w)) = guardL (dstL all j) w l g := by
  have e : dstAt all.toArray j = dstL all j := by
    simp only [dstAt, List.getElem?_toArray]
    induction all generalizing j with
    | nil => rfl
    | cons o os ih => cases j with | zero => rfl | succ j => simpa [dstL] using ih j
  simp only [guardV, e]
  cases dstL all j with
  | none => cases l <;> rfl
  | some d =>
    simp only [Env.look]
    induction l with
    | nil => simp only [find, guardL, guardG_eq] <;> rfl
    | cons y l ih =>
      obtain ⟨k, c, v⟩ := y
      by_cases h : k = d
      · simp only [guardL, find, if_pos h] <;> (cases v <;> rfl)
      · simp only [guardL, find, if_neg h]; exact ih
theorem guardL_cons (w : Bool) (d : Nat) (k : Nat) (c : Bool) (v : V) (l g : List (Nat × Bool × V)) : guardL (some d) w ((k, c, v) :: l) g = if k = d then gbit w c v else guardL (some d) w l g := rfl
theorem guardG_cons (w : Bool) (d : Nat) (k : Nat) (c : Bool) (v : V) (g : List (Nat × Bool × V)) : guardG d w ((k, c, v) :: g) = if k = d then gbit w c v else guardG d w g := rfl

def pureR (r : Option (V × Prop)) (m : Step) : Step := match r with | some (v, side) => .pure v side | none => m
@[congr] theorem pureR_congr {r r' : Option (V × Prop)} {m : Step} (h : r = r') : pureR r m = pureR r' m := by rw [h]

def nilV : V → Step
  | .ref l => .pure (.ref l) True
  | .ptr o f => .pure (.ptr o f) True
  | .eptr e n sz k f => .pure (.eptr e n sz k f) True
  | .fn f c => .pure (.fn f c) (∀ n, f ≠ .method n)
  | .iface t v => .pure (.iface t v) True
  | _ => .fail
theorem step_nilCheck (x : Operand) : stepOp T an dst (.nilCheck x) gc env st = nilV (evG env gc x) := by
  simp only [stepOp, pureStep, pureOp, memStep, memOp, moreOp]
  cases evG env gc x <;> rfl

def notV : V → Step
  | .bool b => .pure (.bool (!b)) True
  | _ => .fail
theorem step_not (t : TypeId) (x : Operand) : stepOp T an dst (.unOp .not t x) gc env st = notV (evG env gc x) := by
  simp only [stepOp, pureStep, pureOp, memStep, memOp, moreOp]
  cases evG env gc x <;> rfl
def negV : V → Step
  | .int k n => .pure (.int k (k.wrap (0 - n))) True
  | _ => .fail
theorem step_neg (t : TypeId) (x : Operand) : stepOp T an dst (.unOp .neg t x) gc env st = negV (evG env gc x) := by
  simp only [stepOp, pureStep, pureOp, memStep, memOp, moreOp]
  cases evG env gc x <;> rfl

def fieldW (T : Nat → TI) (f : Option (Nat × TypeId)) (x : V) : Option (V × Prop) := match f with
      | some (off, ft) => if (T ft).sized = false then none else match x with
        | .ref l => some (.ref (l.drop off), True)
        | .ptr o n => some (.ptr o (n + off), True)
        | .eptr e n sz k f => some (.eptr e n sz k (f + off), True)
        | _ => none
      | none => none
def fieldV (T : Nat → TI) (k : TK) (f : Nat) (x : V) : Option (V × Prop) := match k with
    | .struct fs => fieldW T fs[f]? x
    | _ => none
def fldW (T : Nat → TI) (f : Option (Nat × TypeId)) (l : List V) : Option (V × Prop) := match f with
  | some (off, ft) => if (T ft).sized = false then none else loadV (T ft) (l.drop off)
  | none => none
def fldV (T : Nat → TI) (k : TK) (f : Nat) (x : V) : Option (V × Prop) := match k, x with
    | .struct fs, .agg l => fldW T fs[f]? l
    | _, _ => none
theorem step_field (s : TypeId) (x : Operand) (f : Nat) : stepOp T an dst (.field s x f) gc env st = pureR (fldV T (T s).kind f (evG env gc x)) .fail := by
  simp only [stepOp, pureStep, pureOp, memStep, memOp, moreOp, fldV]
  generalize (T s).kind = k
  generalize evG env gc x = v
  cases k <;> try rfl
  rename_i fs
  simp only
  cases v <;> try (cases fs[f]? <;> rfl)
  simp only [fldW]
  cases fs[f]? with
  | none => rfl
  | some p =>
    obtain ⟨off, ft⟩ := p
    simp only
    by_cases h : (T ft).sized = false
    · simp only [if_pos h] <;> rfl
    · simp only [if_neg h, pureR] <;> (generalize loadV _ _ = r; cases r <;> rfl)
def idxB (i : TI) (o n : Nat) (k : Int) (st : St) : Option Ent → Step
  | some (.arr _ sz c) => if i.sized = true ∧ sz = i.size then .mem (.eptr o n sz k.toNat 0) st (n = c.length ∧ 0 ≤ k ∧ k < n) else .fail
  | _ => .fail
def idxS (T : Nat → TI) (k : TK) (x i : V) (st : St) : Step := match k, x, i with
    | .slice e, .lst sz _ l, .int _ n => if (T e).sized = true ∧ sz = (T e).size then .pure (.ref (l.getD n.toNat [])) (0 ≤ n ∧ n < l.length) else .fail
    | .slice e, .arr o n, .int _ k => idxB (T e) o n k st st[o]?
    | _, _, _ => .fail
theorem step_indexAddr (t : TypeId) (x i : Operand) : stepOp T an dst (.indexAddr t x i) gc env st = idxS T (T t).kind (evG env gc x) (evG env gc i) st := by
  simp only [stepOp, pureStep, pureOp, memStep, memOp, moreOp, idxS]
  cases (T t).kind <;> try rfl
  rename_i e
  cases evG env gc x <;> try rfl
  · rename_i sz tk l
    cases evG env gc i <;> try rfl
    rename_i kk n
    simp only
    by_cases h : (T e).sized = true ∧ sz = (T e).size
    · simp only [if_pos h]
    · simp only [if_neg h]
  · rename_i o n
    cases evG env gc i <;> try rfl
    rename_i kk k
    simp only [idxB]
    cases st[o]? with
    | none => rfl
    | some ent =>
      cases ent with
      | arr et sz c =>
        simp only
        by_cases h : (T e).sized = true ∧ sz = (T e).size
        · simp only [if_pos h]
        · simp only [if_neg h]
      | _ => rfl
def convS (r : Option (V × St × Prop)) : Step := match r with | some (v, st, p) => .mem v st p | none => .fail
theorem step_convert (src d : TypeId) (x : Operand) : stepOp T an dst (.convert src d x) gc env st = convS (convV T src d (evG env gc x) st) := rfl
def idxV (k : TK) (x i : V) : Option (V × Prop) := match k, x, i with
    | .str, .str s, .int _ n => some (.int .u8 (s.getD n.toNat 0).toNat, 0 ≤ n ∧ n < s.length)
    | _, _, _ => none
def extW : Option V → Step
  | some v => .pure v True
  | none => .fail
def extV (i : Nat) : V → Step
  | .tup l => extW l[i]?
  | _ => .fail
theorem step_extract (x : Operand) (i : Nat) : stepOp T an dst (.extract x i) gc env st = extV i (evG env gc x) := by
  simp only [stepOp, pureStep, pureOp, memStep, memOp, moreOp, extV]
  cases evG env gc x <;> try rfl
  rename_i l
  simp only
  cases l[i]? <;> rfl
def buildV (T : Nat → TI) (i : TI) (parts : List (Nat × V)) : Option (V × Prop) := match i.kind with
    | .struct fs => if (fs.all fun p => (T p.2).known) = false then none else (fillV T fs i.zero parts).map fun l => (.agg l, True)
    | _ => none
theorem step_build (t : TypeId) (parts : List (Nat × Operand)) : stepOp T an dst (.build t parts.toArray) gc env st = pureR (buildV T (T t) (parts.map fun p => (p.1, evG env gc p.2))) .fail := rfl
def mkIface (i : TI) (t : TypeId) (x : V) : Option (V × Prop) := match i.kind with | .iface => none | .other => none | _ => if i.sized = false then none else some (.iface t x, True)
theorem step_makeInterface (t : TypeId) (x : Operand) : stepOp T an dst (.makeInterface t x) gc env st = pureR (mkIface (T t) t (evG env gc x)) .fail := rfl

def loadN (st : St) (n k m : Nat) : Option (V × Prop) → Step
  | some (v, p) => .mem v st (p ∧ n = m ∧ k < n)
  | none => .fail
def loadM (st : St) : Option (V × Prop) → Step
  | some (v, p) => .mem v st p
  | none => .fail
def loadB (i : TI) (n : Nat) (st : St) : Option Ent → Step
  | some (.box c) => if i.known then loadM st (loadV i (c.drop n)) else .fail
  | _ => .fail
def loadE (i : TI) (n sz k off : Nat) (st : St) : Option Ent → Step
  | some (.arr _ sz' c) => if i.known = true ∧ sz' = sz then loadN st n k c.length (loadV i ((c.getD k []).drop off)) else .fail
  | _ => .fail
def loadS (T : Nat → TI) (t : TypeId) (st : St) : V → Step
  | .eptr o n sz k off => loadE (T t) n sz k off st st[o]?
  | .ref l => if (T t).sized = false then .fail else pureR (loadV (T t) l) .fail
  | .ptr o n => loadB (T t) n st st[o]?
  | _ => .fail
theorem loadS_ptr (T : Nat → TI) (t : TypeId) (st : St) (o n : Nat) : loadS T t st (.ptr o n) = loadB (T t) n st st[o]? := rfl
theorem step_load (t : TypeId) (x : Operand) : stepOp T an dst (.load t x) gc env st = loadS T t st (evG env gc x) := by
  simp only [stepOp, pureStep, pureOp, memStep, memOp, moreOp, loadS]
  generalize evG env gc x = v
  cases v with
  | ref l =>
    by_cases h : (T t).sized = false
    · simp only [if_pos h]
    · simp only [if_neg h]
      cases loadV (T t) l <;> rfl
  | ptr o n =>
    simp only [loadB]
    cases st[o]? with
    | none => rfl
    | some e =>
      cases e with
      | box c =>
        simp only
        by_cases h : (T t).known = true
        · simp only [if_pos h]
          cases loadV (T t) (c.drop n) <;> rfl
        · simp only [if_neg h]
      | _ => rfl
  | eptr o n sz k off =>
    simp only [loadE]
    cases st[o]? with
    | none => rfl
    | some e =>
      cases e with
      | arr et sz' c =>
        simp only
        by_cases h : (T t).known = true ∧ sz' = sz
        · simp only [if_pos h]
          cases loadV (T t) ((c.getD k []).drop off) <;> rfl
        · simp only [if_neg h]
      | _ => rfl
  | _ => rfl

def allocS (i : TI) (mode : Nat) (st : St) : Step := if i.known then match mode with
  | 0 => .mem (.ptr st.length 0) (st ++ [.box i.zero]) True
  | _ + 1 => .mem (.ref i.zero) st True
  else .fail
theorem step_alloc (t : TypeId) : stepOp T an dst (.alloc t) gc env st = allocS (T t) (an (dst.getD 0)) st := by
  simp only [stepOp, pureStep, pureOp, memStep, memOp, moreOp, allocS]
  by_cases h : (T t).known = true
  · simp only [if_pos h] <;> (cases an (dst.getD 0) <;> rfl)
  · simp only [if_neg h]
def boxS (mode : Nat) (x : Option (List V)) (st : St) : Step := match mode, x with
  | 0, some l => .mem (.ptr st.length 0) (st ++ [.box l]) True
  | _ + 1, some l => .mem (.ref l) st True
  | _, none => .fail
theorem step_box (t : TypeId) (x : Operand) : stepOp T an dst (.box t x) gc env st = boxS (an (dst.getD 0)) (V.cells (evG env gc x)) st := by
  simp only [stepOp, pureStep, pureOp, memStep, memOp, moreOp, boxS]
  cases V.cells (evG env gc x) <;> cases an (dst.getD 0) <;> rfl
def storeB (i : TI) (st : St) (o n : Nat) (l : List V) : Option Ent → Step
  | some (.box c) => if i.known ∧ l.length = i.size then .mem .junk (st.set o (.box (c.take n ++ l ++ c.drop (n + l.length)))) (n + l.length ≤ c.length) else .fail
  | _ => .fail
def storeE (i : TI) (st : St) (o n sz k off : Nat) (l : List V) : Option Ent → Step
  | some (.arr e sz' c) => if i.known = true ∧ l.length = i.size ∧ sz' = sz then .mem .junk (st.set o (.arr e sz (c.set k ((c.getD k []).take off ++ l ++ (c.getD k []).drop (off + l.length))))) (n = c.length ∧ k < n ∧ off + l.length ≤ sz) else .fail
  | _ => .fail
def storeS (i : TI) (st : St) (a : V) (x : Option (List V)) : Step := match a, x with
  | .eptr o n sz k off, some l => storeE i st o n sz k off l st[o]?
  | .ptr o n, some l => storeB i st o n l st[o]?
  | _, _ => .fail
theorem step_store (t : TypeId) (a x : Operand) : stepOp T an dst (.store t a x) gc env st = storeS (T t) st (evG env gc a) (V.cells (evG env gc x)) := by
  simp only [stepOp, pureStep, pureOp, memStep, memOp, moreOp, storeS]
  cases evG env gc a <;> try (cases V.cells (evG env gc x) <;> rfl)
  · rename_i o n sz k off
    simp only
    cases hx : V.cells (evG env gc x) with
    | none => cases st[o]? <;> try rfl
              rename_i e; cases e <;> rfl
    | some l =>
      simp only [storeE]
      cases st[o]? with
      | none => rfl
      | some e =>
        cases e with
        | arr et sz' c =>
          simp only
          by_cases h : (T t).known = true ∧ l.length = (T t).size ∧ sz' = sz
          · simp only [if_pos h]
          · simp only [if_neg h]
        | _ => rfl
  · rename_i o n
    simp only
    cases hx : V.cells (evG env gc x) with
    | none => cases st[o]? <;> try rfl
              rename_i e; cases e <;> rfl
    | some l =>
      simp only [storeB]
      cases st[o]? with
      | none => rfl
      | some e =>
        cases e with
        | box c =>
          simp only
          by_cases h : (T t).known = true ∧ l.length = (T t).size
          · simp only [if_pos h]
          · simp only [if_neg h]
        | _ => rfl
def litM (e : TypeId) (sz n : Nat) (mode : Nat) (st : St) : Option (List (List V)) → Step
  | some rows => match mode with
    | 0 => .pure (.lst sz none rows) True
    | 1 => .mem (.lst sz (some st.length) rows) (st ++ [.tip e n]) True
    | _ => .mem (.arr st.length n) (st ++ [.arr e sz rows]) True
  | none => .fail
def litR (i : TI) (n : Nat) (parts : List (Nat × V)) : Option (List (List V)) := litRows i n parts.reverse
def litS (T : Nat → TI) (mode n : Nat) (st : St) (k : TK) (parts : List (Nat × V)) : Step := match k with
  | .slice e => if (T e).sized ∧ n * (T e).size ≤ 16777216 then litM e (T e).size n mode st (litR (T e) n parts) else .fail
  | _ => .fail
theorem step_buildSlice (t : TypeId) (n : Nat) (parts : List (Nat × Operand)) : stepOp T an dst (.buildSlice t n parts.toArray) gc env st = litS T (an (dst.getD 0)) n st (T t).kind (parts.map fun p => (p.1, evG env gc p.2)) := by
  simp only [stepOp, pureStep, pureOp, memStep, memOp, moreOp, litS, litR, List.map_reverse]
  cases (T t).kind <;> try (simp only [toPure, Bool.cond_self])
  rename_i e
  by_cases h : (T e).sized = true ∧ n * (T e).size ≤ 16777216
  · simp only [if_pos h]
    cases litRows (T e) n (parts.map fun p => (p.1, evG env gc p.2)).reverse with
    | none => simp only [Bool.cond_self, litM]
    | some rows =>
      simp only [litM]
      match an (dst.getD 0) with
      | 0 => rfl
      | 1 => rfl
      | _ + 2 => rfl
  · simp only [if_neg h, Bool.cond_self]
def makeS (T : Nat → TI) (st : St) : TK → V → V → Step
  | .slice e, .int _ n, .int _ m => if (T e).sized = true then .mem (.arr st.length n.toNat) (st ++ [.arr e (T e).size (List.replicate n.toNat (T e).zero)]) (n = m ∧ 0 ≤ n ∧ n ≤ 100000000000000 ∧ n * (T e).bytes ≤ 100000000000000) else .fail
  | _, _, _ => .fail
theorem step_makeSlice (t : TypeId) (x y : Operand) : stepOp T an dst (.makeSlice t x y) gc env st = makeS T st (T t).kind (evG env gc x) (evG env gc y) := by
  simp only [stepOp, pureStep, pureOp, memStep, memOp, moreOp]
  cases (T t).kind <;> try rfl
  rename_i e
  cases evG env gc x <;> try rfl
  cases evG env gc y <;> try rfl
  simp only [makeS]
  by_cases h : (T e).sized = true
  · simp only [if_pos h]
  · simp only [if_neg h]
theorem step_next (it : Operand) : stepOp T an dst (.next it false) gc env st = anyS (nextV (evG env gc it) st) := rfl
theorem step_entry (it : Operand) : stepOp T an dst (.entry it) gc env st = convS (entV (evG env gc it) st) := rfl
theorem step_makeMap (t : TypeId) : stepOp T an dst (.makeMap t none) gc env st = convS (makeMapE (T t).kind st) := rfl
theorem step_lookup (t : TypeId) (m x : Operand) (ok : Bool) : stepOp T an dst (.lookup t m x ok) gc env st = convS (mapLook T (T t).kind (evG env gc m) (evG env gc x) ok st) := rfl
theorem step_mapUpdate (t : TypeId) (m x y : Operand) : stepOp T an dst (.mapUpdate t m x y) gc env st = convS (mapPut T (T t).kind (evG env gc m) (evG env gc x) (evG env gc y) st) := rfl
theorem step_insert (t : TypeId) (m x y : Operand) : stepOp T an dst (.insert t m x y) gc env st = convS (mapPut T (T t).kind (evG env gc m) (evG env gc x) (evG env gc y) st) := rfl
theorem step_range (t : TypeId) (m : Operand) : stepOp T an dst (.range t m) gc env st = convS (mapRange (T t).kind (evG env gc m) st) := rfl
def sliS (k : Nat) (a b : Step) : Step := bif k == 3 then b else a
theorem step_slice (t : TypeId) (x : Operand) (lo hi : Option Operand) : stepOp T an dst (.slice t x lo hi none) gc env st = sliS (an (dst.getD 0)) (pureR (sliceV T t (evG env gc x) (lo.map (evG env gc)) (hi.map (evG env gc))) .fail) (sufS (sufE T (T t).kind (evG env gc x) (lo.map (evG env gc)) (hi.map (evG env gc)) st)) := rfl
def callS (f : V) (args : List V) : Step := match f with
  | .fn (.func k) cap => .call k (args ++ cap)
  | _ => .fail
theorem step_call (f : Operand) (args : List Operand) (ts : Array TypeId) : stepOp T an dst (.call ⟨.value f, args.toArray, ts⟩) gc env st = callS (evG env gc f) (args.map (evG env gc)) := by
  simp only [stepOp, callS] <;> (cases evG env gc f <;> rfl)
def memA : Option (V × St × Prop) → Step
  | some (v, st', side) => .mem v st' side
  | none => .fail
def appS (T : Nat → TI) (mode : Nat) (k kx : TK) (s x : V) (st : St) : Step := match k with
  | .slice e => match kx with
    | .slice _ | .str => if (T e).sized ∧ (T e).bytes ≠ 0 then match rowsOf (T e).size x with
        | some m => memA (appendV mode e (T e) s m st)
        | none => .fail else .fail
    | _ => .fail
  | _ => .fail
def builtS (T : Nat → TI) (mode : Nat) (b : Builtin) (args : List V) (ts : List TypeId) (st : St) : Step := match b with
  | .append => match args, ts with
    | [s, x], [t, xt] => appS T mode (T t).kind (T xt).kind s x st
    | _, _ => .fail
  | .len => pureR (builtinV T .len args ts) (convS (mapLen T args ts st))
  | b => pureR (builtinV T b args ts) .fail
theorem step_builtin (b : Builtin) (args : List Operand) (ts : List TypeId) : stepOp T an dst (.call ⟨.builtin b, args.toArray, ts.toArray⟩) gc env st = builtS T (an (dst.getD 0)) b (args.map (evG env gc)) ts st := by
  simp only [stepOp, pureStep, pureOp, memStep, builtS]
  cases b with
  | append =>
    simp only [builtinV, memOp]
    generalize args.map (evG env gc) = vs
    match vs, ts with
    | [], _ => rfl
    | [_], _ => rfl
    | [_, _], [] => rfl
    | [_, _], [_] => rfl
    | [s, x], [t, xt] =>
      simp only [appS]
      cases (T t).kind <;> try (cases (T xt).kind <;> rfl)
      rename_i e
      cases (T xt).kind <;> try rfl
      all_goals
        simp only
        by_cases h : (T e).sized = true ∧ (T e).bytes ≠ 0
        · simp only [if_pos h]
          cases rowsOf (T e).size x with
          | none => rfl
          | some m =>
            simp only
            cases appendV (an (dst.getD 0)) e (T e) s m st <;> rfl
        · simp only [if_neg h] <;> (rfl)
    | [_, _], _ :: _ :: _ :: _ => rfl
    | _ :: _ :: _ :: _, _ => rfl
  | len =>
    simp only [memOp, moreOp]
    generalize builtinV T _ _ _ = r
    cases r with
    | some r => rfl
    | none =>
      simp only [pureR]
      generalize hm : mapLen T _ _ st = q
      have : mapLen T (List.map (evG env gc) args.toArray.toList) ts.toArray.toList st = q := hm
      cases q <;> rfl
  | _ =>
    all_goals
      simp only [memOp]
      generalize builtinV T _ _ _ = r
      cases r <;> rfl
end
end Go.Proofs.Ytakcdeihljojiaa.Gw

namespace Go.Proofs.Ytakcdeihljojiaa.Gw
open Go

inductive Kont where
  | done
  | seq (c : Code) (k : Kont)
  | block (id : Nat) (k : Kont)

section
variable (P : Program) (T : Nat → TI) (an : Nat → Nat) (L : List Nat) (ds : List Deferred)

def qK : Kont → (VExit → Env → St → Prop) → VExit → Env → St → Prop
  | .done, Q => Q
  | .seq c k, Q => vSeq (fun env st => vCode P T an L ds c env st (qK k Q)) (qK k Q)
  | .block id k, Q => vBlock id (qK k Q)

def cK (c : Code) (env : Env) (st : St) (k : Kont) (Q : VExit → Env → St → Prop) : Prop := vCode P T an L ds c env st (qK P T an L ds k Q)
def oK (all : Array Oper) (os : List Oper) (env : Env) (st : St) (k : Kont) (Q : VExit → Env → St → Prop) : Prop := vOps P T an L all os env st (qK P T an L ds k Q)
def rK (r : Step) (gc guarded : Bool) (dst : Option Tmp) (all : Array Oper) (os : List Oper) (env : Env) (st : St) (k : Kont) (Q : VExit → Env → St → Prop) : Prop :=
  runStep P T r gc guarded env st (fun v st' => vOps P T an L all os (env.put L dst gc v) st' (qK P T an L ds k Q)) (qK P T an L ds k Q)
def gK (g : Option Bool) (dst : Option Tmp) (op : Op) (guarded : Bool) (all : Array Oper) (os : List Oper) (env : Env) (st : St) (k : Kont) (Q : VExit → Env → St → Prop) : Prop :=
  match g with
  | some gc => okDstB env.N dst ∧ rK P T an L ds (stepOp T an dst op gc env st) gc guarded dst all os env st k Q
  | none => False
def aK (dst : Option Tmp) (gc : Bool) (all : Array Oper) (os : List Oper) (env : Env) (k : Kont) (Q : VExit → Env → St → Prop) : VEnd → St → Prop :=
  afterCall env (fun v st' => vOps P T an L all os (env.put L dst gc v) st' (qK P T an L ds k Q)) (qK P T an L ds k Q)
def iK (v : V) (x y : Code) (env : Env) (st : St) (k : Kont) (Q : VExit → Env → St → Prop) : Prop :=
  condV v (cK P T an L ds x env st k Q) (cK P T an L ds y env st k Q)

variable {P T an L ds}
theorem iK_split {t : Bool} {x y : Code} {env : Env} {st : St} {k : Kont} {Q : VExit → Env → St → Prop} (h1 : t = true → cK P T an L ds x env st k Q) (h2 : t = false → cK P T an L ds y env st k Q) : iK P T an L ds (.bool t) x y env st k Q := ⟨h1, h2⟩
/-- A call under a guard: what it gives, where it is made. -/
theorem rK_guarded {f : FuncId} {args : List V} {gc : Bool} {dst : Option Tmp} {all : Array Oper} {os : List Oper} {env : Env} {st : St} {k : Kont} {Q : VExit → Env → St → Prop} (v : V)
    (h : gc = true → VCalls P T f args st fun r st' => r = .ret v ∧ st' = st) (h2 : oK P T an L ds all os (env.put L dst gc v) st k Q) : rK P T an L ds (.call f args) gc true dst all os env st k Q := ⟨v, st, h, fun _ => rfl, h2⟩
/-- A call under a guard that holds. -/
theorem rK_made {f : FuncId} {args args' : List V} {dst : Option Tmp} {all : Array Oper} {os : List Oper} {env : Env} {st st2 : St} {k : Kont} {Q : VExit → Env → St → Prop} {v : V}
    (h : VCalls P T f args' st fun r st' => r = .ret v ∧ st' = st2) (hw : wkL args args') (h2 : oK P T an L ds all os (env.put L dst true v) st2 k Q) : rK P T an L ds (.call f args) true true dst all os env st k Q := ⟨v, st2, fun _ => h.args hw, fun e => (by cases e), h2⟩
/-- A call under a guard that does not hold. -/
theorem rK_not {f : FuncId} {args : List V} {dst : Option Tmp} {all : Array Oper} {os : List Oper} {env : Env} {st : St} {k : Kont} {Q : VExit → Env → St → Prop} (v : V)
    (h2 : oK P T an L ds all os (env.put L dst false v) st k Q) : rK P T an L ds (.call f args) false true dst all os env st k Q := ⟨v, st, fun e => (by cases e), fun _ => rfl, h2⟩
/-- A call. -/
theorem VCalls.use {f : FuncId} {args args' : List V} {st st' : St} {X : V} {dst : Option Tmp} {gc : Bool} {all : Array Oper} {os : List Oper} {env : Env} {k : Kont} {Q : VExit → Env → St → Prop}
    (h : VCalls P T f args' st fun r s => r = .ret X ∧ s = st') (hw : wkL args args') (h2 : X.fit → oK P T an L ds all os (env.put L dst gc X) st' k Q) : VCalls P T f args st (aK P T an L ds dst gc all os env k Q) :=
  (h.args hw).monoF fun r s hf ⟨e1, e2⟩ => by subst e1; subst e2; exact h2 hf
/-- A function, by its body's condition. -/
theorem vfun (hT : Tab P T) {f : FuncId} {fn : Func} {c : Code} (hf : P.funcs[f]? = some fn) (hb : fn.body = some c) (hnm : (fn.name == "runtime.NumGoroutine") = false) {rs : List ResultVar} (hrs : fn.results.toList = rs) {N : Nat} (hN : fn.ntmps = N)
    {args : List V} (hl : Nat.ble args.length N = true) (hL : (List.range args.length).all (memN L) = true) {st st' : St} {X : V} (hn : st.length ≤ st'.length)
    (h : St.ok st → ltL st.length args → fitL args → cK P T an L [] c ⟨N, initG 0 args, []⟩ st .done (vRet T rs (Gives X st'))) : VCalls P T f args st fun r s => r = .ret X ∧ s = st' :=
  VCalls.give (vcalls hT hf hb hnm hrs hN (Nat.le_of_ble_eq_true hl) hL h) hn
/-- A function, by its body's condition, whatever it comes to. -/
theorem vfunQ (hT : Tab P T) {f : FuncId} {fn : Func} {c : Code} (hf : P.funcs[f]? = some fn) (hb : fn.body = some c) (hnm : (fn.name == "runtime.NumGoroutine") = false) {rs : List ResultVar} (hrs : fn.results.toList = rs) {N : Nat} (hN : fn.ntmps = N)
    {args : List V} (hl : Nat.ble args.length N = true) (hL : (List.range args.length).all (memN L) = true) {st : St} {Q : VEnd → St → Prop}
    (h : St.ok st → ltL st.length args → fitL args → cK P T an L [] c ⟨N, initG 0 args, []⟩ st .done (vRet T rs Q)) : VCalls P T f args st Q :=
  vcalls hT hf hb hnm hrs hN (Nat.le_of_ble_eq_true hl) hL h
/-- A loop. -/
theorem vloop (ks : List Nat) (hs : subN ks L = true) {c : Code} {env : Env} {st : St} {k0 : Kont} {Q : VExit → Env → St → Prop} (I : Nat → Env → St → Prop) (n : Nat) (h0 : I n ⟨env.N, env.keep ks, []⟩ st)
    (hT : Tab P T) (step : ∀ n env st, I n env st → cK P T an L ds c env st .done (vSeq (fun env' st' => ∃ n', n' < n ∧ I n' ⟨env'.N, env'.keep ks, []⟩ st') (qK P T an L ds k0 Q))) : VC P T L ds (.loop c) env st (qK P T an L ds k0 Q) :=
  VC.loop ks hs I n h0 fun n env st h => vCode_sound hT c env st _ (step n env st h)
end

theorem gwB :
    (∀ (P : Program) (T : Nat → TI) (an : Nat → Nat) (L : List Nat) (ds : List Deferred) (env : Env) (st : St) (k : Kont) (Q : VExit → Env → St → Prop), cK P T an L ds .skip env st k Q = qK P T an L ds k Q .normal env st) ∧
    (∀ (P : Program) (T : Nat → TI) (an : Nat → Nat) (L : List Nat) (ds : List Deferred) (env : Env) (st : St) (k : Kont) (Q : VExit → Env → St → Prop) (id : Nat), cK P T an L ds (.exit id) env st k Q = qK P T an L ds k Q (.exit id) env st) ∧
    (∀ (P : Program) (T : Nat → TI) (an : Nat → Nat) (L : List Nat) (ds : List Deferred) (env : Env) (st : St) (k : Kont) (Q : VExit → Env → St → Prop), cK P T an L ds .ret env st k Q = qK P T an L ds k Q .ret env st) ∧
    (∀ (P : Program) (T : Nat → TI) (an : Nat → Nat) (L : List Nat) (ds : List Deferred) (env : Env) (st : St) (k : Kont) (Q : VExit → Env → St → Prop) (c : Code), cK P T an L ds (.loop c) env st k Q = VC P T L ds (.loop c) env st (qK P T an L ds k Q)) ∧
    (∀ (P : Program) (T : Nat → TI) (an : Nat → Nat) (L : List Nat) (ds : List Deferred) (env : Env) (st : St) (k : Kont) (Q : VExit → Env → St → Prop) (id : Nat) (ops : Array Oper), cK P T an L ds (.region id ops true) env st k Q = VC P T L ds (.region id ops true) env st (qK P T an L ds k Q)) ∧
    (∀ (P : Program) (T : Nat → TI) (an : Nat → Nat) (L : List Nat) (ds : List Deferred) (env : Env) (st : St) (k : Kont) (Q : VExit → Env → St → Prop) (a b : Code), cK P T an L ds (.seq a b) env st k Q = cK P T an L ds a env st (.seq b k) Q) ∧
    (∀ (P : Program) (T : Nat → TI) (an : Nat → Nat) (L : List Nat) (ds : List Deferred) (env : Env) (st : St) (k : Kont) (Q : VExit → Env → St → Prop) (id : Nat) (c : Code), cK P T an L ds (.block id c) env st k Q = cK P T an L ds c env st (.block id k) Q) ∧
    (∀ (P : Program) (T : Nat → TI) (an : Nat → Nat) (L : List Nat) (ds : List Deferred) (N : Nat) (g l : List (Nat × Bool × V)) (st : St) (k : Kont) (Q : VExit → Env → St → Prop) (id : Nat) (ops : List Oper), cK P T an L ds (.region id ops.toArray false) ⟨N, g, l⟩ st k Q = oK P T an L ds ops.toArray ops ⟨N, g, []⟩ st k Q) ∧
    (∀ (P : Program) (T : Nat → TI) (an : Nat → Nat) (L : List Nat) (ds : List Deferred) (N : Nat) (g l : List (Nat × Bool × V)) (st : St) (k : Kont) (Q : VExit → Env → St → Prop) (t : Nat) (x y : Code), cK P T an L ds (.cond (.tmp t) x y) ⟨N, g, l⟩ st k Q = iK P T an L ds (lookT true t l g) x y ⟨N, g, l⟩ st k Q) ∧
    (∀ (P : Program) (T : Nat → TI) (an : Nat → Nat) (L : List Nat) (ds : List Deferred) (env : Env) (st : St) (k : Kont) (Q : VExit → Env → St → Prop) (x y : Code), iK P T an L ds (.bool true) x y env st k Q = cK P T an L ds x env st k Q) ∧
    (∀ (P : Program) (T : Nat → TI) (an : Nat → Nat) (L : List Nat) (ds : List Deferred) (env : Env) (st : St) (k : Kont) (Q : VExit → Env → St → Prop) (x y : Code), iK P T an L ds (.bool false) x y env st k Q = cK P T an L ds y env st k Q) ∧
    (∀ (P : Program) (T : Nat → TI) (an : Nat → Nat) (L : List Nat) (ds : List Deferred) (env : Env) (st : St) (k : Kont) (Q : VExit → Env → St → Prop) (all : Array Oper), oK P T an L ds all [] env st k Q = qK P T an L ds k Q .normal env st) ∧
    (∀ (P : Program) (T : Nat → TI) (an : Nat → Nat) (L : List Nat) (ds : List Deferred) (env : Env) (st : St) (k : Kont) (Q : VExit → Env → St → Prop) (all : Array Oper) (dst : Option Tmp) (op : Op) (ty : TypeId) (pos : String) (aft : Array Edge) (os : List Oper), oK P T an L ds all (⟨dst, op, ty, pos, aft, none⟩ :: os) env st k Q = (okDstB env.N dst ∧ rK P T an L ds (stepOp T an dst op true env st) true false dst all os env st k Q)) ∧
    (∀ (P : Program) (T : Nat → TI) (an : Nat → Nat) (L : List Nat) (ds : List Deferred) (env : Env) (st : St) (k : Kont) (Q : VExit → Env → St → Prop) (all : Array Oper) (dst : Option Tmp) (op : Op) (ty : TypeId) (pos : String) (aft : Array Edge) (gd : Nat × Bool) (os : List Oper), oK P T an L ds all (⟨dst, op, ty, pos, aft, some gd⟩ :: os) env st k Q = gK P T an L ds (guardV all env (some gd)) dst op true all os env st k Q) ∧
    (∀ (P : Program) (T : Nat → TI) (an : Nat → Nat) (L : List Nat) (ds : List Deferred) (env : Env) (st : St) (k : Kont) (Q : VExit → Env → St → Prop) (all : Array Oper) (dst : Option Tmp) (op : Op) (os : List Oper) (gc b : Bool), gK P T an L ds (some gc) dst op b all os env st k Q = (okDstB env.N dst ∧ rK P T an L ds (stepOp T an dst op gc env st) gc b dst all os env st k Q)) ∧
    (∀ (P : Program) (T : Nat → TI) (an : Nat → Nat) (L : List Nat) (ds : List Deferred) (env : Env) (st : St) (k : Kont) (Q : VExit → Env → St → Prop) (all : Array Oper) (dst : Option Tmp) (os : List Oper) (gc b : Bool) (v : V) (side : Prop), rK P T an L ds (.pure v side) gc b dst all os env st k Q = ((gc = true → side) ∧ oK P T an L ds all os (env.put L dst gc v) st k Q)) ∧
    (∀ (P : Program) (T : Nat → TI) (an : Nat → Nat) (L : List Nat) (ds : List Deferred) (env : Env) (st : St) (k : Kont) (Q : VExit → Env → St → Prop) (all : Array Oper) (dst : Option Tmp) (os : List Oper) (gc b : Bool) (v : V) (st' : St) (side : Prop), rK P T an L ds (.mem v st' side) gc b dst all os env st k Q = ((gc = true ∨ st' = st) ∧ (gc = true → side) ∧ oK P T an L ds all os (env.put L dst gc v) st' k Q)) ∧
    (∀ (P : Program) (T : Nat → TI) (an : Nat → Nat) (L : List Nat) (ds : List Deferred) (env : Env) (st : St) (k : Kont) (Q : VExit → Env → St → Prop) (all : Array Oper) (dst : Option Tmp) (os : List Oper) (gc : Bool) (f : FuncId) (args : List V), rK P T an L ds (.call f args) gc false dst all os env st k Q = (gc = true ∧ VCalls P T f args st (aK P T an L ds dst gc all os env k Q))) ∧
    (∀ (P : Program) (T : Nat → TI) (an : Nat → Nat) (L : List Nat) (ds : List Deferred) (env : Env) (st : St) (k : Kont) (Q : VExit → Env → St → Prop) (all : Array Oper) (dst : Option Tmp) (os : List Oper) (gc b : Bool) (t : TypeId) (x : V), rK P T an L ds (.panic (.iface t x)) gc b dst all os env st k Q = (gc = true ∧ qK P T an L ds k Q (.panic (.iface t x)) env st)) ∧
    (∀ (P : Program) (T : Nat → TI) (an : Nat → Nat) (L : List Nat) (ds : List Deferred) (env : Env) (st : St) (k : Kont) (Q : VExit → Env → St → Prop) (all : Array Oper) (dst : Option Tmp) (os : List Oper) (gc b : Bool) (l : List (V × St)), rK P T an L ds (.any l) gc b dst all os env st k Q = (gc = true ∧ ∀ p ∈ l, oK P T an L ds all os (env.put L dst gc p.1) p.2 k Q)) ∧
    (∀ (P : Program) (T : Nat → TI) (an : Nat → Nat) (L : List Nat) (ds : List Deferred) (env : Env) (k : Kont) (Q : VExit → Env → St → Prop) (all : Array Oper) (dst : Option Tmp) (os : List Oper) (gc : Bool) (v : V) (st : St), aK P T an L ds dst gc all os env k Q (.ret v) st = oK P T an L ds all os (env.put L dst gc v) st k Q) ∧
    (∀ (P : Program) (T : Nat → TI) (an : Nat → Nat) (L : List Nat) (ds : List Deferred) (env : Env) (k : Kont) (Q : VExit → Env → St → Prop) (all : Array Oper) (dst : Option Tmp) (os : List Oper) (gc : Bool) (v : V) (st : St), aK P T an L ds dst gc all os env k Q (.panic v) st = qK P T an L ds k Q (.panic v) env st) ∧
    (∀ (P : Program) (T : Nat → TI) (an : Nat → Nat) (L : List Nat) (ds : List Deferred) (env : Env) (st : St) (Q : VExit → Env → St → Prop) (e : VExit), qK P T an L ds .done Q e env st = Q e env st) ∧
    (∀ (P : Program) (T : Nat → TI) (an : Nat → Nat) (L : List Nat) (ds : List Deferred) (env : Env) (st : St) (k : Kont) (Q : VExit → Env → St → Prop) (c : Code), qK P T an L ds (.seq c k) Q .normal env st = cK P T an L ds c env st k Q) ∧
    (∀ (P : Program) (T : Nat → TI) (an : Nat → Nat) (L : List Nat) (ds : List Deferred) (env : Env) (st : St) (k : Kont) (Q : VExit → Env → St → Prop) (c : Code) (id : Nat), qK P T an L ds (.seq c k) Q (.exit id) env st = qK P T an L ds k Q (.exit id) env st) ∧
    (∀ (P : Program) (T : Nat → TI) (an : Nat → Nat) (L : List Nat) (ds : List Deferred) (env : Env) (st : St) (k : Kont) (Q : VExit → Env → St → Prop) (c : Code), qK P T an L ds (.seq c k) Q .ret env st = qK P T an L ds k Q .ret env st) ∧
    (∀ (P : Program) (T : Nat → TI) (an : Nat → Nat) (L : List Nat) (ds : List Deferred) (env : Env) (st : St) (k : Kont) (Q : VExit → Env → St → Prop) (c : Code) (v : V), qK P T an L ds (.seq c k) Q (.panic v) env st = qK P T an L ds k Q (.panic v) env st) ∧
    (∀ (P : Program) (T : Nat → TI) (an : Nat → Nat) (L : List Nat) (ds : List Deferred) (env : Env) (st : St) (k : Kont) (Q : VExit → Env → St → Prop) (id : Nat), qK P T an L ds (.block id k) Q .normal env st = qK P T an L ds k Q .normal env st) ∧
    (∀ (P : Program) (T : Nat → TI) (an : Nat → Nat) (L : List Nat) (ds : List Deferred) (env : Env) (st : St) (k : Kont) (Q : VExit → Env → St → Prop) (id i : Nat), qK P T an L ds (.block id k) Q (.exit i) env st = if i = id then qK P T an L ds k Q .normal env st else qK P T an L ds k Q (.exit i) env st) ∧
    (∀ (P : Program) (T : Nat → TI) (an : Nat → Nat) (L : List Nat) (ds : List Deferred) (env : Env) (st : St) (k : Kont) (Q : VExit → Env → St → Prop) (id : Nat), qK P T an L ds (.block id k) Q .ret env st = qK P T an L ds k Q .ret env st) ∧
    (∀ (P : Program) (T : Nat → TI) (an : Nat → Nat) (L : List Nat) (ds : List Deferred) (env : Env) (st : St) (k : Kont) (Q : VExit → Env → St → Prop) (id : Nat) (v : V), qK P T an L ds (.block id k) Q (.panic v) env st = qK P T an L ds k Q (.panic v) env st) ∧
    (∀ (k : Env → St → Prop) (Q : VExit → Env → St → Prop) (env : Env) (st : St), vSeq k Q .normal env st = k env st) ∧
    (∀ (k : Env → St → Prop) (Q : VExit → Env → St → Prop) (env : Env) (st : St) (i : Nat), vSeq k Q (.exit i) env st = Q (.exit i) env st) ∧
    (∀ (k : Env → St → Prop) (Q : VExit → Env → St → Prop) (env : Env) (st : St), vSeq k Q .ret env st = Q .ret env st) ∧
    (∀ (k : Env → St → Prop) (Q : VExit → Env → St → Prop) (env : Env) (st : St) (v : V), vSeq k Q (.panic v) env st = Q (.panic v) env st) ∧
    (∀ (T : Nat → TI) (rs : List ResultVar) (Q : VEnd → St → Prop) (env : Env) (st : St), vRet T rs Q .normal env st = bindO (resV T env st rs) fun r => r.2 ∧ Q (.ret (tupV r.1)) st) ∧
    (∀ (T : Nat → TI) (rs : List ResultVar) (Q : VEnd → St → Prop) (env : Env) (st : St), vRet T rs Q .ret env st = bindO (resV T env st rs) fun r => r.2 ∧ Q (.ret (tupV r.1)) st) ∧
    (∀ (T : Nat → TI) (rs : List ResultVar) (Q : VEnd → St → Prop) (env : Env) (st : St) (v : V), vRet T rs Q (.panic v) env st = Q (.panic v) st) ∧
    (∀ {α : Type} (a : α) (k : α → Prop), bindO (some a) k = k a) := by
  refine ⟨?_, ?_, ?_, ?_, ?_, ?_, ?_, ?_, ?_, ?_, ?_, ?_, ?_, ?_, ?_, ?_, ?_, ?_, ?_, ?_, ?_, ?_, ?_, ?_, ?_, ?_, ?_, ?_, ?_, ?_, ?_, ?_, ?_, ?_, ?_, ?_, ?_, ?_, ?_⟩ <;> intros <;> first
    | rfl
    | exact cond_eq _ _ _ _ _ _ _ _ _ _ _ _ _
    | exact runStep_panic _ _ _ _ _ _ _ _ _ _
    | (simp only [oK, gK, vOps, bindO]; generalize guardV _ _ _ = r; cases r <;> rfl)
    | (simp only [iK, condV, Split_true, Split_false]; done)
end Go.Proofs.Ytakcdeihljojiaa.Gw

namespace Go.Proofs.Ytakcdeihljojiaa.Gw
open Go

theorem gwE :
    (∀ (N : Nat) (g l : List (Nat × Bool × V)) (c : Bool) (v : V) (L : List Nat), Env.put ⟨N, g, l⟩ L none c v = ⟨N, g, l⟩) ∧
    (∀ (N : Nat) (g l : List (Nat × Bool × V)) (t : Nat) (c : Bool) (v : V) (L : List Nat), Env.put ⟨N, g, l⟩ L (some t) c v = if memN L t then ⟨N, ins g t (c, v), (t, c, v) :: l⟩ else ⟨N, g, (t, c, v) :: l⟩) ∧
    (∀ (gc : Bool) (t N : Nat) (g l : List (Nat × Bool × V)), evG ⟨N, g, l⟩ gc (.tmp t) = lookT gc t l g) ∧
    (∀ (gc : Bool) (t : Nat) (g : List (Nat × Bool × V)), lookT gc t [] g = lookG gc t g) ∧
    (∀ (gc : Bool) (t k : Nat) (c : Bool) (v : V) (l g : List (Nat × Bool × V)), lookT gc t ((k, c, v) :: l) g = if k = t then (bif (!gc || c) then v else .junk) else lookT gc t l g) ∧
    (∀ (gc : Bool) (t k : Nat) (c : Bool) (v : V) (g : List (Nat × Bool × V)), lookG gc t ((k, c, v) :: g) = if k = t then (bif (!gc || c) then v else .junk) else lookG gc t g) ∧
    (∀ (gc : Bool) (env : Env) (v : Value), evG env gc (.const v) = V.ofConst v) ∧
    (∀ (gc : Bool) (env : Env) (f : FuncId), evG env gc (.func f) = .fn (.func f) []) ∧
    (∀ (k : IntKind) (n : Int), V.ofConst (.int k n) = .int k n) ∧
    (∀ (b : Bool), V.ofConst (.bool b) = .bool b) ∧
    (∀ (s : List UInt8), V.ofConst (.string ⟨s.toArray⟩) = if s.length ≤ 1000000 then .str s else .junk) ∧
    (V.ofConst (.slice none 0 0) = .nils) ∧
    (V.ofConst (.pointer none) = .nilp) ∧
    (V.ofConst .nilFunc = .nilf) ∧
    (V.ofConst (.map none) = .nilm) ∧
    (V.ofConst .nilIface = .nili) ∧
    (∀ (t : Nat), memN [] t = false) ∧
    (∀ (k : Nat) (r : List Nat) (t : Nat), memN (k :: r) t = if k = t then true else memN r t) ∧
    (∀ (t : Nat) (x : Bool × V), ins [] t x = [(t, x)]) ∧
    (∀ (k : Nat) (y : Bool × V) (r : List (Nat × Bool × V)) (t : Nat) (x : Bool × V), ins ((k, y) :: r) t x = if k = t then (t, x) :: r else (k, y) :: ins r t x) ∧
    (∀ (N d : Nat), okDstB N (some d) = (d < N)) ∧
    (∀ (N : Nat), okDstB N none = True) ∧
    (∀ (all : List Oper) (N : Nat) (g l : List (Nat × Bool × V)) (j : Nat) (w : Bool), guardV all.toArray ⟨N, g, l⟩ (some (j, w)) = guardL (dstL all j) w l g) ∧
    (∀ (w : Bool) (d : Nat) (k : Nat) (c : Bool) (v : V) (l g : List (Nat × Bool × V)), guardL (some d) w ((k, c, v) :: l) g = if k = d then gbit w c v else guardL (some d) w l g) ∧
    (∀ (w : Bool) (d : Nat) (g : List (Nat × Bool × V)), guardL (some d) w [] g = guardG d w g) ∧
    (∀ (w : Bool) (d : Nat) (k : Nat) (c : Bool) (v : V) (g : List (Nat × Bool × V)), guardG d w ((k, c, v) :: g) = if k = d then gbit w c v else guardG d w g) ∧
    (∀ (c b : Bool), gbit true c (.bool b) = some (c && b)) ∧
    (∀ (c b : Bool), gbit false c (.bool b) = some (c && !b)) ∧
    (∀ (dst : Option Tmp) (op : Op) (ty : TypeId) (pos : String) (aft : Array Edge) (gd : Option (Nat × Bool)) (os : List Oper), dstL (⟨dst, op, ty, pos, aft, gd⟩ :: os) 0 = dst) ∧
    (∀ (o : Oper) (os : List Oper) (k : Nat), dstL (o :: os) (k + 1) = dstL os k) := by
  refine ⟨fun _ _ _ _ _ _ => rfl,
    fun _ _ _ _ _ _ _ => rfl,
    evG_look,
    lookT_nil,
    lookT_cons,
    lookG_cons,
    evG_const,
    evG_func,
    fun _ _ => rfl,
    fun _ => rfl,
    ofConst_str,
    rfl,
    rfl,
    rfl,
    rfl,
    rfl,
    fun _ => rfl,
    fun _ _ _ => rfl,
    fun _ _ => rfl,
    fun _ _ _ _ _ => rfl,
    fun _ _ => rfl,
    fun _ => rfl,
    guard_eq,
    guardL_cons,
    fun _ _ _ => rfl,
    guardG_cons,
    fun _ _ => rfl,
    fun _ _ => rfl,
    fun _ _ _ _ _ _ _ => rfl,
    fun _ _ _ => rfl⟩

theorem gwS :
    (∀ (T : Nat → TI) (an : Nat → Nat) (dst : Option Tmp) (gc : Bool) (env : Env) (st : St) (x : Operand), stepOp T an dst (.move x) gc env st = .pure (evG env gc x) True) ∧
    (∀ (T : Nat → TI) (an : Nat → Nat) (dst : Option Tmp) (gc : Bool) (env : Env) (st : St) (x : Operand), stepOp T an dst (.assign x) gc env st = .pure (evG env gc x) True) ∧
    (∀ (T : Nat → TI) (an : Nat → Nat) (dst : Option Tmp) (gc : Bool) (env : Env) (st : St) (x : Operand), stepOp T an dst (.nilCheck x) gc env st = nilV (evG env gc x)) ∧
    (∀ (l : List V), nilV (.ref l) = .pure (.ref l) True) ∧
    (∀ (o f : Nat), nilV (.ptr o f) = .pure (.ptr o f) True) ∧
    (∀ (f : Fn) (c : List V), nilV (.fn f c) = .pure (.fn f c) (∀ n, f ≠ .method n)) ∧
    (∀ (t : TypeId) (v : V), nilV (.iface t v) = .pure (.iface t v) True) ∧
    (∀ (T : Nat → TI) (an : Nat → Nat) (dst : Option Tmp) (gc : Bool) (env : Env) (st : St) (op : BinOp) (t : TypeId) (x y : Operand) (u : TypeId), stepOp T an dst (.binOp op t x y u) gc env st = pureR (binV T (T t).kind op (evG env gc x) (evG env gc y)) .fail) ∧
    (∀ (T : Nat → TI) (an : Nat → Nat) (dst : Option Tmp) (gc : Bool) (env : Env) (st : St) (t : TypeId) (x : Operand), stepOp T an dst (.unOp .not t x) gc env st = notV (evG env gc x)) ∧
    (∀ (b : Bool), notV (.bool b) = .pure (.bool (!b)) True) ∧
    (∀ (T : Nat → TI) (an : Nat → Nat) (dst : Option Tmp) (gc : Bool) (env : Env) (st : St) (t : TypeId) (x : Operand), stepOp T an dst (.unOp .neg t x) gc env st = negV (evG env gc x)) ∧
    (∀ (k : IntKind) (n : Int), negV (.int k n) = .pure (.int k (k.wrap (0 - n))) True) ∧
    (∀ (T : Nat → TI) (an : Nat → Nat) (dst : Option Tmp) (gc : Bool) (env : Env) (st : St) (s : TypeId) (x : Operand) (f : Nat), stepOp T an dst (.fieldAddr s x f) gc env st = pureR (fieldV T (T s).kind f (evG env gc x)) .fail) ∧
    (∀ (T : Nat → TI) (fs : List (Nat × TypeId)) (f : Nat) (x : V), fieldV T (.struct fs) f x = fieldW T fs[f]? x) ∧
    (∀ (T : Nat → TI) (off : Nat) (ft : TypeId) (l : List V), fieldW T (some (off, ft)) (.ref l) = if (T ft).sized = false then none else some (.ref (l.drop off), True)) ∧
    (∀ (T : Nat → TI) (off : Nat) (ft : TypeId) (o n : Nat), fieldW T (some (off, ft)) (.ptr o n) = if (T ft).sized = false then none else some (.ptr o (n + off), True)) ∧
    (∀ (T : Nat → TI) (an : Nat → Nat) (dst : Option Tmp) (gc : Bool) (env : Env) (st : St) (s : TypeId) (x : Operand) (f : Nat), stepOp T an dst (.field s x f) gc env st = pureR (fldV T (T s).kind f (evG env gc x)) .fail) ∧
    (∀ (T : Nat → TI) (fs : List (Nat × TypeId)) (f : Nat) (l : List V), fldV T (.struct fs) f (.agg l) = fldW T fs[f]? l) ∧
    (∀ (T : Nat → TI) (off : Nat) (ft : TypeId) (l : List V), fldW T (some (off, ft)) l = if (T ft).sized = false then none else loadV (T ft) (l.drop off)) ∧
    (∀ (T : Nat → TI) (an : Nat → Nat) (dst : Option Tmp) (gc : Bool) (env : Env) (st : St) (t : TypeId) (x i : Operand), stepOp T an dst (.indexAddr t x i) gc env st = idxS T (T t).kind (evG env gc x) (evG env gc i) st) ∧
    (∀ (T : Nat → TI) (e : TypeId) (sz : Nat) (tk : Option Nat) (l : List (List V)) (k : IntKind) (n : Int) (st : St), idxS T (.slice e) (.lst sz tk l) (.int k n) st = if (T e).sized = true ∧ sz = (T e).size then .pure (.ref (l.getD n.toNat [])) (0 ≤ n ∧ n < l.length) else .fail) ∧
    (∀ (T : Nat → TI) (e : TypeId) (o n : Nat) (kk : IntKind) (k : Int) (st : St), idxS T (.slice e) (.arr o n) (.int kk k) st = idxB (T e) o n k st st[o]?) ∧
    (∀ (i : TI) (o n : Nat) (k : Int) (st : St) (e sz : Nat) (c : List (List V)), idxB i o n k st (some (.arr e sz c)) = if i.sized = true ∧ sz = i.size then .mem (.eptr o n sz k.toNat 0) st (n = c.length ∧ 0 ≤ k ∧ k < n) else .fail) ∧
    (∀ (e n sz k f : Nat), nilV (.eptr e n sz k f) = .pure (.eptr e n sz k f) True) ∧
    (∀ (T : Nat → TI) (off : Nat) (ft : TypeId) (e n sz k f : Nat), fieldW T (some (off, ft)) (.eptr e n sz k f) = if (T ft).sized = false then none else some (.eptr e n sz k (f + off), True)) ∧
    (∀ (T : Nat → TI) (t : TypeId) (st : St) (o n sz k off : Nat), loadS T t st (.eptr o n sz k off) = loadE (T t) n sz k off st st[o]?) ∧
    (∀ (i : TI) (n sz k off : Nat) (st : St) (e sz' : Nat) (c : List (List V)), loadE i n sz k off st (some (.arr e sz' c)) = if i.known = true ∧ sz' = sz then loadN st n k c.length (loadV i ((c.getD k []).drop off)) else .fail) ∧
    (∀ (st : St) (n k m : Nat) (v : V) (p : Prop), loadN st n k m (some (v, p)) = .mem v st (p ∧ n = m ∧ k < n)) ∧
    (∀ (i : TI) (st : St) (o n sz k off : Nat) (l : List V), storeS i st (.eptr o n sz k off) (some l) = storeE i st o n sz k off l st[o]?) ∧
    (∀ (i : TI) (st : St) (o n sz k off : Nat) (l : List V) (e sz' : Nat) (c : List (List V)), storeE i st o n sz k off l (some (.arr e sz' c)) = if i.known = true ∧ l.length = i.size ∧ sz' = sz then .mem .junk (st.set o (.arr e sz (c.set k ((c.getD k []).take off ++ l ++ (c.getD k []).drop (off + l.length))))) (n = c.length ∧ k < n ∧ off + l.length ≤ sz) else .fail) ∧
    (∀ (T : Nat → TI) (an : Nat → Nat) (dst : Option Tmp) (gc : Bool) (env : Env) (st : St) (src d : TypeId) (x : Operand), stepOp T an dst (.convert src d x) gc env st = convS (convV T src d (evG env gc x) st)) ∧
    (∀ (v : V) (st : St) (p : Prop), convS (some (v, st, p)) = .mem v st p) ∧
    (∀ (T : Nat → TI) (an : Nat → Nat) (dst : Option Tmp) (gc : Bool) (env : Env) (st : St) (t : TypeId) (x i : Operand), stepOp T an dst (.index t x i) gc env st = pureR (idxV (T t).kind (evG env gc x) (evG env gc i)) .fail) ∧
    (∀ (s : List UInt8) (k : IntKind) (n : Int), idxV .str (.str s) (.int k n) = some (.int .u8 (s.getD n.toNat 0).toNat, 0 ≤ n ∧ n < s.length)) ∧
    (∀ (T : Nat → TI) (an : Nat → Nat) (dst : Option Tmp) (gc : Bool) (env : Env) (st : St) (x : Operand) (i : Nat), stepOp T an dst (.extract x i) gc env st = extV i (evG env gc x)) ∧
    (∀ (i : Nat) (l : List V), extV i (.tup l) = extW l[i]?) ∧
    (∀ (v : V), extW (some v) = .pure v True) ∧
    (∀ (T : Nat → TI) (an : Nat → Nat) (dst : Option Tmp) (gc : Bool) (env : Env) (st : St) (t : TypeId) (parts : List (Nat × Operand)), stepOp T an dst (.build t parts.toArray) gc env st = pureR (buildV T (T t) (parts.map fun p => (p.1, evG env gc p.2))) .fail) ∧
    (∀ (T : Nat → TI) (an : Nat → Nat) (dst : Option Tmp) (gc : Bool) (env : Env) (st : St) (t : TypeId) (x : Operand), stepOp T an dst (.makeInterface t x) gc env st = pureR (mkIface (T t) t (evG env gc x)) .fail) ∧
    (∀ (T : Nat → TI) (an : Nat → Nat) (dst : Option Tmp) (gc : Bool) (env : Env) (st : St) (f : Fn) (c : List Operand), stepOp T an dst (.makeFunc f (List.toArray []) c.toArray) gc env st = .pure (.fn f (c.map (evG env gc))) True) ∧
    (∀ (T : Nat → TI) (an : Nat → Nat) (dst : Option Tmp) (gc : Bool) (env : Env) (st : St) (t : TypeId) (x : Operand) (lo hi : Option Operand), stepOp T an dst (.slice t x lo hi none) gc env st = sliS (an (dst.getD 0)) (pureR (sliceV T t (evG env gc x) (lo.map (evG env gc)) (hi.map (evG env gc))) .fail) (sufS (sufE T (T t).kind (evG env gc x) (lo.map (evG env gc)) (hi.map (evG env gc)) st))) ∧
    (∀ (T : Nat → TI) (an : Nat → Nat) (dst : Option Tmp) (gc : Bool) (env : Env) (st : St) (t : TypeId) (x : Operand), stepOp T an dst (.load t x) gc env st = loadS T t st (evG env gc x)) ∧
    (∀ (T : Nat → TI) (t : TypeId) (st : St) (l : List V), loadS T t st (.ref l) = if (T t).sized = false then .fail else pureR (loadV (T t) l) .fail) ∧
    (∀ (T : Nat → TI) (t : TypeId) (st : St) (o n : Nat), loadS T t st (.ptr o n) = loadB (T t) n st st[o]?) ∧
    (∀ (i : TI) (n : Nat) (st : St) (c : List V), loadB i n st (some (.box c)) = if i.known then loadM st (loadV i (c.drop n)) else .fail) ∧
    (∀ (st : St) (v : V) (p : Prop), loadM st (some (v, p)) = .mem v st p) ∧
    (∀ (T : Nat → TI) (an : Nat → Nat) (dst : Option Tmp) (gc : Bool) (env : Env) (st : St) (t : TypeId), stepOp T an dst (.alloc t) gc env st = allocS (T t) (an (dst.getD 0)) st) ∧
    (∀ (i : TI) (st : St), allocS i 0 st = if i.known then .mem (.ptr st.length 0) (st ++ [.box i.zero]) True else .fail) ∧
    (∀ (i : TI) (n : Nat) (st : St), allocS i (n + 1) st = if i.known then .mem (.ref i.zero) st True else .fail) ∧
    (∀ (T : Nat → TI) (an : Nat → Nat) (dst : Option Tmp) (gc : Bool) (env : Env) (st : St) (t : TypeId) (x : Operand), stepOp T an dst (.box t x) gc env st = boxS (an (dst.getD 0)) (V.cells (evG env gc x)) st) ∧
    (∀ (l : List V) (st : St), boxS 0 (some l) st = .mem (.ptr st.length 0) (st ++ [.box l]) True) ∧
    (∀ (n : Nat) (l : List V) (st : St), boxS (n + 1) (some l) st = .mem (.ref l) st True) ∧
    (∀ (T : Nat → TI) (an : Nat → Nat) (dst : Option Tmp) (gc : Bool) (env : Env) (st : St) (t : TypeId) (a x : Operand), stepOp T an dst (.store t a x) gc env st = storeS (T t) st (evG env gc a) (V.cells (evG env gc x))) ∧
    (∀ (i : TI) (st : St) (o n : Nat) (l : List V), storeS i st (.ptr o n) (some l) = storeB i st o n l st[o]?) ∧
    (∀ (i : TI) (st : St) (o n : Nat) (l c : List V), storeB i st o n l (some (.box c)) = if i.known ∧ l.length = i.size then .mem .junk (st.set o (.box (c.take n ++ l ++ c.drop (n + l.length)))) (n + l.length ≤ c.length) else .fail) ∧
    (∀ (T : Nat → TI) (an : Nat → Nat) (dst : Option Tmp) (gc : Bool) (env : Env) (st : St) (t : TypeId) (n : Nat) (parts : List (Nat × Operand)), stepOp T an dst (.buildSlice t n parts.toArray) gc env st = litS T (an (dst.getD 0)) n st (T t).kind (parts.map fun p => (p.1, evG env gc p.2))) ∧
    (∀ (T : Nat → TI) (an : Nat → Nat) (dst : Option Tmp) (gc : Bool) (env : Env) (st : St) (t : TypeId) (x y : Operand), stepOp T an dst (.makeSlice t x y) gc env st = makeS T st (T t).kind (evG env gc x) (evG env gc y)) ∧
    (∀ (T : Nat → TI) (st : St) (e : TypeId) (k k' : IntKind) (n m : Int), makeS T st (.slice e) (.int k n) (.int k' m) = if (T e).sized = true then .mem (.arr st.length n.toNat) (st ++ [.arr e (T e).size (List.replicate n.toNat (T e).zero)]) (n = m ∧ 0 ≤ n ∧ n ≤ 100000000000000 ∧ n * (T e).bytes ≤ 100000000000000) else .fail) ∧
    (∀ (T : Nat → TI) (an : Nat → Nat) (dst : Option Tmp) (gc : Bool) (env : Env) (st : St) (f : Operand) (args : List Operand) (ts : Array TypeId), stepOp T an dst (.call ⟨.value f, args.toArray, ts⟩) gc env st = callS (evG env gc f) (args.map (evG env gc))) ∧
    (∀ (k : FuncId) (cap args : List V), callS (.fn (.func k) cap) args = .call k (args ++ cap)) ∧
    (∀ (T : Nat → TI) (an : Nat → Nat) (dst : Option Tmp) (gc : Bool) (env : Env) (st : St) (b : Builtin) (args : List Operand) (ts : List TypeId), stepOp T an dst (.call ⟨.builtin b, args.toArray, ts.toArray⟩) gc env st = builtS T (an (dst.getD 0)) b (args.map (evG env gc)) ts st) ∧
    (∀ (T : Nat → TI) (an : Nat → Nat) (dst : Option Tmp) (gc : Bool) (env : Env) (st : St) (x : Operand), stepOp T an dst (.panic x) gc env st = .panic (evG env gc x)) ∧
    (∀ (T : Nat → TI) (an : Nat → Nat) (dst : Option Tmp) (gc : Bool) (env : Env) (st : St) (c a b : Operand), stepOp T an dst (.pick c a b) gc env st = pureR (pickV env gc c a b) .fail) ∧
    (∀ (v : V) (side : Prop) (m : Step), pureR (some (v, side)) m = .pure v side) ∧
    (∀ (T : Nat → TI) (an : Nat → Nat) (dst : Option Tmp) (gc : Bool) (env : Env) (st : St) (it : Operand), stepOp T an dst (.next it false) gc env st = anyS (nextV (evG env gc it) st)) ∧
    (∀ (l : List (V × St)), anyS (some l) = .any l) ∧
    (∀ (T : Nat → TI) (an : Nat → Nat) (dst : Option Tmp) (gc : Bool) (env : Env) (st : St) (it : Operand), stepOp T an dst (.entry it) gc env st = convS (entV (evG env gc it) st)) ∧
    (∀ (T : Nat → TI) (an : Nat → Nat) (dst : Option Tmp) (gc : Bool) (env : Env) (st : St) (t : TypeId), stepOp T an dst (.makeMap t none) gc env st = convS (makeMapE (T t).kind st)) ∧
    (∀ (T : Nat → TI) (an : Nat → Nat) (dst : Option Tmp) (gc : Bool) (env : Env) (st : St) (t : TypeId) (m x : Operand) (ok : Bool), stepOp T an dst (.lookup t m x ok) gc env st = convS (mapLook T (T t).kind (evG env gc m) (evG env gc x) ok st)) ∧
    (∀ (T : Nat → TI) (an : Nat → Nat) (dst : Option Tmp) (gc : Bool) (env : Env) (st : St) (t : TypeId) (m x y : Operand), stepOp T an dst (.mapUpdate t m x y) gc env st = convS (mapPut T (T t).kind (evG env gc m) (evG env gc x) (evG env gc y) st)) ∧
    (∀ (T : Nat → TI) (an : Nat → Nat) (dst : Option Tmp) (gc : Bool) (env : Env) (st : St) (t : TypeId) (m x y : Operand), stepOp T an dst (.insert t m x y) gc env st = convS (mapPut T (T t).kind (evG env gc m) (evG env gc x) (evG env gc y) st)) ∧
    (∀ (T : Nat → TI) (an : Nat → Nat) (dst : Option Tmp) (gc : Bool) (env : Env) (st : St) (t : TypeId) (m : Operand), stepOp T an dst (.range t m) gc env st = convS (mapRange (T t).kind (evG env gc m) st)) := by
  refine ⟨fun _ _ _ _ _ _ _ => rfl,
    fun _ _ _ _ _ _ _ => rfl,
    step_nilCheck,
    fun _ => rfl,
    fun _ _ => rfl,
    fun _ _ => rfl,
    fun _ _ => rfl,
    fun _ _ _ _ _ _ _ _ _ _ _ => rfl,
    step_not,
    fun _ => rfl,
    step_neg,
    fun _ _ => rfl,
    fun _ _ _ _ _ _ _ _ _ => rfl,
    fun _ _ _ _ => rfl,
    fun _ _ _ _ => rfl,
    fun _ _ _ _ _ => rfl,
    step_field,
    fun _ _ _ _ => rfl,
    fun _ _ _ _ => rfl,
    step_indexAddr,
    by intros; rfl,
    by intros; rfl,
    by intros; rfl,
    by intros; rfl,
    by intros; rfl,
    by intros; rfl,
    by intros; rfl,
    by intros; rfl,
    by intros; rfl,
    by intros; rfl,
    step_convert,
    by intros; rfl,
    fun _ _ _ _ _ _ _ _ _ => rfl,
    fun _ _ _ => rfl,
    step_extract,
    fun _ _ => rfl,
    fun _ => rfl,
    step_build,
    step_makeInterface,
    fun _ _ _ _ _ _ _ _ => rfl,
    fun _ _ _ _ _ _ _ _ _ _ => rfl,
    step_load,
    fun _ _ _ _ => rfl,
    loadS_ptr,
    fun _ _ _ _ => rfl,
    fun _ _ _ => rfl,
    step_alloc,
    fun _ _ => rfl,
    fun _ _ _ => rfl,
    step_box,
    fun _ _ => rfl,
    fun _ _ _ => rfl,
    step_store,
    fun _ _ _ _ _ => rfl,
    fun _ _ _ _ _ _ => rfl,
    step_buildSlice,
    step_makeSlice,
    fun _ _ _ _ _ _ _ => rfl,
    step_call,
    fun _ _ _ => rfl,
    step_builtin,
    fun _ _ _ _ _ _ _ => rfl,
    fun _ _ _ _ _ _ _ _ _ => rfl,
    fun _ _ _ => rfl,
    fun _ _ _ _ _ _ _ => rfl,
    fun _ => rfl,
    fun _ _ _ _ _ _ _ => rfl,
    fun _ _ _ _ _ _ _ => rfl,
    fun _ _ _ _ _ _ _ _ _ _ => rfl,
    fun _ _ _ _ _ _ _ _ _ _ => rfl,
    fun _ _ _ _ _ _ _ _ _ _ => rfl,
    fun _ _ _ _ _ _ _ _ => rfl⟩

end Go.Proofs.Ytakcdeihljojiaa.Gw
