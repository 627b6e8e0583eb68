/- Code as a whole; loops; functions. Each operation's step, as an equation: what the condition of code is computed by. The condition of code with what comes behind it as data: so that computing it looks at nothing that is not come to yet. The equations by which the condition of code is computed, under few names. Regions whose order is drawn: where what depends on the state is ordered, any order gives what the text's order gives. -/
import Derived.Test.YtpllcpbhjglpaaaGreatDoorZV3
import Derived.Orders
namespace Go.Proofs.YtpllcpbhjglpaaaGreatDoor.Gw
open Go
set_option linter.unusedSimpArgs false
section
variable {P : Program} {T : Nat → TI} {an : Nat → Nat} {L : List Nat} {ds : List Deferred}
theorem SimEnv.loc {g : G} {w : World} {env : Env} {a : Act} (h : SimEnv g w env a) (hl : EnvOK L env) : SimEnv g w { env with l := [] } a :=
 ⟨h.1, fun t c v hv => h.2 t c v (hl t _ (by simpa [Env.look, find] using hv)).2⟩
theorem EnvOK.loc {env : Env} (hl : EnvOK L env) : EnvOK L { env with l := [] } :=
 fun t x hx => ⟨(hl t x hx).1, by simp only [Env.look, find]; exact hx⟩
theorem vCode_sound (hT : Tab P T) : ∀ (c : Code) (env : Env) (st : St) (Q : VExit → Env → St → Prop), vCode P T an L ds c env st Q → VC P T L ds c env st Q := by
 intro c
 induction c with
 | skip => intro env st Q h g w a h1 h2 h3 h4; exact wp_skip ⟨.normal, env, st, g, h, rfl, h2, h3, h4, h1, Ext.refl _ _⟩
 | region id ops draw =>
  intro env st Q h
  cases draw with
  | true => exact h
  | false =>
   intro g w a h1 h2 h3 h4
   exact wp_region_list (vOps_sound hT ops.toList _ st g w a (Ext.refl _ _) h1 (h2.loc h3) h3.loc h4 h)
 | seq x y ihx ihy =>
  intro env st Q h g w a h1 h2 h3 h4
  refine wp_seq (wp_mono (ihx env st _ h g w a h1 h2 h3 h4) ?_)
  intro e a' w' ⟨ve, env', st', g', k1, k2, k3, k4, k5, k6, k7⟩
  cases ve with
  | normal =>
   simp only [SimExit] at k2; subst k2
   exact wp_mono (ihy env' st' Q k1 g' w' a' k6 k3 k4 k5) fun _ _ _ hq => hq.ext k7
  | exit id => simp only [SimExit] at k2; subst k2; exact ⟨.exit id, env', st', g', k1, rfl, k3, k4, k5, k6, k7⟩
  | ret => simp only [SimExit] at k2; subst k2; exact ⟨.ret, env', st', g', k1, rfl, k3, k4, k5, k6, k7⟩
  | panic v => have k2' := k2; obtain ⟨val, rfl, _⟩ := k2; exact ⟨.panic v, env', st', g', k1, k2', k3, k4, k5, k6, k7⟩
 | cond c x y ihx ihy =>
  intro env st Q h g w a h1 h2 h3 h4
  simp only [vCode] at h
  unfold bindO at h
  split at h
  case h_2 => exact h.elim
  rename_i r hr
  split at h
  case h_2 => exact h.elim
  rename_i t
  have hc := evO_sim h2 hr
  simp only [if_true, SimV] at hc
  obtain ⟨s1, s2⟩ := h
  refine wp_cond_split hc (fun ht => ihx env st Q (s1 ht) g w a h1 h2 h3 h4) (fun ht => ihy env st Q (s2 ht) g w a h1 h2 h3 h4)
 | block id c ih =>
  intro env st Q h g w a h1 h2 h3 h4
  refine wp_block (wp_mono (ih env st _ h g w a h1 h2 h3 h4) ?_)
  intro e a' w' ⟨ve, env', st', g', k1, k2, k3⟩
  cases ve with
  | normal => simp only [SimExit] at k2; subst k2; exact ⟨.normal, env', st', g', k1, rfl, k3⟩
  | exit i =>
   simp only [SimExit] at k2; subst k2
   simp only [vBlock] at k1
   simp only [Exit.inBlock]
   split
   ·rename_i e; rw [if_pos e] at k1; exact ⟨.normal, env', st', g', k1, rfl, k3⟩
   ·rename_i e; rw [if_neg e] at k1; exact ⟨.exit i, env', st', g', k1, rfl, k3⟩
  | ret => simp only [SimExit] at k2; subst k2; exact ⟨.ret, env', st', g', k1, rfl, k3⟩
  | panic v => have k2' := k2; obtain ⟨val, rfl, _⟩ := k2; exact ⟨.panic v, env', st', g', k1, k2', k3⟩
 | exit id => intro env st Q h g w a h1 h2 h3 h4; exact wp_exit ⟨.exit id, env, st, g, h, rfl, h2, h3, h4, h1, Ext.refl _ _⟩
 | ret => intro env st Q h g w a h1 h2 h3 h4; exact wp_ret ⟨.ret, env, st, g, h, rfl, h2, h3, h4, h1, Ext.refl _ _⟩
 | loop c ih => intro env st Q h; exact h
 | rangeFunc f p x y ihx ihy => intro env st Q h; exact h
 | scope c ih => intro env st Q h; exact h
 | label l => intro env st Q h; exact h
 | goto l => intro env st Q h; exact h
 | refuse s => intro env st Q h; exact h
/-- What is kept of an environment. -/
def Env.keep (e : Env) : List Nat → List (Nat × Bool × V)
 | [] => []
 | t :: ts => match e.look t with
  | some x => (t, x) :: e.keep ts
  | none => e.keep ts
theorem find_keep (e : Env) : ∀ (ts : List Nat) (t : Nat) (x : Bool × V), find (e.keep ts) t = some x → e.look t = some x ∧ memN ts t = true
 | [], t, x, h => by simp [Env.keep, find] at h
 | u :: ts, t, x, h => by
  simp only [Env.keep] at h
  split at h
  ·rename_i y hy
   simp only [find] at h
   split at h
   ·rename_i hu; subst hu; cases h; exact ⟨hy, by simp [memN]⟩
   ·rename_i hu
    obtain ⟨h1, h2⟩ := find_keep e ts t x h
    exact ⟨h1, by simp [memN, hu, h2]⟩
  ·obtain ⟨h1, h2⟩ := find_keep e ts t x h
   exact ⟨h1, by simp only [memN]; split <;> simp [h2]⟩
def subN (ks L : List Nat) : Bool := ks.all (memN L)
theorem memN_mem : ∀ {ks : List Nat} {t : Nat}, memN ks t = true → t ∈ ks
 | [], t, h => by simp [memN] at h
 | k :: ks, t, h => by
  simp only [memN] at h
  split at h
  ·rename_i e; simp [e]
  ·exact List.mem_cons_of_mem _ (memN_mem h)
theorem SimEnv.keep {g : G} {w : World} {env : Env} {a : Act} (h : SimEnv g w env a) (ks : List Nat) : SimEnv g w ⟨env.N, env.keep ks, []⟩ a :=
 ⟨h.1, fun t c v hv => h.2 t c v (find_keep env ks t _ (by simpa [Env.look, find] using hv)).1⟩
theorem EnvOK.keep {ks : List Nat} (hs : subN ks L = true) (env : Env) : EnvOK L ⟨env.N, env.keep ks, []⟩ := by
 intro t x hx
 obtain ⟨h1, h2⟩ := find_keep env ks t x hx
 refine ⟨?_, by simpa [Env.look, find] using hx⟩
 simp only [subN, List.all_eq_true] at hs
 exact hs t (memN_mem h2)
/-- Of an environment less may be told. -/
theorem VC.keep (ks : List Nat) (hs : subN ks L = true) {c : Code} {env : Env} {st : St} {Q : VExit → Env → St → Prop} (h : VC P T L ds c ⟨env.N, env.keep ks, []⟩ st Q) : VC P T L ds c env st Q :=
 fun g w a h1 h2 _ h4 => h g w a h1 (h2.keep ks) (EnvOK.keep hs env) h4
/-- A loop: what holds at each round's head, of what is kept; a number that each round lowers. -/
theorem VC.loop (ks : List Nat) (hs : subN ks L = true) {c : Code} {env : Env} {st : St} {Q : VExit → Env → St → Prop} (I : Nat → Env → St → Prop) (k : Nat) (h0 : I k ⟨env.N, env.keep ks, []⟩ st)
  (step : ∀ k env st, I k env st → VC P T L ds c env st (vSeq (fun env' st' => ∃ k', k' < k ∧ I k' ⟨env'.N, env'.keep ks, []⟩ st') Q)) : VC P T L ds (.loop c) env st Q := by
 intro g w a h1 h2 h3 h4
 refine wp_loop_ghost (fun k a' w' => ∃ env' st' g', I k env' st' ∧ SimSt T g' st' w' ∧ SimEnv g' w' env' a' ∧ EnvOK L env' ∧ a'.defers = ds ∧ Ext g w g' w') k ⟨_, st, g, h0, h1, h2.keep ks, EnvOK.keep hs env, h4, Ext.refl _ _⟩ ?_
 intro n a' w' ⟨env', st', g', i1, i2, i3, i4, i5, i6⟩
 refine wp_mono (step n env' st' i1 g' w' a' i2 i3 i4 i5) ?_
 intro e a2 w2 ⟨ve, env2, st2, g2, k1, k2, k3, k4, k5, k6, k7⟩
 cases ve with
 | normal =>
  simp only [SimExit] at k2; subst k2
  obtain ⟨k', hk, hI⟩ := k1
  exact ⟨k', hk, _, st2, g2, hI, k6, k3.keep ks, EnvOK.keep hs env2, k5, i6.trans k7⟩
 | exit id => simp only [SimExit] at k2; subst k2; exact ⟨.exit id, env2, st2, g2, k1, rfl, k3, k4, k5, k6, i6.trans k7⟩
 | ret => simp only [SimExit] at k2; subst k2; exact ⟨.ret, env2, st2, g2, k1, rfl, k3, k4, k5, k6, i6.trans k7⟩
 | panic v => have k2' := k2; obtain ⟨val, rfl, _⟩ := k2; exact ⟨.panic v, env2, st2, g2, k1, k2', k3, k4, k5, k6, i6.trans k7⟩
-- functions
def resOne (T : Nat → TI) (env : Env) (st : St) : ResultVar → Option (V × Prop)
 | .tmp t => match env.look t with
  | some (c, v) => some (v, c = true)
  | none => none
 | .cell a t => match env.look a with
  | some (c, .ptr o n) => match st[o]? with
   | some (.box l) => if (T t).known then (loadV (T t) (l.drop n)).map fun r => (r.1, c = true ∧ r.2) else none
   | _ => none
  | some (c, .ref l) => if (T t).known then (loadV (T t) l).map fun r => (r.1, c = true ∧ r.2) else none
  | _ => none
def resV (T : Nat → TI) (env : Env) (st : St) : List ResultVar → Option (List V × Prop)
 | [] => some ([], True)
 | r :: rs => match resOne T env st r, resV T env st rs with
  | some (v, p), some (vs, q) => some (v :: vs, p ∧ q)
  | _, _ => none
def tupV : List V → V
 | [v] => v
 | l => .tup l
def vRet (T : Nat → TI) (rs : List ResultVar) (Q : VEnd → St → Prop) : VExit → Env → St → Prop
 | .normal, env, st => bindO (resV T env st rs) fun r => r.2 ∧ Q (.ret (tupV r.1)) st
 | .ret, env, st => bindO (resV T env st rs) fun r => r.2 ∧ Q (.ret (tupV r.1)) st
 | .panic v, _, st => Q (.panic v) st
 | .exit _, _, _ => False
def resSem (tmps : Array Value) : ResultVar → Sem Value
 | .tmp t => pure (tmps.getD t undef)
 | .cell a t => do loadVar t (← asAddr (tmps.getD a undef))
theorem results_eq (fn : Func) (tmps : Array Value) : results fn tmps = (do let vs ← fn.results.mapM (resSem tmps); pure (if h : vs.size = 1 then vs[0] else .tuple vs)) := by
 unfold results
 congr 1
theorem resOne_sound (hT : Tab P T) {g : G} {w : World} {env : Env} {st : St} {a : Act} (h1 : SimSt T g st w) (h2 : SimEnv g w env a) {r : ResultVar} {v : V} {side : Prop} (h : resOne T env st r = some (v, side)) (hs : side) :
  ∃ val, (resSem a.tmps r).run P w = .ok val w ∧ SimV g w v val := by
 cases r with
 | tmp t =>
  simp only [resOne] at h
  split at h
  case h_2 => simp at h
  rename_i c v' hl
  simp only [Option.some.injEq, Prod.mk.injEq] at h
  obtain ⟨rfl, rfl⟩ := h
  have := h2.2 t c _ hl
  rw [if_pos hs] at this
  exact ⟨_, rfl, this⟩
 | cell x t =>
  simp only [resOne] at h
  split at h
  ·rename_i c o n hl
   split at h
   case h_2 => simp at h
   rename_i l ho
   split at h
   case isFalse => simp at h
   rename_i hk
   cases hld : loadV (T t) (l.drop n) with
   | none => simp [hld] at h
   | some r =>
    simp only [hld, Option.map_some, Option.some.injEq, Prod.mk.injEq] at h
    obtain ⟨rfl, rfl⟩ := h
    have hx := h2.2 x c _ hl
    rw [if_pos hs.1] at hx
    simp only [SimV] at hx
    obtain ⟨q1, vs, t', q2, q3, q4⟩ := h1.ent o _ ho
    have e : ∀ j u, (vs.drop n)[j]? = some u → w.cell? ((Addr.mk (g.pb o) n none).add j) = some u := by
     intro j u hj
     rw [Addr.add_eq rfl]
     simp only [World.cell?, q2]
     rw [List.getElem?_drop] at hj
     simpa using hj
    obtain ⟨val, r1, r2⟩ := load_cells hT (known_kind hk) (q3.drop n) (fun u hu => q4 u (List.mem_of_mem_drop hu)) e hld hs.2
    exact ⟨val, by simp [resSem, hx.2, asAddr, r1], r2⟩
  ·rename_i c l hl
   split at h
   case isFalse => simp at h
   rename_i hk
   cases hld : loadV (T t) l with
   | none => simp [hld] at h
   | some r =>
    simp only [hld, Option.map_some, Option.some.injEq, Prod.mk.injEq] at h
    obtain ⟨rfl, rfl⟩ := h
    have hx := h2.2 x c _ hl
    rw [if_pos hs.1] at hx
    simp only [SimV] at hx
    obtain ⟨ad, k1, k2, k3⟩ := hx
    obtain ⟨val, r1, r2⟩ := load_sealed hT (known_kind hk) k2 k3 hld hs.2
    exact ⟨val, by simp [resSem, k1, asAddr, r1], r2⟩
  ·simp at h
theorem resV_sound (hT : Tab P T) {g : G} {w : World} {env : Env} {st : St} {a : Act} (h1 : SimSt T g st w) (h2 : SimEnv g w env a) : ∀ {rs : List ResultVar} {vs : List V} {side : Prop}, resV T env st rs = some (vs, side) → side →
  ∃ vals : List Value, (rs.mapM (resSem a.tmps)).run P w = Result.ok vals w ∧ SimVs g w vs vals
 | [], vs, side, h, hs => by
  simp only [resV, Option.some.injEq, Prod.mk.injEq] at h
  obtain ⟨rfl, rfl⟩ := h
  exact ⟨[], rfl, by simp [SimVs]⟩
 | r :: rs, vs, side, h, hs => by
  simp only [resV] at h
  split at h
  case h_2 => simp at h
  rename_i v p vs' q e1 e2
  simp only [Option.some.injEq, Prod.mk.injEq] at h
  obtain ⟨rfl, rfl⟩ := h
  obtain ⟨val, k1, k2⟩ := resOne_sound hT h1 h2 e1 hs.1
  obtain ⟨vals, k3, k4⟩ := resV_sound hT h1 h2 e2 hs.2
  refine ⟨val :: vals, ?_, by simp only [SimVs]; exact ⟨val, vals, rfl, k2, k4⟩⟩
  rw [List.mapM_cons]
  simp only [Sem.run_bind, k1, k3, Result.andThen_ok, Sem.run_pure]
def initG : Nat → List V → List (Nat × Bool × V)
 | _, [] => []
 | k, v :: vs => (k, true, v) :: initG (k + 1) vs
theorem find_initG : ∀ (k : Nat) (vs : List V) (t : Nat) (x : Bool × V), find (initG k vs) t = some x → k ≤ t ∧ ∃ v, vs[t - k]? = some v ∧ x = (true, v)
 | k, [], t, x, h => by simp [initG, find] at h
 | k, v :: vs, t, x, h => by
  simp only [initG, find] at h
  split at h
  ·rename_i e; subst e; cases h; exact ⟨Nat.le_refl _, v, by simp, rfl⟩
  ·obtain ⟨h1, u, h2, h3⟩ := find_initG (k + 1) vs t x h
   refine ⟨by omega, u, ?_, h3⟩
   rw [show t - k = (t - (k + 1)) + 1 by omega]; simpa using h2
/-- A function, by its body's condition. -/
theorem vcalls (hT : Tab P T) {f : FuncId} {fn : Func} {c : Code} (hf : P.funcs[f]? = some fn) (hb : fn.body = some c) (hnm : (fn.name == "runtime.NumGoroutine") = false) {rs : List ResultVar} (hrs : fn.results.toList = rs) {N : Nat} (hN : fn.ntmps = N)
  {args : List V} (hl : args.length ≤ N) (hL : (List.range args.length).all (memN L) = true) {st : St} {Q : VEnd → St → Prop} (h : St.ok st → ltL st.length args → fitL args → vCode P T an L [] c ⟨N, initG 0 args, []⟩ st (vRet T rs Q)) : VCalls P T f args st Q := by
 refine ⟨⟨fn, hf, by rw [hb]; rfl, hnm⟩, fun g w vals h1 h2 => calls_of_wp hf hb ?_⟩
 have hvl := h2.length
 have henv : SimEnv g w ⟨N, initG 0 args, []⟩ { tmps := vals.toArray ++ Array.replicate (fn.ntmps - vals.toArray.size) undef, defers := [] } := by
  refine ⟨by simp [hN]; omega, fun t c v hv => ?_⟩
  simp only [Env.look, find] at hv
  obtain ⟨_, u, hu, hx⟩ := find_initG 0 args t _ hv
  cases hx
  obtain ⟨z, hz, hs⟩ := h2.get t (by simpa using hu)
  simp only [if_true]
  have : (vals.toArray ++ Array.replicate (fn.ntmps - vals.toArray.size) undef).getD t undef = z := by
   obtain ⟨htl, hz'⟩ := List.getElem?_eq_some_iff.1 hz
   simp [Array.getD_eq_getD_getElem?, Array.getElem?_append, htl, hz']
  rw [this]; exact hs
 have hok : EnvOK L ⟨N, initG 0 args, []⟩ := by
  intro t x hx
  obtain ⟨_, u, hu, hx'⟩ := find_initG 0 args t x hx
  have htl := (List.getElem?_eq_some_iff.1 hu).1
  simp only [List.all_eq_true] at hL
  exact ⟨hL t (by simpa using htl), by simpa [Env.look, find] using hx⟩
 refine wp_mono (vCode_sound hT c _ st _ (h h1.okSt (by rw [← h1.n]; exact h2.lt) h2.fit) g w _ h1 henv hok rfl) ?_
 intro e a' w' ⟨ve, env', st', g', k1, k2, k3, k4, k5, k6, k7⟩
 have done : (bindO (resV T env' st' rs) fun r => r.2 ∧ Q (.ret (tupV r.1)) st') → a'.defers = [] ∧ ∃ v, (results fn a'.tmps).run P w' = .ok v w' ∧ (∃ r st' g', Q r st' ∧ SimEnd g' w' r (.returned v) ∧ SimSt T g' st' w' ∧ Ext g w g' w') := by
  intro hr
  unfold bindO at hr
  split at hr
  case h_2 => exact hr.elim
  rename_i r hres
  obtain ⟨vs, side⟩ := r
  obtain ⟨hs, hq⟩ := hr
  obtain ⟨vals', m1, m2⟩ := resV_sound hT k6 k3 hres hs
  have hrun : (results fn a'.tmps).run P w' = .ok (if h : vals'.toArray.size = 1 then vals'.toArray[0] else .tuple vals'.toArray) w' := by
   rw [results_eq, Array.mapM_eq_mapM_toList, hrs]
   simp only [Sem.run_bind, Sem.run_map, m1, Result.andThen_ok, Sem.run_pure]
  refine ⟨k5, _, hrun, .ret (tupV vs), st', g', hq, ⟨_, rfl, ?_⟩, k6, k7⟩
  have hlen := m2.length
  match vs, m2, hlen with
  | [], m2, hlen =>
   have : vals' = [] := by simpa using hlen
   subst this
   simp only [tupV, SimV]; exact ⟨[], by simp, m2⟩
  | [v], m2, hlen =>
   simp only [SimVs] at m2
   obtain ⟨u, r, rfl, m3, rfl⟩ := m2
   simpa [tupV] using m3
  | v :: v2 :: vs, m2, hlen =>
   have hne : ¬ vals'.toArray.size = 1 := by simp [hlen]
   simp only [hne, dite_false, tupV, SimV]
   exact ⟨vals', rfl, m2⟩
 cases ve with
 | normal => simp only [SimExit] at k2; subst k2; exact done k1
 | ret => simp only [SimExit] at k2; subst k2; exact done k1
 | exit id => exact k1.elim
 | panic v =>
  obtain ⟨val, rfl, hv⟩ := k2
  exact ⟨k5, .panic v, st', g', k1, ⟨val, rfl, hv⟩, k6, k7⟩
/-- What a call comes to, where what it made for itself is forgotten. -/
def Gives (X : V) (st' : St) (r : VEnd) (s : St) : Prop := ∃ ex v su, s = su ++ ex ∧ wkSt su st' ∧ r = .ret v ∧ wk v X ∧ X.lt st'.length ∧ St.ok st'
theorem VCalls.give {f : FuncId} {args : List V} {st st' : St} {X : V} (h : VCalls P T f args st (Gives X st')) (hn : st.length ≤ st'.length) : VCalls P T f args st fun r s => r = .ret X ∧ s = st' :=
 ⟨h.1, fun g w vals h1 h2 => (h.2 g w vals h1 h2).mono fun e w' ⟨r, s, g', ⟨ex, v, su, e1, e0, e2, e3, e4, e5⟩, k2, k3, k4⟩ => by
  subst e1; subst e2
  have k3 := k3.wk (e0.append (wkSt_refl ex))
  obtain ⟨val, rfl, hv⟩ := k2
  exact ⟨.ret X, st', g'.cut st'.length, ⟨rfl, rfl⟩, ⟨val, rfl, (e3.sim (nil0_no g') hv).cut e4⟩, k3.drop e5, k4.cut (by rw [h1.n]; exact hn)⟩⟩
end
end Go.Proofs.YtpllcpbhjglpaaaGreatDoor.Gw
namespace Go.Proofs.YtpllcpbhjglpaaaGreatDoor.Gw
open Go
def condV : V → Prop → Prop → Prop
 | .bool t, A, B => Split t A B
 | _, _, _ => False
@[congr] theorem condV_congr {v v' : V} {A B : Prop} (h : v = v') : condV v A B = condV v' A B := by rw [h]
def lookT (gc : Bool) (t : Nat) : List (Nat × Bool × V) → List (Nat × Bool × V) → V
 | [], g => match find g t with | some x => bif (!gc || x.1) then x.2 else .junk | none => .junk
 | (k, x) :: l, g => if k = t then (bif (!gc || x.1) then x.2 else .junk) else lookT gc t l g
def lookG (gc : Bool) (t : Nat) : List (Nat × Bool × V) → V
 | [] => .junk
 | (k, x) :: g => if k = t then (bif (!gc || x.1) then x.2 else .junk) else lookG gc t g
def gbit (want c : Bool) : V → Option Bool
 | .bool b => some (c && (bif want then b else !b))
 | _ => none
def dstL : List Oper → Nat → Option Tmp
 | [], _ => none
 | o :: _, 0 => o.dst
 | _ :: os, k + 1 => dstL os k
def guardG (d : Nat) (w : Bool) : List (Nat × Bool × V) → Option Bool
 | [] => none
 | (k, x) :: g => if k = d then gbit w x.1 x.2 else guardG d w g
def guardL (d : Option Tmp) (w : Bool) : List (Nat × Bool × V) → List (Nat × Bool × V) → Option Bool
 | [], g => match d with | some d => guardG d w g | none => none
 | (k, x) :: l, g => match d with | some d => if k = d then gbit w x.1 x.2 else guardL (some d) w l g | none => none
section
variable (T : Nat → TI) (an : Nat → Nat) (dst : Option Tmp) (gc : Bool) (env : Env) (st : St)
theorem evG_tmp (t : Nat) (N : Nat) (g l : List (Nat × Bool × V)) : evG ⟨N, g, l⟩ gc (.tmp t) = match find l t with
  | some x => bif (!gc || x.1) then x.2 else .junk
  | none => match find g t with | some x => bif (!gc || x.1) then x.2 else .junk | none => .junk := by
 simp only [evG, evO, Env.look]
 cases find l t with
 | some x => rfl
 | none => cases find g t <;> rfl
theorem evG_look (t : Nat) (N : Nat) (g l : List (Nat × Bool × V)) : evG ⟨N, g, l⟩ gc (.tmp t) = lookT gc t l g := by
 rw [evG_tmp]
 induction l with
 | nil => rfl
 | cons y l ih =>
  obtain ⟨k, x⟩ := y
  by_cases h : k = t
  ·simp only [find, lookT, if_pos h]
  ·simp only [find, lookT, if_neg h]; exact ih
theorem lookT_nil (t : Nat) (g : List (Nat × Bool × V)) : lookT gc t [] g = lookG gc t g := by
 simp only [lookT]
 induction g with
 | nil => rfl
 | cons y g ih =>
  obtain ⟨k, x⟩ := y
  by_cases h : k = t
  ·simp only [find, lookG, if_pos h]
  ·simp only [find, lookG, if_neg h]; exact ih
theorem lookT_cons (t k : Nat) (c : Bool) (v : V) (l g : List (Nat × Bool × V)) : lookT gc t ((k, c, v) :: l) g = if k = t then (bif (!gc || c) then v else .junk) else lookT gc t l g := rfl
theorem lookG_cons (t k : Nat) (c : Bool) (v : V) (g : List (Nat × Bool × V)) : lookG gc t ((k, c, v) :: g) = if k = t then (bif (!gc || c) then v else .junk) else lookG gc t g := rfl
theorem evG_const (v : Value) : evG env gc (.const v) = V.ofConst v := by simp [evG, evO]
theorem evG_func (f : FuncId) : evG env gc (.func f) = .fn (.func f) [] := by simp [evG, evO]
theorem ofC1_str (s : List UInt8) : V.ofC1 (.string ⟨s.toArray⟩) = if s.length ≤ 1000000 then some (.str s) else none := by simp [V.ofC1]
theorem ofConst_agg (l : List Value) : V.ofConst (.agg l.toArray) = aggR (V.ofCs l) := by simp [V.ofConst]
theorem ofConst_str (s : List UInt8) : V.ofConst (.string ⟨s.toArray⟩) = if s.length ≤ 1000000 then .str s else .junk := by simp [V.ofConst]
theorem evO_look (t : Nat) (N : Nat) (g l : List (Nat × Bool × V)) {A B : Prop} : (bindO (evO ⟨N, g, l⟩ (.tmp t)) fun r => match r with | (true, .bool b) => Split b A B | _ => False) = condV (lookT true t l g) A B := by
 rw [← evG_look true t N g l]
 simp only [evG]
 cases evO ⟨N, g, l⟩ (.tmp t) with
 | none => rfl
 | some r =>
  obtain ⟨c, v⟩ := r
  cases c with
  | true => cases v <;> rfl
  | false => rfl
theorem cond_eq (P : Program) (T : Nat → TI) (an : Nat → Nat) (L : List Nat) (ds : List Deferred) (N : Nat) (g l : List (Nat × Bool × V)) (st : St) (Q : VExit → Env → St → Prop) (t : Nat) (x y : Code) :
  vCode P T an L ds (.cond (.tmp t) x y) ⟨N, g, l⟩ st Q = condV (lookT true t l g) (vCode P T an L ds x ⟨N, g, l⟩ st Q) (vCode P T an L ds y ⟨N, g, l⟩ st Q) := evO_look t N g l
theorem guardG_eq (d : Nat) (w : Bool) (g : List (Nat × Bool × V)) : guardG d w g = match find g d with | some (c, .bool b) => some (c && (bif w then b else !b)) | _ => none := by
 induction g with
 | nil => rfl
 | cons y g ih =>
  obtain ⟨k, c, v⟩ := y
  by_cases h : k = d
  ·simp only [guardG, find, if_pos h] <;> (cases v <;> rfl)
  ·simp only [guardG, find, if_neg h]; exact ih
theorem guard_eq (all : List Oper) (N : Nat) (g l : List (Nat × Bool × V)) (j : Nat) (w : Bool) : guardV all.toArray ⟨N, g, l⟩ (some (j, w)) = guardL (dstL all j) w l g := by
 have e : dstAt all.toArray j = dstL all j := by
  simp only [dstAt, List.getElem?_toArray]
  induction all generalizing j with
  | nil => rfl
  | cons o os ih => cases j with | zero => rfl | succ j => simpa [dstL] using ih j
 simp only [guardV, e]
 cases dstL all j with
 | none => cases l <;> rfl
 | some d =>
  simp only [Env.look]
  induction l with
  | nil => simp only [find, guardL, guardG_eq] <;> rfl
  | cons y l ih =>
   obtain ⟨k, c, v⟩ := y
   by_cases h : k = d
   ·simp only [guardL, find, if_pos h] <;> (cases v <;> rfl)
   ·simp only [guardL, find, if_neg h]; exact ih
theorem guardL_cons (w : Bool) (d : Nat) (k : Nat) (c : Bool) (v : V) (l g : List (Nat × Bool × V)) : guardL (some d) w ((k, c, v) :: l) g = if k = d then gbit w c v else guardL (some d) w l g := rfl
theorem guardG_cons (w : Bool) (d : Nat) (k : Nat) (c : Bool) (v : V) (g : List (Nat × Bool × V)) : guardG d w ((k, c, v) :: g) = if k = d then gbit w c v else guardG d w g := rfl
def pureR (r : Option (V × Prop)) (m : Step) : Step := match r with | some (v, side) => .pure v side | none => m
@[congr] theorem pureR_congr {r r' : Option (V × Prop)} {m : Step} (h : r = r') : pureR r m = pureR r' m := by rw [h]
def nilV : V → Step
 | .ref l => .pure (.ref l) True
 | .ptr o f => .pure (.ptr o f) True
 | .eptr e n sz k f => .pure (.eptr e n sz k f) True
 | .fn f c => .pure (.fn f c) (∀ n, f ≠ .method n)
 | .iface t v => .pure (.iface t v) True
 | _ => .fail
theorem step_nilCheck (x : Operand) : stepOp T an dst (.nilCheck x) gc env st = nilV (evG env gc x) := by
 simp only [stepOp, pureStep, pureOp, memStep, memOp, moreOp]
 cases evG env gc x <;> rfl
def notV : V → Step
 | .bool b => .pure (.bool (!b)) True
 | _ => .fail
theorem step_not (t : TypeId) (x : Operand) : stepOp T an dst (.unOp .not t x) gc env st = notV (evG env gc x) := by
 simp only [stepOp, pureStep, pureOp, memStep, memOp, moreOp]
 cases evG env gc x <;> rfl
def negV : V → Step
 | .int k n => .pure (.int k (k.wrap (0 - n))) True
 | _ => .fail
theorem step_neg (t : TypeId) (x : Operand) : stepOp T an dst (.unOp .neg t x) gc env st = negV (evG env gc x) := by
 simp only [stepOp, pureStep, pureOp, memStep, memOp, moreOp]
 cases evG env gc x <;> rfl
def fieldW (T : Nat → TI) (f : Option (Nat × TypeId)) (x : V) : Option (V × Prop) := match f with
      | some (off, ft) => if (T ft).sized = false then none else match x with
       | .ref l => some (.ref (l.drop off), True)
       | .ptr o n => some (.ptr o (n + off), True)
       | .eptr e n sz k f => some (.eptr e n sz k (f + off), True)
       | _ => none
      | none => none
def fieldV (T : Nat → TI) (k : TK) (f : Nat) (x : V) : Option (V × Prop) := match k with
  | .struct fs => fieldW T fs[f]? x
  | _ => none
def fldW (T : Nat → TI) (f : Option (Nat × TypeId)) (l : List V) : Option (V × Prop) := match f with
 | some (off, ft) => if (T ft).sized = false then none else loadV (T ft) (l.drop off)
 | none => none
def fldV (T : Nat → TI) (k : TK) (f : Nat) (x : V) : Option (V × Prop) := match k, x with
  | .struct fs, .agg l => fldW T fs[f]? l
  | _, _ => none
theorem step_field (s : TypeId) (x : Operand) (f : Nat) : stepOp T an dst (.field s x f) gc env st = pureR (fldV T (T s).kind f (evG env gc x)) .fail := by
 simp only [stepOp, pureStep, pureOp, memStep, memOp, moreOp, fldV]
 generalize (T s).kind = k
 generalize evG env gc x = v
 cases k <;> try rfl
 rename_i fs
 simp only
 cases v <;> try (cases fs[f]? <;> rfl)
 simp only [fldW]
 cases fs[f]? with
 | none => rfl
 | some p =>
  obtain ⟨off, ft⟩ := p
  simp only
  by_cases h : (T ft).sized = false
  ·simp only [if_pos h] <;> rfl
  ·simp only [if_neg h, pureR] <;> (generalize loadV _ _ = r; cases r <;> rfl)
def idxB (i : TI) (o n : Nat) (k : Int) (st : St) : Option Ent → Step
 | some (.arr _ sz c) => if i.sized = true ∧ sz = i.size then .mem (.eptr o n sz k.toNat 0) st (n = c.length ∧ 0 ≤ k ∧ k < n) else .fail
 | _ => .fail
def idxS (T : Nat → TI) (k : TK) (x i : V) (st : St) : Step := match k, x, i with
  | .slice e, .lst sz _ l, .int _ n => if (T e).sized = true ∧ sz = (T e).size then .pure (.ref (l.getD n.toNat [])) (0 ≤ n ∧ n < l.length) else .fail
  | .slice e, .arr o n, .int _ k => idxB (T e) o n k st st[o]?
  | _, _, _ => .fail
theorem step_indexAddr (t : TypeId) (x i : Operand) : stepOp T an dst (.indexAddr t x i) gc env st = idxS T (T t).kind (evG env gc x) (evG env gc i) st := by
 simp only [stepOp, pureStep, pureOp, memStep, memOp, moreOp, idxS]
 cases (T t).kind <;> try rfl
 rename_i e
 cases evG env gc x <;> try rfl
 ·rename_i sz tk l
  cases evG env gc i <;> try rfl
  rename_i kk n
  simp only
  by_cases h : (T e).sized = true ∧ sz = (T e).size
  ·simp only [if_pos h]
  ·simp only [if_neg h]
 ·rename_i o n
  cases evG env gc i <;> try rfl
  rename_i kk k
  simp only [idxB]
  cases st[o]? with
  | none => rfl
  | some ent =>
   cases ent with
   | arr et sz c =>
    simp only
    by_cases h : (T e).sized = true ∧ sz = (T e).size
    ·simp only [if_pos h]
    ·simp only [if_neg h]
   | _ => rfl
def convS (r : Option (V × St × Prop)) : Step := match r with | some (v, st, p) => .mem v st p | none => .fail
theorem step_binOp (T : Nat → TI) (an : Nat → Nat) (dst : Option Tmp) (gc : Bool) (env : Env) (st : St) (op : BinOp) (t : TypeId) (x y : Operand) (u : TypeId) : stepOp T an dst (.binOp op t x y u) gc env st = pureR (binV T (T t).kind op (evG env gc x) (evG env gc y)) (convS (nilB st (nilCmp (T t).kind op (nilC y) (evG env gc x) (evG env gc y)) (bitV op (evG env gc x) (evG env gc y)))) := rfl
theorem step_typeAssert (T : Nat → TI) (an : Nat → Nat) (dst : Option Tmp) (gc : Bool) (env : Env) (st : St) (x : Operand) (xt t : TypeId) (ok : Bool) : stepOp T an dst (.typeAssert x xt t ok) gc env st = convS (nilR st (assertV (T t) t ok (evG env gc x))) := rfl
theorem pureR_none (m : Step) : pureR none m = m := rfl
theorem step_convert (src d : TypeId) (x : Operand) : stepOp T an dst (.convert src d x) gc env st = convS (convV T src d (evG env gc x) st) := rfl
def idxV (k : TK) (x i : V) : Option (V × Prop) := match k, x, i with
  | .str, .str s, .int _ n => some (.int .u8 (s.getD n.toNat 0).toNat, 0 ≤ n ∧ n < s.length)
  | _, _, _ => none
def extW : Option V → Step
 | some v => .pure v True
 | none => .fail
def extV (i : Nat) : V → Step
 | .tup l => extW l[i]?
 | _ => .fail
theorem step_extract (x : Operand) (i : Nat) : stepOp T an dst (.extract x i) gc env st = extV i (evG env gc x) := by
 simp only [stepOp, pureStep, pureOp, memStep, memOp, moreOp, extV]
 cases evG env gc x <;> try rfl
 rename_i l
 simp only
 cases l[i]? <;> rfl
def buildV (T : Nat → TI) (i : TI) (parts : List (Nat × V)) : Option (V × Prop) := match i.kind with
  | .struct fs => if (fs.all fun p => (T p.2).known) = false then none else (fillV T fs i.zero parts).map fun l => (.agg l, True)
  | _ => none
theorem step_build (t : TypeId) (parts : List (Nat × Operand)) : stepOp T an dst (.build t parts.toArray) gc env st = pureR (buildV T (T t) (parts.map fun p => (p.1, evG env gc p.2))) .fail := rfl
def mkIface (i : TI) (t : TypeId) (x : V) : Option (V × Prop) := match i.kind with | .iface => none | .other => none | _ => if i.sized = false then none else some (.iface t x, True)
theorem step_makeInterface (t : TypeId) (x : Operand) : stepOp T an dst (.makeInterface t x) gc env st = pureR (mkIface (T t) t (evG env gc x)) .fail := rfl
def loadN (st : St) (n k m : Nat) : Option (V × Prop) → Step
 | some (v, p) => .mem v st (p ∧ n = m ∧ k < n)
 | none => .fail
def loadM (st : St) : Option (V × Prop) → Step
 | some (v, p) => .mem v st p
 | none => .fail
def loadB (i : TI) (n : Nat) (st : St) : Option Ent → Step
 | some (.box c) => if i.known then loadM st (loadV i (c.drop n)) else .fail
 | _ => .fail
def loadE (i : TI) (n sz k off : Nat) (st : St) : Option Ent → Step
 | some (.arr _ sz' c) => if i.known = true ∧ sz' = sz then loadN st n k c.length (loadV i ((c.getD k []).drop off)) else .fail
 | _ => .fail
def loadS (T : Nat → TI) (t : TypeId) (st : St) : V → Step
 | .eptr o n sz k off => loadE (T t) n sz k off st st[o]?
 | .ref l => if (T t).sized = false then .fail else pureR (loadV (T t) l) .fail
 | .ptr o n => loadB (T t) n st st[o]?
 | _ => .fail
theorem loadS_ptr (T : Nat → TI) (t : TypeId) (st : St) (o n : Nat) : loadS T t st (.ptr o n) = loadB (T t) n st st[o]? := rfl
theorem step_load (t : TypeId) (x : Operand) : stepOp T an dst (.load t x) gc env st = loadS T t st (evG env gc x) := by
 simp only [stepOp, pureStep, pureOp, memStep, memOp, moreOp, loadS]
 generalize evG env gc x = v
 cases v with
 | ref l =>
  by_cases h : (T t).sized = false
  ·simp only [if_pos h]
  ·simp only [if_neg h]
   cases loadV (T t) l <;> rfl
 | ptr o n =>
  simp only [loadB]
  cases st[o]? with
  | none => rfl
  | some e =>
   cases e with
   | box c =>
    simp only
    by_cases h : (T t).known = true
    ·simp only [if_pos h]
     cases loadV (T t) (c.drop n) <;> rfl
    ·simp only [if_neg h]
   | _ => rfl
 | eptr o n sz k off =>
  simp only [loadE]
  cases st[o]? with
  | none => rfl
  | some e =>
   cases e with
   | arr et sz' c =>
    simp only
    by_cases h : (T t).known = true ∧ sz' = sz
    ·simp only [if_pos h]
     cases loadV (T t) ((c.getD k []).drop off) <;> rfl
    ·simp only [if_neg h]
   | _ => rfl
 | _ => rfl
def addrS (t k : Nat) (st : St) : List V → Step
 | .nilp :: r => .mem (.ptr st.length 0) (st ++ [.box (.addr st.length t k :: r)]) True
 | _ => .fail
def allocS (t : TypeId) (i : TI) (mode : Nat) (st : St) : Step := if i.known then match mode with
 | 0 => .mem (.ptr st.length 0) (st ++ [.box i.zero]) True
 | 5 => addrS t i.size st i.zero
 | _ => .mem (.ref i.zero) st True
 else .fail
theorem step_alloc (t : TypeId) : stepOp T an dst (.alloc t) gc env st = allocS t (T t) (an (dst.getD 0)) st := by
 simp only [stepOp, pureStep, pureOp, memStep, memOp, moreOp, allocS]
 by_cases h : (T t).known = true
 ·simp only [if_pos h]
  match an (dst.getD 0) with
  | 0 | 1 | 2 | 3 | 4 => rfl
  | 5 =>
   simp only []
   generalize (T t).zero = z
   cases z with
   | nil => rfl
   | cons a r => cases a <;> rfl
  | _ + 6 => rfl
 ·simp only [if_neg h]
def boxS (t mode : Nat) (x : Option (List V)) (st : St) : Step := match mode, x with
 | 0, some l => .mem (.ptr st.length 0) (st ++ [.box l]) True
 | 5, some l => addrS t (l.length) st l
 | _, some l => .mem (.ref l) st True
 | _, none => .fail
theorem step_box (t : TypeId) (x : Operand) : stepOp T an dst (.box t x) gc env st = boxS t (an (dst.getD 0)) (V.cells (evG env gc x)) st := by
 simp only [stepOp, pureStep, pureOp, memStep, memOp, moreOp]
 cases V.cells (evG env gc x) with
 | none =>
  match an (dst.getD 0) with
  | 0 | 1 | 2 | 3 | 4 | 5 => rfl
  | _ + 6 => rfl
 | some l =>
  match an (dst.getD 0) with
  | 0 | 1 | 2 | 3 | 4 => rfl
  | 5 =>
   cases l with
   | nil => rfl
   | cons a r => cases a <;> rfl
  | _ + 6 => rfl
def storeB (i : TI) (st : St) (o n : Nat) (l : List V) : Option Ent → Step
 | some (.box c) => if i.known ∧ l.length = i.size then .mem .junk (st.set o (.box (c.take n ++ l ++ c.drop (n + l.length)))) (n + l.length ≤ c.length) else .fail
 | _ => .fail
def storeE (i : TI) (st : St) (o n sz k off : Nat) (l : List V) : Option Ent → Step
 | some (.arr e sz' c) => if i.known = true ∧ l.length = i.size ∧ sz' = sz then .mem .junk (st.set o (.arr e sz (c.set k ((c.getD k []).take off ++ l ++ (c.getD k []).drop (off + l.length))))) (n = c.length ∧ k < n ∧ off + l.length ≤ sz) else .fail
 | _ => .fail
def storeS (i : TI) (st : St) (a : V) (x : Option (List V)) : Step := match a, x with
 | .eptr o n sz k off, some l => storeE i st o n sz k off l st[o]?
 | .ptr o n, some l => storeB i st o n l st[o]?
 | _, _ => .fail
theorem step_store (t : TypeId) (a x : Operand) : stepOp T an dst (.store t a x) gc env st = storeS (T t) st (evG env gc a) (V.cells (evG env gc x)) := by
 simp only [stepOp, pureStep, pureOp, memStep, memOp, moreOp, storeS]
 cases evG env gc a <;> try (cases V.cells (evG env gc x) <;> rfl)
 ·rename_i o n sz k off
  simp only
  cases hx : V.cells (evG env gc x) with
  | none => cases st[o]? <;> try rfl
            rename_i e; cases e <;> rfl
  | some l =>
   simp only [storeE]
   cases st[o]? with
   | none => rfl
   | some e =>
    cases e with
    | arr et sz' c =>
     simp only
     by_cases h : (T t).known = true ∧ l.length = (T t).size ∧ sz' = sz
     ·simp only [if_pos h]
     ·simp only [if_neg h]
    | _ => rfl
 ·rename_i o n
  simp only
  cases hx : V.cells (evG env gc x) with
  | none => cases st[o]? <;> try rfl
            rename_i e; cases e <;> rfl
  | some l =>
   simp only [storeB]
   cases st[o]? with
   | none => rfl
   | some e =>
    cases e with
    | box c =>
     simp only
     by_cases h : (T t).known = true ∧ l.length = (T t).size
     ·simp only [if_pos h]
     ·simp only [if_neg h]
    | _ => rfl
def litM (e : TypeId) (sz n : Nat) (mode : Nat) (st : St) : Option (List (List V)) → Step
 | some rows => match mode with
  | 0 => .pure (.lst sz none rows) True
  | 1 => .mem (.lst sz (some st.length) rows) (st ++ [.tip e n]) True
  | _ => .mem (.arr st.length n) (st ++ [.arr e sz rows]) True
 | none => .fail
def litR (i : TI) (n : Nat) (parts : List (Nat × V)) : Option (List (List V)) := litRows i n parts.reverse
def litS (T : Nat → TI) (mode n : Nat) (st : St) (k : TK) (parts : List (Nat × V)) : Step := match k with
 | .slice e => if (T e).sized ∧ n * (T e).size ≤ 16777216 then litM e (T e).size n mode st (litR (T e) n parts) else .fail
 | _ => .fail
theorem step_buildSlice (t : TypeId) (n : Nat) (parts : List (Nat × Operand)) : stepOp T an dst (.buildSlice t n parts.toArray) gc env st = litS T (an (dst.getD 0)) n st (T t).kind (parts.map fun p => (p.1, evG env gc p.2)) := by
 simp only [stepOp, pureStep, pureOp, memStep, memOp, moreOp, litS, litR, List.map_reverse]
 cases (T t).kind <;> try (simp only [toPure, Bool.cond_self])
 rename_i e
 by_cases h : (T e).sized = true ∧ n * (T e).size ≤ 16777216
 ·simp only [if_pos h]
  cases litRows (T e) n (parts.map fun p => (p.1, evG env gc p.2)).reverse with
  | none => simp only [Bool.cond_self, litM]
  | some rows =>
   simp only [litM]
   match an (dst.getD 0) with
   | 0 => rfl
   | 1 => rfl
   | _ + 2 => rfl
 ·simp only [if_neg h, Bool.cond_self]
def makeS (T : Nat → TI) (st : St) : TK → V → V → Step
 | .slice e, .int _ n, .int _ m => if (T e).sized = true then .mem (.arr st.length n.toNat) (st ++ [.arr e (T e).size (List.replicate n.toNat (T e).zero)]) (n = m ∧ 0 ≤ n ∧ n ≤ 100000000000000 ∧ n * (T e).bytes ≤ 100000000000000) else .fail
 | _, _, _ => .fail
theorem step_makeSlice (t : TypeId) (x y : Operand) : stepOp T an dst (.makeSlice t x y) gc env st = makeS T st (T t).kind (evG env gc x) (evG env gc y) := by
 simp only [stepOp, pureStep, pureOp, memStep, memOp, moreOp]
 cases (T t).kind <;> try rfl
 rename_i e
 cases evG env gc x <;> try rfl
 cases evG env gc y <;> try rfl
 simp only [makeS]
 by_cases h : (T e).sized = true
 ·simp only [if_pos h]
 ·simp only [if_neg h]
def sliS (k : Nat) (a b : Step) : Step := bif k == 3 then b else a
def callS (f : V) (args : List V) : Step := match f with
 | .fn (.func k) cap => .call k (args ++ cap)
 | _ => .fail
theorem step_call (f : Operand) (args : List Operand) (ts : Array TypeId) : stepOp T an dst (.call ⟨.value f, args.toArray, ts⟩) gc env st = callS (evG env gc f) (args.map (evG env gc)) := by
 simp only [stepOp, callS] <;> (cases evG env gc f <;> rfl)
def memA : Option (V × St × Prop) → Step
 | some (v, st', side) => .mem v st' side
 | none => .fail
def appS (T : Nat → TI) (mode : Nat) (k kx : TK) (s x : V) (st : St) : Step := match k with
 | .slice e => match kx with
  | .slice _ | .str => if (T e).sized ∧ (T e).bytes ≠ 0 then match rowsOf (T e).size x with
    | some m => memA (appendV mode e (T e) s m st)
    | none => .fail else .fail
  | _ => .fail
 | _ => .fail
def builtS (T : Nat → TI) (mode : Nat) (b : Builtin) (args : List V) (ts : List TypeId) (st : St) : Step := match b with
 | .append => match args, ts with
  | [s, x], [t, xt] => appS T mode (T t).kind (T xt).kind s x st
  | _, _ => .fail
 | .len => pureR (builtinV T .len args ts) (convS (mapLen T args ts st))
 | b => pureR (builtinV T b args ts) .fail
theorem step_builtin (b : Builtin) (args : List Operand) (ts : List TypeId) : stepOp T an dst (.call ⟨.builtin b, args.toArray, ts.toArray⟩) gc env st = builtS T (an (dst.getD 0)) b (args.map (evG env gc)) ts st := by
 simp only [stepOp, pureStep, pureOp, memStep, builtS]
 cases b with
 | append =>
  simp only [builtinV, memOp]
  generalize args.map (evG env gc) = vs
  match vs, ts with
  | [], _ => rfl
  | [_], _ => rfl
  | [_, _], [] => rfl
  | [_, _], [_] => rfl
  | [s, x], [t, xt] =>
   simp only [appS]
   cases (T t).kind <;> try (cases (T xt).kind <;> rfl)
   rename_i e
   cases (T xt).kind <;> try rfl
   all_goals
    simp only
    by_cases h : (T e).sized = true ∧ (T e).bytes ≠ 0
    ·simp only [if_pos h]
     cases rowsOf (T e).size x with
     | none => rfl
     | some m =>
      simp only
      cases appendV (an (dst.getD 0)) e (T e) s m st <;> rfl
    ·simp only [if_neg h] <;> (rfl)
  | [_, _], _ :: _ :: _ :: _ => rfl
  | _ :: _ :: _ :: _, _ => rfl
 | len =>
  simp only [memOp, moreOp]
  generalize builtinV T _ _ _ = r
  cases r with
  | some r => rfl
  | none =>
   simp only [pureR]
   generalize hm : mapLen T _ _ st = q
   have : mapLen T (List.map (evG env gc) args.toArray.toList) ts.toArray.toList st = q := hm
   cases q <;> rfl
 | _ =>
  all_goals
   simp only [memOp]
   generalize builtinV T _ _ _ = r
   cases r <;> rfl
end
end Go.Proofs.YtpllcpbhjglpaaaGreatDoor.Gw
namespace Go.Proofs.YtpllcpbhjglpaaaGreatDoor.Gw
open Go
inductive Kont where
 | done
 | seq (c : Code) (k : Kont)
 | block (id : Nat) (k : Kont)
section
variable (P : Program) (T : Nat → TI) (an : Nat → Nat) (L : List Nat) (ds : List Deferred)
def qK : Kont → (VExit → Env → St → Prop) → VExit → Env → St → Prop
 | .done, Q => Q
 | .seq c k, Q => vSeq (fun env st => vCode P T an L ds c env st (qK k Q)) (qK k Q)
 | .block id k, Q => vBlock id (qK k Q)
def cK (c : Code) (env : Env) (st : St) (k : Kont) (Q : VExit → Env → St → Prop) : Prop := vCode P T an L ds c env st (qK P T an L ds k Q)
def oK (all : Array Oper) (os : List Oper) (env : Env) (st : St) (k : Kont) (Q : VExit → Env → St → Prop) : Prop := vOps P T an L all os env st (qK P T an L ds k Q)
def rK (r : Step) (gc guarded : Bool) (dst : Option Tmp) (all : Array Oper) (os : List Oper) (env : Env) (st : St) (k : Kont) (Q : VExit → Env → St → Prop) : Prop :=
 runStep P T r gc guarded env st (fun v st' => vOps P T an L all os (env.put L dst gc v) st' (qK P T an L ds k Q)) (qK P T an L ds k Q)
def gK (g : Option Bool) (dst : Option Tmp) (op : Op) (guarded : Bool) (all : Array Oper) (os : List Oper) (env : Env) (st : St) (k : Kont) (Q : VExit → Env → St → Prop) : Prop :=
 match g with
 | some gc => okDstB env.N dst ∧ rK P T an L ds (stepOp T an dst op gc env st) gc guarded dst all os env st k Q
 | none => False
def aK (dst : Option Tmp) (gc : Bool) (all : Array Oper) (os : List Oper) (env : Env) (k : Kont) (Q : VExit → Env → St → Prop) : VEnd → St → Prop :=
 afterCall env (fun v st' => vOps P T an L all os (env.put L dst gc v) st' (qK P T an L ds k Q)) (qK P T an L ds k Q)
def iK (v : V) (x y : Code) (env : Env) (st : St) (k : Kont) (Q : VExit → Env → St → Prop) : Prop :=
 condV v (cK P T an L ds x env st k Q) (cK P T an L ds y env st k Q)
variable {P T an L ds}
theorem iK_split {t : Bool} {x y : Code} {env : Env} {st : St} {k : Kont} {Q : VExit → Env → St → Prop} (h1 : t = true → cK P T an L ds x env st k Q) (h2 : t = false → cK P T an L ds y env st k Q) : iK P T an L ds (.bool t) x y env st k Q := ⟨h1, h2⟩
/-- A call under a guard: what it gives, where it is made. -/
theorem rK_guarded {f : FuncId} {args : List V} {gc : Bool} {dst : Option Tmp} {all : Array Oper} {os : List Oper} {env : Env} {st : St} {k : Kont} {Q : VExit → Env → St → Prop} (v : V)
  (h : gc = true → VCalls P T f args st fun r st' => r = .ret v ∧ st' = st) (h2 : oK P T an L ds all os (env.put L dst gc v) st k Q) : rK P T an L ds (.call f args) gc true dst all os env st k Q := .inr ⟨v, st, h, fun _ => rfl, h2⟩
/-- A call under a guard that holds. -/
theorem rK_made {f : FuncId} {args args' : List V} {dst : Option Tmp} {all : Array Oper} {os : List Oper} {env : Env} {st st2 : St} {k : Kont} {Q : VExit → Env → St → Prop} {v : V}
  (h : VCalls P T f args' st fun r st' => r = .ret v ∧ st' = st2) (hw : wkL args args') (h2 : oK P T an L ds all os (env.put L dst true v) st2 k Q) : rK P T an L ds (.call f args) true true dst all os env st k Q := .inr ⟨v, st2, fun _ => h.args hw, fun e => (by cases e), h2⟩
/-- A call under a guard that holds, whatever it comes to. -/
theorem rK_go {f : FuncId} {args : List V} {dst : Option Tmp} {all : Array Oper} {os : List Oper} {env : Env} {st : St} {k : Kont} {Q : VExit → Env → St → Prop}
  (h : VCalls P T f args st (aK P T an L ds dst true all os env k Q)) : rK P T an L ds (.call f args) true true dst all os env st k Q := .inl ⟨rfl, h⟩
/-- A call under a guard that does not hold. -/
theorem rK_not {f : FuncId} {args : List V} {dst : Option Tmp} {all : Array Oper} {os : List Oper} {env : Env} {st : St} {k : Kont} {Q : VExit → Env → St → Prop} (v : V)
  (h2 : oK P T an L ds all os (env.put L dst false v) st k Q) : rK P T an L ds (.call f args) false true dst all os env st k Q := .inr ⟨v, st, fun e => (by cases e), fun _ => rfl, h2⟩
/-- A call. -/
theorem VCalls.use {f : FuncId} {args args' : List V} {st st' : St} {X : V} {dst : Option Tmp} {gc : Bool} {all : Array Oper} {os : List Oper} {env : Env} {k : Kont} {Q : VExit → Env → St → Prop}
  (h : VCalls P T f args' st fun r s => r = .ret X ∧ s = st') (hw : wkL args args') (h2 : X.fit → oK P T an L ds all os (env.put L dst gc X) st' k Q) : VCalls P T f args st (aK P T an L ds dst gc all os env k Q) :=
 (h.args hw).monoF fun r s hf ⟨e1, e2⟩ => by subst e1; subst e2; exact h2 hf
/-- A function, by its body's condition. -/
theorem vfun (hT : Tab P T) {f : FuncId} {fn : Func} {c : Code} (hf : P.funcs[f]? = some fn) (hb : fn.body = some c) (hnm : (fn.name == "runtime.NumGoroutine") = false) {rs : List ResultVar} (hrs : fn.results.toList = rs) {N : Nat} (hN : fn.ntmps = N)
  {args : List V} (hl : Nat.ble args.length N = true) (hL : (List.range args.length).all (memN L) = true) {st st' : St} {X : V} (hn : st.length ≤ st'.length)
  (h : St.ok st → ltL st.length args → fitL args → cK P T an L [] c ⟨N, initG 0 args, []⟩ st .done (vRet T rs (Gives X st'))) : VCalls P T f args st fun r s => r = .ret X ∧ s = st' :=
 VCalls.give (vcalls hT hf hb hnm hrs hN (Nat.le_of_ble_eq_true hl) hL h) hn
/-- A function, by its body's condition, whatever it comes to. -/
theorem vfunQ (hT : Tab P T) {f : FuncId} {fn : Func} {c : Code} (hf : P.funcs[f]? = some fn) (hb : fn.body = some c) (hnm : (fn.name == "runtime.NumGoroutine") = false) {rs : List ResultVar} (hrs : fn.results.toList = rs) {N : Nat} (hN : fn.ntmps = N)
  {args : List V} (hl : Nat.ble args.length N = true) (hL : (List.range args.length).all (memN L) = true) {st : St} {Q : VEnd → St → Prop}
  (h : St.ok st → ltL st.length args → fitL args → cK P T an L [] c ⟨N, initG 0 args, []⟩ st .done (vRet T rs Q)) : VCalls P T f args st Q :=
 vcalls hT hf hb hnm hrs hN (Nat.le_of_ble_eq_true hl) hL h
end
theorem gwB :
  (∀ (P : Program) (T : Nat → TI) (an : Nat → Nat) (L : List Nat) (ds : List Deferred) (env : Env) (st : St) (k : Kont) (Q : VExit → Env → St → Prop), cK P T an L ds .skip env st k Q = qK P T an L ds k Q .normal env st) ∧
  (∀ (P : Program) (T : Nat → TI) (an : Nat → Nat) (L : List Nat) (ds : List Deferred) (env : Env) (st : St) (k : Kont) (Q : VExit → Env → St → Prop) (id : Nat), cK P T an L ds (.exit id) env st k Q = qK P T an L ds k Q (.exit id) env st) ∧
  (∀ (P : Program) (T : Nat → TI) (an : Nat → Nat) (L : List Nat) (ds : List Deferred) (env : Env) (st : St) (k : Kont) (Q : VExit → Env → St → Prop), cK P T an L ds .ret env st k Q = qK P T an L ds k Q .ret env st) ∧
  (∀ (P : Program) (T : Nat → TI) (an : Nat → Nat) (L : List Nat) (ds : List Deferred) (env : Env) (st : St) (k : Kont) (Q : VExit → Env → St → Prop) (c : Code), cK P T an L ds (.loop c) env st k Q = VC P T L ds (.loop c) env st (qK P T an L ds k Q)) ∧
  (∀ (P : Program) (T : Nat → TI) (an : Nat → Nat) (L : List Nat) (ds : List Deferred) (env : Env) (st : St) (k : Kont) (Q : VExit → Env → St → Prop) (id : Nat) (ops : Array Oper), cK P T an L ds (.region id ops true) env st k Q = VC P T L ds (.region id ops true) env st (qK P T an L ds k Q)) ∧
  (∀ (P : Program) (T : Nat → TI) (an : Nat → Nat) (L : List Nat) (ds : List Deferred) (env : Env) (st : St) (k : Kont) (Q : VExit → Env → St → Prop) (a b : Code), cK P T an L ds (.seq a b) env st k Q = cK P T an L ds a env st (.seq b k) Q) ∧
  (∀ (P : Program) (T : Nat → TI) (an : Nat → Nat) (L : List Nat) (ds : List Deferred) (env : Env) (st : St) (k : Kont) (Q : VExit → Env → St → Prop) (id : Nat) (c : Code), cK P T an L ds (.block id c) env st k Q = cK P T an L ds c env st (.block id k) Q) ∧
  (∀ (P : Program) (T : Nat → TI) (an : Nat → Nat) (L : List Nat) (ds : List Deferred) (N : Nat) (g l : List (Nat × Bool × V)) (st : St) (k : Kont) (Q : VExit → Env → St → Prop) (id : Nat) (ops : List Oper), cK P T an L ds (.region id ops.toArray false) ⟨N, g, l⟩ st k Q = oK P T an L ds ops.toArray ops ⟨N, g, []⟩ st k Q) ∧
  (∀ (P : Program) (T : Nat → TI) (an : Nat → Nat) (L : List Nat) (ds : List Deferred) (N : Nat) (g l : List (Nat × Bool × V)) (st : St) (k : Kont) (Q : VExit → Env → St → Prop) (t : Nat) (x y : Code), cK P T an L ds (.cond (.tmp t) x y) ⟨N, g, l⟩ st k Q = iK P T an L ds (lookT true t l g) x y ⟨N, g, l⟩ st k Q) ∧
  (∀ (P : Program) (T : Nat → TI) (an : Nat → Nat) (L : List Nat) (ds : List Deferred) (env : Env) (st : St) (k : Kont) (Q : VExit → Env → St → Prop) (x y : Code), iK P T an L ds (.bool true) x y env st k Q = cK P T an L ds x env st k Q) ∧
  (∀ (P : Program) (T : Nat → TI) (an : Nat → Nat) (L : List Nat) (ds : List Deferred) (env : Env) (st : St) (k : Kont) (Q : VExit → Env → St → Prop) (x y : Code), iK P T an L ds (.bool false) x y env st k Q = cK P T an L ds y env st k Q) ∧
  (∀ (P : Program) (T : Nat → TI) (an : Nat → Nat) (L : List Nat) (ds : List Deferred) (env : Env) (st : St) (k : Kont) (Q : VExit → Env → St → Prop) (all : Array Oper), oK P T an L ds all [] env st k Q = qK P T an L ds k Q .normal env st) ∧
  (∀ (P : Program) (T : Nat → TI) (an : Nat → Nat) (L : List Nat) (ds : List Deferred) (env : Env) (st : St) (k : Kont) (Q : VExit → Env → St → Prop) (all : Array Oper) (dst : Option Tmp) (op : Op) (ty : TypeId) (pos : String) (aft : Array Edge) (os : List Oper), oK P T an L ds all (⟨dst, op, ty, pos, aft, none⟩ :: os) env st k Q = (okDstB env.N dst ∧ rK P T an L ds (stepOp T an dst op true env st) true false dst all os env st k Q)) ∧
  (∀ (P : Program) (T : Nat → TI) (an : Nat → Nat) (L : List Nat) (ds : List Deferred) (env : Env) (st : St) (k : Kont) (Q : VExit → Env → St → Prop) (all : Array Oper) (dst : Option Tmp) (op : Op) (ty : TypeId) (pos : String) (aft : Array Edge) (gd : Nat × Bool) (os : List Oper), oK P T an L ds all (⟨dst, op, ty, pos, aft, some gd⟩ :: os) env st k Q = gK P T an L ds (guardV all env (some gd)) dst op true all os env st k Q) ∧
  (∀ (P : Program) (T : Nat → TI) (an : Nat → Nat) (L : List Nat) (ds : List Deferred) (env : Env) (st : St) (k : Kont) (Q : VExit → Env → St → Prop) (all : Array Oper) (dst : Option Tmp) (op : Op) (os : List Oper) (gc b : Bool), gK P T an L ds (some gc) dst op b all os env st k Q = (okDstB env.N dst ∧ rK P T an L ds (stepOp T an dst op gc env st) gc b dst all os env st k Q)) ∧
  (∀ (P : Program) (T : Nat → TI) (an : Nat → Nat) (L : List Nat) (ds : List Deferred) (env : Env) (st : St) (k : Kont) (Q : VExit → Env → St → Prop) (all : Array Oper) (dst : Option Tmp) (os : List Oper) (gc b : Bool) (v : V) (side : Prop), rK P T an L ds (.pure v side) gc b dst all os env st k Q = ((gc = true → side) ∧ oK P T an L ds all os (env.put L dst gc v) st k Q)) ∧
  (∀ (P : Program) (T : Nat → TI) (an : Nat → Nat) (L : List Nat) (ds : List Deferred) (env : Env) (st : St) (k : Kont) (Q : VExit → Env → St → Prop) (all : Array Oper) (dst : Option Tmp) (os : List Oper) (b : Bool) (v : V) (st' : St) (side : Prop), rK P T an L ds (.mem v st' side) true b dst all os env st k Q = ((true = true → side) ∧ oK P T an L ds all os (env.put L dst true v) st' k Q)) ∧
  (∀ (P : Program) (T : Nat → TI) (an : Nat → Nat) (L : List Nat) (ds : List Deferred) (env : Env) (st : St) (k : Kont) (Q : VExit → Env → St → Prop) (all : Array Oper) (dst : Option Tmp) (os : List Oper) (b : Bool) (v : V) (st' : St) (side : Prop), rK P T an L ds (.mem v st' side) false b dst all os env st k Q = ((false = true → side) ∧ oK P T an L ds all os (env.put L dst false v) st k Q)) ∧
  (∀ (P : Program) (T : Nat → TI) (an : Nat → Nat) (L : List Nat) (ds : List Deferred) (env : Env) (st : St) (k : Kont) (Q : VExit → Env → St → Prop) (all : Array Oper) (dst : Option Tmp) (os : List Oper) (gc b : Bool) (v : V) (side : Prop), rK P T an L ds (.mem v st side) gc b dst all os env st k Q = ((gc = true → side) ∧ oK P T an L ds all os (env.put L dst gc v) st k Q)) ∧
  (∀ (P : Program) (T : Nat → TI) (an : Nat → Nat) (L : List Nat) (ds : List Deferred) (env : Env) (st : St) (k : Kont) (Q : VExit → Env → St → Prop) (all : Array Oper) (dst : Option Tmp) (os : List Oper) (b : Bool), rK P T an L ds .fail false b dst all os env st k Q = (false = false ∧ oK P T an L ds all os (env.put L dst false .junk) st k Q)) ∧
  (∀ (P : Program) (T : Nat → TI) (an : Nat → Nat) (L : List Nat) (ds : List Deferred) (env : Env) (st : St) (k : Kont) (Q : VExit → Env → St → Prop) (all : Array Oper) (dst : Option Tmp) (os : List Oper) (gc : Bool) (f : FuncId) (args : List V), rK P T an L ds (.call f args) gc false dst all os env st k Q = (gc = true ∧ VCalls P T f args st (aK P T an L ds dst gc all os env k Q))) ∧
  (∀ (P : Program) (T : Nat → TI) (an : Nat → Nat) (L : List Nat) (ds : List Deferred) (env : Env) (st : St) (k : Kont) (Q : VExit → Env → St → Prop) (all : Array Oper) (dst : Option Tmp) (os : List Oper) (gc b : Bool) (t : TypeId) (x : V), rK P T an L ds (.panic (.iface t x)) gc b dst all os env st k Q = (gc = true ∧ qK P T an L ds k Q (.panic (.iface t x)) env st)) ∧
  (∀ (P : Program) (T : Nat → TI) (an : Nat → Nat) (L : List Nat) (ds : List Deferred) (env : Env) (st : St) (k : Kont) (Q : VExit → Env → St → Prop) (all : Array Oper) (dst : Option Tmp) (os : List Oper) (gc b : Bool) (l : List (V × St)), rK P T an L ds (.any l) gc b dst all os env st k Q = (gc = true ∧ ∀ p ∈ l, oK P T an L ds all os (env.put L dst gc p.1) p.2 k Q)) ∧
  (∀ (P : Program) (T : Nat → TI) (an : Nat → Nat) (L : List Nat) (ds : List Deferred) (env : Env) (k : Kont) (Q : VExit → Env → St → Prop) (all : Array Oper) (dst : Option Tmp) (os : List Oper) (gc : Bool) (v : V) (st : St), aK P T an L ds dst gc all os env k Q (.ret v) st = oK P T an L ds all os (env.put L dst gc v) st k Q) ∧
  (∀ (P : Program) (T : Nat → TI) (an : Nat → Nat) (L : List Nat) (ds : List Deferred) (env : Env) (k : Kont) (Q : VExit → Env → St → Prop) (all : Array Oper) (dst : Option Tmp) (os : List Oper) (gc : Bool) (v : V) (st : St), aK P T an L ds dst gc all os env k Q (.panic v) st = qK P T an L ds k Q (.panic v) env st) ∧
  (∀ (P : Program) (T : Nat → TI) (an : Nat → Nat) (L : List Nat) (ds : List Deferred) (env : Env) (st : St) (Q : VExit → Env → St → Prop) (e : VExit), qK P T an L ds .done Q e env st = Q e env st) ∧
  (∀ (P : Program) (T : Nat → TI) (an : Nat → Nat) (L : List Nat) (ds : List Deferred) (env : Env) (st : St) (k : Kont) (Q : VExit → Env → St → Prop) (c : Code), qK P T an L ds (.seq c k) Q .normal env st = cK P T an L ds c env st k Q) ∧
  (∀ (P : Program) (T : Nat → TI) (an : Nat → Nat) (L : List Nat) (ds : List Deferred) (env : Env) (st : St) (k : Kont) (Q : VExit → Env → St → Prop) (c : Code) (id : Nat), qK P T an L ds (.seq c k) Q (.exit id) env st = qK P T an L ds k Q (.exit id) env st) ∧
  (∀ (P : Program) (T : Nat → TI) (an : Nat → Nat) (L : List Nat) (ds : List Deferred) (env : Env) (st : St) (k : Kont) (Q : VExit → Env → St → Prop) (c : Code), qK P T an L ds (.seq c k) Q .ret env st = qK P T an L ds k Q .ret env st) ∧
  (∀ (P : Program) (T : Nat → TI) (an : Nat → Nat) (L : List Nat) (ds : List Deferred) (env : Env) (st : St) (k : Kont) (Q : VExit → Env → St → Prop) (c : Code) (v : V), qK P T an L ds (.seq c k) Q (.panic v) env st = qK P T an L ds k Q (.panic v) env st) ∧
  (∀ (P : Program) (T : Nat → TI) (an : Nat → Nat) (L : List Nat) (ds : List Deferred) (env : Env) (st : St) (k : Kont) (Q : VExit → Env → St → Prop) (id : Nat), qK P T an L ds (.block id k) Q .normal env st = qK P T an L ds k Q .normal env st) ∧
  (∀ (P : Program) (T : Nat → TI) (an : Nat → Nat) (L : List Nat) (ds : List Deferred) (env : Env) (st : St) (k : Kont) (Q : VExit → Env → St → Prop) (id i : Nat), qK P T an L ds (.block id k) Q (.exit i) env st = if i = id then qK P T an L ds k Q .normal env st else qK P T an L ds k Q (.exit i) env st) ∧
  (∀ (P : Program) (T : Nat → TI) (an : Nat → Nat) (L : List Nat) (ds : List Deferred) (env : Env) (st : St) (k : Kont) (Q : VExit → Env → St → Prop) (id : Nat), qK P T an L ds (.block id k) Q .ret env st = qK P T an L ds k Q .ret env st) ∧
  (∀ (P : Program) (T : Nat → TI) (an : Nat → Nat) (L : List Nat) (ds : List Deferred) (env : Env) (st : St) (k : Kont) (Q : VExit → Env → St → Prop) (id : Nat) (v : V), qK P T an L ds (.block id k) Q (.panic v) env st = qK P T an L ds k Q (.panic v) env st) ∧
  (∀ (k : Env → St → Prop) (Q : VExit → Env → St → Prop) (env : Env) (st : St), vSeq k Q .normal env st = k env st) ∧
  (∀ (k : Env → St → Prop) (Q : VExit → Env → St → Prop) (env : Env) (st : St) (i : Nat), vSeq k Q (.exit i) env st = Q (.exit i) env st) ∧
  (∀ (k : Env → St → Prop) (Q : VExit → Env → St → Prop) (env : Env) (st : St), vSeq k Q .ret env st = Q .ret env st) ∧
  (∀ (k : Env → St → Prop) (Q : VExit → Env → St → Prop) (env : Env) (st : St) (v : V), vSeq k Q (.panic v) env st = Q (.panic v) env st) ∧
  (∀ (T : Nat → TI) (rs : List ResultVar) (Q : VEnd → St → Prop) (env : Env) (st : St), vRet T rs Q .normal env st = bindO (resV T env st rs) fun r => r.2 ∧ Q (.ret (tupV r.1)) st) ∧
  (∀ (T : Nat → TI) (rs : List ResultVar) (Q : VEnd → St → Prop) (env : Env) (st : St), vRet T rs Q .ret env st = bindO (resV T env st rs) fun r => r.2 ∧ Q (.ret (tupV r.1)) st) ∧
  (∀ (T : Nat → TI) (rs : List ResultVar) (Q : VEnd → St → Prop) (env : Env) (st : St) (v : V), vRet T rs Q (.panic v) env st = Q (.panic v) st) ∧
  (∀ {α : Type} (a : α) (k : α → Prop), bindO (some a) k = k a) := by
 refine ⟨?_, ?_, ?_, ?_, ?_, ?_, ?_, ?_, ?_, ?_, ?_, ?_, ?_, ?_, ?_, ?_, ?_, ?_, ?_, ?_, ?_, ?_, ?_, ?_, ?_, ?_, ?_, ?_, ?_, ?_, ?_, ?_, ?_, ?_, ?_, ?_, ?_, ?_, ?_, ?_, ?_, ?_⟩ <;> intros <;> first
  | rfl
  | (rename_i gc _ _ _ ; cases gc <;> rfl)
  | exact cond_eq _ _ _ _ _ _ _ _ _ _ _ _ _
  | exact runStep_panic _ _ _ _ _ _ _ _ _ _
  | (simp only [oK, gK, vOps, bindO]; generalize guardV _ _ _ = r; cases r <;> rfl)
  | (simp only [iK, condV, Split_true, Split_false]; done)
end Go.Proofs.YtpllcpbhjglpaaaGreatDoor.Gw
namespace Go.Proofs.YtpllcpbhjglpaaaGreatDoor.Gw
open Go
theorem gwE :
  (∀ (N : Nat) (g l : List (Nat × Bool × V)) (c : Bool) (v : V) (L : List Nat), Env.put ⟨N, g, l⟩ L none c v = ⟨N, g, l⟩) ∧
  (∀ (N : Nat) (g l : List (Nat × Bool × V)) (t : Nat) (c : Bool) (v : V) (L : List Nat), Env.put ⟨N, g, l⟩ L (some t) c v = if memN L t then ⟨N, ins g t (c, v), (t, c, v) :: l⟩ else ⟨N, g, (t, c, v) :: l⟩) ∧
  (∀ (gc : Bool) (t N : Nat) (g l : List (Nat × Bool × V)), evG ⟨N, g, l⟩ gc (.tmp t) = lookT gc t l g) ∧
  (∀ (gc : Bool) (t : Nat) (g : List (Nat × Bool × V)), lookT gc t [] g = lookG gc t g) ∧
  (∀ (gc : Bool) (t k : Nat) (c : Bool) (v : V) (l g : List (Nat × Bool × V)), lookT gc t ((k, c, v) :: l) g = if k = t then (bif (!gc || c) then v else .junk) else lookT gc t l g) ∧
  (∀ (gc : Bool) (t k : Nat) (c : Bool) (v : V) (g : List (Nat × Bool × V)), lookG gc t ((k, c, v) :: g) = if k = t then (bif (!gc || c) then v else .junk) else lookG gc t g) ∧
  (∀ (gc : Bool) (env : Env) (v : Value), evG env gc (.const v) = V.ofConst v) ∧
  (∀ (gc : Bool) (env : Env) (f : FuncId), evG env gc (.func f) = .fn (.func f) []) ∧
  (∀ (k : IntKind) (n : Int), V.ofConst (.int k n) = .int k n) ∧
  (∀ (b : Bool), V.ofConst (.bool b) = .bool b) ∧
  (∀ (s : List UInt8), V.ofConst (.string ⟨s.toArray⟩) = if s.length ≤ 1000000 then .str s else .junk) ∧
  (V.ofConst (.slice none 0 0) = .nils) ∧
  (V.ofConst (.pointer none) = .nilp) ∧
  (V.ofConst .nilFunc = .nilf) ∧
  (V.ofConst (.map none) = .nilm) ∧
  (V.ofConst .nilIface = .nili) ∧
  (∀ (l : List Value), V.ofConst (.agg l.toArray) = aggR (V.ofCs l)) ∧
  (∀ (l : List V), aggR (some l) = .agg l) ∧
  (V.ofCs [] = some []) ∧
  (∀ (v : Value) (l : List Value), V.ofCs (v :: l) = consO (V.ofC1 v) (V.ofCs l)) ∧
  (∀ (x : V) (l : List V), consO (some x) (some l) = some (x :: l)) ∧
  (∀ (k : IntKind) (n : Int), V.ofC1 (.int k n) = some (.int k n)) ∧
  (∀ (b : Bool), V.ofC1 (.bool b) = some (.bool b)) ∧
  (∀ (s : List UInt8), V.ofC1 (.string ⟨s.toArray⟩) = if s.length ≤ 1000000 then some (.str s) else none) ∧
  (V.ofC1 (.slice none 0 0) = some .nils) ∧
  (V.ofC1 (.pointer none) = some .nilp) ∧
  (V.ofC1 .nilFunc = some .nilf) ∧
  (V.ofC1 (.map none) = some .nilm) ∧
  (V.ofC1 .nilIface = some .nili) ∧
  (∀ (t : Nat), memN [] t = false) ∧
  (∀ (k : Nat) (r : List Nat) (t : Nat), memN (k :: r) t = if k = t then true else memN r t) ∧
  (∀ (t : Nat) (x : Bool × V), ins [] t x = [(t, x)]) ∧
  (∀ (k : Nat) (y : Bool × V) (r : List (Nat × Bool × V)) (t : Nat) (x : Bool × V), ins ((k, y) :: r) t x = if k = t then (t, x) :: r else (k, y) :: ins r t x) ∧
  (∀ (N d : Nat), okDstB N (some d) = (d < N)) ∧
  (∀ (N : Nat), okDstB N none = True) ∧
  (∀ (all : List Oper) (N : Nat) (g l : List (Nat × Bool × V)) (j : Nat) (w : Bool), guardV all.toArray ⟨N, g, l⟩ (some (j, w)) = guardL (dstL all j) w l g) ∧
  (∀ (w : Bool) (d : Nat) (k : Nat) (c : Bool) (v : V) (l g : List (Nat × Bool × V)), guardL (some d) w ((k, c, v) :: l) g = if k = d then gbit w c v else guardL (some d) w l g) ∧
  (∀ (w : Bool) (d : Nat) (g : List (Nat × Bool × V)), guardL (some d) w [] g = guardG d w g) ∧
  (∀ (w : Bool) (d : Nat) (k : Nat) (c : Bool) (v : V) (g : List (Nat × Bool × V)), guardG d w ((k, c, v) :: g) = if k = d then gbit w c v else guardG d w g) ∧
  (∀ (c b : Bool), gbit true c (.bool b) = some (c && b)) ∧
  (∀ (c b : Bool), gbit false c (.bool b) = some (c && !b)) ∧
  (∀ (dst : Option Tmp) (op : Op) (ty : TypeId) (pos : String) (aft : Array Edge) (gd : Option (Nat × Bool)) (os : List Oper), dstL (⟨dst, op, ty, pos, aft, gd⟩ :: os) 0 = dst) ∧
  (∀ (o : Oper) (os : List Oper) (k : Nat), dstL (o :: os) (k + 1) = dstL os k) := by
 refine ⟨fun _ _ _ _ _ _ => rfl,
  fun _ _ _ _ _ _ _ => rfl,
  evG_look,
  lookT_nil,
  lookT_cons,
  lookG_cons,
  evG_const,
  evG_func,
  fun _ _ => rfl,
  fun _ => rfl,
  ofConst_str,
  rfl,
  rfl,
  rfl,
  rfl,
  rfl,
  ofConst_agg,
  fun _ => rfl,
  rfl,
  fun _ _ => rfl,
  fun _ _ => rfl,
  fun _ _ => rfl,
  fun _ => rfl,
  ofC1_str,
  rfl,
  rfl,
  rfl,
  rfl,
  rfl,
  fun _ => rfl,
  fun _ _ _ => rfl,
  fun _ _ => rfl,
  fun _ _ _ _ _ => rfl,
  fun _ _ => rfl,
  fun _ => rfl,
  guard_eq,
  guardL_cons,
  fun _ _ _ => rfl,
  guardG_cons,
  fun _ _ => rfl,
  fun _ _ => rfl,
  fun _ _ _ _ _ _ _ => rfl,
  fun _ _ _ => rfl⟩
theorem gwS :
  (∀ (T : Nat → TI) (an : Nat → Nat) (dst : Option Tmp) (gc : Bool) (env : Env) (st : St) (x : Operand), stepOp T an dst (.move x) gc env st = .pure (evG env gc x) True) ∧
  (∀ (T : Nat → TI) (an : Nat → Nat) (dst : Option Tmp) (gc : Bool) (env : Env) (st : St) (x : Operand), stepOp T an dst (.assign x) gc env st = .pure (evG env gc x) True) ∧
  (∀ (T : Nat → TI) (an : Nat → Nat) (dst : Option Tmp) (gc : Bool) (env : Env) (st : St) (x : Operand), stepOp T an dst (.nilCheck x) gc env st = nilV (evG env gc x)) ∧
  (∀ (l : List V), nilV (.ref l) = .pure (.ref l) True) ∧
  (∀ (o f : Nat), nilV (.ptr o f) = .pure (.ptr o f) True) ∧
  (∀ (f : Fn) (c : List V), nilV (.fn f c) = .pure (.fn f c) (∀ n, f ≠ .method n)) ∧
  (∀ (t : TypeId) (v : V), nilV (.iface t v) = .pure (.iface t v) True) ∧
  (∀ (T : Nat → TI) (an : Nat → Nat) (dst : Option Tmp) (gc : Bool) (env : Env) (st : St) (op : BinOp) (t : TypeId) (x y : Operand) (u : TypeId), stepOp T an dst (.binOp op t x y u) gc env st = pureR (binV T (T t).kind op (evG env gc x) (evG env gc y)) (convS (nilB st (nilCmp (T t).kind op (nilC y) (evG env gc x) (evG env gc y)) (bitV op (evG env gc x) (evG env gc y))))) ∧
  (∀ (T : Nat → TI) (an : Nat → Nat) (dst : Option Tmp) (gc : Bool) (env : Env) (st : St) (t : TypeId) (x : Operand), stepOp T an dst (.unOp .not t x) gc env st = notV (evG env gc x)) ∧
  (∀ (b : Bool), notV (.bool b) = .pure (.bool (!b)) True) ∧
  (∀ (T : Nat → TI) (an : Nat → Nat) (dst : Option Tmp) (gc : Bool) (env : Env) (st : St) (t : TypeId) (x : Operand), stepOp T an dst (.unOp .neg t x) gc env st = negV (evG env gc x)) ∧
  (∀ (k : IntKind) (n : Int), negV (.int k n) = .pure (.int k (k.wrap (0 - n))) True) ∧
  (∀ (T : Nat → TI) (an : Nat → Nat) (dst : Option Tmp) (gc : Bool) (env : Env) (st : St) (s : TypeId) (x : Operand) (f : Nat), stepOp T an dst (.fieldAddr s x f) gc env st = pureR (fieldV T (T s).kind f (evG env gc x)) .fail) ∧
  (∀ (T : Nat → TI) (fs : List (Nat × TypeId)) (f : Nat) (x : V), fieldV T (.struct fs) f x = fieldW T fs[f]? x) ∧
  (∀ (T : Nat → TI) (off : Nat) (ft : TypeId) (l : List V), fieldW T (some (off, ft)) (.ref l) = if (T ft).sized = false then none else some (.ref (l.drop off), True)) ∧
  (∀ (T : Nat → TI) (off : Nat) (ft : TypeId) (o n : Nat), fieldW T (some (off, ft)) (.ptr o n) = if (T ft).sized = false then none else some (.ptr o (n + off), True)) ∧
  (∀ (T : Nat → TI) (an : Nat → Nat) (dst : Option Tmp) (gc : Bool) (env : Env) (st : St) (s : TypeId) (x : Operand) (f : Nat), stepOp T an dst (.field s x f) gc env st = pureR (fldV T (T s).kind f (evG env gc x)) .fail) ∧
  (∀ (T : Nat → TI) (fs : List (Nat × TypeId)) (f : Nat) (l : List V), fldV T (.struct fs) f (.agg l) = fldW T fs[f]? l) ∧
  (∀ (T : Nat → TI) (off : Nat) (ft : TypeId) (l : List V), fldW T (some (off, ft)) l = if (T ft).sized = false then none else loadV (T ft) (l.drop off)) ∧
  (∀ (T : Nat → TI) (an : Nat → Nat) (dst : Option Tmp) (gc : Bool) (env : Env) (st : St) (t : TypeId) (x i : Operand), stepOp T an dst (.indexAddr t x i) gc env st = idxS T (T t).kind (evG env gc x) (evG env gc i) st) ∧
  (∀ (T : Nat → TI) (e : TypeId) (sz : Nat) (tk : Option Nat) (l : List (List V)) (k : IntKind) (n : Int) (st : St), idxS T (.slice e) (.lst sz tk l) (.int k n) st = if (T e).sized = true ∧ sz = (T e).size then .pure (.ref (l.getD n.toNat [])) (0 ≤ n ∧ n < l.length) else .fail) ∧
  (∀ (T : Nat → TI) (e : TypeId) (o n : Nat) (kk : IntKind) (k : Int) (st : St), idxS T (.slice e) (.arr o n) (.int kk k) st = idxB (T e) o n k st st[o]?) ∧
  (∀ (i : TI) (o n : Nat) (k : Int) (st : St) (e sz : Nat) (c : List (List V)), idxB i o n k st (some (.arr e sz c)) = if i.sized = true ∧ sz = i.size then .mem (.eptr o n sz k.toNat 0) st (n = c.length ∧ 0 ≤ k ∧ k < n) else .fail) ∧
  (∀ (e n sz k f : Nat), nilV (.eptr e n sz k f) = .pure (.eptr e n sz k f) True) ∧
  (∀ (T : Nat → TI) (off : Nat) (ft : TypeId) (e n sz k f : Nat), fieldW T (some (off, ft)) (.eptr e n sz k f) = if (T ft).sized = false then none else some (.eptr e n sz k (f + off), True)) ∧
  (∀ (T : Nat → TI) (t : TypeId) (st : St) (o n sz k off : Nat), loadS T t st (.eptr o n sz k off) = loadE (T t) n sz k off st st[o]?) ∧
  (∀ (i : TI) (n sz k off : Nat) (st : St) (e sz' : Nat) (c : List (List V)), loadE i n sz k off st (some (.arr e sz' c)) = if i.known = true ∧ sz' = sz then loadN st n k c.length (loadV i ((c.getD k []).drop off)) else .fail) ∧
  (∀ (st : St) (n k m : Nat) (v : V) (p : Prop), loadN st n k m (some (v, p)) = .mem v st (p ∧ n = m ∧ k < n)) ∧
  (∀ (i : TI) (st : St) (o n sz k off : Nat) (l : List V), storeS i st (.eptr o n sz k off) (some l) = storeE i st o n sz k off l st[o]?) ∧
  (∀ (i : TI) (st : St) (o n sz k off : Nat) (l : List V) (e sz' : Nat) (c : List (List V)), storeE i st o n sz k off l (some (.arr e sz' c)) = if i.known = true ∧ l.length = i.size ∧ sz' = sz then .mem .junk (st.set o (.arr e sz (c.set k ((c.getD k []).take off ++ l ++ (c.getD k []).drop (off + l.length))))) (n = c.length ∧ k < n ∧ off + l.length ≤ sz) else .fail) ∧
  (∀ (T : Nat → TI) (an : Nat → Nat) (dst : Option Tmp) (gc : Bool) (env : Env) (st : St) (src d : TypeId) (x : Operand), stepOp T an dst (.convert src d x) gc env st = convS (convV T src d (evG env gc x) st)) ∧
  (∀ (v : V) (st : St) (p : Prop), convS (some (v, st, p)) = .mem v st p) ∧
  (∀ (T : Nat → TI) (an : Nat → Nat) (dst : Option Tmp) (gc : Bool) (env : Env) (st : St) (t : TypeId) (x i : Operand), stepOp T an dst (.index t x i) gc env st = pureR (idxV (T t).kind (evG env gc x) (evG env gc i)) .fail) ∧
  (∀ (s : List UInt8) (k : IntKind) (n : Int), idxV .str (.str s) (.int k n) = some (.int .u8 (s.getD n.toNat 0).toNat, 0 ≤ n ∧ n < s.length)) ∧
  (∀ (T : Nat → TI) (an : Nat → Nat) (dst : Option Tmp) (gc : Bool) (env : Env) (st : St) (x : Operand) (i : Nat), stepOp T an dst (.extract x i) gc env st = extV i (evG env gc x)) ∧
  (∀ (i : Nat) (l : List V), extV i (.tup l) = extW l[i]?) ∧
  (∀ (v : V), extW (some v) = .pure v True) ∧
  (∀ (T : Nat → TI) (an : Nat → Nat) (dst : Option Tmp) (gc : Bool) (env : Env) (st : St) (t : TypeId) (parts : List (Nat × Operand)), stepOp T an dst (.build t parts.toArray) gc env st = pureR (buildV T (T t) (parts.map fun p => (p.1, evG env gc p.2))) .fail) ∧
  (∀ (T : Nat → TI) (an : Nat → Nat) (dst : Option Tmp) (gc : Bool) (env : Env) (st : St) (t : TypeId) (x : Operand), stepOp T an dst (.makeInterface t x) gc env st = pureR (mkIface (T t) t (evG env gc x)) .fail) ∧
  (∀ (T : Nat → TI) (an : Nat → Nat) (dst : Option Tmp) (gc : Bool) (env : Env) (st : St) (f : Fn) (c : List Operand), stepOp T an dst (.makeFunc f (List.toArray []) c.toArray) gc env st = .pure (.fn f (c.map (evG env gc))) True) ∧
  (∀ (T : Nat → TI) (an : Nat → Nat) (dst : Option Tmp) (gc : Bool) (env : Env) (st : St) (t : TypeId) (x : Operand) (lo hi : Option Operand), stepOp T an dst (.slice t x lo hi none) gc env st = sliS (an (dst.getD 0)) (pureR (sliceV T t (evG env gc x) (lo.map (evG env gc)) (hi.map (evG env gc))) .fail) (sufS (sufE T (T t).kind (evG env gc x) (lo.map (evG env gc)) (hi.map (evG env gc)) st))) ∧
  (∀ (T : Nat → TI) (an : Nat → Nat) (dst : Option Tmp) (gc : Bool) (env : Env) (st : St) (t : TypeId) (x : Operand), stepOp T an dst (.load t x) gc env st = loadS T t st (evG env gc x)) ∧
  (∀ (T : Nat → TI) (t : TypeId) (st : St) (l : List V), loadS T t st (.ref l) = if (T t).sized = false then .fail else pureR (loadV (T t) l) .fail) ∧
  (∀ (T : Nat → TI) (t : TypeId) (st : St) (o n : Nat), loadS T t st (.ptr o n) = loadB (T t) n st st[o]?) ∧
  (∀ (i : TI) (n : Nat) (st : St) (c : List V), loadB i n st (some (.box c)) = if i.known then loadM st (loadV i (c.drop n)) else .fail) ∧
  (∀ (st : St) (v : V) (p : Prop), loadM st (some (v, p)) = .mem v st p) ∧
  (∀ (T : Nat → TI) (an : Nat → Nat) (dst : Option Tmp) (gc : Bool) (env : Env) (st : St) (t : TypeId), stepOp T an dst (.alloc t) gc env st = allocS t (T t) (an (dst.getD 0)) st) ∧
  (∀ (t : TypeId) (i : TI) (st : St), allocS t i 0 st = if i.known then .mem (.ptr st.length 0) (st ++ [.box i.zero]) True else .fail) ∧
  (∀ (t : TypeId) (i : TI) (st : St), allocS t i 1 st = if i.known then .mem (.ref i.zero) st True else .fail) ∧
  (∀ (t : TypeId) (i : TI) (st : St), allocS t i 5 st = if i.known then addrS t i.size st i.zero else .fail) ∧
  (∀ (t k : Nat) (st : St) (r : List V), addrS t k st (.nilp :: r) = .mem (.ptr st.length 0) (st ++ [.box (.addr st.length t k :: r)]) True) ∧
  (∀ (T : Nat → TI) (an : Nat → Nat) (dst : Option Tmp) (gc : Bool) (env : Env) (st : St) (t : TypeId) (x : Operand), stepOp T an dst (.box t x) gc env st = boxS t (an (dst.getD 0)) (V.cells (evG env gc x)) st) ∧
  (∀ (t : Nat) (l : List V) (st : St), boxS t 0 (some l) st = .mem (.ptr st.length 0) (st ++ [.box l]) True) ∧
  (∀ (t : Nat) (l : List V) (st : St), boxS t 1 (some l) st = .mem (.ref l) st True) ∧
  (∀ (t : Nat) (l : List V) (st : St), boxS t 5 (some l) st = addrS t l.length st l) ∧
  (∀ (T : Nat → TI) (an : Nat → Nat) (dst : Option Tmp) (gc : Bool) (env : Env) (st : St) (t : TypeId) (a x : Operand), stepOp T an dst (.store t a x) gc env st = storeS (T t) st (evG env gc a) (V.cells (evG env gc x))) ∧
  (∀ (i : TI) (st : St) (o n : Nat) (l : List V), storeS i st (.ptr o n) (some l) = storeB i st o n l st[o]?) ∧
  (∀ (i : TI) (st : St) (o n : Nat) (l c : List V), storeB i st o n l (some (.box c)) = if i.known ∧ l.length = i.size then .mem .junk (st.set o (.box (c.take n ++ l ++ c.drop (n + l.length)))) (n + l.length ≤ c.length) else .fail) ∧
  (∀ (T : Nat → TI) (an : Nat → Nat) (dst : Option Tmp) (gc : Bool) (env : Env) (st : St) (t : TypeId) (n : Nat) (parts : List (Nat × Operand)), stepOp T an dst (.buildSlice t n parts.toArray) gc env st = litS T (an (dst.getD 0)) n st (T t).kind (parts.map fun p => (p.1, evG env gc p.2))) ∧
  (∀ (T : Nat → TI) (an : Nat → Nat) (dst : Option Tmp) (gc : Bool) (env : Env) (st : St) (t : TypeId) (x y : Operand), stepOp T an dst (.makeSlice t x y) gc env st = makeS T st (T t).kind (evG env gc x) (evG env gc y)) ∧
  (∀ (T : Nat → TI) (st : St) (e : TypeId) (k k' : IntKind) (n m : Int), makeS T st (.slice e) (.int k n) (.int k' m) = if (T e).sized = true then .mem (.arr st.length n.toNat) (st ++ [.arr e (T e).size (List.replicate n.toNat (T e).zero)]) (n = m ∧ 0 ≤ n ∧ n ≤ 100000000000000 ∧ n * (T e).bytes ≤ 100000000000000) else .fail) ∧
  (∀ (T : Nat → TI) (an : Nat → Nat) (dst : Option Tmp) (gc : Bool) (env : Env) (st : St) (f : Operand) (args : List Operand) (ts : Array TypeId), stepOp T an dst (.call ⟨.value f, args.toArray, ts⟩) gc env st = callS (evG env gc f) (args.map (evG env gc))) ∧
  (∀ (k : FuncId) (cap args : List V), callS (.fn (.func k) cap) args = .call k (args ++ cap)) ∧
  (∀ (T : Nat → TI) (an : Nat → Nat) (dst : Option Tmp) (gc : Bool) (env : Env) (st : St) (b : Builtin) (args : List Operand) (ts : List TypeId), stepOp T an dst (.call ⟨.builtin b, args.toArray, ts.toArray⟩) gc env st = builtS T (an (dst.getD 0)) b (args.map (evG env gc)) ts st) ∧
  (∀ (T : Nat → TI) (an : Nat → Nat) (dst : Option Tmp) (gc : Bool) (env : Env) (st : St) (x : Operand), stepOp T an dst (.panic x) gc env st = .panic (evG env gc x)) ∧
  (∀ (T : Nat → TI) (an : Nat → Nat) (dst : Option Tmp) (gc : Bool) (env : Env) (st : St) (c a b : Operand), stepOp T an dst (.pick c a b) gc env st = pureR (pickV env gc c a b) .fail) ∧
  (∀ (v : V) (side : Prop) (m : Step), pureR (some (v, side)) m = .pure v side) ∧
  (∀ (T : Nat → TI) (an : Nat → Nat) (dst : Option Tmp) (gc : Bool) (env : Env) (st : St) (it : Operand), stepOp T an dst (.next it false) gc env st = anyS (nextV (evG env gc it) st)) ∧
  (∀ (l : List (V × St)), anyS (some l) = .any l) ∧
  (∀ (T : Nat → TI) (an : Nat → Nat) (dst : Option Tmp) (gc : Bool) (env : Env) (st : St) (it : Operand), stepOp T an dst (.entry it) gc env st = convS (entV (evG env gc it) st)) ∧
  (∀ (T : Nat → TI) (an : Nat → Nat) (dst : Option Tmp) (gc : Bool) (env : Env) (st : St) (t : TypeId), stepOp T an dst (.makeMap t none) gc env st = convS (makeMapE (T t).kind st)) ∧
  (∀ (T : Nat → TI) (an : Nat → Nat) (dst : Option Tmp) (gc : Bool) (env : Env) (st : St) (t : TypeId) (m x : Operand) (ok : Bool), stepOp T an dst (.lookup t m x ok) gc env st = convS (mapLook T (T t).kind (evG env gc m) (evG env gc x) ok st)) ∧
  (∀ (T : Nat → TI) (an : Nat → Nat) (dst : Option Tmp) (gc : Bool) (env : Env) (st : St) (t : TypeId) (m x y : Operand), stepOp T an dst (.mapUpdate t m x y) gc env st = convS (mapPut T (T t).kind (evG env gc m) (evG env gc x) (evG env gc y) st)) ∧
  (∀ (T : Nat → TI) (an : Nat → Nat) (dst : Option Tmp) (gc : Bool) (env : Env) (st : St) (t : TypeId) (m x y : Operand), stepOp T an dst (.insert t m x y) gc env st = convS (mapPut T (T t).kind (evG env gc m) (evG env gc x) (evG env gc y) st)) ∧
  (∀ (T : Nat → TI) (an : Nat → Nat) (dst : Option Tmp) (gc : Bool) (env : Env) (st : St) (t : TypeId) (m : Operand), stepOp T an dst (.range t m) gc env st = convS (mapRange (T t).kind (evG env gc m) st)) ∧
  (∀ (T : Nat → TI) (an : Nat → Nat) (dst : Option Tmp) (gc : Bool) (env : Env) (st : St) (x : Operand) (xt t : TypeId) (ok : Bool), stepOp T an dst (.typeAssert x xt t ok) gc env st = convS (nilR st (assertV (T t) t ok (evG env gc x)))) := by
 refine ⟨fun _ _ _ _ _ _ _ => rfl,
  fun _ _ _ _ _ _ _ => rfl,
  step_nilCheck,
  fun _ => rfl,
  fun _ _ => rfl,
  fun _ _ => rfl,
  fun _ _ => rfl,
  step_binOp,
  step_not,
  fun _ => rfl,
  step_neg,
  fun _ _ => rfl,
  fun _ _ _ _ _ _ _ _ _ => rfl,
  fun _ _ _ _ => rfl,
  fun _ _ _ _ => rfl,
  fun _ _ _ _ _ => rfl,
  step_field,
  fun _ _ _ _ => rfl,
  fun _ _ _ _ => rfl,
  step_indexAddr,
  by intros; rfl,
  by intros; rfl,
  by intros; rfl,
  by intros; rfl,
  by intros; rfl,
  by intros; rfl,
  by intros; rfl,
  by intros; rfl,
  by intros; rfl,
  by intros; rfl,
  step_convert,
  by intros; rfl,
  fun _ _ _ _ _ _ _ _ _ => rfl,
  fun _ _ _ => rfl,
  step_extract,
  fun _ _ => rfl,
  fun _ => rfl,
  step_build,
  step_makeInterface,
  fun _ _ _ _ _ _ _ _ => rfl,
  fun _ _ _ _ _ _ _ _ _ _ => rfl,
  step_load,
  fun _ _ _ _ => rfl,
  loadS_ptr,
  fun _ _ _ _ => rfl,
  fun _ _ _ => rfl,
  step_alloc,
  fun _ _ _ => rfl,
  fun _ _ _ => rfl,
  fun _ _ _ => rfl,
  fun _ _ _ _ => rfl,
  step_box,
  fun _ _ _ => rfl,
  fun _ _ _ => rfl,
  fun _ _ _ => rfl,
  step_store,
  fun _ _ _ _ _ => rfl,
  fun _ _ _ _ _ _ => rfl,
  step_buildSlice,
  step_makeSlice,
  fun _ _ _ _ _ _ _ => rfl,
  step_call,
  fun _ _ _ => rfl,
  step_builtin,
  fun _ _ _ _ _ _ _ => rfl,
  fun _ _ _ _ _ _ _ _ _ => rfl,
  fun _ _ _ => rfl,
  fun _ _ _ _ _ _ _ => rfl,
  fun _ => rfl,
  fun _ _ _ _ _ _ _ => rfl,
  fun _ _ _ _ _ _ _ => rfl,
  fun _ _ _ _ _ _ _ _ _ _ => rfl,
  fun _ _ _ _ _ _ _ _ _ _ => rfl,
  fun _ _ _ _ _ _ _ _ _ _ => rfl,
  fun _ _ _ _ _ _ _ _ => rfl,
  step_typeAssert⟩
end Go.Proofs.YtpllcpbhjglpaaaGreatDoor.Gw
namespace Go.Proofs.YtpllcpbhjglpaaaGreatDoor.Gw
open Go
set_option linter.unusedSimpArgs false
section
variable (P : Program) (T : Nat → TI) (an : Nat → Nat) (L : List Nat)
/-- What one operation does, as a function. Its class: 0: the state is nothing to it; 1: it looks at it; 2: it may turn it. -/
def dFun (r : Step) (gc : Bool) (cl : Nat) (st : St) (v : V) (st' : St) : Prop :=
 match r with
 | .pure v0 side => v = v0 ∧ st' = st ∧ (gc = true → side)
 | .mem v0 s0 side => v = v0 ∧ st' = s0 ∧ (gc = true ∨ s0 = st) ∧ (cl = 2 ∨ cl = 1 ∧ s0 = st) ∧ (gc = true → side)
 | .call f args => match cl with
  | 0 => st' = st ∧ (gc = true → ∀ s, VCalls P T f args s fun r s' => r = .ret v ∧ s' = s)
  | 1 => st' = st ∧ (gc = true → VCalls P T f args st fun r s' => r = .ret v ∧ s' = st)
  | _ => gc = true ∧ VCalls P T f args st fun r s' => r = .ret v ∧ s' = st'
 | _ => False
def dStep (r : Step) (gc : Bool) (cl : Nat) (st : St) (K : V → St → Prop) : Prop :=
 match r with
 | .pure v side => (gc = true → side) ∧ K v st
 | .mem v st' side => (gc = true ∨ st' = st) ∧ (cl = 2 ∨ cl = 1 ∧ st' = st) ∧ (gc = true → side) ∧ K v st'
 | .call f args => match cl with
  | 0 => ∃ v, (gc = true → ∀ s, VCalls P T f args s fun r s' => r = .ret v ∧ s' = s) ∧ Later (K v st)
  | 1 => ∃ v, (gc = true → VCalls P T f args st fun r s' => r = .ret v ∧ s' = st) ∧ Later (K v st)
  | _ => ∃ v st', (gc = true ∧ VCalls P T f args st fun r s' => r = .ret v ∧ s' = st') ∧ Later (K v st')
 | _ => False
variable {P T an L}
theorem dStep_fun {r : Step} {gc : Bool} {cl : Nat} {st : St} {K : V → St → Prop} (h : dStep P T r gc cl st K) : ∃ v st', dFun P T r gc cl st v st' ∧ K v st' := by
 unfold dStep at h
 split at h
 ·exact ⟨_, _, ⟨rfl, rfl, h.1⟩, h.2⟩
 ·exact ⟨_, _, ⟨rfl, rfl, h.1, h.2.1, h.2.2.1⟩, h.2.2.2⟩
 ·match cl, h with
  | 0, h => obtain ⟨v, h1, h2⟩ := h; exact ⟨v, st, ⟨rfl, h1⟩, h2⟩
  | 1, h => obtain ⟨v, h1, h2⟩ := h; exact ⟨v, st, ⟨rfl, h1⟩, h2⟩
  | n + 2, h => obtain ⟨v, st', h1, h2⟩ := h; exact ⟨v, st', h1, h2⟩
 ·exact h.elim
theorem dStep_of {r : Step} {gc : Bool} {cl : Nat} {st : St} {K : V → St → Prop} {v : V} {st' : St} (h : dFun P T r gc cl st v st') (k : K v st') : dStep P T r gc cl st K := by
 unfold dFun at h
 unfold dStep
 split at h
 ·obtain ⟨rfl, rfl, h3⟩ := h; exact ⟨h3, k⟩
 ·obtain ⟨rfl, rfl, h3, h4, h5⟩ := h; exact ⟨h3, h4, h5, k⟩
 ·match cl, h with
  | 0, h => exact ⟨v, h.2, by rw [h.1] at k; exact k⟩
  | 1, h => exact ⟨v, h.2, by rw [h.1] at k; exact k⟩
  | n + 2, h => exact ⟨v, st', h, k⟩
 ·exact h.elim
variable (P T an L)
def dOps (all : Array Oper) : List (Oper × Nat) → Env → St → (VExit → Env → St → Prop) → Prop
 | [], env, st, Q => Q .normal env st
 | (o, cl) :: os, env, st, Q => bindO (guardV all env o.guard) fun gc => okDstB env.N o.dst ∧
   dStep P T (stepOp T an o.dst o.op gc env st) gc cl st fun v st' => dOps all os (env.put L o.dst gc v) st' Q
variable {P T an L}
/-- Environments that tell the same. -/
def Env.same (e e' : Env) : Prop := e.N = e'.N ∧ ∀ t, e.look t = e'.look t
theorem put_look (e : Env) (d : Option Nat) (c : Bool) (v : V) (t : Nat) : (e.put L d c v).look t = if d = some t then some (c, v) else e.look t := by
 cases d with
 | none => simp [Env.put]
 | some d =>
  simp only [Env.put]
  split
  ·simp only [Env.look, find]
   by_cases h : d = t
   ·simp [h]
   ·have ins_ne : ∀ (g : List (Nat × Bool × V)) (x : Bool × V), find (ins g d x) t = find g t := by
     intro g x
     induction g with
     | nil => simp [ins, find, h]
     | cons y g ih =>
      obtain ⟨k, y⟩ := y
      simp only [ins]
      split
      ·rename_i hk; subst hk; simp [find, h]
      ·simp only [find]; split <;> simp [ih]
    simp only [Option.some.injEq, h, if_false, ins_ne]
  ·simp only [Env.look, find]
   by_cases h : d = t
   ·simp [h]
   ·simp [h]
theorem put_N (e : Env) (d : Option Nat) (c : Bool) (v : V) : (e.put L d c v).N = e.N := by
 cases d with
 | none => rfl
 | some d => simp only [Env.put]; split <;> rfl
theorem Env.same.put {e e' : Env} (h : e.same e') (d : Option Nat) (c : Bool) (v : V) : (e.put L d c v).same (e'.put L d c v) :=
 ⟨by rw [put_N, put_N]; exact h.1, fun t => by rw [put_look, put_look, h.2 t]⟩
theorem evO_congr {e e' : Env} {x : Operand} (h : ∀ t, x = .tmp t → e.look t = e'.look t) : evO e x = evO e' x := by
 cases x <;> simp only [evO]
 exact h _ rfl
theorem evG_congr {e e' : Env} {x : Operand} (gc : Bool) (h : ∀ t, x = .tmp t → e.look t = e'.look t) : evG e gc x = evG e' gc x := by
 unfold evG; rw [evO_congr h]
theorem stepOp_congr {dst : Option Tmp} {op : Op} {gc : Bool} {e e' : Env} {st : St} (h : ∀ x ∈ op.operands, ∀ t, x = .tmp t → e.look t = e'.look t) : stepOp T an dst op gc e st = stepOp T an dst op gc e' st := by
 have hv : ∀ x ∈ op.operands, evG e gc x = evG e' gc x := fun x hx => evG_congr gc (h x hx)
 have ho : ∀ x ∈ op.operands, evO e x = evO e' x := fun x hx => evO_congr (h x hx)
 cases op with
 | move x => have q := hv x (by simp [Op.operands]); simp only [stepOp, pureStep, pureOp, memStep, memOp, moreOp, q]
 | assign x => have q := hv x (by simp [Op.operands]); simp only [stepOp, pureStep, pureOp, memStep, memOp, moreOp, q]
 | box t x => have q := hv x (by simp [Op.operands]); simp only [stepOp, pureStep, pureOp, memStep, memOp, moreOp, q]
 | load t x => have q := hv x (by simp [Op.operands]); simp only [stepOp, pureStep, pureOp, memStep, memOp, moreOp, q]
 | nilCheck x => have q := hv x (by simp [Op.operands]); simp only [stepOp, pureStep, pureOp, memStep, memOp, moreOp, q]
 | convert a b x => have q := hv x (by simp [Op.operands]); simp only [stepOp, pureStep, pureOp, memStep, memOp, moreOp, q]
 | extract x i => have q := hv x (by simp [Op.operands]); simp only [stepOp, pureStep, pureOp, memStep, memOp, moreOp, q]
 | makeInterface t x => have q := hv x (by simp [Op.operands]); simp only [stepOp, pureStep, pureOp, memStep, memOp, moreOp, q]
 | fieldAddr s x f => have q := hv x (by simp [Op.operands]); simp only [stepOp, pureStep, pureOp, memStep, memOp, moreOp, q]
 | field s x f => have q := hv x (by simp [Op.operands]); simp only [stepOp, pureStep, pureOp, memStep, memOp, moreOp, q]
 | unOp u t x =>
  have q := hv x (by simp [Op.operands])
  cases u <;> simp only [stepOp, pureStep, pureOp, memStep, memOp, moreOp, q]
 | store t x y => have q := hv x (by simp [Op.operands]); have q2 := hv y (by simp [Op.operands]); simp only [stepOp, pureStep, pureOp, memStep, memOp, moreOp, q, q2]
 | binOp o t x y u => have q := hv x (by simp [Op.operands]); have q2 := hv y (by simp [Op.operands]); simp only [stepOp, pureStep, pureOp, memStep, memOp, moreOp, q, q2]
 | typeAssert x a b c => have q := hv x (by simp [Op.operands]); simp only [stepOp, pureStep, pureOp, memStep, memOp, moreOp, q]
 | indexAddr t x y => have q := hv x (by simp [Op.operands]); have q2 := hv y (by simp [Op.operands]); simp only [stepOp, pureStep, pureOp, memStep, memOp, moreOp, q, q2]
 | makeSlice t x y => have q := hv x (by simp [Op.operands]); have q2 := hv y (by simp [Op.operands]); simp only [stepOp, pureStep, pureOp, memStep, memOp, moreOp, q, q2]
 | index t x y => have q := hv x (by simp [Op.operands]); have q2 := hv y (by simp [Op.operands]); simp only [stepOp, pureStep, pureOp, memStep, memOp, moreOp, q, q2]
 | pick c a b =>
  have q := ho c (by simp [Op.operands]); have q2 := ho a (by simp [Op.operands]); have q3 := ho b (by simp [Op.operands])
  simp only [stepOp, pickV, q, q2, q3]
 | panic x => have q := hv x (by simp [Op.operands]); simp only [stepOp, q]
 | build t ps =>
  have q : ps.toList.map (fun p => (p.1, evG e gc p.2)) = ps.toList.map (fun p => (p.1, evG e' gc p.2)) := List.map_congr_left fun p hp => by rw [hv p.2 (by simp only [Op.operands, List.mem_toArray, List.mem_map]; exact ⟨p, hp, rfl⟩)]
  simp only [stepOp, pureStep, pureOp, memStep, memOp, moreOp, q]
 | buildSlice t n ps =>
  have q : ps.toList.reverse.map (fun p => (p.1, evG e gc p.2)) = ps.toList.reverse.map (fun p => (p.1, evG e' gc p.2)) := List.map_congr_left fun p hp => by rw [hv p.2 (by simp only [Op.operands, List.mem_toArray, List.mem_map]; exact ⟨p, List.mem_reverse.1 hp, rfl⟩)]
  simp only [stepOp, pureStep, pureOp, memStep, memOp, moreOp, q]
 | makeFunc f first c =>
  have q : c.toList.map (evG e gc) = c.toList.map (evG e' gc) := List.map_congr_left fun p hp => hv p (by simp only [Op.operands, Array.mem_append]; exact .inr (by simpa using hp))
  simp only [stepOp, pureStep, pureOp, memStep, memOp, moreOp, q]
 | slice t x l u m =>
  have q := hv x (by simp [Op.operands])
  have q2 : l.map (evG e gc) = l.map (evG e' gc) := by cases l with | none => rfl | some y => simp only [Option.map_some]; rw [hv y (by simp [Op.operands])]
  have q3 : u.map (evG e gc) = u.map (evG e' gc) := by cases u with | none => rfl | some y => simp only [Option.map_some]; rw [hv y (by simp [Op.operands])]
  cases m <;> simp only [stepOp, pureStep, pureOp, memStep, memOp, moreOp, q, q2, q3]
 | call c =>
  have q : c.args.toList.map (evG e gc) = c.args.toList.map (evG e' gc) := List.map_congr_left fun p hp => hv p (by simp only [Op.operands, Call.operands, Array.mem_append]; exact .inr (by simpa using hp))
  simp only [stepOp]
  cases hc : c.callee with
  | value f =>
   have q2 := hv f (by simp [Op.operands, Call.operands, hc])
   simp only [q, q2]
  | builtin b => simp only [pureStep, pureOp, memStep, memOp, moreOp, hc, q]
  | invoke _ _ => rfl
 | next it s => have q := hv it (by simp [Op.operands]); simp only [stepOp, q]
 | entry it => have q := hv it (by simp [Op.operands]); simp only [stepOp, pureStep, pureOp, memStep, memOp, moreOp, q]
 | range t x => have q := hv x (by simp [Op.operands]); simp only [stepOp, pureStep, pureOp, memStep, memOp, moreOp, q]
 | lookup t x y ok => have q := hv x (by simp [Op.operands]); have q2 := hv y (by simp [Op.operands]); simp only [stepOp, pureStep, pureOp, memStep, memOp, moreOp, q, q2]
 | mapUpdate t x y z => have q := hv x (by simp [Op.operands]); have q2 := hv y (by simp [Op.operands]); have q3 := hv z (by simp [Op.operands]); simp only [stepOp, pureStep, pureOp, memStep, memOp, moreOp, q, q2, q3]
 | insert t x y z => have q := hv x (by simp [Op.operands]); have q2 := hv y (by simp [Op.operands]); have q3 := hv z (by simp [Op.operands]); simp only [stepOp, pureStep, pureOp, memStep, memOp, moreOp, q, q2, q3]
 | makeMap t r => cases r <;> rfl
 | _ => rfl
/-- What the state is nothing to. -/
theorem stepOp_pure {dst : Option Tmp} {op : Op} {gc : Bool} {e : Env} {st : St} {v : V} {side : Prop} (h : stepOp T an dst op gc e st = .pure v side) (s : St) : stepOp T an dst op gc e s = .pure v side := by
 have key : ∀ st, pureStep T an dst op (evG e gc) st = .pure v side → ∀ s, pureStep T an dst op (evG e gc) s = .pure v side := by
  intro st h s
  unfold pureStep at h ⊢
  cases hp : pureOp T op (evG e gc) with
  | some r => rw [hp] at h; exact h
  | none =>
   rw [hp] at h
   simp only [memStep] at h
   split at h
   ·cases h
   ·split at h <;> cases h
 unfold stepOp at h ⊢
 cases op with
 | pick c a b => exact h
 | panic x => cases h
 | slice t x lo hi mx =>
  cases mx with
  | some m => exact key st h s
  | none =>
   cases h3 : an (dst.getD 0) == 3 with
   | false => simp only [h3, cond_false] at h ⊢; exact key st h s
   | true => simp only [h3, cond_true] at h; generalize sufE T (T t).kind (evG e gc x) (lo.map (evG e gc)) (hi.map (evG e gc)) st = r at h; cases r <;> cases h
 | buildSlice t n ps =>
  cases h3 : an (dst.getD 0) == 0 with
  | false => simp only [h3, cond_false] at h ⊢; exact key st h s
  | true =>
   simp only [h3, cond_true] at h ⊢
   rcases lit_still (T := T) (t := t) (n := n) (ps := ps) (ev := evG e gc) h3 st with hs | ⟨v0, hs⟩
   ·rw [hs] at h; cases h
   ·rw [(hs st).2] at h; rw [(hs s).2]; exact h
 | next it s =>
  cases s with
  | true => cases h
  | false => simp only [cond_false] at h; generalize nextV (evG e gc it) st = r at h; cases r <;> cases h
 | call c =>
  simp only at h ⊢
  cases hc : c.callee with
  | value f => rw [hc] at h; simp only at h ⊢; split at h <;> cases h
  | builtin b => rw [hc] at h; exact key st h s
  | invoke _ _ => rw [hc] at h; cases h
 | _ => exact key st h s
theorem stepOp_call {dst : Option Tmp} {op : Op} {gc : Bool} {e : Env} {st : St} {f : FuncId} {args : List V} (h : stepOp T an dst op gc e st = .call f args) (s : St) : stepOp T an dst op gc e s = .call f args := by
 have key : ∀ st, pureStep T an dst op (evG e gc) st ≠ .call f args := by
  intro st h
  unfold pureStep memStep at h
  split at h
  ·cases h
  ·split at h
   ·cases h
   ·split at h <;> cases h
 unfold stepOp at h ⊢
 cases op with
 | pick c a b => simp only at h; split at h <;> cases h
 | panic x => cases h
 | slice t x lo hi mx =>
  cases mx with
  | some m => exact absurd h (key st)
  | none =>
   cases h3 : an (dst.getD 0) == 3 with
   | false => simp only [h3, cond_false] at h; exact absurd h (key st)
   | true => simp only [h3, cond_true] at h; generalize sufE T (T t).kind (evG e gc x) (lo.map (evG e gc)) (hi.map (evG e gc)) st = r at h; cases r <;> cases h
 | buildSlice t n ps =>
  cases h3 : an (dst.getD 0) == 0 with
  | false => simp only [h3, cond_false] at h; exact absurd h (key st)
  | true =>
   simp only [h3, cond_true] at h
   rcases lit_still (T := T) (t := t) (n := n) (ps := ps) (ev := evG e gc) h3 st with hs | ⟨v0, hs⟩
   ·rw [hs] at h; cases h
   ·rw [(hs st).2] at h; cases h
 | next it s =>
  cases s with
  | true => cases h
  | false => simp only [cond_false] at h; generalize nextV (evG e gc it) st = r at h; cases r <;> cases h
 | call c =>
  simp only at h ⊢
  cases hc : c.callee with
  | value f => rw [hc] at h; exact h
  | builtin b => rw [hc] at h; exact absurd h (key st)
  | invoke _ _ => rw [hc] at h; cases h
 | _ => exact absurd h (key st)
/-- May two operations be done in either order? -/
def indep (all : Array Oper) (x y : Oper × Nat) : Bool :=
 x.1.apart all y.1 && !(x.2 == 2 && y.2 != 0) && !(y.2 == 2 && x.2 != 0) && Nat.blt x.2 3 && Nat.blt y.2 3
theorem look_put_ne {e : Env} {d : Option Nat} {c : Bool} {v : V} {t : Nat} (h : d ≠ some t) : (e.put L d c v).look t = e.look t := by rw [put_look, if_neg h]
theorem guardV_put {all : Array Oper} {e : Env} {o x : Oper} {c : Bool} {v : V} (h : ∀ d, x.dst = some d → d ∉ o.looksAt all) : guardV all (e.put L x.dst c v) o.guard = guardV all e o.guard := by
 unfold guardV
 cases hg : o.guard with
 | none => rfl
 | some p =>
  obtain ⟨j, w⟩ := p
  simp only
  cases hd : dstAt all j with
  | none => rfl
  | some d =>
   simp only
   rw [look_put_ne]
   intro hx
   refine h d hx (List.mem_append_right _ ?_)
   simp only [hg]
   simp only [dstAt] at hd
   rw [hd]; simp
theorem stepOp_put {all : Array Oper} {e : Env} {o x : Oper} {c : Bool} {v : V} {gc : Bool} {st : St} (h : ∀ d, x.dst = some d → d ∉ o.looksAt all) : stepOp T an o.dst o.op gc (e.put L x.dst c v) st = stepOp T an o.dst o.op gc e st := by
 refine stepOp_congr fun y hy t ht => look_put_ne fun hx => ?_
 subst ht
 exact h t hx (List.mem_append_left _ (List.mem_filterMap.2 ⟨.tmp t, by simpa using hy, rfl⟩))
theorem guardV_same {all : Array Oper} {e e' : Env} (h : e.same e') (g : Option (Nat × Bool)) : guardV all e g = guardV all e' g := by
 unfold guardV
 cases g with
 | none => rfl
 | some p =>
  obtain ⟨j, w⟩ := p
  simp only
  cases dstAt all j with
  | none => rfl
  | some d => simp only [h.2 d]
theorem stepOp_same {e e' : Env} (h : e.same e') {dst : Option Tmp} {op : Op} {gc : Bool} {st : St} : stepOp T an dst op gc e st = stepOp T an dst op gc e' st := stepOp_congr fun _ _ t _ => h.2 t
/-- A condition, of environments that tell the same. -/
def Qe (L : List Nat) (Q : VExit → Env → St → Prop) (e : VExit) (env : Env) (st : St) : Prop := ∃ env0, env0.same env ∧ EnvOK L env0 ∧ Q e env0 st
theorem dOps_same {all : Array Oper} {Q : VExit → Env → St → Prop} : ∀ (os : List (Oper × Nat)) (e e' : Env) (st : St), e.same e' → EnvOK L e → dOps P T an L all os e st Q → dOps P T an L all os e' st (Qe L Q)
 | [], e, e', st, h, hok, hd => ⟨e, h, hok, hd⟩
 | (o, cl) :: os, e, e', st, h, hok, hd => by
  simp only [dOps] at hd ⊢
  rw [← guardV_same h]
  unfold bindO at hd ⊢
  split at hd
  ·rename_i gc hg
   obtain ⟨h1, h2⟩ := hd
   refine ⟨by rw [← h.1]; exact h1, ?_⟩
   rw [← stepOp_same h]
   obtain ⟨v, st', k1, k2⟩ := dStep_fun h2
   exact dStep_of k1 (dOps_same os _ _ _ (h.put _ _ _) (hok.put _ _ _) k2)
  ·exact hd
theorem dOps_mono {all : Array Oper} {Q Q' : VExit → Env → St → Prop} (hq : ∀ e env st, Q e env st → Q' e env st) : ∀ (os : List (Oper × Nat)) (e : Env) (st : St), dOps P T an L all os e st Q → dOps P T an L all os e st Q'
 | [], e, st, h => hq _ _ _ h
 | (o, cl) :: os, e, st, h => by
  simp only [dOps] at h ⊢
  unfold bindO at h ⊢
  split at h
  ·obtain ⟨h1, h2⟩ := h
   obtain ⟨v, st', k1, k2⟩ := dStep_fun h2
   exact ⟨h1, dStep_of k1 (dOps_mono hq os _ _ k2)⟩
  ·exact h
/-- What stands behind others that it may go ahead of. -/
theorem dOps_front {all : Array Oper} {Q : VExit → Env → St → Prop} (i : Oper × Nat) (post : List (Oper × Nat)) : ∀ (pre : List (Oper × Nat)) (e : Env) (st : St), (∀ x ∈ pre, indep all x i = true) → EnvOK L e →
  dOps P T an L all (pre ++ i :: post) e st Q → dOps P T an L all (i :: (pre ++ post)) e st (Qe L Q)
 | [], e, st, _, hok, h => dOps_same _ e e st ⟨rfl, fun _ => rfl⟩ hok h
 | x :: pre, e, st, hi, hok, h => by
  have hxi := hi x (by simp)
  simp only [indep, Bool.and_eq_true, Bool.not_eq_true', Bool.and_eq_false_iff, beq_eq_false_iff_ne, bne_eq_false_iff_eq, Nat.blt_eq] at hxi
  obtain ⟨⟨⟨⟨hap, hc1⟩, hc2⟩, hlx⟩, hli⟩ := hxi
  obtain ⟨a1, a2, a3⟩ := Oper.apart_spec hap
  obtain ⟨ox, cx⟩ := x
  obtain ⟨oi, ci⟩ := i
  simp only at hc1 hc2 a1 a2 a3 hlx hli
  rw [List.cons_append] at h
  simp only [dOps] at h
  unfold bindO at h
  split at h
  case h_2 => exact h.elim
  rename_i gx hgx
  obtain ⟨hdx, h⟩ := h
  obtain ⟨vx, st1, fx, h⟩ := dStep_fun h
  have h := dOps_front (oi, ci) post pre _ st1 (fun y hy => hi y (by simp [hy])) (hok.put _ _ _) h
  simp only [dOps] at h
  unfold bindO at h
  split at h
  case h_2 => exact h.elim
  rename_i gi hgi
  obtain ⟨hdi, h⟩ := h
  obtain ⟨vi, st2, fi, h⟩ := dStep_fun h
  rw [guardV_put a1] at hgi
  rw [stepOp_put a1] at fi
  rw [put_N] at hdi
  have hsame : ((e.put L ox.dst gx vx).put L oi.dst gi vi).same ((e.put L oi.dst gi vi).put L ox.dst gx vx) := by
   refine ⟨by simp only [put_N], fun t => ?_⟩
   simp only [put_look]
   by_cases h1 : oi.dst = some t
   ·by_cases h2 : ox.dst = some t
    ·exact absurd h1 (a2 t h2)
    ·simp [h1, h2]
   ·by_cases h2 : ox.dst = some t <;> simp [h1, h2]
  have h := dOps_same _ _ _ _ hsame ((hok.put _ _ _).put _ _ _) h
  have hmono : ∀ e1 env1 s1, Qe L (Qe L Q) e1 env1 s1 → Qe L Q e1 env1 s1 := by
   rintro e1 env1 s1 ⟨e2, q1, q2, e3, q3, q4, q5⟩
   exact ⟨e3, ⟨q3.1.trans q1.1, fun t => (q3.2 t).trans (q1.2 t)⟩, q4, q5⟩
  -- the two steps, the other way round
  have swap : ∃ s1, dFun P T (stepOp T an oi.dst oi.op gi e st) gi ci st vi s1 ∧ dFun P T (stepOp T an ox.dst ox.op gx e s1) gx cx s1 vx st2 := by
   have still : ∀ {r : Step} {gc : Bool} {cl : Nat} {s s' : St} {v : V}, dFun P T r gc cl s v s' → cl ≠ 2 → cl < 3 → s' = s := by
    intro r gc cl s s' v hf h2 h3
    unfold dFun at hf
    split at hf
    ·exact hf.2.1
    ·obtain ⟨_, rfl, _, h4, _⟩ := hf
     rcases h4 with h4 | h4
     ·exact absurd h4 h2
     ·exact h4.2
    ·match cl, hf, h2, h3 with
     | 0, hf, _, _ => exact hf.1
     | 1, hf, _, _ => exact hf.1
     | n + 2, _, h2, h3 => exact absurd (by omega : n + 2 = 2) h2
    ·exact hf.elim
   have free : ∀ {dst : Option Tmp} {op : Op} {gc : Bool} {s s' : St} {v : V}, dFun P T (stepOp T an dst op gc e s) gc 0 s v s' → ∀ s2, dFun P T (stepOp T an dst op gc e s2) gc 0 s2 v s2 := by
    intro dst op gc s s' v hf s2
    generalize hr : stepOp T an dst op gc e s = r at hf
    unfold dFun at hf
    split at hf
    ·rw [stepOp_pure hr s2]; exact ⟨hf.1, rfl, hf.2.2⟩
    ·obtain ⟨_, _, _, h4, _⟩ := hf
     rcases h4 with h4 | ⟨h4, _⟩ <;> cases h4
    ·rw [stepOp_call hr s2]; exact ⟨rfl, hf.2⟩
    ·exact hf.elim
   by_cases hx2 : cx = 2
   ·have hi0 : ci = 0 := hc1.resolve_left (fun h => h hx2)
    subst hi0
    have e1 := still fi (by decide) (by decide)
    subst e1
    exact ⟨st, free fi st, fx⟩
   ·have e1 := still fx hx2 hlx
    subst e1
    by_cases hi2 : ci = 2
    ·have hx0 : cx = 0 := hc2.resolve_left (fun h => h hi2)
     subst hx0
     exact ⟨st2, fi, free fx st2⟩
    ·have e2 := still fi hi2 hli
     subst e2
     exact ⟨st2, fi, fx⟩
  obtain ⟨s1, k1, k2⟩ := swap
  simp only [dOps]
  rw [hgi]
  refine ⟨hdi, dStep_of k1 ?_⟩
  rw [List.cons_append]
  simp only [dOps]
  rw [guardV_put a3, hgx]
  refine ⟨by rw [put_N]; exact hdx, ?_⟩
  rw [stepOp_put a3]
  exact dStep_of k2 (dOps_mono hmono _ _ _ h)
variable {ds : List Deferred}
theorem step_did (hT : Tab P T) {g : G} {w : World} {st st' : St} {env : Env} {a : Act} (hst : SimSt T g st w) (henv : SimEnv g w env a) {o : Oper} {v : V} {side : Prop}
  (h : stepOp T an o.dst o.op true env st = .pure v side ∧ st' = st ∨ stepOp T an o.dst o.op true env st = .mem v st' side) (hs : side) : Did P T a.eval o g w v st' := by
 have hev : ∀ x, SimV g w (evG env true x) (a.eval x) := fun x => evG_sim henv rfl x
 have key : (pureStep T an o.dst o.op (evG env true) st = .pure v side ∧ st' = st ∨ pureStep T an o.dst o.op (evG env true) st = .mem v st' side) → Did P T a.eval o g w v st' := by
  intro h
  unfold pureStep at h
  cases hp : pureOp T o.op (evG env true) with
  | some r =>
   rw [hp] at h
   simp only [Step.pure.injEq, reduceCtorEq, or_false] at h
   obtain ⟨⟨h1, h2⟩, rfl⟩ := h
   refine Did.of_pure hst ?_
   obtain ⟨dst, op, ty, pos, aft, gd⟩ := o
   refine pureOp_sound hT hev (v := v) (side := side) ?_ hs
   rw [hp, ← h1, ← h2]
  | none =>
   rw [hp] at h
   simp only [memStep] at h
   cases hm : memOp T an o.dst o.op (evG env true) st with
   | some r =>
    rw [hm] at h
    simp only [Step.mem.injEq, reduceCtorEq, false_and, false_or] at h
    obtain ⟨h1, h2, h3⟩ := h
    exact memOp_sound hT hst hev (by rw [hm, ← h1, ← h2, ← h3]) hs
   | none =>
    rw [hm] at h
    simp only at h
    cases hq : moreOp T o.op (evG env true) st with
    | some r =>
     rw [hq] at h
     simp only [Step.mem.injEq, reduceCtorEq, false_and, false_or] at h
     obtain ⟨h1, h2, h3⟩ := h
     exact moreOp_sound hT hst hev (by rw [hq, ← h1, ← h2, ← h3]) hs
    | none => rw [hq] at h; simp at h
 cases hop : o.op with
 | pick c x y =>
  simp only [hop, stepOp] at h
  cases hp : pickV env true c x y with
  | none => rw [hp] at h; simp at h
  | some r =>
   rw [hp] at h
   simp only [Step.pure.injEq, reduceCtorEq, or_false] at h
   obtain ⟨⟨h1, h2⟩, rfl⟩ := h
   exact Did.of_pure hst (s_pick henv rfl (by rw [hp, ← h1, ← h2]) hs hop)
 | panic x => simp [hop, stepOp] at h
 | slice t x lo hi mx =>
  cases mx with
  | some m => simp only [hop, stepOp] at h; exact key (by rw [hop]; exact h)
  | none =>
   simp only [hop, stepOp] at h
   cases h3 : an (o.dst.getD 0) == 3 with
   | false => simp only [h3, cond_false] at h; exact key (by rw [hop]; exact h)
   | true =>
    simp only [h3, cond_true] at h
    cases hq : sufE T (T t).kind (evG env true x) (lo.map (evG env true)) (hi.map (evG env true)) st with
    | none => rw [hq] at h; simp [sufS] at h
    | some r =>
     rw [hq] at h
     simp only [sufS, Step.mem.injEq, reduceCtorEq, false_and, false_or] at h
     obtain ⟨h1, h2, h3⟩ := h
     exact s_suf hT hst hev hop (by rw [hq, ← h1, ← h2, ← h3]) hs
 | buildSlice t n ps =>
  simp only [hop, stepOp] at h
  cases h3 : an (o.dst.getD 0) == 0 with
  | false => simp only [h3, cond_false] at h; exact key (by rw [hop]; exact h)
  | true =>
   simp only [h3, cond_true] at h
   rcases lit_still (T := T) (t := t) (n := n) (ps := ps) (ev := evG env true) h3 st with hs' | ⟨v0, hs'⟩
   ·rw [hs'] at h; simp [toPure] at h
   ·rw [(hs' st).2] at h
    simp only [toPure, Step.pure.injEq, reduceCtorEq, or_false] at h
    obtain ⟨⟨h1, h2⟩, rfl⟩ := h
    exact memOp_sound hT hst hev (by rw [hop, ← h1]; exact (hs' _).1) trivial
 | next it s =>
  simp only [hop, stepOp] at h
  cases s with
  | true => simp at h
  | false => simp only [cond_false] at h; generalize nextV (evG env true it) st = r at h; cases r <;> simp [anyS] at h
 | call c =>
  simp only [hop, stepOp] at h
  cases hc : c.callee with
  | value f => rw [hc] at h; simp only at h; split at h <;> simp at h
  | builtin b => rw [hc] at h; exact key (by rw [hop]; exact h)
  | invoke _ _ => rw [hc] at h; simp at h
 | _ => all_goals (simp only [hop, stepOp] at h; exact key (by rw [hop]; exact h))
theorem dstep_sem (hT : Tab P T) {all : Array Oper} {g : G} {w : World} {st st' : St} {env : Env} {a : Act} (hst : SimSt T g st w) (henv : SimEnv g w env a) (hok : EnvOK L env) (hds : a.defers = ds) {o : Oper} {gc : Bool} {cl : Nat} {v : V}
  (hgc : guardV all env o.guard = some gc) (hd : okDstB env.N o.dst) (hf : dFun P T (stepOp T an o.dst o.op gc env st) gc cl st v st') {K : Act → World → Prop} {QQ : Exit → Act → World → Prop}
  (hK : ∀ g' w' a', Ext g w g' w' → SimSt T g' st' w' → SimEnv g' w' (env.put L o.dst gc v) a' → EnvOK L (env.put L o.dst gc v) → a'.defers = ds → K a' w') :
  if Region.wanted o (yielded all a.tmps) then o.wp P a w K QQ ∨ (o.asks P a w ∧ LetsOut QQ) else K (a.put o.dst undef) w := by
 have hw := guardV_wanted henv hgc
 have off : gc = false → st' = st → K (a.put o.dst undef) w := by
  intro h1 h2
  subst h1; subst h2
  exact hK g w _ (Ext.refl _ _) hst (henv.put o.dst hd (by simp)) (hok.put _ _ _) (by cases hh : o.dst <;> simpa [Act.put] using hds)
 have on : gc = true → Did P T a.eval o g w v st' → o.wp P a w K QQ := by
  intro hg hdid
  subst hg
  obtain ⟨r, val, w', g', h1, h2, h3, h4, h5⟩ := hdid
  have hp := (henv.ext h5).put (L := L) o.dst hd (c := true) (v := v) (val := val) (by simpa using h3)
  have := hK g' w' _ h5 h4 hp (hok.put _ _ _) (by cases hh : o.dst <;> simpa [Act.put] using hds)
  unfold Oper.wp Oper.upon
  rcases h2 with rfl | ⟨rfl, rfl⟩ <;> rw [h1] <;> exact this
 rw [hw]
 generalize hr : stepOp T an o.dst o.op gc env st = r at hf
 unfold dFun at hf
 split at hf
 ·obtain ⟨rfl, rfl, hs⟩ := hf
  cases gc with
  | true => simp only [if_true]; exact .inl (on rfl (step_did hT hst henv (.inl ⟨hr, rfl⟩) (hs rfl)))
  | false => simp only [Bool.false_eq_true, if_false]; exact off rfl rfl
 ·obtain ⟨rfl, rfl, h0, _, hs⟩ := hf
  cases gc with
  | true => simp only [if_true]; exact .inl (on rfl (step_did hT hst henv (.inr hr) (hs rfl)))
  | false => simp only [Bool.false_eq_true, if_false]; exact off rfl (h0.resolve_left (by simp))
 ·rename_i k args
  have hcall : gc = true → VCalls P T k args st fun r s' => r = .ret v ∧ s' = st' := by
   intro hg
   match cl, hf with
   | 0, hf => have := hf.2 hg st; rw [hf.1]; exact this
   | 1, hf => have := hf.2 hg; rw [hf.1]; exact this
   | n + 2, hf => exact hf.2
  have hoff : gc = false → st' = st := by
   intro hg
   match cl, hf with
   | 0, hf => exact hf.1
   | 1, hf => exact hf.1
   | n + 2, hf => rw [hg] at hf; cases hf.1
  cases gc with
  | false => simp only [Bool.false_eq_true, if_false]; exact off rfl (hoff rfl)
  | true =>
   simp only [if_true]
   left
   have hev : ∀ x, SimV g w (evG env true x) (a.eval x) := fun x => evG_sim henv rfl x
   obtain ⟨⟨fn, e1, e2, e3⟩, hcall⟩ := hcall rfl
   have henter : ∃ vals : List Value, (execOp a.eval o).run P w = (callFunc k vals.toArray).run P w ∧ SimVs g w args vals := by
    unfold stepOp at hr
    split at hr
    ·split at hr <;> cases hr
    ·cases hr
    ·generalize (an (o.dst.getD 0) == 3) = bb at hr
     cases bb with
     | false =>
      simp only [cond_false] at hr
      unfold pureStep memStep at hr
      split at hr
      ·cases hr
      ·split at hr
       ·cases hr
       ·split at hr <;> cases hr
     | true =>
      simp only [cond_true, sufS] at hr
      split at hr <;> cases hr
    ·rename_i t n ps hop
     rw [hop] at hr
     exact absurd hr (lit_ncall (T := T) (an := an) (dst := o.dst) (gc := true) (env := env) (st := st) (t := t) (n := n) (ps := ps) k args)
    ·rename_i it c hop
     cases c with
     | true => cases hr
     | false => simp only [cond_false] at hr; generalize nextV (evG env true it) st = r at hr; cases r <;> cases hr
    ·rename_i c hop
     split at hr
     ·rename_i f hcal
      split at hr
      case h_2 => cases hr
      rename_i k' cap hfe'
      cases hr
      have hfv := hev f
      rw [hfe'] at hfv
      simp only [SimV] at hfv
      obtain ⟨vs, hfe, hvs⟩ := hfv
      refine ⟨c.args.toList.map a.eval ++ vs, ?_, (evs_sim hev _).append hvs⟩
      have e : c.args.map a.eval ++ vs.toArray = (c.args.toList.map a.eval ++ vs).toArray := by apply Array.ext'; simp
      simp [execOp, hop, resolve, hcal, hfe, Deferred.ofValue, invoke, e]
     ·unfold pureStep memStep at hr
      split at hr
      ·cases hr
      ·split at hr
       ·cases hr
       ·split at hr <;> cases hr
     ·cases hr
    ·unfold pureStep memStep at hr
     split at hr
     ·cases hr
     ·split at hr
      ·cases hr
      ·split at hr <;> cases hr
   obtain ⟨vals, q1, q2⟩ := henter
   have hcf : (callFunc k vals.toArray).run P w = .ok (.enter k vals.toArray) w := by
    have e2' : ¬ fn.body = none := by intro hb; rw [hb] at e2; simp at e2
    have e3' : ¬ fn.name = "runtime.NumGoroutine" := by simpa using e3
    simp [callFunc, e1, e2', e3']
   unfold Oper.wp Oper.upon
   rw [q1, hcf]
   refine (hcall g w vals hst q2).mono fun e w' ⟨r, s', g', ⟨k1, k1'⟩, k2, k3, k4⟩ => ?_
   subst k1; subst k1'
   obtain ⟨val, rfl, hv⟩ := k2
   have hp := (henv.ext k4).put (L := L) o.dst hd (c := true) (v := v) (val := val) (by simpa using hv)
   exact hK g' w' _ k4 k3 hp (hok.put _ _ _) (by cases hh : o.dst <;> simpa [Act.put] using hds)
 ·exact hf.elim
def reach (all : Array Oper) : Nat → Nat → Nat → Bool
 | 0, _, _ => false
 | n + 1, x, i => match all[i]? with
  | none => false
  | some o => o.after.any fun e => Region.binds .any e && (e.on == x || reach all n x e.on)
def atC (all : Array Oper) (cls : List Nat) (i : Nat) : Oper × Nat := (all.getD i default, cls.getD i 0)
/-- Is what depends on the state ordered? -/
def drawB (all : Array Oper) (cls : List Nat) : Bool :=
 (List.range all.size).all fun j => (match all[j]? with | none => false | some o => o.after.all fun e => !Region.binds .any e || Nat.blt e.on j) &&
  (List.range j).all fun i => reach all 3 i j || indep all (atC all cls i) (atC all cls j)
structure Left (all : Array Oper) (listed : Array Bool) (rs : List Nat) : Prop where
 sorted : rs.Pairwise (· < ·)
 mem : ∀ i, i ∈ rs ↔ i < all.size ∧ listed.getD i true = false
 size : listed.size = all.size
 down : ∀ j o, all[j]? = some o → listed.getD j true = true → ∀ e ∈ o.after.toList, Region.binds .any e = true → listed.getD e.on false = true
theorem getD_of_size {listed : Array Bool} {i : Nat} (h : i < listed.size) (b c : Bool) : listed.getD i b = listed.getD i c := by
 simp [Array.getD_eq_getD_getElem?, h]
theorem reach_listed {all : Array Oper} {listed : Array Bool} {rs : List Nat} (hl : Left all listed rs) : ∀ (n x i : Nat) (o : Oper), all[i]? = some o → (∀ e ∈ o.after.toList, Region.binds .any e = true → listed.getD e.on false = true) → reach all n x i = true → listed.getD x false = true
 | 0, x, i, o, ho, ha, h => by cases h
 | n + 1, x, i, o, ho, ha, h => by
  simp only [reach, ho, ← Array.any_toList, List.any_eq_true, Bool.and_eq_true, Bool.or_eq_true, beq_iff_eq] at h
  obtain ⟨e, he, hb, h⟩ := h
  have h1 := ha e he hb
  rcases h with h | h
  ·rw [← h]; exact h1
  ·have hlt : e.on < listed.size := by
    rcases Nat.lt_or_ge e.on listed.size with h2 | h2
    ·exact h2
    ·simp [Array.getD_eq_getD_getElem?, h2] at h1
   have hlt2 : e.on < all.size := by rw [← hl.size]; exact hlt
   refine reach_listed hl n x e.on _ (Array.getElem?_eq_getElem hlt2) (hl.down e.on _ (Array.getElem?_eq_getElem hlt2) (by rw [getD_of_size hlt true false]; exact h1)) h
theorem draw_sound (hT : Tab P T) {all : Array Oper} {cls : List Nat} (hB : drawB all cls = true) {Q : VExit → Env → St → Prop} {g0 : G} {w0 : World} :
  ∀ (rs : List Nat) (listed : Array Bool) (env : Env) (st : St) (g : G) (w : World) (a : Act), Left all listed rs → Ext g0 w0 g w → SimSt T g st w → SimEnv g w env a → EnvOK L env → a.defers = ds →
   dOps P T an L all (rs.map (atC all cls)) env st (Qe L Q) → wpAny P .any all (Lift T L ds g0 w0 Q) rs.length listed a w := by
 intro rs
 generalize hn : rs.length = n
 induction n generalizing rs with
 | zero =>
  intro listed env st g w a hl hx hst henv hok hds h
  have : rs = [] := List.eq_nil_of_length_eq_zero hn
  subst this
  refine ⟨?_, ?_⟩
  ·unfold Region.ready
   rw [List.filter_eq_nil_iff]
   intro i hi hr
   have hi' : i < all.size := by simpa using hi
   have : listed.getD i true = false := by simp only [Bool.and_eq_true, Bool.not_eq_true'] at hr; exact hr.1
   have := (hl.mem i).2 ⟨hi', this⟩
   simp at this
  ·obtain ⟨env0, q1, q2, q3⟩ := h
   exact ⟨.normal, env0, st, g, q3, rfl, ⟨henv.1.trans q1.1.symm, fun t c v hv => henv.2 t c v (by rw [← q1.2 t]; exact hv)⟩, q2, hds, hst, hx⟩
 | succ n ih =>
  intro listed env st g w a hl hx hst henv hok hds h
  have hB' := hB
  simp only [drawB, List.all_eq_true, List.mem_range, Bool.and_eq_true] at hB'
  refine ⟨fun hr => ?_, fun i hi => ?_⟩
  ·exfalso
   cases hrs : rs with
   | nil => rw [hrs] at hn; simp at hn
   | cons r rs' =>
    have hr1 := (hl.mem r).1 (by rw [hrs]; simp)
    have hin : r ∈ Region.ready .any all listed := by
     unfold Region.ready
     simp only [List.mem_filter, List.mem_range, Bool.and_eq_true, Bool.not_eq_true']
     refine ⟨hr1.1, hr1.2, ?_⟩
     rw [Array.getElem?_eq_getElem hr1.1]
     simp only [Option.map_some, Option.getD_some, ← Array.all_toList, List.all_eq_true, Bool.or_eq_true, Bool.not_eq_true']
     intro e he
     have h1 := (hB' r hr1.1).1
     rw [Array.getElem?_eq_getElem hr1.1] at h1
     simp only [← Array.all_toList, List.all_eq_true, Bool.or_eq_true, Bool.not_eq_true', Nat.blt_eq] at h1
     rcases h1 e he with h2 | h2
     ·exact .inl h2
     ·right
      have hlt : e.on < listed.size := by rw [hl.size]; omega
      rw [getD_of_size hlt false true]
      cases hc : listed.getD e.on true with
      | true => rfl
      | false =>
       have := (hl.mem e.on).2 ⟨by omega, hc⟩
       rw [hrs] at this
       rcases List.mem_cons.1 this with h3 | h3
       ·omega
       ·have hs := hl.sorted
        rw [hrs] at hs
        have := List.rel_of_pairwise_cons hs h3
        omega
    rw [hr] at hin
    simp at hin
  ·unfold Region.ready at hi
   simp only [List.mem_filter, List.mem_range, Bool.and_eq_true, Bool.not_eq_true'] at hi
   obtain ⟨hi1, hi2, hi3⟩ := hi
   rw [Array.getElem?_eq_getElem hi1] at hi3
   simp only [Option.map_some, Option.getD_some, ← Array.all_toList, List.all_eq_true, Bool.or_eq_true, Bool.not_eq_true'] at hi3
   have hafter : ∀ e ∈ all[i].after.toList, Region.binds .any e = true → listed.getD e.on false = true := fun e he hb => (hi3 e he).resolve_left (by rw [hb]; simp)
   have himem := (hl.mem i).2 ⟨hi1, hi2⟩
   obtain ⟨pre, post, hsplit⟩ := List.append_of_mem himem
   have hs := hl.sorted
   rw [hsplit] at hs
   have hpre : ∀ x ∈ pre, x < i := fun x hx => (List.pairwise_append.1 hs).2.2 x hx i (by simp)
   have hind : ∀ x ∈ pre.map (atC all cls), indep all x (atC all cls i) = true := by
    intro y hy
    obtain ⟨x, hx, rfl⟩ := List.mem_map.1 hy
    have hxi := hpre x hx
    have := (hB' i hi1).2 x hxi
    simp only [Bool.or_eq_true] at this
    refine this.resolve_left fun hr => ?_
    have h1 := reach_listed hl 3 x i _ (Array.getElem?_eq_getElem hi1) hafter hr
    have h2 := (hl.mem x).1 (by rw [hsplit]; simp [hx])
    rw [getD_of_size (by rw [hl.size]; exact h2.1) false true, h2.2] at h1
    cases h1
   rw [hsplit, List.map_append, List.map_cons] at h
   have h := dOps_front (atC all cls i) (post.map (atC all cls)) (pre.map (atC all cls)) env st hind hok h
   have hat : (atC all cls i).1 = all[i] := by simp [atC, Array.getD_eq_getD_getElem?, hi1]
   rcases hai : atC all cls i with ⟨oi, ci⟩
   simp only [hai] at hat
   rw [hai] at h
   simp only [dOps] at h
   unfold bindO at h
   split at h
   case h_2 => exact h.elim
   rename_i gc hgc
   obtain ⟨hd, h⟩ := h
   obtain ⟨v, st', hf, h⟩ := dStep_fun h
   have hmono : ∀ e1 env1 s1, Qe L (Qe L Q) e1 env1 s1 → Qe L Q e1 env1 s1 := by
    rintro e1 env1 s1 ⟨e2, q1, q2, e3, q3, q4, q5⟩
    exact ⟨e3, ⟨q3.1.trans q1.1, fun t => (q3.2 t).trans (q1.2 t)⟩, q4, q5⟩
   have h := dOps_mono hmono _ _ _ h
   rw [← List.map_append] at h
   simp only [wpOp, Array.getElem?_eq_getElem hi1]
   rw [← hat]
   refine dstep_sem hT hst henv hok hds hgc hd hf fun g' w' a' k1 k2 k3 k4 k5 => ?_
   refine ih (pre ++ post) (by rw [hsplit] at hn; simp at hn ⊢; omega) _ _ st' g' w' a' ?_ (hx.trans k1) k2 k3 k4 k5 h
   have hlsz : i < listed.size := by rw [hl.size]; exact hi1
   have hget : ∀ j b, (listed.setIfInBounds i true).getD j b = if i = j then true else listed.getD j b := by
    intro j b
    simp only [Array.getD_eq_getD_getElem?, Array.getElem?_setIfInBounds]
    by_cases hj : i = j
    ·subst hj; simp [hlsz]
    ·simp [hj]
   refine ⟨?_, fun j => ?_, by simp [hl.size], fun j o ho hj e he hb => ?_⟩
   ·have := hs
    exact this.sublist (by simp)
   ·rw [hget]
    by_cases hj : i = j
    ·subst hj
     simp only [if_true, reduceCtorEq, and_false, iff_false]
     intro hm
     rcases List.mem_append.1 hm with hm | hm
     ·exact absurd (hpre i hm) (Nat.lt_irrefl i)
     ·have := List.rel_of_pairwise_cons (List.pairwise_append.1 hs).2.1 hm
      exact absurd this (Nat.lt_irrefl i)
    ·rw [if_neg hj, ← hl.mem j, hsplit]
     simp only [List.mem_append, List.mem_cons]
     constructor
     ·rintro (h | h)
      ·exact .inl h
      ·exact .inr (.inr h)
     ·rintro (h | h | h)
      ·exact .inl h
      ·exact absurd h.symm hj
      ·exact .inr h
   ·rw [hget] at hj ⊢
    have hlist : listed.getD e.on false = true := by
     by_cases hji : i = j
     ·subst hji
      rw [Array.getElem?_eq_getElem hi1] at ho
      cases ho
      exact hafter e he hb
     ·rw [if_neg hji] at hj
      exact hl.down j o ho hj e he hb
    split
    ·rfl
    ·exact hlist
def zipC : List Oper → List Nat → List (Oper × Nat)
 | [], _ => []
 | o :: os, [] => (o, 0) :: zipC os []
 | o :: os, c :: cs => (o, c) :: zipC os cs
theorem zipC_eq : ∀ (os : List Oper) (cs : List Nat), (List.range os.length).map (atC os.toArray cs) = zipC os cs
 | [], cs => rfl
 | o :: os, [] => by
  rw [List.length_cons, List.range_succ_eq_map, List.map_cons, List.map_map, zipC, ← zipC_eq os []]
  congr 1
  exact List.map_congr_left fun i _ => by simp [atC, Array.getD_eq_getD_getElem?]
 | o :: os, c :: cs => by
  rw [List.length_cons, List.range_succ_eq_map, List.map_cons, List.map_map, zipC, ← zipC_eq os cs]
  congr 1
  exact List.map_congr_left fun i _ => by simp [atC, Array.getD_eq_getD_getElem?]
theorem Ext.drew (g : G) (w : World) : Ext g w g w.drew :=
 ⟨rfl, rfl, rfl, Nat.le_refl _, Nat.le_refl _, fun _ _ => rfl, fun _ _ => Nat.le_refl _, fun _ _ _ => rfl, fun _ _ h => ⟨rfl, h⟩, fun _ _ _ h => ⟨fun _ _ => rfl, fun k' h' => by rw [h] at h'; cases h'; exact Nat.le_refl _⟩, fun _ _ => rfl⟩
/-- A region whose order is drawn. -/
theorem VC.draw (hT : Tab P T) (hm : P.follows .mixedOrders = true) {id : Nat} {os : List Oper} {cls : List Nat} {env : Env} {st : St} {Q : VExit → Env → St → Prop} (hB : drawB os.toArray cls = true)
  (h : dOps P T an L os.toArray (zipC os cls) ⟨env.N, env.g, []⟩ st Q) : VC P T L ds (.region id os.toArray true) env st Q := by
 intro g w a h1 h2 h3 h4
 refine wp_region_any hm ?_
 have hx := Ext.drew g w
 have henv : SimEnv g w ⟨env.N, env.g, []⟩ a := ⟨h2.1, fun t c v hv => h2.2 t c v (h3 t _ (by simpa [Env.look, find] using hv)).2⟩
 have hok : EnvOK L ⟨env.N, env.g, []⟩ := fun t x hx => ⟨(h3 t x hx).1, by simpa [Env.look, find] using hx⟩
 have h5 : SimSt T g st w.drew := h1.keep hx rfl (fun _ _ => rfl) fun b _ _ => ⟨rfl, rfl⟩
 have hd := dOps_same _ _ _ st ⟨rfl, fun _ => rfl⟩ hok h
 rw [← zipC_eq] at hd
 have hl : Left os.toArray (Array.replicate os.toArray.size false) (List.range os.length) := by
  refine ⟨List.pairwise_lt_range, fun i => ?_, by simp, fun j o ho hj => ?_⟩
  ·simp only [List.mem_range, List.size_toArray, Array.getD_eq_getD_getElem?]
   constructor
   ·intro hi; exact ⟨hi, by simp [Array.getElem?_replicate, hi]⟩
   ·exact fun hi => hi.1
  ·exfalso
   have hlt : j < os.length := by simpa using (Array.getElem?_eq_some_iff.1 ho).1
   simp [Array.getD_eq_getD_getElem?, Array.getElem?_replicate, hlt] at hj
 have := draw_sound hT hB (Q := Q) (g0 := g) (w0 := w) (List.range os.length) _ _ st g w.drew a hl hx h5 (henv.ext hx) hok h4 hd
 rw [List.length_range] at this
 simpa using this
end
section
variable (P : Program) (T : Nat → TI) (an : Nat → Nat) (L : List Nat) (ds : List Deferred)
def dK (all : Array Oper) (os : List Oper) (cs : List Nat) (env : Env) (st : St) (k : Kont) (Q : VExit → Env → St → Prop) : Prop := dOps P T an L all (zipC os cs) env st (qK P T an L ds k Q)
def eK (r : Step) (gc : Bool) (c : Nat) (dst : Option Tmp) (all : Array Oper) (os : List Oper) (cs : List Nat) (env : Env) (st : St) (k : Kont) (Q : VExit → Env → St → Prop) : Prop :=
 dStep P T r gc c st fun v st' => dOps P T an L all (zipC os cs) (env.put L dst gc v) st' (qK P T an L ds k Q)
def hK (g : Option Bool) (dst : Option Tmp) (op : Op) (c : Nat) (all : Array Oper) (os : List Oper) (cs : List Nat) (env : Env) (st : St) (k : Kont) (Q : VExit → Env → St → Prop) : Prop :=
 match g with
 | some gc => okDstB env.N dst ∧ eK P T an L ds (stepOp T an dst op gc env st) gc c dst all os cs env st k Q
 | none => False
variable {P T an L ds}
theorem vdraw (hT : Tab P T) (hm : P.follows .mixedOrders = true) {id : Nat} {os : List Oper} (cls : List Nat) {N : Nat} {g l : List (Nat × Bool × V)} {st : St} {k : Kont} {Q : VExit → Env → St → Prop} (hB : drawB os.toArray cls = true)
  (h : dK P T an L ds os.toArray os cls ⟨N, g, []⟩ st k Q) : VC P T L ds (.region id os.toArray true) ⟨N, g, l⟩ st (qK P T an L ds k Q) := VC.draw hT hm hB h
/-- A call that looks at no state. -/
theorem eK_free {f : FuncId} {args args' : List V} {gc : Bool} {dst : Option Tmp} {all : Array Oper} {os : List Oper} {cs : List Nat} {env : Env} {st : St} {k : Kont} {Q : VExit → Env → St → Prop} {v : V}
  (h : ∀ s, VCalls P T f args' s fun r s' => r = .ret v ∧ s' = s) (hw : wkL args args') (h2 : dK P T an L ds all os cs (env.put L dst gc v) st k Q) : eK P T an L ds (.call f args) gc 0 dst all os cs env st k Q := ⟨v, fun _ s => (h s).args hw, h2⟩
/-- A call that looks at the state, and leaves it. -/
theorem eK_still {f : FuncId} {args args' : List V} {gc : Bool} {dst : Option Tmp} {all : Array Oper} {os : List Oper} {cs : List Nat} {env : Env} {st : St} {k : Kont} {Q : VExit → Env → St → Prop} {v : V}
  (h : gc = true → VCalls P T f args' st fun r s' => r = .ret v ∧ s' = st) (hw : wkL args args') (h2 : dK P T an L ds all os cs (env.put L dst gc v) st k Q) : eK P T an L ds (.call f args) gc 1 dst all os cs env st k Q := ⟨v, fun hg => (h hg).args hw, h2⟩
end
theorem gwD :
  (∀ (P : Program) (T : Nat → TI) (an : Nat → Nat) (L : List Nat) (ds : List Deferred) (env : Env) (st : St) (k : Kont) (Q : VExit → Env → St → Prop) (all : Array Oper), dK P T an L ds all [] [] env st k Q = qK P T an L ds k Q .normal env st) ∧
  (∀ (P : Program) (T : Nat → TI) (an : Nat → Nat) (L : List Nat) (ds : List Deferred) (env : Env) (st : St) (k : Kont) (Q : VExit → Env → St → Prop) (all : Array Oper) (dst : Option Tmp) (op : Op) (ty : TypeId) (pos : String) (aft : Array Edge) (os : List Oper) (c : Nat) (cs : List Nat), dK P T an L ds all (⟨dst, op, ty, pos, aft, none⟩ :: os) (c :: cs) env st k Q = (okDstB env.N dst ∧ eK P T an L ds (stepOp T an dst op true env st) true c dst all os cs env st k Q)) ∧
  (∀ (P : Program) (T : Nat → TI) (an : Nat → Nat) (L : List Nat) (ds : List Deferred) (env : Env) (st : St) (k : Kont) (Q : VExit → Env → St → Prop) (all : Array Oper) (dst : Option Tmp) (op : Op) (ty : TypeId) (pos : String) (aft : Array Edge) (gd : Nat × Bool) (os : List Oper) (c : Nat) (cs : List Nat), dK P T an L ds all (⟨dst, op, ty, pos, aft, some gd⟩ :: os) (c :: cs) env st k Q = hK P T an L ds (guardV all env (some gd)) dst op c all os cs env st k Q) ∧
  (∀ (P : Program) (T : Nat → TI) (an : Nat → Nat) (L : List Nat) (ds : List Deferred) (env : Env) (st : St) (k : Kont) (Q : VExit → Env → St → Prop) (all : Array Oper) (dst : Option Tmp) (op : Op) (os : List Oper) (gc : Bool) (c : Nat) (cs : List Nat), hK P T an L ds (some gc) dst op c all os cs env st k Q = (okDstB env.N dst ∧ eK P T an L ds (stepOp T an dst op gc env st) gc c dst all os cs env st k Q)) ∧
  (∀ (P : Program) (T : Nat → TI) (an : Nat → Nat) (L : List Nat) (ds : List Deferred) (env : Env) (st : St) (k : Kont) (Q : VExit → Env → St → Prop) (all : Array Oper) (dst : Option Tmp) (os : List Oper) (gc : Bool) (c : Nat) (cs : List Nat) (v : V) (side : Prop), eK P T an L ds (.pure v side) gc c dst all os cs env st k Q = ((gc = true → side) ∧ dK P T an L ds all os cs (env.put L dst gc v) st k Q)) ∧
  (∀ (P : Program) (T : Nat → TI) (an : Nat → Nat) (L : List Nat) (ds : List Deferred) (env : Env) (st : St) (k : Kont) (Q : VExit → Env → St → Prop) (all : Array Oper) (dst : Option Tmp) (os : List Oper) (gc : Bool) (c : Nat) (cs : List Nat) (v : V) (st' : St) (side : Prop), eK P T an L ds (.mem v st' side) gc c dst all os cs env st k Q = ((gc = true ∨ st' = st) ∧ (c = 2 ∨ c = 1 ∧ st' = st) ∧ (gc = true → side) ∧ dK P T an L ds all os cs (env.put L dst gc v) st' k Q)) := by
 and_intros <;> intros <;> first
  | rfl
  | (simp only [dK, hK, zipC, dOps, bindO]; generalize guardV _ _ _ = r; cases r <;> rfl)
end Go.Proofs.YtpllcpbhjglpaaaGreatDoor.Gw
