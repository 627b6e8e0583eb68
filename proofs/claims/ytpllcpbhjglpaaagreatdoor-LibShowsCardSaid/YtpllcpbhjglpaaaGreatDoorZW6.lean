/- Drawn regions, stage by stage, with calls that turn what the rest does not look at, or that panic. The rest of a drawn region, in all its orders: a tree. The equations of what an operation does, under two names. The table of the types of this place, as the engine wants it: each row held against the program. Contracts: what the small functions on strings and on lists of strings give. -/
import Derived.Test.YtpllcpbhjglpaaaGreatDoorZW5
import Derived.Test.YtpllcpbhjglpaaaGreatDoorProg
import Derived.KernelRfl
import Derived.Lib.Strings
import Derived.Lib.Walk
import Derived.Lib.Bytealg
namespace Go.Proofs.YtpllcpbhjglpaaaGreatDoor.Gw
open Go
set_option linter.unusedSimpArgs false
set_option linter.unusedVariables false
section
variable (P : Program) (T : Nat → TI) (an : Nat → Nat) (L : List Nat) (ss : List St)
def memIs (r : Step) (gc : Bool) (s : St) (v : V) : Prop := match r with
 | .mem v' s' side => v' = v ∧ s' = s ∧ (gc = true → side)
 | .call f args => gc = true → VCalls P T f args s fun r s' => r = .ret v ∧ s' = s
 | _ => False
def stillK (step : St → Step) (gc : Bool) : List St → V → Prop
 | [], _ => True
 | s :: r, v => memIs P T (step s) gc s v ∧ stillK step gc r v
theorem stillK_mem {step : St → Step} {gc : Bool} {v : V} : ∀ {l : List St}, stillK P T step gc l v → ∀ s ∈ l, memIs P T (step s) gc s v
 | [], _, s, h => by simp at h
 | a :: l, h, s, hs => by
  rcases List.mem_cons.1 hs with rfl | hs
  ·exact h.1
  ·exact stillK_mem h.2 s hs
/-- Classes: 0, 1, 2 as they were; 3: it looks at what is the same in all states of ss (a call: it gives the same there); 4: from one of these to another one. -/
def dFun3 (step : St → Step) (gc : Bool) (cl : Nat) (st : St) (v : V) (st' : St) : Prop :=
 match cl with
 | 3 => st' = st ∧ memIs P T (step st) gc st v ∧ stillK P T step gc ss v
 | 4 => st ∈ ss ∧ st' ∈ ss ∧ dFun P T (step st) gc 2 st v st'
 | cl => dFun P T (step st) gc cl st v st'
def dStep3 (step : St → Step) (gc : Bool) (cl : Nat) (st : St) (K : V → St → Prop) : Prop := ∃ v st', dFun3 P T ss step gc cl st v st' ∧ K v st'
def dOps3 (all : Array Oper) : List (Oper × Nat) → Env → St → (VExit → Env → St → Prop) → Prop
 | [], env, st, Q => Q .normal env st
 | (o, cl) :: os, env, st, Q => bindO (guardV all env o.guard) fun gc => okDstB env.N o.dst ∧
   dStep3 P T ss (fun s => stepOp T an o.dst o.op gc env s) gc cl st fun v st' => dOps3 all os (env.put L o.dst gc v) st' Q
variable {P T an L ss}
theorem dOps3_same {all : Array Oper} {Q : VExit → Env → St → Prop} : ∀ (os : List (Oper × Nat)) (e e' : Env) (st : St), e.same e' → EnvOK L e → dOps3 P T an L ss all os e st Q → dOps3 P T an L ss all os e' st (Qe L Q)
 | [], e, e', st, h, hok, hd => ⟨e, h, hok, hd⟩
 | (o, cl) :: os, e, e', st, h, hok, hd => by
  simp only [dOps3] at hd ⊢
  rw [← guardV_same h]
  unfold bindO at hd ⊢
  split at hd
  ·rename_i gc hg
   obtain ⟨h1, h2⟩ := hd
   refine ⟨by rw [← h.1]; exact h1, ?_⟩
   have : (fun s => stepOp T an o.dst o.op gc e' s) = fun s => stepOp T an o.dst o.op gc e s := funext fun s => (stepOp_same h).symm
   rw [this]
   obtain ⟨v, st', k1, k2⟩ := h2
   exact ⟨v, st', k1, dOps3_same os _ _ _ (h.put _ _ _) (hok.put _ _ _) k2⟩
  ·exact hd
theorem dOps3_mono {all : Array Oper} {Q Q' : VExit → Env → St → Prop} (hq : ∀ e env st, Q e env st → Q' e env st) : ∀ (os : List (Oper × Nat)) (e : Env) (st : St), dOps3 P T an L ss all os e st Q → dOps3 P T an L ss all os e st Q'
 | [], e, st, h => hq _ _ _ h
 | (o, cl) :: os, e, st, h => by
  simp only [dOps3] at h ⊢
  unfold bindO at h ⊢
  split at h
  ·obtain ⟨h1, v, st', k1, k2⟩ := h
   exact ⟨h1, v, st', k1, dOps3_mono hq os _ _ k2⟩
  ·exact h
/-- May two operations be done in either order? -/
def indep3 (all : Array Oper) (x y : Oper × Nat) : Bool :=
 x.1.apart all y.1 && !(x.2 == 2 && y.2 != 0) && !(y.2 == 2 && x.2 != 0) && !(x.2 == 4 && y.2 != 0 && y.2 != 3) && !(y.2 == 4 && x.2 != 0 && x.2 != 3) && Nat.blt x.2 5 && Nat.blt y.2 5
theorem dFun3_still {step : St → Step} {gc : Bool} {cl : Nat} {s s' : St} {v : V} (hf : dFun3 P T ss step gc cl s v s') (h2 : cl ≠ 2) (h4 : cl ≠ 4) (h5 : cl < 5) : s' = s := by
 match cl, hf, h2, h4, h5 with
 | 0, hf, _, _, _ =>
  simp only [dFun3] at hf
  unfold dFun at hf
  split at hf
  ·exact hf.2.1
  ·rcases hf.2.2.2.1 with h | h
   ·cases h
   ·obtain ⟨_, rfl, _⟩ := hf; exact h.2
  ·exact hf.1
  ·exact hf.elim
 | 1, hf, _, _, _ =>
  simp only [dFun3] at hf
  unfold dFun at hf
  split at hf
  ·exact hf.2.1
  ·rcases hf.2.2.2.1 with h | h
   ·cases h
   ·obtain ⟨_, rfl, _⟩ := hf; exact h.2
  ·exact hf.1
  ·exact hf.elim
 | 2, _, h, _, _ => exact absurd rfl h
 | 3, hf, _, _, _ => exact hf.1
 | 4, _, _, h, _ => exact absurd rfl h
 | n + 5, _, _, _, h => omega
theorem dFun3_free {dst : Option Tmp} {op : Op} {gc : Bool} {e : Env} {s s' : St} {v : V} (hf : dFun3 P T ss (fun s => stepOp T an dst op gc e s) gc 0 s v s') (s2 : St) : dFun3 P T ss (fun s => stepOp T an dst op gc e s) gc 0 s2 v s2 := by
 simp only [dFun3] at hf ⊢
 generalize hr : stepOp T an dst op gc e s = r at hf
 unfold dFun at hf
 split at hf
 ·rw [stepOp_pure hr s2]; exact ⟨hf.1, rfl, hf.2.2⟩
 ·obtain ⟨_, _, _, h4, _⟩ := hf
  rcases h4 with h4 | ⟨h4, _⟩ <;> cases h4
 ·rw [stepOp_call hr s2]; exact ⟨rfl, hf.2⟩
 ·exact hf.elim
theorem dOps3_front {all : Array Oper} {Q : VExit → Env → St → Prop} (i : Oper × Nat) (post : List (Oper × Nat)) : ∀ (pre : List (Oper × Nat)) (e : Env) (st : St), (∀ x ∈ pre, indep3 all x i = true) → EnvOK L e →
  dOps3 P T an L ss all (pre ++ i :: post) e st Q → dOps3 P T an L ss all (i :: (pre ++ post)) e st (Qe L Q)
 | [], e, st, _, hok, h => dOps3_same _ e e st ⟨rfl, fun _ => rfl⟩ hok h
 | x :: pre, e, st, hi, hok, h => by
  have hxi := hi x (by simp)
  simp only [indep3, Bool.and_eq_true, Bool.not_eq_true', Bool.and_eq_false_iff, beq_eq_false_iff_ne, bne_eq_false_iff_eq, Nat.blt_eq] at hxi
  obtain ⟨⟨⟨⟨⟨⟨hap, hc1⟩, hc2⟩, hc3⟩, hc4⟩, hlx⟩, hli⟩ := hxi
  obtain ⟨a1, a2, a3⟩ := Oper.apart_spec hap
  obtain ⟨ox, cx⟩ := x
  obtain ⟨oi, ci⟩ := i
  simp only at hc1 hc2 hc3 hc4 a1 a2 a3 hlx hli
  rw [List.cons_append] at h
  simp only [dOps3] at h
  unfold bindO at h
  split at h
  case h_2 => exact h.elim
  rename_i gx hgx
  obtain ⟨hdx, vx, st1, fx, h⟩ := h
  have h := dOps3_front (oi, ci) post pre _ st1 (fun y hy => hi y (by simp [hy])) (hok.put _ _ _) h
  simp only [dOps3] at h
  unfold bindO at h
  split at h
  case h_2 => exact h.elim
  rename_i gi hgi
  obtain ⟨hdi, vi, st2, fi, h⟩ := h
  rw [guardV_put a1] at hgi
  have fi : dFun3 P T ss (fun s => stepOp T an oi.dst oi.op gi e s) gi ci st1 vi st2 := by
   have : (fun s => stepOp T an oi.dst oi.op gi (e.put L ox.dst gx vx) s) = fun s => stepOp T an oi.dst oi.op gi e s := funext fun s => stepOp_put a1
   rw [this] at fi; exact fi
  rw [put_N] at hdi
  have hsame : ((e.put L ox.dst gx vx).put L oi.dst gi vi).same ((e.put L oi.dst gi vi).put L ox.dst gx vx) := by
   refine ⟨by simp only [put_N], fun t => ?_⟩
   simp only [put_look]
   by_cases h1 : oi.dst = some t
   ·by_cases h2 : ox.dst = some t
    ·exact absurd h1 (a2 t h2)
    ·simp [h1, h2]
   ·by_cases h2 : ox.dst = some t <;> simp [h1, h2]
  have h := dOps3_same _ _ _ _ hsame ((hok.put _ _ _).put _ _ _) h
  have swap : ∃ s1, dFun3 P T ss (fun s => stepOp T an oi.dst oi.op gi e s) gi ci st vi s1 ∧ dFun3 P T ss (fun s => stepOp T an ox.dst ox.op gx e s) gx cx s1 vx st2 := by
   by_cases hx2 : cx = 2
   ·have hi0 : ci = 0 := hc1.resolve_left (fun h => h hx2)
    subst hi0
    have e1 := dFun3_still fi (by decide) (by decide) (by decide)
    subst e1
    exact ⟨st, dFun3_free fi st, fx⟩
   ·by_cases hx4 : cx = 4
    ·subst hx4
     have hi03 : ci = 0 ∨ ci = 3 := by
      rcases hc3 with (h | h) | h
      ·exact absurd rfl h
      ·exact .inl h
      ·exact .inr h
     rcases hi03 with rfl | rfl
     ·have e1 := dFun3_still fi (by decide) (by decide) (by decide)
      subst e1
      exact ⟨st, dFun3_free fi st, fx⟩
     ·have e1 := fi.1
      subst e1
      exact ⟨st, ⟨rfl, stillK_mem P T fi.2.2 st fx.1, fi.2.2⟩, fx⟩
    ·have e1 := dFun3_still fx hx2 hx4 hlx
     subst e1
     by_cases hi2 : ci = 2
     ·have hx0 : cx = 0 := hc2.resolve_left (fun h => h hi2)
      subst hx0
      exact ⟨st2, fi, dFun3_free fx st2⟩
     ·by_cases hi4 : ci = 4
      ·subst hi4
       have hx03 : cx = 0 ∨ cx = 3 := by
        rcases hc4 with (h | h) | h
        ·exact absurd rfl h
        ·exact .inl h
        ·exact .inr h
       rcases hx03 with rfl | rfl
       ·exact ⟨st2, fi, dFun3_free fx st2⟩
       ·exact ⟨st2, fi, ⟨rfl, stillK_mem P T fx.2.2 st2 fi.2.1, fx.2.2⟩⟩
      ·have e2 := dFun3_still fi hi2 hi4 hli
       subst e2
       exact ⟨st2, fi, fx⟩
  obtain ⟨s1, k1, k2⟩ := swap
  simp only [dOps3]
  rw [hgi]
  refine ⟨hdi, vi, s1, k1, ?_⟩
  rw [List.cons_append]
  simp only [dOps3]
  rw [guardV_put a3, hgx]
  refine ⟨by rw [put_N]; exact hdx, vx, st2, ?_, dOps3_mono hmonoQ _ _ _ h⟩
  have : (fun s => stepOp T an ox.dst ox.op gx (e.put L oi.dst gi vi) s) = fun s => stepOp T an ox.dst ox.op gx e s := funext fun s => stepOp_put a3
  rw [this]; exact k2
variable {ds : List Deferred}
theorem dstep3_sem (hT : Tab P T) {all : Array Oper} {g : G} {w : World} {st st' : St} {env : Env} {a : Act} (hst : SimSt T g st w) (henv : SimEnv g w env a) (hok : EnvOK L env) (hds : a.defers = ds) {o : Oper} {gc : Bool} {cl : Nat} {v : V}
  (hgc : guardV all env o.guard = some gc) (hd : okDstB env.N o.dst) (hf : dFun3 P T ss (fun s => stepOp T an o.dst o.op gc env s) gc cl st v st') {K : Act → World → Prop} {QQ : Exit → Act → World → Prop}
  (hK : ∀ g' w' a', Ext g w g' w' → SimSt T g' st' w' → SimEnv g' w' (env.put L o.dst gc v) a' → EnvOK L (env.put L o.dst gc v) → a'.defers = ds → K a' w') :
  if Region.wanted o (yielded all a.tmps) then o.wp P a w K QQ ∨ (o.asks P a w ∧ LetsOut QQ) else K (a.put o.dst undef) w := by
 have key : ∃ cl', dFun P T (stepOp T an o.dst o.op gc env st) gc cl' st v st' := by
  unfold dFun3 at hf
  split at hf
  ·obtain ⟨rfl, h2, _⟩ := hf
   refine ⟨1, ?_⟩
   unfold memIs at h2
   split at h2
   ·rename_i v' s' side hs
    obtain ⟨rfl, rfl, h3⟩ := h2
    simp only at hs
    rw [hs]
    exact ⟨rfl, rfl, .inr rfl, .inr ⟨rfl, rfl⟩, h3⟩
   ·rename_i f args hs
    simp only at hs
    rw [hs]
    exact ⟨rfl, h2⟩
   ·exact h2.elim
  ·exact ⟨2, hf.2.2⟩
  ·exact ⟨_, hf⟩
 obtain ⟨cl', hf'⟩ := key
 exact dstep_sem hT hst henv hok hds hgc hd hf' hK
/-- What is listed, where something is left for later. -/
structure LeftW (all : Array Oper) (listed : Array Bool) (rs dead : List Nat) : Prop where
 nodup : (rs ++ dead).Nodup
 mem : ∀ i, i ∈ rs ++ dead ↔ i < all.size ∧ listed.getD i true = false
 size : listed.size = all.size
 down : ∀ j o, all[j]? = some o → listed.getD j true = true → ∀ e ∈ o.after.toList, Region.binds .any e = true → listed.getD e.on false = true
theorem LeftW.toL {all : Array Oper} {listed : Array Bool} {rs dead : List Nat} (h : LeftW all listed rs dead) : LeftL all listed (rs ++ dead) := ⟨h.nodup, h.mem, h.size, h.down⟩
theorem LeftW.next {all : Array Oper} {listed : Array Bool} {pre post dead : List Nat} {i : Nat} (hl : LeftW all listed (pre ++ i :: post) dead) (hi : i ∈ Region.ready .any all listed) : LeftW all (listed.setIfInBounds i true) (pre ++ post) dead := by
 have h := hl.toL
 rw [List.append_assoc, List.cons_append] at h
 have h2 := h.next hi
 rw [← List.append_assoc] at h2
 exact ⟨h2.nodup, h2.mem, h2.size, h2.down⟩
def good3 (all : Array Oper) (cls : List Nat) (x i : Nat) : Bool := reach all 3 x i || indep3 all (atC all cls x) (atC all cls i)
theorem pick3 {all : Array Oper} {cls : List Nat} {Q : VExit → Env → St → Prop} {rs dead : List Nat} {listed : Array Bool} {env : Env} {st : St} {i : Nat} (hl : LeftW all listed rs dead) (hg : rs.Pairwise fun x i => good3 all cls x i = true)
  (hi : i ∈ Region.ready .any all listed) (himem : i ∈ rs) (hok : EnvOK L env) (h : dOps3 P T an L ss all (rs.map (atC all cls)) env st (Qe L Q)) (hi1 : i < all.size) :
  ∃ pre post, rs = pre ++ i :: post ∧ ∃ gc v st', guardV all env all[i].guard = some gc ∧ okDstB env.N all[i].dst ∧ dFun3 P T ss (fun s => stepOp T an all[i].dst all[i].op gc env s) gc (cls.getD i 0) st v st' ∧
   dOps3 P T an L ss all ((pre ++ post).map (atC all cls)) (env.put L all[i].dst gc v) st' (Qe L Q) := by
 obtain ⟨_, hi2, hafter⟩ := ready_spec hi
 obtain ⟨pre, post, hsplit⟩ := List.append_of_mem himem
 refine ⟨pre, post, hsplit, ?_⟩
 rw [hsplit] at hg
 have hpre : ∀ x ∈ pre, good3 all cls x i = true := fun x hx => (List.pairwise_append.1 hg).2.2 x hx i (by simp)
 have hind : ∀ x ∈ pre.map (atC all cls), indep3 all x (atC all cls i) = true := by
  intro y hy
  obtain ⟨x, hx, rfl⟩ := List.mem_map.1 hy
  have hxi := hpre x hx
  have hxr : x ∈ rs := by rw [hsplit]; simp [hx]
  simp only [good3, Bool.or_eq_true] at hxi
  refine hxi.resolve_left fun hr => ?_
  have h1 := reach_listedL hl.toL 3 x i _ (Array.getElem?_eq_getElem hi1) hafter hr
  have h2 := (hl.mem x).1 (List.mem_append_left _ hxr)
  rw [getD_of_size (by rw [hl.size]; exact h2.1) false true, h2.2] at h1
  cases h1
 rw [hsplit, List.map_append, List.map_cons] at h
 have h := dOps3_front (atC all cls i) (post.map (atC all cls)) (pre.map (atC all cls)) env st hind hok h
 have hat : (atC all cls i) = (all[i], cls.getD i 0) := by simp [atC, Array.getD_eq_getD_getElem?, hi1]
 rw [hat] at h
 simp only [dOps3] at h
 unfold bindO at h
 split at h
 case h_2 => exact h.elim
 rename_i gc hgc
 obtain ⟨hd, v, st', hf, h⟩ := h
 have h := dOps3_mono hmonoQ _ _ _ h
 rw [← List.map_append] at h
 exact ⟨gc, v, st', hgc, hd, hf, h⟩
def edgeB (all : Array Oper) (j x : Nat) : Bool := match all[j]? with | none => false | some o => o.after.any fun e => Region.binds .any e && e.on == x
theorem edge_not_ready {all : Array Oper} {listed : Array Bool} {j x : Nat} (he : edgeB all j x = true) (hx : listed.getD x true = false) (hxs : x < listed.size) : j ∉ Region.ready .any all listed := by
 intro hj
 obtain ⟨hj1, _, hafter⟩ := ready_spec hj
 unfold edgeB at he
 rw [Array.getElem?_eq_getElem hj1] at he
 simp only [← Array.any_toList, List.any_eq_true, Bool.and_eq_true, beq_iff_eq] at he
 obtain ⟨e, h1, h2, rfl⟩ := he
 have := hafter e h1 h2
 rw [getD_of_size hxs false true, hx] at this
 cases this
/-- A stage: all of it, whatever the order; then the rest. -/
theorem stage_sound (hT : Tab P T) {all : Array Oper} {cls : List Nat} (hE : backB all = true) {Q QM : VExit → Env → St → Prop} {g0 : G} {w0 : World} {dead : List Nat} :
  ∀ (n : Nat) (rs : List Nat) (listed : Array Bool) (env : Env) (st : St) (g : G) (w : World) (a : Act), rs.length = n → LeftW all listed rs dead → (rs.Pairwise fun x i => good3 all cls x i = true) → (∀ j ∈ dead, ∀ x ∈ rs, edgeB all j x = true) → Ext g0 w0 g w → SimSt T g st w → SimEnv g w env a → EnvOK L env → a.defers = ds →
   dOps3 P T an L ss all (rs.map (atC all cls)) env st (Qe L QM) →
   (∀ listed' env' st' g' w' a', LeftL all listed' dead → QM .normal env' st' → Ext g0 w0 g' w' → SimSt T g' st' w' → SimEnv g' w' env' a' → EnvOK L env' → a'.defers = ds → wpAny P .any all (Lift T L ds g0 w0 Q) dead.length listed' a' w') →
   wpAny P .any all (Lift T L ds g0 w0 Q) (n + dead.length) listed a w := by
 intro n
 induction n with
 | zero =>
  intro rs listed env st g w a hn hl hg hb hx hst henv hok hds h hcont
  have : rs = [] := List.eq_nil_of_length_eq_zero hn
  subst this
  obtain ⟨env0, q1, q2, q3⟩ := h
  rw [Nat.zero_add]
  exact hcont listed env0 st g w a (by have := hl.toL; simpa using this) q3 hx hst ⟨henv.1.trans q1.1.symm, fun t c v hv => henv.2 t c v (by rw [← q1.2 t]; exact hv)⟩ q2 hds
 | succ n ih =>
  intro rs listed env st g w a hn hl hg hb hx hst henv hok hds h hcont
  have hne : rs ≠ [] := by intro e; rw [e] at hn; simp at hn
  have hne2 : rs ++ dead ≠ [] := by simp [hne]
  rw [show n + 1 + dead.length = (n + dead.length) + 1 by omega]
  refine ⟨fun hr => (some_ready hE hl.toL hne2 hr).elim, fun i hi => ?_⟩
  obtain ⟨hi1, hi2, _⟩ := ready_spec hi
  have himem : i ∈ rs := by
   have := (hl.mem i).2 ⟨hi1, hi2⟩
   rcases List.mem_append.1 this with hr | hd
   ·exact hr
   ·exfalso
    obtain ⟨x, hxr⟩ := List.exists_mem_of_ne_nil rs hne
    have hxm := (hl.mem x).1 (List.mem_append_left _ hxr)
    exact edge_not_ready (hb i hd x hxr) hxm.2 (by rw [hl.size]; exact hxm.1) hi
  obtain ⟨pre, post, hsplit, gc, v, st', hgc, hd, hf, hrest⟩ := pick3 hl hg hi himem hok h hi1
  simp only [wpOp, Array.getElem?_eq_getElem hi1]
  refine dstep3_sem hT hst henv hok hds hgc hd hf fun g' w' a' k1 k2 k3 k4 k5 => ?_
  subst hsplit
  exact ih (pre ++ post) _ _ st' g' w' a' (by simp at hn ⊢; omega) (hl.next hi) (hg.sublist (by simp)) (fun j hj x hx => hb j hj x (by simp only [List.mem_append, List.mem_cons] at hx ⊢; rcases hx with h | h <;> simp [h])) (hx.trans k1) k2 k3 k4 k5 hrest hcont
def pair3 (all : Array Oper) (cls : List Nat) : List Nat → Bool
 | [] => true
 | x :: r => r.all (good3 all cls x) && pair3 all cls r
theorem pair3_spec {all : Array Oper} {cls : List Nat} : ∀ {l : List Nat}, pair3 all cls l = true → l.Pairwise fun x i => good3 all cls x i = true
 | [], _ => .nil
 | x :: r, h => by
  simp only [pair3, Bool.and_eq_true, List.all_eq_true] at h
  exact .cons h.1 (pair3_spec h.2)
/-- A region's first stage, rs, and the rest, in one order (rs2), or in two (rs2, rs3: p and q don't go together). -/
def stageB (all : Array Oper) (cls rs rs2 rs3 : List Nat) (p q : Nat) : Bool :=
 backB all && pair3 all cls rs && rs2.all (fun j => rs.all fun x => edgeB all j x) && diffB (rs ++ rs2) && (rs ++ rs2).all (fun i => Nat.blt i all.size) && (List.range all.size).all (fun i => (rs ++ rs2).contains i) &&
  !(p == q) && pairB all cls (oneEx p q) rs2 && pairB all cls (oneEx q p) rs3 && diffB rs3 && (rs3.length == rs2.length) && rs3.all (fun i => rs2.contains i) && rs2.all (fun i => rs3.contains i) && (List.range all.size).all (fun i => rs.contains i || match all[i]? with | some o => noCallB o | none => true) && (rs.length + rs2.length == all.size)
theorem draw_sound2W (hT : Tab P T) {all : Array Oper} {cls : List Nat} (hE : backB all = true) {p q : Nat} (hpq : p ≠ q) {Q : VExit → Env → St → Prop} {g0 : G} {w0 : World} :
  ∀ (n : Nat) (rs rs' : List Nat) (listed : Array Bool) (env : Env) (st : St) (g : G) (w : World) (a : Act), (∀ i ∈ rs, ∀ (h : i < all.size), noCallB all[i] = true) → rs.length = n → rs'.length = n → LeftL all listed rs → LeftL all listed rs' → (rs.Pairwise fun x i => goodB all cls (oneEx p q) x i = true) → (rs'.Pairwise fun x i => goodB all cls (oneEx q p) x i = true) →
   Ext g0 w0 g w → SimSt T g st w → SimEnv g w env a → EnvOK L env → a.defers = ds →
   dOps P T an L all (rs.map (atC all cls)) env st (Qe L Q) → dOps P T an L all (rs'.map (atC all cls)) env st (Qe L Q) → wpAny P .any all (Lift T L ds g0 w0 Q) n listed a w := by
 intro n
 induction n with
 | zero =>
  intro rs rs' listed env st g w a _ hn hn' hl hl' hg hg' hx hst henv hok hds h h'
  have : rs = [] := List.eq_nil_of_length_eq_zero hn
  subst this
  exact draw_soundL hT hE 0 [] listed env st g w a rfl hl .nil hx hst henv hok hds h
 | succ n ih =>
  intro rs rs' listed env st g w a hC hn hn' hl hl' hg hg' hx hst henv hok hds h h'
  refine ⟨fun hr => (some_ready hE hl (by intro e; rw [e] at hn; simp at hn) hr).elim, fun i hi => ?_⟩
  obtain ⟨hi1, hi2, _⟩ := ready_spec hi
  have himem := (hl.mem i).2 ⟨hi1, hi2⟩
  have drop : ∀ {l : List Nat} {ex : Nat → Nat → Bool}, (l.Pairwise fun x i => goodB all cls ex x i = true) → (∀ x ∈ l, ∀ y ∈ l, ex x y = false) → l.Pairwise fun x i => goodB all cls (fun _ _ => false) x i = true := by
   intro l ex hp he
   refine List.Pairwise.imp_of_mem (fun {x y} hx hy hgd => ?_) hp
   simp only [goodB, he x hx y hy] at hgd ⊢
   exact hgd
  simp only [wpOp, Array.getElem?_eq_getElem hi1]
  by_cases hip : i = p
  ·subst hip
   obtain ⟨pre, post, hsplit, gc, v, st', hgc, hd, hf, hrest⟩ := pick hl hg hi (fun x _ => by simp [oneEx, hpq]) hok h hi1
   subst hsplit
   refine dstep_sem hT hst henv hok hds hgc hd hf fun g' w' a' k1 k2 k3 k4 k5 => ?_
   have hnx := hl.next hi
   refine draw_soundL hT hE n (pre ++ post) _ _ st' g' w' a' (by simp at hn ⊢; omega) hnx (drop (hg.sublist (by simp)) fun x hx y hy => ?_) (hx.trans k1) k2 k3 k4 k5 hrest
   have hlsz : i < listed.size := by rw [hl.size]; exact hi1
   have hxi : x ≠ i := by
    rintro rfl
    have := ((hnx.mem x).1 hx).2
    simp [Array.getD_eq_getD_getElem?, hlsz] at this
   simp [oneEx, hxi]
  ·by_cases hiq : i = q
   ·subst hiq
    obtain ⟨pre, post, hsplit, gc, v, st', hgc, hd, hf, hrest⟩ := pick hl' hg' hi (fun x _ => by simp [oneEx, hip]) hok h' hi1
    subst hsplit
    refine dstep_sem hT hst henv hok hds hgc hd hf fun g' w' a' k1 k2 k3 k4 k5 => ?_
    have hnx := hl'.next hi
    refine draw_soundL hT hE n (pre ++ post) _ _ st' g' w' a' (by simp at hn' ⊢; omega) hnx (drop (hg'.sublist (by simp)) fun x hx y hy => ?_) (hx.trans k1) k2 k3 k4 k5 hrest
    have hlsz : i < listed.size := by rw [hl.size]; exact hi1
    have hxi : x ≠ i := by
     rintro rfl
     have := ((hnx.mem x).1 hx).2
     simp [Array.getD_eq_getD_getElem?, hlsz] at this
    simp [oneEx, hxi]
   ·obtain ⟨pre, post, hsplit, gc, v, st', hgc, hd, hf, hrest⟩ := pick hl hg hi (fun x _ => by simp [oneEx, hiq]) hok h hi1
    obtain ⟨pre', post', hsplit', gc', v', st'', hgc', hd', hf', hrest'⟩ := pick hl' hg' hi (fun x _ => by simp [oneEx, hip]) hok h' hi1
    rw [hgc] at hgc'
    cases hgc'
    obtain ⟨rfl, rfl⟩ := dFun_one (hC i himem hi1) hf hf'
    subst hsplit
    subst hsplit'
    refine dstep_sem hT hst henv hok hds hgc hd hf fun g' w' a' k1 k2 k3 k4 k5 => ?_
    exact ih (pre ++ post) (pre' ++ post') _ _ st' g' w' a' (fun j hj => hC j (by simp only [List.mem_append, List.mem_cons] at hj ⊢; rcases hj with h | h <;> simp [h])) (by simp at hn ⊢; omega) (by simp at hn' ⊢; omega) (hl.next hi) (hl'.next hi) (hg.sublist (by simp)) (hg'.sublist (by simp)) (hx.trans k1) k2 k3 k4 k5 hrest hrest'
theorem VC.stage (hT : Tab P T) (hm : P.follows .mixedOrders = true) {id : Nat} {os : List Oper} {cls rs rs2 rs3 : List Nat} {p q : Nat} {env : Env} {st : St} {Q : VExit → Env → St → Prop} (hB : stageB os.toArray cls rs rs2 rs3 p q = true)
  (h : dOps3 P T an L ss os.toArray (zipC (pickO os rs) (pickC cls rs)) ⟨env.N, env.g, []⟩ st fun _ env' st' => dOps P T an L os.toArray (zipC (pickO os rs2) (pickC cls rs2)) env' st' Q ∧ dOps P T an L os.toArray (zipC (pickO os rs3) (pickC cls rs3)) env' st' Q) :
  VC P T L ds (.region id os.toArray true) env st Q := by
 intro g w a h1 h2 h3 h4
 refine wp_region_any hm ?_
 simp only [stageB, Bool.and_eq_true, List.all_eq_true, List.mem_range, Bool.not_eq_true', beq_eq_false_iff_ne, beq_iff_eq, Nat.blt_eq, List.contains_iff_mem, Bool.or_eq_true] at hB
 obtain ⟨⟨⟨⟨⟨⟨⟨⟨⟨⟨⟨⟨⟨⟨b1, b2⟩, b3⟩, b4⟩, b5⟩, b6⟩, b7⟩, b8⟩, b9⟩, b10⟩, b11⟩, b12⟩, b13⟩, b14⟩, b15⟩ := hB
 have hx := Ext.drew g w
 have henv : SimEnv g w ⟨env.N, env.g, []⟩ a := ⟨h2.1, fun t c v hv => h2.2 t c v (h3 t _ (by simpa [Env.look, find] using hv)).2⟩
 have hok : EnvOK L ⟨env.N, env.g, []⟩ := fun t x hx => ⟨(h3 t x hx).1, by simpa [Env.look, find] using hx⟩
 have h5 : SimSt T g st w.drew := h1.keep hx rfl (fun _ _ => rfl) fun b _ _ => ⟨rfl, rfl⟩
 have hd := dOps3_same _ _ _ st ⟨rfl, fun _ => rfl⟩ hok h
 rw [← pick_zip] at hd
 have hfalse : ∀ i, i < os.length → (Array.replicate os.toArray.size false).getD i true = false := fun i hi => by simp [Array.getD_eq_getD_getElem?, Array.getElem?_replicate, hi]
 have hdown : ∀ j o, os.toArray[j]? = some o → (Array.replicate os.toArray.size false).getD j true = true → ∀ e ∈ o.after.toList, Region.binds .any e = true → (Array.replicate os.toArray.size false).getD e.on false = true := by
  intro j o ho hj
  have hlt : j < os.length := by simpa using (Array.getElem?_eq_some_iff.1 ho).1
  rw [hfalse j hlt] at hj
  cases hj
 have hnd := diffB_spec b4
 have hl : LeftW os.toArray (Array.replicate os.toArray.size false) rs rs2 := by
  refine ⟨hnd, fun i => ?_, by simp, hdown⟩
  simp only [List.size_toArray]
  exact ⟨fun hi => ⟨by simpa using b5 i hi, hfalse i (by simpa using b5 i hi)⟩, fun hi => b6 i (by simpa using hi.1)⟩
 have hlen : rs.length + rs2.length = os.length := by simpa using b15
 have := stage_sound (ds := ds) hT b1 (Q := Q) (QM := fun _ env' st' => dOps P T an L os.toArray (zipC (pickO os rs2) (pickC cls rs2)) env' st' Q ∧ dOps P T an L os.toArray (zipC (pickO os rs3) (pickC cls rs3)) env' st' Q) (g0 := g) (w0 := w) (dead := rs2) rs.length rs _ _ st g w.drew a rfl hl (pair3_spec b2) (fun j hj x hxx => b3 j hj x hxx) hx h5 (henv.ext hx) hok h4 hd ?_
 ·rw [hlen] at this
  simpa using this
 ·rintro listed' env' st' g' w' a' hL ⟨q1, q2⟩ k1 k2 k3 k4 k5
  have q1 := dOps_same _ _ _ st' ⟨rfl, fun _ => rfl⟩ k4 q1
  have q2 := dOps_same _ _ _ st' ⟨rfl, fun _ => rfl⟩ k4 q2
  rw [← pick_zip] at q1 q2
  have hL3 : LeftL os.toArray listed' rs3 := ⟨diffB_spec b10, fun i => ⟨fun hi => (hL.mem i).1 (b12 i hi), fun hi => b13 i ((hL.mem i).2 hi)⟩, hL.size, hL.down⟩
  refine draw_sound2W hT b1 b7 rs2.length rs2 rs3 listed' env' st' g' w' a' (fun i hi hlt => ?_) rfl b11 hL hL3 (pairB_spec b8) (pairB_spec b9) k1 k2 k3 k4 k5 q1 q2
  have hd' : i ∉ rs := fun hr => by
   have := List.nodup_append.1 hnd
   exact this.2.2 i hr i hi rfl
  have := (b14 i (by simpa using hlt)).resolve_left hd'
  rw [Array.getElem?_eq_getElem hlt] at this
  exact this
-- a call that panics
def pK (P : Program) (T : Nat → TI) (r : Step) (gc : Option Bool) (st : St) (QP : V → St → Prop) : Prop := gc = some true ∧ ∃ k args, r = .call k args ∧ ∃ v st', VCalls P T k args st (fun r s => r = .panic v ∧ s = st') ∧ QP v st'
theorem pK_of {k : FuncId} {args args' : List V} {st st' : St} {X : V} {QP : V → St → Prop} (h : VCalls P T k args' st fun r s => r = .panic X ∧ s = st') (hw : wkL args args') (h2 : QP X st') : pK P T (.call k args) (some true) st QP := ⟨rfl, k, args, rfl, X, st', h.args hw, h2⟩
theorem front_call {all : Array Oper} {oc : Oper} {st : St} {QP : V → St → Prop} : ∀ (os : List (Oper × Nat)) (env : Env), (∀ x ∈ os, ∀ d, x.1.dst = some d → d ∉ oc.looksAt all) → (∀ x ∈ os, x.2 < 2) → dOps3 P T an L ss all os env st (Qe L fun _ e s => pK P T (stepOp T an oc.dst oc.op true e s) (guardV all e oc.guard) s QP) →
  pK P T (stepOp T an oc.dst oc.op true env st) (guardV all env oc.guard) st QP
 | [], env, h1, h2, ⟨env0, q1, q2, q3⟩ => by simp only at q3; rw [guardV_same q1, stepOp_same q1] at q3; exact q3
 | (o, cl) :: os, env, h1, h2, h => by
  simp only [dOps3] at h
  unfold bindO at h
  split at h
  case h_2 => exact h.elim
  rename_i gc hgc
  obtain ⟨hd, v, st', hf, h⟩ := h
  have hcl := h2 (o, cl) (by simp)
  simp only at hcl
  have e1 := dFun3_still hf (by omega) (by omega) (by omega)
  subst e1
  have := front_call os _ (fun x hx => h1 x (by simp [hx])) (fun x hx => h2 x (by simp [hx])) h
  rw [guardV_put (h1 (o, cl) (by simp)), stepOp_put (h1 (o, cl) (by simp))] at this
  exact this
theorem keep_put {ks : List Nat} {e : Env} {d : Option Nat} {c : Bool} {v : V} (h : ∀ t, d = some t → t ∉ ks) : (e.put L d c v).keep ks = e.keep ks := by
 induction ks with
 | nil => rfl
 | cons k ks ih =>
  have hk : (e.put L d c v).look k = e.look k := look_put_ne (fun hd => h k hd (by simp))
  simp only [Env.keep, hk, ih fun t ht hm => h t ht (by simp [hm])]
theorem call_enter {g : G} {w : World} {env : Env} {st : St} {a : Act} (henv : SimEnv g w env a) {o : Oper} {k : FuncId} {args : List V} (hr : stepOp T an o.dst o.op true env st = .call k args) : ∃ vals : List Value, (execOp a.eval o).run P w = (callFunc k vals.toArray).run P w ∧ SimVs g w args vals := by
 have hev : ∀ x, SimV g w (evG env true x) (a.eval x) := fun x => evG_sim henv rfl x
 unfold stepOp at hr
 split at hr
 ·split at hr <;> cases hr
 ·cases hr
 ·generalize (an (o.dst.getD 0) == 3) = bb at hr
  cases bb with
  | false =>
   simp only [cond_false] at hr
   unfold pureStep memStep at hr
   split at hr
   ·cases hr
   ·split at hr
    ·cases hr
    ·split at hr <;> cases hr
  | true =>
   simp only [cond_true, sufS] at hr
   split at hr <;> cases hr
 ·rename_i t n ps hop
  rw [hop] at hr
  exact absurd hr (lit_ncall (T := T) (an := an) (dst := o.dst) (gc := true) (env := env) (st := st) (t := t) (n := n) (ps := ps) k args)
 ·rename_i it c hop
  cases c with
  | true => cases hr
  | false => simp only [cond_false] at hr; generalize nextV (evG env true it) st = r at hr; cases r <;> cases hr
 ·rename_i c hop
  split at hr
  ·rename_i f hcal
   split at hr
   case h_2 => cases hr
   rename_i k' cap hfe'
   cases hr
   have hfv := hev f
   rw [hfe'] at hfv
   simp only [SimV] at hfv
   obtain ⟨vs, hfe, hvs⟩ := hfv
   refine ⟨c.args.toList.map a.eval ++ vs, ?_, (evs_sim hev _).append hvs⟩
   have e : c.args.map a.eval ++ vs.toArray = (c.args.toList.map a.eval ++ vs).toArray := by apply Array.ext'; simp
   simp [execOp, hop, resolve, hcal, hfe, Deferred.ofValue, invoke, e]
  ·unfold pureStep memStep at hr
   split at hr
   ·cases hr
   ·split at hr
    ·cases hr
    ·split at hr <;> cases hr
  ·cases hr
 ·unfold pureStep memStep at hr
  split at hr
  ·cases hr
  ·split at hr
   ·cases hr
   ·split at hr <;> cases hr
theorem run_enter {k : FuncId} (he : Enters P k) (vals : List Value) (w : World) : (callFunc k vals.toArray).run P w = .ok (.enter k vals.toArray) w := by
 obtain ⟨fn, e1, e2, e3⟩ := he
 have e2' : ¬ fn.body = none := by intro hb; rw [hb] at e2; simp at e2
 have e3' : ¬ fn.name = "runtime.NumGoroutine" := by simpa using e3
 simp [callFunc, e1, e2', e3']
theorem panic_sound (hT : Tab P T) {all : Array Oper} {cls : List Nat} (hE : backB all = true) {Q : VExit → Env → St → Prop} {g0 : G} {w0 : World} {dead : List Nat} {c : Nat} {oc : Oper} (hoc : all[c]? = some oc) {ks : List Nat} (hks : subN ks L = true) {N : Nat} {E0 : List (Nat × Bool × V)} {st : St}
  (hdead : ∀ j ∈ dead, edgeB all j c = true ∨ ∃ d ∈ dead, edgeB all j d = true) :
  ∀ (n : Nat) (rs : List Nat) (listed : Array Bool) (env : Env) (g : G) (w : World) (a : Act), rs.length = n → LeftW all listed (rs ++ [c]) dead → (rs.Pairwise fun x i => good3 all cls x i = true) → (∀ x ∈ rs, cls.getD x 0 < 2) → (∀ x ∈ rs, reach all 3 x c = true ∨ ∀ d, (atC all cls x).1.dst = some d → d ∉ oc.looksAt all) → (∀ x ∈ rs, ∀ t, (atC all cls x).1.dst = some t → t ∉ ks) →
   Ext g0 w0 g w → SimSt T g st w → SimEnv g w env a → EnvOK L env → a.defers = ds → env.N = N → env.keep ks = E0 →
   dOps3 P T an L ss all (rs.map (atC all cls)) env st (Qe L fun _ e s => pK P T (stepOp T an oc.dst oc.op true e s) (guardV all e oc.guard) s fun v st' => Q (.panic v) ⟨N, E0, []⟩ st') →
   wpAny P .any all (Lift T L ds g0 w0 Q) (n + 1 + dead.length) listed a w := by
 intro n
 induction n with
 | zero =>
  intro rs listed env g w a hn hl hg hcl hap hk hx hst henv hok hds hN hE0 h
  have : rs = [] := List.eq_nil_of_length_eq_zero hn
  subst this
  rw [show 0 + 1 + dead.length = dead.length + 1 by omega]
  refine ⟨fun hr => (some_ready hE hl.toL (by simp) hr).elim, fun i hi => ?_⟩
  obtain ⟨hi1, hi2, _⟩ := ready_spec hi
  have hic : i = c := by
   have := (hl.mem i).2 ⟨hi1, hi2⟩
   simp only [List.nil_append, List.singleton_append, List.mem_cons] at this
   rcases this with h | hd
   ·exact h
   ·exfalso
    rcases hdead i hd with he | ⟨d, hd2, he⟩
    ·have hxm := (hl.mem c).1 (by simp)
     exact edge_not_ready he hxm.2 (by rw [hl.size]; exact hxm.1) hi
    ·have hxm := (hl.mem d).1 (by simp [hd2])
     exact edge_not_ready he hxm.2 (by rw [hl.size]; exact hxm.1) hi
  subst hic
  have hpk := front_call [] env (by simp) (by simp) h
  obtain ⟨hgc, k, args, hr, v, st', hcall, hq⟩ := hpk
  have hw := guardV_wanted henv hgc
  have hoc' : all[i] = oc := by rw [Array.getElem?_eq_getElem hi1] at hoc; exact Option.some.inj hoc
  obtain ⟨vals, q1, q2⟩ := call_enter (P := P) henv hr
  simp only [wpOp, Array.getElem?_eq_getElem hi1]
  rw [hoc', hw]
  simp only [if_true]
  left
  unfold Oper.wp Oper.upon
  rw [q1, run_enter hcall.1]
  refine (hcall.2 g w vals hst q2).mono fun e w' ⟨r, s', g', ⟨k1, k1'⟩, k2, k3, k4⟩ => ?_
  subst k1; subst k1'
  obtain ⟨val, rfl, hv⟩ := k2
  refine ⟨.panic v, ⟨N, E0, []⟩, s', g', hq, ⟨val, rfl, hv⟩, ?_, ?_, hds, k3, hx.trans k4⟩
  ·rw [← hN, ← hE0]; exact (henv.ext k4).keep ks
  ·rw [← hN, ← hE0]; exact EnvOK.keep hks env
 | succ n ih =>
  intro rs listed env g w a hn hl hg hcl hap hk hx hst henv hok hds hN hE0 h
  rw [show n + 1 + 1 + dead.length = (n + 1 + dead.length) + 1 by omega]
  refine ⟨fun hr => (some_ready hE hl.toL (by simp) hr).elim, fun i hi => ?_⟩
  obtain ⟨hi1, hi2, hafter⟩ := ready_spec hi
  have him := (hl.mem i).2 ⟨hi1, hi2⟩
  simp only [List.mem_append, List.mem_singleton] at him
  have hcm := (hl.mem c).1 (by simp)
  rcases him with (hir | hic) | hid
  ·obtain ⟨pre, post, hsplit⟩ := List.append_of_mem hir
   have hsub : (pre ++ post).Sublist rs := by rw [hsplit]; simp
   -- as in a stage
   have hind : ∀ x ∈ pre.map (atC all cls), indep3 all x (atC all cls i) = true := by
    intro y hy
    obtain ⟨x, hx, rfl⟩ := List.mem_map.1 hy
    have hgp := hg
    rw [hsplit] at hgp
    have hxi := (List.pairwise_append.1 hgp).2.2 x hx i (by simp)
    have hxr : x ∈ rs := by rw [hsplit]; simp [hx]
    simp only [good3, Bool.or_eq_true] at hxi
    refine hxi.resolve_left fun hr => ?_
    have h1 := reach_listedL hl.toL 3 x i _ (Array.getElem?_eq_getElem hi1) hafter hr
    have h2 := (hl.mem x).1 (by simp [hxr])
    rw [getD_of_size (by rw [hl.size]; exact h2.1) false true, h2.2] at h1
    cases h1
   have h7 := h
   rw [hsplit, List.map_append, List.map_cons] at h7
   have h8 := dOps3_front (atC all cls i) (post.map (atC all cls)) (pre.map (atC all cls)) env st hind hok h7
   have hat : (atC all cls i) = (all[i], cls.getD i 0) := by simp [atC, Array.getD_eq_getD_getElem?, hi1]
   rw [hat] at h8
   simp only [dOps3] at h8
   unfold bindO at h8
   split at h8
   case h_2 => exact h8.elim
   rename_i gc hgc
   obtain ⟨hd, v, st', hf, h9⟩ := h8
   have h10 := dOps3_mono hmonoQ _ _ _ h9
   rw [← List.map_append] at h10
   have hci := hcl i hir
   have e1 := dFun3_still hf (by omega) (by omega) (by omega)
   subst e1
   simp only [wpOp, Array.getElem?_eq_getElem hi1]
   refine dstep3_sem hT hst henv hok hds hgc hd hf fun g' w' a' k1 k2 k3 k4 k5 => ?_
   have hkeep : (env.put L all[i].dst gc v).keep ks = E0 := by
    rw [← hE0]
    refine keep_put fun t ht => hk i hir t ?_
    rw [hat]; exact ht
   have hlw : LeftW all (listed.setIfInBounds i true) ((pre ++ post) ++ [c]) dead := by
    have h2 : LeftW all listed (pre ++ i :: (post ++ [c])) dead := by
     have := hl
     rw [hsplit] at this
     simpa using this
    have := h2.next hi
    simpa using this
   exact ih (pre ++ post) _ _ g' w' a' (by rw [hsplit] at hn; simp at hn ⊢; omega) hlw (hg.sublist hsub) (fun x hx => hcl x (hsub.subset hx)) (fun x hx => hap x (hsub.subset hx)) (fun x hx => hk x (hsub.subset hx)) (hx.trans k1) k2 k3 k4 k5 (by rw [put_N]; exact hN) hkeep h10
  ·subst hic
   have hap' : ∀ x ∈ rs.map (atC all cls), ∀ d, x.1.dst = some d → d ∉ oc.looksAt all := by
    intro y hy
    obtain ⟨x, hxr, rfl⟩ := List.mem_map.1 hy
    refine (hap x hxr).resolve_left fun hr => ?_
    have h1 := reach_listedL hl.toL 3 x i _ (Array.getElem?_eq_getElem hi1) hafter hr
    have h2 := (hl.mem x).1 (by simp [hxr])
    rw [getD_of_size (by rw [hl.size]; exact h2.1) false true, h2.2] at h1
    cases h1
   have hcl' : ∀ x ∈ rs.map (atC all cls), x.2 < 2 := by
    intro y hy
    obtain ⟨x, hxr, rfl⟩ := List.mem_map.1 hy
    exact hcl x hxr
   obtain ⟨hgc, k, args, hr, v, st', hcall, hq⟩ := front_call _ env hap' hcl' h
   have hw := guardV_wanted henv hgc
   have hoc' : all[i] = oc := by rw [Array.getElem?_eq_getElem hi1] at hoc; exact Option.some.inj hoc
   obtain ⟨vals, q1, q2⟩ := call_enter (P := P) henv hr
   simp only [wpOp, Array.getElem?_eq_getElem hi1]
   rw [hoc', hw]
   simp only [if_true]
   left
   unfold Oper.wp Oper.upon
   rw [q1, run_enter hcall.1]
   refine (hcall.2 g w vals hst q2).mono fun e w' ⟨r, s', g', ⟨k1, k1'⟩, k2, k3, k4⟩ => ?_
   subst k1; subst k1'
   obtain ⟨val, rfl, hv⟩ := k2
   refine ⟨.panic v, ⟨N, E0, []⟩, s', g', hq, ⟨val, rfl, hv⟩, ?_, ?_, hds, k3, hx.trans k4⟩
   ·rw [← hN, ← hE0]; exact (henv.ext k4).keep ks
   ·rw [← hN, ← hE0]; exact EnvOK.keep hks env
  ·exfalso
   rcases hdead i hid with he | ⟨d, hd2, he⟩
   ·exact edge_not_ready he hcm.2 (by rw [hl.size]; exact hcm.1) hi
   ·have hxm := (hl.mem d).1 (by simp [hd2])
    exact edge_not_ready he hxm.2 (by rw [hl.size]; exact hxm.1) hi
def offB (d : Option Tmp) (l : List Nat) : Bool := match d with | none => true | some t => !l.contains t
def panicB (all : Array Oper) (cls rs : List Nat) (c : Nat) (dead ks : List Nat) : Bool :=
 backB all && pair3 all cls rs && rs.all (fun x => Nat.blt (cls.getD x 0) 2) && dead.all (fun j => edgeB all j c || dead.any fun d => edgeB all j d) && diffB (rs ++ [c] ++ dead) && (rs ++ [c] ++ dead).all (fun i => Nat.blt i all.size) && (List.range all.size).all (fun i => (rs ++ [c] ++ dead).contains i) &&
  rs.all (fun x => reach all 3 x c || offB (atC all cls x).1.dst ((atC all cls c).1.looksAt all)) && rs.all (fun x => offB (atC all cls x).1.dst ks) && (rs.length + 1 + dead.length == all.size)
theorem VC.panic (hT : Tab P T) (hm : P.follows .mixedOrders = true) {id : Nat} {os : List Oper} {cls rs : List Nat} {c : Nat} {dead ks : List Nat} (hks : subN ks L = true) {env : Env} {st : St} {Q : VExit → Env → St → Prop} (hB : panicB os.toArray cls rs c dead ks = true)
  (h : dOps3 P T an L ss os.toArray (zipC (pickO os rs) (pickC cls rs)) ⟨env.N, env.g, []⟩ st fun _ e s => pK P T (stepOp T an (os.getD c default).dst (os.getD c default).op true e s) (guardV os.toArray e (os.getD c default).guard) s fun v st' => Q (.panic v) ⟨env.N, (⟨env.N, env.g, []⟩ : Env).keep ks, []⟩ st') :
  VC P T L ds (.region id os.toArray true) env st Q := by
 intro g w a h1 h2 h3 h4
 refine wp_region_any hm ?_
 simp only [panicB, Bool.and_eq_true, List.all_eq_true, List.any_eq_true, List.mem_range, Bool.not_eq_true', beq_iff_eq, Nat.blt_eq, List.contains_iff_mem, Bool.or_eq_true] at hB
 obtain ⟨⟨⟨⟨⟨⟨⟨⟨⟨b1, b2⟩, b3⟩, b4⟩, b5⟩, b6⟩, b7⟩, b8⟩, b9⟩, b10⟩ := hB
 have hx := Ext.drew g w
 have henv : SimEnv g w ⟨env.N, env.g, []⟩ a := ⟨h2.1, fun t c v hv => h2.2 t c v (h3 t _ (by simpa [Env.look, find] using hv)).2⟩
 have hok : EnvOK L ⟨env.N, env.g, []⟩ := fun t x hx => ⟨(h3 t x hx).1, by simpa [Env.look, find] using hx⟩
 have h5 : SimSt T g st w.drew := h1.keep hx rfl (fun _ _ => rfl) fun b _ _ => ⟨rfl, rfl⟩
 have hd := dOps3_same _ _ _ st ⟨rfl, fun _ => rfl⟩ hok h
 rw [← pick_zip] at hd
 have hfalse : ∀ i, i < os.length → (Array.replicate os.toArray.size false).getD i true = false := fun i hi => by simp [Array.getD_eq_getD_getElem?, Array.getElem?_replicate, hi]
 have hdown : ∀ j o, os.toArray[j]? = some o → (Array.replicate os.toArray.size false).getD j true = true → ∀ e ∈ o.after.toList, Region.binds .any e = true → (Array.replicate os.toArray.size false).getD e.on false = true := by
  intro j o ho hj
  have hlt : j < os.length := by simpa using (Array.getElem?_eq_some_iff.1 ho).1
  rw [hfalse j hlt] at hj
  cases hj
 have hnd := diffB_spec b5
 have hl : LeftW os.toArray (Array.replicate os.toArray.size false) (rs ++ [c]) dead := by
  refine ⟨hnd, fun i => ?_, by simp, hdown⟩
  simp only [List.size_toArray]
  exact ⟨fun hi => ⟨by simpa using b6 i hi, hfalse i (by simpa using b6 i hi)⟩, fun hi => b7 i (by simpa using hi.1)⟩
 have hcs : c < os.length := by simpa using b6 c (by simp)
 have hoc : os.toArray[c]? = some (os.getD c default) := by simp [List.getD_eq_getElem?_getD, hcs]
 have hoffb : ∀ {d : Option Tmp} {l : List Nat}, offB d l = true → ∀ t, d = some t → t ∉ l := by
  rintro d l h t rfl
  simpa [offB] using h
 have hatc : (atC os.toArray cls c).1 = os.getD c default := by simp [atC, Array.getD_eq_getD_getElem?, List.getD_eq_getElem?_getD]
 have := panic_sound (ds := ds) hT b1 (Q := Q) (g0 := g) (w0 := w) hoc hks (N := env.N) (E0 := (⟨env.N, env.g, []⟩ : Env).keep ks) (dead := dead) (fun j hj => b4 j hj) rs.length rs _ _ g w.drew a rfl hl (pair3_spec b2) (fun x hx => b3 x hx) (fun x hx => (b8 x hx).imp (fun h => h) fun h d hd => by rw [← hatc]; exact hoffb h d hd) (fun x hx t ht => hoffb (b9 x hx) t ht) hx h5 (henv.ext hx) hok h4 rfl rfl hd
 have hb10 : rs.length + 1 + dead.length = os.length := by simpa using b10
 rw [hb10] at this
 simpa using this
end
section
variable (P : Program) (T : Nat → TI) (an : Nat → Nat) (L : List Nat) (ds : List Deferred) (ss : List St)
def dStepR (r : Step) (f : St → Step) (gc : Bool) (cl : Nat) (st : St) (K : V → St → Prop) : Prop :=
 match cl with
 | 3 => match r with
  | .mem v s0 side => s0 = st ∧ (gc = true → side) ∧ stillK P T f gc ss v ∧ K v st
  | .call k args => ∃ v, (gc = true → VCalls P T k args st fun r s' => r = .ret v ∧ s' = st) ∧ stillK P T f gc ss v ∧ K v st
  | _ => False
 | 4 => match r with
  | .call k args => ∃ v st', (gc = true ∧ st ∈ ss ∧ st' ∈ ss ∧ VCalls P T k args st fun r s' => r = .ret v ∧ s' = st') ∧ K v st'
  | .mem v s0 side => (gc = true ∨ s0 = st) ∧ st ∈ ss ∧ s0 ∈ ss ∧ (gc = true → side) ∧ K v s0
  | _ => False
 | cl => dStep P T r gc cl st K
/-- A stage, computed. -/
def dK3 (all : Array Oper) : List Oper → List Nat → Env → St → (VExit → Env → St → Prop) → Prop
 | [], _, env, st, Q => Q .normal env st
 | o :: os, cs, env, st, Q => bindO (guardV all env o.guard) fun gc => okDstB env.N o.dst ∧
   dStepR P T ss (stepOp T an o.dst o.op gc env st) (fun s => stepOp T an o.dst o.op gc env s) gc (cs.headD 0) st fun v st' => dK3 all os cs.tail (env.put L o.dst gc v) st' Q
def eK3 (r : Step) (f : St → Step) (gc : Bool) (c : Nat) (dst : Option Tmp) (all : Array Oper) (os : List Oper) (cs : List Nat) (env : Env) (st : St) (Q : VExit → Env → St → Prop) : Prop :=
 dStepR P T ss r f gc c st fun v st' => dK3 P T an L ss all os cs (env.put L dst gc v) st' Q
def hK3 (g : Option Bool) (dst : Option Tmp) (op : Op) (c : Nat) (all : Array Oper) (os : List Oper) (cs : List Nat) (env : Env) (st : St) (Q : VExit → Env → St → Prop) : Prop :=
 match g with
 | some gc => okDstB env.N dst ∧ eK3 P T an L ss (stepOp T an dst op gc env st) (fun s => stepOp T an dst op gc env s) gc c dst all os cs env st Q
 | none => False
@[congr] theorem eK3_congr {r r' : Step} {f : St → Step} {gc : Bool} {c : Nat} {dst : Option Tmp} {all : Array Oper} {os : List Oper} {cs : List Nat} {env : Env} {st : St} {Q : VExit → Env → St → Prop} (h : r = r') :
  eK3 P T an L ss r f gc c dst all os cs env st Q = eK3 P T an L ss r' f gc c dst all os cs env st Q := by rw [h]
variable {P T an L ds ss}
theorem dStepR_mono {r : Step} {f : St → Step} {gc : Bool} {cl : Nat} {st : St} {K : V → St → Prop} (hr : r = f st) (h : dStepR P T ss r f gc cl st K) : dStep3 P T ss f gc cl st K := by
 subst hr
 unfold dStepR at h
 split at h
 ·split at h
  ·rename_i v s0 side hf
   obtain ⟨rfl, h2, h3, h4⟩ := h
   exact ⟨v, s0, ⟨rfl, by rw [hf]; exact ⟨rfl, rfl, h2⟩, h3⟩, h4⟩
  ·rename_i k args hf
   obtain ⟨v, h2, h3, h4⟩ := h
   exact ⟨v, st, ⟨rfl, by rw [hf]; exact h2, h3⟩, h4⟩
  ·exact h.elim
 ·split at h
  ·rename_i k args hf
   obtain ⟨v, st', ⟨h1, h2, h3, h4⟩, h5⟩ := h
   exact ⟨v, st', ⟨h2, h3, by rw [hf]; exact ⟨h1, h4⟩⟩, h5⟩
  ·rename_i v s0 side hf
   obtain ⟨h1, h2, h3, h4, h5⟩ := h
   exact ⟨v, s0, ⟨h2, h3, by rw [hf]; exact ⟨rfl, rfl, h1, .inl rfl, h4⟩⟩, h5⟩
  ·exact h.elim
 ·rename_i h3 h4
  obtain ⟨v, st', k1, k2⟩ := dStep_fun h
  refine ⟨v, st', ?_, k2⟩
  unfold dFun3
  split
  ·exact absurd rfl h3
  ·exact absurd rfl h4
  ·exact k1
theorem dK3_ops {all : Array Oper} {Q : VExit → Env → St → Prop} : ∀ (os : List Oper) (cs : List Nat) (env : Env) (st : St), dK3 P T an L ss all os cs env st Q → dOps3 P T an L ss all (zipC os cs) env st Q
 | [], cs, env, st, h => by simp only [zipC, dOps3]; exact h
 | o :: os, cs, env, st, h => by
  simp only [dK3] at h
  have : zipC (o :: os) cs = (o, cs.headD 0) :: zipC os cs.tail := by
   cases cs with
   | nil => simp [zipC]
   | cons c cs => simp [zipC]
  rw [this]
  simp only [dOps3]
  unfold bindO at h ⊢
  split at h
  case h_2 => exact h.elim
  obtain ⟨h1, h2⟩ := h
  obtain ⟨v, st', k1, k2⟩ := dStepR_mono rfl h2
  exact ⟨h1, v, st', k1, dK3_ops os cs.tail _ _ k2⟩
/-- The rest of a region, in two orders. -/
def stage2 (P : Program) (T : Nat → TI) (an : Nat → Nat) (L : List Nat) (ds : List Deferred) (all : Array Oper) (os2 : List Oper) (cs2 : List Nat) (os3 : List Oper) (cs3 : List Nat) (Qm : VExit → Env → St → Prop) (_ : VExit) (env : Env) (st : St) : Prop := dK P T an L ds all os2 cs2 env st .done Qm ∧ dK P T an L ds all os3 cs3 env st .done Qm
theorem stage2_of {all : Array Oper} {os2 os3 : List Oper} {cs2 cs3 : List Nat} {Qm : VExit → Env → St → Prop} {ex : VExit} {env : Env} {st : St} (h2 : dK P T an L ds all os2 cs2 env st .done Qm) (h3 : dK P T an L ds all os3 cs3 env st .done Qm) : stage2 P T an L ds all os2 cs2 os3 cs3 Qm ex env st := ⟨h2, h3⟩
/-- A stage of a region, then its rest, in two orders. -/
theorem vstage (hT : Tab P T) (hm : P.follows .mixedOrders = true) {σ : Type} {id : Nat} {os : List Oper} (ss : List St) (cls rs rs2 rs3 : List Nat) (p q : Nat) (ks : List Nat) (e : σ → List (Nat × Bool × V)) (s : σ → St) (I : σ → Prop) (hks : subN ks L = true) {N : Nat} {g l : List (Nat × Bool × V)} {st : St} {k : Kont} {Q : VExit → Env → St → Prop} (hB : stageB os.toArray cls rs rs2 rs3 p q = true)
  (h : dK3 P T an L ss os.toArray (pickO os rs) (pickC cls rs) ⟨N, g, []⟩ st (stage2 P T an L ds os.toArray (pickO os rs2) (pickC cls rs2) (pickO os rs3) (pickC cls rs3) (Mid N ks e s I)))
  (cont : ∀ x, I x → qK P T an L ds k Q .normal ⟨N, e x, []⟩ (s x)) : VC P T L ds (.region id os.toArray true) ⟨N, g, l⟩ st (qK P T an L ds k Q) := by
 intro g0 w a h1 h2 h3 h4
 refine wp_mono (VC.stage (ds := ds) (an := an) (ss := ss) (env := ⟨N, g, l⟩) (Q := Mid N ks e s I) hT hm hB (dK3_ops _ _ _ _ h) g0 w a h1 h2 h3 h4) fun e1 a' w' ⟨ve, env', st', g', k1, k2, k3, k4, k5, k6, k7⟩ => ?_
 obtain ⟨rfl, hN, x, hx1, rfl, hI⟩ := k1
 refine ⟨.normal, ⟨N, e x, []⟩, s x, g', cont x hI, k2, ?_, ?_, k5, k6, k7⟩
 ·rw [← hN, ← hx1]; exact k3.keep ks
 ·rw [← hN, ← hx1]; exact EnvOK.keep hks env'
/-- A region where a call panics. -/
theorem vpanic (hT : Tab P T) (hm : P.follows .mixedOrders = true) {id : Nat} {os : List Oper} (cls rs : List Nat) (c : Nat) (dead ks : List Nat) (hks : subN ks L = true) {N : Nat} {g l : List (Nat × Bool × V)} {st : St} {k : Kont} {Q : VExit → Env → St → Prop} (hB : panicB os.toArray cls rs c dead ks = true)
  (h : dK3 P T an L [] os.toArray (pickO os rs) (pickC cls rs) ⟨N, g, []⟩ st fun _ e s => pK P T (stepOp T an (os.getD c default).dst (os.getD c default).op true e s) (guardV os.toArray e (os.getD c default).guard) s fun v st' => qK P T an L ds k Q (.panic v) ⟨N, (⟨N, g, []⟩ : Env).keep ks, []⟩ st') :
  VC P T L ds (.region id os.toArray true) ⟨N, g, l⟩ st (qK P T an L ds k Q) := VC.panic (ss := []) hT hm hks hB (dK3_ops _ _ _ _ h)
theorem eK3_loud {f : FuncId} {F : St → Step} {args args' : List V} {dst : Option Tmp} {all : Array Oper} {os : List Oper} {cs : List Nat} {env : Env} {st st' : St} {Q : VExit → Env → St → Prop} {v : V}
  (h : VCalls P T f args' st fun r s' => r = .ret v ∧ s' = st') (hw : wkL args args') (h1 : st ∈ ss) (h2 : st' ∈ ss) (h3 : dK3 P T an L ss all os cs (env.put L dst true v) st' Q) : eK3 P T an L ss (.call f args) F true 4 dst all os cs env st Q := ⟨v, st', ⟨rfl, h1, h2, h.args hw⟩, h3⟩
theorem eK3_free {f : FuncId} {F : St → Step} {args args' : List V} {gc : Bool} {dst : Option Tmp} {all : Array Oper} {os : List Oper} {cs : List Nat} {env : Env} {st : St} {Q : VExit → Env → St → Prop} {v : V}
  (h : ∀ s, VCalls P T f args' s fun r s' => r = .ret v ∧ s' = s) (hw : wkL args args') (h2 : dK3 P T an L ss all os cs (env.put L dst gc v) st Q) : eK3 P T an L ss (.call f args) F gc 0 dst all os cs env st Q := ⟨v, fun _ s => (h s).args hw, h2⟩
end
theorem gwD3 :
  (∀ (P : Program) (T : Nat → TI) (an : Nat → Nat) (L : List Nat) (ss : List St) (env : Env) (st : St) (Q : VExit → Env → St → Prop) (all : Array Oper) (cs : List Nat), dK3 P T an L ss all [] cs env st Q = Q .normal env st) ∧
  (∀ (P : Program) (T : Nat → TI) (an : Nat → Nat) (L : List Nat) (ss : List St) (env : Env) (st : St) (Q : VExit → Env → St → Prop) (all : Array Oper) (dst : Option Tmp) (op : Op) (ty : TypeId) (pos : String) (aft : Array Edge) (os : List Oper) (c : Nat) (cs : List Nat), dK3 P T an L ss all (⟨dst, op, ty, pos, aft, none⟩ :: os) (c :: cs) env st Q = (okDstB env.N dst ∧ eK3 P T an L ss (stepOp T an dst op true env st) (fun s => stepOp T an dst op true env s) true c dst all os cs env st Q)) ∧
  (∀ (P : Program) (T : Nat → TI) (an : Nat → Nat) (L : List Nat) (ss : List St) (env : Env) (st : St) (Q : VExit → Env → St → Prop) (all : Array Oper) (dst : Option Tmp) (op : Op) (ty : TypeId) (pos : String) (aft : Array Edge) (gd : Nat × Bool) (os : List Oper) (c : Nat) (cs : List Nat), dK3 P T an L ss all (⟨dst, op, ty, pos, aft, some gd⟩ :: os) (c :: cs) env st Q = hK3 P T an L ss (guardV all env (some gd)) dst op c all os cs env st Q) ∧
  (∀ (P : Program) (T : Nat → TI) (an : Nat → Nat) (L : List Nat) (ss : List St) (env : Env) (st : St) (Q : VExit → Env → St → Prop) (all : Array Oper) (dst : Option Tmp) (op : Op) (os : List Oper) (gc : Bool) (c : Nat) (cs : List Nat), hK3 P T an L ss (some gc) dst op c all os cs env st Q = (okDstB env.N dst ∧ eK3 P T an L ss (stepOp T an dst op gc env st) (fun s => stepOp T an dst op gc env s) gc c dst all os cs env st Q)) ∧
  (∀ (P : Program) (T : Nat → TI) (an : Nat → Nat) (L : List Nat) (ss : List St) (env : Env) (st : St) (Q : VExit → Env → St → Prop) (all : Array Oper) (dst : Option Tmp) (os : List Oper) (gc : Bool) (cs : List Nat) (v : V) (side : Prop) (F : St → Step), eK3 P T an L ss (.pure v side) F gc 0 dst all os cs env st Q = ((gc = true → side) ∧ dK3 P T an L ss all os cs (env.put L dst gc v) st Q)) ∧
  (∀ (P : Program) (T : Nat → TI) (an : Nat → Nat) (L : List Nat) (ss : List St) (env : Env) (st : St) (Q : VExit → Env → St → Prop) (all : Array Oper) (dst : Option Tmp) (os : List Oper) (gc : Bool) (cs : List Nat) (v : V) (st' : St) (side : Prop) (F : St → Step), eK3 P T an L ss (.mem v st' side) F gc 1 dst all os cs env st Q = ((gc = true ∨ st' = st) ∧ ((1 : Nat) = 2 ∨ (1 : Nat) = 1 ∧ st' = st) ∧ (gc = true → side) ∧ dK3 P T an L ss all os cs (env.put L dst gc v) st' Q)) ∧
  (∀ (P : Program) (T : Nat → TI) (an : Nat → Nat) (L : List Nat) (ss : List St) (env : Env) (st : St) (Q : VExit → Env → St → Prop) (all : Array Oper) (dst : Option Tmp) (os : List Oper) (gc : Bool) (cs : List Nat) (v : V) (st' : St) (side : Prop) (F : St → Step), eK3 P T an L ss (.mem v st' side) F gc 2 dst all os cs env st Q = ((gc = true ∨ st' = st) ∧ ((2 : Nat) = 2 ∨ (2 : Nat) = 1 ∧ st' = st) ∧ (gc = true → side) ∧ dK3 P T an L ss all os cs (env.put L dst gc v) st' Q)) ∧
  (∀ (P : Program) (T : Nat → TI) (an : Nat → Nat) (L : List Nat) (ss : List St) (env : Env) (st : St) (Q : VExit → Env → St → Prop) (all : Array Oper) (dst : Option Tmp) (os : List Oper) (gc : Bool) (cs : List Nat) (v : V) (s0 : St) (side : Prop) (F : St → Step), eK3 P T an L ss (.mem v s0 side) F gc 3 dst all os cs env st Q = (s0 = st ∧ (gc = true → side) ∧ stillK P T F gc ss v ∧ dK3 P T an L ss all os cs (env.put L dst gc v) st Q)) ∧
  (∀ (P : Program) (T : Nat → TI) (an : Nat → Nat) (L : List Nat) (ss : List St) (env : Env) (st : St) (Q : VExit → Env → St → Prop) (all : Array Oper) (dst : Option Tmp) (os : List Oper) (gc : Bool) (cs : List Nat) (v : V) (s0 : St) (side : Prop) (F : St → Step), eK3 P T an L ss (.mem v s0 side) F gc 4 dst all os cs env st Q = ((gc = true ∨ s0 = st) ∧ st ∈ ss ∧ s0 ∈ ss ∧ (gc = true → side) ∧ dK3 P T an L ss all os cs (env.put L dst gc v) s0 Q)) ∧
  (∀ (P : Program) (T : Nat → TI) (F : St → Step) (gc : Bool) (v : V), stillK P T F gc [] v = True) ∧
  (∀ (P : Program) (T : Nat → TI) (F : St → Step) (gc : Bool) (v : V) (s : St) (r : List St), stillK P T F gc (s :: r) v = (memIs P T (F s) gc s v ∧ stillK P T F gc r v)) ∧
  (∀ (P : Program) (T : Nat → TI) (gc : Bool) (s s' : St) (v v' : V) (side : Prop), memIs P T (.mem v' s' side) gc s v = (v' = v ∧ s' = s ∧ (gc = true → side))) := by
 and_intros <;> intros <;> first
  | rfl
  | (simp only [dK3, hK3, bindO, List.headD_cons, List.tail_cons]; generalize guardV _ _ _ = r; cases r <;> rfl)
end Go.Proofs.YtpllcpbhjglpaaaGreatDoor.Gw
namespace Go.Proofs.YtpllcpbhjglpaaaGreatDoor.Gw
open Go
set_option linter.unusedSimpArgs false
set_option linter.unusedVariables false
/-- An operation, and what may come next behind it. -/
inductive OT where
 | nd (i : Nat) (l : List OT)
def OT.i : OT → Nat
 | .nd i _ => i
def OT.l : OT → List OT
 | .nd _ l => l
def freeB (all : Array Oper) (rs : List Nat) (i : Nat) : Bool := match all[i]? with | none => false | some o => o.after.all fun e => !Region.binds .any e || !rs.contains e.on
def treeB (all : Array Oper) : Nat → List Nat → List OT → Bool
 | 0, rs, l => rs.isEmpty && l.isEmpty
 | n + 1, rs, l => !l.isEmpty && rs.all (fun i => !freeB all rs i || l.any fun t => t.i == i) && l.all fun t => treeB all n (rs.filter fun j => !(j == t.i)) t.l
section
variable (P : Program) (T : Nat → TI) (an : Nat → Nat) (L : List Nat)
mutual
def tK1 (os : List Oper) : OT → Env → St → (VExit → Env → St → Prop) → Prop
 | .nd i l, env, st, Q => bindO (guardV os.toArray env (os.getD i default).guard) fun gc => okDstB env.N (os.getD i default).dst ∧
   dStep P T (stepOp T an (os.getD i default).dst (os.getD i default).op gc env st) gc 2 st fun v st' => tKs os l (env.put L (os.getD i default).dst gc v) st' Q
/-- All that may come next. -/
def tKs (os : List Oper) : List OT → Env → St → (VExit → Env → St → Prop) → Prop
 | [], env, st, Q => Q .normal env st
 | t :: r, env, st, Q => tK1 os t env st Q ∧ tKr os r env st Q
def tKr (os : List Oper) : List OT → Env → St → (VExit → Env → St → Prop) → Prop
 | [], _, _, _ => True
 | t :: r, env, st, Q => tK1 os t env st Q ∧ tKr os r env st Q
end
variable {P T an L}
theorem tKr_mem {os : List Oper} {env : Env} {st : St} {Q : VExit → Env → St → Prop} : ∀ {l : List OT}, tKr P T an L os l env st Q → ∀ t ∈ l, tK1 P T an L os t env st Q
 | [], _, t, ht => by simp at ht
 | a :: l, h, t, ht => by
  simp only [tKr] at h
  rcases List.mem_cons.1 ht with rfl | ht
  ·exact h.1
  ·exact tKr_mem h.2 t ht
theorem tKs_mem {os : List Oper} {env : Env} {st : St} {Q : VExit → Env → St → Prop} {l : List OT} (h : tKs P T an L os l env st Q) (t : OT) (ht : t ∈ l) : tK1 P T an L os t env st Q := by
 cases l with
 | nil => simp at ht
 | cons a l =>
  simp only [tKs] at h
  rcases List.mem_cons.1 ht with rfl | ht
  ·exact h.1
  ·exact tKr_mem h.2 t ht
variable {ds : List Deferred}
theorem LeftL.drop {all : Array Oper} {listed : Array Bool} {rs : List Nat} {i : Nat} (hl : LeftL all listed rs) (hi : i ∈ Region.ready .any all listed) : LeftL all (listed.setIfInBounds i true) (rs.filter fun j => !(j == i)) := by
 obtain ⟨hi1, hi2, _⟩ := ready_spec hi
 obtain ⟨pre, post, hsplit⟩ := List.append_of_mem ((hl.mem i).2 ⟨hi1, hi2⟩)
 have h2 := hl
 rw [hsplit] at h2
 have h3 := h2.next hi
 have hnd := h2.nodup
 have hpre : ∀ x ∈ pre, x ≠ i := fun x hx e => (List.nodup_append.1 hnd).2.2 x hx i (by simp) e
 have hpost : ∀ x ∈ post, x ≠ i := fun x hx e => (List.nodup_cons.1 (List.nodup_append.1 hnd).2.1).1 (e ▸ hx)
 have : rs.filter (fun j => !(j == i)) = pre ++ post := by
  rw [hsplit, List.filter_append, List.filter_cons]
  simp only [beq_self_eq_true, Bool.not_true, Bool.false_eq_true, if_false]
  rw [List.filter_eq_self.2 (fun x hx => by simpa using hpre x hx), List.filter_eq_self.2 (fun x hx => by simpa using hpost x hx)]
 rw [this]; exact h3
theorem tree_sound (hT : Tab P T) {os : List Oper} (hE : backB os.toArray = true) {Q : VExit → Env → St → Prop} {g0 : G} {w0 : World} :
  ∀ (n : Nat) (rs : List Nat) (l : List OT) (listed : Array Bool) (env : Env) (st : St) (g : G) (w : World) (a : Act), rs.length = n → LeftL os.toArray listed rs → treeB os.toArray n rs l = true → Ext g0 w0 g w → SimSt T g st w → SimEnv g w env a → EnvOK L env → a.defers = ds →
   tKs P T an L os l env st Q → wpAny P .any os.toArray (Lift T L ds g0 w0 Q) n listed a w := by
 intro n
 induction n with
 | zero =>
  intro rs l listed env st g w a hn hl hB hx hst henv hok hds h
  have : rs = [] := List.eq_nil_of_length_eq_zero hn
  subst this
  simp only [treeB, Bool.and_eq_true, List.isEmpty_iff] at hB
  obtain ⟨_, rfl⟩ := hB
  simp only [tKs] at h
  refine ⟨?_, ⟨.normal, env, st, g, h, rfl, henv, hok, hds, hst, hx⟩⟩
  unfold Region.ready
  rw [List.filter_eq_nil_iff]
  intro i hi hr
  have hi' : i < os.toArray.size := by simpa using hi
  have : listed.getD i true = false := by simp only [Bool.and_eq_true, Bool.not_eq_true'] at hr; exact hr.1
  have := (hl.mem i).2 ⟨hi', this⟩
  simp at this
 | succ n ih =>
  intro rs l listed env st g w a hn hl hB hx hst henv hok hds h
  simp only [treeB, Bool.and_eq_true, List.all_eq_true, Bool.or_eq_true, List.any_eq_true, Bool.not_eq_true', beq_iff_eq] at hB
  obtain ⟨⟨_, hB2⟩, hB3⟩ := hB
  refine ⟨fun hr => (some_ready hE hl (by intro e; rw [e] at hn; simp at hn) hr).elim, fun i hi => ?_⟩
  obtain ⟨hi1, hi2, hafter⟩ := ready_spec hi
  have himem := (hl.mem i).2 ⟨hi1, hi2⟩
  have hfree : freeB os.toArray rs i = true := by
   unfold freeB
   rw [Array.getElem?_eq_getElem hi1]
   simp only [← Array.all_toList, List.all_eq_true, Bool.or_eq_true, Bool.not_eq_true']
   intro e he
   cases hb : Region.binds .any e with
   | false => exact .inl rfl
   | true =>
    right
    have h1 := hafter e he hb
    cases hc : rs.contains e.on with
    | false => rfl
    | true =>
     have h2 := (hl.mem e.on).1 (by simpa using hc)
     rw [getD_of_size (by rw [hl.size]; exact h2.1) false true, h2.2] at h1
     cases h1
  obtain ⟨t, ht, hti⟩ := (hB2 i himem).resolve_left (by rw [hfree]; simp)
  have hk := tKs_mem h t ht
  obtain ⟨j, l2⟩ := t
  simp only [OT.i] at hti
  subst hti
  have hB4 := hB3 _ ht
  simp only [OT.i, OT.l] at hB4
  simp only [tK1] at hk
  unfold bindO at hk
  split at hk
  case h_2 => exact hk.elim
  rename_i gc hgc
  obtain ⟨hd, hk⟩ := hk
  obtain ⟨v, st', hf, hk⟩ := dStep_fun hk
  simp only [wpOp, Array.getElem?_eq_getElem hi1]
  have hjl : j < os.length := by simpa using hi1
  have ho : os.toArray[j] = os.getD j default := by simp [List.getD_eq_getElem?_getD, hjl]
  rw [ho]
  refine dstep_sem hT hst henv hok hds hgc hd hf fun g' w' a' k1 k2 k3 k4 k5 => ?_
  have hnd := hl.drop hi
  have hlen : (rs.filter fun x => !(x == j)).length = n := by
   obtain ⟨pre, post, hsplit⟩ := List.append_of_mem himem
   have hnd2 := hl.nodup
   rw [hsplit] at hnd2
   have hpre : ∀ x ∈ pre, x ≠ j := fun x hx e => (List.nodup_append.1 hnd2).2.2 x hx j (by simp) e
   have hpost : ∀ x ∈ post, x ≠ j := fun x hx e => (List.nodup_cons.1 (List.nodup_append.1 hnd2).2.1).1 (e ▸ hx)
   have : rs.filter (fun x => !(x == j)) = pre ++ post := by
    rw [hsplit, List.filter_append, List.filter_cons]
    simp only [beq_self_eq_true, Bool.not_true, Bool.false_eq_true, if_false]
    rw [List.filter_eq_self.2 (fun x hx => by simpa using hpre x hx), List.filter_eq_self.2 (fun x hx => by simpa using hpost x hx)]
   rw [this]
   rw [hsplit] at hn
   simp at hn ⊢
   omega
  exact ih _ l2 _ _ st' g' w' a' hlen hnd hB4 (hx.trans k1) k2 k3 k4 k5 hk
def stageTB (all : Array Oper) (cls rs rs2 : List Nat) (l : List OT) : Bool :=
 backB all && pair3 all cls rs && rs2.all (fun j => rs.all fun x => edgeB all j x) && diffB (rs ++ rs2) && (rs ++ rs2).all (fun i => Nat.blt i all.size) && (List.range all.size).all (fun i => (rs ++ rs2).contains i) &&
  treeB all rs2.length rs2 l && (rs.length + rs2.length == all.size)
theorem VC.stageT (hT : Tab P T) (hm : P.follows .mixedOrders = true) {ss : List St} {id : Nat} {os : List Oper} {cls rs rs2 : List Nat} {l : List OT} {env : Env} {st : St} {Q : VExit → Env → St → Prop} (hB : stageTB os.toArray cls rs rs2 l = true)
  (h : dOps3 P T an L ss os.toArray (zipC (pickO os rs) (pickC cls rs)) ⟨env.N, env.g, []⟩ st fun _ env' st' => tKs P T an L os l env' st' Q) :
  VC P T L ds (.region id os.toArray true) env st Q := by
 intro g w a h1 h2 h3 h4
 refine wp_region_any hm ?_
 simp only [stageTB, Bool.and_eq_true, List.all_eq_true, List.mem_range, Bool.not_eq_true', beq_eq_false_iff_ne, beq_iff_eq, Nat.blt_eq, List.contains_iff_mem, Bool.or_eq_true] at hB
 obtain ⟨⟨⟨⟨⟨⟨⟨b1, b2⟩, b3⟩, b4⟩, b5⟩, b6⟩, b7⟩, b15⟩ := hB
 have hx := Ext.drew g w
 have henv : SimEnv g w ⟨env.N, env.g, []⟩ a := ⟨h2.1, fun t c v hv => h2.2 t c v (h3 t _ (by simpa [Env.look, find] using hv)).2⟩
 have hok : EnvOK L ⟨env.N, env.g, []⟩ := fun t x hx => ⟨(h3 t x hx).1, by simpa [Env.look, find] using hx⟩
 have h5 : SimSt T g st w.drew := h1.keep hx rfl (fun _ _ => rfl) fun b _ _ => ⟨rfl, rfl⟩
 have hd := dOps3_same _ _ _ st ⟨rfl, fun _ => rfl⟩ hok h
 rw [← pick_zip] at hd
 have hfalse : ∀ i, i < os.length → (Array.replicate os.toArray.size false).getD i true = false := fun i hi => by simp [Array.getD_eq_getD_getElem?, Array.getElem?_replicate, hi]
 have hdown : ∀ j o, os.toArray[j]? = some o → (Array.replicate os.toArray.size false).getD j true = true → ∀ e ∈ o.after.toList, Region.binds .any e = true → (Array.replicate os.toArray.size false).getD e.on false = true := by
  intro j o ho hj
  have hlt : j < os.length := by simpa using (Array.getElem?_eq_some_iff.1 ho).1
  rw [hfalse j hlt] at hj
  cases hj
 have hnd := diffB_spec b4
 have hl : LeftW os.toArray (Array.replicate os.toArray.size false) rs rs2 := by
  refine ⟨hnd, fun i => ?_, by simp, hdown⟩
  simp only [List.size_toArray]
  exact ⟨fun hi => ⟨by simpa using b5 i hi, hfalse i (by simpa using b5 i hi)⟩, fun hi => b6 i (by simpa using hi.1)⟩
 have hlen : rs.length + rs2.length = os.length := by simpa using b15
 have := stage_sound (ds := ds) hT b1 (Q := Q) (QM := fun _ env' st' => tKs P T an L os l env' st' Q) (g0 := g) (w0 := w) (dead := rs2) rs.length rs _ _ st g w.drew a rfl hl (pair3_spec b2) (fun j hj x hxx => b3 j hj x hxx) hx h5 (henv.ext hx) hok h4 hd ?_
 ·rw [hlen] at this
  simpa using this
 ·rintro listed' env' st' g' w' a' hL q1 k1 k2 k3 k4 k5
  exact tree_sound hT b1 rs2.length rs2 l listed' env' st' g' w' a' rfl hL b7 k1 k2 k3 k4 k5 q1
/-- The rest of a region, in all orders. -/
def stageT (P : Program) (T : Nat → TI) (an : Nat → Nat) (L : List Nat) (os : List Oper) (l : List OT) (Qm : VExit → Env → St → Prop) (_ : VExit) (env : Env) (st : St) : Prop := tKs P T an L os l env st Qm
theorem vstageT (hT : Tab P T) (hm : P.follows .mixedOrders = true) {σ : Type} {id : Nat} {os : List Oper} (ss : List St) (cls rs rs2 : List Nat) (tr : List OT) (ks : List Nat) (e : σ → List (Nat × Bool × V)) (s : σ → St) (I : σ → Prop) (hks : subN ks L = true) {N : Nat} {g l : List (Nat × Bool × V)} {st : St} {k : Kont} {Q : VExit → Env → St → Prop} (hB : stageTB os.toArray cls rs rs2 tr = true)
  (h : dK3 P T an L ss os.toArray (pickO os rs) (pickC cls rs) ⟨N, g, []⟩ st (stageT P T an L os tr (Mid N ks e s I)))
  (cont : ∀ x, I x → qK P T an L ds k Q .normal ⟨N, e x, []⟩ (s x)) : VC P T L ds (.region id os.toArray true) ⟨N, g, l⟩ st (qK P T an L ds k Q) := by
 intro g0 w a h1 h2 h3 h4
 refine wp_mono (VC.stageT (ds := ds) (an := an) (ss := ss) (env := ⟨N, g, l⟩) (Q := Mid N ks e s I) hT hm hB (dK3_ops _ _ _ _ h) g0 w a h1 h2 h3 h4) fun e1 a' w' ⟨ve, env', st', g', k1, k2, k3, k4, k5, k6, k7⟩ => ?_
 obtain ⟨rfl, hN, x, hx1, rfl, hI⟩ := k1
 refine ⟨.normal, ⟨N, e x, []⟩, s x, g', cont x hI, k2, ?_, ?_, k5, k6, k7⟩
 ·rw [← hN, ← hx1]; exact k3.keep ks
 ·rw [← hN, ← hx1]; exact EnvOK.keep hks env'
end
section
variable (P : Program) (T : Nat → TI) (an : Nat → Nat) (L : List Nat)
def tO (os : List Oper) (o : Oper) (l : List OT) (env : Env) (st : St) (Q : VExit → Env → St → Prop) : Prop := bindO (guardV os.toArray env o.guard) fun gc => okDstB env.N o.dst ∧ dStep P T (stepOp T an o.dst o.op gc env st) gc 2 st fun v st' => tKs P T an L os l (env.put L o.dst gc v) st' Q
def tE (r : Step) (gc : Bool) (dst : Option Tmp) (os : List Oper) (l : List OT) (env : Env) (st : St) (Q : VExit → Env → St → Prop) : Prop := dStep P T r gc 2 st fun v st' => tKs P T an L os l (env.put L dst gc v) st' Q
def tH (g : Option Bool) (dst : Option Tmp) (op : Op) (os : List Oper) (l : List OT) (env : Env) (st : St) (Q : VExit → Env → St → Prop) : Prop := match g with
 | some gc => okDstB env.N dst ∧ tE P T an L (stepOp T an dst op gc env st) gc dst os l env st Q
 | none => False
@[congr] theorem tE_congr {r r' : Step} {gc : Bool} {dst : Option Tmp} {os : List Oper} {l : List OT} {env : Env} {st : St} {Q : VExit → Env → St → Prop} (h : r = r') : tE P T an L r gc dst os l env st Q = tE P T an L r' gc dst os l env st Q := by rw [h]
@[congr] theorem tO_congr {os : List Oper} {o o' : Oper} {l : List OT} {env : Env} {st : St} {Q : VExit → Env → St → Prop} (h : o = o') : tO P T an L os o l env st Q = tO P T an L os o' l env st Q := by rw [h]
end
theorem gwDT :
  (∀ (P : Program) (T : Nat → TI) (an : Nat → Nat) (L : List Nat) (os : List Oper) (tr : List OT) (Qm : VExit → Env → St → Prop) (x : VExit) (env : Env) (st : St), stageT P T an L os tr Qm x env st = tKs P T an L os tr env st Qm) ∧
  (∀ (P : Program) (T : Nat → TI) (an : Nat → Nat) (L : List Nat) (os : List Oper) (env : Env) (st : St) (Q : VExit → Env → St → Prop), tKs P T an L os [] env st Q = Q .normal env st) ∧
  (∀ (P : Program) (T : Nat → TI) (an : Nat → Nat) (L : List Nat) (os : List Oper) (t : OT) (r : List OT) (env : Env) (st : St) (Q : VExit → Env → St → Prop), tKs P T an L os (t :: r) env st Q = (tK1 P T an L os t env st Q ∧ tKr P T an L os r env st Q)) ∧
  (∀ (P : Program) (T : Nat → TI) (an : Nat → Nat) (L : List Nat) (os : List Oper) (env : Env) (st : St) (Q : VExit → Env → St → Prop), tKr P T an L os [] env st Q = True) ∧
  (∀ (P : Program) (T : Nat → TI) (an : Nat → Nat) (L : List Nat) (os : List Oper) (t : OT) (r : List OT) (env : Env) (st : St) (Q : VExit → Env → St → Prop), tKr P T an L os (t :: r) env st Q = (tK1 P T an L os t env st Q ∧ tKr P T an L os r env st Q)) ∧
  (∀ (P : Program) (T : Nat → TI) (an : Nat → Nat) (L : List Nat) (os : List Oper) (i : Nat) (l : List OT) (env : Env) (st : St) (Q : VExit → Env → St → Prop), tK1 P T an L os (.nd i l) env st Q = tO P T an L os (os.getD i default) l env st Q) ∧
  (∀ (P : Program) (T : Nat → TI) (an : Nat → Nat) (L : List Nat) (os : List Oper) (l : List OT) (dst : Option Tmp) (op : Op) (ty : TypeId) (pos : String) (aft : Array Edge) (env : Env) (st : St) (Q : VExit → Env → St → Prop), tO P T an L os ⟨dst, op, ty, pos, aft, none⟩ l env st Q = (okDstB env.N dst ∧ tE P T an L (stepOp T an dst op true env st) true dst os l env st Q)) ∧
  (∀ (P : Program) (T : Nat → TI) (an : Nat → Nat) (L : List Nat) (os : List Oper) (l : List OT) (dst : Option Tmp) (op : Op) (ty : TypeId) (pos : String) (aft : Array Edge) (gd : Nat × Bool) (env : Env) (st : St) (Q : VExit → Env → St → Prop), tO P T an L os ⟨dst, op, ty, pos, aft, some gd⟩ l env st Q = tH P T an L (guardV os.toArray env (some gd)) dst op os l env st Q) ∧
  (∀ (P : Program) (T : Nat → TI) (an : Nat → Nat) (L : List Nat) (os : List Oper) (l : List OT) (dst : Option Tmp) (op : Op) (gc : Bool) (env : Env) (st : St) (Q : VExit → Env → St → Prop), tH P T an L (some gc) dst op os l env st Q = (okDstB env.N dst ∧ tE P T an L (stepOp T an dst op gc env st) gc dst os l env st Q)) ∧
  (∀ (P : Program) (T : Nat → TI) (an : Nat → Nat) (L : List Nat) (os : List Oper) (l : List OT) (dst : Option Tmp) (gc : Bool) (v : V) (side : Prop) (env : Env) (st : St) (Q : VExit → Env → St → Prop), tE P T an L (.pure v side) gc dst os l env st Q = ((gc = true → side) ∧ tKs P T an L os l (env.put L dst gc v) st Q)) ∧
  (∀ (P : Program) (T : Nat → TI) (an : Nat → Nat) (L : List Nat) (os : List Oper) (l : List OT) (dst : Option Tmp) (gc : Bool) (v : V) (st' : St) (side : Prop) (env : Env) (st : St) (Q : VExit → Env → St → Prop), tE P T an L (.mem v st' side) gc dst os l env st Q = ((gc = true ∨ st' = st) ∧ (gc = true → side) ∧ tKs P T an L os l (env.put L dst gc v) st' Q)) := by
 and_intros <;> intros <;> first
  | rfl
  | (simp only [tK1, tO]; done)
  | (simp only [tO, tH, bindO]; generalize guardV _ _ _ = r; cases r <;> rfl)
  | (simp only [tE, dStep, true_or, true_and]; done)
  | (simp [tKs, tKr, stageT])
end Go.Proofs.YtpllcpbhjglpaaaGreatDoor.Gw
namespace Go.Proofs.YtpllcpbhjglpaaaGreatDoor.Gw
open Go
def lenK : TK → V → Option (V × Prop)
 | .str, .str s => some (.int .i64 s.length, True)
 | .slice _, .nils => some (.int .i64 0, True)
 | .slice _, .lst _ _ l => some (.int .i64 l.length, True)
 | .slice _, .arr _ n => some (.int .i64 n, True)
 | .map _ _, .nilm => some (.int .i64 0, True)
 | .map _ _, .map _ => none
 | _, _ => none
theorem builtinV_len (T : Nat → TI) (x : V) (t : TypeId) : builtinV T .len [x] [t] = lenK (T t).kind x := by
 simp only [builtinV]
 cases (T t).kind <;> cases x <;> rfl
def sliceK (T : Nat → TI) : TK → V → Option V → Option V → Option (V × Prop)
 | .str, .str s, none, none => some (.str s, True)
 | .str, .str s, some (.int _ a), none => some (.str (s.drop a.toNat), 0 ≤ a ∧ a ≤ s.length)
 | .str, .str s, none, some (.int _ b) => some (.str (s.take b.toNat), 0 ≤ b ∧ b ≤ s.length)
 | .str, .str s, some (.int _ a), some (.int _ b) => some (.str ((s.take b.toNat).drop a.toNat), 0 ≤ a ∧ a ≤ b ∧ b ≤ s.length)
 | .slice e, .lst sz _ l, none, none => if (T e).sized = true ∧ sz = (T e).size then some (.lst sz none l, True) else none
 | .slice e, .lst sz _ l, some (.int _ a), none => if (T e).sized = true ∧ sz = (T e).size then some (.lst sz none (l.drop a.toNat), 0 ≤ a ∧ a ≤ l.length) else none
 | .slice e, .lst sz _ l, none, some (.int _ b) => if (T e).sized = true ∧ sz = (T e).size then some (.lst sz none (l.take b.toNat), 0 ≤ b ∧ b ≤ l.length) else none
 | .slice e, .lst sz _ l, some (.int _ a), some (.int _ b) => if (T e).sized = true ∧ sz = (T e).size then some (.lst sz none ((l.take b.toNat).drop a.toNat), 0 ≤ a ∧ a ≤ b ∧ b ≤ l.length) else none
 | _, _, _, _ => none
theorem sliceV_K (T : Nat → TI) (t : TypeId) (x : V) (lo hi : Option V) : sliceV T t x lo hi = sliceK T (T t).kind x lo hi := by
 unfold sliceV
 generalize (T t).kind = k
 cases k with
 | str =>
  cases x with
  | str s =>
   match lo, hi with
   | none, none => rfl
   | some a, none => cases a <;> rfl
   | none, some b => cases b <;> rfl
   | some a, some b => cases a <;> cases b <;> rfl
  | _ => rfl
 | slice e =>
  cases x with
  | lst sz tk l =>
   by_cases hc : (T e).sized = true ∧ sz = (T e).size
   ·simp only [if_pos hc]
    match lo, hi with
    | none, none => simp only [sliceK, if_pos hc]
    | some a, none => cases a <;> simp only [sliceK, if_pos hc]
    | none, some b => cases b <;> simp only [sliceK, if_pos hc]
    | some a, some b => cases a <;> cases b <;> simp only [sliceK, if_pos hc]
   ·simp only [if_neg hc]
    match lo, hi with
    | none, none => simp only [sliceK, if_neg hc]
    | some a, none => cases a <;> simp only [sliceK, if_neg hc]
    | none, some b => cases b <;> simp only [sliceK, if_neg hc]
    | some a, some b => cases a <;> cases b <;> simp only [sliceK, if_neg hc]
  | _ => rfl
 | _ => rfl
theorem gwC :
  (∀ {α β : Type} (f : α → β) (a : α) (l : List α), List.map f (a :: l) = f a :: List.map f l) ∧
  (∀ {α β : Type} (f : α → β), List.map f [] = []) ∧
  (∀ {α β : Type} (a : α) (f : α → Option β), (some a).bind f = f a) ∧
  (∀ {α β : Type} (a : α) (f : α → β), (some a).map f = some (f a)) ∧
  (∀ {α : Type} (a : α) (l : List α) (d : α), (a :: l).headD d = a) ∧
  (∀ {α : Type} (a : α) (l : List α), (a :: l).reverse = l.reverse ++ [a]) ∧
  (∀ {α : Type}, ([] : List α).reverse = []) ∧
  (∀ {α : Type} (a : α) (l : List α), (a :: l).length = l.length + 1) ∧
  (∀ {α : Type}, ([] : List α).length = 0) ∧
  (∀ {α : Type} (l : List α), l ++ [] = l) ∧
  (∀ {α : Type} (a : α) (l m : List α), (a :: l) ++ m = a :: (l ++ m)) ∧
  (∀ {α : Type} (l : List α), [] ++ l = l) ∧
  (∀ {α : Type} (a : α) (l : List α) (n : Nat), (a :: l).drop (n + 1) = l.drop n) ∧
  (∀ {α : Type} (l : List α), l.drop 0 = l) ∧
  (∀ {α : Type} (n : Nat), ([] : List α).drop n = []) ∧
  (∀ {α : Type} (a : α) (l : List α) (n : Nat), (a :: l).take (n + 1) = a :: l.take n) ∧
  (∀ {α : Type} (l : List α), l.take 0 = []) ∧
  (∀ {α : Type} (n : Nat), ([] : List α).take n = []) ∧
  (∀ {α : Type} (a : α) (l : List α), (a :: l)[0]? = some a) ∧
  (∀ {α : Type} (a : α) (l : List α) (n : Nat), (a :: l)[n + 1]? = l[n]?) ∧
  (∀ {α : Type} (p : α → Bool) (a : α) (l : List α), (a :: l).all p = (p a && l.all p)) ∧
  (∀ {α : Type} (p : α → Bool), ([] : List α).all p = true) ∧
  (∀ {α : Type} (n : Nat) (a : α), List.replicate (n + 1) a = a :: List.replicate n a) ∧
  (∀ {α : Type} (a : α), List.replicate 0 a = []) ∧
  (∀ {α : Type} (a b : α) (l : List α), (a :: l).set 0 b = b :: l) ∧
  (∀ {α : Type} (a b : α) (l : List α) (n : Nat), (a :: l).set (n + 1) b = a :: l.set n b) ∧
  (∀ (h : Decidable True), @decide True h = true) ∧
  (∀ (h : Decidable False), @decide False h = false) ∧
  (∀ p : Prop, (True ∨ p) = True) ∧
  (∀ p : Prop, (p ∧ p) = p) ∧
  ((¬ False) = True) ∧
  (∀ {α : Type} (a b : α), (a ≠ b) = ¬ (a = b)) ∧
  (∀ {α : Type} (a : α), (a = a) = True) := by
 refine ⟨fun _ _ _ => rfl, fun _ => rfl, fun _ _ => rfl, fun _ _ => rfl, fun _ _ _ => rfl, fun _ _ => List.reverse_cons, rfl, fun _ _ => rfl, rfl, fun _ => List.append_nil _, fun _ _ _ => rfl, fun _ => rfl, fun _ _ _ => rfl, fun _ => rfl, fun _ => List.drop_nil, fun _ _ _ => rfl, fun _ => rfl, fun _ => List.take_nil, fun _ _ => rfl, fun _ _ _ => List.getElem?_cons_succ, fun _ _ _ => rfl, fun _ => rfl, fun _ _ => rfl, fun _ => rfl, fun _ _ _ => rfl, fun _ _ _ _ => rfl, fun h => by simp, fun h => by simp, fun _ => by simp, fun _ => by simp, by simp, fun _ _ => rfl, fun _ => by simp⟩
theorem gwN :
  (type_of% @builtinV_len) ∧
  (type_of% @sliceV_K) ∧ (∀ a b : Step, sliS 0 a b = a) ∧ (∀ a b : Step, sliS 3 a b = b) ∧
  (type_of% @lenK.eq_1) ∧
  (type_of% @lenK.eq_2) ∧
  (type_of% @lenK.eq_3) ∧
  (type_of% @lenK.eq_4) ∧
  (type_of% @lenK.eq_5) ∧
  (type_of% @lenK.eq_6) ∧
  (type_of% @lenK.eq_7) ∧
  (type_of% @sliceK.eq_1) ∧
  (type_of% @sliceK.eq_2) ∧
  (type_of% @sliceK.eq_3) ∧
  (type_of% @sliceK.eq_4) ∧
  (type_of% @sliceK.eq_5) ∧
  (type_of% @sliceK.eq_6) ∧
  (type_of% @sliceK.eq_7) ∧
  (type_of% @sliceK.eq_8) ∧
  (type_of% @sliceK.eq_9) ∧
  (type_of% @initG.eq_1) ∧
  (type_of% @initG.eq_2) ∧
  (type_of% @builtS.eq_1) ∧
  (type_of% @builtS.eq_2) ∧
  (type_of% @builtS.eq_3) ∧
  (type_of% @builtS.eq_4) ∧
  (type_of% @pureR.eq_1) ∧
  (type_of% @pureR.eq_2) ∧
  (type_of% @binV.eq_1) ∧
  (type_of% @binV.eq_2) ∧
  (type_of% @binV.eq_3) ∧
  (type_of% @binV.eq_4) ∧
  (type_of% @binV.eq_5) ∧
  (type_of% @binV.eq_6) ∧
  (type_of% @binV.eq_7) ∧
  (type_of% @binV.eq_8) ∧
  (type_of% @binV.eq_9) ∧
  (type_of% @binV.eq_10) ∧
  (type_of% @binV.eq_11) ∧
  (type_of% @binV.eq_12) ∧
  (type_of% @binV.eq_13) ∧
  (type_of% @binV.eq_14) ∧
  (type_of% @binV.eq_15) ∧
  (type_of% @binV.eq_16) ∧
  (type_of% @binV.eq_17) ∧
  (type_of% @binV.eq_18) ∧
  (type_of% @binV.eq_19) ∧
  (type_of% @binV.eq_20) ∧
  (type_of% @binV.eq_21) ∧
  (type_of% @binV.eq_22) ∧
  (type_of% @binV.eq_23) ∧
  (type_of% @binV.eq_24) ∧
  (type_of% @binV.eq_25) ∧
  (type_of% @aggEq.eq_1) ∧
  (type_of% @aggEq.eq_2) ∧
  (type_of% @aggEq.eq_3) ∧
  (type_of% @eqFs.eq_1) ∧
  (type_of% @eqFs.eq_2) ∧
  (type_of% @eqCell.eq_1) ∧
  (type_of% @eqCell.eq_2) ∧
  (type_of% @eqCell.eq_3) ∧
  (type_of% @eqCell.eq_4) ∧
  (type_of% @pickV.eq_1) ∧
  (type_of% @evO.eq_1) ∧
  (type_of% @evO.eq_2) ∧
  (type_of% @evO.eq_3) ∧
  (type_of% @evO.eq_4) ∧
  (type_of% @Env.look.eq_1) ∧
  (type_of% @find.eq_1) ∧
  (type_of% @find.eq_2) ∧
  (type_of% @V.ofConst.eq_1) ∧
  (type_of% @V.ofConst.eq_2) ∧
  (type_of% @V.ofConst.eq_3) ∧
  (type_of% @V.ofConst.eq_4) ∧
  (type_of% @V.ofConst.eq_5) ∧
  (type_of% @V.ofConst.eq_6) ∧
  (type_of% @V.ofConst.eq_7) ∧
  (type_of% @V.ofConst.eq_8) ∧
  (type_of% @V.ofConst.eq_9) ∧
  (type_of% @resV.eq_1) ∧
  (type_of% @resV.eq_2) ∧
  (type_of% @resOne.eq_1) ∧
  (type_of% @resOne.eq_2) ∧
  (type_of% @tupV.eq_1) ∧
  (type_of% @tupV.eq_2) ∧
  (type_of% @fillV.eq_1) ∧
  (type_of% @fillV.eq_2) ∧
  (type_of% @buildV.eq_1) ∧
  (type_of% @mkIface.eq_1) ∧
  (type_of% @litM.eq_1) ∧
  (type_of% @litM.eq_2) ∧
  (type_of% @litM.eq_3) ∧
  (type_of% @litM.eq_4) ∧
  (type_of% @litS.eq_1) ∧
  (type_of% @litS.eq_2) ∧
  (type_of% @litR.eq_1) ∧
  (type_of% @litRows.eq_1) ∧
  (type_of% @litRows.eq_2) ∧
  (type_of% @appS.eq_1) ∧
  (type_of% @appS.eq_2) ∧
  (type_of% @appS.eq_3) ∧
  (type_of% @appS.eq_4) ∧
  (type_of% @memA.eq_1) ∧
  (type_of% @memA.eq_2) ∧
  (type_of% @appendV.eq_1) ∧
  (type_of% @appendV.eq_2) ∧
  (type_of% @appendV.eq_3) ∧
  (type_of% @appendV.eq_4) ∧
  (type_of% @appendV.eq_5) ∧
  (type_of% @rowsOf.eq_1) ∧
  (type_of% @rowsOf.eq_2) ∧
  (type_of% @rowsOf.eq_3) ∧
  (type_of% @rowsOf.eq_4) ∧
  (type_of% @V.cells.eq_1) ∧
  (type_of% @V.cells.eq_2) ∧
  (type_of% @V.cells.eq_3) ∧
  (type_of% @V.cells.eq_4) ∧
  (type_of% @TI.sized.eq_1) ∧
  (type_of% @TI.known.eq_1) ∧
  (type_of% @TI.agg.eq_1) ∧
  (type_of% @anL.eq_1) ∧
  (type_of% @anL.eq_2) ∧
  (type_of% @loadV.eq_def) ∧
  (type_of% @builtinV.eq_7) ∧
  (type_of% @builtinV.eq_8) :=
 ⟨@builtinV_len, @sliceV_K, fun _ _ => rfl, fun _ _ => rfl, @lenK.eq_1, @lenK.eq_2, @lenK.eq_3, @lenK.eq_4, @lenK.eq_5, @lenK.eq_6, @lenK.eq_7, @sliceK.eq_1, @sliceK.eq_2, @sliceK.eq_3, @sliceK.eq_4, @sliceK.eq_5, @sliceK.eq_6, @sliceK.eq_7, @sliceK.eq_8, @sliceK.eq_9, @initG.eq_1, @initG.eq_2, @builtS.eq_1, @builtS.eq_2, @builtS.eq_3, @builtS.eq_4, @pureR.eq_1, @pureR.eq_2, @binV.eq_1, @binV.eq_2, @binV.eq_3, @binV.eq_4, @binV.eq_5, @binV.eq_6, @binV.eq_7, @binV.eq_8, @binV.eq_9, @binV.eq_10, @binV.eq_11, @binV.eq_12, @binV.eq_13, @binV.eq_14, @binV.eq_15, @binV.eq_16, @binV.eq_17, @binV.eq_18, @binV.eq_19, @binV.eq_20, @binV.eq_21, @binV.eq_22, @binV.eq_23, @binV.eq_24, @binV.eq_25, @aggEq.eq_1, @aggEq.eq_2, @aggEq.eq_3, @eqFs.eq_1, @eqFs.eq_2, @eqCell.eq_1, @eqCell.eq_2, @eqCell.eq_3, @eqCell.eq_4, @pickV.eq_1, @evO.eq_1, @evO.eq_2, @evO.eq_3, @evO.eq_4, @Env.look.eq_1, @find.eq_1, @find.eq_2, @V.ofConst.eq_1, @V.ofConst.eq_2, @V.ofConst.eq_3, @V.ofConst.eq_4, @V.ofConst.eq_5, @V.ofConst.eq_6, @V.ofConst.eq_7, @V.ofConst.eq_8, @V.ofConst.eq_9, @resV.eq_1, @resV.eq_2, @resOne.eq_1, @resOne.eq_2, @tupV.eq_1, @tupV.eq_2, @fillV.eq_1, @fillV.eq_2, @buildV.eq_1, @mkIface.eq_1, @litM.eq_1, @litM.eq_2, @litM.eq_3, @litM.eq_4, @litS.eq_1, @litS.eq_2, @litR.eq_1, @litRows.eq_1, @litRows.eq_2, @appS.eq_1, @appS.eq_2, @appS.eq_3, @appS.eq_4, @memA.eq_1, @memA.eq_2, @appendV.eq_1, @appendV.eq_2, @appendV.eq_3, @appendV.eq_4, @appendV.eq_5, @rowsOf.eq_1, @rowsOf.eq_2, @rowsOf.eq_3, @rowsOf.eq_4, @V.cells.eq_1, @V.cells.eq_2, @V.cells.eq_3, @V.cells.eq_4, @TI.sized.eq_1, @TI.known.eq_1, @TI.agg.eq_1, @anL.eq_1, @anL.eq_2, @loadV.eq_def, @builtinV.eq_7, @builtinV.eq_8⟩
end Go.Proofs.YtpllcpbhjglpaaaGreatDoor.Gw
namespace Go.Proofs.YtpllcpbhjglpaaaGreatDoor.Gw
open Go
def tab : List TI := [
 ⟨.other, 0, 0, []⟩,
 ⟨.func, 1, 8, [.nilf]⟩,
 ⟨.int .i64, 1, 8, [.int .i64 0]⟩,
 ⟨.int .i64, 1, 8, [.int .i64 0]⟩,
 ⟨.bool, 1, 1, [.bool false]⟩,
 ⟨.int .u8, 1, 1, [.int .u8 0]⟩,
 ⟨.int .u8, 1, 1, [.int .u8 0]⟩,
 ⟨.struct [(0, 2), (1, 3), (2, 4), (3, 6)], 4, 24, [.int .i64 0, .int .i64 0, .bool false, .int .u8 0]⟩,
 ⟨.struct [(0, 2), (1, 3), (2, 4), (3, 6)], 4, 24, [.int .i64 0, .int .i64 0, .bool false, .int .u8 0]⟩,
 ⟨.str, 1, 16, [.str []]⟩,
 ⟨.str, 1, 16, [.str []]⟩,
 ⟨.str, 1, 16, [.str []]⟩,
 ⟨.int .u64, 1, 8, [.int .u64 0]⟩,
 ⟨.other, 0, 0, []⟩,
 ⟨.other, 0, 0, []⟩,
 ⟨.ptr 175, 1, 8, [.nilp]⟩,
 ⟨.ptr 178, 1, 8, [.nilp]⟩,
 ⟨.ptr 186, 1, 8, [.nilp]⟩,
 ⟨.other, 0, 0, []⟩,
 ⟨.other, 0, 0, []⟩,
 ⟨.iface, 1, 16, [.nili]⟩,
 ⟨.int .i32, 1, 4, [.int .i32 0]⟩,
 ⟨.slice 59, 1, 24, [.nils]⟩,
 ⟨.slice 9, 1, 24, [.nils]⟩,
 ⟨.slice 26, 1, 24, [.nils]⟩,
 ⟨.struct [(0, 3), (1, 2), (2, 9), (3, 3), (4, 3), (5, 24)], 6, 72, [.int .i64 0, .int .i64 0, .str [], .int .i64 0, .int .i64 0, .nils]⟩,
 ⟨.struct [(0, 3), (1, 2), (2, 9), (3, 3), (4, 3), (5, 24)], 6, 72, [.int .i64 0, .int .i64 0, .str [], .int .i64 0, .int .i64 0, .nils]⟩,
 ⟨.slice 65, 1, 24, [.nils]⟩,
 ⟨.slice 69, 1, 24, [.nils]⟩,
 ⟨.struct [(0, 9), (1, 27), (2, 28), (3, 24)], 4, 88, [.str [], .nils, .nils, .nils]⟩,
 ⟨.struct [(0, 9), (1, 27), (2, 28), (3, 24)], 4, 88, [.str [], .nils, .nils, .nils]⟩,
 ⟨.int .i64, 1, 8, [.int .i64 0]⟩,
 ⟨.other, 0, 0, []⟩,
 ⟨.func, 1, 8, [.nilf]⟩,
 ⟨.func, 1, 8, [.nilf]⟩,
 ⟨.func, 1, 8, [.nilf]⟩,
 ⟨.func, 1, 8, [.nilf]⟩,
 ⟨.func, 1, 8, [.nilf]⟩,
 ⟨.func, 1, 8, [.nilf]⟩,
 ⟨.struct [(0, 31), (1, 3)], 2, 16, [.int .i64 0, .int .i64 0]⟩,
 ⟨.struct [(0, 31), (1, 3)], 2, 16, [.int .i64 0, .int .i64 0]⟩,
 ⟨.func, 1, 8, [.nilf]⟩,
 ⟨.struct [(0, 31)], 1, 8, [.int .i64 0]⟩,
 ⟨.struct [(0, 31)], 1, 8, [.int .i64 0]⟩,
 ⟨.ptr 46, 1, 8, [.nilp]⟩,
 ⟨.struct [(0, 22), (1, 23), (2, 23), (3, 30), (7, 3)], 8, 168, [.nils, .nils, .nils, .str [], .nils, .nils, .nils, .int .i64 0]⟩,
 ⟨.struct [(0, 22), (1, 23), (2, 23), (3, 30), (7, 3)], 8, 168, [.nils, .nils, .nils, .str [], .nils, .nils, .nils, .int .i64 0]⟩,
 ⟨.func, 1, 8, [.nilf]⟩,
 ⟨.func, 1, 8, [.nilf]⟩,
 ⟨.func, 1, 8, [.nilf]⟩,
 ⟨.func, 1, 8, [.nilf]⟩,
 ⟨.ptr 53, 1, 8, [.nilp]⟩,
 ⟨.struct [(0, 22), (1, 23), (2, 23), (3, 30), (7, 31)], 8, 168, [.nils, .nils, .nils, .str [], .nils, .nils, .nils, .int .i64 0]⟩,
 ⟨.struct [(0, 22), (1, 23), (2, 23), (3, 30), (7, 31)], 8, 168, [.nils, .nils, .nils, .str [], .nils, .nils, .nils, .int .i64 0]⟩,
 ⟨.func, 1, 8, [.nilf]⟩,
 ⟨.func, 1, 8, [.nilf]⟩,
 ⟨.func, 1, 8, [.nilf]⟩,
 ⟨.func, 1, 8, [.nilf]⟩,
 ⟨.struct [(0, 9), (1, 9)], 2, 32, [.str [], .str []]⟩,
 ⟨.struct [(0, 9), (1, 9)], 2, 32, [.str [], .str []]⟩,
 ⟨.func, 1, 8, [.nilf]⟩,
 ⟨.func, 1, 8, [.nilf]⟩,
 ⟨.func, 1, 8, [.nilf]⟩,
 ⟨.func, 1, 8, [.nilf]⟩,
 ⟨.struct [(0, 9), (1, 9)], 2, 32, [.str [], .str []]⟩,
 ⟨.struct [(0, 9), (1, 9)], 2, 32, [.str [], .str []]⟩,
 ⟨.func, 1, 8, [.nilf]⟩,
 ⟨.ptr 69, 1, 8, [.nilp]⟩,
 ⟨.struct [(0, 3), (1, 9), (2, 23), (3, 23), (4, 9), (5, 28)], 6, 112, [.int .i64 0, .str [], .nils, .nils, .str [], .nils]⟩,
 ⟨.struct [(0, 3), (1, 9), (2, 23), (3, 23), (4, 9), (5, 28)], 6, 112, [.int .i64 0, .str [], .nils, .nils, .str [], .nils]⟩,
 ⟨.func, 1, 8, [.nilf]⟩,
 ⟨.func, 1, 8, [.nilf]⟩,
 ⟨.ptr 74, 1, 8, [.nilp]⟩,
 ⟨.struct [(0, 3)], 1, 8, [.int .i64 0]⟩,
 ⟨.struct [(0, 3)], 1, 8, [.int .i64 0]⟩,
 ⟨.func, 1, 8, [.nilf]⟩,
 ⟨.ptr 26, 1, 8, [.nilp]⟩,
 ⟨.func, 1, 8, [.nilf]⟩,
 ⟨.func, 1, 8, [.nilf]⟩,
 ⟨.func, 1, 8, [.nilf]⟩,
 ⟨.func, 1, 8, [.nilf]⟩,
 ⟨.ptr 3, 1, 8, [.nilp]⟩,
 ⟨.func, 1, 8, [.nilf]⟩,
 ⟨.other, 0, 0, []⟩,
 ⟨.func, 1, 8, [.nilf]⟩,
 ⟨.func, 1, 8, [.nilf]⟩,
 ⟨.func, 1, 8, [.nilf]⟩,
 ⟨.func, 1, 8, [.nilf]⟩,
 ⟨.ptr 91, 1, 8, [.nilp]⟩,
 ⟨.slice 5, 1, 24, [.nils]⟩,
 ⟨.struct [(0, 88), (1, 89)], 2, 32, [.nilp, .nils]⟩,
 ⟨.struct [(0, 88), (1, 89)], 2, 32, [.nilp, .nils]⟩,
 ⟨.func, 1, 8, [.nilf]⟩,
 ⟨.other, 0, 0, []⟩,
 ⟨.other, 0, 0, []⟩,
 ⟨.other, 0, 0, []⟩,
 ⟨.func, 1, 8, [.nilf]⟩,
 ⟨.func, 1, 8, [.nilf]⟩,
 ⟨.func, 1, 8, [.nilf]⟩,
 ⟨.func, 1, 8, [.nilf]⟩,
 ⟨.func, 1, 8, [.nilf]⟩,
 ⟨.func, 1, 8, [.nilf]⟩,
 ⟨.func, 1, 8, [.nilf]⟩,
 ⟨.map 9 3, 1, 8, [.nilm]⟩,
 ⟨.ptr 106, 1, 8, [.nilp]⟩,
 ⟨.struct [(0, 9), (1, 3), (2, 3), (3, 40)], 5, 48, [.str [], .int .i64 0, .int .i64 0, .int .i64 0, .int .i64 0]⟩,
 ⟨.struct [(0, 9), (1, 3), (2, 3), (3, 40)], 5, 48, [.str [], .int .i64 0, .int .i64 0, .int .i64 0, .int .i64 0]⟩,
 ⟨.func, 1, 8, [.nilf]⟩,
 ⟨.func, 1, 8, [.nilf]⟩,
 ⟨.struct [(0, 40)], 2, 16, [.int .i64 0, .int .i64 0]⟩,
 ⟨.struct [(0, 40)], 2, 16, [.int .i64 0, .int .i64 0]⟩,
 ⟨.ptr 113, 1, 8, [.nilp]⟩,
 ⟨.struct [(0, 9), (1, 3), (2, 3)], 3, 32, [.str [], .int .i64 0, .int .i64 0]⟩,
 ⟨.struct [(0, 9), (1, 3), (2, 3)], 3, 32, [.str [], .int .i64 0, .int .i64 0]⟩,
 ⟨.func, 1, 8, [.nilf]⟩,
 ⟨.func, 1, 8, [.nilf]⟩,
 ⟨.func, 1, 8, [.nilf]⟩,
 ⟨.ptr 5, 1, 8, [.nilp]⟩,
 ⟨.func, 1, 8, [.nilf]⟩,
 ⟨.func, 1, 8, [.nilf]⟩,
 ⟨.func, 1, 8, [.nilf]⟩,
 ⟨.func, 1, 8, [.nilf]⟩,
 ⟨.func, 1, 8, [.nilf]⟩,
 ⟨.func, 1, 8, [.nilf]⟩,
 ⟨.other, 0, 0, []⟩,
 ⟨.func, 1, 8, [.nilf]⟩,
 ⟨.func, 1, 8, [.nilf]⟩,
 ⟨.func, 1, 8, [.nilf]⟩,
 ⟨.other, 0, 0, []⟩,
 ⟨.func, 1, 8, [.nilf]⟩,
 ⟨.func, 1, 8, [.nilf]⟩,
 ⟨.other, 0, 0, []⟩,
 ⟨.func, 1, 8, [.nilf]⟩,
 ⟨.func, 1, 8, [.nilf]⟩,
 ⟨.int .u64, 1, 8, [.int .u64 0]⟩,
 ⟨.func, 1, 8, [.nilf]⟩,
 ⟨.other, 0, 0, []⟩,
 ⟨.struct [(0, 5), (1, 5)], 2, 2, [.int .u8 0, .int .u8 0]⟩,
 ⟨.struct [(0, 5), (1, 5)], 2, 2, [.int .u8 0, .int .u8 0]⟩,
 ⟨.other, 0, 0, []⟩,
 ⟨.int .u32, 1, 4, [.int .u32 0]⟩,
 ⟨.other, 0, 0, []⟩,
 ⟨.func, 1, 8, [.nilf]⟩,
 ⟨.func, 1, 8, [.nilf]⟩,
 ⟨.int .i64, 1, 8, [.int .i64 0]⟩,
 ⟨.int .u64, 1, 8, [.int .u64 0]⟩,
 ⟨.other, 0, 0, []⟩,
 ⟨.func, 1, 8, [.nilf]⟩,
 ⟨.ptr 154, 1, 8, [.nilp]⟩,
 ⟨.func, 1, 8, [.nilf]⟩,
 ⟨.func, 1, 8, [.nilf]⟩,
 ⟨.func, 1, 8, [.nilf]⟩,
 ⟨.func, 1, 8, [.nilf]⟩,
 ⟨.other, 0, 0, []⟩,
 ⟨.other, 0, 0, []⟩,
 ⟨.func, 1, 8, [.nilf]⟩,
 ⟨.func, 1, 8, [.nilf]⟩,
 ⟨.ptr 159, 1, 8, [.nilp]⟩,
 ⟨.struct [(0, 9)], 1, 16, [.str []]⟩,
 ⟨.struct [(0, 9)], 1, 16, [.str []]⟩,
 ⟨.func, 1, 8, [.nilf]⟩,
 ⟨.other, 0, 0, []⟩,
 ⟨.func, 1, 8, [.nilf]⟩,
 ⟨.func, 1, 8, [.nilf]⟩,
 ⟨.other, 0, 0, []⟩,
 ⟨.func, 1, 8, [.nilf]⟩,
 ⟨.func, 1, 8, [.nilf]⟩,
 ⟨.other, 0, 0, []⟩,
 ⟨.other, 0, 0, []⟩,
 ⟨.func, 1, 8, [.nilf]⟩,
 ⟨.func, 1, 8, [.nilf]⟩,
 ⟨.func, 1, 8, [.nilf]⟩,
 ⟨.other, 0, 0, []⟩,
 ⟨.other, 0, 0, []⟩,
 ⟨.other, 0, 0, []⟩,
 ⟨.other, 0, 0, []⟩,
 ⟨.other, 0, 0, []⟩,
 ⟨.other, 0, 0, []⟩,
 ⟨.other, 0, 0, []⟩,
 ⟨.func, 1, 8, [.nilf]⟩,
 ⟨.int .u8, 1, 1, [.int .u8 0]⟩,
 ⟨.int .u8, 1, 1, [.int .u8 0]⟩,
 ⟨.func, 1, 8, [.nilf]⟩,
 ⟨.int .i32, 1, 4, [.int .i32 0]⟩,
 ⟨.int .i32, 1, 4, [.int .i32 0]⟩,
 ⟨.other, 0, 0, []⟩,
 ⟨.other, 0, 0, []⟩]
def TT (t : Nat) : TI := (tab[t]?).getD ⟨.other, 0, 0, []⟩
def rowsOk (P : Program) : Nat → List TI → Prop
 | _, [] => True
 | k, i :: r => (i.kind ≠ .other → TI.ok P k i) ∧ rowsOk P (k + 1) r
theorem rowsOk_get {P : Program} : ∀ (l : List TI) (k t : Nat) (i : TI), rowsOk P k l → l[t]? = some i → i.kind ≠ .other → TI.ok P (k + t) i
 | [], k, t, i, _, h, _ => by simp at h
 | j :: r, k, 0, i, h, h2, h3 => by simp at h2; subst h2; exact h.1 h3
 | j :: r, k, t + 1, i, h, h2, h3 => by
  have := rowsOk_get r (k + 1) t i h.2 (by simpa using h2) h3
  rw [show k + (t + 1) = k + 1 + t by omega]; exact this
def okL (P : Program) (t : Nat) (i : TI) := ((P.info? t).map (fun x => (x.zero, x.size, x.bytes)), (P.underlying t).map TK.of, i.zero.all V.flat, Nat.beq i.zero.length i.size, i.agg || Nat.beq i.size 1, !i.agg || !(P.stoodInHeld t || P.eqGuardType P.depth t || (P.fieldsOf t).any (·.name == "_")))
def okR (i : TI) := (some (some i.zval, i.size, i.bytes), some i.kind, true, true, true, true)
theorem ok_of {P : Program} {t : Nat} {i : TI} (h : okL P t i = okR i) : TI.ok P t i := by
 simp only [okL, okR, Prod.mk.injEq] at h
 obtain ⟨h1, h2, h3, h4, h5, h6⟩ := h
 refine ⟨h1, h2, h3, Nat.eq_of_beq_eq_true h4, fun h => ?_, fun h => ?_⟩
 ·rw [h, Bool.false_or] at h5; exact Nat.eq_of_beq_eq_true h5
 ·rw [h] at h6; simpa using h6
def rowsE (P : Program) : Nat → List TI → List (Option (Option (Option Value × Nat × Nat) × Option TK × Bool × Bool × Bool × Bool))
 | _, [] => []
 | k, i :: r => (bif i.known then some (okL P k i) else none) :: rowsE P (k + 1) r
def rowsF : List TI → List (Option (Option (Option Value × Nat × Nat) × Option TK × Bool × Bool × Bool × Bool))
 | [] => []
 | i :: r => (bif i.known then some (okR i) else none) :: rowsF r
theorem rowsE_ok {P : Program} : ∀ (l : List TI) (k : Nat), rowsE P k l = rowsF l → rowsOk P k l
 | [], _, _ => trivial
 | i :: r, k, h => by
  simp only [rowsE, rowsF, List.cons.injEq] at h
  refine ⟨fun hk => ?_, rowsE_ok r (k + 1) h.2⟩
  have hn : i.known = true := by
   cases e : i.known with
   | true => rfl
   | false => exact absurd (by revert e; unfold TI.known; cases i.kind <;> simp) hk
  have := h.1
  rw [hn, cond_true, cond_true, Option.some.injEq] at this
  exact ok_of this
set_option maxRecDepth 100000 in
theorem rows_ok : rowsOk Tryz.prog 0 tab := rowsE_ok tab 0 (by kernel_rfl)
set_option maxRecDepth 100000 in
theorem gwTT :
  (TT 1 = ⟨.func, 1, 8, [.nilf]⟩) ∧
  (TT 2 = ⟨.int .i64, 1, 8, [.int .i64 0]⟩) ∧
  (TT 3 = ⟨.int .i64, 1, 8, [.int .i64 0]⟩) ∧
  (TT 4 = ⟨.bool, 1, 1, [.bool false]⟩) ∧
  (TT 5 = ⟨.int .u8, 1, 1, [.int .u8 0]⟩) ∧
  (TT 6 = ⟨.int .u8, 1, 1, [.int .u8 0]⟩) ∧
  (TT 7 = ⟨.struct [(0, 2), (1, 3), (2, 4), (3, 6)], 4, 24, [.int .i64 0, .int .i64 0, .bool false, .int .u8 0]⟩) ∧
  (TT 8 = ⟨.struct [(0, 2), (1, 3), (2, 4), (3, 6)], 4, 24, [.int .i64 0, .int .i64 0, .bool false, .int .u8 0]⟩) ∧
  (TT 9 = ⟨.str, 1, 16, [.str []]⟩) ∧
  (TT 10 = ⟨.str, 1, 16, [.str []]⟩) ∧
  (TT 11 = ⟨.str, 1, 16, [.str []]⟩) ∧
  (TT 12 = ⟨.int .u64, 1, 8, [.int .u64 0]⟩) ∧
  (TT 15 = ⟨.ptr 175, 1, 8, [.nilp]⟩) ∧
  (TT 16 = ⟨.ptr 178, 1, 8, [.nilp]⟩) ∧
  (TT 17 = ⟨.ptr 186, 1, 8, [.nilp]⟩) ∧
  (TT 20 = ⟨.iface, 1, 16, [.nili]⟩) ∧
  (TT 21 = ⟨.int .i32, 1, 4, [.int .i32 0]⟩) ∧
  (TT 22 = ⟨.slice 59, 1, 24, [.nils]⟩) ∧
  (TT 23 = ⟨.slice 9, 1, 24, [.nils]⟩) ∧
  (TT 24 = ⟨.slice 26, 1, 24, [.nils]⟩) ∧
  (TT 25 = ⟨.struct [(0, 3), (1, 2), (2, 9), (3, 3), (4, 3), (5, 24)], 6, 72, [.int .i64 0, .int .i64 0, .str [], .int .i64 0, .int .i64 0, .nils]⟩) ∧
  (TT 26 = ⟨.struct [(0, 3), (1, 2), (2, 9), (3, 3), (4, 3), (5, 24)], 6, 72, [.int .i64 0, .int .i64 0, .str [], .int .i64 0, .int .i64 0, .nils]⟩) ∧
  (TT 27 = ⟨.slice 65, 1, 24, [.nils]⟩) ∧
  (TT 28 = ⟨.slice 69, 1, 24, [.nils]⟩) ∧
  (TT 29 = ⟨.struct [(0, 9), (1, 27), (2, 28), (3, 24)], 4, 88, [.str [], .nils, .nils, .nils]⟩) ∧
  (TT 30 = ⟨.struct [(0, 9), (1, 27), (2, 28), (3, 24)], 4, 88, [.str [], .nils, .nils, .nils]⟩) ∧
  (TT 31 = ⟨.int .i64, 1, 8, [.int .i64 0]⟩) ∧
  (TT 33 = ⟨.func, 1, 8, [.nilf]⟩) ∧
  (TT 34 = ⟨.func, 1, 8, [.nilf]⟩) ∧
  (TT 35 = ⟨.func, 1, 8, [.nilf]⟩) ∧
  (TT 36 = ⟨.func, 1, 8, [.nilf]⟩) ∧
  (TT 37 = ⟨.func, 1, 8, [.nilf]⟩) ∧
  (TT 38 = ⟨.func, 1, 8, [.nilf]⟩) ∧
  (TT 39 = ⟨.struct [(0, 31), (1, 3)], 2, 16, [.int .i64 0, .int .i64 0]⟩) ∧
  (TT 40 = ⟨.struct [(0, 31), (1, 3)], 2, 16, [.int .i64 0, .int .i64 0]⟩) ∧
  (TT 41 = ⟨.func, 1, 8, [.nilf]⟩) ∧
  (TT 42 = ⟨.struct [(0, 31)], 1, 8, [.int .i64 0]⟩) ∧
  (TT 43 = ⟨.struct [(0, 31)], 1, 8, [.int .i64 0]⟩) ∧
  (TT 44 = ⟨.ptr 46, 1, 8, [.nilp]⟩) ∧
  (TT 45 = ⟨.struct [(0, 22), (1, 23), (2, 23), (3, 30), (7, 3)], 8, 168, [.nils, .nils, .nils, .str [], .nils, .nils, .nils, .int .i64 0]⟩) ∧
  (TT 46 = ⟨.struct [(0, 22), (1, 23), (2, 23), (3, 30), (7, 3)], 8, 168, [.nils, .nils, .nils, .str [], .nils, .nils, .nils, .int .i64 0]⟩) ∧
  (TT 47 = ⟨.func, 1, 8, [.nilf]⟩) ∧
  (TT 48 = ⟨.func, 1, 8, [.nilf]⟩) ∧
  (TT 49 = ⟨.func, 1, 8, [.nilf]⟩) ∧
  (TT 50 = ⟨.func, 1, 8, [.nilf]⟩) ∧
  (TT 51 = ⟨.ptr 53, 1, 8, [.nilp]⟩) ∧
  (TT 52 = ⟨.struct [(0, 22), (1, 23), (2, 23), (3, 30), (7, 31)], 8, 168, [.nils, .nils, .nils, .str [], .nils, .nils, .nils, .int .i64 0]⟩) ∧
  (TT 53 = ⟨.struct [(0, 22), (1, 23), (2, 23), (3, 30), (7, 31)], 8, 168, [.nils, .nils, .nils, .str [], .nils, .nils, .nils, .int .i64 0]⟩) ∧
  (TT 54 = ⟨.func, 1, 8, [.nilf]⟩) ∧
  (TT 55 = ⟨.func, 1, 8, [.nilf]⟩) ∧
  (TT 56 = ⟨.func, 1, 8, [.nilf]⟩) ∧
  (TT 57 = ⟨.func, 1, 8, [.nilf]⟩) ∧
  (TT 58 = ⟨.struct [(0, 9), (1, 9)], 2, 32, [.str [], .str []]⟩) ∧
  (TT 59 = ⟨.struct [(0, 9), (1, 9)], 2, 32, [.str [], .str []]⟩) ∧
  (TT 60 = ⟨.func, 1, 8, [.nilf]⟩) ∧
  (TT 61 = ⟨.func, 1, 8, [.nilf]⟩) ∧
  (TT 62 = ⟨.func, 1, 8, [.nilf]⟩) ∧
  (TT 63 = ⟨.func, 1, 8, [.nilf]⟩) ∧
  (TT 64 = ⟨.struct [(0, 9), (1, 9)], 2, 32, [.str [], .str []]⟩) ∧
  (TT 65 = ⟨.struct [(0, 9), (1, 9)], 2, 32, [.str [], .str []]⟩) ∧
  (TT 66 = ⟨.func, 1, 8, [.nilf]⟩) ∧
  (TT 67 = ⟨.ptr 69, 1, 8, [.nilp]⟩) ∧
  (TT 68 = ⟨.struct [(0, 3), (1, 9), (2, 23), (3, 23), (4, 9), (5, 28)], 6, 112, [.int .i64 0, .str [], .nils, .nils, .str [], .nils]⟩) ∧
  (TT 69 = ⟨.struct [(0, 3), (1, 9), (2, 23), (3, 23), (4, 9), (5, 28)], 6, 112, [.int .i64 0, .str [], .nils, .nils, .str [], .nils]⟩) ∧
  (TT 70 = ⟨.func, 1, 8, [.nilf]⟩) ∧
  (TT 71 = ⟨.func, 1, 8, [.nilf]⟩) ∧
  (TT 72 = ⟨.ptr 74, 1, 8, [.nilp]⟩) ∧
  (TT 73 = ⟨.struct [(0, 3)], 1, 8, [.int .i64 0]⟩) ∧
  (TT 74 = ⟨.struct [(0, 3)], 1, 8, [.int .i64 0]⟩) ∧
  (TT 75 = ⟨.func, 1, 8, [.nilf]⟩) ∧
  (TT 76 = ⟨.ptr 26, 1, 8, [.nilp]⟩) ∧
  (TT 77 = ⟨.func, 1, 8, [.nilf]⟩) ∧
  (TT 78 = ⟨.func, 1, 8, [.nilf]⟩) ∧
  (TT 79 = ⟨.func, 1, 8, [.nilf]⟩) ∧
  (TT 80 = ⟨.func, 1, 8, [.nilf]⟩) ∧
  (TT 81 = ⟨.ptr 3, 1, 8, [.nilp]⟩) ∧
  (TT 82 = ⟨.func, 1, 8, [.nilf]⟩) ∧
  (TT 84 = ⟨.func, 1, 8, [.nilf]⟩) ∧
  (TT 85 = ⟨.func, 1, 8, [.nilf]⟩) ∧
  (TT 86 = ⟨.func, 1, 8, [.nilf]⟩) ∧
  (TT 87 = ⟨.func, 1, 8, [.nilf]⟩) ∧
  (TT 88 = ⟨.ptr 91, 1, 8, [.nilp]⟩) ∧
  (TT 89 = ⟨.slice 5, 1, 24, [.nils]⟩) ∧
  (TT 90 = ⟨.struct [(0, 88), (1, 89)], 2, 32, [.nilp, .nils]⟩) ∧
  (TT 91 = ⟨.struct [(0, 88), (1, 89)], 2, 32, [.nilp, .nils]⟩) ∧
  (TT 92 = ⟨.func, 1, 8, [.nilf]⟩) ∧
  (TT 96 = ⟨.func, 1, 8, [.nilf]⟩) ∧
  (TT 97 = ⟨.func, 1, 8, [.nilf]⟩) ∧
  (TT 98 = ⟨.func, 1, 8, [.nilf]⟩) ∧
  (TT 99 = ⟨.func, 1, 8, [.nilf]⟩) ∧
  (TT 100 = ⟨.func, 1, 8, [.nilf]⟩) ∧
  (TT 101 = ⟨.func, 1, 8, [.nilf]⟩) ∧
  (TT 102 = ⟨.func, 1, 8, [.nilf]⟩) ∧
  (TT 103 = ⟨.map 9 3, 1, 8, [.nilm]⟩) ∧
  (TT 104 = ⟨.ptr 106, 1, 8, [.nilp]⟩) ∧
  (TT 105 = ⟨.struct [(0, 9), (1, 3), (2, 3), (3, 40)], 5, 48, [.str [], .int .i64 0, .int .i64 0, .int .i64 0, .int .i64 0]⟩) ∧
  (TT 106 = ⟨.struct [(0, 9), (1, 3), (2, 3), (3, 40)], 5, 48, [.str [], .int .i64 0, .int .i64 0, .int .i64 0, .int .i64 0]⟩) ∧
  (TT 107 = ⟨.func, 1, 8, [.nilf]⟩) ∧
  (TT 108 = ⟨.func, 1, 8, [.nilf]⟩) ∧
  (TT 109 = ⟨.struct [(0, 40)], 2, 16, [.int .i64 0, .int .i64 0]⟩) ∧
  (TT 110 = ⟨.struct [(0, 40)], 2, 16, [.int .i64 0, .int .i64 0]⟩) ∧
  (TT 111 = ⟨.ptr 113, 1, 8, [.nilp]⟩) ∧
  (TT 112 = ⟨.struct [(0, 9), (1, 3), (2, 3)], 3, 32, [.str [], .int .i64 0, .int .i64 0]⟩) ∧
  (TT 113 = ⟨.struct [(0, 9), (1, 3), (2, 3)], 3, 32, [.str [], .int .i64 0, .int .i64 0]⟩) ∧
  (TT 114 = ⟨.func, 1, 8, [.nilf]⟩) ∧
  (TT 115 = ⟨.func, 1, 8, [.nilf]⟩) ∧
  (TT 116 = ⟨.func, 1, 8, [.nilf]⟩) ∧
  (TT 117 = ⟨.ptr 5, 1, 8, [.nilp]⟩) ∧
  (TT 118 = ⟨.func, 1, 8, [.nilf]⟩) ∧
  (TT 119 = ⟨.func, 1, 8, [.nilf]⟩) ∧
  (TT 120 = ⟨.func, 1, 8, [.nilf]⟩) ∧
  (TT 121 = ⟨.func, 1, 8, [.nilf]⟩) ∧
  (TT 122 = ⟨.func, 1, 8, [.nilf]⟩) ∧
  (TT 123 = ⟨.func, 1, 8, [.nilf]⟩) ∧
  (TT 125 = ⟨.func, 1, 8, [.nilf]⟩) ∧
  (TT 126 = ⟨.func, 1, 8, [.nilf]⟩) ∧
  (TT 127 = ⟨.func, 1, 8, [.nilf]⟩) ∧
  (TT 129 = ⟨.func, 1, 8, [.nilf]⟩) ∧
  (TT 130 = ⟨.func, 1, 8, [.nilf]⟩) ∧
  (TT 132 = ⟨.func, 1, 8, [.nilf]⟩) ∧
  (TT 133 = ⟨.func, 1, 8, [.nilf]⟩) ∧
  (TT 134 = ⟨.int .u64, 1, 8, [.int .u64 0]⟩) ∧
  (TT 135 = ⟨.func, 1, 8, [.nilf]⟩) ∧
  (TT 137 = ⟨.struct [(0, 5), (1, 5)], 2, 2, [.int .u8 0, .int .u8 0]⟩) ∧
  (TT 138 = ⟨.struct [(0, 5), (1, 5)], 2, 2, [.int .u8 0, .int .u8 0]⟩) ∧
  (TT 140 = ⟨.int .u32, 1, 4, [.int .u32 0]⟩) ∧
  (TT 142 = ⟨.func, 1, 8, [.nilf]⟩) ∧
  (TT 143 = ⟨.func, 1, 8, [.nilf]⟩) ∧
  (TT 144 = ⟨.int .i64, 1, 8, [.int .i64 0]⟩) ∧
  (TT 145 = ⟨.int .u64, 1, 8, [.int .u64 0]⟩) ∧
  (TT 147 = ⟨.func, 1, 8, [.nilf]⟩) ∧
  (TT 148 = ⟨.ptr 154, 1, 8, [.nilp]⟩) ∧
  (TT 149 = ⟨.func, 1, 8, [.nilf]⟩) ∧
  (TT 150 = ⟨.func, 1, 8, [.nilf]⟩) ∧
  (TT 151 = ⟨.func, 1, 8, [.nilf]⟩) ∧
  (TT 152 = ⟨.func, 1, 8, [.nilf]⟩) ∧
  (TT 155 = ⟨.func, 1, 8, [.nilf]⟩) ∧
  (TT 156 = ⟨.func, 1, 8, [.nilf]⟩) ∧
  (TT 157 = ⟨.ptr 159, 1, 8, [.nilp]⟩) ∧
  (TT 158 = ⟨.struct [(0, 9)], 1, 16, [.str []]⟩) ∧
  (TT 159 = ⟨.struct [(0, 9)], 1, 16, [.str []]⟩) ∧
  (TT 160 = ⟨.func, 1, 8, [.nilf]⟩) ∧
  (TT 162 = ⟨.func, 1, 8, [.nilf]⟩) ∧
  (TT 163 = ⟨.func, 1, 8, [.nilf]⟩) ∧
  (TT 165 = ⟨.func, 1, 8, [.nilf]⟩) ∧
  (TT 166 = ⟨.func, 1, 8, [.nilf]⟩) ∧
  (TT 169 = ⟨.func, 1, 8, [.nilf]⟩) ∧
  (TT 170 = ⟨.func, 1, 8, [.nilf]⟩) ∧
  (TT 171 = ⟨.func, 1, 8, [.nilf]⟩) ∧
  (TT 179 = ⟨.func, 1, 8, [.nilf]⟩) ∧
  (TT 180 = ⟨.int .u8, 1, 1, [.int .u8 0]⟩) ∧
  (TT 181 = ⟨.int .u8, 1, 1, [.int .u8 0]⟩) ∧
  (TT 182 = ⟨.func, 1, 8, [.nilf]⟩) ∧
  (TT 183 = ⟨.int .i32, 1, 4, [.int .i32 0]⟩) ∧
  (TT 184 = ⟨.int .i32, 1, 4, [.int .i32 0]⟩) := by
 refine ⟨rfl, rfl, rfl, rfl, rfl, rfl, rfl, rfl, rfl, rfl, rfl, rfl, rfl, rfl, rfl, rfl, rfl, rfl, rfl, rfl, rfl, rfl, rfl, rfl, rfl, rfl, rfl, rfl, rfl, rfl, rfl, rfl, rfl, rfl, rfl, rfl, rfl, rfl, rfl, rfl, rfl, rfl, rfl, rfl, rfl, rfl, rfl, rfl, rfl, rfl, rfl, rfl, rfl, rfl, rfl, rfl, rfl, rfl, rfl, rfl, rfl, rfl, rfl, rfl, rfl, rfl, rfl, rfl, rfl, rfl, rfl, rfl, rfl, rfl, rfl, rfl, rfl, rfl, rfl, rfl, rfl, rfl, rfl, rfl, rfl, rfl, rfl, rfl, rfl, rfl, rfl, rfl, rfl, rfl, rfl, rfl, rfl, rfl, rfl, rfl, rfl, rfl, rfl, rfl, rfl, rfl, rfl, rfl, rfl, rfl, rfl, rfl, rfl, rfl, rfl, rfl, rfl, rfl, rfl, rfl, rfl, rfl, rfl, rfl, rfl, rfl, rfl, rfl, rfl, rfl, rfl, rfl, rfl, rfl, rfl, rfl, rfl, rfl, rfl, rfl, rfl, rfl, rfl, rfl, rfl, rfl, rfl, rfl, rfl, rfl, rfl, rfl, rfl, rfl, rfl⟩
theorem TT_ok : Tab Tryz.prog TT := by
 intro t h
 unfold TT at h ⊢
 cases ht : tab[t]? with
 | none => rw [ht] at h; exact absurd rfl h
 | some i =>
  rw [ht] at h
  have := rowsOk_get tab 0 t i rows_ok ht h
  simpa using this
theorem TT_mixed : Tryz.prog.follows .mixedOrders = true := by kernel_rfl
end Go.Proofs.YtpllcpbhjglpaaaGreatDoor.Gw
namespace Go.Proofs.YtpllcpbhjglpaaaGreatDoor.Gw
open Go
theorem gw0 : type_of% gwL ∧ type_of% gwB ∧ type_of% gwD ∧ type_of% gwE ∧ type_of% gwS ∧ type_of% gwTT ∧ type_of% gwZ ∧ type_of% gwN ∧ type_of% gwC := ⟨gwL, gwB, gwD, gwE, gwS, gwTT, gwZ, gwN, gwC⟩
theorem gw2 : type_of% gwL ∧ type_of% gwB ∧ type_of% gwD ∧ type_of% gwE ∧ type_of% gwS ∧ type_of% gwTT ∧ type_of% gwZ ∧ type_of% gwN ∧ type_of% gwC ∧ type_of% gwD3 ∧ type_of% gwDT ∧ type_of% @pureR_none ∧ type_of% @wQ_normal ∧ type_of% @wQ_ret ∧ type_of% @wQ_panic ∧ type_of% @List.map_cons.{0,0} ∧ type_of% @List.map_nil.{0,0} ∧ type_of% @List.getD_cons_zero.{0} ∧ type_of% @List.getD_cons_succ.{0} ∧ type_of% @beq_self_eq_true.{0} ∧ type_of% @nilR.eq_1 ∧ type_of% @nilR.eq_2 ∧ type_of% @nilB.eq_1 ∧ type_of% @nilB.eq_2 ∧ type_of% @bitF.eq_1 ∧ type_of% @bitF.eq_2 ∧ type_of% @bitV.eq_1 ∧ type_of% @bitV.eq_2 ∧ type_of% @bitV.eq_3 ∧ type_of% @bitV.eq_4 ∧ type_of% @bitV.eq_5 ∧ type_of% @bitV.eq_6 ∧ type_of% @bitV.eq_7 ∧ type_of% @nilC.eq_1 ∧ type_of% @nilC.eq_2 ∧ type_of% @nilC.eq_3 ∧ type_of% @nilCmp.eq_1 ∧ type_of% @nilCmp.eq_2 ∧ type_of% @nilCmp.eq_3 ∧ type_of% @nilCmp.eq_4 ∧ type_of% @nilCmp.eq_5 ∧ type_of% @nilCmp.eq_6 ∧ type_of% @nilCmp.eq_7 ∧ type_of% @nilCmp.eq_8 ∧ type_of% @nilCmp.eq_9 ∧ type_of% @eqb.eq_1 ∧ type_of% @eqb.eq_2 ∧ type_of% @eqb.eq_3 ∧ type_of% @assertV.eq_1 ∧ type_of% @assertW.eq_1 ∧ type_of% @assertW.eq_2 ∧ type_of% @assertW.eq_3 ∧ type_of% @assertW.eq_4 ∧ type_of% @zeroV.eq_1 ∧ type_of% @pickO.eq_1 ∧ type_of% @pickC.eq_1 ∧ type_of% @Env.keep.eq_1 ∧ type_of% @Env.keep.eq_2 := ⟨gwL, gwB, gwD, gwE, gwS, gwTT, gwZ, gwN, gwC, gwD3, gwDT, @pureR_none, @wQ_normal, @wQ_ret, @wQ_panic, @List.map_cons.{0,0}, @List.map_nil.{0,0}, @List.getD_cons_zero.{0}, @List.getD_cons_succ.{0}, @beq_self_eq_true.{0}, @nilR.eq_1, @nilR.eq_2, @nilB.eq_1, @nilB.eq_2, @bitF.eq_1, @bitF.eq_2, @bitV.eq_1, @bitV.eq_2, @bitV.eq_3, @bitV.eq_4, @bitV.eq_5, @bitV.eq_6, @bitV.eq_7, @nilC.eq_1, @nilC.eq_2, @nilC.eq_3, @nilCmp.eq_1, @nilCmp.eq_2, @nilCmp.eq_3, @nilCmp.eq_4, @nilCmp.eq_5, @nilCmp.eq_6, @nilCmp.eq_7, @nilCmp.eq_8, @nilCmp.eq_9, @eqb.eq_1, @eqb.eq_2, @eqb.eq_3, @assertV.eq_1, @assertW.eq_1, @assertW.eq_2, @assertW.eq_3, @assertW.eq_4, @zeroV.eq_1, @pickO.eq_1, @pickC.eq_1, @Env.keep.eq_1, @Env.keep.eq_2⟩
end Go.Proofs.YtpllcpbhjglpaaaGreatDoor.Gw
namespace Go.Proofs.YtpllcpbhjglpaaaGreatDoor.Gx
open Go Go.Proofs.YtpllcpbhjglpaaaGreatDoor.Gw
open Nat renaming reduceEqDiff → qqE, reduceAdd → qqA, reduceLT → qqL, reduceLeDiff → qqD, reduceMul → qqM
set_option linter.unusedSimpArgs false
set_option linter.unusedVariables false
abbrev Str := List UInt8
def encS (l : List Str) : V := .lst 1 none (l.map fun s => [.str s])
-- strings.IndexByte: the model's own entry stands where the library has no body
set_option maxHeartbeats 1000000 in
set_option maxRecDepth 100000 in
theorem r_IndexByte (s : ByteArray) (c : Int) (w : World) :
  Calls Tryz.prog 103 #[.string s, .int .u8 c] w fun e w' => e = .returned (.int .i64 (Lib.indexByte s.data.toList c.toNat.toUInt8)) ∧ w' = w := by
 go_enter Tryz.func103, Tryz.ntmps103
 go_wp2
 rw [run_callFunc_extern Tryz.func110 (by kernel_rfl) (by kernel_rfl) (by kernel_rfl) (e := Extern.BytealgIndexByte.indexByte) (by kernel_rfl), Lib.run_indexByteString]
 simp only [Result.andThen]
 rw [Oper.upon_value]
 go_wp2
 go_ret
 exact ⟨rfl, rfl⟩
theorem c_IndexByte0 (st : St) (s : Str) (c : Int) : VCalls Tryz.prog TT 103 [.str s, .int .u8 c] st fun r st' => r = .ret (.int .i64 (Lib.indexByte s c.toNat.toUInt8)) ∧ st' = st := by
 refine VCalls.ofReal ⟨_, Tryz.func103, by kernel_rfl, by kernel_rfl⟩ fun g w vals h => ?_
 simp only [SimVs, SimV] at h
 obtain ⟨_, _, rfl, ⟨rfl, _⟩, _, _, rfl, rfl, rfl⟩ := h
 exact ⟨_, by simp only [SimV], r_IndexByte ⟨s.toArray⟩ c w⟩
theorem c_IndexByte (st : St) (s : Str) (c : Int) : VCalls Tryz.prog TT 97 [.str s, .int .u8 c] st fun r st' => r = .ret (.int .i64 (Lib.indexByte s c.toNat.toUInt8)) ∧ st' = st := by
 refine vfun TT_ok (an := anL []) (L := [0, 1, 4]) (rs := [.tmp 4]) Tryz.func97 rfl (by kernel_rfl) rfl Tryz.ntmps97 rfl rfl (Nat.le_refl _) fun hst ha hf => ?_
 simp only [gw0, qqE, ↓reduceIte, qqA, qqL, qqD, qqM]
 refine (c_IndexByte0 st s c).use (wkL_refl _) fun _ => ?_
 simp only [gw0, qqE, ↓reduceIte, qqA, qqL, qqD, qqM]
 exact gives_int rfl hst
-- slices.Index, slices.Contains
def idxOf (s : Str) : Nat → List Str → Int
 | _, [] => -1
 | i, a :: r => bif decide (s = a) then (i : Int) else idxOf s (i + 1) r
theorem c_Index (st : St) (l : List Str) (s : Str) : VCalls Tryz.prog TT 63 [encS l, .str s] st fun r st' => r = .ret (.int .i64 (idxOf s 0 l)) ∧ st' = st := by
 refine vfun TT_ok (an := anL []) (L := [0, 1, 4, 5, 7, 8]) (rs := [.tmp 4]) Tryz.func63 rfl (by kernel_rfl) rfl Tryz.ntmps63 rfl rfl (Nat.le_refl _) fun hst ha hf => ?_
 simp only [encS, fitL, V.fit, List.length_map] at hf
 simp only [encS]
 simp only [gw0, qqE, ↓reduceIte, qqA, qqL, qqD, qqM, List.length_map]
 refine vfor (σ := Nat) [0, 1, 4, 7, 8] (fun i => [(0, true, encS l), (1, true, .str s), (4, true, .int .i64 0), (7, true, .int .i64 l.length), (8, true, .int .i64 i)]) (fun i => st) (fun i => l.length - i) (fun i => i ≤ l.length ∧ idxOf s 0 l = idxOf s i (l.drop i)) 0 rfl TT_ok ⟨Nat.zero_le _, rfl⟩ rfl rfl ?_
 rintro i ⟨hi, hx⟩
 rw [hx]
 rcases at_or_end l i hi with ⟨rfl, hd⟩ | ⟨a, hlt, hget, hdr⟩
 ·simp only [gw0, qqE, ↓reduceIte, qqA, qqL, qqD, qqM, lt_no, hd, idxOf]
  exact gives_int rfl hst
 ·simp only [encS]
  simp only [gw0, qqE, ↓reduceIte, qqA, qqL, qqD, qqM, lt_yes hlt, hdr, idxOf, List.length_map, getD_map hget, Int.ofNat_lt.mpr hlt]
  refine iK_split (fun h => ?_) (fun h => ?_)
  ·simp only [gw0, qqE, ↓reduceIte, qqA, qqL, qqD, qqM, h]
   exact gives_int rfl hst
  ·simp only [gw0, qqE, ↓reduceIte, qqA, qqL, qqD, qqM, h, Env.keep]
   exact ⟨i + 1, by rw [next_i64 hlt hf.1.1], by omega, hlt, rfl⟩
theorem idxOf_ge (s : Str) : ∀ (l : List Str) (i : Nat), decide (0 ≤ idxOf s i l) = decide (s ∈ l)
 | [], i => by simp [idxOf]
 | a :: r, i => by
  have := idxOf_ge s r (i + 1)
  by_cases h : s = a
  ·subst h; simp [idxOf]
  ·simp only [idxOf, h, decide_false, cond_false, this, List.mem_cons, false_or]
theorem c_Contains (st : St) (l : List Str) (s : Str) : VCalls Tryz.prog TT 83 [encS l, .str s] st fun r st' => r = .ret (.bool (decide (s ∈ l))) ∧ st' = st := by
 refine vfun TT_ok (an := anL []) (L := [0, 1, 4]) (rs := [.tmp 4]) Tryz.func83 rfl (by kernel_rfl) rfl Tryz.ntmps83 rfl rfl (Nat.le_refl _) fun hst ha hf => ?_
 simp only [encS]
 simp only [gw0, qqE, ↓reduceIte, qqA, qqL, qqD, qqM]
 refine (c_Index st l s).use (by simp only [encS]; exact wkL_refl _) fun _ => ?_
 simp only [gw0, qqE, ↓reduceIte, qqA, qqL, qqD, qqM, idxOf_ge]
 exact gives_bool rfl hst
-- strings.HasPrefix, TrimPrefix
def hasPre (s p : Str) : Bool := decide (p.length ≤ s.length) && decide (s.take p.length = p)
theorem c_HasPrefix (st : St) (s p : Str) : VCalls Tryz.prog TT 112 [.str s, .str p] st fun r st' => r = .ret (.bool (hasPre s p)) ∧ st' = st := by
 refine vfun TT_ok (an := anL []) (L := [0, 1, 4]) (rs := [.tmp 4]) Tryz.func112 rfl (by kernel_rfl) rfl Tryz.ntmps112 rfl rfl (Nat.le_refl _) fun hst ha hf => ?_
 simp only [gw0, qqE, ↓reduceIte, qqA, qqL, qqD, qqM, Int.ofNat_le, Int.toNat_natCast]
 refine ⟨fun h => of_decide_eq_true h, gives_bool ?_ hst⟩
 rfl
def trimPre (s p : Str) : Str := bif hasPre s p then s.drop p.length else s
theorem c_TrimPrefix0 (st : St) (s p : Str) : VCalls Tryz.prog TT 107 [.str s, .str p] st fun r st' => r = .ret (.str (trimPre s p)) ∧ st' = st := by
 refine vfun TT_ok (an := anL []) (L := [0, 1, 4]) (rs := [.tmp 4]) Tryz.func107 rfl (by kernel_rfl) rfl Tryz.ntmps107 rfl rfl (Nat.le_refl _) fun hst ha hf => ?_
 simp only [gw0, qqE, ↓reduceIte, qqA, qqL, qqD, qqM, List.length_nil]
 refine (c_HasPrefix st s p).use (wkL_refl _) fun _ => ?_
 simp only [gw0, qqE, ↓reduceIte, qqA, qqL, qqD, qqM]
 refine iK_split (fun h => ?_) (fun h => ?_)
 ·have h2 : p.length ≤ s.length := by simp only [hasPre, Bool.and_eq_true, decide_eq_true_eq] at h; exact h.1
  simp only [gw0, qqE, ↓reduceIte, qqA, qqL, qqD, qqM, Int.ofNat_le, Int.toNat_natCast]
  exact ⟨h2, gives_str (by simp [trimPre, h]) hst⟩
 ·simp only [gw0, qqE, ↓reduceIte, qqA, qqL, qqD, qqM]
  exact gives_str (by simp [trimPre, h]) hst
theorem c_TrimPrefix (st : St) (s p : Str) : VCalls Tryz.prog TT 98 [.str s, .str p] st fun r st' => r = .ret (.str (trimPre s p)) ∧ st' = st := by
 refine vfun TT_ok (an := anL []) (L := [0, 1, 4]) (rs := [.tmp 4]) Tryz.func98 rfl (by kernel_rfl) rfl Tryz.ntmps98 rfl rfl (Nat.le_refl _) fun hst ha hf => ?_
 simp only [gw0, qqE, ↓reduceIte, qqA, qqL, qqD, qqM, List.length_nil]
 refine (c_TrimPrefix0 st s p).use (wkL_refl _) fun _ => ?_
 simp only [gw0, qqE, ↓reduceIte, qqA, qqL, qqD, qqM]
 exact gives_str rfl hst
-- letters and names
def letters : Str := [97, 98, 99, 100, 101, 102, 103, 104, 105, 106, 107, 108, 109, 110, 111, 112, 113, 114, 115, 116, 117, 118, 119, 120, 121, 122, 48, 49, 50, 51, 52, 53, 54, 55, 56, 57, 33, 63, 42, 43, 45, 47, 60, 61, 62, 95, 46]
def letterB (b : UInt8) : Bool := letters.contains b
theorem all_bytes {p : UInt8 → Bool} (h : (List.range 256).all (fun n => p (UInt8.ofNat n)) = true) (b : UInt8) : p b = true := by
 have := List.all_eq_true.1 h b.toNat (by simpa using b.toNat_lt)
 simpa using this
theorem c_letter (st : St) (b : UInt8) : VCalls Tryz.prog TT 78 [.int .u8 b.toNat] st fun r st' => r = .ret (.bool (letterB b)) ∧ st' = st := by
 refine vfun TT_ok (an := anL []) (L := [0, 2]) (rs := [.tmp 2]) Tryz.func78 rfl (by kernel_rfl) rfl Tryz.ntmps78 rfl rfl (Nat.le_refl _) fun hst ha hf => ?_
 simp only [gw0, qqE, ↓reduceIte, qqA, qqL, qqD, qqM]
 refine ⟨by cases decide (97 ≤ (b.toNat : Int)) <;> cases decide ((b.toNat : Int) ≤ 122) <;> simp, ?_⟩
 refine rK_guarded (.int .i64 (Lib.indexByte [33, 63, 42, 43, 45, 47, 60, 61, 62, 95, 46] b)) (fun _ => ?_) ?_
 ·have := c_IndexByte st [33, 63, 42, 43, 45, 47, 60, 61, 62, 95, 46] b.toNat
  simpa using this
 simp only [gw0, qqE, ↓reduceIte, qqA, qqL, qqD, qqM]
 refine gives_bool ?_ hst
 refine of_decide_eq_true (all_bytes (p := fun b => decide ((((decide (97 ≤ (b.toNat : Int)) && decide ((b.toNat : Int) ≤ 122)) || (decide (48 ≤ (b.toNat : Int)) && decide ((b.toNat : Int) ≤ 57))) || decide (0 ≤ Lib.indexByte [33, 63, 42, 43, 45, 47, 60, 61, 62, 95, 46] b)) = letterB b)) (by kernel_rfl) b)
end Go.Proofs.YtpllcpbhjglpaaaGreatDoor.Gx
