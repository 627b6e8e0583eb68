/- The rest of a drawn region, in all its orders: a tree. The equations of what an operation does, under two names. The table of the types of this place, as the engine wants it: each row held against the program. Contracts: what the small functions on strings and on lists of strings give. Contracts: letters, numbers, names. Contracts: what is wrong with data. Contracts: what is wrong with lists of data. Contracts: what is wrong with lists of data (the document's answer); the base's names; a datum without what its kinds have not. Contracts: a datum without what its kinds have not. -/
import Derived.Test.YtcdnooalfkbmgaaDoorZV6
import Derived.Test.YtcdnooalfkbmgaaDoorProg
import Derived.KernelRfl
import Derived.Lib.Strings
import Derived.Lib.Walk
import Derived.Lib.Bytealg

namespace Go.Proofs.YtcdnooalfkbmgaaDoor.Gw
open Go
set_option linter.unusedSimpArgs false
set_option linter.unusedVariables false

/-- An operation, and what may come next behind it. -/
inductive OT where
  | nd (i : Nat) (l : List OT)
def OT.i : OT → Nat
  | .nd i _ => i
def OT.l : OT → List OT
  | .nd _ l => l

def freeB (all : Array Oper) (rs : List Nat) (i : Nat) : Bool := match all[i]? with | none => false | some o => o.after.all fun e => !Region.binds .any e || !rs.contains e.on
def treeB (all : Array Oper) : Nat → List Nat → List OT → Bool
  | 0, rs, l => rs.isEmpty && l.isEmpty
  | n + 1, rs, l => !l.isEmpty && rs.all (fun i => !freeB all rs i || l.any fun t => t.i == i) && l.all fun t => treeB all n (rs.filter fun j => !(j == t.i)) t.l

section
variable (P : Program) (T : Nat → TI) (an : Nat → Nat) (L : List Nat)
mutual
def tK1 (os : List Oper) : OT → Env → St → (VExit → Env → St → Prop) → Prop
  | .nd i l, env, st, Q => bindO (guardV os.toArray env (os.getD i default).guard) fun gc => okDstB env.N (os.getD i default).dst ∧
      dStep P T (stepOp T an (os.getD i default).dst (os.getD i default).op gc env st) gc 2 st fun v st' => tKs os l (env.put L (os.getD i default).dst gc v) st' Q
/-- All that may come next. -/
def tKs (os : List Oper) : List OT → Env → St → (VExit → Env → St → Prop) → Prop
  | [], env, st, Q => Q .normal env st
  | t :: r, env, st, Q => tK1 os t env st Q ∧ tKr os r env st Q
def tKr (os : List Oper) : List OT → Env → St → (VExit → Env → St → Prop) → Prop
  | [], _, _, _ => True
  | t :: r, env, st, Q => tK1 os t env st Q ∧ tKr os r env st Q
end
variable {P T an L}

theorem tKr_mem {os : List Oper} {env : Env} {st : St} {Q : VExit → Env → St → Prop} : ∀ {l : List OT}, tKr P T an L os l env st Q → ∀ t ∈ l, tK1 P T an L os t env st Q
  | [], _, t, ht => by simp at ht
  | a :: l, h, t, ht => by
    simp only [tKr] at h
    rcases List.mem_cons.1 ht with rfl | ht
    · exact h.1
    · exact tKr_mem h.2 t ht
theorem tKs_mem {os : List Oper} {env : Env} {st : St} {Q : VExit → Env → St → Prop} {l : List OT} (h : tKs P T an L os l env st Q) (t : OT) (ht : t ∈ l) : tK1 P T an L os t env st Q := by
  cases l with
  | nil => simp at ht
  | cons a l =>
    simp only [tKs] at h
    rcases List.mem_cons.1 ht with rfl | ht
    · exact h.1
    · exact tKr_mem h.2 t ht

variable {ds : List Deferred}
theorem LeftL.drop {all : Array Oper} {listed : Array Bool} {rs : List Nat} {i : Nat} (hl : LeftL all listed rs) (hi : i ∈ Region.ready .any all listed) : LeftL all (listed.setIfInBounds i true) (rs.filter fun j => !(j == i)) := by
  obtain ⟨hi1, hi2, _⟩ := ready_spec hi
  obtain ⟨pre, post, hsplit⟩ := List.append_of_mem ((hl.mem i).2 ⟨hi1, hi2⟩)
  have h2 := hl
  rw [hsplit] at h2
  have h3 := h2.next hi
  have hnd := h2.nodup
  have hpre : ∀ x ∈ pre, x ≠ i := fun x hx e => (List.nodup_append.1 hnd).2.2 x hx i (by simp) e
  have hpost : ∀ x ∈ post, x ≠ i := fun x hx e => (List.nodup_cons.1 (List.nodup_append.1 hnd).2.1).1 (e ▸ hx)
  have : rs.filter (fun j => !(j == i)) = pre ++ post := by
    rw [hsplit, List.filter_append, List.filter_cons]
    simp only [beq_self_eq_true, Bool.not_true, Bool.false_eq_true, if_false]
    rw [List.filter_eq_self.2 (fun x hx => by simpa using hpre x hx), List.filter_eq_self.2 (fun x hx => by simpa using hpost x hx)]
  rw [this]; exact h3

theorem tree_sound (hT : Tab P T) {os : List Oper} (hE : backB os.toArray = true) {Q : VExit → Env → St → Prop} {g0 : G} {w0 : World} :
    ∀ (n : Nat) (rs : List Nat) (l : List OT) (listed : Array Bool) (env : Env) (st : St) (g : G) (w : World) (a : Act), rs.length = n → LeftL os.toArray listed rs → treeB os.toArray n rs l = true → Ext g0 w0 g w → SimSt T g st w → SimEnv g w env a → EnvOK L env → a.defers = ds →
      tKs P T an L os l env st Q → wpAny P .any os.toArray (Lift T L ds g0 w0 Q) n listed a w := by
  intro n
  induction n with
  | zero =>
    intro rs l listed env st g w a hn hl hB hx hst henv hok hds h
    have : rs = [] := List.eq_nil_of_length_eq_zero hn
    subst this
    simp only [treeB, Bool.and_eq_true, List.isEmpty_iff] at hB
    obtain ⟨_, rfl⟩ := hB
    simp only [tKs] at h
    refine ⟨?_, ⟨.normal, env, st, g, h, rfl, henv, hok, hds, hst, hx⟩⟩
    unfold Region.ready
    rw [List.filter_eq_nil_iff]
    intro i hi hr
    have hi' : i < os.toArray.size := by simpa using hi
    have : listed.getD i true = false := by simp only [Bool.and_eq_true, Bool.not_eq_true'] at hr; exact hr.1
    have := (hl.mem i).2 ⟨hi', this⟩
    simp at this
  | succ n ih =>
    intro rs l listed env st g w a hn hl hB hx hst henv hok hds h
    simp only [treeB, Bool.and_eq_true, List.all_eq_true, Bool.or_eq_true, List.any_eq_true, Bool.not_eq_true', beq_iff_eq] at hB
    obtain ⟨⟨_, hB2⟩, hB3⟩ := hB
    refine ⟨fun hr => (some_ready hE hl (by intro e; rw [e] at hn; simp at hn) hr).elim, fun i hi => ?_⟩
    obtain ⟨hi1, hi2, hafter⟩ := ready_spec hi
    have himem := (hl.mem i).2 ⟨hi1, hi2⟩
    have hfree : freeB os.toArray rs i = true := by
      unfold freeB
      rw [Array.getElem?_eq_getElem hi1]
      simp only [← Array.all_toList, List.all_eq_true, Bool.or_eq_true, Bool.not_eq_true']
      intro e he
      cases hb : Region.binds .any e with
      | false => exact .inl rfl
      | true =>
        right
        have h1 := hafter e he hb
        cases hc : rs.contains e.on with
        | false => rfl
        | true =>
          have h2 := (hl.mem e.on).1 (by simpa using hc)
          rw [getD_of_size (by rw [hl.size]; exact h2.1) false true, h2.2] at h1
          cases h1
    obtain ⟨t, ht, hti⟩ := (hB2 i himem).resolve_left (by rw [hfree]; simp)
    have hk := tKs_mem h t ht
    obtain ⟨j, l2⟩ := t
    simp only [OT.i] at hti
    subst hti
    have hB4 := hB3 _ ht
    simp only [OT.i, OT.l] at hB4
    simp only [tK1] at hk
    unfold bindO at hk
    split at hk
    case h_2 => exact hk.elim
    rename_i gc hgc
    obtain ⟨hd, hk⟩ := hk
    obtain ⟨v, st', hf, hk⟩ := dStep_fun hk
    simp only [wpOp, Array.getElem?_eq_getElem hi1]
    have hjl : j < os.length := by simpa using hi1
    have ho : os.toArray[j] = os.getD j default := by simp [List.getD_eq_getElem?_getD, hjl]
    rw [ho]
    refine dstep_sem hT hst henv hok hds hgc hd hf fun g' w' a' k1 k2 k3 k4 k5 => ?_
    have hnd := hl.drop hi
    have hlen : (rs.filter fun x => !(x == j)).length = n := by
      obtain ⟨pre, post, hsplit⟩ := List.append_of_mem himem
      have hnd2 := hl.nodup
      rw [hsplit] at hnd2
      have hpre : ∀ x ∈ pre, x ≠ j := fun x hx e => (List.nodup_append.1 hnd2).2.2 x hx j (by simp) e
      have hpost : ∀ x ∈ post, x ≠ j := fun x hx e => (List.nodup_cons.1 (List.nodup_append.1 hnd2).2.1).1 (e ▸ hx)
      have : rs.filter (fun x => !(x == j)) = pre ++ post := by
        rw [hsplit, List.filter_append, List.filter_cons]
        simp only [beq_self_eq_true, Bool.not_true, Bool.false_eq_true, if_false]
        rw [List.filter_eq_self.2 (fun x hx => by simpa using hpre x hx), List.filter_eq_self.2 (fun x hx => by simpa using hpost x hx)]
      rw [this]
      rw [hsplit] at hn
      simp at hn ⊢
      omega
    exact ih _ l2 _ _ st' g' w' a' hlen hnd hB4 (hx.trans k1) k2 k3 k4 k5 hk

def stageTB (all : Array Oper) (cls rs rs2 : List Nat) (l : List OT) : Bool :=
  backB all && pair3 all cls rs && rs2.all (fun j => rs.all fun x => edgeB all j x) && diffB (rs ++ rs2) && (rs ++ rs2).all (fun i => Nat.blt i all.size) && (List.range all.size).all (fun i => (rs ++ rs2).contains i) &&
    treeB all rs2.length rs2 l && (rs.length + rs2.length == all.size)

theorem VC.stageT (hT : Tab P T) (hm : P.follows .mixedOrders = true) {ss : List St} {id : Nat} {os : List Oper} {cls rs rs2 : List Nat} {l : List OT} {env : Env} {st : St} {Q : VExit → Env → St → Prop} (hB : stageTB os.toArray cls rs rs2 l = true)
    (h : dOps3 P T an L ss os.toArray (zipC (pickO os rs) (pickC cls rs)) ⟨env.N, env.g, []⟩ st fun _ env' st' => tKs P T an L os l env' st' Q) :
    VC P T L ds (.region id os.toArray true) env st Q := by
  intro g w a h1 h2 h3 h4
  refine wp_region_any hm ?_
  simp only [stageTB, Bool.and_eq_true, List.all_eq_true, List.mem_range, Bool.not_eq_true', beq_eq_false_iff_ne, beq_iff_eq, Nat.blt_eq, List.contains_iff_mem, Bool.or_eq_true] at hB
  obtain ⟨⟨⟨⟨⟨⟨⟨b1, b2⟩, b3⟩, b4⟩, b5⟩, b6⟩, b7⟩, b15⟩ := hB
  have hx := Ext.drew g w
  have henv : SimEnv g w ⟨env.N, env.g, []⟩ a := ⟨h2.1, fun t c v hv => h2.2 t c v (h3 t _ (by simpa [Env.look, find] using hv)).2⟩
  have hok : EnvOK L ⟨env.N, env.g, []⟩ := fun t x hx => ⟨(h3 t x hx).1, by simpa [Env.look, find] using hx⟩
  have h5 : SimSt T g st w.drew := h1.keep hx rfl (fun _ _ => rfl) fun b _ _ => ⟨rfl, rfl⟩
  have hd := dOps3_same _ _ _ st ⟨rfl, fun _ => rfl⟩ hok h
  rw [← pick_zip] at hd
  have hfalse : ∀ i, i < os.length → (Array.replicate os.toArray.size false).getD i true = false := fun i hi => by simp [Array.getD_eq_getD_getElem?, Array.getElem?_replicate, hi]
  have hdown : ∀ j o, os.toArray[j]? = some o → (Array.replicate os.toArray.size false).getD j true = true → ∀ e ∈ o.after.toList, Region.binds .any e = true → (Array.replicate os.toArray.size false).getD e.on false = true := by
    intro j o ho hj
    have hlt : j < os.length := by simpa using (Array.getElem?_eq_some_iff.1 ho).1
    rw [hfalse j hlt] at hj
    cases hj
  have hnd := diffB_spec b4
  have hl : LeftW os.toArray (Array.replicate os.toArray.size false) rs rs2 := by
    refine ⟨hnd, fun i => ?_, by simp, hdown⟩
    simp only [List.size_toArray]
    exact ⟨fun hi => ⟨by simpa using b5 i hi, hfalse i (by simpa using b5 i hi)⟩, fun hi => b6 i (by simpa using hi.1)⟩
  have hlen : rs.length + rs2.length = os.length := by simpa using b15
  have := stage_sound (ds := ds) hT b1 (Q := Q) (QM := fun _ env' st' => tKs P T an L os l env' st' Q) (g0 := g) (w0 := w) (dead := rs2) rs.length rs _ _ st g w.drew a rfl hl (pair3_spec b2) (fun j hj x hxx => b3 j hj x hxx) hx h5 (henv.ext hx) hok h4 hd ?_
  · rw [hlen] at this
    simpa using this
  · rintro listed' env' st' g' w' a' hL q1 k1 k2 k3 k4 k5
    exact tree_sound hT b1 rs2.length rs2 l listed' env' st' g' w' a' rfl hL b7 k1 k2 k3 k4 k5 q1

/-- The rest of a region, in all orders. -/
def stageT (P : Program) (T : Nat → TI) (an : Nat → Nat) (L : List Nat) (os : List Oper) (l : List OT) (Qm : VExit → Env → St → Prop) (_ : VExit) (env : Env) (st : St) : Prop := tKs P T an L os l env st Qm
theorem vstageT (hT : Tab P T) (hm : P.follows .mixedOrders = true) {σ : Type} {id : Nat} {os : List Oper} (ss : List St) (cls rs rs2 : List Nat) (tr : List OT) (ks : List Nat) (e : σ → List (Nat × Bool × V)) (s : σ → St) (I : σ → Prop) (hks : subN ks L = true) {N : Nat} {g l : List (Nat × Bool × V)} {st : St} {k : Kont} {Q : VExit → Env → St → Prop} (hB : stageTB os.toArray cls rs rs2 tr = true)
    (h : dK3 P T an L ss os.toArray (pickO os rs) (pickC cls rs) ⟨N, g, []⟩ st (stageT P T an L os tr (Mid N ks e s I)))
    (cont : ∀ x, I x → qK P T an L ds k Q .normal ⟨N, e x, []⟩ (s x)) : VC P T L ds (.region id os.toArray true) ⟨N, g, l⟩ st (qK P T an L ds k Q) := by
  intro g0 w a h1 h2 h3 h4
  refine wp_mono (VC.stageT (ds := ds) (an := an) (ss := ss) (env := ⟨N, g, l⟩) (Q := Mid N ks e s I) hT hm hB (dK3_ops _ _ _ _ h) g0 w a h1 h2 h3 h4) fun e1 a' w' ⟨ve, env', st', g', k1, k2, k3, k4, k5, k6, k7⟩ => ?_
  obtain ⟨rfl, hN, x, hx1, rfl, hI⟩ := k1
  refine ⟨.normal, ⟨N, e x, []⟩, s x, g', cont x hI, k2, ?_, ?_, k5, k6, k7⟩
  · rw [← hN, ← hx1]; exact k3.keep ks
  · rw [← hN, ← hx1]; exact EnvOK.keep hks env'
end

section
variable (P : Program) (T : Nat → TI) (an : Nat → Nat) (L : List Nat)
def tO (os : List Oper) (o : Oper) (l : List OT) (env : Env) (st : St) (Q : VExit → Env → St → Prop) : Prop := bindO (guardV os.toArray env o.guard) fun gc => okDstB env.N o.dst ∧ dStep P T (stepOp T an o.dst o.op gc env st) gc 2 st fun v st' => tKs P T an L os l (env.put L o.dst gc v) st' Q
def tE (r : Step) (gc : Bool) (dst : Option Tmp) (os : List Oper) (l : List OT) (env : Env) (st : St) (Q : VExit → Env → St → Prop) : Prop := dStep P T r gc 2 st fun v st' => tKs P T an L os l (env.put L dst gc v) st' Q
def tH (g : Option Bool) (dst : Option Tmp) (op : Op) (os : List Oper) (l : List OT) (env : Env) (st : St) (Q : VExit → Env → St → Prop) : Prop := match g with
  | some gc => okDstB env.N dst ∧ tE P T an L (stepOp T an dst op gc env st) gc dst os l env st Q
  | none => False
@[congr] theorem tE_congr {r r' : Step} {gc : Bool} {dst : Option Tmp} {os : List Oper} {l : List OT} {env : Env} {st : St} {Q : VExit → Env → St → Prop} (h : r = r') : tE P T an L r gc dst os l env st Q = tE P T an L r' gc dst os l env st Q := by rw [h]
@[congr] theorem tO_congr {os : List Oper} {o o' : Oper} {l : List OT} {env : Env} {st : St} {Q : VExit → Env → St → Prop} (h : o = o') : tO P T an L os o l env st Q = tO P T an L os o' l env st Q := by rw [h]
end
theorem gwDT :
    (∀ (P : Program) (T : Nat → TI) (an : Nat → Nat) (L : List Nat) (os : List Oper) (tr : List OT) (Qm : VExit → Env → St → Prop) (x : VExit) (env : Env) (st : St), stageT P T an L os tr Qm x env st = tKs P T an L os tr env st Qm) ∧
    (∀ (P : Program) (T : Nat → TI) (an : Nat → Nat) (L : List Nat) (os : List Oper) (env : Env) (st : St) (Q : VExit → Env → St → Prop), tKs P T an L os [] env st Q = Q .normal env st) ∧
    (∀ (P : Program) (T : Nat → TI) (an : Nat → Nat) (L : List Nat) (os : List Oper) (t : OT) (r : List OT) (env : Env) (st : St) (Q : VExit → Env → St → Prop), tKs P T an L os (t :: r) env st Q = (tK1 P T an L os t env st Q ∧ tKr P T an L os r env st Q)) ∧
    (∀ (P : Program) (T : Nat → TI) (an : Nat → Nat) (L : List Nat) (os : List Oper) (env : Env) (st : St) (Q : VExit → Env → St → Prop), tKr P T an L os [] env st Q = True) ∧
    (∀ (P : Program) (T : Nat → TI) (an : Nat → Nat) (L : List Nat) (os : List Oper) (t : OT) (r : List OT) (env : Env) (st : St) (Q : VExit → Env → St → Prop), tKr P T an L os (t :: r) env st Q = (tK1 P T an L os t env st Q ∧ tKr P T an L os r env st Q)) ∧
    (∀ (P : Program) (T : Nat → TI) (an : Nat → Nat) (L : List Nat) (os : List Oper) (i : Nat) (l : List OT) (env : Env) (st : St) (Q : VExit → Env → St → Prop), tK1 P T an L os (.nd i l) env st Q = tO P T an L os (os.getD i default) l env st Q) ∧
    (∀ (P : Program) (T : Nat → TI) (an : Nat → Nat) (L : List Nat) (os : List Oper) (l : List OT) (dst : Option Tmp) (op : Op) (ty : TypeId) (pos : String) (aft : Array Edge) (env : Env) (st : St) (Q : VExit → Env → St → Prop), tO P T an L os ⟨dst, op, ty, pos, aft, none⟩ l env st Q = (okDstB env.N dst ∧ tE P T an L (stepOp T an dst op true env st) true dst os l env st Q)) ∧
    (∀ (P : Program) (T : Nat → TI) (an : Nat → Nat) (L : List Nat) (os : List Oper) (l : List OT) (dst : Option Tmp) (op : Op) (ty : TypeId) (pos : String) (aft : Array Edge) (gd : Nat × Bool) (env : Env) (st : St) (Q : VExit → Env → St → Prop), tO P T an L os ⟨dst, op, ty, pos, aft, some gd⟩ l env st Q = tH P T an L (guardV os.toArray env (some gd)) dst op os l env st Q) ∧
    (∀ (P : Program) (T : Nat → TI) (an : Nat → Nat) (L : List Nat) (os : List Oper) (l : List OT) (dst : Option Tmp) (op : Op) (gc : Bool) (env : Env) (st : St) (Q : VExit → Env → St → Prop), tH P T an L (some gc) dst op os l env st Q = (okDstB env.N dst ∧ tE P T an L (stepOp T an dst op gc env st) gc dst os l env st Q)) ∧
    (∀ (P : Program) (T : Nat → TI) (an : Nat → Nat) (L : List Nat) (os : List Oper) (l : List OT) (dst : Option Tmp) (gc : Bool) (v : V) (side : Prop) (env : Env) (st : St) (Q : VExit → Env → St → Prop), tE P T an L (.pure v side) gc dst os l env st Q = ((gc = true → side) ∧ tKs P T an L os l (env.put L dst gc v) st Q)) ∧
    (∀ (P : Program) (T : Nat → TI) (an : Nat → Nat) (L : List Nat) (os : List Oper) (l : List OT) (dst : Option Tmp) (gc : Bool) (v : V) (st' : St) (side : Prop) (env : Env) (st : St) (Q : VExit → Env → St → Prop), tE P T an L (.mem v st' side) gc dst os l env st Q = ((gc = true ∨ st' = st) ∧ (gc = true → side) ∧ tKs P T an L os l (env.put L dst gc v) st' Q)) := by
  and_intros <;> intros <;> first
    | rfl
    | (simp only [tK1, tO]; done)
    | (simp only [tO, tH, bindO]; generalize guardV _ _ _ = r; cases r <;> rfl)
    | (simp only [tE, dStep, true_or, true_and]; done)
    | (simp [tKs, tKr, stageT])
end Go.Proofs.YtcdnooalfkbmgaaDoor.Gw

namespace Go.Proofs.YtcdnooalfkbmgaaDoor.Gw
open Go

def lenK : TK → V → Option (V × Prop)
  | .str, .str s => some (.int .i64 s.length, True)
  | .slice _, .nils => some (.int .i64 0, True)
  | .slice _, .lst _ _ l => some (.int .i64 l.length, True)
  | .slice _, .arr _ n => some (.int .i64 n, True)
  | .map _ _, .nilm => some (.int .i64 0, True)
  | .map _ _, .map _ => none
  | _, _ => none
theorem builtinV_len (T : Nat → TI) (x : V) (t : TypeId) : builtinV T .len [x] [t] = lenK (T t).kind x := by
  simp only [builtinV]
  cases (T t).kind <;> cases x <;> rfl
def sliceK (T : Nat → TI) : TK → V → Option V → Option V → Option (V × Prop)
  | .str, .str s, none, none => some (.str s, True)
  | .str, .str s, some (.int _ a), none => some (.str (s.drop a.toNat), 0 ≤ a ∧ a ≤ s.length)
  | .str, .str s, none, some (.int _ b) => some (.str (s.take b.toNat), 0 ≤ b ∧ b ≤ s.length)
  | .str, .str s, some (.int _ a), some (.int _ b) => some (.str ((s.take b.toNat).drop a.toNat), 0 ≤ a ∧ a ≤ b ∧ b ≤ s.length)
  | .slice e, .lst sz _ l, none, none => if (T e).sized = true ∧ sz = (T e).size then some (.lst sz none l, True) else none
  | .slice e, .lst sz _ l, some (.int _ a), none => if (T e).sized = true ∧ sz = (T e).size then some (.lst sz none (l.drop a.toNat), 0 ≤ a ∧ a ≤ l.length) else none
  | .slice e, .lst sz _ l, none, some (.int _ b) => if (T e).sized = true ∧ sz = (T e).size then some (.lst sz none (l.take b.toNat), 0 ≤ b ∧ b ≤ l.length) else none
  | .slice e, .lst sz _ l, some (.int _ a), some (.int _ b) => if (T e).sized = true ∧ sz = (T e).size then some (.lst sz none ((l.take b.toNat).drop a.toNat), 0 ≤ a ∧ a ≤ b ∧ b ≤ l.length) else none
  | _, _, _, _ => none
theorem sliceV_K (T : Nat → TI) (t : TypeId) (x : V) (lo hi : Option V) : sliceV T t x lo hi = sliceK T (T t).kind x lo hi := by
  unfold sliceV
  generalize (T t).kind = k
  cases k with
  | str =>
    cases x with
    | str s =>
      match lo, hi with
      | none, none => rfl
      | some a, none => cases a <;> rfl
      | none, some b => cases b <;> rfl
      | some a, some b => cases a <;> cases b <;> rfl
    | _ => rfl
  | slice e =>
    cases x with
    | lst sz tk l =>
      by_cases hc : (T e).sized = true ∧ sz = (T e).size
      · simp only [if_pos hc]
        match lo, hi with
        | none, none => simp only [sliceK, if_pos hc]
        | some a, none => cases a <;> simp only [sliceK, if_pos hc]
        | none, some b => cases b <;> simp only [sliceK, if_pos hc]
        | some a, some b => cases a <;> cases b <;> simp only [sliceK, if_pos hc]
      · simp only [if_neg hc]
        match lo, hi with
        | none, none => simp only [sliceK, if_neg hc]
        | some a, none => cases a <;> simp only [sliceK, if_neg hc]
        | none, some b => cases b <;> simp only [sliceK, if_neg hc]
        | some a, some b => cases a <;> cases b <;> simp only [sliceK, if_neg hc]
    | _ => rfl
  | _ => rfl

theorem gwC :
    (∀ {α β : Type} (f : α → β) (a : α) (l : List α), List.map f (a :: l) = f a :: List.map f l) ∧
    (∀ {α β : Type} (f : α → β), List.map f [] = []) ∧
    (∀ {α β : Type} (a : α) (f : α → Option β), (some a).bind f = f a) ∧
    (∀ {α β : Type} (a : α) (f : α → β), (some a).map f = some (f a)) ∧
    (∀ {α : Type} (a : α) (l : List α) (d : α), (a :: l).headD d = a) ∧
    (∀ {α : Type} (a : α) (l : List α), (a :: l).reverse = l.reverse ++ [a]) ∧
    (∀ {α : Type}, ([] : List α).reverse = []) ∧
    (∀ {α : Type} (a : α) (l : List α), (a :: l).length = l.length + 1) ∧
    (∀ {α : Type}, ([] : List α).length = 0) ∧
    (∀ {α : Type} (l : List α), l ++ [] = l) ∧
    (∀ {α : Type} (a : α) (l m : List α), (a :: l) ++ m = a :: (l ++ m)) ∧
    (∀ {α : Type} (l : List α), [] ++ l = l) ∧
    (∀ {α : Type} (a : α) (l : List α) (n : Nat), (a :: l).drop (n + 1) = l.drop n) ∧
    (∀ {α : Type} (l : List α), l.drop 0 = l) ∧
    (∀ {α : Type} (n : Nat), ([] : List α).drop n = []) ∧
    (∀ {α : Type} (a : α) (l : List α) (n : Nat), (a :: l).take (n + 1) = a :: l.take n) ∧
    (∀ {α : Type} (l : List α), l.take 0 = []) ∧
    (∀ {α : Type} (n : Nat), ([] : List α).take n = []) ∧
    (∀ {α : Type} (a : α) (l : List α), (a :: l)[0]? = some a) ∧
    (∀ {α : Type} (a : α) (l : List α) (n : Nat), (a :: l)[n + 1]? = l[n]?) ∧
    (∀ {α : Type} (p : α → Bool) (a : α) (l : List α), (a :: l).all p = (p a && l.all p)) ∧
    (∀ {α : Type} (p : α → Bool), ([] : List α).all p = true) ∧
    (∀ {α : Type} (n : Nat) (a : α), List.replicate (n + 1) a = a :: List.replicate n a) ∧
    (∀ {α : Type} (a : α), List.replicate 0 a = []) ∧
    (∀ {α : Type} (a b : α) (l : List α), (a :: l).set 0 b = b :: l) ∧
    (∀ {α : Type} (a b : α) (l : List α) (n : Nat), (a :: l).set (n + 1) b = a :: l.set n b) ∧
    (∀ (h : Decidable True), @decide True h = true) ∧
    (∀ (h : Decidable False), @decide False h = false) ∧
    (∀ p : Prop, (True ∨ p) = True) ∧
    (∀ p : Prop, (p ∧ p) = p) ∧
    ((¬ False) = True) ∧
    (∀ {α : Type} (a b : α), (a ≠ b) = ¬ (a = b)) ∧
    (∀ {α : Type} (a : α), (a = a) = True) := by
  refine ⟨fun _ _ _ => rfl, fun _ => rfl, fun _ _ => rfl, fun _ _ => rfl, fun _ _ _ => rfl, fun _ _ => List.reverse_cons, rfl, fun _ _ => rfl, rfl, fun _ => List.append_nil _, fun _ _ _ => rfl, fun _ => rfl, fun _ _ _ => rfl, fun _ => rfl, fun _ => List.drop_nil, fun _ _ _ => rfl, fun _ => rfl, fun _ => List.take_nil, fun _ _ => rfl, fun _ _ _ => List.getElem?_cons_succ, fun _ _ _ => rfl, fun _ => rfl, fun _ _ => rfl, fun _ => rfl, fun _ _ _ => rfl, fun _ _ _ _ => rfl, fun h => by simp, fun h => by simp, fun _ => by simp, fun _ => by simp, by simp, fun _ _ => rfl, fun _ => by simp⟩
theorem gwN :
    (type_of% @builtinV_len) ∧
    (type_of% @sliceV_K) ∧ (∀ a b : Step, sliS 0 a b = a) ∧ (∀ a b : Step, sliS 3 a b = b) ∧
    (type_of% @lenK.eq_1) ∧
    (type_of% @lenK.eq_2) ∧
    (type_of% @lenK.eq_3) ∧
    (type_of% @lenK.eq_4) ∧
    (type_of% @lenK.eq_5) ∧
    (type_of% @lenK.eq_6) ∧
    (type_of% @lenK.eq_7) ∧
    (type_of% @sliceK.eq_1) ∧
    (type_of% @sliceK.eq_2) ∧
    (type_of% @sliceK.eq_3) ∧
    (type_of% @sliceK.eq_4) ∧
    (type_of% @sliceK.eq_5) ∧
    (type_of% @sliceK.eq_6) ∧
    (type_of% @sliceK.eq_7) ∧
    (type_of% @sliceK.eq_8) ∧
    (type_of% @sliceK.eq_9) ∧
    (type_of% @initG.eq_1) ∧
    (type_of% @initG.eq_2) ∧
    (type_of% @builtS.eq_1) ∧
    (type_of% @builtS.eq_2) ∧
    (type_of% @builtS.eq_3) ∧
    (type_of% @builtS.eq_4) ∧
    (type_of% @pureR.eq_1) ∧
    (type_of% @pureR.eq_2) ∧
    (type_of% @binV.eq_1) ∧
    (type_of% @binV.eq_2) ∧
    (type_of% @binV.eq_3) ∧
    (type_of% @binV.eq_4) ∧
    (type_of% @binV.eq_5) ∧
    (type_of% @binV.eq_6) ∧
    (type_of% @binV.eq_7) ∧
    (type_of% @binV.eq_8) ∧
    (type_of% @binV.eq_9) ∧
    (type_of% @binV.eq_10) ∧
    (type_of% @binV.eq_11) ∧
    (type_of% @binV.eq_12) ∧
    (type_of% @binV.eq_13) ∧
    (type_of% @binV.eq_14) ∧
    (type_of% @binV.eq_15) ∧
    (type_of% @binV.eq_16) ∧
    (type_of% @binV.eq_17) ∧
    (type_of% @binV.eq_18) ∧
    (type_of% @binV.eq_19) ∧
    (type_of% @binV.eq_20) ∧
    (type_of% @binV.eq_21) ∧
    (type_of% @binV.eq_22) ∧
    (type_of% @binV.eq_23) ∧
    (type_of% @binV.eq_24) ∧
    (type_of% @binV.eq_25) ∧
    (type_of% @aggEq.eq_1) ∧
    (type_of% @aggEq.eq_2) ∧
    (type_of% @aggEq.eq_3) ∧
    (type_of% @eqFs.eq_1) ∧
    (type_of% @eqFs.eq_2) ∧
    (type_of% @eqCell.eq_1) ∧
    (type_of% @eqCell.eq_2) ∧
    (type_of% @eqCell.eq_3) ∧
    (type_of% @eqCell.eq_4) ∧
    (type_of% @pickV.eq_1) ∧
    (type_of% @evO.eq_1) ∧
    (type_of% @evO.eq_2) ∧
    (type_of% @evO.eq_3) ∧
    (type_of% @evO.eq_4) ∧
    (type_of% @Env.look.eq_1) ∧
    (type_of% @find.eq_1) ∧
    (type_of% @find.eq_2) ∧
    (type_of% @V.ofConst.eq_1) ∧
    (type_of% @V.ofConst.eq_2) ∧
    (type_of% @V.ofConst.eq_3) ∧
    (type_of% @V.ofConst.eq_4) ∧
    (type_of% @V.ofConst.eq_5) ∧
    (type_of% @V.ofConst.eq_6) ∧
    (type_of% @V.ofConst.eq_7) ∧
    (type_of% @V.ofConst.eq_8) ∧
    (type_of% @V.ofConst.eq_9) ∧
    (type_of% @resV.eq_1) ∧
    (type_of% @resV.eq_2) ∧
    (type_of% @resOne.eq_1) ∧
    (type_of% @resOne.eq_2) ∧
    (type_of% @tupV.eq_1) ∧
    (type_of% @tupV.eq_2) ∧
    (type_of% @fillV.eq_1) ∧
    (type_of% @fillV.eq_2) ∧
    (type_of% @buildV.eq_1) ∧
    (type_of% @mkIface.eq_1) ∧
    (type_of% @litM.eq_1) ∧
    (type_of% @litM.eq_2) ∧
    (type_of% @litM.eq_3) ∧
    (type_of% @litM.eq_4) ∧
    (type_of% @litS.eq_1) ∧
    (type_of% @litS.eq_2) ∧
    (type_of% @litR.eq_1) ∧
    (type_of% @litRows.eq_1) ∧
    (type_of% @litRows.eq_2) ∧
    (type_of% @appS.eq_1) ∧
    (type_of% @appS.eq_2) ∧
    (type_of% @appS.eq_3) ∧
    (type_of% @appS.eq_4) ∧
    (type_of% @memA.eq_1) ∧
    (type_of% @memA.eq_2) ∧
    (type_of% @appendV.eq_1) ∧
    (type_of% @appendV.eq_2) ∧
    (type_of% @appendV.eq_3) ∧
    (type_of% @appendV.eq_4) ∧
    (type_of% @appendV.eq_5) ∧
    (type_of% @rowsOf.eq_1) ∧
    (type_of% @rowsOf.eq_2) ∧
    (type_of% @rowsOf.eq_3) ∧
    (type_of% @rowsOf.eq_4) ∧
    (type_of% @V.cells.eq_1) ∧
    (type_of% @V.cells.eq_2) ∧
    (type_of% @V.cells.eq_3) ∧
    (type_of% @V.cells.eq_4) ∧
    (type_of% @TI.sized.eq_1) ∧
    (type_of% @TI.known.eq_1) ∧
    (type_of% @TI.agg.eq_1) ∧
    (type_of% @anL.eq_1) ∧
    (type_of% @anL.eq_2) ∧
    (type_of% @loadV.eq_def) ∧
    (type_of% @builtinV.eq_7) ∧
    (type_of% @builtinV.eq_8) :=
  ⟨@builtinV_len, @sliceV_K, fun _ _ => rfl, fun _ _ => rfl, @lenK.eq_1, @lenK.eq_2, @lenK.eq_3, @lenK.eq_4, @lenK.eq_5, @lenK.eq_6, @lenK.eq_7, @sliceK.eq_1, @sliceK.eq_2, @sliceK.eq_3, @sliceK.eq_4, @sliceK.eq_5, @sliceK.eq_6, @sliceK.eq_7, @sliceK.eq_8, @sliceK.eq_9, @initG.eq_1, @initG.eq_2, @builtS.eq_1, @builtS.eq_2, @builtS.eq_3, @builtS.eq_4, @pureR.eq_1, @pureR.eq_2, @binV.eq_1, @binV.eq_2, @binV.eq_3, @binV.eq_4, @binV.eq_5, @binV.eq_6, @binV.eq_7, @binV.eq_8, @binV.eq_9, @binV.eq_10, @binV.eq_11, @binV.eq_12, @binV.eq_13, @binV.eq_14, @binV.eq_15, @binV.eq_16, @binV.eq_17, @binV.eq_18, @binV.eq_19, @binV.eq_20, @binV.eq_21, @binV.eq_22, @binV.eq_23, @binV.eq_24, @binV.eq_25, @aggEq.eq_1, @aggEq.eq_2, @aggEq.eq_3, @eqFs.eq_1, @eqFs.eq_2, @eqCell.eq_1, @eqCell.eq_2, @eqCell.eq_3, @eqCell.eq_4, @pickV.eq_1, @evO.eq_1, @evO.eq_2, @evO.eq_3, @evO.eq_4, @Env.look.eq_1, @find.eq_1, @find.eq_2, @V.ofConst.eq_1, @V.ofConst.eq_2, @V.ofConst.eq_3, @V.ofConst.eq_4, @V.ofConst.eq_5, @V.ofConst.eq_6, @V.ofConst.eq_7, @V.ofConst.eq_8, @V.ofConst.eq_9, @resV.eq_1, @resV.eq_2, @resOne.eq_1, @resOne.eq_2, @tupV.eq_1, @tupV.eq_2, @fillV.eq_1, @fillV.eq_2, @buildV.eq_1, @mkIface.eq_1, @litM.eq_1, @litM.eq_2, @litM.eq_3, @litM.eq_4, @litS.eq_1, @litS.eq_2, @litR.eq_1, @litRows.eq_1, @litRows.eq_2, @appS.eq_1, @appS.eq_2, @appS.eq_3, @appS.eq_4, @memA.eq_1, @memA.eq_2, @appendV.eq_1, @appendV.eq_2, @appendV.eq_3, @appendV.eq_4, @appendV.eq_5, @rowsOf.eq_1, @rowsOf.eq_2, @rowsOf.eq_3, @rowsOf.eq_4, @V.cells.eq_1, @V.cells.eq_2, @V.cells.eq_3, @V.cells.eq_4, @TI.sized.eq_1, @TI.known.eq_1, @TI.agg.eq_1, @anL.eq_1, @anL.eq_2, @loadV.eq_def, @builtinV.eq_7, @builtinV.eq_8⟩
end Go.Proofs.YtcdnooalfkbmgaaDoor.Gw

namespace Go.Proofs.YtcdnooalfkbmgaaDoor.Gw
open Go

def tab : List TI := [
  ⟨.other, 0, 0, []⟩,
  ⟨.func, 1, 8, [.nilf]⟩,
  ⟨.int .i64, 1, 8, [.int .i64 0]⟩,
  ⟨.int .i64, 1, 8, [.int .i64 0]⟩,
  ⟨.bool, 1, 1, [.bool false]⟩,
  ⟨.int .u8, 1, 1, [.int .u8 0]⟩,
  ⟨.int .u8, 1, 1, [.int .u8 0]⟩,
  ⟨.struct [(0, 2), (1, 3), (2, 4), (3, 6)], 4, 24, [.int .i64 0, .int .i64 0, .bool false, .int .u8 0]⟩,
  ⟨.struct [(0, 2), (1, 3), (2, 4), (3, 6)], 4, 24, [.int .i64 0, .int .i64 0, .bool false, .int .u8 0]⟩,
  ⟨.str, 1, 16, [.str []]⟩,
  ⟨.str, 1, 16, [.str []]⟩,
  ⟨.str, 1, 16, [.str []]⟩,
  ⟨.int .u64, 1, 8, [.int .u64 0]⟩,
  ⟨.other, 0, 0, []⟩,
  ⟨.other, 0, 0, []⟩,
  ⟨.ptr 159, 1, 8, [.nilp]⟩,
  ⟨.ptr 162, 1, 8, [.nilp]⟩,
  ⟨.ptr 169, 1, 8, [.nilp]⟩,
  ⟨.other, 0, 0, []⟩,
  ⟨.other, 0, 0, []⟩,
  ⟨.iface, 1, 16, [.nili]⟩,
  ⟨.int .i32, 1, 4, [.int .i32 0]⟩,
  ⟨.slice 48, 1, 24, [.nils]⟩,
  ⟨.struct [(0, 9), (1, 22)], 2, 40, [.str [], .nils]⟩,
  ⟨.struct [(0, 9), (1, 22)], 2, 40, [.str [], .nils]⟩,
  ⟨.slice 5, 1, 24, [.nils]⟩,
  ⟨.func, 1, 8, [.nilf]⟩,
  ⟨.int .i64, 1, 8, [.int .i64 0]⟩,
  ⟨.other, 0, 0, []⟩,
  ⟨.func, 1, 8, [.nilf]⟩,
  ⟨.other, 0, 0, []⟩,
  ⟨.func, 1, 8, [.nilf]⟩,
  ⟨.func, 1, 8, [.nilf]⟩,
  ⟨.func, 1, 8, [.nilf]⟩,
  ⟨.func, 1, 8, [.nilf]⟩,
  ⟨.func, 1, 8, [.nilf]⟩,
  ⟨.func, 1, 8, [.nilf]⟩,
  ⟨.func, 1, 8, [.nilf]⟩,
  ⟨.ptr 43, 1, 8, [.nilp]⟩,
  ⟨.ptr 41, 1, 8, [.nilp]⟩,
  ⟨.struct [(0, 39), (1, 25)], 2, 32, [.nilp, .nils]⟩,
  ⟨.struct [(0, 39), (1, 25)], 2, 32, [.nilp, .nils]⟩,
  ⟨.struct [(0, 41)], 2, 32, [.nilp, .nils]⟩,
  ⟨.struct [(0, 41)], 2, 32, [.nilp, .nils]⟩,
  ⟨.func, 1, 8, [.nilf]⟩,
  ⟨.func, 1, 8, [.nilf]⟩,
  ⟨.slice 55, 1, 24, [.nils]⟩,
  ⟨.struct [(0, 3), (1, 46)], 2, 32, [.int .i64 0, .nils]⟩,
  ⟨.struct [(0, 3), (1, 46)], 2, 32, [.int .i64 0, .nils]⟩,
  ⟨.func, 1, 8, [.nilf]⟩,
  ⟨.ptr 55, 1, 8, [.nilp]⟩,
  ⟨.slice 53, 1, 24, [.nils]⟩,
  ⟨.struct [(0, 3), (1, 2), (2, 9), (3, 3), (4, 3), (5, 51)], 6, 72, [.int .i64 0, .int .i64 0, .str [], .int .i64 0, .int .i64 0, .nils]⟩,
  ⟨.struct [(0, 3), (1, 2), (2, 9), (3, 3), (4, 3), (5, 51)], 6, 72, [.int .i64 0, .int .i64 0, .str [], .int .i64 0, .int .i64 0, .nils]⟩,
  ⟨.struct [(0, 3), (1, 3), (2, 2), (3, 9), (4, 9), (5, 53)], 11, 128, [.int .i64 0, .int .i64 0, .int .i64 0, .str [], .str [], .int .i64 0, .int .i64 0, .str [], .int .i64 0, .int .i64 0, .nils]⟩,
  ⟨.struct [(0, 3), (1, 3), (2, 2), (3, 9), (4, 9), (5, 53)], 11, 128, [.int .i64 0, .int .i64 0, .int .i64 0, .str [], .str [], .int .i64 0, .int .i64 0, .str [], .int .i64 0, .int .i64 0, .nils]⟩,
  ⟨.func, 1, 8, [.nilf]⟩,
  ⟨.func, 1, 8, [.nilf]⟩,
  ⟨.ptr 60, 1, 8, [.nilp]⟩,
  ⟨.struct [(0, 9), (1, 4)], 2, 24, [.str [], .bool false]⟩,
  ⟨.struct [(0, 9), (1, 4)], 2, 24, [.str [], .bool false]⟩,
  ⟨.func, 1, 8, [.nilf]⟩,
  ⟨.func, 1, 8, [.nilf]⟩,
  ⟨.func, 1, 8, [.nilf]⟩,
  ⟨.func, 1, 8, [.nilf]⟩,
  ⟨.func, 1, 8, [.nilf]⟩,
  ⟨.func, 1, 8, [.nilf]⟩,
  ⟨.func, 1, 8, [.nilf]⟩,
  ⟨.ptr 71, 1, 8, [.nilp]⟩,
  ⟨.slice 3, 1, 24, [.nils]⟩,
  ⟨.struct [(0, 22), (1, 69), (2, 3)], 3, 56, [.nils, .nils, .int .i64 0]⟩,
  ⟨.struct [(0, 22), (1, 69), (2, 3)], 3, 56, [.nils, .nils, .int .i64 0]⟩,
  ⟨.func, 1, 8, [.nilf]⟩,
  ⟨.other, 0, 0, []⟩,
  ⟨.other, 0, 0, []⟩,
  ⟨.other, 0, 0, []⟩,
  ⟨.func, 1, 8, [.nilf]⟩,
  ⟨.int .u64, 1, 8, [.int .u64 0]⟩,
  ⟨.int .u64, 1, 8, [.int .u64 0]⟩,
  ⟨.func, 1, 8, [.nilf]⟩,
  ⟨.struct [(0, 27), (1, 3)], 2, 16, [.int .i64 0, .int .i64 0]⟩,
  ⟨.struct [(0, 27), (1, 3)], 2, 16, [.int .i64 0, .int .i64 0]⟩,
  ⟨.other, 0, 0, []⟩,
  ⟨.func, 1, 8, [.nilf]⟩,
  ⟨.ptr 5, 1, 8, [.nilp]⟩,
  ⟨.func, 1, 8, [.nilf]⟩,
  ⟨.func, 1, 8, [.nilf]⟩,
  ⟨.func, 1, 8, [.nilf]⟩,
  ⟨.func, 1, 8, [.nilf]⟩,
  ⟨.func, 1, 8, [.nilf]⟩,
  ⟨.func, 1, 8, [.nilf]⟩,
  ⟨.func, 1, 8, [.nilf]⟩,
  ⟨.ptr 53, 1, 8, [.nilp]⟩,
  ⟨.other, 0, 0, []⟩,
  ⟨.func, 1, 8, [.nilf]⟩,
  ⟨.func, 1, 8, [.nilf]⟩,
  ⟨.func, 1, 8, [.nilf]⟩,
  ⟨.func, 1, 8, [.nilf]⟩,
  ⟨.slice 9, 1, 24, [.nils]⟩,
  ⟨.func, 1, 8, [.nilf]⟩,
  ⟨.func, 1, 8, [.nilf]⟩,
  ⟨.other, 0, 0, []⟩,
  ⟨.func, 1, 8, [.nilf]⟩,
  ⟨.func, 1, 8, [.nilf]⟩,
  ⟨.other, 0, 0, []⟩,
  ⟨.func, 1, 8, [.nilf]⟩,
  ⟨.ptr 108, 1, 8, [.nilp]⟩,
  ⟨.struct [(0, 3)], 1, 8, [.int .i64 0]⟩,
  ⟨.struct [(0, 3)], 1, 8, [.int .i64 0]⟩,
  ⟨.func, 1, 8, [.nilf]⟩,
  ⟨.func, 1, 8, [.nilf]⟩,
  ⟨.struct [(0, 81)], 2, 16, [.int .i64 0, .int .i64 0]⟩,
  ⟨.struct [(0, 81)], 2, 16, [.int .i64 0, .int .i64 0]⟩,
  ⟨.ptr 115, 1, 8, [.nilp]⟩,
  ⟨.struct [(0, 9), (1, 3), (2, 3)], 3, 32, [.str [], .int .i64 0, .int .i64 0]⟩,
  ⟨.struct [(0, 9), (1, 3), (2, 3)], 3, 32, [.str [], .int .i64 0, .int .i64 0]⟩,
  ⟨.func, 1, 8, [.nilf]⟩,
  ⟨.func, 1, 8, [.nilf]⟩,
  ⟨.func, 1, 8, [.nilf]⟩,
  ⟨.func, 1, 8, [.nilf]⟩,
  ⟨.func, 1, 8, [.nilf]⟩,
  ⟨.func, 1, 8, [.nilf]⟩,
  ⟨.func, 1, 8, [.nilf]⟩,
  ⟨.other, 0, 0, []⟩,
  ⟨.func, 1, 8, [.nilf]⟩,
  ⟨.func, 1, 8, [.nilf]⟩,
  ⟨.other, 0, 0, []⟩,
  ⟨.func, 1, 8, [.nilf]⟩,
  ⟨.func, 1, 8, [.nilf]⟩,
  ⟨.other, 0, 0, []⟩,
  ⟨.func, 1, 8, [.nilf]⟩,
  ⟨.func, 1, 8, [.nilf]⟩,
  ⟨.func, 1, 8, [.nilf]⟩,
  ⟨.func, 1, 8, [.nilf]⟩,
  ⟨.other, 0, 0, []⟩,
  ⟨.int .u32, 1, 4, [.int .u32 0]⟩,
  ⟨.other, 0, 0, []⟩,
  ⟨.func, 1, 8, [.nilf]⟩,
  ⟨.func, 1, 8, [.nilf]⟩,
  ⟨.func, 1, 8, [.nilf]⟩,
  ⟨.func, 1, 8, [.nilf]⟩,
  ⟨.int .i64, 1, 8, [.int .i64 0]⟩,
  ⟨.other, 0, 0, []⟩,
  ⟨.func, 1, 8, [.nilf]⟩,
  ⟨.ptr 153, 1, 8, [.nilp]⟩,
  ⟨.func, 1, 8, [.nilf]⟩,
  ⟨.func, 1, 8, [.nilf]⟩,
  ⟨.func, 1, 8, [.nilf]⟩,
  ⟨.other, 0, 0, []⟩,
  ⟨.other, 0, 0, []⟩,
  ⟨.func, 1, 8, [.nilf]⟩,
  ⟨.func, 1, 8, [.nilf]⟩,
  ⟨.other, 0, 0, []⟩,
  ⟨.other, 0, 0, []⟩,
  ⟨.func, 1, 8, [.nilf]⟩,
  ⟨.ptr 157, 1, 8, [.nilp]⟩,
  ⟨.struct [(0, 9)], 1, 16, [.str []]⟩,
  ⟨.struct [(0, 9)], 1, 16, [.str []]⟩,
  ⟨.other, 0, 0, []⟩,
  ⟨.other, 0, 0, []⟩,
  ⟨.other, 0, 0, []⟩,
  ⟨.other, 0, 0, []⟩,
  ⟨.other, 0, 0, []⟩,
  ⟨.int .u8, 1, 1, [.int .u8 0]⟩,
  ⟨.int .u8, 1, 1, [.int .u8 0]⟩,
  ⟨.func, 1, 8, [.nilf]⟩,
  ⟨.int .i32, 1, 4, [.int .i32 0]⟩,
  ⟨.int .i32, 1, 4, [.int .i32 0]⟩,
  ⟨.other, 0, 0, []⟩,
  ⟨.other, 0, 0, []⟩]

def TT (t : Nat) : TI := (tab[t]?).getD ⟨.other, 0, 0, []⟩


def rowsOk (P : Program) : Nat → List TI → Prop
  | _, [] => True
  | k, i :: r => (i.kind ≠ .other → TI.ok P k i) ∧ rowsOk P (k + 1) r

theorem rowsOk_get {P : Program} : ∀ (l : List TI) (k t : Nat) (i : TI), rowsOk P k l → l[t]? = some i → i.kind ≠ .other → TI.ok P (k + t) i
  | [], k, t, i, _, h, _ => by simp at h
  | j :: r, k, 0, i, h, h2, h3 => by simp at h2; subst h2; exact h.1 h3
  | j :: r, k, t + 1, i, h, h2, h3 => by
    have := rowsOk_get r (k + 1) t i h.2 (by simpa using h2) h3
    rw [show k + (t + 1) = k + 1 + t by omega]; exact this

theorem row_1 : TI.ok Tryd.prog 1 (TT 1) := ⟨by kernel_rfl, by kernel_rfl, by kernel_rfl, by kernel_rfl, (by intro h; first | rfl | cases h), (by intro h; first | kernel_rfl | cases h)⟩
theorem row_2 : TI.ok Tryd.prog 2 (TT 2) := ⟨by kernel_rfl, by kernel_rfl, by kernel_rfl, by kernel_rfl, (by intro h; first | rfl | cases h), (by intro h; first | kernel_rfl | cases h)⟩
theorem row_3 : TI.ok Tryd.prog 3 (TT 3) := ⟨by kernel_rfl, by kernel_rfl, by kernel_rfl, by kernel_rfl, (by intro h; first | rfl | cases h), (by intro h; first | kernel_rfl | cases h)⟩
theorem row_4 : TI.ok Tryd.prog 4 (TT 4) := ⟨by kernel_rfl, by kernel_rfl, by kernel_rfl, by kernel_rfl, (by intro h; first | rfl | cases h), (by intro h; first | kernel_rfl | cases h)⟩
theorem row_5 : TI.ok Tryd.prog 5 (TT 5) := ⟨by kernel_rfl, by kernel_rfl, by kernel_rfl, by kernel_rfl, (by intro h; first | rfl | cases h), (by intro h; first | kernel_rfl | cases h)⟩
theorem row_6 : TI.ok Tryd.prog 6 (TT 6) := ⟨by kernel_rfl, by kernel_rfl, by kernel_rfl, by kernel_rfl, (by intro h; first | rfl | cases h), (by intro h; first | kernel_rfl | cases h)⟩
theorem row_7 : TI.ok Tryd.prog 7 (TT 7) := ⟨by kernel_rfl, by kernel_rfl, by kernel_rfl, by kernel_rfl, (by intro h; first | rfl | cases h), (by intro h; first | kernel_rfl | cases h)⟩
theorem row_8 : TI.ok Tryd.prog 8 (TT 8) := ⟨by kernel_rfl, by kernel_rfl, by kernel_rfl, by kernel_rfl, (by intro h; first | rfl | cases h), (by intro h; first | kernel_rfl | cases h)⟩
theorem row_9 : TI.ok Tryd.prog 9 (TT 9) := ⟨by kernel_rfl, by kernel_rfl, by kernel_rfl, by kernel_rfl, (by intro h; first | rfl | cases h), (by intro h; first | kernel_rfl | cases h)⟩
theorem row_10 : TI.ok Tryd.prog 10 (TT 10) := ⟨by kernel_rfl, by kernel_rfl, by kernel_rfl, by kernel_rfl, (by intro h; first | rfl | cases h), (by intro h; first | kernel_rfl | cases h)⟩
theorem row_11 : TI.ok Tryd.prog 11 (TT 11) := ⟨by kernel_rfl, by kernel_rfl, by kernel_rfl, by kernel_rfl, (by intro h; first | rfl | cases h), (by intro h; first | kernel_rfl | cases h)⟩
theorem row_12 : TI.ok Tryd.prog 12 (TT 12) := ⟨by kernel_rfl, by kernel_rfl, by kernel_rfl, by kernel_rfl, (by intro h; first | rfl | cases h), (by intro h; first | kernel_rfl | cases h)⟩
theorem row_15 : TI.ok Tryd.prog 15 (TT 15) := ⟨by kernel_rfl, by kernel_rfl, by kernel_rfl, by kernel_rfl, (by intro h; first | rfl | cases h), (by intro h; first | kernel_rfl | cases h)⟩
theorem row_16 : TI.ok Tryd.prog 16 (TT 16) := ⟨by kernel_rfl, by kernel_rfl, by kernel_rfl, by kernel_rfl, (by intro h; first | rfl | cases h), (by intro h; first | kernel_rfl | cases h)⟩
theorem row_17 : TI.ok Tryd.prog 17 (TT 17) := ⟨by kernel_rfl, by kernel_rfl, by kernel_rfl, by kernel_rfl, (by intro h; first | rfl | cases h), (by intro h; first | kernel_rfl | cases h)⟩
theorem row_20 : TI.ok Tryd.prog 20 (TT 20) := ⟨by kernel_rfl, by kernel_rfl, by kernel_rfl, by kernel_rfl, (by intro h; first | rfl | cases h), (by intro h; first | kernel_rfl | cases h)⟩
theorem row_21 : TI.ok Tryd.prog 21 (TT 21) := ⟨by kernel_rfl, by kernel_rfl, by kernel_rfl, by kernel_rfl, (by intro h; first | rfl | cases h), (by intro h; first | kernel_rfl | cases h)⟩
theorem row_22 : TI.ok Tryd.prog 22 (TT 22) := ⟨by kernel_rfl, by kernel_rfl, by kernel_rfl, by kernel_rfl, (by intro h; first | rfl | cases h), (by intro h; first | kernel_rfl | cases h)⟩
theorem row_23 : TI.ok Tryd.prog 23 (TT 23) := ⟨by kernel_rfl, by kernel_rfl, by kernel_rfl, by kernel_rfl, (by intro h; first | rfl | cases h), (by intro h; first | kernel_rfl | cases h)⟩
theorem row_24 : TI.ok Tryd.prog 24 (TT 24) := ⟨by kernel_rfl, by kernel_rfl, by kernel_rfl, by kernel_rfl, (by intro h; first | rfl | cases h), (by intro h; first | kernel_rfl | cases h)⟩
theorem row_25 : TI.ok Tryd.prog 25 (TT 25) := ⟨by kernel_rfl, by kernel_rfl, by kernel_rfl, by kernel_rfl, (by intro h; first | rfl | cases h), (by intro h; first | kernel_rfl | cases h)⟩
theorem row_26 : TI.ok Tryd.prog 26 (TT 26) := ⟨by kernel_rfl, by kernel_rfl, by kernel_rfl, by kernel_rfl, (by intro h; first | rfl | cases h), (by intro h; first | kernel_rfl | cases h)⟩
theorem row_27 : TI.ok Tryd.prog 27 (TT 27) := ⟨by kernel_rfl, by kernel_rfl, by kernel_rfl, by kernel_rfl, (by intro h; first | rfl | cases h), (by intro h; first | kernel_rfl | cases h)⟩
theorem row_29 : TI.ok Tryd.prog 29 (TT 29) := ⟨by kernel_rfl, by kernel_rfl, by kernel_rfl, by kernel_rfl, (by intro h; first | rfl | cases h), (by intro h; first | kernel_rfl | cases h)⟩
theorem row_31 : TI.ok Tryd.prog 31 (TT 31) := ⟨by kernel_rfl, by kernel_rfl, by kernel_rfl, by kernel_rfl, (by intro h; first | rfl | cases h), (by intro h; first | kernel_rfl | cases h)⟩
theorem row_32 : TI.ok Tryd.prog 32 (TT 32) := ⟨by kernel_rfl, by kernel_rfl, by kernel_rfl, by kernel_rfl, (by intro h; first | rfl | cases h), (by intro h; first | kernel_rfl | cases h)⟩
theorem row_33 : TI.ok Tryd.prog 33 (TT 33) := ⟨by kernel_rfl, by kernel_rfl, by kernel_rfl, by kernel_rfl, (by intro h; first | rfl | cases h), (by intro h; first | kernel_rfl | cases h)⟩
theorem row_34 : TI.ok Tryd.prog 34 (TT 34) := ⟨by kernel_rfl, by kernel_rfl, by kernel_rfl, by kernel_rfl, (by intro h; first | rfl | cases h), (by intro h; first | kernel_rfl | cases h)⟩
theorem row_35 : TI.ok Tryd.prog 35 (TT 35) := ⟨by kernel_rfl, by kernel_rfl, by kernel_rfl, by kernel_rfl, (by intro h; first | rfl | cases h), (by intro h; first | kernel_rfl | cases h)⟩
theorem row_36 : TI.ok Tryd.prog 36 (TT 36) := ⟨by kernel_rfl, by kernel_rfl, by kernel_rfl, by kernel_rfl, (by intro h; first | rfl | cases h), (by intro h; first | kernel_rfl | cases h)⟩
theorem row_37 : TI.ok Tryd.prog 37 (TT 37) := ⟨by kernel_rfl, by kernel_rfl, by kernel_rfl, by kernel_rfl, (by intro h; first | rfl | cases h), (by intro h; first | kernel_rfl | cases h)⟩
theorem row_38 : TI.ok Tryd.prog 38 (TT 38) := ⟨by kernel_rfl, by kernel_rfl, by kernel_rfl, by kernel_rfl, (by intro h; first | rfl | cases h), (by intro h; first | kernel_rfl | cases h)⟩
theorem row_39 : TI.ok Tryd.prog 39 (TT 39) := ⟨by kernel_rfl, by kernel_rfl, by kernel_rfl, by kernel_rfl, (by intro h; first | rfl | cases h), (by intro h; first | kernel_rfl | cases h)⟩
theorem row_40 : TI.ok Tryd.prog 40 (TT 40) := ⟨by kernel_rfl, by kernel_rfl, by kernel_rfl, by kernel_rfl, (by intro h; first | rfl | cases h), (by intro h; first | kernel_rfl | cases h)⟩
theorem row_41 : TI.ok Tryd.prog 41 (TT 41) := ⟨by kernel_rfl, by kernel_rfl, by kernel_rfl, by kernel_rfl, (by intro h; first | rfl | cases h), (by intro h; first | kernel_rfl | cases h)⟩
theorem row_42 : TI.ok Tryd.prog 42 (TT 42) := ⟨by kernel_rfl, by kernel_rfl, by kernel_rfl, by kernel_rfl, (by intro h; first | rfl | cases h), (by intro h; first | kernel_rfl | cases h)⟩
theorem row_43 : TI.ok Tryd.prog 43 (TT 43) := ⟨by kernel_rfl, by kernel_rfl, by kernel_rfl, by kernel_rfl, (by intro h; first | rfl | cases h), (by intro h; first | kernel_rfl | cases h)⟩
theorem row_44 : TI.ok Tryd.prog 44 (TT 44) := ⟨by kernel_rfl, by kernel_rfl, by kernel_rfl, by kernel_rfl, (by intro h; first | rfl | cases h), (by intro h; first | kernel_rfl | cases h)⟩
theorem row_45 : TI.ok Tryd.prog 45 (TT 45) := ⟨by kernel_rfl, by kernel_rfl, by kernel_rfl, by kernel_rfl, (by intro h; first | rfl | cases h), (by intro h; first | kernel_rfl | cases h)⟩
theorem row_46 : TI.ok Tryd.prog 46 (TT 46) := ⟨by kernel_rfl, by kernel_rfl, by kernel_rfl, by kernel_rfl, (by intro h; first | rfl | cases h), (by intro h; first | kernel_rfl | cases h)⟩
theorem row_47 : TI.ok Tryd.prog 47 (TT 47) := ⟨by kernel_rfl, by kernel_rfl, by kernel_rfl, by kernel_rfl, (by intro h; first | rfl | cases h), (by intro h; first | kernel_rfl | cases h)⟩
theorem row_48 : TI.ok Tryd.prog 48 (TT 48) := ⟨by kernel_rfl, by kernel_rfl, by kernel_rfl, by kernel_rfl, (by intro h; first | rfl | cases h), (by intro h; first | kernel_rfl | cases h)⟩
theorem row_49 : TI.ok Tryd.prog 49 (TT 49) := ⟨by kernel_rfl, by kernel_rfl, by kernel_rfl, by kernel_rfl, (by intro h; first | rfl | cases h), (by intro h; first | kernel_rfl | cases h)⟩
theorem row_50 : TI.ok Tryd.prog 50 (TT 50) := ⟨by kernel_rfl, by kernel_rfl, by kernel_rfl, by kernel_rfl, (by intro h; first | rfl | cases h), (by intro h; first | kernel_rfl | cases h)⟩
theorem row_51 : TI.ok Tryd.prog 51 (TT 51) := ⟨by kernel_rfl, by kernel_rfl, by kernel_rfl, by kernel_rfl, (by intro h; first | rfl | cases h), (by intro h; first | kernel_rfl | cases h)⟩
theorem row_52 : TI.ok Tryd.prog 52 (TT 52) := ⟨by kernel_rfl, by kernel_rfl, by kernel_rfl, by kernel_rfl, (by intro h; first | rfl | cases h), (by intro h; first | kernel_rfl | cases h)⟩
theorem row_53 : TI.ok Tryd.prog 53 (TT 53) := ⟨by kernel_rfl, by kernel_rfl, by kernel_rfl, by kernel_rfl, (by intro h; first | rfl | cases h), (by intro h; first | kernel_rfl | cases h)⟩
theorem row_54 : TI.ok Tryd.prog 54 (TT 54) := ⟨by kernel_rfl, by kernel_rfl, by kernel_rfl, by kernel_rfl, (by intro h; first | rfl | cases h), (by intro h; first | kernel_rfl | cases h)⟩
theorem row_55 : TI.ok Tryd.prog 55 (TT 55) := ⟨by kernel_rfl, by kernel_rfl, by kernel_rfl, by kernel_rfl, (by intro h; first | rfl | cases h), (by intro h; first | kernel_rfl | cases h)⟩
theorem row_56 : TI.ok Tryd.prog 56 (TT 56) := ⟨by kernel_rfl, by kernel_rfl, by kernel_rfl, by kernel_rfl, (by intro h; first | rfl | cases h), (by intro h; first | kernel_rfl | cases h)⟩
theorem row_57 : TI.ok Tryd.prog 57 (TT 57) := ⟨by kernel_rfl, by kernel_rfl, by kernel_rfl, by kernel_rfl, (by intro h; first | rfl | cases h), (by intro h; first | kernel_rfl | cases h)⟩
theorem row_58 : TI.ok Tryd.prog 58 (TT 58) := ⟨by kernel_rfl, by kernel_rfl, by kernel_rfl, by kernel_rfl, (by intro h; first | rfl | cases h), (by intro h; first | kernel_rfl | cases h)⟩
theorem row_59 : TI.ok Tryd.prog 59 (TT 59) := ⟨by kernel_rfl, by kernel_rfl, by kernel_rfl, by kernel_rfl, (by intro h; first | rfl | cases h), (by intro h; first | kernel_rfl | cases h)⟩
theorem row_60 : TI.ok Tryd.prog 60 (TT 60) := ⟨by kernel_rfl, by kernel_rfl, by kernel_rfl, by kernel_rfl, (by intro h; first | rfl | cases h), (by intro h; first | kernel_rfl | cases h)⟩
theorem row_61 : TI.ok Tryd.prog 61 (TT 61) := ⟨by kernel_rfl, by kernel_rfl, by kernel_rfl, by kernel_rfl, (by intro h; first | rfl | cases h), (by intro h; first | kernel_rfl | cases h)⟩
theorem row_62 : TI.ok Tryd.prog 62 (TT 62) := ⟨by kernel_rfl, by kernel_rfl, by kernel_rfl, by kernel_rfl, (by intro h; first | rfl | cases h), (by intro h; first | kernel_rfl | cases h)⟩
theorem row_63 : TI.ok Tryd.prog 63 (TT 63) := ⟨by kernel_rfl, by kernel_rfl, by kernel_rfl, by kernel_rfl, (by intro h; first | rfl | cases h), (by intro h; first | kernel_rfl | cases h)⟩
theorem row_64 : TI.ok Tryd.prog 64 (TT 64) := ⟨by kernel_rfl, by kernel_rfl, by kernel_rfl, by kernel_rfl, (by intro h; first | rfl | cases h), (by intro h; first | kernel_rfl | cases h)⟩
theorem row_65 : TI.ok Tryd.prog 65 (TT 65) := ⟨by kernel_rfl, by kernel_rfl, by kernel_rfl, by kernel_rfl, (by intro h; first | rfl | cases h), (by intro h; first | kernel_rfl | cases h)⟩
theorem row_66 : TI.ok Tryd.prog 66 (TT 66) := ⟨by kernel_rfl, by kernel_rfl, by kernel_rfl, by kernel_rfl, (by intro h; first | rfl | cases h), (by intro h; first | kernel_rfl | cases h)⟩
theorem row_67 : TI.ok Tryd.prog 67 (TT 67) := ⟨by kernel_rfl, by kernel_rfl, by kernel_rfl, by kernel_rfl, (by intro h; first | rfl | cases h), (by intro h; first | kernel_rfl | cases h)⟩
theorem row_68 : TI.ok Tryd.prog 68 (TT 68) := ⟨by kernel_rfl, by kernel_rfl, by kernel_rfl, by kernel_rfl, (by intro h; first | rfl | cases h), (by intro h; first | kernel_rfl | cases h)⟩
theorem row_69 : TI.ok Tryd.prog 69 (TT 69) := ⟨by kernel_rfl, by kernel_rfl, by kernel_rfl, by kernel_rfl, (by intro h; first | rfl | cases h), (by intro h; first | kernel_rfl | cases h)⟩
theorem row_70 : TI.ok Tryd.prog 70 (TT 70) := ⟨by kernel_rfl, by kernel_rfl, by kernel_rfl, by kernel_rfl, (by intro h; first | rfl | cases h), (by intro h; first | kernel_rfl | cases h)⟩
theorem row_71 : TI.ok Tryd.prog 71 (TT 71) := ⟨by kernel_rfl, by kernel_rfl, by kernel_rfl, by kernel_rfl, (by intro h; first | rfl | cases h), (by intro h; first | kernel_rfl | cases h)⟩
theorem row_72 : TI.ok Tryd.prog 72 (TT 72) := ⟨by kernel_rfl, by kernel_rfl, by kernel_rfl, by kernel_rfl, (by intro h; first | rfl | cases h), (by intro h; first | kernel_rfl | cases h)⟩
theorem row_76 : TI.ok Tryd.prog 76 (TT 76) := ⟨by kernel_rfl, by kernel_rfl, by kernel_rfl, by kernel_rfl, (by intro h; first | rfl | cases h), (by intro h; first | kernel_rfl | cases h)⟩
theorem row_77 : TI.ok Tryd.prog 77 (TT 77) := ⟨by kernel_rfl, by kernel_rfl, by kernel_rfl, by kernel_rfl, (by intro h; first | rfl | cases h), (by intro h; first | kernel_rfl | cases h)⟩
theorem row_78 : TI.ok Tryd.prog 78 (TT 78) := ⟨by kernel_rfl, by kernel_rfl, by kernel_rfl, by kernel_rfl, (by intro h; first | rfl | cases h), (by intro h; first | kernel_rfl | cases h)⟩
theorem row_79 : TI.ok Tryd.prog 79 (TT 79) := ⟨by kernel_rfl, by kernel_rfl, by kernel_rfl, by kernel_rfl, (by intro h; first | rfl | cases h), (by intro h; first | kernel_rfl | cases h)⟩
theorem row_80 : TI.ok Tryd.prog 80 (TT 80) := ⟨by kernel_rfl, by kernel_rfl, by kernel_rfl, by kernel_rfl, (by intro h; first | rfl | cases h), (by intro h; first | kernel_rfl | cases h)⟩
theorem row_81 : TI.ok Tryd.prog 81 (TT 81) := ⟨by kernel_rfl, by kernel_rfl, by kernel_rfl, by kernel_rfl, (by intro h; first | rfl | cases h), (by intro h; first | kernel_rfl | cases h)⟩
theorem row_83 : TI.ok Tryd.prog 83 (TT 83) := ⟨by kernel_rfl, by kernel_rfl, by kernel_rfl, by kernel_rfl, (by intro h; first | rfl | cases h), (by intro h; first | kernel_rfl | cases h)⟩
theorem row_84 : TI.ok Tryd.prog 84 (TT 84) := ⟨by kernel_rfl, by kernel_rfl, by kernel_rfl, by kernel_rfl, (by intro h; first | rfl | cases h), (by intro h; first | kernel_rfl | cases h)⟩
theorem row_85 : TI.ok Tryd.prog 85 (TT 85) := ⟨by kernel_rfl, by kernel_rfl, by kernel_rfl, by kernel_rfl, (by intro h; first | rfl | cases h), (by intro h; first | kernel_rfl | cases h)⟩
theorem row_86 : TI.ok Tryd.prog 86 (TT 86) := ⟨by kernel_rfl, by kernel_rfl, by kernel_rfl, by kernel_rfl, (by intro h; first | rfl | cases h), (by intro h; first | kernel_rfl | cases h)⟩
theorem row_87 : TI.ok Tryd.prog 87 (TT 87) := ⟨by kernel_rfl, by kernel_rfl, by kernel_rfl, by kernel_rfl, (by intro h; first | rfl | cases h), (by intro h; first | kernel_rfl | cases h)⟩
theorem row_88 : TI.ok Tryd.prog 88 (TT 88) := ⟨by kernel_rfl, by kernel_rfl, by kernel_rfl, by kernel_rfl, (by intro h; first | rfl | cases h), (by intro h; first | kernel_rfl | cases h)⟩
theorem row_89 : TI.ok Tryd.prog 89 (TT 89) := ⟨by kernel_rfl, by kernel_rfl, by kernel_rfl, by kernel_rfl, (by intro h; first | rfl | cases h), (by intro h; first | kernel_rfl | cases h)⟩
theorem row_90 : TI.ok Tryd.prog 90 (TT 90) := ⟨by kernel_rfl, by kernel_rfl, by kernel_rfl, by kernel_rfl, (by intro h; first | rfl | cases h), (by intro h; first | kernel_rfl | cases h)⟩
theorem row_91 : TI.ok Tryd.prog 91 (TT 91) := ⟨by kernel_rfl, by kernel_rfl, by kernel_rfl, by kernel_rfl, (by intro h; first | rfl | cases h), (by intro h; first | kernel_rfl | cases h)⟩
theorem row_92 : TI.ok Tryd.prog 92 (TT 92) := ⟨by kernel_rfl, by kernel_rfl, by kernel_rfl, by kernel_rfl, (by intro h; first | rfl | cases h), (by intro h; first | kernel_rfl | cases h)⟩
theorem row_94 : TI.ok Tryd.prog 94 (TT 94) := ⟨by kernel_rfl, by kernel_rfl, by kernel_rfl, by kernel_rfl, (by intro h; first | rfl | cases h), (by intro h; first | kernel_rfl | cases h)⟩
theorem row_95 : TI.ok Tryd.prog 95 (TT 95) := ⟨by kernel_rfl, by kernel_rfl, by kernel_rfl, by kernel_rfl, (by intro h; first | rfl | cases h), (by intro h; first | kernel_rfl | cases h)⟩
theorem row_96 : TI.ok Tryd.prog 96 (TT 96) := ⟨by kernel_rfl, by kernel_rfl, by kernel_rfl, by kernel_rfl, (by intro h; first | rfl | cases h), (by intro h; first | kernel_rfl | cases h)⟩
theorem row_97 : TI.ok Tryd.prog 97 (TT 97) := ⟨by kernel_rfl, by kernel_rfl, by kernel_rfl, by kernel_rfl, (by intro h; first | rfl | cases h), (by intro h; first | kernel_rfl | cases h)⟩
theorem row_98 : TI.ok Tryd.prog 98 (TT 98) := ⟨by kernel_rfl, by kernel_rfl, by kernel_rfl, by kernel_rfl, (by intro h; first | rfl | cases h), (by intro h; first | kernel_rfl | cases h)⟩
theorem row_99 : TI.ok Tryd.prog 99 (TT 99) := ⟨by kernel_rfl, by kernel_rfl, by kernel_rfl, by kernel_rfl, (by intro h; first | rfl | cases h), (by intro h; first | kernel_rfl | cases h)⟩
theorem row_100 : TI.ok Tryd.prog 100 (TT 100) := ⟨by kernel_rfl, by kernel_rfl, by kernel_rfl, by kernel_rfl, (by intro h; first | rfl | cases h), (by intro h; first | kernel_rfl | cases h)⟩
theorem row_102 : TI.ok Tryd.prog 102 (TT 102) := ⟨by kernel_rfl, by kernel_rfl, by kernel_rfl, by kernel_rfl, (by intro h; first | rfl | cases h), (by intro h; first | kernel_rfl | cases h)⟩
theorem row_103 : TI.ok Tryd.prog 103 (TT 103) := ⟨by kernel_rfl, by kernel_rfl, by kernel_rfl, by kernel_rfl, (by intro h; first | rfl | cases h), (by intro h; first | kernel_rfl | cases h)⟩
theorem row_105 : TI.ok Tryd.prog 105 (TT 105) := ⟨by kernel_rfl, by kernel_rfl, by kernel_rfl, by kernel_rfl, (by intro h; first | rfl | cases h), (by intro h; first | kernel_rfl | cases h)⟩
theorem row_106 : TI.ok Tryd.prog 106 (TT 106) := ⟨by kernel_rfl, by kernel_rfl, by kernel_rfl, by kernel_rfl, (by intro h; first | rfl | cases h), (by intro h; first | kernel_rfl | cases h)⟩
theorem row_107 : TI.ok Tryd.prog 107 (TT 107) := ⟨by kernel_rfl, by kernel_rfl, by kernel_rfl, by kernel_rfl, (by intro h; first | rfl | cases h), (by intro h; first | kernel_rfl | cases h)⟩
theorem row_108 : TI.ok Tryd.prog 108 (TT 108) := ⟨by kernel_rfl, by kernel_rfl, by kernel_rfl, by kernel_rfl, (by intro h; first | rfl | cases h), (by intro h; first | kernel_rfl | cases h)⟩
theorem row_109 : TI.ok Tryd.prog 109 (TT 109) := ⟨by kernel_rfl, by kernel_rfl, by kernel_rfl, by kernel_rfl, (by intro h; first | rfl | cases h), (by intro h; first | kernel_rfl | cases h)⟩
theorem row_110 : TI.ok Tryd.prog 110 (TT 110) := ⟨by kernel_rfl, by kernel_rfl, by kernel_rfl, by kernel_rfl, (by intro h; first | rfl | cases h), (by intro h; first | kernel_rfl | cases h)⟩
theorem row_111 : TI.ok Tryd.prog 111 (TT 111) := ⟨by kernel_rfl, by kernel_rfl, by kernel_rfl, by kernel_rfl, (by intro h; first | rfl | cases h), (by intro h; first | kernel_rfl | cases h)⟩
theorem row_112 : TI.ok Tryd.prog 112 (TT 112) := ⟨by kernel_rfl, by kernel_rfl, by kernel_rfl, by kernel_rfl, (by intro h; first | rfl | cases h), (by intro h; first | kernel_rfl | cases h)⟩
theorem row_113 : TI.ok Tryd.prog 113 (TT 113) := ⟨by kernel_rfl, by kernel_rfl, by kernel_rfl, by kernel_rfl, (by intro h; first | rfl | cases h), (by intro h; first | kernel_rfl | cases h)⟩
theorem row_114 : TI.ok Tryd.prog 114 (TT 114) := ⟨by kernel_rfl, by kernel_rfl, by kernel_rfl, by kernel_rfl, (by intro h; first | rfl | cases h), (by intro h; first | kernel_rfl | cases h)⟩
theorem row_115 : TI.ok Tryd.prog 115 (TT 115) := ⟨by kernel_rfl, by kernel_rfl, by kernel_rfl, by kernel_rfl, (by intro h; first | rfl | cases h), (by intro h; first | kernel_rfl | cases h)⟩
theorem row_116 : TI.ok Tryd.prog 116 (TT 116) := ⟨by kernel_rfl, by kernel_rfl, by kernel_rfl, by kernel_rfl, (by intro h; first | rfl | cases h), (by intro h; first | kernel_rfl | cases h)⟩
theorem row_117 : TI.ok Tryd.prog 117 (TT 117) := ⟨by kernel_rfl, by kernel_rfl, by kernel_rfl, by kernel_rfl, (by intro h; first | rfl | cases h), (by intro h; first | kernel_rfl | cases h)⟩
theorem row_118 : TI.ok Tryd.prog 118 (TT 118) := ⟨by kernel_rfl, by kernel_rfl, by kernel_rfl, by kernel_rfl, (by intro h; first | rfl | cases h), (by intro h; first | kernel_rfl | cases h)⟩
theorem row_119 : TI.ok Tryd.prog 119 (TT 119) := ⟨by kernel_rfl, by kernel_rfl, by kernel_rfl, by kernel_rfl, (by intro h; first | rfl | cases h), (by intro h; first | kernel_rfl | cases h)⟩
theorem row_120 : TI.ok Tryd.prog 120 (TT 120) := ⟨by kernel_rfl, by kernel_rfl, by kernel_rfl, by kernel_rfl, (by intro h; first | rfl | cases h), (by intro h; first | kernel_rfl | cases h)⟩
theorem row_121 : TI.ok Tryd.prog 121 (TT 121) := ⟨by kernel_rfl, by kernel_rfl, by kernel_rfl, by kernel_rfl, (by intro h; first | rfl | cases h), (by intro h; first | kernel_rfl | cases h)⟩
theorem row_122 : TI.ok Tryd.prog 122 (TT 122) := ⟨by kernel_rfl, by kernel_rfl, by kernel_rfl, by kernel_rfl, (by intro h; first | rfl | cases h), (by intro h; first | kernel_rfl | cases h)⟩
theorem row_124 : TI.ok Tryd.prog 124 (TT 124) := ⟨by kernel_rfl, by kernel_rfl, by kernel_rfl, by kernel_rfl, (by intro h; first | rfl | cases h), (by intro h; first | kernel_rfl | cases h)⟩
theorem row_125 : TI.ok Tryd.prog 125 (TT 125) := ⟨by kernel_rfl, by kernel_rfl, by kernel_rfl, by kernel_rfl, (by intro h; first | rfl | cases h), (by intro h; first | kernel_rfl | cases h)⟩
theorem row_127 : TI.ok Tryd.prog 127 (TT 127) := ⟨by kernel_rfl, by kernel_rfl, by kernel_rfl, by kernel_rfl, (by intro h; first | rfl | cases h), (by intro h; first | kernel_rfl | cases h)⟩
theorem row_128 : TI.ok Tryd.prog 128 (TT 128) := ⟨by kernel_rfl, by kernel_rfl, by kernel_rfl, by kernel_rfl, (by intro h; first | rfl | cases h), (by intro h; first | kernel_rfl | cases h)⟩
theorem row_130 : TI.ok Tryd.prog 130 (TT 130) := ⟨by kernel_rfl, by kernel_rfl, by kernel_rfl, by kernel_rfl, (by intro h; first | rfl | cases h), (by intro h; first | kernel_rfl | cases h)⟩
theorem row_131 : TI.ok Tryd.prog 131 (TT 131) := ⟨by kernel_rfl, by kernel_rfl, by kernel_rfl, by kernel_rfl, (by intro h; first | rfl | cases h), (by intro h; first | kernel_rfl | cases h)⟩
theorem row_132 : TI.ok Tryd.prog 132 (TT 132) := ⟨by kernel_rfl, by kernel_rfl, by kernel_rfl, by kernel_rfl, (by intro h; first | rfl | cases h), (by intro h; first | kernel_rfl | cases h)⟩
theorem row_133 : TI.ok Tryd.prog 133 (TT 133) := ⟨by kernel_rfl, by kernel_rfl, by kernel_rfl, by kernel_rfl, (by intro h; first | rfl | cases h), (by intro h; first | kernel_rfl | cases h)⟩
theorem row_135 : TI.ok Tryd.prog 135 (TT 135) := ⟨by kernel_rfl, by kernel_rfl, by kernel_rfl, by kernel_rfl, (by intro h; first | rfl | cases h), (by intro h; first | kernel_rfl | cases h)⟩
theorem row_137 : TI.ok Tryd.prog 137 (TT 137) := ⟨by kernel_rfl, by kernel_rfl, by kernel_rfl, by kernel_rfl, (by intro h; first | rfl | cases h), (by intro h; first | kernel_rfl | cases h)⟩
theorem row_138 : TI.ok Tryd.prog 138 (TT 138) := ⟨by kernel_rfl, by kernel_rfl, by kernel_rfl, by kernel_rfl, (by intro h; first | rfl | cases h), (by intro h; first | kernel_rfl | cases h)⟩
theorem row_139 : TI.ok Tryd.prog 139 (TT 139) := ⟨by kernel_rfl, by kernel_rfl, by kernel_rfl, by kernel_rfl, (by intro h; first | rfl | cases h), (by intro h; first | kernel_rfl | cases h)⟩
theorem row_140 : TI.ok Tryd.prog 140 (TT 140) := ⟨by kernel_rfl, by kernel_rfl, by kernel_rfl, by kernel_rfl, (by intro h; first | rfl | cases h), (by intro h; first | kernel_rfl | cases h)⟩
theorem row_141 : TI.ok Tryd.prog 141 (TT 141) := ⟨by kernel_rfl, by kernel_rfl, by kernel_rfl, by kernel_rfl, (by intro h; first | rfl | cases h), (by intro h; first | kernel_rfl | cases h)⟩
theorem row_143 : TI.ok Tryd.prog 143 (TT 143) := ⟨by kernel_rfl, by kernel_rfl, by kernel_rfl, by kernel_rfl, (by intro h; first | rfl | cases h), (by intro h; first | kernel_rfl | cases h)⟩
theorem row_144 : TI.ok Tryd.prog 144 (TT 144) := ⟨by kernel_rfl, by kernel_rfl, by kernel_rfl, by kernel_rfl, (by intro h; first | rfl | cases h), (by intro h; first | kernel_rfl | cases h)⟩
theorem row_145 : TI.ok Tryd.prog 145 (TT 145) := ⟨by kernel_rfl, by kernel_rfl, by kernel_rfl, by kernel_rfl, (by intro h; first | rfl | cases h), (by intro h; first | kernel_rfl | cases h)⟩
theorem row_146 : TI.ok Tryd.prog 146 (TT 146) := ⟨by kernel_rfl, by kernel_rfl, by kernel_rfl, by kernel_rfl, (by intro h; first | rfl | cases h), (by intro h; first | kernel_rfl | cases h)⟩
theorem row_147 : TI.ok Tryd.prog 147 (TT 147) := ⟨by kernel_rfl, by kernel_rfl, by kernel_rfl, by kernel_rfl, (by intro h; first | rfl | cases h), (by intro h; first | kernel_rfl | cases h)⟩
theorem row_150 : TI.ok Tryd.prog 150 (TT 150) := ⟨by kernel_rfl, by kernel_rfl, by kernel_rfl, by kernel_rfl, (by intro h; first | rfl | cases h), (by intro h; first | kernel_rfl | cases h)⟩
theorem row_151 : TI.ok Tryd.prog 151 (TT 151) := ⟨by kernel_rfl, by kernel_rfl, by kernel_rfl, by kernel_rfl, (by intro h; first | rfl | cases h), (by intro h; first | kernel_rfl | cases h)⟩
theorem row_154 : TI.ok Tryd.prog 154 (TT 154) := ⟨by kernel_rfl, by kernel_rfl, by kernel_rfl, by kernel_rfl, (by intro h; first | rfl | cases h), (by intro h; first | kernel_rfl | cases h)⟩
theorem row_155 : TI.ok Tryd.prog 155 (TT 155) := ⟨by kernel_rfl, by kernel_rfl, by kernel_rfl, by kernel_rfl, (by intro h; first | rfl | cases h), (by intro h; first | kernel_rfl | cases h)⟩
theorem row_156 : TI.ok Tryd.prog 156 (TT 156) := ⟨by kernel_rfl, by kernel_rfl, by kernel_rfl, by kernel_rfl, (by intro h; first | rfl | cases h), (by intro h; first | kernel_rfl | cases h)⟩
theorem row_157 : TI.ok Tryd.prog 157 (TT 157) := ⟨by kernel_rfl, by kernel_rfl, by kernel_rfl, by kernel_rfl, (by intro h; first | rfl | cases h), (by intro h; first | kernel_rfl | cases h)⟩
theorem row_163 : TI.ok Tryd.prog 163 (TT 163) := ⟨by kernel_rfl, by kernel_rfl, by kernel_rfl, by kernel_rfl, (by intro h; first | rfl | cases h), (by intro h; first | kernel_rfl | cases h)⟩
theorem row_164 : TI.ok Tryd.prog 164 (TT 164) := ⟨by kernel_rfl, by kernel_rfl, by kernel_rfl, by kernel_rfl, (by intro h; first | rfl | cases h), (by intro h; first | kernel_rfl | cases h)⟩
theorem row_165 : TI.ok Tryd.prog 165 (TT 165) := ⟨by kernel_rfl, by kernel_rfl, by kernel_rfl, by kernel_rfl, (by intro h; first | rfl | cases h), (by intro h; first | kernel_rfl | cases h)⟩
theorem row_166 : TI.ok Tryd.prog 166 (TT 166) := ⟨by kernel_rfl, by kernel_rfl, by kernel_rfl, by kernel_rfl, (by intro h; first | rfl | cases h), (by intro h; first | kernel_rfl | cases h)⟩
theorem row_167 : TI.ok Tryd.prog 167 (TT 167) := ⟨by kernel_rfl, by kernel_rfl, by kernel_rfl, by kernel_rfl, (by intro h; first | rfl | cases h), (by intro h; first | kernel_rfl | cases h)⟩

set_option maxRecDepth 100000 in
theorem rows_ok : rowsOk Tryd.prog 0 tab := by
  refine ⟨fun h => absurd rfl h, fun _ => row_1, fun _ => row_2, fun _ => row_3, fun _ => row_4, fun _ => row_5, fun _ => row_6, fun _ => row_7, fun _ => row_8, fun _ => row_9, fun _ => row_10, fun _ => row_11, fun _ => row_12, fun h => absurd rfl h, fun h => absurd rfl h, fun _ => row_15, fun _ => row_16, fun _ => row_17, fun h => absurd rfl h, fun h => absurd rfl h, fun _ => row_20, fun _ => row_21, fun _ => row_22, fun _ => row_23, fun _ => row_24, fun _ => row_25, fun _ => row_26, fun _ => row_27, fun h => absurd rfl h, fun _ => row_29, fun h => absurd rfl h, fun _ => row_31, fun _ => row_32, fun _ => row_33, fun _ => row_34, fun _ => row_35, fun _ => row_36, fun _ => row_37, fun _ => row_38, fun _ => row_39, fun _ => row_40, fun _ => row_41, fun _ => row_42, fun _ => row_43, fun _ => row_44, fun _ => row_45, fun _ => row_46, fun _ => row_47, fun _ => row_48, fun _ => row_49, fun _ => row_50, fun _ => row_51, fun _ => row_52, fun _ => row_53, fun _ => row_54, fun _ => row_55, fun _ => row_56, fun _ => row_57, fun _ => row_58, fun _ => row_59, fun _ => row_60, fun _ => row_61, fun _ => row_62, fun _ => row_63, fun _ => row_64, fun _ => row_65, fun _ => row_66, fun _ => row_67, fun _ => row_68, fun _ => row_69, fun _ => row_70, fun _ => row_71, fun _ => row_72, fun h => absurd rfl h, fun h => absurd rfl h, fun h => absurd rfl h, fun _ => row_76, fun _ => row_77, fun _ => row_78, fun _ => row_79, fun _ => row_80, fun _ => row_81, fun h => absurd rfl h, fun _ => row_83, fun _ => row_84, fun _ => row_85, fun _ => row_86, fun _ => row_87, fun _ => row_88, fun _ => row_89, fun _ => row_90, fun _ => row_91, fun _ => row_92, fun h => absurd rfl h, fun _ => row_94, fun _ => row_95, fun _ => row_96, fun _ => row_97, fun _ => row_98, fun _ => row_99, fun _ => row_100, fun h => absurd rfl h, fun _ => row_102, fun _ => row_103, fun h => absurd rfl h, fun _ => row_105, fun _ => row_106, fun _ => row_107, fun _ => row_108, fun _ => row_109, fun _ => row_110, fun _ => row_111, fun _ => row_112, fun _ => row_113, fun _ => row_114, fun _ => row_115, fun _ => row_116, fun _ => row_117, fun _ => row_118, fun _ => row_119, fun _ => row_120, fun _ => row_121, fun _ => row_122, fun h => absurd rfl h, fun _ => row_124, fun _ => row_125, fun h => absurd rfl h, fun _ => row_127, fun _ => row_128, fun h => absurd rfl h, fun _ => row_130, fun _ => row_131, fun _ => row_132, fun _ => row_133, fun h => absurd rfl h, fun _ => row_135, fun h => absurd rfl h, fun _ => row_137, fun _ => row_138, fun _ => row_139, fun _ => row_140, fun _ => row_141, fun h => absurd rfl h, fun _ => row_143, fun _ => row_144, fun _ => row_145, fun _ => row_146, fun _ => row_147, fun h => absurd rfl h, fun h => absurd rfl h, fun _ => row_150, fun _ => row_151, fun h => absurd rfl h, fun h => absurd rfl h, fun _ => row_154, fun _ => row_155, fun _ => row_156, fun _ => row_157, fun h => absurd rfl h, fun h => absurd rfl h, fun h => absurd rfl h, fun h => absurd rfl h, fun h => absurd rfl h, fun _ => row_163, fun _ => row_164, fun _ => row_165, fun _ => row_166, fun _ => row_167, fun h => absurd rfl h, fun h => absurd rfl h, trivial⟩

theorem gwTT :
    (TT 1 = ⟨.func, 1, 8, [.nilf]⟩) ∧
    (TT 2 = ⟨.int .i64, 1, 8, [.int .i64 0]⟩) ∧
    (TT 3 = ⟨.int .i64, 1, 8, [.int .i64 0]⟩) ∧
    (TT 4 = ⟨.bool, 1, 1, [.bool false]⟩) ∧
    (TT 5 = ⟨.int .u8, 1, 1, [.int .u8 0]⟩) ∧
    (TT 6 = ⟨.int .u8, 1, 1, [.int .u8 0]⟩) ∧
    (TT 7 = ⟨.struct [(0, 2), (1, 3), (2, 4), (3, 6)], 4, 24, [.int .i64 0, .int .i64 0, .bool false, .int .u8 0]⟩) ∧
    (TT 8 = ⟨.struct [(0, 2), (1, 3), (2, 4), (3, 6)], 4, 24, [.int .i64 0, .int .i64 0, .bool false, .int .u8 0]⟩) ∧
    (TT 9 = ⟨.str, 1, 16, [.str []]⟩) ∧
    (TT 10 = ⟨.str, 1, 16, [.str []]⟩) ∧
    (TT 11 = ⟨.str, 1, 16, [.str []]⟩) ∧
    (TT 12 = ⟨.int .u64, 1, 8, [.int .u64 0]⟩) ∧
    (TT 15 = ⟨.ptr 159, 1, 8, [.nilp]⟩) ∧
    (TT 16 = ⟨.ptr 162, 1, 8, [.nilp]⟩) ∧
    (TT 17 = ⟨.ptr 169, 1, 8, [.nilp]⟩) ∧
    (TT 20 = ⟨.iface, 1, 16, [.nili]⟩) ∧
    (TT 21 = ⟨.int .i32, 1, 4, [.int .i32 0]⟩) ∧
    (TT 22 = ⟨.slice 48, 1, 24, [.nils]⟩) ∧
    (TT 23 = ⟨.struct [(0, 9), (1, 22)], 2, 40, [.str [], .nils]⟩) ∧
    (TT 24 = ⟨.struct [(0, 9), (1, 22)], 2, 40, [.str [], .nils]⟩) ∧
    (TT 25 = ⟨.slice 5, 1, 24, [.nils]⟩) ∧
    (TT 26 = ⟨.func, 1, 8, [.nilf]⟩) ∧
    (TT 27 = ⟨.int .i64, 1, 8, [.int .i64 0]⟩) ∧
    (TT 29 = ⟨.func, 1, 8, [.nilf]⟩) ∧
    (TT 31 = ⟨.func, 1, 8, [.nilf]⟩) ∧
    (TT 32 = ⟨.func, 1, 8, [.nilf]⟩) ∧
    (TT 33 = ⟨.func, 1, 8, [.nilf]⟩) ∧
    (TT 34 = ⟨.func, 1, 8, [.nilf]⟩) ∧
    (TT 35 = ⟨.func, 1, 8, [.nilf]⟩) ∧
    (TT 36 = ⟨.func, 1, 8, [.nilf]⟩) ∧
    (TT 37 = ⟨.func, 1, 8, [.nilf]⟩) ∧
    (TT 38 = ⟨.ptr 43, 1, 8, [.nilp]⟩) ∧
    (TT 39 = ⟨.ptr 41, 1, 8, [.nilp]⟩) ∧
    (TT 40 = ⟨.struct [(0, 39), (1, 25)], 2, 32, [.nilp, .nils]⟩) ∧
    (TT 41 = ⟨.struct [(0, 39), (1, 25)], 2, 32, [.nilp, .nils]⟩) ∧
    (TT 42 = ⟨.struct [(0, 41)], 2, 32, [.nilp, .nils]⟩) ∧
    (TT 43 = ⟨.struct [(0, 41)], 2, 32, [.nilp, .nils]⟩) ∧
    (TT 44 = ⟨.func, 1, 8, [.nilf]⟩) ∧
    (TT 45 = ⟨.func, 1, 8, [.nilf]⟩) ∧
    (TT 46 = ⟨.slice 55, 1, 24, [.nils]⟩) ∧
    (TT 47 = ⟨.struct [(0, 3), (1, 46)], 2, 32, [.int .i64 0, .nils]⟩) ∧
    (TT 48 = ⟨.struct [(0, 3), (1, 46)], 2, 32, [.int .i64 0, .nils]⟩) ∧
    (TT 49 = ⟨.func, 1, 8, [.nilf]⟩) ∧
    (TT 50 = ⟨.ptr 55, 1, 8, [.nilp]⟩) ∧
    (TT 51 = ⟨.slice 53, 1, 24, [.nils]⟩) ∧
    (TT 52 = ⟨.struct [(0, 3), (1, 2), (2, 9), (3, 3), (4, 3), (5, 51)], 6, 72, [.int .i64 0, .int .i64 0, .str [], .int .i64 0, .int .i64 0, .nils]⟩) ∧
    (TT 53 = ⟨.struct [(0, 3), (1, 2), (2, 9), (3, 3), (4, 3), (5, 51)], 6, 72, [.int .i64 0, .int .i64 0, .str [], .int .i64 0, .int .i64 0, .nils]⟩) ∧
    (TT 54 = ⟨.struct [(0, 3), (1, 3), (2, 2), (3, 9), (4, 9), (5, 53)], 11, 128, [.int .i64 0, .int .i64 0, .int .i64 0, .str [], .str [], .int .i64 0, .int .i64 0, .str [], .int .i64 0, .int .i64 0, .nils]⟩) ∧
    (TT 55 = ⟨.struct [(0, 3), (1, 3), (2, 2), (3, 9), (4, 9), (5, 53)], 11, 128, [.int .i64 0, .int .i64 0, .int .i64 0, .str [], .str [], .int .i64 0, .int .i64 0, .str [], .int .i64 0, .int .i64 0, .nils]⟩) ∧
    (TT 56 = ⟨.func, 1, 8, [.nilf]⟩) ∧
    (TT 57 = ⟨.func, 1, 8, [.nilf]⟩) ∧
    (TT 58 = ⟨.ptr 60, 1, 8, [.nilp]⟩) ∧
    (TT 59 = ⟨.struct [(0, 9), (1, 4)], 2, 24, [.str [], .bool false]⟩) ∧
    (TT 60 = ⟨.struct [(0, 9), (1, 4)], 2, 24, [.str [], .bool false]⟩) ∧
    (TT 61 = ⟨.func, 1, 8, [.nilf]⟩) ∧
    (TT 62 = ⟨.func, 1, 8, [.nilf]⟩) ∧
    (TT 63 = ⟨.func, 1, 8, [.nilf]⟩) ∧
    (TT 64 = ⟨.func, 1, 8, [.nilf]⟩) ∧
    (TT 65 = ⟨.func, 1, 8, [.nilf]⟩) ∧
    (TT 66 = ⟨.func, 1, 8, [.nilf]⟩) ∧
    (TT 67 = ⟨.func, 1, 8, [.nilf]⟩) ∧
    (TT 68 = ⟨.ptr 71, 1, 8, [.nilp]⟩) ∧
    (TT 69 = ⟨.slice 3, 1, 24, [.nils]⟩) ∧
    (TT 70 = ⟨.struct [(0, 22), (1, 69), (2, 3)], 3, 56, [.nils, .nils, .int .i64 0]⟩) ∧
    (TT 71 = ⟨.struct [(0, 22), (1, 69), (2, 3)], 3, 56, [.nils, .nils, .int .i64 0]⟩) ∧
    (TT 72 = ⟨.func, 1, 8, [.nilf]⟩) ∧
    (TT 76 = ⟨.func, 1, 8, [.nilf]⟩) ∧
    (TT 77 = ⟨.int .u64, 1, 8, [.int .u64 0]⟩) ∧
    (TT 78 = ⟨.int .u64, 1, 8, [.int .u64 0]⟩) ∧
    (TT 79 = ⟨.func, 1, 8, [.nilf]⟩) ∧
    (TT 80 = ⟨.struct [(0, 27), (1, 3)], 2, 16, [.int .i64 0, .int .i64 0]⟩) ∧
    (TT 81 = ⟨.struct [(0, 27), (1, 3)], 2, 16, [.int .i64 0, .int .i64 0]⟩) ∧
    (TT 83 = ⟨.func, 1, 8, [.nilf]⟩) ∧
    (TT 84 = ⟨.ptr 5, 1, 8, [.nilp]⟩) ∧
    (TT 85 = ⟨.func, 1, 8, [.nilf]⟩) ∧
    (TT 86 = ⟨.func, 1, 8, [.nilf]⟩) ∧
    (TT 87 = ⟨.func, 1, 8, [.nilf]⟩) ∧
    (TT 88 = ⟨.func, 1, 8, [.nilf]⟩) ∧
    (TT 89 = ⟨.func, 1, 8, [.nilf]⟩) ∧
    (TT 90 = ⟨.func, 1, 8, [.nilf]⟩) ∧
    (TT 91 = ⟨.func, 1, 8, [.nilf]⟩) ∧
    (TT 92 = ⟨.ptr 53, 1, 8, [.nilp]⟩) ∧
    (TT 94 = ⟨.func, 1, 8, [.nilf]⟩) ∧
    (TT 95 = ⟨.func, 1, 8, [.nilf]⟩) ∧
    (TT 96 = ⟨.func, 1, 8, [.nilf]⟩) ∧
    (TT 97 = ⟨.func, 1, 8, [.nilf]⟩) ∧
    (TT 98 = ⟨.slice 9, 1, 24, [.nils]⟩) ∧
    (TT 99 = ⟨.func, 1, 8, [.nilf]⟩) ∧
    (TT 100 = ⟨.func, 1, 8, [.nilf]⟩) ∧
    (TT 102 = ⟨.func, 1, 8, [.nilf]⟩) ∧
    (TT 103 = ⟨.func, 1, 8, [.nilf]⟩) ∧
    (TT 105 = ⟨.func, 1, 8, [.nilf]⟩) ∧
    (TT 106 = ⟨.ptr 108, 1, 8, [.nilp]⟩) ∧
    (TT 107 = ⟨.struct [(0, 3)], 1, 8, [.int .i64 0]⟩) ∧
    (TT 108 = ⟨.struct [(0, 3)], 1, 8, [.int .i64 0]⟩) ∧
    (TT 109 = ⟨.func, 1, 8, [.nilf]⟩) ∧
    (TT 110 = ⟨.func, 1, 8, [.nilf]⟩) ∧
    (TT 111 = ⟨.struct [(0, 81)], 2, 16, [.int .i64 0, .int .i64 0]⟩) ∧
    (TT 112 = ⟨.struct [(0, 81)], 2, 16, [.int .i64 0, .int .i64 0]⟩) ∧
    (TT 113 = ⟨.ptr 115, 1, 8, [.nilp]⟩) ∧
    (TT 114 = ⟨.struct [(0, 9), (1, 3), (2, 3)], 3, 32, [.str [], .int .i64 0, .int .i64 0]⟩) ∧
    (TT 115 = ⟨.struct [(0, 9), (1, 3), (2, 3)], 3, 32, [.str [], .int .i64 0, .int .i64 0]⟩) ∧
    (TT 116 = ⟨.func, 1, 8, [.nilf]⟩) ∧
    (TT 117 = ⟨.func, 1, 8, [.nilf]⟩) ∧
    (TT 118 = ⟨.func, 1, 8, [.nilf]⟩) ∧
    (TT 119 = ⟨.func, 1, 8, [.nilf]⟩) ∧
    (TT 120 = ⟨.func, 1, 8, [.nilf]⟩) ∧
    (TT 121 = ⟨.func, 1, 8, [.nilf]⟩) ∧
    (TT 122 = ⟨.func, 1, 8, [.nilf]⟩) ∧
    (TT 124 = ⟨.func, 1, 8, [.nilf]⟩) ∧
    (TT 125 = ⟨.func, 1, 8, [.nilf]⟩) ∧
    (TT 127 = ⟨.func, 1, 8, [.nilf]⟩) ∧
    (TT 128 = ⟨.func, 1, 8, [.nilf]⟩) ∧
    (TT 130 = ⟨.func, 1, 8, [.nilf]⟩) ∧
    (TT 131 = ⟨.func, 1, 8, [.nilf]⟩) ∧
    (TT 132 = ⟨.func, 1, 8, [.nilf]⟩) ∧
    (TT 133 = ⟨.func, 1, 8, [.nilf]⟩) ∧
    (TT 135 = ⟨.int .u32, 1, 4, [.int .u32 0]⟩) ∧
    (TT 137 = ⟨.func, 1, 8, [.nilf]⟩) ∧
    (TT 138 = ⟨.func, 1, 8, [.nilf]⟩) ∧
    (TT 139 = ⟨.func, 1, 8, [.nilf]⟩) ∧
    (TT 140 = ⟨.func, 1, 8, [.nilf]⟩) ∧
    (TT 141 = ⟨.int .i64, 1, 8, [.int .i64 0]⟩) ∧
    (TT 143 = ⟨.func, 1, 8, [.nilf]⟩) ∧
    (TT 144 = ⟨.ptr 153, 1, 8, [.nilp]⟩) ∧
    (TT 145 = ⟨.func, 1, 8, [.nilf]⟩) ∧
    (TT 146 = ⟨.func, 1, 8, [.nilf]⟩) ∧
    (TT 147 = ⟨.func, 1, 8, [.nilf]⟩) ∧
    (TT 150 = ⟨.func, 1, 8, [.nilf]⟩) ∧
    (TT 151 = ⟨.func, 1, 8, [.nilf]⟩) ∧
    (TT 154 = ⟨.func, 1, 8, [.nilf]⟩) ∧
    (TT 155 = ⟨.ptr 157, 1, 8, [.nilp]⟩) ∧
    (TT 156 = ⟨.struct [(0, 9)], 1, 16, [.str []]⟩) ∧
    (TT 157 = ⟨.struct [(0, 9)], 1, 16, [.str []]⟩) ∧
    (TT 163 = ⟨.int .u8, 1, 1, [.int .u8 0]⟩) ∧
    (TT 164 = ⟨.int .u8, 1, 1, [.int .u8 0]⟩) ∧
    (TT 165 = ⟨.func, 1, 8, [.nilf]⟩) ∧
    (TT 166 = ⟨.int .i32, 1, 4, [.int .i32 0]⟩) ∧
    (TT 167 = ⟨.int .i32, 1, 4, [.int .i32 0]⟩) := by
  refine ⟨rfl, rfl, rfl, rfl, rfl, rfl, rfl, rfl, rfl, rfl, rfl, rfl, rfl, rfl, rfl, rfl, rfl, rfl, rfl, rfl, rfl, rfl, rfl, rfl, rfl, rfl, rfl, rfl, rfl, rfl, rfl, rfl, rfl, rfl, rfl, rfl, rfl, rfl, rfl, rfl, rfl, rfl, rfl, rfl, rfl, rfl, rfl, rfl, rfl, rfl, rfl, rfl, rfl, rfl, rfl, rfl, rfl, rfl, rfl, rfl, rfl, rfl, rfl, rfl, rfl, rfl, rfl, rfl, rfl, rfl, rfl, rfl, rfl, rfl, rfl, rfl, rfl, rfl, rfl, rfl, rfl, rfl, rfl, rfl, rfl, rfl, rfl, rfl, rfl, rfl, rfl, rfl, rfl, rfl, rfl, rfl, rfl, rfl, rfl, rfl, rfl, rfl, rfl, rfl, rfl, rfl, rfl, rfl, rfl, rfl, rfl, rfl, rfl, rfl, rfl, rfl, rfl, rfl, rfl, rfl, rfl, rfl, rfl, rfl, rfl, rfl, rfl, rfl, rfl, rfl, rfl, rfl, rfl, rfl, rfl, rfl, rfl, rfl, rfl⟩

theorem TT_ok : Tab Tryd.prog TT := by
  intro t h
  unfold TT at h ⊢
  cases ht : tab[t]? with
  | none => rw [ht] at h; exact absurd rfl h
  | some i =>
    rw [ht] at h
    have := rowsOk_get tab 0 t i rows_ok ht h
    simpa using this
theorem TT_mixed : Tryd.prog.follows .mixedOrders = true := by kernel_rfl
end Go.Proofs.YtcdnooalfkbmgaaDoor.Gw

namespace Go.Proofs.YtcdnooalfkbmgaaDoor.Gx
open Go Go.Proofs.YtcdnooalfkbmgaaDoor.Gw
set_option linter.unusedSimpArgs false
set_option linter.unusedVariables false

abbrev Str := List UInt8
def encS (l : List Str) : V := .lst 1 none (l.map fun s => [.str s])

-- strings.IndexByte: the model's own entry stands where the library has no body
set_option maxHeartbeats 1000000 in
set_option maxRecDepth 100000 in
theorem r_IndexByte (s : ByteArray) (c : Int) (w : World) :
    Calls Tryd.prog 75 #[.string s, .int .u8 c] w fun e w' => e = .returned (.int .i64 (Lib.indexByte s.data.toList c.toNat.toUInt8)) ∧ w' = w := by
  go_enter Tryd.func75, Tryd.ntmps75
  go_wp2
  rw [run_callFunc_extern Tryd.func81 (by kernel_rfl) (by kernel_rfl) (by kernel_rfl) (e := Extern.BytealgIndexByte.indexByte) (by kernel_rfl), Lib.run_indexByteString]
  simp only [Result.andThen]
  rw [Oper.upon_value]
  go_wp2
  go_ret
  exact ⟨rfl, rfl⟩
theorem c_IndexByte0 (st : St) (s : Str) (c : Int) : VCalls Tryd.prog TT 75 [.str s, .int .u8 c] st fun r st' => r = .ret (.int .i64 (Lib.indexByte s c.toNat.toUInt8)) ∧ st' = st := by
  refine VCalls.ofReal ⟨_, Tryd.func75, by kernel_rfl, by kernel_rfl⟩ fun g w vals h => ?_
  simp only [SimVs, SimV] at h
  obtain ⟨_, _, rfl, ⟨rfl, _⟩, _, _, rfl, rfl, rfl⟩ := h
  exact ⟨_, by simp only [SimV], r_IndexByte ⟨s.toArray⟩ c w⟩
theorem c_IndexByte (st : St) (s : Str) (c : Int) : VCalls Tryd.prog TT 67 [.str s, .int .u8 c] st fun r st' => r = .ret (.int .i64 (Lib.indexByte s c.toNat.toUInt8)) ∧ st' = st := by
  refine vfun TT_ok (an := anL []) (L := [0, 1, 4]) (rs := [.tmp 4]) Tryd.func67 rfl (by kernel_rfl) rfl Tryd.ntmps67 rfl rfl (Nat.le_refl _) fun hst ha hf => ?_
  simp only [gwL, gwB, gwD, gwE, gwS, gwTT, gwZ, gwN, gwC, Nat.reduceEqDiff, ↓reduceIte, Nat.reduceAdd, Nat.reduceLT, Nat.reduceLeDiff, Nat.reduceMul]
  refine (c_IndexByte0 st s c).use (wkL_refl _) fun _ => ?_
  simp only [gwL, gwB, gwD, gwE, gwS, gwTT, gwZ, gwN, gwC, Nat.reduceEqDiff, ↓reduceIte, Nat.reduceAdd, Nat.reduceLT, Nat.reduceLeDiff, Nat.reduceMul]
  exact gives_int rfl hst

-- slices.Index, slices.Contains
def idxOf (s : Str) : Nat → List Str → Int
  | _, [] => -1
  | i, a :: r => bif decide (s = a) then (i : Int) else idxOf s (i + 1) r
theorem c_Index (st : St) (l : List Str) (s : Str) : VCalls Tryd.prog TT 55 [encS l, .str s] st fun r st' => r = .ret (.int .i64 (idxOf s 0 l)) ∧ st' = st := by
  refine vfun TT_ok (an := anL []) (L := [0, 1, 4, 5, 7, 8]) (rs := [.tmp 4]) Tryd.func55 rfl (by kernel_rfl) rfl Tryd.ntmps55 rfl rfl (Nat.le_refl _) fun hst ha hf => ?_
  simp only [encS, fitL, V.fit, List.length_map] at hf
  simp only [encS]
  simp only [gwL, gwB, gwD, gwE, gwS, gwTT, gwZ, gwN, gwC, Nat.reduceEqDiff, ↓reduceIte, Nat.reduceAdd, Nat.reduceLT, Nat.reduceLeDiff, Nat.reduceMul, List.length_map]
  refine vfor (σ := Nat) [0, 1, 4, 7, 8] (fun i => [(0, true, encS l), (1, true, .str s), (4, true, .int .i64 0), (7, true, .int .i64 l.length), (8, true, .int .i64 i)]) (fun i => st) (fun i => l.length - i) (fun i => i ≤ l.length ∧ idxOf s 0 l = idxOf s i (l.drop i)) 0 rfl TT_ok ⟨Nat.zero_le _, rfl⟩ rfl rfl ?_
  rintro i ⟨hi, hx⟩
  rw [hx]
  rcases at_or_end l i hi with ⟨rfl, hd⟩ | ⟨a, hlt, hget, hdr⟩
  · simp only [gwL, gwB, gwD, gwE, gwS, gwTT, gwZ, gwN, gwC, Nat.reduceEqDiff, ↓reduceIte, Nat.reduceAdd, Nat.reduceLT, Nat.reduceLeDiff, Nat.reduceMul, lt_no, hd, idxOf]
    exact gives_int rfl hst
  · simp only [encS]
    simp only [gwL, gwB, gwD, gwE, gwS, gwTT, gwZ, gwN, gwC, Nat.reduceEqDiff, ↓reduceIte, Nat.reduceAdd, Nat.reduceLT, Nat.reduceLeDiff, Nat.reduceMul, lt_yes hlt, hdr, idxOf, List.length_map, getD_map hget, Int.ofNat_lt.mpr hlt]
    refine iK_split (fun h => ?_) (fun h => ?_)
    · simp only [gwL, gwB, gwD, gwE, gwS, gwTT, gwZ, gwN, gwC, Nat.reduceEqDiff, ↓reduceIte, Nat.reduceAdd, Nat.reduceLT, Nat.reduceLeDiff, Nat.reduceMul, h]
      exact gives_int rfl hst
    · simp only [gwL, gwB, gwD, gwE, gwS, gwTT, gwZ, gwN, gwC, Nat.reduceEqDiff, ↓reduceIte, Nat.reduceAdd, Nat.reduceLT, Nat.reduceLeDiff, Nat.reduceMul, h, Env.keep]
      exact ⟨i + 1, by rw [next_i64 hlt hf.1.1], by omega, hlt, rfl⟩
theorem idxOf_ge (s : Str) : ∀ (l : List Str) (i : Nat), decide (0 ≤ idxOf s i l) = decide (s ∈ l)
  | [], i => by simp [idxOf]
  | a :: r, i => by
    have := idxOf_ge s r (i + 1)
    by_cases h : s = a
    · subst h; simp [idxOf]
    · simp only [idxOf, h, decide_false, cond_false, this, List.mem_cons, false_or]
theorem c_Contains (st : St) (l : List Str) (s : Str) : VCalls Tryd.prog TT 43 [encS l, .str s] st fun r st' => r = .ret (.bool (decide (s ∈ l))) ∧ st' = st := by
  refine vfun TT_ok (an := anL []) (L := [0, 1, 4]) (rs := [.tmp 4]) Tryd.func43 rfl (by kernel_rfl) rfl Tryd.ntmps43 rfl rfl (Nat.le_refl _) fun hst ha hf => ?_
  simp only [encS]
  simp only [gwL, gwB, gwD, gwE, gwS, gwTT, gwZ, gwN, gwC, Nat.reduceEqDiff, ↓reduceIte, Nat.reduceAdd, Nat.reduceLT, Nat.reduceLeDiff, Nat.reduceMul]
  refine (c_Index st l s).use (by simp only [encS]; exact wkL_refl _) fun _ => ?_
  simp only [gwL, gwB, gwD, gwE, gwS, gwTT, gwZ, gwN, gwC, Nat.reduceEqDiff, ↓reduceIte, Nat.reduceAdd, Nat.reduceLT, Nat.reduceLeDiff, Nat.reduceMul, idxOf_ge]
  exact gives_bool rfl hst
-- strings.HasPrefix, TrimPrefix
def hasPre (s p : Str) : Bool := decide (p.length ≤ s.length) && decide (s.take p.length = p)
theorem c_HasPrefix (st : St) (s p : Str) : VCalls Tryd.prog TT 87 [.str s, .str p] st fun r st' => r = .ret (.bool (hasPre s p)) ∧ st' = st := by
  refine vfun TT_ok (an := anL []) (L := [0, 1, 4]) (rs := [.tmp 4]) Tryd.func87 rfl (by kernel_rfl) rfl Tryd.ntmps87 rfl rfl (Nat.le_refl _) fun hst ha hf => ?_
  simp only [gwL, gwB, gwD, gwE, gwS, gwTT, gwZ, gwN, gwC, Nat.reduceEqDiff, ↓reduceIte, Nat.reduceAdd, Nat.reduceLT, Nat.reduceLeDiff, Nat.reduceMul, Int.ofNat_le, Int.toNat_natCast]
  refine ⟨fun h => of_decide_eq_true h, gives_bool ?_ hst⟩
  rfl
def trimPre (s p : Str) : Str := bif hasPre s p then s.drop p.length else s
theorem c_TrimPrefix0 (st : St) (s p : Str) : VCalls Tryd.prog TT 78 [.str s, .str p] st fun r st' => r = .ret (.str (trimPre s p)) ∧ st' = st := by
  refine vfun TT_ok (an := anL []) (L := [0, 1, 4]) (rs := [.tmp 4]) Tryd.func78 rfl (by kernel_rfl) rfl Tryd.ntmps78 rfl rfl (Nat.le_refl _) fun hst ha hf => ?_
  simp only [gwL, gwB, gwD, gwE, gwS, gwTT, gwZ, gwN, gwC, Nat.reduceEqDiff, ↓reduceIte, Nat.reduceAdd, Nat.reduceLT, Nat.reduceLeDiff, Nat.reduceMul, List.length_nil]
  refine (c_HasPrefix st s p).use (wkL_refl _) fun _ => ?_
  simp only [gwL, gwB, gwD, gwE, gwS, gwTT, gwZ, gwN, gwC, Nat.reduceEqDiff, ↓reduceIte, Nat.reduceAdd, Nat.reduceLT, Nat.reduceLeDiff, Nat.reduceMul]
  refine iK_split (fun h => ?_) (fun h => ?_)
  · have h2 : p.length ≤ s.length := by simp only [hasPre, Bool.and_eq_true, decide_eq_true_eq] at h; exact h.1
    simp only [gwL, gwB, gwD, gwE, gwS, gwTT, gwZ, gwN, gwC, Nat.reduceEqDiff, ↓reduceIte, Nat.reduceAdd, Nat.reduceLT, Nat.reduceLeDiff, Nat.reduceMul, Int.ofNat_le, Int.toNat_natCast]
    exact ⟨h2, gives_str (by simp [trimPre, h]) hst⟩
  · simp only [gwL, gwB, gwD, gwE, gwS, gwTT, gwZ, gwN, gwC, Nat.reduceEqDiff, ↓reduceIte, Nat.reduceAdd, Nat.reduceLT, Nat.reduceLeDiff, Nat.reduceMul]
    exact gives_str (by simp [trimPre, h]) hst
theorem c_TrimPrefix (st : St) (s p : Str) : VCalls Tryd.prog TT 69 [.str s, .str p] st fun r st' => r = .ret (.str (trimPre s p)) ∧ st' = st := by
  refine vfun TT_ok (an := anL []) (L := [0, 1, 4]) (rs := [.tmp 4]) Tryd.func69 rfl (by kernel_rfl) rfl Tryd.ntmps69 rfl rfl (Nat.le_refl _) fun hst ha hf => ?_
  simp only [gwL, gwB, gwD, gwE, gwS, gwTT, gwZ, gwN, gwC, Nat.reduceEqDiff, ↓reduceIte, Nat.reduceAdd, Nat.reduceLT, Nat.reduceLeDiff, Nat.reduceMul, List.length_nil]
  refine (c_TrimPrefix0 st s p).use (wkL_refl _) fun _ => ?_
  simp only [gwL, gwB, gwD, gwE, gwS, gwTT, gwZ, gwN, gwC, Nat.reduceEqDiff, ↓reduceIte, Nat.reduceAdd, Nat.reduceLT, Nat.reduceLeDiff, Nat.reduceMul]
  exact gives_str rfl hst

-- letters and names
def letters : Str := [97, 98, 99, 100, 101, 102, 103, 104, 105, 106, 107, 108, 109, 110, 111, 112, 113, 114, 115, 116, 117, 118, 119, 120, 121, 122, 48, 49, 50, 51, 52, 53, 54, 55, 56, 57, 33, 63, 42, 43, 45, 47, 60, 61, 62, 95, 46]
def letterB (b : UInt8) : Bool := letters.contains b
theorem all_bytes {p : UInt8 → Bool} (h : (List.range 256).all (fun n => p (UInt8.ofNat n)) = true) (b : UInt8) : p b = true := by
  have := List.all_eq_true.1 h b.toNat (by simpa using b.toNat_lt)
  simpa using this
theorem c_letter (st : St) (b : UInt8) : VCalls Tryd.prog TT 60 [.int .u8 b.toNat] st fun r st' => r = .ret (.bool (letterB b)) ∧ st' = st := by
  refine vfun TT_ok (an := anL []) (L := [0, 2]) (rs := [.tmp 2]) Tryd.func60 rfl (by kernel_rfl) rfl Tryd.ntmps60 rfl rfl (Nat.le_refl _) fun hst ha hf => ?_
  simp only [gwL, gwB, gwD, gwE, gwS, gwTT, gwZ, gwN, gwC, Nat.reduceEqDiff, ↓reduceIte, Nat.reduceAdd, Nat.reduceLT, Nat.reduceLeDiff, Nat.reduceMul]
  refine ⟨by cases decide (97 ≤ (b.toNat : Int)) <;> cases decide ((b.toNat : Int) ≤ 122) <;> simp, ?_⟩
  refine rK_guarded (.int .i64 (Lib.indexByte [33, 63, 42, 43, 45, 47, 60, 61, 62, 95, 46] b)) (fun _ => ?_) ?_
  · have := c_IndexByte st [33, 63, 42, 43, 45, 47, 60, 61, 62, 95, 46] b.toNat
    simpa using this
  simp only [gwL, gwB, gwD, gwE, gwS, gwTT, gwZ, gwN, gwC, Nat.reduceEqDiff, ↓reduceIte, Nat.reduceAdd, Nat.reduceLT, Nat.reduceLeDiff, Nat.reduceMul]
  refine gives_bool ?_ hst
  refine of_decide_eq_true (all_bytes (p := fun b => decide ((((decide (97 ≤ (b.toNat : Int)) && decide ((b.toNat : Int) ≤ 122)) || (decide (48 ≤ (b.toNat : Int)) && decide ((b.toNat : Int) ≤ 57))) || decide (0 ≤ Lib.indexByte [33, 63, 42, 43, 45, 47, 60, 61, 62, 95, 46] b)) = letterB b)) (by kernel_rfl) b)
end Go.Proofs.YtcdnooalfkbmgaaDoor.Gx

namespace Go.Proofs.YtcdnooalfkbmgaaDoor.Gx
open Go Go.Proofs.YtcdnooalfkbmgaaDoor.Gw
set_option linter.unusedSimpArgs false
set_option linter.unusedVariables false

def digits : Str → Bool := fun s => s.all fun b => decide (48 ≤ b.toNat) && decide (b.toNat ≤ 57)
/-- Does a text look like a number? -/
def looksB (s : Str) : Bool := (match s with | 45 :: r => digits r && !r.isEmpty | r => digits r && !r.isEmpty)
theorem trimPre_minus (s : Str) : (digits (trimPre s [45]) && !(trimPre s [45]).isEmpty) = looksB s := by
  unfold trimPre hasPre looksB
  cases s with
  | nil => rfl
  | cons a r =>
    by_cases h : a = 45
    · subst h; simp
    · simp only [List.take_succ_cons, List.take_zero, List.length_cons, List.length_nil]
      simp [h]
theorem c_number (st : St) (s : Str) : VCalls Tryd.prog TT 62 [.str s] st fun r st' => r = .ret (.bool (looksB s)) ∧ st' = st := by
  refine vfun TT_ok (an := anL []) (L := [0, 2, 3, 7, 8]) (rs := [.tmp 2]) Tryd.func62 rfl (by kernel_rfl) rfl Tryd.ntmps62 rfl rfl (Nat.le_refl _) fun hst ha hf => ?_
  simp only [gwL, gwB, gwD, gwE, gwS, gwTT, gwZ, gwN, gwC, Nat.reduceEqDiff, ↓reduceIte, Nat.reduceAdd, Nat.reduceLT, Nat.reduceLeDiff, Nat.reduceMul]
  refine (c_TrimPrefix st s [45]).use (wkL_refl _) fun hfx => ?_
  rw [← trimPre_minus s]
  simp only [V.fit] at hfx
  generalize trimPre s [45] = t at hfx ⊢
  simp only [gwL, gwB, gwD, gwE, gwS, gwTT, gwZ, gwN, gwC, Nat.reduceEqDiff, ↓reduceIte, Nat.reduceAdd, Nat.reduceLT, Nat.reduceLeDiff, Nat.reduceMul]
  refine vfor (σ := Nat) [0, 2, 7, 8] (fun i => [(0, true, .str t), (2, true, .bool false), (7, true, .int .i64 t.length), (8, true, .int .i64 i)]) (fun i => st) (fun i => t.length - i) (fun i => i ≤ t.length ∧ digits t = digits (t.drop i)) 0 rfl TT_ok ⟨Nat.zero_le _, rfl⟩ rfl rfl ?_
  rintro i ⟨hi, hx⟩
  rw [hx]
  rcases at_or_end t i hi with ⟨rfl, hd⟩ | ⟨a, hlt, hget, hdr⟩
  · simp only [gwL, gwB, gwD, gwE, gwS, gwTT, gwZ, gwN, gwC, Nat.reduceEqDiff, ↓reduceIte, Nat.reduceAdd, Nat.reduceLT, Nat.reduceLeDiff, Nat.reduceMul, lt_no, hd]
    exact gives_bool (by cases t <;> simp [digits]) hst
  · simp only [gwL, gwB, gwD, gwE, gwS, gwTT, gwZ, gwN, gwC, Nat.reduceEqDiff, ↓reduceIte, Nat.reduceAdd, Nat.reduceLT, Nat.reduceLeDiff, Nat.reduceMul, lt_yes hlt, hdr, getD_at hget, Int.ofNat_lt.mpr hlt]
    refine iK_split (fun h => ?_) (fun h => ?_)
    · simp only [gwL, gwB, gwD, gwE, gwS, gwTT, gwZ, gwN, gwC, Nat.reduceEqDiff, ↓reduceIte, Nat.reduceAdd, Nat.reduceLT, Nat.reduceLeDiff, Nat.reduceMul]
      refine gives_bool ?_ hst
      have : ¬ (48 ≤ a.toNat ∧ a.toNat ≤ 57) := by
        intro ⟨h1, h2⟩
        have e1 : decide ((a.toNat : Int) < 48) = false := by simp; omega
        have e2 : decide (57 < (a.toNat : Int)) = false := by simp; omega
        rw [e1, e2] at h; cases h
      simp only [digits, List.all_cons]
      rcases Nat.lt_or_ge a.toNat 48 with h1 | h1
      · simp [show ¬ 48 ≤ a.toNat by omega]
      · simp [show ¬ a.toNat ≤ 57 by omega]
    · have : 48 ≤ a.toNat ∧ a.toNat ≤ 57 := by
        constructor
        · refine Nat.le_of_not_lt fun h1 => ?_
          have e1 : decide ((a.toNat : Int) < 48) = true := by simp; omega
          rw [e1] at h; cases h
        · refine Nat.le_of_not_lt fun h1 => ?_
          have e2 : decide (57 < (a.toNat : Int)) = true := by simp; omega
          rw [e2] at h; revert h; cases decide ((a.toNat : Int) < 48) <;> simp
      simp only [gwL, gwB, gwD, gwE, gwS, gwTT, gwZ, gwN, gwC, Nat.reduceEqDiff, ↓reduceIte, Nat.reduceAdd, Nat.reduceLT, Nat.reduceLeDiff, Nat.reduceMul, Env.keep]
      exact ⟨i + 1, by rw [next_i64 hlt hfx], by omega, hlt, by simp [digits, this]⟩

theorem digit_yes {a : UInt8} (h : (decide ((a.toNat : Int) < 48) || decide (57 < (a.toNat : Int))) = true) : ∀ r, digits (a :: r) = false := by
  intro r
  simp only [digits, List.all_cons]
  rcases Nat.lt_or_ge a.toNat 48 with h1 | h1
  · simp [show ¬ 48 ≤ a.toNat by omega]
  · have e1 : decide ((a.toNat : Int) < 48) = false := by simp; omega
    rw [e1] at h
    have h2 : 57 < a.toNat := by simp only [Bool.false_or, decide_eq_true_eq] at h; omega
    simp [show ¬ a.toNat ≤ 57 by omega]
theorem digit_no {a : UInt8} (h : (decide ((a.toNat : Int) < 48) || decide (57 < (a.toNat : Int))) = false) : ∀ r, digits (a :: r) = digits r := by
  intro r
  have : 48 ≤ a.toNat ∧ a.toNat ≤ 57 := by
    constructor
    · refine Nat.le_of_not_lt fun h1 => ?_
      have e1 : decide ((a.toNat : Int) < 48) = true := by simp; omega
      rw [e1] at h; cases h
    · refine Nat.le_of_not_lt fun h1 => ?_
      have e2 : decide (57 < (a.toNat : Int)) = true := by simp; omega
      rw [e2] at h; revert h; cases decide ((a.toNat : Int) < 48) <;> simp
  simp [digits, this]
def namedB (s : Str) : Bool := s.all letterB && (decide (0 < s.length) && decide (s.length ≤ 20) && !looksB s)
theorem c_text_Named (st : St) (s : Str) : VCalls Tryd.prog TT 54 [.str s] st fun r st' => r = .ret (.bool (namedB s)) ∧ st' = st := by
  refine vfun TT_ok (an := anL []) (L := [0, 2, 3, 13, 14]) (rs := [.tmp 2]) Tryd.func54 rfl (by kernel_rfl) rfl Tryd.ntmps54 rfl rfl (Nat.le_refl _) fun hst ha hf => ?_
  simp only [gwL, gwB, gwD, gwE, gwS, gwTT, gwZ, gwN, gwC, Nat.reduceEqDiff, ↓reduceIte, Nat.reduceAdd, Nat.reduceLT, Nat.reduceLeDiff, Nat.reduceMul]
  refine iK_split (fun h => ?_) (fun h => ?_)
  · simp only [gwL, gwB, gwD, gwE, gwS, gwTT, gwZ, gwN, gwC, Nat.reduceEqDiff, ↓reduceIte, Nat.reduceAdd, Nat.reduceLT, Nat.reduceLeDiff, Nat.reduceMul]
    refine gives_bool ?_ hst
    have : ¬ (0 < s.length ∧ s.length ≤ 20) := by
      intro ⟨h1, h2⟩
      have e1 : decide ((s.length : Int) < 1) = false := by simp; omega
      have e2 : decide (20 < (s.length : Int)) = false := by simp; omega
      rw [e1, e2] at h; cases h
    rcases Nat.lt_or_ge 0 s.length with h1 | h1
    · simp [namedB, show ¬ s.length ≤ 20 from fun h2 => this ⟨h1, h2⟩]
    · simp [namedB, show ¬ 0 < s.length by omega]
  · have hl : 0 < s.length ∧ s.length ≤ 20 := by
      constructor
      · refine Nat.lt_of_not_le fun h1 => ?_
        have e1 : decide ((s.length : Int) < 1) = true := by simp; omega
        rw [e1] at h; cases h
      · refine Nat.le_of_not_lt fun h1 => ?_
        have e2 : decide (20 < (s.length : Int)) = true := by simp; omega
        rw [e2] at h; revert h; cases decide ((s.length : Int) < 1) <;> simp
    have e : namedB s = (s.all letterB && !looksB s) := by simp [namedB, hl]
    rw [e]
    simp only [gwL, gwB, gwD, gwE, gwS, gwTT, gwZ, gwN, gwC, Nat.reduceEqDiff, ↓reduceIte, Nat.reduceAdd, Nat.reduceLT, Nat.reduceLeDiff, Nat.reduceMul]
    refine vfor (σ := Nat) [0, 2, 13, 14] (fun i => [(0, true, .str s), (2, true, .bool false), (13, true, .int .i64 s.length), (14, true, .int .i64 i)]) (fun i => st) (fun i => s.length - i) (fun i => i ≤ s.length ∧ s.all letterB = (s.drop i).all letterB) 0 rfl TT_ok ⟨Nat.zero_le _, rfl⟩ rfl rfl ?_
    rintro i ⟨hi, hx⟩
    rw [hx]
    rcases at_or_end s i hi with ⟨rfl, hd⟩ | ⟨a, hlt, hget, hdr⟩
    · simp only [gwL, gwB, gwD, gwE, gwS, gwTT, gwZ, gwN, gwC, Nat.reduceEqDiff, ↓reduceIte, Nat.reduceAdd, Nat.reduceLT, Nat.reduceLeDiff, Nat.reduceMul, lt_no, hd]
      refine (c_number st s).use (wkL_refl _) fun _ => ?_
      simp only [gwL, gwB, gwD, gwE, gwS, gwTT, gwZ, gwN, gwC, Nat.reduceEqDiff, ↓reduceIte, Nat.reduceAdd, Nat.reduceLT, Nat.reduceLeDiff, Nat.reduceMul]
      exact gives_bool (by simp) hst
    · simp only [gwL, gwB, gwD, gwE, gwS, gwTT, gwZ, gwN, gwC, Nat.reduceEqDiff, ↓reduceIte, Nat.reduceAdd, Nat.reduceLT, Nat.reduceLeDiff, Nat.reduceMul, lt_yes hlt, hdr, getD_at hget, Int.ofNat_lt.mpr hlt]
      refine (c_letter st a).use (wkL_refl _) fun _ => ?_
      simp only [gwL, gwB, gwD, gwE, gwS, gwTT, gwZ, gwN, gwC, Nat.reduceEqDiff, ↓reduceIte, Nat.reduceAdd, Nat.reduceLT, Nat.reduceLeDiff, Nat.reduceMul]
      refine iK_split (fun h => ?_) (fun h => ?_)
      · simp only [gwL, gwB, gwD, gwE, gwS, gwTT, gwZ, gwN, gwC, Nat.reduceEqDiff, ↓reduceIte, Nat.reduceAdd, Nat.reduceLT, Nat.reduceLeDiff, Nat.reduceMul]
        exact gives_bool (by simp at h; simp [h]) hst
      · simp only [gwL, gwB, gwD, gwE, gwS, gwTT, gwZ, gwN, gwC, Nat.reduceEqDiff, ↓reduceIte, Nat.reduceAdd, Nat.reduceLT, Nat.reduceLeDiff, Nat.reduceMul, Env.keep]
        exact ⟨i + 1, by rw [next_i64 hlt (by omega)], by omega, hlt, by simp at h; simp [h]⟩
end Go.Proofs.YtcdnooalfkbmgaaDoor.Gx

namespace Go.Proofs.YtcdnooalfkbmgaaDoor.Gx
open Go Go.Proofs.YtcdnooalfkbmgaaDoor.Gw
set_option linter.unusedSimpArgs false
set_option linter.unusedVariables false

/-- A datum. -/
inductive Datum where
  | mk (kind n : Int) (name : Str) (stamp lib : Int) (kids : List Datum)

mutual
def encD : Datum → List V
  | .mk k n nm s l kids => [.int .i64 k, .int .i64 n, .str nm, .int .i64 s, .int .i64 l, .lst 6 none (encDs kids)]
def encDs : List Datum → List (List V)
  | [] => []
  | d :: r => encD d :: encDs r
end
theorem encDs_map : ∀ l : List Datum, encDs l = l.map encD
  | [] => rfl
  | d :: r => by simp only [encDs, List.map_cons, encDs_map r]
theorem encD_mk (k n : Int) (nm : Str) (s l : Int) (kids : List Datum) : encD (.mk k n nm s l kids) = [.int .i64 k, .int .i64 n, .str nm, .int .i64 s, .int .i64 l, .lst 6 none (kids.map encD)] := by
  simp only [encD, encDs_map]
theorem encD_len (d : Datum) : (encD d).length = 6 := by cases d; rfl
mutual
theorem encD_lt (n : Nat) : ∀ d : Datum, ltL n (encD d)
  | .mk k m nm s l kids => by
    simp only [encD, ltL, V.lt, true_and, and_true]
    exact ⟨fun e h => (by cases h), encDs_lt n kids⟩
theorem encDs_lt (n : Nat) : ∀ l : List Datum, ltRows n (encDs l)
  | [] => trivial
  | d :: r => ⟨encD_lt n d, encDs_lt n r⟩
end
theorem Datum.ind {p : Datum → Prop} (h : ∀ k n nm s l kids, (∀ d ∈ kids, p d) → p (.mk k n nm s l kids)) (d : Datum) : p d :=
  Datum.rec (motive_1 := p) (motive_2 := fun l => ∀ d ∈ l, p d) h (by simp) (fun d r h1 h2 x hx => by rcases List.mem_cons.1 hx with rfl | hx; exact h1; exact h2 x hx) d

mutual
/-- What is wrong with a datum, so many nodes behind; and how many nodes then. -/
def shapeD : Datum → Int → Int → Int × Int
  | .mk k n nm s l kids, deep, c =>
    bif decide (2000 < c + 1) || decide (40 < deep) then (4, c + 1)
    else bif decide (k = 1) then (bif decide (1000000000000000 < n) || decide (n < -1000000000000000) then (3, c + 1) else (0, c + 1))
    else bif decide (k = 2) then (bif decide (n = 0) || decide (n = 1) then (0, c + 1) else (3, c + 1))
    else bif decide (k = 3) then (bif !namedB nm then (7, c + 1) else bif decide (s = 0) && decide (l = 0) then (0, c + 1) else (8, c + 1))
    else bif decide (k = 4) then shapeDs kids (deep + 1) (c + 1)
    else (1, c + 1)
def shapeDs : List Datum → Int → Int → Int × Int
  | [], _, c => (0, c)
  | d :: r, deep, c => bif decide ((shapeD d deep c).1 = 0) then shapeDs r deep (shapeD d deep c).2 else shapeD d deep c
end

mutual
theorem shapeD_ok : ∀ (d : Datum) (deep c : Int), 0 ≤ c → (shapeD d deep c).1 = 0 → c ≤ (shapeD d deep c).2 ∧ (shapeD d deep c).2 ≤ 2000
  | .mk k n nm s l kids, deep, c, h0, h => by
    unfold shapeD at h ⊢
    cases h1 : (decide (2000 < c + 1) || decide (40 < deep)) with
    | true => rw [h1] at h; simp at h
    | false =>
      have hc : c + 1 ≤ 2000 := by simp at h1; omega
      rw [h1] at h
      simp only [cond_false] at h ⊢
      cases h2 : decide (k = 1) <;> rw [h2] at h <;> simp only [cond_false, cond_true] at h ⊢
      · cases h3 : decide (k = 2) <;> rw [h3] at h <;> simp only [cond_false, cond_true] at h ⊢
        · cases h4 : decide (k = 3) <;> rw [h4] at h <;> simp only [cond_false, cond_true] at h ⊢
          · cases h5 : decide (k = 4) <;> rw [h5] at h <;> simp only [cond_false, cond_true] at h ⊢
            · simp at h
            · have := shapeDs_ok kids (deep + 1) (c + 1) (by omega) hc h
              exact ⟨by omega, this.2⟩
          · revert h
            cases namedB nm <;> cases (decide (s = 0) && decide (l = 0)) <;> simp <;> omega
        · revert h
          cases (decide (n = 0) || decide (n = 1)) <;> simp <;> omega
      · revert h
        cases (decide (1000000000000000 < n) || decide (n < -1000000000000000)) <;> simp <;> omega
theorem shapeDs_ok : ∀ (l : List Datum) (deep c : Int), 0 ≤ c → c ≤ 2000 → (shapeDs l deep c).1 = 0 → c ≤ (shapeDs l deep c).2 ∧ (shapeDs l deep c).2 ≤ 2000
  | [], deep, c, h0, h1, h => by simp only [shapeDs]; omega
  | d :: r, deep, c, h0, h1, h => by
    simp only [shapeDs] at h ⊢
    cases h2 : decide ((shapeD d deep c).1 = 0) with
    | true =>
      rw [h2] at h
      simp only [cond_true] at h ⊢
      have k1 := shapeD_ok d deep c h0 (of_decide_eq_true h2)
      have k2 := shapeDs_ok r deep _ (by omega) k1.2 h
      omega
    | false =>
      rw [h2] at h
      simp only [cond_false] at h
      exact absurd h (of_decide_eq_false h2)
end

/-- A mark in a box is counted up. -/
theorem set_self {st : St} {o : Nat} {e : Ent} (h : st[o]? = some e) : st.set o e = st := by
  apply List.ext_getElem?
  intro i
  by_cases hi : o = i
  · subst hi; rw [List.getElem?_set_self (List.getElem?_eq_some_iff.1 h).1, h]
  · rw [List.getElem?_set_ne hi]

theorem or_no {a b : Bool} (h : (!a && !b) = true) : (a || b) = false := by revert h; cases a <;> cases b <;> simp
theorem or_yes {a b : Bool} (h : (!a && !b) = false) : (a || b) = true := by revert h; cases a <;> cases b <;> simp
theorem and_no {a b : Bool} (h : (!a || !b) = true) : (a && b) = false := by revert h; cases a <;> cases b <;> simp
theorem and_yes {a b : Bool} (h : (!a || !b) = false) : (a && b) = true := by revert h; cases a <;> cases b <;> simp
theorem not_yes {a : Bool} (h : (!a) = true) : a = false := by revert h; cases a <;> simp
theorem not_no {a : Bool} (h : (!a) = false) : a = true := by revert h; cases a <;> simp

theorem c_shape (d : Datum) : ∀ (st : St) (o : Nat) (c deep : Int), st[o]? = some (.box [.int .i64 c]) → 0 ≤ c → c ≤ 2000 → 0 ≤ deep → deep ≤ 41 →
    VCalls Tryd.prog TT 49 [.ptr o 0, .ref (encD d), .int .i64 deep] st fun r st' => r = .ret (.int .i64 (shapeD d deep c).1) ∧ st' = st.set o (.box [.int .i64 (shapeD d deep c).2]) := by
  refine Datum.ind (p := fun d => ∀ (st : St) (o : Nat) (c deep : Int), st[o]? = some (.box [.int .i64 c]) → 0 ≤ c → c ≤ 2000 → 0 ≤ deep → deep ≤ 41 →
    VCalls Tryd.prog TT 49 [.ptr o 0, .ref (encD d), .int .i64 deep] st fun r st' => r = .ret (.int .i64 (shapeD d deep c).1) ∧ st' = st.set o (.box [.int .i64 (shapeD d deep c).2])) ?_ d
  intro k n nm s l kids ih st o c deep ho h0 h1 h2 h3
  refine vfun TT_ok (an := anL []) (L := [0, 1, 2, 6, 7, 8, 28, 83, 84]) (rs := [.tmp 6]) Tryd.func49 rfl (by kernel_rfl) rfl Tryd.ntmps49 rfl rfl (Nat.le_of_eq (List.length_set ..).symm) fun hst ha hf => ?_
  have hlt : o < st.length := (List.getElem?_eq_some_iff.1 ho).1
  have hset : ∀ c', (st.set o (.box [.int .i64 c']))[o]? = some (.box [.int .i64 c']) := fun c' => List.getElem?_set_self hlt
  simp only [encD_mk]
  simp only [gwL, gwB, gwD, gwE, gwS, gwTT, gwZ, gwN, gwC, Nat.reduceEqDiff, ↓reduceIte, Nat.reduceAdd, Nat.reduceLT, Nat.reduceLeDiff, Nat.reduceMul, ho, hset, wrap_i64 (show -9223372036854775808 ≤ c + 1 by omega) (show c + 1 ≤ 9223372036854775807 by omega)]
  have hok : ∀ c', St.ok (st.set o (.box [.int .i64 c'])) := by
    intro c' e he
    rw [List.length_set]
    rcases List.mem_or_eq_of_mem_set he with h | rfl
    · exact hst e h
    · simp [Ent.lt, ltL, V.lt]
  have hgv : ∀ (e c' e' c'' : Int), (e, c') = (e', c'') → Gives (.int .i64 e') (st.set o (.box [.int .i64 c''])) (.ret (.int .i64 e)) (st.set o (.box [.int .i64 c'])) := by
    intro e c' e' c'' h
    cases h
    exact gives_int rfl (hok c')
  unfold shapeD
  refine iK_split (fun h => ?_) (fun h => ?_)
  · rw [h]
    simp only [gwL, gwB, gwD, gwE, gwS, gwTT, gwZ, gwN, gwC, Nat.reduceEqDiff, ↓reduceIte, Nat.reduceAdd, Nat.reduceLT, Nat.reduceLeDiff, Nat.reduceMul]
    exact hgv _ _ _ _ rfl
  rw [h]
  have hc : c + 1 ≤ 2000 ∧ deep ≤ 40 := by simp at h; omega
  simp only [gwL, gwB, gwD, gwE, gwS, gwTT, gwZ, gwN, gwC, Nat.reduceEqDiff, ↓reduceIte, Nat.reduceAdd, Nat.reduceLT, Nat.reduceLeDiff, Nat.reduceMul]
  refine iK_split (fun h1 => ?_) (fun h1 => ?_)
  · rw [h1]
    simp only [gwL, gwB, gwD, gwE, gwS, gwTT, gwZ, gwN, gwC, Nat.reduceEqDiff, ↓reduceIte, Nat.reduceAdd, Nat.reduceLT, Nat.reduceLeDiff, Nat.reduceMul]
    refine iK_split (fun h2 => ?_) (fun h2 => ?_)
    · rw [h2]
      simp only [gwL, gwB, gwD, gwE, gwS, gwTT, gwZ, gwN, gwC, Nat.reduceEqDiff, ↓reduceIte, Nat.reduceAdd, Nat.reduceLT, Nat.reduceLeDiff, Nat.reduceMul]
      exact hgv _ _ _ _ rfl
    · rw [h2]
      simp only [gwL, gwB, gwD, gwE, gwS, gwTT, gwZ, gwN, gwC, Nat.reduceEqDiff, ↓reduceIte, Nat.reduceAdd, Nat.reduceLT, Nat.reduceLeDiff, Nat.reduceMul]
      exact hgv _ _ _ _ rfl
  rw [h1]
  simp only [gwL, gwB, gwD, gwE, gwS, gwTT, gwZ, gwN, gwC, Nat.reduceEqDiff, ↓reduceIte, Nat.reduceAdd, Nat.reduceLT, Nat.reduceLeDiff, Nat.reduceMul]
  refine iK_split (fun h2 => ?_) (fun h2 => ?_)
  · rw [h2]
    simp only [gwL, gwB, gwD, gwE, gwS, gwTT, gwZ, gwN, gwC, Nat.reduceEqDiff, ↓reduceIte, Nat.reduceAdd, Nat.reduceLT, Nat.reduceLeDiff, Nat.reduceMul]
    refine iK_split (fun h3 => ?_) (fun h3 => ?_)
    · rw [or_no h3]
      simp only [gwL, gwB, gwD, gwE, gwS, gwTT, gwZ, gwN, gwC, Nat.reduceEqDiff, ↓reduceIte, Nat.reduceAdd, Nat.reduceLT, Nat.reduceLeDiff, Nat.reduceMul]
      exact hgv _ _ _ _ rfl
    · rw [or_yes h3]
      simp only [gwL, gwB, gwD, gwE, gwS, gwTT, gwZ, gwN, gwC, Nat.reduceEqDiff, ↓reduceIte, Nat.reduceAdd, Nat.reduceLT, Nat.reduceLeDiff, Nat.reduceMul]
      exact hgv _ _ _ _ rfl
  rw [h2]
  simp only [gwL, gwB, gwD, gwE, gwS, gwTT, gwZ, gwN, gwC, Nat.reduceEqDiff, ↓reduceIte, Nat.reduceAdd, Nat.reduceLT, Nat.reduceLeDiff, Nat.reduceMul]
  refine iK_split (fun h3 => ?_) (fun h3 => ?_)
  · rw [h3]
    simp only [gwL, gwB, gwD, gwE, gwS, gwTT, gwZ, gwN, gwC, Nat.reduceEqDiff, ↓reduceIte, Nat.reduceAdd, Nat.reduceLT, Nat.reduceLeDiff, Nat.reduceMul]
    refine (c_text_Named _ nm).use (wkL_refl _) fun _ => ?_
    simp only [gwL, gwB, gwD, gwE, gwS, gwTT, gwZ, gwN, gwC, Nat.reduceEqDiff, ↓reduceIte, Nat.reduceAdd, Nat.reduceLT, Nat.reduceLeDiff, Nat.reduceMul]
    refine iK_split (fun h4 => ?_) (fun h4 => ?_)
    · rw [h4]
      simp only [gwL, gwB, gwD, gwE, gwS, gwTT, gwZ, gwN, gwC, Nat.reduceEqDiff, ↓reduceIte, Nat.reduceAdd, Nat.reduceLT, Nat.reduceLeDiff, Nat.reduceMul]
      exact hgv _ _ _ _ rfl
    rw [h4]
    simp only [gwL, gwB, gwD, gwE, gwS, gwTT, gwZ, gwN, gwC, Nat.reduceEqDiff, ↓reduceIte, Nat.reduceAdd, Nat.reduceLT, Nat.reduceLeDiff, Nat.reduceMul]
    refine iK_split (fun h5 => ?_) (fun h5 => ?_)
    · rw [and_no h5]
      simp only [gwL, gwB, gwD, gwE, gwS, gwTT, gwZ, gwN, gwC, Nat.reduceEqDiff, ↓reduceIte, Nat.reduceAdd, Nat.reduceLT, Nat.reduceLeDiff, Nat.reduceMul]
      exact hgv _ _ _ _ rfl
    · rw [and_yes h5]
      simp only [gwL, gwB, gwD, gwE, gwS, gwTT, gwZ, gwN, gwC, Nat.reduceEqDiff, ↓reduceIte, Nat.reduceAdd, Nat.reduceLT, Nat.reduceLeDiff, Nat.reduceMul]
      exact hgv _ _ _ _ rfl
  rw [h3]
  simp only [gwL, gwB, gwD, gwE, gwS, gwTT, gwZ, gwN, gwC, Nat.reduceEqDiff, ↓reduceIte, Nat.reduceAdd, Nat.reduceLT, Nat.reduceLeDiff, Nat.reduceMul]
  refine iK_split (fun h4 => ?_) (fun h4 => ?_)
  · rw [h4]
    simp only [gwL, gwB, gwD, gwE, gwS, gwTT, gwZ, gwN, gwC, Nat.reduceEqDiff, ↓reduceIte, Nat.reduceAdd, Nat.reduceLT, Nat.reduceLeDiff, Nat.reduceMul, List.length_map]
    simp only [encD_mk, fitL, V.fit, List.length_map] at hf
    have hkl : kids.length ≤ 9223372036854775807 := by simp at hf; omega
    refine vfor (σ := Nat × Int) [0, 1, 2, 6, 83, 84] (fun x => [(0, true, .ptr o 0), (1, true, .ref (encD (.mk k n nm s l kids))), (2, true, .int .i64 deep), (6, true, .int .i64 0), (83, true, .int .i64 kids.length), (84, true, .int .i64 x.1)]) (fun x => st.set o (.box [.int .i64 x.2])) (fun x => kids.length - x.1) (fun x => x.1 ≤ kids.length ∧ 0 ≤ x.2 ∧ x.2 ≤ 2000 ∧ shapeDs kids (deep + 1) (c + 1) = shapeDs (kids.drop x.1) (deep + 1) x.2) (0, c + 1) rfl TT_ok ⟨Nat.zero_le _, by omega, by omega, rfl⟩ (by rw [encD_mk]; rfl) rfl ?_
    rintro ⟨i, ci⟩ ⟨hi, hc0, hc1, hx⟩
    simp only at hi hc0 hc1 hx
    rw [hx]
    simp only [encD_mk]
    rcases at_or_end kids i hi with ⟨rfl, hd⟩ | ⟨a, hlt2, hget, hdr⟩
    · simp only [gwL, gwB, gwD, gwE, gwS, gwTT, gwZ, gwN, gwC, Nat.reduceEqDiff, ↓reduceIte, Nat.reduceAdd, Nat.reduceLT, Nat.reduceLeDiff, Nat.reduceMul, lt_no, hd, shapeDs]
      exact hgv _ _ _ _ rfl
    · simp only [gwL, gwB, gwD, gwE, gwS, gwTT, gwZ, gwN, gwC, Nat.reduceEqDiff, ↓reduceIte, Nat.reduceAdd, Nat.reduceLT, Nat.reduceLeDiff, Nat.reduceMul, lt_yes hlt2, hdr, shapeDs, List.length_map, getD_map hget, Int.ofNat_lt.mpr hlt2, wrap_i64 (show -9223372036854775808 ≤ deep + 1 by omega) (show deep + 1 ≤ 9223372036854775807 by omega)]
      refine (ih a (List.mem_of_getElem? hget) (st.set o (.box [.int .i64 ci])) o ci (deep + 1) (hset ci) hc0 hc1 (by omega) (by omega)).use (wkL_refl _) fun _ => ?_
      simp only [gwL, gwB, gwD, gwE, gwS, gwTT, gwZ, gwN, gwC, Nat.reduceEqDiff, ↓reduceIte, Nat.reduceAdd, Nat.reduceLT, Nat.reduceLeDiff, Nat.reduceMul, List.set_set]
      refine iK_split (fun h5 => ?_) (fun h5 => ?_)
      · rw [not_yes h5]
        simp only [gwL, gwB, gwD, gwE, gwS, gwTT, gwZ, gwN, gwC, Nat.reduceEqDiff, ↓reduceIte, Nat.reduceAdd, Nat.reduceLT, Nat.reduceLeDiff, Nat.reduceMul]
        exact hgv _ _ _ _ rfl
      · have h6 : decide ((shapeD a (deep + 1) ci).1 = 0) = true := by simpa using h5
        have h7 := shapeD_ok a (deep + 1) ci hc0 (of_decide_eq_true h6)
        rw [h6]
        simp only [gwL, gwB, gwD, gwE, gwS, gwTT, gwZ, gwN, gwC, Nat.reduceEqDiff, ↓reduceIte, Nat.reduceAdd, Nat.reduceLT, Nat.reduceLeDiff, Nat.reduceMul, Env.keep]
        exact ⟨(i + 1, (shapeD a (deep + 1) ci).2), by rw [next_i64 hlt2 hkl], rfl, by simp only; omega, by simp only; omega, by simp only; omega, h7.2, rfl⟩
  · rw [h4]
    simp only [gwL, gwB, gwD, gwE, gwS, gwTT, gwZ, gwN, gwC, Nat.reduceEqDiff, ↓reduceIte, Nat.reduceAdd, Nat.reduceLT, Nat.reduceLeDiff, Nat.reduceMul]
    exact hgv _ _ _ _ rfl
end Go.Proofs.YtcdnooalfkbmgaaDoor.Gx

namespace Go.Proofs.YtcdnooalfkbmgaaDoor.Gx
open Go Go.Proofs.YtcdnooalfkbmgaaDoor.Gw
set_option linter.unusedSimpArgs false
set_option linter.unusedVariables false

def fltV (f : Int × Int) : V := .agg [.int .i64 f.1, .int .i64 f.2]
/-- What is wrong with data, and with which. -/
def wrongL : List Datum → Nat → Int → Int × Int
  | [], _, _ => (0, 0)
  | d :: r, i, c => bif decide ((shapeD d 1 c).1 = 0) then wrongL r (i + 1) (shapeD d 1 c).2 else ((shapeD d 1 c).1, (i : Int))
def lstD (l : List Datum) : V := .lst 6 none (l.map encD)

theorem c_text_Wrong (st : St) (l : List Datum) : VCalls Tryd.prog TT 37 [lstD l] st fun r st' => r = .ret (fltV (wrongL l 0 0)) ∧ st' = st := by
  refine vfun TT_ok (an := anL []) (L := [0, 2, 3, 4, 5, 9, 10]) (rs := [.cell 2 81]) Tryd.func37 rfl (by kernel_rfl) rfl Tryd.ntmps37 rfl rfl (Nat.le_refl _) fun hst ha hf => ?_
  simp only [lstD, fltV, fitL, V.fit, List.length_map] at hf ⊢
  have hkl : l.length ≤ 9223372036854775807 := by simp at hf; omega
  simp only [gwL, gwB, gwD, gwE, gwS, gwTT, gwZ, gwN, gwC, Nat.reduceEqDiff, ↓reduceIte, Nat.reduceAdd, Nat.reduceLT, Nat.reduceLeDiff, Nat.reduceMul, List.length_map]
  refine vfor (σ := Nat × Int) [0, 2, 3, 9, 10] (fun x => [(0, true, lstD l), (2, true, .ptr st.length 0), (3, true, .ptr (st.length + 1) 0), (9, true, .int .i64 l.length), (10, true, .int .i64 x.1)]) (fun x => st ++ [.box [.int .i64 0, .int .i64 0], .box [.int .i64 x.2]]) (fun x => l.length - x.1) (fun x => x.1 ≤ l.length ∧ 0 ≤ x.2 ∧ x.2 ≤ 2000 ∧ wrongL l 0 0 = wrongL (l.drop x.1) x.1 x.2) (0, 0) rfl TT_ok ⟨Nat.zero_le _, by omega, by omega, rfl⟩ rfl rfl ?_
  rintro ⟨i, c⟩ ⟨hi, hc0, hc1, hx⟩
  simp only at hi hc0 hc1 hx
  rw [hx]
  simp only [lstD]
  rcases at_or_end l i hi with ⟨rfl, hd⟩ | ⟨a, hlt, hget, hdr⟩
  · simp only [gwL, gwB, gwD, gwE, gwS, gwTT, gwZ, gwN, gwC, Nat.reduceEqDiff, ↓reduceIte, Nat.reduceAdd, Nat.reduceLT, Nat.reduceLeDiff, Nat.reduceMul, lt_no, hd, wrongL]
    exact gives_of (wk_refl _) (wkSt_refl _) (by simp [V.lt, ltL]) hst
  · simp only [gwL, gwB, gwD, gwE, gwS, gwTT, gwZ, gwN, gwC, Nat.reduceEqDiff, ↓reduceIte, Nat.reduceAdd, Nat.reduceLT, Nat.reduceLeDiff, Nat.reduceMul, lt_yes hlt, hdr, wrongL, List.length_map, getD_map hget, Int.ofNat_lt.mpr hlt]
    refine (c_shape a (st ++ [.box [.int .i64 0, .int .i64 0], .box [.int .i64 c]]) (st.length + 1) c 1 (by simp only [gwL]) hc0 hc1 (by omega) (by omega)).use (wkL_refl _) fun _ => ?_
    simp only [gwL, gwB, gwD, gwE, gwS, gwTT, gwZ, gwN, gwC, Nat.reduceEqDiff, ↓reduceIte, Nat.reduceAdd, Nat.reduceLT, Nat.reduceLeDiff, Nat.reduceMul]
    refine iK_split (fun h5 => ?_) (fun h5 => ?_)
    · rw [not_yes h5]
      simp only [gwL, gwB, gwD, gwE, gwS, gwTT, gwZ, gwN, gwC, Nat.reduceEqDiff, ↓reduceIte, Nat.reduceAdd, Nat.reduceLT, Nat.reduceLeDiff, Nat.reduceMul]
      exact gives_of (wk_refl _) (wkSt_refl _) (by simp [V.lt, ltL]) hst
    · have h6 : decide ((shapeD a 1 c).1 = 0) = true := by simpa using h5
      have h7 := shapeD_ok a 1 c hc0 (of_decide_eq_true h6)
      rw [h6]
      simp only [gwL, gwB, gwD, gwE, gwS, gwTT, gwZ, gwN, gwC, Nat.reduceEqDiff, ↓reduceIte, Nat.reduceAdd, Nat.reduceLT, Nat.reduceLeDiff, Nat.reduceMul, Env.keep]
      exact ⟨(i + 1, (shapeD a 1 c).2), by rw [next_i64 hlt hkl], rfl, by simp only; omega, by simp only; omega, by simp only; omega, h7.2, rfl⟩

theorem encD_take (d : Datum) : (encD d).take 6 = encD d := List.take_of_length_le (by rw [encD_len]; exact Nat.le_refl _)
theorem encD_drop (d : Datum) : (encD d).drop 6 = [] := List.drop_of_length_le (by rw [encD_len]; exact Nat.le_refl _)
theorem lt_box {st : St} {o : Nat} {k : IntKind} {c : Int} (hst : St.ok st) : St.ok (st.set o (.box [.int k c])) := by
  intro e he
  rw [List.length_set]
  rcases List.mem_or_eq_of_mem_set he with h | rfl
  · exact hst e h
  · simp [Ent.lt, ltL, V.lt]
theorem or_lt {n : Int} : (decide (n < -1000000000000000) || decide (1000000000000000 < n)) = (decide (1000000000000000 < n) || decide (n < -1000000000000000)) := Bool.or_comm _ _
theorem or_bit {n : Int} : (decide (n < 0) || decide (1 < n)) = !(decide (n = 0) || decide (n = 1)) := by
  by_cases h0 : n = 0
  · subst h0; rfl
  · by_cases h1 : n = 1
    · subst h1; rfl
    · simp [h0, h1]; omega

end Go.Proofs.YtcdnooalfkbmgaaDoor.Gx

namespace Go.Proofs.YtcdnooalfkbmgaaDoor.Gx
open Go Go.Proofs.YtcdnooalfkbmgaaDoor.Gw
set_option linter.unusedSimpArgs false
set_option linter.unusedVariables false

theorem lstD_lt (n : Nat) (l : List Datum) : (lstD l).lt n := by
  simp only [lstD, V.lt]
  exact ⟨fun e h => (by cases h), by rw [← encDs_map]; exact encDs_lt _ _⟩

def prims : List Str := [[42], [43], [45], [60], [61], [99, 97, 114], [99, 100, 114], [99, 111, 110, 115], [101, 113, 63], [110, 111, 116], [110, 117, 108, 108, 63], [111, 117, 116], [112, 97, 105, 114, 63]]
theorem encS_lt (n : Nat) (l : List Str) : (encS l).lt n := by
  simp only [encS, V.lt]
  refine ⟨fun e h => (by cases h), ltRows_map fun x _ => ?_⟩
  simp [ltL, V.lt]
theorem c_Prims (st : St) : VCalls Tryd.prog TT 44 [] st fun r st' => r = .ret (encS prims) ∧ st' = st := by
  refine vfun TT_ok (an := anL []) (L := [0]) (rs := [.tmp 0]) Tryd.func44 rfl (by kernel_rfl) rfl Tryd.ntmps44 rfl rfl (Nat.le_refl _) fun hst ha hf => ?_
  simp only [gwL, gwB, gwD, gwE, gwS, gwTT, gwZ, gwN, gwC, Nat.reduceEqDiff, ↓reduceIte, Nat.reduceAdd, Nat.reduceLT, Nat.reduceLeDiff, Nat.reduceMul]
  exact gives_self (encS_lt _ _) hst
end Go.Proofs.YtcdnooalfkbmgaaDoor.Gx

namespace Go.Proofs.YtcdnooalfkbmgaaDoor.Gx
open Go Go.Proofs.YtcdnooalfkbmgaaDoor.Gw
set_option linter.unusedSimpArgs false
set_option linter.unusedVariables false

mutual
def bareD : Datum → Datum
  | .mk k n nm _ _ kids => bif decide (k = 3) then .mk k 0 nm 0 0 [] else bif decide (k = 4) then .mk k 0 [] 0 0 (bareDs kids) else .mk k n [] 0 0 []
def bareDs : List Datum → List Datum
  | [] => []
  | d :: r => bareD d :: bareDs r
end
theorem bareDs_map : ∀ l : List Datum, bareDs l = l.map bareD
  | [] => rfl
  | d :: r => by simp only [bareDs, List.map_cons, bareDs_map r]
theorem bareD_mk (k n : Int) (nm : Str) (s l : Int) (kids : List Datum) : bareD (.mk k n nm s l kids) = bif decide (k = 3) then .mk k 0 nm 0 0 [] else bif decide (k = 4) then .mk k 0 [] 0 0 (kids.map bareD) else .mk k n [] 0 0 [] := by
  simp only [bareD, bareDs_map]

mutual
/-- Lists have few kids. -/
def smallD : Datum → Prop
  | .mk k _ _ _ _ kids => k = 4 → kids.length ≤ 2000 ∧ smallDs kids
def smallDs : List Datum → Prop
  | [] => True
  | d :: r => smallD d ∧ smallDs r
end
theorem smallDs_mem : ∀ {l : List Datum} {d : Datum}, smallDs l → d ∈ l → smallD d
  | [], d, _, h => by simp at h
  | x :: r, d, h, hd => by
    rcases List.mem_cons.1 hd with rfl | hd
    · exact h.1
    · exact smallDs_mem h.2 hd
theorem take_next {α : Type} {l : List α} {i : Nat} {a : α} (h : l[i]? = some a) : l.take (i + 1) = l.take i ++ [a] := by
  rw [List.take_add_one, h]; rfl

end Go.Proofs.YtcdnooalfkbmgaaDoor.Gx
