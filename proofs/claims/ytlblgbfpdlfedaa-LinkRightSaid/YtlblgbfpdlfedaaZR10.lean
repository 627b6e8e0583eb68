/- The image of units: procedures one unit behind the other, a start for each. What an image's procedures are around is what the units' are, so much on. The image of units is right. Contract of the document's answer: what is wrong with an image. The law LinkRight answers true. What a row needs: how what comes in is read. How what comes in for LinkRight is read. The row of the law LinkRight, whatever comes in: it answers true, and what came in reads as it did. -/
import Derived.Test.YtlblgbfpdlfedaaZR9
import Derived.WalkKit
import Derived.ProofKit
import Derived.OpenShut
import Derived.ShutString
import Derived.ChangeOld
import Derived.Below
import Derived.SizedLaws
import Derived.Carry
import Derived.JoinedCond
import Derived.Test.YtlblgbfpdlfedaaRows

namespace Go.Proofs.Ytlblgbfpdlfedaa.Gx
open Go Go.Proofs.Ytlblgbfpdlfedaa.Gw
set_option linter.unusedSimpArgs false
set_option linter.unusedVariables false

/-- A procedure of a unit in an image. -/
def conv (gl : List Bind') (nm : Str) (base : Int) (q : Pr) : Pr := ⟨q.args, q.code.map fun x => (insL gl nm base x).1⟩
def imgP (gl : List Bind') : List Unit' → Nat → List Pr
  | [], _ => []
  | u :: r, b => u.protos.map (conv gl u.name b) ++ imgP gl r (b + u.protos.length)
def imgS : List Unit' → Nat → List Int
  | [], _ => []
  | u :: r, b => (b : Int) :: imgS r (b + u.protos.length)
def sumP : List Unit' → Nat
  | [] => 0
  | u :: r => u.protos.length + sumP r
theorem imgP_len (gl : List Bind') : ∀ (r : List Unit') (b : Nat), (imgP gl r b).length = sumP r
  | [], _ => rfl
  | u :: r, b => by rw [imgP, List.length_append, List.length_map, imgP_len gl r, sumP]
theorem imgS_len : ∀ (r : List Unit') (b : Nat), (imgS r b).length = r.length
  | [], _ => rfl
  | u :: r, b => by rw [imgS, List.length_cons, imgS_len r, List.length_cons]
theorem insL_err (gl : List Bind') (nm : Str) (b c : Int) (x : Ins) : (insL gl nm b x).2 = (insL gl nm c x).2 := by
  unfold insL
  cases (decide (x.op = 5) || decide (x.op = 12) || decide (x.op = 13))
  · cases decide (x.op = 7) <;> rfl
  · rfl
theorem codeL_zero {gl : List Bind'} {nm : Str} {base : Int} : ∀ {l out : List Ins}, (codeL gl nm base l out).2 = 0 → ∀ x ∈ l, (insL gl nm 0 x).2 = 0
  | [], out, _, x, hx => by simp at hx
  | y :: r, out, h, x, hx => by
    rw [codeL] at h
    cases h1 : decide ((insL gl nm base y).2 = 0) with
    | false => rw [h1] at h; simp only [Bool.not_false, cond_true] at h; exact absurd h (of_decide_eq_false h1)
    | true =>
      rw [h1] at h
      simp only [Bool.not_true, cond_false] at h
      rcases List.mem_cons.1 hx with rfl | hx
      · rw [insL_err gl nm 0 base]; exact of_decide_eq_true h1
      · exact codeL_zero h x hx
theorem protosL_zero {gl : List Bind'} {nm : Str} {base : Int} : ∀ {l ps : List Pr}, (protosL gl nm base l ps).2 = 0 → ∀ q ∈ l, ∀ x ∈ q.code, (insL gl nm 0 x).2 = 0
  | [], ps, _, q, hq => by simp at hq
  | y :: r, ps, h, q, hq => by
    rw [protosL] at h
    cases h1 : decide ((codeL gl nm base y.code []).2 = 0) with
    | false => rw [h1] at h; simp only [Bool.not_false, cond_true] at h; exact absurd h (of_decide_eq_false h1)
    | true =>
      rw [h1] at h
      simp only [Bool.not_true, cond_false] at h
      rcases List.mem_cons.1 hq with rfl | hq
      · exact codeL_zero (of_decide_eq_true h1)
      · exact protosL_zero h q hq
theorem unitsL_img {gl : List Bind'} : ∀ {r : List Unit'} {i : Nat} {ps : List Pr} {sts : List Int}, (unitsL gl r i ps sts).1 = 0 →
    (unitsL gl r i ps sts).2.2 = (ps ++ imgP gl r ps.length, sts ++ imgS r ps.length) ∧ ∀ u ∈ r, ∀ q ∈ u.protos, ∀ x ∈ q.code, (insL gl u.name 0 x).2 = 0
  | [], i, ps, sts, _ => ⟨by simp [unitsL, imgP, imgS], fun u hu => by simp at hu⟩
  | u :: r, i, ps, sts, h => by
    rw [unitsL] at h ⊢
    cases h1 : decide ((protosL gl u.name ps.length u.protos ps).2 = 0) with
    | false => rw [h1] at h; simp only [Bool.not_false, cond_true] at h; exact absurd h (of_decide_eq_false h1)
    | true =>
      rw [h1] at h
      simp only [Bool.not_true, cond_false] at h ⊢
      have hz := of_decide_eq_true h1
      have hm : (protosL gl u.name ps.length u.protos ps).1 = ps ++ u.protos.map (conv gl u.name ps.length) := protosL_map hz
      obtain ⟨e1, e2⟩ := unitsL_img h
      refine ⟨?_, fun v hv => ?_⟩
      · rw [e1, hm, imgP, imgS, List.length_append, List.length_map]
        simp
      · rcases List.mem_cons.1 hv with rfl | hv
        · exact protosL_zero hz
        · exact e2 v hv
/-- Globals are there once, and no procedure's own. -/
def GlOk (gl : List Bind') : Prop := gl.Nodup ∧ ∀ b ∈ gl, b.here = []
theorem globI_ok (nm : Str) : ∀ (l : List Ins) (gl : List Bind'), GlOk gl → GlOk (globI nm l gl).2
  | [], gl, h => h
  | x :: r, gl, h => by
    rw [globI]
    cases decide (x.op = 13)
    · exact globI_ok nm r gl h
    · cases decide (x.lib = nm)
      · exact h
      · simp only [Bool.not_true, cond_false]
        refine globI_ok nm r _ ?_
        by_cases hm : (⟨[], x.lib, x.own⟩ : Bind') ∈ gl
        · simp only [hm, decide_true, Bool.not_true, cond_false]; exact h
        · simp only [hm, decide_false, Bool.not_false, cond_true]
          refine ⟨List.nodup_append.2 ⟨h.1, by simp, fun a ha b hb => ?_⟩, fun b hb => ?_⟩
          · rw [List.mem_singleton] at hb; subst hb; intro e; subst e; exact hm ha
          · rcases List.mem_append.1 hb with hb | hb
            · exact h.2 b hb
            · rw [List.mem_singleton] at hb; rw [hb]
theorem globP_ok (nm : Str) : ∀ (l : List Pr) (gl : List Bind'), GlOk gl → GlOk (globP nm l gl).2
  | [], gl, h => h
  | p :: r, gl, h => by
    rw [globP]
    have h1 := globI_ok nm p.code gl h
    cases decide ((globI nm p.code gl).1 = 0)
    · exact h1
    · exact globP_ok nm r _ h1
theorem checkL_ok (L : List Unit') : ∀ (r : List Unit') (i : Nat) (gl : List Bind'), GlOk gl → GlOk (checkL L r i gl).2.2
  | [], i, gl, h => h
  | u :: r, i, gl, h => by
    rw [checkL]
    have h1 := globP_ok u.name u.protos gl h
    cases decide (errL L i u = 0)
    · exact h
    · cases decide ((globP u.name u.protos gl).1 = 0)
      · exact h1
      · exact checkL_ok L r (i + 1) _ h1

mutual
theorem shapeD_bare : ∀ (d : Datum) (deep c : Int), goodD d → shapeD (bareD d) deep c = shapeD d deep c
  | .mk k n nm s l kids, deep, c, h => by
    rw [goodD] at h
    obtain ⟨hk, h4, h3⟩ := h
    rcases hk with rfl | rfl | rfl | rfl
    · simp [bareD, shapeD]
    · simp [bareD, shapeD]
    · obtain ⟨rfl, rfl⟩ := h3 rfl
      simp [bareD, shapeD]
    · have := shapeDs_bare kids (deep + 1) (c + 1) (h4 rfl).2
      simp [bareD, shapeD, this]
theorem shapeDs_bare : ∀ (l : List Datum) (deep c : Int), goodDs l → shapeDs (bareDs l) deep c = shapeDs l deep c
  | [], _, _, _ => rfl
  | d :: r, deep, c, h => by
    rw [goodDs] at h
    rw [bareDs, shapeDs, shapeDs, shapeD_bare d deep c h.1, shapeDs_bare r _ _ h.2]
end
theorem wrongL_bare {q : Datum} (h : (wrongL [q] 0 0).1 = 0) : (wrongL [bareD q] 0 0).1 = 0 := by
  have hg := wrongL_good h
  rw [wrongL] at h ⊢
  rw [shapeD_bare q 1 0 hg]
  exact h
theorem stackG_conv (f : Ins → Ins) (h1 : ∀ x, (f x).op = x.op) (h2 : ∀ x, x.op = 8 ∨ x.op = 9 ∨ x.op = 10 → (f x).a = x.a) (n : Nat) (body : Bool) :
    ∀ (r : List Ins) (i : Nat) (high : List Int), stackG n body (r.map f) i high = stackG n body r i high
  | [], _, _ => rfl
  | x :: r, i, high => by
    have hm : movesI x.op (f x).a = movesI x.op x.a := by
      by_cases h8 : x.op = 8
      · rw [h2 x (.inl h8)]
      · simp [movesI, h8]
    rw [List.map_cons, stackG, stackG]
    simp only [h1, hm, stackG_conv f h1 h2 n body r]
    by_cases h9 : x.op = 9
    · rw [h2 x (.inr (.inl h9))]
    · by_cases h10 : x.op = 10
      · rw [h2 x (.inr (.inr h10))]
      · simp only [h9, h10, decide_false, cond_false]
theorem insL_a {gl : List Bind'} {nm : Str} {base : Int} {x : Ins} (h5 : x.op ≠ 5) (h12 : x.op ≠ 12) (h13 : x.op ≠ 13) (h7 : x.op ≠ 7) (h1 : x.op ≠ 1) (h2 : x.op ≠ 2) (h3 : x.op ≠ 3) (h6 : x.op ≠ 6) (h14 : x.op ≠ 14) (h15 : x.op ≠ 15) :
    insL gl nm base x = ({ op := x.op, a := x.a }, 0) := by
  simp [insL, *]
theorem stackE_conv (gl : List Bind') (nm : Str) (base : Int) (q : Pr) (body : Bool) : stackE (conv gl nm base q).code body = stackE q.code body := by
  simp only [stackE, conv, List.length_map]
  refine stackG_conv (fun x => (insL gl nm base x).1) (fun x => (insL_op gl nm base x).1) (fun x hx => ?_) _ _ _ _ _
  show (insL gl nm base x).1.a = x.a
  rw [insL_a (by omega) (by omega) (by omega) (by omega) (by omega) (by omega) (by omega) (by omega) (by omega) (by omega)]
theorem formE_map {f : Pr → Pr} (hf : ∀ q, (f q).args = q.args ∧ (f q).code.length = q.code.length) : ∀ {l : List Pr}, formE (l.map f) = formE l
  | [] => rfl
  | q :: r => by rw [List.map_cons, formE, formE, (hf q).1, (hf q).2, formE_map hf]
theorem formE_app : ∀ {l m : List Pr}, formE l = 0 → formE m = 0 → formE (l ++ m) = 0
  | [], m, _, h => h
  | q :: r, m, h1, h2 => by
    rw [List.cons_append, formE]
    rw [formE] at h1
    cases ha : (decide ((q.code.length : Int) < 1) || decide (6000 < (q.code.length : Int)))
    · rw [ha] at h1
      cases hb : (decide (q.args < 0) || decide (2000 < q.args))
      · rw [hb] at h1; exact formE_app h1 h2
      · rw [hb] at h1; simp at h1
    · rw [ha] at h1; simp at h1
end Go.Proofs.Ytlblgbfpdlfedaa.Gx

namespace Go.Proofs.Ytlblgbfpdlfedaa.Gx
open Go Go.Proofs.Ytlblgbfpdlfedaa.Gw
set_option linter.unusedSimpArgs false
set_option linter.unusedVariables false

/-- A unit's procedures at a place of an image. -/
structure At (ps PS : List Pr) (gl : List Bind') (nm : Str) (b : Nat) : Prop where
  got : ∀ j : Nat, j < ps.length → PS.getD (b + j) ⟨0, []⟩ = conv gl nm b (ps.getD j ⟨0, []⟩)
  room : b + ps.length ≤ PS.length
  few : PS.length ≤ 1000000
structure Sim (n b : Nat) (ar AR : List Int) : Prop where
  len : ar.length = n
  room : b + n ≤ AR.length
  same : ∀ j : Nat, j < n → AR.getD (b + j) 0 = ar.getD j 0
/-- Other places are as they were. -/
def Fr (n b : Nat) (AR AR' : List Int) : Prop := AR'.length = AR.length ∧ ∀ j : Nat, j < b ∨ b + n ≤ j → AR'.getD j 0 = AR.getD j 0
theorem Fr.refl (n b : Nat) (AR : List Int) : Fr n b AR AR := ⟨rfl, fun _ _ => rfl⟩
theorem Fr.trans {n b : Nat} {A B C : List Int} (h : Fr n b A B) (k : Fr n b B C) : Fr n b A C := ⟨k.1.trans h.1, fun j hj => (k.2 j hj).trans (h.2 j hj)⟩
theorem getD_set_e {l : List Int} {k : Nat} {x : Int} (h : k < l.length) : (l.set k x).getD k 0 = x := by
  rw [List.getD_eq_getElem?_getD, List.getElem?_set_self h]; rfl
theorem getD_set_n {l : List Int} {k j : Nat} {x : Int} (h : k ≠ j) : (l.set k x).getD j 0 = l.getD j 0 := by
  rw [List.getD_eq_getElem?_getD, List.getElem?_set_ne h, ← List.getD_eq_getElem?_getD]
theorem Sim.set {n b : Nat} {ar AR : List Int} (h : Sim n b ar AR) {k : Nat} (hk : k < n) (x : Int) : Sim n b (ar.set k x) (AR.set (b + k) x) ∧ Fr n b AR (AR.set (b + k) x) := by
  have hl := h.len
  have hr := h.room
  refine ⟨⟨by rw [List.length_set, hl], by rw [List.length_set]; exact hr, fun j hj => ?_⟩, by rw [List.length_set], fun j hj => ?_⟩
  · by_cases e : k = j
    · subst e; rw [getD_set_e (by omega), getD_set_e (by omega)]
    · rw [getD_set_n (by omega), getD_set_n e, h.same j hj]
  · rw [getD_set_n (by omega)]
theorem ins_sim {ps PS : List Pr} {gl : List Bind'} {nm : Str} {b p : Nat} {ar AR : List Int} {x : Ins} (hA : At ps PS gl nm b) (hS : Sim ps.length b ar AR) (hp : p < ps.length)
    (he : (insL gl nm 0 x).2 = 0) (h : (insE ps (-1) p x ar).1 = 0) :
    (insE PS gl.length (b + p) (insL gl nm b x).1 AR).1 = 0 ∧ Sim ps.length b (insE ps (-1) p x ar).2 (insE PS gl.length (b + p) (insL gl nm b x).1 AR).2 ∧ Fr ps.length b AR (insE PS gl.length (b + p) (insL gl nm b x).1 AR).2 := by
  rw [insL_err gl nm 0 b] at he
  have hop := (insL_op gl nm b x).1
  have hpp := hS.same p hp
  have hgp := hA.got p hp
  by_cases h1 : x.op = 1
  · have e : (insL gl nm b x).1 = { op := x.op, n := x.n } := by simp [insL, h1]
    have e2 : insE PS gl.length (b + p) (insL gl nm b x).1 AR = ((insE ps (-1) p x ar).1, AR) := by rw [e]; simp [insE, h1]
    have e3 : (insE ps (-1) p x ar).2 = ar := by simp [insE, h1]
    rw [e2, e3]; exact ⟨h, hS, Fr.refl _ _ _⟩
  by_cases h2 : x.op = 2
  · have e : (insL gl nm b x).1 = { op := x.op, n := x.n } := by simp [insL, h2]
    have e2 : insE PS gl.length (b + p) (insL gl nm b x).1 AR = ((insE ps (-1) p x ar).1, AR) := by rw [e]; simp [insE, h2]
    have e3 : (insE ps (-1) p x ar).2 = ar := by simp [insE, h2]
    rw [e2, e3]; exact ⟨h, hS, Fr.refl _ _ _⟩
  by_cases h3 : x.op = 3
  · have e : (insL gl nm b x).1 = { op := x.op, quote := bareD x.quote } := by simp [insL, h3]
    have e2 : insE PS gl.length (b + p) (insL gl nm b x).1 AR = ((wrongL [bareD x.quote] 0 0).1, AR) := by rw [e]; simp [insE, h3]
    have e3 : insE ps (-1) p x ar = ((wrongL [x.quote] 0 0).1, ar) := by simp [insE, h3]
    rw [e3] at h ⊢; rw [e2]; exact ⟨wrongL_bare h, hS, Fr.refl _ _ _⟩
  by_cases h5 : x.op = 5 ∨ x.op = 12 ∨ x.op = 13
  · have e3 : (insE ps (-1) p x ar).2 = ar := by rcases h5 with h5 | h5 | h5 <;> simp [insE, h5]
    have hi : 0 ≤ idxB ⟨[], x.lib, x.own⟩ 0 gl := by
      refine Classical.byContradiction fun hn => ?_
      have : decide (idxB ⟨[], x.lib, x.own⟩ 0 gl < 0) = true := by simp; omega
      rcases h5 with h5 | h5 | h5 <;> simp [insL, h5, this] at he
    have ea : (insL gl nm b x).1.a = idxB ⟨[], x.lib, x.own⟩ 0 gl := by
      have : decide (idxB ⟨[], x.lib, x.own⟩ 0 gl < 0) = false := by simp; omega
      unfold insL
      have h' : (decide (x.op = 5) || decide (x.op = 12) || decide (x.op = 13)) = true := by rcases h5 with h5 | h5 | h5 <;> simp [h5]
      rw [h', this]
      simp only [cond_true, cond_false]
      cases (decide (x.op = 12) && !decide (x.lib = nm)) <;> rfl
    have hm : (⟨[], x.lib, x.own⟩ : Bind') ∈ gl := by
      have := idxB_ge ⟨[], x.lib, x.own⟩ gl 0
      simpa [hi] using this
    obtain ⟨j, hj, -, hjl⟩ := idxB_at _ gl 0 hm
    have e2 : insE PS gl.length (b + p) (insL gl nm b x).1 AR = (globalE gl.length (insL gl nm b x).1, AR) := by
      rcases h5 with h5 | h5 | h5 <;> (rw [h5] at hop; simp [insE, hop])
    have e4 : globalE gl.length (insL gl nm b x).1 = 0 := by
      unfold globalE
      have d0 : decide ((0 : Int) ≤ (gl.length : Int)) = true := by simp
      rw [d0, ea, hj]
      simp only [cond_true, amongE]
      have d1 : (decide (((0 + j : Nat) : Int) < 0) || decide ((gl.length : Int) ≤ ((0 + j : Nat) : Int))) = false := by
        simp only [Bool.or_eq_false_iff, decide_eq_false_iff_not]; omega
      rw [d1]; rfl
    rw [e2, e3, e4]; exact ⟨rfl, hS, Fr.refl _ _ _⟩
  have h5' : x.op ≠ 5 := fun e => h5 (.inl e)
  have h12 : x.op ≠ 12 := fun e => h5 (.inr (.inl e))
  have h13 : x.op ≠ 13 := fun e => h5 (.inr (.inr e))
  by_cases h6 : x.op = 6
  · have e : (insL gl nm b x).1 = { op := x.op, own := x.own } := by simp [insL, h6]
    have e2 : insE PS gl.length (b + p) (insL gl nm b x).1 AR = ((insE ps (-1) p x ar).1, AR) := by rw [e]; simp [insE, h6]
    have e3 : (insE ps (-1) p x ar).2 = ar := by simp [insE, h6]
    rw [e2, e3]; exact ⟨h, hS, Fr.refl _ _ _⟩
  by_cases h7 : x.op = 7
  · have hr := hA.room
    have hf := hA.few
    have e : (insL gl nm b x).1 = { op := x.op, a := IntKind.i64.wrap ((b : Int) + x.a) } := by simp [insL, h7]
    have e3 : insE ps (-1) p x ar = (bif decide (x.a ≤ p) || decide ((ps.length : Int) ≤ x.a) then (3, ar) else bif decide (0 ≤ ar.getD x.a.toNat 0) then (8, ar)
     else (0, ar.set x.a.toNat (IntKind.i64.wrap (ar.getD p 0 + (ps.getD x.a.toNat ⟨0, []⟩).args)))) := by simp only [insE, h7]; rfl
    rw [e3] at h ⊢
    cases h8 : decide (x.a ≤ p) || decide ((ps.length : Int) ≤ x.a) with
    | true => rw [h8] at h; simp at h
    | false =>
      rw [h8] at h
      cases h9 : decide (0 ≤ ar.getD x.a.toNat 0) with
      | true => rw [h9] at h; simp at h
      | false =>
        simp only [Bool.or_eq_false_iff, decide_eq_false_iff_not] at h8
        have h9' := of_decide_eq_false h9
        obtain ⟨a, ha⟩ : ∃ a : Nat, x.a = (a : Int) := ⟨x.a.toNat, by omega⟩
        rw [ha] at h8 h9' h9 e ⊢
        have hal : a < ps.length := by omega
        rw [Int.toNat_natCast] at h9' h9 ⊢
        have hw : IntKind.i64.wrap ((b : Int) + (a : Int)) = ((b + a : Nat) : Int) := by
          rw [wrap_i64 (by omega) (by omega)]; omega
        rw [hw, h7] at e
        have e4 : insE PS gl.length (b + p) (insL gl nm b x).1 AR = (0, AR.set (b + a) (IntKind.i64.wrap (ar.getD p 0 + (ps.getD a ⟨0, []⟩).args))) := by
          rw [e]
          have d1 : (decide (((b + a : Nat) : Int) ≤ ((b + p : Nat) : Int)) || decide ((PS.length : Int) ≤ ((b + a : Nat) : Int))) = false := by
            simp only [Bool.or_eq_false_iff, decide_eq_false_iff_not]; omega
          have d2 : decide (0 ≤ AR.getD (b + a) 0) = false := by
            rw [hS.same a hal]; exact h9
          have e5 : insE PS gl.length (b + p) ({ op := 7, a := ((b + a : Nat) : Int) } : Ins) AR = (bif decide (((b + a : Nat) : Int) ≤ ((b + p : Nat) : Int)) || decide ((PS.length : Int) ≤ ((b + a : Nat) : Int)) then (3, AR) else bif decide (0 ≤ AR.getD (((b + a : Nat) : Int)).toNat 0) then (8, AR)
             else (0, AR.set (((b + a : Nat) : Int)).toNat (IntKind.i64.wrap (AR.getD (b + p) 0 + (PS.getD (((b + a : Nat) : Int)).toNat ⟨0, []⟩).args)))) := rfl
          rw [e5, Int.toNat_natCast, d1, d2, hpp, hA.got a hal]
          rfl
        have d8 : (decide ((a : Int) ≤ (p : Int)) || decide ((ps.length : Int) ≤ (a : Int))) = false := by
          simp only [Bool.or_eq_false_iff, decide_eq_false_iff_not]; exact h8
        rw [e4]
        simp only [cond_false]
        exact ⟨trivial, hS.set hal _⟩
  by_cases h14 : x.op = 14 ∨ x.op = 15
  · have e3 : insE ps (-1) p x ar = (0, ar) := by rcases h14 with h | h <;> simp [insE, h]
    have e2 : insE PS gl.length (b + p) (insL gl nm b x).1 AR = (0, AR) := by rcases h14 with h | h <;> (rw [h] at hop; simp [insE, hop])
    rw [e2, e3]; exact ⟨rfl, hS, Fr.refl _ _ _⟩
  have e : (insL gl nm b x).1 = { op := x.op, a := x.a } := by rw [insL_a h5' h12 h13 h7 h1 h2 h3 h6 (fun e => h14 (.inl e)) (fun e => h14 (.inr e))]
  by_cases h4 : x.op = 4 ∨ x.op = 11
  · have e3 : insE ps (-1) p x ar = (amongE x.a (ar.getD p 0), ar) := by rcases h4 with h | h <;> simp [insE, h]
    have e2 : insE PS gl.length (b + p) (insL gl nm b x).1 AR = (amongE x.a (ar.getD p 0), AR) := by rw [e, ← hpp]; rcases h4 with h | h <;> simp [insE, h]
    rw [e3] at h ⊢; rw [e2]; exact ⟨h, hS, Fr.refl _ _ _⟩
  by_cases h8 : x.op = 8
  · have e3 : insE ps (-1) p x ar = (amongE x.a 2001, ar) := by simp [insE, h8]
    have e2 : insE PS gl.length (b + p) (insL gl nm b x).1 AR = (amongE x.a 2001, AR) := by rw [e]; simp [insE, h8]
    rw [e3] at h ⊢; rw [e2]; exact ⟨h, hS, Fr.refl _ _ _⟩
  by_cases h9 : x.op = 9 ∨ x.op = 10
  · have e3 : insE ps (-1) p x ar = (amongE x.a ((ps.getD p ⟨0, []⟩).code.length), ar) := by rcases h9 with h | h <;> simp [insE, h]
    have hcl : (PS.getD (b + p) ⟨0, []⟩).code.length = (ps.getD p ⟨0, []⟩).code.length := by rw [hgp]; simp [conv]
    have e2 : insE PS gl.length (b + p) (insL gl nm b x).1 AR = (amongE x.a ((ps.getD p ⟨0, []⟩).code.length), AR) := by rw [e, ← hcl]; rcases h9 with h | h <;> simp [insE, h]
    rw [e3] at h ⊢; rw [e2]; exact ⟨h, hS, Fr.refl _ _ _⟩
  exfalso
  have : insE ps (-1) p x ar = (1, ar) := by
    have n9 : x.op ≠ 9 := fun e => h9 (.inl e)
    have n10 : x.op ≠ 10 := fun e => h9 (.inr e)
    have n4 : x.op ≠ 4 := fun e => h4 (.inl e)
    have n11 : x.op ≠ 11 := fun e => h4 (.inr e)
    have n14 : x.op ≠ 14 := fun e => h14 (.inl e)
    have n15 : x.op ≠ 15 := fun e => h14 (.inr e)
    simp [insE, h1, h2, h3, h5', h12, h13, h6, h7, h8, n9, n10, n4, n11, n14, n15]
  rw [this] at h
  simp at h
theorem insG_sim {ps PS : List Pr} {gl : List Bind'} {nm : Str} {b p : Nat} (hA : At ps PS gl nm b) (hp : p < ps.length) : ∀ {l : List Ins} {ar AR : List Int}, Sim ps.length b ar AR → (∀ x ∈ l, (insL gl nm 0 x).2 = 0) → (insG ps (-1) p l ar).1 = 0 →
    (insG PS gl.length (b + p) (l.map fun x => (insL gl nm b x).1) AR).1 = 0 ∧ Sim ps.length b (insG ps (-1) p l ar).2 (insG PS gl.length (b + p) (l.map fun x => (insL gl nm b x).1) AR).2 ∧ Fr ps.length b AR (insG PS gl.length (b + p) (l.map fun x => (insL gl nm b x).1) AR).2
  | [], ar, AR, hS, _, _ => ⟨rfl, hS, Fr.refl _ _ _⟩
  | x :: r, ar, AR, hS, he, h => by
    rw [insG] at h ⊢
    rw [List.map_cons, insG]
    cases h1 : decide ((insE ps (-1) p x ar).1 = 0) with
    | false => rw [h1] at h; simp only [Bool.not_false, cond_true] at h; exact absurd h (of_decide_eq_false h1)
    | true =>
      rw [h1] at h
      simp only [Bool.not_true, cond_false] at h ⊢
      obtain ⟨e1, e2, e3⟩ := ins_sim hA hS hp (he x (by simp)) (of_decide_eq_true h1)
      rw [e1]
      obtain ⟨f1, f2, f3⟩ := insG_sim hA hp e2 (fun y hy => he y (by simp [hy])) h
      simp only [decide_true, Bool.not_true, cond_false]
      exact ⟨f1, f2, e3.trans f3⟩
theorem protoG_sim {ps PS : List Pr} {gl : List Bind'} {nm : Str} {b : Nat} {bs : List Int} {rest : List Pr} (hA : At ps PS gl nm b) (hb : ∀ p : Nat, p < ps.length → (((b + p : Nat) : Int) ∈ bs ↔ p = 0)) (he : ∀ q ∈ ps, ∀ x ∈ q.code, (insL gl nm 0 x).2 = 0) :
    ∀ {r : List Pr} {p : Nat} {ar AR : List Int}, p + r.length = ps.length → (∀ q ∈ r, q ∈ ps) → Sim ps.length b ar AR → protoG ps (-1) [0] r p ar = 0 →
    ∃ AR', protoG PS gl.length bs (r.map (conv gl nm b) ++ rest) (b + p) AR = protoG PS gl.length bs rest (b + ps.length) AR' ∧ Fr ps.length b AR AR'
  | [], p, ar, AR, hl, _, hS, _ => ⟨AR, by simp only [List.length_nil, Nat.add_zero] at hl; rw [← hl]; rfl, Fr.refl _ _ _⟩
  | q :: r, p, ar, AR, hl, hm, hS, h => by
    rw [List.length_cons] at hl
    rw [protoG] at h
    rw [List.map_cons, List.cons_append, protoG]
    have hp : p < ps.length := by omega
    rw [hS.same p hp]
    cases h1 : decide (ar.getD p 0 < 0) with
    | true => rw [h1] at h; simp at h
    | false =>
      rw [h1] at h
      cases h2 : decide ((insG ps (-1) p q.code ar).1 = 0) with
      | false => rw [h2] at h; simp only [Bool.not_false, cond_true, cond_false] at h; exact absurd h (of_decide_eq_false h2)
      | true =>
        rw [h2] at h
        obtain ⟨e1, e2, e3⟩ := insG_sim hA hp hS (he q (hm q (by simp))) (of_decide_eq_true h2)
        have hbb : decide (((b + p : Nat) : Int) ∈ bs) = decide ((p : Int) ∈ [0]) := by
          rw [decide_eq_decide, hb p hp]; simp
        rw [stackE_conv, hbb]
        cases h3 : decide (stackE q.code (decide ((p : Int) ∈ [0])) = 0) with
        | false => rw [h3] at h; simp only [Bool.not_false, Bool.not_true, cond_true, cond_false] at h; exact absurd h (of_decide_eq_false h3)
        | true =>
          rw [h3] at h
          simp only [Bool.not_true, cond_false] at h
          obtain ⟨AR', g1, g2⟩ := protoG_sim hA hb he (by omega) (fun y hy => hm y (by simp [hy])) e2 h
          refine ⟨AR', ?_, e3.trans g2⟩
          rw [← g1]
          have : (conv gl nm b q).code = q.code.map fun x => (insL gl nm b x).1 := rfl
          rw [this, e1]
          simp only [decide_true, Bool.not_true, cond_false]
          rfl
end Go.Proofs.Ytlblgbfpdlfedaa.Gx

namespace Go.Proofs.Ytlblgbfpdlfedaa.Gx
open Go Go.Proofs.Ytlblgbfpdlfedaa.Gw
set_option linter.unusedSimpArgs false
set_option linter.unusedVariables false

theorem bodiesG_zero {ps : List Pr} : ∀ {bs : List Int} {ar ar' : List Int}, bodiesG ps bs ar = some ar' → ∀ b ∈ bs, (ps.getD b.toNat ⟨0, []⟩).args = 0
  | [], _, _, _, b, hb => by simp at hb
  | c :: r, ar, ar', h, b, hb => by
    rw [bodiesG] at h
    cases h1 : decide ((ps.getD c.toNat ⟨0, []⟩).args = 0) with
    | false => rw [h1] at h; simp at h
    | true =>
      rw [h1] at h
      rcases List.mem_cons.1 hb with rfl | hb
      · exact of_decide_eq_true h1
      · exact bodiesG_zero h b hb
theorem bodiesG_some {ps : List Pr} : ∀ {bs : List Int} {ar : List Int}, (∀ b ∈ bs, 0 ≤ b ∧ b < (ar.length : Int) ∧ (ps.getD b.toNat ⟨0, []⟩).args = 0) →
    ∃ ar', bodiesG ps bs ar = some ar' ∧ ar'.length = ar.length ∧ ∀ j : Nat, j < ar.length → ar'.getD j 0 = if (j : Int) ∈ bs then 0 else ar.getD j 0
  | [], ar, _ => ⟨ar, rfl, rfl, fun j _ => by simp⟩
  | c :: r, ar, h => by
    obtain ⟨h1, h2, h3⟩ := h c (by simp)
    obtain ⟨ar', e1, e2, e3⟩ := bodiesG_some (bs := r) (ar := ar.set c.toNat 0) (fun b hb => by rw [List.length_set]; exact h b (by simp [hb]))
    refine ⟨ar', by rw [bodiesG, h3]; exact e1, by rw [e2, List.length_set], fun j hj => ?_⟩
    rw [e3 j (by rw [List.length_set]; exact hj)]
    by_cases hjr : (j : Int) ∈ r
    · simp [hjr]
    · by_cases hjc : (j : Int) = c
      · have : c.toNat = j := by omega
        rw [this, getD_set_e hj]; simp [hjc]
      · have : c.toNat ≠ j := by omega
        rw [getD_set_n this]; simp [hjr, hjc]
/-- What a unit must be. -/
structure UG (gl : List Bind') (u : Unit') : Prop where
  ok : UnitOk u
  ins : ∀ q ∈ u.protos, ∀ x ∈ q.code, (insL gl u.name 0 x).2 = 0
theorem UnitOk.arg {u : Unit'} (h : UnitOk u) : (u.protos.getD 0 ⟨0, []⟩).args = 0 := by
  have hs := h.shape
  unfold shapeE at hs
  cases hb : bodiesG u.protos [0] (List.replicate u.protos.length (-1)) with
  | none => rw [hb] at hs; simp at hs
  | some ar => exact bodiesG_zero hb 0 (by simp)
theorem UnitOk.run {u : Unit'} (h : UnitOk u) : protoG u.protos (-1) [0] u.protos 0 ((List.replicate u.protos.length (-1)).set 0 0) = 0 := by
  have hs := h.shape
  unfold shapeE at hs
  rw [bodiesG] at hs
  rw [show (0 : Int).toNat = 0 from rfl, h.arg] at hs
  exact hs
theorem imgS_ge : ∀ (r : List Unit') (b : Nat), ∀ s ∈ imgS r b, (b : Int) ≤ s
  | [], b, s, h => by simp [imgS] at h
  | u :: r, b, s, h => by
    rw [imgS] at h
    rcases List.mem_cons.1 h with rfl | h
    · omega
    · have := imgS_ge r _ s h; omega
theorem imgS_at {gl : List Bind'} : ∀ {r : List Unit'} {b : Nat}, (∀ u ∈ r, UnitOk u) → ∀ s ∈ imgS r b, ∃ k : Nat, s = ((b + k : Nat) : Int) ∧ k < sumP r ∧ ((imgP gl r b).getD k ⟨0, []⟩).args = 0
  | [], b, _, s, h => by simp [imgS] at h
  | u :: r, b, hu, s, h => by
    rw [imgS] at h
    have h1 := hu u (by simp)
    have hf := h1.few.1
    rcases List.mem_cons.1 h with rfl | h
    · refine ⟨0, rfl, by rw [sumP]; omega, ?_⟩
      have ha := h1.arg
      rw [imgP]
      cases hp : u.protos with
      | nil => rw [hp] at hf; simp at hf
      | cons q l => rw [hp] at ha; exact ha
    · obtain ⟨k, e1, e2, e3⟩ := imgS_at (gl := gl) (fun v hv => hu v (by simp [hv])) s h
      refine ⟨u.protos.length + k, by rw [e1]; omega, by rw [sumP]; omega, ?_⟩
      rw [imgP, List.getD_eq_getElem?_getD, List.getElem?_append_right (by simp), ← List.getD_eq_getElem?_getD]
      simpa using e3
/-- Starts are told in order, among the procedures. -/
def startsB (n : Int) : List Int → Int → Bool
  | [], _ => true
  | s :: r, last => bif decide (s ≤ last) || decide (n ≤ s) then false else startsB n r s
theorem startsB_img : ∀ {r : List Unit'} {b : Nat} {last n : Int}, (∀ u ∈ r, UnitOk u) → last < b → ((b + sumP r : Nat) : Int) ≤ n → startsB n (imgS r b) last = true
  | [], b, last, n, _, _, _ => rfl
  | u :: r, b, last, n, hu, h1, h2 => by
    have hf := (hu u (by simp)).few.1
    rw [sumP] at h2
    rw [imgS, startsB]
    have : (decide ((b : Int) ≤ last) || decide (n ≤ (b : Int))) = false := by simp only [Bool.or_eq_false_iff, decide_eq_false_iff_not]; omega
    rw [this]
    exact startsB_img (fun v hv => hu v (by simp [hv])) (by omega) (by omega)
theorem formE_img (gl : List Bind') : ∀ (r : List Unit') (b : Nat), (∀ u ∈ r, formE u.protos = 0) → formE (imgP gl r b) = 0
  | [], b, _ => rfl
  | u :: r, b, h => by
    rw [imgP]
    refine formE_app ?_ (formE_img gl r _ fun v hv => h v (by simp [hv]))
    rw [formE_map (f := conv gl u.name b) fun q => ⟨rfl, by simp [conv]⟩]
    exact h u (by simp)
theorem sumP_le : ∀ (l : List Unit'), (∀ u ∈ l, UnitOk u) → sumP l ≤ 500 * l.length
  | [], _ => by simp [sumP]
  | u :: r, h => by
    have := (h u (by simp)).few.2
    have := sumP_le r fun v hv => h v (by simp [hv])
    rw [sumP, List.length_cons]; omega
theorem getD_app_l {α : Type} {l m : List α} {j : Nat} {d : α} (h : j < l.length) : (l ++ m).getD j d = l.getD j d := by
  rw [List.getD_eq_getElem?_getD, List.getElem?_append_left h, ← List.getD_eq_getElem?_getD]
theorem getD_app_r {α : Type} {l m : List α} {j : Nat} {d : α} : (l ++ m).getD (l.length + j) d = m.getD j d := by
  rw [List.getD_eq_getElem?_getD, List.getElem?_append_right (by omega), ← List.getD_eq_getElem?_getD]
  congr 1; omega
theorem protoG_img {gl : List Bind'} {PS : List Pr} {bs : List Int} (hf : PS.length ≤ 1000000) : ∀ {r : List Unit'} {pre : List Pr} {spre : List Int} {AR : List Int}, (∀ u ∈ r, UG gl u) →
    PS = pre ++ imgP gl r pre.length → bs = spre ++ imgS r pre.length → (∀ s ∈ spre, s < (pre.length : Int)) → AR.length = PS.length →
    (∀ j : Nat, pre.length ≤ j → j < PS.length → AR.getD j 0 = if (j : Int) ∈ bs then 0 else -1) → protoG PS gl.length bs (imgP gl r pre.length) pre.length AR = 0
  | [], pre, spre, AR, _, _, _, _, _, _ => rfl
  | u :: r, pre, spre, AR, hu, hP, hB, hs, hl, ha => by
    have h1 := hu u (by simp)
    have hk := h1.ok.few.1
    rw [imgP] at hP
    rw [imgS] at hB
    have hlen : PS.length = pre.length + (u.protos.length + sumP r) := by rw [hP]; simp [imgP_len]
    have hA : At u.protos PS gl u.name pre.length := by
      refine ⟨fun j hj => ?_, by omega, hf⟩
      rw [hP, getD_app_r, getD_app_l (by rw [List.length_map]; exact hj)]
      rw [List.getD_eq_getElem?_getD, List.getElem?_map, List.getD_eq_getElem?_getD, List.getElem?_eq_getElem hj]
      rfl
    have hb : ∀ p : Nat, p < u.protos.length → (((pre.length + p : Nat) : Int) ∈ bs ↔ p = 0) := by
      intro p hp
      rw [hB]
      constructor
      · intro h
        rcases List.mem_append.1 h with h | h
        · have := hs _ h; omega
        · rcases List.mem_cons.1 h with h | h
          · omega
          · have := imgS_ge _ _ _ h; omega
      · rintro rfl
        simp
    have hS : Sim u.protos.length pre.length ((List.replicate u.protos.length (-1)).set 0 0) AR := by
      refine ⟨by simp, by omega, fun j hj => ?_⟩
      rw [ha _ (by omega) (by omega)]
      simp only [hb j hj]
      by_cases e : j = 0
      · subst e; rw [getD_set_e (by simp; omega)]; rfl
      · rw [getD_set_n (Ne.symm e), if_neg e, List.getD_eq_getElem?_getD, List.getElem?_replicate]
        simp [hj]
    obtain ⟨AR', e1, e2⟩ := protoG_sim (rest := imgP gl r (pre.length + u.protos.length)) hA hb h1.ins (r := u.protos) (p := 0) (by omega) (fun q hq => hq) hS h1.ok.run
    rw [imgP]
    rw [Nat.add_zero] at e1
    rw [e1]
    have hpl : (pre ++ u.protos.map (conv gl u.name pre.length)).length = pre.length + u.protos.length := by simp
    have := protoG_img hf (r := r) (pre := pre ++ u.protos.map (conv gl u.name pre.length)) (spre := spre ++ [(pre.length : Int)]) (AR := AR') (PS := PS) (bs := bs)
      (fun v hv => hu v (by simp [hv])) (by rw [hP, hpl]; simp) (by rw [hB, hpl]; simp) (fun s hs' => by
        rw [hpl]
        rcases List.mem_append.1 hs' with h | h
        · have := hs s h; omega
        · rw [List.mem_singleton] at h; omega) (by rw [e2.1, hl]) (fun j h1 h2 => by rw [hpl] at h1; rw [e2.2 j (.inr h1), ha j (by omega) h2])
    rw [hpl] at this
    exact this
theorem shape_img {gl : List Bind'} {l : List Unit'} (hl : l.length ≤ 40) (h : ∀ u ∈ l, UG gl u) : shapeE (imgP gl l 0) gl.length (imgS l 0) = 0 := by
  have hu : ∀ u ∈ l, UnitOk u := fun u hu => (h u hu).ok
  have hlen := imgP_len gl l 0
  have hsum := sumP_le l hu
  obtain ⟨A, e1, e2, e3⟩ := bodiesG_some (ps := imgP gl l 0) (bs := imgS l 0) (ar := List.replicate (imgP gl l 0).length (-1)) (fun b hb => by
    obtain ⟨k, f1, f2, f3⟩ := imgS_at (gl := gl) hu b hb
    rw [Nat.zero_add] at f1
    rw [f1, Int.toNat_natCast, List.length_replicate, hlen]
    exact ⟨by omega, by omega, f3⟩)
  unfold shapeE
  rw [e1]
  rw [List.length_replicate] at e2 e3
  refine protoG_img (PS := imgP gl l 0) (bs := imgS l 0) (by omega) (pre := []) (spre := []) h rfl rfl (by simp) e2 fun j _ hj => ?_
  rw [e3 j hj, List.getD_eq_getElem?_getD, List.getElem?_replicate]
  simp [hj]
/-- What is wrong with an image. -/
def wrongIm (im : Im) : Int :=
  bif decide (500 < (im.gl.length : Int)) || decide (20000 < (im.ps.length : Int)) || decide (40 < (im.sts.length : Int)) then 5
  else bif !startsB im.ps.length im.sts (-1) then 3 else protosR im.ps im.sts im.gl.length
/-- AN IMAGE HAS NOTHING OPEN. -/
theorem link_right {l : List Unit'} (h : (linkL l).2.1 = 0) : GlOk (linkL l).1.gl ∧ wrongIm (linkL l).1 = 0 ∧ (linkL l).1.ps.length = sumP l ∧ (linkL l).1.sts.length = l.length := by
  rcases link_split l with h' | ⟨hl, a1, a0, a2, a3⟩
  · exact absurd h h'
  obtain ⟨e1, e2⟩ := unitsL_img a2
  have hok : ∀ u ∈ l, UnitOk u := fun u hu => unit_ok (checkL_zero a1 u hu)
  have hg : ∀ u ∈ l, UG (checkL l l 0 []).2.2 u := fun u hu => ⟨hok u hu, e2 u hu⟩
  have hgl := checkL_ok l l 0 [] ⟨List.nodup_nil, by simp⟩
  generalize (checkL l l 0 []).2.2 = gl at *
  rw [e1] at a3
  simp only [List.nil_append, List.length_nil] at a3
  have hlen := imgP_len gl l 0
  have hsl := imgS_len l 0
  have hsum := sumP_le l hok
  rw [a3]
  refine ⟨hgl, ?_, hlen, hsl⟩
  simp only [wrongIm, protosR]
  have d1 : (decide (500 < (gl.length : Int)) || decide (20000 < ((imgP gl l 0).length : Int)) || decide (40 < ((imgS l 0).length : Int))) = false := by
    simp only [Bool.or_eq_false_iff, decide_eq_false_iff_not]; omega
  have d2 : startsB (imgP gl l 0).length (imgS l 0) (-1) = true := startsB_img hok (by omega) (by rw [hlen]; simp)
  have d3 : formE (imgP gl l 0) = 0 := formE_img gl l 0 fun u hu => by
    have := checkL_zero a1 u hu
    unfold unitE at this
    cases h1 : plainB u.name
    · rw [h1] at this; simp at this
    · rw [h1] at this
      cases h2 : (decide ((u.protos.length : Int) < 1) || decide (500 < (u.protos.length : Int)))
      · rw [h2] at this
        cases h3 : decide (formE u.protos = 0)
        · rw [h3] at this; simp only [Bool.not_true, Bool.not_false, cond_false, cond_true] at this; exact this
        · exact of_decide_eq_true h3
      · rw [h2] at this; simp at this
  rw [d1, d2, d3, shape_img hl hg]
  rfl
end Go.Proofs.Ytlblgbfpdlfedaa.Gx

namespace Go.Proofs.Ytlblgbfpdlfedaa.Gx
open Go Go.Proofs.Ytlblgbfpdlfedaa.Gw
set_option linter.unusedSimpArgs false
set_option linter.unusedVariables false

theorem startsB_in {n : Int} : ∀ {l : List Int} {last : Int}, startsB n l last = true → ∀ x ∈ l, last < x ∧ x < n
  | [], _, _, x, hx => by simp at hx
  | s :: r, last, h, x, hx => by
    rw [startsB] at h
    cases h1 : decide (s ≤ last) || decide (n ≤ s) with
    | true => rw [h1] at h; simp at h
    | false =>
      rw [h1] at h
      simp only [Bool.or_eq_false_iff, decide_eq_false_iff_not] at h1
      rcases List.mem_cons.1 hx with rfl | hx
      · omega
      · have := startsB_in h x hx; omega
set_option maxRecDepth 20000 in
set_option maxHeartbeats 4000000 in
theorem c_WrongImage (im : Im) (st : St) : VCalls Try.prog TT 11 [.agg (encIm im)] st fun r st' => r = .ret (.int .i64 (wrongIm im)) ∧ st' = st := by
  refine vfun TT_ok (an := anL [(1, 1)]) (L := [0, 1, 2, 3, 5, 23, 24, 25]) (rs := [.tmp 2]) Try.func11 rfl (by kernel_rfl) rfl Try.ntmps11 rfl rfl (Nat.le_refl _) fun hst ha hf => ?_
  obtain ⟨gl, ps, sts⟩ := im
  generalize hw : wrongIm ⟨gl, ps, sts⟩ = w
  simp only [wrongIm] at hw
  simp only [encIm, fitL, V.fit, rowsB, rowsI, lstPr, List.length_map] at hf ⊢
  simp only [gwL, gwB, gwD, gwE, gwS, gwTT, gwZ, gwN, gwC, Nat.reduceEqDiff, ↓reduceIte, Nat.reduceAdd, Nat.reduceLT, Nat.reduceLeDiff, Nat.reduceMul, List.length_map]
  refine iK_split (fun h1 => ?_) (fun h1 => ?_)
  · rw [h1] at hw
    simp only [gwL, gwB, gwD, gwE, gwS, gwTT, gwZ, gwN, gwC, Nat.reduceEqDiff, ↓reduceIte, Nat.reduceAdd, Nat.reduceLT, Nat.reduceLeDiff, Nat.reduceMul]
    exact gives_int (by rw [← hw]; rfl) hst
  rw [h1] at hw
  simp only [cond_false] at hw
  simp only [Bool.or_eq_false_iff, decide_eq_false_iff_not] at h1
  simp only [gwL, gwB, gwD, gwE, gwS, gwTT, gwZ, gwN, gwC, Nat.reduceEqDiff, ↓reduceIte, Nat.reduceAdd, Nat.reduceLT, Nat.reduceLeDiff, Nat.reduceMul, List.length_map]
  refine vfor (σ := Nat × Int) [1, 2, 3, 23, 24, 25] (fun x => [(1, true, .ref [.lst 3 none (gl.map encB), .lst 2 none (ps.map encPr), .lst 1 none (sts.map fun n => [V.int .i64 n])]), (2, true, .int .i64 0), (3, true, .int .i64 x.2), (23, true, .lst 1 none (sts.map fun n => [V.int .i64 n])), (24, true, .int .i64 sts.length), (25, true, .int .i64 x.1)]) (fun x => st) (fun x => sts.length - x.1) (fun x => x.1 ≤ sts.length ∧ startsB ps.length sts (-1) = startsB ps.length (sts.drop x.1) x.2) (0, -1) rfl TT_ok ⟨Nat.zero_le _, rfl⟩ rfl rfl ?_
  rintro ⟨i, last⟩ ⟨hi, hx⟩
  simp only at hi hx ⊢
  rcases at_or_end sts i hi with ⟨hie, hd⟩ | ⟨u, hlt, hget, hdr⟩
  · have hie2 : i = sts.length := hie
    subst hie2
    rw [hd, startsB] at hx
    rw [hx] at hw
    simp only [Bool.not_true, cond_false] at hw
    simp only [gwL, gwB, gwD, gwE, gwS, gwTT, gwZ, gwN, gwC, Nat.reduceEqDiff, ↓reduceIte, Nat.reduceAdd, Nat.reduceLT, Nat.reduceLeDiff, Nat.reduceMul, lt_no, List.length_map]
    refine (c_ref8_Protos ps sts gl.length _ (by omega) (fun x hx' => by have := startsB_in hx x hx'; omega) (by omega)).use (wkL_cons (wk_tok ..) (wkL_cons (wk_tok ..) (wkL_refl _))) fun _ => ?_
    simp only [gwL, gwB, gwD, gwE, gwS, gwTT, gwZ, gwN, gwC, Nat.reduceEqDiff, ↓reduceIte, Nat.reduceAdd, Nat.reduceLT, Nat.reduceLeDiff, Nat.reduceMul]
    exact gives_int hw hst
  · have hg : (sts.map fun n => [V.int .i64 n]).getD i [] = [V.int .i64 u] := getD_map (f := fun n => [V.int .i64 n]) hget
    have wn : IntKind.i64.wrap ((i : Int) + 1) = ((i + 1 : Nat) : Int) := next_i64 hlt (by omega)
    rw [hdr, startsB] at hx
    simp only [gwL, gwB, gwD, gwE, gwS, gwTT, gwZ, gwN, gwC, Nat.reduceEqDiff, ↓reduceIte, Nat.reduceAdd, Nat.reduceLT, Nat.reduceLeDiff, Nat.reduceMul, lt_yes hlt, hg, List.length_map, Int.ofNat_lt.mpr hlt, Int.toNat_natCast]
    refine iK_split (fun h2 => ?_) (fun h2 => ?_)
    · rw [h2] at hx
      rw [hx] at hw
      simp only [gwL, gwB, gwD, gwE, gwS, gwTT, gwZ, gwN, gwC, Nat.reduceEqDiff, ↓reduceIte, Nat.reduceAdd, Nat.reduceLT, Nat.reduceLeDiff, Nat.reduceMul]
      exact gives_int (by rw [← hw]; rfl) hst
    rw [h2] at hx
    simp only [gwL, gwB, gwD, gwE, gwS, gwTT, gwZ, gwN, gwC, Nat.reduceEqDiff, ↓reduceIte, Nat.reduceAdd, Nat.reduceLT, Nat.reduceLeDiff, Nat.reduceMul, wn, Env.keep]
    exact ⟨(i + 1, u), rfl, by simp only; omega, by simp only; omega, hx⟩
end Go.Proofs.Ytlblgbfpdlfedaa.Gx

namespace Go.Proofs.Ytlblgbfpdlfedaa.Gx
open Go Go.Proofs.Ytlblgbfpdlfedaa.Gw
set_option linter.unusedSimpArgs false
set_option linter.unusedVariables false

theorem link_no (l : List Unit') : (linkL l).2.1 ≠ 0 → (linkL l).1 = noIm := by
  unfold linkL
  cases decide (40 < (l.length : Int)) with
  | true => exact fun _ => rfl
  | false =>
    cases decide ((checkL l l 0 []).1 = 0) with
    | false => exact fun _ => rfl
    | true =>
      cases decide (500 < ((checkL l l 0 []).2.2.length : Int)) with
      | true => exact fun _ => rfl
      | false =>
        cases decide ((unitsL (checkL l l 0 []).2.2 l 0 [] []).1 = 0) with
        | false => exact fun _ => rfl
        | true => exact fun h => absurd rfl h
theorem sumP_take {l : List Unit'} {i : Nat} {u : Unit'} (h : l[i]? = some u) : sumP (l.take (i + 1)) = sumP (l.take i) + u.protos.length := by
  induction l generalizing i with
  | nil => simp at h
  | cons v r ih =>
    cases i with
    | zero => simp at h; subst h; simp [sumP]
    | succ i =>
      rw [List.getElem?_cons_succ] at h
      rw [List.take_succ_cons, List.take_succ_cons, sumP, sumP, ih h]; omega
theorem sumP_take_le : ∀ (l : List Unit') (i : Nat), sumP (l.take i) ≤ sumP l
  | [], i => by simp [sumP]
  | u :: r, 0 => by simp [sumP]
  | u :: r, i + 1 => by have := sumP_take_le r i; rw [List.take_succ_cons, sumP, sumP]; omega
theorem wrongIm_few {im : Im} (h : wrongIm im = 0) : im.gl.length ≤ 500 ∧ im.ps.length ≤ 20000 ∧ im.sts.length ≤ 40 := by
  unfold wrongIm at h
  cases h1 : decide (500 < (im.gl.length : Int)) || decide (20000 < (im.ps.length : Int)) || decide (40 < (im.sts.length : Int)) with
  | true => rw [h1] at h; simp at h
  | false => simp only [Bool.or_eq_false_iff, decide_eq_false_iff_not] at h1; omega
/-- Globals that were there. -/
def HR (gl : List Bind') (M : List (Bind' × Bool)) : Prop := ∀ b, asc b M = if b ∈ gl then some true else none
set_option maxRecDepth 20000 in
set_option maxHeartbeats 8000000 in
theorem c_LinkRight (l : List Unit') (st : St) : VCalls Try.prog TT 4 [lstU l] st fun r st' => r = .ret (.bool true) ∧ st' = st := by
  refine vfun TT_ok (an := anL []) (L := [0, 2, 3, 4, 5, 7, 8, 10, 24, 25, 26, 38, 39, 40]) (rs := [.tmp 2]) Try.func4 rfl (by kernel_rfl) rfl Try.ntmps4 rfl rfl (Nat.le_refl _) fun hst ha hf => ?_
  simp only [lstU]
  simp only [gwL, gwB, gwD, gwE, gwS, gwTT, gwZ, gwN, gwC, Nat.reduceEqDiff, ↓reduceIte, Nat.reduceAdd, Nat.reduceLT, Nat.reduceLeDiff, Nat.reduceMul]
  refine (c_linkAlive _).use (wkL_refl _) fun _ => ?_
  simp only [gwL, gwB, gwD, gwE, gwS, gwTT, gwZ, gwN, gwC, Nat.reduceEqDiff, ↓reduceIte, Nat.reduceAdd, Nat.reduceLT, Nat.reduceLeDiff, Nat.reduceMul]
  refine (c_Link l _).use (wkL_refl _) fun _ => ?_
  have hLaw := @link_right l
  have hNo := link_no l
  generalize linkL l = ra at *
  obtain ⟨im, ea, ia⟩ := ra
  simp only at hLaw hNo ⊢
  have hel : ∀ im : Im, (encIm im).length = 3 := fun _ => rfl
  have het : ∀ im : Im, (encIm im).take 3 = encIm im := fun _ => rfl
  have hed : ∀ im : Im, (encIm im).drop 3 = [] := fun _ => rfl
  simp only [gwL, gwB, gwD, gwE, gwS, gwTT, gwZ, gwN, gwC, Nat.reduceEqDiff, ↓reduceIte, Nat.reduceAdd, Nat.reduceLT, Nat.reduceLeDiff, Nat.reduceMul, linkV, fltV, hel, het, hed, Nat.le_refl]
  refine iK_split (fun h1 => ?_) (fun h1 => ?_)
  · have h1' : ea ≠ 0 := by simpa using h1
    rw [hNo h1']
    simp only [gwL, gwB, gwD, gwE, gwS, gwTT, gwZ, gwN, gwC, Nat.reduceEqDiff, ↓reduceIte, Nat.reduceAdd, Nat.reduceLT, Nat.reduceLeDiff, Nat.reduceMul, hel, het, hed, Nat.le_refl]
    refine (c_SameImage noIm _).use (wkL_cons (wk_refl _) (wkL_cons (wk_agg (wkL_cons (wk_nils _) (wkL_cons (wk_nils _) (wkL_cons (wk_nils _) wkL_nil)))) wkL_nil)) fun _ => ?_
    simp only [gwL, gwB, gwD, gwE, gwS, gwTT, gwZ, gwN, gwC, Nat.reduceEqDiff, ↓reduceIte, Nat.reduceAdd, Nat.reduceLT, Nat.reduceLeDiff, Nat.reduceMul]
    exact gives_bool' rfl hst
  have h1' : ea = 0 := by simpa using h1
  obtain ⟨⟨hnd, hhr⟩, hwr, hpl, hsl⟩ := hLaw h1'
  obtain ⟨gl, ps, sts⟩ := im
  simp only at hnd hhr hpl hsl
  simp only [gwL, gwB, gwD, gwE, gwS, gwTT, gwZ, gwN, gwC, Nat.reduceEqDiff, ↓reduceIte, Nat.reduceAdd, Nat.reduceLT, Nat.reduceLeDiff, Nat.reduceMul, encIm, List.length_map]
  obtain ⟨S0, hS0⟩ : ∃ S0 : St, S0 = st ++ [Ent.box [.lst 3 none (rowsB gl), lstPr ps, .lst 1 none (rowsI sts)], Ent.box [.int .i64 ea, .int .i64 ia]] := ⟨_, rfl⟩
  rw [← hS0]
  obtain ⟨hfg, hfp, hfs⟩ := wrongIm_few hwr
  simp only at hfg hfp hfs
  refine vfor (σ := Nat × St) [0, 2, 3, 4, 5, 24, 25, 26] (fun x => [(0, true, .lst 2 none (l.map encU)), (2, true, .bool false), (3, true, .ptr st.length 0), (4, true, .ptr (st.length + 1) 0), (5, true, .int .i64 (sumP (l.take x.1))), (24, true, .lst 2 none (l.map encU)), (25, true, .int .i64 l.length), (26, true, .int .i64 x.1)]) (fun x => x.2) (fun x => l.length - x.1) (fun x => x.1 ≤ l.length ∧ ∃ ex, x.2 = S0 ++ ex) (0, S0) rfl TT_ok ⟨Nat.zero_le _, [], by rw [List.append_nil]⟩ rfl rfl ?_
  rintro ⟨i, S⟩ ⟨hi, ex, hex⟩
  simp only at hi hex ⊢
  subst hex
  rcases at_or_end l i hi with ⟨hie, hd⟩ | ⟨u, hlt, hget, hdr⟩
  · have hie2 : i = l.length := hie
    subst hie2
    have hb3 : ∀ X : St, (S0 ++ X)[st.length]? = some (.box [.lst 3 none (rowsB gl), lstPr ps, .lst 1 none (rowsI sts)]) := fun X => by rw [hS0, List.append_assoc, List.getElem?_append_right (by omega)]; simp
    have hrb : (rowsB gl).length = gl.length := by simp [rowsB]
    have hsum : sumP (l.take l.length) = sumP l := by rw [List.take_length]
    simp only [gwL, gwB, gwD, gwE, gwS, gwTT, gwZ, gwN, gwC, Nat.reduceEqDiff, ↓reduceIte, Nat.reduceAdd, Nat.reduceLT, Nat.reduceLeDiff, Nat.reduceMul, mapLook, mapPut, mapRange, mapLen, makeMapE, keyOk, keyKind, keyGood, lookR, zeroV, entV, entS, nextV, nextS, beq_self_eq_true, cond_true, cond_false, lt_no, hb3, hrb, hsum]
    obtain ⟨m, hm⟩ : ∃ m, m = S0.length + ex.length := ⟨_, rfl⟩
    rw [← hm]
    refine vfor (σ := Nat × St) [0, 2, 3, 4, 5, 24, 25, 26, 8, 38, 39, 40] (fun x => [(0, true, .lst 2 none (l.map encU)), (2, true, .bool false), (3, true, .ptr st.length 0), (4, true, .ptr (st.length + 1) 0), (5, true, .int .i64 (sumP l)), (24, true, .lst 2 none (l.map encU)), (25, true, .int .i64 l.length), (26, true, .int .i64 l.length), (8, true, .map m), (38, true, .lst 3 none (rowsB gl)), (39, true, .int .i64 gl.length), (40, true, .int .i64 x.1)]) (fun x => x.2) (fun x => gl.length - x.1) (fun x => x.1 ≤ gl.length ∧ (∃ X, x.2 = S0 ++ X) ∧ m < x.2.length ∧ ∃ M, HR (gl.take x.1) M ∧ x.2[m]? = some (mapE ekB V.bool M)) (0, S0 ++ (ex ++ [Ent.map 0 []])) rfl TT_ok ⟨Nat.zero_le _, ⟨_, rfl⟩, by simp; omega, [], fun b => rfl, by rw [hm, ← List.append_assoc, List.getElem?_append_right (by simp)]; simp; rfl⟩ rfl rfl ?_
    rintro ⟨i, S⟩ ⟨hi, ⟨X, hX⟩, hml, M, hM, hSm⟩
    simp only at hi hX hml hM hSm ⊢
    rcases at_or_end gl i hi with ⟨hie, hd⟩ | ⟨u, hlt, hget, hdr⟩
    · have hie2 : i = gl.length := hie
      subst hie2
      rw [hX]
      simp only [gwL, gwB, gwD, gwE, gwS, gwTT, gwZ, gwN, gwC, Nat.reduceEqDiff, ↓reduceIte, Nat.reduceAdd, Nat.reduceLT, Nat.reduceLeDiff, Nat.reduceMul, mapLook, mapPut, mapRange, mapLen, makeMapE, keyOk, keyKind, keyGood, lookR, zeroV, entV, entS, nextV, nextS, beq_self_eq_true, cond_true, cond_false, lt_no, hb3]
      refine (c_WrongImage ⟨gl, ps, sts⟩ _).use (wkL_refl _) fun _ => ?_
      rw [hwr]
      have dp : decide ((ps.length : Int) = (sumP l : Int)) = true := by simp [hpl]
      have ds : decide ((sts.length : Int) = (l.length : Int)) = true := by simp [hsl]
      have hri : (rowsI sts).length = sts.length := by simp [rowsI]
      simp only [gwL, gwB, gwD, gwE, gwS, gwTT, gwZ, gwN, gwC, Nat.reduceEqDiff, ↓reduceIte, Nat.reduceAdd, Nat.reduceLT, Nat.reduceLeDiff, Nat.reduceMul, hb3, lstPr, List.length_map, hri, dp, ds, Bool.and_self]
      rw [hS0, List.append_assoc]
      exact gives_bool' (by rfl) hst
    · have hg : (rowsB gl).getD i [] = encB u := getD_map hget
      have wn : IntKind.i64.wrap ((i : Int) + 1) = ((i + 1 : Nat) : Int) := next_i64 hlt (by omega)
      have hnm : u ∉ gl.take i := by
        have := hnd
        rw [← List.take_append_drop i gl, hdr, List.nodup_append] at this
        exact fun h => this.2.2 u h u (by simp) rfl
      have hu0 := hhr u (List.mem_of_getElem? hget)
      have hno : asc u M = none := by rw [hM u, if_neg hnm]
      obtain ⟨uh, ul, uo⟩ := u
      simp only at hu0
      subst hu0
      have hlk := fun (i : TI) (ok : Bool) (st : St) (M : List (Bind' × Bool)) => look_mapE (ev := V.bool) keyP_B i ok ⟨[], ul, uo⟩ st M
      have hpt2 := fun (o : Nat) (a : Bool) (st : St) (M : List (Bind' × Bool)) => put_mapE (ev := V.bool) keyP_B o ⟨[], ul, uo⟩ a st M
      simp only [gwTT, ekB, encB] at hlk hpt2
      have hSm' : ∀ e : Ent, (S ++ [e])[m]? = some (mapE ekB V.bool M) := fun e => by rw [st_old hml, hSm]
      have hmS : S0.length ≤ m := by omega
      have hSx : ∀ (e Y : Ent), ∃ X', (S ++ [e]).set m Y = S0 ++ X' := fun e Y => ⟨_, by rw [hX, List.append_assoc, List.set_append_right _ _ hmS]⟩
      have hSn : ∀ (e Y : Ent), ((S ++ [e]).set m Y)[m]? = some Y := fun e Y => List.getElem?_set_self (by simp; omega)
      have hSb : ∀ (e Y : Ent), ((S ++ [e]).set m Y).length = S.length + 1 := fun e Y => by simp
      have htk : gl.take (i + 1) = gl.take i ++ [⟨[], ul, uo⟩] := by rw [List.take_add_one, hget]; rfl
      have hM1 : HR (gl.take (i + 1)) (ups ⟨[], ul, uo⟩ true M) := by
        intro c
        rw [asc_ups, htk]
        by_cases e : c = ⟨[], ul, uo⟩
        · simp [e]
        · rw [if_neg e, hM c]; simp [e]
      simp only [gwL, gwB, gwD, gwE, gwS, gwTT, gwZ, gwN, gwC, Nat.reduceEqDiff, ↓reduceIte, Nat.reduceAdd, Nat.reduceLT, Nat.reduceLeDiff, Nat.reduceMul, mapLook, mapPut, mapRange, mapLen, makeMapE, keyOk, keyKind, keyGood, lookR, zeroV, entV, entS, nextV, nextS, beq_self_eq_true, cond_true, cond_false, lt_yes hlt, hg, encB, hrb, Int.ofNat_lt.mpr hlt, Int.toNat_natCast, upFrom, hlk, hno, hSm', hpt2, wn, Env.keep]
      exact ⟨(i + 1, _), rfl, rfl, by simp only; omega, by simp only; omega, hSx _ _, by simp only; rw [hSb]; omega, _, hM1, hSn _ _⟩
  · have hg : (l.map encU).getD i [] = encU u := getD_map hget
    have wn : IntKind.i64.wrap ((i : Int) + 1) = ((i + 1 : Nat) : Int) := next_i64 hlt (by omega)
    have hst1 := sumP_take hget
    have hst2 := sumP_take_le l (i + 1)
    have ws : IntKind.i64.wrap ((sumP (l.take i) : Int) + (u.protos.length : Int)) = (sumP (l.take (i + 1)) : Int) := by
      rw [hst1, wrap_i64 (by omega) (by omega)]; omega
    simp only [gwL, gwB, gwD, gwE, gwS, gwTT, gwZ, gwN, gwC, Nat.reduceEqDiff, ↓reduceIte, Nat.reduceAdd, Nat.reduceLT, Nat.reduceLeDiff, Nat.reduceMul, lt_yes hlt, hg, List.length_map, Int.ofNat_lt.mpr hlt, Int.toNat_natCast, encU, lstPr, ws, wn, Env.keep]
    exact ⟨(i + 1, _), rfl, rfl, by simp only; omega, by simp only; omega, _, rfl⟩
end Go.Proofs.Ytlblgbfpdlfedaa.Gx

namespace Go.Proofs.Ytlblgbfpdlfedaa.Gx
open Go Go.Proofs.Ytlblgbfpdlfedaa.Gw
set_option linter.unusedSimpArgs false
set_option linter.unusedVariables false
def encI1 (n : Int) : List V := [.int .i64 n]
def encS1 (s : Str) : List V := [.str s]

theorem len_succ {α : Type} {cs : List α} {n : Nat} (h : cs.length = n + 1) : ∃ c r, cs = c :: r ∧ r.length = n := by
  cases cs with
  | nil => simp at h
  | cons c r => exact ⟨c, r, rfl, by simpa using h⟩
open Go.ChangeShapes Go.WideShapes Go.ChangeAt Go.RowKit
theorem own : ownKnob Try.prog.godebug = none := by kernel_rfl
theorem laidOut : laidOutB Try.prog = true := by kernel_rfl
theorem below_of {W W' : World} {g' : G} (h : Ext g00 W g' W') : Below W.heap.size W W' := ⟨h.os, h.tape, h.output, h.size, fun k hk => (h.free k hk rfl).1⟩
theorem bulk_one {H : Type} (d : DataW H) : 1 ≤ Rows.uptoBulk d := by
  cases d with
  | lit l => cases l <;> simp [Rows.uptoBulk]
  | nil => simp [Rows.uptoBulk]
  | ptr d => simp [Rows.uptoBulk]
  | slice elems spare => simp [Rows.uptoBulk]
  | agg parts => simp [Rows.uptoBulk]
  | iface t d => simp [Rows.uptoBulk]
  | map entries => simp [Rows.uptoBulk]
  | held h => simp [Rows.uptoBulk]
theorem bulk_len {H : Type} : ∀ l : List (DataW H), l.length ≤ Rows.uptoBulkAll l
  | [] => by simp [Rows.uptoBulkAll]
  | x :: r => by have := bulk_one x; have := bulk_len r; simp only [Rows.uptoBulkAll, List.length_cons]; omega
/-- A slice that is read has no more elements than its bulk. -/
theorem bulk_slice {H : Type} {enc : TypeId × Value → H} {P : Program} {W : World} {spare : Nat → Bool} {held : Bool} {n : Nat} {t e : TypeId} {v : Value} {r : DataW H × List MemPlace} (ht : P.underlying t = some (.slice e)) {sz : Nat} {tp : Option Nat} {rows : List (List V)}
    (h : DataW.trod enc P W 0 spare held n t [v] = some r) (hs : SimV g00 W (.lst sz tp rows) v) : rows.length ≤ Rows.uptoBulk r.1 := by
  simp only [SimV] at hs
  obtain ⟨a, cap, rfl, -⟩ := hs
  cases n with
  | zero => simp [DataW.trod] at h
  | succ n =>
    unfold DataW.trod at h
    rw [ht] at h
    split at h <;> first | (cases h; done) | skip
    all_goals rename_i e'; first | (injection e' with e'; cases e'; done) | skip
    · simp only [List.cons.injEq, Value.slice.injEq, and_true] at e'
      obtain ⟨_, e', _⟩ := e'
      omega
    · simp only [List.cons.injEq, Value.slice.injEq, and_true] at e'
      obtain ⟨_, e', _⟩ := e'
      simp only at h
      split at h
      case isFalse => cases h
      rw [e']
      generalize hm : List.mapM (m := Option) _ _ = o at h
      cases o with
      | none => simp at h
      | some ys =>
        obtain ⟨hl, -⟩ := mapM_some hm
        simp only [Option.bind_some, Option.map_eq_some_iff] at h
        obtain ⟨zs, -, rfl⟩ := h
        have := bulk_len (ys.map (·.1))
        rw [List.length_map, hl, List.length_range] at this
        simp only [Rows.uptoBulk]
        omega
/-- A string that is read is no longer than its bulk. -/
theorem bulk_str {H : Type} {enc : TypeId × Value → H} {P : Program} {W : World} {spare : Nat → Bool} {held : Bool} {n : Nat} {t : TypeId} {s : List UInt8} {r : DataW H × List MemPlace} (ht : P.underlying t = some .string)
    (h : DataW.trod enc P W 0 spare held n t [.string ⟨s.toArray⟩] = some r) : s.length ≤ Rows.uptoBulk r.1 := by
  cases n with
  | zero => simp [DataW.trod] at h
  | succ n =>
    unfold DataW.trod at h
    rw [ht] at h
    split at h <;> first | (cases h; done) | skip
    all_goals rename_i e'; first | (injection e' with e'; cases e'; done) | skip
    · simp only [List.cons.injEq, Value.string.injEq, and_true] at e'
      subst e'
      split at h
      · simp only [Option.some.injEq] at h
        subst h
        simp [Rows.uptoBulk, ByteArray.size]
      · cases h
    · exact ((‹∀ s_1 : ByteArray, some TypeDesc.string = some TypeDesc.string → [Value.string ⟨s.toArray⟩] = [Value.string s_1] → False›) _ rfl rfl).elim
theorem okWide_slice {P : Program} {W : World} {r : Reach} {b : Nat} {t e : TypeId} {v : Value} (ht : P.underlying t = some (.slice e)) (h : Value.okWide P W r b t v) : v.cells.toList = [v] := by
  unfold Value.okWide at h
  rw [ht] at h
  simp only [Cell.okWide, ht] at h
  cases v <;> first | rfl | (simp [Cell.ok, ht] at h)
theorem okWide_str {P : Program} {W : World} {r : Reach} {b : Nat} {t : TypeId} {v : Value} (ht : P.underlying t = some .string) (h : Value.okWide P W r b t v) : v.cells.toList = [v] := by
  unfold Value.okWide at h
  rw [ht] at h
  simp only [Cell.okWide, ht] at h
  cases v <;> first | rfl | (simp [Cell.ok, ht] at h)
theorem okWide_int {P : Program} {W : World} {r : Reach} {b : Nat} {t : TypeId} {k : IntKind} {v : Value} (ht : P.underlying t = some (.int k)) (h : Value.okWide P W r b t v) : v.cells.toList = [v] := by
  unfold Value.okWide at h
  rw [ht] at h
  simp only [Cell.okWide, ht] at h
  cases v <;> first | rfl | (simp [Cell.ok, ht] at h)
theorem dec_int1 {H : Type} {enc : TypeId × Value → H} {P : Program} {W : World} {spare : Nat → Bool} {held : Bool} {t : TypeId} (ht : P.underlying t = some (.int .i64)) {n : Nat} {cs : List Value} {r : DataW H × List MemPlace} (h : DataW.trod enc P W 0 spare held n t cs = some r) : ∃ x : Int, SimVs g00 W (encI1 x) cs ∧ ∀ u ∈ cs, u.oneCell' = true := by
  obtain ⟨m, rfl⟩ := dec_int ht h
  exact ⟨m, ⟨_, _, rfl, rfl, rfl⟩, by simp [Value.oneCell']⟩
theorem dec_str1 {H : Type} {enc : TypeId × Value → H} {P : Program} {W : World} {spare : Nat → Bool} {held : Bool} {t : TypeId} (ht : P.underlying t = some .string) {n : Nat} {cs : List Value} {r : DataW H × List MemPlace} (h : DataW.trod enc P W 0 spare held n t cs = some r) : ∃ x : Str, SimVs g00 W (encS1 x) cs ∧ ∀ u ∈ cs, u.oneCell' = true := by
  obtain ⟨m, rfl, hm⟩ := dec_str ht h
  exact ⟨m, ⟨_, _, rfl, ⟨rfl, hm⟩, rfl⟩, by simp [Value.oneCell']⟩
end Go.Proofs.Ytlblgbfpdlfedaa.Gx

namespace Go.Proofs.Ytlblgbfpdlfedaa.Gx
open Go Go.Proofs.Ytlblgbfpdlfedaa.Gw
set_option linter.unusedSimpArgs false
set_option linter.unusedVariables false
theorem cells49 : Try.prog.cellsOf 49 = 6 := by kernel_rfl
theorem cells3 : Try.prog.cellsOf 3 = 1 := by kernel_rfl
theorem cells2 : Try.prog.cellsOf 2 = 1 := by kernel_rfl
theorem cells9 : Try.prog.cellsOf 9 = 1 := by kernel_rfl
theorem cells47 : Try.prog.cellsOf 47 = 1 := by kernel_rfl
theorem dec_Datum {H : Type} {enc : TypeId × Value → H} {W : World} {spare : Nat → Bool} {held : Bool} : ∀ (n : Nat) (cs : List Value) (r : DataW H × List MemPlace), DataW.trod enc Try.prog W 0 spare held n 49 cs = some r → ∃ x : Datum, SimVs g00 W (encD x) cs ∧ ∀ u ∈ cs, u.oneCell' = true := by
  intro n
  induction n using Nat.strongRecOn with
  | _ n ih =>
    intro cs r h
    obtain ⟨m, rfl, hl, hf⟩ := dec_struct Try.underlying49 h
    rw [cells49] at hl
    obtain ⟨c0, t0, rfl, l0⟩ := len_succ hl
    obtain ⟨c1, t1, rfl, l1⟩ := len_succ l0
    obtain ⟨c2, t2, rfl, l2⟩ := len_succ l1
    obtain ⟨c3, t3, rfl, l3⟩ := len_succ l2
    obtain ⟨c4, t4, rfl, l4⟩ := len_succ l3
    obtain ⟨c5, t5, rfl, l5⟩ := len_succ l4
    obtain rfl := List.eq_nil_of_length_eq_zero l5
    simp only [List.forall_mem_cons, cells2, cells3, cells47, cells9, List.drop_zero, List.drop_succ_cons, List.take_succ_cons, List.take_zero] at hf
    obtain ⟨⟨y0, h0⟩, ⟨y1, h1⟩, ⟨y2, h2⟩, ⟨y3, h3⟩, ⟨y4, h4⟩, ⟨y5, h5⟩, _⟩ := hf
    obtain ⟨x0, e0⟩ := dec_int Try.underlying3 h0
    obtain ⟨x1, e1⟩ := dec_int Try.underlying2 h1
    obtain ⟨x2, e2, k2⟩ := dec_str Try.underlying9 h2
    obtain ⟨x3, e3⟩ := dec_int Try.underlying3 h3
    obtain ⟨x4, e4⟩ := dec_int Try.underlying3 h4
    obtain ⟨x5, v5, e5, k5, j5⟩ := dec_slice encD Try.underlying47 cells49 (by decide) (fun m' hm' cs r hr => ih m' (by omega) cs r hr) h5
    simp only [List.cons.injEq, and_true] at e0 e1 e2 e3 e4 e5
    subst e0 e1 e2 e3 e4 e5
    refine ⟨Datum.mk x0 x1 x2 x3 x4 x5, ?_, ?_⟩
    · rw [encD_mk]
      exact ⟨_, _, rfl, rfl, ⟨_, _, rfl, rfl, ⟨_, _, rfl, ⟨rfl, k2⟩, ⟨_, _, rfl, rfl, ⟨_, _, rfl, rfl, ⟨_, _, rfl, k5, rfl⟩⟩⟩⟩⟩⟩
    · intro u hu
      simp only [List.mem_cons, List.not_mem_nil, or_false] at hu 
      rcases hu with rfl | rfl | rfl | rfl | rfl | rfl <;> first | rfl | exact j5
theorem cells51 : Try.prog.cellsOf 51 = 11 := by kernel_rfl
theorem dec_Ins {H : Type} {enc : TypeId × Value → H} {W : World} {spare : Nat → Bool} {held : Bool} : ∀ (n : Nat) (cs : List Value) (r : DataW H × List MemPlace), DataW.trod enc Try.prog W 0 spare held n 51 cs = some r → ∃ x : Ins, SimVs g00 W (encI x) cs ∧ ∀ u ∈ cs, u.oneCell' = true := by
  intro n cs r h
  obtain ⟨m, rfl, hl, hf⟩ := dec_struct Try.underlying51 h
  rw [cells51] at hl
  obtain ⟨c0, t0, rfl, l0⟩ := len_succ hl
  obtain ⟨c1, t1, rfl, l1⟩ := len_succ l0
  obtain ⟨c2, t2, rfl, l2⟩ := len_succ l1
  obtain ⟨c3, t3, rfl, l3⟩ := len_succ l2
  obtain ⟨c4, t4, rfl, l4⟩ := len_succ l3
  obtain ⟨c5, t5, rfl, l5⟩ := len_succ l4
  obtain ⟨c6, t6, rfl, l6⟩ := len_succ l5
  obtain ⟨c7, t7, rfl, l7⟩ := len_succ l6
  obtain ⟨c8, t8, rfl, l8⟩ := len_succ l7
  obtain ⟨c9, t9, rfl, l9⟩ := len_succ l8
  obtain ⟨c10, t10, rfl, l10⟩ := len_succ l9
  obtain rfl := List.eq_nil_of_length_eq_zero l10
  simp only [List.forall_mem_cons, cells2, cells3, cells49, cells9, List.drop_zero, List.drop_succ_cons, List.take_succ_cons, List.take_zero] at hf
  obtain ⟨⟨y0, h0⟩, ⟨y1, h1⟩, ⟨y2, h2⟩, ⟨y3, h3⟩, ⟨y4, h4⟩, ⟨y5, h5⟩, _⟩ := hf
  obtain ⟨x0, e0⟩ := dec_int Try.underlying3 h0
  obtain ⟨x1, e1⟩ := dec_int Try.underlying3 h1
  obtain ⟨x2, e2⟩ := dec_int Try.underlying2 h2
  obtain ⟨x3, e3, k3⟩ := dec_str Try.underlying9 h3
  obtain ⟨x4, e4, k4⟩ := dec_str Try.underlying9 h4
  obtain ⟨x5, k5, j5⟩ := dec_Datum m _ _ h5
  simp only [List.cons.injEq, and_true] at e0 e1 e2 e3 e4
  subst e0 e1 e2 e3 e4
  refine ⟨Ins.mk x0 x1 x2 x3 x4 x5, ?_, ?_⟩
  · rw [encI_mk]
    exact ⟨_, _, rfl, rfl, ⟨_, _, rfl, rfl, ⟨_, _, rfl, rfl, ⟨_, _, rfl, ⟨rfl, k3⟩, ⟨_, _, rfl, ⟨rfl, k4⟩, k5⟩⟩⟩⟩⟩
  · intro u hu
    simp only [List.mem_cons, List.not_mem_nil, or_false] at hu j5
    rcases hu with rfl | rfl | rfl | rfl | rfl | rfl | rfl | rfl | rfl | rfl | rfl <;> first | rfl | exact j5 _ (by simp)
theorem dec_LIns {H : Type} {enc : TypeId × Value → H} {W : World} {spare : Nat → Bool} {held : Bool} {n : Nat} {cs : List Value} {r : DataW H × List MemPlace} (h : DataW.trod enc Try.prog W 0 spare held n 44 cs = some r) : ∃ (l : List (Ins)) (v : Value), cs = [v] ∧ SimV g00 W (.lst 11 none (l.map encI)) v ∧ v.oneCell' = true :=
  dec_slice encI Try.underlying44 cells51 (by decide) (fun m _ cs r hr => dec_Ins m cs r hr) h
theorem cells44 : Try.prog.cellsOf 44 = 1 := by kernel_rfl
theorem cells46 : Try.prog.cellsOf 46 = 2 := by kernel_rfl
theorem dec_Proto {H : Type} {enc : TypeId × Value → H} {W : World} {spare : Nat → Bool} {held : Bool} : ∀ (n : Nat) (cs : List Value) (r : DataW H × List MemPlace), DataW.trod enc Try.prog W 0 spare held n 46 cs = some r → ∃ x : Pr, SimVs g00 W (encPr x) cs ∧ ∀ u ∈ cs, u.oneCell' = true := by
  intro n cs r h
  obtain ⟨m, rfl, hl, hf⟩ := dec_struct Try.underlying46 h
  rw [cells46] at hl
  obtain ⟨c0, t0, rfl, l0⟩ := len_succ hl
  obtain ⟨c1, t1, rfl, l1⟩ := len_succ l0
  obtain rfl := List.eq_nil_of_length_eq_zero l1
  simp only [List.forall_mem_cons, cells3, cells44, List.drop_zero, List.drop_succ_cons, List.take_succ_cons, List.take_zero] at hf
  obtain ⟨⟨y0, h0⟩, ⟨y1, h1⟩, _⟩ := hf
  obtain ⟨x0, e0⟩ := dec_int Try.underlying3 h0
  obtain ⟨x1, v1, e1, k1, j1⟩ := dec_LIns h1
  simp only [List.cons.injEq, and_true] at e0 e1
  subst e0 e1
  refine ⟨Pr.mk x0 x1, ?_, ?_⟩
  · exact ⟨_, _, rfl, rfl, ⟨_, _, rfl, k1, rfl⟩⟩
  · intro u hu
    simp only [List.mem_cons, List.not_mem_nil, or_false] at hu 
    rcases hu with rfl | rfl <;> first | rfl | exact j1
theorem dec_LProto {H : Type} {enc : TypeId × Value → H} {W : World} {spare : Nat → Bool} {held : Bool} {n : Nat} {cs : List Value} {r : DataW H × List MemPlace} (h : DataW.trod enc Try.prog W 0 spare held n 24 cs = some r) : ∃ (l : List (Pr)) (v : Value), cs = [v] ∧ SimV g00 W (.lst 2 none (l.map encPr)) v ∧ v.oneCell' = true :=
  dec_slice encPr Try.underlying24 cells46 (by decide) (fun m _ cs r hr => dec_Proto m cs r hr) h
theorem cells24 : Try.prog.cellsOf 24 = 1 := by kernel_rfl
theorem cells37 : Try.prog.cellsOf 37 = 2 := by kernel_rfl
theorem dec_Unit {H : Type} {enc : TypeId × Value → H} {W : World} {spare : Nat → Bool} {held : Bool} : ∀ (n : Nat) (cs : List Value) (r : DataW H × List MemPlace), DataW.trod enc Try.prog W 0 spare held n 37 cs = some r → ∃ x : Unit', SimVs g00 W (encU x) cs ∧ ∀ u ∈ cs, u.oneCell' = true := by
  intro n cs r h
  obtain ⟨m, rfl, hl, hf⟩ := dec_struct Try.underlying37 h
  rw [cells37] at hl
  obtain ⟨c0, t0, rfl, l0⟩ := len_succ hl
  obtain ⟨c1, t1, rfl, l1⟩ := len_succ l0
  obtain rfl := List.eq_nil_of_length_eq_zero l1
  simp only [List.forall_mem_cons, cells24, cells9, List.drop_zero, List.drop_succ_cons, List.take_succ_cons, List.take_zero] at hf
  obtain ⟨⟨y0, h0⟩, ⟨y1, h1⟩, _⟩ := hf
  obtain ⟨x0, e0, k0⟩ := dec_str Try.underlying9 h0
  obtain ⟨x1, v1, e1, k1, j1⟩ := dec_LProto h1
  simp only [List.cons.injEq, and_true] at e0 e1
  subst e0 e1
  refine ⟨Unit'.mk x0 x1, ?_, ?_⟩
  · exact ⟨_, _, rfl, ⟨rfl, k0⟩, ⟨_, _, rfl, k1, rfl⟩⟩
  · intro u hu
    simp only [List.mem_cons, List.not_mem_nil, or_false] at hu 
    rcases hu with rfl | rfl <;> first | rfl | exact j1
theorem dec_LUnit {H : Type} {enc : TypeId × Value → H} {W : World} {spare : Nat → Bool} {held : Bool} {n : Nat} {cs : List Value} {r : DataW H × List MemPlace} (h : DataW.trod enc Try.prog W 0 spare held n 22 cs = some r) : ∃ (l : List (Unit')) (v : Value), cs = [v] ∧ SimV g00 W (.lst 2 none (l.map encU)) v ∧ v.oneCell' = true :=
  dec_slice encU Try.underlying22 cells37 (by decide) (fun m _ cs r hr => dec_Unit m cs r hr) h
end Go.Proofs.Ytlblgbfpdlfedaa.Gx

namespace Go.Proofs.Ytlblgbfpdlfedaa.Gx
open Go Go.Proofs.Ytlblgbfpdlfedaa.Gw
set_option linter.unusedSimpArgs false
set_option linter.unusedVariables false
open Go.ChangeShapes Go.WideShapes Go.ChangeAt Go.RowKit
set_option maxRecDepth 100000 in
theorem lifted (os : Os) (started : os.Started) (H : Type) (enc : TypeId × Value → H) :
    ReturnsInHanded {} Try.checked os 4 .any (Rows.linkRightSpec.pre6 enc Try.prog Try.f4 Rows.linkRightRow.domain false) (Rows.linkRightSpec.post enc Try.prog Try.f4 false true false false) := by
  refine returnsInHanded_of_change_sized (C := Try.checked) own started (by kernel_rfl) Try.func4
    (ChangeSpec.witness6 (enc := enc) (C := Try.checked) false ⟨#[], #[.slice none 0 0], []⟩ 8 (by kernel_rfl) (by kernel_rfl) (by kernel_rfl) (by kernel_rfl)) ?_
  intro W base args ds gs before hval0 hW hcnd hsz0 _
  have hval : ∀ (j : Nat) t v, Try.f4.params[j]? = some t → args[j]? = some v → Value.okWide Try.prog W .any base t v := hval0
  have hW' := hW
  obtain ⟨p, q, hA0, hV, rfl, hfz, hnd⟩ := hW
  have hA : DataW.TrodAll enc Try.prog W 0 (fun _ => true) true Try.f4.params.toList args.toList ds p := hA0
  rw [Try.params4] at hA hval
  obtain ⟨v0, vs0, d0, ds0, p0, q0, hargs0, rfl, rfl, h0, r0⟩ := trodAll_cons hA
  obtain ⟨rfl, rfl, rfl⟩ := trodAll_nil r0
  obtain rfl : args = #[v0] := by cases args; simp_all
  obtain ⟨rfl, rfl⟩ := trodVars_none hV
  have w0 := hval 0 22 v0 rfl rfl
  have k0 := h0
  have lt0 : ∀ x ∈ p0, x.block < W.heap.size := by obtain ⟨m, hm⟩ := k0; exact DataW.trod_lt m _ _ _ hm
  obtain ⟨m0, hm0⟩ := h0
  rw [okWide_slice Try.underlying22 w0] at hm0
  obtain ⟨l, x0, e0, s0, o0⟩ := dec_LUnit hm0
  simp only [List.cons.injEq, and_true] at e0
  subst e0
  clear hA0 hval0 hsz0
  refine ((c_LinkRight l []).2 g00 W [v0] (sim00 _ W) ⟨_, _, rfl, s0, rfl⟩).mono fun e W' ⟨r, st', g', ⟨h1, h2⟩, hend, _, hext⟩ => ?_
  subst h1
  obtain ⟨val, rfl, hb⟩ := hend
  simp only [SimV] at hb
  subst hb
  have bel := below_of hext
  exact ⟨_, rfl, _, _, _, [], _, [], hW', trodAll_mk1 (shut_bool Try.underlying4 _), (trodAll_cons_mk (Below.trod laidOut (by kernel_rfl) (of_decide_eq_true (by kernel_rfl)) k0 bel lt0) trodAll_mk0), rfl, bel.frame _, fun h => by cases h⟩
theorem over : Rows.linkRightRow.holds Try.pinned (OpenSpec.ofChange Rows.linkRightSpec) :=
  OpenClaim.holds_of_wide 4 Try.f4 rfl rfl rfl rfl rfl rfl rfl ⟨rfl, rfl, rfl, rfl, rfl⟩ rfl rfl rfl rfl rfl (by kernel_rfl) Try.func4 (by kernel_rfl)
    (of_decide_eq_true (by kernel_rfl)) (by unfold Func.isWrapper; first | (rw [if_pos (by decide +kernel)]; kernel_rfl) | (rw [if_neg (by decide +kernel)]; exact ⟨rfl, rfl⟩))
    (fun os started H enc _ => lifted os started H enc)
end Go.Proofs.Ytlblgbfpdlfedaa.Gx
namespace Go.Proofs.Ytlblgbfpdlfedaa
/-- The row, under a short name, for the claim. -/
theorem linkRight_holds : Rows.LinkRightSaid := Gx.over
#print axioms linkRight_holds
end Go.Proofs.Ytlblgbfpdlfedaa
