/- What a right unit has; and what the linker makes, in plain terms. Contract: the linker. Contracts: a closed fact of the linker. What stands ahead stays: in plain terms. The law LinkAhead answers true, of lists that are not too long. One unit alone: in plain terms; and the law LinkOne answers true. The law LinkOne answers true. -/
import Derived.Test.YtlblgbfpdlfedaaZO11

namespace Go.Proofs.Ytlblgbfpdlfedaa.Gx
open Go Go.Proofs.Ytlblgbfpdlfedaa.Gw
set_option linter.unusedSimpArgs false
set_option linter.unusedVariables false

theorem insG_zero {ps : List Pr} {G : Int} {p : Nat} : ∀ {l : List Ins} {ar : List Int}, (insG ps G p l ar).1 = 0 → ∀ x ∈ l, ∃ ar', (insE ps G p x ar').1 = 0
  | [], _, _, x, h => by simp at h
  | y :: r, ar, h, x, hx => by
    rw [insG] at h
    cases h1 : decide ((insE ps G p y ar).1 = 0) with
    | false => rw [h1] at h; simp only [Bool.not_false, cond_true] at h; exact absurd h (of_decide_eq_false h1)
    | true =>
      rw [h1] at h
      simp only [Bool.not_true, cond_false] at h
      rcases List.mem_cons.1 hx with rfl | hx
      · exact ⟨ar, of_decide_eq_true h1⟩
      · exact insG_zero h x hx
theorem protoG_zero {ps : List Pr} {G : Int} {bs : List Int} : ∀ {l : List Pr} {p : Nat} {ar : List Int}, protoG ps G bs l p ar = 0 → ∀ q ∈ l, ∃ p' ar', (insG ps G p' q.code ar').1 = 0
  | [], _, _, _, q, h => by simp at h
  | y :: r, p, ar, h, q, hq => by
    rw [protoG] at h
    cases h1 : decide (ar.getD p 0 < 0) with
    | true => rw [h1] at h; simp at h
    | false =>
      rw [h1] at h
      cases h2 : decide ((insG ps G p y.code ar).1 = 0) with
      | false => rw [h2] at h; simp only [Bool.not_false, cond_true, cond_false] at h; exact absurd h (of_decide_eq_false h2)
      | true =>
        rw [h2] at h
        cases h3 : decide (stackE y.code (decide ((p : Int) ∈ bs)) = 0) with
        | false => rw [h3] at h; simp only [Bool.not_false, Bool.not_true, cond_true, cond_false] at h; exact absurd h (of_decide_eq_false h3)
        | true =>
          rw [h3] at h
          simp only [Bool.not_true, cond_false] at h
          rcases List.mem_cons.1 hq with rfl | hq
          · exact ⟨p, ar, of_decide_eq_true h2⟩
          · exact protoG_zero h q hq
structure UnitOk (u : Unit') : Prop where
  plain : plainB u.name = true
  few : 1 ≤ u.protos.length ∧ u.protos.length ≤ 500
  form : ∀ q ∈ u.protos, 1 ≤ q.code.length ∧ q.code.length ≤ 6000 ∧ 0 ≤ q.args ∧ q.args ≤ 2000
  shape : shapeE u.protos (-1) [0] = 0
theorem unit_ok {u : Unit'} (h : unitE u = 0) : UnitOk u := by
  unfold unitE at h
  cases h1 : plainB u.name with
  | false => rw [h1] at h; simp at h
  | true =>
    rw [h1] at h
    cases h2 : decide ((u.protos.length : Int) < 1) || decide (500 < (u.protos.length : Int)) with
    | true => rw [h2] at h; simp at h
    | false =>
      rw [h2] at h
      simp only [Bool.or_eq_false_iff, decide_eq_false_iff_not] at h2
      cases h3 : decide (formE u.protos = 0) with
      | false => rw [h3] at h; simp only [Bool.not_false, Bool.not_true, cond_true, cond_false] at h; exact absurd h (of_decide_eq_false h3)
      | true =>
        rw [h3] at h
        simp only [Bool.not_true, cond_false] at h
        exact ⟨h1, by omega, formE_code (of_decide_eq_true h3), h⟩
theorem UnitOk.ins {u : Unit'} (h : UnitOk u) : ∀ q ∈ u.protos, ∀ x ∈ q.code, ∃ p ar, (insE u.protos (-1) p x ar).1 = 0 := by
  intro q hq x hx
  have hs := h.shape
  unfold shapeE at hs
  cases hb : bodiesG u.protos [0] (List.replicate u.protos.length (-1)) with
  | none => rw [hb] at hs; simp at hs
  | some ar =>
    rw [hb] at hs
    obtain ⟨p, ar', h1⟩ := protoG_zero hs q hq
    obtain ⟨ar2, h2⟩ := insG_zero h1 x hx
    exact ⟨p, ar2, h2⟩
theorem UnitOk.quote {u : Unit'} (h : UnitOk u) : ∀ q ∈ u.protos, ∀ x ∈ q.code, x.op = 3 → goodD x.quote := by
  intro q hq x hx h3
  obtain ⟨p, ar, h1⟩ := h.ins q hq x hx
  refine wrongL_good ?_
  simpa [insE, h3] using h1

/-- An image. -/
structure Im where
  gl : List Bind'
  ps : List Pr
  sts : List Int
def noIm : Im := ⟨[], [], []⟩
def encIm (im : Im) : List V := [.lst 3 none (rowsB im.gl), lstPr im.ps, .lst 1 none (rowsI im.sts)]
def linkV (r : Im × Int × Int) : V := .tup [.agg (encIm r.1), fltV r.2]
def errL (l : List Unit') (i : Nat) (u : Unit') : Int := bif decide (unitE u = 0) && (l.take i).any (fun o => decide (o.name = u.name)) then 7 else unitE u
def checkL (l : List Unit') : List Unit' → Nat → List Bind' → Int × Nat × List Bind'
  | [], _, gl => (0, 0, gl)
  | u :: r, i, gl =>
    bif decide (errL l i u = 0) then
      (bif !decide ((globP u.name u.protos gl).1 = 0) then ((globP u.name u.protos gl).1, i, (globP u.name u.protos gl).2) else checkL l r (i + 1) (globP u.name u.protos gl).2)
    else (errL l i u, i, gl)
def unitsL (gl : List Bind') : List Unit' → Nat → List Pr → List Int → Int × Nat × List Pr × List Int
  | [], _, ps, sts => (0, 0, ps, sts)
  | u :: r, i, ps, sts =>
    bif !decide ((protosL gl u.name ps.length u.protos ps).2 = 0) then ((protosL gl u.name ps.length u.protos ps).2, i, ps, sts)
    else unitsL gl r (i + 1) (protosL gl u.name ps.length u.protos ps).1 (sts ++ [(ps.length : Int)])
def linkL (l : List Unit') : Im × Int × Int :=
  bif decide (40 < (l.length : Int)) then (noIm, 5, 0) else
  bif !decide ((checkL l l 0 []).1 = 0) then (noIm, (checkL l l 0 []).1, ((checkL l l 0 []).2.1 : Nat)) else
  bif decide (500 < ((checkL l l 0 []).2.2.length : Int)) then (noIm, 4, 0) else
  bif !decide ((unitsL (checkL l l 0 []).2.2 l 0 [] []).1 = 0) then (noIm, (unitsL (checkL l l 0 []).2.2 l 0 [] []).1, ((unitsL (checkL l l 0 []).2.2 l 0 [] []).2.1 : Nat)) else
  (⟨(checkL l l 0 []).2.2, (unitsL (checkL l l 0 []).2.2 l 0 [] []).2.2.1, (unitsL (checkL l l 0 []).2.2 l 0 [] []).2.2.2⟩, 0, 0)
theorem errL_zero {l : List Unit'} {i : Nat} {u : Unit'} (h : errL l i u = 0) : unitE u = 0 := by
  unfold errL at h
  cases h1 : decide (unitE u = 0) && (l.take i).any (fun o => decide (o.name = u.name)) with
  | true => rw [h1] at h; simp at h
  | false => rw [h1] at h; simpa using h
theorem checkL_zero {l : List Unit'} : ∀ {r : List Unit'} {i : Nat} {gl : List Bind'}, (checkL l r i gl).1 = 0 → ∀ u ∈ r, unitE u = 0
  | [], _, _, _, u, h => by simp at h
  | v :: r, i, gl, h, u, hu => by
    rw [checkL] at h
    cases h1 : decide (errL l i v = 0) with
    | false => rw [h1] at h; simp only [cond_false] at h; exact absurd h (of_decide_eq_false h1)
    | true =>
      rw [h1] at h
      cases h2 : decide ((globP v.name v.protos gl).1 = 0) with
      | false => rw [h2] at h; simp only [Bool.not_false, cond_true] at h; exact absurd h (of_decide_eq_false h2)
      | true =>
        rw [h2] at h
        simp only [Bool.not_true, cond_true, cond_false] at h
        rcases List.mem_cons.1 hu with rfl | hu
        · exact errL_zero (of_decide_eq_true h1)
        · exact checkL_zero h u hu
theorem globP_len (nm : Str) : ∀ (l : List Pr) (gl : List Bind'), (∀ q ∈ l, q.code.length ≤ 6000) → (globP nm l gl).2.length ≤ gl.length + 6000 * l.length
  | [], gl, _ => by simp [globP]
  | p :: r, gl, h => by
    rw [globP]
    have h1 := globI_len nm p.code gl
    have h2 := h p (by simp)
    cases decide ((globI nm p.code gl).1 = 0)
    · simp only [Bool.not_false, cond_true, List.length_cons]; omega
    · have h3 := globP_len nm r (globI nm p.code gl).2 (fun q hq => h q (by simp [hq]))
      simp only [Bool.not_true, cond_false, List.length_cons]; omega
theorem protosL_len (gl : List Bind') (nm : Str) (base : Int) : ∀ (l ps : List Pr), (protosL gl nm base l ps).1.length ≤ ps.length + l.length
  | [], ps => by simp [protosL]
  | q :: r, ps => by
    rw [protosL]
    cases decide ((codeL gl nm base q.code []).2 = 0)
    · simp
    · have := protosL_len gl nm base r (ps ++ [⟨q.args, (codeL gl nm base q.code []).1⟩])
      simp only [List.length_append, List.length_cons, List.length_nil] at this
      simp only [Bool.not_true, cond_false, List.length_cons]; omega
end Go.Proofs.Ytlblgbfpdlfedaa.Gx

namespace Go.Proofs.Ytlblgbfpdlfedaa.Gx
open Go Go.Proofs.Ytlblgbfpdlfedaa.Gw
set_option linter.unusedSimpArgs false
set_option linter.unusedVariables false

set_option maxRecDepth 20000 in
set_option maxHeartbeats 16000000 in
theorem c_Link (l : List Unit') (st : St) : VCalls Try.prog TT 7 [lstU l] st fun r st' => r = .ret (linkV (linkL l)) ∧ st' = st := by
  refine vfun TT_ok (an := anL []) (L := [0, 1, 2, 3, 4, 5, 6, 7, 8, 17, 18, 59, 60]) (rs := [.cell 2 27, .cell 3 30]) Try.func7 rfl (by kernel_rfl) rfl Try.ntmps7 rfl rfl (Nat.le_refl _) fun hst ha hf => ?_
  simp only [lstU]
  generalize hr : linkL l = r
  have give : ∀ (a b c : V) (e i : Int) (im : Im) (ex : St), r = (im, e, i) → wkL [a, b, c] (encIm im) → Gives (linkV r) st (.ret (.tup [.agg [a, b, c], .agg [.int .i64 e, .int .i64 i]])) (st ++ ex) := by
    intro a b c e i im ex he hw
    rw [he]
    refine gives_of (wk_tup (wkL_cons (wk_agg hw) (wkL_refl _))) (wkSt_refl _) ?_ hst
    simp only [linkV, fltV, encIm, V.lt, ltL, and_true, true_and]
    exact ⟨⟨fun e h => (by cases h), ltRows_map fun x _ => ⟨trivial, trivial, trivial, trivial⟩⟩, lstPr_lt _ _, ⟨fun e h => (by cases h), ltRows_map fun x _ => ⟨trivial, trivial⟩⟩⟩
  have bad : ∀ (e i : Int) (ex : St), r = (noIm, e, i) → Gives (linkV r) st (.ret (.tup [.agg [.nils, .nils, .nils], .agg [.int .i64 e, .int .i64 i]])) (st ++ ex) := fun e i ex he =>
    give _ _ _ _ _ noIm ex he (wkL_cons (wk_nils _) (wkL_cons (wk_nils _) (wkL_cons (wk_nils _) wkL_nil)))
  simp only [decide_true, decide_false, gwL, gwB, gwD, gwE, gwS, gwTT, gwZ, initG, Nat.reduceEqDiff, ↓reduceIte, Nat.reduceAdd, Nat.reduceLT, Nat.reduceLeDiff, List.map_cons, List.map_nil, builtS, builtinV, pureR, binV, aggEq, eqFs, eqCell, Option.bind_some, Option.map_some, and_self, List.headD_cons, sliceV, pickV, evO, Env.look, find, V.ofConst, resV, resOne, tupV, loadV, fillV, buildV, mkIface, litM, litS, litR, litRows, List.reverse_cons, List.reverse_nil, Nat.reduceMul, appS, memA, appendV, rowsOf, V.cells, TI.sized, TI.known, TI.agg, anL, List.length_cons, List.length_nil, List.append_nil, List.cons_append, List.nil_append, List.drop_succ_cons, List.drop_zero, List.drop_nil, List.take_succ_cons, List.take_zero, List.take_nil, List.getElem?_cons_zero, List.getElem?_cons_succ, List.all_cons, List.all_nil, List.replicate_succ, List.replicate_zero, List.set_cons_zero, List.set_cons_succ, eq_self, true_or, ne_eq, not_false_eq_true, Nat.reduceEqDiff, List.length_map]
  refine iK_split (fun h1 => ?_) (fun h1 => ?_)
  · simp only [decide_true, decide_false, gwL, gwB, gwD, gwE, gwS, gwTT, gwZ, initG, Nat.reduceEqDiff, ↓reduceIte, Nat.reduceAdd, Nat.reduceLT, Nat.reduceLeDiff, List.map_cons, List.map_nil, builtS, builtinV, pureR, binV, aggEq, eqFs, eqCell, Option.bind_some, Option.map_some, and_self, List.headD_cons, sliceV, pickV, evO, Env.look, find, V.ofConst, resV, resOne, tupV, loadV, fillV, buildV, mkIface, litM, litS, litR, litRows, List.reverse_cons, List.reverse_nil, Nat.reduceMul, appS, memA, appendV, rowsOf, V.cells, TI.sized, TI.known, TI.agg, anL, List.length_cons, List.length_nil, List.append_nil, List.cons_append, List.nil_append, List.drop_succ_cons, List.drop_zero, List.drop_nil, List.take_succ_cons, List.take_zero, List.take_nil, List.getElem?_cons_zero, List.getElem?_cons_succ, List.all_cons, List.all_nil, List.replicate_succ, List.replicate_zero, List.set_cons_zero, List.set_cons_succ, eq_self, true_or, ne_eq, not_false_eq_true, Nat.reduceEqDiff]
    exact bad _ _ _ (by rw [← hr]; simp only [linkL, h1, cond_true])
  have h1' := of_decide_eq_false h1
  simp only [decide_true, decide_false, gwL, gwB, gwD, gwE, gwS, gwTT, gwZ, initG, Nat.reduceEqDiff, ↓reduceIte, Nat.reduceAdd, Nat.reduceLT, Nat.reduceLeDiff, List.map_cons, List.map_nil, builtS, builtinV, pureR, binV, aggEq, eqFs, eqCell, Option.bind_some, Option.map_some, and_self, List.headD_cons, sliceV, pickV, evO, Env.look, find, V.ofConst, resV, resOne, tupV, loadV, fillV, buildV, mkIface, litM, litS, litR, litRows, List.reverse_cons, List.reverse_nil, Nat.reduceMul, appS, memA, appendV, rowsOf, V.cells, TI.sized, TI.known, TI.agg, anL, List.length_cons, List.length_nil, List.append_nil, List.cons_append, List.nil_append, List.drop_succ_cons, List.drop_zero, List.drop_nil, List.take_succ_cons, List.take_zero, List.take_nil, List.getElem?_cons_zero, List.getElem?_cons_succ, List.all_cons, List.all_nil, List.replicate_succ, List.replicate_zero, List.set_cons_zero, List.set_cons_succ, eq_self, true_or, ne_eq, not_false_eq_true, Nat.reduceEqDiff, List.length_map]
  refine vmore [40, 46, 3] [1, 2, 3, 4, 17, 18] [(1, true, .ptr st.length 0), (2, true, .ptr (st.length + 1) 0), (3, true, .ptr (st.length + 2) 0), (4, true, .ptr (st.length + 3) 0), (17, true, .int .i64 l.length), (18, true, .int .i64 0)] ((st ++ [Ent.box [.lst 2 none (l.map encU)], Ent.box [.nils, .nils, .nils], Ent.box [.int .i64 0, .int .i64 0], Ent.box [.lst 3 (some (st.length + 4)) [], .lst 2 (some (st.length + 5)) [], .lst 1 (some (st.length + 6)) []]]) ++ [Ent.tip 40 0, Ent.tip 46 0, Ent.tip 3 0]) rfl ?_ ?_ ?_
  · simp only [decide_true, decide_false, gwL, gwB, gwD, gwE, gwS, gwTT, gwZ, initG, Nat.reduceEqDiff, ↓reduceIte, Nat.reduceAdd, Nat.reduceLT, Nat.reduceLeDiff, List.map_cons, List.map_nil, builtS, builtinV, pureR, binV, aggEq, eqFs, eqCell, Option.bind_some, Option.map_some, and_self, List.headD_cons, sliceV, pickV, evO, Env.look, find, V.ofConst, resV, resOne, tupV, loadV, fillV, buildV, mkIface, litM, litS, litR, litRows, List.reverse_cons, List.reverse_nil, Nat.reduceMul, appS, memA, appendV, rowsOf, V.cells, TI.sized, TI.known, TI.agg, anL, List.length_cons, List.length_nil, List.append_nil, List.cons_append, List.nil_append, List.drop_succ_cons, List.drop_zero, List.drop_nil, List.take_succ_cons, List.take_zero, List.take_nil, List.getElem?_cons_zero, List.getElem?_cons_succ, List.all_cons, List.all_nil, List.replicate_succ, List.replicate_zero, List.set_cons_zero, List.set_cons_succ, eq_self, true_or, ne_eq, not_false_eq_true, Nat.reduceEqDiff, Env.keep]
    exact wkE_refl _
  · exact ⟨_, (wkSt_refl _).append (wkSt_cons (Ent.wkp_refl _) (wkSt_cons (Ent.wkp_refl _) (wkSt_cons (Ent.wkp_refl _) (wkSt_cons (Ent.wk_box (wkL_cons (wk_tip _ (by simp [Tips])) (wkL_cons (wk_tip _ (by simp [Tips])) (wkL_cons (wk_tip _ (by simp [Tips])) wkL_nil)))) wkSt_nil)))), rfl⟩
  obtain ⟨S0, hS0⟩ : ∃ S0 : St, S0 = (st ++ [Ent.box [.lst 2 none (l.map encU)], Ent.box [.nils, .nils, .nils], Ent.box [.int .i64 0, .int .i64 0], Ent.box [.lst 3 (some (st.length + 4)) [], .lst 2 (some (st.length + 5)) [], .lst 1 (some (st.length + 6)) []]]) ++ [Ent.tip 40 0, Ent.tip 46 0, Ent.tip 3 0] := ⟨_, rfl⟩
  rw [← hS0]
  rw [List.append_assoc] at hS0
  have hS0l : S0.length = st.length + 7 := by rw [hS0]; simp
  have hL0 : LK S0 (st.length + 3) (st.length + 4) (st.length + 5) (st.length + 6) [] [] [] [] :=
    ⟨by rw [hS0, List.getElem?_append_right (by omega)]; simp [rowsB, rowsI], by rw [hS0, List.getElem?_append_right (by omega)]; simp, by rw [hS0, List.getElem?_append_right (by omega)]; simp, by rw [hS0, List.getElem?_append_right (by omega)]; simp, by simp only [wkRp, List.map_nil], by omega⟩
  have hA0 : S0[st.length]? = some (.box [lstU l]) := by rw [hS0, List.getElem?_append_right (Nat.le_refl _)]; simp [lstU]
  have hB0 : S0[st.length + 1]? = some (.box [.nils, .nils, .nils]) := by rw [hS0, List.getElem?_append_right (by omega)]; simp
  have hC0 : S0[st.length + 2]? = some (.box [.int .i64 0, .int .i64 0]) := by rw [hS0, List.getElem?_append_right (by omega)]; simp
  have pre : ∀ S : St, Ks (fun j => st.length + 3 ≤ j) S0 S → S = st ++ S.drop st.length := fun S hK => by rw [hS0] at hK; exact hK.pre fun j hj => by omega
  have hA : ∀ S : St, Ks (fun j => st.length + 3 ≤ j) S0 S → S[st.length]? = some (.box [lstU l]) := fun S hK => by rw [hK.2 _ (by omega) (by omega), hA0]
  have hB : ∀ S : St, Ks (fun j => st.length + 3 ≤ j) S0 S → S[st.length + 1]? = some (.box [.nils, .nils, .nils]) := fun S hK => by rw [hK.2 _ (by omega) (by omega), hB0]
  have hC : ∀ S : St, Ks (fun j => st.length + 3 ≤ j) S0 S → S[st.length + 2]? = some (.box [.int .i64 0, .int .i64 0]) := fun S hK => by rw [hK.2 _ (by omega) (by omega), hC0]
  have hr1 : ∀ (S : St) (X Y : Ent), st.length + 3 ≤ S.length → ((S.set (st.length + 1) X).set (st.length + 2) Y)[st.length + 1]? = some X := fun S X Y h => by rw [List.getElem?_set_ne (by omega), List.getElem?_set_self (by omega)]
  have hr2 : ∀ (S : St) (X Y : Ent), st.length + 3 ≤ S.length → ((S.set (st.length + 1) X).set (st.length + 2) Y)[st.length + 2]? = some Y := fun S X Y h => by rw [List.getElem?_set_self (by rw [List.length_set]; omega)]
  have hpr : ∀ (S : St) (X Y : Ent), S = st ++ S.drop st.length → (S.set (st.length + 1) X).set (st.length + 2) Y = st ++ ((S.drop st.length).set 1 X).set 2 Y := fun S X Y h => by
    rw [h, List.set_append_right _ _ (by omega), List.set_append_right _ _ (by omega)]
    simp
  refine vfor (σ := Nat × St × List Bind') [1, 2, 3, 4, 17, 18] (fun x => [(1, true, .ptr st.length 0), (2, true, .ptr (st.length + 1) 0), (3, true, .ptr (st.length + 2) 0), (4, true, .ptr (st.length + 3) 0), (17, true, .int .i64 l.length), (18, true, .int .i64 x.1)]) (fun x => x.2.1) (fun x => l.length - x.1) (fun x => x.1 ≤ l.length ∧ LK x.2.1 (st.length + 3) (st.length + 4) (st.length + 5) (st.length + 6) x.2.2 [] [] [] ∧ Ks (fun j => st.length + 3 ≤ j) S0 x.2.1 ∧ checkL l l 0 [] = checkL l (l.drop x.1) x.1 x.2.2 ∧ x.2.2.length ≤ 3000000 * x.1) (0, S0, []) rfl TT_ok ⟨Nat.zero_le _, hL0, Ks.refl _ _, rfl, by simp⟩ rfl rfl ?_
  rintro ⟨i, S, gl⟩ ⟨hi, hL, hK, hx, hn⟩
  simp only at hi hL hK hx hn ⊢
  have hSl := hK.1
  rcases at_or_end l i hi with ⟨hie, hd⟩ | ⟨u, hlt, hget, hdr⟩
  · have hie2 : i = l.length := hie
    subst hie2
    rw [hd, checkL] at hx
    have hrb : (rowsB gl).length = gl.length := by simp [rowsB]
    have hall : ∀ u ∈ l, UnitOk u := fun u hu => unit_ok (checkL_zero (by rw [hx]) u hu)
    have hSA := hA S hK
    simp only [decide_true, decide_false, gwL, gwB, gwD, gwE, gwS, gwTT, gwZ, initG, Nat.reduceEqDiff, ↓reduceIte, Nat.reduceAdd, Nat.reduceLT, Nat.reduceLeDiff, List.map_cons, List.map_nil, builtS, builtinV, pureR, binV, aggEq, eqFs, eqCell, Option.bind_some, Option.map_some, and_self, List.headD_cons, sliceV, pickV, evO, Env.look, find, V.ofConst, resV, resOne, tupV, loadV, fillV, buildV, mkIface, litM, litS, litR, litRows, List.reverse_cons, List.reverse_nil, Nat.reduceMul, appS, memA, appendV, rowsOf, V.cells, TI.sized, TI.known, TI.agg, anL, List.length_cons, List.length_nil, List.append_nil, List.cons_append, List.nil_append, List.drop_succ_cons, List.drop_zero, List.drop_nil, List.take_succ_cons, List.take_zero, List.take_nil, List.getElem?_cons_zero, List.getElem?_cons_succ, List.all_cons, List.all_nil, List.replicate_succ, List.replicate_zero, List.set_cons_zero, List.set_cons_succ, eq_self, true_or, ne_eq, not_false_eq_true, Nat.reduceEqDiff, lt_no, hL.box, hrb]
    refine iK_split (fun h5 => ?_) (fun h5 => ?_)
    · have hs2 : ∀ X, (S.set (st.length + 1) X)[st.length + 2]? = some (.box [.int .i64 0, .int .i64 0]) := fun X => by rw [List.getElem?_set_ne (by omega), hC S hK]
      have hq1 := fun X Y => hr1 S X Y (by have := hK.1; omega)
      have hq2 := fun X Y => hr2 S X Y (by have := hK.1; omega)
      simp only [decide_true, decide_false, gwL, gwB, gwD, gwE, gwS, gwTT, gwZ, initG, Nat.reduceEqDiff, ↓reduceIte, Nat.reduceAdd, Nat.reduceLT, Nat.reduceLeDiff, List.map_cons, List.map_nil, builtS, builtinV, pureR, binV, aggEq, eqFs, eqCell, Option.bind_some, Option.map_some, and_self, List.headD_cons, sliceV, pickV, evO, Env.look, find, V.ofConst, resV, resOne, tupV, loadV, fillV, buildV, mkIface, litM, litS, litR, litRows, List.reverse_cons, List.reverse_nil, Nat.reduceMul, appS, memA, appendV, rowsOf, V.cells, TI.sized, TI.known, TI.agg, anL, List.length_cons, List.length_nil, List.append_nil, List.cons_append, List.nil_append, List.drop_succ_cons, List.drop_zero, List.drop_nil, List.take_succ_cons, List.take_zero, List.take_nil, List.getElem?_cons_zero, List.getElem?_cons_succ, List.all_cons, List.all_nil, List.replicate_succ, List.replicate_zero, List.set_cons_zero, List.set_cons_succ, eq_self, true_or, ne_eq, not_false_eq_true, Nat.reduceEqDiff, hB S hK, hs2, hq1, hq2]
      rw [hpr S _ _ (pre S hK)]
      exact bad _ _ _ (by rw [← hr]; simp only [linkL, h1, hx, h5, cond_true, cond_false, decide_true, Bool.not_true])
    simp only [decide_true, decide_false, gwL, gwB, gwD, gwE, gwS, gwTT, gwZ, initG, Nat.reduceEqDiff, ↓reduceIte, Nat.reduceAdd, Nat.reduceLT, Nat.reduceLeDiff, List.map_cons, List.map_nil, builtS, builtinV, pureR, binV, aggEq, eqFs, eqCell, Option.bind_some, Option.map_some, and_self, List.headD_cons, sliceV, pickV, evO, Env.look, find, V.ofConst, resV, resOne, tupV, loadV, fillV, buildV, mkIface, litM, litS, litR, litRows, List.reverse_cons, List.reverse_nil, Nat.reduceMul, appS, memA, appendV, rowsOf, V.cells, TI.sized, TI.known, TI.agg, anL, List.length_cons, List.length_nil, List.append_nil, List.cons_append, List.nil_append, List.drop_succ_cons, List.drop_zero, List.drop_nil, List.take_succ_cons, List.take_zero, List.take_nil, List.getElem?_cons_zero, List.getElem?_cons_succ, List.all_cons, List.all_nil, List.replicate_succ, List.replicate_zero, List.set_cons_zero, List.set_cons_succ, eq_self, true_or, ne_eq, not_false_eq_true, Nat.reduceEqDiff, hSA, lstU, List.length_map]
    refine vfor (σ := Nat × St × List (List V) × List Pr × List Int) [1, 2, 3, 4, 59, 60] (fun x => [(1, true, .ptr st.length 0), (2, true, .ptr (st.length + 1) 0), (3, true, .ptr (st.length + 2) 0), (4, true, .ptr (st.length + 3) 0), (59, true, .int .i64 l.length), (60, true, .int .i64 x.1)]) (fun x => x.2.1) (fun x => l.length - x.1) (fun x => x.1 ≤ l.length ∧ LK x.2.1 (st.length + 3) (st.length + 4) (st.length + 5) (st.length + 6) gl x.2.2.1 x.2.2.2.1 x.2.2.2.2 ∧ Ks (fun j => st.length + 3 ≤ j) S0 x.2.1 ∧ unitsL gl l 0 [] [] = unitsL gl (l.drop x.1) x.1 x.2.2.2.1 x.2.2.2.2 ∧ x.2.2.2.1.length ≤ 500 * x.1 ∧ x.2.2.2.2.length = x.1) (0, S, [], [], []) rfl TT_ok ⟨Nat.zero_le _, hL, hK, rfl, by simp, rfl⟩ rfl rfl ?_
    clear hL hSl hSA hK
    rintro ⟨i, S, rows, ps, sts⟩ ⟨hi, hL, hK, hy, hn, hsn⟩
    simp only at hi hL hK hy hn hsn ⊢
    have hSl := hK.1
    rcases at_or_end l i hi with ⟨hie, hd⟩ | ⟨u, hlt, hget, hdr⟩
    · have hie2 : i = l.length := hie
      subst hie2
      rw [hd, unitsL] at hy
      simp only [decide_true, decide_false, gwL, gwB, gwD, gwE, gwS, gwTT, gwZ, initG, Nat.reduceEqDiff, ↓reduceIte, Nat.reduceAdd, Nat.reduceLT, Nat.reduceLeDiff, List.map_cons, List.map_nil, builtS, builtinV, pureR, binV, aggEq, eqFs, eqCell, Option.bind_some, Option.map_some, and_self, List.headD_cons, sliceV, pickV, evO, Env.look, find, V.ofConst, resV, resOne, tupV, loadV, fillV, buildV, mkIface, litM, litS, litR, litRows, List.reverse_cons, List.reverse_nil, Nat.reduceMul, appS, memA, appendV, rowsOf, V.cells, TI.sized, TI.known, TI.agg, anL, List.length_cons, List.length_nil, List.append_nil, List.cons_append, List.nil_append, List.drop_succ_cons, List.drop_zero, List.drop_nil, List.take_succ_cons, List.take_zero, List.take_nil, List.getElem?_cons_zero, List.getElem?_cons_succ, List.all_cons, List.all_nil, List.replicate_succ, List.replicate_zero, List.set_cons_zero, List.set_cons_succ, eq_self, true_or, ne_eq, not_false_eq_true, Nat.reduceEqDiff, lt_no, hL.box]
      have hs2 : ∀ X, (S.set (st.length + 1) X)[st.length + 2]? = some (.box [.int .i64 0, .int .i64 0]) := fun X => by rw [List.getElem?_set_ne (by omega), hC S hK]
      have hq1 := fun X Y => hr1 S X Y (by have := hK.1; omega)
      have hq2 := fun X Y => hr2 S X Y (by have := hK.1; omega)
      simp only [decide_true, decide_false, gwL, gwB, gwD, gwE, gwS, gwTT, gwZ, initG, Nat.reduceEqDiff, ↓reduceIte, Nat.reduceAdd, Nat.reduceLT, Nat.reduceLeDiff, List.map_cons, List.map_nil, builtS, builtinV, pureR, binV, aggEq, eqFs, eqCell, Option.bind_some, Option.map_some, and_self, List.headD_cons, sliceV, pickV, evO, Env.look, find, V.ofConst, resV, resOne, tupV, loadV, fillV, buildV, mkIface, litM, litS, litR, litRows, List.reverse_cons, List.reverse_nil, Nat.reduceMul, appS, memA, appendV, rowsOf, V.cells, TI.sized, TI.known, TI.agg, anL, List.length_cons, List.length_nil, List.append_nil, List.cons_append, List.nil_append, List.drop_succ_cons, List.drop_zero, List.drop_nil, List.take_succ_cons, List.take_zero, List.take_nil, List.getElem?_cons_zero, List.getElem?_cons_succ, List.all_cons, List.all_nil, List.replicate_succ, List.replicate_zero, List.set_cons_zero, List.set_cons_succ, eq_self, true_or, ne_eq, not_false_eq_true, Nat.reduceEqDiff, hB S hK, hs2, hq1, hq2, hL.box]
      rw [hpr S _ _ (pre S hK)]
      refine give _ _ _ _ _ ⟨gl, ps, sts⟩ _ (by rw [← hr]; simp only [linkL, h1, hx, h5, hy, cond_false, decide_true, Bool.not_true]) (wkL_cons (wk_tok _ _ _) (wkL_cons (wk_lst hL.rows) (wkL_cons (wk_tok _ _ _) wkL_nil)))
    · have hgu : (l.map encU).getD i [] = encU u := getD_map hget
      have w : IntKind.i64.wrap ((i : Int) + 1) = ((i + 1 : Nat) : Int) := next_i64 hlt (by omega)
      rw [hdr, unitsL] at hy
      have hok := hall u (List.mem_of_getElem? hget)
      have hSA := hA S hK
      simp only [decide_true, decide_false, gwL, gwB, gwD, gwE, gwS, gwTT, gwZ, initG, Nat.reduceEqDiff, ↓reduceIte, Nat.reduceAdd, Nat.reduceLT, Nat.reduceLeDiff, List.map_cons, List.map_nil, builtS, builtinV, pureR, binV, aggEq, eqFs, eqCell, Option.bind_some, Option.map_some, and_self, List.headD_cons, sliceV, pickV, evO, Env.look, find, V.ofConst, resV, resOne, tupV, loadV, fillV, buildV, mkIface, litM, litS, litR, litRows, List.reverse_cons, List.reverse_nil, Nat.reduceMul, appS, memA, appendV, rowsOf, V.cells, TI.sized, TI.known, TI.agg, anL, List.length_cons, List.length_nil, List.append_nil, List.cons_append, List.nil_append, List.drop_succ_cons, List.drop_zero, List.drop_nil, List.take_succ_cons, List.take_zero, List.take_nil, List.getElem?_cons_zero, List.getElem?_cons_succ, List.all_cons, List.all_nil, List.replicate_succ, List.replicate_zero, List.set_cons_zero, List.set_cons_succ, eq_self, true_or, ne_eq, not_false_eq_true, Nat.reduceEqDiff, lt_yes hlt, hSA, lstU, hgu, Int.toNat_natCast, Int.ofNat_lt.mpr hlt, List.length_map]
      refine useQ (c_unit S (st.length + 3) (st.length + 4) (st.length + 5) (st.length + 6) gl rows ps sts u hL hok.few.2 (fun q hq => (hok.form q hq).2.1) (fun q hq x hx h3 => goodD_small _ (hok.quote q hq x hx h3)) (by omega) (by omega)) (wkL_refl _) (by rintro v s' ⟨h, _⟩; cases h) ?_
      rintro X S2 hX ⟨hX', ⟨rows2, h2L⟩, h2K'⟩
      cases hX'
      have hpl := protosL_len gl u.name ps.length u.protos ps
      have hfew := hok.few
      generalize protosL gl u.name ps.length u.protos ps = gg at hy h2L hpl ⊢
      obtain ⟨p2, ge⟩ := gg
      simp only at hy h2L hpl ⊢
      have h2K : Ks (fun j => st.length + 3 ≤ j) S0 S2 := hK.trans (h2K'.mono fun j hj => by rcases hj with h | h | h <;> omega)
      simp only [decide_true, decide_false, gwL, gwB, gwD, gwE, gwS, gwTT, gwZ, initG, Nat.reduceEqDiff, ↓reduceIte, Nat.reduceAdd, Nat.reduceLT, Nat.reduceLeDiff, List.map_cons, List.map_nil, builtS, builtinV, pureR, binV, aggEq, eqFs, eqCell, Option.bind_some, Option.map_some, and_self, List.headD_cons, sliceV, pickV, evO, Env.look, find, V.ofConst, resV, resOne, tupV, loadV, fillV, buildV, mkIface, litM, litS, litR, litRows, List.reverse_cons, List.reverse_nil, Nat.reduceMul, appS, memA, appendV, rowsOf, V.cells, TI.sized, TI.known, TI.agg, anL, List.length_cons, List.length_nil, List.append_nil, List.cons_append, List.nil_append, List.drop_succ_cons, List.drop_zero, List.drop_nil, List.take_succ_cons, List.take_zero, List.take_nil, List.getElem?_cons_zero, List.getElem?_cons_succ, List.all_cons, List.all_nil, List.replicate_succ, List.replicate_zero, List.set_cons_zero, List.set_cons_succ, eq_self, true_or, ne_eq, not_false_eq_true, Nat.reduceEqDiff]
      refine iK_split (fun h4 => ?_) (fun h4 => ?_)
      · rw [h4] at hy
        simp only [cond_true] at hy
        have hs2 : ∀ X, (S2.set (st.length + 1) X)[st.length + 2]? = some (.box [.int .i64 0, .int .i64 0]) := fun X => by rw [List.getElem?_set_ne (by omega), hC S2 h2K]
        have hq1 := fun X Y => hr1 S2 X Y (by have := h2K.1; omega)
        have hq2 := fun X Y => hr2 S2 X Y (by have := h2K.1; omega)
        simp only [decide_true, decide_false, gwL, gwB, gwD, gwE, gwS, gwTT, gwZ, initG, Nat.reduceEqDiff, ↓reduceIte, Nat.reduceAdd, Nat.reduceLT, Nat.reduceLeDiff, List.map_cons, List.map_nil, builtS, builtinV, pureR, binV, aggEq, eqFs, eqCell, Option.bind_some, Option.map_some, and_self, List.headD_cons, sliceV, pickV, evO, Env.look, find, V.ofConst, resV, resOne, tupV, loadV, fillV, buildV, mkIface, litM, litS, litR, litRows, List.reverse_cons, List.reverse_nil, Nat.reduceMul, appS, memA, appendV, rowsOf, V.cells, TI.sized, TI.known, TI.agg, anL, List.length_cons, List.length_nil, List.append_nil, List.cons_append, List.nil_append, List.drop_succ_cons, List.drop_zero, List.drop_nil, List.take_succ_cons, List.take_zero, List.take_nil, List.getElem?_cons_zero, List.getElem?_cons_succ, List.all_cons, List.all_nil, List.replicate_succ, List.replicate_zero, List.set_cons_zero, List.set_cons_succ, eq_self, true_or, ne_eq, not_false_eq_true, Nat.reduceEqDiff, hB S2 h2K, hs2, hq1, hq2]
        rw [hpr S2 _ _ (pre S2 h2K)]
        exact bad _ _ _ (by rw [← hr]; simp only [linkL, h1, hx, h5, hy, h4, cond_true, cond_false, decide_true, Bool.not_true])
      · rw [h4] at hy
        simp only [cond_false] at hy
        simp only [decide_true, decide_false, gwL, gwB, gwD, gwE, gwS, gwTT, gwZ, initG, Nat.reduceEqDiff, ↓reduceIte, Nat.reduceAdd, Nat.reduceLT, Nat.reduceLeDiff, List.map_cons, List.map_nil, builtS, builtinV, pureR, binV, aggEq, eqFs, eqCell, Option.bind_some, Option.map_some, and_self, List.headD_cons, sliceV, pickV, evO, Env.look, find, V.ofConst, resV, resOne, tupV, loadV, fillV, buildV, mkIface, litM, litS, litR, litRows, List.reverse_cons, List.reverse_nil, Nat.reduceMul, appS, memA, appendV, rowsOf, V.cells, TI.sized, TI.known, TI.agg, anL, List.length_cons, List.length_nil, List.append_nil, List.cons_append, List.nil_append, List.drop_succ_cons, List.drop_zero, List.drop_nil, List.take_succ_cons, List.take_zero, List.take_nil, List.getElem?_cons_zero, List.getElem?_cons_succ, List.all_cons, List.all_nil, List.replicate_succ, List.replicate_zero, List.set_cons_zero, List.set_cons_succ, eq_self, true_or, ne_eq, not_false_eq_true, Nat.reduceEqDiff, w, Env.keep]
        exact ⟨(i + 1, S2, rows2, p2, sts ++ [(ps.length : Int)]), rfl, rfl, by simp only; omega, by simp only; omega, h2L, h2K, hy, by simp only; omega, by simp [hsn]⟩
  · have hgu : (l.map encU).getD i [] = encU u := getD_map hget
    have w : IntKind.i64.wrap ((i : Int) + 1) = ((i + 1 : Nat) : Int) := next_i64 hlt (by omega)
    rw [hdr, checkL] at hx
    have hSA := hA S hK
    obtain ⟨S1, hS1⟩ : ∃ S1 : St, S1 = S ++ [Ent.box [.int .i64 i]] := ⟨_, rfl⟩
    have h1K : Ks (fun j => st.length + 3 ≤ j) S0 S1 := by rw [hS1]; exact hK.trans ⟨by simp, fun j hj _ => st_old hj⟩
    have h1A := hA S1 h1K
    have h15 : S1[S.length]? = some (.box [.int .i64 i]) := by rw [hS1]; simp
    have h1L : LK S1 (st.length + 3) (st.length + 4) (st.length + 5) (st.length + 6) gl [] [] [] := by rw [hS1]; exact hL.app _
    simp only [decide_true, decide_false, gwL, gwB, gwD, gwE, gwS, gwTT, gwZ, initG, Nat.reduceEqDiff, ↓reduceIte, Nat.reduceAdd, Nat.reduceLT, Nat.reduceLeDiff, List.map_cons, List.map_nil, builtS, builtinV, pureR, binV, aggEq, eqFs, eqCell, Option.bind_some, Option.map_some, and_self, List.headD_cons, sliceV, pickV, evO, Env.look, find, V.ofConst, resV, resOne, tupV, loadV, fillV, buildV, mkIface, litM, litS, litR, litRows, List.reverse_cons, List.reverse_nil, Nat.reduceMul, appS, memA, appendV, rowsOf, V.cells, TI.sized, TI.known, TI.agg, anL, List.length_cons, List.length_nil, List.append_nil, List.cons_append, List.nil_append, List.drop_succ_cons, List.drop_zero, List.drop_nil, List.take_succ_cons, List.take_zero, List.take_nil, List.getElem?_cons_zero, List.getElem?_cons_succ, List.all_cons, List.all_nil, List.replicate_succ, List.replicate_zero, List.set_cons_zero, List.set_cons_succ, eq_self, true_or, ne_eq, not_false_eq_true, Nat.reduceEqDiff, lt_yes hlt, ← hS1]
    simp only [decide_true, decide_false, gwL, gwB, gwD, gwE, gwS, gwTT, gwZ, initG, Nat.reduceEqDiff, ↓reduceIte, Nat.reduceAdd, Nat.reduceLT, Nat.reduceLeDiff, List.map_cons, List.map_nil, builtS, builtinV, pureR, binV, aggEq, eqFs, eqCell, Option.bind_some, Option.map_some, and_self, List.headD_cons, sliceV, pickV, evO, Env.look, find, V.ofConst, resV, resOne, tupV, loadV, fillV, buildV, mkIface, litM, litS, litR, litRows, List.reverse_cons, List.reverse_nil, Nat.reduceMul, appS, memA, appendV, rowsOf, V.cells, TI.sized, TI.known, TI.agg, anL, List.length_cons, List.length_nil, List.append_nil, List.cons_append, List.nil_append, List.drop_succ_cons, List.drop_zero, List.drop_nil, List.take_succ_cons, List.take_zero, List.take_nil, List.getElem?_cons_zero, List.getElem?_cons_succ, List.all_cons, List.all_nil, List.replicate_succ, List.replicate_zero, List.set_cons_zero, List.set_cons_succ, eq_self, true_or, ne_eq, not_false_eq_true, Nat.reduceEqDiff, h1A, h15, lstU, hgu, Int.toNat_natCast, Int.ofNat_lt.mpr hlt, List.length_map, encU_len, encU_take, Nat.le_refl]
    refine (c_object_Wrong u _).use (wkL_refl _) fun _ => ?_
    have hcf := c_ContainsFunc S1 (l.take i) 15 [.ptr st.length 0, .ptr S.length 0] (fun o => decide (o.name = u.name)) (fun a _ => c_nameIs S1 st.length S.length l i a u h1A h15 hget)
    simp only [lstU, List.map_take] at hcf
    simp only [decide_true, decide_false, gwL, gwB, gwD, gwE, gwS, gwTT, gwZ, initG, Nat.reduceEqDiff, ↓reduceIte, Nat.reduceAdd, Nat.reduceLT, Nat.reduceLeDiff, List.map_cons, List.map_nil, builtS, builtinV, pureR, binV, aggEq, eqFs, eqCell, Option.bind_some, Option.map_some, and_self, List.headD_cons, sliceV, pickV, evO, Env.look, find, V.ofConst, resV, resOne, tupV, loadV, fillV, buildV, mkIface, litM, litS, litR, litRows, List.reverse_cons, List.reverse_nil, Nat.reduceMul, appS, memA, appendV, rowsOf, V.cells, TI.sized, TI.known, TI.agg, anL, List.length_cons, List.length_nil, List.append_nil, List.cons_append, List.nil_append, List.drop_succ_cons, List.drop_zero, List.drop_nil, List.take_succ_cons, List.take_zero, List.take_nil, List.getElem?_cons_zero, List.getElem?_cons_succ, List.all_cons, List.all_nil, List.replicate_succ, List.replicate_zero, List.set_cons_zero, List.set_cons_succ, eq_self, true_or, ne_eq, not_false_eq_true, Nat.reduceEqDiff, h1A, h15, lstU, Int.toNat_natCast, List.length_map]
    refine ⟨fun _ => by omega, ?_⟩
    refine rK_guarded (.bool ((l.take i).any fun o => decide (o.name = u.name))) (fun _ => hcf) ?_
    simp only [decide_true, decide_false, gwL, gwB, gwD, gwE, gwS, gwTT, gwZ, initG, Nat.reduceEqDiff, ↓reduceIte, Nat.reduceAdd, Nat.reduceLT, Nat.reduceLeDiff, List.map_cons, List.map_nil, builtS, builtinV, pureR, binV, aggEq, eqFs, eqCell, Option.bind_some, Option.map_some, and_self, List.headD_cons, sliceV, pickV, evO, Env.look, find, V.ofConst, resV, resOne, tupV, loadV, fillV, buildV, mkIface, litM, litS, litR, litRows, List.reverse_cons, List.reverse_nil, Nat.reduceMul, appS, memA, appendV, rowsOf, V.cells, TI.sized, TI.known, TI.agg, anL, List.length_cons, List.length_nil, List.append_nil, List.cons_append, List.nil_append, List.drop_succ_cons, List.drop_zero, List.drop_nil, List.take_succ_cons, List.take_zero, List.take_nil, List.getElem?_cons_zero, List.getElem?_cons_succ, List.all_cons, List.all_nil, List.replicate_succ, List.replicate_zero, List.set_cons_zero, List.set_cons_succ, eq_self, true_or, ne_eq, not_false_eq_true, Nat.reduceEqDiff]
    refine iK_split (fun h2 => ?_) (fun h2 => ?_)
    · have he : errL l i u = 7 := by simp only [errL, h2, cond_true]
      rw [he] at hx
      simp only [Int.reduceEq, decide_false, cond_false] at hx
      simp only [decide_true, decide_false, gwL, gwB, gwD, gwE, gwS, gwTT, gwZ, initG, Nat.reduceEqDiff, ↓reduceIte, Nat.reduceAdd, Nat.reduceLT, Nat.reduceLeDiff, List.map_cons, List.map_nil, builtS, builtinV, pureR, binV, aggEq, eqFs, eqCell, Option.bind_some, Option.map_some, and_self, List.headD_cons, sliceV, pickV, evO, Env.look, find, V.ofConst, resV, resOne, tupV, loadV, fillV, buildV, mkIface, litM, litS, litR, litRows, List.reverse_cons, List.reverse_nil, Nat.reduceMul, appS, memA, appendV, rowsOf, V.cells, TI.sized, TI.known, TI.agg, anL, List.length_cons, List.length_nil, List.append_nil, List.cons_append, List.nil_append, List.drop_succ_cons, List.drop_zero, List.drop_nil, List.take_succ_cons, List.take_zero, List.take_nil, List.getElem?_cons_zero, List.getElem?_cons_succ, List.all_cons, List.all_nil, List.replicate_succ, List.replicate_zero, List.set_cons_zero, List.set_cons_succ, eq_self, true_or, ne_eq, not_false_eq_true, Nat.reduceEqDiff, Int.reduceEq, Bool.not_false]
      try simp only [decide_true, decide_false, gwL, gwB, gwD, gwE, gwS, gwTT, gwZ, initG, Nat.reduceEqDiff, ↓reduceIte, Nat.reduceAdd, Nat.reduceLT, Nat.reduceLeDiff, List.map_cons, List.map_nil, builtS, builtinV, pureR, binV, aggEq, eqFs, eqCell, Option.bind_some, Option.map_some, and_self, List.headD_cons, sliceV, pickV, evO, Env.look, find, V.ofConst, resV, resOne, tupV, loadV, fillV, buildV, mkIface, litM, litS, litR, litRows, List.reverse_cons, List.reverse_nil, Nat.reduceMul, appS, memA, appendV, rowsOf, V.cells, TI.sized, TI.known, TI.agg, anL, List.length_cons, List.length_nil, List.append_nil, List.cons_append, List.nil_append, List.drop_succ_cons, List.drop_zero, List.drop_nil, List.take_succ_cons, List.take_zero, List.take_nil, List.getElem?_cons_zero, List.getElem?_cons_succ, List.all_cons, List.all_nil, List.replicate_succ, List.replicate_zero, List.set_cons_zero, List.set_cons_succ, eq_self, true_or, ne_eq, not_false_eq_true, Nat.reduceEqDiff]
      have hKm : Ks (fun j => st.length + 3 ≤ j) S0 (S1.set S.length .gone) := h1K.trans ⟨by simp, fun j hj hx => by rw [List.getElem?_set_ne (by omega)]⟩
      generalize hSm : S1.set S.length .gone = Sm at hKm
      refine vmelt 5 S.length _ rfl h15 ?_
      rw [hSm]
      simp only [decide_true, decide_false, gwL, gwB, gwD, gwE, gwS, gwTT, gwZ, initG, Nat.reduceEqDiff, ↓reduceIte, Nat.reduceAdd, Nat.reduceLT, Nat.reduceLeDiff, List.map_cons, List.map_nil, builtS, builtinV, pureR, binV, aggEq, eqFs, eqCell, Option.bind_some, Option.map_some, and_self, List.headD_cons, sliceV, pickV, evO, Env.look, find, V.ofConst, resV, resOne, tupV, loadV, fillV, buildV, mkIface, litM, litS, litR, litRows, List.reverse_cons, List.reverse_nil, Nat.reduceMul, appS, memA, appendV, rowsOf, V.cells, TI.sized, TI.known, TI.agg, anL, List.length_cons, List.length_nil, List.append_nil, List.cons_append, List.nil_append, List.drop_succ_cons, List.drop_zero, List.drop_nil, List.take_succ_cons, List.take_zero, List.take_nil, List.getElem?_cons_zero, List.getElem?_cons_succ, List.all_cons, List.all_nil, List.replicate_succ, List.replicate_zero, List.set_cons_zero, List.set_cons_succ, eq_self, true_or, ne_eq, not_false_eq_true, Nat.reduceEqDiff, meltE]
      refine vdraw TT_ok TT_mixed [0, 0, 0, 0, 2, 2] (by kernel_rfl) ?_
      have hs2 : ∀ X, (Sm.set (st.length + 1) X)[st.length + 2]? = some (.box [.int .i64 0, .int .i64 0]) := fun X => by rw [List.getElem?_set_ne (by omega), hC Sm hKm]
      have hq1 := fun X Y => hr1 Sm X Y (by have := hKm.1; omega)
      have hq2 := fun X Y => hr2 Sm X Y (by have := hKm.1; omega)
      simp only [decide_true, decide_false, gwL, gwB, gwD, gwE, gwS, gwTT, gwZ, initG, Nat.reduceEqDiff, ↓reduceIte, Nat.reduceAdd, Nat.reduceLT, Nat.reduceLeDiff, List.map_cons, List.map_nil, builtS, builtinV, pureR, binV, aggEq, eqFs, eqCell, Option.bind_some, Option.map_some, and_self, List.headD_cons, sliceV, pickV, evO, Env.look, find, V.ofConst, resV, resOne, tupV, loadV, fillV, buildV, mkIface, litM, litS, litR, litRows, List.reverse_cons, List.reverse_nil, Nat.reduceMul, appS, memA, appendV, rowsOf, V.cells, TI.sized, TI.known, TI.agg, anL, List.length_cons, List.length_nil, List.append_nil, List.cons_append, List.nil_append, List.drop_succ_cons, List.drop_zero, List.drop_nil, List.take_succ_cons, List.take_zero, List.take_nil, List.getElem?_cons_zero, List.getElem?_cons_succ, List.all_cons, List.all_nil, List.replicate_succ, List.replicate_zero, List.set_cons_zero, List.set_cons_succ, eq_self, true_or, ne_eq, not_false_eq_true, Nat.reduceEqDiff, hB Sm hKm, hs2, hq1, hq2]
      rw [hpr Sm _ _ (pre Sm hKm)]
      exact bad _ _ _ (by rw [← hr]; simp only [linkL, h1, hx, cond_true, cond_false, Int.reduceEq, decide_false, Bool.not_false])
    have he : errL l i u = unitE u := by simp only [errL, h2, cond_false]
    rw [he] at hx
    simp only [decide_true, decide_false, gwL, gwB, gwD, gwE, gwS, gwTT, gwZ, initG, Nat.reduceEqDiff, ↓reduceIte, Nat.reduceAdd, Nat.reduceLT, Nat.reduceLeDiff, List.map_cons, List.map_nil, builtS, builtinV, pureR, binV, aggEq, eqFs, eqCell, Option.bind_some, Option.map_some, and_self, List.headD_cons, sliceV, pickV, evO, Env.look, find, V.ofConst, resV, resOne, tupV, loadV, fillV, buildV, mkIface, litM, litS, litR, litRows, List.reverse_cons, List.reverse_nil, Nat.reduceMul, appS, memA, appendV, rowsOf, V.cells, TI.sized, TI.known, TI.agg, anL, List.length_cons, List.length_nil, List.append_nil, List.cons_append, List.nil_append, List.drop_succ_cons, List.drop_zero, List.drop_nil, List.take_succ_cons, List.take_zero, List.take_nil, List.getElem?_cons_zero, List.getElem?_cons_succ, List.all_cons, List.all_nil, List.replicate_succ, List.replicate_zero, List.set_cons_zero, List.set_cons_succ, eq_self, true_or, ne_eq, not_false_eq_true, Nat.reduceEqDiff]
    refine iK_split (fun h3 => ?_) (fun h3 => ?_)
    · have hok := unit_ok (of_decide_eq_true h3)
      rw [h3] at hx
      simp only [cond_true] at hx
      simp only [decide_true, decide_false, gwL, gwB, gwD, gwE, gwS, gwTT, gwZ, initG, Nat.reduceEqDiff, ↓reduceIte, Nat.reduceAdd, Nat.reduceLT, Nat.reduceLeDiff, List.map_cons, List.map_nil, builtS, builtinV, pureR, binV, aggEq, eqFs, eqCell, Option.bind_some, Option.map_some, and_self, List.headD_cons, sliceV, pickV, evO, Env.look, find, V.ofConst, resV, resOne, tupV, loadV, fillV, buildV, mkIface, litM, litS, litR, litRows, List.reverse_cons, List.reverse_nil, Nat.reduceMul, appS, memA, appendV, rowsOf, V.cells, TI.sized, TI.known, TI.agg, anL, List.length_cons, List.length_nil, List.append_nil, List.cons_append, List.nil_append, List.drop_succ_cons, List.drop_zero, List.drop_nil, List.take_succ_cons, List.take_zero, List.take_nil, List.getElem?_cons_zero, List.getElem?_cons_succ, List.all_cons, List.all_nil, List.replicate_succ, List.replicate_zero, List.set_cons_zero, List.set_cons_succ, eq_self, true_or, ne_eq, not_false_eq_true, Nat.reduceEqDiff, h1A, h15, lstU, hgu, Int.toNat_natCast, Int.ofNat_lt.mpr hlt, List.length_map]
      refine useQ (c_globals S1 (st.length + 3) (st.length + 4) (st.length + 5) (st.length + 6) gl [] [] [] u h1L hok.few.2 (fun q hq => (hok.form q hq).2.1) (by omega)) (wkL_refl _) (by rintro v s' ⟨h, _⟩; cases h) ?_
      rintro X S2 hX ⟨hX', h2L, h2K'⟩
      cases hX'
      have hgl := globP_len u.name u.protos gl (fun q hq => (hok.form q hq).2.1)
      have hfew := hok.few
      generalize globP u.name u.protos gl = gg at hx h2L hgl ⊢
      obtain ⟨ge, g2⟩ := gg
      simp only at hx h2L hgl ⊢
      have h2K : Ks (fun j => st.length + 3 ≤ j) S0 S2 := h1K.trans (h2K'.mono fun j hj => by omega)
      have hS1l : S1.length = S.length + 1 := by rw [hS1]; simp
      have h25 : S2[S.length]? = some (.box [.int .i64 i]) := by rw [h2K'.2 _ (by omega) (by omega), h15]
      simp only [decide_true, decide_false, gwL, gwB, gwD, gwE, gwS, gwTT, gwZ, initG, Nat.reduceEqDiff, ↓reduceIte, Nat.reduceAdd, Nat.reduceLT, Nat.reduceLeDiff, List.map_cons, List.map_nil, builtS, builtinV, pureR, binV, aggEq, eqFs, eqCell, Option.bind_some, Option.map_some, and_self, List.headD_cons, sliceV, pickV, evO, Env.look, find, V.ofConst, resV, resOne, tupV, loadV, fillV, buildV, mkIface, litM, litS, litR, litRows, List.reverse_cons, List.reverse_nil, Nat.reduceMul, appS, memA, appendV, rowsOf, V.cells, TI.sized, TI.known, TI.agg, anL, List.length_cons, List.length_nil, List.append_nil, List.cons_append, List.nil_append, List.drop_succ_cons, List.drop_zero, List.drop_nil, List.take_succ_cons, List.take_zero, List.take_nil, List.getElem?_cons_zero, List.getElem?_cons_succ, List.all_cons, List.all_nil, List.replicate_succ, List.replicate_zero, List.set_cons_zero, List.set_cons_succ, eq_self, true_or, ne_eq, not_false_eq_true, Nat.reduceEqDiff]
      refine iK_split (fun h4 => ?_) (fun h4 => ?_)
      · rw [h4] at hx
        simp only [cond_true] at hx
        try simp only [decide_true, decide_false, gwL, gwB, gwD, gwE, gwS, gwTT, gwZ, initG, Nat.reduceEqDiff, ↓reduceIte, Nat.reduceAdd, Nat.reduceLT, Nat.reduceLeDiff, List.map_cons, List.map_nil, builtS, builtinV, pureR, binV, aggEq, eqFs, eqCell, Option.bind_some, Option.map_some, and_self, List.headD_cons, sliceV, pickV, evO, Env.look, find, V.ofConst, resV, resOne, tupV, loadV, fillV, buildV, mkIface, litM, litS, litR, litRows, List.reverse_cons, List.reverse_nil, Nat.reduceMul, appS, memA, appendV, rowsOf, V.cells, TI.sized, TI.known, TI.agg, anL, List.length_cons, List.length_nil, List.append_nil, List.cons_append, List.nil_append, List.drop_succ_cons, List.drop_zero, List.drop_nil, List.take_succ_cons, List.take_zero, List.take_nil, List.getElem?_cons_zero, List.getElem?_cons_succ, List.all_cons, List.all_nil, List.replicate_succ, List.replicate_zero, List.set_cons_zero, List.set_cons_succ, eq_self, true_or, ne_eq, not_false_eq_true, Nat.reduceEqDiff]
        have hKm : Ks (fun j => st.length + 3 ≤ j) S0 (S2.set S.length .gone) := h2K.trans ⟨by simp, fun j hj hx => by rw [List.getElem?_set_ne (by omega)]⟩
        generalize hSm : S2.set S.length .gone = Sm at hKm
        refine vmelt 5 S.length _ rfl h25 ?_
        rw [hSm]
        simp only [decide_true, decide_false, gwL, gwB, gwD, gwE, gwS, gwTT, gwZ, initG, Nat.reduceEqDiff, ↓reduceIte, Nat.reduceAdd, Nat.reduceLT, Nat.reduceLeDiff, List.map_cons, List.map_nil, builtS, builtinV, pureR, binV, aggEq, eqFs, eqCell, Option.bind_some, Option.map_some, and_self, List.headD_cons, sliceV, pickV, evO, Env.look, find, V.ofConst, resV, resOne, tupV, loadV, fillV, buildV, mkIface, litM, litS, litR, litRows, List.reverse_cons, List.reverse_nil, Nat.reduceMul, appS, memA, appendV, rowsOf, V.cells, TI.sized, TI.known, TI.agg, anL, List.length_cons, List.length_nil, List.append_nil, List.cons_append, List.nil_append, List.drop_succ_cons, List.drop_zero, List.drop_nil, List.take_succ_cons, List.take_zero, List.take_nil, List.getElem?_cons_zero, List.getElem?_cons_succ, List.all_cons, List.all_nil, List.replicate_succ, List.replicate_zero, List.set_cons_zero, List.set_cons_succ, eq_self, true_or, ne_eq, not_false_eq_true, Nat.reduceEqDiff, meltE]
        refine vdraw TT_ok TT_mixed [0, 0, 0, 0, 2, 2] (by kernel_rfl) ?_
        have hs2 : ∀ X, (Sm.set (st.length + 1) X)[st.length + 2]? = some (.box [.int .i64 0, .int .i64 0]) := fun X => by rw [List.getElem?_set_ne (by omega), hC Sm hKm]
        have hq1 := fun X Y => hr1 Sm X Y (by have := hKm.1; omega)
        have hq2 := fun X Y => hr2 Sm X Y (by have := hKm.1; omega)
        simp only [decide_true, decide_false, gwL, gwB, gwD, gwE, gwS, gwTT, gwZ, initG, Nat.reduceEqDiff, ↓reduceIte, Nat.reduceAdd, Nat.reduceLT, Nat.reduceLeDiff, List.map_cons, List.map_nil, builtS, builtinV, pureR, binV, aggEq, eqFs, eqCell, Option.bind_some, Option.map_some, and_self, List.headD_cons, sliceV, pickV, evO, Env.look, find, V.ofConst, resV, resOne, tupV, loadV, fillV, buildV, mkIface, litM, litS, litR, litRows, List.reverse_cons, List.reverse_nil, Nat.reduceMul, appS, memA, appendV, rowsOf, V.cells, TI.sized, TI.known, TI.agg, anL, List.length_cons, List.length_nil, List.append_nil, List.cons_append, List.nil_append, List.drop_succ_cons, List.drop_zero, List.drop_nil, List.take_succ_cons, List.take_zero, List.take_nil, List.getElem?_cons_zero, List.getElem?_cons_succ, List.all_cons, List.all_nil, List.replicate_succ, List.replicate_zero, List.set_cons_zero, List.set_cons_succ, eq_self, true_or, ne_eq, not_false_eq_true, Nat.reduceEqDiff, hB Sm hKm, hs2, hq1, hq2]
        rw [hpr Sm _ _ (pre Sm hKm)]
        exact bad _ _ _ (by rw [← hr]; simp only [linkL, h1, hx, h4, cond_true, cond_false])
      · rw [h4] at hx
        simp only [cond_false] at hx
        simp only [decide_true, decide_false, gwL, gwB, gwD, gwE, gwS, gwTT, gwZ, initG, Nat.reduceEqDiff, ↓reduceIte, Nat.reduceAdd, Nat.reduceLT, Nat.reduceLeDiff, List.map_cons, List.map_nil, builtS, builtinV, pureR, binV, aggEq, eqFs, eqCell, Option.bind_some, Option.map_some, and_self, List.headD_cons, sliceV, pickV, evO, Env.look, find, V.ofConst, resV, resOne, tupV, loadV, fillV, buildV, mkIface, litM, litS, litR, litRows, List.reverse_cons, List.reverse_nil, Nat.reduceMul, appS, memA, appendV, rowsOf, V.cells, TI.sized, TI.known, TI.agg, anL, List.length_cons, List.length_nil, List.append_nil, List.cons_append, List.nil_append, List.drop_succ_cons, List.drop_zero, List.drop_nil, List.take_succ_cons, List.take_zero, List.take_nil, List.getElem?_cons_zero, List.getElem?_cons_succ, List.all_cons, List.all_nil, List.replicate_succ, List.replicate_zero, List.set_cons_zero, List.set_cons_succ, eq_self, true_or, ne_eq, not_false_eq_true, Nat.reduceEqDiff, w, Env.keep]
        exact ⟨(i + 1, S2, g2), rfl, rfl, by simp only; omega, by simp only; omega, h2L, h2K, hx, by simp only; omega⟩
    · rw [h3] at hx
      simp only [cond_false] at hx
      simp only [decide_true, decide_false, gwL, gwB, gwD, gwE, gwS, gwTT, gwZ, initG, Nat.reduceEqDiff, ↓reduceIte, Nat.reduceAdd, Nat.reduceLT, Nat.reduceLeDiff, List.map_cons, List.map_nil, builtS, builtinV, pureR, binV, aggEq, eqFs, eqCell, Option.bind_some, Option.map_some, and_self, List.headD_cons, sliceV, pickV, evO, Env.look, find, V.ofConst, resV, resOne, tupV, loadV, fillV, buildV, mkIface, litM, litS, litR, litRows, List.reverse_cons, List.reverse_nil, Nat.reduceMul, appS, memA, appendV, rowsOf, V.cells, TI.sized, TI.known, TI.agg, anL, List.length_cons, List.length_nil, List.append_nil, List.cons_append, List.nil_append, List.drop_succ_cons, List.drop_zero, List.drop_nil, List.take_succ_cons, List.take_zero, List.take_nil, List.getElem?_cons_zero, List.getElem?_cons_succ, List.all_cons, List.all_nil, List.replicate_succ, List.replicate_zero, List.set_cons_zero, List.set_cons_succ, eq_self, true_or, ne_eq, not_false_eq_true, Nat.reduceEqDiff, h3, Bool.not_false]
      try simp only [decide_true, decide_false, gwL, gwB, gwD, gwE, gwS, gwTT, gwZ, initG, Nat.reduceEqDiff, ↓reduceIte, Nat.reduceAdd, Nat.reduceLT, Nat.reduceLeDiff, List.map_cons, List.map_nil, builtS, builtinV, pureR, binV, aggEq, eqFs, eqCell, Option.bind_some, Option.map_some, and_self, List.headD_cons, sliceV, pickV, evO, Env.look, find, V.ofConst, resV, resOne, tupV, loadV, fillV, buildV, mkIface, litM, litS, litR, litRows, List.reverse_cons, List.reverse_nil, Nat.reduceMul, appS, memA, appendV, rowsOf, V.cells, TI.sized, TI.known, TI.agg, anL, List.length_cons, List.length_nil, List.append_nil, List.cons_append, List.nil_append, List.drop_succ_cons, List.drop_zero, List.drop_nil, List.take_succ_cons, List.take_zero, List.take_nil, List.getElem?_cons_zero, List.getElem?_cons_succ, List.all_cons, List.all_nil, List.replicate_succ, List.replicate_zero, List.set_cons_zero, List.set_cons_succ, eq_self, true_or, ne_eq, not_false_eq_true, Nat.reduceEqDiff]
      have hKm : Ks (fun j => st.length + 3 ≤ j) S0 (S1.set S.length .gone) := h1K.trans ⟨by simp, fun j hj hx => by rw [List.getElem?_set_ne (by omega)]⟩
      generalize hSm : S1.set S.length .gone = Sm at hKm
      refine vmelt 5 S.length _ rfl h15 ?_
      rw [hSm]
      simp only [decide_true, decide_false, gwL, gwB, gwD, gwE, gwS, gwTT, gwZ, initG, Nat.reduceEqDiff, ↓reduceIte, Nat.reduceAdd, Nat.reduceLT, Nat.reduceLeDiff, List.map_cons, List.map_nil, builtS, builtinV, pureR, binV, aggEq, eqFs, eqCell, Option.bind_some, Option.map_some, and_self, List.headD_cons, sliceV, pickV, evO, Env.look, find, V.ofConst, resV, resOne, tupV, loadV, fillV, buildV, mkIface, litM, litS, litR, litRows, List.reverse_cons, List.reverse_nil, Nat.reduceMul, appS, memA, appendV, rowsOf, V.cells, TI.sized, TI.known, TI.agg, anL, List.length_cons, List.length_nil, List.append_nil, List.cons_append, List.nil_append, List.drop_succ_cons, List.drop_zero, List.drop_nil, List.take_succ_cons, List.take_zero, List.take_nil, List.getElem?_cons_zero, List.getElem?_cons_succ, List.all_cons, List.all_nil, List.replicate_succ, List.replicate_zero, List.set_cons_zero, List.set_cons_succ, eq_self, true_or, ne_eq, not_false_eq_true, Nat.reduceEqDiff, meltE]
      refine vdraw TT_ok TT_mixed [0, 0, 0, 0, 2, 2] (by kernel_rfl) ?_
      have hs2 : ∀ X, (Sm.set (st.length + 1) X)[st.length + 2]? = some (.box [.int .i64 0, .int .i64 0]) := fun X => by rw [List.getElem?_set_ne (by omega), hC Sm hKm]
      have hq1 := fun X Y => hr1 Sm X Y (by have := hKm.1; omega)
      have hq2 := fun X Y => hr2 Sm X Y (by have := hKm.1; omega)
      simp only [decide_true, decide_false, gwL, gwB, gwD, gwE, gwS, gwTT, gwZ, initG, Nat.reduceEqDiff, ↓reduceIte, Nat.reduceAdd, Nat.reduceLT, Nat.reduceLeDiff, List.map_cons, List.map_nil, builtS, builtinV, pureR, binV, aggEq, eqFs, eqCell, Option.bind_some, Option.map_some, and_self, List.headD_cons, sliceV, pickV, evO, Env.look, find, V.ofConst, resV, resOne, tupV, loadV, fillV, buildV, mkIface, litM, litS, litR, litRows, List.reverse_cons, List.reverse_nil, Nat.reduceMul, appS, memA, appendV, rowsOf, V.cells, TI.sized, TI.known, TI.agg, anL, List.length_cons, List.length_nil, List.append_nil, List.cons_append, List.nil_append, List.drop_succ_cons, List.drop_zero, List.drop_nil, List.take_succ_cons, List.take_zero, List.take_nil, List.getElem?_cons_zero, List.getElem?_cons_succ, List.all_cons, List.all_nil, List.replicate_succ, List.replicate_zero, List.set_cons_zero, List.set_cons_succ, eq_self, true_or, ne_eq, not_false_eq_true, Nat.reduceEqDiff, hB Sm hKm, hs2, hq1, hq2]
      rw [hpr Sm _ _ (pre Sm hKm)]
      exact bad _ _ _ (by rw [← hr]; simp only [linkL, h1, hx, h3, cond_true, cond_false, Bool.not_false])
end Go.Proofs.Ytlblgbfpdlfedaa.Gx

namespace Go.Proofs.Ytlblgbfpdlfedaa.Gx
open Go Go.Proofs.Ytlblgbfpdlfedaa.Gw
set_option linter.unusedSimpArgs false
set_option linter.unusedVariables false

def unitN (nm : Str) : Unit' := ⟨nm, [⟨0, [{ op := 1, n := 5 }, { op := 13, lib := nm, own := [120] }, { op := 14 }, { op := 15 }]⟩]⟩
theorem encU_lt (n : Nat) (u : Unit') : ltL n (encU u) := ⟨trivial, lstPr_lt _ _, trivial⟩
set_option maxHeartbeats 2000000 in
theorem c_unitN (nm : Str) (st : St) : VCalls Try.prog TT 22 [.str nm] st fun r st' => r = .ret (.agg (encU (unitN nm))) ∧ st' = st := by
  refine vfun TT_ok (an := anL []) (L := [0, 2]) (rs := [.cell 2 37]) Try.func22 rfl (by kernel_rfl) rfl Try.ntmps22 rfl rfl (Nat.le_refl _) fun hst ha hf => ?_
  simp only [decide_true, decide_false, gwL, gwB, gwD, gwE, gwS, gwTT, gwZ, initG, Nat.reduceEqDiff, ↓reduceIte, Nat.reduceAdd, Nat.reduceLT, Nat.reduceLeDiff, List.map_cons, List.map_nil, builtS, builtinV, pureR, binV, aggEq, eqFs, eqCell, Option.bind_some, Option.map_some, and_self, List.headD_cons, sliceV, pickV, evO, Env.look, find, V.ofConst, resV, resOne, tupV, loadV, fillV, buildV, mkIface, litM, litS, litR, litRows, List.reverse_cons, List.reverse_nil, Nat.reduceMul, appS, memA, appendV, rowsOf, V.cells, TI.sized, TI.known, TI.agg, anL, List.length_cons, List.length_nil, List.append_nil, List.cons_append, List.nil_append, List.drop_succ_cons, List.drop_zero, List.drop_nil, List.take_succ_cons, List.take_zero, List.take_nil, List.getElem?_cons_zero, List.getElem?_cons_succ, List.all_cons, List.all_nil, List.replicate_succ, List.replicate_zero, List.set_cons_zero, List.set_cons_succ, eq_self, true_or, ne_eq, not_false_eq_true, Nat.reduceEqDiff]
  refine gives_of (wk_agg ?_) (wkSt_refl _) (by simp only [V.lt]; exact encU_lt _ _) hst
  simp only [encU, unitN, lstPr, List.map_cons, List.map_nil, encPr, lstI]
  refine wkL_cons (wk_refl _) (wkL_cons (wk_lst ?_) wkL_nil)
  simp only [wkRp]
  refine ⟨_, _, rfl, wkL_cons (wk_refl _) (wkL_cons (wk_lst ?_) wkL_nil), rfl⟩
  simp only [wkRp]
  exact ⟨_, _, rfl, wk_ins .., _, _, rfl, wk_ins .., _, _, rfl, wk_ins .., _, _, rfl, wk_ins .., rfl⟩
def aliveIm : Im := ⟨[⟨[], [109], [120]⟩, ⟨[], [110], [120]⟩], [⟨0, [{ op := 1, n := 5 }, { op := 13, a := 0 }, { op := 14 }, { op := 15 }]⟩, ⟨0, [{ op := 1, n := 5 }, { op := 13, a := 1 }, { op := 14 }, { op := 15 }]⟩], [0, 1]⟩
theorem alive_im : linkL [unitN [109], unitN [110]] = (aliveIm, 0, 0) := by
  rfl
set_option maxHeartbeats 4000000 in
theorem c_linkAlive (st : St) : VCalls Try.prog TT 10 [] st fun r st' => r = .ret (.bool true) ∧ st' = st := by
  refine vfun TT_ok (an := anL []) (L := [0, 1, 2]) (rs := [.tmp 0]) Try.func10 rfl (by kernel_rfl) rfl Try.ntmps10 rfl rfl (Nat.le_refl _) fun hst ha hf => ?_
  simp only [decide_true, decide_false, gwL, gwB, gwD, gwE, gwS, gwTT, gwZ, initG, Nat.reduceEqDiff, ↓reduceIte, Nat.reduceAdd, Nat.reduceLT, Nat.reduceLeDiff, List.map_cons, List.map_nil, builtS, builtinV, pureR, binV, aggEq, eqFs, eqCell, Option.bind_some, Option.map_some, and_self, List.headD_cons, sliceV, pickV, evO, Env.look, find, V.ofConst, resV, resOne, tupV, loadV, fillV, buildV, mkIface, litM, litS, litR, litRows, List.reverse_cons, List.reverse_nil, Nat.reduceMul, appS, memA, appendV, rowsOf, V.cells, TI.sized, TI.known, TI.agg, anL, List.length_cons, List.length_nil, List.append_nil, List.cons_append, List.nil_append, List.drop_succ_cons, List.drop_zero, List.drop_nil, List.take_succ_cons, List.take_zero, List.take_nil, List.getElem?_cons_zero, List.getElem?_cons_succ, List.all_cons, List.all_nil, List.replicate_succ, List.replicate_zero, List.set_cons_zero, List.set_cons_succ, eq_self, true_or, ne_eq, not_false_eq_true, Nat.reduceEqDiff]
  refine (c_unitN [109] _).use (wkL_refl _) fun _ => ?_
  simp only [decide_true, decide_false, gwL, gwB, gwD, gwE, gwS, gwTT, gwZ, initG, Nat.reduceEqDiff, ↓reduceIte, Nat.reduceAdd, Nat.reduceLT, Nat.reduceLeDiff, List.map_cons, List.map_nil, builtS, builtinV, pureR, binV, aggEq, eqFs, eqCell, Option.bind_some, Option.map_some, and_self, List.headD_cons, sliceV, pickV, evO, Env.look, find, V.ofConst, resV, resOne, tupV, loadV, fillV, buildV, mkIface, litM, litS, litR, litRows, List.reverse_cons, List.reverse_nil, Nat.reduceMul, appS, memA, appendV, rowsOf, V.cells, TI.sized, TI.known, TI.agg, anL, List.length_cons, List.length_nil, List.append_nil, List.cons_append, List.nil_append, List.drop_succ_cons, List.drop_zero, List.drop_nil, List.take_succ_cons, List.take_zero, List.take_nil, List.getElem?_cons_zero, List.getElem?_cons_succ, List.all_cons, List.all_nil, List.replicate_succ, List.replicate_zero, List.set_cons_zero, List.set_cons_succ, eq_self, true_or, ne_eq, not_false_eq_true, Nat.reduceEqDiff]
  refine (c_unitN [110] _).use (wkL_refl _) fun _ => ?_
  simp only [decide_true, decide_false, gwL, gwB, gwD, gwE, gwS, gwTT, gwZ, initG, Nat.reduceEqDiff, ↓reduceIte, Nat.reduceAdd, Nat.reduceLT, Nat.reduceLeDiff, List.map_cons, List.map_nil, builtS, builtinV, pureR, binV, aggEq, eqFs, eqCell, Option.bind_some, Option.map_some, and_self, List.headD_cons, sliceV, pickV, evO, Env.look, find, V.ofConst, resV, resOne, tupV, loadV, fillV, buildV, mkIface, litM, litS, litR, litRows, List.reverse_cons, List.reverse_nil, Nat.reduceMul, appS, memA, appendV, rowsOf, V.cells, TI.sized, TI.known, TI.agg, anL, List.length_cons, List.length_nil, List.append_nil, List.cons_append, List.nil_append, List.drop_succ_cons, List.drop_zero, List.drop_nil, List.take_succ_cons, List.take_zero, List.take_nil, List.getElem?_cons_zero, List.getElem?_cons_succ, List.all_cons, List.all_nil, List.replicate_succ, List.replicate_zero, List.set_cons_zero, List.set_cons_succ, eq_self, true_or, ne_eq, not_false_eq_true, Nat.reduceEqDiff, encU_len, encU_take]
  refine (c_Link [unitN [109], unitN [110]] _).use (wkL_refl _) fun _ => ?_
  rw [alive_im]
  have g0 : ∀ {α : Type} (x y : α) (l : List α) (d : α), (x :: y :: l).getD (Int.toNat 1) d = y := fun _ _ _ _ => rfl
  simp only [decide_true, decide_false, gwL, gwB, gwD, gwE, gwS, gwTT, gwZ, initG, Nat.reduceEqDiff, ↓reduceIte, Nat.reduceAdd, Nat.reduceLT, Nat.reduceLeDiff, List.map_cons, List.map_nil, builtS, builtinV, pureR, binV, aggEq, eqFs, eqCell, Option.bind_some, Option.map_some, and_self, List.headD_cons, sliceV, pickV, evO, Env.look, find, V.ofConst, resV, resOne, tupV, loadV, fillV, buildV, mkIface, litM, litS, litR, litRows, List.reverse_cons, List.reverse_nil, Nat.reduceMul, appS, memA, appendV, rowsOf, V.cells, TI.sized, TI.known, TI.agg, anL, List.length_cons, List.length_nil, List.append_nil, List.cons_append, List.nil_append, List.drop_succ_cons, List.drop_zero, List.drop_nil, List.take_succ_cons, List.take_zero, List.take_nil, List.getElem?_cons_zero, List.getElem?_cons_succ, List.all_cons, List.all_nil, List.replicate_succ, List.replicate_zero, List.set_cons_zero, List.set_cons_succ, eq_self, true_or, ne_eq, not_false_eq_true, Nat.reduceEqDiff, linkV, encIm, fltV, aliveIm, rowsB, rowsI, lstPr, encPr, lstI, encI, g0, Int.reduceEq, Int.reduceLT, Int.reduceLE]
  exact ⟨fun _ => by decide, fun _ => by decide, fun _ => by decide, gives_bool' (by decide) hst⟩
end Go.Proofs.Ytlblgbfpdlfedaa.Gx

namespace Go.Proofs.Ytlblgbfpdlfedaa.Gx
open Go Go.Proofs.Ytlblgbfpdlfedaa.Gw
set_option linter.unusedSimpArgs false
set_option linter.unusedVariables false

theorem globI_ext (nm : Str) : ∀ (l : List Ins) (gl : List Bind'), ∃ ex, (globI nm l gl).2 = gl ++ ex
  | [], gl => ⟨[], by simp [globI]⟩
  | x :: r, gl => by
    rw [globI]
    cases decide (x.op = 13)
    · simpa using globI_ext nm r gl
    · cases decide (x.lib = nm)
      · exact ⟨[], by simp⟩
      · simp only [Bool.not_true, cond_false]
        obtain ⟨ex, h⟩ := globI_ext nm r (bif !decide ((⟨[], x.lib, x.own⟩ : Bind') ∈ gl) then gl ++ [⟨[], x.lib, x.own⟩] else gl)
        rw [h]
        cases decide ((⟨[], x.lib, x.own⟩ : Bind') ∈ gl)
        · exact ⟨[⟨[], x.lib, x.own⟩] ++ ex, by simp⟩
        · exact ⟨ex, by simp⟩
theorem globP_ext (nm : Str) : ∀ (l : List Pr) (gl : List Bind'), ∃ ex, (globP nm l gl).2 = gl ++ ex
  | [], gl => ⟨[], by simp [globP]⟩
  | p :: r, gl => by
    rw [globP]
    obtain ⟨e1, h1⟩ := globI_ext nm p.code gl
    cases decide ((globI nm p.code gl).1 = 0)
    · exact ⟨e1, h1⟩
    · simp only [Bool.not_true, cond_false]
      obtain ⟨e2, h2⟩ := globP_ext nm r (globI nm p.code gl).2
      exact ⟨e1 ++ e2, by rw [h2, h1, List.append_assoc]⟩
theorem checkL_ext (L : List Unit') : ∀ (r : List Unit') (i : Nat) (gl : List Bind'), ∃ ex, (checkL L r i gl).2.2 = gl ++ ex
  | [], i, gl => ⟨[], by simp [checkL]⟩
  | u :: r, i, gl => by
    rw [checkL]
    obtain ⟨e1, h1⟩ := globP_ext u.name u.protos gl
    cases decide (errL L i u = 0)
    · exact ⟨[], by simp⟩
    · cases decide ((globP u.name u.protos gl).1 = 0)
      · exact ⟨e1, h1⟩
      · simp only [Bool.not_true, cond_false, cond_true]
        obtain ⟨e2, h2⟩ := checkL_ext L r (i + 1) (globP u.name u.protos gl).2
        exact ⟨e1 ++ e2, by rw [h2, h1, List.append_assoc]⟩
theorem errL_app (l m : List Unit') {i : Nat} (hi : i ≤ l.length) (u : Unit') : errL (l ++ m) i u = errL l i u := by
  unfold errL
  rw [List.take_append_of_le_length hi]
theorem checkL_app {l m : List Unit'} : ∀ {r : List Unit'} {i : Nat} {gl : List Bind'}, i + r.length = l.length → (checkL l r i gl).1 = 0 → checkL (l ++ m) (r ++ m) i gl = checkL (l ++ m) m l.length (checkL l r i gl).2.2
  | [], i, gl, hi, h => by
    simp only [List.length_nil, Nat.add_zero] at hi
    subst hi
    simp [checkL]
  | u :: r, i, gl, hi, h => by
    rw [List.length_cons] at hi
    rw [checkL] at h ⊢
    rw [List.cons_append, checkL, errL_app l m (by omega)]
    cases h1 : decide (errL l i u = 0) with
    | false => rw [h1] at h; simp only [cond_false] at h; exact absurd h (of_decide_eq_false h1)
    | true =>
      rw [h1] at h
      cases h2 : decide ((globP u.name u.protos gl).1 = 0) with
      | false => rw [h2] at h; simp only [Bool.not_false, cond_true] at h; exact absurd h (of_decide_eq_false h2)
      | true =>
        rw [h2] at h
        simp only [Bool.not_true, cond_true, cond_false] at h ⊢
        exact checkL_app (by omega) h
theorem idxB_app (x : Bind') : ∀ (l m : List Bind') (i : Nat), 0 ≤ idxB x i l → idxB x i (l ++ m) = idxB x i l
  | [], m, i, h => by simp [idxB] at h
  | a :: r, m, i, h => by
    rw [List.cons_append, idxB, idxB]
    cases h1 : eqB x a with
    | true => rfl
    | false =>
      simp only [idxB, h1, cond_false] at h
      simpa using idxB_app x r m (i + 1) h
theorem insL_app {gl ex : List Bind'} {nm : Str} {base : Int} {x : Ins} (h : (insL gl nm base x).2 = 0) : insL (gl ++ ex) nm base x = insL gl nm base x := by
  unfold insL at h ⊢
  cases h1 : (decide (x.op = 5) || decide (x.op = 12) || decide (x.op = 13)) with
  | false => rfl
  | true =>
    rw [h1] at h
    simp only [cond_true] at h ⊢
    cases h2 : decide (idxB ⟨[], x.lib, x.own⟩ 0 gl < 0) with
    | true => rw [h2] at h; simp at h
    | false =>
      have h3 := of_decide_eq_false h2
      rw [idxB_app _ gl ex 0 (by omega), h2]
theorem codeL_app {gl ex : List Bind'} {nm : Str} {base : Int} : ∀ {l out : List Ins}, (codeL gl nm base l out).2 = 0 → codeL (gl ++ ex) nm base l out = codeL gl nm base l out
  | [], out, _ => rfl
  | x :: r, out, h => by
    rw [codeL] at h ⊢
    cases h1 : decide ((insL gl nm base x).2 = 0) with
    | false => rw [h1] at h; simp only [Bool.not_false, cond_true] at h; exact absurd h (of_decide_eq_false h1)
    | true =>
      rw [h1] at h
      simp only [Bool.not_true, cond_false] at h
      rw [codeL, insL_app (of_decide_eq_true h1), h1]
      simp only [Bool.not_true, cond_false]
      exact codeL_app h
theorem protosL_app {gl ex : List Bind'} {nm : Str} {base : Int} : ∀ {l ps : List Pr}, (protosL gl nm base l ps).2 = 0 → protosL (gl ++ ex) nm base l ps = protosL gl nm base l ps
  | [], ps, _ => rfl
  | q :: r, ps, h => by
    rw [protosL] at h ⊢
    cases h1 : decide ((codeL gl nm base q.code []).2 = 0) with
    | false => rw [h1] at h; simp only [Bool.not_false, cond_true] at h; exact absurd h (of_decide_eq_false h1)
    | true =>
      rw [h1] at h
      simp only [Bool.not_true, cond_false] at h
      rw [protosL, codeL_app (of_decide_eq_true h1), h1]
      simp only [Bool.not_true, cond_false]
      exact protosL_app h
theorem protosL_ext (gl : List Bind') (nm : Str) (base : Int) : ∀ (l ps : List Pr), ∃ ex, (protosL gl nm base l ps).1 = ps ++ ex
  | [], ps => ⟨[], by simp [protosL]⟩
  | q :: r, ps => by
    rw [protosL]
    cases decide ((codeL gl nm base q.code []).2 = 0)
    · exact ⟨[], by simp⟩
    · obtain ⟨ex, h⟩ := protosL_ext gl nm base r (ps ++ [⟨q.args, (codeL gl nm base q.code []).1⟩])
      exact ⟨[⟨q.args, (codeL gl nm base q.code []).1⟩] ++ ex, by simp [h]⟩
theorem unitsL_ext (gl : List Bind') : ∀ (r : List Unit') (i : Nat) (ps : List Pr) (sts : List Int), ∃ ex, (unitsL gl r i ps sts).2.2.1 = ps ++ ex
  | [], i, ps, sts => ⟨[], by simp [unitsL]⟩
  | u :: r, i, ps, sts => by
    rw [unitsL]
    obtain ⟨e1, h1⟩ := protosL_ext gl u.name ps.length u.protos ps
    cases decide ((protosL gl u.name ps.length u.protos ps).2 = 0)
    · exact ⟨[], by simp⟩
    · simp only [Bool.not_true, cond_false]
      obtain ⟨e2, h2⟩ := unitsL_ext gl r (i + 1) (protosL gl u.name ps.length u.protos ps).1 (sts ++ [(ps.length : Int)])
      exact ⟨e1 ++ e2, by rw [h2, h1, List.append_assoc]⟩
theorem unitsL_app {gl ex : List Bind'} {m : List Unit'} : ∀ {r : List Unit'} {i : Nat} {ps : List Pr} {sts : List Int}, (unitsL gl r i ps sts).1 = 0 →
    unitsL (gl ++ ex) (r ++ m) i ps sts = unitsL (gl ++ ex) m (i + r.length) (unitsL gl r i ps sts).2.2.1 (unitsL gl r i ps sts).2.2.2
  | [], i, ps, sts, h => by simp [unitsL]
  | u :: r, i, ps, sts, h => by
    rw [unitsL] at h ⊢
    cases h1 : decide ((protosL gl u.name ps.length u.protos ps).2 = 0) with
    | false => rw [h1] at h; simp only [Bool.not_false, cond_true] at h; exact absurd h (of_decide_eq_false h1)
    | true =>
      rw [h1] at h
      simp only [Bool.not_true, cond_false] at h
      rw [List.cons_append, unitsL, protosL_app (of_decide_eq_true h1), h1]
      simp only [Bool.not_true, cond_false]
      rw [unitsL_app h, List.length_cons]
      congr 1
      omega
theorem link_split (l : List Unit') : (linkL l).2.1 ≠ 0 ∨ (l.length ≤ 40 ∧ (checkL l l 0 []).1 = 0 ∧ (checkL l l 0 []).2.2.length ≤ 500 ∧ (unitsL (checkL l l 0 []).2.2 l 0 [] []).1 = 0 ∧
    linkL l = (⟨(checkL l l 0 []).2.2, (unitsL (checkL l l 0 []).2.2 l 0 [] []).2.2.1, (unitsL (checkL l l 0 []).2.2 l 0 [] []).2.2.2⟩, 0, 0)) := by
  unfold linkL
  cases h1 : decide (40 < (l.length : Int)) with
  | true => exact .inl (by simp)
  | false =>
    cases h2 : decide ((checkL l l 0 []).1 = 0) with
    | false => exact .inl (by simpa using of_decide_eq_false h2)
    | true =>
      cases h3 : decide (500 < ((checkL l l 0 []).2.2.length : Int)) with
      | true => exact .inl (by simp)
      | false =>
        cases h4 : decide ((unitsL (checkL l l 0 []).2.2 l 0 [] []).1 = 0) with
        | false => exact .inl (by simpa using of_decide_eq_false h4)
        | true =>
          have := of_decide_eq_false h1
          have := of_decide_eq_false h3
          exact .inr ⟨by omega, of_decide_eq_true h2, by omega, of_decide_eq_true h4, by simp⟩
theorem link_ahead {l m : List Unit'} (ha : (linkL l).2.1 = 0) (hb : (linkL (l ++ m)).2.1 = 0) : ∃ e1 e2, (linkL (l ++ m)).1.gl = (linkL l).1.gl ++ e1 ∧ (linkL (l ++ m)).1.ps = (linkL l).1.ps ++ e2 := by
  rcases link_split l with h | ⟨-, a1, -, a2, a3⟩
  · exact absurd ha h
  rcases link_split (l ++ m) with h | ⟨-, b1, -, b2, b3⟩
  · exact absurd hb h
  rw [a3, b3]
  simp only
  have hc := checkL_app (l := l) (m := m) (r := l) (i := 0) (gl := []) (by omega) a1
  obtain ⟨e1, h1⟩ := checkL_ext (l ++ m) m l.length (checkL l l 0 []).2.2
  rw [← hc] at h1
  rw [h1]
  have hu := unitsL_app (gl := (checkL l l 0 []).2.2) (ex := e1) (m := m) a2
  obtain ⟨e2, h2⟩ := unitsL_ext ((checkL l l 0 []).2.2 ++ e1) m (0 + l.length) (unitsL (checkL l l 0 []).2.2 l 0 [] []).2.2.1 (unitsL (checkL l l 0 []).2.2 l 0 [] []).2.2.2
  rw [hu, h2]
  exact ⟨e1, e2, rfl, rfl⟩
theorem link_gl {l : List Unit'} (ha : (linkL l).2.1 = 0) : (linkL l).1.gl.length ≤ 500 := by
  rcases link_split l with h | ⟨-, -, a1, -, a3⟩
  · exact absurd ha h
  · rw [a3]; exact a1
end Go.Proofs.Ytlblgbfpdlfedaa.Gx

namespace Go.Proofs.Ytlblgbfpdlfedaa.Gx
open Go Go.Proofs.Ytlblgbfpdlfedaa.Gw
set_option linter.unusedSimpArgs false
set_option linter.unusedVariables false

theorem linkV_lt (n : Nat) (r : Im × Int × Int) : (linkV r).lt n := by
  simp only [linkV, fltV, encIm, V.lt, ltL, and_true, true_and]
  exact ⟨⟨fun e h => (by cases h), ltRows_map fun x _ => ⟨trivial, trivial, trivial, trivial⟩⟩, lstPr_lt _ _, ⟨fun e h => (by cases h), ltRows_map fun x _ => ⟨trivial, trivial⟩⟩⟩
set_option maxRecDepth 20000 in
set_option maxHeartbeats 8000000 in
theorem c_LinkAhead (l m : List Unit') (st : St) (hl9 : l.length ≤ 100000000) (hm9 : m.length ≤ 100000000) : VCalls Try.prog TT 5 [lstU l, lstU m] st fun r st' => r = .ret (.bool true) ∧ st' = st := by
  refine vfun TT_ok (an := anL [(19, 1)]) (L := [0, 1, 4, 5, 6, 7, 8, 9, 10, 64, 65]) (rs := [.tmp 4]) Try.func5 rfl (by kernel_rfl) rfl Try.ntmps5 rfl rfl (Nat.le_refl _) fun hst ha hf => ?_
  simp only [lstU]
  simp only [decide_true, decide_false, gwL, gwB, gwD, gwE, gwS, gwTT, gwZ, initG, Nat.reduceEqDiff, ↓reduceIte, Nat.reduceAdd, Nat.reduceLT, Nat.reduceLeDiff, List.map_cons, List.map_nil, builtS, builtinV, pureR, binV, aggEq, eqFs, eqCell, Option.bind_some, Option.map_some, and_self, List.headD_cons, sliceV, pickV, evO, Env.look, find, V.ofConst, resV, resOne, tupV, loadV, fillV, buildV, mkIface, litM, litS, litR, litRows, List.reverse_cons, List.reverse_nil, Nat.reduceMul, appS, memA, appendV, rowsOf, V.cells, TI.sized, TI.known, TI.agg, anL, List.length_cons, List.length_nil, List.append_nil, List.cons_append, List.nil_append, List.drop_succ_cons, List.drop_zero, List.drop_nil, List.take_succ_cons, List.take_zero, List.take_nil, List.getElem?_cons_zero, List.getElem?_cons_succ, List.all_cons, List.all_nil, List.replicate_succ, List.replicate_zero, List.set_cons_zero, List.set_cons_succ, eq_self, true_or, ne_eq, not_false_eq_true, Nat.reduceEqDiff]
  refine (c_linkAlive _).use (wkL_refl _) fun _ => ?_
  simp only [decide_true, decide_false, gwL, gwB, gwD, gwE, gwS, gwTT, gwZ, initG, Nat.reduceEqDiff, ↓reduceIte, Nat.reduceAdd, Nat.reduceLT, Nat.reduceLeDiff, List.map_cons, List.map_nil, builtS, builtinV, pureR, binV, aggEq, eqFs, eqCell, Option.bind_some, Option.map_some, and_self, List.headD_cons, sliceV, pickV, evO, Env.look, find, V.ofConst, resV, resOne, tupV, loadV, fillV, buildV, mkIface, litM, litS, litR, litRows, List.reverse_cons, List.reverse_nil, Nat.reduceMul, appS, memA, appendV, rowsOf, V.cells, TI.sized, TI.known, TI.agg, anL, List.length_cons, List.length_nil, List.append_nil, List.cons_append, List.nil_append, List.drop_succ_cons, List.drop_zero, List.drop_nil, List.take_succ_cons, List.take_zero, List.take_nil, List.getElem?_cons_zero, List.getElem?_cons_succ, List.all_cons, List.all_nil, List.replicate_succ, List.replicate_zero, List.set_cons_zero, List.set_cons_succ, eq_self, true_or, ne_eq, not_false_eq_true, Nat.reduceEqDiff]
  refine (c_Link l _).use (wkL_refl _) fun _ => ?_
  simp only [decide_true, decide_false, gwL, gwB, gwD, gwE, gwS, gwTT, gwZ, initG, Nat.reduceEqDiff, ↓reduceIte, Nat.reduceAdd, Nat.reduceLT, Nat.reduceLeDiff, List.map_cons, List.map_nil, builtS, builtinV, pureR, binV, aggEq, eqFs, eqCell, Option.bind_some, Option.map_some, and_self, List.headD_cons, sliceV, pickV, evO, Env.look, find, V.ofConst, resV, resOne, tupV, loadV, fillV, buildV, mkIface, litM, litS, litR, litRows, List.reverse_cons, List.reverse_nil, Nat.reduceMul, appS, memA, appendV, rowsOf, V.cells, TI.sized, TI.known, TI.agg, anL, List.length_cons, List.length_nil, List.append_nil, List.cons_append, List.nil_append, List.drop_succ_cons, List.drop_zero, List.drop_nil, List.take_succ_cons, List.take_zero, List.take_nil, List.getElem?_cons_zero, List.getElem?_cons_succ, List.all_cons, List.all_nil, List.replicate_succ, List.replicate_zero, List.set_cons_zero, List.set_cons_succ, eq_self, true_or, ne_eq, not_false_eq_true, Nat.reduceEqDiff, linkV, encIm, fltV, List.length_map]
  refine ⟨by omega, by omega, ?_⟩
  refine (c_Link (l ++ m) _).use (wkL_cons (by rw [← List.map_append]; exact wk_tok ..) wkL_nil) fun _ => ?_
  have hLaw := @link_ahead l m
  have hLaw2 := @link_gl l
  generalize linkL l = ra at *
  generalize linkL (l ++ m) = rb at *
  obtain ⟨⟨ga, pa, sa⟩, ea, ia⟩ := ra
  obtain ⟨⟨gb, pb, sb⟩, eb, ib⟩ := rb
  simp only at hLaw hLaw2 ⊢
  simp only [decide_true, decide_false, gwL, gwB, gwD, gwE, gwS, gwTT, gwZ, initG, Nat.reduceEqDiff, ↓reduceIte, Nat.reduceAdd, Nat.reduceLT, Nat.reduceLeDiff, List.map_cons, List.map_nil, builtS, builtinV, pureR, binV, aggEq, eqFs, eqCell, Option.bind_some, Option.map_some, and_self, List.headD_cons, sliceV, pickV, evO, Env.look, find, V.ofConst, resV, resOne, tupV, loadV, fillV, buildV, mkIface, litM, litS, litR, litRows, List.reverse_cons, List.reverse_nil, Nat.reduceMul, appS, memA, appendV, rowsOf, V.cells, TI.sized, TI.known, TI.agg, anL, List.length_cons, List.length_nil, List.append_nil, List.cons_append, List.nil_append, List.drop_succ_cons, List.drop_zero, List.drop_nil, List.take_succ_cons, List.take_zero, List.take_nil, List.getElem?_cons_zero, List.getElem?_cons_succ, List.all_cons, List.all_nil, List.replicate_succ, List.replicate_zero, List.set_cons_zero, List.set_cons_succ, eq_self, true_or, ne_eq, not_false_eq_true, Nat.reduceEqDiff, linkV, encIm, fltV]
  refine iK_split (fun h1 => ?_) (fun h1 => ?_)
  · simp only [decide_true, decide_false, gwL, gwB, gwD, gwE, gwS, gwTT, gwZ, initG, Nat.reduceEqDiff, ↓reduceIte, Nat.reduceAdd, Nat.reduceLT, Nat.reduceLeDiff, List.map_cons, List.map_nil, builtS, builtinV, pureR, binV, aggEq, eqFs, eqCell, Option.bind_some, Option.map_some, and_self, List.headD_cons, sliceV, pickV, evO, Env.look, find, V.ofConst, resV, resOne, tupV, loadV, fillV, buildV, mkIface, litM, litS, litR, litRows, List.reverse_cons, List.reverse_nil, Nat.reduceMul, appS, memA, appendV, rowsOf, V.cells, TI.sized, TI.known, TI.agg, anL, List.length_cons, List.length_nil, List.append_nil, List.cons_append, List.nil_append, List.drop_succ_cons, List.drop_zero, List.drop_nil, List.take_succ_cons, List.take_zero, List.take_nil, List.getElem?_cons_zero, List.getElem?_cons_succ, List.all_cons, List.all_nil, List.replicate_succ, List.replicate_zero, List.set_cons_zero, List.set_cons_succ, eq_self, true_or, ne_eq, not_false_eq_true, Nat.reduceEqDiff]
    exact gives_bool' rfl hst
  simp only [Bool.or_eq_false_iff, Bool.not_eq_false', decide_eq_true_eq] at h1
  have hga := hLaw2 h1.1
  obtain ⟨e1, e2, rfl, rfl⟩ := hLaw h1.1 h1.2
  have d1 : decide (((pa ++ e2).length : Int) < (pa.length : Int)) = false := decide_eq_false (by rw [List.length_append]; omega)
  have d2 : decide (((rowsB (ga ++ e1)).length : Int) < ((rowsB ga).length : Int)) = false := decide_eq_false (by simp [rowsB]; omega)
  have htk : List.take pa.length ((pa ++ e2).map encPr) = pa.map encPr := by rw [← List.map_take]; simp
  simp only [decide_true, decide_false, gwL, gwB, gwD, gwE, gwS, gwTT, gwZ, initG, Nat.reduceEqDiff, ↓reduceIte, Nat.reduceAdd, Nat.reduceLT, Nat.reduceLeDiff, List.map_cons, List.map_nil, builtS, builtinV, pureR, binV, aggEq, eqFs, eqCell, Option.bind_some, Option.map_some, and_self, List.headD_cons, sliceV, pickV, evO, Env.look, find, V.ofConst, resV, resOne, tupV, loadV, fillV, buildV, mkIface, litM, litS, litR, litRows, List.reverse_cons, List.reverse_nil, Nat.reduceMul, appS, memA, appendV, rowsOf, V.cells, TI.sized, TI.known, TI.agg, anL, List.length_cons, List.length_nil, List.append_nil, List.cons_append, List.nil_append, List.drop_succ_cons, List.drop_zero, List.drop_nil, List.take_succ_cons, List.take_zero, List.take_nil, List.getElem?_cons_zero, List.getElem?_cons_succ, List.all_cons, List.all_nil, List.replicate_succ, List.replicate_zero, List.set_cons_zero, List.set_cons_succ, eq_self, true_or, ne_eq, not_false_eq_true, Nat.reduceEqDiff, lstPr, List.length_map]
  refine vdraw TT_ok TT_mixed [0, 1, 0, 0, 0, 0, 0, 1, 0, 0, 1, 0, 0, 0, 0, 0, 1, 0, 1, 0, 0, 0, 0, 0] (by kernel_rfl) ?_
  simp only [decide_true, decide_false, gwL, gwB, gwD, gwE, gwS, gwTT, gwZ, initG, Nat.reduceEqDiff, ↓reduceIte, Nat.reduceAdd, Nat.reduceLT, Nat.reduceLeDiff, List.map_cons, List.map_nil, builtS, builtinV, pureR, binV, aggEq, eqFs, eqCell, Option.bind_some, Option.map_some, and_self, List.headD_cons, sliceV, pickV, evO, Env.look, find, V.ofConst, resV, resOne, tupV, loadV, fillV, buildV, mkIface, litM, litS, litR, litRows, List.reverse_cons, List.reverse_nil, Nat.reduceMul, appS, memA, appendV, rowsOf, V.cells, TI.sized, TI.known, TI.agg, anL, List.length_cons, List.length_nil, List.append_nil, List.cons_append, List.nil_append, List.drop_succ_cons, List.drop_zero, List.drop_nil, List.take_succ_cons, List.take_zero, List.take_nil, List.getElem?_cons_zero, List.getElem?_cons_succ, List.all_cons, List.all_nil, List.replicate_succ, List.replicate_zero, List.set_cons_zero, List.set_cons_succ, eq_self, true_or, ne_eq, not_false_eq_true, Nat.reduceEqDiff, lstPr, List.length_map, d1, d2, htk, Bool.not_false, Bool.or_self, Bool.false_or, Int.toNat_natCast]
  refine ⟨by rw [List.length_append]; omega, eK_free (fun s => c_SameProtos pa pa s) (wkL_refl _) ?_⟩
  rw [samePs_self]
  simp only [decide_true, decide_false, gwL, gwB, gwD, gwE, gwS, gwTT, gwZ, initG, Nat.reduceEqDiff, ↓reduceIte, Nat.reduceAdd, Nat.reduceLT, Nat.reduceLeDiff, List.map_cons, List.map_nil, builtS, builtinV, pureR, binV, aggEq, eqFs, eqCell, Option.bind_some, Option.map_some, and_self, List.headD_cons, sliceV, pickV, evO, Env.look, find, V.ofConst, resV, resOne, tupV, loadV, fillV, buildV, mkIface, litM, litS, litR, litRows, List.reverse_cons, List.reverse_nil, Nat.reduceMul, appS, memA, appendV, rowsOf, V.cells, TI.sized, TI.known, TI.agg, anL, List.length_cons, List.length_nil, List.append_nil, List.cons_append, List.nil_append, List.drop_succ_cons, List.drop_zero, List.drop_nil, List.take_succ_cons, List.take_zero, List.take_nil, List.getElem?_cons_zero, List.getElem?_cons_succ, List.all_cons, List.all_nil, List.replicate_succ, List.replicate_zero, List.set_cons_zero, List.set_cons_succ, eq_self, true_or, ne_eq, not_false_eq_true, Nat.reduceEqDiff, Bool.not_true]
  obtain ⟨S0, hS0⟩ : ∃ S0 : St, S0 = st ++ [Ent.box [.lst 3 none (rowsB ga), .lst 2 none (pa.map encPr), .lst 1 none (rowsI sa)], Ent.box [.int .i64 ea, .int .i64 ia], Ent.tip 37 (l.length + m.length), Ent.box [.lst 3 none (rowsB (ga ++ e1)), .lst 2 none ((pa ++ e2).map encPr), .lst 1 none (rowsI sb)], Ent.box [.int .i64 eb, .int .i64 ib]] := ⟨_, rfl⟩
  rw [← hS0]
  have h5 : S0[st.length]? = some (.box [.lst 3 none (rowsB ga), .lst 2 none (pa.map encPr), .lst 1 none (rowsI sa)]) := by rw [hS0]; simp
  have h7 : S0[st.length + 3]? = some (.box [.lst 3 none (rowsB (ga ++ e1)), .lst 2 none ((pa ++ e2).map encPr), .lst 1 none (rowsI sb)]) := by rw [hS0]; simp
  have hgl : (rowsB ga).length = ga.length := by simp [rowsB]
  have hgl2 : (rowsB (ga ++ e1)).length = ga.length + e1.length := by simp [rowsB]
  simp only [decide_true, decide_false, gwL, gwB, gwD, gwE, gwS, gwTT, gwZ, initG, Nat.reduceEqDiff, ↓reduceIte, Nat.reduceAdd, Nat.reduceLT, Nat.reduceLeDiff, List.map_cons, List.map_nil, builtS, builtinV, pureR, binV, aggEq, eqFs, eqCell, Option.bind_some, Option.map_some, and_self, List.headD_cons, sliceV, pickV, evO, Env.look, find, V.ofConst, resV, resOne, tupV, loadV, fillV, buildV, mkIface, litM, litS, litR, litRows, List.reverse_cons, List.reverse_nil, Nat.reduceMul, appS, memA, appendV, rowsOf, V.cells, TI.sized, TI.known, TI.agg, anL, List.length_cons, List.length_nil, List.append_nil, List.cons_append, List.nil_append, List.drop_succ_cons, List.drop_zero, List.drop_nil, List.take_succ_cons, List.take_zero, List.take_nil, List.getElem?_cons_zero, List.getElem?_cons_succ, List.all_cons, List.all_nil, List.replicate_succ, List.replicate_zero, List.set_cons_zero, List.set_cons_succ, eq_self, true_or, ne_eq, not_false_eq_true, Nat.reduceEqDiff, hgl]
  refine vfor (σ := Nat) [5, 7, 64, 65] (fun i => [(5, true, .ptr st.length 0), (7, true, .ptr (st.length + 3) 0), (64, true, .int .i64 ga.length), (65, true, .int .i64 i)]) (fun i => S0) (fun i => ga.length - i) (fun i => i ≤ ga.length) 0 rfl TT_ok (Nat.zero_le _) rfl rfl ?_
  intro i hi
  rcases at_or_end ga i hi with ⟨hie, hd⟩ | ⟨u, hlt, hget, hdr⟩
  · have hie2 : i = ga.length := hie
    subst hie2
    simp only [decide_true, decide_false, gwL, gwB, gwD, gwE, gwS, gwTT, gwZ, initG, Nat.reduceEqDiff, ↓reduceIte, Nat.reduceAdd, Nat.reduceLT, Nat.reduceLeDiff, List.map_cons, List.map_nil, builtS, builtinV, pureR, binV, aggEq, eqFs, eqCell, Option.bind_some, Option.map_some, and_self, List.headD_cons, sliceV, pickV, evO, Env.look, find, V.ofConst, resV, resOne, tupV, loadV, fillV, buildV, mkIface, litM, litS, litR, litRows, List.reverse_cons, List.reverse_nil, Nat.reduceMul, appS, memA, appendV, rowsOf, V.cells, TI.sized, TI.known, TI.agg, anL, List.length_cons, List.length_nil, List.append_nil, List.cons_append, List.nil_append, List.drop_succ_cons, List.drop_zero, List.drop_nil, List.take_succ_cons, List.take_zero, List.take_nil, List.getElem?_cons_zero, List.getElem?_cons_succ, List.all_cons, List.all_nil, List.replicate_succ, List.replicate_zero, List.set_cons_zero, List.set_cons_succ, eq_self, true_or, ne_eq, not_false_eq_true, Nat.reduceEqDiff, lt_no]
    rw [hS0]
    exact gives_bool' rfl hst
  · have g1 : (rowsB ga).getD i [] = encB u := getD_map hget
    have g2 : (rowsB (ga ++ e1)).getD i [] = encB u := getD_map (by rw [List.getElem?_append_left hlt]; exact hget)
    have w : IntKind.i64.wrap ((i : Int) + 1) = ((i + 1 : Nat) : Int) := next_i64 hlt (by omega)
    obtain ⟨uh, ul, uo⟩ := u
    simp only [decide_true, decide_false, gwL, gwB, gwD, gwE, gwS, gwTT, gwZ, initG, Nat.reduceEqDiff, ↓reduceIte, Nat.reduceAdd, Nat.reduceLT, Nat.reduceLeDiff, List.map_cons, List.map_nil, builtS, builtinV, pureR, binV, aggEq, eqFs, eqCell, Option.bind_some, Option.map_some, and_self, List.headD_cons, sliceV, pickV, evO, Env.look, find, V.ofConst, resV, resOne, tupV, loadV, fillV, buildV, mkIface, litM, litS, litR, litRows, List.reverse_cons, List.reverse_nil, Nat.reduceMul, appS, memA, appendV, rowsOf, V.cells, TI.sized, TI.known, TI.agg, anL, List.length_cons, List.length_nil, List.append_nil, List.cons_append, List.nil_append, List.drop_succ_cons, List.drop_zero, List.drop_nil, List.take_succ_cons, List.take_zero, List.take_nil, List.getElem?_cons_zero, List.getElem?_cons_succ, List.all_cons, List.all_nil, List.replicate_succ, List.replicate_zero, List.set_cons_zero, List.set_cons_succ, eq_self, true_or, ne_eq, not_false_eq_true, Nat.reduceEqDiff, lt_yes hlt]
    refine vdraw TT_ok TT_mixed [0, 1, 0, 0, 1, 0, 1, 0, 0, 1, 0] (by kernel_rfl) ?_
    simp only [decide_true, decide_false, gwL, gwB, gwD, gwE, gwS, gwTT, gwZ, initG, Nat.reduceEqDiff, ↓reduceIte, Nat.reduceAdd, Nat.reduceLT, Nat.reduceLeDiff, List.map_cons, List.map_nil, builtS, builtinV, pureR, binV, aggEq, eqFs, eqCell, Option.bind_some, Option.map_some, and_self, List.headD_cons, sliceV, pickV, evO, Env.look, find, V.ofConst, resV, resOne, tupV, loadV, fillV, buildV, mkIface, litM, litS, litR, litRows, List.reverse_cons, List.reverse_nil, Nat.reduceMul, appS, memA, appendV, rowsOf, V.cells, TI.sized, TI.known, TI.agg, anL, List.length_cons, List.length_nil, List.append_nil, List.cons_append, List.nil_append, List.drop_succ_cons, List.drop_zero, List.drop_nil, List.take_succ_cons, List.take_zero, List.take_nil, List.getElem?_cons_zero, List.getElem?_cons_succ, List.all_cons, List.all_nil, List.replicate_succ, List.replicate_zero, List.set_cons_zero, List.set_cons_succ, eq_self, true_or, ne_eq, not_false_eq_true, Nat.reduceEqDiff, h5, h7, g1, g2, encB, hgl, hgl2, Int.toNat_natCast, Int.ofNat_lt.mpr hlt, w, Env.keep]
    exact ⟨by omega, i + 1, rfl, by omega, hlt⟩
end Go.Proofs.Ytlblgbfpdlfedaa.Gx

namespace Go.Proofs.Ytlblgbfpdlfedaa.Gx
open Go Go.Proofs.Ytlblgbfpdlfedaa.Gw
set_option linter.unusedSimpArgs false
set_option linter.unusedVariables false

theorem idxB_at (x : Bind') : ∀ (l : List Bind') (i : Nat), x ∈ l → ∃ j : Nat, idxB x i l = ((i + j : Nat) : Int) ∧ l[j]? = some x ∧ j < l.length
  | [], i, h => by simp at h
  | a :: r, i, h => by
    rw [idxB, eqB_iff]
    by_cases e : x = a
    · subst e; exact ⟨0, by simp, by simp, by simp⟩
    · rcases List.mem_cons.1 h with h | h
      · exact absurd h e
      · obtain ⟨j, h1, h2, h3⟩ := idxB_at x r (i + 1) h
        refine ⟨j + 1, by simp only [e, decide_false, cond_false, h1]; congr 1; omega, by simpa using h2, by simp; omega⟩
theorem idxB_new (x : Bind') (ex : List Bind') : ∀ (l : List Bind') (i : Nat), x ∉ l → idxB x i (l ++ x :: ex) = ((i + l.length : Nat) : Int)
  | [], i, _ => by simp [idxB, eqB_iff]
  | a :: r, i, h => by
    simp only [List.mem_cons, not_or] at h
    rw [List.cons_append, idxB, eqB_iff]
    simp only [h.1, decide_false, cond_false, idxB_new x ex r (i + 1) h.2, List.length_cons]
    congr 1; omega
theorem idxB_in (x : Bind') (g ex : List Bind') (h : x ∈ g) : ∃ j : Nat, idxB x 0 (g ++ ex) = (j : Int) ∧ (g ++ ex)[j]? = some x ∧ j < g.length := by
  obtain ⟨j, h1, h2, h3⟩ := idxB_at x g 0 h
  rw [Nat.zero_add] at h1
  exact ⟨j, by rw [idxB_app _ _ _ _ (by omega), h1], by rw [List.getElem?_append_left h3]; exact h2, h3⟩
theorem insL_op (gl : List Bind') (nm : Str) (base : Int) (x : Ins) : (insL gl nm base x).1.op = x.op ∧ (insL gl nm base x).1.lib = [] ∧ ((insL gl nm base x).1.own = [] ∨ x.op = 6) ∧ (x.op = 13 → (insL gl nm base x).1.a = idxB ⟨[], x.lib, x.own⟩ 0 gl) := by
  obtain ⟨op, a, n, lb, ow, q⟩ := x
  unfold insL
  simp only
  by_cases h13 : op = 13
  · subst h13
    simp only [decide_true, Bool.or_true, cond_true]
    cases decide (idxB ⟨[], lb, ow⟩ 0 gl < 0) <;> simp
  · by_cases h5 : op = 5
    · subst h5; simp; cases decide (idxB ⟨[], lb, ow⟩ 0 gl < 0) <;> simp
    · by_cases h12 : op = 12
      · subst h12
        simp
        cases decide (idxB ⟨[], lb, ow⟩ 0 gl < 0) <;> simp
        cases decide (lb = nm) <;> simp
      · by_cases h7 : op = 7
        · subst h7; simp
        · by_cases h1 : op = 1
          · subst h1; simp
          · by_cases h2 : op = 2
            · subst h2; simp
            · by_cases h3 : op = 3
              · subst h3; simp
              · by_cases h6 : op = 6
                · subst h6; simp
                · simp [h13, h5, h12, h7, h1, h2, h3, h6]
                  cases (decide (op = 14) || decide (op = 15)) <;> simp
theorem codeL_map {gl : List Bind'} {nm : Str} {base : Int} : ∀ {l out : List Ins}, (codeL gl nm base l out).2 = 0 → (codeL gl nm base l out).1 = out ++ l.map fun x => (insL gl nm base x).1
  | [], out, _ => by simp [codeL]
  | x :: r, out, h => by
    rw [codeL] at h ⊢
    cases h1 : decide ((insL gl nm base x).2 = 0) with
    | false => rw [h1] at h; simp only [Bool.not_false, cond_true] at h; exact absurd h (of_decide_eq_false h1)
    | true =>
      rw [h1] at h
      simp only [Bool.not_true, cond_false] at h ⊢
      rw [codeL_map h]; simp
theorem protosL_map {gl : List Bind'} {nm : Str} {base : Int} : ∀ {l ps : List Pr}, (protosL gl nm base l ps).2 = 0 → (protosL gl nm base l ps).1 = ps ++ l.map fun q => ⟨q.args, q.code.map fun x => (insL gl nm base x).1⟩
  | [], ps, _ => by simp [protosL]
  | q :: r, ps, h => by
    rw [protosL] at h ⊢
    cases h1 : decide ((codeL gl nm base q.code []).2 = 0) with
    | false => rw [h1] at h; simp only [Bool.not_false, cond_true] at h; exact absurd h (of_decide_eq_false h1)
    | true =>
      rw [h1] at h
      simp only [Bool.not_true, cond_false] at h ⊢
      rw [protosL_map h, codeL_map (of_decide_eq_true h1)]; simp
/-- The image of one unit. -/
theorem link_one {u : Unit'} (h : (linkL [u]).2.1 = 0) : UnitOk u ∧ ∃ gl, globP u.name u.protos [] = (0, gl) ∧ gl.length ≤ 500 ∧
    linkL [u] = (⟨gl, u.protos.map fun q => ⟨q.args, q.code.map fun x => (insL gl u.name 0 x).1⟩, [0]⟩, 0, 0) := by
  rcases link_split [u] with h' | ⟨-, a1, a0, a2, a3⟩
  · exact absurd h h'
  have hu := checkL_zero a1 u (by simp)
  have hc : (globP u.name u.protos []).1 = 0 ∧ (checkL [u] [u] 0 []).2.2 = (globP u.name u.protos []).2 := by
    rw [checkL] at a1 ⊢
    have e : errL [u] 0 u = 0 := by simp [errL, hu]
    rw [e] at a1 ⊢
    simp only [decide_true, cond_true] at a1 ⊢
    cases h1 : decide ((globP u.name u.protos []).1 = 0) with
    | false => rw [h1] at a1; simp only [Bool.not_false, cond_true] at a1; exact absurd a1 (of_decide_eq_false h1)
    | true => exact ⟨of_decide_eq_true h1, by simp [checkL]⟩
  refine ⟨unit_ok hu, (globP u.name u.protos []).2, by rw [← hc.1], by rw [← hc.2]; exact a0, ?_⟩
  rw [a3, hc.2]
  rw [hc.2] at a2
  rw [unitsL] at a2 ⊢
  cases h1 : decide ((protosL (globP u.name u.protos []).2 u.name (([] : List Pr).length) u.protos []).2 = 0) with
  | false => rw [h1] at a2; simp only [Bool.not_false, cond_true] at a2; exact absurd a2 (of_decide_eq_false h1)
  | true =>
    simp only [Bool.not_true, cond_false, unitsL, protosL_map (of_decide_eq_true h1)]
    simp
/-- A definition, where so many globals are there. -/
theorem one_def {nm : Str} {r : List Ins} {g gl : List Bind'} {rest : List Pr} {x : Ins} (h13 : x.op = 13) (h1 : (globI nm (x :: r) g).1 = 0) (h2 : globP nm rest (globI nm (x :: r) g).2 = (0, gl)) :
    ∃ (j : Nat) (g' : List Bind'), idxB ⟨[], x.lib, x.own⟩ 0 gl = j ∧ j ≤ g.length ∧ j < gl.length ∧ gl[j]? = some ⟨[], nm, x.own⟩ ∧ g'.length = (if j = g.length then g.length + 1 else g.length) ∧
      (globI nm r g').1 = 0 ∧ globP nm rest (globI nm r g').2 = (0, gl) := by
  rw [globI, h13] at h1 h2
  simp only [decide_true, Bool.not_true, cond_false] at h1 h2
  cases hl : decide (x.lib = nm) with
  | false => rw [hl] at h1; simp at h1
  | true =>
    have hlb := of_decide_eq_true hl
    rw [hl] at h1 h2
    simp only [Bool.not_true, cond_false] at h1 h2
    obtain ⟨e1, he1⟩ := globI_ext nm r (bif !decide ((⟨[], x.lib, x.own⟩ : Bind') ∈ g) then g ++ [⟨[], x.lib, x.own⟩] else g)
    obtain ⟨e2, he2⟩ := globP_ext nm rest (globI nm r (bif !decide ((⟨[], x.lib, x.own⟩ : Bind') ∈ g) then g ++ [⟨[], x.lib, x.own⟩] else g)).2
    have hgl : gl = (bif !decide ((⟨[], x.lib, x.own⟩ : Bind') ∈ g) then g ++ [⟨[], x.lib, x.own⟩] else g) ++ (e1 ++ e2) := by
      have := he2
      rw [h2, he1, List.append_assoc] at this
      exact this
    cases hm : decide ((⟨[], x.lib, x.own⟩ : Bind') ∈ g) with
    | true =>
      rw [hm] at h1 h2 hgl
      simp only [Bool.not_true, cond_false] at h1 h2 hgl
      obtain ⟨j, k1, k2, k3⟩ := idxB_in _ g (e1 ++ e2) (of_decide_eq_true hm)
      refine ⟨j, g, by rw [hgl]; exact k1, by omega, by rw [hgl, List.length_append]; omega, by rw [hgl, k2, hlb], by rw [if_neg (by omega)], h1, h2⟩
    | false =>
      rw [hm] at h1 h2 hgl
      simp only [Bool.not_false, cond_true] at h1 h2 hgl
      rw [List.append_assoc, List.singleton_append] at hgl
      refine ⟨g.length, g ++ [⟨[], x.lib, x.own⟩], by rw [hgl, idxB_new _ _ _ _ (of_decide_eq_false hm)]; simp, Nat.le_refl _, by rw [hgl]; simp, by rw [hgl, hlb]; simp, by simp, h1, h2⟩
theorem one_skip {nm : Str} {r : List Ins} {g : List Bind'} {x : Ins} (h13 : x.op ≠ 13) : globI nm (x :: r) g = globI nm r g := by
  rw [globI]; simp [h13]
end Go.Proofs.Ytlblgbfpdlfedaa.Gx

namespace Go.Proofs.Ytlblgbfpdlfedaa.Gx
open Go Go.Proofs.Ytlblgbfpdlfedaa.Gw
set_option linter.unusedSimpArgs false
set_option linter.unusedVariables false

set_option maxRecDepth 20000 in
set_option maxHeartbeats 8000000 in
theorem c_LinkOne (u : Unit') (st : St) : VCalls Try.prog TT 6 [.agg (encU u)] st fun r st' => r = .ret (.bool true) ∧ st' = st := by
  refine vfun TT_ok (an := anL [(1, 1)]) (L := [0, 1, 2, 3, 4, 5, 6, 7, 8, 9, 43, 44, 52, 53, 54]) (rs := [.tmp 2]) Try.func6 rfl (by kernel_rfl) rfl Try.ntmps6 rfl rfl (Nat.le_refl _) fun hst ha hf => ?_
  simp only [decide_true, decide_false, gwL, gwB, gwD, gwE, gwS, gwTT, gwZ, initG, Nat.reduceEqDiff, ↓reduceIte, Nat.reduceAdd, Nat.reduceLT, Nat.reduceLeDiff, List.map_cons, List.map_nil, builtS, builtinV, pureR, binV, aggEq, eqFs, eqCell, Option.bind_some, Option.map_some, and_self, List.headD_cons, sliceV, pickV, evO, Env.look, find, V.ofConst, resV, resOne, tupV, loadV, fillV, buildV, mkIface, litM, litS, litR, litRows, List.reverse_cons, List.reverse_nil, Nat.reduceMul, appS, memA, appendV, rowsOf, V.cells, TI.sized, TI.known, TI.agg, anL, List.length_cons, List.length_nil, List.append_nil, List.cons_append, List.nil_append, List.drop_succ_cons, List.drop_zero, List.drop_nil, List.take_succ_cons, List.take_zero, List.take_nil, List.getElem?_cons_zero, List.getElem?_cons_succ, List.all_cons, List.all_nil, List.replicate_succ, List.replicate_zero, List.set_cons_zero, List.set_cons_succ, eq_self, true_or, ne_eq, not_false_eq_true, Nat.reduceEqDiff]
  refine (c_linkAlive _).use (wkL_refl _) fun _ => ?_
  simp only [decide_true, decide_false, gwL, gwB, gwD, gwE, gwS, gwTT, gwZ, initG, Nat.reduceEqDiff, ↓reduceIte, Nat.reduceAdd, Nat.reduceLT, Nat.reduceLeDiff, List.map_cons, List.map_nil, builtS, builtinV, pureR, binV, aggEq, eqFs, eqCell, Option.bind_some, Option.map_some, and_self, List.headD_cons, sliceV, pickV, evO, Env.look, find, V.ofConst, resV, resOne, tupV, loadV, fillV, buildV, mkIface, litM, litS, litR, litRows, List.reverse_cons, List.reverse_nil, Nat.reduceMul, appS, memA, appendV, rowsOf, V.cells, TI.sized, TI.known, TI.agg, anL, List.length_cons, List.length_nil, List.append_nil, List.cons_append, List.nil_append, List.drop_succ_cons, List.drop_zero, List.drop_nil, List.take_succ_cons, List.take_zero, List.take_nil, List.getElem?_cons_zero, List.getElem?_cons_succ, List.all_cons, List.all_nil, List.replicate_succ, List.replicate_zero, List.set_cons_zero, List.set_cons_succ, eq_self, true_or, ne_eq, not_false_eq_true, Nat.reduceEqDiff, encU_len, encU_take, Nat.le_refl]
  refine (c_Link [u] _).use (wkL_refl _) fun _ => ?_
  have hLaw := @link_one u
  generalize linkL [u] = ra at *
  obtain ⟨⟨ga, pa, sa⟩, ea, ia⟩ := ra
  simp only at hLaw ⊢
  simp only [decide_true, decide_false, gwL, gwB, gwD, gwE, gwS, gwTT, gwZ, initG, Nat.reduceEqDiff, ↓reduceIte, Nat.reduceAdd, Nat.reduceLT, Nat.reduceLeDiff, List.map_cons, List.map_nil, builtS, builtinV, pureR, binV, aggEq, eqFs, eqCell, Option.bind_some, Option.map_some, and_self, List.headD_cons, sliceV, pickV, evO, Env.look, find, V.ofConst, resV, resOne, tupV, loadV, fillV, buildV, mkIface, litM, litS, litR, litRows, List.reverse_cons, List.reverse_nil, Nat.reduceMul, appS, memA, appendV, rowsOf, V.cells, TI.sized, TI.known, TI.agg, anL, List.length_cons, List.length_nil, List.append_nil, List.cons_append, List.nil_append, List.drop_succ_cons, List.drop_zero, List.drop_nil, List.take_succ_cons, List.take_zero, List.take_nil, List.getElem?_cons_zero, List.getElem?_cons_succ, List.all_cons, List.all_nil, List.replicate_succ, List.replicate_zero, List.set_cons_zero, List.set_cons_succ, eq_self, true_or, ne_eq, not_false_eq_true, Nat.reduceEqDiff, linkV, encIm, fltV]
  refine iK_split (fun h1 => ?_) (fun h1 => ?_)
  · simp only [decide_true, decide_false, gwL, gwB, gwD, gwE, gwS, gwTT, gwZ, initG, Nat.reduceEqDiff, ↓reduceIte, Nat.reduceAdd, Nat.reduceLT, Nat.reduceLeDiff, List.map_cons, List.map_nil, builtS, builtinV, pureR, binV, aggEq, eqFs, eqCell, Option.bind_some, Option.map_some, and_self, List.headD_cons, sliceV, pickV, evO, Env.look, find, V.ofConst, resV, resOne, tupV, loadV, fillV, buildV, mkIface, litM, litS, litR, litRows, List.reverse_cons, List.reverse_nil, Nat.reduceMul, appS, memA, appendV, rowsOf, V.cells, TI.sized, TI.known, TI.agg, anL, List.length_cons, List.length_nil, List.append_nil, List.cons_append, List.nil_append, List.drop_succ_cons, List.drop_zero, List.drop_nil, List.take_succ_cons, List.take_zero, List.take_nil, List.getElem?_cons_zero, List.getElem?_cons_succ, List.all_cons, List.all_nil, List.replicate_succ, List.replicate_zero, List.set_cons_zero, List.set_cons_succ, eq_self, true_or, ne_eq, not_false_eq_true, Nat.reduceEqDiff]
    exact gives_bool' rfl hst
  simp only [Bool.not_eq_false', decide_eq_true_eq] at h1
  obtain ⟨hok, gl, hG, hgn, heq⟩ := hLaw h1
  simp only [Prod.mk.injEq, Im.mk.injEq] at heq
  obtain ⟨⟨rfl, rfl, rfl⟩, rfl, rfl⟩ := heq
  have g0 : (rowsI [0]).getD (Int.toNat 0) [] = [.int .i64 0] := rfl
  have hr1 : (rowsI [0]).length = 1 := rfl
  have hpn : u.protos.length ≤ 500 := hok.few.2
  have d1 : decide (((1 : Nat) : Int) = 1) = true := rfl
  have d2 : decide ((0 : Int) = 0) = true := rfl
  have d3 : (0 : Int) < ((1 : Nat) : Int) := by decide
  simp only [decide_true, decide_false, gwL, gwB, gwD, gwE, gwS, gwTT, gwZ, initG, Nat.reduceEqDiff, ↓reduceIte, Nat.reduceAdd, Nat.reduceLT, Nat.reduceLeDiff, List.map_cons, List.map_nil, builtS, builtinV, pureR, binV, aggEq, eqFs, eqCell, Option.bind_some, Option.map_some, and_self, List.headD_cons, sliceV, pickV, evO, Env.look, find, V.ofConst, resV, resOne, tupV, loadV, fillV, buildV, mkIface, litM, litS, litR, litRows, List.reverse_cons, List.reverse_nil, Nat.reduceMul, appS, memA, appendV, rowsOf, V.cells, TI.sized, TI.known, TI.agg, anL, List.length_cons, List.length_nil, List.append_nil, List.cons_append, List.nil_append, List.drop_succ_cons, List.drop_zero, List.drop_nil, List.take_succ_cons, List.take_zero, List.take_nil, List.getElem?_cons_zero, List.getElem?_cons_succ, List.all_cons, List.all_nil, List.replicate_succ, List.replicate_zero, List.set_cons_zero, List.set_cons_succ, eq_self, true_or, ne_eq, not_false_eq_true, Nat.reduceEqDiff, lstPr, encU, hr1, g0, List.length_map, d1, d2, d3, Bool.not_true, Int.le_refl]
  have hrg : (rowsB ga).length = ga.length := by simp [rowsB]
  generalize hP : (u.protos.map fun q => (⟨q.args, q.code.map fun x => (insL ga u.name 0 x).1⟩ : Pr)) = ps
  obtain ⟨S0, hS0⟩ : ∃ S0 : St, S0 = st ++ [Ent.box [.lst 3 none (rowsB ga), .lst 2 none (ps.map encPr), .lst 1 none (rowsI [0])], Ent.box [.int .i64 0, .int .i64 0]] := ⟨_, rfl⟩
  rw [← hS0]
  have hb : ∀ ex : St, (S0 ++ ex)[st.length]? = some (.box [.lst 3 none (rowsB ga), .lst 2 none (ps.map encPr), .lst 1 none (rowsI [0])]) := fun ex => by rw [hS0]; simp
  have hpl : ps.length = u.protos.length := by rw [← hP, List.length_map]
  have dl : decide (((u.protos.map encPr).length : Int) = ((u.protos.map encPr).length : Int)) = true := by simp
  obtain ⟨nm, prs⟩ := u
  simp only at hpl hP hpn hG ⊢
  refine vfor (σ := Nat × List Bind' × St) [1, 2, 3, 5, 43, 44] (fun x => [(1, true, .ref [.str nm, .lst 2 none (prs.map encPr)]), (2, true, .bool false), (3, true, .ptr st.length 0), (5, true, .int .i64 x.2.1.length), (43, true, .int .i64 prs.length), (44, true, .int .i64 x.1)]) (fun x => S0 ++ x.2.2) (fun x => prs.length - x.1) (fun x => x.1 ≤ prs.length ∧ globP nm (prs.drop x.1) x.2.1 = (0, ga)) (0, [], []) rfl TT_ok ⟨Nat.zero_le _, hG⟩ rfl (List.append_nil _).symm ?_
  rintro ⟨p, g, ex⟩ ⟨hi, hx⟩
  simp only at hi hx ⊢
  rcases at_or_end prs p hi with ⟨hie, hd⟩ | ⟨q, hlt, hget, hdr⟩
  · have hie2 : p = prs.length := hie
    subst hie2
    rw [hd, globP] at hx
    simp only [Prod.mk.injEq, true_and] at hx
    subst hx
    simp only [decide_true, decide_false, gwL, gwB, gwD, gwE, gwS, gwTT, gwZ, initG, Nat.reduceEqDiff, ↓reduceIte, Nat.reduceAdd, Nat.reduceLT, Nat.reduceLeDiff, List.map_cons, List.map_nil, builtS, builtinV, pureR, binV, aggEq, eqFs, eqCell, Option.bind_some, Option.map_some, and_self, List.headD_cons, sliceV, pickV, evO, Env.look, find, V.ofConst, resV, resOne, tupV, loadV, fillV, buildV, mkIface, litM, litS, litR, litRows, List.reverse_cons, List.reverse_nil, Nat.reduceMul, appS, memA, appendV, rowsOf, V.cells, TI.sized, TI.known, TI.agg, anL, List.length_cons, List.length_nil, List.append_nil, List.cons_append, List.nil_append, List.drop_succ_cons, List.drop_zero, List.drop_nil, List.take_succ_cons, List.take_zero, List.take_nil, List.getElem?_cons_zero, List.getElem?_cons_succ, List.all_cons, List.all_nil, List.replicate_succ, List.replicate_zero, List.set_cons_zero, List.set_cons_succ, eq_self, true_or, ne_eq, not_false_eq_true, Nat.reduceEqDiff, lt_no, hb, hrg]
    rw [hS0, List.append_assoc]
    exact gives_bool' (by simp) hst
  rw [hdr, globP] at hx
  have hq0 : (globI nm q.code g).1 = 0 := by
    cases h2 : decide ((globI nm q.code g).1 = 0) with
    | true => exact of_decide_eq_true h2
    | false => rw [h2] at hx; simp only [Bool.not_false, cond_true] at hx; rw [hx]
  rw [hq0] at hx
  simp only [decide_true, Bool.not_true, cond_false] at hx
  have hgq : (prs.map encPr).getD p [] = encPr q := getD_map hget
  have hgp : (ps.map encPr).getD p [] = encPr ⟨q.args, q.code.map fun x => (insL ga nm 0 x).1⟩ := by
    rw [← hP]; exact getD_map (by rw [List.getElem?_map, hget]; rfl)
  have hc6 := (hok.form q (List.mem_of_getElem? hget)).2.1
  have w : IntKind.i64.wrap ((p : Int) + 1) = ((p + 1 : Nat) : Int) := next_i64 hlt (by omega)
  have hil : (p : Int) < (prs.length : Int) := Int.ofNat_lt.mpr hlt
  obtain ⟨qa, code⟩ := q
  simp only at hq0 hx hgp hc6
  simp only [decide_true, decide_false, gwL, gwB, gwD, gwE, gwS, gwTT, gwZ, initG, Nat.reduceEqDiff, ↓reduceIte, Nat.reduceAdd, Nat.reduceLT, Nat.reduceLeDiff, List.map_cons, List.map_nil, builtS, builtinV, pureR, binV, aggEq, eqFs, eqCell, Option.bind_some, Option.map_some, and_self, List.headD_cons, sliceV, pickV, evO, Env.look, find, V.ofConst, resV, resOne, tupV, loadV, fillV, buildV, mkIface, litM, litS, litR, litRows, List.reverse_cons, List.reverse_nil, Nat.reduceMul, appS, memA, appendV, rowsOf, V.cells, TI.sized, TI.known, TI.agg, anL, List.length_cons, List.length_nil, List.append_nil, List.cons_append, List.nil_append, List.drop_succ_cons, List.drop_zero, List.drop_nil, List.take_succ_cons, List.take_zero, List.take_nil, List.getElem?_cons_zero, List.getElem?_cons_succ, List.all_cons, List.all_nil, List.replicate_succ, List.replicate_zero, List.set_cons_zero, List.set_cons_succ, eq_self, true_or, ne_eq, not_false_eq_true, Nat.reduceEqDiff, lt_yes hlt, List.length_map, hgq, encPr, lstI, Int.toNat_natCast, hil]
  refine vfor (σ := Nat × List Bind' × St) [1, 2, 3, 5, 6, 43, 44, 52, 53, 54] (fun x => [(1, true, .ref [.str nm, .lst 2 none (prs.map encPr)]), (2, true, .bool false), (3, true, .ptr st.length 0), (5, true, .int .i64 x.2.1.length), (6, true, .int .i64 p), (43, true, .int .i64 prs.length), (44, true, .int .i64 p), (52, true, .lst 11 none (code.map encI)), (53, true, .int .i64 code.length), (54, true, .int .i64 x.1)]) (fun x => S0 ++ x.2.2) (fun x => code.length - x.1) (fun x => x.1 ≤ code.length ∧ (globI nm (code.drop x.1) x.2.1).1 = 0 ∧ globP nm (prs.drop (p + 1)) (globI nm (code.drop x.1) x.2.1).2 = (0, ga)) (0, g, ex) rfl TT_ok ⟨Nat.zero_le _, hq0, hx⟩ rfl rfl ?_
  rintro ⟨i, g, ex⟩ ⟨hj, hy0, hy⟩
  simp only at hj hy0 hy ⊢
  rcases at_or_end code i hj with ⟨hie, hd⟩ | ⟨x, hltj, hgetj, hdrj⟩
  · have hie2 : i = code.length := hie
    subst hie2
    rw [hd, globI] at hy
    simp only [decide_true, decide_false, gwL, gwB, gwD, gwE, gwS, gwTT, gwZ, initG, Nat.reduceEqDiff, ↓reduceIte, Nat.reduceAdd, Nat.reduceLT, Nat.reduceLeDiff, List.map_cons, List.map_nil, builtS, builtinV, pureR, binV, aggEq, eqFs, eqCell, Option.bind_some, Option.map_some, and_self, List.headD_cons, sliceV, pickV, evO, Env.look, find, V.ofConst, resV, resOne, tupV, loadV, fillV, buildV, mkIface, litM, litS, litR, litRows, List.reverse_cons, List.reverse_nil, Nat.reduceMul, appS, memA, appendV, rowsOf, V.cells, TI.sized, TI.known, TI.agg, anL, List.length_cons, List.length_nil, List.append_nil, List.cons_append, List.nil_append, List.drop_succ_cons, List.drop_zero, List.drop_nil, List.take_succ_cons, List.take_zero, List.take_nil, List.getElem?_cons_zero, List.getElem?_cons_succ, List.all_cons, List.all_nil, List.replicate_succ, List.replicate_zero, List.set_cons_zero, List.set_cons_succ, eq_self, true_or, ne_eq, not_false_eq_true, Nat.reduceEqDiff, lt_no, w, Env.keep]
    exact ⟨(p + 1, g, ex), rfl, rfl, by simp only; omega, by simp only; omega, hy⟩
  rw [hdrj] at hy0 hy
  have hgc : (code.map encI).getD i [] = encI x := getD_map hgetj
  have hgd : ((code.map fun x => (insL ga nm 0 x).1).map encI).getD i [] = encI (insL ga nm 0 x).1 := getD_map (by rw [List.getElem?_map, hgetj]; rfl)
  have hjl : (i : Int) < (code.length : Int) := Int.ofNat_lt.mpr hltj
  have w2 : IntKind.i64.wrap ((i : Int) + 1) = ((i + 1 : Nat) : Int) := next_i64 hltj (by omega)
  obtain ⟨o1, o2, o3, o4⟩ := insL_op ga nm 0 x
  generalize (insL ga nm 0 x).1 = y at hgd o1 o2 o3 o4
  obtain ⟨xop, xa, xn, xl, xo, xq⟩ := x
  obtain ⟨yop, ya, yn, yl, yo, yq⟩ := y
  simp only at o1 o2 o3 o4 hy hy0
  subst o1 o2
  simp only [encI_mk] at hgc hgd
  have encD11 : ∀ q : Datum, 6 ≤ (encD q).length := fun q => by rw [encD_len]; exact Nat.le_refl _
  simp only [decide_true, decide_false, gwL, gwB, gwD, gwE, gwS, gwTT, gwZ, initG, Nat.reduceEqDiff, ↓reduceIte, Nat.reduceAdd, Nat.reduceLT, Nat.reduceLeDiff, List.map_cons, List.map_nil, builtS, builtinV, pureR, binV, aggEq, eqFs, eqCell, Option.bind_some, Option.map_some, and_self, List.headD_cons, sliceV, pickV, evO, Env.look, find, V.ofConst, resV, resOne, tupV, loadV, fillV, buildV, mkIface, litM, litS, litR, litRows, List.reverse_cons, List.reverse_nil, Nat.reduceMul, appS, memA, appendV, rowsOf, V.cells, TI.sized, TI.known, TI.agg, anL, List.length_cons, List.length_nil, List.append_nil, List.cons_append, List.nil_append, List.drop_succ_cons, List.drop_zero, List.drop_nil, List.take_succ_cons, List.take_zero, List.take_nil, List.getElem?_cons_zero, List.getElem?_cons_succ, List.all_cons, List.all_nil, List.replicate_succ, List.replicate_zero, List.set_cons_zero, List.set_cons_succ, eq_self, true_or, ne_eq, not_false_eq_true, Nat.reduceEqDiff, lt_yes hltj, List.length_map, hgc, hgd, hgp, encPr, lstI, hb, Int.toNat_natCast, hil, hjl, hpl, encD_len, encD_take, encD_drop, Nat.le_refl]
  have h3 : (!decide (yo = []) && !decide (yop = 6)) = false := by rcases o3 with h | h <;> simp [h]
  rw [h3]
  simp only [decide_true, decide_false, gwL, gwB, gwD, gwE, gwS, gwTT, gwZ, initG, Nat.reduceEqDiff, ↓reduceIte, Nat.reduceAdd, Nat.reduceLT, Nat.reduceLeDiff, List.map_cons, List.map_nil, builtS, builtinV, pureR, binV, aggEq, eqFs, eqCell, Option.bind_some, Option.map_some, and_self, List.headD_cons, sliceV, pickV, evO, Env.look, find, V.ofConst, resV, resOne, tupV, loadV, fillV, buildV, mkIface, litM, litS, litR, litRows, List.reverse_cons, List.reverse_nil, Nat.reduceMul, appS, memA, appendV, rowsOf, V.cells, TI.sized, TI.known, TI.agg, anL, List.length_cons, List.length_nil, List.append_nil, List.cons_append, List.nil_append, List.drop_succ_cons, List.drop_zero, List.drop_nil, List.take_succ_cons, List.take_zero, List.take_nil, List.getElem?_cons_zero, List.getElem?_cons_succ, List.all_cons, List.all_nil, List.replicate_succ, List.replicate_zero, List.set_cons_zero, List.set_cons_succ, eq_self, true_or, ne_eq, not_false_eq_true, Nat.reduceEqDiff]
  generalize hY : (V.int IntKind.i64 yop :: V.int IntKind.i64 ya :: V.int IntKind.i64 yn :: V.str [] :: V.str yo :: encD yq) = Y
  generalize hX : (V.int IntKind.i64 yop :: V.int IntKind.i64 xa :: V.int IntKind.i64 xn :: V.str xl :: V.str xo :: encD xq) = X
  refine iK_split (fun h4 => ?_) (fun h4 => ?_)
  · have h5 : yop ≠ 13 := by simpa using h4
    rw [one_skip h5] at hy hy0
    simp only [decide_true, decide_false, gwL, gwB, gwD, gwE, gwS, gwTT, gwZ, initG, Nat.reduceEqDiff, ↓reduceIte, Nat.reduceAdd, Nat.reduceLT, Nat.reduceLeDiff, List.map_cons, List.map_nil, builtS, builtinV, pureR, binV, aggEq, eqFs, eqCell, Option.bind_some, Option.map_some, and_self, List.headD_cons, sliceV, pickV, evO, Env.look, find, V.ofConst, resV, resOne, tupV, loadV, fillV, buildV, mkIface, litM, litS, litR, litRows, List.reverse_cons, List.reverse_nil, Nat.reduceMul, appS, memA, appendV, rowsOf, V.cells, TI.sized, TI.known, TI.agg, anL, List.length_cons, List.length_nil, List.append_nil, List.cons_append, List.nil_append, List.drop_succ_cons, List.drop_zero, List.drop_nil, List.take_succ_cons, List.take_zero, List.take_nil, List.getElem?_cons_zero, List.getElem?_cons_succ, List.all_cons, List.all_nil, List.replicate_succ, List.replicate_zero, List.set_cons_zero, List.set_cons_succ, eq_self, true_or, ne_eq, not_false_eq_true, Nat.reduceEqDiff, w2, Env.keep]
    exact ⟨(i + 1, g, ex ++ [Ent.box X, Ent.box Y]), rfl, rfl, by simp only; omega, by simp only; omega, hy0, hy⟩
  have h5 : yop = 13 := by simpa using h4
  obtain ⟨j, g', k1, k2, k3, k4, k5, k6, k7⟩ := one_def h5 hy0 hy
  have hya : ya = j := by rw [o4 h5, ← k1]
  subst hya
  have hgr : (rowsB ga).getD j [] = encB ⟨[], nm, xo⟩ := getD_map k4
  have hjg : (j : Int) < (ga.length : Int) := Int.ofNat_lt.mpr k3
  have e1 : decide ((g.length : Int) < (j : Int)) = false := decide_eq_false (by omega)
  have e2 : decide ((ga.length : Int) ≤ (j : Int)) = false := decide_eq_false (by omega)
  subst hX hY
  simp only [decide_true, decide_false, gwL, gwB, gwD, gwE, gwS, gwTT, gwZ, initG, Nat.reduceEqDiff, ↓reduceIte, Nat.reduceAdd, Nat.reduceLT, Nat.reduceLeDiff, List.map_cons, List.map_nil, builtS, builtinV, pureR, binV, aggEq, eqFs, eqCell, Option.bind_some, Option.map_some, and_self, List.headD_cons, sliceV, pickV, evO, Env.look, find, V.ofConst, resV, resOne, tupV, loadV, fillV, buildV, mkIface, litM, litS, litR, litRows, List.reverse_cons, List.reverse_nil, Nat.reduceMul, appS, memA, appendV, rowsOf, V.cells, TI.sized, TI.known, TI.agg, anL, List.length_cons, List.length_nil, List.append_nil, List.cons_append, List.nil_append, List.drop_succ_cons, List.drop_zero, List.drop_nil, List.take_succ_cons, List.take_zero, List.take_nil, List.getElem?_cons_zero, List.getElem?_cons_succ, List.all_cons, List.all_nil, List.replicate_succ, List.replicate_zero, List.set_cons_zero, List.set_cons_succ, eq_self, true_or, ne_eq, not_false_eq_true, Nat.reduceEqDiff]
  refine vdraw TT_ok TT_mixed [0, 1, 0, 0, 0, 0, 1, 0, 1, 0, 0, 0, 0, 0, 1, 0, 1, 0, 0, 1, 0, 1, 0, 0, 0, 0, 1, 0, 1, 0, 0, 1, 0, 1, 0, 0] (by kernel_rfl) ?_
  simp only [decide_true, decide_false, gwL, gwB, gwD, gwE, gwS, gwTT, gwZ, initG, Nat.reduceEqDiff, ↓reduceIte, Nat.reduceAdd, Nat.reduceLT, Nat.reduceLeDiff, List.map_cons, List.map_nil, builtS, builtinV, pureR, binV, aggEq, eqFs, eqCell, Option.bind_some, Option.map_some, and_self, List.headD_cons, sliceV, pickV, evO, Env.look, find, V.ofConst, resV, resOne, tupV, loadV, fillV, buildV, mkIface, litM, litS, litR, litRows, List.reverse_cons, List.reverse_nil, Nat.reduceMul, appS, memA, appendV, rowsOf, V.cells, TI.sized, TI.known, TI.agg, anL, List.length_cons, List.length_nil, List.append_nil, List.cons_append, List.nil_append, List.drop_succ_cons, List.drop_zero, List.drop_nil, List.take_succ_cons, List.take_zero, List.take_nil, List.getElem?_cons_zero, List.getElem?_cons_succ, List.all_cons, List.all_nil, List.replicate_succ, List.replicate_zero, List.set_cons_zero, List.set_cons_succ, eq_self, true_or, ne_eq, not_false_eq_true, Nat.reduceEqDiff, hb, hgr, hrg, e1, e2, encB, hjg, Int.toNat_natCast, Bool.not_false, Bool.not_true, Bool.or_self]
  generalize hY : (V.int IntKind.i64 yop :: V.int IntKind.i64 (j : Int) :: V.int IntKind.i64 yn :: V.str [] :: V.str yo :: encD yq) = Y
  generalize hX : (V.int IntKind.i64 yop :: V.int IntKind.i64 xa :: V.int IntKind.i64 xn :: V.str xl :: V.str xo :: encD xq) = X
  refine iK_split (fun h6 => ?_) (fun h6 => ?_)
  · have h7 : j = g.length := by have := of_decide_eq_true h6; omega
    rw [if_pos h7] at k5
    have w3 : IntKind.i64.wrap ((g.length : Int) + 1) = ((g.length + 1 : Nat) : Int) := next_i64 (i := g.length) (n := g.length + 1) (by omega) (by omega)
    simp only [decide_true, decide_false, gwL, gwB, gwD, gwE, gwS, gwTT, gwZ, initG, Nat.reduceEqDiff, ↓reduceIte, Nat.reduceAdd, Nat.reduceLT, Nat.reduceLeDiff, List.map_cons, List.map_nil, builtS, builtinV, pureR, binV, aggEq, eqFs, eqCell, Option.bind_some, Option.map_some, and_self, List.headD_cons, sliceV, pickV, evO, Env.look, find, V.ofConst, resV, resOne, tupV, loadV, fillV, buildV, mkIface, litM, litS, litR, litRows, List.reverse_cons, List.reverse_nil, Nat.reduceMul, appS, memA, appendV, rowsOf, V.cells, TI.sized, TI.known, TI.agg, anL, List.length_cons, List.length_nil, List.append_nil, List.cons_append, List.nil_append, List.drop_succ_cons, List.drop_zero, List.drop_nil, List.take_succ_cons, List.take_zero, List.take_nil, List.getElem?_cons_zero, List.getElem?_cons_succ, List.all_cons, List.all_nil, List.replicate_succ, List.replicate_zero, List.set_cons_zero, List.set_cons_succ, eq_self, true_or, ne_eq, not_false_eq_true, Nat.reduceEqDiff, w2, w3, Env.keep]
    exact ⟨(i + 1, g', ex ++ [Ent.box X, Ent.box Y]), by simp only [k5], rfl, by simp only; omega, by simp only; omega, k6, k7⟩
  · have h7 : j ≠ g.length := by have := of_decide_eq_false h6; omega
    rw [if_neg h7] at k5
    simp only [decide_true, decide_false, gwL, gwB, gwD, gwE, gwS, gwTT, gwZ, initG, Nat.reduceEqDiff, ↓reduceIte, Nat.reduceAdd, Nat.reduceLT, Nat.reduceLeDiff, List.map_cons, List.map_nil, builtS, builtinV, pureR, binV, aggEq, eqFs, eqCell, Option.bind_some, Option.map_some, and_self, List.headD_cons, sliceV, pickV, evO, Env.look, find, V.ofConst, resV, resOne, tupV, loadV, fillV, buildV, mkIface, litM, litS, litR, litRows, List.reverse_cons, List.reverse_nil, Nat.reduceMul, appS, memA, appendV, rowsOf, V.cells, TI.sized, TI.known, TI.agg, anL, List.length_cons, List.length_nil, List.append_nil, List.cons_append, List.nil_append, List.drop_succ_cons, List.drop_zero, List.drop_nil, List.take_succ_cons, List.take_zero, List.take_nil, List.getElem?_cons_zero, List.getElem?_cons_succ, List.all_cons, List.all_nil, List.replicate_succ, List.replicate_zero, List.set_cons_zero, List.set_cons_succ, eq_self, true_or, ne_eq, not_false_eq_true, Nat.reduceEqDiff, w2, Env.keep]
    exact ⟨(i + 1, g', ex ++ [Ent.box X, Ent.box Y]), by simp only [k5], rfl, by simp only; omega, by simp only; omega, k6, k7⟩
end Go.Proofs.Ytlblgbfpdlfedaa.Gx
