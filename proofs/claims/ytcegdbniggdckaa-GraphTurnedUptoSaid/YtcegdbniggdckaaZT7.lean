/- The law GraphTurned answers true. The row of the law GraphTurned, where what comes in is not too much: it answers true, and what came in reads as it did. -/
import Derived.Test.YtcegdbniggdckaaZT6

namespace Go.Proofs.Ytcegdbniggdckaa.Gx
open Go Go.Proofs.Ytcegdbniggdckaa.Gw
set_option linter.unusedSimpArgs false
set_option linter.unusedVariables false

theorem wkRp_push {p : Nat → Prop} {c d : List V} (hc : wkLp p c d) : ∀ {x y : List (List V)}, wkRp p x y → wkRp p (x ++ [c]) (y ++ [d])
  | [], _, h => by simp only [wkRp] at h; subst h; exact wkR_cons hc (wkR_refl _)
  | a :: x, _, h => by
    simp only [wkRp] at h
    obtain ⟨b, ys, rfl, h1, h2⟩ := h
    exact wkR_cons h1 (wkRp_push hc h2)
set_option maxRecDepth 20000 in
set_option maxHeartbeats 8000000 in
theorem c_GraphTurned (l : List Node') (st : St) (hN : NOk l) : VCalls Try.prog TT 6 [lstN l] st fun r st' => r = .ret (.bool true) ∧ st' = st := by
  refine vfun TT_ok (an := anL []) (L := [0, 2, 3, 4, 5, 6, 7, 8, 9, 10, 11, 12]) (rs := [.tmp 2]) Try.func6 rfl (by kernel_rfl) rfl Try.ntmps6 rfl rfl (Nat.le_refl _) fun hst ha hf => ?_
  have hfew := hN.few
  simp only [gwL, gwB, gwD, gwE, gwS, gwTT, gwZ, gwN, gwC, Nat.reduceEqDiff, ↓reduceIte, Nat.reduceAdd, Nat.reduceLT, Nat.reduceLeDiff, Nat.reduceMul]
  refine (c_alive _).use (wkL_refl _) fun _ => ?_
  simp only [lstN]
  have w0 : IntKind.i64.wrap ((l.length : Int) - 1) = (l.length : Int) - 1 := wrap_i64 (by omega) (by omega)
  simp only [gwL, gwB, gwD, gwE, gwS, gwTT, gwZ, gwN, gwC, Nat.reduceEqDiff, ↓reduceIte, Nat.reduceAdd, Nat.reduceLT, Nat.reduceLeDiff, Nat.reduceMul, List.length_map, w0]
  refine vmore [32] [0, 2, 3, 4] [(0, true, .lst 2 none (l.map encN)), (2, true, .bool false), (3, true, .lst 2 (some st.length) []), (4, true, .int .i64 ((l.length : Int) - 1))] (st ++ [Ent.tip 32 0]) rfl ?_ ?_ ?_
  · simp only [gwL, gwB, gwD, gwE, gwS, gwTT, gwZ, gwN, gwC, Nat.reduceEqDiff, ↓reduceIte, Nat.reduceAdd, Nat.reduceLT, Nat.reduceLeDiff, Nat.reduceMul, Env.keep]
    exact wkE_cons (wk_refl _) (wkE_cons (wk_refl _) (wkE_cons (wk_tip _ (by simp [Tips])) (wkE_cons (wk_refl _) wkE_nil)))
  · exact ⟨_, wkSt_refl _, rfl⟩
  refine vfor (σ := Nat × List (List V) × St) [0, 2, 3, 4] (fun x => [(0, true, .lst 2 none (l.map encN)), (2, true, .bool false), (3, true, .lst 2 (some st.length) x.2.1), (4, true, .int .i64 ((x.1 : Int) - 1))]) (fun x => st ++ (Ent.tip 32 x.2.1.length :: x.2.2)) (fun x => x.1) (fun x => x.1 ≤ l.length ∧ wkRp NoTok x.2.1 (((turnL l).take (l.length - x.1)).map encN)) (l.length, [], []) rfl TT_ok ⟨Nat.le_refl _, by rw [Nat.sub_self]; exact wkR_refl _⟩ rfl rfl ?_
  rintro ⟨k, cr, Y⟩ ⟨hk, hcr⟩
  simp only at hk hcr ⊢
  have htl : (turnL l).length = l.length := by simp [turnL]
  have hcl := wkRp.length hcr
  rw [List.length_map, List.length_take, htl] at hcl
  cases k with
  | zero =>
    have d0 : decide ((0 : Int) ≤ ((0 : Nat) : Int) - 1) = false := rfl
    have htr : (turnL l).take (l.length - 0) = turnL l := by rw [← htl]; exact List.take_length
    rw [htr] at hcr
    simp only [gwL, gwB, gwD, gwE, gwS, gwTT, gwZ, gwN, gwC, Nat.reduceEqDiff, ↓reduceIte, Nat.reduceAdd, Nat.reduceLT, Nat.reduceLeDiff, Nat.reduceMul, d0]
    refine (c_Order l _ hN).use (wkL_refl _) fun _ => ?_
    simp only [gwL, gwB, gwD, gwE, gwS, gwTT, gwZ, gwN, gwC, Nat.reduceEqDiff, ↓reduceIte, Nat.reduceAdd, Nat.reduceLT, Nat.reduceLeDiff, Nat.reduceMul, ordV, encS]
    have hN2 : NOk (turnL l) := ⟨by rw [htl]; exact hfew, fun n hn => by
      obtain ⟨m, hm, rfl⟩ := List.mem_map.1 hn
      simp only [List.length_reverse]
      exact hN.len m (List.mem_reverse.1 hm)⟩
    refine (c_Order (turnL l) _ hN2).use (wkL_cons (wk_lst hcr) wkL_nil) fun _ => ?_
    obtain ⟨t1, t2, t3⟩ := order_turn l
    generalize orderL l = ra at *
    generalize orderL (turnL l) = rb at *
    obtain ⟨oa, na, ea⟩ := ra
    obtain ⟨ob, nb, eb⟩ := rb
    simp only at t1 t2 t3
    subst t1 t2
    have de : decide (ea = ea) = true := by simp
    simp only [gwL, gwB, gwD, gwE, gwS, gwTT, gwZ, gwN, gwC, Nat.reduceEqDiff, ↓reduceIte, Nat.reduceAdd, Nat.reduceLT, Nat.reduceLeDiff, Nat.reduceMul, ordV, encS, de]
    refine rK_made (c_same _ oa oa) (wkL_refl _) ?_
    rw [sameS_self]
    have dn : (decide (na = nb) || decide (ea = 8)) = true := by
      rcases t3 with h | h <;> simp [h]
    simp only [gwL, gwB, gwD, gwE, gwS, gwTT, gwZ, gwN, gwC, Nat.reduceEqDiff, ↓reduceIte, Nat.reduceAdd, Nat.reduceLT, Nat.reduceLeDiff, Nat.reduceMul, Bool.and_self, dn]
    exact gives_bool' rfl hst
  | succ k =>
    have e1 : (((k + 1 : Nat) : Int)) - 1 = (k : Int) := by omega
    have d0 : decide ((0 : Int) ≤ (k : Int)) = true := by simp
    obtain ⟨u, hu⟩ : ∃ u, l[k]? = some u := ⟨l[k], List.getElem?_eq_getElem (by omega)⟩
    have hg : (l.map encN).getD k [] = encN u := getD_map hu
    have hul := hN.len u (List.mem_of_getElem? hu)
    have hkl : (k : Int) < (l.length : Int) := by omega
    obtain ⟨un, us⟩ := u
    simp only at hul
    have w1 : IntKind.i64.wrap ((us.length : Int) - 1) = (us.length : Int) - 1 := wrap_i64 (by omega) (by omega)
    have w2 : IntKind.i64.wrap ((k : Int) - 1) = (k : Int) - 1 := wrap_i64 (by omega) (by omega)
    rw [e1]
    simp only [gwL, gwB, gwD, gwE, gwS, gwTT, gwZ, gwN, gwC, Nat.reduceEqDiff, ↓reduceIte, Nat.reduceAdd, Nat.reduceLT, Nat.reduceLeDiff, Nat.reduceMul, d0, hg, encN_mk, encS, List.length_map, hkl, Int.toNat_natCast, w1]
    refine vmore [9] [0, 2, 3, 4, 5, 6] [(0, true, .lst 2 none (l.map encN)), (2, true, .bool false), (3, true, .lst 2 (some st.length) cr), (4, true, .int .i64 k), (5, true, .ptr (st.length + (Y.length + 1)) 0), (6, true, .int .i64 ((us.length : Int) - 1))] ((st ++ Ent.tip 32 cr.length :: (Y ++ [Ent.box [.str un, .lst 1 (some (st.length + (Y.length + 2))) []]])) ++ [Ent.tip 9 0]) rfl ?_ ?_ ?_
    · simp only [gwL, gwB, gwD, gwE, gwS, gwTT, gwZ, gwN, gwC, Nat.reduceEqDiff, ↓reduceIte, Nat.reduceAdd, Nat.reduceLT, Nat.reduceLeDiff, Nat.reduceMul, Env.keep]
      exact wkE_refl _
    · refine ⟨_, (wkSt_refl _).append (wkSt_cons (Ent.wkp_refl _) ((wkSt_refl _).append (wkSt_cons (Ent.wk_box (wkL_cons (wk_refl _) (wkL_cons (wk_tip _ ?_) wkL_nil))) wkSt_nil))), rfl⟩
      simp [Tips]
    simp only [gwL, gwB, gwD, gwE, gwS, gwTT, gwZ, gwN, gwC, Nat.reduceEqDiff, ↓reduceIte, Nat.reduceAdd, Nat.reduceLT, Nat.reduceLeDiff, Nat.reduceMul]
    refine vfor (σ := Nat × List Str) [0, 2, 3, 4, 5, 6] (fun y => [(0, true, .lst 2 none (l.map encN)), (2, true, .bool false), (3, true, .lst 2 (some st.length) cr), (4, true, .int .i64 k), (5, true, .ptr (st.length + (Y.length + 1)) 0), (6, true, .int .i64 ((y.1 : Int) - 1))]) (fun y => st ++ (Ent.tip 32 cr.length :: (Y ++ [Ent.box [.str un, .lst 1 (some (st.length + (Y.length + 2))) (rowsS y.2)], Ent.tip 9 y.2.length]))) (fun y => y.1) (fun y => y.1 ≤ us.length ∧ y.2 = us.reverse.take (us.length - y.1)) (us.length, []) rfl TT_ok ⟨Nat.le_refl _, by simp⟩ rfl rfl ?_
    rintro ⟨j, acc⟩ ⟨hj, hacc⟩
    simp only at hj hacc ⊢
    cases j with
    | zero =>
      have d1 : decide ((0 : Int) ≤ ((0 : Nat) : Int) - 1) = false := rfl
      simp only [gwL, gwB, gwD, gwE, gwS, gwTT, gwZ, gwN, gwC, Nat.reduceEqDiff, ↓reduceIte, Nat.reduceAdd, Nat.reduceLT, Nat.reduceLeDiff, Nat.reduceMul, d1, w2, Env.keep]
      rw [Nat.sub_zero, ← List.length_reverse, List.take_length] at hacc
      refine ⟨by omega, (k, cr ++ [[V.str un, V.lst 1 (some (st.length + (Y.length + 2))) (rowsS acc)]], _), rfl, by simp only [List.length_append, List.length_cons, List.length_nil, Nat.zero_add]; rfl, by simp only; omega, by simp only; omega, ?_⟩
      have hix : (turnL l)[l.length - (k + 1)]? = some ⟨un, us.reverse⟩ := by
        simp only [turnL, List.getElem?_map]
        rw [List.getElem?_reverse (by omega), show l.length - 1 - (l.length - (k + 1)) = k by omega, hu]; rfl
      have htk : (turnL l).take (l.length - k) = (turnL l).take (l.length - (k + 1)) ++ [⟨un, us.reverse⟩] := by
        rw [show l.length - k = (l.length - (k + 1)) + 1 by omega, List.take_add_one, hix]; rfl
      simp only [htk, List.map_append, List.map_cons, List.map_nil]
      refine wkRp_push ?_ hcr
      rw [encN_mk, hacc]
      exact wkL_cons (wk_refl _) (wkL_cons (wk_tok ..) wkL_nil)
    | succ j =>
      have e2 : (((j + 1 : Nat) : Int)) - 1 = (j : Int) := by omega
      have d1 : decide ((0 : Int) ≤ (j : Int)) = true := by simp
      have w3 : IntKind.i64.wrap ((j : Int) - 1) = (j : Int) - 1 := wrap_i64 (by omega) (by omega)
      obtain ⟨m, hm⟩ : ∃ m, us[j]? = some m := ⟨us[j], List.getElem?_eq_getElem (by omega)⟩
      have hjl : (j : Int) < (us.length : Int) := by omega
      rw [e2]
      simp only [gwL, gwB, gwD, gwE, gwS, gwTT, gwZ, gwN, gwC, Nat.reduceEqDiff, ↓reduceIte, Nat.reduceAdd, Nat.reduceLT, Nat.reduceLeDiff, Nat.reduceMul, d1]
      refine vdraw TT_ok TT_mixed [0, 1, 0, 0, 0, 0, 0, 0, 0, 1, 1, 2, 0, 2] (by kernel_rfl) ?_
      simp only [gwL, gwB, gwD, gwE, gwS, gwTT, gwZ, gwN, gwC, Nat.reduceEqDiff, ↓reduceIte, Nat.reduceAdd, Nat.reduceLT, Nat.reduceLeDiff, Nat.reduceMul, hg, encN_mk, encS, List.length_map, hkl, hjl, Int.toNat_natCast, getD_map hm, rowsS_len, w3, Env.keep]
      have hrs : rowsS acc ++ [[V.str m]] = rowsS (acc ++ [m]) := by simp [rowsS]
      have hln : (acc ++ [m]).length = acc.length + 1 := by simp
      have hal : acc.length ≤ us.length := by rw [hacc, List.length_take, List.length_reverse]; omega
      refine ⟨by omega, (j, acc ++ [m]), rfl, by simp only [hrs, hln], by simp only; omega, by simp only; omega, ?_⟩
      simp only
      have hix : us.reverse[us.length - (j + 1)]? = some m := by
        rw [List.getElem?_reverse (by omega), show us.length - 1 - (us.length - (j + 1)) = j by omega, hm]
      rw [hacc, show us.length - j = (us.length - (j + 1)) + 1 by omega, List.take_add_one, hix]; rfl
end Go.Proofs.Ytcegdbniggdckaa.Gx

namespace Go.Proofs.Ytcegdbniggdckaa.Gx
open Go Go.Proofs.Ytcegdbniggdckaa.Gw
set_option linter.unusedSimpArgs false
set_option linter.unusedVariables false
open Go.ChangeShapes Go.WideShapes Go.ChangeAt Go.RowKit
set_option maxRecDepth 100000 in
theorem lifted (os : Os) (started : os.Started) (H : Type) (enc : TypeId × Value → H) (F : Stop.Interp) :
    ReturnsInHanded {} Try.checked os 6 .any ((Rows.OpenSpec.upto Rows.graphTurnedSpec).pre6 enc Try.prog Try.f6 Rows.graphTurnedUptoRow.domain false) (((Rows.OpenSpec.upto Rows.graphTurnedSpec).at F).post enc Try.prog Try.f6 false true false false) := by
  refine returnsInHanded_of_cond (C := Try.checked) (s := Rows.OpenSpec.upto Rows.graphTurnedSpec) (k := Rows.uptoSmall) rfl own started (by kernel_rfl) Try.func6
    (OpenSpec.witness (enc := enc) (C := Try.checked) (s := Rows.OpenSpec.upto Rows.graphTurnedSpec) (k := Rows.uptoSmall) rfl false ⟨#[], #[.slice none 0 0], []⟩ 8 (by kernel_rfl) (by kernel_rfl) (by kernel_rfl)
      (x := ([.nil], [], [])) (by kernel_rfl) rfl (by kernel_rfl)) ?_
  intro W base args ds gs before hval0 hW _ hk _
  have hval : ∀ (j : Nat) t v, Try.f6.params[j]? = some t → args[j]? = some v → Value.okWide Try.prog W .any base t v := hval0
  have hW' := hW
  obtain ⟨p, q, hA0, hV, rfl, hfz, hnd⟩ := hW
  have hA : DataW.TrodAll enc Try.prog W 0 (fun _ => true) true Try.f6.params.toList args.toList ds p := hA0
  rw [Try.params6] at hA hval
  obtain ⟨v0, vs0, d0, ds0, p0, q0, hargs0, rfl, rfl, h0, r0⟩ := trodAll_cons hA
  obtain ⟨rfl, rfl, rfl⟩ := trodAll_nil r0
  obtain rfl : args = #[v0] := by cases args; simp_all
  obtain ⟨rfl, rfl⟩ := trodVars_none hV
  have w0 := hval 0 22 v0 rfl rfl
  have k0 := h0
  have lt0 : ∀ x ∈ p0, x.block < W.heap.size := by obtain ⟨m, hm⟩ := k0; exact DataW.trod_lt m _ _ _ hm
  obtain ⟨m0, hm0⟩ := h0
  rw [okWide_slice Try.underlying22 w0] at hm0
  have hk2 : Rows.uptoBulkAll ([d0] ++ []) ≤ 1048576 := of_decide_eq_true hk
  simp only [List.append_nil, Rows.uptoBulkAll] at hk2
  obtain ⟨l, x0, e0, s0, o0, hNOk⟩ := dec_LNodeB hm0 (by simp only; omega)
  simp only [List.cons.injEq, and_true] at e0
  subst e0
  clear hA0 hval0
  refine ((c_GraphTurned l [] hNOk).2 g00 W [v0] (sim00 _ W) ⟨_, _, rfl, s0, rfl⟩).mono fun e W' ⟨r, st', g', ⟨h1, h2⟩, hend, _, hext⟩ => ?_
  subst h1
  obtain ⟨val, rfl, hb⟩ := hend
  simp only [SimV] at hb
  subst hb
  have bel := below_of hext
  exact ⟨_, rfl, _, _, _, [], _, [], hW', trodAll_mk1 (shut_bool Try.underlying4 _), (trodAll_cons_mk (Below.trod laidOut (by kernel_rfl) (of_decide_eq_true (by kernel_rfl)) k0 bel lt0) trodAll_mk0), rfl, bel.frame _, fun h => by cases h⟩
theorem over : Rows.graphTurnedUptoRow.holds Try.pinned (Rows.OpenSpec.upto Rows.graphTurnedSpec) :=
  OpenClaim.holds_of_cond 6 Try.f6 rfl rfl rfl rfl rfl rfl rfl ⟨rfl, rfl, rfl, rfl, rfl⟩ rfl rfl rfl rfl rfl (by kernel_rfl) Try.func6 (by kernel_rfl)
    (of_decide_eq_true (by kernel_rfl)) (by unfold Func.isWrapper; first | (rw [if_pos (by decide +kernel)]; kernel_rfl) | (rw [if_neg (by decide +kernel)]; exact ⟨rfl, rfl⟩))
    (fun os started H enc _ F => lifted os started H enc F)
end Go.Proofs.Ytcegdbniggdckaa.Gx
namespace Go.Proofs.Ytcegdbniggdckaa
/-- The row, under a short name, for the claim. -/
theorem graphTurned_holds : Rows.GraphTurnedUptoSaid := Gx.over
#print axioms graphTurned_holds
end Go.Proofs.Ytcegdbniggdckaa
