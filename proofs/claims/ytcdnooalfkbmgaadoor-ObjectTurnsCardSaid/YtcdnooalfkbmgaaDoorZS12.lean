/- Reading a unit, walked. Contracts of the document's answer: what is wrong with what an instruction has. A unit with what its instructions have alone: the document's, walked. The laws of units as bytes: what they ask, walked. What is read is what is written of it. What is written is read. -/
import Derived.Test.YtcdnooalfkbmgaaDoorZS11

namespace Go.Proofs.YtcdnooalfkbmgaaDoor.Gx
open Go Go.Proofs.YtcdnooalfkbmgaaDoor.Gw
set_option linter.unusedSimpArgs false
set_option linter.unusedVariables false

theorem set_1 (st : St) (a x y : Ent) (ex : List Ent) : (st ++ a :: x :: ex).set (st.length + 1) y = st ++ a :: y :: ex := by
  rw [List.set_append_right _ _ (by omega)]; simp
theorem at_1 (st : St) (a x : Ent) (ex : List Ent) : (st ++ a :: x :: ex)[st.length + 1]? = some x := by simp
theorem y_rnum (st : St) (a : Ent) (s : RS) (ex : List Ent) : VCalls Tryd.prog TT 20 [.ptr (st.length + 1) 0] (st ++ a :: rdrE s :: ex) fun q st' => q = .ret (.int .i64 (rNum s).1) ∧ st' = st ++ a :: rdrE (rNum s).2 :: ex := by
  have h := c_rnum s (st ++ a :: rdrE s :: ex) (st.length + 1) (at_1 ..)
  rw [set_1] at h; exact h
theorem y_rfew (st : St) (a : Ent) (s : RS) (ex : List Ent) : VCalls Tryd.prog TT 19 [.ptr (st.length + 1) 0] (st ++ a :: rdrE s :: ex) fun q st' => q = .ret (.int .i64 ((rFew s).1 : Nat)) ∧ st' = st ++ a :: rdrE (rFew s).2 :: ex := by
  have h := c_rfew s (st ++ a :: rdrE s :: ex) (st.length + 1) (at_1 ..)
  rw [set_1] at h; exact h
theorem y_rstr (st : St) (a : Ent) (s : RS) (ex : List Ent) : VCalls Tryd.prog TT 18 [.ptr (st.length + 1) 0] (st ++ a :: rdrE s :: ex) fun q st' => q = .ret (.str (rStr s).1) ∧ st' = st ++ a :: rdrE (rStr s).2 :: ex := by
  have h := c_rstr s (st ++ a :: rdrE s :: ex) (st.length + 1) (at_1 ..)
  rw [set_1] at h; exact h
theorem y_rins (st : St) (a : Ent) (s : RS) (ex : List Ent) : VCalls Tryd.prog TT 21 [.ptr (st.length + 1) 0] (st ++ a :: rdrE s :: ex) fun q st' => q = .ret (.agg (encI (rIns s).1)) ∧ st' = st ++ a :: rdrE (rIns s).2 :: ex := by
  have h := c_rins s (st ++ a :: rdrE s :: ex) (st.length + 1) (at_1 ..)
  rw [set_1] at h; exact h
theorem bytesOf_rows : ∀ s : Str, bytesOf (byteRows s) = some s
  | [] => rfl
  | c :: r => by
    have h := bytesOf_rows r
    simp only [byteRows] at h
    simp only [byteRows, List.map_cons, bytesOf, h, Option.map_some, Int.toNat_natCast, UInt8.ofNat_toNat]
def unitR (x : Unit' × Int) : V := .tup [.agg (encU x.1), .int .i64 x.2]
theorem encU_lt (n : Nat) (u : Unit') : ltL n (encU u) := by simp only [encU, ltL]; exact ⟨trivial, lstPr_lt _ _, trivial⟩
theorem rProtos_step (k : Nat) (acc : List Pr) (r : Str) : rProtos (k + 1) acc (r, false) = rProtos k (acc ++ [(rProto (r, false)).1]) (rProto (r, false)).2 := rfl
theorem rCode_step (k : Nat) (acc : List Ins) (r : Str) : rCode (k + 1) acc (r, false) = rCode k (acc ++ [(rIns (r, false)).1]) (rIns (r, false)).2 := rfl

theorem wkR_snoc8 {α : Type} {f : α → List V} {p : Nat → Prop} {l : List V} {a : α} (h : wkLp p l (f a)) : ∀ m : List α, wkRp p (m.map f ++ [l]) ((m ++ [a]).map f)
  | [] => by simp only [List.map_nil, List.nil_append, List.map_cons, wkRp]; exact ⟨_, _, rfl, h, rfl⟩
  | x :: m => by simp only [List.map_cons, List.cons_append, wkRp]; exact ⟨_, _, rfl, wkL_refl _, wkR_snoc8 h m⟩
theorem byteRows_lt8 (n : Nat) : ∀ s : Str, ltRows n (byteRows s)
  | [] => trivial
  | c :: r => ⟨⟨trivial, trivial⟩, byteRows_lt8 n r⟩
theorem encPr_lt (n : Nat) (p : Pr) : ltL n (encPr p) := by simp only [encPr, ltL]; exact ⟨trivial, lstI_lt _ _, trivial⟩
theorem rowsPr_ok (n o : Nat) (nm : Str) (l : List Pr) (h : o < n) : ltL n [.str nm, .lst 2 (some o) (l.map encPr)] := by
  simp only [ltL, V.lt, and_true, true_and]
  exact ⟨fun e he => by cases he; exact h, ltRows_map fun x _ => encPr_lt _ _⟩
theorem rowsIn_ok (n o : Nat) (a : Int) (l : List Ins) (h : o < n) : ltL n [.int .i64 a, .lst 11 (some o) (l.map encI)] := by
  simp only [ltL, V.lt, and_true, true_and]
  exact ⟨fun e he => by cases he; exact h, ltRows_map fun x _ => encI_lt _ _⟩
theorem rQuote_le (s : RS) : (rQuote s).2.1.length ≤ s.1.length := by
  have := rStr_le s
  unfold rQuote
  cases quoteOk (rStr s).1 with
  | some d => exact this.1
  | none => exact this.1
theorem bif_le {c : Bool} {a b : Ins × RS} {n : Nat} (h1 : a.2.1.length ≤ n) (h2 : b.2.1.length ≤ n) : (bif c then a else b).2.1.length ≤ n := by cases c <;> assumption
theorem rIns_le (s : RS) : (rIns s).2.1.length ≤ s.1.length := by
  have h1 := rNum_le s
  have h2 := rNum_le (rNum s).2
  have h3 := rQuote_le (rNum s).2
  have h4 := (rStr_le (rNum s).2).1
  have h5 := (rStr_le (rStr (rNum s).2).2).1
  unfold rIns
  refine bif_le h1 (bif_le (by simp only; omega) (bif_le (by simp only; omega) (bif_le (by simp only; omega) (bif_le (by simp only; omega) (bif_le (by simp only; omega) (by simp only; omega))))))
theorem rFew_rng (s : RS) : (rFew s).1 ≤ 9223372036854775807 := by
  have := numR_range s.1
  have h2 : (rNum s).1 = (numR s.1).1 := rfl
  unfold rFew
  cases decide ((rNum s).1 < 0) || decide (((rNum s).2.1.length : Int) < (rNum s).1) with
  | true => exact Nat.zero_le _
  | false => simp only [cond_false]; omega

theorem rProtos_stop {k : Nat} {v : Bool} (h : (decide (0 < (k : Int)) && !v) = false) (acc : List Pr) (r : Str) : rProtos k acc (r, v) = (acc, (r, v)) := by
  cases k with
  | zero => rfl
  | succ k =>
    have : decide (0 < ((k + 1 : Nat) : Int)) = true := decide_eq_true (by omega)
    rw [this] at h
    simp only [Bool.true_and, Bool.not_eq_false'] at h
    subst h; rfl
theorem rCode_stop {k : Nat} {v : Bool} (h : (decide (0 < (k : Int)) && !v) = false) (acc : List Ins) (r : Str) : rCode k acc (r, v) = (acc, (r, v)) := by
  cases k with
  | zero => rfl
  | succ k =>
    have : decide (0 < ((k + 1 : Nat) : Int)) = true := decide_eq_true (by omega)
    rw [this] at h
    simp only [Bool.true_and, Bool.not_eq_false'] at h
    subst h; rfl

set_option maxHeartbeats 4000000 in
theorem c_Parse (s : Str) (st : St) : VCalls Tryd.prog TT 7 [lstY s] st fun q st' => q = .ret (unitR (rUnit s)) ∧ st' = st := by
  refine vfun TT_ok (an := anL []) (L := [0, 2, 3, 4, 5, 6, 7, 8, 9]) (rs := [.cell 2 24, .tmp 3]) Tryd.func7 rfl (by kernel_rfl) rfl Tryd.ntmps7 rfl rfl (Nat.le_refl _) fun hst ha hf => ?_
  have hsl : s.length ≤ 9223372036854775807 := by
    have h := hf
    simp only [lstY, fitL, V.fit, byteRows, List.length_map] at h
    omega
  simp only [lstY]
  have bad : ∀ (e : Int) (ex : List Ent), Gives (unitR (noU, e)) st (.ret (.tup [.agg [.str [], .nils], .int .i64 e])) (st ++ ex) := fun e ex =>
    gives_of (wk_tup (wkL_cons (wk_agg (wkL_cons (wk_refl _) (wkL_cons (wk_nils _) wkL_nil))) (wkL_cons (wk_refl _) wkL_nil))) (wkSt_refl _) (by simp only [unitR, V.lt, ltL]; exact ⟨encU_lt _ _, trivial, trivial⟩) hst
  have hlr : (byteRows s).length = s.length := by simp [byteRows]
  simp only [gwL, gwB, gwD, gwE, gwS, gwTT, gwZ, gwN, gwC, Nat.reduceEqDiff, ↓reduceIte, Nat.reduceAdd, Nat.reduceLT, Nat.reduceLeDiff, Nat.reduceMul, hlr]
  unfold rUnit
  refine iK_split (fun h => ?_) (fun h => ?_)
  · rw [h]
    simp only [gwL, gwB, gwD, gwE, gwS, gwTT, gwZ, gwN, gwC, Nat.reduceEqDiff, ↓reduceIte, Nat.reduceAdd, Nat.reduceLT, Nat.reduceLeDiff, Nat.reduceMul]
    exact bad 4 _
  rw [h]
  simp only [cond_false]
  simp only [gwL, gwB, gwD, gwE, gwS, gwTT, gwZ, gwN, gwC, Nat.reduceEqDiff, ↓reduceIte, Nat.reduceAdd, Nat.reduceLT, Nat.reduceLeDiff, Nat.reduceMul, convV, bytesOf_rows]
  refine (y_rstr st _ (s, false) []).use (wkL_refl _) fun _ => ?_
  unfold rBody
  have hs6 : s.length ≤ 60000 := by rw [decide_eq_false_iff_not] at h; omega
  have hl0 := (rStr_le (s, false)).1
  simp only at hl0
  generalize rStr (s, false) = x at hl0
  obtain ⟨nm, r0⟩ := x
  simp only [gwL, gwB, gwD, gwE, gwS, gwTT, gwZ, gwN, gwC, Nat.reduceEqDiff, ↓reduceIte, Nat.reduceAdd, Nat.reduceLT, Nat.reduceLeDiff, Nat.reduceMul]
  refine (y_rfew st _ r0 [_]).use (wkL_refl _) fun _ => ?_
  have hk0 := rFew_le r0
  simp only at hl0
  generalize rFew r0 = x at hk0
  obtain ⟨k0, r0⟩ := x
  simp only at hk0 ⊢
  simp only [gwL, gwB, gwD, gwE, gwS, gwTT, gwZ, gwN, gwC, Nat.reduceEqDiff, ↓reduceIte, Nat.reduceAdd, Nat.reduceLT, Nat.reduceLeDiff, Nat.reduceMul]
  refine vforT (σ := Nat × List Pr × RS) [48] [0, 2, 3, 4, 5, 6] (fun x => [(0, true, .lst 1 none (byteRows s)), (2, true, .ptr st.length 0), (3, true, .int .i64 0), (4, true, .ptr (st.length + 1) 0), (5, true, .ptr (st.length + 2) 0), (6, true, .int .i64 x.1)]) (fun x => st ++ [.box [.str [], .nils], rdrE x.2.2, .box [.str nm, .lst 2 (some (st.length + 3)) (x.2.1.map encPr)], .tip 48 x.2.1.length]) (fun x => x.1) (fun x => x.2.1.length + x.1 = k0 ∧ x.2.2.1.length ≤ 60000 ∧ rProtos k0 [] r0 = rProtos x.1 x.2.1 x.2.2) (k0, [], r0) rfl TT_ok ⟨by simp, by simp only; omega, rfl⟩ ?_ ?_ ?_
  · exact wkE_refl _
  · refine ⟨st ++ [.box [.str [], .nils], rdrE r0, .box [.str nm, .lst 2 (some (st.length + 3)) []]], ?_, by simp only [gwL, tips, List.map_cons, List.map_nil, List.length_nil]⟩
    refine (wkSt_refl _).append (wkSt_cons (Ent.wkp_refl _) (wkSt_cons (Ent.wkp_refl _) (wkSt_cons (Ent.wk_box ?_) wkSt_nil)))
    exact wkL_cons (wk_refl _) (wkL_cons (wk_tip _ (by simp [Tips])) wkL_nil)
  rintro ⟨k, acc, r⟩ ⟨hacc, hl1, hI⟩
  simp only at hacc hl1 hI ⊢
  rw [hI]
  obtain ⟨r, v⟩ := r
  simp only [gwL, gwB, gwD, gwE, gwS, gwTT, gwZ, gwN, gwC, Nat.reduceEqDiff, ↓reduceIte, Nat.reduceAdd, Nat.reduceLT, Nat.reduceLeDiff, Nat.reduceMul, gwD3, gwDT, pureR_none, ite_self, nilR, nilB, bitF, bitV, nilC, nilCmp, eqb, assertV, assertW, zeroV, wQ_normal, wQ_ret, wQ_panic, pickO, pickC, List.map_cons, List.map_nil, List.getD_cons_zero, List.getD_cons_succ, Env.keep, beq_self_eq_true, cond_true, cond_false, rdrE, at_1]
  refine iK_split (fun h2 => ?_) (fun h2 => ?_)
  · simp only [Bool.and_eq_true, decide_eq_true_eq, Bool.not_eq_true'] at h2
    obtain ⟨h2, rfl⟩ := h2
    obtain ⟨k, rfl⟩ : ∃ j, k = j + 1 := ⟨k - 1, by omega⟩
    rw [rProtos_step]
    simp only [rProto]
    simp only [gwL, gwB, gwD, gwE, gwS, gwTT, gwZ, gwN, gwC, Nat.reduceEqDiff, ↓reduceIte, Nat.reduceAdd, Nat.reduceLT, Nat.reduceLeDiff, Nat.reduceMul]
    refine (y_rnum st _ (r, false) [_, _]).use (wkL_refl _) fun _ => ?_
    have hl2 := rNum_le (r, false)
    obtain ⟨⟨ar, r1⟩, hx⟩ : ∃ x, rNum (r, false) = x := ⟨_, rfl⟩
    simp only [hx] at hl1 hl2 ⊢
    simp only [gwL, gwB, gwD, gwE, gwS, gwTT, gwZ, gwN, gwC, Nat.reduceEqDiff, ↓reduceIte, Nat.reduceAdd, Nat.reduceLT, Nat.reduceLeDiff, Nat.reduceMul]
    refine (y_rfew st _ r1 [_, _, _]).use (wkL_refl _) fun _ => ?_
    have hj0 := rFew_le r1
    obtain ⟨⟨j0, r2⟩, hx2⟩ : ∃ x, rFew r1 = x := ⟨_, rfl⟩
    simp only [hx2] at hj0 ⊢
    simp only [gwL, gwB, gwD, gwE, gwS, gwTT, gwZ, gwN, gwC, Nat.reduceEqDiff, ↓reduceIte, Nat.reduceAdd, Nat.reduceLT, Nat.reduceLeDiff, Nat.reduceMul]
    refine vforT (σ := Nat × List Ins × RS) [55] [0, 2, 3, 4, 5, 6, 7, 8] (fun x => [(0, true, .lst 1 none (byteRows s)), (2, true, .ptr st.length 0), (3, true, .int .i64 0), (4, true, .ptr (st.length + 1) 0), (5, true, .ptr (st.length + 2) 0), (6, true, .int .i64 ((k + 1 : Nat) : Int)), (7, true, .ptr (st.length + 4) 0), (8, true, .int .i64 x.1)]) (fun x => st ++ [.box [.str [], .nils], rdrE x.2.2, .box [.str nm, .lst 2 (some (st.length + 3)) (acc.map encPr)], .tip 48 acc.length, .box [.int .i64 ar, .lst 11 (some (st.length + 5)) (x.2.1.map encI)], .tip 55 x.2.1.length]) (fun x => x.1) (fun x => x.2.1.length + x.1 = j0 ∧ x.2.2.1.length ≤ 60000 ∧ rCode j0 [] r2 = rCode x.1 x.2.1 x.2.2) (j0, [], r2) rfl TT_ok ⟨by simp, by simp only; omega, rfl⟩ ?_ ?_ ?_
    · exact wkE_refl _
    · refine ⟨st ++ [.box [.str [], .nils], rdrE r2, .box [.str nm, .lst 2 (some (st.length + 3)) (acc.map encPr)], .tip 48 acc.length, .box [.int .i64 ar, .lst 11 (some (st.length + 5)) []]], ?_, by simp only [gwL, tips, List.map_cons, List.map_nil, List.length_nil]⟩
      refine (wkSt_refl _).append (wkSt_cons (Ent.wkp_refl _) (wkSt_cons (Ent.wkp_refl _) (wkSt_cons (Ent.wkp_refl _) (wkSt_cons (Ent.wkp_refl _) (wkSt_cons (Ent.wk_box ?_) wkSt_nil)))))
      exact wkL_cons (wk_refl _) (wkL_cons (wk_tip _ (by simp [Tips])) wkL_nil)
    rintro ⟨j, cac, r3⟩ ⟨hcac, hl3, hJ⟩
    simp only at hcac hl3 hJ ⊢
    rw [hJ]
    obtain ⟨r3, v3⟩ := r3
    simp only [gwL, gwB, gwD, gwE, gwS, gwTT, gwZ, gwN, gwC, Nat.reduceEqDiff, ↓reduceIte, Nat.reduceAdd, Nat.reduceLT, Nat.reduceLeDiff, Nat.reduceMul, gwD3, gwDT, pureR_none, ite_self, nilR, nilB, bitF, bitV, nilC, nilCmp, eqb, assertV, assertW, zeroV, wQ_normal, wQ_ret, wQ_panic, pickO, pickC, List.map_cons, List.map_nil, List.getD_cons_zero, List.getD_cons_succ, Env.keep, beq_self_eq_true, cond_true, cond_false, rdrE, at_1]
    refine iK_split (fun h3 => ?_) (fun h3 => ?_)
    · simp only [Bool.and_eq_true, decide_eq_true_eq, Bool.not_eq_true'] at h3
      obtain ⟨h3, rfl⟩ := h3
      obtain ⟨j, rfl⟩ : ∃ i, j = i + 1 := ⟨j - 1, by omega⟩
      rw [rCode_step]
      have hc := y_rins st (.box [.str [], .nils]) (r3, false) [.box [.str nm, .lst 2 (some (st.length + 3)) (acc.map encPr)], .tip 48 acc.length, .box [.int .i64 ar, .lst 11 (some (st.length + 5)) (cac.map encI)], .tip 55 cac.length]
      obtain ⟨⟨x, r4⟩, hx4⟩ : ∃ x, rIns (r3, false) = x := ⟨_, rfl⟩
      have hl4 := rIns_le (r3, false)
      rw [hx4] at hc hl4 ⊢
      simp only at hc hl3 hl4 ⊢
      simp only [gwL, gwB, gwD, gwE, gwS, gwTT, gwZ, gwN, gwC, Nat.reduceEqDiff, ↓reduceIte, Nat.reduceAdd, Nat.reduceLT, Nat.reduceLeDiff, Nat.reduceMul]
      refine vstageT TT_ok TT_mixed (σ := Unit) [st ++ [.box [.str [], .nils], rdrE (r3, false), .box [.str nm, .lst 2 (some (st.length + 3)) (acc.map encPr)], .tip 48 acc.length, .box [.int .i64 ar, .lst 11 (some (st.length + 5)) (cac.map encI)], .tip 55 cac.length], st ++ [.box [.str [], .nils], rdrE r4, .box [.str nm, .lst 2 (some (st.length + 3)) (acc.map encPr)], .tip 48 acc.length, .box [.int .i64 ar, .lst 11 (some (st.length + 5)) (cac.map encI)], .tip 55 cac.length]] [0, 3, 0, 4, 0, 2, 0, 2] [0, 1, 2, 3, 4, 5, 6, 7] [] [] [0, 2, 3, 4, 5, 6, 7, 8] (fun _x => [(0, true, .lst 1 none (byteRows s)), (2, true, .ptr st.length 0), (3, true, .int .i64 0), (4, true, .ptr (st.length + 1) 0), (5, true, .ptr (st.length + 2) 0), (6, true, .int .i64 ((k + 1 : Nat) : Int)), (7, true, .ptr (st.length + 4) 0), (8, true, .int .i64 ((j + 1 : Nat) : Int))]) (fun _x => st ++ [.box [.str [], .nils], rdrE r4, .box [.str nm, .lst 2 (some (st.length + 3)) (acc.map encPr)], .tip 48 acc.length, .box [.int .i64 ar, .lst 11 (some (st.length + 5)) (cac.map encI ++ [encI x])], .tip 55 (cac.length + 1)]) (fun _x => True) rfl (by kernel_rfl) ?_ ?_
      · simp only [gwL, gwB, gwD, gwE, gwS, gwTT, gwZ, gwN, gwC, Nat.reduceEqDiff, ↓reduceIte, Nat.reduceAdd, Nat.reduceLT, Nat.reduceLeDiff, Nat.reduceMul, gwD3, gwDT, pureR_none, ite_self, nilR, nilB, bitF, bitV, nilC, nilCmp, eqb, assertV, assertW, zeroV, wQ_normal, wQ_ret, wQ_panic, pickO, pickC, List.map_cons, List.map_nil, List.getD_cons_zero, List.getD_cons_succ, Env.keep, beq_self_eq_true, cond_true, cond_false, rdrE]
        refine eK3_loud hc (wkL_refl _) (by simp [rdrE]) (by simp [rdrE]) ?_
        simp only [gwL, gwB, gwD, gwE, gwS, gwTT, gwZ, gwN, gwC, Nat.reduceEqDiff, ↓reduceIte, Nat.reduceAdd, Nat.reduceLT, Nat.reduceLeDiff, Nat.reduceMul, gwD3, gwDT, pureR_none, ite_self, nilR, nilB, bitF, bitV, nilC, nilCmp, eqb, assertV, assertW, zeroV, wQ_normal, wQ_ret, wQ_panic, pickO, pickC, List.map_cons, List.map_nil, List.getD_cons_zero, List.getD_cons_succ, Env.keep, beq_self_eq_true, cond_true, cond_false, rdrE, encI_take, encI_len, List.length_map, Nat.le_refl]
        exact ⟨by omega, rfl, rfl, (), rfl, rfl, trivial⟩
      · rintro - -
        have e1 : IntKind.i64.wrap (((j + 1 : Nat) : Int) - 1) = (j : Int) := by rw [wrap_i64 (by omega) (by omega)]; omega
        simp only [gwL, gwB, gwD, gwE, gwS, gwTT, gwZ, gwN, gwC, Nat.reduceEqDiff, ↓reduceIte, Nat.reduceAdd, Nat.reduceLT, Nat.reduceLeDiff, Nat.reduceMul, Env.keep, e1]
        refine ⟨(j, cac ++ [x], r4), ⟨wkE_refl _, st ++ [.box [.str [], .nils], rdrE r4, .box [.str nm, .lst 2 (some (st.length + 3)) (acc.map encPr)], .tip 48 acc.length, .box [.int .i64 ar, .lst 11 (some (st.length + 5)) ((cac ++ [x]).map encI)], .tip 55 (cac ++ [x]).length], [], by simp, wkSt_refl _, ?_, ?_, by simp⟩, by dsimp only; omega, by simp; omega, by dsimp only; omega, rfl⟩
        · simp only [ltE, V.lt, gwL]
          exact ⟨⟨fun e h => (by cases h), byteRows_lt8 _ _⟩, by omega, trivial, by omega, by omega, trivial, by omega, trivial, trivial⟩
        · exact ok_app hst ⟨by simp [Ent.lt, ltL, V.lt], by simp [Ent.lt, ltL, V.lt], rowsPr_ok _ _ _ _ (by simp), trivial, rowsIn_ok _ _ _ _ (by simp), trivial, trivial⟩
    · rw [rCode_stop h3]
      have e1 : IntKind.i64.wrap (((k + 1 : Nat) : Int) - 1) = (k : Int) := by rw [wrap_i64 (by omega) (by omega)]; omega
      simp only [gwL, gwB, gwD, gwE, gwS, gwTT, gwZ, gwN, gwC, Nat.reduceEqDiff, ↓reduceIte, Nat.reduceAdd, Nat.reduceLT, Nat.reduceLeDiff, Nat.reduceMul, gwD3, gwDT, pureR_none, ite_self, nilR, nilB, bitF, bitV, nilC, nilCmp, eqb, assertV, assertW, zeroV, wQ_normal, wQ_ret, wQ_panic, pickO, pickC, List.map_cons, List.map_nil, List.getD_cons_zero, List.getD_cons_succ, Env.keep, beq_self_eq_true, cond_true, cond_false, rdrE, at_1, Env.keep, e1, List.length_map]
      refine ⟨by omega, (k, acc ++ [⟨ar, cac⟩], (r3, v3)), ⟨wkE_refl _, st ++ [.box [.str [], .nils], rdrE (r3, v3), .box [.str nm, .lst 2 (some (st.length + 3)) (acc.map encPr ++ [[.int .i64 ar, .lst 11 (some (st.length + 5)) (cac.map encI)]])], .tip 48 (acc.length + 1)], [.box [.int .i64 ar, .lst 11 (some (st.length + 5)) (cac.map encI)], .tip 55 cac.length], by simp [rdrE], ?_, ?_, ?_, by simp⟩, by dsimp only; omega, by simp; omega, by dsimp only; omega, rfl⟩
      · simp only [rdrE, List.length_append, List.length_cons, List.length_nil]
        refine (wkSt_refl _).append (wkSt_cons (Ent.wkp_refl _) (wkSt_cons (Ent.wkp_refl _) (wkSt_cons (Ent.wk_box ?_) (wkSt_cons (Ent.wkp_refl _) wkSt_nil))))
        exact wkL_cons (wk_refl _) (wkL_cons (wk_lst_same (wkR_snoc8 (f := encPr) (a := ⟨ar, cac⟩) (wkL_cons (wk_refl _) (wkL_cons (wk_tok _ _ _) wkL_nil)) acc)) wkL_nil)
      · simp only [ltE, V.lt, gwL]
        exact ⟨⟨fun e h => (by cases h), byteRows_lt8 _ _⟩, by omega, trivial, by omega, by omega, trivial, trivial⟩
      · exact ok_app hst ⟨by simp [Ent.lt, ltL, V.lt], by simp [Ent.lt, ltL, V.lt], rowsPr_ok _ _ _ _ (by simp), trivial, trivial⟩
  · rw [rProtos_stop h2]
    have hb1 : decide (r = []) = r.isEmpty := by cases r <;> rfl
    simp only [gwL, gwB, gwD, gwE, gwS, gwTT, gwZ, gwN, gwC, Nat.reduceEqDiff, ↓reduceIte, Nat.reduceAdd, Nat.reduceLT, Nat.reduceLeDiff, Nat.reduceMul, gwD3, gwDT, pureR_none, ite_self, nilR, nilB, bitF, bitV, nilC, nilCmp, eqb, assertV, assertW, zeroV, wQ_normal, wQ_ret, wQ_panic, pickO, pickC, List.map_cons, List.map_nil, List.getD_cons_zero, List.getD_cons_succ, Env.keep, beq_self_eq_true, cond_true, cond_false, rdrE, at_1, hb1]
    refine iK_split (fun h3 => ?_) (fun h3 => ?_)
    · rw [h3]
      simp only [gwL, gwB, gwD, gwE, gwS, gwTT, gwZ, gwN, gwC, Nat.reduceEqDiff, ↓reduceIte, Nat.reduceAdd, Nat.reduceLT, Nat.reduceLeDiff, Nat.reduceMul, gwD3, gwDT, pureR_none, ite_self, nilR, nilB, bitF, bitV, nilC, nilCmp, eqb, assertV, assertW, zeroV, wQ_normal, wQ_ret, wQ_panic, pickO, pickC, List.map_cons, List.map_nil, List.getD_cons_zero, List.getD_cons_succ, Env.keep, beq_self_eq_true, cond_true, cond_false, rdrE, at_1]
      exact bad 2 _
    · rw [h3]
      simp only [gwL, gwB, gwD, gwE, gwS, gwTT, gwZ, gwN, gwC, Nat.reduceEqDiff, ↓reduceIte, Nat.reduceAdd, Nat.reduceLT, Nat.reduceLeDiff, Nat.reduceMul, gwD3, gwDT, pureR_none, ite_self, nilR, nilB, bitF, bitV, nilC, nilCmp, eqb, assertV, assertW, zeroV, wQ_normal, wQ_ret, wQ_panic, pickO, pickC, List.map_cons, List.map_nil, List.getD_cons_zero, List.getD_cons_succ, Env.keep, beq_self_eq_true, cond_true, cond_false, rdrE, at_1]
      refine (c_object_Wrong ⟨nm, acc⟩ _).use (wkL_cons (wk_agg (wkL_cons (wk_refl _) (wkL_cons (wk_tok _ _ _) wkL_nil))) wkL_nil) fun _ => ?_
      simp only [gwL, gwB, gwD, gwE, gwS, gwTT, gwZ, gwN, gwC, Nat.reduceEqDiff, ↓reduceIte, Nat.reduceAdd, Nat.reduceLT, Nat.reduceLeDiff, Nat.reduceMul, gwD3, gwDT, pureR_none, ite_self, nilR, nilB, bitF, bitV, nilC, nilCmp, eqb, assertV, assertW, zeroV, wQ_normal, wQ_ret, wQ_panic, pickO, pickC, List.map_cons, List.map_nil, List.getD_cons_zero, List.getD_cons_succ, Env.keep, beq_self_eq_true, cond_true, cond_false, rdrE, at_1]
      refine iK_split (fun h4 => ?_) (fun h4 => ?_)
      · rw [not_yes h4]
        simp only [gwL, gwB, gwD, gwE, gwS, gwTT, gwZ, gwN, gwC, Nat.reduceEqDiff, ↓reduceIte, Nat.reduceAdd, Nat.reduceLT, Nat.reduceLeDiff, Nat.reduceMul, gwD3, gwDT, pureR_none, ite_self, nilR, nilB, bitF, bitV, nilC, nilCmp, eqb, assertV, assertW, zeroV, wQ_normal, wQ_ret, wQ_panic, pickO, pickC, List.map_cons, List.map_nil, List.getD_cons_zero, List.getD_cons_succ, Env.keep, beq_self_eq_true, cond_true, cond_false, rdrE, at_1]
        exact bad _ _
      · rw [not_no h4]
        simp only [gwL, gwB, gwD, gwE, gwS, gwTT, gwZ, gwN, gwC, Nat.reduceEqDiff, ↓reduceIte, Nat.reduceAdd, Nat.reduceLT, Nat.reduceLeDiff, Nat.reduceMul, gwD3, gwDT, pureR_none, ite_self, nilR, nilB, bitF, bitV, nilC, nilCmp, eqb, assertV, assertW, zeroV, wQ_normal, wQ_ret, wQ_panic, pickO, pickC, List.map_cons, List.map_nil, List.getD_cons_zero, List.getD_cons_succ, Env.keep, beq_self_eq_true, cond_true, cond_false, rdrE, at_1]
        exact gives_of (wk_tup (wkL_cons (wk_agg (wkL_cons (wk_refl _) (wkL_cons (wk_tok _ _ _) wkL_nil))) (wkL_cons (wk_refl _) wkL_nil))) (wkSt_refl _) (by simp only [unitR, V.lt, ltL]; exact ⟨encU_lt _ _, trivial, trivial⟩) hst
end Go.Proofs.YtcdnooalfkbmgaaDoor.Gx

namespace Go.Proofs.YtcdnooalfkbmgaaDoor.Gx
open Go Go.Proofs.YtcdnooalfkbmgaaDoor.Gw
set_option linter.unusedSimpArgs false
set_option linter.unusedVariables false

def kindS : Str := [110, 110, 113, 108, 103, 112, 99, 97, 106, 106, 108, 103, 103, 45, 45]
def kindR (op : Int) : Int := bif decide (op < 1) || decide (15 < op) then 0 else ((kindS.getD (op - 1).toNat 0).toNat : Int)
theorem c_Kind (op : Int) (st : St) : VCalls Tryd.prog TT 23 [.int .i64 op] st fun r st' => r = .ret (.int .u8 (kindR op)) ∧ st' = st := by
  refine vfun TT_ok (an := anL []) (L := [0, 2]) (rs := [.tmp 2]) Tryd.func23 rfl (by kernel_rfl) rfl Tryd.ntmps23 rfl rfl (Nat.le_refl _) fun hst ha hf => ?_
  simp only [gwL, gwB, gwD, gwE, gwS, gwTT, gwZ, gwN, gwC, Nat.reduceEqDiff, ↓reduceIte, Nat.reduceAdd, Nat.reduceLT, Nat.reduceLeDiff, Nat.reduceMul]
  refine iK_split (fun h => ?_) (fun h => ?_)
  · simp only [gwL, gwB, gwD, gwE, gwS, gwTT, gwZ, gwN, gwC, Nat.reduceEqDiff, ↓reduceIte, Nat.reduceAdd, Nat.reduceLT, Nat.reduceLeDiff, Nat.reduceMul]
    exact gives_int (by simp only [kindR, h, cond_true]) hst
  · have h' := h
    simp only [Bool.or_eq_false_iff, decide_eq_false_iff_not] at h'
    have w : IntKind.i64.wrap (op - 1) = op - 1 := wrap_i64 (by omega) (by omega)
    have hl : kindS.length = 15 := rfl
    simp only [gwL, gwB, gwD, gwE, gwS, gwTT, gwZ, gwN, gwC, Nat.reduceEqDiff, ↓reduceIte, Nat.reduceAdd, Nat.reduceLT, Nat.reduceLeDiff, Nat.reduceMul, w]
    refine ⟨⟨by omega, by omega⟩, gives_int (by simp only [kindR, h, cond_false]; rfl) hst⟩
def inE (ok : Bool) (e : Int) : Int := bif ok then 0 else e
def ownK (k : Int) (i : Ins) (ar n G : Int) : Int :=
  bif decide (k = 110) then (bif decide (i.op = 2) then inE (decide (i.n = 0) || decide (i.n = 1)) 3 else inE (decide (-1000000000000000 ≤ i.n) && decide (i.n ≤ 1000000000000000)) 3)
  else bif decide (k = 113) then (wrongL [i.quote] 0 0).1
  else bif decide (k = 108) then inE (decide (0 ≤ i.a) && decide (i.a < ar)) 3
  else bif decide (k = 103) then (bif decide (0 ≤ G) then inE (decide (0 ≤ i.a) && decide (i.a < G)) 3 else inE (plainB i.lib && namedB i.own) 7)
  else bif decide (k = 112) then inE (decide (i.own ∈ prims)) 7
  else bif decide (k = 97) then inE (decide (0 ≤ i.a) && decide (i.a ≤ 2000)) 3
  else bif decide (k = 106) then inE (decide (0 ≤ i.a) && decide (i.a < n)) 3
  else bif decide (k = 0) then 1 else 0

end Go.Proofs.YtcdnooalfkbmgaaDoor.Gx

namespace Go.Proofs.YtcdnooalfkbmgaaDoor.Gx
open Go Go.Proofs.YtcdnooalfkbmgaaDoor.Gw
set_option linter.unusedSimpArgs false
set_option linter.unusedVariables false

def bareI (i : Ins) : Ins :=
  bif decide (kindR i.op = 110) then { op := i.op, n := i.n }
  else bif decide (kindR i.op = 113) then { op := i.op, quote := bareR i.quote }
  else bif decide (kindR i.op = 103) then { op := i.op, lib := i.lib, own := i.own }
  else bif decide (kindR i.op = 112) then { op := i.op, own := i.own }
  else bif decide (kindR i.op = 108) || decide (kindR i.op = 99) || decide (kindR i.op = 97) || decide (kindR i.op = 106) then { op := i.op, a := i.a }
  else { op := i.op }
def barePr (p : Pr) : Pr := ⟨p.args, p.code.map bareI⟩
def bareU (u : Unit') : Unit' := ⟨u.name, u.protos.map barePr⟩
structure BareOk (u : Unit') : Prop where
  few : u.protos.length ≤ 500
  code : ∀ p ∈ u.protos, p.code.length ≤ 6000
  small : ∀ p ∈ u.protos, ∀ x ∈ p.code, kindR x.op = 113 → smallD x.quote

theorem wkR_last {p : Nat → Prop} {r r' : List V} (h : wkLp p r r') : ∀ l : List (List V), wkRp p (l ++ [r]) (l ++ [r'])
  | [] => by simp only [List.nil_append, wkRp]; exact ⟨_, _, rfl, h, rfl⟩
  | x :: l => by simp only [List.cons_append, wkRp]; exact ⟨_, _, rfl, wkL_refl _, wkR_last h l⟩

set_option maxHeartbeats 4000000 in
theorem c_ref8_Bare (u : Unit') (hu : BareOk u) (st : St) : VCalls Tryd.prog TT 9 [.agg (encU u)] st fun q st' => q = .ret (.agg (encU (bareU u))) ∧ st' = st := by
  obtain ⟨nm, ps⟩ := u
  obtain ⟨hps, hcs, hsm⟩ := hu
  simp only at hps hcs hsm
  refine vfun TT_ok (an := anL [(1, 1)]) (L := [0, 1, 2, 3, 5, 6, 8, 9, 14, 15, 16, 24, 25, 26, 35, 60]) (rs := [.cell 2 24]) Tryd.func9 rfl (by kernel_rfl) rfl Tryd.ntmps9 rfl rfl (Nat.le_refl _) fun hst ha hf => ?_
  have ltP : ∀ (l : List Pr), ltL (st.length + 3) [.str nm, .lst 2 (some (st.length + 2)) (l.map fun p => encPr (barePr p))] := fun l => by
    have h := rowsPr_ok (st.length + 3) (st.length + 2) nm (l.map barePr) (by omega)
    rw [List.map_map] at h; exact h
  have ltP6 : ∀ (l : List Pr), ltL (st.length + 6) [.str nm, .lst 2 (some (st.length + 2)) (l.map fun p => encPr (barePr p))] := fun l => by
    have h := rowsPr_ok (st.length + 6) (st.length + 2) nm (l.map barePr) (by omega)
    rw [List.map_map] at h; exact h
  have ltC : ∀ (ar : Int) (l : List Ins), ltL (st.length + 6) [.int .i64 ar, .lst 11 (some (st.length + 5)) (l.map fun x => encI (bareI x))] := fun ar l => by
    have h := rowsIn_ok (st.length + 6) (st.length + 5) ar (l.map bareI) (by omega)
    rw [List.map_map] at h; exact h
  simp only [encU, lstPr]
  simp only [gwL, gwB, gwD, gwE, gwS, gwTT, gwZ, gwN, gwC, Nat.reduceEqDiff, ↓reduceIte, Nat.reduceAdd, Nat.reduceLT, Nat.reduceLeDiff, Nat.reduceMul, List.length_map]
  refine vforT (σ := Nat) [48] [0, 1, 2, 3, 14, 15, 16] (fun i => [(0, true, .agg (encU ⟨nm, ps⟩)), (1, true, .ref (encU ⟨nm, ps⟩)), (2, true, .ptr st.length 0), (3, true, .ptr (st.length + 1) 0), (14, true, lstPr ps), (15, true, .int .i64 ps.length), (16, true, .int .i64 i)]) (fun i => st ++ [.box [.str [], .nils], .box [.str nm, .lst 2 (some (st.length + 2)) ((ps.take i).map fun p => encPr (barePr p))], .tip 48 i]) (fun i => ps.length - i) (fun i => i ≤ ps.length) 0 rfl TT_ok (Nat.zero_le _) ?_ ?_ ?_
  · simp only [encU, lstPr]; exact wkE_refl _
  · refine ⟨st ++ [.box [.str [], .nils], .box [.str nm, .lst 2 (some (st.length + 2)) []]], ?_, by simp only [gwL, tips, List.map_cons, List.map_nil, List.take_zero]⟩
    refine (wkSt_refl _).append (wkSt_cons (Ent.wkp_refl _) (wkSt_cons (Ent.wk_box ?_) wkSt_nil))
    exact wkL_cons (wk_refl _) (wkL_cons (wk_tip _ (by simp [Tips])) wkL_nil)
  intro i hi
  simp only [encU, lstPr]
  rcases at_or_end ps i hi with ⟨rfl, hd⟩ | ⟨p, hlt, hget, hdr⟩
  · simp only [gwL, gwB, gwD, gwE, gwS, gwTT, gwZ, gwN, gwC, Nat.reduceEqDiff, ↓reduceIte, Nat.reduceAdd, Nat.reduceLT, Nat.reduceLeDiff, Nat.reduceMul, lt_no, hd, List.take_length]
    refine gives_of (wk_agg (wkL_cons (wk_refl _) (wkL_cons ?_ wkL_nil))) (wkSt_refl _) (by simp only [V.lt]; exact encU_lt _ _) hst
    simp only [bareU, lstPr, List.map_map]
    exact wk_tok _ _ _
  · obtain ⟨ar, cd⟩ := p
    have hcd := hcs _ (List.mem_of_getElem? hget)
    have hsd := hsm _ (List.mem_of_getElem? hget)
    simp only at hcd hsd
    have encI_drop : ∀ i : Ins, (encI i).drop 11 = [] := fun i => List.drop_of_length_le (by rw [encI_len]; exact Nat.le_refl _)
    simp only [gwL, gwB, gwD, gwE, gwS, gwTT, gwZ, gwN, gwC, Nat.reduceEqDiff, ↓reduceIte, Nat.reduceAdd, Nat.reduceLT, Nat.reduceLeDiff, Nat.reduceMul, lt_yes hlt, hdr, List.length_map, getD_map hget, Int.ofNat_lt.mpr hlt, encPr, lstI]
    refine vforT (σ := Nat) [55] [0, 1, 2, 3, 5, 6, 14, 15, 16, 24, 25, 26] (fun j => [(0, true, .agg (encU ⟨nm, ps⟩)), (1, true, .ref (encU ⟨nm, ps⟩)), (2, true, .ptr st.length 0), (3, true, .ptr (st.length + 1) 0), (5, true, .ptr (st.length + 3) 0), (6, true, .ptr (st.length + 4) 0), (14, true, lstPr ps), (15, true, .int .i64 ps.length), (16, true, .int .i64 i), (24, true, lstI cd), (25, true, .int .i64 cd.length), (26, true, .int .i64 j)]) (fun j => st ++ [.box [.str [], .nils], .box [.str nm, .lst 2 (some (st.length + 2)) ((ps.take i).map fun p => encPr (barePr p))], .tip 48 i, .box [.int .i64 ar, .lst 11 none (cd.map encI)], .box [.int .i64 ar, .lst 11 (some (st.length + 5)) ((cd.take j).map fun x => encI (bareI x))], .tip 55 j]) (fun j => cd.length - j) (fun j => j ≤ cd.length) 0 rfl TT_ok (Nat.zero_le _) ?_ ?_ ?_
    · simp only [encU, lstPr, lstI]; exact wkE_refl _
    · refine ⟨st ++ [.box [.str [], .nils], .box [.str nm, .lst 2 (some (st.length + 2)) ((ps.take i).map fun p => encPr (barePr p))], .tip 48 i, .box [.int .i64 ar, .lst 11 none (cd.map encI)], .box [.int .i64 ar, .lst 11 (some (st.length + 5)) []]], ?_, by simp only [gwL, tips, List.map_cons, List.map_nil, List.take_zero]⟩
      refine (wkSt_refl _).append (wkSt_cons (Ent.wkp_refl _) (wkSt_cons (Ent.wkp_refl _) (wkSt_cons (Ent.wkp_refl _) (wkSt_cons (Ent.wkp_refl _) (wkSt_cons (Ent.wk_box ?_) wkSt_nil)))))
      exact wkL_cons (wk_refl _) (wkL_cons (wk_tip _ (by simp [Tips])) wkL_nil)
    intro j hj
    simp only [encU, lstPr, lstI]
    rcases at_or_end cd j hj with ⟨rfl, hjd⟩ | ⟨x, hlt2, hget2, hdr2⟩
    · simp only [gwL, gwB, gwD, gwE, gwS, gwTT, gwZ, gwN, gwC, Nat.reduceEqDiff, ↓reduceIte, Nat.reduceAdd, Nat.reduceLT, Nat.reduceLeDiff, Nat.reduceMul, lt_no, hjd, List.take_length, List.length_map, List.length_take, Nat.min_eq_left hi]
      refine ⟨by omega, i + 1, ⟨?_, st ++ [.box [.str [], .nils], .box [.str nm, .lst 2 (some (st.length + 2)) ((ps.take i).map (fun p => encPr (barePr p)) ++ [[.int .i64 ar, .lst 11 (some (st.length + 5)) (cd.map fun x => encI (bareI x))]])], .tip 48 (i + 1)], [.box [.int .i64 ar, .lst 11 none (cd.map encI)], .box [.int .i64 ar, .lst 11 (some (st.length + 5)) (cd.map fun x => encI (bareI x))], .tip 55 cd.length], by simp, ?_, ?_, ?_, by simp⟩, by omega, hlt⟩
      · simp only [gwL, gwB, gwD, gwE, gwS, gwTT, gwZ, gwN, gwC, Nat.reduceEqDiff, ↓reduceIte, Nat.reduceAdd, Nat.reduceLT, Nat.reduceLeDiff, Nat.reduceMul, Env.keep, next_i64 hlt (by omega)]
        exact wkE_refl _
      · refine (wkSt_refl _).append (wkSt_cons (Ent.wkp_refl _) (wkSt_cons (Ent.wk_box ?_) (wkSt_cons (Ent.wkp_refl _) wkSt_nil)))
        rw [take_next hget, List.map_append, List.map_cons, List.map_nil]
        refine wkL_cons (wk_refl _) (wkL_cons (wk_lst_same (wkR_last ?_ _)) wkL_nil)
        simp only [barePr, List.map_map]
        exact wkL_cons (wk_refl _) (wkL_cons (wk_tok _ _ _) wkL_nil)
      · simp only [ltE, V.lt, gwL, ltL]
        have hl := lstPr_lt (st.length + (1 + (1 + 1))) ps
        simp only [lstPr, V.lt] at hl
        exact ⟨⟨trivial, hl, trivial⟩, ⟨trivial, hl, trivial⟩, by omega, by omega, hl, trivial, trivial, trivial⟩
      · exact ok_app hst ⟨by simp [Ent.lt, ltL, V.lt], ltP _, trivial, trivial⟩
    · simp only [gwL, gwB, gwD, gwE, gwS, gwTT, gwZ, gwN, gwC, Nat.reduceEqDiff, ↓reduceIte, Nat.reduceAdd, Nat.reduceLT, Nat.reduceLeDiff, Nat.reduceMul, lt_yes hlt2, hdr2, List.length_map, getD_map hget2, Int.ofNat_lt.mpr hlt2, encI_take, encI_len, encI_drop, Nat.le_refl]
      obtain ⟨op, a, n, lb, ow, q⟩ := x
      simp only [encI_mk]
      have hbx : bareI ⟨op, a, n, lb, ow, q⟩ = bif decide (kindR op = 110) then { op := op, n := n } else bif decide (kindR op = 113) then { op := op, quote := bareR q } else bif decide (kindR op = 103) then { op := op, lib := lb, own := ow } else bif decide (kindR op = 112) then { op := op, own := ow } else bif decide (kindR op = 108) || decide (kindR op = 99) || decide (kindR op = 97) || decide (kindR op = 106) then { op := op, a := a } else { op := op } := rfl
      have hqs := hsd _ (List.mem_of_getElem? hget2)
      simp only at hqs
      simp only [gwL, gwB, gwD, gwE, gwS, gwTT, gwZ, gwN, gwC, Nat.reduceEqDiff, ↓reduceIte, Nat.reduceAdd, Nat.reduceLT, Nat.reduceLeDiff, Nat.reduceMul]
      refine (c_Kind op _).use (wkL_refl _) fun _ => ?_
      generalize kindR op = k at hbx hqs
      simp only [gwL, gwB, gwD, gwE, gwS, gwTT, gwZ, gwN, gwC, Nat.reduceEqDiff, ↓reduceIte, Nat.reduceAdd, Nat.reduceLT, Nat.reduceLeDiff, Nat.reduceMul]
      have nx : ∀ (X : List V) (Y Z : Ent) (env' : Env), wkL X (encI (bareI ⟨op, a, n, lb, ow, q⟩)) →
          wkE (env'.keep [0, 1, 2, 3, 5, 6, 14, 15, 16, 24, 25, 26]) [(0, true, .agg [.str nm, .lst 2 none (ps.map encPr)]), (1, true, .ref [.str nm, .lst 2 none (ps.map encPr)]), (2, true, .ptr st.length 0), (3, true, .ptr (st.length + 1) 0), (5, true, .ptr (st.length + 3) 0), (6, true, .ptr (st.length + 4) 0), (14, true, .lst 2 none (ps.map encPr)), (15, true, .int .i64 ps.length), (16, true, .int .i64 i), (24, true, .lst 11 none (cd.map encI)), (25, true, .int .i64 cd.length), (26, true, .int .i64 ((j + 1 : Nat) : Int))] →
          ∃ y, Gw.Next [0, 1, 2, 3, 5, 6, 14, 15, 16, 24, 25, 26] (st.length + 5) [(0, true, .agg [.str nm, .lst 2 none (ps.map encPr)]), (1, true, .ref [.str nm, .lst 2 none (ps.map encPr)]), (2, true, .ptr st.length 0), (3, true, .ptr (st.length + 1) 0), (5, true, .ptr (st.length + 3) 0), (6, true, .ptr (st.length + 4) 0), (14, true, .lst 2 none (ps.map encPr)), (15, true, .int .i64 ps.length), (16, true, .int .i64 i), (24, true, .lst 11 none (cd.map encI)), (25, true, .int .i64 cd.length), (26, true, .int .i64 ((y : Nat) : Int))]
            (st ++ [.box [.str [], .nils], .box [.str nm, .lst 2 (some (st.length + 2)) ((ps.take i).map fun p => encPr (barePr p))], .tip 48 i, .box [.int .i64 ar, .lst 11 none (cd.map encI)], .box [.int .i64 ar, .lst 11 (some (st.length + 5)) ((cd.take y).map fun x => encI (bareI x))], .tip 55 y])
            env' (st ++ [.box [.str [], .nils], .box [.str nm, .lst 2 (some (st.length + 2)) ((ps.take i).map fun p => encPr (barePr p))], .tip 48 i, .box [.int .i64 ar, .lst 11 none (cd.map encI)], .box [.int .i64 ar, .lst 11 (some (st.length + 5)) ((cd.take j).map (fun x => encI (bareI x)) ++ [X])], .tip 55 (j + 1), Y, Z]) ∧ cd.length - y < cd.length - j ∧ y ≤ cd.length := fun X Y Z env' hX hE => by
        refine ⟨j + 1, ⟨hE, st ++ [.box [.str [], .nils], .box [.str nm, .lst 2 (some (st.length + 2)) ((ps.take i).map fun p => encPr (barePr p))], .tip 48 i, .box [.int .i64 ar, .lst 11 none (cd.map encI)], .box [.int .i64 ar, .lst 11 (some (st.length + 5)) ((cd.take j).map (fun x => encI (bareI x)) ++ [X])], .tip 55 (j + 1)], [Y, Z], by simp, ?_, ?_, ?_, by simp⟩, by omega, hlt2⟩
        · refine (wkSt_refl _).append (wkSt_cons (Ent.wkp_refl _) (wkSt_cons (Ent.wkp_refl _) (wkSt_cons (Ent.wkp_refl _) (wkSt_cons (Ent.wkp_refl _) (wkSt_cons (Ent.wk_box ?_) (wkSt_cons (Ent.wkp_refl _) wkSt_nil))))))
          rw [take_next hget2, List.map_append, List.map_cons, List.map_nil]
          exact wkL_cons (wk_refl _) (wkL_cons (wk_lst_same (wkR_last hX _)) wkL_nil)
        · simp only [ltE, V.lt, gwL, ltL]
          have hl := lstPr_lt (st.length + (1 + (1 + (1 + (1 + (1 + 1)))))) ps
          have hl2 := lstI_lt (st.length + (1 + (1 + (1 + (1 + (1 + 1)))))) cd
          simp only [lstPr, lstI, V.lt] at hl hl2
          exact ⟨⟨trivial, hl, trivial⟩, ⟨trivial, hl, trivial⟩, by omega, by omega, by omega, by omega, hl, trivial, trivial, hl2, trivial, trivial, trivial⟩
        · have h5 := ltP6 (ps.take i)
          have h6 := ltC ar (cd.take (j + 1))
          have hl2 := lstI_lt (st.length + 6) cd
          exact ok_app hst ⟨by simp [Ent.lt, ltL, V.lt], h5, trivial, ⟨trivial, hl2, trivial⟩, h6, trivial, trivial⟩
      refine iK_split (fun h1 => ?_) (fun h1 => ?_)
      · rw [h1] at hbx
        simp only [cond_true] at hbx
        try (simp only [gwL, gwB, gwD, gwE, gwS, gwTT, gwZ, gwN, gwC, Nat.reduceEqDiff, ↓reduceIte, Nat.reduceAdd, Nat.reduceLT, Nat.reduceLeDiff, Nat.reduceMul, encD_len, encD_take, encD_drop, Nat.le_refl])
        simp only [gwL, gwB, gwD, gwE, gwS, gwTT, gwZ, gwN, gwC, Nat.reduceEqDiff, ↓reduceIte, Nat.reduceAdd, Nat.reduceLT, Nat.reduceLeDiff, Nat.reduceMul, List.length_map, List.length_take, Nat.min_eq_left hj]
        refine ⟨by omega, nx _ _ _ _ ?_ ?_⟩
        · rw [hbx]; exact wk_ins op 0 n [] []
        · simp only [gwL, gwB, gwD, gwE, gwS, gwTT, gwZ, gwN, gwC, Nat.reduceEqDiff, ↓reduceIte, Nat.reduceAdd, Nat.reduceLT, Nat.reduceLeDiff, Nat.reduceMul, Env.keep, next_i64 hlt2 (by omega)]
          exact wkE_refl _
      · rw [h1] at hbx
        simp only [cond_false] at hbx
        try (simp only [gwL, gwB, gwD, gwE, gwS, gwTT, gwZ, gwN, gwC, Nat.reduceEqDiff, ↓reduceIte, Nat.reduceAdd, Nat.reduceLT, Nat.reduceLeDiff, Nat.reduceMul, encD_len, encD_take, encD_drop, Nat.le_refl])
        refine iK_split (fun h2 => ?_) (fun h2 => ?_)
        · rw [h2] at hbx
          simp only [cond_true] at hbx
          try (simp only [gwL, gwB, gwD, gwE, gwS, gwTT, gwZ, gwN, gwC, Nat.reduceEqDiff, ↓reduceIte, Nat.reduceAdd, Nat.reduceLT, Nat.reduceLeDiff, Nat.reduceMul, encD_len, encD_take, encD_drop, Nat.le_refl])
          refine (c_ref_Bare q (hqs (of_decide_eq_true h2)) _).use (wkL_refl _) fun _ => ?_
          try (simp only [gwL, gwB, gwD, gwE, gwS, gwTT, gwZ, gwN, gwC, Nat.reduceEqDiff, ↓reduceIte, Nat.reduceAdd, Nat.reduceLT, Nat.reduceLeDiff, Nat.reduceMul, encD_len, encD_take, encD_drop, Nat.le_refl])
          simp only [gwL, gwB, gwD, gwE, gwS, gwTT, gwZ, gwN, gwC, Nat.reduceEqDiff, ↓reduceIte, Nat.reduceAdd, Nat.reduceLT, Nat.reduceLeDiff, Nat.reduceMul, List.length_map, List.length_take, Nat.min_eq_left hj]
          refine ⟨by omega, nx _ _ _ _ ?_ ?_⟩
          · rw [hbx]; exact (by simp only [encI]; exact wkL_refl _)
          · simp only [gwL, gwB, gwD, gwE, gwS, gwTT, gwZ, gwN, gwC, Nat.reduceEqDiff, ↓reduceIte, Nat.reduceAdd, Nat.reduceLT, Nat.reduceLeDiff, Nat.reduceMul, Env.keep, next_i64 hlt2 (by omega)]
            exact wkE_refl _
        · rw [h2] at hbx
          simp only [cond_false] at hbx
          try (simp only [gwL, gwB, gwD, gwE, gwS, gwTT, gwZ, gwN, gwC, Nat.reduceEqDiff, ↓reduceIte, Nat.reduceAdd, Nat.reduceLT, Nat.reduceLeDiff, Nat.reduceMul, encD_len, encD_take, encD_drop, Nat.le_refl])
          refine iK_split (fun h3 => ?_) (fun h3 => ?_)
          · rw [h3] at hbx
            simp only [cond_true] at hbx
            refine vmelt 8 (st.length + 6) (.int .i64 op :: .int .i64 a :: .int .i64 n :: .str lb :: .str ow :: encD q) rfl (by simp) ?_
            simp only [meltE, Nat.reduceEqDiff, if_false, if_true, reduceIte]
            refine vdraw TT_ok TT_mixed [0, 0, 0, 0, 0, 2, 0, 2] (by kernel_rfl) ?_
            try (simp only [gwL, gwB, gwD, gwE, gwS, gwTT, gwZ, gwN, gwC, Nat.reduceEqDiff, ↓reduceIte, Nat.reduceAdd, Nat.reduceLT, Nat.reduceLeDiff, Nat.reduceMul, encD_len, encD_take, encD_drop, Nat.le_refl])
            simp only [gwL, gwB, gwD, gwE, gwS, gwTT, gwZ, gwN, gwC, Nat.reduceEqDiff, ↓reduceIte, Nat.reduceAdd, Nat.reduceLT, Nat.reduceLeDiff, Nat.reduceMul, List.length_map, List.length_take, Nat.min_eq_left hj]
            refine ⟨by omega, nx _ _ _ _ ?_ ?_⟩
            · rw [hbx]; exact wk_ins op 0 0 lb ow
            · simp only [gwL, gwB, gwD, gwE, gwS, gwTT, gwZ, gwN, gwC, Nat.reduceEqDiff, ↓reduceIte, Nat.reduceAdd, Nat.reduceLT, Nat.reduceLeDiff, Nat.reduceMul, Env.keep, next_i64 hlt2 (by omega)]
              exact wkE_refl _
          · rw [h3] at hbx
            simp only [cond_false] at hbx
            try (simp only [gwL, gwB, gwD, gwE, gwS, gwTT, gwZ, gwN, gwC, Nat.reduceEqDiff, ↓reduceIte, Nat.reduceAdd, Nat.reduceLT, Nat.reduceLeDiff, Nat.reduceMul, encD_len, encD_take, encD_drop, Nat.le_refl])
            refine iK_split (fun h4 => ?_) (fun h4 => ?_)
            · rw [h4] at hbx
              simp only [cond_true] at hbx
              try (simp only [gwL, gwB, gwD, gwE, gwS, gwTT, gwZ, gwN, gwC, Nat.reduceEqDiff, ↓reduceIte, Nat.reduceAdd, Nat.reduceLT, Nat.reduceLeDiff, Nat.reduceMul, encD_len, encD_take, encD_drop, Nat.le_refl])
              simp only [gwL, gwB, gwD, gwE, gwS, gwTT, gwZ, gwN, gwC, Nat.reduceEqDiff, ↓reduceIte, Nat.reduceAdd, Nat.reduceLT, Nat.reduceLeDiff, Nat.reduceMul, List.length_map, List.length_take, Nat.min_eq_left hj]
              refine ⟨by omega, nx _ _ _ _ ?_ ?_⟩
              · rw [hbx]; exact wk_ins op 0 0 [] ow
              · simp only [gwL, gwB, gwD, gwE, gwS, gwTT, gwZ, gwN, gwC, Nat.reduceEqDiff, ↓reduceIte, Nat.reduceAdd, Nat.reduceLT, Nat.reduceLeDiff, Nat.reduceMul, Env.keep, next_i64 hlt2 (by omega)]
                exact wkE_refl _
            · rw [h4] at hbx
              simp only [cond_false] at hbx
              try (simp only [gwL, gwB, gwD, gwE, gwS, gwTT, gwZ, gwN, gwC, Nat.reduceEqDiff, ↓reduceIte, Nat.reduceAdd, Nat.reduceLT, Nat.reduceLeDiff, Nat.reduceMul, encD_len, encD_take, encD_drop, Nat.le_refl])
              refine iK_split (fun h5 => ?_) (fun h5 => ?_)
              · rw [h5] at hbx
                simp only [Bool.true_or, Bool.or_true, cond_true] at hbx
                try (simp only [gwL, gwB, gwD, gwE, gwS, gwTT, gwZ, gwN, gwC, Nat.reduceEqDiff, ↓reduceIte, Nat.reduceAdd, Nat.reduceLT, Nat.reduceLeDiff, Nat.reduceMul, encD_len, encD_take, encD_drop, Nat.le_refl, h5])
                simp only [gwL, gwB, gwD, gwE, gwS, gwTT, gwZ, gwN, gwC, Nat.reduceEqDiff, ↓reduceIte, Nat.reduceAdd, Nat.reduceLT, Nat.reduceLeDiff, Nat.reduceMul, List.length_map, List.length_take, Nat.min_eq_left hj]
                refine ⟨by omega, nx _ _ _ _ ?_ ?_⟩
                · rw [hbx]; exact wk_ins op a 0 [] []
                · simp only [gwL, gwB, gwD, gwE, gwS, gwTT, gwZ, gwN, gwC, Nat.reduceEqDiff, ↓reduceIte, Nat.reduceAdd, Nat.reduceLT, Nat.reduceLeDiff, Nat.reduceMul, Env.keep, next_i64 hlt2 (by omega)]
                  exact wkE_refl _
              · rw [h5] at hbx
                simp only [Bool.false_or, Bool.or_false, cond_false] at hbx
                try (simp only [gwL, gwB, gwD, gwE, gwS, gwTT, gwZ, gwN, gwC, Nat.reduceEqDiff, ↓reduceIte, Nat.reduceAdd, Nat.reduceLT, Nat.reduceLeDiff, Nat.reduceMul, encD_len, encD_take, encD_drop, Nat.le_refl, h5])
                refine iK_split (fun h6 => ?_) (fun h6 => ?_)
                · rw [h6] at hbx
                  simp only [Bool.true_or, Bool.or_true, cond_true] at hbx
                  try (simp only [gwL, gwB, gwD, gwE, gwS, gwTT, gwZ, gwN, gwC, Nat.reduceEqDiff, ↓reduceIte, Nat.reduceAdd, Nat.reduceLT, Nat.reduceLeDiff, Nat.reduceMul, encD_len, encD_take, encD_drop, Nat.le_refl, h6])
                  simp only [gwL, gwB, gwD, gwE, gwS, gwTT, gwZ, gwN, gwC, Nat.reduceEqDiff, ↓reduceIte, Nat.reduceAdd, Nat.reduceLT, Nat.reduceLeDiff, Nat.reduceMul, List.length_map, List.length_take, Nat.min_eq_left hj]
                  refine ⟨by omega, nx _ _ _ _ ?_ ?_⟩
                  · rw [hbx]; exact wk_ins op a 0 [] []
                  · simp only [gwL, gwB, gwD, gwE, gwS, gwTT, gwZ, gwN, gwC, Nat.reduceEqDiff, ↓reduceIte, Nat.reduceAdd, Nat.reduceLT, Nat.reduceLeDiff, Nat.reduceMul, Env.keep, next_i64 hlt2 (by omega)]
                    exact wkE_refl _
                · rw [h6] at hbx
                  simp only [Bool.false_or, Bool.or_false, cond_false] at hbx
                  try (simp only [gwL, gwB, gwD, gwE, gwS, gwTT, gwZ, gwN, gwC, Nat.reduceEqDiff, ↓reduceIte, Nat.reduceAdd, Nat.reduceLT, Nat.reduceLeDiff, Nat.reduceMul, encD_len, encD_take, encD_drop, Nat.le_refl, h6])
                  refine iK_split (fun h7 => ?_) (fun h7 => ?_)
                  · rw [h7] at hbx
                    simp only [Bool.true_or, Bool.or_true, cond_true] at hbx
                    try (simp only [gwL, gwB, gwD, gwE, gwS, gwTT, gwZ, gwN, gwC, Nat.reduceEqDiff, ↓reduceIte, Nat.reduceAdd, Nat.reduceLT, Nat.reduceLeDiff, Nat.reduceMul, encD_len, encD_take, encD_drop, Nat.le_refl, h7])
                    simp only [gwL, gwB, gwD, gwE, gwS, gwTT, gwZ, gwN, gwC, Nat.reduceEqDiff, ↓reduceIte, Nat.reduceAdd, Nat.reduceLT, Nat.reduceLeDiff, Nat.reduceMul, List.length_map, List.length_take, Nat.min_eq_left hj]
                    refine ⟨by omega, nx _ _ _ _ ?_ ?_⟩
                    · rw [hbx]; exact wk_ins op a 0 [] []
                    · simp only [gwL, gwB, gwD, gwE, gwS, gwTT, gwZ, gwN, gwC, Nat.reduceEqDiff, ↓reduceIte, Nat.reduceAdd, Nat.reduceLT, Nat.reduceLeDiff, Nat.reduceMul, Env.keep, next_i64 hlt2 (by omega)]
                      exact wkE_refl _
                  · rw [h7] at hbx
                    simp only [Bool.false_or, Bool.or_false, cond_false] at hbx
                    try (simp only [gwL, gwB, gwD, gwE, gwS, gwTT, gwZ, gwN, gwC, Nat.reduceEqDiff, ↓reduceIte, Nat.reduceAdd, Nat.reduceLT, Nat.reduceLeDiff, Nat.reduceMul, encD_len, encD_take, encD_drop, Nat.le_refl, h7])
                    refine iK_split (fun h8 => ?_) (fun h8 => ?_)
                    · rw [h8] at hbx
                      simp only [Bool.true_or, Bool.or_true, cond_true] at hbx
                      try (simp only [gwL, gwB, gwD, gwE, gwS, gwTT, gwZ, gwN, gwC, Nat.reduceEqDiff, ↓reduceIte, Nat.reduceAdd, Nat.reduceLT, Nat.reduceLeDiff, Nat.reduceMul, encD_len, encD_take, encD_drop, Nat.le_refl, h8])
                      simp only [gwL, gwB, gwD, gwE, gwS, gwTT, gwZ, gwN, gwC, Nat.reduceEqDiff, ↓reduceIte, Nat.reduceAdd, Nat.reduceLT, Nat.reduceLeDiff, Nat.reduceMul, List.length_map, List.length_take, Nat.min_eq_left hj]
                      refine ⟨by omega, nx _ _ _ _ ?_ ?_⟩
                      · rw [hbx]; exact wk_ins op a 0 [] []
                      · simp only [gwL, gwB, gwD, gwE, gwS, gwTT, gwZ, gwN, gwC, Nat.reduceEqDiff, ↓reduceIte, Nat.reduceAdd, Nat.reduceLT, Nat.reduceLeDiff, Nat.reduceMul, Env.keep, next_i64 hlt2 (by omega)]
                        exact wkE_refl _
                    · rw [h8] at hbx
                      simp only [Bool.false_or, Bool.or_false, cond_false] at hbx
                      try (simp only [gwL, gwB, gwD, gwE, gwS, gwTT, gwZ, gwN, gwC, Nat.reduceEqDiff, ↓reduceIte, Nat.reduceAdd, Nat.reduceLT, Nat.reduceLeDiff, Nat.reduceMul, encD_len, encD_take, encD_drop, Nat.le_refl, h8])
                      try (simp only [gwL, gwB, gwD, gwE, gwS, gwTT, gwZ, gwN, gwC, Nat.reduceEqDiff, ↓reduceIte, Nat.reduceAdd, Nat.reduceLT, Nat.reduceLeDiff, Nat.reduceMul, encD_len, encD_take, encD_drop, Nat.le_refl, h8])
                      simp only [gwL, gwB, gwD, gwE, gwS, gwTT, gwZ, gwN, gwC, Nat.reduceEqDiff, ↓reduceIte, Nat.reduceAdd, Nat.reduceLT, Nat.reduceLeDiff, Nat.reduceMul, List.length_map, List.length_take, Nat.min_eq_left hj]
                      refine ⟨by omega, nx _ _ _ _ ?_ ?_⟩
                      · rw [hbx]; exact wk_ins op 0 0 [] []
                      · simp only [gwL, gwB, gwD, gwE, gwS, gwTT, gwZ, gwN, gwC, Nat.reduceEqDiff, ↓reduceIte, Nat.reduceAdd, Nat.reduceLT, Nat.reduceLeDiff, Nat.reduceMul, Env.keep, next_i64 hlt2 (by omega)]
                        exact wkE_refl _
end Go.Proofs.YtcdnooalfkbmgaaDoor.Gx

namespace Go.Proofs.YtcdnooalfkbmgaaDoor.Gx
open Go Go.Proofs.YtcdnooalfkbmgaaDoor.Gw
set_option linter.unusedSimpArgs false
set_option linter.unusedVariables false

def sameU (u v : Unit') : Bool := decide (u.name = v.name) && samePs u.protos v.protos
theorem c_SameUnit (u v : Unit') (st : St) : VCalls Tryd.prog TT 8 [.agg (encU u), .agg (encU v)] st fun r st' => r = .ret (.bool (sameU u v)) ∧ st' = st := by
  obtain ⟨n1, p1⟩ := u
  obtain ⟨n2, p2⟩ := v
  refine vfun TT_ok (an := anL [(2, 1), (3, 1)]) (L := [0, 1, 2, 3, 4]) (rs := [.tmp 4]) Tryd.func8 rfl (by kernel_rfl) rfl Tryd.ntmps8 rfl rfl (Nat.le_refl _) fun hst ha hf => ?_
  simp only [encU]
  simp only [gwL, gwB, gwD, gwE, gwS, gwTT, gwZ, gwN, gwC, Nat.reduceEqDiff, ↓reduceIte, Nat.reduceAdd, Nat.reduceLT, Nat.reduceLeDiff, Nat.reduceMul]
  refine rK_guarded (.bool (samePs p1 p2)) (fun _ => c_SameProtos p1 p2 _) ?_
  simp only [gwL, gwB, gwD, gwE, gwS, gwTT, gwZ, gwN, gwC, Nat.reduceEqDiff, ↓reduceIte, Nat.reduceAdd, Nat.reduceLT, Nat.reduceLeDiff, Nat.reduceMul]
  exact gives_bool rfl hst
theorem c_sameB (a b : Str) (st : St) : VCalls Tryd.prog TT 11 [lstY a, lstY b] st fun r st' => r = .ret (.bool (decide (a = b))) ∧ st' = st := by
  refine vfun TT_ok (an := anL []) (L := [0, 1, 4]) (rs := [.tmp 4]) Tryd.func11 rfl (by kernel_rfl) rfl Tryd.ntmps11 rfl rfl (Nat.le_refl _) fun hst ha hf => ?_
  simp only [lstY]
  simp only [gwL, gwB, gwD, gwE, gwS, gwTT, gwZ, gwN, gwC, Nat.reduceEqDiff, ↓reduceIte, Nat.reduceAdd, Nat.reduceLT, Nat.reduceLeDiff, Nat.reduceMul, convV, bytesOf_rows]
  exact gives_bool rfl hst
theorem encU_len (u : Unit') : (encU u).length = 2 := rfl
theorem encU_drop (u : Unit') : (encU u).drop 2 = [] := rfl
theorem encU_take (u : Unit') : (encU u).take 2 = encU u := rfl
def aliveU : Unit' := ⟨[109], [⟨0, [{ op := 1, n := 5 }, { op := 14 }, { op := 15 }]⟩]⟩
theorem c_unit (st : St) : VCalls Tryd.prog TT 12 [] st fun r st' => r = .ret (.agg (encU aliveU)) ∧ st' = st := by
  refine vfun TT_ok (an := anL []) (L := [0]) (rs := [.cell 0 24]) Tryd.func12 rfl (by kernel_rfl) rfl Tryd.ntmps12 rfl rfl (Nat.le_refl _) fun hst ha hf => ?_
  simp only [gwL, gwB, gwD, gwE, gwS, gwTT, gwZ, gwN, gwC, Nat.reduceEqDiff, ↓reduceIte, Nat.reduceAdd, Nat.reduceLT, Nat.reduceLeDiff, Nat.reduceMul]
  refine gives_of (wk_agg (wkL_cons (wk_refl _) (wkL_cons ?_ wkL_nil))) (wkSt_refl _) (by simp only [V.lt]; exact encU_lt _ _) hst
  refine wk_lst (wkR_cons (wkL_cons (wk_refl _) (wkL_cons (wk_lst ?_) wkL_nil)) wkR_nil)
  exact wkR_cons (wk_ins 1 0 5 [] []) (wkR_cons (wk_ins 14 0 0 [] []) (wkR_cons (wk_ins 15 0 0 [] []) wkR_nil))
def aliveB : Str := [2, 109, 2, 0, 6, 2, 10, 28, 30]
theorem alive_bytes : bytesW aliveU = (aliveB, 0) := by kernel_rfl
theorem alive_unit : rUnit aliveB = (aliveU, 0) := by kernel_rfl
theorem alive_same : sameU aliveU aliveU = true := by kernel_rfl
theorem c_alive9 (st : St) : VCalls Tryd.prog TT 5 [] st fun r st' => r = .ret (.bool true) ∧ st' = st := by
  refine vfun TT_ok (an := anL []) (L := [0, 1, 2, 3, 4]) (rs := [.tmp 0]) Tryd.func5 rfl (by kernel_rfl) rfl Tryd.ntmps5 rfl rfl (Nat.le_refl _) fun hst ha hf => ?_
  simp only [gwL, gwB, gwD, gwE, gwS, gwTT, gwZ, gwN, gwC, Nat.reduceEqDiff, ↓reduceIte, Nat.reduceAdd, Nat.reduceLT, Nat.reduceLeDiff, Nat.reduceMul]
  refine (c_unit st).use (wkL_refl _) fun _ => ?_
  simp only [gwL, gwB, gwD, gwE, gwS, gwTT, gwZ, gwN, gwC, Nat.reduceEqDiff, ↓reduceIte, Nat.reduceAdd, Nat.reduceLT, Nat.reduceLeDiff, Nat.reduceMul]
  refine (c_Bytes aliveU st).use (wkL_refl _) fun _ => ?_
  rw [alive_bytes]
  simp only [bytesR]
  simp only [gwL, gwB, gwD, gwE, gwS, gwTT, gwZ, gwN, gwC, Nat.reduceEqDiff, ↓reduceIte, Nat.reduceAdd, Nat.reduceLT, Nat.reduceLeDiff, Nat.reduceMul]
  refine (c_Parse aliveB st).use (wkL_refl _) fun _ => ?_
  rw [alive_unit]
  simp only [unitR, lstY]
  simp only [gwL, gwB, gwD, gwE, gwS, gwTT, gwZ, gwN, gwC, Nat.reduceEqDiff, ↓reduceIte, Nat.reduceAdd, Nat.reduceLT, Nat.reduceLeDiff, Nat.reduceMul, encU_len, encU_drop, Nat.le_refl, List.append_nil]
  refine vdraw TT_ok TT_mixed [0, 0, 0, 0, 0, 0, 0, 0, 0, 0, 0, 0, 1, 0, 0, 0, 0] (by kernel_rfl) ?_
  simp only [gwL, gwB, gwD, gwE, gwS, gwTT, gwZ, gwN, gwC, Nat.reduceEqDiff, ↓reduceIte, Nat.reduceAdd, Nat.reduceLT, Nat.reduceLeDiff, Nat.reduceMul, encU_len, encU_drop, encU_take, Nat.le_refl, show (byteRows aliveB).length = 9 from rfl, show decide (((9 : Nat) : Int) = 9) = true from rfl]
  refine eK_free (fun st => c_unit st) (wkL_refl _) ?_
  simp only [gwL, gwB, gwD, gwE, gwS, gwTT, gwZ, gwN, gwC, Nat.reduceEqDiff, ↓reduceIte, Nat.reduceAdd, Nat.reduceLT, Nat.reduceLeDiff, Nat.reduceMul]
  refine eK_free (fun st => c_SameUnit aliveU aliveU st) (wkL_refl _) ?_
  rw [alive_same]
  simp only [gwL, gwB, gwD, gwE, gwS, gwTT, gwZ, gwN, gwC, Nat.reduceEqDiff, ↓reduceIte, Nat.reduceAdd, Nat.reduceLT, Nat.reduceLeDiff, Nat.reduceMul]
  exact gives_bool' rfl hst

theorem c_ObjectTurns (u : Unit') (b : Str) (h1 : ∀ x, bytesW u = (x, 0) → BareOk u ∧ ∃ v, rUnit x = (v, 0) ∧ sameU v (bareU u) = true) (h2 : ∀ v, rUnit b = (v, 0) → unitE v = 0 ∧ bytesW v = (b, 0)) (h3 : ∀ v e, rUnit b = (v, e) → e ≠ 0 → v = noU) (st : St) :
    VCalls Tryd.prog TT 3 [.agg (encU u), lstY b] st fun r st' => r = .ret (.bool true) ∧ st' = st := by
  refine vfun TT_ok (an := anL [(2, 1)]) (L := [0, 1, 2, 4, 5, 6, 7, 8, 9, 10, 11]) (rs := [.tmp 4]) Tryd.func3 rfl (by kernel_rfl) rfl Tryd.ntmps3 rfl rfl (Nat.le_refl _) fun hst ha hf => ?_
  simp only [gwL, gwB, gwD, gwE, gwS, gwTT, gwZ, gwN, gwC, Nat.reduceEqDiff, ↓reduceIte, Nat.reduceAdd, Nat.reduceLT, Nat.reduceLeDiff, Nat.reduceMul]
  refine (c_alive9 st).use (wkL_refl _) fun _ => ?_
  simp only [gwL, gwB, gwD, gwE, gwS, gwTT, gwZ, gwN, gwC, Nat.reduceEqDiff, ↓reduceIte, Nat.reduceAdd, Nat.reduceLT, Nat.reduceLeDiff, Nat.reduceMul, Bool.not_true, encU_len, encU_drop, encU_take, Nat.le_refl]
  refine (c_Bytes u st).use (wkL_refl _) fun _ => ?_
  cases hb : bytesW u with
  | mk x e =>
    simp only [bytesR]
    simp only [gwL, gwB, gwD, gwE, gwS, gwTT, gwZ, gwN, gwC, Nat.reduceEqDiff, ↓reduceIte, Nat.reduceAdd, Nat.reduceLT, Nat.reduceLeDiff, Nat.reduceMul]
    refine iK_split (fun h => ?_) (fun h => ?_)
    · have he : e = 0 := of_decide_eq_true h
      subst he
      obtain ⟨hok, v, hv, hs⟩ := h1 x hb
      simp only [gwL, gwB, gwD, gwE, gwS, gwTT, gwZ, gwN, gwC, Nat.reduceEqDiff, ↓reduceIte, Nat.reduceAdd, Nat.reduceLT, Nat.reduceLeDiff, Nat.reduceMul]
      refine (c_Parse x _).use (wkL_refl _) fun _ => ?_
      rw [hv]
      simp only [unitR]
      simp only [gwL, gwB, gwD, gwE, gwS, gwTT, gwZ, gwN, gwC, Nat.reduceEqDiff, ↓reduceIte, Nat.reduceAdd, Nat.reduceLT, Nat.reduceLeDiff, Nat.reduceMul, encU_len, encU_drop, encU_take, Nat.le_refl, List.append_nil]
      refine vdraw TT_ok TT_mixed [0, 0, 0, 1, 0, 0, 0, 0, 0] (by kernel_rfl) ?_
      simp only [gwL, gwB, gwD, gwE, gwS, gwTT, gwZ, gwN, gwC, Nat.reduceEqDiff, ↓reduceIte, Nat.reduceAdd, Nat.reduceLT, Nat.reduceLeDiff, Nat.reduceMul, encU_len, encU_drop, encU_take, Nat.le_refl, List.append_nil, show decide ((0 : Int) = 0) = true from rfl, Bool.not_true, Bool.not_false]
      refine eK_free (fun st => c_ref8_Bare u hok st) (wkL_refl _) ?_
      simp only [gwL, gwB, gwD, gwE, gwS, gwTT, gwZ, gwN, gwC, Nat.reduceEqDiff, ↓reduceIte, Nat.reduceAdd, Nat.reduceLT, Nat.reduceLeDiff, Nat.reduceMul]
      refine eK_free (fun st => c_SameUnit v (bareU u) st) (wkL_refl _) ?_
      rw [hs]
      simp only [gwL, gwB, gwD, gwE, gwS, gwTT, gwZ, gwN, gwC, Nat.reduceEqDiff, ↓reduceIte, Nat.reduceAdd, Nat.reduceLT, Nat.reduceLeDiff, Nat.reduceMul, Bool.not_true]
      refine (c_Parse b _).use (wkL_refl _) fun _ => ?_
      cases hp : rUnit b with
      | mk w f =>
        simp only [unitR]
        simp only [gwL, gwB, gwD, gwE, gwS, gwTT, gwZ, gwN, gwC, Nat.reduceEqDiff, ↓reduceIte, Nat.reduceAdd, Nat.reduceLT, Nat.reduceLeDiff, Nat.reduceMul, encU_len, encU_drop, encU_take, Nat.le_refl, List.append_nil]
        refine iK_split (fun h5 => ?_) (fun h5 => ?_)
        · have h6 : f ≠ 0 := of_decide_eq_false (not_yes h5)
          have h7 := h3 w f hp h6
          subst h7
          simp only [gwL, gwB, gwD, gwE, gwS, gwTT, gwZ, gwN, gwC, Nat.reduceEqDiff, ↓reduceIte, Nat.reduceAdd, Nat.reduceLT, Nat.reduceLeDiff, Nat.reduceMul, encU_len, encU_drop, encU_take, Nat.le_refl, List.append_nil]
          refine (c_SameUnit noU noU _).use (wkL_cons (wk_refl _) (wkL_cons (wk_agg (wkL_cons (wk_refl _) (wkL_cons (wk_nils _) wkL_nil))) wkL_nil)) fun _ => ?_
          rw [show sameU noU noU = true from rfl]
          simp only [gwL, gwB, gwD, gwE, gwS, gwTT, gwZ, gwN, gwC, Nat.reduceEqDiff, ↓reduceIte, Nat.reduceAdd, Nat.reduceLT, Nat.reduceLeDiff, Nat.reduceMul]
          exact gives_bool' rfl hst
        · have h6 : f = 0 := of_decide_eq_true (not_no h5)
          subst h6
          obtain ⟨h7, h8⟩ := h2 w hp
          simp only [gwL, gwB, gwD, gwE, gwS, gwTT, gwZ, gwN, gwC, Nat.reduceEqDiff, ↓reduceIte, Nat.reduceAdd, Nat.reduceLT, Nat.reduceLeDiff, Nat.reduceMul, encU_len, encU_drop, encU_take, Nat.le_refl, List.append_nil]
          refine (c_Bytes w _).use (wkL_refl _) fun _ => ?_
          rw [h8]
          simp only [bytesR]
          simp only [gwL, gwB, gwD, gwE, gwS, gwTT, gwZ, gwN, gwC, Nat.reduceEqDiff, ↓reduceIte, Nat.reduceAdd, Nat.reduceLT, Nat.reduceLeDiff, Nat.reduceMul, encU_len, encU_drop, encU_take, Nat.le_refl, List.append_nil]
          refine (c_object_Wrong w _).use (wkL_refl _) fun _ => ?_
          rw [h7]
          simp only [gwL, gwB, gwD, gwE, gwS, gwTT, gwZ, gwN, gwC, Nat.reduceEqDiff, ↓reduceIte, Nat.reduceAdd, Nat.reduceLT, Nat.reduceLeDiff, Nat.reduceMul, show decide ((0 : Int) = 0) = true from rfl]
          refine rK_guarded (.bool (decide (b = b))) (fun _ => c_sameB b b _) ?_
          simp only [gwL, gwB, gwD, gwE, gwS, gwTT, gwZ, gwN, gwC, Nat.reduceEqDiff, ↓reduceIte, Nat.reduceAdd, Nat.reduceLT, Nat.reduceLeDiff, Nat.reduceMul, decide_true]
          exact gives_bool' rfl hst
    · rw [h]
      simp only [gwL, gwB, gwD, gwE, gwS, gwTT, gwZ, gwN, gwC, Nat.reduceEqDiff, ↓reduceIte, Nat.reduceAdd, Nat.reduceLT, Nat.reduceLeDiff, Nat.reduceMul]
      refine (c_Parse b _).use (wkL_refl _) fun _ => ?_
      cases hp : rUnit b with
      | mk w f =>
        simp only [unitR]
        simp only [gwL, gwB, gwD, gwE, gwS, gwTT, gwZ, gwN, gwC, Nat.reduceEqDiff, ↓reduceIte, Nat.reduceAdd, Nat.reduceLT, Nat.reduceLeDiff, Nat.reduceMul, encU_len, encU_drop, encU_take, Nat.le_refl, List.append_nil]
        refine iK_split (fun h5 => ?_) (fun h5 => ?_)
        · have h6 : f ≠ 0 := of_decide_eq_false (not_yes h5)
          have h7 := h3 w f hp h6
          subst h7
          simp only [gwL, gwB, gwD, gwE, gwS, gwTT, gwZ, gwN, gwC, Nat.reduceEqDiff, ↓reduceIte, Nat.reduceAdd, Nat.reduceLT, Nat.reduceLeDiff, Nat.reduceMul, encU_len, encU_drop, encU_take, Nat.le_refl, List.append_nil]
          refine (c_SameUnit noU noU _).use (wkL_cons (wk_refl _) (wkL_cons (wk_agg (wkL_cons (wk_refl _) (wkL_cons (wk_nils _) wkL_nil))) wkL_nil)) fun _ => ?_
          rw [show sameU noU noU = true from rfl]
          simp only [gwL, gwB, gwD, gwE, gwS, gwTT, gwZ, gwN, gwC, Nat.reduceEqDiff, ↓reduceIte, Nat.reduceAdd, Nat.reduceLT, Nat.reduceLeDiff, Nat.reduceMul]
          exact gives_bool' rfl hst
        · have h6 : f = 0 := of_decide_eq_true (not_no h5)
          subst h6
          obtain ⟨h7, h8⟩ := h2 w hp
          simp only [gwL, gwB, gwD, gwE, gwS, gwTT, gwZ, gwN, gwC, Nat.reduceEqDiff, ↓reduceIte, Nat.reduceAdd, Nat.reduceLT, Nat.reduceLeDiff, Nat.reduceMul, encU_len, encU_drop, encU_take, Nat.le_refl, List.append_nil]
          refine (c_Bytes w _).use (wkL_refl _) fun _ => ?_
          rw [h8]
          simp only [bytesR]
          simp only [gwL, gwB, gwD, gwE, gwS, gwTT, gwZ, gwN, gwC, Nat.reduceEqDiff, ↓reduceIte, Nat.reduceAdd, Nat.reduceLT, Nat.reduceLeDiff, Nat.reduceMul, encU_len, encU_drop, encU_take, Nat.le_refl, List.append_nil]
          refine (c_object_Wrong w _).use (wkL_refl _) fun _ => ?_
          rw [h7]
          simp only [gwL, gwB, gwD, gwE, gwS, gwTT, gwZ, gwN, gwC, Nat.reduceEqDiff, ↓reduceIte, Nat.reduceAdd, Nat.reduceLT, Nat.reduceLeDiff, Nat.reduceMul, show decide ((0 : Int) = 0) = true from rfl]
          refine rK_guarded (.bool (decide (b = b))) (fun _ => c_sameB b b _) ?_
          simp only [gwL, gwB, gwD, gwE, gwS, gwTT, gwZ, gwN, gwC, Nat.reduceEqDiff, ↓reduceIte, Nat.reduceAdd, Nat.reduceLT, Nat.reduceLeDiff, Nat.reduceMul, decide_true]
          exact gives_bool' rfl hst

theorem eK_free0 {P : Program} {T : Nat → TI} {an : Nat → Nat} {L : List Nat} {ds : List Deferred} {f : FuncId} {args : List V} {dst : Option Tmp} {all : Array Oper} {os : List Oper} {cs : List Nat} {env : Env} {st : St} {k : Kont} {Q : VExit → Env → St → Prop} (v : V)
    (h2 : dK P T an L ds all os cs (env.put L dst false v) st k Q) : eK P T an L ds (.call f args) false 0 dst all os cs env st k Q := ⟨v, (fun hg => absurd hg Bool.false_ne_true), h2⟩
theorem c_ObjectUnlike (u v : Unit') (h1 : ∀ x y, bytesW u = (x, 0) → bytesW v = (y, 0) → BareOk u ∧ BareOk v ∧ decide (x = y) = sameU (bareU u) (bareU v)) (st : St) :
    VCalls Tryd.prog TT 4 [.agg (encU u), .agg (encU v)] st fun r st' => r = .ret (.bool true) ∧ st' = st := by
  refine vfun TT_ok (an := anL [(2, 1), (3, 1)]) (L := [0, 1, 2, 3, 4, 5, 6, 7, 8]) (rs := [.tmp 4]) Tryd.func4 rfl (by kernel_rfl) rfl Tryd.ntmps4 rfl rfl (Nat.le_refl _) fun hst ha hf => ?_
  simp only [gwL, gwB, gwD, gwE, gwS, gwTT, gwZ, gwN, gwC, Nat.reduceEqDiff, ↓reduceIte, Nat.reduceAdd, Nat.reduceLT, Nat.reduceLeDiff, Nat.reduceMul]
  refine (c_alive9 st).use (wkL_refl _) fun _ => ?_
  simp only [gwL, gwB, gwD, gwE, gwS, gwTT, gwZ, gwN, gwC, Nat.reduceEqDiff, ↓reduceIte, Nat.reduceAdd, Nat.reduceLT, Nat.reduceLeDiff, Nat.reduceMul, Bool.not_true, encU_len, encU_drop, encU_take, Nat.le_refl]
  refine (c_Bytes u st).use (wkL_refl _) fun _ => ?_
  cases hb : bytesW u with
  | mk x e =>
    simp only [bytesR]
    simp only [gwL, gwB, gwD, gwE, gwS, gwTT, gwZ, gwN, gwC, Nat.reduceEqDiff, ↓reduceIte, Nat.reduceAdd, Nat.reduceLT, Nat.reduceLeDiff, Nat.reduceMul, encU_len, encU_drop, encU_take, Nat.le_refl]
    refine (c_Bytes v st).use (wkL_refl _) fun _ => ?_
    cases hc : bytesW v with
    | mk y f =>
      simp only [bytesR]
      simp only [gwL, gwB, gwD, gwE, gwS, gwTT, gwZ, gwN, gwC, Nat.reduceEqDiff, ↓reduceIte, Nat.reduceAdd, Nat.reduceLT, Nat.reduceLeDiff, Nat.reduceMul, encU_len, encU_drop, encU_take, Nat.le_refl]
      refine vdraw TT_ok TT_mixed [0, 0, 0, 0, 0, 0, 0, 0, 0, 0, 0, 0, 0, 0, 0, 0, 0, 0] (by kernel_rfl) ?_
      cases he : decide (e = 0) with
      | false =>
        simp only [gwL, gwB, gwD, gwE, gwS, gwTT, gwZ, gwN, gwC, Nat.reduceEqDiff, ↓reduceIte, Nat.reduceAdd, Nat.reduceLT, Nat.reduceLeDiff, Nat.reduceMul, he, Bool.not_false, Bool.not_true, encU_len, encU_drop, encU_take, Nat.le_refl]
        refine eK_free0 (.bool true) ?_
        simp only [gwL, gwB, gwD, gwE, gwS, gwTT, gwZ, gwN, gwC, Nat.reduceEqDiff, ↓reduceIte, Nat.reduceAdd, Nat.reduceLT, Nat.reduceLeDiff, Nat.reduceMul, encU_len, encU_drop, encU_take, Nat.le_refl]
        refine eK_free0 (.agg (encU noU)) ?_
        simp only [gwL, gwB, gwD, gwE, gwS, gwTT, gwZ, gwN, gwC, Nat.reduceEqDiff, ↓reduceIte, Nat.reduceAdd, Nat.reduceLT, Nat.reduceLeDiff, Nat.reduceMul, encU_len, encU_drop, encU_take, Nat.le_refl]
        refine eK_free0 (.agg (encU noU)) ?_
        simp only [gwL, gwB, gwD, gwE, gwS, gwTT, gwZ, gwN, gwC, Nat.reduceEqDiff, ↓reduceIte, Nat.reduceAdd, Nat.reduceLT, Nat.reduceLeDiff, Nat.reduceMul, encU_len, encU_drop, encU_take, Nat.le_refl]
        refine eK_free0 (.bool true) ?_
        simp only [gwL, gwB, gwD, gwE, gwS, gwTT, gwZ, gwN, gwC, Nat.reduceEqDiff, ↓reduceIte, Nat.reduceAdd, Nat.reduceLT, Nat.reduceLeDiff, Nat.reduceMul, encU_len, encU_drop, encU_take, Nat.le_refl]
        exact gives_bool rfl hst
      | true =>
        cases hf2 : decide (f = 0) with
        | false =>
          simp only [gwL, gwB, gwD, gwE, gwS, gwTT, gwZ, gwN, gwC, Nat.reduceEqDiff, ↓reduceIte, Nat.reduceAdd, Nat.reduceLT, Nat.reduceLeDiff, Nat.reduceMul, he, hf2, Bool.not_false, Bool.not_true, encU_len, encU_drop, encU_take, Nat.le_refl]
          refine eK_free0 (.bool true) ?_
          simp only [gwL, gwB, gwD, gwE, gwS, gwTT, gwZ, gwN, gwC, Nat.reduceEqDiff, ↓reduceIte, Nat.reduceAdd, Nat.reduceLT, Nat.reduceLeDiff, Nat.reduceMul, encU_len, encU_drop, encU_take, Nat.le_refl]
          refine eK_free0 (.agg (encU noU)) ?_
          simp only [gwL, gwB, gwD, gwE, gwS, gwTT, gwZ, gwN, gwC, Nat.reduceEqDiff, ↓reduceIte, Nat.reduceAdd, Nat.reduceLT, Nat.reduceLeDiff, Nat.reduceMul, encU_len, encU_drop, encU_take, Nat.le_refl]
          refine eK_free0 (.agg (encU noU)) ?_
          simp only [gwL, gwB, gwD, gwE, gwS, gwTT, gwZ, gwN, gwC, Nat.reduceEqDiff, ↓reduceIte, Nat.reduceAdd, Nat.reduceLT, Nat.reduceLeDiff, Nat.reduceMul, encU_len, encU_drop, encU_take, Nat.le_refl]
          refine eK_free0 (.bool true) ?_
          simp only [gwL, gwB, gwD, gwE, gwS, gwTT, gwZ, gwN, gwC, Nat.reduceEqDiff, ↓reduceIte, Nat.reduceAdd, Nat.reduceLT, Nat.reduceLeDiff, Nat.reduceMul, encU_len, encU_drop, encU_take, Nat.le_refl]
          exact gives_bool rfl hst
        | true =>
          have he0 := of_decide_eq_true he
          have hf0 := of_decide_eq_true hf2
          subst he0
          subst hf0
          obtain ⟨k1, k2, k3⟩ := h1 x y hb hc
          simp only [gwL, gwB, gwD, gwE, gwS, gwTT, gwZ, gwN, gwC, Nat.reduceEqDiff, ↓reduceIte, Nat.reduceAdd, Nat.reduceLT, Nat.reduceLeDiff, Nat.reduceMul, he, hf2, Bool.not_false, Bool.not_true, encU_len, encU_drop, encU_take, Nat.le_refl]
          refine eK_free (fun st => c_sameB x y st) (wkL_refl _) ?_
          simp only [gwL, gwB, gwD, gwE, gwS, gwTT, gwZ, gwN, gwC, Nat.reduceEqDiff, ↓reduceIte, Nat.reduceAdd, Nat.reduceLT, Nat.reduceLeDiff, Nat.reduceMul, encU_len, encU_drop, encU_take, Nat.le_refl]
          refine eK_free (fun st => c_ref8_Bare u k1 st) (wkL_refl _) ?_
          simp only [gwL, gwB, gwD, gwE, gwS, gwTT, gwZ, gwN, gwC, Nat.reduceEqDiff, ↓reduceIte, Nat.reduceAdd, Nat.reduceLT, Nat.reduceLeDiff, Nat.reduceMul, encU_len, encU_drop, encU_take, Nat.le_refl]
          refine eK_free (fun st => c_ref8_Bare v k2 st) (wkL_refl _) ?_
          simp only [gwL, gwB, gwD, gwE, gwS, gwTT, gwZ, gwN, gwC, Nat.reduceEqDiff, ↓reduceIte, Nat.reduceAdd, Nat.reduceLT, Nat.reduceLeDiff, Nat.reduceMul, encU_len, encU_drop, encU_take, Nat.le_refl]
          refine eK_free (fun st => c_SameUnit (bareU u) (bareU v) st) (wkL_refl _) ?_
          rw [k3]
          simp only [gwL, gwB, gwD, gwE, gwS, gwTT, gwZ, gwN, gwC, Nat.reduceEqDiff, ↓reduceIte, Nat.reduceAdd, Nat.reduceLT, Nat.reduceLeDiff, Nat.reduceMul, encU_len, encU_drop, encU_take, Nat.le_refl, decide_true]
          exact gives_bool (beq_self_eq_true _) hst
end Go.Proofs.YtcdnooalfkbmgaaDoor.Gx

namespace Go.Proofs.YtcdnooalfkbmgaaDoor.Gx
open Go Go.Proofs.YtcdnooalfkbmgaaDoor.Gw
set_option linter.unusedSimpArgs false
set_option linter.unusedVariables false

theorem rNum_ok {s r : RS} {n : Int} (h : rNum s = (n, r)) (h2 : r.2 = false) : s.2 = false ∧ s.1 = numB n ++ r.1 := by
  obtain ⟨t, v⟩ := s
  unfold rNum at h
  simp only at h
  cases hn : numR t with
  | mk m x =>
    obtain ⟨x, w⟩ := x
    rw [hn] at h
    simp only [Prod.mk.injEq] at h
    obtain ⟨rfl, rfl⟩ := h
    simp only [Bool.or_eq_false_iff] at h2
    obtain ⟨rfl, rfl⟩ := h2
    exact ⟨rfl, (numB_numR hn).1⟩
theorem rFew_ok {s r : RS} {k : Nat} (h : rFew s = (k, r)) (h2 : r.2 = false) : s.2 = false ∧ s.1 = numB k ++ r.1 ∧ k ≤ r.1.length := by
  have hle := (rFew_le s).2
  rw [h] at hle
  unfold rFew at h
  cases hn : rNum s with
  | mk m x =>
    rw [hn] at h
    simp only at h
    cases e : decide (m < 0) || decide ((x.1.length : Int) < m) with
    | true => rw [e] at h; simp only [cond_true, Prod.mk.injEq] at h; obtain ⟨rfl, rfl⟩ := h; simp at h2
    | false =>
      rw [e] at h
      simp only [cond_false, Prod.mk.injEq] at h
      obtain ⟨rfl, rfl⟩ := h
      obtain ⟨h3, h4⟩ := rNum_ok hn h2
      simp only [Bool.or_eq_false_iff, decide_eq_false_iff_not] at e
      rw [show ((m.toNat : Nat) : Int) = m by omega]
      exact ⟨h3, h4, hle⟩
theorem rStr_ok {s r : RS} {t : Str} (h : rStr s = (t, r)) (h2 : r.2 = false) : s.2 = false ∧ s.1 = strB t ++ r.1 := by
  unfold rStr at h
  cases hn : rFew s with
  | mk k x =>
    rw [hn] at h
    simp only [Prod.mk.injEq] at h
    obtain ⟨rfl, rfl⟩ := h
    obtain ⟨h3, h4, h5⟩ := rFew_ok hn h2
    refine ⟨h3, ?_⟩
    rw [h4, strB, List.length_take, Nat.min_eq_left h5, List.append_assoc, List.take_append_drop]
theorem quoteOk_some {t : Str} {d : Datum} (h : quoteOk t = some d) : printL [d] = (t, (0, 0)) ∧ readR t = .inr [d] := by
  unfold quoteOk at h
  cases hr : readR t with
  | inl f => rw [hr] at h; cases h
  | inr l =>
    rw [hr] at h
    cases l with
    | nil => cases h
    | cons a m =>
      cases m with
      | cons c m => cases h
      | nil =>
        simp only at h
        cases e : decide (printL [a] = (t, ((0 : Int), (0 : Int)))) with
        | false => rw [e] at h; cases h
        | true =>
          rw [e] at h
          simp only [cond_true, Option.some.injEq] at h
          subst h
          exact ⟨of_decide_eq_true e, rfl⟩
theorem rQuote_ok {s r : RS} {d : Datum} (h : rQuote s = (d, r)) (h2 : r.2 = false) : s.2 = false ∧ s.1 = strB (printL [d]).1 ++ r.1 ∧ (printL [d]).2.1 = 0 := by
  unfold rQuote at h
  cases hn : rStr s with
  | mk t x =>
    rw [hn] at h
    simp only at h
    cases hq : quoteOk t with
    | none => rw [hq] at h; simp only [Prod.mk.injEq] at h; obtain ⟨rfl, rfl⟩ := h; simp at h2
    | some e =>
      rw [hq] at h
      simp only [Prod.mk.injEq] at h
      obtain ⟨rfl, rfl⟩ := h
      obtain ⟨h3, h4⟩ := rStr_ok hn h2
      rw [(quoteOk_some hq).1]
      exact ⟨h3, h4, rfl⟩
theorem rIns_ok {s r : RS} {i : Ins} (h : rIns s = (i, r)) (h2 : r.2 = false) : s.2 = false ∧ s.1 = (insW i).1 ++ r.1 ∧ (insW i).2 = 0 := by
  unfold rIns at h
  cases hn : rNum s with
  | mk op x =>
    rw [hn] at h
    simp only at h
    cases e0 : decide (op < 1) || decide (15 < op) with
    | true => rw [e0] at h; simp only [cond_true, Prod.mk.injEq] at h; obtain ⟨rfl, rfl⟩ := h; simp at h2
    | false =>
      rw [e0] at h
      simp only [cond_false] at h
      unfold insW
      cases e1 : decide (op = 1) || decide (op = 2) with
      | true =>
        rw [e1] at h
        cases hm : rNum x with
        | mk n y =>
          rw [hm] at h
          simp only [cond_true, Prod.mk.injEq] at h
          obtain ⟨rfl, rfl⟩ := h
          obtain ⟨k1, k2⟩ := rNum_ok hm h2
          obtain ⟨k3, k4⟩ := rNum_ok hn k1
          simp only [e1, cond_true]
          exact ⟨k3, by rw [k4, k2, List.append_assoc], trivial⟩
      | false =>
        rw [e1] at h
        simp only [cond_false] at h
        cases e2 : decide (op = 3) with
        | true =>
          rw [e2] at h
          cases hm : rQuote x with
          | mk n y =>
            rw [hm] at h
            simp only [cond_true, Prod.mk.injEq] at h
            obtain ⟨rfl, rfl⟩ := h
            obtain ⟨k1, k2, k5⟩ := rQuote_ok hm h2
            obtain ⟨k3, k4⟩ := rNum_ok hn k1
            simp only [e1, e2, cond_true, cond_false]
            exact ⟨k3, by rw [k4, k2, List.append_assoc], k5⟩
        | false =>
          rw [e2] at h
          simp only [cond_false] at h
          cases e3 : decide (op = 5) || decide (op = 12) || decide (op = 13) with
          | true =>
            rw [e3] at h
            cases hm : rStr x with
            | mk l y =>
              cases hm2 : rStr y with
              | mk o z =>
                rw [hm] at h
                simp only [hm2, cond_true, Prod.mk.injEq] at h
                obtain ⟨rfl, rfl⟩ := h
                obtain ⟨k5, k6⟩ := rStr_ok hm2 h2
                obtain ⟨k1, k2⟩ := rStr_ok hm k5
                obtain ⟨k3, k4⟩ := rNum_ok hn k1
                simp only [e1, e2, e3, cond_true, cond_false]
                exact ⟨k3, by rw [k4, k2, k6]; simp only [List.append_assoc], trivial⟩
          | false =>
            rw [e3] at h
            simp only [cond_false] at h
            cases e4 : decide (op = 6) with
            | true =>
              rw [e4] at h
              cases hm : rStr x with
              | mk o y =>
                rw [hm] at h
                simp only [cond_true, Prod.mk.injEq] at h
                obtain ⟨rfl, rfl⟩ := h
                obtain ⟨k1, k2⟩ := rStr_ok hm h2
                obtain ⟨k3, k4⟩ := rNum_ok hn k1
                simp only [e1, e2, e3, e4, cond_true, cond_false]
                exact ⟨k3, by rw [k4, k2, List.append_assoc], trivial⟩
            | false =>
              rw [e4] at h
              simp only [cond_false] at h
              cases e5 : decide (op = 14) || decide (op = 15) with
              | true =>
                rw [e5] at h
                simp only [cond_true, Prod.mk.injEq] at h
                obtain ⟨rfl, rfl⟩ := h
                obtain ⟨k3, k4⟩ := rNum_ok hn h2
                simp only [e1, e2, e3, e4, e5, cond_true, cond_false]
                exact ⟨k3, k4, trivial⟩
              | false =>
                rw [e5] at h
                cases hm : rNum x with
                | mk n y =>
                  rw [hm] at h
                  simp only [cond_false, Prod.mk.injEq] at h
                  obtain ⟨rfl, rfl⟩ := h
                  obtain ⟨k1, k2⟩ := rNum_ok hm h2
                  obtain ⟨k3, k4⟩ := rNum_ok hn k1
                  simp only [e1, e2, e3, e4, e5, cond_false]
                  exact ⟨k3, by rw [k4, k2, List.append_assoc], trivial⟩
theorem codeW_cons_ok {i : Ins} {l : List Ins} (h : (insW i).2 = 0) : codeW (i :: l) = ((insW i).1 ++ (codeW l).1, (codeW l).2) := by
  simp only [codeW, h, decide_true, cond_true]
theorem rCode_ok : ∀ (k : Nat) (acc : List Ins) (s : RS) (c : List Ins) (r : RS), rCode k acc s = (c, r) → r.2 = false → s.2 = false ∧ ∃ l, c = acc ++ l ∧ l.length = k ∧ (codeW l).2 = 0 ∧ s.1 = (codeW l).1 ++ r.1
  | 0, acc, s, c, r, h, h2 => by
    simp only [rCode, Prod.mk.injEq] at h
    obtain ⟨rfl, rfl⟩ := h
    exact ⟨h2, [], by simp, rfl, rfl, rfl⟩
  | k + 1, acc, (t, true), c, r, h, h2 => by
    simp only [rCode, cond_true, Prod.mk.injEq] at h
    obtain ⟨rfl, rfl⟩ := h
    cases h2
  | k + 1, acc, (t, false), c, r, h, h2 => by
    rw [rCode_step] at h
    cases hi : rIns (t, false) with
    | mk i x =>
      rw [hi] at h
      obtain ⟨k1, l, rfl, k2, k3, k4⟩ := rCode_ok k (acc ++ [i]) x c r h h2
      obtain ⟨k5, k6, k7⟩ := rIns_ok hi k1
      refine ⟨rfl, i :: l, by simp, by simp [k2], ?_, ?_⟩
      · rw [codeW_cons_ok k7]; exact k3
      · rw [codeW_cons_ok k7, k6, k4, List.append_assoc]
theorem rProto_ok {s r : RS} {p : Pr} (h : rProto s = (p, r)) (h2 : r.2 = false) : s.2 = false ∧ (codeW p.code).2 = 0 ∧ s.1 = headW p ++ (codeW p.code).1 ++ r.1 := by
  unfold rProto at h
  cases h1 : rNum s with
  | mk a x =>
    rw [h1] at h
    simp only at h
    cases h3 : rFew x with
    | mk k y =>
      rw [h3] at h
      simp only at h
      cases h4 : rCode k [] y with
      | mk c z =>
        rw [h4] at h
        simp only [Prod.mk.injEq] at h
        obtain ⟨rfl, rfl⟩ := h
        obtain ⟨k1, l, k0, k2, k3, k4⟩ := rCode_ok k [] y c z h4 h2
        rw [List.nil_append] at k0
        subst k0
        obtain ⟨k5, k6, _⟩ := rFew_ok h3 k1
        obtain ⟨k7, k8⟩ := rNum_ok h1 k5
        refine ⟨k7, k3, ?_⟩
        simp only [headW]
        rw [k8, k6, k4, k2]
        simp only [List.append_assoc]
theorem protosW_cons_ok {p : Pr} {l : List Pr} (h : (codeW p.code).2 = 0) : protosW (p :: l) = (headW p ++ (codeW p.code).1 ++ (protosW l).1, (protosW l).2) := by
  simp only [protosW, h, decide_true, cond_true]
theorem rProtos_ok : ∀ (k : Nat) (acc : List Pr) (s : RS) (c : List Pr) (r : RS), rProtos k acc s = (c, r) → r.2 = false → s.2 = false ∧ ∃ l, c = acc ++ l ∧ l.length = k ∧ (protosW l).2 = 0 ∧ s.1 = (protosW l).1 ++ r.1
  | 0, acc, s, c, r, h, h2 => by
    simp only [rProtos, Prod.mk.injEq] at h
    obtain ⟨rfl, rfl⟩ := h
    exact ⟨h2, [], by simp, rfl, rfl, rfl⟩
  | k + 1, acc, (t, true), c, r, h, h2 => by
    simp only [rProtos, cond_true, Prod.mk.injEq] at h
    obtain ⟨rfl, rfl⟩ := h
    cases h2
  | k + 1, acc, (t, false), c, r, h, h2 => by
    rw [rProtos_step] at h
    cases hi : rProto (t, false) with
    | mk i x =>
      rw [hi] at h
      obtain ⟨k1, l, rfl, k2, k3, k4⟩ := rProtos_ok k (acc ++ [i]) x c r h h2
      obtain ⟨k5, k6, k7⟩ := rProto_ok hi k1
      refine ⟨rfl, i :: l, by simp, by simp [k2], ?_, ?_⟩
      · rw [protosW_cons_ok k6]; exact k3
      · rw [protosW_cons_ok k6, k7, k4]; simp only [List.append_assoc]
theorem rUnit_bad {b : Str} {v : Unit'} {e : Int} (h : rUnit b = (v, e)) (he : e ≠ 0) : v = noU := by
  unfold rUnit at h
  cases h1 : decide ((60000 : Int) < b.length) with
  | true => rw [h1] at h; simp only [cond_true, Prod.mk.injEq] at h; exact h.1.symm
  | false =>
    rw [h1] at h
    simp only [cond_false] at h
    cases h2 : (rBody b).2.2 || !(rBody b).2.1.isEmpty with
    | true => rw [h2] at h; simp only [cond_true, Prod.mk.injEq] at h; exact h.1.symm
    | false =>
      rw [h2] at h
      simp only [cond_false] at h
      cases h3 : decide (unitE (rBody b).1 = 0) with
      | true => rw [h3] at h; simp only [cond_true, Prod.mk.injEq] at h; exact absurd h.2.symm he
      | false => rw [h3] at h; simp only [cond_false, Prod.mk.injEq] at h; exact h.1.symm
/-- Bytes that are read are those of their unit. -/
theorem rUnit_ok {b : Str} {v : Unit'} (h : rUnit b = (v, 0)) : unitE v = 0 ∧ bytesW v = (b, 0) := by
  unfold rUnit at h
  cases h1 : decide ((60000 : Int) < b.length) with
  | true => rw [h1] at h; simp at h
  | false =>
    rw [h1] at h
    simp only [cond_false] at h
    cases h2 : (rBody b).2.2 || !(rBody b).2.1.isEmpty with
    | true => rw [h2] at h; simp at h
    | false =>
      rw [h2] at h
      simp only [cond_false] at h
      cases h3 : decide (unitE (rBody b).1 = 0) with
      | false => rw [h3] at h; simp only [cond_false, Prod.mk.injEq] at h; exact absurd h.2 (of_decide_eq_false h3)
      | true =>
        rw [h3] at h
        simp only [cond_true, Prod.mk.injEq, and_true] at h
        simp only [Bool.or_eq_false_iff, Bool.not_eq_false', List.isEmpty_iff] at h2
        have hu := of_decide_eq_true h3
        rw [h] at hu
        refine ⟨hu, ?_⟩
        obtain ⟨g1, g2⟩ := h2
        unfold rBody at g1 g2 h
        cases k1 : rStr (b, false) with
        | mk nm x =>
          rw [k1] at g1 g2 h
          simp only at g1 g2 h
          cases k2 : rFew x with
          | mk k y =>
            rw [k2] at g1 g2 h
            simp only at g1 g2 h
            cases k3 : rProtos k [] y with
            | mk ps z =>
              rw [k3] at g1 g2 h
              simp only at g1 g2 h
              subst h
              obtain ⟨m1, l, m0, m2, m3, m4⟩ := rProtos_ok k [] y ps z k3 g1
              rw [List.nil_append] at m0
              subst m0
              obtain ⟨m5, m6, _⟩ := rFew_ok k2 m1
              obtain ⟨_, m8⟩ := rStr_ok k1 m5
              have hb : unitW ⟨nm, ps⟩ = b := by
                simp only at m8
                rw [m8, m6, m4, g2, unitW, m2]
                simp only [List.append_assoc, List.append_nil]
              have hl : decide (60000 < b.length) = false := by
                rw [decide_eq_false_iff_not] at h1 ⊢; omega
              unfold bytesW
              rw [hu, hb]
              simp only [m3, hl, decide_true, cond_true, cond_false]
end Go.Proofs.YtcdnooalfkbmgaaDoor.Gx

namespace Go.Proofs.YtcdnooalfkbmgaaDoor.Gx
open Go Go.Proofs.YtcdnooalfkbmgaaDoor.Gw
set_option linter.unusedSimpArgs false
set_option linter.unusedVariables false

mutual
theorem bare_norm : ∀ d : Datum, okD d → bareR d = normD d
  | .mk k n nm s l kids, h => by
    simp only [okD] at h
    simp only [bareR, normD]
    rcases h with ⟨rfl, h1, h2⟩ | ⟨rfl, h1⟩ | ⟨rfl, h1, rfl, rfl⟩ | ⟨rfl, h1⟩
    · simp
    · simp
    · simp
    · simp [bare_norms kids h1]
theorem bare_norms : ∀ l : List Datum, okDs l → bareRs l = normDs l
  | [], _ => by simp [normDs, bareRs]
  | d :: r, h => by simp only [normDs, bareRs, bare_norm d h.1, bare_norms r h.2]
end
mutual
theorem text_norm : ∀ d : Datum, okD d → textD (normD d) = textD d
  | .mk k n nm s l kids, h => by
    simp only [okD] at h
    simp only [normD]
    rcases h with ⟨rfl, h1, h2⟩ | ⟨rfl, h1⟩ | ⟨rfl, h1, rfl, rfl⟩ | ⟨rfl, h1⟩
    · simp [textD]
    · simp [textD]
    · simp [textD]
    · simp [textD, text_norms kids h1]
theorem text_norms : ∀ l : List Datum, okDs l → spaced (normDs l) = spaced l
  | [], _ => by simp [normDs, spaced]
  | d :: r, h => by simp only [normDs, spaced, text_norm d h.1, text_norms r h.2]
end
mutual
theorem norm_eq : ∀ a b : Datum, okD a → okD b → eqD (normD a) (normD b) = true → normD a = normD b
  | .mk k n nm s l kids, .mk k' n' nm' s' l' kids', h, h', he => by
    simp only [okD] at h h'
    simp only [normD] at he ⊢
    rcases h with ⟨rfl, h1, h2⟩ | ⟨rfl, h1⟩ | ⟨rfl, h1, rfl, rfl⟩ | ⟨rfl, h1⟩ <;> rcases h' with ⟨rfl, g1, g2⟩ | ⟨rfl, g1⟩ | ⟨rfl, g1, rfl, rfl⟩ | ⟨rfl, g1⟩
    all_goals simp [eqD] at he ⊢
    all_goals first | exact he | exact norms_eq kids kids' h1 g1 he
theorem norms_eq : ∀ a b : List Datum, okDs a → okDs b → eqDs (normDs a) (normDs b) = true → normDs a = normDs b
  | [], [], _, _, _ => rfl
  | [], _ :: _, _, _, he => by simp [normDs, eqDs] at he
  | _ :: _, [], _, _, he => by simp [normDs, eqDs] at he
  | a :: r, b :: r', h, h', he => by
    simp only [normDs, eqDs, Bool.and_eq_true] at he ⊢
    rw [norm_eq a b h.1 h'.1 he.1, norms_eq r r' h.2 h'.2 he.2]
end
mutual
theorem eqD_refl : ∀ d : Datum, eqD d d = true
  | .mk k n nm s l kids => by
    simp only [eqD, decide_true, cond_true, Bool.and_self, eqDs_refl kids]
    cases decide (k = 1) <;> cases decide (k = 2) <;> cases decide (k = 3) <;> cases decide (k = 4) <;> rfl
theorem eqDs_refl : ∀ l : List Datum, eqDs l l = true
  | [] => by simp only [eqDs]
  | a :: r => by simp only [eqDs, eqD_refl a, eqDs_refl r, Bool.and_self]
end
theorem sameL_refl : ∀ l : List Ins, sameL l l = true
  | [] => rfl
  | x :: r => by simp only [sameL, sameI, decide_true, eqD_refl, Bool.and_self, sameL_refl r]
theorem samePs_refl : ∀ l : List Pr, samePs l l = true
  | [] => rfl
  | x :: r => by simp only [samePs, decide_true, sameL_refl, Bool.and_self, samePs_refl r]
theorem sameU_refl (u : Unit') : sameU u u = true := by simp only [sameU, decide_true, samePs_refl, Bool.and_self]

theorem rNum_num {n : Int} (x : Str) (v : Bool) (h0 : -9223372036854775808 ≤ n) (h1 : n ≤ 9223372036854775807) : rNum (numB n ++ x, v) = (n, x, v) := by
  unfold rNum
  rw [numR_numB x h0 h1]
  simp
theorem rFew_num {k : Nat} (x : Str) (v : Bool) (h : k ≤ x.length) (h1 : k ≤ 9223372036854775807) : rFew (numB (k : Int) ++ x, v) = (k, x, v) := by
  have e : (decide ((k : Int) < 0) || decide ((x.length : Int) < k)) = false := by
    simp only [Bool.or_eq_false_iff, decide_eq_false_iff_not]; omega
  unfold rFew
  rw [rNum_num x v (by omega) (by omega)]
  simp only [e, cond_false, Int.toNat_natCast]
theorem rStr_str (t x : Str) (v : Bool) (h1 : t.length ≤ 9223372036854775807) : rStr (strB t ++ x, v) = (t, x, v) := by
  unfold rStr strB
  rw [List.append_assoc, rFew_num _ v (by simp) h1]
  simp
theorem print_norm {q : Datum} (hw : (wrongL [q] 0 0).1 = 0) (h4 : (printL [q]).2.1 = 0) : quoteOk (printL [q]).1 = some (normD q) ∧ (wrongL [normD q] 0 0).1 = 0 := by
  rcases print_right hw with ⟨t, ht⟩ | ht
  · obtain ⟨hr, _⟩ := written ht
    simp only [normDs] at hr
    have hn := right hr
    have ok := (wrong_ok [q] 0 0 (by omega) (by omega) hw).1
    have hp : printL [normD q] = (t, (0, 0)) := by
      rw [← ht]
      unfold printL
      have : textL [normD q] = textL [q] := by simp only [textL, text_norm q ok.1]
      rw [hw, hn, this]
      simp only [decide_true, cond_true]
    refine ⟨?_, hn⟩
    unfold quoteOk
    rw [ht, hr]
    simp only [hp, decide_true, cond_true]
  · rw [ht] at h4; cases h4
/-- What a right instruction has, and no more. -/
structure BareI (i : Ins) : Prop where
  rd : (insW i).2 = 0 → ∀ x : Str, rIns ((insW i).1 ++ x, false) = (bareI i, x, false)
  op : (bareI i).op = i.op
  a : i.op = 4 ∨ i.op = 7 ∨ i.op = 8 ∨ i.op = 9 ∨ i.op = 10 ∨ i.op = 11 → (bareI i).a = i.a
  n : i.op = 1 ∨ i.op = 2 → (bareI i).n = i.n
  q : i.op = 3 → (insW i).2 = 0 → (wrongL [(bareI i).quote] 0 0).1 = 0
  g : i.op = 5 ∨ i.op = 12 ∨ i.op = 13 → (bareI i).lib = i.lib ∧ (bareI i).own = i.own
  p : i.op = 6 → (bareI i).own = i.own
theorem bareI_ok {i : Ins} (h : InsR i) : BareI i := by
  obtain ⟨op, a, n, lb, ow, q⟩ := i
  obtain ⟨h1, h2, h3, h4, h5, h6⟩ := h
  simp only at h1 h2 h3 h4 h5 h6
  have hop : op = 1 ∨ op = 2 ∨ op = 3 ∨ op = 4 ∨ op = 5 ∨ op = 6 ∨ op = 7 ∨ op = 8 ∨ op = 9 ∨ op = 10 ∨ op = 11 ∨ op = 12 ∨ op = 13 ∨ op = 14 ∨ op = 15 := by omega
  have hn : ∀ x : Str, rNum (numB op ++ x, false) = (op, x, false) := fun x => rNum_num x false (by omega) (by omega)
  rcases hop with rfl | rfl | rfl | rfl | rfl | rfl | rfl | rfl | rfl | rfl | rfl | rfl | rfl | rfl | rfl
  · -- 1
    refine ⟨fun hz x => ?_, by simp only [bareI, show kindR 1 = 110 from rfl, Int.reduceEq, Int.reduceLT, decide_true, decide_false, cond_true, cond_false, Bool.or_false, Bool.false_or, Bool.or_self, Bool.true_or, Bool.or_true], fun e => absurd e (by simp), fun _ => by simp only [bareI, show kindR 1 = 110 from rfl, Int.reduceEq, Int.reduceLT, decide_true, decide_false, cond_true, cond_false, Bool.or_false, Bool.false_or, Bool.or_self, Bool.true_or, Bool.or_true], fun e => absurd e (by simp), fun e => absurd e (by simp), fun e => absurd e (by simp)⟩
    · simp only [insW, Int.reduceEq, Int.reduceLT, decide_true, decide_false, cond_true, cond_false, Bool.or_false, Bool.false_or, Bool.or_self, Bool.true_or, Bool.or_true, List.append_assoc] at hz ⊢
      unfold rIns
      rw [hn]
      simp only [Int.reduceEq, Int.reduceLT, decide_true, decide_false, cond_true, cond_false, Bool.or_false, Bool.false_or, Bool.or_self, Bool.true_or, Bool.or_true]
      rw [rNum_num _ _ (by omega) (by omega)]
      simp only [bareI, show kindR 1 = 110 from rfl, Int.reduceEq, Int.reduceLT, decide_true, decide_false, cond_true, cond_false, Bool.or_false, Bool.false_or, Bool.or_self, Bool.true_or, Bool.or_true]
  · -- 2
    refine ⟨fun hz x => ?_, by simp only [bareI, show kindR 2 = 110 from rfl, Int.reduceEq, Int.reduceLT, decide_true, decide_false, cond_true, cond_false, Bool.or_false, Bool.false_or, Bool.or_self, Bool.true_or, Bool.or_true], fun e => absurd e (by simp), fun _ => by simp only [bareI, show kindR 2 = 110 from rfl, Int.reduceEq, Int.reduceLT, decide_true, decide_false, cond_true, cond_false, Bool.or_false, Bool.false_or, Bool.or_self, Bool.true_or, Bool.or_true], fun e => absurd e (by simp), fun e => absurd e (by simp), fun e => absurd e (by simp)⟩
    · simp only [insW, Int.reduceEq, Int.reduceLT, decide_true, decide_false, cond_true, cond_false, Bool.or_false, Bool.false_or, Bool.or_self, Bool.true_or, Bool.or_true, List.append_assoc] at hz ⊢
      unfold rIns
      rw [hn]
      simp only [Int.reduceEq, Int.reduceLT, decide_true, decide_false, cond_true, cond_false, Bool.or_false, Bool.false_or, Bool.or_self, Bool.true_or, Bool.or_true]
      rw [rNum_num _ _ (by omega) (by omega)]
      simp only [bareI, show kindR 2 = 110 from rfl, Int.reduceEq, Int.reduceLT, decide_true, decide_false, cond_true, cond_false, Bool.or_false, Bool.false_or, Bool.or_self, Bool.true_or, Bool.or_true]
  · -- 3
    have ok := (wrong_ok [q] 0 0 (by omega) (by omega) (h3 rfl)).1.1
    refine ⟨fun hz x => ?_, by simp only [bareI, show kindR 3 = 113 from rfl, Int.reduceEq, Int.reduceLT, decide_true, decide_false, cond_true, cond_false, Bool.or_false, Bool.false_or, Bool.or_self, Bool.true_or, Bool.or_true], fun e => absurd e (by simp), fun e => absurd e (by simp), fun _ hz => by simp only [bareI, show kindR 3 = 113 from rfl, Int.reduceEq, Int.reduceLT, decide_true, decide_false, cond_true, cond_false, Bool.or_false, Bool.false_or, Bool.or_self, Bool.true_or, Bool.or_true]; rw [bare_norm q ok]; simp only [insW, Int.reduceEq, Int.reduceLT, decide_true, decide_false, cond_true, cond_false, Bool.or_false, Bool.false_or, Bool.or_self, Bool.true_or, Bool.or_true] at hz; exact (print_norm (h3 rfl) hz).2, fun e => absurd e (by simp), fun e => absurd e (by simp)⟩
    · simp only [insW, Int.reduceEq, Int.reduceLT, decide_true, decide_false, cond_true, cond_false, Bool.or_false, Bool.false_or, Bool.or_self, Bool.true_or, Bool.or_true, List.append_assoc] at hz ⊢
      unfold rIns
      rw [hn]
      simp only [Int.reduceEq, Int.reduceLT, decide_true, decide_false, cond_true, cond_false, Bool.or_false, Bool.false_or, Bool.or_self, Bool.true_or, Bool.or_true]
      rw [show rQuote (strB (printL [q]).1 ++ x, false) = (normD q, x, false) from ?_]
      · simp only [bareI, show kindR 3 = 113 from rfl, Int.reduceEq, Int.reduceLT, decide_true, decide_false, cond_true, cond_false, Bool.or_false, Bool.false_or, Bool.or_self, Bool.true_or, Bool.or_true]
        rw [bare_norm q ok]
      · unfold rQuote
        rw [rStr_str _ _ _ (by have := print_len [q]; omega)]
        simp only [(print_norm (h3 rfl) hz).1]
  · -- 4
    refine ⟨fun hz x => ?_, by simp only [bareI, show kindR 4 = 108 from rfl, Int.reduceEq, Int.reduceLT, decide_true, decide_false, cond_true, cond_false, Bool.or_false, Bool.false_or, Bool.or_self, Bool.true_or, Bool.or_true], fun _ => by simp only [bareI, show kindR 4 = 108 from rfl, Int.reduceEq, Int.reduceLT, decide_true, decide_false, cond_true, cond_false, Bool.or_false, Bool.false_or, Bool.or_self, Bool.true_or, Bool.or_true], fun e => absurd e (by simp), fun e => absurd e (by simp), fun e => absurd e (by simp), fun e => absurd e (by simp)⟩
    · simp only [insW, Int.reduceEq, Int.reduceLT, decide_true, decide_false, cond_true, cond_false, Bool.or_false, Bool.false_or, Bool.or_self, Bool.true_or, Bool.or_true, List.append_assoc] at hz ⊢
      unfold rIns
      rw [hn]
      simp only [Int.reduceEq, Int.reduceLT, decide_true, decide_false, cond_true, cond_false, Bool.or_false, Bool.false_or, Bool.or_self, Bool.true_or, Bool.or_true]
      rw [rNum_num _ _ (by omega) (by omega)]
      simp only [bareI, show kindR 4 = 108 from rfl, Int.reduceEq, Int.reduceLT, decide_true, decide_false, cond_true, cond_false, Bool.or_false, Bool.false_or, Bool.or_self, Bool.true_or, Bool.or_true]
  · -- 5
    refine ⟨fun hz x => ?_, by simp only [bareI, show kindR 5 = 103 from rfl, Int.reduceEq, Int.reduceLT, decide_true, decide_false, cond_true, cond_false, Bool.or_false, Bool.false_or, Bool.or_self, Bool.true_or, Bool.or_true], fun e => absurd e (by simp), fun e => absurd e (by simp), fun e => absurd e (by simp), fun _ => by constructor <;> simp only [bareI, show kindR 5 = 103 from rfl, Int.reduceEq, Int.reduceLT, decide_true, decide_false, cond_true, cond_false, Bool.or_false, Bool.false_or, Bool.or_self, Bool.true_or, Bool.or_true], fun e => absurd e (by simp)⟩
    · simp only [insW, Int.reduceEq, Int.reduceLT, decide_true, decide_false, cond_true, cond_false, Bool.or_false, Bool.false_or, Bool.or_self, Bool.true_or, Bool.or_true, List.append_assoc] at hz ⊢
      unfold rIns
      rw [hn]
      simp only [Int.reduceEq, Int.reduceLT, decide_true, decide_false, cond_true, cond_false, Bool.or_false, Bool.false_or, Bool.or_self, Bool.true_or, Bool.or_true]
      rw [rStr_str _ _ _ (by omega)]
      simp only
      rw [rStr_str _ _ _ (by omega)]
      simp only [bareI, show kindR 5 = 103 from rfl, Int.reduceEq, Int.reduceLT, decide_true, decide_false, cond_true, cond_false, Bool.or_false, Bool.false_or, Bool.or_self, Bool.true_or, Bool.or_true]
  · -- 6
    refine ⟨fun hz x => ?_, by simp only [bareI, show kindR 6 = 112 from rfl, Int.reduceEq, Int.reduceLT, decide_true, decide_false, cond_true, cond_false, Bool.or_false, Bool.false_or, Bool.or_self, Bool.true_or, Bool.or_true], fun e => absurd e (by simp), fun e => absurd e (by simp), fun e => absurd e (by simp), fun e => absurd e (by simp), fun _ => by simp only [bareI, show kindR 6 = 112 from rfl, Int.reduceEq, Int.reduceLT, decide_true, decide_false, cond_true, cond_false, Bool.or_false, Bool.false_or, Bool.or_self, Bool.true_or, Bool.or_true]⟩
    · simp only [insW, Int.reduceEq, Int.reduceLT, decide_true, decide_false, cond_true, cond_false, Bool.or_false, Bool.false_or, Bool.or_self, Bool.true_or, Bool.or_true, List.append_assoc] at hz ⊢
      unfold rIns
      rw [hn]
      simp only [Int.reduceEq, Int.reduceLT, decide_true, decide_false, cond_true, cond_false, Bool.or_false, Bool.false_or, Bool.or_self, Bool.true_or, Bool.or_true]
      rw [rStr_str _ _ _ (by omega)]
      simp only [bareI, show kindR 6 = 112 from rfl, Int.reduceEq, Int.reduceLT, decide_true, decide_false, cond_true, cond_false, Bool.or_false, Bool.false_or, Bool.or_self, Bool.true_or, Bool.or_true]
  · -- 7
    refine ⟨fun hz x => ?_, by simp only [bareI, show kindR 7 = 99 from rfl, Int.reduceEq, Int.reduceLT, decide_true, decide_false, cond_true, cond_false, Bool.or_false, Bool.false_or, Bool.or_self, Bool.true_or, Bool.or_true], fun _ => by simp only [bareI, show kindR 7 = 99 from rfl, Int.reduceEq, Int.reduceLT, decide_true, decide_false, cond_true, cond_false, Bool.or_false, Bool.false_or, Bool.or_self, Bool.true_or, Bool.or_true], fun e => absurd e (by simp), fun e => absurd e (by simp), fun e => absurd e (by simp), fun e => absurd e (by simp)⟩
    · simp only [insW, Int.reduceEq, Int.reduceLT, decide_true, decide_false, cond_true, cond_false, Bool.or_false, Bool.false_or, Bool.or_self, Bool.true_or, Bool.or_true, List.append_assoc] at hz ⊢
      unfold rIns
      rw [hn]
      simp only [Int.reduceEq, Int.reduceLT, decide_true, decide_false, cond_true, cond_false, Bool.or_false, Bool.false_or, Bool.or_self, Bool.true_or, Bool.or_true]
      rw [rNum_num _ _ (by omega) (by omega)]
      simp only [bareI, show kindR 7 = 99 from rfl, Int.reduceEq, Int.reduceLT, decide_true, decide_false, cond_true, cond_false, Bool.or_false, Bool.false_or, Bool.or_self, Bool.true_or, Bool.or_true]
  · -- 8
    refine ⟨fun hz x => ?_, by simp only [bareI, show kindR 8 = 97 from rfl, Int.reduceEq, Int.reduceLT, decide_true, decide_false, cond_true, cond_false, Bool.or_false, Bool.false_or, Bool.or_self, Bool.true_or, Bool.or_true], fun _ => by simp only [bareI, show kindR 8 = 97 from rfl, Int.reduceEq, Int.reduceLT, decide_true, decide_false, cond_true, cond_false, Bool.or_false, Bool.false_or, Bool.or_self, Bool.true_or, Bool.or_true], fun e => absurd e (by simp), fun e => absurd e (by simp), fun e => absurd e (by simp), fun e => absurd e (by simp)⟩
    · simp only [insW, Int.reduceEq, Int.reduceLT, decide_true, decide_false, cond_true, cond_false, Bool.or_false, Bool.false_or, Bool.or_self, Bool.true_or, Bool.or_true, List.append_assoc] at hz ⊢
      unfold rIns
      rw [hn]
      simp only [Int.reduceEq, Int.reduceLT, decide_true, decide_false, cond_true, cond_false, Bool.or_false, Bool.false_or, Bool.or_self, Bool.true_or, Bool.or_true]
      rw [rNum_num _ _ (by omega) (by omega)]
      simp only [bareI, show kindR 8 = 97 from rfl, Int.reduceEq, Int.reduceLT, decide_true, decide_false, cond_true, cond_false, Bool.or_false, Bool.false_or, Bool.or_self, Bool.true_or, Bool.or_true]
  · -- 9
    refine ⟨fun hz x => ?_, by simp only [bareI, show kindR 9 = 106 from rfl, Int.reduceEq, Int.reduceLT, decide_true, decide_false, cond_true, cond_false, Bool.or_false, Bool.false_or, Bool.or_self, Bool.true_or, Bool.or_true], fun _ => by simp only [bareI, show kindR 9 = 106 from rfl, Int.reduceEq, Int.reduceLT, decide_true, decide_false, cond_true, cond_false, Bool.or_false, Bool.false_or, Bool.or_self, Bool.true_or, Bool.or_true], fun e => absurd e (by simp), fun e => absurd e (by simp), fun e => absurd e (by simp), fun e => absurd e (by simp)⟩
    · simp only [insW, Int.reduceEq, Int.reduceLT, decide_true, decide_false, cond_true, cond_false, Bool.or_false, Bool.false_or, Bool.or_self, Bool.true_or, Bool.or_true, List.append_assoc] at hz ⊢
      unfold rIns
      rw [hn]
      simp only [Int.reduceEq, Int.reduceLT, decide_true, decide_false, cond_true, cond_false, Bool.or_false, Bool.false_or, Bool.or_self, Bool.true_or, Bool.or_true]
      rw [rNum_num _ _ (by omega) (by omega)]
      simp only [bareI, show kindR 9 = 106 from rfl, Int.reduceEq, Int.reduceLT, decide_true, decide_false, cond_true, cond_false, Bool.or_false, Bool.false_or, Bool.or_self, Bool.true_or, Bool.or_true]
  · -- 10
    refine ⟨fun hz x => ?_, by simp only [bareI, show kindR 10 = 106 from rfl, Int.reduceEq, Int.reduceLT, decide_true, decide_false, cond_true, cond_false, Bool.or_false, Bool.false_or, Bool.or_self, Bool.true_or, Bool.or_true], fun _ => by simp only [bareI, show kindR 10 = 106 from rfl, Int.reduceEq, Int.reduceLT, decide_true, decide_false, cond_true, cond_false, Bool.or_false, Bool.false_or, Bool.or_self, Bool.true_or, Bool.or_true], fun e => absurd e (by simp), fun e => absurd e (by simp), fun e => absurd e (by simp), fun e => absurd e (by simp)⟩
    · simp only [insW, Int.reduceEq, Int.reduceLT, decide_true, decide_false, cond_true, cond_false, Bool.or_false, Bool.false_or, Bool.or_self, Bool.true_or, Bool.or_true, List.append_assoc] at hz ⊢
      unfold rIns
      rw [hn]
      simp only [Int.reduceEq, Int.reduceLT, decide_true, decide_false, cond_true, cond_false, Bool.or_false, Bool.false_or, Bool.or_self, Bool.true_or, Bool.or_true]
      rw [rNum_num _ _ (by omega) (by omega)]
      simp only [bareI, show kindR 10 = 106 from rfl, Int.reduceEq, Int.reduceLT, decide_true, decide_false, cond_true, cond_false, Bool.or_false, Bool.false_or, Bool.or_self, Bool.true_or, Bool.or_true]
  · -- 11
    refine ⟨fun hz x => ?_, by simp only [bareI, show kindR 11 = 108 from rfl, Int.reduceEq, Int.reduceLT, decide_true, decide_false, cond_true, cond_false, Bool.or_false, Bool.false_or, Bool.or_self, Bool.true_or, Bool.or_true], fun _ => by simp only [bareI, show kindR 11 = 108 from rfl, Int.reduceEq, Int.reduceLT, decide_true, decide_false, cond_true, cond_false, Bool.or_false, Bool.false_or, Bool.or_self, Bool.true_or, Bool.or_true], fun e => absurd e (by simp), fun e => absurd e (by simp), fun e => absurd e (by simp), fun e => absurd e (by simp)⟩
    · simp only [insW, Int.reduceEq, Int.reduceLT, decide_true, decide_false, cond_true, cond_false, Bool.or_false, Bool.false_or, Bool.or_self, Bool.true_or, Bool.or_true, List.append_assoc] at hz ⊢
      unfold rIns
      rw [hn]
      simp only [Int.reduceEq, Int.reduceLT, decide_true, decide_false, cond_true, cond_false, Bool.or_false, Bool.false_or, Bool.or_self, Bool.true_or, Bool.or_true]
      rw [rNum_num _ _ (by omega) (by omega)]
      simp only [bareI, show kindR 11 = 108 from rfl, Int.reduceEq, Int.reduceLT, decide_true, decide_false, cond_true, cond_false, Bool.or_false, Bool.false_or, Bool.or_self, Bool.true_or, Bool.or_true]
  · -- 12
    refine ⟨fun hz x => ?_, by simp only [bareI, show kindR 12 = 103 from rfl, Int.reduceEq, Int.reduceLT, decide_true, decide_false, cond_true, cond_false, Bool.or_false, Bool.false_or, Bool.or_self, Bool.true_or, Bool.or_true], fun e => absurd e (by simp), fun e => absurd e (by simp), fun e => absurd e (by simp), fun _ => by constructor <;> simp only [bareI, show kindR 12 = 103 from rfl, Int.reduceEq, Int.reduceLT, decide_true, decide_false, cond_true, cond_false, Bool.or_false, Bool.false_or, Bool.or_self, Bool.true_or, Bool.or_true], fun e => absurd e (by simp)⟩
    · simp only [insW, Int.reduceEq, Int.reduceLT, decide_true, decide_false, cond_true, cond_false, Bool.or_false, Bool.false_or, Bool.or_self, Bool.true_or, Bool.or_true, List.append_assoc] at hz ⊢
      unfold rIns
      rw [hn]
      simp only [Int.reduceEq, Int.reduceLT, decide_true, decide_false, cond_true, cond_false, Bool.or_false, Bool.false_or, Bool.or_self, Bool.true_or, Bool.or_true]
      rw [rStr_str _ _ _ (by omega)]
      simp only
      rw [rStr_str _ _ _ (by omega)]
      simp only [bareI, show kindR 12 = 103 from rfl, Int.reduceEq, Int.reduceLT, decide_true, decide_false, cond_true, cond_false, Bool.or_false, Bool.false_or, Bool.or_self, Bool.true_or, Bool.or_true]
  · -- 13
    refine ⟨fun hz x => ?_, by simp only [bareI, show kindR 13 = 103 from rfl, Int.reduceEq, Int.reduceLT, decide_true, decide_false, cond_true, cond_false, Bool.or_false, Bool.false_or, Bool.or_self, Bool.true_or, Bool.or_true], fun e => absurd e (by simp), fun e => absurd e (by simp), fun e => absurd e (by simp), fun _ => by constructor <;> simp only [bareI, show kindR 13 = 103 from rfl, Int.reduceEq, Int.reduceLT, decide_true, decide_false, cond_true, cond_false, Bool.or_false, Bool.false_or, Bool.or_self, Bool.true_or, Bool.or_true], fun e => absurd e (by simp)⟩
    · simp only [insW, Int.reduceEq, Int.reduceLT, decide_true, decide_false, cond_true, cond_false, Bool.or_false, Bool.false_or, Bool.or_self, Bool.true_or, Bool.or_true, List.append_assoc] at hz ⊢
      unfold rIns
      rw [hn]
      simp only [Int.reduceEq, Int.reduceLT, decide_true, decide_false, cond_true, cond_false, Bool.or_false, Bool.false_or, Bool.or_self, Bool.true_or, Bool.or_true]
      rw [rStr_str _ _ _ (by omega)]
      simp only
      rw [rStr_str _ _ _ (by omega)]
      simp only [bareI, show kindR 13 = 103 from rfl, Int.reduceEq, Int.reduceLT, decide_true, decide_false, cond_true, cond_false, Bool.or_false, Bool.false_or, Bool.or_self, Bool.true_or, Bool.or_true]
  · -- 14
    refine ⟨fun hz x => ?_, by simp only [bareI, show kindR 14 = 45 from rfl, Int.reduceEq, Int.reduceLT, decide_true, decide_false, cond_true, cond_false, Bool.or_false, Bool.false_or, Bool.or_self, Bool.true_or, Bool.or_true], fun e => absurd e (by simp), fun e => absurd e (by simp), fun e => absurd e (by simp), fun e => absurd e (by simp), fun e => absurd e (by simp)⟩
    · simp only [insW, Int.reduceEq, Int.reduceLT, decide_true, decide_false, cond_true, cond_false, Bool.or_false, Bool.false_or, Bool.or_self, Bool.true_or, Bool.or_true, List.append_assoc] at hz ⊢
      unfold rIns
      rw [hn]
      simp only [Int.reduceEq, Int.reduceLT, decide_true, decide_false, cond_true, cond_false, Bool.or_false, Bool.false_or, Bool.or_self, Bool.true_or, Bool.or_true]
      simp only [bareI, show kindR 14 = 45 from rfl, Int.reduceEq, Int.reduceLT, decide_true, decide_false, cond_true, cond_false, Bool.or_false, Bool.false_or, Bool.or_self, Bool.true_or, Bool.or_true]
  · -- 15
    refine ⟨fun hz x => ?_, by simp only [bareI, show kindR 15 = 45 from rfl, Int.reduceEq, Int.reduceLT, decide_true, decide_false, cond_true, cond_false, Bool.or_false, Bool.false_or, Bool.or_self, Bool.true_or, Bool.or_true], fun e => absurd e (by simp), fun e => absurd e (by simp), fun e => absurd e (by simp), fun e => absurd e (by simp), fun e => absurd e (by simp)⟩
    · simp only [insW, Int.reduceEq, Int.reduceLT, decide_true, decide_false, cond_true, cond_false, Bool.or_false, Bool.false_or, Bool.or_self, Bool.true_or, Bool.or_true, List.append_assoc] at hz ⊢
      unfold rIns
      rw [hn]
      simp only [Int.reduceEq, Int.reduceLT, decide_true, decide_false, cond_true, cond_false, Bool.or_false, Bool.false_or, Bool.or_self, Bool.true_or, Bool.or_true]
      simp only [bareI, show kindR 15 = 45 from rfl, Int.reduceEq, Int.reduceLT, decide_true, decide_false, cond_true, cond_false, Bool.or_false, Bool.false_or, Bool.or_self, Bool.true_or, Bool.or_true]
/-- Reading back, list by list. -/
theorem rCode_code : ∀ (l acc : List Ins) (x : Str), (∀ i ∈ l, InsR i) → (codeW l).2 = 0 → rCode l.length acc ((codeW l).1 ++ x, false) = (acc ++ l.map bareI, x, false) ∧ ∀ i ∈ l, (insW i).2 = 0
  | [], acc, x, _, _ => ⟨by simp [rCode, codeW], by simp⟩
  | i :: r, acc, x, hr, h => by
    cases e : decide ((insW i).2 = 0) with
    | false => simp only [codeW, e, cond_false] at h; exact absurd h (of_decide_eq_false e)
    | true =>
      have e1 := of_decide_eq_true e
      rw [codeW_cons_ok e1] at h ⊢
      obtain ⟨k1, k2⟩ := rCode_code r (acc ++ [bareI i]) x (fun j hj => hr j (by simp [hj])) h
      refine ⟨?_, fun j hj => ?_⟩
      · rw [List.length_cons, rCode_step, List.append_assoc, (bareI_ok (hr i (by simp))).rd e1]
        simp only
        rw [k1]; simp
      · rcases List.mem_cons.1 hj with rfl | hj
        · exact e1
        · exact k2 j hj
theorem insW_pos (i : Ins) : 1 ≤ (insW i).1.length := by
  have n1 := numB_len i.op
  have key : ∀ (c : Bool) (a b : Str × Int), 1 ≤ a.1.length → 1 ≤ b.1.length → 1 ≤ (bif c then a else b).1.length := fun c a b h1 h2 => by cases c <;> assumption
  unfold insW
  repeat' (refine key _ _ _ ?_ ?_)
  all_goals simp only [List.length_append]; omega
theorem codeW_long : ∀ {l : List Ins}, (codeW l).2 = 0 → l.length ≤ (codeW l).1.length
  | [], _ => by simp
  | i :: r, h => by
    cases e : decide ((insW i).2 = 0) with
    | false => simp only [codeW, e, cond_false] at h; exact absurd h (of_decide_eq_false e)
    | true =>
      have e1 := of_decide_eq_true e
      rw [codeW_cons_ok e1] at h ⊢
      have := codeW_long (l := r) h
      have := insW_pos i
      simp only [List.length_append, List.length_cons]; omega
theorem rProto_proto {p : Pr} (x : Str) (hr : ∀ i ∈ p.code, InsR i) (h : (codeW p.code).2 = 0) (h0 : 0 ≤ p.args ∧ p.args ≤ 2000) (hl : p.code.length ≤ 6000) : rProto (headW p ++ (codeW p.code).1 ++ x, false) = (barePr p, x, false) := by
  have k1 := (rCode_code p.code [] x hr h).1
  have k2 := codeW_long h
  unfold rProto headW
  rw [show numB p.args ++ numB p.code.length ++ (codeW p.code).1 ++ x = numB p.args ++ (numB p.code.length ++ ((codeW p.code).1 ++ x)) by simp only [List.append_assoc], rNum_num _ _ (by omega) (by omega)]
  simp only
  rw [rFew_num _ _ (by simp; omega) (by omega)]
  simp only
  rw [k1]
  simp only [List.nil_append, barePr]
structure PrR (p : Pr) : Prop where
  ins : ∀ i ∈ p.code, InsR i
  args : 0 ≤ p.args ∧ p.args ≤ 2000
  few : p.code.length ≤ 6000
theorem rProtos_protos : ∀ (l acc : List Pr) (x : Str), (∀ p ∈ l, PrR p) → (protosW l).2 = 0 → rProtos l.length acc ((protosW l).1 ++ x, false) = (acc ++ l.map barePr, x, false) ∧ ∀ p ∈ l, (codeW p.code).2 = 0
  | [], acc, x, _, _ => ⟨by simp [rProtos, protosW], by simp⟩
  | i :: r, acc, x, hr, h => by
    cases e : decide ((codeW i.code).2 = 0) with
    | false => simp only [protosW, e, cond_false] at h; exact absurd h (of_decide_eq_false e)
    | true =>
      have e1 := of_decide_eq_true e
      rw [protosW_cons_ok e1] at h ⊢
      obtain ⟨k1, k2⟩ := rProtos_protos r (acc ++ [barePr i]) x (fun j hj => hr j (by simp [hj])) h
      have hi := hr i (by simp)
      refine ⟨?_, fun j hj => ?_⟩
      · rw [List.length_cons, rProtos_step, List.append_assoc, rProto_proto _ hi.ins e1 hi.args hi.few]
        simp only
        rw [k1]; simp
      · rcases List.mem_cons.1 hj with rfl | hj
        · exact e1
        · exact k2 j hj
theorem protosW_long : ∀ {l : List Pr}, (protosW l).2 = 0 → l.length ≤ (protosW l).1.length
  | [], _ => by simp
  | i :: r, h => by
    cases e : decide ((codeW i.code).2 = 0) with
    | false => simp only [protosW, e, cond_false] at h; exact absurd h (of_decide_eq_false e)
    | true =>
      have e1 := of_decide_eq_true e
      rw [protosW_cons_ok e1] at h ⊢
      have := protosW_long (l := r) h
      have n1 := numB_len i.args
      simp only [List.length_append, List.length_cons, headW]; omega
end Go.Proofs.YtcdnooalfkbmgaaDoor.Gx
