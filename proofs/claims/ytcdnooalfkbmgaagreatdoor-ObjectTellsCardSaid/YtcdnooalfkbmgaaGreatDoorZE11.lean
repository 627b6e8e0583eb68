/- Reading a unit, walked. The document's bytes of a number, of a text: walked (seat ZD). The document's reading of a number: walked (seat ZD). The document's reading of a unit: its closures, walked (seat ZD). Contracts of the document's answer: what is wrong with what an instruction has. What the document reads of a unit, in plain terms: it is what is read. The document's reading of a unit: how many, and a text, walked (seat ZD). Contract of the document's answer: heights of the stack. Plain law: heights are told alike; what an instruction has, too. -/
import Derived.Test.YtcdnooalfkbmgaaGreatDoorZE10
namespace Go.Proofs.YtcdnooalfkbmgaaGreatDoor.Gx
open Go Go.Proofs.YtcdnooalfkbmgaaGreatDoor.Gw
open Nat (reduceEqDiff reduceAdd reduceLT reduceLeDiff reduceMul)
set_option linter.unusedSimpArgs false
set_option linter.unusedVariables false
theorem set_1 (st : St) (a x y : Ent) (ex : List Ent) : (st ++ a :: x :: ex).set (st.length + 1) y = st ++ a :: y :: ex := by
 rw [List.set_append_right _ _ (by omega)]; simp
theorem at_1 (st : St) (a x : Ent) (ex : List Ent) : (st ++ a :: x :: ex)[st.length + 1]? = some x := by simp
theorem y_rnum (st : St) (a : Ent) (s : RS) (ex : List Ent) : VCalls Tryz.prog TT 33 [.ptr (st.length + 1) 0] (st ++ a :: rdrE s :: ex) fun q st' => q = .ret (.int .i64 (rNum s).1) ∧ st' = st ++ a :: rdrE (rNum s).2 :: ex := by
 have h := c_rnum s (st ++ a :: rdrE s :: ex) (st.length + 1) (at_1 ..)
 rw [set_1] at h; exact h
theorem y_rfew (st : St) (a : Ent) (s : RS) (ex : List Ent) : VCalls Tryz.prog TT 32 [.ptr (st.length + 1) 0] (st ++ a :: rdrE s :: ex) fun q st' => q = .ret (.int .i64 ((rFew s).1 : Nat)) ∧ st' = st ++ a :: rdrE (rFew s).2 :: ex := by
 have h := c_rfew s (st ++ a :: rdrE s :: ex) (st.length + 1) (at_1 ..)
 rw [set_1] at h; exact h
theorem y_rstr (st : St) (a : Ent) (s : RS) (ex : List Ent) : VCalls Tryz.prog TT 31 [.ptr (st.length + 1) 0] (st ++ a :: rdrE s :: ex) fun q st' => q = .ret (.str (rStr s).1) ∧ st' = st ++ a :: rdrE (rStr s).2 :: ex := by
 have h := c_rstr s (st ++ a :: rdrE s :: ex) (st.length + 1) (at_1 ..)
 rw [set_1] at h; exact h
theorem y_rins (st : St) (a : Ent) (s : RS) (ex : List Ent) : VCalls Tryz.prog TT 34 [.ptr (st.length + 1) 0] (st ++ a :: rdrE s :: ex) fun q st' => q = .ret (.agg (encI (rIns s).1)) ∧ st' = st ++ a :: rdrE (rIns s).2 :: ex := by
 have h := c_rins s (st ++ a :: rdrE s :: ex) (st.length + 1) (at_1 ..)
 rw [set_1] at h; exact h
theorem bytesOf_rows : ∀ s : Str, bytesOf (byteRows s) = some s
 | [] => rfl
 | c :: r => by
  have h := bytesOf_rows r
  simp only [byteRows] at h
  simp only [byteRows, List.map_cons, bytesOf, h, Option.map_some, Int.toNat_natCast, UInt8.ofNat_toNat]
def unitR (x : Unit' × Int) : V := .tup [.agg (encU x.1), .int .i64 x.2]
theorem encU_lt (n : Nat) (u : Unit') : ltL n (encU u) := by simp only [encU, ltL]; exact ⟨trivial, lstPr_lt _ _, trivial⟩
theorem rProtos_step (k : Nat) (acc : List Pr) (r : Str) : rProtos (k + 1) acc (r, false) = rProtos k (acc ++ [(rProto (r, false)).1]) (rProto (r, false)).2 := rfl
theorem rCode_step (k : Nat) (acc : List Ins) (r : Str) : rCode (k + 1) acc (r, false) = rCode k (acc ++ [(rIns (r, false)).1]) (rIns (r, false)).2 := rfl
theorem wkR_snoc8 {α : Type} {f : α → List V} {p : Nat → Prop} {l : List V} {a : α} (h : wkLp p l (f a)) : ∀ m : List α, wkRp p (m.map f ++ [l]) ((m ++ [a]).map f)
 | [] => by simp only [List.map_nil, List.nil_append, List.map_cons, wkRp]; exact ⟨_, _, rfl, h, rfl⟩
 | x :: m => by simp only [List.map_cons, List.cons_append, wkRp]; exact ⟨_, _, rfl, wkL_refl _, wkR_snoc8 h m⟩
theorem byteRows_lt8 (n : Nat) : ∀ s : Str, ltRows n (byteRows s)
 | [] => trivial
 | c :: r => ⟨⟨trivial, trivial⟩, byteRows_lt8 n r⟩
theorem encPr_lt (n : Nat) (p : Pr) : ltL n (encPr p) := by simp only [encPr, ltL]; exact ⟨trivial, lstI_lt _ _, trivial⟩
theorem rowsPr_ok (n o : Nat) (nm : Str) (l : List Pr) (h : o < n) : ltL n [.str nm, .lst 2 (some o) (l.map encPr)] := by
 simp only [ltL, V.lt, and_true, true_and]
 exact ⟨fun e he => by cases he; exact h, ltRows_map fun x _ => encPr_lt _ _⟩
theorem rowsIn_ok (n o : Nat) (a : Int) (l : List Ins) (h : o < n) : ltL n [.int .i64 a, .lst 11 (some o) (l.map encI)] := by
 simp only [ltL, V.lt, and_true, true_and]
 exact ⟨fun e he => by cases he; exact h, ltRows_map fun x _ => encI_lt _ _⟩
theorem rQuote_le (s : RS) : (rQuote s).2.1.length ≤ s.1.length := by
 have := rStr_le s
 unfold rQuote
 cases quoteOk (rStr s).1 with
 | some d => exact this.1
 | none => exact this.1
theorem bif_le {c : Bool} {a b : Ins × RS} {n : Nat} (h1 : a.2.1.length ≤ n) (h2 : b.2.1.length ≤ n) : (bif c then a else b).2.1.length ≤ n := by cases c <;> assumption
theorem rIns_le (s : RS) : (rIns s).2.1.length ≤ s.1.length := by
 have h1 := rNum_le s
 have h2 := rNum_le (rNum s).2
 have h3 := rQuote_le (rNum s).2
 have h4 := (rStr_le (rNum s).2).1
 have h5 := (rStr_le (rStr (rNum s).2).2).1
 unfold rIns
 refine bif_le h1 (bif_le (by simp only; omega) (bif_le (by simp only; omega) (bif_le (by simp only; omega) (bif_le (by simp only; omega) (bif_le (by simp only; omega) (by simp only; omega))))))
theorem rProtos_stop {k : Nat} {v : Bool} (h : (decide (0 < (k : Int)) && !v) = false) (acc : List Pr) (r : Str) : rProtos k acc (r, v) = (acc, (r, v)) := by
 cases k with
 | zero => rfl
 | succ k =>
  have : decide (0 < ((k + 1 : Nat) : Int)) = true := decide_eq_true (by omega)
  rw [this] at h
  simp only [Bool.true_and, Bool.not_eq_false'] at h
  subst h; rfl
theorem rCode_stop {k : Nat} {v : Bool} (h : (decide (0 < (k : Int)) && !v) = false) (acc : List Ins) (r : Str) : rCode k acc (r, v) = (acc, (r, v)) := by
 cases k with
 | zero => rfl
 | succ k =>
  have : decide (0 < ((k + 1 : Nat) : Int)) = true := decide_eq_true (by omega)
  rw [this] at h
  simp only [Bool.true_and, Bool.not_eq_false'] at h
  subst h; rfl
set_option maxHeartbeats 4000000 in
theorem c_Parse (s : Str) (st : St) : VCalls Tryz.prog TT 10 [lstY s] st fun q st' => q = .ret (unitR (rUnit s)) ∧ st' = st := by
 refine vfun TT_ok (an := anL []) (L := [0, 2, 3, 4, 5, 6, 7, 8, 9]) (rs := [.cell 2 24, .tmp 3]) Tryz.func10 rfl (by kernel_rfl) rfl Tryz.ntmps10 rfl rfl (Nat.le_refl _) fun hst ha hf => ?_
 have hsl : s.length ≤ 9223372036854775807 := by
  have h := hf
  simp only [lstY, fitL, V.fit, byteRows, List.length_map] at h
  omega
 simp only [lstY]
 have bad : ∀ (e : Int) (ex : List Ent), Gives (unitR (noU, e)) st (.ret (.tup [.agg [.str [], .nils], .int .i64 e])) (st ++ ex) := fun e ex =>
  gives_of (wk_tup (wkL_cons (wk_agg (wkL_cons (wk_refl _) (wkL_cons (wk_nils _) wkL_nil))) (wkL_cons (wk_refl _) wkL_nil))) (wkSt_refl _) (by simp only [unitR, V.lt, ltL]; exact ⟨encU_lt _ _, trivial, trivial⟩) hst
 have hlr : (byteRows s).length = s.length := by simp [byteRows]
 simp only [gw0, reduceEqDiff, ↓reduceIte, reduceAdd, reduceLT, reduceLeDiff, reduceMul, hlr]
 unfold rUnit
 refine iK_split (fun h => ?_) (fun h => ?_)
 ·rw [h]
  simp only [gw0, reduceEqDiff, ↓reduceIte, reduceAdd, reduceLT, reduceLeDiff, reduceMul]
  exact bad 4 _
 rw [h]
 simp only [cond_false]
 simp only [gw0, reduceEqDiff, ↓reduceIte, reduceAdd, reduceLT, reduceLeDiff, reduceMul, convV, bytesOf_rows]
 refine (y_rstr st _ (s, false) []).use (wkL_refl _) fun _ => ?_
 unfold rBody
 have hs6 : s.length ≤ 60000 := by rw [decide_eq_false_iff_not] at h; omega
 have hl0 := (rStr_le (s, false)).1
 simp only at hl0
 generalize rStr (s, false) = x at hl0
 obtain ⟨nm, r0⟩ := x
 simp only [gw0, reduceEqDiff, ↓reduceIte, reduceAdd, reduceLT, reduceLeDiff, reduceMul]
 refine (y_rfew st _ r0 [_]).use (wkL_refl _) fun _ => ?_
 have hk0 := rFew_le r0
 simp only at hl0
 generalize rFew r0 = x at hk0
 obtain ⟨k0, r0⟩ := x
 simp only at hk0 ⊢
 simp only [gw0, reduceEqDiff, ↓reduceIte, reduceAdd, reduceLT, reduceLeDiff, reduceMul]
 refine vforT (σ := Nat × List Pr × RS) [46] [0, 2, 3, 4, 5, 6] (fun x => [(0, true, .lst 1 none (byteRows s)), (2, true, .ptr st.length 0), (3, true, .int .i64 0), (4, true, .ptr (st.length + 1) 0), (5, true, .ptr (st.length + 2) 0), (6, true, .int .i64 x.1)]) (fun x => st ++ [.box [.str [], .nils], rdrE x.2.2, .box [.str nm, .lst 2 (some (st.length + 3)) (x.2.1.map encPr)], .tip 46 x.2.1.length]) (fun x => x.1) (fun x => x.2.1.length + x.1 = k0 ∧ x.2.2.1.length ≤ 60000 ∧ rProtos k0 [] r0 = rProtos x.1 x.2.1 x.2.2) (k0, [], r0) rfl TT_ok ⟨by simp, by simp only; omega, rfl⟩ ?_ ?_ ?_
 ·exact wkE_refl _
 ·refine ⟨st ++ [.box [.str [], .nils], rdrE r0, .box [.str nm, .lst 2 (some (st.length + 3)) []]], ?_, by simp only [gwL, tips, List.map_cons, List.map_nil, List.length_nil]⟩
  refine (wkSt_refl _).append (wkSt_cons (Ent.wkp_refl _) (wkSt_cons (Ent.wkp_refl _) (wkSt_cons (Ent.wk_box ?_) wkSt_nil)))
  exact wkL_cons (wk_refl _) (wkL_cons (wk_tip _ (by simp [Tips])) wkL_nil)
 rintro ⟨k, acc, r⟩ ⟨hacc, hl1, hI⟩
 simp only at hacc hl1 hI ⊢
 rw [hI]
 obtain ⟨r, v⟩ := r
 simp only [gw0, reduceEqDiff, ↓reduceIte, reduceAdd, reduceLT, reduceLeDiff, reduceMul, gwD3, gwDT, pureR_none, ite_self, nilR, nilB, bitF, bitV, nilC, nilCmp, eqb, assertV, assertW, zeroV, wQ_normal, wQ_ret, wQ_panic, pickO, pickC, List.map_cons, List.map_nil, List.getD_cons_zero, List.getD_cons_succ, Env.keep, beq_self_eq_true, cond_true, cond_false, rdrE, at_1]
 refine iK_split (fun h2 => ?_) (fun h2 => ?_)
 ·simp only [Bool.and_eq_true, decide_eq_true_eq, Bool.not_eq_true'] at h2
  obtain ⟨h2, rfl⟩ := h2
  obtain ⟨k, rfl⟩ : ∃ j, k = j + 1 := ⟨k - 1, by omega⟩
  rw [rProtos_step]
  simp only [rProto]
  simp only [gw0, reduceEqDiff, ↓reduceIte, reduceAdd, reduceLT, reduceLeDiff, reduceMul]
  refine (y_rnum st _ (r, false) [_, _]).use (wkL_refl _) fun _ => ?_
  have hl2 := rNum_le (r, false)
  obtain ⟨⟨ar, r1⟩, hx⟩ : ∃ x, rNum (r, false) = x := ⟨_, rfl⟩
  simp only [hx] at hl1 hl2 ⊢
  simp only [gw0, reduceEqDiff, ↓reduceIte, reduceAdd, reduceLT, reduceLeDiff, reduceMul]
  refine (y_rfew st _ r1 [_, _, _]).use (wkL_refl _) fun _ => ?_
  have hj0 := rFew_le r1
  obtain ⟨⟨j0, r2⟩, hx2⟩ : ∃ x, rFew r1 = x := ⟨_, rfl⟩
  simp only [hx2] at hj0 ⊢
  simp only [gw0, reduceEqDiff, ↓reduceIte, reduceAdd, reduceLT, reduceLeDiff, reduceMul]
  refine vforT (σ := Nat × List Ins × RS) [51] [0, 2, 3, 4, 5, 6, 7, 8] (fun x => [(0, true, .lst 1 none (byteRows s)), (2, true, .ptr st.length 0), (3, true, .int .i64 0), (4, true, .ptr (st.length + 1) 0), (5, true, .ptr (st.length + 2) 0), (6, true, .int .i64 ((k + 1 : Nat) : Int)), (7, true, .ptr (st.length + 4) 0), (8, true, .int .i64 x.1)]) (fun x => st ++ [.box [.str [], .nils], rdrE x.2.2, .box [.str nm, .lst 2 (some (st.length + 3)) (acc.map encPr)], .tip 46 acc.length, .box [.int .i64 ar, .lst 11 (some (st.length + 5)) (x.2.1.map encI)], .tip 51 x.2.1.length]) (fun x => x.1) (fun x => x.2.1.length + x.1 = j0 ∧ x.2.2.1.length ≤ 60000 ∧ rCode j0 [] r2 = rCode x.1 x.2.1 x.2.2) (j0, [], r2) rfl TT_ok ⟨by simp, by simp only; omega, rfl⟩ ?_ ?_ ?_
  ·exact wkE_refl _
  ·refine ⟨st ++ [.box [.str [], .nils], rdrE r2, .box [.str nm, .lst 2 (some (st.length + 3)) (acc.map encPr)], .tip 46 acc.length, .box [.int .i64 ar, .lst 11 (some (st.length + 5)) []]], ?_, by simp only [gwL, tips, List.map_cons, List.map_nil, List.length_nil]⟩
   refine (wkSt_refl _).append (wkSt_cons (Ent.wkp_refl _) (wkSt_cons (Ent.wkp_refl _) (wkSt_cons (Ent.wkp_refl _) (wkSt_cons (Ent.wkp_refl _) (wkSt_cons (Ent.wk_box ?_) wkSt_nil)))))
   exact wkL_cons (wk_refl _) (wkL_cons (wk_tip _ (by simp [Tips])) wkL_nil)
  rintro ⟨j, cac, r3⟩ ⟨hcac, hl3, hJ⟩
  simp only at hcac hl3 hJ ⊢
  rw [hJ]
  obtain ⟨r3, v3⟩ := r3
  simp only [gw0, reduceEqDiff, ↓reduceIte, reduceAdd, reduceLT, reduceLeDiff, reduceMul, gwD3, gwDT, pureR_none, ite_self, nilR, nilB, bitF, bitV, nilC, nilCmp, eqb, assertV, assertW, zeroV, wQ_normal, wQ_ret, wQ_panic, pickO, pickC, List.map_cons, List.map_nil, List.getD_cons_zero, List.getD_cons_succ, Env.keep, beq_self_eq_true, cond_true, cond_false, rdrE, at_1]
  refine iK_split (fun h3 => ?_) (fun h3 => ?_)
  ·simp only [Bool.and_eq_true, decide_eq_true_eq, Bool.not_eq_true'] at h3
   obtain ⟨h3, rfl⟩ := h3
   obtain ⟨j, rfl⟩ : ∃ i, j = i + 1 := ⟨j - 1, by omega⟩
   rw [rCode_step]
   have hc := y_rins st (.box [.str [], .nils]) (r3, false) [.box [.str nm, .lst 2 (some (st.length + 3)) (acc.map encPr)], .tip 46 acc.length, .box [.int .i64 ar, .lst 11 (some (st.length + 5)) (cac.map encI)], .tip 51 cac.length]
   obtain ⟨⟨x, r4⟩, hx4⟩ : ∃ x, rIns (r3, false) = x := ⟨_, rfl⟩
   have hl4 := rIns_le (r3, false)
   rw [hx4] at hc hl4 ⊢
   simp only at hc hl3 hl4 ⊢
   simp only [gw0, reduceEqDiff, ↓reduceIte, reduceAdd, reduceLT, reduceLeDiff, reduceMul]
   refine vstageT TT_ok TT_mixed (σ := Unit) [st ++ [.box [.str [], .nils], rdrE (r3, false), .box [.str nm, .lst 2 (some (st.length + 3)) (acc.map encPr)], .tip 46 acc.length, .box [.int .i64 ar, .lst 11 (some (st.length + 5)) (cac.map encI)], .tip 51 cac.length], st ++ [.box [.str [], .nils], rdrE r4, .box [.str nm, .lst 2 (some (st.length + 3)) (acc.map encPr)], .tip 46 acc.length, .box [.int .i64 ar, .lst 11 (some (st.length + 5)) (cac.map encI)], .tip 51 cac.length]] [0, 3, 0, 4, 0, 2, 0, 2] [0, 1, 2, 3, 4, 5, 6, 7] [] [] [0, 2, 3, 4, 5, 6, 7, 8] (fun _x => [(0, true, .lst 1 none (byteRows s)), (2, true, .ptr st.length 0), (3, true, .int .i64 0), (4, true, .ptr (st.length + 1) 0), (5, true, .ptr (st.length + 2) 0), (6, true, .int .i64 ((k + 1 : Nat) : Int)), (7, true, .ptr (st.length + 4) 0), (8, true, .int .i64 ((j + 1 : Nat) : Int))]) (fun _x => st ++ [.box [.str [], .nils], rdrE r4, .box [.str nm, .lst 2 (some (st.length + 3)) (acc.map encPr)], .tip 46 acc.length, .box [.int .i64 ar, .lst 11 (some (st.length + 5)) (cac.map encI ++ [encI x])], .tip 51 (cac.length + 1)]) (fun _x => True) rfl (by kernel_rfl) ?_ ?_
   ·simp only [gw0, reduceEqDiff, ↓reduceIte, reduceAdd, reduceLT, reduceLeDiff, reduceMul, gwD3, gwDT, pureR_none, ite_self, nilR, nilB, bitF, bitV, nilC, nilCmp, eqb, assertV, assertW, zeroV, wQ_normal, wQ_ret, wQ_panic, pickO, pickC, List.map_cons, List.map_nil, List.getD_cons_zero, List.getD_cons_succ, Env.keep, beq_self_eq_true, cond_true, cond_false, rdrE]
    refine eK3_loud hc (wkL_refl _) (by simp [rdrE]) (by simp [rdrE]) ?_
    simp only [gw0, reduceEqDiff, ↓reduceIte, reduceAdd, reduceLT, reduceLeDiff, reduceMul, gwD3, gwDT, pureR_none, ite_self, nilR, nilB, bitF, bitV, nilC, nilCmp, eqb, assertV, assertW, zeroV, wQ_normal, wQ_ret, wQ_panic, pickO, pickC, List.map_cons, List.map_nil, List.getD_cons_zero, List.getD_cons_succ, Env.keep, beq_self_eq_true, cond_true, cond_false, rdrE, encI_take, encI_len, List.length_map, Nat.le_refl]
    exact ⟨by omega, rfl, rfl, (), rfl, rfl, trivial⟩
   ·rintro - -
    have e1 : IntKind.i64.wrap (((j + 1 : Nat) : Int) - 1) = (j : Int) := by rw [wrap_i64 (by omega) (by omega)]; omega
    simp only [gw0, reduceEqDiff, ↓reduceIte, reduceAdd, reduceLT, reduceLeDiff, reduceMul, Env.keep, e1]
    refine ⟨(j, cac ++ [x], r4), ⟨wkE_refl _, st ++ [.box [.str [], .nils], rdrE r4, .box [.str nm, .lst 2 (some (st.length + 3)) (acc.map encPr)], .tip 46 acc.length, .box [.int .i64 ar, .lst 11 (some (st.length + 5)) ((cac ++ [x]).map encI)], .tip 51 (cac ++ [x]).length], [], by simp, wkSt_refl _, ?_, ?_, by simp⟩, by dsimp only; omega, by simp; omega, by dsimp only; omega, rfl⟩
    ·simp only [ltE, V.lt, gwL]
     exact ⟨⟨fun e h => (by cases h), byteRows_lt8 _ _⟩, by omega, trivial, by omega, by omega, trivial, by omega, trivial, trivial⟩
    ·exact ok_app hst ⟨by simp [Ent.lt, ltL, V.lt], by simp [Ent.lt, ltL, V.lt], rowsPr_ok _ _ _ _ (by simp), trivial, rowsIn_ok _ _ _ _ (by simp), trivial, trivial⟩
  ·rw [rCode_stop h3]
   have e1 : IntKind.i64.wrap (((k + 1 : Nat) : Int) - 1) = (k : Int) := by rw [wrap_i64 (by omega) (by omega)]; omega
   simp only [gw0, reduceEqDiff, ↓reduceIte, reduceAdd, reduceLT, reduceLeDiff, reduceMul, gwD3, gwDT, pureR_none, ite_self, nilR, nilB, bitF, bitV, nilC, nilCmp, eqb, assertV, assertW, zeroV, wQ_normal, wQ_ret, wQ_panic, pickO, pickC, List.map_cons, List.map_nil, List.getD_cons_zero, List.getD_cons_succ, Env.keep, beq_self_eq_true, cond_true, cond_false, rdrE, at_1, Env.keep, e1, List.length_map]
   refine ⟨by omega, (k, acc ++ [⟨ar, cac⟩], (r3, v3)), ⟨wkE_refl _, st ++ [.box [.str [], .nils], rdrE (r3, v3), .box [.str nm, .lst 2 (some (st.length + 3)) (acc.map encPr ++ [[.int .i64 ar, .lst 11 (some (st.length + 5)) (cac.map encI)]])], .tip 46 (acc.length + 1)], [.box [.int .i64 ar, .lst 11 (some (st.length + 5)) (cac.map encI)], .tip 51 cac.length], by simp [rdrE], ?_, ?_, ?_, by simp⟩, by dsimp only; omega, by simp; omega, by dsimp only; omega, rfl⟩
   ·simp only [rdrE, List.length_append, List.length_cons, List.length_nil]
    refine (wkSt_refl _).append (wkSt_cons (Ent.wkp_refl _) (wkSt_cons (Ent.wkp_refl _) (wkSt_cons (Ent.wk_box ?_) (wkSt_cons (Ent.wkp_refl _) wkSt_nil))))
    exact wkL_cons (wk_refl _) (wkL_cons (wk_lst_same (wkR_snoc8 (f := encPr) (a := ⟨ar, cac⟩) (wkL_cons (wk_refl _) (wkL_cons (wk_tok _ _ _) wkL_nil)) acc)) wkL_nil)
   ·simp only [ltE, V.lt, gwL]
    exact ⟨⟨fun e h => (by cases h), byteRows_lt8 _ _⟩, by omega, trivial, by omega, by omega, trivial, trivial⟩
   ·exact ok_app hst ⟨by simp [Ent.lt, ltL, V.lt], by simp [Ent.lt, ltL, V.lt], rowsPr_ok _ _ _ _ (by simp), trivial, trivial⟩
 ·rw [rProtos_stop h2]
  have hb1 : decide (r = []) = r.isEmpty := by cases r <;> rfl
  simp only [gw0, reduceEqDiff, ↓reduceIte, reduceAdd, reduceLT, reduceLeDiff, reduceMul, gwD3, gwDT, pureR_none, ite_self, nilR, nilB, bitF, bitV, nilC, nilCmp, eqb, assertV, assertW, zeroV, wQ_normal, wQ_ret, wQ_panic, pickO, pickC, List.map_cons, List.map_nil, List.getD_cons_zero, List.getD_cons_succ, Env.keep, beq_self_eq_true, cond_true, cond_false, rdrE, at_1, hb1]
  refine iK_split (fun h3 => ?_) (fun h3 => ?_)
  ·rw [h3]
   simp only [gw0, reduceEqDiff, ↓reduceIte, reduceAdd, reduceLT, reduceLeDiff, reduceMul, gwD3, gwDT, pureR_none, ite_self, nilR, nilB, bitF, bitV, nilC, nilCmp, eqb, assertV, assertW, zeroV, wQ_normal, wQ_ret, wQ_panic, pickO, pickC, List.map_cons, List.map_nil, List.getD_cons_zero, List.getD_cons_succ, Env.keep, beq_self_eq_true, cond_true, cond_false, rdrE, at_1]
   exact bad 2 _
  ·rw [h3]
   simp only [gw0, reduceEqDiff, ↓reduceIte, reduceAdd, reduceLT, reduceLeDiff, reduceMul, gwD3, gwDT, pureR_none, ite_self, nilR, nilB, bitF, bitV, nilC, nilCmp, eqb, assertV, assertW, zeroV, wQ_normal, wQ_ret, wQ_panic, pickO, pickC, List.map_cons, List.map_nil, List.getD_cons_zero, List.getD_cons_succ, Env.keep, beq_self_eq_true, cond_true, cond_false, rdrE, at_1]
   refine (c_object_Wrong ⟨nm, acc⟩ _).use (wkL_cons (wk_agg (wkL_cons (wk_refl _) (wkL_cons (wk_tok _ _ _) wkL_nil))) wkL_nil) fun _ => ?_
   simp only [gw0, reduceEqDiff, ↓reduceIte, reduceAdd, reduceLT, reduceLeDiff, reduceMul, gwD3, gwDT, pureR_none, ite_self, nilR, nilB, bitF, bitV, nilC, nilCmp, eqb, assertV, assertW, zeroV, wQ_normal, wQ_ret, wQ_panic, pickO, pickC, List.map_cons, List.map_nil, List.getD_cons_zero, List.getD_cons_succ, Env.keep, beq_self_eq_true, cond_true, cond_false, rdrE, at_1]
   refine iK_split (fun h4 => ?_) (fun h4 => ?_)
   ·rw [not_yes h4]
    simp only [gw0, reduceEqDiff, ↓reduceIte, reduceAdd, reduceLT, reduceLeDiff, reduceMul, gwD3, gwDT, pureR_none, ite_self, nilR, nilB, bitF, bitV, nilC, nilCmp, eqb, assertV, assertW, zeroV, wQ_normal, wQ_ret, wQ_panic, pickO, pickC, List.map_cons, List.map_nil, List.getD_cons_zero, List.getD_cons_succ, Env.keep, beq_self_eq_true, cond_true, cond_false, rdrE, at_1]
    exact bad _ _
   ·rw [not_no h4]
    simp only [gw0, reduceEqDiff, ↓reduceIte, reduceAdd, reduceLT, reduceLeDiff, reduceMul, gwD3, gwDT, pureR_none, ite_self, nilR, nilB, bitF, bitV, nilC, nilCmp, eqb, assertV, assertW, zeroV, wQ_normal, wQ_ret, wQ_panic, pickO, pickC, List.map_cons, List.map_nil, List.getD_cons_zero, List.getD_cons_succ, Env.keep, beq_self_eq_true, cond_true, cond_false, rdrE, at_1]
    exact gives_of (wk_tup (wkL_cons (wk_agg (wkL_cons (wk_refl _) (wkL_cons (wk_tok _ _ _) wkL_nil))) (wkL_cons (wk_refl _) wkL_nil))) (wkSt_refl _) (by simp only [unitR, V.lt, ltL]; exact ⟨encU_lt _ _, trivial, trivial⟩) hst
theorem wrap_i (n : Int) : IntKind.i64.wrap n = if 9223372036854775808 ≤ n % 18446744073709551616 then n % 18446744073709551616 - 18446744073709551616 else n % 18446744073709551616 := by
 unfold IntKind.wrap
 simp [IntKind.bits, IntKind.signed]
theorem wrap_u (n : Int) : IntKind.u64.wrap n = n % 18446744073709551616 := by
 unfold IntKind.wrap
 simp [IntKind.bits, IntKind.signed]
theorem zz_pos {n : Int} (h0 : 0 ≤ n) (h1 : n ≤ 9223372036854775807) : IntKind.u64.wrap (IntKind.i64.wrap (2 * n)) = (zz n : Int) := by
 rw [wrap_u, wrap_i]
 unfold zz
 split <;> split <;> omega
theorem zz_neg {n : Int} (h0 : n < 0) (h1 : -9223372036854775808 ≤ n) : IntKind.u64.wrap (IntKind.i64.wrap (0 - IntKind.i64.wrap (IntKind.i64.wrap (2 * n) + 1))) = (zz n : Int) := by
 rw [wrap_u, wrap_i, wrap_i, wrap_i]
 unfold zz
 repeat' split
 all_goals omega
theorem rows_snoc (p : Str) (c : UInt8) : byteRows (p ++ [c]) = byteRows p ++ [[.int .u8 c.toNat]] := by simp [byteRows]
theorem wrap_8 (n : Int) : IntKind.u8.wrap n = n % 256 := by
 unfold IntKind.wrap
 simp [IntKind.bits, IntKind.signed]
theorem low_u (u : Nat) : IntKind.u8.wrap (u : Int) = ((UInt8.ofNat u).toNat : Int) := by
 rw [wrap_8, UInt8.toNat_ofNat']; omega
theorem rem_u (u : Nat) : (u : Int).tmod 128 = ((u % 128 : Nat) : Int) := by
 rw [Int.tmod_eq_emod_of_nonneg (by omega)]; omega
theorem high_u (u : Nat) : IntKind.u8.wrap (IntKind.u64.wrap (128 + (u : Int).tmod 128)) = ((UInt8.ofNat (128 + u % 128)).toNat : Int) := by
 rw [rem_u, wrap_u, wrap_8, UInt8.toNat_ofNat']; omega
theorem quo_u {u : Nat} (h : u < 18446744073709551616) : IntKind.u64.wrap ((u : Int).tdiv 128) = ((u / 128 : Nat) : Int) := by
 rw [Int.tdiv_eq_ediv_of_nonneg (by omega), wrap_u]; omega
theorem rows_len (p : Str) : (byteRows p).length = p.length := by simp [byteRows]
theorem rows_lt (n : Nat) : ∀ s : Str, ltRows n (byteRows s)
 | [] => trivial
 | c :: r => ⟨⟨trivial, trivial⟩, rows_lt n r⟩
theorem fits_u {f u : Nat} (hf : f ≤ 9) (h : Fits f u) : u < 18446744073709551616 := by
 unfold Fits at h
 have hp : (128 : Nat) ^ f ≤ 128 ^ 9 := Nat.pow_le_pow_right (by decide) hf
 have h9 : (128 : Nat) ^ 9 = 9223372036854775808 := by decide
 omega
theorem c_ref8_Num (n : Int) (h0 : -9223372036854775808 ≤ n) (h1 : n ≤ 9223372036854775807) (st : St) :
  VCalls Tryz.prog TT 28 [.int .i64 n] st fun q st' => q = .ret (.lst 1 (some st.length) (byteRows (numB n))) ∧ st' = st ++ [.tip 5 (numB n).length] := by
 refine vfun TT_ok (an := anL []) (L := [0, 2, 3, 4]) (rs := [.tmp 2]) Tryz.func28 rfl (by kernel_rfl) rfl Tryz.ntmps28 rfl rfl (by simp) fun hst ha hf => ?_
 have hz := zz_lt h0 h1
 simp only [gw0, reduceEqDiff, ↓reduceIte, reduceAdd, reduceLT, reduceLeDiff, reduceMul, gwD3, gwDT, pureR_none, ite_self, nilR, nilB, bitF, bitV, nilC, nilCmp, eqb, assertV, assertW, zeroV, wQ_normal, wQ_ret, wQ_panic, pickO, pickC, List.map_cons, List.map_nil, List.getD_cons_zero, List.getD_cons_succ, Env.keep, beq_self_eq_true, cond_true, cond_false, convV]
 refine iK_split (fun h => ?_) (fun h => ?_)
 ·simp only [gw0, reduceEqDiff, ↓reduceIte, reduceAdd, reduceLT, reduceLeDiff, reduceMul, gwD3, gwDT, pureR_none, ite_self, nilR, nilB, bitF, bitV, nilC, nilCmp, eqb, assertV, assertW, zeroV, wQ_normal, wQ_ret, wQ_panic, pickO, pickC, List.map_cons, List.map_nil, List.getD_cons_zero, List.getD_cons_succ, Env.keep, beq_self_eq_true, cond_true, cond_false, convV, zz_neg (of_decide_eq_true h) h0]
  refine vforT (σ := Nat × Nat × Str) [5] [0, 2, 3, 4] (fun x => [(0, true, .int .i64 n), (2, true, .nils), (3, true, .int .u64 x.2.1), (4, true, .lst 1 (some st.length) (byteRows x.2.2))]) (fun x => st ++ [.tip 5 x.2.2.length]) (fun x => x.1) (fun x => x.1 ≤ 9 ∧ Fits x.1 x.2.1 ∧ x.2.2 ++ vb x.1 x.2.1 = numB n ∧ x.2.2.length + x.1 ≤ 9) (9, zz n, []) rfl TT_ok ⟨Nat.le_refl _, fits_9 hz, rfl, Nat.le_refl _⟩ ?_ ?_ ?_
  ·simp only [gw0, reduceEqDiff, ↓reduceIte, reduceAdd, reduceLT, reduceLeDiff, reduceMul, Env.keep]
   exact ⟨_, _, rfl, wk_refl _, _, _, rfl, wk_refl _, _, _, rfl, wk_refl _, _, _, rfl, wk_tip _ (by simp [Tips]), rfl⟩
  ·exact ⟨st, wkSt_refl _, by simp only [gwL, tips, List.map_cons, List.map_nil, List.length_nil]⟩
  rintro ⟨f, u, p⟩ ⟨hf9, hu, hp, hp9⟩
  simp only at hf9 hu hp hp9 ⊢
  by_cases hc : u < 128
  ·have hd : decide ((127 : Int) < (u : Int)) = false := decide_eq_false (by omega)
   have hv : vb f u = [UInt8.ofNat u] := by
    cases f with
    | zero => rfl
    | succ f => simp only [vb, hc, decide_true, cond_true]
   simp only [gw0, reduceEqDiff, ↓reduceIte, reduceAdd, reduceLT, reduceLeDiff, reduceMul, gwD3, gwDT, pureR_none, ite_self, nilR, nilB, bitF, bitV, nilC, nilCmp, eqb, assertV, assertW, zeroV, wQ_normal, wQ_ret, wQ_panic, pickO, pickC, List.map_cons, List.map_nil, List.getD_cons_zero, List.getD_cons_succ, Env.keep, beq_self_eq_true, cond_true, cond_false, convV, hd, low_u, rows_len]
   refine ⟨by omega, ?_⟩
   rw [← rows_snoc, show p.length + 1 = (p ++ [UInt8.ofNat u]).length by simp, show p ++ [UInt8.ofNat u] = numB n by rw [← hp, hv]]
   exact gives_self (by simp only [V.lt]; exact ⟨fun e he => by cases he; simp, rows_lt _ _⟩) (ok_app hst ⟨trivial, trivial⟩)
  ·have hd : decide ((127 : Int) < (u : Int)) = true := decide_eq_true (by omega)
   have hf0 : f ≠ 0 := by rintro rfl; have := fits_0 hu; omega
   obtain ⟨f, rfl⟩ : ∃ g, f = g + 1 := ⟨f - 1, by omega⟩
   have hv : vb (f + 1) u = UInt8.ofNat (128 + u % 128) :: vb f (u / 128) := by simp only [vb, hc, decide_false, cond_false]
   have hu64 := fits_u hf9 hu
   simp only [gw0, reduceEqDiff, ↓reduceIte, reduceAdd, reduceLT, reduceLeDiff, reduceMul, gwD3, gwDT, pureR_none, ite_self, nilR, nilB, bitF, bitV, nilC, nilCmp, eqb, assertV, assertW, zeroV, wQ_normal, wQ_ret, wQ_panic, pickO, pickC, List.map_cons, List.map_nil, List.getD_cons_zero, List.getD_cons_succ, Env.keep, beq_self_eq_true, cond_true, cond_false, convV, hd, high_u, quo_u hu64, rows_len]
   refine ⟨by omega, by omega, by omega, (f, u / 128, p ++ [UInt8.ofNat (128 + u % 128)]), ⟨?_, st ++ [.tip 5 (p.length + 1)], [], by simp, by simp only [List.length_append, List.length_cons, List.length_nil]; exact wkSt_refl _, ?_, ok_app hst ⟨trivial, trivial⟩, by simp⟩, by omega, by simp only; omega, fits_succ hu, by simp only; rw [← hp, hv]; simp, by simp only [List.length_append, List.length_cons, List.length_nil]; omega⟩
   ·simp only [rows_snoc]
    simp only [gw0, reduceEqDiff, ↓reduceIte, reduceAdd, reduceLT, reduceLeDiff, reduceMul, Env.keep]
    exact wkE_refl _
   ·simp only [ltE, V.lt, gwL]
    exact ⟨trivial, trivial, trivial, ⟨fun e he => by cases he; simp, rows_lt _ _⟩, trivial⟩
 ·simp only [gw0, reduceEqDiff, ↓reduceIte, reduceAdd, reduceLT, reduceLeDiff, reduceMul, gwD3, gwDT, pureR_none, ite_self, nilR, nilB, bitF, bitV, nilC, nilCmp, eqb, assertV, assertW, zeroV, wQ_normal, wQ_ret, wQ_panic, pickO, pickC, List.map_cons, List.map_nil, List.getD_cons_zero, List.getD_cons_succ, Env.keep, beq_self_eq_true, cond_true, cond_false, convV, zz_pos (Int.not_lt.1 (of_decide_eq_false h)) h1]
  refine vforT (σ := Nat × Nat × Str) [5] [0, 2, 3, 4] (fun x => [(0, true, .int .i64 n), (2, true, .nils), (3, true, .int .u64 x.2.1), (4, true, .lst 1 (some st.length) (byteRows x.2.2))]) (fun x => st ++ [.tip 5 x.2.2.length]) (fun x => x.1) (fun x => x.1 ≤ 9 ∧ Fits x.1 x.2.1 ∧ x.2.2 ++ vb x.1 x.2.1 = numB n ∧ x.2.2.length + x.1 ≤ 9) (9, zz n, []) rfl TT_ok ⟨Nat.le_refl _, fits_9 hz, rfl, Nat.le_refl _⟩ ?_ ?_ ?_
  ·simp only [gw0, reduceEqDiff, ↓reduceIte, reduceAdd, reduceLT, reduceLeDiff, reduceMul, Env.keep]
   exact ⟨_, _, rfl, wk_refl _, _, _, rfl, wk_refl _, _, _, rfl, wk_refl _, _, _, rfl, wk_tip _ (by simp [Tips]), rfl⟩
  ·exact ⟨st, wkSt_refl _, by simp only [gwL, tips, List.map_cons, List.map_nil, List.length_nil]⟩
  rintro ⟨f, u, p⟩ ⟨hf9, hu, hp, hp9⟩
  simp only at hf9 hu hp hp9 ⊢
  by_cases hc : u < 128
  ·have hd : decide ((127 : Int) < (u : Int)) = false := decide_eq_false (by omega)
   have hv : vb f u = [UInt8.ofNat u] := by
    cases f with
    | zero => rfl
    | succ f => simp only [vb, hc, decide_true, cond_true]
   simp only [gw0, reduceEqDiff, ↓reduceIte, reduceAdd, reduceLT, reduceLeDiff, reduceMul, gwD3, gwDT, pureR_none, ite_self, nilR, nilB, bitF, bitV, nilC, nilCmp, eqb, assertV, assertW, zeroV, wQ_normal, wQ_ret, wQ_panic, pickO, pickC, List.map_cons, List.map_nil, List.getD_cons_zero, List.getD_cons_succ, Env.keep, beq_self_eq_true, cond_true, cond_false, convV, hd, low_u, rows_len]
   refine ⟨by omega, ?_⟩
   rw [← rows_snoc, show p.length + 1 = (p ++ [UInt8.ofNat u]).length by simp, show p ++ [UInt8.ofNat u] = numB n by rw [← hp, hv]]
   exact gives_self (by simp only [V.lt]; exact ⟨fun e he => by cases he; simp, rows_lt _ _⟩) (ok_app hst ⟨trivial, trivial⟩)
  ·have hd : decide ((127 : Int) < (u : Int)) = true := decide_eq_true (by omega)
   have hf0 : f ≠ 0 := by rintro rfl; have := fits_0 hu; omega
   obtain ⟨f, rfl⟩ : ∃ g, f = g + 1 := ⟨f - 1, by omega⟩
   have hv : vb (f + 1) u = UInt8.ofNat (128 + u % 128) :: vb f (u / 128) := by simp only [vb, hc, decide_false, cond_false]
   have hu64 := fits_u hf9 hu
   simp only [gw0, reduceEqDiff, ↓reduceIte, reduceAdd, reduceLT, reduceLeDiff, reduceMul, gwD3, gwDT, pureR_none, ite_self, nilR, nilB, bitF, bitV, nilC, nilCmp, eqb, assertV, assertW, zeroV, wQ_normal, wQ_ret, wQ_panic, pickO, pickC, List.map_cons, List.map_nil, List.getD_cons_zero, List.getD_cons_succ, Env.keep, beq_self_eq_true, cond_true, cond_false, convV, hd, high_u, quo_u hu64, rows_len]
   refine ⟨by omega, by omega, by omega, (f, u / 128, p ++ [UInt8.ofNat (128 + u % 128)]), ⟨?_, st ++ [.tip 5 (p.length + 1)], [], by simp, by simp only [List.length_append, List.length_cons, List.length_nil]; exact wkSt_refl _, ?_, ok_app hst ⟨trivial, trivial⟩, by simp⟩, by omega, by simp only; omega, fits_succ hu, by simp only; rw [← hp, hv]; simp, by simp only [List.length_append, List.length_cons, List.length_nil]; omega⟩
   ·simp only [rows_snoc]
    simp only [gw0, reduceEqDiff, ↓reduceIte, reduceAdd, reduceLT, reduceLeDiff, reduceMul, Env.keep]
    exact wkE_refl _
   ·simp only [ltE, V.lt, gwL]
    exact ⟨trivial, trivial, trivial, ⟨fun e he => by cases he; simp, rows_lt _ _⟩, trivial⟩
theorem c_ref8_str (s : Str) (hs : s.length ≤ 10000000000000) (st : St) :
  VCalls Tryz.prog TT 27 [.str s] st fun q st' => q = .ret (.lst 1 (some st.length) (byteRows (numB s.length ++ s))) ∧ st' = st ++ [.tip 5 (numB s.length ++ s).length] := by
 refine vfun TT_ok (an := anL []) (L := [0, 2]) (rs := [.tmp 2]) Tryz.func27 rfl (by kernel_rfl) rfl Tryz.ntmps27 rfl rfl (by simp) fun hst ha hf => ?_
 simp only [gw0, reduceEqDiff, ↓reduceIte, reduceAdd, reduceLT, reduceLeDiff, reduceMul]
 refine (c_ref8_Num s.length (by omega) (by omega) st).use (wkL_refl _) fun _ => ?_
 have hn := numB_len s.length
 simp only [gw0, reduceEqDiff, ↓reduceIte, reduceAdd, reduceLT, reduceLeDiff, reduceMul, rows_len, List.length_map]
 refine ⟨by omega, ?_⟩
 rw [show byteRows (numB s.length) ++ s.map (fun b => [V.int .u8 b.toNat]) = byteRows (numB s.length ++ s) by simp [byteRows], ← List.length_append]
 exact gives_self (by simp only [V.lt]; exact ⟨fun e he => by cases he; simp, rows_lt _ _⟩) (ok_app hst ⟨trivial, trivial⟩)
/-- A number, and how many bytes it takes (none: 0). -/
def takeR (b : Str) : Int × Nat := bif (numR b).2.2 then (0, 0) else ((numR b).1, b.length - (numR b).2.1.length)
def unitN (i : Nat) : Nat := 128 ^ i % 18446744073709551616
theorem unit_step (i : Nat) : IntKind.u64.wrap ((unitN i : Int) * 128) = (unitN (i + 1) : Int) := by
 rw [wrap_u]
 unfold unitN
 rw [Nat.pow_succ]
 omega
theorem sum_u {i u c : Nat} (hi : i ≤ 9) (h : Low i u) (h9 : i = 9 → c % 128 ≤ 1) : IntKind.u64.wrap ((u : Int) + IntKind.u64.wrap (IntKind.u64.wrap ((c : Int).tmod 128) * (unitN i : Int))) = ((u + c % 128 * 128 ^ i : Nat) : Int) := by
 have hl := low_last hi h (Nat.mod_lt c (by decide)) h9
 have hp : (128 : Nat) ^ i ≤ 128 ^ 9 := Nat.pow_le_pow_right (by decide) hi
 have hp9 : (128 : Nat) ^ 9 = 9223372036854775808 := by decide
 have hu : unitN i = 128 ^ i := Nat.mod_eq_of_lt (by omega)
 have e1 : IntKind.u64.wrap ((c : Int).tmod 128) = ((c % 128 : Nat) : Int) := by rw [rem_u, wrap_u]; omega
 rw [e1, hu, ← Int.natCast_mul]
 generalize c % 128 * 128 ^ i = z at hl ⊢
 rw [wrap_u, wrap_u]
 omega
theorem c_ref8_Take (b : Str) (st : St) : VCalls Tryz.prog TT 36 [.lst 1 none (byteRows b)] st fun q st' => q = .ret (.tup [.int .i64 (takeR b).1, .int .i64 ((takeR b).2 : Nat)]) ∧ st' = st := by
 refine vfun TT_ok (an := anL []) (L := [0, 2, 3, 4, 5, 6]) (rs := [.tmp 2, .tmp 3]) Tryz.func36 rfl (by kernel_rfl) rfl Tryz.ntmps36 rfl rfl (Nat.le_refl _) fun hst ha hf => ?_
 simp only [gw0, reduceEqDiff, ↓reduceIte, reduceAdd, reduceLT, reduceLeDiff, reduceMul, gwD3, gwDT, pureR_none, ite_self, nilR, nilB, bitF, bitV, nilC, nilCmp, eqb, assertV, assertW, zeroV, wQ_normal, wQ_ret, wQ_panic, pickO, pickC, List.map_cons, List.map_nil, List.getD_cons_zero, List.getD_cons_succ, Env.keep, beq_self_eq_true, cond_true, cond_false]
 refine vforD (σ := Nat × Nat × Nat) [0, 2, 3, 4, 5, 6] (fun x => [(0, true, .lst 1 none (byteRows b)), (2, true, .int .i64 0), (3, true, .int .i64 0), (4, true, .int .u64 x.2.2), (5, true, .int .u64 (unitN x.2.1)), (6, true, .int .i64 x.2.1)]) (fun x => st) (fun x => x.1) (fun x => x.1 + x.2.1 = 10 ∧ Low x.2.1 x.2.2 ∧ rdV x.1 x.2.1 x.2.2 (b.drop x.2.1) = numR b ∧ x.2.1 ≤ b.length) (10, 0, 0) rfl TT_ok ⟨rfl, Nat.one_pos, rfl, Nat.zero_le _⟩ (wkE_refl _) rfl ?_
 rintro ⟨f, i, u⟩ ⟨hfi, hlow, hI, hib⟩
 simp only at hfi hlow hI hib ⊢
 have bad : (numR b).2.2 = true → takeR b = (0, 0) := fun h => by unfold takeR; rw [h]; rfl
 simp only [gw0, reduceEqDiff, ↓reduceIte, reduceAdd, reduceLT, reduceLeDiff, reduceMul, gwD3, gwDT, pureR_none, ite_self, nilR, nilB, bitF, bitV, nilC, nilCmp, eqb, assertV, assertW, zeroV, wQ_normal, wQ_ret, wQ_panic, pickO, pickC, List.map_cons, List.map_nil, List.getD_cons_zero, List.getD_cons_succ, Env.keep, beq_self_eq_true, cond_true, cond_false, rows_len]
 refine iK_split (fun h => ?_) (fun h => ?_)
 ·simp only [Bool.and_eq_true, decide_eq_true_eq] at h
  have hlt : i < b.length := by omega
  obtain ⟨f, rfl⟩ : ∃ g, f = g + 1 := ⟨f - 1, by omega⟩
  obtain ⟨c, hget⟩ : ∃ c, b[i]? = some c := ⟨_, List.getElem?_eq_getElem hlt⟩
  have hdr : b.drop i = c :: b.drop (i + 1) := by
   rw [List.drop_eq_getElem_cons hlt]
   rw [List.getElem?_eq_getElem hlt] at hget
   rw [Option.some.inj hget]
  have hrow : (byteRows b).getD i [] = [.int .u8 c.toNat] := getD_map (f := fun b : UInt8 => [V.int .u8 b.toNat]) hget
  rw [hdr] at hI
  simp only [gw0, reduceEqDiff, ↓reduceIte, reduceAdd, reduceLT, reduceLeDiff, reduceMul, gwD3, gwDT, pureR_none, ite_self, nilR, nilB, bitF, bitV, nilC, nilCmp, eqb, assertV, assertW, zeroV, wQ_normal, wQ_ret, wQ_panic, pickO, pickC, List.map_cons, List.map_nil, List.getD_cons_zero, List.getD_cons_succ, Env.keep, beq_self_eq_true, cond_true, cond_false, rows_len, hrow, Int.toNat_natCast]
  have ea : decide ((0 : Int) < (i : Int)) = decide (0 < i) := by by_cases h : 0 < i <;> simp [h] <;> omega
  have eb : decide ((c.toNat : Int) = 0) = decide (c.toNat = 0) := by by_cases h : c.toNat = 0 <;> simp [h] <;> omega
  have ec : decide ((i : Int) = 9) = decide (i = 9) := by by_cases h : i = 9 <;> simp [h] <;> omega
  have ed : decide ((1 : Int) < (c.toNat : Int)) = decide (1 < c.toNat) := by by_cases h : 1 < c.toNat <;> simp [h] <;> omega
  have ee : decide ((c.toNat : Int) < 128) = decide (c.toNat < 128) := by by_cases h : c.toNat < 128 <;> simp [h] <;> omega
  have hrd : numR b = bif (decide (0 < i) && decide (c.toNat = 0)) || (decide (i = 9) && decide (1 < c.toNat)) then (0, b.drop (i + 1), true)
    else bif decide (c.toNat < 128) then (unzz (u + c.toNat % 128 * 128 ^ i), b.drop (i + 1), false) else rdV f (i + 1) (u + c.toNat % 128 * 128 ^ i) (b.drop (i + 1)) := by rw [← hI]; rfl
  refine ⟨fun _ => by omega, fun _ => by omega, fun h1 _ => ⟨h1, fun h2 => by rw [h1, h2]; rfl⟩, iK_split (fun h3 => ?_) (fun h3 => ?_)⟩
  ·rw [ea, eb, ec, ed, Bool.or_comm] at h3
   rw [h3, cond_true] at hrd
   rw [bad (by rw [hrd])]
   simp only [gw0, reduceEqDiff, ↓reduceIte, reduceAdd, reduceLT, reduceLeDiff, reduceMul, gwD3, gwDT, pureR_none, ite_self, nilR, nilB, bitF, bitV, nilC, nilCmp, eqb, assertV, assertW, zeroV, wQ_normal, wQ_ret, wQ_panic, pickO, pickC, List.map_cons, List.map_nil, List.getD_cons_zero, List.getD_cons_succ, Env.keep, beq_self_eq_true, cond_true, cond_false]
   exact gives_self (by simp [V.lt, ltL]) hst
  ·rw [ea, eb, ec, ed, Bool.or_comm] at h3
   rw [h3, cond_false] at hrd
   have h9 : i = 9 → c.toNat % 128 ≤ 1 := by
    intro e
    simp only [Bool.or_eq_false_iff, Bool.and_eq_false_iff, decide_eq_false_iff_not] at h3
    omega
   have hi9 : i ≤ 9 := by omega
   have hlast := low_last hi9 hlow (Nat.mod_lt c.toNat (by decide)) h9
   have hstep := low_step hlow (Nat.mod_lt c.toNat (show 128 > 0 by decide))
   simp only [gw0, reduceEqDiff, ↓reduceIte, reduceAdd, reduceLT, reduceLeDiff, reduceMul, gwD3, gwDT, pureR_none, ite_self, nilR, nilB, bitF, bitV, nilC, nilCmp, eqb, assertV, assertW, zeroV, wQ_normal, wQ_ret, wQ_panic, pickO, pickC, List.map_cons, List.map_nil, List.getD_cons_zero, List.getD_cons_succ, Env.keep, beq_self_eq_true, cond_true, cond_false, rows_len, hrow, Int.toNat_natCast, convV, unit_step, ee, sum_u hi9 hlow h9]
   refine ⟨by omega, by omega, by omega, iK_split (fun h4 => ?_) (fun h4 => ?_)⟩
   ·rw [h4, cond_true] at hrd
    have ht : takeR b = (unzz (u + c.toNat % 128 * 128 ^ i), i + 1) := by
     unfold takeR
     rw [hrd]
     simp only [cond_false, List.length_drop, Prod.mk.injEq, true_and]
     omega
    rw [ht]
    generalize u + c.toNat % 128 * 128 ^ i = w at hlast ⊢
    have e2 : (w : Int).tmod 2 = ((w % 2 : Nat) : Int) := by rw [Int.tmod_eq_emod_of_nonneg (by omega)]; omega
    have e3 : (w : Int).tdiv 2 = ((w / 2 : Nat) : Int) := by rw [Int.tdiv_eq_ediv_of_nonneg (by omega)]; omega
    have e4 : IntKind.i64.wrap ((w / 2 : Nat) : Int) = ((w / 2 : Nat) : Int) := wrap_i64 (by omega) (by omega)
    have e5 : IntKind.u64.wrap ((w / 2 : Nat) : Int) = ((w / 2 : Nat) : Int) := by rw [wrap_u]; omega
    have e6 : IntKind.i64.wrap ((i : Int) + 1) = ((i + 1 : Nat) : Int) := by rw [wrap_i64 (by omega) (by omega)]; omega
    simp only [gw0, reduceEqDiff, ↓reduceIte, reduceAdd, reduceLT, reduceLeDiff, reduceMul, gwD3, gwDT, pureR_none, ite_self, nilR, nilB, bitF, bitV, nilC, nilCmp, eqb, assertV, assertW, zeroV, wQ_normal, wQ_ret, wQ_panic, pickO, pickC, List.map_cons, List.map_nil, List.getD_cons_zero, List.getD_cons_succ, Env.keep, beq_self_eq_true, cond_true, cond_false, convV, e2, e3, e4, e5, e6]
    refine ⟨by decide, iK_split (fun h5 => ?_) (fun h5 => ?_)⟩
    ·have ho : w % 2 = 1 := by have := of_decide_eq_true h5; omega
     have e7 : IntKind.i64.wrap (IntKind.i64.wrap (0 - ((w / 2 : Nat) : Int)) - 1) = unzz w := by
      unfold unzz
      have e8 : IntKind.i64.wrap (0 - ((w / 2 : Nat) : Int)) = 0 - ((w / 2 : Nat) : Int) := wrap_i64 (by omega) (by omega)
      rw [if_pos ho, e8, wrap_i64 (by omega) (by omega)]; omega
     simp only [gw0, reduceEqDiff, ↓reduceIte, reduceAdd, reduceLT, reduceLeDiff, reduceMul, gwD3, gwDT, pureR_none, ite_self, nilR, nilB, bitF, bitV, nilC, nilCmp, eqb, assertV, assertW, zeroV, wQ_normal, wQ_ret, wQ_panic, pickO, pickC, List.map_cons, List.map_nil, List.getD_cons_zero, List.getD_cons_succ, Env.keep, beq_self_eq_true, cond_true, cond_false, convV, e2, e3, e4, e5, e6, e7]
     exact ⟨by decide, gives_self (by simp [V.lt, ltL]) hst⟩
    ·have ho : ¬ w % 2 = 1 := by have := of_decide_eq_false h5; omega
     have e7 : unzz w = ((w / 2 : Nat) : Int) := by unfold unzz; rw [if_neg ho]
     rw [e7]
     simp only [gw0, reduceEqDiff, ↓reduceIte, reduceAdd, reduceLT, reduceLeDiff, reduceMul, gwD3, gwDT, pureR_none, ite_self, nilR, nilB, bitF, bitV, nilC, nilCmp, eqb, assertV, assertW, zeroV, wQ_normal, wQ_ret, wQ_panic, pickO, pickC, List.map_cons, List.map_nil, List.getD_cons_zero, List.getD_cons_succ, Env.keep, beq_self_eq_true, cond_true, cond_false, convV, e2, e3, e4, e5, e6]
     exact ⟨by decide, gives_self (by simp [V.lt, ltL]) hst⟩
   ·rw [h4, cond_false] at hrd
    have e6 : IntKind.i64.wrap ((i : Int) + 1) = ((i + 1 : Nat) : Int) := by rw [wrap_i64 (by omega) (by omega)]; omega
    simp only [gw0, reduceEqDiff, ↓reduceIte, reduceAdd, reduceLT, reduceLeDiff, reduceMul, gwD3, gwDT, pureR_none, ite_self, nilR, nilB, bitF, bitV, nilC, nilCmp, eqb, assertV, assertW, zeroV, wQ_normal, wQ_ret, wQ_panic, pickO, pickC, List.map_cons, List.map_nil, List.getD_cons_zero, List.getD_cons_succ, Env.keep, beq_self_eq_true, cond_true, cond_false, convV, e6]
    refine ⟨(f, i + 1, u + c.toNat % 128 * 128 ^ i), ⟨?_, st, [], (List.append_nil _).symm, wkSt_refl _, ?_, hst, by simp⟩, by simp only; omega, by simp only; omega, hstep, hrd.symm, by simp only; omega⟩
    ·simp only [gw0, reduceEqDiff, ↓reduceIte, reduceAdd, reduceLT, reduceLeDiff, reduceMul, Env.keep]
     exact wkE_refl _
    ·simp only [ltE, V.lt]
     exact ⟨⟨fun e h => (by cases h), rows_lt _ _⟩, trivial, trivial, trivial, trivial, trivial, trivial⟩
 ·have hn : (numR b).2.2 = true := by
   rw [← hI]
   cases f with
   | zero => rfl
   | succ f =>
    have : b.drop i = [] := List.drop_of_length_le (by
     simp only [Bool.and_eq_false_iff, decide_eq_false_iff_not] at h
     omega)
    rw [this]; rfl
  rw [bad hn]
  simp only [gw0, reduceEqDiff, ↓reduceIte, reduceAdd, reduceLT, reduceLeDiff, reduceMul, gwD3, gwDT, pureR_none, ite_self, nilR, nilB, bitF, bitV, nilC, nilCmp, eqb, assertV, assertW, zeroV, wQ_normal, wQ_ret, wQ_panic, pickO, pickC, List.map_cons, List.map_nil, List.getD_cons_zero, List.getD_cons_succ, Env.keep, beq_self_eq_true, cond_true, cond_false]
  exact gives_self (by simp [V.lt, ltL]) hst
def pNum (s : Str × Bool) : Int × Str × Bool := bif decide ((takeR s.1).2 = 0) || s.2 then (0, s.1, true) else ((takeR s.1).1, s.1.drop (takeR s.1).2, false)
def pS (st : St) (x y : Nat) (s : Str × Bool) : St := (st.set x (.box [.lst 1 none (byteRows s.1)])).set y (.box [.bool s.2])
theorem set_same' {s : St} {o : Nat} {e : Ent} (h : s[o]? = some e) : s.set o e = s := by
 apply List.ext_getElem?; intro j
 rw [List.getElem?_set]
 split
 ·rename_i e'; subst e'
  split
  ·exact h.symm
  ·rename_i e2; have := (List.getElem?_eq_some_iff.1 h).1; omega
 ·rfl
theorem ok_set2 {s : St} {o : Nat} {c : List V} (h : St.ok s) (hc : ltL s.length c) : St.ok (s.set o (.box c)) := by
 intro e he
 rw [List.length_set]
 rcases List.mem_or_eq_of_mem_set he with h' | rfl
 ·exact h e h'
 ·exact hc
theorem c_pnum (s : Str × Bool) (st : St) (x y : Nat) (hx : st[x]? = some (.box [.lst 1 none (byteRows s.1)])) (hy : st[y]? = some (.box [.bool s.2])) (hxy : x ≠ y) :
  VCalls Tryz.prog TT 35 [.ptr x 0, .ptr y 0] st fun q st' => q = .ret (.int .i64 (pNum s).1) ∧ st' = pS st x y (pNum s).2 := by
 refine vfun TT_ok (an := anL []) (L := [0, 1, 2, 3, 4]) (rs := [.tmp 2]) Tryz.func35 rfl (by kernel_rfl) rfl Tryz.ntmps35 rfl rfl (by simp [pS]) fun hst ha hf => ?_
 simp only [gw0, reduceEqDiff, ↓reduceIte, reduceAdd, reduceLT, reduceLeDiff, reduceMul, gwD3, gwDT, pureR_none, ite_self, nilR, nilB, bitF, bitV, nilC, nilCmp, eqb, assertV, assertW, zeroV, wQ_normal, wQ_ret, wQ_panic, pickO, pickC, List.map_cons, List.map_nil, List.getD_cons_zero, List.getD_cons_succ, Env.keep, beq_self_eq_true, cond_true, cond_false, hx, hy]
 refine (c_ref8_Take s.1 st).use (wkL_refl _) fun _ => ?_
 simp only [gw0, reduceEqDiff, ↓reduceIte, reduceAdd, reduceLT, reduceLeDiff, reduceMul, gwD3, gwDT, pureR_none, ite_self, nilR, nilB, bitF, bitV, nilC, nilCmp, eqb, assertV, assertW, zeroV, wQ_normal, wQ_ret, wQ_panic, pickO, pickC, List.map_cons, List.map_nil, List.getD_cons_zero, List.getD_cons_succ, Env.keep, beq_self_eq_true, cond_true, cond_false, hx, hy]
 have hle : (takeR s.1).2 ≤ s.1.length := by
  unfold takeR
  cases (numR s.1).2.2 with
  | true => exact Nat.zero_le _
  | false => simp only [cond_false]; omega
 have e1 : decide ((((takeR s.1).2 : Nat) : Int) = 0) = decide ((takeR s.1).2 = 0) := by by_cases h : (takeR s.1).2 = 0 <;> simp [h]
 have hxl := (List.getElem?_eq_some_iff.1 hx).1
 have hyl := (List.getElem?_eq_some_iff.1 hy).1
 have hok : ∀ z : Str × Bool, St.ok (pS st x y z) := fun z => ok_set2 (ok_set2 hst ⟨⟨fun e h => (by cases h), rows_lt _ _⟩, trivial⟩) ⟨trivial, trivial⟩
 rw [e1]
 refine iK_split (fun h => ?_) (fun h => ?_)
 ·have hp : pNum s = (0, s.1, true) := by unfold pNum; rw [h]; rfl
  rw [hp]
  simp only [gw0, reduceEqDiff, ↓reduceIte, reduceAdd, reduceLT, reduceLeDiff, reduceMul, gwD3, gwDT, pureR_none, ite_self, nilR, nilB, bitF, bitV, nilC, nilCmp, eqb, assertV, assertW, zeroV, wQ_normal, wQ_ret, wQ_panic, pickO, pickC, List.map_cons, List.map_nil, List.getD_cons_zero, List.getD_cons_succ, Env.keep, beq_self_eq_true, cond_true, cond_false, hx, hy]
  have hs : st.set x (.box [.lst 1 none (byteRows s.1)]) = st := set_same' hx
  have := hok (s.1, true)
  simp only [pS, hs] at this ⊢
  exact gives_self trivial this
 ·have hp : pNum s = ((takeR s.1).1, s.1.drop (takeR s.1).2, false) := by unfold pNum; rw [h]; rfl
  rw [hp]
  simp only [Bool.or_eq_false_iff] at h
  simp only [gw0, reduceEqDiff, ↓reduceIte, reduceAdd, reduceLT, reduceLeDiff, reduceMul, gwD3, gwDT, pureR_none, ite_self, nilR, nilB, bitF, bitV, nilC, nilCmp, eqb, assertV, assertW, zeroV, wQ_normal, wQ_ret, wQ_panic, pickO, pickC, List.map_cons, List.map_nil, List.getD_cons_zero, List.getD_cons_succ, Env.keep, beq_self_eq_true, cond_true, cond_false, hx, hy, rows_len, Int.toNat_natCast]
  have hd : (byteRows s.1).drop (takeR s.1).2 = byteRows (s.1.drop (takeR s.1).2) := by simp [byteRows, List.map_drop]
  have hs : pS st x y (s.1.drop (takeR s.1).2, false) = st.set x (.box [.lst 1 none (byteRows (s.1.drop (takeR s.1).2))]) := by
   refine set_same' ?_
   rw [List.getElem?_set_ne hxy, hy, h.2]
  have ho := hok (s.1.drop (takeR s.1).2, false)
  rw [hd, hs]
  rw [hs] at ho
  exact ⟨by omega, gives_self trivial ho⟩
def kindS : Str := [110, 110, 113, 108, 103, 112, 99, 97, 106, 106, 108, 103, 103, 45, 45]
def kindR (op : Int) : Int := bif decide (op < 1) || decide (15 < op) then 0 else ((kindS.getD (op - 1).toNat 0).toNat : Int)
theorem c_Kind (op : Int) (st : St) : VCalls Tryz.prog TT 29 [.int .i64 op] st fun r st' => r = .ret (.int .u8 (kindR op)) ∧ st' = st := by
 refine vfun TT_ok (an := anL []) (L := [0, 2]) (rs := [.tmp 2]) Tryz.func29 rfl (by kernel_rfl) rfl Tryz.ntmps29 rfl rfl (Nat.le_refl _) fun hst ha hf => ?_
 simp only [gw0, reduceEqDiff, ↓reduceIte, reduceAdd, reduceLT, reduceLeDiff, reduceMul]
 refine iK_split (fun h => ?_) (fun h => ?_)
 ·simp only [gw0, reduceEqDiff, ↓reduceIte, reduceAdd, reduceLT, reduceLeDiff, reduceMul]
  exact gives_int (by simp only [kindR, h, cond_true]) hst
 ·have h' := h
  simp only [Bool.or_eq_false_iff, decide_eq_false_iff_not] at h'
  have w : IntKind.i64.wrap (op - 1) = op - 1 := wrap_i64 (by omega) (by omega)
  have hl : kindS.length = 15 := rfl
  simp only [gw0, reduceEqDiff, ↓reduceIte, reduceAdd, reduceLT, reduceLeDiff, reduceMul, w]
  refine ⟨⟨by omega, by omega⟩, gives_int (by simp only [kindR, h, cond_false]; rfl) hst⟩
def inE (ok : Bool) (e : Int) : Int := bif ok then 0 else e
theorem c_in_ (ok : Bool) (e : Int) (st : St) : VCalls Tryz.prog TT 46 [.bool ok, .int .i64 e] st fun r st' => r = .ret (.int .i64 (inE ok e)) ∧ st' = st := by
 refine vfun TT_ok (an := anL []) (L := [0, 1, 4]) (rs := [.tmp 4]) Tryz.func46 rfl (by kernel_rfl) rfl Tryz.ntmps46 rfl rfl (Nat.le_refl _) fun hst ha hf => ?_
 simp only [gw0, reduceEqDiff, ↓reduceIte, reduceAdd, reduceLT, reduceLeDiff, reduceMul]
 refine iK_split (fun h => ?_) (fun h => ?_)
 ·simp only [gw0, reduceEqDiff, ↓reduceIte, reduceAdd, reduceLT, reduceLeDiff, reduceMul]
  exact gives_int (by simp only [inE, h, cond_true]) hst
 ·simp only [gw0, reduceEqDiff, ↓reduceIte, reduceAdd, reduceLT, reduceLeDiff, reduceMul]
  exact gives_int (by simp only [inE, h, cond_false]) hst
def ownK (k : Int) (i : Ins) (ar n G : Int) : Int :=
 bif decide (k = 110) then (bif decide (i.op = 2) then inE (decide (i.n = 0) || decide (i.n = 1)) 3 else inE (decide (-1000000000000000 ≤ i.n) && decide (i.n ≤ 1000000000000000)) 3)
 else bif decide (k = 113) then (wrongL [i.quote] 0 0).1
 else bif decide (k = 108) then inE (decide (0 ≤ i.a) && decide (i.a < ar)) 3
 else bif decide (k = 103) then (bif decide (0 ≤ G) then inE (decide (0 ≤ i.a) && decide (i.a < G)) 3 else inE (plainB i.lib && namedB i.own) 7)
 else bif decide (k = 112) then inE (decide (i.own ∈ prims)) 7
 else bif decide (k = 97) then inE (decide (0 ≤ i.a) && decide (i.a ≤ 2000)) 3
 else bif decide (k = 106) then inE (decide (0 ≤ i.a) && decide (i.a < n)) 3
 else bif decide (k = 0) then 1 else 0
set_option maxHeartbeats 4000000 in
theorem c_Own (i : Ins) (ar n G : Int) (st : St) : VCalls Tryz.prog TT 16 [.agg (encI i), .int .i64 ar, .int .i64 n, .int .i64 G] st fun r st' => r = .ret (.int .i64 (ownK (kindR i.op) i ar n G)) ∧ st' = st := by
 refine vfun TT_ok (an := anL [(4, 1)]) (L := [0, 1, 2, 3, 4, 8, 9, 12]) (rs := [.tmp 8]) Tryz.func16 rfl (by kernel_rfl) rfl Tryz.ntmps16 rfl rfl (Nat.le_refl _) fun hst ha hf => ?_
 obtain ⟨op, a, m, lb, ow, q⟩ := i
 simp only [encI_mk]
 simp only [gw0, reduceEqDiff, ↓reduceIte, reduceAdd, reduceLT, reduceLeDiff, reduceMul]
 refine (c_Kind op _).use (wkL_refl _) fun _ => ?_
 generalize kindR op = k
 simp only [gw0, reduceEqDiff, ↓reduceIte, reduceAdd, reduceLT, reduceLeDiff, reduceMul]
 refine iK_split (fun h1 => ?_) (fun h1 => ?_)
 ·simp only [gw0, reduceEqDiff, ↓reduceIte, reduceAdd, reduceLT, reduceLeDiff, reduceMul]
  refine iK_split (fun h2 => ?_) (fun h2 => ?_)
  ·simp only [gw0, reduceEqDiff, ↓reduceIte, reduceAdd, reduceLT, reduceLeDiff, reduceMul]
   refine (c_in_ _ 3 _).use (wkL_refl _) fun _ => ?_
   simp only [gw0, reduceEqDiff, ↓reduceIte, reduceAdd, reduceLT, reduceLeDiff, reduceMul]
   exact gives_int (by simp only [ownK, h1, h2, cond_true]) hst
  ·simp only [gw0, reduceEqDiff, ↓reduceIte, reduceAdd, reduceLT, reduceLeDiff, reduceMul]
   refine (c_in_ _ 3 _).use (wkL_refl _) fun _ => ?_
   simp only [gw0, reduceEqDiff, ↓reduceIte, reduceAdd, reduceLT, reduceLeDiff, reduceMul]
   exact gives_int (by simp only [ownK, h1, h2, cond_true, cond_false]) hst
 simp only [gw0, reduceEqDiff, ↓reduceIte, reduceAdd, reduceLT, reduceLeDiff, reduceMul]
 refine iK_split (fun h2 => ?_) (fun h2 => ?_)
 ·simp only [gw0, reduceEqDiff, ↓reduceIte, reduceAdd, reduceLT, reduceLeDiff, reduceMul, encD_take, encD_len]
  refine (c_ref_Wrong _ [q]).use (wkL_refl _) fun _ => ?_
  simp only [gw0, reduceEqDiff, ↓reduceIte, reduceAdd, reduceLT, reduceLeDiff, reduceMul, fltV]
  exact gives_int (by simp only [ownK, h1, h2, cond_true, cond_false]) hst
 simp only [gw0, reduceEqDiff, ↓reduceIte, reduceAdd, reduceLT, reduceLeDiff, reduceMul]
 refine iK_split (fun h3 => ?_) (fun h3 => ?_)
 ·simp only [gw0, reduceEqDiff, ↓reduceIte, reduceAdd, reduceLT, reduceLeDiff, reduceMul]
  refine (c_in_ _ 3 _).use (wkL_refl _) fun _ => ?_
  simp only [gw0, reduceEqDiff, ↓reduceIte, reduceAdd, reduceLT, reduceLeDiff, reduceMul]
  exact gives_int (by simp only [ownK, h1, h2, h3, cond_true, cond_false]) hst
 simp only [gw0, reduceEqDiff, ↓reduceIte, reduceAdd, reduceLT, reduceLeDiff, reduceMul]
 refine iK_split (fun h4 => ?_) (fun h4 => ?_)
 ·simp only [gw0, reduceEqDiff, ↓reduceIte, reduceAdd, reduceLT, reduceLeDiff, reduceMul]
  refine iK_split (fun h5 => ?_) (fun h5 => ?_)
  ·simp only [gw0, reduceEqDiff, ↓reduceIte, reduceAdd, reduceLT, reduceLeDiff, reduceMul]
   refine (c_in_ _ 3 _).use (wkL_refl _) fun _ => ?_
   simp only [gw0, reduceEqDiff, ↓reduceIte, reduceAdd, reduceLT, reduceLeDiff, reduceMul]
   exact gives_int (by simp only [ownK, h1, h2, h3, h4, h5, cond_true, cond_false]) hst
  ·simp only [gw0, reduceEqDiff, ↓reduceIte, reduceAdd, reduceLT, reduceLeDiff, reduceMul]
   refine (c_ref_Plain _ lb).use (wkL_refl _) fun _ => ?_
   simp only [gw0, reduceEqDiff, ↓reduceIte, reduceAdd, reduceLT, reduceLeDiff, reduceMul]
   refine rK_guarded (.bool (namedB ow)) (fun _ => c_ref_Named _ ow) ?_
   simp only [gw0, reduceEqDiff, ↓reduceIte, reduceAdd, reduceLT, reduceLeDiff, reduceMul]
   refine (c_in_ _ 7 _).use (wkL_refl _) fun _ => ?_
   simp only [gw0, reduceEqDiff, ↓reduceIte, reduceAdd, reduceLT, reduceLeDiff, reduceMul]
   exact gives_int (by simp only [ownK, h1, h2, h3, h4, h5, cond_true, cond_false]) hst
 simp only [gw0, reduceEqDiff, ↓reduceIte, reduceAdd, reduceLT, reduceLeDiff, reduceMul]
 refine iK_split (fun h5 => ?_) (fun h5 => ?_)
 ·simp only [gw0, reduceEqDiff, ↓reduceIte, reduceAdd, reduceLT, reduceLeDiff, reduceMul]
  refine (c_Prim _ ow).use (wkL_refl _) fun _ => ?_
  simp only [gw0, reduceEqDiff, ↓reduceIte, reduceAdd, reduceLT, reduceLeDiff, reduceMul]
  refine (c_in_ _ 7 _).use (wkL_refl _) fun _ => ?_
  simp only [gw0, reduceEqDiff, ↓reduceIte, reduceAdd, reduceLT, reduceLeDiff, reduceMul]
  exact gives_int (by simp only [ownK, h1, h2, h3, h4, h5, cond_true, cond_false]) hst
 simp only [gw0, reduceEqDiff, ↓reduceIte, reduceAdd, reduceLT, reduceLeDiff, reduceMul]
 refine iK_split (fun h6 => ?_) (fun h6 => ?_)
 ·simp only [gw0, reduceEqDiff, ↓reduceIte, reduceAdd, reduceLT, reduceLeDiff, reduceMul]
  refine (c_in_ _ 3 _).use (wkL_refl _) fun _ => ?_
  simp only [gw0, reduceEqDiff, ↓reduceIte, reduceAdd, reduceLT, reduceLeDiff, reduceMul]
  exact gives_int (by simp only [ownK, h1, h2, h3, h4, h5, h6, cond_true, cond_false]) hst
 simp only [gw0, reduceEqDiff, ↓reduceIte, reduceAdd, reduceLT, reduceLeDiff, reduceMul]
 refine iK_split (fun h7 => ?_) (fun h7 => ?_)
 ·simp only [gw0, reduceEqDiff, ↓reduceIte, reduceAdd, reduceLT, reduceLeDiff, reduceMul]
  refine (c_in_ _ 3 _).use (wkL_refl _) fun _ => ?_
  simp only [gw0, reduceEqDiff, ↓reduceIte, reduceAdd, reduceLT, reduceLeDiff, reduceMul]
  exact gives_int (by simp only [ownK, h1, h2, h3, h4, h5, h6, h7, cond_true, cond_false]) hst
 simp only [gw0, reduceEqDiff, ↓reduceIte, reduceAdd, reduceLT, reduceLeDiff, reduceMul]
 refine iK_split (fun h8 => ?_) (fun h8 => ?_)
 ·simp only [gw0, reduceEqDiff, ↓reduceIte, reduceAdd, reduceLT, reduceLeDiff, reduceMul]
  exact gives_int (by simp only [ownK, h1, h2, h3, h4, h5, h6, h7, h8, cond_true, cond_false]) hst
 simp only [gw0, reduceEqDiff, ↓reduceIte, reduceAdd, reduceLT, reduceLeDiff, reduceMul]
 exact gives_int (by simp only [ownK, h1, h2, h3, h4, h5, h6, h7, h8, cond_true, cond_false]) hst
def pFew (s : RS) : Nat × RS := bif (decide ((pNum s).1 < 0) || decide (((pNum s).2.1.length : Int) < (pNum s).1)) || (pNum s).2.2 then (0, (pNum s).2.1, true) else ((pNum s).1.toNat, (pNum s).2)
def pStr (s : RS) : Str × RS := ((pFew s).2.1.take (pFew s).1, (pFew s).2.1.drop (pFew s).1, (pFew s).2.2)
def quoteP (t : Str) (s : RS) : Datum × RS := match readR t with
 | .inr [d] => (d, s.1, s.2 || !decide ((printL [d]).2.1 = 0) || !decide ((printL [d]).1 = t))
 | _ => (zeroQ, s.1, true)
def pQuote (s : RS) : Datum × RS := quoteP (pStr s).1 (pStr s).2
def ownP (op : Int) (s : RS) : Ins × RS :=
 bif decide (kindR op = 110) then ({ op := op, n := (pNum s).1 }, (pNum s).2)
 else bif decide (kindR op = 113) then ({ op := op, quote := (pQuote s).1 }, (pQuote s).2)
 else bif decide (kindR op = 103) then ({ op := op, lib := (pStr s).1, own := (pStr (pStr s).2).1 }, (pStr (pStr s).2).2)
 else bif decide (kindR op = 112) then ({ op := op, own := (pStr s).1 }, (pStr s).2)
 else bif decide (kindR op = 45) then ({ op := op }, s)
 else ({ op := op, a := (pNum s).1 }, (pNum s).2)
def noOp (op : Int) : Bool := decide (op < 1) || decide (15 < op)
def pCode : Nat → List Ins → RS → List Ins × RS
 | 0, acc, s => (acc, s)
 | k + 1, acc, s => bif s.2 then (acc, s) else bif noOp (pNum s).1 then (acc, (pNum s).2.1, true) else pCode k (acc ++ [(ownP (pNum s).1 (pNum s).2).1]) (ownP (pNum s).1 (pNum s).2).2
def pProto (s : RS) : Pr × RS := (⟨(pNum s).1, (pCode (pFew (pNum s).2).1 [] (pFew (pNum s).2).2).1⟩, (pCode (pFew (pNum s).2).1 [] (pFew (pNum s).2).2).2)
def pProtos : Nat → List Pr → RS → List Pr × RS
 | 0, acc, s => (acc, s)
 | k + 1, acc, s => bif s.2 then (acc, s) else pProtos k (acc ++ [(pProto s).1]) (pProto s).2
def pBody (b : Str) : Unit' × RS := (⟨(pStr (b, false)).1, (pProtos (pFew (pStr (b, false)).2).1 [] (pFew (pStr (b, false)).2).2).1⟩, (pProtos (pFew (pStr (b, false)).2).1 [] (pFew (pStr (b, false)).2).2).2)
def pUnit (b : Str) : Unit' × Int :=
 bif decide ((60000 : Int) < b.length) then (noU, 4)
 else bif (pBody b).2.2 || !(pBody b).2.1.isEmpty then (noU, 2)
 else bif decide (unitE (pBody b).1 = 0) then ((pBody b).1, 0) else (noU, unitE (pBody b).1)
def AgV {α : Type} (r p : α × RS) : Prop := (r.2.2 = true ∧ p.2.2 = true) ∨ (p = r ∧ r.2.2 = false)
theorem AgV.same {α : Type} (r : α × RS) : AgV r r := by cases h : r.2.2 with
 | true => exact .inl ⟨h, h⟩
 | false => exact .inr ⟨rfl, h⟩
/-- Two readers that tell the same, or both nothing. -/
structure Ag {α : Type} (f g : RS → α × RS) : Prop where
 bad : ∀ s, s.2 = true → (f s).2.2 = true ∧ (g s).2.2 = true
 ok : ∀ s, s.2 = false → AgV (f s) (g s)
theorem Ag.same {α : Type} (f : RS → α × RS) (h : ∀ s, s.2 = true → (f s).2.2 = true) : Ag f f := ⟨fun s hs => ⟨h s hs, h s hs⟩, fun s _ => AgV.same _⟩
theorem Ag.bind {α β : Type} {f g : RS → α × RS} {f2 g2 : α → RS → β × RS} (h : Ag f g) (h2 : ∀ a, Ag (f2 a) (g2 a)) : Ag (fun s => f2 (f s).1 (f s).2) (fun s => g2 (g s).1 (g s).2) := by
 refine ⟨fun s hs => ⟨((h2 _).bad _ (h.bad s hs).1).1, ((h2 _).bad _ (h.bad s hs).2).2⟩, fun s hs => ?_⟩
 rcases h.ok s hs with ⟨a, b⟩ | ⟨e, a⟩
 ·exact .inl ⟨((h2 _).bad _ a).1, ((h2 _).bad _ b).2⟩
 ·rw [e]; exact (h2 _).ok _ a
theorem Ag.cond {α : Type} {c : Bool} {f g f' g' : RS → α × RS} (h : Ag f g) (h' : Ag f' g') : Ag (fun s => bif c then f s else f' s) (fun s => bif c then g s else g' s) := by cases c <;> assumption
theorem Ag.all {α : Type} {f g : RS → α × RS} (h : Ag f g) (s : RS) : AgV (f s) (g s) := by cases hs : s.2 with
 | true => exact .inl (h.bad s hs)
 | false => exact h.ok s hs
theorem num_ag : Ag rNum pNum := by
 refine ⟨fun s hs => ⟨by simp [rNum, hs], by simp [pNum, hs]⟩, fun s hs => ?_⟩
 obtain ⟨b, v⟩ := s
 simp only at hs
 subst hs
 cases hn : numR b with
 | mk n x =>
  obtain ⟨r, w⟩ := x
  cases w with
  | true => left; simp [rNum, pNum, takeR, hn]
  | false =>
   right
   have h1 := (numB_numR hn).1
   have h2 := (numB_len n).1
   have h3 : b.length - r.length = (numB n).length := by rw [h1, List.length_append]; omega
   have h4 : b.drop (numB n).length = r := by rw [h1, List.drop_left]
   have h5 : ¬ (numB n).length = 0 := by omega
   simp [rNum, pNum, takeR, hn, h3, h4, h5]
theorem few_ag : Ag rFew pFew := by
 refine num_ag.bind (f2 := fun n s => bif decide (n < 0) || decide ((s.1.length : Int) < n) then (0, s.1, true) else (n.toNat, s)) (g2 := fun n s => bif (decide (n < 0) || decide ((s.1.length : Int) < n)) || s.2 then (0, s.1, true) else (n.toNat, s)) fun n => ⟨fun s hs => ?_, fun s hs => ?_⟩
 ·rw [hs]
  cases decide (n < 0) || decide ((s.1.length : Int) < n) <;> simp [hs]
 ·simp only [hs, Bool.or_false]
  exact AgV.same _
theorem str_ag : Ag rStr pStr := few_ag.bind (f2 := fun k s => (s.1.take k, s.1.drop k, s.2)) (g2 := fun k s => (s.1.take k, s.1.drop k, s.2)) fun k => Ag.same _ fun s hs => hs
theorem quote_ag : Ag rQuote pQuote := by
 refine str_ag.bind (f2 := fun t s => match quoteOk t with | some d => (d, s) | none => (zeroQ, s.1, true)) (g2 := quoteP) fun t => ⟨fun s hs => ?_, fun s hs => ?_⟩
 ·constructor
  ·cases quoteOk t <;> simp [hs]
  ·unfold quoteP
   split <;> simp [hs]
 ·obtain ⟨b, v⟩ := s
  simp only at hs
  subst hs
  cases hr : readR t with
  | inl f => left; simp [quoteOk, quoteP, hr]
  | inr l =>
   cases l with
   | nil => left; simp [quoteOk, quoteP, hr]
   | cons d m =>
    cases m with
    | cons c m => left; simp [quoteOk, quoteP, hr]
    | nil =>
     rcases print_right (right hr) with ⟨t', h'⟩ | h'
     ·by_cases e : t' = t
      ·right; simp [quoteOk, quoteP, hr, h', e]
      ·left; simp [quoteOk, quoteP, hr, h', e]
     ·left; simp [quoteOk, quoteP, hr, h']
def ownR (op : Int) (s : RS) : Ins × RS :=
 bif decide (op = 1) || decide (op = 2) then ({ op := op, n := (rNum s).1 }, (rNum s).2)
 else bif decide (op = 3) then ({ op := op, quote := (rQuote s).1 }, (rQuote s).2)
 else bif decide (op = 5) || decide (op = 12) || decide (op = 13) then ({ op := op, lib := (rStr s).1, own := (rStr (rStr s).2).1 }, (rStr (rStr s).2).2)
 else bif decide (op = 6) then ({ op := op, own := (rStr s).1 }, (rStr s).2)
 else bif decide (op = 14) || decide (op = 15) then ({ op := op }, s)
 else ({ op := op, a := (rNum s).1 }, (rNum s).2)
theorem rIns_own (s : RS) : rIns s = bif noOp (rNum s).1 then (noI, (rNum s).2.1, true) else ownR (rNum s).1 (rNum s).2 := rfl
theorem own_ag {op : Int} (h : noOp op = false) : Ag (ownR op) (ownP op) := by
 simp only [noOp, Bool.or_eq_false_iff, decide_eq_false_iff_not] at h
 have a1 := num_ag.bind (f2 := fun n s => (({ op := op, n := n } : Ins), s)) (g2 := fun n s => ({ op := op, n := n }, s)) fun n => Ag.same _ fun s hs => hs
 have a2 := quote_ag.bind (f2 := fun n s => (({ op := op, quote := n } : Ins), s)) (g2 := fun n s => ({ op := op, quote := n }, s)) fun n => Ag.same _ fun s hs => hs
 have a3 := str_ag.bind (f2 := fun l s => (({ op := op, lib := l, own := (rStr s).1 } : Ins), (rStr s).2)) (g2 := fun l s => ({ op := op, lib := l, own := (pStr s).1 }, (pStr s).2)) fun l => str_ag.bind (f2 := fun n s => (({ op := op, lib := l, own := n } : Ins), s)) (g2 := fun n s => ({ op := op, lib := l, own := n }, s)) fun n => Ag.same _ fun s hs => hs
 have a4 := str_ag.bind (f2 := fun n s => (({ op := op, own := n } : Ins), s)) (g2 := fun n s => ({ op := op, own := n }, s)) fun n => Ag.same _ fun s hs => hs
 have a5 : Ag (fun s => (({ op := op } : Ins), s)) (fun s => (({ op := op } : Ins), s)) := Ag.same _ fun s hs => hs
 have a6 := num_ag.bind (f2 := fun n s => (({ op := op, a := n } : Ins), s)) (g2 := fun n s => ({ op := op, a := n }, s)) fun n => Ag.same _ fun s hs => hs
 have : op = 1 ∨ op = 2 ∨ op = 3 ∨ op = 4 ∨ op = 5 ∨ op = 6 ∨ op = 7 ∨ op = 8 ∨ op = 9 ∨ op = 10 ∨ op = 11 ∨ op = 12 ∨ op = 13 ∨ op = 14 ∨ op = 15 := by omega
 rcases this with rfl | rfl | rfl | rfl | rfl | rfl | rfl | rfl | rfl | rfl | rfl | rfl | rfl | rfl | rfl
 ·exact a1
 ·exact a1
 ·exact a2
 ·exact a6
 ·exact a3
 ·exact a4
 ·exact a6
 ·exact a6
 ·exact a6
 ·exact a6
 ·exact a6
 ·exact a3
 ·exact a3
 ·exact a5
 ·exact a5
theorem rCode_bad (k : Nat) (acc : List Ins) (s : RS) (h : s.2 = true) : rCode k acc s = (acc, s) := by cases k <;> simp [rCode, h]
theorem pCode_bad (k : Nat) (acc : List Ins) (s : RS) (h : s.2 = true) : pCode k acc s = (acc, s) := by cases k <;> simp [pCode, h]
theorem code_ag : ∀ (k : Nat) (acc : List Ins), Ag (rCode k acc) (pCode k acc)
 | 0, acc => Ag.same _ fun s hs => hs
 | k + 1, acc => by
  refine ⟨fun s hs => by simp [rCode, pCode, hs], fun s hs => ?_⟩
  have e1 : rCode (k + 1) acc s = rCode k (acc ++ [(rIns s).1]) (rIns s).2 := by simp [rCode, hs]
  have e2 : pCode (k + 1) acc s = bif noOp (pNum s).1 then (acc, (pNum s).2.1, true) else pCode k (acc ++ [(ownP (pNum s).1 (pNum s).2).1]) (ownP (pNum s).1 (pNum s).2).2 := by simp [pCode, hs]
  rw [e1, e2, rIns_own]
  rcases num_ag.ok s hs with ⟨a, b⟩ | ⟨e, a⟩
  ·left
   constructor
   ·cases ho : noOp (rNum s).1 with
    | true => simp [rCode_bad]
    | false => rw [cond_false, rCode_bad _ _ _ ((own_ag ho).bad _ a).1]; exact ((own_ag ho).bad _ a).1
   ·cases ho : noOp (pNum s).1 with
    | true => rfl
    | false => rw [cond_false, pCode_bad _ _ _ ((own_ag ho).bad _ b).2]; exact ((own_ag ho).bad _ b).2
  ·rw [e]
   cases ho : noOp (rNum s).1 with
   | true => left; simp [rCode_bad]
   | false =>
    simp only [cond_false]
    rcases (own_ag ho).ok _ a with ⟨c, d⟩ | ⟨c, d⟩
    ·left; rw [rCode_bad _ _ _ c, pCode_bad _ _ _ d]; exact ⟨c, d⟩
    ·rw [c]; exact (code_ag k _).ok _ d
theorem proto_ag : Ag rProto pProto :=
 num_ag.bind (f2 := fun ar s => ((⟨ar, (rCode (rFew s).1 [] (rFew s).2).1⟩ : Pr), (rCode (rFew s).1 [] (rFew s).2).2)) (g2 := fun ar s => (⟨ar, (pCode (pFew s).1 [] (pFew s).2).1⟩, (pCode (pFew s).1 [] (pFew s).2).2)) fun ar =>
  few_ag.bind (f2 := fun k s => ((⟨ar, (rCode k [] s).1⟩ : Pr), (rCode k [] s).2)) (g2 := fun k s => (⟨ar, (pCode k [] s).1⟩, (pCode k [] s).2)) fun k =>
   (code_ag k []).bind (f2 := fun c s => ((⟨ar, c⟩ : Pr), s)) (g2 := fun c s => (⟨ar, c⟩, s)) fun c => Ag.same _ fun s hs => hs
theorem rProtos_bad (k : Nat) (acc : List Pr) (s : RS) (h : s.2 = true) : rProtos k acc s = (acc, s) := by cases k <;> simp [rProtos, h]
theorem pProtos_bad (k : Nat) (acc : List Pr) (s : RS) (h : s.2 = true) : pProtos k acc s = (acc, s) := by cases k <;> simp [pProtos, h]
theorem protos_ag : ∀ (k : Nat) (acc : List Pr), Ag (rProtos k acc) (pProtos k acc)
 | 0, acc => Ag.same _ fun s hs => hs
 | k + 1, acc => by
  refine ⟨fun s hs => by simp [rProtos, pProtos, hs], fun s hs => ?_⟩
  have e1 : rProtos (k + 1) acc s = rProtos k (acc ++ [(rProto s).1]) (rProto s).2 := by simp [rProtos, hs]
  have e2 : pProtos (k + 1) acc s = pProtos k (acc ++ [(pProto s).1]) (pProto s).2 := by simp [pProtos, hs]
  rw [e1, e2]
  rcases proto_ag.ok s hs with ⟨a, b⟩ | ⟨e, a⟩
  ·left; rw [rProtos_bad _ _ _ a, pProtos_bad _ _ _ b]; exact ⟨a, b⟩
  ·rw [e]; exact (protos_ag k _).ok _ a
theorem body_ag (b : Str) : AgV (rBody b) (pBody b) :=
 (str_ag.bind (f2 := fun nm s => ((⟨nm, (rProtos (rFew s).1 [] (rFew s).2).1⟩ : Unit'), (rProtos (rFew s).1 [] (rFew s).2).2)) (g2 := fun nm s => (⟨nm, (pProtos (pFew s).1 [] (pFew s).2).1⟩, (pProtos (pFew s).1 [] (pFew s).2).2)) fun nm =>
  few_ag.bind (f2 := fun k s => ((⟨nm, (rProtos k [] s).1⟩ : Unit'), (rProtos k [] s).2)) (g2 := fun k s => (⟨nm, (pProtos k [] s).1⟩, (pProtos k [] s).2)) fun k =>
   (protos_ag k []).bind (f2 := fun c s => ((⟨nm, c⟩ : Unit'), s)) (g2 := fun c s => (⟨nm, c⟩, s)) fun c => Ag.same _ fun s hs => hs).ok (b, false) rfl
theorem unit_ag (b : Str) : pUnit b = rUnit b := by
 unfold pUnit rUnit
 rcases body_ag b with ⟨h1, h2⟩ | ⟨h1, _⟩
 ·rw [h1, h2]; rfl
 ·rw [h1]
theorem pS_x {st : St} {x y : Nat} (hx : x < st.length) (hxy : x ≠ y) (s : Str × Bool) : (pS st x y s)[x]? = some (.box [.lst 1 none (byteRows s.1)]) := by
 unfold pS
 rw [List.getElem?_set_ne (fun e => hxy e.symm), List.getElem?_set_self hx]
theorem pS_y {st : St} {x y : Nat} (hy : y < st.length) (s : Str × Bool) : (pS st x y s)[y]? = some (.box [.bool s.2]) := by
 unfold pS
 rw [List.getElem?_set_self (by rw [List.length_set]; exact hy)]
theorem pS_set_y (st : St) (x y : Nat) (s : Str × Bool) (b : Bool) : (pS st x y s).set y (.box [.bool b]) = pS st x y (s.1, b) := by
 unfold pS
 rw [List.set_set]
theorem pS_set_x {st : St} {x y : Nat} (h : x ≠ y) (s : Str × Bool) (r : Str) : (pS st x y s).set x (.box [.lst 1 none (byteRows r)]) = pS st x y (r, s.2) := by
 unfold pS
 rw [List.set_comm _ _ (fun e => h e.symm), List.set_set]
theorem pS_ok {st : St} (x y : Nat) (z : Str × Bool) (h : St.ok st) : St.ok (pS st x y z) := ok_set2 (ok_set2 h ⟨⟨fun e h => (by cases h), rows_lt _ _⟩, trivial⟩) ⟨trivial, trivial⟩
theorem c_pfew (s : Str × Bool) (st : St) (x y z : Nat) (hx : st[x]? = some (.box [.lst 1 none (byteRows s.1)])) (hy : st[y]? = some (.box [.bool s.2])) (hz : st[z]? = some (.box [.fn (.func 35) [.ptr x 0, .ptr y 0]])) (hxy : x ≠ y) :
  VCalls Tryz.prog TT 37 [.ptr z 0, .ptr x 0, .ptr y 0] st fun q st' => q = .ret (.int .i64 ((pFew s).1 : Nat)) ∧ st' = pS st x y (pFew s).2 := by
 have hxl := (List.getElem?_eq_some_iff.1 hx).1
 have hyl := (List.getElem?_eq_some_iff.1 hy).1
 refine vfun TT_ok (an := anL []) (L := [0, 1, 2, 3, 4]) (rs := [.tmp 3]) Tryz.func37 rfl (by kernel_rfl) rfl Tryz.ntmps37 rfl rfl (by simp [pS]) fun hst ha hf => ?_
 simp only [gw0, reduceEqDiff, ↓reduceIte, reduceAdd, reduceLT, reduceLeDiff, reduceMul, gwD3, gwDT, pureR_none, ite_self, nilR, nilB, bitF, bitV, nilC, nilCmp, eqb, assertV, assertW, zeroV, wQ_normal, wQ_ret, wQ_panic, pickO, pickC, List.map_cons, List.map_nil, List.getD_cons_zero, List.getD_cons_succ, Env.keep, beq_self_eq_true, cond_true, cond_false, hz]
 refine (c_pnum s st x y hx hy hxy).use (wkL_refl _) fun _ => ?_
 have hle : (pNum s).2.1.length ≤ s.1.length := by
  unfold pNum
  cases decide ((takeR s.1).2 = 0) || s.2 <;> simp
 obtain ⟨⟨n, t, v⟩, hp⟩ : ∃ x, pNum s = x := ⟨_, rfl⟩
 simp only [hp]
 have hf := pFew.eq_1 s
 simp only [hp] at hf
 simp only [gw0, reduceEqDiff, ↓reduceIte, reduceAdd, reduceLT, reduceLeDiff, reduceMul, gwD3, gwDT, pureR_none, ite_self, nilR, nilB, bitF, bitV, nilC, nilCmp, eqb, assertV, assertW, zeroV, wQ_normal, wQ_ret, wQ_panic, pickO, pickC, List.map_cons, List.map_nil, List.getD_cons_zero, List.getD_cons_succ, Env.keep, beq_self_eq_true, cond_true, cond_false, pS_x hxl hxy, pS_y hyl, rows_len]
 refine iK_split (fun h => ?_) (fun h => ?_)
 ·rw [h, Bool.true_or, cond_true] at hf
  rw [hf]
  simp only [gw0, reduceEqDiff, ↓reduceIte, reduceAdd, reduceLT, reduceLeDiff, reduceMul, gwD3, gwDT, pureR_none, ite_self, nilR, nilB, bitF, bitV, nilC, nilCmp, eqb, assertV, assertW, zeroV, wQ_normal, wQ_ret, wQ_panic, pickO, pickC, List.map_cons, List.map_nil, List.getD_cons_zero, List.getD_cons_succ, Env.keep, beq_self_eq_true, cond_true, cond_false, pS_x hxl hxy, pS_y hyl, pS_set_y]
  exact gives_self trivial (pS_ok x y _ hst)
 ·rw [h, Bool.false_or] at hf
  simp only [gw0, reduceEqDiff, ↓reduceIte, reduceAdd, reduceLT, reduceLeDiff, reduceMul, gwD3, gwDT, pureR_none, ite_self, nilR, nilB, bitF, bitV, nilC, nilCmp, eqb, assertV, assertW, zeroV, wQ_normal, wQ_ret, wQ_panic, pickO, pickC, List.map_cons, List.map_nil, List.getD_cons_zero, List.getD_cons_succ, Env.keep, beq_self_eq_true, cond_true, cond_false, pS_x hxl hxy, pS_y hyl, pS_set_y]
  cases v with
  | true =>
   rw [hf]
   simp only [gw0, reduceEqDiff, ↓reduceIte, reduceAdd, reduceLT, reduceLeDiff, reduceMul, gwD3, gwDT, pureR_none, ite_self, nilR, nilB, bitF, bitV, nilC, nilCmp, eqb, assertV, assertW, zeroV, wQ_normal, wQ_ret, wQ_panic, pickO, pickC, List.map_cons, List.map_nil, List.getD_cons_zero, List.getD_cons_succ, Env.keep, beq_self_eq_true, cond_true, cond_false, pS_x hxl hxy, pS_y hyl, pS_set_y]
   exact gives_self trivial (pS_ok x y _ hst)
  | false =>
   rw [hf]
   simp only [Bool.or_eq_false_iff, decide_eq_false_iff_not] at h
   simp only [gw0, reduceEqDiff, ↓reduceIte, reduceAdd, reduceLT, reduceLeDiff, reduceMul, gwD3, gwDT, pureR_none, ite_self, nilR, nilB, bitF, bitV, nilC, nilCmp, eqb, assertV, assertW, zeroV, wQ_normal, wQ_ret, wQ_panic, pickO, pickC, List.map_cons, List.map_nil, List.getD_cons_zero, List.getD_cons_succ, Env.keep, beq_self_eq_true, cond_true, cond_false, pS_x hxl hxy, pS_y hyl, pS_set_y]
   rw [show ((n.toNat : Nat) : Int) = n by omega]
   exact gives_self trivial (pS_ok x y _ hst)
theorem pFew_le (s : Str × Bool) : (pFew s).1 ≤ (pFew s).2.1.length ∧ (pFew s).2.1.length ≤ s.1.length := by
 have hle : (pNum s).2.1.length ≤ s.1.length := by
  unfold pNum
  cases decide ((takeR s.1).2 = 0) || s.2 <;> simp
 unfold pFew
 cases h : (decide ((pNum s).1 < 0) || decide (((pNum s).2.1.length : Int) < (pNum s).1)) || (pNum s).2.2 with
 | true => exact ⟨Nat.zero_le _, hle⟩
 | false =>
  simp only [Bool.or_eq_false_iff, decide_eq_false_iff_not] at h
  exact ⟨by simp only [cond_false]; omega, hle⟩
theorem c_ptext (s : Str × Bool) (st : St) (x y z z2 : Nat) (hx : st[x]? = some (.box [.lst 1 none (byteRows s.1)])) (hy : st[y]? = some (.box [.bool s.2])) (hz : st[z]? = some (.box [.fn (.func 35) [.ptr x 0, .ptr y 0]]))
  (hz2 : st[z2]? = some (.box [.fn (.func 37) [.ptr z 0, .ptr x 0, .ptr y 0]])) (hxy : x ≠ y) :
  VCalls Tryz.prog TT 38 [.ptr z2 0, .ptr x 0] st fun q st' => q = .ret (.str (pStr s).1) ∧ st' = pS st x y (pStr s).2 := by
 have hxl := (List.getElem?_eq_some_iff.1 hx).1
 have hyl := (List.getElem?_eq_some_iff.1 hy).1
 refine vfun TT_ok (an := anL []) (L := [0, 1, 2, 3, 4]) (rs := [.tmp 2]) Tryz.func38 rfl (by kernel_rfl) rfl Tryz.ntmps38 rfl rfl (by simp [pS]) fun hst ha hf => ?_
 simp only [gw0, reduceEqDiff, ↓reduceIte, reduceAdd, reduceLT, reduceLeDiff, reduceMul, gwD3, gwDT, pureR_none, ite_self, nilR, nilB, bitF, bitV, nilC, nilCmp, eqb, assertV, assertW, zeroV, wQ_normal, wQ_ret, wQ_panic, pickO, pickC, List.map_cons, List.map_nil, List.getD_cons_zero, List.getD_cons_succ, Env.keep, beq_self_eq_true, cond_true, cond_false, hz2]
 refine (c_pfew s st x y z hx hy hz hxy).use (wkL_refl _) fun _ => ?_
 have hle := (pFew_le s).1
 have hd : ∀ (k : Nat) (r : Str), (byteRows r).drop k = byteRows (r.drop k) := fun k r => by simp [byteRows, List.map_drop]
 have ht : ∀ (k : Nat) (r : Str), (byteRows r).take k = byteRows (r.take k) := fun k r => by simp [byteRows, List.map_take]
 unfold pStr
 generalize pFew s = p at hle
 obtain ⟨n, t, v⟩ := p
 simp only at hle ⊢
 simp only [gw0, reduceEqDiff, ↓reduceIte, reduceAdd, reduceLT, reduceLeDiff, reduceMul, gwD3, gwDT, pureR_none, ite_self, nilR, nilB, bitF, bitV, nilC, nilCmp, eqb, assertV, assertW, zeroV, wQ_normal, wQ_ret, wQ_panic, pickO, pickC, List.map_cons, List.map_nil, List.getD_cons_zero, List.getD_cons_succ, Env.keep, beq_self_eq_true, cond_true, cond_false, pS_x hxl hxy, pS_y hyl, rows_len, Int.toNat_natCast, convV, bytesOf_rows, hd, ht, pS_set_x hxy]
 exact ⟨by omega, by omega, gives_self trivial (pS_ok x y _ hst)⟩
/-- What comes to a place. -/
def comeIn (p : Int) : List (Int × Int) → Int → Option Int
 | [], h => some h
 | (a, x) :: r, h => bif !decide (a = p) then comeIn p r h else bif decide (0 ≤ h) && !decide (h = x) then none else comeIn p r x
def heightsG (n : Nat) (body : Bool) : List Ins → Nat → List (Int × Int) → Bool
 | [], _, _ => true
 | x :: r, i, next => match comeIn i next (-1) with
  | none => false
  | some h => bif decide (h < 0) then false else
   bif decide (x.op = 15) then (bif (body && !decide (h = 0)) || (!body && !decide (h = 1)) then false else heightsG n body r (i + 1) next) else
   bif decide (h < (movesI x.op x.a).1) then false else
   bif decide (x.op = 9) then
    (bif decide (x.a ≤ i) then false else heightsG n body r (i + 1) (next ++ [(x.a, IntKind.i64.wrap (IntKind.i64.wrap (h - (movesI x.op x.a).1) + (movesI x.op x.a).2))]))
   else bif decide (x.op = 10) then
    (bif decide (x.a ≤ i) then false else bif decide (((i + 1 : Nat) : Int) = n) then false else
     heightsG n body r (i + 1) (next ++ [(x.a, IntKind.i64.wrap (IntKind.i64.wrap (h - (movesI x.op x.a).1) + (movesI x.op x.a).2)), (((i + 1 : Nat) : Int), IntKind.i64.wrap (IntKind.i64.wrap (h - (movesI x.op x.a).1) + (movesI x.op x.a).2))]))
   else bif decide (((i + 1 : Nat) : Int) = n) then false else
     heightsG n body r (i + 1) (next ++ [(((i + 1 : Nat) : Int), IntKind.i64.wrap (IntKind.i64.wrap (h - (movesI x.op x.a).1) + (movesI x.op x.a).2))])
def rowsP (l : List (Int × Int)) : List (List V) := l.map fun p => [V.int .i64 p.1, V.int .i64 p.2]
theorem opCases (op : Int) {M : Prop} (h : ∀ b8 b9 b10 b11 b12 b13 b14 : Bool, decide (op = 8) = b8 → decide (op = 9) = b9 → decide (op = 10) = b10 → decide (op = 11) = b11 → decide (op = 12) = b12 → decide (op = 13) = b13 → decide (op = 14) = b14 →
  (b8, b9, b10, b11, b12, b13, b14) ∈ [(false, true, false, false, false, false, false), (false, false, true, false, false, false, false), (true, false, false, false, false, false, false), (false, false, false, true, false, false, false), (false, false, false, false, true, false, false), (false, false, false, false, false, true, false), (false, false, false, false, false, false, true), (false, false, false, false, false, false, false)] → M) : M := by
 refine h _ _ _ _ _ _ _ rfl rfl rfl rfl rfl rfl rfl ?_
 by_cases h8 : op = 8
 ·subst h8; decide
 by_cases h9 : op = 9
 ·subst h9; decide
 by_cases h10 : op = 10
 ·subst h10; decide
 by_cases h11 : op = 11
 ·subst h11; decide
 by_cases h12 : op = 12
 ·subst h12; decide
 by_cases h13 : op = 13
 ·subst h13; decide
 by_cases h14 : op = 14
 ·subst h14; decide
 simp [h8, h9, h10, h11, h12, h13, h14]
set_option maxRecDepth 20000 in
set_option maxHeartbeats 16000000 in
theorem c_Heights (code : List Ins) (body : Bool) (st : St) (hl : code.length ≤ 1000000) : VCalls Tryz.prog TT 53 [lstI code, .bool body] st fun r st' => r = .ret (.bool (heightsG code.length body code 0 [(0, 0)])) ∧ st' = st := by
 refine vfun TT_ok (an := anL [(29, 1)]) (L := [0, 1, 4, 5, 6, 7, 8, 10, 11, 12, 13, 14, 20, 21, 31, 32, 35, 36, 37, 92, 100, 103]) (rs := [.tmp 4]) Tryz.func53 rfl (by kernel_rfl) rfl Tryz.ntmps53 rfl rfl (Nat.le_refl _) fun hst ha hf => ?_
 have w0 : IntKind.i64.wrap ((code.length : Int) + 1) = ((code.length + 1 : Nat) : Int) := next_i64 (n := code.length + 1) (by omega) (by omega)
 simp only [gw0, reduceEqDiff, ↓reduceIte, reduceAdd, reduceLT, reduceLeDiff, reduceMul, lstI, List.length_map, w0]
 refine ⟨⟨by omega, by omega⟩, ?_⟩
 have hz : ([V.int .i64 0] :: List.replicate code.length [V.int .i64 0]) = rowsI (fillM (code.length + 1) 0) := by rw [← List.replicate_succ, fillM_zero]
 rw [hz]
 refine vfor (σ := Nat) [0, 1, 4, 5, 20, 21] (fun i => [(0, true, lstI code), (1, true, .bool body), (4, true, .bool false), (5, true, .arr st.length (code.length + 1)), (20, true, .int .i64 ((code.length + 1 : Nat) : Int)), (21, true, .int .i64 i)]) (fun i => st ++ [Ent.arr 3 1 (rowsI (fillM (code.length + 1) i))]) (fun i => code.length + 1 - i) (fun i => i ≤ code.length + 1) 0 rfl TT_ok (Nat.zero_le _) rfl rfl ?_
 intro i hi
 have hil : (rowsI (fillM (code.length + 1) i)).length = code.length + 1 := by rw [rowsI_len, fillM_len]
 rcases Nat.lt_or_ge i (code.length + 1) with hlt | hge
 ·have hgi := rowsI_get (l := fillM (code.length + 1) i) (by rw [fillM_len]; exact hlt)
  have w : IntKind.i64.wrap ((i : Int) + 1) = ((i + 1 : Nat) : Int) := next_i64 hlt (by omega)
  simp only [gw0, reduceEqDiff, ↓reduceIte, reduceAdd, reduceLT, reduceLeDiff, reduceMul, lt_yes hlt, hil, hgi, Int.toNat_natCast, Int.ofNat_lt.mpr hlt, w, rowsI_set, Env.keep]
  refine ⟨hlt, i + 1, rfl, ?_, by omega, hlt⟩
  rw [fillM_set _ _ hlt]
 have hie : i = code.length + 1 := by omega
 subst hie
 rw [fillM_all]
 simp only [gw0, reduceEqDiff, ↓reduceIte, reduceAdd, reduceLT, reduceLeDiff, reduceMul, lt_no, lstI, List.length_map]
 generalize hn : code.length = n at *
 have hz2 : rowsI (-1 :: List.replicate n (-1)) = rowsI (List.replicate (n + 1) (-1)) := rfl
 have hz3 : [[V.int .i64 0, V.int .i64 0]] = rowsP [(0, 0)] := rfl
 rw [hz2, hz3]
 have hinit : ∀ j, 0 ≤ j → (List.replicate (n + 1) (-1 : Int)).getD j 0 = -1 ∨ n < j := fun j _ => by
  rcases Nat.lt_or_ge n j with h | h
  ·exact .inr h
  ·exact .inl (by rw [List.getD_eq_getElem?_getD, List.getElem?_replicate_of_lt (by omega)]; rfl)
 refine vfor (σ := Nat × List Int × List (Int × Int) × St) [0, 1, 4, 5, 7, 31, 32] (fun x => [(0, true, lstI code), (1, true, .bool body), (4, true, .bool false), (5, true, .arr st.length (n + 1)), (7, true, .lst 2 (some (st.length + 1)) (rowsP x.2.2.1)), (31, true, .int .i64 n), (32, true, .int .i64 x.1)]) (fun x => st ++ (Ent.arr 3 1 (rowsI x.2.1) :: Ent.tip 140 x.2.2.1.length :: x.2.2.2)) (fun x => n - x.1) (fun x => x.1 ≤ n ∧ x.2.1.length = n + 1 ∧ (∀ j, x.1 ≤ j → x.2.1.getD j 0 = -1 ∨ n < j) ∧ x.2.2.1.length ≤ 2 * x.1 + 1 ∧ heightsG n body code 0 [(0, 0)] = heightsG n body (code.drop x.1) x.1 x.2.2.1) (0, List.replicate (n + 1) (-1), [(0, 0)], []) rfl TT_ok ⟨Nat.zero_le _, by simp, hinit, by simp, rfl⟩ rfl rfl ?_
 rintro ⟨i, seen, next, ex⟩ ⟨hi, hsl, hsn, hnl, hx⟩
 simp only at hi hsl hsn hnl hx ⊢
 rw [hx]
 rcases at_or_end code i (by omega) with ⟨hie, hd⟩ | ⟨u, hlt, hget, hdr⟩
 ·have hie2 : i = n := by omega
  subst hie2
  simp only [gw0, reduceEqDiff, ↓reduceIte, reduceAdd, reduceLT, reduceLeDiff, reduceMul, lt_no, hd, heightsG]
  exact gives_bool' rfl hst
 rw [hdr, heightsG]
 rw [hn] at hlt
 have hrl : (rowsI seen).length = n + 1 := by rw [rowsI_len, hsl]
 have hpl : (rowsP next).length = next.length := by simp [rowsP]
 simp only [gw0, reduceEqDiff, ↓reduceIte, reduceAdd, reduceLT, reduceLeDiff, reduceMul, lt_yes hlt, hpl]
 have hs0 : seen.getD i 0 = -1 := by rcases hsn i (Nat.le_refl _) with h | h; exact h; omega
 have hse : seen.set i (-1) = seen := by
  apply List.ext_getElem?; intro j
  rw [List.getElem?_set]
  split
  ·rename_i e; subst e
   rw [if_pos (by omega), ← hs0, List.getD_eq_getElem?_getD, List.getElem?_eq_getElem (by omega)]; rfl
  ·rfl
 refine vfor (σ := Nat × Int × St) [0, 1, 4, 5, 7, 8, 31, 32, 35, 36, 37] (fun x => [(0, true, lstI code), (1, true, .bool body), (4, true, .bool false), (5, true, .arr st.length (n + 1)), (7, true, .lst 2 (some (st.length + 1)) (rowsP next)), (8, true, .int .i64 i), (31, true, .int .i64 n), (32, true, .int .i64 i), (35, true, .lst 2 (some (st.length + 1)) (rowsP next)), (36, true, .int .i64 next.length), (37, true, .int .i64 x.1)]) (fun x => st ++ (Ent.arr 3 1 (rowsI (seen.set i x.2.1)) :: Ent.tip 140 next.length :: x.2.2)) (fun x => next.length - x.1) (fun x => x.1 ≤ next.length ∧ comeIn i next (-1) = comeIn i (next.drop x.1) x.2.1) (0, -1, ex) rfl TT_ok ⟨Nat.zero_le _, rfl⟩ rfl (by simp only [hse]) ?_
 rintro ⟨j, cur, ex2⟩ ⟨hj, hy⟩
 simp only at hj hy ⊢
 rw [hy]
 have hrl2 : (rowsI (seen.set i cur)).length = n + 1 := by rw [rowsI_len, List.length_set, hsl]
 have hgi : (rowsI (seen.set i cur)).getD i [] = [.int .i64 cur] := by
  rw [rowsI_get (by rw [List.length_set]; omega), List.getD_eq_getElem?_getD, List.getElem?_set_self (by omega)]; rfl
 have hin : (i : Int) < ((n + 1 : Nat) : Int) := by omega
 rcases at_or_end next j hj with ⟨hje, hd⟩ | ⟨⟨pa, ph⟩, hltj, hgetj, hdrj⟩
 ·have hje2 : j = next.length := hje
  subst hje2
  rw [hd, comeIn]
  simp only [gw0, reduceEqDiff, ↓reduceIte, reduceAdd, reduceLT, reduceLeDiff, reduceMul, lt_no, hrl2, hgi, hin, Int.toNat_natCast]
  refine ⟨by omega, iK_split (fun h1 => ?_) (fun h1 => ?_)⟩
  ·simp only [gw0, reduceEqDiff, ↓reduceIte, reduceAdd, reduceLT, reduceLeDiff, reduceMul, h1, cond_true]
   exact gives_bool' rfl hst
  have hgu : (code.map encI).getD i [] = encI u := getD_map hget
  have w : IntKind.i64.wrap ((i : Int) + 1) = ((i + 1 : Nat) : Int) := next_i64 hlt (by omega)
  have hil2 : (i : Int) < (n : Int) := Int.ofNat_lt.mpr hlt
  have hsn2 : ∀ j, i + 1 ≤ j → (seen.set i cur).getD j 0 = -1 ∨ n < j := fun j hj => by
   have := hsn j (by omega)
   rwa [List.getD_eq_getElem?_getD, List.getElem?_set_ne (by omega), ← List.getD_eq_getElem?_getD]
  obtain ⟨op, a, nn, lb, ow, qd⟩ := u
  simp only [encI_mk] at hgu ⊢
  simp only [h1, cond_false]
  simp only [gw0, reduceEqDiff, ↓reduceIte, reduceAdd, reduceLT, reduceLeDiff, reduceMul, lstI, List.length_map, hn, hgu, hil2, Int.toNat_natCast, encD_take, encD_len, encD_drop]
  have hE : ∀ e : Ent, (st ++ Ent.arr 3 1 (rowsI (seen.set i cur)) :: Ent.tip 140 next.length :: (ex2 ++ [e])) = st ++ Ent.arr 3 1 (rowsI (seen.set i cur)) :: Ent.tip 140 next.length :: (ex2 ++ [e]) := fun _ => rfl
  refine iK_split (fun h15 => ?_) (fun h15 => ?_)
  ·simp only [h15, cond_true]
   simp only [gw0, reduceEqDiff, ↓reduceIte, reduceAdd, reduceLT, reduceLeDiff, reduceMul]
   refine ⟨fun h _ => ⟨h, fun h2 => by rw [h, h2]; rfl⟩, iK_split (fun h2 => ?_) (fun h2 => ?_)⟩
   ·simp only [gw0, reduceEqDiff, ↓reduceIte, reduceAdd, reduceLT, reduceLeDiff, reduceMul, h2, cond_true]
    exact gives_bool' rfl hst
   ·simp only [h2, cond_false]
    simp only [gw0, reduceEqDiff, ↓reduceIte, reduceAdd, reduceLT, reduceLeDiff, reduceMul, w, Env.keep]
    exact ⟨(i + 1, seen.set i cur, next, _), rfl, rfl, by simp only; omega, by simp only; omega, by simp [hsl], hsn2, by simp only; omega, rfl⟩
  simp only [h15, cond_false]
  refine opCases op fun b8 b9 b10 b11 b12 b13 b14 h8 h9 h10 h11 h12 h13 h14 hm => ?_
  simp only [movesI, h8, h9, h10, h11, h12, h13, h14]
  simp only [List.mem_cons, List.not_mem_nil, or_false, Prod.mk.injEq] at hm
  rcases hm with ⟨rfl, rfl, rfl, rfl, rfl, rfl, rfl⟩ | ⟨rfl, rfl, rfl, rfl, rfl, rfl, rfl⟩ | ⟨rfl, rfl, rfl, rfl, rfl, rfl, rfl⟩ | ⟨rfl, rfl, rfl, rfl, rfl, rfl, rfl⟩ | ⟨rfl, rfl, rfl, rfl, rfl, rfl, rfl⟩ | ⟨rfl, rfl, rfl, rfl, rfl, rfl, rfl⟩ | ⟨rfl, rfl, rfl, rfl, rfl, rfl, rfl⟩ | ⟨rfl, rfl, rfl, rfl, rfl, rfl, rfl⟩
  all_goals
   simp only [Bool.or_self, Bool.or_true, Bool.true_or, Bool.or_false, Bool.false_or, cond_true, cond_false]
   simp only [gw0, reduceEqDiff, ↓reduceIte, reduceAdd, reduceLT, reduceLeDiff, reduceMul, h8, h9, h10, h11, h12, h13, h14]
  ·refine iK_split (fun h3 => ?_) (fun h3 => ?_)
   ·simp only [gw0, reduceEqDiff, ↓reduceIte, reduceAdd, reduceLT, reduceLeDiff, reduceMul, h3, cond_true]
    exact gives_bool' rfl hst
   simp only [h3, cond_false]
   simp only [gw0, reduceEqDiff, ↓reduceIte, reduceAdd, reduceLT, reduceLeDiff, reduceMul, h8, h9, h10]
   refine iK_split (fun h4 => ?_) (fun h4 => ?_)
   ·simp only [gw0, reduceEqDiff, ↓reduceIte, reduceAdd, reduceLT, reduceLeDiff, reduceMul, h4, cond_true]
    exact gives_bool' rfl hst
   simp only [h4, cond_false]
   simp only [gw0, reduceEqDiff, ↓reduceIte, reduceAdd, reduceLT, reduceLeDiff, reduceMul, h9, hpl, w, Env.keep]
   generalize IntKind.i64.wrap (IntKind.i64.wrap (cur - 0) + 0) = hh
   exact ⟨by omega, (i + 1, seen.set i cur, next ++ [(a, hh)], ex2 ++ [Ent.box (V.int .i64 op :: V.int .i64 a :: V.int .i64 nn :: V.str lb :: V.str ow :: encD qd)]), by simp [rowsP], by simp, by simp only; omega, by simp only; omega, by simp [hsl], hsn2, by simp; omega, rfl⟩
  ·refine iK_split (fun h3 => ?_) (fun h3 => ?_)
   ·simp only [gw0, reduceEqDiff, ↓reduceIte, reduceAdd, reduceLT, reduceLeDiff, reduceMul, h3, cond_true]
    exact gives_bool' rfl hst
   simp only [h3, cond_false]
   simp only [gw0, reduceEqDiff, ↓reduceIte, reduceAdd, reduceLT, reduceLeDiff, reduceMul, h8, h9, h10]
   refine iK_split (fun h4 => ?_) (fun h4 => ?_)
   ·simp only [gw0, reduceEqDiff, ↓reduceIte, reduceAdd, reduceLT, reduceLeDiff, reduceMul, h4, cond_true]
    exact gives_bool' rfl hst
   simp only [h4, cond_false]
   simp only [gw0, reduceEqDiff, ↓reduceIte, reduceAdd, reduceLT, reduceLeDiff, reduceMul, h9, hpl, w, List.length_map, hn, lstI]
   generalize IntKind.i64.wrap (IntKind.i64.wrap (cur - 1) + 0) = hh
   refine ⟨by omega, iK_split (fun h5 => ?_) (fun h5 => ?_)⟩
   ·simp only [gw0, reduceEqDiff, ↓reduceIte, reduceAdd, reduceLT, reduceLeDiff, reduceMul, h5, cond_true]
    exact gives_bool' rfl hst
   simp only [h5, cond_false]
   simp only [gw0, reduceEqDiff, ↓reduceIte, reduceAdd, reduceLT, reduceLeDiff, reduceMul, h9, hpl, w, List.length_append, Env.keep]
   exact ⟨by omega, (i + 1, seen.set i cur, next ++ [(a, hh), (((i + 1 : Nat) : Int), hh)], ex2 ++ [Ent.box (V.int .i64 op :: V.int .i64 a :: V.int .i64 nn :: V.str lb :: V.str ow :: encD qd)]), by simp [rowsP], by simp, by simp only; omega, by simp only; omega, by simp [hsl], hsn2, by simp; omega, rfl⟩
  all_goals
   refine iK_split (fun h3 => ?_) (fun h3 => ?_)
   ·simp only [gw0, reduceEqDiff, ↓reduceIte, reduceAdd, reduceLT, reduceLeDiff, reduceMul, h3, cond_true]
    exact gives_bool' rfl hst
   simp only [h3, cond_false]
   simp only [gw0, reduceEqDiff, ↓reduceIte, reduceAdd, reduceLT, reduceLeDiff, reduceMul, h9, h10, w, List.length_map, hn, lstI]
   generalize IntKind.i64.wrap (IntKind.i64.wrap (cur - _) + _) = hh
   refine iK_split (fun h5 => ?_) (fun h5 => ?_)
   ·simp only [gw0, reduceEqDiff, ↓reduceIte, reduceAdd, reduceLT, reduceLeDiff, reduceMul, h5, cond_true]
    exact gives_bool' rfl hst
   simp only [h5, cond_false]
   simp only [gw0, reduceEqDiff, ↓reduceIte, reduceAdd, reduceLT, reduceLeDiff, reduceMul, h9, hpl, w, Env.keep]
   exact ⟨by omega, (i + 1, seen.set i cur, next ++ [(((i + 1 : Nat) : Int), hh)], ex2 ++ [Ent.box (V.int .i64 op :: V.int .i64 a :: V.int .i64 nn :: V.str lb :: V.str ow :: encD qd)]), by simp [rowsP], by simp, by simp only; omega, by simp only; omega, by simp [hsl], hsn2, by simp; omega, rfl⟩
 ·rw [hdrj, comeIn]
  have hgp : (rowsP next).getD j [] = [V.int .i64 pa, V.int .i64 ph] := getD_map hgetj
  have hjl : (j : Int) < (next.length : Int) := Int.ofNat_lt.mpr hltj
  have wj : IntKind.i64.wrap ((j : Int) + 1) = ((j + 1 : Nat) : Int) := next_i64 hltj (by omega)
  simp only [gw0, reduceEqDiff, ↓reduceIte, reduceAdd, reduceLT, reduceLeDiff, reduceMul, lt_yes hltj, hgp, hpl, hjl, Int.toNat_natCast]
  refine iK_split (fun h1 => ?_) (fun h1 => ?_)
  ·simp only [gw0, reduceEqDiff, ↓reduceIte, reduceAdd, reduceLT, reduceLeDiff, reduceMul, h1, cond_true, wj, Env.keep]
   exact ⟨(j + 1, cur, ex2 ++ [Ent.box [V.int .i64 pa, V.int .i64 ph]]), rfl, rfl, by simp only; omega, by simp only; omega, rfl⟩
  simp only [h1, cond_false]
  simp only [gw0, reduceEqDiff, ↓reduceIte, reduceAdd, reduceLT, reduceLeDiff, reduceMul]
  refine vdraw TT_ok TT_mixed [0, 0, 1, 1, 0, 0, 0, 0, 1, 1, 0, 1, 0, 0] (by kernel_rfl) ?_
  simp only [gw0, reduceEqDiff, ↓reduceIte, reduceAdd, reduceLT, reduceLeDiff, reduceMul, hrl2, hgi, hin, Int.toNat_natCast, forall_const]
  refine ⟨by omega, fun _ => by omega, iK_split (fun h2 => ?_) (fun h2 => ?_)⟩
  ·simp only [gw0, reduceEqDiff, ↓reduceIte, reduceAdd, reduceLT, reduceLeDiff, reduceMul, h2, cond_true]
   exact gives_bool' rfl hst
  simp only [h2, cond_false]
  simp only [gw0, reduceEqDiff, ↓reduceIte, reduceAdd, reduceLT, reduceLeDiff, reduceMul, hrl2, hgi, hin, Int.toNat_natCast, rowsI_set, List.set_set, wj, Env.keep]
  refine ⟨by omega, (j + 1, ph, ex2 ++ [Ent.box [V.int .i64 pa, V.int .i64 ph]]), rfl, rfl, by simp only; omega, by simp only; omega, rfl⟩
theorem comeIn_all {p : Int} : ∀ {l : List (Int × Int)} {c h : Int}, comeIn p l c = some h → 0 ≤ c → ∀ e ∈ l, e.1 = p → e.2 = c
 | [], _, _, _, _, e, he => by simp at he
 | (a, x) :: r, c, h, hc, h0, e, he => by
  rw [comeIn] at hc
  intro hp
  by_cases ha : a = p
  ·simp only [ha, decide_true, Bool.not_true, cond_false] at hc
   cases h1 : decide (0 ≤ c) && !decide (c = x) with
   | true => rw [h1] at hc; simp at hc
   | false =>
    rw [h1] at hc
    simp only [cond_false] at hc
    have hcx : c = x := by simpa [h0] using h1
    rcases List.mem_cons.1 he with rfl | he
    ·exact hcx.symm
    ·rw [hcx]; exact comeIn_all hc (by omega) e he hp
  ·simp only [ha, decide_false, Bool.not_false, cond_true] at hc
   rcases List.mem_cons.1 he with rfl | he
   ·exact absurd hp ha
   ·exact comeIn_all hc h0 e he hp
theorem comeIn_eq {p : Int} : ∀ {l : List (Int × Int)} {c h : Int}, comeIn p l c = some h → ∀ e ∈ l, ∀ f ∈ l, e.1 = p → f.1 = p → 0 ≤ e.2 → 0 ≤ f.2 → e.2 = f.2
 | [], _, _, _, e, he => by simp at he
 | (a, x) :: r, c, h, hc, e, he => by
  rw [comeIn] at hc
  intro f hf h1 h2 h3 h4
  by_cases ha : a = p
  ·simp only [ha, decide_true, Bool.not_true, cond_false] at hc
   cases hb : decide (0 ≤ c) && !decide (c = x) with
   | true => rw [hb] at hc; simp at hc
   | false =>
    rw [hb] at hc
    simp only [cond_false] at hc
    rcases List.mem_cons.1 he with rfl | he <;> rcases List.mem_cons.1 hf with rfl | hf
    ·rfl
    ·exact (comeIn_all hc h3 f hf h2).symm
    ·exact comeIn_all hc h4 e he h1
    ·exact comeIn_eq hc e he f hf h1 h2 h3 h4
  ·simp only [ha, decide_false, Bool.not_false, cond_true] at hc
   rcases List.mem_cons.1 he with rfl | he
   ·exact absurd h1 ha
   rcases List.mem_cons.1 hf with rfl | hf
   ·exact absurd h2 ha
   exact comeIn_eq hc e he f hf h1 h2 h3 h4
theorem comeIn_none {p : Int} : ∀ {l : List (Int × Int)} {c : Int}, (∀ e ∈ l, e.1 ≠ p) → comeIn p l c = some c
 | [], _, _ => rfl
 | (a, x) :: r, c, h => by
  have := h (a, x) (by simp)
  simp only at this
  rw [comeIn]
  simp only [this, decide_false, Bool.not_false, cond_true]
  exact comeIn_none fun e he => h e (by simp [he])
theorem comeIn_some {p h : Int} (h0 : 0 ≤ h) : ∀ {l : List (Int × Int)} {c : Int}, (∀ e ∈ l, e.1 = p → e.2 = h) → (c = -1 ∨ c = h) → (∃ e ∈ l, e.1 = p) ∨ c = h → comeIn p l c = some h
 | [], c, _, _, hx => by
  rcases hx with ⟨e, he, _⟩ | rfl
  ·simp at he
  ·rfl
 | (a, x) :: r, c, hl, hc, hx => by
  rw [comeIn]
  by_cases ha : a = p
  ·have hxh := hl (a, x) (by simp) ha
   simp only at hxh
   subst hxh
   have hb : (decide (0 ≤ c) && !decide (c = x)) = false := by rcases hc with rfl | rfl <;> simp
   simp only [ha, decide_true, Bool.not_true, cond_false, hb]
   exact comeIn_some h0 (fun e he => hl e (by simp [he])) (.inr rfl) (.inr rfl)
  ·simp only [ha, decide_false, Bool.not_false, cond_true]
   refine comeIn_some h0 (fun e he => hl e (by simp [he])) hc ?_
   rcases hx with ⟨e, he, hp⟩ | hx
   ·rcases List.mem_cons.1 he with rfl | he
    ·exact absurd hp ha
    ·exact .inl ⟨e, he, hp⟩
   ·exact .inr hx
/-- Where two come to a place with unlike heights. -/
theorem heights_bad {n : Nat} {body : Bool} {j : Int} {x y : Int} (hxy : x ≠ y) (hx : 0 ≤ x) (hy : 0 ≤ y) : ∀ {r : List Ins} {i : Nat} {next : List (Int × Int)}, (j, x) ∈ next → (j, y) ∈ next → (i : Int) ≤ j → j < n → i + r.length = n → heightsG n body r i next = false
 | [], i, next, _, _, h1, h2, h3 => by simp only [List.length_nil] at h3; omega
 | u :: r, i, next, m1, m2, h1, h2, h3 => by
  rw [List.length_cons] at h3
  rw [heightsG]
  cases hc : comeIn i next (-1) with
  | none => rfl
  | some h =>
   by_cases hij : (i : Int) = j
   ·exact absurd (comeIn_eq hc _ m1 _ m2 hij.symm hij.symm hx hy) hxy
   ·have ih : ∀ ex, heightsG n body r (i + 1) (next ++ ex) = false := fun ex => heights_bad hxy hx hy (List.mem_append_left _ m1) (List.mem_append_left _ m2) (by omega) h2 (by omega)
    have ih0 := ih []
    rw [List.append_nil] at ih0
    simp only [ih, ih0]
    cases decide (h < 0) <;> cases decide (u.op = 15) <;> cases decide (h < (movesI u.op u.a).1) <;> cases decide (u.op = 9) <;> cases decide (u.op = 10) <;> cases decide (u.a ≤ (i : Int)) <;> cases decide (((i + 1 : Nat) : Int) = n) <;> simp
/-- What is known of an instruction, its own being right. -/
def OpsOk (n : Nat) (x : Ins) : Prop := (x.op = 8 → 0 ≤ x.a ∧ x.a ≤ 2000) ∧ (x.op = 9 ∨ x.op = 10 → 0 ≤ x.a ∧ x.a < n)
theorem moves_ok {n : Nat} {x : Ins} (h : OpsOk n x) : 0 ≤ (movesI x.op x.a).1 ∧ (movesI x.op x.a).1 ≤ 2001 ∧ 0 ≤ (movesI x.op x.a).2 ∧ (movesI x.op x.a).2 ≤ 1 := by
 unfold movesI
 by_cases h8 : x.op = 8
 ·have := h.1 h8
  simp only [h8, decide_true, cond_true]
  rw [wrap_i64 (by omega) (by omega)]
  omega
 ·simp only [h8, decide_false, cond_false]
  cases decide (x.op = 9) <;> cases (decide (x.op = 10) || decide (x.op = 14)) <;> cases (decide (x.op = 11) || decide (x.op = 12) || decide (x.op = 13)) <;> simp
structure CH (i n : Nat) (high : List Int) (next : List (Int × Int)) : Prop where
 ent : ∀ e ∈ next, (i : Int) ≤ e.1 → 0 ≤ e.2 ∧ high.getD e.1.toNat 0 = e.2
 hi : ∀ j : Nat, i ≤ j → j < n → high.getD j 0 = -1 ∨ (0 ≤ high.getD j 0 ∧ ∃ e ∈ next, e.1 = j)
 top : ∀ e ∈ next, e.1 < n ∧ e.2 ≤ i
theorem CH.come {i n : Nat} {high : List Int} {next : List (Int × Int)} (h : CH i n high next) (hi : i < n) : comeIn i next (-1) = some (high.getD i 0) := by
 rcases h.hi i (Nat.le_refl _) hi with h1 | ⟨h1, e, he, h2⟩
 ·rw [h1]
  refine comeIn_none fun e he hp => ?_
  have := h.ent e he (by omega)
  rw [hp, Int.toNat_natCast, h1] at this
  omega
 ·refine comeIn_some h1 (fun f hf hp => ?_) (.inl rfl) (.inl ⟨e, he, h2⟩)
  have := h.ent f hf (by omega)
  rw [hp, Int.toNat_natCast] at this
  exact this.2.symm
theorem CH.next {i n : Nat} {high : List Int} {next : List (Int × Int)} (h : CH i n high next) : CH (i + 1) n high next :=
 ⟨fun e he h1 => h.ent e he (by omega), fun j h1 h2 => h.hi j (by omega) h2, fun e he => ⟨(h.top e he).1, by have := (h.top e he).2; omega⟩⟩
theorem getD_set_eq {l : List Int} {k : Nat} {x : Int} (h : k < l.length) : (l.set k x).getD k 0 = x := by
 rw [List.getD_eq_getElem?_getD, List.getElem?_set_self h]; rfl
theorem getD_set_ne {l : List Int} {k j : Nat} {x : Int} (h : k ≠ j) : (l.set k x).getD j 0 = l.getD j 0 := by
 rw [List.getD_eq_getElem?_getD, List.getElem?_set_ne h, ← List.getD_eq_getElem?_getD]
/-- A place that is come to: either all comes to nothing, or it is as it should be. -/
theorem CH.meet {i n : Nat} {high : List Int} {next : List (Int × Int)} (h : CH i n high next) (hl : high.length = n) {a x : Int} (ha : (i : Int) ≤ a) (hn : a < n) (hx : 0 ≤ x) (hxi : x ≤ i) :
  ((meetP n high a x).1 = false ∧ ∃ y, y ≠ x ∧ 0 ≤ y ∧ (a, y) ∈ next) ∨ ((meetP n high a x).1 = true ∧ CH i n (meetP n high a x).2 (next ++ [(a, x)])) := by
 obtain ⟨k, rfl⟩ : ∃ k : Nat, a = k := ⟨a.toNat, by omega⟩
 unfold meetP
 have e1 : decide ((n : Int) ≤ (k : Int)) = false := decide_eq_false (by omega)
 simp only [e1, Bool.false_or, Int.toNat_natCast]
 cases hb : decide (0 ≤ high.getD k 0) && !decide (high.getD k 0 = x) with
 | true =>
  left
  simp only [Bool.and_eq_true, decide_eq_true_eq, Bool.not_eq_true', decide_eq_false_iff_not] at hb
  refine ⟨rfl, high.getD k 0, hb.2, hb.1, ?_⟩
  rcases h.hi k (by omega) (by omega) with h1 | ⟨h1, e, he, h2⟩
  ·omega
  ·have := (h.ent e he (by omega)).2
   rw [h2, Int.toNat_natCast] at this
   rw [this]
   obtain ⟨e1, e2⟩ := e
   simp only at h2 ⊢
   rw [← h2]; exact he
 | false =>
  right
  refine ⟨rfl, ⟨fun e he h1 => ?_, fun j h1 h2 => ?_, fun e he => ?_⟩⟩
  ·simp only [cond_false]
   rcases List.mem_append.1 he with he | he
   ·obtain ⟨q1, q2⟩ := h.ent e he h1
    refine ⟨q1, ?_⟩
    by_cases e' : e.1 = k
    ·rw [e', Int.toNat_natCast, getD_set_eq (by omega)]
     rw [e', Int.toNat_natCast] at q2
     have : high.getD k 0 = x := by
      rw [q2] at hb ⊢
      simpa [q1] using hb
     omega
    ·have := (h.top e he).1
     rw [getD_set_ne (by omega)]; exact q2
   ·simp only [List.mem_singleton] at he
    subst he
    exact ⟨hx, by simp only [Int.toNat_natCast]; exact getD_set_eq (by omega)⟩
  ·simp only [cond_false]
   by_cases e' : k = j
   ·subst e'
    rw [getD_set_eq (by omega)]
    exact .inr ⟨hx, (k, x), by simp, rfl⟩
   ·rw [getD_set_ne e']
    rcases h.hi j h1 h2 with h3 | ⟨h3, e, he, h4⟩
    ·exact .inl h3
    ·exact .inr ⟨h3, e, by simp [he], h4⟩
  ·rcases List.mem_append.1 he with he | he
   ·exact h.top e he
   ·simp only [List.mem_singleton] at he
    subst he
    exact ⟨by simp only; omega, hxi⟩
theorem heights_stack {n : Nat} {body : Bool} (hn : n ≤ 1000000) : ∀ (r : List Ins) (i : Nat) (high : List Int) (next : List (Int × Int)), (∀ x ∈ r, OpsOk n x) → i + r.length = n → high.length = n → CH i n high next →
  heightsG n body r i next = decide (stackG n body r i high = 0) ∧ (stackG n body r i high = 0 ∨ stackG n body r i high = 8)
 | [], i, high, next, _, _, _, _ => by simp [heightsG, stackG]
 | u :: r, i, high, next, hok, hil, hl, hC => by
  rw [List.length_cons] at hil
  have hi : i < n := by omega
  have hr : ∀ x ∈ r, OpsOk n x := fun x hx => hok x (by simp [hx])
  have hu := hok u (by simp)
  obtain ⟨d1, d2, d3, d4⟩ := moves_ok hu
  have hcome := hC.come hi
  have hhi : high.getD i 0 ≤ i := by
   rcases hC.hi i (Nat.le_refl _) hi with h1 | ⟨h1, e, he, h2⟩
   ·omega
   ·have q1 := hC.ent e he (by omega)
    have q2 := (hC.top e he).2
    rw [h2, Int.toNat_natCast] at q1
    omega
  rw [heightsG, hcome, stackG]
  simp only
  generalize high.getD i 0 = h at *
  generalize (movesI u.op u.a).1 = dn at *
  generalize (movesI u.op u.a).2 = up at *
  by_cases h0 : h < 0
  ·simp [h0]
  have e0 : decide (h < 0) = false := decide_eq_false h0
  simp only [e0, cond_false, Bool.false_or]
  by_cases h15 : u.op = 15
  ·have hh : (decide (u.op = 15) && (decide (1 < h) || !(decide (h = 0) == body))) = ((body && !decide (h = 0)) || (!body && !decide (h = 1))) := by
    simp only [h15, decide_true, Bool.true_and]
    by_cases q0 : h = 0
    ·subst q0; cases body <;> rfl
    ·by_cases q1 : h = 1
     ·subst q1; cases body <;> rfl
     ·have : decide (1 < h) = true := decide_eq_true (by omega)
      cases body <;> simp [q0, q1, this]
   rw [hh]
   simp only [h15, decide_true, cond_true]
   cases (body && !decide (h = 0)) || (!body && !decide (h = 1)) with
   | true => simp
   | false => exact heights_stack hn r (i + 1) high next hr (by omega) hl hC.next
  simp only [h15, decide_false, Bool.false_and, cond_false]
  have w1 : IntKind.i64.wrap (h - dn) = h - dn := wrap_i64 (by omega) (by omega)
  rw [w1]
  have ed : decide (h - dn < 0) = decide (h < dn) := by
   by_cases q : h < dn
   ·rw [decide_eq_true q, decide_eq_true (by omega)]
   ·rw [decide_eq_false q, decide_eq_false (by omega)]
  rw [ed]
  by_cases hd : h < dn
  ·simp [hd]
  have w2 : IntKind.i64.wrap (h - dn + up) = h - dn + up := wrap_i64 (by omega) (by omega)
  rw [w2]
  obtain ⟨hh, hhe⟩ : ∃ hh : Int, hh = h - dn + up := ⟨_, rfl⟩
  rw [← hhe]
  have hh0 : 0 ≤ hh := by omega
  have hhi2 : hh ≤ ((i + 1 : Nat) : Int) := by omega
  simp only [hd, decide_false, cond_false]
  have C1 := hC.next
  have bad : ∀ {a y : Int} {ex : List (Int × Int)}, (((i + 1 : Nat) : Int)) ≤ a → a < n → y ≠ hh → 0 ≤ y → (a, y) ∈ next ++ ex → (a, hh) ∈ next ++ ex → heightsG n body r (i + 1) (next ++ ex) = false := fun q1 q2 q3 q4 q5 q6 => heights_bad q3 q4 hh0 q5 q6 q1 q2 (by omega)
  by_cases h9 : u.op = 9
  ·simp only [h9, decide_true, cond_true]
   have ha := hu.2 (.inl h9)
   by_cases ga : u.a ≤ (i : Int)
   ·simp [ga]
   simp only [ga, decide_false, cond_false]
   rcases C1.meet hl (a := u.a) (by omega) ha.2 hh0 hhi2 with ⟨m1, y, m2, m3, m4⟩ | ⟨m1, m2⟩
   ·rw [m1, bad (by omega) ha.2 m2 m3 (List.mem_append_left _ m4) (by simp)]
    simp
   ·rw [m1]
    simp only [Bool.not_true, cond_false]
    exact heights_stack hn r (i + 1) _ _ hr (by omega) (by rw [meetP_len]; exact hl) m2
  simp only [h9, decide_false, cond_false]
  by_cases h10 : u.op = 10
  ·simp only [h10, decide_true, cond_true]
   have ha := hu.2 (.inr h10)
   by_cases ga : u.a ≤ (i : Int)
   ·simp [ga]
   simp only [ga, decide_false, cond_false]
   have hin : ¬ (((i + 1 : Nat) : Int) = n) := by omega
   simp only [hin, decide_false, cond_false]
   rcases C1.meet hl (a := u.a) (by omega) ha.2 hh0 hhi2 with ⟨m1, y, m2, m3, m4⟩ | ⟨m1, m2⟩
   ·rw [m1, bad (by omega) ha.2 m2 m3 (List.mem_append_left _ m4) (by simp)]
    simp
   ·rw [m1]
    simp only [Bool.not_true, cond_false]
    rcases m2.meet (by rw [meetP_len]; exact hl) (a := ((i + 1 : Nat) : Int)) (Int.le_refl _) (by omega) hh0 hhi2 with ⟨k1, y, k2, k3, k4⟩ | ⟨k1, k2⟩
    ·rw [k1, bad (a := ((i + 1 : Nat) : Int)) (Int.le_refl _) (by omega) k2 k3 (by
      rcases List.mem_append.1 k4 with k4 | k4
      ·exact List.mem_append_left _ k4
      ·refine List.mem_append_right _ ?_
       simp only [List.mem_singleton] at k4
       rw [k4]; simp) (by simp)]
     simp
    ·rw [k1]
     simp only [Bool.not_true, cond_false]
     rw [List.append_assoc] at k2
     exact heights_stack hn r (i + 1) _ _ hr (by omega) (by rw [meetP_len, meetP_len]; exact hl) k2
  simp only [h10, decide_false, cond_false]
  by_cases hin : ((i + 1 : Nat) : Int) = n
  ·have : (meetP n high ((i + 1 : Nat) : Int) hh).1 = false := by
    unfold meetP
    have : decide ((n : Int) ≤ ((i + 1 : Nat) : Int)) = true := decide_eq_true (by omega)
    simp only [this, Bool.true_or, cond_true]
   rw [this, decide_eq_true hin]
   simp
  ·simp only [hin, decide_false, cond_false]
   rcases C1.meet hl (a := ((i + 1 : Nat) : Int)) (Int.le_refl _) (by omega) hh0 hhi2 with ⟨m1, y, m2, m3, m4⟩ | ⟨m1, m2⟩
   ·rw [m1, bad (a := ((i + 1 : Nat) : Int)) (Int.le_refl _) (by omega) m2 m3 (List.mem_append_left _ m4) (by simp)]
    simp
   ·rw [m1]
    simp only [Bool.not_true, cond_false]
    exact heights_stack hn r (i + 1) _ _ hr (by omega) (by rw [meetP_len]; exact hl) m2
theorem heights_eq {code : List Ins} {body : Bool} (hn : code.length ≤ 1000000) (hok : ∀ x ∈ code, OpsOk code.length x) : heightsG code.length body code 0 [(0, 0)] = decide (stackE code body = 0) ∧ (stackE code body = 0 ∨ stackE code body = 8) := by
 unfold stackE
 cases code with
 | nil => simp [heightsG, stackG]
 | cons x r =>
  refine heights_stack hn (x :: r) 0 _ _ hok (by simp) (initHt_len _ _) ⟨fun e he _ => ?_, fun j _ hj => ?_, fun e he => ?_⟩
  ·simp only [List.mem_singleton] at he
   subst he
   exact ⟨Int.le_refl _, by simp [initHt]⟩
  ·by_cases hj0 : j = 0
   ·subst hj0
    right
    refine ⟨by simp [initHt], (0, 0), by simp, rfl⟩
   ·left
    have hlen : j < (initHt (x :: r).length (x :: r).length).length := by rw [initHt_len]; exact hj
    rw [List.getD_eq_getElem?_getD, List.getElem?_eq_getElem hlen, Option.getD_some]
    simp only [initHt, List.getElem_map, List.getElem_range, hj, decide_true, cond_true, hj0, decide_false, cond_false]
  ·simp only [List.mem_singleton] at he
   subst he
   simp
theorem inE_among (a n : Int) : inE (decide (0 ≤ a) && decide (a < n)) 3 = amongE a n := by
 unfold inE amongE
 by_cases h1 : a < 0
 ·have : ¬ 0 ≤ a := by omega
  simp [h1, this]
 ·by_cases h2 : n ≤ a
  ·have : ¬ a < n := by omega
   simp [h2, this]
  ·have e1 : 0 ≤ a := by omega
   have e2 : a < n := by omega
   simp [h1, h2, e1, e2]
theorem own_ins (ps : List Pr) (G : Int) (p : Nat) (x : Ins) (ar : List Int) (h7 : x.op ≠ 7) : ownK (kindR x.op) x (ar.getD p 0) ((ps.getD p ⟨0, []⟩).code.length) G = (insE ps G p x ar).1 ∧ (insE ps G p x ar).2 = ar := by
 obtain ⟨op, a, n, lb, ow, q⟩ := x
 simp only at h7 ⊢
 by_cases hr : op < 1 ∨ 15 < op
 ·have hk : kindR op = 0 := by
   unfold kindR
   have : (decide (op < 1) || decide (15 < op)) = true := by simpa using hr
   rw [this]; rfl
  rw [hk]
  have e : ∀ k : Int, 1 ≤ k → k ≤ 15 → decide (op = k) = false := fun k h1 h2 => decide_eq_false (by omega)
  simp [ownK, insE, e]
 ·have h1 : 1 ≤ op ∧ op ≤ 15 := by omega
  have : op = 1 ∨ op = 2 ∨ op = 3 ∨ op = 4 ∨ op = 5 ∨ op = 6 ∨ op = 8 ∨ op = 9 ∨ op = 10 ∨ op = 11 ∨ op = 12 ∨ op = 13 ∨ op = 14 ∨ op = 15 := by omega
  rcases this with rfl | rfl | rfl | rfl | rfl | rfl | rfl | rfl | rfl | rfl | rfl | rfl | rfl | rfl
  ·simp only [ownK, insE, show kindR 1 = 110 from rfl, decide_true, cond_true, Int.reduceEq, decide_false, cond_false]
   have e1 : decide (-1000000000000000 ≤ n) = !decide (n < -1000000000000000) := by by_cases q : n < -1000000000000000 <;> simp [q] <;> omega
   have e2 : decide (n ≤ 1000000000000000) = !decide (1000000000000000 < n) := by by_cases q : 1000000000000000 < n <;> simp [q] <;> omega
   rw [e1, e2]
   cases decide (n < -1000000000000000) <;> cases decide (1000000000000000 < n) <;> simp [inE]
  ·simp only [ownK, insE, show kindR 2 = 110 from rfl, decide_true, cond_true, Int.reduceEq, decide_false, cond_false, inE]
   by_cases q1 : n = 0 <;> by_cases q2 : n = 1 <;> simp [q1, q2]
  ·simp [ownK, insE, show kindR 3 = 113 from rfl]
  ·simp [ownK, insE, show kindR 4 = 108 from rfl, inE_among]
  ·simp only [ownK, insE, show kindR 5 = 103 from rfl, inE_among, globalE]
   cases decide (0 ≤ G) <;> cases plainB lb <;> cases namedB ow <;> simp [inE]
  ·simp only [ownK, insE, show kindR 6 = 112 from rfl, inE]
   cases decide (ow ∈ prims) <;> simp
  ·have := inE_among a 2001
   have e : decide (a < 2001) = decide (a ≤ 2000) := by by_cases q : a < 2001 <;> simp [q] <;> omega
   rw [e] at this
   simp [ownK, insE, show kindR 8 = 97 from rfl, this]
  ·simp [ownK, insE, show kindR 9 = 106 from rfl, inE_among]
  ·simp [ownK, insE, show kindR 10 = 106 from rfl, inE_among]
  ·simp [ownK, insE, show kindR 11 = 108 from rfl, inE_among]
  ·simp only [ownK, insE, show kindR 12 = 103 from rfl, inE_among, globalE]
   cases decide (0 ≤ G) <;> cases plainB lb <;> cases namedB ow <;> simp [inE]
  ·simp only [ownK, insE, show kindR 13 = 103 from rfl, inE_among, globalE]
   cases decide (0 ≤ G) <;> cases plainB lb <;> cases namedB ow <;> simp [inE]
  ·simp [ownK, insE, show kindR 14 = 45 from rfl]
  ·simp [ownK, insE, show kindR 15 = 45 from rfl]
theorem amongE_zero {a n : Int} (h : amongE a n = 0) : 0 ≤ a ∧ a < n := by
 unfold amongE at h
 cases h1 : decide (a < 0) || decide (n ≤ a) with
 | true => rw [h1] at h; simp at h
 | false => simp only [Bool.or_eq_false_iff, decide_eq_false_iff_not] at h1; omega
theorem ins_ops {ps : List Pr} {G : Int} {p : Nat} {x : Ins} {ar : List Int} (h : (insE ps G p x ar).1 = 0) : OpsOk ((ps.getD p ⟨0, []⟩).code.length) x := by
 obtain ⟨op, a, n, lb, ow, q⟩ := x
 refine ⟨fun h8 => ?_, fun h9 => ?_⟩
 ·simp only at h8
  subst h8
  have : amongE a 2001 = 0 := by simpa [insE] using h
  have := amongE_zero this
  simp only; omega
 ·simp only at h9
  rcases h9 with rfl | rfl <;> exact amongE_zero (by simpa [insE] using h)
end Go.Proofs.YtcdnooalfkbmgaaGreatDoor.Gx
