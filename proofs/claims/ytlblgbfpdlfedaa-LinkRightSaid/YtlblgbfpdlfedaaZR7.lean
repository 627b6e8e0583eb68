/- Contracts: what is wrong with an instruction. Contracts: how a procedure uses the stack. Contracts: what is wrong with procedures, and with a unit. Contracts of the document's answer: what is wrong with what an instruction has. Contract of the document's answer: heights of the stack. Data that are right: what is bare of them, and that they are themselves. Contracts: is a unit's name one of those ahead. -/
import Derived.Test.YtlblgbfpdlfedaaZR6

namespace Go.Proofs.Ytlblgbfpdlfedaa.Gx
open Go Go.Proofs.Ytlblgbfpdlfedaa.Gw
set_option linter.unusedSimpArgs false
set_option linter.unusedVariables false

/-- A shape of procedures, as it lies: how many parameters are around each, in an object. -/
structure SH (s : St) (b A : Nat) (ps : List Pr) (ar : List Int) (G : Int) : Prop where
  box : s[b]? = some (.box [lstPr ps, .arr A ar.length, .int .i64 G])
  arr : s[A]? = some (.arr 3 1 (rowsI ar))
theorem rowsI_len (l : List Int) : (rowsI l).length = l.length := by simp [rowsI]
def globalE (G : Int) (i : Ins) : Int := bif decide (0 ≤ G) then amongE i.a G else bif !plainB i.lib || !namedB i.own then 7 else 0

theorem c_global (s : St) (b A : Nat) (ps : List Pr) (ar : List Int) (G : Int) (i : Ins) (h : SH s b A ps ar G) : VCalls Try.prog TT 46 [.ptr b 0, .ref (encI i)] s fun r st' => r = .ret (.int .i64 (globalE G i)) ∧ st' = s := by
  refine vfun TT_ok (an := anL []) (L := [0, 1, 4]) (rs := [.tmp 4]) Try.func46 rfl (by kernel_rfl) rfl Try.ntmps46 rfl rfl (Nat.le_refl _) fun hst ha hf => ?_
  obtain ⟨op, a, n, lb, ow, q⟩ := i
  simp only [encI_mk]
  simp only [gwL, gwB, gwD, gwE, gwS, gwTT, gwZ, gwN, gwC, Nat.reduceEqDiff, ↓reduceIte, Nat.reduceAdd, Nat.reduceLT, Nat.reduceLeDiff, Nat.reduceMul, h.box]
  refine iK_split (fun h1 => ?_) (fun h1 => ?_)
  · simp only [gwL, gwB, gwD, gwE, gwS, gwTT, gwZ, gwN, gwC, Nat.reduceEqDiff, ↓reduceIte, Nat.reduceAdd, Nat.reduceLT, Nat.reduceLeDiff, Nat.reduceMul]
    refine vdraw TT_ok TT_mixed [0, 0, 0, 1, 0, 0, 0, 1, 0, 0] (by kernel_rfl) ?_
    simp only [gwL, gwB, gwD, gwE, gwS, gwTT, gwZ, gwN, gwC, Nat.reduceEqDiff, ↓reduceIte, Nat.reduceAdd, Nat.reduceLT, Nat.reduceLeDiff, Nat.reduceMul, h.box]
    refine eK_free (fun s => c_among s a G) (wkL_refl _) ?_
    simp only [gwL, gwB, gwD, gwE, gwS, gwTT, gwZ, gwN, gwC, Nat.reduceEqDiff, ↓reduceIte, Nat.reduceAdd, Nat.reduceLT, Nat.reduceLeDiff, Nat.reduceMul]
    exact gives_int (by simp only [globalE, h1, cond_true]) hst
  · simp only [gwL, gwB, gwD, gwE, gwS, gwTT, gwZ, gwN, gwC, Nat.reduceEqDiff, ↓reduceIte, Nat.reduceAdd, Nat.reduceLT, Nat.reduceLeDiff, Nat.reduceMul]
    refine (c_plain _ lb).use (wkL_refl _) fun _ => ?_
    simp only [gwL, gwB, gwD, gwE, gwS, gwTT, gwZ, gwN, gwC, Nat.reduceEqDiff, ↓reduceIte, Nat.reduceAdd, Nat.reduceLT, Nat.reduceLeDiff, Nat.reduceMul]
    refine rK_guarded (.bool (namedB ow)) (fun _ => c_text_Named _ ow) ?_
    simp only [gwL, gwB, gwD, gwE, gwS, gwTT, gwZ, gwN, gwC, Nat.reduceEqDiff, ↓reduceIte, Nat.reduceAdd, Nat.reduceLT, Nat.reduceLeDiff, Nat.reduceMul]
    refine iK_split (fun h2 => ?_) (fun h2 => ?_)
    · simp only [gwL, gwB, gwD, gwE, gwS, gwTT, gwZ, gwN, gwC, Nat.reduceEqDiff, ↓reduceIte, Nat.reduceAdd, Nat.reduceLT, Nat.reduceLeDiff, Nat.reduceMul]
      exact gives_int (by simp only [globalE, h1, cond_false, h2, cond_true]) hst
    · simp only [gwL, gwB, gwD, gwE, gwS, gwTT, gwZ, gwN, gwC, Nat.reduceEqDiff, ↓reduceIte, Nat.reduceAdd, Nat.reduceLT, Nat.reduceLeDiff, Nat.reduceMul]
      exact gives_int (by simp only [globalE, h1, cond_false, h2]) hst

theorem rowsI_set (l : List Int) (k : Nat) (x : Int) : (rowsI l).set k [V.int .i64 x] = rowsI (l.set k x) := by simp [rowsI, List.map_set]
/-- What is wrong with an instruction of a procedure; and how many parameters are around each behind it. -/
def insE (ps : List Pr) (G : Int) (p : Nat) (i : Ins) (ar : List Int) : Int × List Int :=
  bif decide (i.op = 1) then (bif decide (1000000000000000 < i.n) || decide (i.n < -1000000000000000) then 3 else 0, ar)
  else bif decide (i.op = 2) then (bif !decide (i.n = 0) && !decide (i.n = 1) then 3 else 0, ar)
  else bif decide (i.op = 3) then ((wrongL [i.quote] 0 0).1, ar)
  else bif decide (i.op = 4) || decide (i.op = 11) then (amongE i.a (ar.getD p 0), ar)
  else bif decide (i.op = 5) || decide (i.op = 12) || decide (i.op = 13) then (globalE G i, ar)
  else bif decide (i.op = 6) then (bif !decide (i.own ∈ prims) then 7 else 0, ar)
  else bif decide (i.op = 7) then
    (bif decide (i.a ≤ p) || decide ((ps.length : Int) ≤ i.a) then (3, ar) else bif decide (0 ≤ ar.getD i.a.toNat 0) then (8, ar)
     else (0, ar.set i.a.toNat (IntKind.i64.wrap (ar.getD p 0 + (ps.getD i.a.toNat ⟨0, []⟩).args))))
  else bif decide (i.op = 8) then (amongE i.a 2001, ar)
  else bif decide (i.op = 9) || decide (i.op = 10) then (amongE i.a ((ps.getD p ⟨0, []⟩).code.length), ar)
  else bif decide (i.op = 14) || decide (i.op = 15) then (0, ar)
  else (1, ar)
theorem insE_len (ps : List Pr) (G : Int) (p : Nat) (i : Ins) (ar : List Int) : (insE ps G p i ar).2.length = ar.length := by
  unfold insE
  repeat' (first | rfl | (simp only [Bool.cond_decide]) | split | (simp; done))
  all_goals simp [cond]
  all_goals repeat' split
  all_goals simp

set_option maxRecDepth 20000 in
set_option maxHeartbeats 8000000 in
theorem c_ins (s : St) (b A : Nat) (ps : List Pr) (ar : List Int) (G : Int) (p : Nat) (i : Ins) (h : SH s b A ps ar G) (hp : p < ar.length) (hl : ps.length = ar.length) (hl2 : ar.length ≤ 1000000000) :
    VCalls Try.prog TT 35 [.ptr b 0, .int .i64 p, .ref (encI i)] s fun r st' => r = .ret (.int .i64 (insE ps G p i ar).1) ∧ st' = s.set A (.arr 3 1 (rowsI (insE ps G p i ar).2)) := by
  have hset : s.set A (.arr 3 1 (rowsI ar)) = s := by
    apply List.ext_getElem?; intro j
    rw [List.getElem?_set]
    split
    · rename_i e; subst e
      split
      · exact h.arr.symm
      · rename_i e; have := (List.getElem?_eq_some_iff.1 h.arr).1; omega
    · rfl
  refine vfun TT_ok (an := anL []) (L := [0, 1, 2, 6, 10, 48, 63, 145, 162]) (rs := [.tmp 6]) Try.func35 rfl (by kernel_rfl) rfl Try.ntmps35 rfl rfl (by simp) fun hst ha hf => ?_
  obtain ⟨op, a, n, lb, ow, q⟩ := i
  generalize hr : insE ps G p ⟨op, a, n, lb, ow, q⟩ ar = r
  have fin : ∀ e : Int, insE ps G p ⟨op, a, n, lb, ow, q⟩ ar = (e, ar) → Gives (.int .i64 r.1) (s.set A (.arr 3 1 (rowsI r.2))) (.ret (.int .i64 e)) s := fun e he => by
    rw [← hr, he]; simp only; rw [hset]; exact gives_self (by simp [V.lt]) hst
  have hra : (rowsI ar).getD p [] = [.int .i64 (ar.getD p 0)] := by
    have e : ar[p]? = some (ar.getD p 0) := by rw [List.getD_eq_getElem?_getD, List.getElem?_eq_getElem hp]; rfl
    exact getD_map (f := fun n => [V.int .i64 n]) e
  have hrp : (ps.map encPr).getD p [] = encPr (ps.getD p ⟨0, []⟩) := by
    have e : ps[p]? = some (ps.getD p ⟨0, []⟩) := by rw [List.getD_eq_getElem?_getD, List.getElem?_eq_getElem (by omega : p < ps.length)]; rfl
    exact getD_map e
  have hpl : (p : Int) < (ar.length : Int) := Int.ofNat_lt.mpr hp
  simp only [encI_mk]
  simp only [gwL, gwB, gwD, gwE, gwS, gwTT, gwZ, gwN, gwC, Nat.reduceEqDiff, ↓reduceIte, Nat.reduceAdd, Nat.reduceLT, Nat.reduceLeDiff, Nat.reduceMul]
  refine iK_split (fun h1 => ?_) (fun h1 => ?_)
  · simp only [gwL, gwB, gwD, gwE, gwS, gwTT, gwZ, gwN, gwC, Nat.reduceEqDiff, ↓reduceIte, Nat.reduceAdd, Nat.reduceLT, Nat.reduceLeDiff, Nat.reduceMul]
    refine iK_split (fun h2 => ?_) (fun h2 => ?_)
    · simp only [gwL, gwB, gwD, gwE, gwS, gwTT, gwZ, gwN, gwC, Nat.reduceEqDiff, ↓reduceIte, Nat.reduceAdd, Nat.reduceLT, Nat.reduceLeDiff, Nat.reduceMul]
      exact fin _ (by simp only [insE, h1, h2, cond_true])
    · simp only [gwL, gwB, gwD, gwE, gwS, gwTT, gwZ, gwN, gwC, Nat.reduceEqDiff, ↓reduceIte, Nat.reduceAdd, Nat.reduceLT, Nat.reduceLeDiff, Nat.reduceMul]
      exact fin _ (by simp only [insE, h1, h2, cond_true, cond_false])
  simp only [gwL, gwB, gwD, gwE, gwS, gwTT, gwZ, gwN, gwC, Nat.reduceEqDiff, ↓reduceIte, Nat.reduceAdd, Nat.reduceLT, Nat.reduceLeDiff, Nat.reduceMul]
  refine iK_split (fun h2 => ?_) (fun h2 => ?_)
  · simp only [gwL, gwB, gwD, gwE, gwS, gwTT, gwZ, gwN, gwC, Nat.reduceEqDiff, ↓reduceIte, Nat.reduceAdd, Nat.reduceLT, Nat.reduceLeDiff, Nat.reduceMul]
    refine iK_split (fun h3 => ?_) (fun h3 => ?_)
    · simp only [gwL, gwB, gwD, gwE, gwS, gwTT, gwZ, gwN, gwC, Nat.reduceEqDiff, ↓reduceIte, Nat.reduceAdd, Nat.reduceLT, Nat.reduceLeDiff, Nat.reduceMul]
      exact fin _ (by simp only [insE, h1, h2, h3, cond_true, cond_false])
    · simp only [gwL, gwB, gwD, gwE, gwS, gwTT, gwZ, gwN, gwC, Nat.reduceEqDiff, ↓reduceIte, Nat.reduceAdd, Nat.reduceLT, Nat.reduceLeDiff, Nat.reduceMul]
      exact fin _ (by simp only [insE, h1, h2, h3, cond_true, cond_false])
  simp only [gwL, gwB, gwD, gwE, gwS, gwTT, gwZ, gwN, gwC, Nat.reduceEqDiff, ↓reduceIte, Nat.reduceAdd, Nat.reduceLT, Nat.reduceLeDiff, Nat.reduceMul]
  refine iK_split (fun h3 => ?_) (fun h3 => ?_)
  · simp only [gwL, gwB, gwD, gwE, gwS, gwTT, gwZ, gwN, gwC, Nat.reduceEqDiff, ↓reduceIte, Nat.reduceAdd, Nat.reduceLT, Nat.reduceLeDiff, Nat.reduceMul, encD_take, encD_len]
    refine (c_text_Wrong _ [q]).use (wkL_refl _) fun _ => ?_
    simp only [gwL, gwB, gwD, gwE, gwS, gwTT, gwZ, gwN, gwC, Nat.reduceEqDiff, ↓reduceIte, Nat.reduceAdd, Nat.reduceLT, Nat.reduceLeDiff, Nat.reduceMul, fltV]
    exact fin _ (by simp only [insE, h1, h2, h3, cond_true, cond_false])
  simp only [gwL, gwB, gwD, gwE, gwS, gwTT, gwZ, gwN, gwC, Nat.reduceEqDiff, ↓reduceIte, Nat.reduceAdd, Nat.reduceLT, Nat.reduceLeDiff, Nat.reduceMul]
  refine iK_split (fun h4 => ?_) (fun h4 => ?_)
  · simp only [gwL, gwB, gwD, gwE, gwS, gwTT, gwZ, gwN, gwC, Nat.reduceEqDiff, ↓reduceIte, Nat.reduceAdd, Nat.reduceLT, Nat.reduceLeDiff, Nat.reduceMul, h4]
    refine vdraw TT_ok TT_mixed [0, 0, 0, 1, 0, 0, 0, 1, 0, 1, 1, 0, 0] (by kernel_rfl) ?_
    simp only [gwL, gwB, gwD, gwE, gwS, gwTT, gwZ, gwN, gwC, Nat.reduceEqDiff, ↓reduceIte, Nat.reduceAdd, Nat.reduceLT, Nat.reduceLeDiff, Nat.reduceMul, h.box, h.arr, hra, rowsI_len]
    refine ⟨hpl, hp, ?_⟩
    refine eK_free (fun s => c_among s a (ar.getD p 0)) (wkL_refl _) ?_
    simp only [gwL, gwB, gwD, gwE, gwS, gwTT, gwZ, gwN, gwC, Nat.reduceEqDiff, ↓reduceIte, Nat.reduceAdd, Nat.reduceLT, Nat.reduceLeDiff, Nat.reduceMul]
    exact fin _ (by simp only [insE, h1, h2, h3, h4, Bool.true_or, Bool.or_true, Bool.false_or, cond_true, cond_false])
  simp only [gwL, gwB, gwD, gwE, gwS, gwTT, gwZ, gwN, gwC, Nat.reduceEqDiff, ↓reduceIte, Nat.reduceAdd, Nat.reduceLT, Nat.reduceLeDiff, Nat.reduceMul, h4]
  refine iK_split (fun h5 => ?_) (fun h5 => ?_)
  · simp only [gwL, gwB, gwD, gwE, gwS, gwTT, gwZ, gwN, gwC, Nat.reduceEqDiff, ↓reduceIte, Nat.reduceAdd, Nat.reduceLT, Nat.reduceLeDiff, Nat.reduceMul, h5]
    refine vdraw TT_ok TT_mixed [0, 0, 0, 1, 0, 0, 0, 1, 0, 1, 1, 0, 0] (by kernel_rfl) ?_
    simp only [gwL, gwB, gwD, gwE, gwS, gwTT, gwZ, gwN, gwC, Nat.reduceEqDiff, ↓reduceIte, Nat.reduceAdd, Nat.reduceLT, Nat.reduceLeDiff, Nat.reduceMul, h.box, h.arr, hra, rowsI_len]
    refine ⟨hpl, hp, ?_⟩
    refine eK_free (fun s => c_among s a (ar.getD p 0)) (wkL_refl _) ?_
    simp only [gwL, gwB, gwD, gwE, gwS, gwTT, gwZ, gwN, gwC, Nat.reduceEqDiff, ↓reduceIte, Nat.reduceAdd, Nat.reduceLT, Nat.reduceLeDiff, Nat.reduceMul]
    exact fin _ (by simp only [insE, h1, h2, h3, h4, h5, Bool.true_or, Bool.or_true, Bool.false_or, cond_true, cond_false])
  simp only [gwL, gwB, gwD, gwE, gwS, gwTT, gwZ, gwN, gwC, Nat.reduceEqDiff, ↓reduceIte, Nat.reduceAdd, Nat.reduceLT, Nat.reduceLeDiff, Nat.reduceMul, h5]
  refine iK_split (fun h6 => ?_) (fun h6 => ?_)
  · simp only [gwL, gwB, gwD, gwE, gwS, gwTT, gwZ, gwN, gwC, Nat.reduceEqDiff, ↓reduceIte, Nat.reduceAdd, Nat.reduceLT, Nat.reduceLeDiff, Nat.reduceMul, h6]
    refine (c_global s b A ps ar G ⟨op, a, n, lb, ow, q⟩ h).use (wkL_refl _) fun _ => ?_
    simp only [gwL, gwB, gwD, gwE, gwS, gwTT, gwZ, gwN, gwC, Nat.reduceEqDiff, ↓reduceIte, Nat.reduceAdd, Nat.reduceLT, Nat.reduceLeDiff, Nat.reduceMul]
    exact fin _ (by simp only [insE, h1, h2, h3, h4, h5, h6, Bool.true_or, Bool.or_true, Bool.false_or, Bool.or_false, Bool.or_self, cond_true, cond_false])
  simp only [gwL, gwB, gwD, gwE, gwS, gwTT, gwZ, gwN, gwC, Nat.reduceEqDiff, ↓reduceIte, Nat.reduceAdd, Nat.reduceLT, Nat.reduceLeDiff, Nat.reduceMul, h6]
  refine iK_split (fun h7 => ?_) (fun h7 => ?_)
  · simp only [gwL, gwB, gwD, gwE, gwS, gwTT, gwZ, gwN, gwC, Nat.reduceEqDiff, ↓reduceIte, Nat.reduceAdd, Nat.reduceLT, Nat.reduceLeDiff, Nat.reduceMul, h7]
    refine (c_global s b A ps ar G ⟨op, a, n, lb, ow, q⟩ h).use (wkL_refl _) fun _ => ?_
    simp only [gwL, gwB, gwD, gwE, gwS, gwTT, gwZ, gwN, gwC, Nat.reduceEqDiff, ↓reduceIte, Nat.reduceAdd, Nat.reduceLT, Nat.reduceLeDiff, Nat.reduceMul]
    exact fin _ (by simp only [insE, h1, h2, h3, h4, h5, h6, h7, Bool.true_or, Bool.or_true, Bool.false_or, Bool.or_false, Bool.or_self, cond_true, cond_false])
  simp only [gwL, gwB, gwD, gwE, gwS, gwTT, gwZ, gwN, gwC, Nat.reduceEqDiff, ↓reduceIte, Nat.reduceAdd, Nat.reduceLT, Nat.reduceLeDiff, Nat.reduceMul, h7]
  refine iK_split (fun h8 => ?_) (fun h8 => ?_)
  · simp only [gwL, gwB, gwD, gwE, gwS, gwTT, gwZ, gwN, gwC, Nat.reduceEqDiff, ↓reduceIte, Nat.reduceAdd, Nat.reduceLT, Nat.reduceLeDiff, Nat.reduceMul, h8]
    refine (c_global s b A ps ar G ⟨op, a, n, lb, ow, q⟩ h).use (wkL_refl _) fun _ => ?_
    simp only [gwL, gwB, gwD, gwE, gwS, gwTT, gwZ, gwN, gwC, Nat.reduceEqDiff, ↓reduceIte, Nat.reduceAdd, Nat.reduceLT, Nat.reduceLeDiff, Nat.reduceMul]
    exact fin _ (by simp only [insE, h1, h2, h3, h4, h5, h6, h7, h8, Bool.true_or, Bool.or_true, Bool.false_or, Bool.or_false, Bool.or_self, cond_true, cond_false])
  simp only [gwL, gwB, gwD, gwE, gwS, gwTT, gwZ, gwN, gwC, Nat.reduceEqDiff, ↓reduceIte, Nat.reduceAdd, Nat.reduceLT, Nat.reduceLeDiff, Nat.reduceMul, h8]
  refine iK_split (fun h9 => ?_) (fun h9 => ?_)
  · simp only [gwL, gwB, gwD, gwE, gwS, gwTT, gwZ, gwN, gwC, Nat.reduceEqDiff, ↓reduceIte, Nat.reduceAdd, Nat.reduceLT, Nat.reduceLeDiff, Nat.reduceMul]
    refine vdraw TT_ok TT_mixed [0, 0, 0, 0, 1, 0, 0] (by kernel_rfl) ?_
    simp only [gwL, gwB, gwD, gwE, gwS, gwTT, gwZ, gwN, gwC, Nat.reduceEqDiff, ↓reduceIte, Nat.reduceAdd, Nat.reduceLT, Nat.reduceLeDiff, Nat.reduceMul]
    refine eK_free (fun s => c_Prims s) (wkL_refl _) ?_
    simp only [gwL, gwB, gwD, gwE, gwS, gwTT, gwZ, gwN, gwC, Nat.reduceEqDiff, ↓reduceIte, Nat.reduceAdd, Nat.reduceLT, Nat.reduceLeDiff, Nat.reduceMul]
    refine eK_free (fun s => c_Contains s prims ow) (wkL_refl _) ?_
    simp only [gwL, gwB, gwD, gwE, gwS, gwTT, gwZ, gwN, gwC, Nat.reduceEqDiff, ↓reduceIte, Nat.reduceAdd, Nat.reduceLT, Nat.reduceLeDiff, Nat.reduceMul]
    refine iK_split (fun h10 => ?_) (fun h10 => ?_)
    · simp only [gwL, gwB, gwD, gwE, gwS, gwTT, gwZ, gwN, gwC, Nat.reduceEqDiff, ↓reduceIte, Nat.reduceAdd, Nat.reduceLT, Nat.reduceLeDiff, Nat.reduceMul]
      exact fin _ (by simp only [insE, h1, h2, h3, h4, h5, h6, h7, h8, h9, h10, Bool.true_or, Bool.or_true, Bool.false_or, Bool.or_false, Bool.or_self, cond_true, cond_false])
    · simp only [gwL, gwB, gwD, gwE, gwS, gwTT, gwZ, gwN, gwC, Nat.reduceEqDiff, ↓reduceIte, Nat.reduceAdd, Nat.reduceLT, Nat.reduceLeDiff, Nat.reduceMul]
      exact fin _ (by simp only [insE, h1, h2, h3, h4, h5, h6, h7, h8, h9, h10, Bool.true_or, Bool.or_true, Bool.false_or, Bool.or_false, Bool.or_self, cond_true, cond_false])
  simp only [gwL, gwB, gwD, gwE, gwS, gwTT, gwZ, gwN, gwC, Nat.reduceEqDiff, ↓reduceIte, Nat.reduceAdd, Nat.reduceLT, Nat.reduceLeDiff, Nat.reduceMul]
  refine iK_split (fun h10 => ?_) (fun h10 => ?_)
  · simp only [gwL, gwB, gwD, gwE, gwS, gwTT, gwZ, gwN, gwC, Nat.reduceEqDiff, ↓reduceIte, Nat.reduceAdd, Nat.reduceLT, Nat.reduceLeDiff, Nat.reduceMul]
    refine vdraw TT_ok TT_mixed [0, 0, 0, 1, 0, 0, 0, 0, 0, 0, 1, 0, 0, 0, 1, 0, 0, 0] (by kernel_rfl) ?_
    simp only [gwL, gwB, gwD, gwE, gwS, gwTT, gwZ, gwN, gwC, Nat.reduceEqDiff, ↓reduceIte, Nat.reduceAdd, Nat.reduceLT, Nat.reduceLeDiff, Nat.reduceMul, h.box, lstPr, List.length_map]
    refine iK_split (fun h11 => ?_) (fun h11 => ?_)
    · simp only [gwL, gwB, gwD, gwE, gwS, gwTT, gwZ, gwN, gwC, Nat.reduceEqDiff, ↓reduceIte, Nat.reduceAdd, Nat.reduceLT, Nat.reduceLeDiff, Nat.reduceMul]
      exact fin _ (by simp only [insE, h1, h2, h3, h4, h5, h6, h7, h8, h9, h10, h11, Bool.true_or, Bool.or_true, Bool.false_or, Bool.or_false, Bool.or_self, cond_true, cond_false])
    have h11' := h11
    simp only [Bool.or_eq_false_iff, decide_eq_false_iff_not, Int.not_le] at h11'
    obtain ⟨ha1, ha2⟩ := h11'
    obtain ⟨a', rfl⟩ : ∃ a' : Nat, a = a' := ⟨a.toNat, by omega⟩
    have ha3 : a' < ar.length := by omega
    have hra2 : (rowsI ar).getD a' [] = [.int .i64 (ar.getD a' 0)] := by
      have e : ar[a']? = some (ar.getD a' 0) := by rw [List.getD_eq_getElem?_getD, List.getElem?_eq_getElem ha3]; rfl
      exact getD_map (f := fun n => [V.int .i64 n]) e
    have hrp2 : (ps.map encPr).getD a' [] = encPr (ps.getD a' ⟨0, []⟩) := by
      have e : ps[a']? = some (ps.getD a' ⟨0, []⟩) := by rw [List.getD_eq_getElem?_getD, List.getElem?_eq_getElem (by omega : a' < ps.length)]; rfl
      exact getD_map e
    have hal : (a' : Int) < (ar.length : Int) := Int.ofNat_lt.mpr ha3
    simp only [gwL, gwB, gwD, gwE, gwS, gwTT, gwZ, gwN, gwC, Nat.reduceEqDiff, ↓reduceIte, Nat.reduceAdd, Nat.reduceLT, Nat.reduceLeDiff, Nat.reduceMul]
    refine vdraw TT_ok TT_mixed [0, 0, 0, 1, 0, 0, 0, 1, 1, 1, 0] (by kernel_rfl) ?_
    simp only [gwL, gwB, gwD, gwE, gwS, gwTT, gwZ, gwN, gwC, Nat.reduceEqDiff, ↓reduceIte, Nat.reduceAdd, Nat.reduceLT, Nat.reduceLeDiff, Nat.reduceMul, h.box, h.arr, hra2, rowsI_len, Int.toNat_natCast]
    refine ⟨hal, ha3, ?_⟩
    refine iK_split (fun h12 => ?_) (fun h12 => ?_)
    · simp only [gwL, gwB, gwD, gwE, gwS, gwTT, gwZ, gwN, gwC, Nat.reduceEqDiff, ↓reduceIte, Nat.reduceAdd, Nat.reduceLT, Nat.reduceLeDiff, Nat.reduceMul]
      exact fin _ (by simp only [insE, h1, h2, h3, h4, h5, h6, h7, h8, h9, h10, h11, h12, Int.toNat_natCast, Bool.true_or, Bool.or_true, Bool.false_or, Bool.or_false, Bool.or_self, cond_true, cond_false])
    simp only [gwL, gwB, gwD, gwE, gwS, gwTT, gwZ, gwN, gwC, Nat.reduceEqDiff, ↓reduceIte, Nat.reduceAdd, Nat.reduceLT, Nat.reduceLeDiff, Nat.reduceMul]
    refine vdraw TT_ok TT_mixed [0, 0, 0, 1, 0, 0, 0, 1, 0, 0, 0, 1, 0, 1, 1, 0, 0, 0, 1, 0, 0, 0, 1, 0, 0, 1, 0, 1, 2] (by kernel_rfl) ?_
    simp only [gwL, gwB, gwD, gwE, gwS, gwTT, gwZ, gwN, gwC, Nat.reduceEqDiff, ↓reduceIte, Nat.reduceAdd, Nat.reduceLT, Nat.reduceLeDiff, Nat.reduceMul, h.box, h.arr, hra, hra2, hrp2, rowsI_len, Int.toNat_natCast, lstPr, encPr, List.length_map]
    refine ⟨hpl, hp, by omega, hal, ha3, ?_⟩
    have e : insE ps G p ⟨op, a', n, lb, ow, q⟩ ar = (0, ar.set a' (IntKind.i64.wrap (ar.getD p 0 + (ps.getD a' ⟨0, []⟩).args))) := by
      simp only [insE, h1, h2, h3, h4, h5, h6, h7, h8, h9, h10, h11, h12, Int.toNat_natCast, Bool.true_or, Bool.or_true, Bool.false_or, Bool.or_false, Bool.or_self, cond_true, cond_false]
    rw [← hr, e]
    simp only
    rw [rowsI_set]
    exact gives_self (by simp [V.lt]) (ok_set hst (ltRows_map fun _ _ => ⟨trivial, trivial⟩))
  simp only [gwL, gwB, gwD, gwE, gwS, gwTT, gwZ, gwN, gwC, Nat.reduceEqDiff, ↓reduceIte, Nat.reduceAdd, Nat.reduceLT, Nat.reduceLeDiff, Nat.reduceMul]
  refine iK_split (fun h11 => ?_) (fun h11 => ?_)
  · simp only [gwL, gwB, gwD, gwE, gwS, gwTT, gwZ, gwN, gwC, Nat.reduceEqDiff, ↓reduceIte, Nat.reduceAdd, Nat.reduceLT, Nat.reduceLeDiff, Nat.reduceMul]
    refine (c_among _ a 2001).use (wkL_refl _) fun _ => ?_
    simp only [gwL, gwB, gwD, gwE, gwS, gwTT, gwZ, gwN, gwC, Nat.reduceEqDiff, ↓reduceIte, Nat.reduceAdd, Nat.reduceLT, Nat.reduceLeDiff, Nat.reduceMul]
    exact fin _ (by simp only [insE, h1, h2, h3, h4, h5, h6, h7, h8, h9, h10, h11, Bool.true_or, Bool.or_true, Bool.false_or, Bool.or_false, Bool.or_self, cond_true, cond_false])
  simp only [gwL, gwB, gwD, gwE, gwS, gwTT, gwZ, gwN, gwC, Nat.reduceEqDiff, ↓reduceIte, Nat.reduceAdd, Nat.reduceLT, Nat.reduceLeDiff, Nat.reduceMul]
  refine iK_split (fun h12 => ?_) (fun h12 => ?_)
  · simp only [gwL, gwB, gwD, gwE, gwS, gwTT, gwZ, gwN, gwC, Nat.reduceEqDiff, ↓reduceIte, Nat.reduceAdd, Nat.reduceLT, Nat.reduceLeDiff, Nat.reduceMul, h12]
    refine vdraw TT_ok TT_mixed [0, 0, 0, 1, 0, 0, 0, 1, 0, 0, 0, 1, 0, 0, 0] (by kernel_rfl) ?_
    simp only [gwL, gwB, gwD, gwE, gwS, gwTT, gwZ, gwN, gwC, Nat.reduceEqDiff, ↓reduceIte, Nat.reduceAdd, Nat.reduceLT, Nat.reduceLeDiff, Nat.reduceMul, h.box, lstPr, List.length_map, hrp, encPr, lstI]
    refine ⟨Int.ofNat_lt.mpr (by omega), ?_⟩
    refine eK_free (fun s => c_among s a _) (wkL_refl _) ?_
    simp only [gwL, gwB, gwD, gwE, gwS, gwTT, gwZ, gwN, gwC, Nat.reduceEqDiff, ↓reduceIte, Nat.reduceAdd, Nat.reduceLT, Nat.reduceLeDiff, Nat.reduceMul]
    exact fin _ (by simp only [insE, h1, h2, h3, h4, h5, h6, h7, h8, h9, h10, h11, h12, Bool.true_or, Bool.or_true, Bool.false_or, Bool.or_false, Bool.or_self, cond_true, cond_false])
  simp only [gwL, gwB, gwD, gwE, gwS, gwTT, gwZ, gwN, gwC, Nat.reduceEqDiff, ↓reduceIte, Nat.reduceAdd, Nat.reduceLT, Nat.reduceLeDiff, Nat.reduceMul, h12]
  refine iK_split (fun h13 => ?_) (fun h13 => ?_)
  · simp only [gwL, gwB, gwD, gwE, gwS, gwTT, gwZ, gwN, gwC, Nat.reduceEqDiff, ↓reduceIte, Nat.reduceAdd, Nat.reduceLT, Nat.reduceLeDiff, Nat.reduceMul, h13]
    refine vdraw TT_ok TT_mixed [0, 0, 0, 1, 0, 0, 0, 1, 0, 0, 0, 1, 0, 0, 0] (by kernel_rfl) ?_
    simp only [gwL, gwB, gwD, gwE, gwS, gwTT, gwZ, gwN, gwC, Nat.reduceEqDiff, ↓reduceIte, Nat.reduceAdd, Nat.reduceLT, Nat.reduceLeDiff, Nat.reduceMul, h.box, lstPr, List.length_map, hrp, encPr, lstI]
    refine ⟨Int.ofNat_lt.mpr (by omega), ?_⟩
    refine eK_free (fun s => c_among s a _) (wkL_refl _) ?_
    simp only [gwL, gwB, gwD, gwE, gwS, gwTT, gwZ, gwN, gwC, Nat.reduceEqDiff, ↓reduceIte, Nat.reduceAdd, Nat.reduceLT, Nat.reduceLeDiff, Nat.reduceMul]
    exact fin _ (by simp only [insE, h1, h2, h3, h4, h5, h6, h7, h8, h9, h10, h11, h12, h13, Bool.true_or, Bool.or_true, Bool.false_or, Bool.or_false, Bool.or_self, cond_true, cond_false])
  simp only [gwL, gwB, gwD, gwE, gwS, gwTT, gwZ, gwN, gwC, Nat.reduceEqDiff, ↓reduceIte, Nat.reduceAdd, Nat.reduceLT, Nat.reduceLeDiff, Nat.reduceMul, h13]
  refine iK_split (fun h14 => ?_) (fun h14 => ?_)
  · simp only [gwL, gwB, gwD, gwE, gwS, gwTT, gwZ, gwN, gwC, Nat.reduceEqDiff, ↓reduceIte, Nat.reduceAdd, Nat.reduceLT, Nat.reduceLeDiff, Nat.reduceMul, h14]
    exact fin _ (by simp only [insE, h1, h2, h3, h4, h5, h6, h7, h8, h9, h10, h11, h12, h13, h14, Bool.true_or, Bool.or_true, Bool.false_or, Bool.or_false, Bool.or_self, cond_true, cond_false])
  simp only [gwL, gwB, gwD, gwE, gwS, gwTT, gwZ, gwN, gwC, Nat.reduceEqDiff, ↓reduceIte, Nat.reduceAdd, Nat.reduceLT, Nat.reduceLeDiff, Nat.reduceMul, h14]
  refine iK_split (fun h15 => ?_) (fun h15 => ?_)
  · simp only [gwL, gwB, gwD, gwE, gwS, gwTT, gwZ, gwN, gwC, Nat.reduceEqDiff, ↓reduceIte, Nat.reduceAdd, Nat.reduceLT, Nat.reduceLeDiff, Nat.reduceMul, h15]
    exact fin _ (by simp only [insE, h1, h2, h3, h4, h5, h6, h7, h8, h9, h10, h11, h12, h13, h14, h15, Bool.true_or, Bool.or_true, Bool.false_or, Bool.or_false, Bool.or_self, cond_true, cond_false])
  simp only [gwL, gwB, gwD, gwE, gwS, gwTT, gwZ, gwN, gwC, Nat.reduceEqDiff, ↓reduceIte, Nat.reduceAdd, Nat.reduceLT, Nat.reduceLeDiff, Nat.reduceMul, h15]
  exact fin _ (by simp only [insE, h1, h2, h3, h4, h5, h6, h7, h8, h9, h10, h11, h12, h13, h14, h15, Bool.true_or, Bool.or_true, Bool.false_or, Bool.or_false, Bool.or_self, cond_true, cond_false])
end Go.Proofs.Ytlblgbfpdlfedaa.Gx

namespace Go.Proofs.Ytlblgbfpdlfedaa.Gx
open Go Go.Proofs.Ytlblgbfpdlfedaa.Gw
set_option linter.unusedSimpArgs false
set_option linter.unusedVariables false

/-- Code, and heights, as the walk over them has them. -/
structure HS (s : St) (c hb H : Nat) (code : List Ins) (high : List Int) : Prop where
  code : s[c]? = some (.box [lstI code])
  box : s[hb]? = some (.box [.arr H high.length])
  arr : s[H]? = some (.arr 3 1 (rowsI high))
theorem rowsI_get {l : List Int} {k : Nat} (h : k < l.length) : (rowsI l).getD k [] = [.int .i64 (l.getD k 0)] := by
  have e : l[k]? = some (l.getD k 0) := by rw [List.getD_eq_getElem?_getD, List.getElem?_eq_getElem h]; rfl
  exact getD_map (f := fun n => [V.int .i64 n]) e
theorem set_same {s : St} {o : Nat} {e : Ent} (h : s[o]? = some e) : s.set o e = s := by
  apply List.ext_getElem?; intro j
  rw [List.getElem?_set]
  split
  · rename_i e'; subst e'
    split
    · exact h.symm
    · rename_i e2; have := (List.getElem?_eq_some_iff.1 h).1; omega
  · rfl
/-- Two ways meet at a place. -/
def meetP (n : Nat) (high : List Int) (i h : Int) : Bool × List Int :=
  bif decide ((n : Int) ≤ i) || (decide (0 ≤ high.getD i.toNat 0) && !decide (high.getD i.toNat 0 = h)) then (false, high) else (true, high.set i.toNat h)
theorem meetP_len (n : Nat) (high : List Int) (i h : Int) : (meetP n high i h).2.length = high.length := by
  unfold meetP
  cases decide ((n : Int) ≤ i) || (decide (0 ≤ high.getD i.toNat 0) && !decide (high.getD i.toNat 0 = h)) <;> simp

set_option maxRecDepth 20000 in
set_option maxHeartbeats 2000000 in
theorem c_meet (s : St) (c hb H : Nat) (code : List Ins) (high : List Int) (i : Nat) (h : Int) (hs : HS s c hb H code high) (hl : code.length = high.length) :
    VCalls Try.prog TT 49 [.int .i64 i, .int .i64 h, .ptr c 0, .ptr hb 0] s fun r st' => r = .ret (.bool (meetP code.length high i h).1) ∧ st' = s.set H (.arr 3 1 (rowsI (meetP code.length high i h).2)) := by
  refine vfun TT_ok (an := anL []) (L := [0, 1, 2, 3, 6]) (rs := [.tmp 6]) Try.func49 rfl (by kernel_rfl) rfl Try.ntmps49 rfl rfl (by simp) fun hst ha hf => ?_
  have bad : (meetP code.length high i h) = (false, high) → Gives (.bool (meetP code.length high i h).1) (s.set H (.arr 3 1 (rowsI (meetP code.length high i h).2))) (.ret (.bool false)) s := fun e => by
    rw [e]; simp only; rw [set_same hs.arr]; exact gives_self (by simp [V.lt]) hst
  rcases Nat.lt_or_ge i high.length with hlt | hge
  · have e1 : decide ((code.length : Int) ≤ i) = false := decide_eq_false (by omega)
    have hgi := rowsI_get hlt
    have hil : (i : Int) < (high.length : Int) := Int.ofNat_lt.mpr hlt
    simp only [gwL, gwB, gwD, gwE, gwS, gwTT, gwZ, gwN, gwC, Nat.reduceEqDiff, ↓reduceIte, Nat.reduceAdd, Nat.reduceLT, Nat.reduceLeDiff, Nat.reduceMul, hs.code, hs.box, hs.arr, lstI, List.length_map, e1, hgi, rowsI_len, Int.toNat_natCast, Bool.not_false, Bool.false_or, forall_const]
    refine ⟨hil, hlt, fun _ => hil, fun _ => hlt, iK_split (fun h1 => ?_) (fun h1 => ?_)⟩
    · simp only [gwL, gwB, gwD, gwE, gwS, gwTT, gwZ, gwN, gwC, Nat.reduceEqDiff, ↓reduceIte, Nat.reduceAdd, Nat.reduceLT, Nat.reduceLeDiff, Nat.reduceMul]
      exact bad (by simp only [meetP, e1, Int.toNat_natCast, h1, Bool.false_or, cond_true])
    · simp only [gwL, gwB, gwD, gwE, gwS, gwTT, gwZ, gwN, gwC, Nat.reduceEqDiff, ↓reduceIte, Nat.reduceAdd, Nat.reduceLT, Nat.reduceLeDiff, Nat.reduceMul, hs.box, hs.arr, hgi, rowsI_len, Int.toNat_natCast]
      refine ⟨hil, hlt, ?_⟩
      have e : meetP code.length high i h = (true, high.set i h) := by simp only [meetP, e1, Int.toNat_natCast, h1, Bool.false_or, cond_false]
      rw [e]
      simp only
      rw [rowsI_set]
      exact gives_self (by simp [V.lt]) (ok_set hst (ltRows_map fun _ _ => ⟨trivial, trivial⟩))
  · have e1 : decide ((code.length : Int) ≤ i) = true := decide_eq_true (by omega)
    have hgi : (rowsI high).getD i [] = [] := by rw [List.getD_eq_getElem?_getD, List.getElem?_eq_none (by rw [rowsI_len]; exact hge)]; rfl
    simp only [gwL, gwB, gwD, gwE, gwS, gwTT, gwZ, gwN, gwC, Nat.reduceEqDiff, ↓reduceIte, Nat.reduceAdd, Nat.reduceLT, Nat.reduceLeDiff, Nat.reduceMul, hs.code, hs.box, hs.arr, lstI, List.length_map, e1, hgi, rowsI_len, Int.toNat_natCast, Bool.not_true, Bool.true_or]
    exact bad (by simp only [meetP, e1, Bool.true_or, cond_true])

/-- The heights at first. -/
def initHt (n i : Nat) : List Int := (List.range n).map fun j => bif decide (j < i) then (bif decide (j = 0) then 0 else -1) else 0
theorem initHt_len (n i : Nat) : (initHt n i).length = n := by simp [initHt]
theorem initHt_zero (n : Nat) : rowsI (initHt n 0) = List.replicate n [V.int .i64 0] := by
  apply List.ext_getElem
  · simp [rowsI, initHt]
  · intro j h1 h2
    simp [rowsI, initHt]
theorem initHt_set (n i : Nat) (h : i < n) : (initHt n i).set i (bif decide (i = 0) then 0 else -1) = initHt n (i + 1) := by
  apply List.ext_getElem
  · simp [initHt]
  · intro j h1 h2
    rw [List.getElem_set]
    simp only [initHt, List.getElem_map, List.getElem_range]
    by_cases e : i = j
    · subst e; simp
    · have e1 : decide (j < i + 1) = decide (j < i) := by by_cases h : j < i <;> simp [h] <;> omega
      simp [e, e1]
def stackG (n : Nat) (body : Bool) : List Ins → Nat → List Int → Int
  | [], _, _ => 0
  | x :: r, i, high =>
    bif decide (high.getD i 0 < 0) || (decide (x.op = 15) && (decide (1 < high.getD i 0) || !(decide (high.getD i 0 = 0) == body))) then 8
    else bif decide (x.op = 15) then stackG n body r (i + 1) high
    else bif decide (IntKind.i64.wrap (high.getD i 0 - (movesI x.op x.a).1) < 0) then 8
    else bif decide (x.op = 9) then
      (bif decide (x.a ≤ i) then 8 else
       bif !(meetP n high x.a (IntKind.i64.wrap (IntKind.i64.wrap (high.getD i 0 - (movesI x.op x.a).1) + (movesI x.op x.a).2))).1 then 8 else
       stackG n body r (i + 1) (meetP n high x.a (IntKind.i64.wrap (IntKind.i64.wrap (high.getD i 0 - (movesI x.op x.a).1) + (movesI x.op x.a).2))).2)
    else bif decide (x.op = 10) then
      (bif decide (x.a ≤ i) then 8 else
       bif !(meetP n high x.a (IntKind.i64.wrap (IntKind.i64.wrap (high.getD i 0 - (movesI x.op x.a).1) + (movesI x.op x.a).2))).1 then 8 else
       bif !(meetP n (meetP n high x.a (IntKind.i64.wrap (IntKind.i64.wrap (high.getD i 0 - (movesI x.op x.a).1) + (movesI x.op x.a).2))).2 ((i + 1 : Nat) : Int) (IntKind.i64.wrap (IntKind.i64.wrap (high.getD i 0 - (movesI x.op x.a).1) + (movesI x.op x.a).2))).1 then 8 else
       stackG n body r (i + 1) (meetP n (meetP n high x.a (IntKind.i64.wrap (IntKind.i64.wrap (high.getD i 0 - (movesI x.op x.a).1) + (movesI x.op x.a).2))).2 ((i + 1 : Nat) : Int) (IntKind.i64.wrap (IntKind.i64.wrap (high.getD i 0 - (movesI x.op x.a).1) + (movesI x.op x.a).2))).2)
    else
      (bif !(meetP n high ((i + 1 : Nat) : Int) (IntKind.i64.wrap (IntKind.i64.wrap (high.getD i 0 - (movesI x.op x.a).1) + (movesI x.op x.a).2))).1 then 8 else
       stackG n body r (i + 1) (meetP n high ((i + 1 : Nat) : Int) (IntKind.i64.wrap (IntKind.i64.wrap (high.getD i 0 - (movesI x.op x.a).1) + (movesI x.op x.a).2))).2)
def stackE (code : List Ins) (body : Bool) : Int := stackG code.length body code 0 (initHt code.length code.length)

set_option maxRecDepth 20000 in
set_option maxHeartbeats 8000000 in
theorem c_stack (s : St) (b A : Nat) (ps : List Pr) (ar : List Int) (G : Int) (p : Nat) (q : Pr) (body : Bool) (h : SH s b A ps ar G) (hq : ps[p]? = some q) (hl : q.code.length ≤ 6000) :
    VCalls Try.prog TT 36 [.ptr b 0, .int .i64 p, .bool body] s fun r st' => r = .ret (.int .i64 (stackE q.code body)) ∧ st' = s := by
  refine vfun TT_ok (an := anL []) (L := [0, 1, 2, 6, 7, 8, 9, 10, 11, 12, 13, 14, 15, 16, 29, 30, 42, 43]) (rs := [.tmp 6]) Try.func36 rfl (by kernel_rfl) rfl Try.ntmps36 rfl rfl (Nat.le_refl _) fun hst ha hf => ?_
  have hrp : (ps.map encPr).getD p [] = encPr q := getD_map hq
  have hpl : (p : Int) < (ps.length : Int) := Int.ofNat_lt.mpr (List.getElem?_eq_some_iff.1 hq).1
  obtain ⟨qa, code⟩ := q
  simp only at hl ⊢
  simp only [gwL, gwB, gwD, gwE, gwS, gwTT, gwZ, gwN, gwC, Nat.reduceEqDiff, ↓reduceIte, Nat.reduceAdd, Nat.reduceLT, Nat.reduceLeDiff, Nat.reduceMul, h.box, lstPr, List.length_map, hrp, encPr, lstI]
  refine ⟨hpl, ⟨by omega, by omega⟩, ?_⟩
  rw [← initHt_zero]
  refine vfor (σ := Nat) [2, 7, 8, 29, 30] (fun i => [(2, true, .bool body), (7, true, .ptr s.length 0), (8, true, .ptr (s.length + 2) 0), (29, true, .int .i64 code.length), (30, true, .int .i64 i)]) (fun i => s ++ [.box [.lst 11 none (code.map encI)], .arr 3 1 (rowsI (initHt code.length i)), .box [.arr (s.length + 1) code.length]]) (fun i => code.length - i) (fun i => i ≤ code.length) 0 rfl TT_ok (Nat.zero_le _) rfl rfl ?_
  intro i hi
  have hil : (rowsI (initHt code.length i)).length = code.length := by rw [rowsI_len, initHt_len]
  rcases Nat.lt_or_ge i code.length with hlt | hge
  · have hgi := rowsI_get (l := initHt code.length i) (by rw [initHt_len]; exact hlt)
    have w : IntKind.i64.wrap ((i : Int) + 1) = ((i + 1 : Nat) : Int) := next_i64 hlt (by omega)
    have wv : IntKind.i64.wrap (0 - if (1 : Int) < (i : Int) then (1 : Int) else (i : Int)) = (bif decide (i = 0) then 0 else -1) := by
      match i with
      | 0 => rfl
      | 1 => rfl
      | k + 2 =>
        have h2 : (1 : Int) < ((k + 2 : Nat) : Int) := by omega
        rw [if_pos h2]; rfl
    simp only [gwL, gwB, gwD, gwE, gwS, gwTT, gwZ, gwN, gwC, Nat.reduceEqDiff, ↓reduceIte, Nat.reduceAdd, Nat.reduceLT, Nat.reduceLeDiff, Nat.reduceMul, lt_yes hlt, hil, hgi, Int.toNat_natCast, Int.ofNat_lt.mpr hlt, w, rowsI_set, Env.keep]
    refine ⟨hlt, i + 1, rfl, ?_, by omega, hlt⟩
    rw [wv, initHt_set _ _ hlt]
  have hie : i = code.length := by omega
  subst hie
  simp only [gwL, gwB, gwD, gwE, gwS, gwTT, gwZ, gwN, gwC, Nat.reduceEqDiff, ↓reduceIte, Nat.reduceAdd, Nat.reduceLT, Nat.reduceLeDiff, Nat.reduceMul, lt_no, List.length_map]
  generalize hz : initHt code.length code.length = z0
  have hzl : z0.length = code.length := by rw [← hz, initHt_len]
  refine vfor (σ := Nat × List Int) [2, 7, 8, 10, 42, 43] (fun x => [(2, true, .bool body), (7, true, .ptr s.length 0), (8, true, .ptr (s.length + 2) 0), (10, true, .fn (.func 49) [.ptr s.length 0, .ptr (s.length + 2) 0]), (42, true, .int .i64 code.length), (43, true, .int .i64 x.1)]) (fun x => s ++ [.box [.lst 11 none (code.map encI)], .arr 3 1 (rowsI x.2), .box [.arr (s.length + 1) code.length]]) (fun x => code.length - x.1) (fun x => x.1 ≤ code.length ∧ x.2.length = code.length ∧ stackG code.length body code 0 z0 = stackG code.length body (code.drop x.1) x.1 x.2) (0, z0) rfl TT_ok ⟨Nat.zero_le _, hzl, rfl⟩ rfl rfl ?_
  rintro ⟨i, high⟩ ⟨hi, hhl, hx⟩
  simp only at hi hhl hx ⊢
  have hE : stackE code body = stackG code.length body (code.drop i) i high := by rw [stackE, hz]; exact hx
  rw [hE]
  rcases at_or_end code i hi with ⟨hie, hd⟩ | ⟨u, hlt, hget, hdr⟩
  · have hie2 : i = code.length := hie
    subst hie2
    simp only [gwL, gwB, gwD, gwE, gwS, gwTT, gwZ, gwN, gwC, Nat.reduceEqDiff, ↓reduceIte, Nat.reduceAdd, Nat.reduceLT, Nat.reduceLeDiff, Nat.reduceMul, lt_no, hd, stackG]
    exact gives_int' rfl hst
  · have hgi := rowsI_get (l := high) (k := i) (by omega)
    have hgu : (code.map encI).getD i [] = encI u := getD_map hget
    have hrl : (rowsI high).length = code.length := by rw [rowsI_len, hhl]
    have w : IntKind.i64.wrap ((i : Int) + 1) = ((i + 1 : Nat) : Int) := next_i64 hlt (by omega)
    have hil2 : (i : Int) < (code.length : Int) := Int.ofNat_lt.mpr hlt
    obtain ⟨op, a, n, lb, ow, qd⟩ := u
    simp only [encI_mk] at hgu
    rw [hdr, stackG] at hx ⊢
    simp only at hx ⊢
    generalize hgx : high.getD i 0 = hv at *
    simp only [gwL, gwB, gwD, gwE, gwS, gwTT, gwZ, gwN, gwC, Nat.reduceEqDiff, ↓reduceIte, Nat.reduceAdd, Nat.reduceLT, Nat.reduceLeDiff, Nat.reduceMul, lt_yes hlt, hil2, hgi, hgu, hrl, Int.toNat_natCast, w, List.length_map]
    refine ⟨hlt, fun _ => hlt, fun _ => hlt, fun h _ => ⟨h, fun h2 => by rw [h, h2]; rfl⟩, fun h _ => ⟨h, fun h2 => by rw [h, h2]; rfl⟩, iK_split (fun h1 => ?_) (fun h1 => ?_)⟩
    · simp only [gwL, gwB, gwD, gwE, gwS, gwTT, gwZ, gwN, gwC, Nat.reduceEqDiff, ↓reduceIte, Nat.reduceAdd, Nat.reduceLT, Nat.reduceLeDiff, Nat.reduceMul, h1, cond_true]
      exact gives_int' rfl hst
    have hHS : HS (s ++ [Ent.box [.lst 11 none (code.map encI)], .arr 3 1 (rowsI high), .box [.arr (s.length + 1) code.length]]) s.length (s.length + 2) (s.length + 1) code high :=
      ⟨by simp [lstI], by simp [hhl], by simp⟩
    simp only [h1, cond_false] at hx
    simp only [gwL, gwB, gwD, gwE, gwS, gwTT, gwZ, gwN, gwC, Nat.reduceEqDiff, ↓reduceIte, Nat.reduceAdd, Nat.reduceLT, Nat.reduceLeDiff, Nat.reduceMul, h1, cond_false]
    refine iK_split (fun h15 => ?_) (fun h15 => ?_)
    · simp only [h15, cond_true] at hx
      simp only [gwL, gwB, gwD, gwE, gwS, gwTT, gwZ, gwN, gwC, Nat.reduceEqDiff, ↓reduceIte, Nat.reduceAdd, Nat.reduceLT, Nat.reduceLeDiff, Nat.reduceMul, h15, cond_true, w, Env.keep]
      exact ⟨(i + 1, high), rfl, rfl, by simp only; omega, by simp only; omega, hhl, hx⟩
    simp only [h15, cond_false] at hx
    simp only [gwL, gwB, gwD, gwE, gwS, gwTT, gwZ, gwN, gwC, Nat.reduceEqDiff, ↓reduceIte, Nat.reduceAdd, Nat.reduceLT, Nat.reduceLeDiff, Nat.reduceMul, h15, cond_false]
    refine (c_moves _ ⟨op, a, n, lb, ow, qd⟩).use (wkL_refl _) fun _ => ?_
    simp only
    generalize (movesI op a).1 = tk at *
    generalize (movesI op a).2 = pt at *
    simp only [gwL, gwB, gwD, gwE, gwS, gwTT, gwZ, gwN, gwC, Nat.reduceEqDiff, ↓reduceIte, Nat.reduceAdd, Nat.reduceLT, Nat.reduceLeDiff, Nat.reduceMul, hgi, hrl, Int.toNat_natCast]
    refine ⟨hil2, hlt, iK_split (fun h3 => ?_) (fun h3 => ?_)⟩
    · simp only [gwL, gwB, gwD, gwE, gwS, gwTT, gwZ, gwN, gwC, Nat.reduceEqDiff, ↓reduceIte, Nat.reduceAdd, Nat.reduceLT, Nat.reduceLeDiff, Nat.reduceMul, h3, cond_true]
      exact gives_int' rfl hst
    simp only [h3, cond_false] at hx
    simp only [h3, cond_false]
    obtain ⟨hh, hhe⟩ : ∃ hh : Int, hh = IntKind.i64.wrap (IntKind.i64.wrap (hv - tk) + pt) := ⟨_, rfl⟩
    have hh2 := hhe.symm
    rw [hh2] at hx ⊢
    have st2 : ∀ l : List Int, (s ++ [Ent.box [.lst 11 none (code.map encI)], .arr 3 1 (rowsI high), .box [.arr (s.length + 1) code.length]]).set (s.length + 1) (.arr 3 1 (rowsI l)) = s ++ [Ent.box [.lst 11 none (code.map encI)], .arr 3 1 (rowsI l), .box [.arr (s.length + 1) code.length]] := fun l => by simp [List.set_append]
    cases h9 : decide (op = 9) with
    | true =>
      simp only [h9, cond_true] at hx ⊢
      cases h10 : decide (a ≤ i) with
      | true =>
        simp only [h10, cond_true] at hx ⊢
        simp only [gwL, gwB, gwD, gwE, gwS, gwTT, gwZ, gwN, gwC, Nat.reduceEqDiff, ↓reduceIte, Nat.reduceAdd, Nat.reduceLT, Nat.reduceLeDiff, Nat.reduceMul, h3, h9, h10, hh2, cond_true, cond_false, Bool.true_or, Bool.or_true, Bool.false_or, Bool.or_false, Bool.not_true, Bool.not_false, Bool.and_true, Bool.true_and, Bool.false_and, Bool.and_false]
        refine rK_not (.bool false) ?_
        simp only [gwL, gwB, gwD, gwE, gwS, gwTT, gwZ, gwN, gwC, Nat.reduceEqDiff, ↓reduceIte, Nat.reduceAdd, Nat.reduceLT, Nat.reduceLeDiff, Nat.reduceMul, h3, h9, h10, hh2, cond_true, cond_false, Bool.true_or, Bool.or_true, Bool.false_or, Bool.or_false, Bool.not_true, Bool.not_false, Bool.and_true, Bool.true_and, Bool.false_and, Bool.and_false]
        refine rK_not (.bool false) ?_
        simp only [gwL, gwB, gwD, gwE, gwS, gwTT, gwZ, gwN, gwC, Nat.reduceEqDiff, ↓reduceIte, Nat.reduceAdd, Nat.reduceLT, Nat.reduceLeDiff, Nat.reduceMul, h3, h9, h10, hh2, cond_true, cond_false, Bool.true_or, Bool.or_true, Bool.false_or, Bool.or_false, Bool.not_true, Bool.not_false, Bool.and_true, Bool.true_and, Bool.false_and, Bool.and_false]
        exact gives_int' rfl hst
      | false =>
        simp only [h10, cond_false] at hx ⊢
        obtain ⟨a', rfl⟩ : ∃ a' : Nat, a = a' := ⟨a.toNat, by have := of_decide_eq_false h10; omega⟩
        have hmt := c_meet _ _ _ _ code high a' hh hHS (by omega)
        have hml := meetP_len code.length high a' hh
        rw [st2] at hmt
        generalize meetP code.length high a' hh = m at hx hmt hml ⊢
        obtain ⟨mb, m2⟩ := m
        simp only at hx hmt hml ⊢
        simp only [gwL, gwB, gwD, gwE, gwS, gwTT, gwZ, gwN, gwC, Nat.reduceEqDiff, ↓reduceIte, Nat.reduceAdd, Nat.reduceLT, Nat.reduceLeDiff, Nat.reduceMul, h3, h9, h10, hh2, cond_true, cond_false, Bool.true_or, Bool.or_true, Bool.false_or, Bool.or_false, Bool.not_true, Bool.not_false, Bool.and_true, Bool.true_and, Bool.false_and, Bool.and_false]
        refine rK_made hmt (wkL_refl _) ?_
        cases mb with
        | false =>
          simp only [gwL, gwB, gwD, gwE, gwS, gwTT, gwZ, gwN, gwC, Nat.reduceEqDiff, ↓reduceIte, Nat.reduceAdd, Nat.reduceLT, Nat.reduceLeDiff, Nat.reduceMul, h3, h9, h10, hh2, cond_true, cond_false, Bool.true_or, Bool.or_true, Bool.false_or, Bool.or_false, Bool.not_true, Bool.not_false, Bool.and_true, Bool.true_and, Bool.false_and, Bool.and_false]
          refine rK_not (.bool false) ?_
          simp only [gwL, gwB, gwD, gwE, gwS, gwTT, gwZ, gwN, gwC, Nat.reduceEqDiff, ↓reduceIte, Nat.reduceAdd, Nat.reduceLT, Nat.reduceLeDiff, Nat.reduceMul, h3, h9, h10, hh2, cond_true, cond_false, Bool.true_or, Bool.or_true, Bool.false_or, Bool.or_false, Bool.not_true, Bool.not_false, Bool.and_true, Bool.true_and, Bool.false_and, Bool.and_false]
          exact gives_int' rfl hst
        | true =>
          simp only [gwL, gwB, gwD, gwE, gwS, gwTT, gwZ, gwN, gwC, Nat.reduceEqDiff, ↓reduceIte, Nat.reduceAdd, Nat.reduceLT, Nat.reduceLeDiff, Nat.reduceMul, h3, h9, h10, hh2, cond_true, cond_false, Bool.true_or, Bool.or_true, Bool.false_or, Bool.or_false, Bool.not_true, Bool.not_false, Bool.and_true, Bool.true_and, Bool.false_and, Bool.and_false]
          refine rK_not (.bool false) ?_
          simp only [gwL, gwB, gwD, gwE, gwS, gwTT, gwZ, gwN, gwC, Nat.reduceEqDiff, ↓reduceIte, Nat.reduceAdd, Nat.reduceLT, Nat.reduceLeDiff, Nat.reduceMul, h3, h9, h10, hh2, cond_true, cond_false, Bool.true_or, Bool.or_true, Bool.false_or, Bool.or_false, Bool.not_true, Bool.not_false, Bool.and_true, Bool.true_and, Bool.false_and, Bool.and_false, w, Env.keep]
          simp only [Bool.not_true, cond_false] at hx
          exact ⟨(i + 1, m2), rfl, rfl, by simp only; omega, by simp only; omega, by simp only; omega, hx⟩
    | false =>
      simp only [h9, cond_false] at hx ⊢
      cases h0 : decide (op = 10) with
      | true =>
        simp only [h0, cond_true] at hx ⊢
        cases h10 : decide (a ≤ i) with
        | true =>
          simp only [h10, cond_true] at hx ⊢
          simp only [gwL, gwB, gwD, gwE, gwS, gwTT, gwZ, gwN, gwC, Nat.reduceEqDiff, ↓reduceIte, Nat.reduceAdd, Nat.reduceLT, Nat.reduceLeDiff, Nat.reduceMul, h3, h9, h0, h10, hh2, cond_true, cond_false, Bool.true_or, Bool.or_true, Bool.false_or, Bool.or_false, Bool.not_true, Bool.not_false, Bool.and_true, Bool.true_and, Bool.false_and, Bool.and_false]
          refine rK_not (.bool false) ?_
          simp only [gwL, gwB, gwD, gwE, gwS, gwTT, gwZ, gwN, gwC, Nat.reduceEqDiff, ↓reduceIte, Nat.reduceAdd, Nat.reduceLT, Nat.reduceLeDiff, Nat.reduceMul, h3, h9, h0, h10, hh2, cond_true, cond_false, Bool.true_or, Bool.or_true, Bool.false_or, Bool.or_false, Bool.not_true, Bool.not_false, Bool.and_true, Bool.true_and, Bool.false_and, Bool.and_false]
          refine rK_not (.bool false) ?_
          simp only [gwL, gwB, gwD, gwE, gwS, gwTT, gwZ, gwN, gwC, Nat.reduceEqDiff, ↓reduceIte, Nat.reduceAdd, Nat.reduceLT, Nat.reduceLeDiff, Nat.reduceMul, h3, h9, h0, h10, hh2, cond_true, cond_false, Bool.true_or, Bool.or_true, Bool.false_or, Bool.or_false, Bool.not_true, Bool.not_false, Bool.and_true, Bool.true_and, Bool.false_and, Bool.and_false]
          exact gives_int' rfl hst
        | false =>
          simp only [h10, cond_false] at hx ⊢
          obtain ⟨a', rfl⟩ : ∃ a' : Nat, a = a' := ⟨a.toNat, by have := of_decide_eq_false h10; omega⟩
          have hmt := c_meet _ _ _ _ code high a' hh hHS (by omega)
          have hml := meetP_len code.length high a' hh
          rw [st2] at hmt
          generalize meetP code.length high a' hh = m at hx hmt hml ⊢
          obtain ⟨mb, m2⟩ := m
          simp only at hx hmt hml ⊢
          simp only [gwL, gwB, gwD, gwE, gwS, gwTT, gwZ, gwN, gwC, Nat.reduceEqDiff, ↓reduceIte, Nat.reduceAdd, Nat.reduceLT, Nat.reduceLeDiff, Nat.reduceMul, h3, h9, h0, h10, hh2, cond_true, cond_false, Bool.true_or, Bool.or_true, Bool.false_or, Bool.or_false, Bool.not_true, Bool.not_false, Bool.and_true, Bool.true_and, Bool.false_and, Bool.and_false]
          refine rK_made hmt (wkL_refl _) ?_
          cases mb with
          | false =>
            simp only [gwL, gwB, gwD, gwE, gwS, gwTT, gwZ, gwN, gwC, Nat.reduceEqDiff, ↓reduceIte, Nat.reduceAdd, Nat.reduceLT, Nat.reduceLeDiff, Nat.reduceMul, h3, h9, h0, h10, hh2, cond_true, cond_false, Bool.true_or, Bool.or_true, Bool.false_or, Bool.or_false, Bool.not_true, Bool.not_false, Bool.and_true, Bool.true_and, Bool.false_and, Bool.and_false]
            refine rK_not (.bool false) ?_
            simp only [gwL, gwB, gwD, gwE, gwS, gwTT, gwZ, gwN, gwC, Nat.reduceEqDiff, ↓reduceIte, Nat.reduceAdd, Nat.reduceLT, Nat.reduceLeDiff, Nat.reduceMul, h3, h9, h0, h10, hh2, cond_true, cond_false, Bool.true_or, Bool.or_true, Bool.false_or, Bool.or_false, Bool.not_true, Bool.not_false, Bool.and_true, Bool.true_and, Bool.false_and, Bool.and_false]
            exact gives_int' rfl hst
          | true =>
            simp only [Bool.not_true, cond_false] at hx ⊢
            have hHS2 : HS (s ++ [Ent.box [.lst 11 none (code.map encI)], .arr 3 1 (rowsI m2), .box [.arr (s.length + 1) code.length]]) s.length (s.length + 2) (s.length + 1) code m2 :=
              ⟨by simp [lstI], by simp; omega, by simp⟩
            have st2' : ∀ l : List Int, (s ++ [Ent.box [.lst 11 none (code.map encI)], .arr 3 1 (rowsI m2), .box [.arr (s.length + 1) code.length]]).set (s.length + 1) (.arr 3 1 (rowsI l)) = s ++ [Ent.box [.lst 11 none (code.map encI)], .arr 3 1 (rowsI l), .box [.arr (s.length + 1) code.length]] := fun l => by simp [List.set_append]
            have hmtb := c_meet _ _ _ _ code m2 (i + 1) hh hHS2 (by omega)
            have hmlb := meetP_len code.length m2 ((i + 1 : Nat) : Int) hh
            rw [st2'] at hmtb
            generalize meetP code.length m2 ((i + 1 : Nat) : Int) hh = mb at hx hmtb hmlb ⊢
            obtain ⟨mbb, m2b⟩ := mb
            simp only at hx hmtb hmlb ⊢
            simp only [gwL, gwB, gwD, gwE, gwS, gwTT, gwZ, gwN, gwC, Nat.reduceEqDiff, ↓reduceIte, Nat.reduceAdd, Nat.reduceLT, Nat.reduceLeDiff, Nat.reduceMul, h3, h9, h0, h10, hh2, cond_true, cond_false, Bool.true_or, Bool.or_true, Bool.false_or, Bool.or_false, Bool.not_true, Bool.not_false, Bool.and_true, Bool.true_and, Bool.false_and, Bool.and_false]
            refine rK_made hmtb (wkL_cons (by rw [w]; exact wk_refl _) (wkL_refl _)) ?_
            cases mbb with
            | false =>
              simp only [gwL, gwB, gwD, gwE, gwS, gwTT, gwZ, gwN, gwC, Nat.reduceEqDiff, ↓reduceIte, Nat.reduceAdd, Nat.reduceLT, Nat.reduceLeDiff, Nat.reduceMul, h3, h9, h0, h10, hh2, cond_true, cond_false, Bool.true_or, Bool.or_true, Bool.false_or, Bool.or_false, Bool.not_true, Bool.not_false, Bool.and_true, Bool.true_and, Bool.false_and, Bool.and_false]
              exact gives_int' rfl hst
            | true =>
              simp only [gwL, gwB, gwD, gwE, gwS, gwTT, gwZ, gwN, gwC, Nat.reduceEqDiff, ↓reduceIte, Nat.reduceAdd, Nat.reduceLT, Nat.reduceLeDiff, Nat.reduceMul, h3, h9, h0, h10, hh2, cond_true, cond_false, Bool.true_or, Bool.or_true, Bool.false_or, Bool.or_false, Bool.not_true, Bool.not_false, Bool.and_true, Bool.true_and, Bool.false_and, Bool.and_false, w, Env.keep]
              simp only [Bool.not_true, cond_false] at hx
              exact ⟨(i + 1, m2b), rfl, rfl, by simp only; omega, by simp only; omega, by simp only; omega, hx⟩
      | false =>
        simp only [h0, cond_false] at hx ⊢
        have hmtb := c_meet _ _ _ _ code high (i + 1) hh hHS (by omega)
        have hmlb := meetP_len code.length high ((i + 1 : Nat) : Int) hh
        rw [st2] at hmtb
        generalize meetP code.length high ((i + 1 : Nat) : Int) hh = mb at hx hmtb hmlb ⊢
        obtain ⟨mbb, m2b⟩ := mb
        simp only at hx hmtb hmlb ⊢
        simp only [gwL, gwB, gwD, gwE, gwS, gwTT, gwZ, gwN, gwC, Nat.reduceEqDiff, ↓reduceIte, Nat.reduceAdd, Nat.reduceLT, Nat.reduceLeDiff, Nat.reduceMul, h3, h9, h0, hh2, cond_true, cond_false, Bool.true_or, Bool.or_true, Bool.false_or, Bool.or_false, Bool.not_true, Bool.not_false, Bool.and_true, Bool.true_and, Bool.false_and, Bool.and_false]
        refine rK_not (.bool false) ?_
        simp only [gwL, gwB, gwD, gwE, gwS, gwTT, gwZ, gwN, gwC, Nat.reduceEqDiff, ↓reduceIte, Nat.reduceAdd, Nat.reduceLT, Nat.reduceLeDiff, Nat.reduceMul, h3, h9, h0, hh2, cond_true, cond_false, Bool.true_or, Bool.or_true, Bool.false_or, Bool.or_false, Bool.not_true, Bool.not_false, Bool.and_true, Bool.true_and, Bool.false_and, Bool.and_false]
        refine rK_made hmtb (wkL_cons (by rw [w]; exact wk_refl _) (wkL_refl _)) ?_
        cases mbb with
        | false =>
          simp only [gwL, gwB, gwD, gwE, gwS, gwTT, gwZ, gwN, gwC, Nat.reduceEqDiff, ↓reduceIte, Nat.reduceAdd, Nat.reduceLT, Nat.reduceLeDiff, Nat.reduceMul, h3, h9, h0, hh2, cond_true, cond_false, Bool.true_or, Bool.or_true, Bool.false_or, Bool.or_false, Bool.not_true, Bool.not_false, Bool.and_true, Bool.true_and, Bool.false_and, Bool.and_false]
          exact gives_int' rfl hst
        | true =>
          simp only [gwL, gwB, gwD, gwE, gwS, gwTT, gwZ, gwN, gwC, Nat.reduceEqDiff, ↓reduceIte, Nat.reduceAdd, Nat.reduceLT, Nat.reduceLeDiff, Nat.reduceMul, h3, h9, h0, hh2, cond_true, cond_false, Bool.true_or, Bool.or_true, Bool.false_or, Bool.or_false, Bool.not_true, Bool.not_false, Bool.and_true, Bool.true_and, Bool.false_and, Bool.and_false, w, Env.keep]
          simp only [Bool.not_true, cond_false] at hx
          exact ⟨(i + 1, m2b), rfl, rfl, by simp only; omega, by simp only; omega, by simp only; omega, hx⟩
end Go.Proofs.Ytlblgbfpdlfedaa.Gx

namespace Go.Proofs.Ytlblgbfpdlfedaa.Gx
open Go Go.Proofs.Ytlblgbfpdlfedaa.Gw
set_option linter.unusedSimpArgs false
set_option linter.unusedVariables false

/-- What is left as it is. -/
def Ks (X : Nat → Prop) (s s' : St) : Prop := s.length ≤ s'.length ∧ ∀ j : Nat, j < s.length → ¬ X j → s'[j]? = s[j]?
theorem Ks.refl (X : Nat → Prop) (s : St) : Ks X s s := ⟨Nat.le_refl _, fun _ _ _ => rfl⟩
theorem Ks.pre {st ex s' : St} {X : Nat → Prop} (h : Ks X (st ++ ex) s') (hX : ∀ j, X j → st.length ≤ j) : s' = st ++ s'.drop st.length := by
  apply List.ext_getElem?; intro j
  rcases Nat.lt_or_ge j st.length with hj | hj
  · rw [List.getElem?_append_left hj, h.2 j (by rw [List.length_append]; omega) (fun hx => by have := hX j hx; omega), st_old hj]
  · rw [List.getElem?_append_right hj, List.getElem?_drop]; congr 1; omega

def formE : List Pr → Int
  | [] => 0
  | p :: r => bif decide ((p.code.length : Int) < 1) || decide (6000 < (p.code.length : Int)) then 5 else bif decide (p.args < 0) || decide (2000 < p.args) then 3 else formE r
theorem c_Form (st : St) (l : List Pr) (hl : l.length ≤ 1000000000) : VCalls Try.prog TT 26 [lstPr l] st fun r st' => r = .ret (.int .i64 (formE l)) ∧ st' = st := by
  refine vfun TT_ok (an := anL []) (L := [0, 2, 4, 5, 6, 7]) (rs := [.tmp 2]) Try.func26 rfl (by kernel_rfl) rfl Try.ntmps26 rfl rfl (Nat.le_refl _) fun hst ha hf => ?_
  simp only [lstPr]
  simp only [gwL, gwB, gwD, gwE, gwS, gwTT, gwZ, gwN, gwC, Nat.reduceEqDiff, ↓reduceIte, Nat.reduceAdd, Nat.reduceLT, Nat.reduceLeDiff, Nat.reduceMul, List.length_map]
  refine vforD (σ := Nat) [5, 6, 7] (fun i => [(5, true, lstPr l), (6, true, .int .i64 l.length), (7, true, .int .i64 i)]) (fun i => st) (fun i => l.length - i) (fun i => i ≤ l.length ∧ formE l = formE (l.drop i)) 0 rfl TT_ok ⟨Nat.zero_le _, rfl⟩ (wkE_refl _) rfl ?_
  rintro i ⟨hi, hx⟩
  rw [hx]
  simp only [lstPr]
  rcases at_or_end l i hi with ⟨rfl, hd⟩ | ⟨q, hlt, hget, hdr⟩
  · simp only [gwL, gwB, gwD, gwE, gwS, gwTT, gwZ, gwN, gwC, Nat.reduceEqDiff, ↓reduceIte, Nat.reduceAdd, Nat.reduceLT, Nat.reduceLeDiff, Nat.reduceMul, lt_no, hd, formE]
    exact gives_int rfl hst
  · rw [hdr, formE]
    obtain ⟨qa, qc⟩ := q
    have hg : (l.map encPr).getD i [] = encPr ⟨qa, qc⟩ := getD_map hget
    simp only [gwL, gwB, gwD, gwE, gwS, gwTT, gwZ, gwN, gwC, Nat.reduceEqDiff, ↓reduceIte, Nat.reduceAdd, Nat.reduceLT, Nat.reduceLeDiff, Nat.reduceMul, lt_yes hlt, hg, encPr, lstI, List.length_map, Int.ofNat_lt.mpr hlt]
    refine iK_split (fun h1 => ?_) (fun h1 => ?_)
    · simp only [gwL, gwB, gwD, gwE, gwS, gwTT, gwZ, gwN, gwC, Nat.reduceEqDiff, ↓reduceIte, Nat.reduceAdd, Nat.reduceLT, Nat.reduceLeDiff, Nat.reduceMul, h1, cond_true]
      exact gives_int' rfl hst
    simp only [gwL, gwB, gwD, gwE, gwS, gwTT, gwZ, gwN, gwC, Nat.reduceEqDiff, ↓reduceIte, Nat.reduceAdd, Nat.reduceLT, Nat.reduceLeDiff, Nat.reduceMul, h1, cond_false]
    refine iK_split (fun h2 => ?_) (fun h2 => ?_)
    · simp only [gwL, gwB, gwD, gwE, gwS, gwTT, gwZ, gwN, gwC, Nat.reduceEqDiff, ↓reduceIte, Nat.reduceAdd, Nat.reduceLT, Nat.reduceLeDiff, Nat.reduceMul, h2, cond_true]
      exact gives_int' rfl hst
    simp only [gwL, gwB, gwD, gwE, gwS, gwTT, gwZ, gwN, gwC, Nat.reduceEqDiff, ↓reduceIte, Nat.reduceAdd, Nat.reduceLT, Nat.reduceLeDiff, Nat.reduceMul, h2, cond_false, Env.keep]
    refine ⟨i + 1, ⟨?_, st, [.box [.int .i64 qa, .lst 11 none (qc.map encI)]], rfl, wkSt_refl _, ?_, hst, Nat.le_refl _⟩, by omega, hlt, rfl⟩
    · simp only [gwL, gwB, gwD, gwE, gwS, gwTT, gwZ, gwN, gwC, Nat.reduceEqDiff, ↓reduceIte, Nat.reduceAdd, Nat.reduceLT, Nat.reduceLeDiff, Nat.reduceMul, Env.keep, next_i64 hlt (show l.length ≤ 9223372036854775807 by omega)]
      exact wkE_refl _
    · simp only [ltE, V.lt]
      exact ⟨lstPr_lt _ _, trivial, trivial, trivial⟩

def fillM (n i : Nat) : List Int := (List.range n).map fun j => bif decide (j < i) then -1 else 0
theorem fillM_len (n i : Nat) : (fillM n i).length = n := by simp [fillM]
theorem fillM_zero (n : Nat) : List.replicate n [V.int .i64 0] = rowsI (fillM n 0) := by
  apply List.ext_getElem
  · simp [rowsI, fillM]
  · intro j h1 h2
    simp [rowsI, fillM]
theorem fillM_set (n i : Nat) (h : i < n) : (fillM n i).set i (-1) = fillM n (i + 1) := by
  apply List.ext_getElem
  · simp [fillM]
  · intro j h1 h2
    rw [List.getElem_set]
    simp only [fillM, List.getElem_map, List.getElem_range]
    by_cases e : i = j
    · subst e; simp
    · have e1 : decide (j < i + 1) = decide (j < i) := by by_cases h : j < i <;> simp [h] <;> omega
      simp [e, e1]
theorem fillM_all (n : Nat) : fillM n n = List.replicate n (-1) := by
  apply List.ext_getElem
  · simp [fillM]
  · intro j h1 h2
    have : j < n := by simpa [fillM] using h1
    simp [fillM, this]
/-- Bodies are procedures without parameters; around them is nothing. -/
def bodiesG (ps : List Pr) : List Int → List Int → Option (List Int)
  | [], ar => some ar
  | b :: r, ar => bif !decide ((ps.getD b.toNat ⟨0, []⟩).args = 0) then none else bodiesG ps r (ar.set b.toNat 0)
def insG (ps : List Pr) (G : Int) (p : Nat) : List Ins → List Int → Int × List Int
  | [], ar => (0, ar)
  | x :: r, ar => bif !decide ((insE ps G p x ar).1 = 0) then insE ps G p x ar else insG ps G p r (insE ps G p x ar).2
theorem insG_len (ps : List Pr) (G : Int) (p : Nat) : ∀ (l : List Ins) (ar : List Int), (insG ps G p l ar).2.length = ar.length
  | [], ar => rfl
  | x :: r, ar => by
    rw [insG]
    have h1 := insE_len ps G p x ar
    have h2 := insG_len ps G p r (insE ps G p x ar).2
    cases decide ((insE ps G p x ar).1 = 0)
    · exact h1
    · simpa using h2.trans h1
def protoG (ps : List Pr) (G : Int) (bs : List Int) : List Pr → Nat → List Int → Int
  | [], _, _ => 0
  | q :: r, p, ar =>
    bif decide (ar.getD p 0 < 0) then 8
    else bif !decide ((insG ps G p q.code ar).1 = 0) then (insG ps G p q.code ar).1
    else bif !decide (stackE q.code (decide ((p : Int) ∈ bs)) = 0) then stackE q.code (decide ((p : Int) ∈ bs))
    else protoG ps G bs r (p + 1) (insG ps G p q.code ar).2
def shapeE (ps : List Pr) (G : Int) (bs : List Int) : Int :=
  match bodiesG ps bs (List.replicate ps.length (-1)) with
  | none => 3
  | some ar => protoG ps G bs ps 0 ar

set_option maxRecDepth 20000 in
set_option maxHeartbeats 8000000 in
theorem c_Shape_Wrong (s : St) (b : Nat) (ps : List Pr) (av : V) (G : Int) (bs : List Int) (hb : s[b]? = some (.box [lstPr ps, av, .int .i64 G])) (hl : ps.length ≤ 1000000) (hc : ∀ q ∈ ps, q.code.length ≤ 6000) (hbs : ∀ x ∈ bs, 0 ≤ x ∧ x < ps.length) (hbl : bs.length ≤ 1000000000) :
    VCalls Try.prog TT 27 [.ptr b 0, .lst 1 none (rowsI bs)] s fun r s' => r = .ret (.int .i64 (shapeE ps G bs)) ∧ Ks (fun j => j = b) s s' := by
  have hblt : b < s.length := (List.getElem?_eq_some_iff.1 hb).1
  refine vfunQ TT_ok (an := anL []) (L := [0, 1, 4, 5, 7, 8, 9, 10, 11, 25, 26, 36, 37, 38, 62, 63, 82, 83]) (rs := [.tmp 4]) Try.func27 rfl (by kernel_rfl) rfl Try.ntmps27 rfl rfl fun hst ha hf => ?_
  simp only [gwL, gwB, gwD, gwE, gwS, gwTT, gwZ, gwN, gwC, Nat.reduceEqDiff, ↓reduceIte, Nat.reduceAdd, Nat.reduceLT, Nat.reduceLeDiff, Nat.reduceMul, hb, lstPr, List.length_map]
  refine ⟨⟨by omega, by omega⟩, ?_⟩
  have hb1 : ∀ ex : St, (s ++ ex)[b]? = some (.box [.lst 2 none (ps.map encPr), av, .int .i64 G]) := fun ex => by rw [st_old hblt, hb]; rfl
  obtain ⟨S0, hS0⟩ : ∃ S0 : St, S0 = s.set b (.box [.lst 2 none (ps.map encPr), .arr s.length ps.length, .int .i64 G]) := ⟨_, rfl⟩
  have hS0l : S0.length = s.length := by rw [hS0]; simp
  have hset : ∀ ex : St, (s ++ ex).set b (.box [.lst 2 none (ps.map encPr), .arr s.length ps.length, .int .i64 G]) = S0 ++ ex := fun ex => by rw [hS0, List.set_append_left _ _ hblt]
  have hb2 : ∀ ex : St, (S0 ++ ex)[b]? = some (.box [.lst 2 none (ps.map encPr), .arr s.length ps.length, .int .i64 G]) := fun ex => by rw [st_old (by omega), hS0, List.getElem?_set_self hblt]
  have hA2 : ∀ l : List Int, (S0 ++ [Ent.arr 3 1 (rowsI l)])[s.length]? = some (.arr 3 1 (rowsI l)) := fun l => by rw [List.getElem?_append_right (by omega)]; simp [hS0l]
  have hAs : ∀ (l m : List Int), (S0 ++ [Ent.arr 3 1 (rowsI l)]).set s.length (.arr 3 1 (rowsI m)) = S0 ++ [Ent.arr 3 1 (rowsI m)] := fun l m => by rw [List.set_append_right _ _ (by omega)]; simp [hS0l]
  have hKs : ∀ l : List Int, Ks (fun j => j = b) s (S0 ++ [Ent.arr 3 1 (rowsI l)]) := fun l =>
    ⟨by simp [hS0l], fun j h1 h2 => by rw [st_old (by omega), hS0, List.getElem?_set_ne (fun e => h2 e.symm)]⟩
  simp only [gwL, gwB, gwD, gwE, gwS, gwTT, gwZ, gwN, gwC, Nat.reduceEqDiff, ↓reduceIte, Nat.reduceAdd, Nat.reduceLT, Nat.reduceLeDiff, Nat.reduceMul, hb1, hset, hb2]
  rw [fillM_zero]
  refine vfor (σ := Nat) [0, 1, 25, 26] (fun i => [(0, true, .ptr b 0), (1, true, .lst 1 none (rowsI bs)), (25, true, .int .i64 ps.length), (26, true, .int .i64 i)]) (fun i => S0 ++ [Ent.arr 3 1 (rowsI (fillM ps.length i))]) (fun i => ps.length - i) (fun i => i ≤ ps.length) 0 rfl TT_ok (Nat.zero_le _) rfl rfl ?_
  intro i hi
  have hil : (rowsI (fillM ps.length i)).length = ps.length := by rw [rowsI_len, fillM_len]
  rcases Nat.lt_or_ge i ps.length with hlt | hge
  · have hgi := rowsI_get (l := fillM ps.length i) (by rw [fillM_len]; exact hlt)
    have w : IntKind.i64.wrap ((i : Int) + 1) = ((i + 1 : Nat) : Int) := next_i64 hlt (by omega)
    simp only [gwL, gwB, gwD, gwE, gwS, gwTT, gwZ, gwN, gwC, Nat.reduceEqDiff, ↓reduceIte, Nat.reduceAdd, Nat.reduceLT, Nat.reduceLeDiff, Nat.reduceMul, lt_yes hlt, hb2, hA2, hil, hgi, Int.toNat_natCast, Int.ofNat_lt.mpr hlt, w, rowsI_set, hAs, Env.keep]
    refine ⟨hlt, i + 1, rfl, ?_, by omega, hlt⟩
    rw [fillM_set _ _ hlt]
  have hie : i = ps.length := by omega
  subst hie
  rw [fillM_all]
  simp only [gwL, gwB, gwD, gwE, gwS, gwTT, gwZ, gwN, gwC, Nat.reduceEqDiff, ↓reduceIte, Nat.reduceAdd, Nat.reduceLT, Nat.reduceLeDiff, Nat.reduceMul, lt_no, rowsI_len]
  refine vfor (σ := Nat × List Int) [0, 1, 36, 37, 38] (fun x => [(0, true, .ptr b 0), (1, true, .lst 1 none (rowsI bs)), (36, true, .lst 1 none (rowsI bs)), (37, true, .int .i64 bs.length), (38, true, .int .i64 x.1)]) (fun x => S0 ++ [Ent.arr 3 1 (rowsI x.2)]) (fun x => bs.length - x.1) (fun x => x.1 ≤ bs.length ∧ x.2.length = ps.length ∧ bodiesG ps bs (List.replicate ps.length (-1)) = bodiesG ps (bs.drop x.1) x.2) (0, List.replicate ps.length (-1)) rfl TT_ok ⟨Nat.zero_le _, by simp, rfl⟩ rfl rfl ?_
  rintro ⟨i, ar⟩ ⟨hi, hal, hx⟩
  simp only at hi hal hx ⊢
  have hrl : (rowsI ar).length = ps.length := by rw [rowsI_len, hal]
  rcases at_or_end bs i hi with ⟨hie, hd⟩ | ⟨u, hlt, hget, hdr⟩
  · have hie2 : i = bs.length := hie
    subst hie2
    rw [hd, bodiesG] at hx
    have hE : shapeE ps G bs = protoG ps G bs ps 0 ar := by rw [shapeE, hx]
    rw [hE]
    simp only [gwL, gwB, gwD, gwE, gwS, gwTT, gwZ, gwN, gwC, Nat.reduceEqDiff, ↓reduceIte, Nat.reduceAdd, Nat.reduceLT, Nat.reduceLeDiff, Nat.reduceMul, lt_no, hb2, List.length_map]
    refine vfor (σ := Nat × List Int) [0, 1, 62, 63] (fun x => [(0, true, .ptr b 0), (1, true, .lst 1 none (rowsI bs)), (62, true, .int .i64 ps.length), (63, true, .int .i64 x.1)]) (fun x => S0 ++ [Ent.arr 3 1 (rowsI x.2)]) (fun x => ps.length - x.1) (fun x => x.1 ≤ ps.length ∧ x.2.length = ps.length ∧ protoG ps G bs ps 0 ar = protoG ps G bs (ps.drop x.1) x.1 x.2) (0, ar) rfl TT_ok ⟨Nat.zero_le _, hal, rfl⟩ rfl rfl ?_
    clear hal hrl hx hE
    rintro ⟨p, ar1⟩ ⟨hp, hal, hx⟩
    simp only at hp hal hx ⊢
    rw [hx]
    rcases at_or_end ps p hp with ⟨hpe, hpd⟩ | ⟨q, hpt, hpq, hpr⟩
    · have hpe2 : p = ps.length := hpe
      subst hpe2
      rw [hpd, protoG]
      simp only [gwL, gwB, gwD, gwE, gwS, gwTT, gwZ, gwN, gwC, Nat.reduceEqDiff, ↓reduceIte, Nat.reduceAdd, Nat.reduceLT, Nat.reduceLeDiff, Nat.reduceMul, lt_no]
      exact hKs _
    · have hgi := rowsI_get (l := ar1) (k := p) (by omega)
      have hgp : (ps.map encPr).getD p [] = encPr q := getD_map hpq
      have w : IntKind.i64.wrap ((p : Int) + 1) = ((p + 1 : Nat) : Int) := next_i64 hpt (by omega)
      rw [hpr, protoG] at hx ⊢
      have hSH : ∀ ar2 : List Int, ar2.length = ps.length → SH (S0 ++ [Ent.arr 3 1 (rowsI ar2)]) b s.length ps ar2 G := fun ar2 h2 => ⟨by rw [hb2, h2]; rfl, hA2 _⟩
      have hcl := hc q (List.mem_of_getElem? hpq)
      obtain ⟨qa, code⟩ := q
      simp only at hx hcl ⊢
      generalize hgx : ar1.getD p 0 = av1 at *
      simp only [gwL, gwB, gwD, gwE, gwS, gwTT, gwZ, gwN, gwC, Nat.reduceEqDiff, ↓reduceIte, Nat.reduceAdd, Nat.reduceLT, Nat.reduceLeDiff, Nat.reduceMul, lt_yes hpt, hb2, hA2, hgi, hgp, encPr, lstI, rowsI_len, hal, Int.toNat_natCast, Int.ofNat_lt.mpr hpt, List.length_map]
      refine ⟨hpt, iK_split (fun h1 => ?_) (fun h1 => ?_)⟩
      · simp only [gwL, gwB, gwD, gwE, gwS, gwTT, gwZ, gwN, gwC, Nat.reduceEqDiff, ↓reduceIte, Nat.reduceAdd, Nat.reduceLT, Nat.reduceLeDiff, Nat.reduceMul, h1, cond_true]
        exact hKs _
      simp only [h1, cond_false] at hx
      simp only [h1, cond_false]
      simp only [gwL, gwB, gwD, gwE, gwS, gwTT, gwZ, gwN, gwC, Nat.reduceEqDiff, ↓reduceIte, Nat.reduceAdd, Nat.reduceLT, Nat.reduceLeDiff, Nat.reduceMul, hb2, hgp, encPr, lstI, Int.toNat_natCast, Int.ofNat_lt.mpr hpt, List.length_map]
      refine vfor (σ := Nat × List Int) [0, 1, 8, 62, 63, 82, 83] (fun x => [(0, true, .ptr b 0), (1, true, .lst 1 none (rowsI bs)), (8, true, .int .i64 p), (62, true, .int .i64 ps.length), (63, true, .int .i64 p), (82, true, .int .i64 code.length), (83, true, .int .i64 x.1)]) (fun x => S0 ++ [Ent.arr 3 1 (rowsI x.2)]) (fun x => code.length - x.1) (fun x => x.1 ≤ code.length ∧ x.2.length = ps.length ∧ insG ps G p code ar1 = insG ps G p (code.drop x.1) x.2) (0, ar1) rfl TT_ok ⟨Nat.zero_le _, hal, rfl⟩ rfl rfl ?_
      rintro ⟨j, ar2⟩ ⟨hj, hal2, hy⟩
      simp only at hj hal2 hy ⊢
      rcases at_or_end code j hj with ⟨hje, hjd⟩ | ⟨u, hjt, hju, hjr⟩
      · have hje2 : j = code.length := hje
        subst hje2
        rw [hjd, insG] at hy
        rw [hy] at hx ⊢
        simp only [decide_true, Bool.not_true, cond_false] at hx ⊢
        simp only [gwL, gwB, gwD, gwE, gwS, gwTT, gwZ, gwN, gwC, Nat.reduceEqDiff, ↓reduceIte, Nat.reduceAdd, Nat.reduceLT, Nat.reduceLeDiff, Nat.reduceMul, lt_no]
        refine (c_ContainsI _ bs p).use (wkL_refl _) fun _ => ?_
        simp only [gwL, gwB, gwD, gwE, gwS, gwTT, gwZ, gwN, gwC, Nat.reduceEqDiff, ↓reduceIte, Nat.reduceAdd, Nat.reduceLT, Nat.reduceLeDiff, Nat.reduceMul]
        refine (c_stack _ b s.length ps ar2 G p ⟨qa, code⟩ (decide ((p : Int) ∈ bs)) (hSH ar2 hal2) hpq hcl).use (wkL_refl _) fun _ => ?_
        simp only
        simp only [gwL, gwB, gwD, gwE, gwS, gwTT, gwZ, gwN, gwC, Nat.reduceEqDiff, ↓reduceIte, Nat.reduceAdd, Nat.reduceLT, Nat.reduceLeDiff, Nat.reduceMul]
        refine iK_split (fun h2 => ?_) (fun h2 => ?_)
        · simp only [gwL, gwB, gwD, gwE, gwS, gwTT, gwZ, gwN, gwC, Nat.reduceEqDiff, ↓reduceIte, Nat.reduceAdd, Nat.reduceLT, Nat.reduceLeDiff, Nat.reduceMul, h2, cond_true]
          exact hKs _
        · simp only [h2, cond_false] at hx
          simp only [gwL, gwB, gwD, gwE, gwS, gwTT, gwZ, gwN, gwC, Nat.reduceEqDiff, ↓reduceIte, Nat.reduceAdd, Nat.reduceLT, Nat.reduceLeDiff, Nat.reduceMul, h2, cond_false, w, Env.keep]
          exact ⟨(p + 1, ar2), rfl, rfl, by simp only; omega, by simp only; omega, hal2, rfl⟩
      · have hgu : (code.map encI).getD j [] = encI u := getD_map hju
        have w2 : IntKind.i64.wrap ((j : Int) + 1) = ((j + 1 : Nat) : Int) := next_i64 hjt (by omega)
        rw [hjr, insG] at hy
        simp only [gwL, gwB, gwD, gwE, gwS, gwTT, gwZ, gwN, gwC, Nat.reduceEqDiff, ↓reduceIte, Nat.reduceAdd, Nat.reduceLT, Nat.reduceLeDiff, Nat.reduceMul, lt_yes hjt, hb2, hgp, hgu, encPr, lstI, Int.toNat_natCast, Int.ofNat_lt.mpr hjt, Int.ofNat_lt.mpr hpt, List.length_map]
        have hci := c_ins _ b s.length ps ar2 G p u (hSH ar2 hal2) (by omega) (by omega) (by omega)
        have hil := insE_len ps G p u ar2
        rw [hAs] at hci
        refine hci.use (wkL_refl _) fun _ => ?_
        simp only [gwL, gwB, gwD, gwE, gwS, gwTT, gwZ, gwN, gwC, Nat.reduceEqDiff, ↓reduceIte, Nat.reduceAdd, Nat.reduceLT, Nat.reduceLeDiff, Nat.reduceMul]
        refine iK_split (fun h2 => ?_) (fun h2 => ?_)
        · simp only [h2, cond_true] at hy
          rw [hy] at hx ⊢
          simp only [gwL, gwB, gwD, gwE, gwS, gwTT, gwZ, gwN, gwC, Nat.reduceEqDiff, ↓reduceIte, Nat.reduceAdd, Nat.reduceLT, Nat.reduceLeDiff, Nat.reduceMul, h2, cond_true]
          exact hKs _
        · simp only [h2, cond_false] at hy
          simp only [gwL, gwB, gwD, gwE, gwS, gwTT, gwZ, gwN, gwC, Nat.reduceEqDiff, ↓reduceIte, Nat.reduceAdd, Nat.reduceLT, Nat.reduceLeDiff, Nat.reduceMul, w2, Env.keep]
          exact ⟨(j + 1, (insE ps G p u ar2).2), rfl, rfl, by simp only; omega, by simp only; omega, by simp only; omega, hy⟩
  · obtain ⟨hu1, hu2⟩ := hbs u (List.mem_of_getElem? hget)
    obtain ⟨u', rfl⟩ : ∃ u' : Nat, u = u' := ⟨u.toNat, by omega⟩
    have hu3 : u' < ps.length := by omega
    have hgi := rowsI_get (l := ar) (k := u') (by omega)
    have hgb : (rowsI bs).getD i [] = [.int .i64 u'] := getD_map (f := fun n => [V.int .i64 n]) hget
    have hgp : (ps.map encPr).getD u' [] = encPr (ps.getD u' ⟨0, []⟩) := by
      have e : ps[u']? = some (ps.getD u' ⟨0, []⟩) := by rw [List.getD_eq_getElem?_getD, List.getElem?_eq_getElem hu3]; rfl
      exact getD_map e
    have w : IntKind.i64.wrap ((i : Int) + 1) = ((i + 1 : Nat) : Int) := next_i64 hlt (by omega)
    rw [hdr, bodiesG, Int.toNat_natCast] at hx
    simp only [gwL, gwB, gwD, gwE, gwS, gwTT, gwZ, gwN, gwC, Nat.reduceEqDiff, ↓reduceIte, Nat.reduceAdd, Nat.reduceLT, Nat.reduceLeDiff, Nat.reduceMul, lt_yes hlt, hb2, hA2, hgb, hgp, encPr, rowsI_len, hal, Int.toNat_natCast, Int.ofNat_lt.mpr hlt, List.length_map]
    refine ⟨hu2, iK_split (fun h1 => ?_) (fun h1 => ?_)⟩
    · have hE : shapeE ps G bs = 3 := by rw [shapeE, hx, h1]; rfl
      rw [hE]
      simp only [gwL, gwB, gwD, gwE, gwS, gwTT, gwZ, gwN, gwC, Nat.reduceEqDiff, ↓reduceIte, Nat.reduceAdd, Nat.reduceLT, Nat.reduceLeDiff, Nat.reduceMul]
      exact hKs _
    simp only [h1, cond_false] at hx
    simp only [gwL, gwB, gwD, gwE, gwS, gwTT, gwZ, gwN, gwC, Nat.reduceEqDiff, ↓reduceIte, Nat.reduceAdd, Nat.reduceLT, Nat.reduceLeDiff, Nat.reduceMul, hb2, hA2, rowsI_len, hal, hgi, Int.toNat_natCast, rowsI_set, hAs, w, Env.keep]
    exact ⟨by omega, hu3, (i + 1, ar.set u' 0), rfl, rfl, by simp only; omega, by simp only; omega, by simp [hal], hx⟩

def unitE (u : Unit') : Int :=
  bif !plainB u.name then 7 else bif decide ((u.protos.length : Int) < 1) || decide (500 < (u.protos.length : Int)) then 5
  else bif !decide (formE u.protos = 0) then formE u.protos else shapeE u.protos (-1) [0]
theorem formE_code : ∀ {l : List Pr}, formE l = 0 → ∀ q ∈ l, 1 ≤ q.code.length ∧ q.code.length ≤ 6000 ∧ 0 ≤ q.args ∧ q.args ≤ 2000
  | [], _, q, h => by simp at h
  | p :: r, h, q, hq => by
    rw [formE] at h
    cases h1 : decide ((p.code.length : Int) < 1) || decide (6000 < (p.code.length : Int)) with
    | true => rw [h1] at h; simp at h
    | false =>
      rw [h1] at h
      cases h2 : decide (p.args < 0) || decide (2000 < p.args) with
      | true => rw [h2] at h; simp at h
      | false =>
        rw [h2] at h
        simp only [cond_false] at h
        simp only [Bool.or_eq_false_iff, decide_eq_false_iff_not] at h1 h2
        rcases List.mem_cons.1 hq with rfl | hq
        · omega
        · exact formE_code h q hq
set_option maxRecDepth 20000 in
set_option maxHeartbeats 4000000 in
theorem c_object_Wrong (u : Unit') (st : St) : VCalls Try.prog TT 13 [.agg (encU u)] st fun r st' => r = .ret (.int .i64 (unitE u)) ∧ st' = st := by
  refine vfun TT_ok (an := anL [(1, 1)]) (L := [0, 1, 2, 3]) (rs := [.tmp 2]) Try.func13 rfl (by kernel_rfl) rfl Try.ntmps13 rfl rfl (Nat.le_refl _) fun hst ha hf => ?_
  obtain ⟨nm, ps⟩ := u
  simp only [gwL, gwB, gwD, gwE, gwS, gwTT, gwZ, gwN, gwC, Nat.reduceEqDiff, ↓reduceIte, Nat.reduceAdd, Nat.reduceLT, Nat.reduceLeDiff, Nat.reduceMul, encU]
  refine (c_plain _ nm).use (wkL_refl _) fun _ => ?_
  simp only [gwL, gwB, gwD, gwE, gwS, gwTT, gwZ, gwN, gwC, Nat.reduceEqDiff, ↓reduceIte, Nat.reduceAdd, Nat.reduceLT, Nat.reduceLeDiff, Nat.reduceMul]
  refine iK_split (fun h1 => ?_) (fun h1 => ?_)
  · simp only [gwL, gwB, gwD, gwE, gwS, gwTT, gwZ, gwN, gwC, Nat.reduceEqDiff, ↓reduceIte, Nat.reduceAdd, Nat.reduceLT, Nat.reduceLeDiff, Nat.reduceMul]
    exact gives_int (by simp only [unitE, h1, cond_true]) hst
  simp only [gwL, gwB, gwD, gwE, gwS, gwTT, gwZ, gwN, gwC, Nat.reduceEqDiff, ↓reduceIte, Nat.reduceAdd, Nat.reduceLT, Nat.reduceLeDiff, Nat.reduceMul, lstPr, List.length_map]
  refine iK_split (fun h2 => ?_) (fun h2 => ?_)
  · simp only [gwL, gwB, gwD, gwE, gwS, gwTT, gwZ, gwN, gwC, Nat.reduceEqDiff, ↓reduceIte, Nat.reduceAdd, Nat.reduceLT, Nat.reduceLeDiff, Nat.reduceMul]
    exact gives_int (by simp only [unitE, h1, h2, cond_true, cond_false]) hst
  have h2' := h2
  simp only [Bool.or_eq_false_iff, decide_eq_false_iff_not] at h2'
  simp only [gwL, gwB, gwD, gwE, gwS, gwTT, gwZ, gwN, gwC, Nat.reduceEqDiff, ↓reduceIte, Nat.reduceAdd, Nat.reduceLT, Nat.reduceLeDiff, Nat.reduceMul]
  refine (c_Form _ ps (by omega)).use (wkL_refl _) fun _ => ?_
  simp only [gwL, gwB, gwD, gwE, gwS, gwTT, gwZ, gwN, gwC, Nat.reduceEqDiff, ↓reduceIte, Nat.reduceAdd, Nat.reduceLT, Nat.reduceLeDiff, Nat.reduceMul]
  refine iK_split (fun h3 => ?_) (fun h3 => ?_)
  · simp only [gwL, gwB, gwD, gwE, gwS, gwTT, gwZ, gwN, gwC, Nat.reduceEqDiff, ↓reduceIte, Nat.reduceAdd, Nat.reduceLT, Nat.reduceLeDiff, Nat.reduceMul]
    exact gives_int (by simp only [unitE, h1, h2, h3, cond_true, cond_false]) hst
  have hf0 : formE ps = 0 := by simpa using h3
  simp only [gwL, gwB, gwD, gwE, gwS, gwTT, gwZ, gwN, gwC, Nat.reduceEqDiff, ↓reduceIte, Nat.reduceAdd, Nat.reduceLT, Nat.reduceLeDiff, Nat.reduceMul]
  have hfc := formE_code hf0
  have hW := c_Shape_Wrong (st ++ [Ent.box [.lst 2 none (ps.map encPr), .nils, .int .i64 (-1)]]) st.length ps .nils (-1) [0] (by rw [List.getElem?_append_right (Nat.le_refl _)]; simp [lstPr]) (by omega) (fun q hq => (hfc q hq).2.1) (fun x hx => by simp at hx; subst hx; omega) (by simp)
  refine useQ hW (wkL_refl _) (by rintro v s' ⟨h, _⟩; cases h) ?_
  rintro X S hX ⟨hX', hK⟩
  cases hX'
  simp only [gwL, gwB, gwD, gwE, gwS, gwTT, gwZ, gwN, gwC, Nat.reduceEqDiff, ↓reduceIte, Nat.reduceAdd, Nat.reduceLT, Nat.reduceLeDiff, Nat.reduceMul]
  rw [hK.pre (st := st) (fun j hj => by omega)]
  exact gives_int' (by simp only [unitE, h1, h2, h3, cond_false]) hst
end Go.Proofs.Ytlblgbfpdlfedaa.Gx

namespace Go.Proofs.Ytlblgbfpdlfedaa.Gx
open Go Go.Proofs.Ytlblgbfpdlfedaa.Gw
set_option linter.unusedSimpArgs false
set_option linter.unusedVariables false

def kindS : Str := [110, 110, 113, 108, 103, 112, 99, 97, 106, 106, 108, 103, 103, 45, 45]
def kindR (op : Int) : Int := bif decide (op < 1) || decide (15 < op) then 0 else ((kindS.getD (op - 1).toNat 0).toNat : Int)
theorem c_Kind (op : Int) (st : St) : VCalls Try.prog TT 20 [.int .i64 op] st fun r st' => r = .ret (.int .u8 (kindR op)) ∧ st' = st := by
  refine vfun TT_ok (an := anL []) (L := [0, 2]) (rs := [.tmp 2]) Try.func20 rfl (by kernel_rfl) rfl Try.ntmps20 rfl rfl (Nat.le_refl _) fun hst ha hf => ?_
  simp only [gwL, gwB, gwD, gwE, gwS, gwTT, gwZ, gwN, gwC, Nat.reduceEqDiff, ↓reduceIte, Nat.reduceAdd, Nat.reduceLT, Nat.reduceLeDiff, Nat.reduceMul]
  refine iK_split (fun h => ?_) (fun h => ?_)
  · simp only [gwL, gwB, gwD, gwE, gwS, gwTT, gwZ, gwN, gwC, Nat.reduceEqDiff, ↓reduceIte, Nat.reduceAdd, Nat.reduceLT, Nat.reduceLeDiff, Nat.reduceMul]
    exact gives_int (by simp only [kindR, h, cond_true]) hst
  · have h' := h
    simp only [Bool.or_eq_false_iff, decide_eq_false_iff_not] at h'
    have w : IntKind.i64.wrap (op - 1) = op - 1 := wrap_i64 (by omega) (by omega)
    have hl : kindS.length = 15 := rfl
    simp only [gwL, gwB, gwD, gwE, gwS, gwTT, gwZ, gwN, gwC, Nat.reduceEqDiff, ↓reduceIte, Nat.reduceAdd, Nat.reduceLT, Nat.reduceLeDiff, Nat.reduceMul, w]
    refine ⟨⟨by omega, by omega⟩, gives_int (by simp only [kindR, h, cond_false]; rfl) hst⟩
def inE (ok : Bool) (e : Int) : Int := bif ok then 0 else e
theorem c_in_ (ok : Bool) (e : Int) (st : St) : VCalls Try.prog TT 40 [.bool ok, .int .i64 e] st fun r st' => r = .ret (.int .i64 (inE ok e)) ∧ st' = st := by
  refine vfun TT_ok (an := anL []) (L := [0, 1, 4]) (rs := [.tmp 4]) Try.func40 rfl (by kernel_rfl) rfl Try.ntmps40 rfl rfl (Nat.le_refl _) fun hst ha hf => ?_
  simp only [gwL, gwB, gwD, gwE, gwS, gwTT, gwZ, gwN, gwC, Nat.reduceEqDiff, ↓reduceIte, Nat.reduceAdd, Nat.reduceLT, Nat.reduceLeDiff, Nat.reduceMul]
  refine iK_split (fun h => ?_) (fun h => ?_)
  · simp only [gwL, gwB, gwD, gwE, gwS, gwTT, gwZ, gwN, gwC, Nat.reduceEqDiff, ↓reduceIte, Nat.reduceAdd, Nat.reduceLT, Nat.reduceLeDiff, Nat.reduceMul]
    exact gives_int (by simp only [inE, h, cond_true]) hst
  · simp only [gwL, gwB, gwD, gwE, gwS, gwTT, gwZ, gwN, gwC, Nat.reduceEqDiff, ↓reduceIte, Nat.reduceAdd, Nat.reduceLT, Nat.reduceLeDiff, Nat.reduceMul]
    exact gives_int (by simp only [inE, h, cond_false]) hst
def ownK (k : Int) (i : Ins) (ar n G : Int) : Int :=
  bif decide (k = 110) then (bif decide (i.op = 2) then inE (decide (i.n = 0) || decide (i.n = 1)) 3 else inE (decide (-1000000000000000 ≤ i.n) && decide (i.n ≤ 1000000000000000)) 3)
  else bif decide (k = 113) then (wrongL [i.quote] 0 0).1
  else bif decide (k = 108) then inE (decide (0 ≤ i.a) && decide (i.a < ar)) 3
  else bif decide (k = 103) then (bif decide (0 ≤ G) then inE (decide (0 ≤ i.a) && decide (i.a < G)) 3 else inE (plainB i.lib && namedB i.own) 7)
  else bif decide (k = 112) then inE (decide (i.own ∈ prims)) 7
  else bif decide (k = 97) then inE (decide (0 ≤ i.a) && decide (i.a ≤ 2000)) 3
  else bif decide (k = 106) then inE (decide (0 ≤ i.a) && decide (i.a < n)) 3
  else bif decide (k = 0) then 1 else 0

set_option maxHeartbeats 4000000 in
theorem c_Own (i : Ins) (ar n G : Int) (st : St) : VCalls Try.prog TT 32 [.agg (encI i), .int .i64 ar, .int .i64 n, .int .i64 G] st fun r st' => r = .ret (.int .i64 (ownK (kindR i.op) i ar n G)) ∧ st' = st := by
  refine vfun TT_ok (an := anL [(4, 1)]) (L := [0, 1, 2, 3, 4, 8, 9, 12]) (rs := [.tmp 8]) Try.func32 rfl (by kernel_rfl) rfl Try.ntmps32 rfl rfl (Nat.le_refl _) fun hst ha hf => ?_
  obtain ⟨op, a, m, lb, ow, q⟩ := i
  simp only [encI_mk]
  simp only [gwL, gwB, gwD, gwE, gwS, gwTT, gwZ, gwN, gwC, Nat.reduceEqDiff, ↓reduceIte, Nat.reduceAdd, Nat.reduceLT, Nat.reduceLeDiff, Nat.reduceMul]
  refine (c_Kind op _).use (wkL_refl _) fun _ => ?_
  generalize kindR op = k
  simp only [gwL, gwB, gwD, gwE, gwS, gwTT, gwZ, gwN, gwC, Nat.reduceEqDiff, ↓reduceIte, Nat.reduceAdd, Nat.reduceLT, Nat.reduceLeDiff, Nat.reduceMul]
  refine iK_split (fun h1 => ?_) (fun h1 => ?_)
  · simp only [gwL, gwB, gwD, gwE, gwS, gwTT, gwZ, gwN, gwC, Nat.reduceEqDiff, ↓reduceIte, Nat.reduceAdd, Nat.reduceLT, Nat.reduceLeDiff, Nat.reduceMul]
    refine iK_split (fun h2 => ?_) (fun h2 => ?_)
    · simp only [gwL, gwB, gwD, gwE, gwS, gwTT, gwZ, gwN, gwC, Nat.reduceEqDiff, ↓reduceIte, Nat.reduceAdd, Nat.reduceLT, Nat.reduceLeDiff, Nat.reduceMul]
      refine (c_in_ _ 3 _).use (wkL_refl _) fun _ => ?_
      simp only [gwL, gwB, gwD, gwE, gwS, gwTT, gwZ, gwN, gwC, Nat.reduceEqDiff, ↓reduceIte, Nat.reduceAdd, Nat.reduceLT, Nat.reduceLeDiff, Nat.reduceMul]
      exact gives_int (by simp only [ownK, h1, h2, cond_true]) hst
    · simp only [gwL, gwB, gwD, gwE, gwS, gwTT, gwZ, gwN, gwC, Nat.reduceEqDiff, ↓reduceIte, Nat.reduceAdd, Nat.reduceLT, Nat.reduceLeDiff, Nat.reduceMul]
      refine (c_in_ _ 3 _).use (wkL_refl _) fun _ => ?_
      simp only [gwL, gwB, gwD, gwE, gwS, gwTT, gwZ, gwN, gwC, Nat.reduceEqDiff, ↓reduceIte, Nat.reduceAdd, Nat.reduceLT, Nat.reduceLeDiff, Nat.reduceMul]
      exact gives_int (by simp only [ownK, h1, h2, cond_true, cond_false]) hst
  simp only [gwL, gwB, gwD, gwE, gwS, gwTT, gwZ, gwN, gwC, Nat.reduceEqDiff, ↓reduceIte, Nat.reduceAdd, Nat.reduceLT, Nat.reduceLeDiff, Nat.reduceMul]
  refine iK_split (fun h2 => ?_) (fun h2 => ?_)
  · simp only [gwL, gwB, gwD, gwE, gwS, gwTT, gwZ, gwN, gwC, Nat.reduceEqDiff, ↓reduceIte, Nat.reduceAdd, Nat.reduceLT, Nat.reduceLeDiff, Nat.reduceMul, encD_take, encD_len]
    refine (c_ref_Wrong _ [q]).use (wkL_refl _) fun _ => ?_
    simp only [gwL, gwB, gwD, gwE, gwS, gwTT, gwZ, gwN, gwC, Nat.reduceEqDiff, ↓reduceIte, Nat.reduceAdd, Nat.reduceLT, Nat.reduceLeDiff, Nat.reduceMul, fltV]
    exact gives_int (by simp only [ownK, h1, h2, cond_true, cond_false]) hst
  simp only [gwL, gwB, gwD, gwE, gwS, gwTT, gwZ, gwN, gwC, Nat.reduceEqDiff, ↓reduceIte, Nat.reduceAdd, Nat.reduceLT, Nat.reduceLeDiff, Nat.reduceMul]
  refine iK_split (fun h3 => ?_) (fun h3 => ?_)
  · simp only [gwL, gwB, gwD, gwE, gwS, gwTT, gwZ, gwN, gwC, Nat.reduceEqDiff, ↓reduceIte, Nat.reduceAdd, Nat.reduceLT, Nat.reduceLeDiff, Nat.reduceMul]
    refine (c_in_ _ 3 _).use (wkL_refl _) fun _ => ?_
    simp only [gwL, gwB, gwD, gwE, gwS, gwTT, gwZ, gwN, gwC, Nat.reduceEqDiff, ↓reduceIte, Nat.reduceAdd, Nat.reduceLT, Nat.reduceLeDiff, Nat.reduceMul]
    exact gives_int (by simp only [ownK, h1, h2, h3, cond_true, cond_false]) hst
  simp only [gwL, gwB, gwD, gwE, gwS, gwTT, gwZ, gwN, gwC, Nat.reduceEqDiff, ↓reduceIte, Nat.reduceAdd, Nat.reduceLT, Nat.reduceLeDiff, Nat.reduceMul]
  refine iK_split (fun h4 => ?_) (fun h4 => ?_)
  · simp only [gwL, gwB, gwD, gwE, gwS, gwTT, gwZ, gwN, gwC, Nat.reduceEqDiff, ↓reduceIte, Nat.reduceAdd, Nat.reduceLT, Nat.reduceLeDiff, Nat.reduceMul]
    refine iK_split (fun h5 => ?_) (fun h5 => ?_)
    · simp only [gwL, gwB, gwD, gwE, gwS, gwTT, gwZ, gwN, gwC, Nat.reduceEqDiff, ↓reduceIte, Nat.reduceAdd, Nat.reduceLT, Nat.reduceLeDiff, Nat.reduceMul]
      refine (c_in_ _ 3 _).use (wkL_refl _) fun _ => ?_
      simp only [gwL, gwB, gwD, gwE, gwS, gwTT, gwZ, gwN, gwC, Nat.reduceEqDiff, ↓reduceIte, Nat.reduceAdd, Nat.reduceLT, Nat.reduceLeDiff, Nat.reduceMul]
      exact gives_int (by simp only [ownK, h1, h2, h3, h4, h5, cond_true, cond_false]) hst
    · simp only [gwL, gwB, gwD, gwE, gwS, gwTT, gwZ, gwN, gwC, Nat.reduceEqDiff, ↓reduceIte, Nat.reduceAdd, Nat.reduceLT, Nat.reduceLeDiff, Nat.reduceMul]
      refine (c_ref_Plain _ lb).use (wkL_refl _) fun _ => ?_
      simp only [gwL, gwB, gwD, gwE, gwS, gwTT, gwZ, gwN, gwC, Nat.reduceEqDiff, ↓reduceIte, Nat.reduceAdd, Nat.reduceLT, Nat.reduceLeDiff, Nat.reduceMul]
      refine rK_guarded (.bool (namedB ow)) (fun _ => c_ref_Named _ ow) ?_
      simp only [gwL, gwB, gwD, gwE, gwS, gwTT, gwZ, gwN, gwC, Nat.reduceEqDiff, ↓reduceIte, Nat.reduceAdd, Nat.reduceLT, Nat.reduceLeDiff, Nat.reduceMul]
      refine (c_in_ _ 7 _).use (wkL_refl _) fun _ => ?_
      simp only [gwL, gwB, gwD, gwE, gwS, gwTT, gwZ, gwN, gwC, Nat.reduceEqDiff, ↓reduceIte, Nat.reduceAdd, Nat.reduceLT, Nat.reduceLeDiff, Nat.reduceMul]
      exact gives_int (by simp only [ownK, h1, h2, h3, h4, h5, cond_true, cond_false]) hst
  simp only [gwL, gwB, gwD, gwE, gwS, gwTT, gwZ, gwN, gwC, Nat.reduceEqDiff, ↓reduceIte, Nat.reduceAdd, Nat.reduceLT, Nat.reduceLeDiff, Nat.reduceMul]
  refine iK_split (fun h5 => ?_) (fun h5 => ?_)
  · simp only [gwL, gwB, gwD, gwE, gwS, gwTT, gwZ, gwN, gwC, Nat.reduceEqDiff, ↓reduceIte, Nat.reduceAdd, Nat.reduceLT, Nat.reduceLeDiff, Nat.reduceMul]
    refine (c_Prim _ ow).use (wkL_refl _) fun _ => ?_
    simp only [gwL, gwB, gwD, gwE, gwS, gwTT, gwZ, gwN, gwC, Nat.reduceEqDiff, ↓reduceIte, Nat.reduceAdd, Nat.reduceLT, Nat.reduceLeDiff, Nat.reduceMul]
    refine (c_in_ _ 7 _).use (wkL_refl _) fun _ => ?_
    simp only [gwL, gwB, gwD, gwE, gwS, gwTT, gwZ, gwN, gwC, Nat.reduceEqDiff, ↓reduceIte, Nat.reduceAdd, Nat.reduceLT, Nat.reduceLeDiff, Nat.reduceMul]
    exact gives_int (by simp only [ownK, h1, h2, h3, h4, h5, cond_true, cond_false]) hst
  simp only [gwL, gwB, gwD, gwE, gwS, gwTT, gwZ, gwN, gwC, Nat.reduceEqDiff, ↓reduceIte, Nat.reduceAdd, Nat.reduceLT, Nat.reduceLeDiff, Nat.reduceMul]
  refine iK_split (fun h6 => ?_) (fun h6 => ?_)
  · simp only [gwL, gwB, gwD, gwE, gwS, gwTT, gwZ, gwN, gwC, Nat.reduceEqDiff, ↓reduceIte, Nat.reduceAdd, Nat.reduceLT, Nat.reduceLeDiff, Nat.reduceMul]
    refine (c_in_ _ 3 _).use (wkL_refl _) fun _ => ?_
    simp only [gwL, gwB, gwD, gwE, gwS, gwTT, gwZ, gwN, gwC, Nat.reduceEqDiff, ↓reduceIte, Nat.reduceAdd, Nat.reduceLT, Nat.reduceLeDiff, Nat.reduceMul]
    exact gives_int (by simp only [ownK, h1, h2, h3, h4, h5, h6, cond_true, cond_false]) hst
  simp only [gwL, gwB, gwD, gwE, gwS, gwTT, gwZ, gwN, gwC, Nat.reduceEqDiff, ↓reduceIte, Nat.reduceAdd, Nat.reduceLT, Nat.reduceLeDiff, Nat.reduceMul]
  refine iK_split (fun h7 => ?_) (fun h7 => ?_)
  · simp only [gwL, gwB, gwD, gwE, gwS, gwTT, gwZ, gwN, gwC, Nat.reduceEqDiff, ↓reduceIte, Nat.reduceAdd, Nat.reduceLT, Nat.reduceLeDiff, Nat.reduceMul]
    refine (c_in_ _ 3 _).use (wkL_refl _) fun _ => ?_
    simp only [gwL, gwB, gwD, gwE, gwS, gwTT, gwZ, gwN, gwC, Nat.reduceEqDiff, ↓reduceIte, Nat.reduceAdd, Nat.reduceLT, Nat.reduceLeDiff, Nat.reduceMul]
    exact gives_int (by simp only [ownK, h1, h2, h3, h4, h5, h6, h7, cond_true, cond_false]) hst
  simp only [gwL, gwB, gwD, gwE, gwS, gwTT, gwZ, gwN, gwC, Nat.reduceEqDiff, ↓reduceIte, Nat.reduceAdd, Nat.reduceLT, Nat.reduceLeDiff, Nat.reduceMul]
  refine iK_split (fun h8 => ?_) (fun h8 => ?_)
  · simp only [gwL, gwB, gwD, gwE, gwS, gwTT, gwZ, gwN, gwC, Nat.reduceEqDiff, ↓reduceIte, Nat.reduceAdd, Nat.reduceLT, Nat.reduceLeDiff, Nat.reduceMul]
    exact gives_int (by simp only [ownK, h1, h2, h3, h4, h5, h6, h7, h8, cond_true, cond_false]) hst
  simp only [gwL, gwB, gwD, gwE, gwS, gwTT, gwZ, gwN, gwC, Nat.reduceEqDiff, ↓reduceIte, Nat.reduceAdd, Nat.reduceLT, Nat.reduceLeDiff, Nat.reduceMul]
  exact gives_int (by simp only [ownK, h1, h2, h3, h4, h5, h6, h7, h8, cond_true, cond_false]) hst
end Go.Proofs.Ytlblgbfpdlfedaa.Gx

namespace Go.Proofs.Ytlblgbfpdlfedaa.Gx
open Go Go.Proofs.Ytlblgbfpdlfedaa.Gw
set_option linter.unusedSimpArgs false
set_option linter.unusedVariables false

/-- What comes to a place. -/
def comeIn (p : Int) : List (Int × Int) → Int → Option Int
  | [], h => some h
  | (a, x) :: r, h => bif !decide (a = p) then comeIn p r h else bif decide (0 ≤ h) && !decide (h = x) then none else comeIn p r x
def heightsG (n : Nat) (body : Bool) : List Ins → Nat → List (Int × Int) → Bool
  | [], _, _ => true
  | x :: r, i, next => match comeIn i next (-1) with
    | none => false
    | some h => bif decide (h < 0) then false else
      bif decide (x.op = 15) then (bif (body && !decide (h = 0)) || (!body && !decide (h = 1)) then false else heightsG n body r (i + 1) next) else
      bif decide (h < (movesI x.op x.a).1) then false else
      bif decide (x.op = 9) then
        (bif decide (x.a ≤ i) then false else heightsG n body r (i + 1) (next ++ [(x.a, IntKind.i64.wrap (IntKind.i64.wrap (h - (movesI x.op x.a).1) + (movesI x.op x.a).2))]))
      else bif decide (x.op = 10) then
        (bif decide (x.a ≤ i) then false else bif decide (((i + 1 : Nat) : Int) = n) then false else
         heightsG n body r (i + 1) (next ++ [(x.a, IntKind.i64.wrap (IntKind.i64.wrap (h - (movesI x.op x.a).1) + (movesI x.op x.a).2)), (((i + 1 : Nat) : Int), IntKind.i64.wrap (IntKind.i64.wrap (h - (movesI x.op x.a).1) + (movesI x.op x.a).2))]))
      else bif decide (((i + 1 : Nat) : Int) = n) then false else
         heightsG n body r (i + 1) (next ++ [(((i + 1 : Nat) : Int), IntKind.i64.wrap (IntKind.i64.wrap (h - (movesI x.op x.a).1) + (movesI x.op x.a).2))])
def rowsP (l : List (Int × Int)) : List (List V) := l.map fun p => [V.int .i64 p.1, V.int .i64 p.2]
theorem opCases (op : Int) {M : Prop} (h : ∀ b8 b9 b10 b11 b12 b13 b14 : Bool, decide (op = 8) = b8 → decide (op = 9) = b9 → decide (op = 10) = b10 → decide (op = 11) = b11 → decide (op = 12) = b12 → decide (op = 13) = b13 → decide (op = 14) = b14 →
    (b8, b9, b10, b11, b12, b13, b14) ∈ [(false, true, false, false, false, false, false), (false, false, true, false, false, false, false), (true, false, false, false, false, false, false), (false, false, false, true, false, false, false), (false, false, false, false, true, false, false), (false, false, false, false, false, true, false), (false, false, false, false, false, false, true), (false, false, false, false, false, false, false)] → M) : M := by
  refine h _ _ _ _ _ _ _ rfl rfl rfl rfl rfl rfl rfl ?_
  by_cases h8 : op = 8
  · subst h8; decide
  by_cases h9 : op = 9
  · subst h9; decide
  by_cases h10 : op = 10
  · subst h10; decide
  by_cases h11 : op = 11
  · subst h11; decide
  by_cases h12 : op = 12
  · subst h12; decide
  by_cases h13 : op = 13
  · subst h13; decide
  by_cases h14 : op = 14
  · subst h14; decide
  simp [h8, h9, h10, h11, h12, h13, h14]

set_option maxRecDepth 20000 in
set_option maxHeartbeats 16000000 in
theorem c_Heights (code : List Ins) (body : Bool) (st : St) (hl : code.length ≤ 1000000) : VCalls Try.prog TT 33 [lstI code, .bool body] st fun r st' => r = .ret (.bool (heightsG code.length body code 0 [(0, 0)])) ∧ st' = st := by
  refine vfun TT_ok (an := anL [(29, 1)]) (L := [0, 1, 4, 5, 6, 7, 8, 10, 11, 12, 13, 14, 20, 21, 31, 32, 35, 36, 37, 92, 100, 103]) (rs := [.tmp 4]) Try.func33 rfl (by kernel_rfl) rfl Try.ntmps33 rfl rfl (Nat.le_refl _) fun hst ha hf => ?_
  have w0 : IntKind.i64.wrap ((code.length : Int) + 1) = ((code.length + 1 : Nat) : Int) := next_i64 (n := code.length + 1) (by omega) (by omega)
  simp only [gwL, gwB, gwD, gwE, gwS, gwTT, gwZ, gwN, gwC, Nat.reduceEqDiff, ↓reduceIte, Nat.reduceAdd, Nat.reduceLT, Nat.reduceLeDiff, Nat.reduceMul, lstI, List.length_map, w0]
  refine ⟨⟨by omega, by omega⟩, ?_⟩
  have hz : ([V.int .i64 0] :: List.replicate code.length [V.int .i64 0]) = rowsI (fillM (code.length + 1) 0) := by rw [← List.replicate_succ, fillM_zero]
  rw [hz]
  refine vfor (σ := Nat) [0, 1, 4, 5, 20, 21] (fun i => [(0, true, lstI code), (1, true, .bool body), (4, true, .bool false), (5, true, .arr st.length (code.length + 1)), (20, true, .int .i64 ((code.length + 1 : Nat) : Int)), (21, true, .int .i64 i)]) (fun i => st ++ [Ent.arr 3 1 (rowsI (fillM (code.length + 1) i))]) (fun i => code.length + 1 - i) (fun i => i ≤ code.length + 1) 0 rfl TT_ok (Nat.zero_le _) rfl rfl ?_
  intro i hi
  have hil : (rowsI (fillM (code.length + 1) i)).length = code.length + 1 := by rw [rowsI_len, fillM_len]
  rcases Nat.lt_or_ge i (code.length + 1) with hlt | hge
  · have hgi := rowsI_get (l := fillM (code.length + 1) i) (by rw [fillM_len]; exact hlt)
    have w : IntKind.i64.wrap ((i : Int) + 1) = ((i + 1 : Nat) : Int) := next_i64 hlt (by omega)
    simp only [gwL, gwB, gwD, gwE, gwS, gwTT, gwZ, gwN, gwC, Nat.reduceEqDiff, ↓reduceIte, Nat.reduceAdd, Nat.reduceLT, Nat.reduceLeDiff, Nat.reduceMul, lt_yes hlt, hil, hgi, Int.toNat_natCast, Int.ofNat_lt.mpr hlt, w, rowsI_set, Env.keep]
    refine ⟨hlt, i + 1, rfl, ?_, by omega, hlt⟩
    rw [fillM_set _ _ hlt]
  have hie : i = code.length + 1 := by omega
  subst hie
  rw [fillM_all]
  simp only [gwL, gwB, gwD, gwE, gwS, gwTT, gwZ, gwN, gwC, Nat.reduceEqDiff, ↓reduceIte, Nat.reduceAdd, Nat.reduceLT, Nat.reduceLeDiff, Nat.reduceMul, lt_no, lstI, List.length_map]
  generalize hn : code.length = n at *
  have hz2 : rowsI (-1 :: List.replicate n (-1)) = rowsI (List.replicate (n + 1) (-1)) := rfl
  have hz3 : [[V.int .i64 0, V.int .i64 0]] = rowsP [(0, 0)] := rfl
  rw [hz2, hz3]
  have hinit : ∀ j, 0 ≤ j → (List.replicate (n + 1) (-1 : Int)).getD j 0 = -1 ∨ n < j := fun j _ => by
    rcases Nat.lt_or_ge n j with h | h
    · exact .inr h
    · exact .inl (by rw [List.getD_eq_getElem?_getD, List.getElem?_replicate_of_lt (by omega)]; rfl)
  refine vfor (σ := Nat × List Int × List (Int × Int) × St) [0, 1, 4, 5, 7, 31, 32] (fun x => [(0, true, lstI code), (1, true, .bool body), (4, true, .bool false), (5, true, .arr st.length (n + 1)), (7, true, .lst 2 (some (st.length + 1)) (rowsP x.2.2.1)), (31, true, .int .i64 n), (32, true, .int .i64 x.1)]) (fun x => st ++ (Ent.arr 3 1 (rowsI x.2.1) :: Ent.tip 92 x.2.2.1.length :: x.2.2.2)) (fun x => n - x.1) (fun x => x.1 ≤ n ∧ x.2.1.length = n + 1 ∧ (∀ j, x.1 ≤ j → x.2.1.getD j 0 = -1 ∨ n < j) ∧ x.2.2.1.length ≤ 2 * x.1 + 1 ∧ heightsG n body code 0 [(0, 0)] = heightsG n body (code.drop x.1) x.1 x.2.2.1) (0, List.replicate (n + 1) (-1), [(0, 0)], []) rfl TT_ok ⟨Nat.zero_le _, by simp, hinit, by simp, rfl⟩ rfl rfl ?_
  rintro ⟨i, seen, next, ex⟩ ⟨hi, hsl, hsn, hnl, hx⟩
  simp only at hi hsl hsn hnl hx ⊢
  rw [hx]
  rcases at_or_end code i (by omega) with ⟨hie, hd⟩ | ⟨u, hlt, hget, hdr⟩
  · have hie2 : i = n := by omega
    subst hie2
    simp only [gwL, gwB, gwD, gwE, gwS, gwTT, gwZ, gwN, gwC, Nat.reduceEqDiff, ↓reduceIte, Nat.reduceAdd, Nat.reduceLT, Nat.reduceLeDiff, Nat.reduceMul, lt_no, hd, heightsG]
    exact gives_bool' rfl hst
  rw [hdr, heightsG]
  rw [hn] at hlt
  have hrl : (rowsI seen).length = n + 1 := by rw [rowsI_len, hsl]
  have hpl : (rowsP next).length = next.length := by simp [rowsP]
  simp only [gwL, gwB, gwD, gwE, gwS, gwTT, gwZ, gwN, gwC, Nat.reduceEqDiff, ↓reduceIte, Nat.reduceAdd, Nat.reduceLT, Nat.reduceLeDiff, Nat.reduceMul, lt_yes hlt, hpl]
  have hs0 : seen.getD i 0 = -1 := by rcases hsn i (Nat.le_refl _) with h | h; exact h; omega
  have hse : seen.set i (-1) = seen := by
    apply List.ext_getElem?; intro j
    rw [List.getElem?_set]
    split
    · rename_i e; subst e
      rw [if_pos (by omega), ← hs0, List.getD_eq_getElem?_getD, List.getElem?_eq_getElem (by omega)]; rfl
    · rfl
  refine vfor (σ := Nat × Int × St) [0, 1, 4, 5, 7, 8, 31, 32, 35, 36, 37] (fun x => [(0, true, lstI code), (1, true, .bool body), (4, true, .bool false), (5, true, .arr st.length (n + 1)), (7, true, .lst 2 (some (st.length + 1)) (rowsP next)), (8, true, .int .i64 i), (31, true, .int .i64 n), (32, true, .int .i64 i), (35, true, .lst 2 (some (st.length + 1)) (rowsP next)), (36, true, .int .i64 next.length), (37, true, .int .i64 x.1)]) (fun x => st ++ (Ent.arr 3 1 (rowsI (seen.set i x.2.1)) :: Ent.tip 92 next.length :: x.2.2)) (fun x => next.length - x.1) (fun x => x.1 ≤ next.length ∧ comeIn i next (-1) = comeIn i (next.drop x.1) x.2.1) (0, -1, ex) rfl TT_ok ⟨Nat.zero_le _, rfl⟩ rfl (by simp only [hse]) ?_
  rintro ⟨j, cur, ex2⟩ ⟨hj, hy⟩
  simp only at hj hy ⊢
  rw [hy]
  have hrl2 : (rowsI (seen.set i cur)).length = n + 1 := by rw [rowsI_len, List.length_set, hsl]
  have hgi : (rowsI (seen.set i cur)).getD i [] = [.int .i64 cur] := by
    rw [rowsI_get (by rw [List.length_set]; omega), List.getD_eq_getElem?_getD, List.getElem?_set_self (by omega)]; rfl
  have hin : (i : Int) < ((n + 1 : Nat) : Int) := by omega
  rcases at_or_end next j hj with ⟨hje, hd⟩ | ⟨⟨pa, ph⟩, hltj, hgetj, hdrj⟩
  · have hje2 : j = next.length := hje
    subst hje2
    rw [hd, comeIn]
    simp only [gwL, gwB, gwD, gwE, gwS, gwTT, gwZ, gwN, gwC, Nat.reduceEqDiff, ↓reduceIte, Nat.reduceAdd, Nat.reduceLT, Nat.reduceLeDiff, Nat.reduceMul, lt_no, hrl2, hgi, hin, Int.toNat_natCast]
    refine ⟨by omega, iK_split (fun h1 => ?_) (fun h1 => ?_)⟩
    · simp only [gwL, gwB, gwD, gwE, gwS, gwTT, gwZ, gwN, gwC, Nat.reduceEqDiff, ↓reduceIte, Nat.reduceAdd, Nat.reduceLT, Nat.reduceLeDiff, Nat.reduceMul, h1, cond_true]
      exact gives_bool' rfl hst
    have hgu : (code.map encI).getD i [] = encI u := getD_map hget
    have w : IntKind.i64.wrap ((i : Int) + 1) = ((i + 1 : Nat) : Int) := next_i64 hlt (by omega)
    have hil2 : (i : Int) < (n : Int) := Int.ofNat_lt.mpr hlt
    have hsn2 : ∀ j, i + 1 ≤ j → (seen.set i cur).getD j 0 = -1 ∨ n < j := fun j hj => by
      have := hsn j (by omega)
      rwa [List.getD_eq_getElem?_getD, List.getElem?_set_ne (by omega), ← List.getD_eq_getElem?_getD]
    obtain ⟨op, a, nn, lb, ow, qd⟩ := u
    simp only [encI_mk] at hgu ⊢
    simp only [h1, cond_false]
    simp only [gwL, gwB, gwD, gwE, gwS, gwTT, gwZ, gwN, gwC, Nat.reduceEqDiff, ↓reduceIte, Nat.reduceAdd, Nat.reduceLT, Nat.reduceLeDiff, Nat.reduceMul, lstI, List.length_map, hn, hgu, hil2, Int.toNat_natCast, encD_take, encD_len, encD_drop]
    have hE : ∀ e : Ent, (st ++ Ent.arr 3 1 (rowsI (seen.set i cur)) :: Ent.tip 92 next.length :: (ex2 ++ [e])) = st ++ Ent.arr 3 1 (rowsI (seen.set i cur)) :: Ent.tip 92 next.length :: (ex2 ++ [e]) := fun _ => rfl
    refine iK_split (fun h15 => ?_) (fun h15 => ?_)
    · simp only [h15, cond_true]
      simp only [gwL, gwB, gwD, gwE, gwS, gwTT, gwZ, gwN, gwC, Nat.reduceEqDiff, ↓reduceIte, Nat.reduceAdd, Nat.reduceLT, Nat.reduceLeDiff, Nat.reduceMul]
      refine ⟨fun h _ => ⟨h, fun h2 => by rw [h, h2]; rfl⟩, iK_split (fun h2 => ?_) (fun h2 => ?_)⟩
      · simp only [gwL, gwB, gwD, gwE, gwS, gwTT, gwZ, gwN, gwC, Nat.reduceEqDiff, ↓reduceIte, Nat.reduceAdd, Nat.reduceLT, Nat.reduceLeDiff, Nat.reduceMul, h2, cond_true]
        exact gives_bool' rfl hst
      · simp only [h2, cond_false]
        simp only [gwL, gwB, gwD, gwE, gwS, gwTT, gwZ, gwN, gwC, Nat.reduceEqDiff, ↓reduceIte, Nat.reduceAdd, Nat.reduceLT, Nat.reduceLeDiff, Nat.reduceMul, w, Env.keep]
        exact ⟨(i + 1, seen.set i cur, next, _), rfl, rfl, by simp only; omega, by simp only; omega, by simp [hsl], hsn2, by simp only; omega, rfl⟩
    simp only [h15, cond_false]
    refine opCases op fun b8 b9 b10 b11 b12 b13 b14 h8 h9 h10 h11 h12 h13 h14 hm => ?_
    simp only [movesI, h8, h9, h10, h11, h12, h13, h14]
    simp only [List.mem_cons, List.not_mem_nil, or_false, Prod.mk.injEq] at hm
    rcases hm with ⟨rfl, rfl, rfl, rfl, rfl, rfl, rfl⟩ | ⟨rfl, rfl, rfl, rfl, rfl, rfl, rfl⟩ | ⟨rfl, rfl, rfl, rfl, rfl, rfl, rfl⟩ | ⟨rfl, rfl, rfl, rfl, rfl, rfl, rfl⟩ | ⟨rfl, rfl, rfl, rfl, rfl, rfl, rfl⟩ | ⟨rfl, rfl, rfl, rfl, rfl, rfl, rfl⟩ | ⟨rfl, rfl, rfl, rfl, rfl, rfl, rfl⟩ | ⟨rfl, rfl, rfl, rfl, rfl, rfl, rfl⟩
    all_goals
      simp only [Bool.or_self, Bool.or_true, Bool.true_or, Bool.or_false, Bool.false_or, cond_true, cond_false]
      simp only [gwL, gwB, gwD, gwE, gwS, gwTT, gwZ, gwN, gwC, Nat.reduceEqDiff, ↓reduceIte, Nat.reduceAdd, Nat.reduceLT, Nat.reduceLeDiff, Nat.reduceMul, h8, h9, h10, h11, h12, h13, h14]
    · refine iK_split (fun h3 => ?_) (fun h3 => ?_)
      · simp only [gwL, gwB, gwD, gwE, gwS, gwTT, gwZ, gwN, gwC, Nat.reduceEqDiff, ↓reduceIte, Nat.reduceAdd, Nat.reduceLT, Nat.reduceLeDiff, Nat.reduceMul, h3, cond_true]
        exact gives_bool' rfl hst
      simp only [h3, cond_false]
      simp only [gwL, gwB, gwD, gwE, gwS, gwTT, gwZ, gwN, gwC, Nat.reduceEqDiff, ↓reduceIte, Nat.reduceAdd, Nat.reduceLT, Nat.reduceLeDiff, Nat.reduceMul, h8, h9, h10]
      refine iK_split (fun h4 => ?_) (fun h4 => ?_)
      · simp only [gwL, gwB, gwD, gwE, gwS, gwTT, gwZ, gwN, gwC, Nat.reduceEqDiff, ↓reduceIte, Nat.reduceAdd, Nat.reduceLT, Nat.reduceLeDiff, Nat.reduceMul, h4, cond_true]
        exact gives_bool' rfl hst
      simp only [h4, cond_false]
      simp only [gwL, gwB, gwD, gwE, gwS, gwTT, gwZ, gwN, gwC, Nat.reduceEqDiff, ↓reduceIte, Nat.reduceAdd, Nat.reduceLT, Nat.reduceLeDiff, Nat.reduceMul, h9, hpl, w, Env.keep]
      generalize IntKind.i64.wrap (IntKind.i64.wrap (cur - 0) + 0) = hh
      exact ⟨by omega, (i + 1, seen.set i cur, next ++ [(a, hh)], ex2 ++ [Ent.box (V.int .i64 op :: V.int .i64 a :: V.int .i64 nn :: V.str lb :: V.str ow :: encD qd)]), by simp [rowsP], by simp, by simp only; omega, by simp only; omega, by simp [hsl], hsn2, by simp; omega, rfl⟩
    · refine iK_split (fun h3 => ?_) (fun h3 => ?_)
      · simp only [gwL, gwB, gwD, gwE, gwS, gwTT, gwZ, gwN, gwC, Nat.reduceEqDiff, ↓reduceIte, Nat.reduceAdd, Nat.reduceLT, Nat.reduceLeDiff, Nat.reduceMul, h3, cond_true]
        exact gives_bool' rfl hst
      simp only [h3, cond_false]
      simp only [gwL, gwB, gwD, gwE, gwS, gwTT, gwZ, gwN, gwC, Nat.reduceEqDiff, ↓reduceIte, Nat.reduceAdd, Nat.reduceLT, Nat.reduceLeDiff, Nat.reduceMul, h8, h9, h10]
      refine iK_split (fun h4 => ?_) (fun h4 => ?_)
      · simp only [gwL, gwB, gwD, gwE, gwS, gwTT, gwZ, gwN, gwC, Nat.reduceEqDiff, ↓reduceIte, Nat.reduceAdd, Nat.reduceLT, Nat.reduceLeDiff, Nat.reduceMul, h4, cond_true]
        exact gives_bool' rfl hst
      simp only [h4, cond_false]
      simp only [gwL, gwB, gwD, gwE, gwS, gwTT, gwZ, gwN, gwC, Nat.reduceEqDiff, ↓reduceIte, Nat.reduceAdd, Nat.reduceLT, Nat.reduceLeDiff, Nat.reduceMul, h9, hpl, w, List.length_map, hn, lstI]
      generalize IntKind.i64.wrap (IntKind.i64.wrap (cur - 1) + 0) = hh
      refine ⟨by omega, iK_split (fun h5 => ?_) (fun h5 => ?_)⟩
      · simp only [gwL, gwB, gwD, gwE, gwS, gwTT, gwZ, gwN, gwC, Nat.reduceEqDiff, ↓reduceIte, Nat.reduceAdd, Nat.reduceLT, Nat.reduceLeDiff, Nat.reduceMul, h5, cond_true]
        exact gives_bool' rfl hst
      simp only [h5, cond_false]
      simp only [gwL, gwB, gwD, gwE, gwS, gwTT, gwZ, gwN, gwC, Nat.reduceEqDiff, ↓reduceIte, Nat.reduceAdd, Nat.reduceLT, Nat.reduceLeDiff, Nat.reduceMul, h9, hpl, w, List.length_append, Env.keep]
      exact ⟨by omega, (i + 1, seen.set i cur, next ++ [(a, hh), (((i + 1 : Nat) : Int), hh)], ex2 ++ [Ent.box (V.int .i64 op :: V.int .i64 a :: V.int .i64 nn :: V.str lb :: V.str ow :: encD qd)]), by simp [rowsP], by simp, by simp only; omega, by simp only; omega, by simp [hsl], hsn2, by simp; omega, rfl⟩
    all_goals
      refine iK_split (fun h3 => ?_) (fun h3 => ?_)
      · simp only [gwL, gwB, gwD, gwE, gwS, gwTT, gwZ, gwN, gwC, Nat.reduceEqDiff, ↓reduceIte, Nat.reduceAdd, Nat.reduceLT, Nat.reduceLeDiff, Nat.reduceMul, h3, cond_true]
        exact gives_bool' rfl hst
      simp only [h3, cond_false]
      simp only [gwL, gwB, gwD, gwE, gwS, gwTT, gwZ, gwN, gwC, Nat.reduceEqDiff, ↓reduceIte, Nat.reduceAdd, Nat.reduceLT, Nat.reduceLeDiff, Nat.reduceMul, h9, h10, w, List.length_map, hn, lstI]
      generalize IntKind.i64.wrap (IntKind.i64.wrap (cur - _) + _) = hh
      refine iK_split (fun h5 => ?_) (fun h5 => ?_)
      · simp only [gwL, gwB, gwD, gwE, gwS, gwTT, gwZ, gwN, gwC, Nat.reduceEqDiff, ↓reduceIte, Nat.reduceAdd, Nat.reduceLT, Nat.reduceLeDiff, Nat.reduceMul, h5, cond_true]
        exact gives_bool' rfl hst
      simp only [h5, cond_false]
      simp only [gwL, gwB, gwD, gwE, gwS, gwTT, gwZ, gwN, gwC, Nat.reduceEqDiff, ↓reduceIte, Nat.reduceAdd, Nat.reduceLT, Nat.reduceLeDiff, Nat.reduceMul, h9, hpl, w, Env.keep]
      exact ⟨by omega, (i + 1, seen.set i cur, next ++ [(((i + 1 : Nat) : Int), hh)], ex2 ++ [Ent.box (V.int .i64 op :: V.int .i64 a :: V.int .i64 nn :: V.str lb :: V.str ow :: encD qd)]), by simp [rowsP], by simp, by simp only; omega, by simp only; omega, by simp [hsl], hsn2, by simp; omega, rfl⟩
  · rw [hdrj, comeIn]
    have hgp : (rowsP next).getD j [] = [V.int .i64 pa, V.int .i64 ph] := getD_map hgetj
    have hjl : (j : Int) < (next.length : Int) := Int.ofNat_lt.mpr hltj
    have wj : IntKind.i64.wrap ((j : Int) + 1) = ((j + 1 : Nat) : Int) := next_i64 hltj (by omega)
    simp only [gwL, gwB, gwD, gwE, gwS, gwTT, gwZ, gwN, gwC, Nat.reduceEqDiff, ↓reduceIte, Nat.reduceAdd, Nat.reduceLT, Nat.reduceLeDiff, Nat.reduceMul, lt_yes hltj, hgp, hpl, hjl, Int.toNat_natCast]
    refine iK_split (fun h1 => ?_) (fun h1 => ?_)
    · simp only [gwL, gwB, gwD, gwE, gwS, gwTT, gwZ, gwN, gwC, Nat.reduceEqDiff, ↓reduceIte, Nat.reduceAdd, Nat.reduceLT, Nat.reduceLeDiff, Nat.reduceMul, h1, cond_true, wj, Env.keep]
      exact ⟨(j + 1, cur, ex2 ++ [Ent.box [V.int .i64 pa, V.int .i64 ph]]), rfl, rfl, by simp only; omega, by simp only; omega, rfl⟩
    simp only [h1, cond_false]
    simp only [gwL, gwB, gwD, gwE, gwS, gwTT, gwZ, gwN, gwC, Nat.reduceEqDiff, ↓reduceIte, Nat.reduceAdd, Nat.reduceLT, Nat.reduceLeDiff, Nat.reduceMul]
    refine vdraw TT_ok TT_mixed [0, 0, 1, 1, 0, 0, 0, 0, 1, 1, 0, 1, 0, 0] (by kernel_rfl) ?_
    simp only [gwL, gwB, gwD, gwE, gwS, gwTT, gwZ, gwN, gwC, Nat.reduceEqDiff, ↓reduceIte, Nat.reduceAdd, Nat.reduceLT, Nat.reduceLeDiff, Nat.reduceMul, hrl2, hgi, hin, Int.toNat_natCast, forall_const]
    refine ⟨by omega, fun _ => by omega, iK_split (fun h2 => ?_) (fun h2 => ?_)⟩
    · simp only [gwL, gwB, gwD, gwE, gwS, gwTT, gwZ, gwN, gwC, Nat.reduceEqDiff, ↓reduceIte, Nat.reduceAdd, Nat.reduceLT, Nat.reduceLeDiff, Nat.reduceMul, h2, cond_true]
      exact gives_bool' rfl hst
    simp only [h2, cond_false]
    simp only [gwL, gwB, gwD, gwE, gwS, gwTT, gwZ, gwN, gwC, Nat.reduceEqDiff, ↓reduceIte, Nat.reduceAdd, Nat.reduceLT, Nat.reduceLeDiff, Nat.reduceMul, hrl2, hgi, hin, Int.toNat_natCast, rowsI_set, List.set_set, wj, Env.keep]
    refine ⟨by omega, (j + 1, ph, ex2 ++ [Ent.box [V.int .i64 pa, V.int .i64 ph]]), rfl, rfl, by simp only; omega, by simp only; omega, rfl⟩
end Go.Proofs.Ytlblgbfpdlfedaa.Gx

namespace Go.Proofs.Ytlblgbfpdlfedaa.Gx
open Go Go.Proofs.Ytlblgbfpdlfedaa.Gw
set_option linter.unusedSimpArgs false
set_option linter.unusedVariables false

mutual
/-- A datum of a kind that there is, whose lists are few. -/
def goodD : Datum → Prop
  | .mk k _ _ s l kids => (k = 1 ∨ k = 2 ∨ k = 3 ∨ k = 4) ∧ (k = 4 → kids.length ≤ 2000 ∧ goodDs kids) ∧ (k = 3 → s = 0 ∧ l = 0)
def goodDs : List Datum → Prop
  | [] => True
  | d :: r => goodD d ∧ goodDs r
end
mutual
theorem goodD_small : ∀ d : Datum, goodD d → smallD d
  | .mk k n nm s l kids, h => by
    rw [goodD] at h
    rw [smallD]
    exact fun hk => ⟨(h.2.1 hk).1, goodDs_small kids (h.2.1 hk).2⟩
theorem goodDs_small : ∀ l : List Datum, goodDs l → smallDs l
  | [], _ => by rw [smallDs]; trivial
  | d :: r, h => by rw [goodDs] at h; rw [smallDs]; exact ⟨goodD_small d h.1, goodDs_small r h.2⟩
end
mutual
theorem shapeD_good : ∀ (d : Datum) (deep c : Int), 0 ≤ c → (shapeD d deep c).1 = 0 → goodD d ∧ c + 1 ≤ (shapeD d deep c).2
  | .mk k n nm s l kids, deep, c, h0, h => by
    rw [goodD]
    unfold shapeD at h ⊢
    cases h1 : (decide (2000 < c + 1) || decide (40 < deep)) with
    | true => rw [h1] at h; simp at h
    | false =>
      have hc : c + 1 ≤ 2000 := by simp at h1; omega
      rw [h1] at h
      simp only [cond_false] at h ⊢
      cases h2 : decide (k = 1) <;> rw [h2] at h <;> simp only [cond_false, cond_true] at h ⊢
      · have k1 := of_decide_eq_false h2
        cases h3 : decide (k = 2) <;> rw [h3] at h <;> simp only [cond_false, cond_true] at h ⊢
        · have k2 := of_decide_eq_false h3
          cases h4 : decide (k = 3) <;> rw [h4] at h <;> simp only [cond_false, cond_true] at h ⊢
          · cases h5 : decide (k = 4) <;> rw [h5] at h <;> simp only [cond_false, cond_true] at h ⊢
            · simp at h
            · have k4 := of_decide_eq_true h5
              have g := shapeDs_good kids (deep + 1) (c + 1) (by omega) hc h
              have t := shapeDs_ok kids (deep + 1) (c + 1) (by omega) hc h
              exact ⟨⟨by omega, fun _ => ⟨by omega, g.1⟩, fun h => by omega⟩, by omega⟩
          · have k3 := of_decide_eq_true h4
            refine ⟨⟨by omega, fun h => by omega, fun _ => ?_⟩, ?_⟩
            · revert h
              cases namedB nm <;> cases h6 : (decide (s = 0) && decide (l = 0)) <;> simp
              simpa using h6
            · cases namedB nm <;> cases (decide (s = 0) && decide (l = 0)) <;> simp
        · have k2 := of_decide_eq_true h3
          refine ⟨⟨by omega, fun h => by omega, fun h => by omega⟩, ?_⟩
          cases (decide (n = 0) || decide (n = 1)) <;> simp
      · have k1 := of_decide_eq_true h2
        refine ⟨⟨by omega, fun h => by omega, fun h => by omega⟩, ?_⟩
        cases (decide (1000000000000000 < n) || decide (n < -1000000000000000)) <;> simp
theorem shapeDs_good : ∀ (l : List Datum) (deep c : Int), 0 ≤ c → c ≤ 2000 → (shapeDs l deep c).1 = 0 → goodDs l ∧ c + l.length ≤ (shapeDs l deep c).2
  | [], deep, c, h0, h1, h => by simp only [goodDs, shapeDs, List.length_nil, true_and]; omega
  | d :: r, deep, c, h0, h1, h => by
    simp only [shapeDs] at h ⊢
    cases h2 : decide ((shapeD d deep c).1 = 0) with
    | true =>
      rw [h2] at h
      simp only [cond_true] at h ⊢
      have k1 := shapeD_good d deep c h0 (of_decide_eq_true h2)
      have k3 := shapeD_ok d deep c h0 (of_decide_eq_true h2)
      have k2 := shapeDs_good r deep _ (by omega) k3.2 h
      rw [goodDs, List.length_cons]
      exact ⟨⟨k1.1, k2.1⟩, by omega⟩
    | false =>
      rw [h2] at h
      simp only [cond_false] at h
      exact absurd h (of_decide_eq_false h2)
end
theorem wrongL_good {q : Datum} (h : (wrongL [q] 0 0).1 = 0) : goodD q := by
  simp only [wrongL] at h
  cases h2 : decide ((shapeD q 1 0).1 = 0) with
  | true => exact (shapeD_good q 1 0 (by omega) (of_decide_eq_true h2)).1
  | false => rw [h2] at h; simp only [cond_false] at h; exact absurd h (of_decide_eq_false h2)

-- bare data
mutual
theorem bare_same : ∀ d : Datum, goodD d → bareD d = bareR d
  | .mk k n nm s l kids, h => by
    rw [goodD] at h
    rw [bareD_mk, bareR_mk]
    obtain ⟨h1, h2, h3⟩ := h
    rcases h1 with rfl | rfl | rfl | rfl
    · simp
    · simp
    · obtain ⟨rfl, rfl⟩ := h3 rfl; simp
    · have := bares_same kids (h2 rfl).2
      rw [bareDs_map, bareRs_map] at this
      simp [this]
theorem bares_same : ∀ l : List Datum, goodDs l → bareDs l = bareRs l
  | [], _ => by simp only [bareDs, bareRs]
  | d :: r, h => by rw [goodDs] at h; simp only [bareDs, bareRs, bare_same d h.1, bares_same r h.2]
end
mutual
theorem eqD_self : ∀ d : Datum, eqD d d = true
  | .mk k n nm s l kids => by
    rw [eqD]
    simp only [decide_true, cond_true, Bool.and_self, eqDs_self kids]
    simp
theorem eqDs_self : ∀ l : List Datum, eqDs l l = true
  | [] => by rw [eqDs]
  | d :: r => by rw [eqDs, eqD_self d, eqDs_self r]; rfl
end
theorem sameL_self : ∀ l : List Ins, sameL l l = true
  | [] => rfl
  | i :: r => by simp [sameL, sameI, eqD_self, sameL_self r]
theorem samePs_self : ∀ l : List Pr, samePs l l = true
  | [] => rfl
  | p :: r => by simp [samePs, sameL_self, samePs_self r]
end Go.Proofs.Ytlblgbfpdlfedaa.Gx

namespace Go.Proofs.Ytlblgbfpdlfedaa.Gx
open Go Go.Proofs.Ytlblgbfpdlfedaa.Gw
set_option linter.unusedSimpArgs false
set_option linter.unusedVariables false

def idxF (p : Unit' → Bool) : Nat → List Unit' → Int
  | _, [] => -1
  | i, a :: r => bif p a then (i : Int) else idxF p (i + 1) r
def lstU (l : List Unit') : V := .lst 2 none (l.map encU)
theorem encU_len (u : Unit') : (encU u).length = 2 := rfl
theorem encU_take (u : Unit') : (encU u).take 2 = encU u := rfl
theorem c_IndexFunc (st : St) (l : List Unit') (k : FuncId) (cap : List V) (p : Unit' → Bool) (h : ∀ a ∈ l, VCalls Try.prog TT k (.agg (encU a) :: cap) st fun r st' => r = .ret (.bool (p a)) ∧ st' = st) :
    VCalls Try.prog TT 28 [lstU l, .fn (.func k) cap] st fun r st' => r = .ret (.int .i64 (idxF p 0 l)) ∧ st' = st := by
  refine vfun TT_ok (an := anL []) (L := [0, 1, 4, 5, 7, 8]) (rs := [.tmp 4]) Try.func28 rfl (by kernel_rfl) rfl Try.ntmps28 rfl rfl (Nat.le_refl _) fun hst ha hf => ?_
  simp only [fitL, V.fit, lstU, List.length_map] at hf
  simp only [lstU]
  simp only [gwL, gwB, gwD, gwE, gwS, gwTT, gwZ, gwN, gwC, Nat.reduceEqDiff, ↓reduceIte, Nat.reduceAdd, Nat.reduceLT, Nat.reduceLeDiff, Nat.reduceMul, List.length_map]
  refine vfor (σ := Nat) [0, 1, 4, 7, 8] (fun i => [(0, true, lstU l), (1, true, .fn (.func k) cap), (4, true, .int .i64 0), (7, true, .int .i64 l.length), (8, true, .int .i64 i)]) (fun i => st) (fun i => l.length - i) (fun i => i ≤ l.length ∧ idxF p 0 l = idxF p i (l.drop i)) 0 rfl TT_ok ⟨Nat.zero_le _, rfl⟩ rfl rfl ?_
  rintro i ⟨hi, hx⟩
  rw [hx]
  rcases at_or_end l i hi with ⟨rfl, hd⟩ | ⟨a, hlt, hget, hdr⟩
  · simp only [gwL, gwB, gwD, gwE, gwS, gwTT, gwZ, gwN, gwC, Nat.reduceEqDiff, ↓reduceIte, Nat.reduceAdd, Nat.reduceLT, Nat.reduceLeDiff, Nat.reduceMul, lt_no, hd, idxF]
    exact gives_int rfl hst
  · simp only [lstU]
    simp only [gwL, gwB, gwD, gwE, gwS, gwTT, gwZ, gwN, gwC, Nat.reduceEqDiff, ↓reduceIte, Nat.reduceAdd, Nat.reduceLT, Nat.reduceLeDiff, Nat.reduceMul, lt_yes hlt, hdr, idxF, List.length_map, getD_map hget, Int.ofNat_lt.mpr hlt, encU_len, encU_take, Nat.le_refl]
    refine (h a (List.mem_of_getElem? hget)).use (wkL_refl _) fun _ => ?_
    simp only [gwL, gwB, gwD, gwE, gwS, gwTT, gwZ, gwN, gwC, Nat.reduceEqDiff, ↓reduceIte, Nat.reduceAdd, Nat.reduceLT, Nat.reduceLeDiff, Nat.reduceMul]
    refine iK_split (fun h1 => ?_) (fun h1 => ?_)
    · simp only [gwL, gwB, gwD, gwE, gwS, gwTT, gwZ, gwN, gwC, Nat.reduceEqDiff, ↓reduceIte, Nat.reduceAdd, Nat.reduceLT, Nat.reduceLeDiff, Nat.reduceMul, h1, cond_true]
      exact gives_int rfl hst
    · simp only [gwL, gwB, gwD, gwE, gwS, gwTT, gwZ, gwN, gwC, Nat.reduceEqDiff, ↓reduceIte, Nat.reduceAdd, Nat.reduceLT, Nat.reduceLeDiff, Nat.reduceMul, h1, cond_false, Env.keep]
      exact ⟨i + 1, by rw [next_i64 hlt hf.1.1], by omega, hlt, rfl⟩
theorem idxF_ge (p : Unit' → Bool) : ∀ (l : List Unit') (i : Nat), decide (0 ≤ idxF p i l) = l.any p
  | [], i => by simp [idxF]
  | a :: r, i => by
    have := idxF_ge p r (i + 1)
    cases h : p a
    · simp only [idxF, h, cond_false, this, List.any_cons, Bool.false_or]
    · simp [idxF, h]
theorem c_ContainsFunc (st : St) (l : List Unit') (k : FuncId) (cap : List V) (p : Unit' → Bool) (h : ∀ a ∈ l, VCalls Try.prog TT k (.agg (encU a) :: cap) st fun r st' => r = .ret (.bool (p a)) ∧ st' = st) :
    VCalls Try.prog TT 14 [lstU l, .fn (.func k) cap] st fun r st' => r = .ret (.bool (l.any p)) ∧ st' = st := by
  refine vfun TT_ok (an := anL []) (L := [0, 1, 4]) (rs := [.tmp 4]) Try.func14 rfl (by kernel_rfl) rfl Try.ntmps14 rfl rfl (Nat.le_refl _) fun hst ha hf => ?_
  simp only [gwL, gwB, gwD, gwE, gwS, gwTT, gwZ, gwN, gwC, Nat.reduceEqDiff, ↓reduceIte, Nat.reduceAdd, Nat.reduceLT, Nat.reduceLeDiff, Nat.reduceMul]
  refine (c_IndexFunc st l k cap p h).use (wkL_refl _) fun _ => ?_
  simp only [gwL, gwB, gwD, gwE, gwS, gwTT, gwZ, gwN, gwC, Nat.reduceEqDiff, ↓reduceIte, Nat.reduceAdd, Nat.reduceLT, Nat.reduceLeDiff, Nat.reduceMul, idxF_ge]
  exact gives_bool rfl hst
theorem c_nameIs (s : St) (bl bi : Nat) (l : List Unit') (i : Nat) (o u : Unit') (h1 : s[bl]? = some (.box [lstU l])) (h2 : s[bi]? = some (.box [.int .i64 i])) (hu : l[i]? = some u) :
    VCalls Try.prog TT 15 [.agg (encU o), .ptr bl 0, .ptr bi 0] s fun r st' => r = .ret (.bool (decide (o.name = u.name))) ∧ st' = s := by
  refine vfun TT_ok (an := anL [(3, 1)]) (L := [0, 1, 2, 3, 4]) (rs := [.tmp 4]) Try.func15 rfl (by kernel_rfl) rfl Try.ntmps15 rfl rfl (Nat.le_refl _) fun hst ha hf => ?_
  obtain ⟨on, op⟩ := o
  obtain ⟨un, up⟩ := u
  have hlt : i < l.length := (List.getElem?_eq_some_iff.1 hu).1
  have hg : (l.map encU).getD i [] = encU ⟨un, up⟩ := getD_map hu
  simp only [encU]
  simp only [gwL, gwB, gwD, gwE, gwS, gwTT, gwZ, gwN, gwC, Nat.reduceEqDiff, ↓reduceIte, Nat.reduceAdd, Nat.reduceLT, Nat.reduceLeDiff, Nat.reduceMul]
  refine vdraw TT_ok TT_mixed [0, 1, 1, 1, 0, 0, 1, 0, 0] (by kernel_rfl) ?_
  simp only [gwL, gwB, gwD, gwE, gwS, gwTT, gwZ, gwN, gwC, Nat.reduceEqDiff, ↓reduceIte, Nat.reduceAdd, Nat.reduceLT, Nat.reduceLeDiff, Nat.reduceMul, h1, h2, lstU, hg, encU, List.length_map, Int.toNat_natCast, Int.ofNat_lt.mpr hlt]
  exact gives_bool rfl hst
end Go.Proofs.Ytlblgbfpdlfedaa.Gx
