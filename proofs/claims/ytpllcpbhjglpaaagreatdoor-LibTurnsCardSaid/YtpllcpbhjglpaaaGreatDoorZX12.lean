/- Libraries put together: Show, walked. (Printed by mk_Q3.py.). Libraries that include a file: LibFiles, in plain terms. Of two ways one: LibElse, in plain terms. What is shown is parsed: LibTurns, in plain terms. What is shown is parsed: LibTurns, in plain terms. When libraries are the same, walked. Laws of libraries: LibTurns, walked. What a row needs: how what comes in is read. How what comes in for LibTurns is read. The row of the law LibTurns, whatever comes in: it answers true, and what came in reads as it did. -/
import Derived.Test.YtpllcpbhjglpaaaGreatDoorZX11
import Derived.WalkKit
import Derived.ProofKit
import Derived.OpenShut
import Derived.ShutString
import Derived.ChangeOld
import Derived.Below
import Derived.SizedLaws
import Derived.Carry
import Derived.JoinedCond
import Derived.Test.YtpllcpbhjglpaaaGreatDoorRows
import Derived.Test.YtpllcpbhjglpaaaGreatDoorCards
import Derived.Test.YtpllcpbhjglpaaaGreatDoorTie
import Derived.Deep.DeepHandedRow
import Derived.Lib.LaidTab
import Derived.Stop.LaidErr
namespace Go.Proofs.YtpllcpbhjglpaaaGreatDoor.Gx
open Go Go.Proofs.YtpllcpbhjglpaaaGreatDoor.Gw
open Nat (reduceEqDiff reduceAdd reduceLT reduceLeDiff reduceMul)
set_option linter.unusedSimpArgs false
set_option linter.unusedVariables false
def showE (p : Str × Str) : Datum := bif decide (p.1 = p.2) then Sd p.1 else Ld [Sd wRename, Sd p.2, Sd p.1]
/-- A library, or a program, as a datum. -/
def showHead (o : Lib') : List Datum := bif decide (o.name = []) then [Sd wProgram] else [Sd wLibrary, Ld ((splitP o.name).map Sd), Ld (Sd wExport :: o.exps.map showE)]
def showP (o : Lib') : Datum := Ld (showHead o ++ [Ld (Sd wImport :: o.imps.map showS), Ld (Sd wBegin :: o.body)])
def okLib (o : Lib') : Prop := o.name.length ≤ 1000 ∧ o.exps.length ≤ 1000000 ∧ o.imps.length ≤ 1000000 ∧ o.body.length ≤ 1000000 ∧ okSs o.imps
set_option maxHeartbeats 2000000 in
theorem c_libShow (o : Lib') (ok : okLib o) (st : St) : VCalls Tryz.prog TT 11 [.agg (encLib o)] st fun r st' => r = .ret (.agg (encD (showP o))) ∧ st' = st := by
 obtain ⟨hn, he, hi, hb, his⟩ := ok
 have hil : o.imps.length ≤ 9223372036854775807 := by omega
 refine vfun TT_ok (an := anL [(1, 1), (13, 1), (21, 1), (23, 1), (61, 1), (81, 1)]) (L := [0, 1, 2, 3, 4, 6, 7, 8, 25, 26, 27, 64, 65]) (rs := [.cell 2 26]) Tryz.func11 rfl (by kernel_rfl) rfl Tryz.ntmps11 rfl rfl (Nat.le_refl _) fun hst ha hf => ?_
 simp only [encLib]
 simp only [gw0, reduceEqDiff, ↓reduceIte, reduceAdd, reduceLT, reduceLeDiff, reduceMul, gwD3, gwDT, pureR_none, ite_self, nilR, nilB, bitF, bitV, nilC, nilCmp, eqb, assertV, assertW, zeroV, wQ_normal, wQ_ret, wQ_panic, pickO, pickC, List.map_cons, List.map_nil, List.getD_cons_zero, List.getD_cons_succ, Env.keep, beq_self_eq_true, cond_true, cond_false]
 refine iK_split (fun h1 => ?_) (fun h1 => ?_)
 ·simp only [gw0, reduceEqDiff, ↓reduceIte, reduceAdd, reduceLT, reduceLeDiff, reduceMul, gwD3, gwDT, pureR_none, ite_self, nilR, nilB, bitF, bitV, nilC, nilCmp, eqb, assertV, assertW, zeroV, wQ_normal, wQ_ret, wQ_panic, pickO, pickC, List.map_cons, List.map_nil, List.getD_cons_zero, List.getD_cons_succ, Env.keep, beq_self_eq_true, cond_true, cond_false]
  refine (c_libname wProgram _).use (wkL_refl _) fun _ => ?_
  simp only [gw0, reduceEqDiff, ↓reduceIte, reduceAdd, reduceLT, reduceLeDiff, reduceMul, gwD3, gwDT, pureR_none, ite_self, nilR, nilB, bitF, bitV, nilC, nilCmp, eqb, assertV, assertW, zeroV, wQ_normal, wQ_ret, wQ_panic, pickO, pickC, List.map_cons, List.map_nil, List.getD_cons_zero, List.getD_cons_succ, Env.keep, beq_self_eq_true, cond_true, cond_false, encD_take, encD_len, encD_drop, Nat.le_refl, List.length_map, List.length_cons, List.length_nil, List.length_append]
  refine (c_libname wImport _).use (wkL_refl _) fun _ => ?_
  simp only [gw0, reduceEqDiff, ↓reduceIte, reduceAdd, reduceLT, reduceLeDiff, reduceMul, gwD3, gwDT, pureR_none, ite_self, nilR, nilB, bitF, bitV, nilC, nilCmp, eqb, assertV, assertW, zeroV, wQ_normal, wQ_ret, wQ_panic, pickO, pickC, List.map_cons, List.map_nil, List.getD_cons_zero, List.getD_cons_succ, Env.keep, beq_self_eq_true, cond_true, cond_false, encD_take, encD_len, encD_drop, Nat.le_refl, List.length_map, List.length_cons, List.length_nil, List.length_append]
  have hh : showHead o = [Sd wProgram] := by rw [showHead, h1]; rfl
  have hwk : ∀ t, wk (.lst 6 t [encD (Sd wProgram), encD (Ld (Sd wImport :: o.imps.map showS)), encD (Ld (Sd wBegin :: o.body))]) (lstD (showHead o ++ [Ld (Sd wImport :: o.imps.map showS), Ld (Sd wBegin :: o.body)])) := fun t => by rw [hh]; exact wk_tok _ _ _
  refine vfor (σ := Nat) [0, 1, 2, 3, 7, 64, 65] (fun x => [(0, true, .agg [.str o.name, .lst 2 none (rows2 o.exps), .lst 6 none (o.imps.map encSet), .lst 6 none (o.body.map encD)]), (1, true, .ref [.str o.name, .lst 2 none (rows2 o.exps), .lst 6 none (o.imps.map encSet), .lst 6 none (o.body.map encD)]), (2, true, .ptr st.length 0), (3, true, .lst 6 (some (st.length + 1)) ([encD (Sd wProgram)])), (7, true, .lst 6 (some (st.length + 2)) (encD (Sd wImport) :: (o.imps.take x).map fun s => encD (showS s))), (64, true, .int .i64 o.imps.length), (65, true, .int .i64 x)]) (fun x => st ++ (.box [.int .i64 0, .int .i64 0, .str [], .int .i64 0, .int .i64 0, .nils] :: .tip 26 (1) :: ([] ++ [.tip 26 (1 + x)]))) (fun x => o.imps.length - x) (fun x => x ≤ o.imps.length ∧ (0 : Nat) = 0) 0 rfl TT_ok ⟨Nat.zero_le _, rfl⟩ rfl rfl ?_
  rintro i ⟨hi2, -⟩
  rcases at_or_end o.imps i hi2 with ⟨rfl, hd⟩ | ⟨a, hlt, hget, hdr⟩
  ·simp only [gw0, reduceEqDiff, ↓reduceIte, reduceAdd, reduceLT, reduceLeDiff, reduceMul, gwD3, gwDT, pureR_none, ite_self, nilR, nilB, bitF, bitV, nilC, nilCmp, eqb, assertV, assertW, zeroV, wQ_normal, wQ_ret, wQ_panic, pickO, pickC, List.map_cons, List.map_nil, List.getD_cons_zero, List.getD_cons_succ, Env.keep, beq_self_eq_true, cond_true, cond_false, lt_no]
   refine vdraw TT_ok TT_mixed [0, 0, 0, 0, 2, 0, 0, 2, 0, 0, 2, 0, 2] (by kernel_rfl) ?_
   simp only [gw0, reduceEqDiff, ↓reduceIte, reduceAdd, reduceLT, reduceLeDiff, reduceMul, gwD3, gwDT, pureR_none, ite_self, nilR, nilB, bitF, bitV, nilC, nilCmp, eqb, assertV, assertW, zeroV, wQ_normal, wQ_ret, wQ_panic, pickO, pickC, List.map_cons, List.map_nil, List.getD_cons_zero, List.getD_cons_succ, Env.keep, beq_self_eq_true, cond_true, cond_false, encD_take, encD_len, encD_drop, Nat.le_refl, List.length_map, List.length_cons, List.length_nil, List.length_append, List.take_length, List.nil_append]
   refine eK_free (c_libof (Sd wImport :: o.imps.map showS)) (wkL_cons (by rw [lstD, List.map_cons, List.map_map]; exact wk_tok _ _ _) wkL_nil) ?_
   simp only [gw0, reduceEqDiff, ↓reduceIte, reduceAdd, reduceLT, reduceLeDiff, reduceMul, gwD3, gwDT, pureR_none, ite_self, nilR, nilB, bitF, bitV, nilC, nilCmp, eqb, assertV, assertW, zeroV, wQ_normal, wQ_ret, wQ_panic, pickO, pickC, List.map_cons, List.map_nil, List.getD_cons_zero, List.getD_cons_succ, Env.keep, beq_self_eq_true, cond_true, cond_false, encD_take, encD_len, encD_drop, Nat.le_refl, List.length_map, List.length_cons, List.length_nil, List.length_append, List.nil_append]
   refine eK_free (c_libname wBegin) (wkL_refl _) ?_
   simp only [gw0, reduceEqDiff, ↓reduceIte, reduceAdd, reduceLT, reduceLeDiff, reduceMul, gwD3, gwDT, pureR_none, ite_self, nilR, nilB, bitF, bitV, nilC, nilCmp, eqb, assertV, assertW, zeroV, wQ_normal, wQ_ret, wQ_panic, pickO, pickC, List.map_cons, List.map_nil, List.getD_cons_zero, List.getD_cons_succ, Env.keep, beq_self_eq_true, cond_true, cond_false, encD_take, encD_len, encD_drop, Nat.le_refl, List.length_map, List.length_cons, List.length_nil, List.length_append, List.nil_append]
   refine ⟨by omega, ?_⟩
   refine eK_free (c_libof (Sd wBegin :: o.body)) (wkL_cons (wk_tok _ _ _) wkL_nil) ?_
   simp only [gw0, reduceEqDiff, ↓reduceIte, reduceAdd, reduceLT, reduceLeDiff, reduceMul, gwD3, gwDT, pureR_none, ite_self, nilR, nilB, bitF, bitV, nilC, nilCmp, eqb, assertV, assertW, zeroV, wQ_normal, wQ_ret, wQ_panic, pickO, pickC, List.map_cons, List.map_nil, List.getD_cons_zero, List.getD_cons_succ, Env.keep, beq_self_eq_true, cond_true, cond_false, encD_take, encD_len, encD_drop, Nat.le_refl, List.length_map, List.length_cons, List.length_nil, List.length_append, List.nil_append]
   refine eK_free (c_libof (showHead o ++ [Ld (Sd wImport :: o.imps.map showS), Ld (Sd wBegin :: o.body)])) (wkL_cons (hwk _) wkL_nil) ?_
   simp only [gw0, reduceEqDiff, ↓reduceIte, reduceAdd, reduceLT, reduceLeDiff, reduceMul, gwD3, gwDT, pureR_none, ite_self, nilR, nilB, bitF, bitV, nilC, nilCmp, eqb, assertV, assertW, zeroV, wQ_normal, wQ_ret, wQ_panic, pickO, pickC, List.map_cons, List.map_nil, List.getD_cons_zero, List.getD_cons_succ, Env.keep, beq_self_eq_true, cond_true, cond_false, encD_take, encD_len, encD_drop, Nat.le_refl, List.length_map, List.length_cons, List.length_nil, List.length_append, List.nil_append]
   exact gives_of (wk_refl _) (wkSt_refl _) (by simp only [V.lt]; exact encD_lt _ _) hst
  ·simp only [gw0, reduceEqDiff, ↓reduceIte, reduceAdd, reduceLT, reduceLeDiff, reduceMul, gwD3, gwDT, pureR_none, ite_self, nilR, nilB, bitF, bitV, nilC, nilCmp, eqb, assertV, assertW, zeroV, wQ_normal, wQ_ret, wQ_panic, pickO, pickC, List.map_cons, List.map_nil, List.getD_cons_zero, List.getD_cons_succ, Env.keep, beq_self_eq_true, cond_true, cond_false, lt_yes hlt, encD_take, encD_len, encD_drop, Nat.le_refl, List.length_map, List.length_cons, List.length_nil, List.length_append, getD_map hget, Int.ofNat_lt.mpr hlt, List.nil_append]
   refine (c_showSet a (okSs_mem his (List.mem_of_getElem? hget)) _).use (wkL_refl _) fun _ => ?_
   have ht : (o.imps.take i).length = i := by rw [List.length_take]; omega
   simp only [gw0, reduceEqDiff, ↓reduceIte, reduceAdd, reduceLT, reduceLeDiff, reduceMul, gwD3, gwDT, pureR_none, ite_self, nilR, nilB, bitF, bitV, nilC, nilCmp, eqb, assertV, assertW, zeroV, wQ_normal, wQ_ret, wQ_panic, pickO, pickC, List.map_cons, List.map_nil, List.getD_cons_zero, List.getD_cons_succ, Env.keep, beq_self_eq_true, cond_true, cond_false, encD_take, encD_len, encD_drop, Nat.le_refl, List.length_map, List.length_cons, List.length_nil, List.length_append, ht, Env.keep, next_i64 hlt hil, List.nil_append]
   refine ⟨by omega, i + 1, ?_, ?_, by omega, hlt⟩
   ·rw [List.take_add_one, hget]
    simp
   ·rw [show 1 + (i + 1) = i + 2 by omega]
    try rfl
 ·simp only [gw0, reduceEqDiff, ↓reduceIte, reduceAdd, reduceLT, reduceLeDiff, reduceMul, gwD3, gwDT, pureR_none, ite_self, nilR, nilB, bitF, bitV, nilC, nilCmp, eqb, assertV, assertW, zeroV, wQ_normal, wQ_ret, wQ_panic, pickO, pickC, List.map_cons, List.map_nil, List.getD_cons_zero, List.getD_cons_succ, Env.keep, beq_self_eq_true, cond_true, cond_false]
  refine vdraw TT_ok TT_mixed [0, 0, 0, 0, 0, 0, 0, 2, 0] (by kernel_rfl) ?_
  simp only [gw0, reduceEqDiff, ↓reduceIte, reduceAdd, reduceLT, reduceLeDiff, reduceMul, gwD3, gwDT, pureR_none, ite_self, nilR, nilB, bitF, bitV, nilC, nilCmp, eqb, assertV, assertW, zeroV, wQ_normal, wQ_ret, wQ_panic, pickO, pickC, List.map_cons, List.map_nil, List.getD_cons_zero, List.getD_cons_succ, Env.keep, beq_self_eq_true, cond_true, cond_false]
  refine eK_free (c_libname wLibrary) (wkL_refl _) ?_
  simp only [gw0, reduceEqDiff, ↓reduceIte, reduceAdd, reduceLT, reduceLeDiff, reduceMul, gwD3, gwDT, pureR_none, ite_self, nilR, nilB, bitF, bitV, nilC, nilCmp, eqb, assertV, assertW, zeroV, wQ_normal, wQ_ret, wQ_panic, pickO, pickC, List.map_cons, List.map_nil, List.getD_cons_zero, List.getD_cons_succ, Env.keep, beq_self_eq_true, cond_true, cond_false]
  refine eK_free (c_Split o.name (by omega)) (wkL_refl _) ?_
  simp only [gw0, reduceEqDiff, ↓reduceIte, reduceAdd, reduceLT, reduceLeDiff, reduceMul, gwD3, gwDT, pureR_none, ite_self, nilR, nilB, bitF, bitV, nilC, nilCmp, eqb, assertV, assertW, zeroV, wQ_normal, wQ_ret, wQ_panic, pickO, pickC, List.map_cons, List.map_nil, List.getD_cons_zero, List.getD_cons_succ, Env.keep, beq_self_eq_true, cond_true, cond_false]
  refine eK_free (c_liball [] (splitP o.name) (by have := (splitP_len o.name).1; omega)) (wkL_refl _) ?_
  simp only [gw0, reduceEqDiff, ↓reduceIte, reduceAdd, reduceLT, reduceLeDiff, reduceMul, gwD3, gwDT, pureR_none, ite_self, nilR, nilB, bitF, bitV, nilC, nilCmp, eqb, assertV, assertW, zeroV, wQ_normal, wQ_ret, wQ_panic, pickO, pickC, List.map_cons, List.map_nil, List.getD_cons_zero, List.getD_cons_succ, Env.keep, beq_self_eq_true, cond_true, cond_false, lstD, List.length_map, List.length_cons, List.map_cons, List.drop_succ_cons, List.drop_zero]
  refine ⟨by omega, ?_⟩
  refine eK_free (c_libof ((splitP o.name).map Sd)) (wkL_refl _) ?_
  simp only [gw0, reduceEqDiff, ↓reduceIte, reduceAdd, reduceLT, reduceLeDiff, reduceMul, gwD3, gwDT, pureR_none, ite_self, nilR, nilB, bitF, bitV, nilC, nilCmp, eqb, assertV, assertW, zeroV, wQ_normal, wQ_ret, wQ_panic, pickO, pickC, List.map_cons, List.map_nil, List.getD_cons_zero, List.getD_cons_succ, Env.keep, beq_self_eq_true, cond_true, cond_false, encD_take, encD_len, encD_drop, Nat.le_refl, List.length_map, List.length_cons, List.length_nil, List.length_append]
  refine (c_libname wExport _).use (wkL_refl _) fun _ => ?_
  simp only [gw0, reduceEqDiff, ↓reduceIte, reduceAdd, reduceLT, reduceLeDiff, reduceMul, gwD3, gwDT, pureR_none, ite_self, nilR, nilB, bitF, bitV, nilC, nilCmp, eqb, assertV, assertW, zeroV, wQ_normal, wQ_ret, wQ_panic, pickO, pickC, List.map_cons, List.map_nil, List.getD_cons_zero, List.getD_cons_succ, Env.keep, beq_self_eq_true, cond_true, cond_false, encD_take, encD_len, encD_drop, Nat.le_refl, List.length_map, List.length_cons, List.length_nil, List.length_append, rows2]
  have hel : o.exps.length ≤ 9223372036854775807 := by omega
  refine vforD (σ := Nat) [0, 1, 2, 3, 4, 25, 26, 27] (fun x => [(0, true, .agg [.str o.name, .lst 2 none (rows2 o.exps), .lst 6 none (o.imps.map encSet), .lst 6 none (o.body.map encD)]), (1, true, .ref [.str o.name, .lst 2 none (rows2 o.exps), .lst 6 none (o.imps.map encSet), .lst 6 none (o.body.map encD)]), (2, true, .ptr st.length 0), (3, true, .lst 6 (some (st.length + 1)) [encD (Sd wLibrary), encD (Ld ((splitP o.name).map Sd))]), (4, true, .lst 6 (some (st.length + 2)) (encD (Sd wExport) :: (o.exps.take x).map fun p => encD (showE p))), (25, true, .lst 2 none (rows2 o.exps)), (26, true, .int .i64 o.exps.length), (27, true, .int .i64 x)]) (fun x => st ++ [.box [.int .i64 0, .int .i64 0, .str [], .int .i64 0, .int .i64 0, .nils], .tip 26 2, .tip 26 (1 + x)]) (fun x => o.exps.length - x) (fun x => x ≤ o.exps.length ∧ (0 : Nat) = 0) 0 rfl TT_ok ⟨Nat.zero_le _, rfl⟩ (wkE_refl _) rfl ?_
  rintro i ⟨hi2, -⟩
  simp only [rows2]
  rcases at_or_end o.exps i hi2 with ⟨rfl, hd⟩ | ⟨a, hlt, hget, hdr⟩
  ·simp only [gw0, reduceEqDiff, ↓reduceIte, reduceAdd, reduceLT, reduceLeDiff, reduceMul, gwD3, gwDT, pureR_none, ite_self, nilR, nilB, bitF, bitV, nilC, nilCmp, eqb, assertV, assertW, zeroV, wQ_normal, wQ_ret, wQ_panic, pickO, pickC, List.map_cons, List.map_nil, List.getD_cons_zero, List.getD_cons_succ, Env.keep, beq_self_eq_true, cond_true, cond_false, lt_no, List.take_length, encD_take, encD_len, encD_drop, Nat.le_refl, List.length_map, List.length_cons, List.length_nil, List.length_append]
   refine (c_libof (Sd wExport :: o.exps.map showE) _).use (wkL_cons (by rw [lstD, List.map_cons, List.map_map]; exact wk_tok _ _ _) wkL_nil) fun _ => ?_
   simp only [gw0, reduceEqDiff, ↓reduceIte, reduceAdd, reduceLT, reduceLeDiff, reduceMul, gwD3, gwDT, pureR_none, ite_self, nilR, nilB, bitF, bitV, nilC, nilCmp, eqb, assertV, assertW, zeroV, wQ_normal, wQ_ret, wQ_panic, pickO, pickC, List.map_cons, List.map_nil, List.getD_cons_zero, List.getD_cons_succ, Env.keep, beq_self_eq_true, cond_true, cond_false, encD_take, encD_len, encD_drop, Nat.le_refl, List.length_map, List.length_cons, List.length_nil, List.length_append]
   refine (c_libname wImport _).use (wkL_refl _) fun _ => ?_
   simp only [gw0, reduceEqDiff, ↓reduceIte, reduceAdd, reduceLT, reduceLeDiff, reduceMul, gwD3, gwDT, pureR_none, ite_self, nilR, nilB, bitF, bitV, nilC, nilCmp, eqb, assertV, assertW, zeroV, wQ_normal, wQ_ret, wQ_panic, pickO, pickC, List.map_cons, List.map_nil, List.getD_cons_zero, List.getD_cons_succ, Env.keep, beq_self_eq_true, cond_true, cond_false, encD_take, encD_len, encD_drop, Nat.le_refl, List.length_map, List.length_cons, List.length_nil, List.length_append]
   have hh : showHead o = [Sd wLibrary, Ld ((splitP o.name).map Sd), Ld (Sd wExport :: o.exps.map showE)] := by rw [showHead, h1]; rfl
   have hwk : ∀ t, wk (.lst 6 t [encD (Sd wLibrary), encD (Ld ((splitP o.name).map Sd)), encD (Ld (Sd wExport :: o.exps.map showE)), encD (Ld (Sd wImport :: o.imps.map showS)), encD (Ld (Sd wBegin :: o.body))]) (lstD (showHead o ++ [Ld (Sd wImport :: o.imps.map showS), Ld (Sd wBegin :: o.body)])) := fun t => by rw [hh]; exact wk_tok _ _ _
   refine vfor (σ := Nat) [0, 1, 2, 3, 7, 64, 65] (fun x => [(0, true, .agg [.str o.name, .lst 2 none (rows2 o.exps), .lst 6 none (o.imps.map encSet), .lst 6 none (o.body.map encD)]), (1, true, .ref [.str o.name, .lst 2 none (rows2 o.exps), .lst 6 none (o.imps.map encSet), .lst 6 none (o.body.map encD)]), (2, true, .ptr st.length 0), (3, true, .lst 6 (some (st.length + 1)) ([encD (Sd wLibrary), encD (Ld ((splitP o.name).map Sd)), encD (Ld (Sd wExport :: o.exps.map showE))])), (7, true, .lst 6 (some (st.length + 3)) (encD (Sd wImport) :: (o.imps.take x).map fun s => encD (showS s))), (64, true, .int .i64 o.imps.length), (65, true, .int .i64 x)]) (fun x => st ++ (.box [.int .i64 0, .int .i64 0, .str [], .int .i64 0, .int .i64 0, .nils] :: .tip 26 (3) :: ([.tip 26 (1 + o.exps.length)] ++ [.tip 26 (1 + x)]))) (fun x => o.imps.length - x) (fun x => x ≤ o.imps.length ∧ (0 : Nat) = 0) 0 rfl TT_ok ⟨Nat.zero_le _, rfl⟩ rfl rfl ?_
   rintro i ⟨hi2, -⟩
   rcases at_or_end o.imps i hi2 with ⟨rfl, hd⟩ | ⟨a, hlt, hget, hdr⟩
   ·simp only [gw0, reduceEqDiff, ↓reduceIte, reduceAdd, reduceLT, reduceLeDiff, reduceMul, gwD3, gwDT, pureR_none, ite_self, nilR, nilB, bitF, bitV, nilC, nilCmp, eqb, assertV, assertW, zeroV, wQ_normal, wQ_ret, wQ_panic, pickO, pickC, List.map_cons, List.map_nil, List.getD_cons_zero, List.getD_cons_succ, Env.keep, beq_self_eq_true, cond_true, cond_false, lt_no]
    refine vdraw TT_ok TT_mixed [0, 0, 0, 0, 2, 0, 0, 2, 0, 0, 2, 0, 2] (by kernel_rfl) ?_
    simp only [gw0, reduceEqDiff, ↓reduceIte, reduceAdd, reduceLT, reduceLeDiff, reduceMul, gwD3, gwDT, pureR_none, ite_self, nilR, nilB, bitF, bitV, nilC, nilCmp, eqb, assertV, assertW, zeroV, wQ_normal, wQ_ret, wQ_panic, pickO, pickC, List.map_cons, List.map_nil, List.getD_cons_zero, List.getD_cons_succ, Env.keep, beq_self_eq_true, cond_true, cond_false, encD_take, encD_len, encD_drop, Nat.le_refl, List.length_map, List.length_cons, List.length_nil, List.length_append, List.take_length, List.nil_append, List.singleton_append]
    refine eK_free (c_libof (Sd wImport :: o.imps.map showS)) (wkL_cons (by rw [lstD, List.map_cons, List.map_map]; exact wk_tok _ _ _) wkL_nil) ?_
    simp only [gw0, reduceEqDiff, ↓reduceIte, reduceAdd, reduceLT, reduceLeDiff, reduceMul, gwD3, gwDT, pureR_none, ite_self, nilR, nilB, bitF, bitV, nilC, nilCmp, eqb, assertV, assertW, zeroV, wQ_normal, wQ_ret, wQ_panic, pickO, pickC, List.map_cons, List.map_nil, List.getD_cons_zero, List.getD_cons_succ, Env.keep, beq_self_eq_true, cond_true, cond_false, encD_take, encD_len, encD_drop, Nat.le_refl, List.length_map, List.length_cons, List.length_nil, List.length_append, List.nil_append, List.singleton_append]
    refine eK_free (c_libname wBegin) (wkL_refl _) ?_
    simp only [gw0, reduceEqDiff, ↓reduceIte, reduceAdd, reduceLT, reduceLeDiff, reduceMul, gwD3, gwDT, pureR_none, ite_self, nilR, nilB, bitF, bitV, nilC, nilCmp, eqb, assertV, assertW, zeroV, wQ_normal, wQ_ret, wQ_panic, pickO, pickC, List.map_cons, List.map_nil, List.getD_cons_zero, List.getD_cons_succ, Env.keep, beq_self_eq_true, cond_true, cond_false, encD_take, encD_len, encD_drop, Nat.le_refl, List.length_map, List.length_cons, List.length_nil, List.length_append, List.nil_append, List.singleton_append]
    refine ⟨by omega, ?_⟩
    refine eK_free (c_libof (Sd wBegin :: o.body)) (wkL_cons (wk_tok _ _ _) wkL_nil) ?_
    simp only [gw0, reduceEqDiff, ↓reduceIte, reduceAdd, reduceLT, reduceLeDiff, reduceMul, gwD3, gwDT, pureR_none, ite_self, nilR, nilB, bitF, bitV, nilC, nilCmp, eqb, assertV, assertW, zeroV, wQ_normal, wQ_ret, wQ_panic, pickO, pickC, List.map_cons, List.map_nil, List.getD_cons_zero, List.getD_cons_succ, Env.keep, beq_self_eq_true, cond_true, cond_false, encD_take, encD_len, encD_drop, Nat.le_refl, List.length_map, List.length_cons, List.length_nil, List.length_append, List.nil_append, List.singleton_append]
    refine eK_free (c_libof (showHead o ++ [Ld (Sd wImport :: o.imps.map showS), Ld (Sd wBegin :: o.body)])) (wkL_cons (hwk _) wkL_nil) ?_
    simp only [gw0, reduceEqDiff, ↓reduceIte, reduceAdd, reduceLT, reduceLeDiff, reduceMul, gwD3, gwDT, pureR_none, ite_self, nilR, nilB, bitF, bitV, nilC, nilCmp, eqb, assertV, assertW, zeroV, wQ_normal, wQ_ret, wQ_panic, pickO, pickC, List.map_cons, List.map_nil, List.getD_cons_zero, List.getD_cons_succ, Env.keep, beq_self_eq_true, cond_true, cond_false, encD_take, encD_len, encD_drop, Nat.le_refl, List.length_map, List.length_cons, List.length_nil, List.length_append, List.nil_append, List.singleton_append]
    exact gives_of (wk_refl _) (wkSt_refl _) (by simp only [V.lt]; exact encD_lt _ _) hst
   ·simp only [gw0, reduceEqDiff, ↓reduceIte, reduceAdd, reduceLT, reduceLeDiff, reduceMul, gwD3, gwDT, pureR_none, ite_self, nilR, nilB, bitF, bitV, nilC, nilCmp, eqb, assertV, assertW, zeroV, wQ_normal, wQ_ret, wQ_panic, pickO, pickC, List.map_cons, List.map_nil, List.getD_cons_zero, List.getD_cons_succ, Env.keep, beq_self_eq_true, cond_true, cond_false, lt_yes hlt, encD_take, encD_len, encD_drop, Nat.le_refl, List.length_map, List.length_cons, List.length_nil, List.length_append, getD_map hget, Int.ofNat_lt.mpr hlt, List.nil_append, List.singleton_append]
    refine (c_showSet a (okSs_mem his (List.mem_of_getElem? hget)) _).use (wkL_refl _) fun _ => ?_
    have ht : (o.imps.take i).length = i := by rw [List.length_take]; omega
    simp only [gw0, reduceEqDiff, ↓reduceIte, reduceAdd, reduceLT, reduceLeDiff, reduceMul, gwD3, gwDT, pureR_none, ite_self, nilR, nilB, bitF, bitV, nilC, nilCmp, eqb, assertV, assertW, zeroV, wQ_normal, wQ_ret, wQ_panic, pickO, pickC, List.map_cons, List.map_nil, List.getD_cons_zero, List.getD_cons_succ, Env.keep, beq_self_eq_true, cond_true, cond_false, encD_take, encD_len, encD_drop, Nat.le_refl, List.length_map, List.length_cons, List.length_nil, List.length_append, ht, Env.keep, next_i64 hlt hil, List.nil_append, List.singleton_append]
    refine ⟨by omega, i + 1, ?_, ?_, by omega, hlt⟩
    ·rw [List.take_add_one, hget]
     simp
    ·rw [show 1 + (i + 1) = i + 2 by omega]
     try rfl
  ·simp only [gw0, reduceEqDiff, ↓reduceIte, reduceAdd, reduceLT, reduceLeDiff, reduceMul, gwD3, gwDT, pureR_none, ite_self, nilR, nilB, bitF, bitV, nilC, nilCmp, eqb, assertV, assertW, zeroV, wQ_normal, wQ_ret, wQ_panic, pickO, pickC, List.map_cons, List.map_nil, List.getD_cons_zero, List.getD_cons_succ, Env.keep, beq_self_eq_true, cond_true, cond_false, lt_yes hlt, encD_take, encD_len, encD_drop, Nat.le_refl, List.length_map, List.length_cons, List.length_nil, List.length_append, getD_map hget, Int.ofNat_lt.mpr hlt, encF2]
   have ht : (o.exps.take i).length = i := by rw [List.length_take]; omega
   refine iK_split (fun h2 => ?_) (fun h2 => ?_)
   ·simp only [gw0, reduceEqDiff, ↓reduceIte, reduceAdd, reduceLT, reduceLeDiff, reduceMul, gwD3, gwDT, pureR_none, ite_self, nilR, nilB, bitF, bitV, nilC, nilCmp, eqb, assertV, assertW, zeroV, wQ_normal, wQ_ret, wQ_panic, pickO, pickC, List.map_cons, List.map_nil, List.getD_cons_zero, List.getD_cons_succ, Env.keep, beq_self_eq_true, cond_true, cond_false]
    refine (c_libname a.1 _).use (wkL_refl _) fun _ => ?_
    simp only [gw0, reduceEqDiff, ↓reduceIte, reduceAdd, reduceLT, reduceLeDiff, reduceMul, gwD3, gwDT, pureR_none, ite_self, nilR, nilB, bitF, bitV, nilC, nilCmp, eqb, assertV, assertW, zeroV, wQ_normal, wQ_ret, wQ_panic, pickO, pickC, List.map_cons, List.map_nil, List.getD_cons_zero, List.getD_cons_succ, Env.keep, beq_self_eq_true, cond_true, cond_false, encD_take, encD_len, encD_drop, Nat.le_refl, List.length_map, List.length_cons, List.length_nil, List.length_append, ht]
    have h4 : ((o.exps.take (i + 1)).map fun p => encD (showE p)) = ((o.exps.take i).map fun p => encD (showE p)) ++ [encD (Sd a.1)] := by
     rw [List.take_add_one, hget]; simp [showE, h2]
    refine ⟨⟨by omega, by omega⟩, i + 1, ⟨?_, st ++ [.box [.int .i64 0, .int .i64 0, .str [], .int .i64 0, .int .i64 0, .nils], .tip 26 2, .tip 26 (i + 2)], [.box [.str a.1, .str a.2]], by simp, by rw [show 1 + (i + 1) = i + 2 by omega]; exact wkSt_refl _, ?_, ok_app hst (by simp [ltEs, Ent.lt, ltL, V.lt]), by simp⟩, by omega, hlt⟩
    ·simp only [gw0, reduceEqDiff, ↓reduceIte, reduceAdd, reduceLT, reduceLeDiff, reduceMul, Env.keep, next_i64 hlt hel]
     rw [h4]
     exact wkE_refl _
    ·have q1 := encLib_lt (st.length + 3) o
     have q2 := lstD_lt (st.length + 3) [Sd wLibrary, Ld ((splitP o.name).map Sd)]
     have q3 := lstD_lt (st.length + 3) (Sd wExport :: (o.exps.take (i + 1)).map showE)
     have q4 := rows2_lt (st.length + 3) o.exps
     simp only [encLib, rows2, ltL, V.lt, lstD, List.map_cons, List.map_nil, List.map_map, Function.comp_def] at q1 q2 q3 q4
     simp only [ltE, V.lt, ltL, gwL, rows2]
     exact ⟨q1, q1, by omega, ⟨fun e h => by cases h; omega, q2.2⟩, ⟨fun e h => by cases h; omega, q3.2⟩, q1.2.1, trivial, trivial, trivial⟩
   ·simp only [gw0, reduceEqDiff, ↓reduceIte, reduceAdd, reduceLT, reduceLeDiff, reduceMul, gwD3, gwDT, pureR_none, ite_self, nilR, nilB, bitF, bitV, nilC, nilCmp, eqb, assertV, assertW, zeroV, wQ_normal, wQ_ret, wQ_panic, pickO, pickC, List.map_cons, List.map_nil, List.getD_cons_zero, List.getD_cons_succ, Env.keep, beq_self_eq_true, cond_true, cond_false]
    refine vstageT TT_ok TT_mixed (σ := Unit) [st ++ [.box [.int .i64 0, .int .i64 0, .str [], .int .i64 0, .int .i64 0, .nils], .tip 26 2, .tip 26 (1 + i), .box [.str a.1, .str a.2]], st ++ [.box [.int .i64 0, .int .i64 0, .str [], .int .i64 0, .int .i64 0, .nils], .tip 26 2, .tip 26 (i + 2), .box [.str a.1, .str a.2]]] [0, 0, 0, 3, 0, 0, 3, 0, 0, 0, 0, 4, 0] [0, 1, 2, 3, 4, 5, 6, 7, 8, 9, 10, 11, 12] [] [] [0, 1, 2, 3, 4, 6, 25, 26, 27] (fun _x => [(0, true, .agg [.str o.name, .lst 2 none (rows2 o.exps), .lst 6 none (o.imps.map encSet), .lst 6 none (o.body.map encD)]), (1, true, .ref [.str o.name, .lst 2 none (rows2 o.exps), .lst 6 none (o.imps.map encSet), .lst 6 none (o.body.map encD)]), (2, true, .ptr st.length 0), (3, true, .lst 6 (some (st.length + 1)) [encD (Sd wLibrary), encD (Ld ((splitP o.name).map Sd))]), (4, true, .lst 6 (some (st.length + 2)) (encD (Sd wExport) :: ((o.exps.take i).map fun p => encD (showE p)) ++ [encD (Ld [Sd wRename, Sd a.2, Sd a.1])])), (6, true, .ptr (st.length + 3) 0), (25, true, .lst 2 none (rows2 o.exps)), (26, true, .int .i64 o.exps.length), (27, true, .int .i64 i)]) (fun _x => st ++ [.box [.int .i64 0, .int .i64 0, .str [], .int .i64 0, .int .i64 0, .nils], .tip 26 2, .tip 26 (i + 2), .box [.str a.1, .str a.2]]) (fun _x => True) rfl (by kernel_rfl) ?_ ?_
    ·simp only [gw0, reduceEqDiff, ↓reduceIte, reduceAdd, reduceLT, reduceLeDiff, reduceMul, gwD3, gwDT, pureR_none, ite_self, nilR, nilB, bitF, bitV, nilC, nilCmp, eqb, assertV, assertW, zeroV, wQ_normal, wQ_ret, wQ_panic, pickO, pickC, List.map_cons, List.map_nil, List.getD_cons_zero, List.getD_cons_succ, Env.keep, beq_self_eq_true, cond_true, cond_false, encD_take, encD_len, encD_drop, Nat.le_refl, List.length_map, List.length_cons, List.length_nil, List.length_append, ht]
     refine eK3_free (c_libname wRename) (wkL_refl _) ?_
     simp only [gw0, reduceEqDiff, ↓reduceIte, reduceAdd, reduceLT, reduceLeDiff, reduceMul, gwD3, gwDT, pureR_none, ite_self, nilR, nilB, bitF, bitV, nilC, nilCmp, eqb, assertV, assertW, zeroV, wQ_normal, wQ_ret, wQ_panic, pickO, pickC, List.map_cons, List.map_nil, List.getD_cons_zero, List.getD_cons_succ, Env.keep, beq_self_eq_true, cond_true, cond_false, encD_take, encD_len, encD_drop, Nat.le_refl, List.length_map, List.length_cons, List.length_nil, List.length_append, ht]
     refine eK3_free (c_libname a.2) (wkL_refl _) ?_
     simp only [gw0, reduceEqDiff, ↓reduceIte, reduceAdd, reduceLT, reduceLeDiff, reduceMul, gwD3, gwDT, pureR_none, ite_self, nilR, nilB, bitF, bitV, nilC, nilCmp, eqb, assertV, assertW, zeroV, wQ_normal, wQ_ret, wQ_panic, pickO, pickC, List.map_cons, List.map_nil, List.getD_cons_zero, List.getD_cons_succ, Env.keep, beq_self_eq_true, cond_true, cond_false, encD_take, encD_len, encD_drop, Nat.le_refl, List.length_map, List.length_cons, List.length_nil, List.length_append, ht]
     refine eK3_free (c_libname a.1) (wkL_refl _) ?_
     simp only [gw0, reduceEqDiff, ↓reduceIte, reduceAdd, reduceLT, reduceLeDiff, reduceMul, gwD3, gwDT, pureR_none, ite_self, nilR, nilB, bitF, bitV, nilC, nilCmp, eqb, assertV, assertW, zeroV, wQ_normal, wQ_ret, wQ_panic, pickO, pickC, List.map_cons, List.map_nil, List.getD_cons_zero, List.getD_cons_succ, Env.keep, beq_self_eq_true, cond_true, cond_false, encD_take, encD_len, encD_drop, Nat.le_refl, List.length_map, List.length_cons, List.length_nil, List.length_append, ht]
     refine eK3_free (c_libof [Sd wRename, Sd a.2, Sd a.1]) (wkL_refl _) ?_
     simp only [gw0, reduceEqDiff, ↓reduceIte, reduceAdd, reduceLT, reduceLeDiff, reduceMul, gwD3, gwDT, pureR_none, ite_self, nilR, nilB, bitF, bitV, nilC, nilCmp, eqb, assertV, assertW, zeroV, wQ_normal, wQ_ret, wQ_panic, pickO, pickC, List.map_cons, List.map_nil, List.getD_cons_zero, List.getD_cons_succ, Env.keep, beq_self_eq_true, cond_true, cond_false, encD_take, encD_len, encD_drop, Nat.le_refl, List.length_map, List.length_cons, List.length_nil, List.length_append, ht, List.mem_cons, true_or, or_true, show 1 + i + 1 = i + 2 by omega]
     exact ⟨⟨by omega, by omega⟩, rfl, rfl, (), rfl, rfl, trivial⟩
    rintro - -
    simp only [gw0, reduceEqDiff, ↓reduceIte, reduceAdd, reduceLT, reduceLeDiff, reduceMul, gwD3, gwDT, pureR_none, ite_self, nilR, nilB, bitF, bitV, nilC, nilCmp, eqb, assertV, assertW, zeroV, wQ_normal, wQ_ret, wQ_panic, pickO, pickC, List.map_cons, List.map_nil, List.getD_cons_zero, List.getD_cons_succ, Env.keep, beq_self_eq_true, cond_true, cond_false]
    have h4 : ((o.exps.take (i + 1)).map fun p => encD (showE p)) = ((o.exps.take i).map fun p => encD (showE p)) ++ [encD (Ld [Sd wRename, Sd a.2, Sd a.1])] := by
     rw [List.take_add_one, hget]; simp [showE, h2]
    refine ⟨i + 1, ⟨?_, st ++ [.box [.int .i64 0, .int .i64 0, .str [], .int .i64 0, .int .i64 0, .nils], .tip 26 2, .tip 26 (i + 2)], [.box [.str a.1, .str a.2]], by simp, by rw [show 1 + (i + 1) = i + 2 by omega]; exact wkSt_refl _, ?_, ok_app hst (by simp [ltEs, Ent.lt, ltL, V.lt]), by simp⟩, by omega, hlt⟩
    ·simp only [gw0, reduceEqDiff, ↓reduceIte, reduceAdd, reduceLT, reduceLeDiff, reduceMul, Env.keep, next_i64 hlt hel]
     rw [h4]
     exact wkE_refl _
    ·have q1 := encLib_lt (st.length + 3) o
     have q2 := lstD_lt (st.length + 3) [Sd wLibrary, Ld ((splitP o.name).map Sd)]
     have q3 := lstD_lt (st.length + 3) (Sd wExport :: (o.exps.take (i + 1)).map showE)
     have q4 := rows2_lt (st.length + 3) o.exps
     simp only [encLib, rows2, ltL, V.lt, lstD, List.map_cons, List.map_nil, List.map_map, Function.comp_def] at q1 q2 q3 q4
     simp only [ltE, V.lt, ltL, gwL, rows2]
     exact ⟨q1, q1, by omega, ⟨fun e h => by cases h; omega, q2.2⟩, ⟨fun e h => by cases h; omega, q3.2⟩, q1.2.1, trivial, trivial, trivial⟩
set_option linter.unusedVariables false
theorem lib_ok {w : Wd} {d : Datum} (h : (parseP w d).2 = 0) : (topP w d).2 = 0 ∧ parseP w d = topP w d := by
 unfold parseP at h ⊢
 cases e1 : decide ((wrongL [d] 0 0).1 = 0) with
 | false => rw [e1] at h; exact absurd h (of_decide_eq_false e1)
 | true =>
  rw [e1] at h
  simp only [Bool.not_true, cond_false] at h ⊢
  cases e2 : decide ((30 : Int) < w.files.length) with
  | true => rw [e2] at h; simp at h
  | false =>
   rw [e2] at h
   simp only [cond_false] at h ⊢
   cases e3 : decide ((topP w d).2 = 0) with
   | false => rw [e3] at h; exact absurd h (of_decide_eq_false e3)
   | true => exact ⟨of_decide_eq_true e3, rfl⟩
theorem thenE_inv {α β : Type} {x : α × Int} {z : β} {f : α → β × Int} (h : (thenE x z f).2 = 0) : x.2 = 0 ∧ thenE x z f = f x.1 := by
 by_cases e : x.2 = 0
 ·exact ⟨e, thenE_ok e⟩
 ·rw [thenE_bad e] at h; exact absurd h e
theorem syms_map : ∀ (l : List Str) (acc : List Str), symsP (l.map Sd) acc = (acc ++ l, 0)
 | [], acc => by simp [symsP]
 | s :: r, acc => by
  rw [List.map_cons, symsP]
  rw [show symP (Sd s) = (s, 0) from rfl]
  simp only [decide_true, cond_true]
  rw [syms_map r]
  simp
theorem called_len {d : Datum} (h : (calledP d).2 = 0) : (calledP d).1.length ≤ 60 := by
 unfold calledP at h ⊢
 obtain ⟨_, e1⟩ := thenE_inv h
 rw [e1] at h ⊢
 obtain ⟨_, e2⟩ := thenE_inv h
 rw [e2] at h ⊢
 revert h
 cases e : decide (60 < (joinP (symsP (listP 1 d).1 []).1).length) with
 | true => intro h; simp at h
 | false => intro _; simpa using e
theorem called_show {s : Str} (h : s.length ≤ 60) : calledP (Ld ((splitP s).map Sd)) = (s, 0) := by
 unfold calledP
 rw [list_L (by rw [List.length_map]; have := List.length_pos_iff.2 (splitP_ne s); omega), thenE_ok rfl]
 rw [syms_map, thenE_ok rfl]
 simp only [List.nil_append, join_split]
 rw [decide_eq_false (by omega)]; rfl
theorem syms_len {l : List Datum} (h : (symsP l []).2 = 0) : (symsP l []).1.length = l.length := by
 have := symsP_len l [] h
 simpa using this
/-- Pairs of names that are told anew. -/
theorem ren_show : ∀ (l : List Datum) (a b : List Str) (x y : List Str), renP l a b = ((x, y), 0) → ∃ u v : List Str, x = a ++ u ∧ y = b ++ v ∧ u.length = v.length ∧ u.length = l.length
 | [], a, b, x, y, h => by
  simp only [renP, Prod.mk.injEq, and_true] at h
  exact ⟨[], [], by simp [h.1], by simp [h.2], rfl, rfl⟩
 | p :: r, a, b, x, y, h => by
  rw [renP] at h
  have h0 := congrArg Prod.snd h
  obtain ⟨_, e1⟩ := thenE_inv h0
  rw [e1] at h
  have h0 := congrArg Prod.snd h
  obtain ⟨_, e2⟩ := thenE_inv h0
  rw [e2] at h
  have h0 := congrArg Prod.snd h
  revert h h0
  generalize (symsP (listP 2 p).1 []).1 = two
  intro h h0
  match two, h, h0 with
  | [x1, y1], h, h0 =>
   obtain ⟨u, v, k1, k2, k3, k4⟩ := ren_show r _ _ _ _ h
   exact ⟨x1 :: u, y1 :: v, by simp [k1], by simp [k2], by simp [k3], by simp [k4]⟩
  | [], h, h0 => simp at h0
  | [_], h, h0 => simp at h0
  | _ :: _ :: _ :: _, h, h0 => simp at h0
theorem ren_back : ∀ (u v : List Str) (a b : List Str), u.length = v.length → renP (List.zipWith showR u v) a b = ((a ++ u, b ++ v), 0)
 | [], [], a, b, _ => by simp [renP]
 | [], _ :: _, _, _, h => by simp at h
 | _ :: _, [], _, _, h => by simp at h
 | x :: u, y :: v, a, b, h => by
  rw [List.zipWith_cons_cons, renP]
  unfold showR
  rw [list_L (by simp), thenE_ok rfl]
  rw [show symsP [Sd x, Sd y] [] = ([x, y], 0) from syms_map [x, y] [], thenE_ok rfl]
  simp only
  have := ren_back u v (a ++ [x]) (b ++ [y]) (by simpa using h)
  unfold showR at this
  rw [this]
  simp
theorem kind_H (s : Set') : kindOf (showS s) = 4 := by
 cases s with
 | mk k n ns az p kids =>
  rw [showS]
  cases decide (k = 1) <;> rfl
theorem set_kind (k : Int) (h2 : 2 ≤ k) (h5 : k ≤ 5) (x : Datum) (hx : kindOf x = 4) (r : List Datum) : setKind (Sd (wordOf k) :: x :: r) = k := by
 have : k = 2 ∨ k = 3 ∨ k = 4 ∨ k = 5 := by omega
 unfold setKind
 simp only [hx, decide_true, Bool.true_and]
 rcases this with rfl | rfl | rfl | rfl <;> rfl
theorem set_words (s : Str) : setKind ((splitP s).map Sd) < 2 := by
 cases splitP s with
 | nil => simp [setKind]
 | cons a r =>
  cases r with
  | nil => simp [setKind]
  | cons b r => simp [setKind, Sd, kindOf]
theorem idx4 (s : Str) : idxOf s 0 [wOnly, wExcept, wPrefix, wRename] ≤ 3 := by
 simp only [idxOf]
 cases decide (s = wOnly) <;> cases decide (s = wExcept) <;> cases decide (s = wPrefix) <;> cases decide (s = wRename) <;> simp
theorem setKind_le (l : List Datum) : setKind l ≤ 5 := by
 unfold setKind
 split
 ·rename_i a b r
  cases (decide (kindOf b = 4) && decide (kindOf a = 3)) with
  | false => simp
  | true => have := idx4 (nameOf a); simp only [cond_true]; omega
 ·omega
/-- A set that was told is told again by what it is shown as. -/
theorem set_show : ∀ (f : Nat) (d : Datum), okM d → (setP f d).2 = 0 → setP f (showS (setP f d).1) = ((setP f d).1, 0) ∧ okS (setP f d).1
 | 0, d, _, h => by simp [setP] at h
 | f + 1, d, hm, h => by
  generalize hs : setP (f + 1) d = R at h ⊢
  rw [setP] at hs
  obtain ⟨e0, e1⟩ := thenE_inv (x := listP 1 d) (by rw [hs]; exact h)
  rw [e1] at hs
  clear e1
  generalize hl : (listP 1 d).1 = l at hs
  have hll : l.length ≤ 2000 ∧ okMs l := by
   obtain ⟨k, n, nm, s, lb, kids⟩ := d
   rw [← hl]
   rw [okM] at hm
   simp only [listP] at e0 ⊢
   cases e : (!decide (k = 4) || decide (kids.length < 1)) with
   | true => rw [e] at e0; simp at e0
   | false =>
    simp only [cond_false]
    simp only [Bool.or_eq_false_iff, Bool.not_eq_false', decide_eq_true_eq] at e
    exact hm.2 e.1
  cases hk : decide (setKind l < 2) with
  | true =>
   rw [hk, cond_true] at hs
   obtain ⟨c0, c1⟩ := thenE_inv (x := calledP d) (by rw [hs]; exact h)
   rw [c1] at hs
   subst hs
   have hc := called_len c0
   generalize (calledP d).1 = s at hc ⊢
   refine ⟨?_, by rw [okS]; exact ⟨by omega, by simp, fun h => absurd rfl h, trivial⟩⟩
   have hs : showS (.mk 1 s [] [] [] []) = Ld ((splitP s).map Sd) := by rw [showS]; rfl
   simp only
   rw [hs, setP, list_L (by rw [List.length_map]; have := List.length_pos_iff.2 (splitP_ne s); omega), thenE_ok rfl]
   simp only
   rw [decide_eq_true (set_words s), cond_true, called_show hc, thenE_ok rfl]
  | false =>
   rw [hk, cond_false] at hs
   have hk2 : 2 ≤ setKind l := by have := of_decide_eq_false hk; omega
   have hk5 := setKind_le l
   obtain ⟨c0, c1⟩ := thenE_inv (x := setP f (l.getD 1 (.mk 0 0 [] 0 0 []))) (by rw [hs]; exact h)
   rw [c1] at hs
   clear c1
   have hm1 : okM (l.getD 1 (.mk 0 0 [] 0 0 [])) := by
    rw [List.getD_eq_getElem?_getD]
    cases hg : l[1]? with
    | none => simp [okM]
    | some x => exact okMs_mem hll.2 (List.mem_of_getElem? hg)
   obtain ⟨i1, i2⟩ := set_show f _ hm1 c0
   generalize (setP f (l.getD 1 (.mk 0 0 [] 0 0 []))).1 = kd at hs i1 i2
   have hok : ∀ ns az p, ns.length ≤ 2000 → (setKind l = 5 → az.length = ns.length) → okS (.mk (setKind l) [] ns az p [kd]) := fun ns az p h1 h2 => by
    rw [okS]
    exact ⟨by simp, by omega, fun _ => ⟨hk2, hk5, by simp, h2⟩, i2, trivial⟩
   have hsh : ∀ (ns az : List Str) (p : Str) (tl : List Datum), tl = (bif decide (setKind l = 4) then [Sd p] else bif decide (setKind l = 5) then List.zipWith showR ns az else ns.map Sd) →
     ∀ g : Int, setKind l = g → setP (f + 1) (showS (.mk g [] ns az p [kd])) = bif decide (g = 4) then (bif !decide (tl.length = 1) then (noSet, 2) else thenE (symP (tl.getD 0 (.mk 0 0 [] 0 0 []))) noSet fun p => (.mk g [] [] [] p [kd], 0))
   else bif decide (g = 5) then thenE (renP tl [] []) noSet fun r => (.mk g [] r.1 r.2 [] [kd], 0)
   else thenE (symsP tl []) noSet fun ns => (.mk g [] ns [] [] [kd], 0) := fun ns az p tl htl g hg => by
    subst hg
    have e : showS (.mk (setKind l) [] ns az p [kd]) = Ld (Sd (wordOf (setKind l)) :: showS kd :: tl) := by
     rw [showS, decide_eq_false (by omega), cond_false, htl, showH]
    rw [e, setP, list_L (by simp), thenE_ok rfl]
    simp only
    rw [set_kind _ hk2 hk5 _ (kind_H kd), decide_eq_false (by omega), cond_false]
    simp only [List.getD_cons_succ, List.getD_cons_zero, List.drop_succ_cons, List.drop_zero, List.length_cons]
    rw [i1, thenE_ok rfl]
    have : decide (tl.length + 1 + 1 = 3) = decide (tl.length = 1) := by
     by_cases h : tl.length = 1
     ·rw [decide_eq_true h, decide_eq_true (by omega)]
     ·rw [decide_eq_false h, decide_eq_false (by omega)]
    rw [this]
   cases h4 : decide (setKind l = 4) with
   | true =>
    rw [h4, cond_true] at hs
    cases h3 : decide (l.length = 3) with
    | false => rw [h3] at hs; subst hs; simp at h
    | true =>
     rw [h3, Bool.not_true, cond_false] at hs
     obtain ⟨s0, s1⟩ := thenE_inv (x := symP (l.getD 2 (.mk 0 0 [] 0 0 []))) (by rw [hs]; exact h)
     rw [s1] at hs
     subst hs
     generalize (symP (l.getD 2 (.mk 0 0 [] 0 0 []))).1 = p
     refine ⟨?_, hok [] [] p (by simp) fun _ => rfl⟩
     simp only
     rw [hsh [] [] p [Sd p] (by rw [h4]; rfl) _ rfl, h4]
     rfl
   | false =>
    rw [h4, cond_false] at hs
    cases h5 : decide (setKind l = 5) with
    | true =>
     rw [h5, cond_true] at hs
     obtain ⟨s0, s1⟩ := thenE_inv (x := renP (l.drop 2) [] []) (by rw [hs]; exact h)
     rw [s1] at hs
     subst hs
     obtain ⟨u, v, k1, k2, k3, k4⟩ := ren_show (l.drop 2) [] [] (renP (l.drop 2) [] []).1.1 (renP (l.drop 2) [] []).1.2 (Prod.ext rfl s0)
     rw [List.nil_append] at k1 k2
     have hul : u.length ≤ 2000 := by rw [k4, List.length_drop]; omega
     simp only
     rw [k1, k2]
     refine ⟨?_, hok u v [] hul fun _ => k3.symm⟩
     rw [hsh u v [] (List.zipWith showR u v) (by rw [h4, h5]; rfl) _ rfl, h4, h5, ren_back u v [] [] k3]
     rfl
    | false =>
     rw [h5, cond_false] at hs
     obtain ⟨s0, s1⟩ := thenE_inv (x := symsP (l.drop 2) []) (by rw [hs]; exact h)
     rw [s1] at hs
     subst hs
     have hul : (symsP (l.drop 2) []).1.length ≤ 2000 := by rw [syms_len s0, List.length_drop]; omega
     generalize (symsP (l.drop 2) []).1 = ns at hul
     refine ⟨?_, hok ns [] [] hul fun e => absurd e (of_decide_eq_false h5)⟩
     simp only
     rw [hsh ns [] [] (ns.map Sd) (by rw [h4, h5]; rfl) _ rfl, h4, h5, syms_map]
     rfl
/-- No name is brought out twice. -/
def oneE : Prs → Prs → Bool
 | _, [] => true
 | acc, p :: r => !(acc.any fun q => decide (q.1 = p.1)) && oneE (acc ++ [p]) r
theorem oneE_snoc : ∀ (acc l : Prs) (p : Str × Str), oneE acc (l ++ [p]) = (oneE acc l && !((acc ++ l).any fun q => decide (q.1 = p.1)))
 | acc, [], p => by simp [oneE]
 | acc, q :: r, p => by
  rw [List.cons_append, oneE, oneE, oneE_snoc (acc ++ [q]) r p]
  simp [Bool.and_assoc]
def showable (s : Set') : Prop := setP 12 (showS s) = (s, 0) ∧ okS s
/-- A library as far as it may be made. -/
structure Good (o : Lib') : Prop where
 exps : o.exps.length ≤ 200
 one : oneE [] o.exps = true
 imps : o.imps.length ≤ 20
 sets : ∀ s ∈ o.imps, showable s
 body : o.body.length ≤ 200
 none : o.name = [] → o.exps = []
theorem good_body {l : List Datum} {o : Lib'} (h : Good o) : Good (bodyL l o).1 := by
 unfold bodyL
 cases e : decide (200 < o.body.length + l.length) with
 | true => exact h
 | false => exact ⟨h.exps, h.one, h.imps, h.sets, by simp only [cond_false, List.length_append]; have := of_decide_eq_false e; omega, h.none⟩
theorem good_export : ∀ (l : List Datum) {o : Lib'}, o.name ≠ [] → Good o → Good (exportP l o).1
 | [], o, hn, h => h
 | d :: r, o, hn, h => by
  rw [exportP_cons]
  cases e1 : decide ((exportOne d).2 = 0) with
  | false => exact h
  | true =>
   simp only [cond_true]
   cases e2 : o.exps.any fun p => decide (p.1 = (exportOne d).1.1) with
   | true => exact h
   | false =>
    simp only [cond_false]
    cases e3 : decide (o.exps.length = 200) with
    | true => exact h
    | false =>
     simp only [cond_false]
     refine good_export r hn ⟨?_, ?_, h.imps, h.sets, h.body, fun e => absurd e hn⟩
     ·have := h.exps; have := of_decide_eq_false e3; simp only [List.length_append, List.length_cons, List.length_nil]; omega
     ·simp only [oneE_snoc, h.one, List.nil_append, e2]; rfl
theorem good_import : ∀ (l : List Datum) {o : Lib'}, okMs l → Good o → Good (importP l o).1
 | [], o, hm, h => h
 | d :: r, o, hm, h => by
  rw [okMs] at hm
  rw [importP_cons]
  cases e1 : decide (o.imps.length = 20) with
  | true => exact h
  | false =>
   simp only [cond_false]
   cases e2 : decide ((setP 12 d).2 = 0) with
   | false => exact h
   | true =>
    simp only [cond_true]
    have hs := set_show 12 d hm.1 (of_decide_eq_true e2)
    refine good_import r hm.2 ⟨h.exps, h.one, ?_, fun s hs2 => ?_, h.body, h.none⟩
    ·have := h.imps; have := of_decide_eq_false e1; simp only [List.length_append, List.length_cons, List.length_nil]; omega
    ·rcases List.mem_append.1 hs2 with hs2 | hs2
     ·exact h.sets s hs2
     ·rw [List.mem_singleton.1 hs2]; exact hs
theorem good_include (w : Wd) : ∀ (l : List Datum) {o : Lib'}, Good o → Good (includeP w l o).1
 | [], o, h => h
 | d :: r, o, h => by
  rw [includeP_cons]
  cases e1 : decide ((symP d).2 = 0) with
  | false => exact h
  | true =>
   simp only [cond_true]
   cases fileOf (symP d).1 w.files with
   | none => exact h
   | some t =>
    simp only
    cases readR t with
    | inl f => exact h
    | inr k =>
     simp only
     cases decide ((bodyL k o).2 = 0) with
     | false => exact good_body h
     | true => exact good_include w r (good_body h)
theorem name_body (l : List Datum) (o : Lib') : (bodyL l o).1.name = o.name := by
 unfold bodyL; cases decide (200 < o.body.length + l.length) <;> rfl
theorem name_import : ∀ (l : List Datum) (o : Lib'), (importP l o).1.name = o.name
 | [], o => rfl
 | d :: r, o => by
  rw [importP_cons]
  cases decide (o.imps.length = 20) with
  | true => rfl
  | false =>
   simp only [cond_false]
   cases decide ((setP 12 d).2 = 0) with
   | false => rfl
   | true => exact name_import r _
theorem name_include (w : Wd) : ∀ (l : List Datum) (o : Lib'), (includeP w l o).1.name = o.name
 | [], o => rfl
 | d :: r, o => by
  rw [includeP_cons]
  cases decide ((symP d).2 = 0) with
  | false => rfl
  | true =>
   simp only [cond_true]
   cases fileOf (symP d).1 w.files with
   | none => rfl
   | some t =>
    simp only
    cases readR t with
    | inl f => rfl
    | inr k =>
     simp only
     cases decide ((bodyL k o).2 = 0) with
     | false => exact name_body k o
     | true => rw [cond_true, name_include w r, name_body]
mutual
theorem good_decl (w : Wd) : ∀ (d : Datum) (o : Lib'), okM d → Good o → Good (declD w d o).1 ∧ (declD w d o).1.name = o.name
 | .mk k n nm s l [], o, hm, h => by
  rw [declD_eq]
  cases decide (k = 4) with
  | true => exact ⟨h, rfl⟩
  | false => exact ⟨h, rfl⟩
 | .mk k n nm s l (hd :: t), o, hm, h => by
  rw [declD_eq]
  rw [okM] at hm
  cases e1 : decide (k = 4) with
  | false => exact ⟨h, rfl⟩
  | true =>
   have hmt : okMs t := by
    have := (hm.2 (of_decide_eq_true e1)).2
    rw [okMs] at this
    exact this.2
   simp only [Bool.not_true, cond_false]
   cases e2 : decide ((symP hd).2 = 0) with
   | false => exact ⟨h, rfl⟩
   | true =>
    simp only [Bool.not_true, cond_false]
    cases decide ((symP hd).1 = wExport) with
    | true =>
     simp only [cond_true]
     cases e4 : decide (o.name = []) with
     | true => exact ⟨h, rfl⟩
     | false => exact ⟨good_export t (of_decide_eq_false e4) h, export_name t o⟩
    | false =>
     simp only [cond_false]
     cases decide ((symP hd).1 = wImport) with
     | true => exact ⟨good_import t hmt h, name_import t o⟩
     | false =>
      simp only [cond_false]
      cases decide ((symP hd).1 = wBegin) with
      | true => exact ⟨good_body h, name_body t o⟩
      | false =>
       simp only [cond_false]
       cases decide ((symP hd).1 = wInclude) with
       | true => exact ⟨good_include w t h, name_include w t o⟩
       | false =>
        simp only [cond_false]
        cases decide ((symP hd).1 = wCond) with
        | true => exact good_cond w t o hmt h
        | false => exact ⟨h, rfl⟩
theorem good_decls (w : Wd) : ∀ (l : List Datum) (o : Lib'), okMs l → Good o → Good (declsL w l o).1 ∧ (declsL w l o).1.name = o.name
 | [], o, hm, h => ⟨h, rfl⟩
 | d :: r, o, hm, h => by
  rw [okMs] at hm
  rw [declsL_cons]
  have h1 := good_decl w d o hm.1 h
  cases decide ((declD w d o).2 = 0) with
  | false => exact h1
  | true =>
   have h2 := good_decls w r _ hm.2 h1.1
   exact ⟨h2.1, h2.2.trans h1.2⟩
theorem good_cond (w : Wd) : ∀ (l : List Datum) (o : Lib'), okMs l → Good o → Good (condL w l o).1 ∧ (condL w l o).1.name = o.name
 | [], o, hm, h => ⟨h, rfl⟩
 | .mk k n nm s l [] :: r, o, hm, h => by
  rw [condL_cons]
  cases decide (k = 4) with
  | true => exact ⟨h, rfl⟩
  | false => exact ⟨h, rfl⟩
 | .mk k n nm s l (hd :: t) :: r, o, hm, h => by
  rw [condL_cons]
  rw [okMs, okM] at hm
  cases e1 : decide (k = 4) with
  | false => exact ⟨h, rfl⟩
  | true =>
   have hmt : okMs t := by
    have := (hm.1.2 (of_decide_eq_true e1)).2
    rw [okMs] at this
    exact this.2
   simp only [Bool.not_true, cond_false]
   cases isElse hd with
   | true => exact good_decls w t o hmt h
   | false =>
    simp only [cond_false]
    cases decide ((holdsD w hd).2 = 0) with
    | false => exact ⟨h, rfl⟩
    | true =>
     simp only [Bool.not_true, cond_false]
     cases (holdsD w hd).1 with
     | true => exact good_decls w t o hmt h
     | false => exact good_cond w r o hm.2 h
end
theorem one_show (p : Str × Str) : exportOne (showE p) = (p, 0) := by
 obtain ⟨a, b⟩ := p
 unfold showE
 cases e : decide (a = b) with
 | true =>
  have := of_decide_eq_true e
  subst this
  rfl
 | false => rfl
theorem export_show : ∀ (l : Prs) (o : Lib'), o.exps.length + l.length ≤ 200 → oneE o.exps l = true → exportP (l.map showE) o = ({ o with exps := o.exps ++ l }, 0)
 | [], o, _, _ => by simp [exportP]
 | p :: r, o, h, h1 => by
  rw [oneE, Bool.and_eq_true, Bool.not_eq_true'] at h1
  rw [List.map_cons, exportP_cons, one_show]
  simp only [List.length_cons] at h
  simp only [decide_true, cond_true]
  rw [h1.1, cond_false, decide_eq_false (by omega), cond_false]
  rw [export_show r _ (by simp only [List.length_append, List.length_cons, List.length_nil]; omega) h1.2]
  simp
theorem import_show : ∀ (l : List Set') (o : Lib'), o.imps.length + l.length ≤ 20 → (∀ s ∈ l, showable s) → importP (l.map showS) o = ({ o with imps := o.imps ++ l }, 0)
 | [], o, _, _ => by simp [importP]
 | s :: r, o, h, h1 => by
  rw [List.map_cons, importP_cons, (h1 s (by simp)).1]
  simp only [List.length_cons] at h
  simp only [decide_true, cond_true]
  rw [decide_eq_false (by omega), cond_false]
  rw [import_show r _ (by simp only [List.length_append, List.length_cons, List.length_nil]; omega) fun s hs => h1 s (by simp [hs])]
  simp
theorem word_export (w : Wd) (l : List Datum) (o : Lib') (h : o.name ≠ []) : declD w (Ld (Sd wExport :: l)) o = exportP l o := by
 have : declD w (Ld (Sd wExport :: l)) o = bif decide (o.name = []) then (o, 2) else exportP l o := by unfold Ld; rw [declD_eq]; rfl
 rw [this, decide_eq_false h]; rfl
theorem word_import (w : Wd) (l : List Datum) (o : Lib') : declD w (Ld (Sd wImport :: l)) o = importP l o := by unfold Ld; rw [declD_eq]; rfl
theorem word_begin (w : Wd) (l : List Datum) (o : Lib') : declD w (Ld (Sd wBegin :: l)) o = bodyL l o := by unfold Ld; rw [declD_eq]; rfl
theorem top_named (w : Wd) (n : Str) (hl : n.length ≤ 60) (l : List Datum) : topP w (Ld (Sd wLibrary :: Ld ((splitP n).map Sd) :: l)) = declsL w l { noLib with name := n } := by
 unfold topP
 rw [list_L (by simp), thenE_ok rfl]
 simp only [List.getD_cons_zero]
 rw [show symP (Sd wLibrary) = (wLibrary, 0) from rfl, thenE_ok rfl]
 simp only [decide_true, cond_true]
 rw [list_L (by simp), thenE_ok rfl]
 simp only [List.getD_cons_succ, List.getD_cons_zero]
 rw [called_show hl, thenE_ok rfl]
 rfl
theorem tail_show (w : Wd) (o : Lib') (h : Good o) (o0 : Lib') (h0 : o0 = { o with imps := [], body := [] }) : declsL w [Ld (Sd wImport :: o.imps.map showS), Ld (Sd wBegin :: o.body)] o0 = (o, 0) := by
 subst h0
 rw [declsL_cons, word_import, import_show _ _ (by simpa using h.imps) h.sets]
 simp only [decide_true, cond_true, List.nil_append]
 rw [decls_one, word_begin]
 unfold bodyL
 simp only [List.length_nil, List.nil_append, Nat.zero_add]
 rw [decide_eq_false (by have := h.body; omega)]
 rfl
theorem top_show (w : Wd) (o : Lib') (h : Good o) (hn : o.name.length ≤ 60) : topP w (showP o) = (o, 0) := by
 unfold showP showHead
 cases e : decide (o.name = []) with
 | true =>
  have en := of_decide_eq_true e
  simp only [cond_true, List.cons_append, List.nil_append]
  rw [top_prog]
  refine tail_show w o h noLib ?_
  have := h.none en
  obtain ⟨a, b, c, d⟩ := o
  simp only at en this
  subst en this
  rfl
 | false =>
  have en := of_decide_eq_false e
  simp only [cond_false, List.cons_append, List.nil_append]
  have h1 : declD w (Ld (Sd wExport :: o.exps.map showE)) { noLib with name := o.name } = ({ o with imps := [], body := [] }, 0) := by
   refine (word_export w (o.exps.map showE) { noLib with name := o.name } en).trans ?_
   refine (export_show _ _ (by simpa [noLib] using h.exps) (by simpa [noLib] using h.one)).trans ?_
   simp [noLib]
  rw [top_named w _ hn, declsL_cons, h1]
  simp only [decide_true, cond_true]
  exact tail_show w o h _ rfl
theorem shape_kids {k n : Int} {nm : Str} {s lb : Int} {kids : List Datum} {deep c : Int} (hk : k = 4) (h : (shapeD (.mk k n nm s lb kids) deep c).1 = 0) : (shapeDs kids (deep + 1) (c + 1)).1 = 0 := by
 subst hk
 unfold shapeD at h
 cases e : decide (2000 < c + 1) || decide (40 < deep) with
 | true => rw [e] at h; simp at h
 | false => rw [e] at h; simpa using h
theorem shapes_mem : ∀ {l : List Datum} {deep c : Int}, (shapeDs l deep c).1 = 0 → ∀ x ∈ l, ∃ c', (shapeD x deep c').1 = 0
 | d :: r, deep, c, h, x, hx => by
  rw [shapes_cons] at h
  cases e : decide ((shapeD d deep c).1 = 0) with
  | false => rw [e] at h; exact absurd h (of_decide_eq_false e)
  | true =>
   rw [e] at h
   rcases List.mem_cons.1 hx with rfl | hx
   ·exact ⟨c, of_decide_eq_true e⟩
   ·exact shapes_mem h x hx
/-- What was parsed is well made. -/
theorem parse_good {w : Wd} {d : Datum} {o : Lib'} (h : parseP w d = (o, 0)) : Good o ∧ o.name.length ≤ 60 := by
 have hw : (wrongL [d] 0 0).1 = 0 := by
  unfold parseP at h
  cases e : decide ((wrongL [d] 0 0).1 = 0) with
  | true => exact of_decide_eq_true e
  | false => rw [e] at h; have := congrArg Prod.snd h; exact absurd this (of_decide_eq_false e)
 have hm := wrongL_okM hw
 rw [wrong_one] at hw
 obtain ⟨t0, t1⟩ := lib_ok (w := w) (d := d) (by rw [h])
 rw [h] at t1
 unfold topP at t1
 obtain ⟨e0, e1⟩ := thenE_inv (x := listP 1 d) (by rw [← t1])
 rw [e1] at t1
 obtain ⟨f0, f1⟩ := thenE_inv (x := symP ((listP 1 d).1.getD 0 (.mk 0 0 [] 0 0 []))) (by rw [← t1])
 rw [f1] at t1
 have hg0 : ∀ n, (n = [] → True) → Good { noLib with name := n } := fun n _ => ⟨by simp [noLib], rfl, by simp [noLib], by simp [noLib], by simp [noLib], fun _ => rfl⟩
 have hkids : kindOf d = 4 ∧ okMs (listP 1 d).1 ∧ ∀ x ∈ (listP 1 d).1, ∃ c', (shapeD x 2 c').1 = 0 := by
  obtain ⟨k, n, nm, s, lb, kids⟩ := d
  simp only [listP, kindOf] at e0 ⊢
  rw [okM] at hm
  cases e : (!decide (k = 4) || decide (kids.length < 1)) with
  | true => rw [e] at e0; simp at e0
  | false =>
   simp only [cond_false]
   simp only [Bool.or_eq_false_iff, Bool.not_eq_false', decide_eq_true_eq, decide_eq_false_iff_not] at e
   exact ⟨e.1, (hm.2 e.1).2, shapes_mem (shape_kids e.1 hw)⟩
 have hdrop : ∀ (n : Nat) (l : List Datum), okMs l → okMs (l.drop n) := by
  intro n
  induction n with
  | zero => intro l h; simpa using h
  | succ n ih =>
   intro l h
   cases l with
   | nil => simpa using h
   | cons a r => rw [List.drop_succ_cons]; rw [okMs] at h; exact ih r h.2
 cases g1 : decide ((symP ((listP 1 d).1.getD 0 (.mk 0 0 [] 0 0 []))).1 = wLibrary) with
 | true =>
  rw [g1, cond_true] at t1
  obtain ⟨i0, i1⟩ := thenE_inv (x := listP 2 d) (by rw [← t1])
  rw [i1] at t1
  obtain ⟨j0, j1⟩ := thenE_inv (x := calledP ((listP 2 d).1.getD 1 (.mk 0 0 [] 0 0 []))) (by rw [← t1])
  rw [j1] at t1
  have hgd := good_decls w ((listP 1 d).1.drop 2) { noLib with name := (calledP ((listP 2 d).1.getD 1 (.mk 0 0 [] 0 0 []))).1 } (hdrop 2 _ hkids.2.1) (hg0 _ fun _ => trivial)
  rw [← t1] at hgd
  exact ⟨hgd.1, by rw [hgd.2]; exact called_len j0⟩
 | false =>
  rw [g1, cond_false] at t1
  cases g2 : decide ((symP ((listP 1 d).1.getD 0 (.mk 0 0 [] 0 0 []))).1 = wProgram) with
  | false => rw [g2] at t1; have := congrArg Prod.snd t1; simp at this
  | true =>
   rw [g2, cond_true] at t1
   have hgd := good_decls w ((listP 1 d).1.drop 1) noLib (hdrop 1 _ hkids.2.1) (hg0 [] fun _ => trivial)
   rw [← t1] at hgd
   exact ⟨hgd.1, by rw [hgd.2]; simp [noLib]⟩
theorem okSs_of : ∀ {l : List Set'}, (∀ s ∈ l, showable s) → okSs l
 | [], _ => trivial
 | s :: r, h => ⟨(h s (by simp)).2, okSs_of fun t ht => h t (by simp [ht])⟩
theorem good_ok {o : Lib'} (h : Good o) (hn : o.name.length ≤ 60) : okLib o := ⟨by omega, by have := h.exps; omega, by have := h.imps; omega, by have := h.body; omega, okSs_of h.sets⟩
/-- LibTurns, in plain terms. -/
theorem libturns_law {w : Wd} {d : Datum} {o : Lib'} (h : parseP w d = (o, 0)) (hx : (wrongL [showP o] 0 0).1 = 0) : parseP ⟨[], [], []⟩ (showP o) = (o, 0) := by
 obtain ⟨hg, hn⟩ := parse_good h
 unfold parseP
 rw [hx, decide_eq_true rfl, Bool.not_true, cond_false, top_show _ o hg hn]
 rfl
set_option linter.unusedVariables false
theorem parse_bad {w : Wd} {d : Datum} (h : (parseP w d).2 ≠ 0) : (parseP w d).1 = noLib := by
 unfold parseP at h ⊢
 cases e1 : decide ((wrongL [d] 0 0).1 = 0) with
 | false => rfl
 | true =>
  rw [e1] at h
  simp only [Bool.not_true, cond_false] at h ⊢
  cases e2 : decide ((30 : Int) < w.files.length) with
  | true => rfl
  | false =>
   rw [e2] at h
   simp only [cond_false] at h ⊢
   cases e3 : decide ((topP w d).2 = 0) with
   | false => rfl
   | true => rw [e3] at h; exact absurd (of_decide_eq_true e3) h
theorem c_LibTurns (w : Wd) (d : Datum) (st : St) : VCalls Tryz.prog TT 5 [.lst 2 none (rows2 w.files), encS w.feats, encS w.libs, .agg (encD d)] st fun r st' => r = .ret (.bool true) ∧ st' = st := by
 refine vfun TT_ok (an := anL [(7, 1)]) (L := [0, 1, 2, 3, 7, 8, 9, 10, 11, 12]) (rs := [.tmp 8]) Tryz.func5 rfl (by kernel_rfl) rfl Tryz.ntmps5 rfl rfl (Nat.le_refl _) fun hst ha hf => ?_
 simp only [gw0, reduceEqDiff, ↓reduceIte, reduceAdd, reduceLT, reduceLeDiff, reduceMul, gwD3, gwDT, pureR_none, ite_self, nilR, nilB, bitF, bitV, nilC, nilCmp, eqb, assertV, assertW, zeroV, wQ_normal, wQ_ret, wQ_panic, pickO, pickC, List.map_cons, List.map_nil, List.getD_cons_zero, List.getD_cons_succ, Env.keep, beq_self_eq_true, cond_true, cond_false, encS, encD_len, encD_take, encD_drop, Nat.le_refl]
 refine (c_alive _).use (wkL_refl _) fun _ => ?_
 simp only [gw0, reduceEqDiff, ↓reduceIte, reduceAdd, reduceLT, reduceLeDiff, reduceMul, gwD3, gwDT, pureR_none, ite_self, nilR, nilB, bitF, bitV, nilC, nilCmp, eqb, assertV, assertW, zeroV, wQ_normal, wQ_ret, wQ_panic, pickO, pickC, List.map_cons, List.map_nil, List.getD_cons_zero, List.getD_cons_succ, Env.keep, beq_self_eq_true, cond_true, cond_false, Bool.not_true, encD_len, encD_take, encD_drop, Nat.le_refl]
 refine (c_libParse w d _).use (wkL_refl _) fun _ => ?_
 simp only [libV]
 simp only [gw0, reduceEqDiff, ↓reduceIte, reduceAdd, reduceLT, reduceLeDiff, reduceMul, gwD3, gwDT, pureR_none, ite_self, nilR, nilB, bitF, bitV, nilC, nilCmp, eqb, assertV, assertW, zeroV, wQ_normal, wQ_ret, wQ_panic, pickO, pickC, List.map_cons, List.map_nil, List.getD_cons_zero, List.getD_cons_succ, Env.keep, beq_self_eq_true, cond_true, cond_false, encLib_len, encLib_take, encLib_drop, Nat.le_refl]
 refine iK_split (fun h => ?_) (fun h => ?_)
 ·have hb : (parseP w d).1 = noLib := parse_bad (by simpa using h)
  simp only [gw0, reduceEqDiff, ↓reduceIte, reduceAdd, reduceLT, reduceLeDiff, reduceMul, gwD3, gwDT, pureR_none, ite_self, nilR, nilB, bitF, bitV, nilC, nilCmp, eqb, assertV, assertW, zeroV, wQ_normal, wQ_ret, wQ_panic, pickO, pickC, List.map_cons, List.map_nil, List.getD_cons_zero, List.getD_cons_succ, Env.keep, beq_self_eq_true, cond_true, cond_false, encLib_len, encLib_take, encLib_drop, Nat.le_refl]
  rw [hb]
  refine (c_ref3Same noLib _).use (wkL_cons (wk_refl _) (wkL_cons (wk_agg (wkL_cons (wk_refl _) (wkL_cons (wk_nils _) (wkL_cons (wk_nils _) (wkL_cons (wk_nils _) wkL_nil))))) wkL_nil)) fun _ => ?_
  simp only [gw0, reduceEqDiff, ↓reduceIte, reduceAdd, reduceLT, reduceLeDiff, reduceMul, gwD3, gwDT, pureR_none, ite_self, nilR, nilB, bitF, bitV, nilC, nilCmp, eqb, assertV, assertW, zeroV, wQ_normal, wQ_ret, wQ_panic, pickO, pickC, List.map_cons, List.map_nil, List.getD_cons_zero, List.getD_cons_succ, Env.keep, beq_self_eq_true, cond_true, cond_false]
  exact gives_bool' rfl hst
 ·have h0 : (parseP w d).2 = 0 := by simpa using h
  have hp : parseP w d = ((parseP w d).1, 0) := Prod.ext rfl h0
  generalize (parseP w d).1 = o at hp ⊢
  obtain ⟨hg, hn⟩ := parse_good hp
  simp only [gw0, reduceEqDiff, ↓reduceIte, reduceAdd, reduceLT, reduceLeDiff, reduceMul, gwD3, gwDT, pureR_none, ite_self, nilR, nilB, bitF, bitV, nilC, nilCmp, eqb, assertV, assertW, zeroV, wQ_normal, wQ_ret, wQ_panic, pickO, pickC, List.map_cons, List.map_nil, List.getD_cons_zero, List.getD_cons_succ, Env.keep, beq_self_eq_true, cond_true, cond_false, encLib_len, encLib_take, encLib_drop, Nat.le_refl]
  refine (c_libShow o (good_ok hg hn) _).use (wkL_refl _) fun _ => ?_
  simp only [gw0, reduceEqDiff, ↓reduceIte, reduceAdd, reduceLT, reduceLeDiff, reduceMul, gwD3, gwDT, pureR_none, ite_self, nilR, nilB, bitF, bitV, nilC, nilCmp, eqb, assertV, assertW, zeroV, wQ_normal, wQ_ret, wQ_panic, pickO, pickC, List.map_cons, List.map_nil, List.getD_cons_zero, List.getD_cons_succ, Env.keep, beq_self_eq_true, cond_true, cond_false, encLib_len, encLib_take, encLib_drop, Nat.le_refl, encD_len, encD_take, encD_drop]
  refine (c_text_Wrong _ [showP o]).use (wkL_refl _) fun _ => ?_
  simp only [fltV]
  simp only [gw0, reduceEqDiff, ↓reduceIte, reduceAdd, reduceLT, reduceLeDiff, reduceMul, gwD3, gwDT, pureR_none, ite_self, nilR, nilB, bitF, bitV, nilC, nilCmp, eqb, assertV, assertW, zeroV, wQ_normal, wQ_ret, wQ_panic, pickO, pickC, List.map_cons, List.map_nil, List.getD_cons_zero, List.getD_cons_succ, Env.keep, beq_self_eq_true, cond_true, cond_false, encLib_len, encLib_take, encLib_drop, Nat.le_refl, encD_len, encD_take, encD_drop]
  refine iK_split (fun hx => ?_) (fun hx => ?_)
  ·simp only [gw0, reduceEqDiff, ↓reduceIte, reduceAdd, reduceLT, reduceLeDiff, reduceMul, gwD3, gwDT, pureR_none, ite_self, nilR, nilB, bitF, bitV, nilC, nilCmp, eqb, assertV, assertW, zeroV, wQ_normal, wQ_ret, wQ_panic, pickO, pickC, List.map_cons, List.map_nil, List.getD_cons_zero, List.getD_cons_succ, Env.keep, beq_self_eq_true, cond_true, cond_false]
   exact gives_bool' rfl hst
  have hx0 : (wrongL [showP o] 0 0).1 = 0 := by simpa using hx
  simp only [gw0, reduceEqDiff, ↓reduceIte, reduceAdd, reduceLT, reduceLeDiff, reduceMul, gwD3, gwDT, pureR_none, ite_self, nilR, nilB, bitF, bitV, nilC, nilCmp, eqb, assertV, assertW, zeroV, wQ_normal, wQ_ret, wQ_panic, pickO, pickC, List.map_cons, List.map_nil, List.getD_cons_zero, List.getD_cons_succ, Env.keep, beq_self_eq_true, cond_true, cond_false, encLib_len, encLib_take, encLib_drop, Nat.le_refl, encD_len, encD_take, encD_drop]
  refine (c_libParse ⟨[], [], []⟩ (showP o) _).use (wkL_cons (wk_nils _) (wkL_cons (wk_nils _) (wkL_cons (wk_nils _) (wkL_refl _)))) fun _ => ?_
  rw [libturns_law hp hx0]
  simp only [libV]
  simp only [gw0, reduceEqDiff, ↓reduceIte, reduceAdd, reduceLT, reduceLeDiff, reduceMul, gwD3, gwDT, pureR_none, ite_self, nilR, nilB, bitF, bitV, nilC, nilCmp, eqb, assertV, assertW, zeroV, wQ_normal, wQ_ret, wQ_panic, pickO, pickC, List.map_cons, List.map_nil, List.getD_cons_zero, List.getD_cons_succ, Env.keep, beq_self_eq_true, cond_true, cond_false, encLib_len, encLib_take, encLib_drop, Nat.le_refl, encD_len, encD_take, encD_drop]
  refine rK_made (c_ref3Same o _) (wkL_refl _) ?_
  simp only [gw0, reduceEqDiff, ↓reduceIte, reduceAdd, reduceLT, reduceLeDiff, reduceMul, gwD3, gwDT, pureR_none, ite_self, nilR, nilB, bitF, bitV, nilC, nilCmp, eqb, assertV, assertW, zeroV, wQ_normal, wQ_ret, wQ_panic, pickO, pickC, List.map_cons, List.map_nil, List.getD_cons_zero, List.getD_cons_succ, Env.keep, beq_self_eq_true, cond_true, cond_false]
  exact gives_bool' rfl hst
theorem c_LibTurnsRow (files : List (Str × Str)) (features libs : List Str) (d : Datum) (st : St) : VCalls Tryz.prog TT 5 [.lst 2 none (files.map encF2), encS features, encS libs, .agg (encD d)] st fun r st' => r = .ret (.bool true) ∧ st' = st :=
 c_LibTurns ⟨files, features, libs⟩ d st
end Go.Proofs.YtpllcpbhjglpaaaGreatDoor.Gx
namespace Go.Proofs.YtpllcpbhjglpaaaGreatDoor.Gx
open Go Go.Proofs.YtpllcpbhjglpaaaGreatDoor.Gw
set_option linter.unusedSimpArgs false
set_option linter.unusedVariables false
def encS1 (s : Str) : List V := [.str s]
theorem len_succ {α : Type} {cs : List α} {n : Nat} (h : cs.length = n + 1) : ∃ c r, cs = c :: r ∧ r.length = n := by
 cases cs with
 | nil => simp at h
 | cons c r => exact ⟨c, r, rfl, by simpa using h⟩
open Go.ChangeShapes Go.WideShapes Go.ChangeAt Go.RowKit
theorem own : ownKnob Tryz.prog.godebug = none := by kernel_rfl
theorem laidOut : laidOutB Tryz.prog = true := by kernel_rfl
theorem below_of {W W' : World} {g' : G} (h : Ext g00 W g' W') : Below W.heap.size W W' := ⟨h.os, h.tape, h.output, h.size, fun k hk => (h.free k hk rfl).1⟩
theorem okWide_slice {P : Program} {W : World} {r : Reach} {b : Nat} {t e : TypeId} {v : Value} (ht : P.underlying t = some (.slice e)) (h : Value.okWide P W r b t v) : v.cells.toList = [v] := by
 unfold Value.okWide at h
 rw [ht] at h
 simp only [Cell.okWide, ht] at h
 cases v <;> first | rfl | (simp [Cell.ok, ht] at h)
theorem dec_str1 {H : Type} {enc : TypeId × Value → H} {P : Program} {W : World} {spare : Nat → Bool} {held : Bool} {t : TypeId} (ht : P.underlying t = some .string) {n : Nat} {cs : List Value} {r : DataW H × List MemPlace} (h : DataW.trod enc P W 0 spare held n t cs = some r) : ∃ x : Str, SimVs g00 W (encS1 x) cs ∧ ∀ u ∈ cs, u.oneCell' = true := by
 obtain ⟨m, rfl, hm⟩ := dec_str ht h
 exact ⟨m, ⟨_, _, rfl, ⟨rfl, hm⟩, rfl⟩, by simp [Value.oneCell']⟩
end Go.Proofs.YtpllcpbhjglpaaaGreatDoor.Gx
namespace Go.Proofs.YtpllcpbhjglpaaaGreatDoor.Gx
open Go Go.Proofs.YtpllcpbhjglpaaaGreatDoor.Gw
open Nat (reduceEqDiff reduceAdd reduceLT reduceLeDiff reduceMul)
set_option linter.unusedSimpArgs false
set_option linter.unusedVariables false
theorem cells9 : Tryz.prog.cellsOf 9 = 1 := by kernel_rfl
theorem cells59 : Tryz.prog.cellsOf 59 = 2 := by kernel_rfl
theorem dec_File {H : Type} {enc : TypeId × Value → H} {W : World} {spare : Nat → Bool} {held : Bool} : ∀ (n : Nat) (cs : List Value) (r : DataW H × List MemPlace), DataW.trod enc Tryz.prog W 0 spare held n 59 cs = some r → ∃ x : Str × Str, SimVs g00 W (encF2 x) cs ∧ ∀ u ∈ cs, u.oneCell' = true := by
 intro n cs r h
 obtain ⟨m, rfl, hl, hf⟩ := dec_struct Tryz.underlying59 h
 rw [cells59] at hl
 obtain ⟨c0, t0, rfl, l0⟩ := len_succ hl
 obtain ⟨c1, t1, rfl, l1⟩ := len_succ l0
 obtain rfl := List.eq_nil_of_length_eq_zero l1
 simp only [List.forall_mem_cons, cells9, List.drop_zero, List.drop_succ_cons, List.take_succ_cons, List.take_zero] at hf
 obtain ⟨⟨y0, h0⟩, ⟨y1, h1⟩, _⟩ := hf
 obtain ⟨x0, e0, k0⟩ := dec_str Tryz.underlying9 h0
 obtain ⟨x1, e1, k1⟩ := dec_str Tryz.underlying9 h1
 simp only [List.cons.injEq, and_true] at e0 e1
 subst e0 e1
 refine ⟨Prod.mk x0 x1, ?_, ?_⟩
 ·exact ⟨_, _, rfl, ⟨rfl, k0⟩, ⟨_, _, rfl, ⟨rfl, k1⟩, rfl⟩⟩
 ·intro u hu
  simp only [List.mem_cons, List.not_mem_nil, or_false] at hu
  rcases hu with rfl | rfl <;> first | rfl
theorem dec_LFile {H : Type} {enc : TypeId × Value → H} {W : World} {spare : Nat → Bool} {held : Bool} {n : Nat} {cs : List Value} {r : DataW H × List MemPlace} (h : DataW.trod enc Tryz.prog W 0 spare held n 22 cs = some r) : ∃ (l : List (Str × Str)) (v : Value), cs = [v] ∧ SimV g00 W (.lst 2 none (l.map encF2)) v ∧ v.oneCell' = true :=
 dec_slice encF2 Tryz.underlying22 cells59 (by decide) (fun m _ cs r hr => dec_File m cs r hr) h
theorem dec_Lstring {H : Type} {enc : TypeId × Value → H} {W : World} {spare : Nat → Bool} {held : Bool} {n : Nat} {cs : List Value} {r : DataW H × List MemPlace} (h : DataW.trod enc Tryz.prog W 0 spare held n 23 cs = some r) : ∃ (l : List (Str)) (v : Value), cs = [v] ∧ SimV g00 W (.lst 1 none (l.map encS1)) v ∧ v.oneCell' = true :=
 dec_slice (X := Str) encS1 Tryz.underlying23 cells9 (by decide) (fun m _ cs r hr => dec_str1 Tryz.underlying9 hr) h
theorem cells26 : Tryz.prog.cellsOf 26 = 6 := by kernel_rfl
theorem cells3 : Tryz.prog.cellsOf 3 = 1 := by kernel_rfl
theorem cells2 : Tryz.prog.cellsOf 2 = 1 := by kernel_rfl
theorem cells24 : Tryz.prog.cellsOf 24 = 1 := by kernel_rfl
theorem dec_Datum {H : Type} {enc : TypeId × Value → H} {W : World} {spare : Nat → Bool} {held : Bool} : ∀ (n : Nat) (cs : List Value) (r : DataW H × List MemPlace), DataW.trod enc Tryz.prog W 0 spare held n 26 cs = some r → ∃ x : Datum, SimVs g00 W (encD x) cs ∧ ∀ u ∈ cs, u.oneCell' = true := by
 intro n
 induction n using Nat.strongRecOn with
 | _ n ih =>
  intro cs r h
  obtain ⟨m, rfl, hl, hf⟩ := dec_struct Tryz.underlying26 h
  rw [cells26] at hl
  obtain ⟨c0, t0, rfl, l0⟩ := len_succ hl
  obtain ⟨c1, t1, rfl, l1⟩ := len_succ l0
  obtain ⟨c2, t2, rfl, l2⟩ := len_succ l1
  obtain ⟨c3, t3, rfl, l3⟩ := len_succ l2
  obtain ⟨c4, t4, rfl, l4⟩ := len_succ l3
  obtain ⟨c5, t5, rfl, l5⟩ := len_succ l4
  obtain rfl := List.eq_nil_of_length_eq_zero l5
  simp only [List.forall_mem_cons, cells2, cells24, cells3, cells9, List.drop_zero, List.drop_succ_cons, List.take_succ_cons, List.take_zero] at hf
  obtain ⟨⟨y0, h0⟩, ⟨y1, h1⟩, ⟨y2, h2⟩, ⟨y3, h3⟩, ⟨y4, h4⟩, ⟨y5, h5⟩, _⟩ := hf
  obtain ⟨x0, e0⟩ := dec_int Tryz.underlying3 h0
  obtain ⟨x1, e1⟩ := dec_int Tryz.underlying2 h1
  obtain ⟨x2, e2, k2⟩ := dec_str Tryz.underlying9 h2
  obtain ⟨x3, e3⟩ := dec_int Tryz.underlying3 h3
  obtain ⟨x4, e4⟩ := dec_int Tryz.underlying3 h4
  obtain ⟨x5, v5, e5, k5, j5⟩ := dec_slice encD Tryz.underlying24 cells26 (by decide) (fun m' hm' cs r hr => ih m' (by omega) cs r hr) h5
  simp only [List.cons.injEq, and_true] at e0 e1 e2 e3 e4 e5
  subst e0 e1 e2 e3 e4 e5
  refine ⟨Datum.mk x0 x1 x2 x3 x4 x5, ?_, ?_⟩
  ·rw [encD_mk]
   exact ⟨_, _, rfl, rfl, ⟨_, _, rfl, rfl, ⟨_, _, rfl, ⟨rfl, k2⟩, ⟨_, _, rfl, rfl, ⟨_, _, rfl, rfl, ⟨_, _, rfl, k5, rfl⟩⟩⟩⟩⟩⟩
  ·intro u hu
   simp only [List.mem_cons, List.not_mem_nil, or_false] at hu
   rcases hu with rfl | rfl | rfl | rfl | rfl | rfl <;> first | rfl | exact j5
end Go.Proofs.YtpllcpbhjglpaaaGreatDoor.Gx
namespace Go.Proofs.YtpllcpbhjglpaaaGreatDoor.Gx
open Go Go.Proofs.YtpllcpbhjglpaaaGreatDoor.Gw
set_option linter.unusedSimpArgs false
set_option linter.unusedVariables false
open Go.ChangeShapes Go.WideShapes Go.ChangeAt Go.RowKit
noncomputable def low0 : Nat := (World.holding Tryz.prog default ⟨#[], #[], []⟩).heap.size
/-- A world that meets what is laid. -/
noncomputable def laidWorld (os : Os) : World :=
 { World.holding Tryz.prog os ⟨#[.cells #[.string ⟨#[118, 97, 108, 117, 101, 32, 111, 117, 116, 32, 111, 102, 32, 114, 97, 110, 103, 101]⟩] 159, .cells #[.string ⟨#[105, 110, 118, 97, 108, 105, 100, 32, 115, 121, 110, 116, 97, 120]⟩] 159], #[], []⟩ with heap := ((((((((World.holding Tryz.prog os ⟨#[.cells #[.string ⟨#[118, 97, 108, 117, 101, 32, 111, 117, 116, 32, 111, 102, 32, 114, 97, 110, 103, 101]⟩] 159, .cells #[.string ⟨#[105, 110, 118, 97, 108, 105, 100, 32, 115, 121, 110, 116, 97, 120]⟩] 159], #[], []⟩).heap.modify 6 (fun | .cells _ t frozen => .cells #[.int .u8 0, .int .u8 1, .int .u8 28, .int .u8 2, .int .u8 29, .int .u8 14, .int .u8 24, .int .u8 3, .int .u8 30, .int .u8 22, .int .u8 20, .int .u8 15, .int .u8 25, .int .u8 17, .int .u8 4, .int .u8 8, .int .u8 31, .int .u8 27, .int .u8 13, .int .u8 23, .int .u8 21, .int .u8 19, .int .u8 16, .int .u8 7, .int .u8 26, .int .u8 12, .int .u8 18, .int .u8 6, .int .u8 11, .int .u8 5, .int .u8 10, .int .u8 9] t frozen | o => o)).modify 7 (fun | .cells _ t frozen => .cells #[.int .u8 0, .int .u8 1, .int .u8 56, .int .u8 2, .int .u8 57, .int .u8 49, .int .u8 28, .int .u8 3, .int .u8 61, .int .u8 58, .int .u8 42, .int .u8 50, .int .u8 38, .int .u8 29, .int .u8 17, .int .u8 4, .int .u8 62, .int .u8 47, .int .u8 59, .int .u8 36, .int .u8 45, .int .u8 43, .int .u8 51, .int .u8 22, .int .u8 53, .int .u8 39, .int .u8 33, .int .u8 30, .int .u8 24, .int .u8 18, .int .u8 12, .int .u8 5, .int .u8 63, .int .u8 55, .int .u8 48, .int .u8 27, .int .u8 60, .int .u8 41, .int .u8 37, .int .u8 16, .int .u8 46, .int .u8 35, .int .u8 44, .int .u8 21, .int .u8 52, .int .u8 32, .int .u8 23, .int .u8 11, .int .u8 54, .int .u8 26, .int .u8 40, .int .u8 15, .int .u8 34, .int .u8 20, .int .u8 31, .int .u8 10, .int .u8 25, .int .u8 14, .int .u8 19, .int .u8 9, .int .u8 13, .int .u8 8, .int .u8 7, .int .u8 6] t frozen | o => o)).modify 5 (fun | .cells _ t frozen => .cells #[.int .u64 1, .int .u64 10, .int .u64 100, .int .u64 1000, .int .u64 10000, .int .u64 100000, .int .u64 1000000, .int .u64 10000000, .int .u64 100000000, .int .u64 1000000000, .int .u64 10000000000, .int .u64 100000000000, .int .u64 1000000000000, .int .u64 10000000000000, .int .u64 100000000000000, .int .u64 1000000000000000, .int .u64 10000000000000000, .int .u64 100000000000000000, .int .u64 1000000000000000000, .int .u64 10000000000000000000] t frozen | o => o)).modify 2 (fun | .cells _ t frozen => .cells #[.int .u8 128, .int .u8 191, .int .u8 160, .int .u8 191, .int .u8 128, .int .u8 159, .int .u8 144, .int .u8 191, .int .u8 128, .int .u8 143, .int .u8 0, .int .u8 0, .int .u8 0, .int .u8 0, .int .u8 0, .int .u8 0, .int .u8 0, .int .u8 0, .int .u8 0, .int .u8 0, .int .u8 0, .int .u8 0, .int .u8 0, .int .u8 0, .int .u8 0, .int .u8 0, .int .u8 0, .int .u8 0, .int .u8 0, .int .u8 0, .int .u8 0, .int .u8 0] t frozen | o => o)).modify 4 (fun | .cells _ t frozen => .cells #[.iface 157 (.pointer (some ⟨low0 + 0, 0, none⟩))] t frozen | o => o)).modify 3 (fun | .cells _ t frozen => .cells #[.iface 157 (.pointer (some ⟨low0 + 1, 0, none⟩))] t frozen | o => o)).modify 1 (fun | .cells _ t frozen => .cells (Go.Pinned.utf8FirstZ.map fun (z : Nat) => Value.int .u8 (z : Int)).toArray t frozen | o => o)) }
theorem laid_met (os : Os) : laidMet Tryz.prog Rows.libTurnsRow.laid ((laidWorld os).forCall (fun _ _ => 0) ⟨#[], #[.slice none 0 0, .slice none 0 0, .slice none 0 0, .agg #[.int .i64 0, .int .i64 0, .string ByteArray.empty, .int .i64 0, .int .i64 0, .slice none 0 0]], []⟩).memory :=
 laidMet_of_run' 8 (by kernel_rfl) (by kernel_rfl)
theorem reads (os : Os) {H : Type} (enc : TypeId × Value → H) : ∃ places, DataW.whole enc Tryz.prog ((laidWorld os).forCall (fun _ _ => 0) ⟨#[], #[.slice none 0 0, .slice none 0 0, .slice none 0 0, .agg #[.int .i64 0, .int .i64 0, .string ByteArray.empty, .int .i64 0, .int .i64 0, .slice none 0 0]], []⟩).memory Tryz.f5.params.toList Rows.libTurnsSpec.vars false #[.slice none 0 0, .slice none 0 0, .slice none 0 0, .agg #[.int .i64 0, .int .i64 0, .string ByteArray.empty, .int .i64 0, .int .i64 0, .slice none 0 0]].toList 8 = some ([.nil, .nil, .nil, .agg [.lit (.int .i64 0), .lit (.int .i64 0), .lit (.string []), .lit (.int .i64 0), .lit (.int .i64 0), .nil]], [], places) :=
 ⟨[], by kernel_rfl⟩
theorem amb_of_laid {W : World} (hL : laidMet Tryz.prog Rows.libTurnsRow.laid W) : Amb g00 W := by
 intro p hp
 obtain rfl : p = (5, (Go.Lib.pow10Tab.map fun z => Value.int .u64 z).toArray) := List.mem_singleton.1 hp
 have h : laidMet Tryz.prog (("internal/strconv.uint64pow10", Go.Lib.tabData .u64 Go.Lib.pow10Tab) :: [("unicode/utf8.acceptRanges", Rows.laid_unicode_utf8_acceptRanges), ("strconv.ErrRange", Rows.laid_strconv_ErrRange), ("strconv.ErrSyntax", Rows.laid_strconv_ErrSyntax), ("unicode/utf8.first", Rows.laid_unicode_utf8_first)]) W := hL.tail.tail
 have ht := Go.Lib.tabIs_of_head (g := 5) (t := 167) (e := 145) (n := 20) (by kernel_rfl) (by kernel_rfl) (by kernel_rfl) (by kernel_rfl) (by kernel_rfl) (by kernel_rfl) h
 refine ⟨rfl, ?_⟩
 unfold Go.Lib.TabIs World.var? at ht
 rw [show Tryz.prog.globalNamed "internal/strconv.uint64pow10" = some 5 by kernel_rfl, Option.bind_some] at ht
 split at ht
 ·rename_i cs t x hx
  simp only [Option.some.injEq] at ht
  subst ht
  exact ⟨t, x, hx⟩
 ·cases ht
set_option maxRecDepth 100000 in
theorem contract (H : Type) (enc : TypeId × Value → H) (W : World) (base : Nat) (args : Array Value) (ds gs : List (DataW H)) (before : List MemPlace) (hL : laidMet Tryz.prog Rows.libTurnsRow.laid W)
  (hval : ∀ (j : Nat) t v, Tryz.f5.params[j]? = some t → args[j]? = some v → Value.okWide Tryz.prog W .any base t v)
  (hW : DataW.Whole enc Tryz.prog Tryz.f5.params.toList Rows.libTurnsSpec.vars false W args.toList ds gs before) :
  Calls Tryz.prog 5 args W fun e W' => ∃ v, e = .returned v ∧ Rows.libTurnsSpec.post enc Tryz.prog Tryz.f5 false true false false W args v W' := by
 have hamb := amb_of_laid hL
 have hW' := hW
 obtain ⟨p, q, hA0, hV, rfl, hfz, hnd⟩ := hW
 have hA : DataW.TrodAll enc Tryz.prog W 0 (fun _ => true) true Tryz.f5.params.toList args.toList ds p := hA0
 rw [Tryz.params5] at hA hval
 obtain ⟨v0, vs0, d0, ds0, p0, q0, hargs0, rfl, rfl, h0, r0⟩ := trodAll_cons hA
 obtain ⟨v1, vs1, d1, ds1, p1, q1, hargs1, rfl, rfl, h1, r1⟩ := trodAll_cons r0
 obtain ⟨v2, vs2, d2, ds2, p2, q2, hargs2, rfl, rfl, h2, r2⟩ := trodAll_cons r1
 obtain ⟨v3, vs3, d3, ds3, p3, q3, hargs3, rfl, rfl, h3, r3⟩ := trodAll_cons r2
 obtain ⟨rfl, rfl, rfl⟩ := trodAll_nil r3
 obtain rfl : args = #[v0, v1, v2, v3] := by cases args; simp_all
 obtain ⟨rfl, rfl⟩ := trodVars_none hV
 have w0 := hval 0 22 v0 rfl rfl
 have w1 := hval 1 23 v1 rfl rfl
 have w2 := hval 2 23 v2 rfl rfl
 have w3 := hval 3 26 v3 rfl rfl
 unfold Value.okWide at w3
 rw [Tryz.underlying26] at w3
 obtain ⟨cs3, rfl, _, _⟩ := w3
 have k0 := h0
 have lt0 : ∀ x ∈ p0, x.block < W.heap.size := by obtain ⟨m, hm⟩ := k0; exact DataW.trod_lt m _ _ _ hm
 obtain ⟨m0, hm0⟩ := h0
 rw [okWide_slice Tryz.underlying22 w0] at hm0
 obtain ⟨files, x0, e0, s0, o0⟩ := dec_LFile hm0
 simp only [List.cons.injEq, and_true] at e0
 subst e0
 have k1 := h1
 have lt1 : ∀ x ∈ p1, x.block < W.heap.size := by obtain ⟨m, hm⟩ := k1; exact DataW.trod_lt m _ _ _ hm
 obtain ⟨m1, hm1⟩ := h1
 rw [okWide_slice Tryz.underlying23 w1] at hm1
 obtain ⟨features, x1, e1, s1, o1⟩ := dec_Lstring hm1
 simp only [List.cons.injEq, and_true] at e1
 subst e1
 have k2 := h2
 have lt2 : ∀ x ∈ p2, x.block < W.heap.size := by obtain ⟨m, hm⟩ := k2; exact DataW.trod_lt m _ _ _ hm
 obtain ⟨m2, hm2⟩ := h2
 rw [okWide_slice Tryz.underlying23 w2] at hm2
 obtain ⟨libs, x2, e2, s2, o2⟩ := dec_Lstring hm2
 simp only [List.cons.injEq, and_true] at e2
 subst e2
 have k3 := h3
 have lt3 : ∀ x ∈ p3, x.block < W.heap.size := by obtain ⟨m, hm⟩ := k3; exact DataW.trod_lt m _ _ _ hm
 obtain ⟨m3, hm3⟩ := h3
 obtain ⟨d, s3, o3⟩ := dec_Datum _ _ _ hm3
 refine ((c_LibTurnsRow files features libs d []).2 g00 W [v0, v1, v2, .agg cs3] (sim00 _ W) ⟨_, _, rfl, s0, ⟨_, _, rfl, s1, ⟨_, _, rfl, s2, ⟨_, _, rfl, ⟨cs3.toList, rfl, s3, o3⟩, rfl⟩⟩⟩⟩).mono fun e W' ⟨r, st', g', ⟨h1, h2⟩, hend, _, hext⟩ => ?_
 subst h1
 obtain ⟨val, rfl, hb⟩ := hend
 simp only [SimV] at hb
 subst hb
 have bel := below_of hext
 exact ⟨_, rfl, _, _, _, [], _, [], hW', trodAll_mk1 (shut_bool Tryz.underlying4 _), (trodAll_cons_mk (Below.trod laidOut (by kernel_rfl) (of_decide_eq_true (by kernel_rfl)) k0 bel lt0) (trodAll_cons_mk (Below.trod laidOut (by kernel_rfl) (of_decide_eq_true (by kernel_rfl)) k1 bel lt1) (trodAll_cons_mk (Below.trod laidOut (by kernel_rfl) (of_decide_eq_true (by kernel_rfl)) k2 bel lt2) (trodAll_cons_mk (Below.trod laidOut (by kernel_rfl) (of_decide_eq_true (by kernel_rfl)) k3 bel lt3) trodAll_mk0)))), rfl, bel.frame _, fun h => by cases h⟩
set_option maxRecDepth 100000 in
theorem lifted (os : Os) (started : os.Started) (H : Type) (enc : TypeId × Value → H) (F : Stop.Interp) :
  ReturnsInHanded {} Tryz.checked os 5 .any ((OpenSpec.ofChange Rows.libTurnsSpec).preRow enc Tryz.prog Tryz.f5 Rows.libTurnsRow.domain false Rows.libTurnsRow.laid) (((OpenSpec.ofChange Rows.libTurnsSpec).at F).post enc Tryz.prog Tryz.f5 false true false false) := by
 obtain ⟨places, hx⟩ := reads os enc
 refine returnsInHanded_of_row (C := Tryz.checked) (s := OpenSpec.ofChange Rows.libTurnsSpec) own started (by kernel_rfl) Tryz.func5
  (witness_row_at (enc := enc) (C := Tryz.checked) false (laidWorld os) #[.slice none 0 0, .slice none 0 0, .slice none 0 0, .agg #[.int .i64 0, .int .i64 0, .string ByteArray.empty, .int .i64 0, .int .i64 0, .slice none 0 0]] rfl (by kernel_rfl) (by kernel_rfl) (by kernel_rfl)
   (OpenSpec.preRow_of_cond 8 hx (by kernel_rfl) (fun k hk => by cases hk) (by kernel_rfl) (laid_met os))) ?_
 intro W base args ds gs before hval hW _ hk _ hL _ _
 exact contract H enc W base args ds gs before hL hval hW
theorem said : Rows.LibTurnsSaid :=
 OpenClaim.holds_of_cond 5 Tryz.f5 rfl rfl rfl rfl rfl rfl rfl ⟨rfl, rfl, rfl, rfl, rfl⟩ rfl rfl rfl rfl rfl (by kernel_rfl) Tryz.func5 (by kernel_rfl)
  (of_decide_eq_true (by kernel_rfl)) (by unfold Func.isWrapper; first | (rw [if_pos (by decide +kernel)]; kernel_rfl) | (rw [if_neg (by decide +kernel)]; exact ⟨rfl, rfl⟩))
  (fun os started H enc _ F => by rw [OpenClaim.pre_eq_preRow]; exact lifted os started H enc F)
theorem plain (f : FuncId) (fn : Func) (hf : Tryz.pinned.checked.prog.funcNamed "graftwood/graftlaw3.LibTurns" = some f) (hfn : Tryz.pinned.checked.prog.funcs[f]? = some fn) :
  true = Tryz.pinned.checked.prog.looks [] ∧ ∀ (j : Nat) t, fn.params[j]? = some t → Tryz.pinned.checked.prog.wantsStandIn t = false := by
 obtain rfl : f = 5 := Option.some.inj ((show Tryz.prog.funcNamed "graftwood/graftlaw3.LibTurns" = some 5 by kernel_rfl).symm.trans hf) |>.symm
 obtain rfl : fn = Tryz.f5 := (Option.some.inj (Tryz.func5.symm.trans hfn)).symm
 refine ⟨by kernel_rfl, fun j t ht => ?_⟩
 rw [Tryz.params5] at ht
 have hm := Array.mem_of_getElem? ht
 simp at hm
 rcases hm with rfl | rfl | rfl
 ·exact (show Tryz.prog.wantsStandIn 22 = false by kernel_rfl)
 ·exact (show Tryz.prog.wantsStandIn 23 = false by kernel_rfl)
 ·exact (show Tryz.prog.wantsStandIn 26 = false by kernel_rfl)
end Go.Proofs.YtpllcpbhjglpaaaGreatDoor.Gx
namespace Go.Proofs.YtpllcpbhjglpaaaGreatDoor
theorem libTurnsCard_holds : Rows.LibTurnsCardSaid :=
 Claim7.holds_tied_plain_at .later [] _ _ _ _ Gx.said (fun _ h => by cases h) (by kernel_rfl) (fun _ h => by cases h) libTurns_row_tie rfl ⟨rfl, rfl⟩ (by kernel_rfl) rfl Gx.plain (by kernel_rfl)
#print axioms libTurnsCard_holds
end Go.Proofs.YtpllcpbhjglpaaaGreatDoor
