/- The laws of chapter 1 that say something of all texts, walked. What a row needs: how what comes in is read. How what comes in for TextBlank is read. The row of the law TextBlank, where what comes in is not too much: it answers true, and what came in reads as it did. -/
import Derived.Test.YtbnkfcjmcjiahaaDoorZK9
import Derived.WalkKit
import Derived.ProofKit
import Derived.OpenShut
import Derived.ShutString
import Derived.ChangeOld
import Derived.Below
import Derived.SizedLaws
import Derived.Carry
import Derived.JoinedCond
import Derived.Test.YtbnkfcjmcjiahaaDoorRows
import Derived.Test.YtbnkfcjmcjiahaaDoorCards
import Derived.Test.YtbnkfcjmcjiahaaDoorTie
import Derived.Deep.DeepHandedRow
import Derived.Lib.LaidTab
import Derived.Stop.LaidErr

namespace Go.Proofs.YtbnkfcjmcjiahaaDoor.Gx
open Go Go.Proofs.YtbnkfcjmcjiahaaDoor.Gw
set_option linter.unusedSimpArgs false
set_option linter.unusedVariables false

def aliveS : Str := [40, 97, 32, 39, 98, 32, 35, 116, 41, 32, 59, 32, 99, 10, 45, 55]
def aliveL : List Datum := [.mk 4 0 [] 0 0 [.mk 3 0 [97] 0 0 [], .mk 4 0 [] 0 0 [.mk 3 0 quoteS 0 0 [], .mk 3 0 [98] 0 0 []], .mk 2 1 [] 0 0 []], .mk 1 (-7) [] 0 0 []]
theorem alive_read : readR aliveS = .inr aliveL := by kernel_rfl
theorem alive_text : textL aliveL = [40, 97, 32, 40, 113, 117, 111, 116, 101, 32, 98, 41, 32, 35, 116, 41, 10, 45, 55, 10] := by
  have h7 : Lib.itoa (-7) = [45, 55] := by
    unfold Lib.itoa
    rw [if_pos (by omega), show (-7 : Int).natAbs = 7 from rfl, Lib.decDigits, dif_pos (by omega)]
    rfl
  simp only [aliveL, textL, textD, spaced, h7, dk4, dk5, decide_true, cond_true, cond_false, quoteS, List.drop_succ_cons, List.drop_zero, List.cons_append, List.nil_append, List.append_nil]
theorem alive_print : printL aliveL = ([40, 97, 32, 40, 113, 117, 111, 116, 101, 32, 98, 41, 32, 35, 116, 41, 10, 45, 55, 10], (0, 0)) := by
  have hw : (wrongL aliveL 0 0).1 = 0 := right alive_read
  unfold printL
  rw [hw, alive_text]
  rfl
theorem c_alive (st : St) : VCalls Tryd.prog TT 17 [] st fun r st' => r = .ret (.bool true) ∧ st' = st := by
  refine vfun TT_ok (an := anL []) (L := [0, 1, 2, 3, 4]) (rs := [.tmp 0]) Tryd.func17 rfl (by kernel_rfl) rfl Tryd.ntmps17 rfl rfl (Nat.le_refl _) fun hst ha hf => ?_
  simp only [gwL, gwB, gwD, gwE, gwS, gwTT, gwZ, gwN, gwC, Nat.reduceEqDiff, ↓reduceIte, Nat.reduceAdd, Nat.reduceLT, Nat.reduceLeDiff, Nat.reduceMul]
  refine (c_Read aliveS st).use (wkL_refl _) fun _ => ?_
  rw [alive_read]
  simp only [readV, fltV]
  simp only [gwL, gwB, gwD, gwE, gwS, gwTT, gwZ, gwN, gwC, Nat.reduceEqDiff, ↓reduceIte, Nat.reduceAdd, Nat.reduceLT, Nat.reduceLeDiff, Nat.reduceMul]
  refine (c_Print _ aliveL).use (wkL_refl _) fun _ => ?_
  rw [alive_print]
  simp only [printV, fltV]
  simp only [gwL, gwB, gwD, gwE, gwS, gwTT, gwZ, gwN, gwC, Nat.reduceEqDiff, ↓reduceIte, Nat.reduceAdd, Nat.reduceLT, Nat.reduceLeDiff, Nat.reduceMul, decide_true]
  exact gives_bool' rfl hst


theorem c_Same (l m : List Datum) (st : St) : VCalls Tryd.prog TT 14 [lstD l, lstD m] st fun r st' => r = .ret (.bool (eqDs l m)) ∧ st' = st := c_Same_of l (fun d _ => c_Equal d) m st
mutual
theorem eqD_same : ∀ d : Datum, eqD d d = true
  | .mk k n nm s l kids => by
    simp only [eqD, decide_true, cond_true, Bool.and_self, eqDs_same kids]
    cases decide (k = 1) <;> cases decide (k = 2) <;> cases decide (k = 3) <;> cases decide (k = 4) <;> rfl
theorem eqDs_same : ∀ l : List Datum, eqDs l l = true
  | [] => by simp only [eqDs]
  | a :: r => by simp only [eqDs, eqD_same a, eqDs_same r, Bool.and_self]
end

theorem ok_count : ∀ {l : List Datum}, okDs l → l.length ≤ cntDs l
  | [], _ => by simp [cntDs]
  | .mk k n nm s lb kids :: r, h => by
    have := ok_count h.2
    simp only [List.length_cons, cntDs, cntD]
    omega
theorem c_TextTurns (l : List Datum) (s : Str) (st : St) : VCalls Tryd.prog TT 5 [lstD l, .str s] st fun r st' => r = .ret (.bool true) ∧ st' = st := by
  refine vfun TT_ok (an := anL []) (L := [0, 1, 4, 5, 6, 7, 8, 9, 10, 11, 12]) (rs := [.tmp 4]) Tryd.func5 rfl (by kernel_rfl) rfl Tryd.ntmps5 rfl rfl (Nat.le_refl _) fun hst ha hf => ?_
  simp only [gwL, gwB, gwD, gwE, gwS, gwTT, gwZ, gwN, gwC, Nat.reduceEqDiff, ↓reduceIte, Nat.reduceAdd, Nat.reduceLT, Nat.reduceLeDiff, Nat.reduceMul]
  refine (c_alive st).use (wkL_refl _) fun _ => ?_
  simp only [gwL, gwB, gwD, gwE, gwS, gwTT, gwZ, gwN, gwC, Nat.reduceEqDiff, ↓reduceIte, Nat.reduceAdd, Nat.reduceLT, Nat.reduceLeDiff, Nat.reduceMul, Bool.not_true]
  refine (c_Print _ l).use (wkL_refl _) fun _ => ?_
  cases hp : printL l with
  | mk p f =>
    obtain ⟨e, q⟩ := f
    simp only [printV, fltV]
    simp only [gwL, gwB, gwD, gwE, gwS, gwTT, gwZ, gwN, gwC, Nat.reduceEqDiff, ↓reduceIte, Nat.reduceAdd, Nat.reduceLT, Nat.reduceLeDiff, Nat.reduceMul]
    refine iK_split (fun h => ?_) (fun h => ?_)
    · have he : e = 0 := of_decide_eq_true h
      subst he
      have hw : (wrongL l 0 0).1 = 0 := by
        unfold printL at hp
        by_cases e : (wrongL l 0 0).1 = 0
        · exact e
        · simp only [e, decide_false, cond_false, Prod.mk.injEq] at hp
          exact absurd (by rw [hp.2]) e
      have hq : q = 0 := by
        rcases print_right hw with ⟨t, h⟩ | h <;> rw [h] at hp <;> cases hp
        · rfl
      subst hq
      obtain ⟨hr, hq⟩ := written hp
      simp only [gwL, gwB, gwD, gwE, gwS, gwTT, gwZ, gwN, gwC, Nat.reduceEqDiff, ↓reduceIte, Nat.reduceAdd, Nat.reduceLT, Nat.reduceLeDiff, Nat.reduceMul]
      refine (c_Read p _).use (wkL_refl _) fun _ => ?_
      rw [hr]
      simp only [readV, fltV]
      simp only [gwL, gwB, gwD, gwE, gwS, gwTT, gwZ, gwN, gwC, Nat.reduceEqDiff, ↓reduceIte, Nat.reduceAdd, Nat.reduceLT, Nat.reduceLeDiff, Nat.reduceMul, decide_true, Bool.not_true, Bool.not_false]
      refine rK_guarded (.bool (eqDs l (normDs l))) (fun _ => c_Same l (normDs l) _) ?_
      rw [hq]
      simp only [gwL, gwB, gwD, gwE, gwS, gwTT, gwZ, gwN, gwC, Nat.reduceEqDiff, ↓reduceIte, Nat.reduceAdd, Nat.reduceLT, Nat.reduceLeDiff, Nat.reduceMul, Bool.not_true]
      refine (c_Read s _).use (wkL_refl _) fun _ => ?_
      cases hr2 : readR s with
      | inl f =>
        have hb := read_bad hr2
        simp only [readV, fltV, lstD]
        simp only [gwL, gwB, gwD, gwE, gwS, gwTT, gwZ, gwN, gwC, Nat.reduceEqDiff, ↓reduceIte, Nat.reduceAdd, Nat.reduceLT, Nat.reduceLeDiff, Nat.reduceMul, hb, decide_false, Bool.not_false, List.map_nil, List.length_nil]
        exact gives_bool' rfl hst
      | inr m =>
        have hw2 := right hr2
        simp only [readV, fltV]
        simp only [gwL, gwB, gwD, gwE, gwS, gwTT, gwZ, gwN, gwC, Nat.reduceEqDiff, ↓reduceIte, Nat.reduceAdd, Nat.reduceLT, Nat.reduceLeDiff, Nat.reduceMul, decide_true, Bool.not_true]
        refine (c_text_Wrong _ m).use (wkL_refl _) fun _ => ?_
        simp only [fltV]
        simp only [gwL, gwB, gwD, gwE, gwS, gwTT, gwZ, gwN, gwC, Nat.reduceEqDiff, ↓reduceIte, Nat.reduceAdd, Nat.reduceLT, Nat.reduceLeDiff, Nat.reduceMul, hw2, decide_true, Bool.not_true]
        refine (c_Print _ m).use (wkL_refl _) fun _ => ?_
        rcases print_right hw2 with ⟨t, hp2⟩ | hp2
        · obtain ⟨hr3, hq3⟩ := written hp2
          rw [hp2]
          simp only [printV, fltV]
          simp only [gwL, gwB, gwD, gwE, gwS, gwTT, gwZ, gwN, gwC, Nat.reduceEqDiff, ↓reduceIte, Nat.reduceAdd, Nat.reduceLT, Nat.reduceLeDiff, Nat.reduceMul, decide_true, Bool.not_true]
          refine (c_Read t _).use (wkL_refl _) fun _ => ?_
          rw [hr3]
          simp only [readV, fltV]
          simp only [gwL, gwB, gwD, gwE, gwS, gwTT, gwZ, gwN, gwC, Nat.reduceEqDiff, ↓reduceIte, Nat.reduceAdd, Nat.reduceLT, Nat.reduceLeDiff, Nat.reduceMul, decide_true, Bool.not_true]
          refine rK_guarded (.bool (eqDs m (normDs m))) (fun _ => c_Same m (normDs m) _) ?_
          rw [hq3]
          simp only [gwL, gwB, gwD, gwE, gwS, gwTT, gwZ, gwN, gwC, Nat.reduceEqDiff, ↓reduceIte, Nat.reduceAdd, Nat.reduceLT, Nat.reduceLeDiff, Nat.reduceMul]
          exact gives_bool' rfl hst
        · rw [hp2]
          simp only [printV, fltV]
          simp only [gwL, gwB, gwD, gwE, gwS, gwTT, gwZ, gwN, gwC, Nat.reduceEqDiff, ↓reduceIte, Nat.reduceAdd, Nat.reduceLT, Nat.reduceLeDiff, Nat.reduceMul, show decide ((4 : Int) = 0) = false from rfl, Bool.not_false, show decide ((4 : Int) = 4) = true from rfl]
          exact gives_bool' rfl hst
    · simp only [gwL, gwB, gwD, gwE, gwS, gwTT, gwZ, gwN, gwC, Nat.reduceEqDiff, ↓reduceIte, Nat.reduceAdd, Nat.reduceLT, Nat.reduceLeDiff, Nat.reduceMul]
      refine (c_Read s _).use (wkL_refl _) fun _ => ?_
      cases hr2 : readR s with
      | inl f =>
        have hb := read_bad hr2
        simp only [readV, fltV, lstD]
        simp only [gwL, gwB, gwD, gwE, gwS, gwTT, gwZ, gwN, gwC, Nat.reduceEqDiff, ↓reduceIte, Nat.reduceAdd, Nat.reduceLT, Nat.reduceLeDiff, Nat.reduceMul, hb, decide_false, Bool.not_false, List.map_nil, List.length_nil]
        exact gives_bool' rfl hst
      | inr m =>
        have hw2 := right hr2
        simp only [readV, fltV]
        simp only [gwL, gwB, gwD, gwE, gwS, gwTT, gwZ, gwN, gwC, Nat.reduceEqDiff, ↓reduceIte, Nat.reduceAdd, Nat.reduceLT, Nat.reduceLeDiff, Nat.reduceMul, decide_true, Bool.not_true]
        refine (c_text_Wrong _ m).use (wkL_refl _) fun _ => ?_
        simp only [fltV]
        simp only [gwL, gwB, gwD, gwE, gwS, gwTT, gwZ, gwN, gwC, Nat.reduceEqDiff, ↓reduceIte, Nat.reduceAdd, Nat.reduceLT, Nat.reduceLeDiff, Nat.reduceMul, hw2, decide_true, Bool.not_true]
        refine (c_Print _ m).use (wkL_refl _) fun _ => ?_
        rcases print_right hw2 with ⟨t, hp2⟩ | hp2
        · obtain ⟨hr3, hq3⟩ := written hp2
          rw [hp2]
          simp only [printV, fltV]
          simp only [gwL, gwB, gwD, gwE, gwS, gwTT, gwZ, gwN, gwC, Nat.reduceEqDiff, ↓reduceIte, Nat.reduceAdd, Nat.reduceLT, Nat.reduceLeDiff, Nat.reduceMul, decide_true, Bool.not_true]
          refine (c_Read t _).use (wkL_refl _) fun _ => ?_
          rw [hr3]
          simp only [readV, fltV]
          simp only [gwL, gwB, gwD, gwE, gwS, gwTT, gwZ, gwN, gwC, Nat.reduceEqDiff, ↓reduceIte, Nat.reduceAdd, Nat.reduceLT, Nat.reduceLeDiff, Nat.reduceMul, decide_true, Bool.not_true]
          refine rK_guarded (.bool (eqDs m (normDs m))) (fun _ => c_Same m (normDs m) _) ?_
          rw [hq3]
          simp only [gwL, gwB, gwD, gwE, gwS, gwTT, gwZ, gwN, gwC, Nat.reduceEqDiff, ↓reduceIte, Nat.reduceAdd, Nat.reduceLT, Nat.reduceLeDiff, Nat.reduceMul]
          exact gives_bool' rfl hst
        · rw [hp2]
          simp only [printV, fltV]
          simp only [gwL, gwB, gwD, gwE, gwS, gwTT, gwZ, gwN, gwC, Nat.reduceEqDiff, ↓reduceIte, Nat.reduceAdd, Nat.reduceLT, Nat.reduceLeDiff, Nat.reduceMul, show decide ((4 : Int) = 0) = false from rfl, Bool.not_false, show decide ((4 : Int) = 4) = true from rfl]
          exact gives_bool' rfl hst
theorem c_TextJoined (s t : Str) (st : St) : VCalls Tryd.prog TT 6 [.str s, .str t] st fun r st' => r = .ret (.bool true) ∧ st' = st := by
  refine vfun TT_ok (an := anL [(57, 1)]) (L := [0, 1, 4, 5, 6, 7, 8, 9, 10]) (rs := [.tmp 4]) Tryd.func6 rfl (by kernel_rfl) rfl Tryd.ntmps6 rfl rfl (Nat.le_refl _) fun hst ha hf => ?_
  simp only [fitL, V.fit] at hf
  simp only [gwL, gwB, gwD, gwE, gwS, gwTT, gwZ, gwN, gwC, Nat.reduceEqDiff, ↓reduceIte, Nat.reduceAdd, Nat.reduceLT, Nat.reduceLeDiff, Nat.reduceMul]
  refine (c_alive st).use (wkL_refl _) fun _ => ?_
  simp only [gwL, gwB, gwD, gwE, gwS, gwTT, gwZ, gwN, gwC, Nat.reduceEqDiff, ↓reduceIte, Nat.reduceAdd, Nat.reduceLT, Nat.reduceLeDiff, Nat.reduceMul, Bool.not_true]
  refine (c_Read s st).use (wkL_refl _) fun _ => ?_
  cases hr : readR s with
  | inl f =>
    have hf := read_bad hr
    simp only [readV, fltV, lstD]
    simp only [gwL, gwB, gwD, gwE, gwS, gwTT, gwZ, gwN, gwC, Nat.reduceEqDiff, ↓reduceIte, Nat.reduceAdd, Nat.reduceLT, Nat.reduceLeDiff, Nat.reduceMul]
    refine (c_Read t _).use (wkL_refl _) fun _ => ?_
    cases hr2 : readR t with
    | inl g =>
      simp only [readV, fltV, lstD]
      simp only [gwL, gwB, gwD, gwE, gwS, gwTT, gwZ, gwN, gwC, Nat.reduceEqDiff, ↓reduceIte, Nat.reduceAdd, Nat.reduceLT, Nat.reduceLeDiff, Nat.reduceMul, hf, decide_false, Bool.not_false]
      exact gives_bool' rfl hst
    | inr b =>
      simp only [readV, fltV, lstD]
      simp only [gwL, gwB, gwD, gwE, gwS, gwTT, gwZ, gwN, gwC, Nat.reduceEqDiff, ↓reduceIte, Nat.reduceAdd, Nat.reduceLT, Nat.reduceLeDiff, Nat.reduceMul, hf, decide_false, Bool.not_false]
      exact gives_bool' rfl hst
  | inr a =>
    have h6 := (read_ok.1 hr).1
    simp only [readV, fltV, lstD]
    simp only [gwL, gwB, gwD, gwE, gwS, gwTT, gwZ, gwN, gwC, Nat.reduceEqDiff, ↓reduceIte, Nat.reduceAdd, Nat.reduceLT, Nat.reduceLeDiff, Nat.reduceMul]
    refine (c_Read t _).use (wkL_refl _) fun _ => ?_
    cases hr2 : readR t with
    | inl g =>
      have hf := read_bad hr2
      simp only [readV, fltV, lstD]
      simp only [gwL, gwB, gwD, gwE, gwS, gwTT, gwZ, gwN, gwC, Nat.reduceEqDiff, ↓reduceIte, Nat.reduceAdd, Nat.reduceLT, Nat.reduceLeDiff, Nat.reduceMul, hf, decide_false, Bool.not_false]
      exact gives_bool' rfl hst
    | inr b =>
      have h7 := (read_ok.1 hr2).1
      simp only [readV, fltV, lstD]
      simp only [gwL, gwB, gwD, gwE, gwS, gwTT, gwZ, gwN, gwC, Nat.reduceEqDiff, ↓reduceIte, Nat.reduceAdd, Nat.reduceLT, Nat.reduceLeDiff, Nat.reduceMul, decide_true, Bool.not_true, wrap_i64 (show -9223372036854775808 ≤ (s.length : Int) + t.length by omega) (show (s.length : Int) + t.length ≤ 9223372036854775807 by omega), wrap_i64 (show -9223372036854775808 ≤ (s.length : Int) + t.length + 1 by omega) (show (s.length : Int) + t.length + 1 ≤ 9223372036854775807 by omega)]
      refine iK_split (fun h => ?_) (fun h => ?_)
      · simp only [gwL, gwB, gwD, gwE, gwS, gwTT, gwZ, gwN, gwC, Nat.reduceEqDiff, ↓reduceIte, Nat.reduceAdd, Nat.reduceLT, Nat.reduceLeDiff, Nat.reduceMul]
        exact gives_bool' rfl hst
      · have hl : s.length + t.length + 1 ≤ 6000 := by rw [decide_eq_false_iff_not] at h; omega
        simp only [gwL, gwB, gwD, gwE, gwS, gwTT, gwZ, gwN, gwC, Nat.reduceEqDiff, ↓reduceIte, Nat.reduceAdd, Nat.reduceLT, Nat.reduceLeDiff, Nat.reduceMul, List.length_append, List.length_cons, List.length_nil]
        refine ⟨by omega, by omega, (c_Read (s ++ [10] ++ t) _).use (wkL_refl _) fun _ => ?_⟩
        rcases joined hr hr2 hl with hj | ⟨q, hj⟩
        · rw [hj]
          simp only [readV, fltV, lstD]
          simp only [gwL, gwB, gwD, gwE, gwS, gwTT, gwZ, gwN, gwC, Nat.reduceEqDiff, ↓reduceIte, Nat.reduceAdd, Nat.reduceLT, Nat.reduceLeDiff, Nat.reduceMul, show decide ((0 : Int) = 4) = false from rfl, decide_true, Bool.not_false, Bool.not_true, List.length_map]
          have hla := ok_count (wrong_ok a 0 0 (by omega) (by omega) (right hr)).1
          have hca := (wrong_ok a 0 0 (by omega) (by omega) (right hr)).2
          have hlb := ok_count (wrong_ok b 0 0 (by omega) (by omega) (right hr2)).1
          have hcb := (wrong_ok b 0 0 (by omega) (by omega) (right hr2)).2
          refine ⟨by omega, by omega, ?_⟩
          refine rK_made (c_Same (a ++ b) (a ++ b) _) (by
            simp only [lstD, List.map_append]
            exact wkL_cons (wk_refl _) (wkL_cons (wk_tok _ _ _) wkL_nil)) ?_
          rw [eqDs_same]
          simp only [gwL, gwB, gwD, gwE, gwS, gwTT, gwZ, gwN, gwC, Nat.reduceEqDiff, ↓reduceIte, Nat.reduceAdd, Nat.reduceLT, Nat.reduceLeDiff, Nat.reduceMul]
          exact gives_bool' rfl hst
        · rw [hj]
          simp only [readV, fltV, lstD]
          simp only [gwL, gwB, gwD, gwE, gwS, gwTT, gwZ, gwN, gwC, Nat.reduceEqDiff, ↓reduceIte, Nat.reduceAdd, Nat.reduceLT, Nat.reduceLeDiff, Nat.reduceMul, show decide ((4 : Int) = 4) = true from rfl, Bool.not_true, Bool.not_false, List.getElem?_nil, memA]
          refine rK_not (.bool true) ?_
          simp only [gwL, gwB, gwD, gwE, gwS, gwTT, gwZ, gwN, gwC, Nat.reduceEqDiff, ↓reduceIte, Nat.reduceAdd, Nat.reduceLT, Nat.reduceLeDiff, Nat.reduceMul]
          exact gives_bool' rfl hst
theorem c_TextBlank (s note : Str) (st : St) (hn : note.length ≤ 1048576) (hs : s.length ≤ 1048576) : VCalls Tryd.prog TT 7 [.str s, .str note] st fun r st' => r = .ret (.bool true) ∧ st' = st := by
  refine vfun TT_ok (an := anL []) (L := [0, 1, 4, 6, 7, 8, 9, 10, 14, 15, 16]) (rs := [.tmp 4]) Tryd.func7 rfl (by kernel_rfl) rfl Tryd.ntmps7 rfl rfl (Nat.le_refl _) fun hst ha hf => ?_
  simp only [gwL, gwB, gwD, gwE, gwS, gwTT, gwZ, gwN, gwC, Nat.reduceEqDiff, ↓reduceIte, Nat.reduceAdd, Nat.reduceLT, Nat.reduceLeDiff, Nat.reduceMul]
  refine (c_alive st).use (wkL_refl _) fun _ => ?_
  simp only [gwL, gwB, gwD, gwE, gwS, gwTT, gwZ, gwN, gwC, Nat.reduceEqDiff, ↓reduceIte, Nat.reduceAdd, Nat.reduceLT, Nat.reduceLeDiff, Nat.reduceMul, Bool.not_true, convV]
  have hll : (byteRows note).length = note.length := by simp [byteRows]
  refine vforD (σ := Nat) [0, 1, 4, 14, 15, 16] (fun i => [(0, true, .str s), (1, true, .str note), (4, true, .bool false), (14, true, .lst 1 none (byteRows note)), (15, true, .int .i64 note.length), (16, true, .int .i64 i)]) (fun i => st) (fun i => note.length - i) (fun i => i ≤ note.length ∧ (10 : UInt8) ∉ note.take i) 0 rfl TT_ok ⟨Nat.zero_le _, by simp⟩ (by rw [hll]; exact wkE_refl _) rfl ?_
  rintro i ⟨hi, hx⟩
  rcases at_or_end note i hi with ⟨rfl, hd⟩ | ⟨a, hlt, hget, hdr⟩
  · rw [List.take_length] at hx
    simp only [gwL, gwB, gwD, gwE, gwS, gwTT, gwZ, gwN, gwC, Nat.reduceEqDiff, ↓reduceIte, Nat.reduceAdd, Nat.reduceLT, Nat.reduceLeDiff, Nat.reduceMul, lt_no]
    refine (c_Read s _).use (wkL_refl _) fun _ => ?_
    cases hr : readR s with
    | inl f =>
      have hb := read_bad hr
      simp only [readV, fltV, lstD]
      simp only [gwL, gwB, gwD, gwE, gwS, gwTT, gwZ, gwN, gwC, Nat.reduceEqDiff, ↓reduceIte, Nat.reduceAdd, Nat.reduceLT, Nat.reduceLeDiff, Nat.reduceMul, hb, decide_false, Bool.not_false, Bool.not_true]
      exact gives_bool' rfl hst
    | inr a =>
      have h6 := (read_ok.1 hr).1
      simp only [readV, fltV]
      simp only [gwL, gwB, gwD, gwE, gwS, gwTT, gwZ, gwN, gwC, Nat.reduceEqDiff, ↓reduceIte, Nat.reduceAdd, Nat.reduceLT, Nat.reduceLeDiff, Nat.reduceMul, decide_true, Bool.not_true, Bool.not_false, wrap_i64 (show -9223372036854775808 ≤ 2 * (note.length : Int) by omega) (show 2 * (note.length : Int) ≤ 9223372036854775807 by omega), wrap_i64 (show -9223372036854775808 ≤ (s.length : Int) + 2 * (note.length : Int) by omega) (show (s.length : Int) + 2 * (note.length : Int) ≤ 9223372036854775807 by omega), wrap_i64 (show -9223372036854775808 ≤ (s.length : Int) + 2 * (note.length : Int) + 6 by omega) (show (s.length : Int) + 2 * (note.length : Int) + 6 ≤ 9223372036854775807 by omega)]
      refine iK_split (fun h => ?_) (fun h => ?_)
      · simp only [gwL, gwB, gwD, gwE, gwS, gwTT, gwZ, gwN, gwC, Nat.reduceEqDiff, ↓reduceIte, Nat.reduceAdd, Nat.reduceLT, Nat.reduceLeDiff, Nat.reduceMul]
        exact gives_bool' rfl hst
      · have hl : s.length + 2 * note.length + 6 ≤ 6000 := by rw [decide_eq_false_iff_not] at h; omega
        simp only [gwL, gwB, gwD, gwE, gwS, gwTT, gwZ, gwN, gwC, Nat.reduceEqDiff, ↓reduceIte, Nat.reduceAdd, Nat.reduceLT, Nat.reduceLeDiff, Nat.reduceMul, List.length_append, List.length_cons, List.length_nil]
        refine ⟨by omega, by omega, by omega, by omega, by omega, (c_Read _ _).use (wkL_refl _) fun _ => ?_⟩
        have hb := blanks hr hx hl
        simp only [List.cons_append, List.nil_append] at hb
        rw [hb]
        simp only [readV, fltV]
        simp only [gwL, gwB, gwD, gwE, gwS, gwTT, gwZ, gwN, gwC, Nat.reduceEqDiff, ↓reduceIte, Nat.reduceAdd, Nat.reduceLT, Nat.reduceLeDiff, Nat.reduceMul, decide_true, Bool.not_true]
        refine rK_guarded (.bool (eqDs a a)) (fun _ => c_Same a a _) ?_
        rw [eqDs_same]
        simp only [gwL, gwB, gwD, gwE, gwS, gwTT, gwZ, gwN, gwC, Nat.reduceEqDiff, ↓reduceIte, Nat.reduceAdd, Nat.reduceLT, Nat.reduceLeDiff, Nat.reduceMul]
        exact gives_bool' rfl hst
  · have hg : (byteRows note).getD i [] = [V.int .u8 a.toNat] := getD_map hget
    simp only [gwL, gwB, gwD, gwE, gwS, gwTT, gwZ, gwN, gwC, Nat.reduceEqDiff, ↓reduceIte, Nat.reduceAdd, Nat.reduceLT, Nat.reduceLeDiff, Nat.reduceMul, lt_yes hlt, hdr, hll, hg, Int.ofNat_lt.mpr hlt]
    refine iK_split (fun h => ?_) (fun h => ?_)
    · simp only [gwL, gwB, gwD, gwE, gwS, gwTT, gwZ, gwN, gwC, Nat.reduceEqDiff, ↓reduceIte, Nat.reduceAdd, Nat.reduceLT, Nat.reduceLeDiff, Nat.reduceMul]
      exact gives_bool rfl hst
    · simp only [gwL, gwB, gwD, gwE, gwS, gwTT, gwZ, gwN, gwC, Nat.reduceEqDiff, ↓reduceIte, Nat.reduceAdd, Nat.reduceLT, Nat.reduceLeDiff, Nat.reduceMul]
      have ha10 : a ≠ 10 := by rintro rfl; simp at h
      refine ⟨i + 1, ⟨?_, _, [], (List.append_nil _).symm, wkSt_refl _, ?_, hst, Nat.le_refl _⟩, by omega, hlt, ?_⟩
      · simp only [gwL, gwB, gwD, gwE, gwS, gwTT, gwZ, gwN, gwC, Nat.reduceEqDiff, ↓reduceIte, Nat.reduceAdd, Nat.reduceLT, Nat.reduceLeDiff, Nat.reduceMul, Env.keep, next_i64 hlt (by omega)]
        exact wkE_refl _
      · simp only [ltE, V.lt]
        have : ∀ l : Str, ltRows st.length (byteRows l) := fun l => by
          induction l with
          | nil => trivial
          | cons a l ih => exact ⟨⟨trivial, trivial⟩, ih⟩
        exact ⟨trivial, trivial, trivial, ⟨fun e h => (by cases h), this _⟩, trivial, trivial, trivial⟩
      · rw [take_next hget]
        simp only [List.mem_append, List.mem_singleton, not_or]
        exact ⟨hx, fun e => ha10 e.symm⟩
end Go.Proofs.YtbnkfcjmcjiahaaDoor.Gx

namespace Go.Proofs.YtbnkfcjmcjiahaaDoor.Gx
open Go Go.Proofs.YtbnkfcjmcjiahaaDoor.Gw
set_option linter.unusedSimpArgs false
set_option linter.unusedVariables false
def encI1 (n : Int) : List V := [.int .i64 n]
def encS1 (s : Str) : List V := [.str s]

theorem len_succ {α : Type} {cs : List α} {n : Nat} (h : cs.length = n + 1) : ∃ c r, cs = c :: r ∧ r.length = n := by
  cases cs with
  | nil => simp at h
  | cons c r => exact ⟨c, r, rfl, by simpa using h⟩
open Go.ChangeShapes Go.WideShapes Go.ChangeAt Go.RowKit
theorem own : ownKnob Tryd.prog.godebug = none := by kernel_rfl
theorem laidOut : laidOutB Tryd.prog = true := by kernel_rfl
theorem below_of {W W' : World} {g' : G} (h : Ext g00 W g' W') : Below W.heap.size W W' := ⟨h.os, h.tape, h.output, h.size, fun k hk => (h.free k hk rfl).1⟩
theorem bulk_one {H : Type} (d : DataW H) : 1 ≤ Rows.uptoBulk d := by
  cases d with
  | lit l => cases l <;> simp [Rows.uptoBulk]
  | nil => simp [Rows.uptoBulk]
  | ptr d => simp [Rows.uptoBulk]
  | slice elems spare => simp [Rows.uptoBulk]
  | agg parts => simp [Rows.uptoBulk]
  | iface t d => simp [Rows.uptoBulk]
  | map entries => simp [Rows.uptoBulk]
  | held h => simp [Rows.uptoBulk]
theorem bulk_len {H : Type} : ∀ l : List (DataW H), l.length ≤ Rows.uptoBulkAll l
  | [] => by simp [Rows.uptoBulkAll]
  | x :: r => by have := bulk_one x; have := bulk_len r; simp only [Rows.uptoBulkAll, List.length_cons]; omega
/-- A slice that is read has no more elements than its bulk. -/
theorem bulk_slice {H : Type} {enc : TypeId × Value → H} {P : Program} {W : World} {spare : Nat → Bool} {held : Bool} {n : Nat} {t e : TypeId} {v : Value} {r : DataW H × List MemPlace} (ht : P.underlying t = some (.slice e)) {sz : Nat} {tp : Option Nat} {rows : List (List V)}
    (h : DataW.trod enc P W 0 spare held n t [v] = some r) (hs : SimV g00 W (.lst sz tp rows) v) : rows.length ≤ Rows.uptoBulk r.1 := by
  simp only [SimV] at hs
  obtain ⟨a, cap, rfl, -⟩ := hs
  cases n with
  | zero => simp [DataW.trod] at h
  | succ n =>
    unfold DataW.trod at h
    rw [ht] at h
    split at h <;> first | (cases h; done) | skip
    all_goals rename_i e'; first | (injection e' with e'; cases e'; done) | skip
    · simp only [List.cons.injEq, Value.slice.injEq, and_true] at e'
      obtain ⟨_, e', _⟩ := e'
      omega
    · simp only [List.cons.injEq, Value.slice.injEq, and_true] at e'
      obtain ⟨_, e', _⟩ := e'
      simp only at h
      split at h
      case isFalse => cases h
      rw [e']
      generalize hm : List.mapM (m := Option) _ _ = o at h
      cases o with
      | none => simp at h
      | some ys =>
        obtain ⟨hl, -⟩ := mapM_some hm
        simp only [Option.bind_some, Option.map_eq_some_iff] at h
        obtain ⟨zs, -, rfl⟩ := h
        have := bulk_len (ys.map (·.1))
        rw [List.length_map, hl, List.length_range] at this
        simp only [Rows.uptoBulk]
        omega
/-- A string that is read is no longer than its bulk. -/
theorem bulk_str {H : Type} {enc : TypeId × Value → H} {P : Program} {W : World} {spare : Nat → Bool} {held : Bool} {n : Nat} {t : TypeId} {s : List UInt8} {r : DataW H × List MemPlace} (ht : P.underlying t = some .string)
    (h : DataW.trod enc P W 0 spare held n t [.string ⟨s.toArray⟩] = some r) : s.length ≤ Rows.uptoBulk r.1 := by
  cases n with
  | zero => simp [DataW.trod] at h
  | succ n =>
    unfold DataW.trod at h
    rw [ht] at h
    split at h <;> first | (cases h; done) | skip
    all_goals rename_i e'; first | (injection e' with e'; cases e'; done) | skip
    · simp only [List.cons.injEq, Value.string.injEq, and_true] at e'
      subst e'
      split at h
      · simp only [Option.some.injEq] at h
        subst h
        simp [Rows.uptoBulk, ByteArray.size]
      · cases h
    · exact ((‹∀ s_1 : ByteArray, some TypeDesc.string = some TypeDesc.string → [Value.string ⟨s.toArray⟩] = [Value.string s_1] → False›) _ rfl rfl).elim
theorem okWide_slice {P : Program} {W : World} {r : Reach} {b : Nat} {t e : TypeId} {v : Value} (ht : P.underlying t = some (.slice e)) (h : Value.okWide P W r b t v) : v.cells.toList = [v] := by
  unfold Value.okWide at h
  rw [ht] at h
  simp only [Cell.okWide, ht] at h
  cases v <;> first | rfl | (simp [Cell.ok, ht] at h)
theorem okWide_str {P : Program} {W : World} {r : Reach} {b : Nat} {t : TypeId} {v : Value} (ht : P.underlying t = some .string) (h : Value.okWide P W r b t v) : v.cells.toList = [v] := by
  unfold Value.okWide at h
  rw [ht] at h
  simp only [Cell.okWide, ht] at h
  cases v <;> first | rfl | (simp [Cell.ok, ht] at h)
theorem okWide_int {P : Program} {W : World} {r : Reach} {b : Nat} {t : TypeId} {k : IntKind} {v : Value} (ht : P.underlying t = some (.int k)) (h : Value.okWide P W r b t v) : v.cells.toList = [v] := by
  unfold Value.okWide at h
  rw [ht] at h
  simp only [Cell.okWide, ht] at h
  cases v <;> first | rfl | (simp [Cell.ok, ht] at h)
theorem dec_int1 {H : Type} {enc : TypeId × Value → H} {P : Program} {W : World} {spare : Nat → Bool} {held : Bool} {t : TypeId} (ht : P.underlying t = some (.int .i64)) {n : Nat} {cs : List Value} {r : DataW H × List MemPlace} (h : DataW.trod enc P W 0 spare held n t cs = some r) : ∃ x : Int, SimVs g00 W (encI1 x) cs ∧ ∀ u ∈ cs, u.oneCell' = true := by
  obtain ⟨m, rfl⟩ := dec_int ht h
  exact ⟨m, ⟨_, _, rfl, rfl, rfl⟩, by simp [Value.oneCell']⟩
theorem dec_str1 {H : Type} {enc : TypeId × Value → H} {P : Program} {W : World} {spare : Nat → Bool} {held : Bool} {t : TypeId} (ht : P.underlying t = some .string) {n : Nat} {cs : List Value} {r : DataW H × List MemPlace} (h : DataW.trod enc P W 0 spare held n t cs = some r) : ∃ x : Str, SimVs g00 W (encS1 x) cs ∧ ∀ u ∈ cs, u.oneCell' = true := by
  obtain ⟨m, rfl, hm⟩ := dec_str ht h
  exact ⟨m, ⟨_, _, rfl, ⟨rfl, hm⟩, rfl⟩, by simp [Value.oneCell']⟩
end Go.Proofs.YtbnkfcjmcjiahaaDoor.Gx

namespace Go.Proofs.YtbnkfcjmcjiahaaDoor.Gx
open Go Go.Proofs.YtbnkfcjmcjiahaaDoor.Gw
set_option linter.unusedSimpArgs false
set_option linter.unusedVariables false

end Go.Proofs.YtbnkfcjmcjiahaaDoor.Gx

namespace Go.Proofs.YtbnkfcjmcjiahaaDoor.Gx
open Go Go.Proofs.YtbnkfcjmcjiahaaDoor.Gw
set_option linter.unusedSimpArgs false
set_option linter.unusedVariables false
open Go.ChangeShapes Go.WideShapes Go.ChangeAt Go.RowKit
noncomputable def low0 : Nat := (World.holding Tryd.prog default ⟨#[], #[], []⟩).heap.size
/-- A world that meets what is laid. -/
noncomputable def laidWorld (os : Os) : World :=
  { World.holding Tryd.prog os ⟨#[.cells #[.string ⟨#[105, 110, 118, 97, 108, 105, 100, 32, 115, 121, 110, 116, 97, 120]⟩] 117, .cells #[.string ⟨#[118, 97, 108, 117, 101, 32, 111, 117, 116, 32, 111, 102, 32, 114, 97, 110, 103, 101]⟩] 117], #[], []⟩ with heap := ((((((World.holding Tryd.prog os ⟨#[.cells #[.string ⟨#[105, 110, 118, 97, 108, 105, 100, 32, 115, 121, 110, 116, 97, 120]⟩] 117, .cells #[.string ⟨#[118, 97, 108, 117, 101, 32, 111, 117, 116, 32, 111, 102, 32, 114, 97, 110, 103, 101]⟩] 117], #[], []⟩).heap.modify 2 (fun | .cells _ t frozen => .cells #[.iface 115 (.pointer (some ⟨low0 + 0, 0, none⟩))] t frozen | o => o)).modify 3 (fun | .cells _ t frozen => .cells #[.iface 115 (.pointer (some ⟨low0 + 1, 0, none⟩))] t frozen | o => o)).modify 0 (fun | .cells _ t frozen => .cells #[.int .u64 1, .int .u64 10, .int .u64 100, .int .u64 1000, .int .u64 10000, .int .u64 100000, .int .u64 1000000, .int .u64 10000000, .int .u64 100000000, .int .u64 1000000000, .int .u64 10000000000, .int .u64 100000000000, .int .u64 1000000000000, .int .u64 10000000000000, .int .u64 100000000000000, .int .u64 1000000000000000, .int .u64 10000000000000000, .int .u64 100000000000000000, .int .u64 1000000000000000000, .int .u64 10000000000000000000] t frozen | o => o)).modify 4 (fun | .cells _ t frozen => .cells #[.int .u8 0, .int .u8 1, .int .u8 28, .int .u8 2, .int .u8 29, .int .u8 14, .int .u8 24, .int .u8 3, .int .u8 30, .int .u8 22, .int .u8 20, .int .u8 15, .int .u8 25, .int .u8 17, .int .u8 4, .int .u8 8, .int .u8 31, .int .u8 27, .int .u8 13, .int .u8 23, .int .u8 21, .int .u8 19, .int .u8 16, .int .u8 7, .int .u8 26, .int .u8 12, .int .u8 18, .int .u8 6, .int .u8 11, .int .u8 5, .int .u8 10, .int .u8 9] t frozen | o => o)).modify 5 (fun | .cells _ t frozen => .cells #[.int .u8 0, .int .u8 1, .int .u8 56, .int .u8 2, .int .u8 57, .int .u8 49, .int .u8 28, .int .u8 3, .int .u8 61, .int .u8 58, .int .u8 42, .int .u8 50, .int .u8 38, .int .u8 29, .int .u8 17, .int .u8 4, .int .u8 62, .int .u8 47, .int .u8 59, .int .u8 36, .int .u8 45, .int .u8 43, .int .u8 51, .int .u8 22, .int .u8 53, .int .u8 39, .int .u8 33, .int .u8 30, .int .u8 24, .int .u8 18, .int .u8 12, .int .u8 5, .int .u8 63, .int .u8 55, .int .u8 48, .int .u8 27, .int .u8 60, .int .u8 41, .int .u8 37, .int .u8 16, .int .u8 46, .int .u8 35, .int .u8 44, .int .u8 21, .int .u8 52, .int .u8 32, .int .u8 23, .int .u8 11, .int .u8 54, .int .u8 26, .int .u8 40, .int .u8 15, .int .u8 34, .int .u8 20, .int .u8 31, .int .u8 10, .int .u8 25, .int .u8 14, .int .u8 19, .int .u8 9, .int .u8 13, .int .u8 8, .int .u8 7, .int .u8 6] t frozen | o => o)) }
theorem laid_met (os : Os) : laidMet Tryd.prog Rows.textBlankUptoRow.laid ((laidWorld os).forCall (fun _ _ => 0) ⟨#[], #[.string ByteArray.empty, .string ByteArray.empty], []⟩).memory :=
  laidMet_of_run' 8 (by kernel_rfl) (by kernel_rfl)
theorem reads (os : Os) {H : Type} (enc : TypeId × Value → H) : ∃ places, DataW.whole enc Tryd.prog ((laidWorld os).forCall (fun _ _ => 0) ⟨#[], #[.string ByteArray.empty, .string ByteArray.empty], []⟩).memory Tryd.f7.params.toList Rows.textBlankSpec.vars false #[.string ByteArray.empty, .string ByteArray.empty].toList 8 = some ([.lit (.string []), .lit (.string [])], [], places) :=
  ⟨[], by kernel_rfl⟩
theorem amb_of_laid {W : World} (hL : laidMet Tryd.prog Rows.textBlankUptoRow.laid W) : Amb g00 W := by
  intro p hp
  obtain rfl : p = (0, (Go.Lib.pow10Tab.map fun z => Value.int .u64 z).toArray) := List.mem_singleton.1 hp
  have h : laidMet Tryd.prog (("internal/strconv.uint64pow10", Go.Lib.tabData .u64 Go.Lib.pow10Tab) :: [("strconv.ErrRange", Rows.laid_strconv_ErrRange), ("strconv.ErrSyntax", Rows.laid_strconv_ErrSyntax)]) W := hL.tail.tail
  have ht := Go.Lib.tabIs_of_head (g := 0) (t := 95) (e := 87) (n := 20) (by kernel_rfl) (by kernel_rfl) (by kernel_rfl) (by kernel_rfl) (by kernel_rfl) (by kernel_rfl) h
  refine ⟨rfl, ?_⟩
  unfold Go.Lib.TabIs World.var? at ht
  rw [show Tryd.prog.globalNamed "internal/strconv.uint64pow10" = some 0 by kernel_rfl, Option.bind_some] at ht
  split at ht
  · rename_i cs t x hx
    simp only [Option.some.injEq] at ht
    subst ht
    exact ⟨t, x, hx⟩
  · cases ht
set_option maxRecDepth 100000 in
theorem contract (H : Type) (enc : TypeId × Value → H) (W : World) (base : Nat) (args : Array Value) (ds gs : List (DataW H)) (before : List MemPlace) (hL : laidMet Tryd.prog Rows.textBlankUptoRow.laid W) (hk : Rows.uptoSmall H (ds ++ gs) = true)
    (hval : ∀ (j : Nat) t v, Tryd.f7.params[j]? = some t → args[j]? = some v → Value.okWide Tryd.prog W .any base t v)
    (hW : DataW.Whole enc Tryd.prog Tryd.f7.params.toList Rows.textBlankSpec.vars false W args.toList ds gs before) :
    Calls Tryd.prog 7 args W fun e W' => ∃ v, e = .returned v ∧ Rows.textBlankSpec.post enc Tryd.prog Tryd.f7 false true false false W args v W' := by
  have hamb := amb_of_laid hL
  have hW' := hW
  obtain ⟨p, q, hA0, hV, rfl, hfz, hnd⟩ := hW
  have hA : DataW.TrodAll enc Tryd.prog W 0 (fun _ => true) true Tryd.f7.params.toList args.toList ds p := hA0
  rw [Tryd.params7] at hA hval
  obtain ⟨v0, vs0, d0, ds0, p0, q0, hargs0, rfl, rfl, h0, r0⟩ := trodAll_cons hA
  obtain ⟨v1, vs1, d1, ds1, p1, q1, hargs1, rfl, rfl, h1, r1⟩ := trodAll_cons r0
  obtain ⟨rfl, rfl, rfl⟩ := trodAll_nil r1
  obtain rfl : args = #[v0, v1] := by cases args; simp_all
  obtain ⟨rfl, rfl⟩ := trodVars_none hV
  have w0 := hval 0 9 v0 rfl rfl
  have w1 := hval 1 9 v1 rfl rfl
  have k0 := h0
  have lt0 : ∀ x ∈ p0, x.block < W.heap.size := by obtain ⟨m, hm⟩ := k0; exact DataW.trod_lt m _ _ _ hm
  obtain ⟨m0, hm0⟩ := h0
  rw [okWide_str Tryd.underlying9 w0] at hm0
  obtain ⟨s, e0, s0⟩ := dec_str Tryd.underlying9 hm0
  simp only [List.cons.injEq, and_true] at e0
  subst e0
  have b0 : s.length ≤ Rows.uptoBulk d0 := bulk_str Tryd.underlying9 hm0
  have k1 := h1
  have lt1 : ∀ x ∈ p1, x.block < W.heap.size := by obtain ⟨m, hm⟩ := k1; exact DataW.trod_lt m _ _ _ hm
  obtain ⟨m1, hm1⟩ := h1
  rw [okWide_str Tryd.underlying9 w1] at hm1
  obtain ⟨note, e1, s1⟩ := dec_str Tryd.underlying9 hm1
  simp only [List.cons.injEq, and_true] at e1
  subst e1
  have b1 : note.length ≤ Rows.uptoBulk d1 := bulk_str Tryd.underlying9 hm1
  have hk2 : Rows.uptoBulkAll ([d0, d1] ++ []) ≤ 1048576 := of_decide_eq_true hk
  simp only [List.append_nil, Rows.uptoBulkAll] at hk2
  refine ((c_TextBlank s note [] (by omega) (by omega)).2 g00 W [_, _] (sim00 _ W) ⟨_, _, rfl, ⟨rfl, s0⟩, ⟨_, _, rfl, ⟨rfl, s1⟩, rfl⟩⟩).mono fun e W' ⟨r, st', g', ⟨h1, h2⟩, hend, _, hext⟩ => ?_
  subst h1
  obtain ⟨val, rfl, hb⟩ := hend
  simp only [SimV] at hb
  subst hb
  have bel := below_of hext
  exact ⟨_, rfl, _, _, _, [], _, [], hW', trodAll_mk1 (shut_bool Tryd.underlying4 _), (trodAll_cons_mk (Below.trod laidOut (by kernel_rfl) (of_decide_eq_true (by kernel_rfl)) k0 bel lt0) (trodAll_cons_mk (Below.trod laidOut (by kernel_rfl) (of_decide_eq_true (by kernel_rfl)) k1 bel lt1) trodAll_mk0)), rfl, bel.frame _, fun h => by cases h⟩
set_option maxRecDepth 100000 in
theorem lifted (os : Os) (started : os.Started) (H : Type) (enc : TypeId × Value → H) (F : Stop.Interp) :
    ReturnsInHanded {} Tryd.checked os 7 .any ((Rows.OpenSpec.upto Rows.textBlankSpec).preRow enc Tryd.prog Tryd.f7 Rows.textBlankUptoRow.domain false Rows.textBlankUptoRow.laid) (((Rows.OpenSpec.upto Rows.textBlankSpec).at F).post enc Tryd.prog Tryd.f7 false true false false) := by
  obtain ⟨places, hx⟩ := reads os enc
  refine returnsInHanded_of_row (C := Tryd.checked) (s := Rows.OpenSpec.upto Rows.textBlankSpec) own started (by kernel_rfl) Tryd.func7
    (witness_row_at (enc := enc) (C := Tryd.checked) false (laidWorld os) #[.string ByteArray.empty, .string ByteArray.empty] rfl (by kernel_rfl) (by kernel_rfl) (by kernel_rfl)
      (OpenSpec.preRow_of_cond 8 hx (by kernel_rfl) (fun k hk => by cases hk; kernel_rfl) (by kernel_rfl) (laid_met os))) ?_
  intro W base args ds gs before hval hW _ hk _ hL _ _
  exact contract H enc W base args ds gs before hL (hk _ rfl) hval hW
theorem said : Rows.TextBlankUptoSaid :=
  OpenClaim.holds_of_cond 7 Tryd.f7 rfl rfl rfl rfl rfl rfl rfl ⟨rfl, rfl, rfl, rfl, rfl⟩ rfl rfl rfl rfl rfl (by kernel_rfl) Tryd.func7 (by kernel_rfl)
    (of_decide_eq_true (by kernel_rfl)) (by unfold Func.isWrapper; first | (rw [if_pos (by decide +kernel)]; kernel_rfl) | (rw [if_neg (by decide +kernel)]; exact ⟨rfl, rfl⟩))
    (fun os started H enc _ F => by rw [OpenClaim.pre_eq_preRow]; exact lifted os started H enc F)
theorem plain (f : FuncId) (fn : Func) (hf : Tryd.pinned.checked.prog.funcNamed "graftwood/graftlaw1.TextBlank" = some f) (hfn : Tryd.pinned.checked.prog.funcs[f]? = some fn) :
    true = Tryd.pinned.checked.prog.looks [] ∧ ∀ (j : Nat) t, fn.params[j]? = some t → Tryd.pinned.checked.prog.wantsStandIn t = false := by
  obtain rfl : f = 7 := Option.some.inj ((show Tryd.prog.funcNamed "graftwood/graftlaw1.TextBlank" = some 7 by kernel_rfl).symm.trans hf) |>.symm
  obtain rfl : fn = Tryd.f7 := (Option.some.inj (Tryd.func7.symm.trans hfn)).symm
  refine ⟨by kernel_rfl, fun j t ht => ?_⟩
  rw [Tryd.params7] at ht
  obtain rfl : t = 9 := by simpa using Array.mem_of_getElem? ht
  exact (show Tryd.prog.wantsStandIn 9 = false by kernel_rfl)
end Go.Proofs.YtbnkfcjmcjiahaaDoor.Gx
namespace Go.Proofs.YtbnkfcjmcjiahaaDoor
theorem textBlankUptoCard_holds : Rows.TextBlankUptoCardSaid :=
  Claim7.holds_tied_plain_at .later [] _ _ _ _ Gx.said (fun _ h => by cases h) (by kernel_rfl) (fun _ h => by cases h) textBlankUpto_row_tie rfl ⟨rfl, rfl⟩ (by kernel_rfl) rfl Gx.plain (by kernel_rfl)
#print axioms textBlankUptoCard_holds
end Go.Proofs.YtbnkfcjmcjiahaaDoor
