/- When libraries are the same, walked where they are. Laws of libraries: LibParses, walked. What a row needs: how what comes in is read. How what comes in for LibParses is read. The row of the law LibParses, whatever comes in: it answers true, and what came in reads as it did. -/
import Derived.Test.YtpllcpbhjglpaaaGreatDoorZV12
import Derived.WalkKit
import Derived.ProofKit
import Derived.OpenShut
import Derived.ShutString
import Derived.ChangeOld
import Derived.Below
import Derived.SizedLaws
import Derived.Carry
import Derived.JoinedCond
import Derived.Test.YtpllcpbhjglpaaaGreatDoorRows
import Derived.Test.YtpllcpbhjglpaaaGreatDoorCards
import Derived.Test.YtpllcpbhjglpaaaGreatDoorTie
import Derived.Deep.DeepHandedRow
import Derived.Lib.LaidTab
import Derived.Stop.LaidErr
namespace Go.Proofs.YtpllcpbhjglpaaaGreatDoor.Gx
open Go Go.Proofs.YtpllcpbhjglpaaaGreatDoor.Gw
open Nat renaming reduceEqDiff → qqE, reduceAdd → qqA, reduceLT → qqL, reduceLeDiff → qqD, reduceMul → qqM
set_option linter.unusedSimpArgs false
set_option linter.unusedVariables false
mutual
theorem eqD_self : ∀ d : Datum, eqD d d = true
 | .mk k n nm s l kids => by
  simp only [eqD, decide_true, cond_true, Bool.and_self, eqDs_self kids]
  cases decide (k = 1) <;> cases decide (k = 2) <;> cases decide (k = 3) <;> cases decide (k = 4) <;> rfl
theorem eqDs_self : ∀ l : List Datum, eqDs l l = true
 | [] => by simp only [eqDs]
 | a :: r => by simp only [eqDs, eqD_self a, eqDs_self r, Bool.and_self]
end
theorem fit_rows {α : Type} {f : α → List V} {l : List α} {a : α} (h : fitR (l.map f)) (ha : a ∈ l) : fitL (f a) := by
 induction l with
 | nil => simp at ha
 | cons x l ih =>
  rcases List.mem_cons.1 ha with rfl | ha
  ·exact h.1
  ·exact ih h.2 ha
def kidsOf : Set' → List Set'
 | .mk _ _ _ _ _ kids => kids
theorem encSet_drop (s : Set') : (encSet s).drop 6 = [] := List.drop_of_length_le (by rw [encSet_len]; exact Nat.le_refl _)
/-- Pairs that are the same. -/
theorem c_ref2Same (l : Prs) (st : St) : VCalls Tryz.prog TT 27 [.lst 2 none (rows2 l), .lst 2 none (rows2 l)] st fun r st' => r = .ret (.bool true) ∧ st' = st := by
 refine vfun TT_ok (an := anL []) (L := [0, 1, 4, 5, 12, 13]) (rs := [.tmp 4]) Tryz.func27 rfl (by kernel_rfl) rfl Tryz.ntmps27 rfl rfl (Nat.le_refl _) fun hst ha hf => ?_
 simp only [rows2, fitL, V.fit, List.length_map] at hf ⊢
 have hkl : l.length ≤ 9223372036854775807 := by simp at hf; omega
 simp only [gw0, qqE, ↓reduceIte, qqA, qqL, qqD, qqM, List.length_map]
 refine vfor (σ := Nat) [0, 1, 4, 12, 13] (fun i => [(0, true, .lst 2 none (rows2 l)), (1, true, .lst 2 none (rows2 l)), (4, true, .bool false), (12, true, .int .i64 l.length), (13, true, .int .i64 i)]) (fun i => st) (fun i => l.length - i) (fun i => i ≤ l.length ∧ (0 : Nat) = 0) 0 rfl TT_ok ⟨Nat.zero_le _, rfl⟩ rfl rfl ?_
 rintro i ⟨hi, _⟩
 simp only [rows2]
 rcases at_or_end l i hi with ⟨rfl, hd⟩ | ⟨a, hlt, hget, hdr⟩
 ·simp only [gw0, qqE, ↓reduceIte, qqA, qqL, qqD, qqM, lt_no]
  exact gives_bool rfl hst
 ·simp only [gw0, qqE, ↓reduceIte, qqA, qqL, qqD, qqM, lt_yes hlt, List.length_map, Int.ofNat_lt.mpr hlt]
  refine vdraw TT_ok TT_mixed [0, 0, 0, 1, 0, 0, 0, 1, 0] (by kernel_rfl) ?_
  simp only [gw0, qqE, ↓reduceIte, qqA, qqL, qqD, qqM, List.length_map, getD_map hget, Int.ofNat_lt.mpr hlt, encF2]
  exact ⟨i + 1, by rw [next_i64 hlt hkl]; rfl, by omega, hlt⟩
/-- Strings that are the same, in a row. -/
theorem c_SameSets_of (l : List Set') (ih : ∀ d ∈ l, ∀ st : St, VCalls Tryz.prog TT 28 [.lst 6 none ((kidsOf d).map encSet), .lst 6 none ((kidsOf d).map encSet)] st fun r st' => r = .ret (.bool true) ∧ st' = st) (st : St) :
  VCalls Tryz.prog TT 28 [.lst 6 none (l.map encSet), .lst 6 none (l.map encSet)] st fun r st' => r = .ret (.bool true) ∧ st' = st := by
 refine vfun TT_ok (an := anL []) (L := [0, 1, 4, 5, 6, 7, 8, 15, 16, 74, 75]) (rs := [.tmp 4]) Tryz.func28 rfl (by kernel_rfl) rfl Tryz.ntmps28 rfl rfl (Nat.le_refl _) fun hst ha hf => ?_
 simp only [fitL, V.fit, List.length_map] at hf ⊢
 obtain ⟨⟨hkl, hfl⟩, _⟩ := hf
 simp only [gw0, qqE, ↓reduceIte, qqA, qqL, qqD, qqM, List.length_map]
 refine vfor (σ := Nat × St) [0, 1, 4, 15, 16] (fun x => [(0, true, .lst 6 none (l.map encSet)), (1, true, .lst 6 none (l.map encSet)), (4, true, .bool false), (15, true, .int .i64 l.length), (16, true, .int .i64 x.1)]) (fun x => st ++ x.2) (fun x => l.length - x.1) (fun x => x.1 ≤ l.length ∧ (0 : Nat) = 0) (0, []) rfl TT_ok ⟨Nat.zero_le _, rfl⟩ rfl (List.append_nil st).symm ?_
 rintro ⟨i, ex⟩ ⟨hi, _⟩
 simp only at hi ⊢
 rcases at_or_end l i hi with ⟨rfl, hd⟩ | ⟨a, hlt, hget, hdr⟩
 ·simp only [gw0, qqE, ↓reduceIte, qqA, qqL, qqD, qqM, lt_no]
  exact gives_bool' rfl hst
 ·have ih := ih a (List.mem_of_getElem? hget)
  simp only [gw0, qqE, ↓reduceIte, qqA, qqL, qqD, qqM, lt_yes hlt, List.length_map, Int.ofNat_lt.mpr hlt]
  refine vdraw2 TT_ok TT_mixed (σ := Nat × Nat × St) [0, 0, 0, 0, 0, 0, 0, 0, 2, 2, 2, 2] [0, 1, 2, 3, 4, 5, 6, 7, 9, 8, 10, 11] 8 9 [0, 1, 4, 5, 6, 7, 15, 16] (fun x => [(0, true, .lst 6 none (l.map encSet)), (1, true, .lst 6 none (l.map encSet)), (4, true, .bool false), (5, true, .int .i64 i), (6, true, .ptr x.1 0), (7, true, .ptr x.2.1 0), (15, true, .int .i64 l.length), (16, true, .int .i64 i)]) (fun x => st ++ x.2.2) (fun x => (st ++ x.2.2)[x.1]? = some (.box (encSet a)) ∧ (st ++ x.2.2)[x.2.1]? = some (.box (encSet a))) rfl (by kernel_rfl) ?_ ?_ ?_
  ·simp only [gw0, qqE, ↓reduceIte, qqA, qqL, qqD, qqM, List.length_map, getD_map hget, Int.ofNat_lt.mpr hlt, encSet_take, encSet_len, encSet_drop]
   exact ⟨rfl, rfl, (st.length + ex.length, st.length + (ex.length + 1), ex ++ [Ent.box (encSet a), Ent.box (encSet a)]), rfl, rfl, by simp [List.getElem?_append_right], by simp [List.getElem?_append_right]⟩
  ·simp only [bz16, pickO, pickC, List.map_cons, List.map_nil]
   simp only [gw0, qqE, ↓reduceIte, qqA, qqL, qqD, qqM, List.length_map, getD_map hget, Int.ofNat_lt.mpr hlt, encSet_take, encSet_len, encSet_drop]
   exact ⟨rfl, rfl, (st.length + (ex.length + 1), st.length + ex.length, ex ++ [Ent.box (encSet a), Ent.box (encSet a)]), rfl, rfl, by simp [List.getElem?_append_right], by simp [List.getElem?_append_right]⟩
  ·rintro ⟨n1, n2, ex3⟩ ⟨h1, h2⟩
   simp only at h1 h2 ⊢
   have hfa := fit_rows hfl (List.mem_of_getElem? hget)
   obtain ⟨k, nm, ns, az, pre, kids⟩ := a
   simp only [kidsOf] at ih
   simp only [encSet_mk, encS, fitL, V.fit, List.length_map] at h1 h2 hfa
   have hnl : ns.length ≤ 9223372036854775807 := hfa.2.2.1.1
   have hal : az.length ≤ 9223372036854775807 := hfa.2.2.2.1.1
   simp only [gw0, qqE, ↓reduceIte, qqA, qqL, qqD, qqM, h1, h2, encS, List.length_map]
   refine rK_guarded (.bool true) (fun _ => ih _) ?_
   simp only [gw0, qqE, ↓reduceIte, qqA, qqL, qqD, qqM, h1, h2, List.length_map]
   refine vfor (σ := Nat) [0, 1, 4, 5, 6, 7, 15, 16, 74, 75] (fun x => [(0, true, .lst 6 none (l.map encSet)), (1, true, .lst 6 none (l.map encSet)), (4, true, .bool false), (5, true, .int .i64 i), (6, true, .ptr n1 0), (7, true, .ptr n2 0), (15, true, .int .i64 l.length), (16, true, .int .i64 i), (74, true, .int .i64 ns.length), (75, true, .int .i64 x)]) (fun x => st ++ ex3) (fun x => ns.length - x) (fun x => x ≤ ns.length ∧ (0 : Nat) = 0) 0 rfl TT_ok ⟨Nat.zero_le _, rfl⟩ rfl rfl ?_
   rintro j ⟨hj, _⟩
   simp only at hj ⊢
   rcases at_or_end ns j hj with ⟨rfl, hd3⟩ | ⟨u, hltj, hgetj, hdrj⟩
   ·simp only [gw0, qqE, ↓reduceIte, qqA, qqL, qqD, qqM, lt_no]
    exact ⟨(i + 1, ex3), by simp only [next_i64 hlt hkl]; rfl, rfl, by simp only; omega, by simp only; omega⟩
   ·simp only [gw0, qqE, ↓reduceIte, qqA, qqL, qqD, qqM, lt_yes hltj, List.length_map, Int.ofNat_lt.mpr hltj]
    refine vdraw TT_ok TT_mixed [0, 1, 0, 0, 1, 0, 1, 0, 0, 1, 0, 0, 0, 1, 0, 0, 0, 0, 0, 1, 0, 0, 1, 0, 1, 0, 0, 1, 0, 0, 0] (by kernel_rfl) ?_
    by_cases hja : j < az.length
    ·obtain ⟨v, hv⟩ : ∃ v, az[j]? = some v := ⟨az[j], List.getElem?_eq_getElem hja⟩
     simp only [gw0, qqE, ↓reduceIte, qqA, qqL, qqD, qqM, h1, h2, List.length_map, getD_map hgetj, getD_map hv, Int.ofNat_lt.mpr hltj, Int.ofNat_lt.mpr hja]
     exact ⟨j + 1, by rw [next_i64 hltj hnl]; rfl, by omega, hltj⟩
    ·have hn : decide ((j : Int) < (az.length : Int)) = false := decide_eq_false (by omega)
     have hg : (az.map fun s => [V.str s]).getD j [] = [] := by
      rw [List.getD_eq_getElem?_getD, List.getElem?_eq_none (by rw [List.length_map]; omega)]; rfl
     simp only [gw0, qqE, ↓reduceIte, qqA, qqL, qqD, qqM, h1, h2, List.length_map, getD_map hgetj, Int.ofNat_lt.mpr hltj, hn, hg]
     exact ⟨j + 1, by rw [next_i64 hltj hnl]; rfl, by omega, hltj⟩
theorem c_SameSet (s : Set') : ∀ (st : St), VCalls Tryz.prog TT 28 [.lst 6 none ((kidsOf s).map encSet), .lst 6 none ((kidsOf s).map encSet)] st fun r st' => r = .ret (.bool true) ∧ st' = st :=
 Set'.ind (p := fun d => ∀ st : St, VCalls Tryz.prog TT 28 [.lst 6 none ((kidsOf d).map encSet), .lst 6 none ((kidsOf d).map encSet)] st fun r st' => r = .ret (.bool true) ∧ st' = st) (fun _ _ _ _ _ kids ih st => c_SameSets_of kids ih st) s
theorem c_SameSets (l : List Set') (st : St) : VCalls Tryz.prog TT 28 [.lst 6 none (l.map encSet), .lst 6 none (l.map encSet)] st fun r st' => r = .ret (.bool true) ∧ st' = st :=
 c_SameSets_of l (fun d _ st => c_SameSet d st) st
theorem c_ref3Same (o : Lib') (st : St) : VCalls Tryz.prog TT 8 [.agg (encLib o), .agg (encLib o)] st fun r st' => r = .ret (.bool true) ∧ st' = st := by
 refine vfun TT_ok (an := anL [(2, 1), (3, 1)]) (L := [0, 1, 2, 3, 4]) (rs := [.tmp 4]) Tryz.func8 rfl (by kernel_rfl) rfl Tryz.ntmps8 rfl rfl (Nat.le_refl _) fun hst ha hf => ?_
 simp only [encLib]
 simp only [gw0, qqE, ↓reduceIte, qqA, qqL, qqD, qqM]
 refine rK_guarded (.bool true) (fun _ => c_ref2Same o.exps _) ?_
 simp only [gw0, qqE, ↓reduceIte, qqA, qqL, qqD, qqM]
 refine rK_guarded (.bool true) (fun _ => c_SameSets o.imps _) ?_
 simp only [gw0, qqE, ↓reduceIte, qqA, qqL, qqD, qqM]
 refine rK_guarded (.bool (eqDs o.body o.body)) (fun _ => c_Same_of o.body (fun d _ => c_Equal d) o.body _) ?_
 simp only [gw0, qqE, ↓reduceIte, qqA, qqL, qqD, qqM, eqDs_self]
 exact gives_bool rfl hst
theorem c_LibParsesRow (files : List (Str × Str)) (features libs : List Str) (d : Datum) (st : St) : VCalls Tryz.prog TT 3 [.lst 2 none (files.map encF2), encS features, encS libs, .agg (encD d)] st fun r st' => r = .ret (.bool true) ∧ st' = st := by
 refine vfun TT_ok (an := anL [(7, 1)]) (L := [0, 1, 2, 3, 7, 8, 9, 10, 11, 12]) (rs := [.tmp 8]) Tryz.func3 rfl (by kernel_rfl) rfl Tryz.ntmps3 rfl rfl (Nat.le_refl _) fun hst ha hf => ?_
 simp only [bz12, gw2, qqE, ↓reduceIte, qqA, qqL, qqD, qqM, ite_self, encS]
 refine (c_libParse ⟨files, features, libs⟩ d _).use (wkL_refl _) fun _ => ?_
 simp only [libV]
 simp only [bz12, gw2, qqE, ↓reduceIte, qqA, qqL, qqD, qqM, ite_self, encLib_len, encLib_take, encLib_drop]
 refine (c_refParse3 ⟨files, features, libs⟩ d _).use (wkL_refl _) fun _ => ?_
 simp only [libV]
 simp only [bz12, gw2, qqE, ↓reduceIte, qqA, qqL, qqD, qqM, ite_self, encLib_len, encLib_take, encLib_drop]
 refine rK_made (c_ref3Same _ _) (wkL_refl _) ?_
 simp only [gw2, qqE, ↓reduceIte, qqA, qqL, qqD, qqM, ite_self]
 exact gives_bool' rfl hst
end Go.Proofs.YtpllcpbhjglpaaaGreatDoor.Gx
namespace Go.Proofs.YtpllcpbhjglpaaaGreatDoor.Gx
open Go Go.Proofs.YtpllcpbhjglpaaaGreatDoor.Gw
set_option linter.unusedSimpArgs false
set_option linter.unusedVariables false
def encS1 (s : Str) : List V := [.str s]
theorem len_succ {α : Type} {cs : List α} {n : Nat} (h : cs.length = n + 1) : ∃ c r, cs = c :: r ∧ r.length = n := by
 cases cs with
 | nil => simp at h
 | cons c r => exact ⟨c, r, rfl, by simpa using h⟩
open Go.ChangeShapes Go.WideShapes Go.ChangeAt Go.RowKit
theorem own : ownKnob Tryz.prog.godebug = none := by kernel_rfl
theorem laidOut : laidOutB Tryz.prog = true := by kernel_rfl
theorem below_of {W W' : World} {g' : G} (h : Ext g00 W g' W') : Below W.heap.size W W' := ⟨h.os, h.tape, h.output, h.size, fun k hk => (h.free k hk rfl).1⟩
theorem okWide_slice {P : Program} {W : World} {r : Reach} {b : Nat} {t e : TypeId} {v : Value} (ht : P.underlying t = some (.slice e)) (h : Value.okWide P W r b t v) : v.cells.toList = [v] := by
 unfold Value.okWide at h
 rw [ht] at h
 simp only [Cell.okWide, ht] at h
 cases v <;> first | rfl | (simp [Cell.ok, ht] at h)
theorem dec_str1 {H : Type} {enc : TypeId × Value → H} {P : Program} {W : World} {spare : Nat → Bool} {held : Bool} {t : TypeId} (ht : P.underlying t = some .string) {n : Nat} {cs : List Value} {r : DataW H × List MemPlace} (h : DataW.trod enc P W 0 spare held n t cs = some r) : ∃ x : Str, SimVs g00 W (encS1 x) cs ∧ ∀ u ∈ cs, u.oneCell' = true := by
 obtain ⟨m, rfl, hm⟩ := dec_str ht h
 exact ⟨m, ⟨_, _, rfl, ⟨rfl, hm⟩, rfl⟩, by simp [Value.oneCell']⟩
end Go.Proofs.YtpllcpbhjglpaaaGreatDoor.Gx
namespace Go.Proofs.YtpllcpbhjglpaaaGreatDoor.Gx
open Go Go.Proofs.YtpllcpbhjglpaaaGreatDoor.Gw
open Nat renaming reduceEqDiff → qqE, reduceAdd → qqA, reduceLT → qqL, reduceLeDiff → qqD, reduceMul → qqM
set_option linter.unusedSimpArgs false
set_option linter.unusedVariables false
theorem cells9 : Tryz.prog.cellsOf 9 = 1 := by kernel_rfl
theorem cells59 : Tryz.prog.cellsOf 59 = 2 := by kernel_rfl
theorem dec_File {H : Type} {enc : TypeId × Value → H} {W : World} {spare : Nat → Bool} {held : Bool} : ∀ (n : Nat) (cs : List Value) (r : DataW H × List MemPlace), DataW.trod enc Tryz.prog W 0 spare held n 59 cs = some r → ∃ x : Str × Str, SimVs g00 W (encF2 x) cs ∧ ∀ u ∈ cs, u.oneCell' = true := by
 intro n cs r h
 obtain ⟨m, rfl, hl, hf⟩ := dec_struct Tryz.underlying59 h
 rw [cells59] at hl
 obtain ⟨c0, t0, rfl, l0⟩ := len_succ hl
 obtain ⟨c1, t1, rfl, l1⟩ := len_succ l0
 obtain rfl := List.eq_nil_of_length_eq_zero l1
 simp only [List.forall_mem_cons, cells9, List.drop_zero, List.drop_succ_cons, List.take_succ_cons, List.take_zero] at hf
 obtain ⟨⟨y0, h0⟩, ⟨y1, h1⟩, _⟩ := hf
 obtain ⟨x0, e0, k0⟩ := dec_str Tryz.underlying9 h0
 obtain ⟨x1, e1, k1⟩ := dec_str Tryz.underlying9 h1
 simp only [List.cons.injEq, and_true] at e0 e1
 subst e0 e1
 refine ⟨Prod.mk x0 x1, ?_, ?_⟩
 ·exact ⟨_, _, rfl, ⟨rfl, k0⟩, ⟨_, _, rfl, ⟨rfl, k1⟩, rfl⟩⟩
 ·intro u hu
  simp only [List.mem_cons, List.not_mem_nil, or_false] at hu
  rcases hu with rfl | rfl <;> first | rfl
theorem dec_LFile {H : Type} {enc : TypeId × Value → H} {W : World} {spare : Nat → Bool} {held : Bool} {n : Nat} {cs : List Value} {r : DataW H × List MemPlace} (h : DataW.trod enc Tryz.prog W 0 spare held n 22 cs = some r) : ∃ (l : List (Str × Str)) (v : Value), cs = [v] ∧ SimV g00 W (.lst 2 none (l.map encF2)) v ∧ v.oneCell' = true :=
 dec_slice encF2 Tryz.underlying22 cells59 (by decide) (fun m _ cs r hr => dec_File m cs r hr) h
theorem dec_Lstring {H : Type} {enc : TypeId × Value → H} {W : World} {spare : Nat → Bool} {held : Bool} {n : Nat} {cs : List Value} {r : DataW H × List MemPlace} (h : DataW.trod enc Tryz.prog W 0 spare held n 23 cs = some r) : ∃ (l : List (Str)) (v : Value), cs = [v] ∧ SimV g00 W (.lst 1 none (l.map encS1)) v ∧ v.oneCell' = true :=
 dec_slice (X := Str) encS1 Tryz.underlying23 cells9 (by decide) (fun m _ cs r hr => dec_str1 Tryz.underlying9 hr) h
theorem cells26 : Tryz.prog.cellsOf 26 = 6 := by kernel_rfl
theorem cells3 : Tryz.prog.cellsOf 3 = 1 := by kernel_rfl
theorem cells2 : Tryz.prog.cellsOf 2 = 1 := by kernel_rfl
theorem cells24 : Tryz.prog.cellsOf 24 = 1 := by kernel_rfl
theorem dec_Datum {H : Type} {enc : TypeId × Value → H} {W : World} {spare : Nat → Bool} {held : Bool} : ∀ (n : Nat) (cs : List Value) (r : DataW H × List MemPlace), DataW.trod enc Tryz.prog W 0 spare held n 26 cs = some r → ∃ x : Datum, SimVs g00 W (encD x) cs ∧ ∀ u ∈ cs, u.oneCell' = true := by
 intro n
 induction n using Nat.strongRecOn with
 | _ n ih =>
  intro cs r h
  obtain ⟨m, rfl, hl, hf⟩ := dec_struct Tryz.underlying26 h
  rw [cells26] at hl
  obtain ⟨c0, t0, rfl, l0⟩ := len_succ hl
  obtain ⟨c1, t1, rfl, l1⟩ := len_succ l0
  obtain ⟨c2, t2, rfl, l2⟩ := len_succ l1
  obtain ⟨c3, t3, rfl, l3⟩ := len_succ l2
  obtain ⟨c4, t4, rfl, l4⟩ := len_succ l3
  obtain ⟨c5, t5, rfl, l5⟩ := len_succ l4
  obtain rfl := List.eq_nil_of_length_eq_zero l5
  simp only [List.forall_mem_cons, cells2, cells24, cells3, cells9, List.drop_zero, List.drop_succ_cons, List.take_succ_cons, List.take_zero] at hf
  obtain ⟨⟨y0, h0⟩, ⟨y1, h1⟩, ⟨y2, h2⟩, ⟨y3, h3⟩, ⟨y4, h4⟩, ⟨y5, h5⟩, _⟩ := hf
  obtain ⟨x0, e0⟩ := dec_int Tryz.underlying3 h0
  obtain ⟨x1, e1⟩ := dec_int Tryz.underlying2 h1
  obtain ⟨x2, e2, k2⟩ := dec_str Tryz.underlying9 h2
  obtain ⟨x3, e3⟩ := dec_int Tryz.underlying3 h3
  obtain ⟨x4, e4⟩ := dec_int Tryz.underlying3 h4
  obtain ⟨x5, v5, e5, k5, j5⟩ := dec_slice encD Tryz.underlying24 cells26 (by decide) (fun m' hm' cs r hr => ih m' (by omega) cs r hr) h5
  simp only [List.cons.injEq, and_true] at e0 e1 e2 e3 e4 e5
  subst e0 e1 e2 e3 e4 e5
  refine ⟨Datum.mk x0 x1 x2 x3 x4 x5, ?_, ?_⟩
  ·rw [encD_mk]
   exact ⟨_, _, rfl, rfl, ⟨_, _, rfl, rfl, ⟨_, _, rfl, ⟨rfl, k2⟩, ⟨_, _, rfl, rfl, ⟨_, _, rfl, rfl, ⟨_, _, rfl, k5, rfl⟩⟩⟩⟩⟩⟩
  ·intro u hu
   simp only [List.mem_cons, List.not_mem_nil, or_false] at hu
   rcases hu with rfl | rfl | rfl | rfl | rfl | rfl <;> first | rfl | exact j5
end Go.Proofs.YtpllcpbhjglpaaaGreatDoor.Gx
namespace Go.Proofs.YtpllcpbhjglpaaaGreatDoor.Gx
open Go Go.Proofs.YtpllcpbhjglpaaaGreatDoor.Gw
set_option linter.unusedSimpArgs false
set_option linter.unusedVariables false
open Go.ChangeShapes Go.WideShapes Go.ChangeAt Go.RowKit
noncomputable def low0 : Nat := (World.holding Tryz.prog default ⟨#[], #[], []⟩).heap.size
/-- A world that meets what is laid. -/
noncomputable def laidWorld (os : Os) : World :=
 { World.holding Tryz.prog os ⟨#[.cells #[.string ⟨#[118, 97, 108, 117, 101, 32, 111, 117, 116, 32, 111, 102, 32, 114, 97, 110, 103, 101]⟩] 159, .cells #[.string ⟨#[105, 110, 118, 97, 108, 105, 100, 32, 115, 121, 110, 116, 97, 120]⟩] 159], #[], []⟩ with heap := ((((((World.holding Tryz.prog os ⟨#[.cells #[.string ⟨#[118, 97, 108, 117, 101, 32, 111, 117, 116, 32, 111, 102, 32, 114, 97, 110, 103, 101]⟩] 159, .cells #[.string ⟨#[105, 110, 118, 97, 108, 105, 100, 32, 115, 121, 110, 116, 97, 120]⟩] 159], #[], []⟩).heap.modify 6 (fun | .cells _ t frozen => .cells #[.int .u8 0, .int .u8 1, .int .u8 28, .int .u8 2, .int .u8 29, .int .u8 14, .int .u8 24, .int .u8 3, .int .u8 30, .int .u8 22, .int .u8 20, .int .u8 15, .int .u8 25, .int .u8 17, .int .u8 4, .int .u8 8, .int .u8 31, .int .u8 27, .int .u8 13, .int .u8 23, .int .u8 21, .int .u8 19, .int .u8 16, .int .u8 7, .int .u8 26, .int .u8 12, .int .u8 18, .int .u8 6, .int .u8 11, .int .u8 5, .int .u8 10, .int .u8 9] t frozen | o => o)).modify 7 (fun | .cells _ t frozen => .cells #[.int .u8 0, .int .u8 1, .int .u8 56, .int .u8 2, .int .u8 57, .int .u8 49, .int .u8 28, .int .u8 3, .int .u8 61, .int .u8 58, .int .u8 42, .int .u8 50, .int .u8 38, .int .u8 29, .int .u8 17, .int .u8 4, .int .u8 62, .int .u8 47, .int .u8 59, .int .u8 36, .int .u8 45, .int .u8 43, .int .u8 51, .int .u8 22, .int .u8 53, .int .u8 39, .int .u8 33, .int .u8 30, .int .u8 24, .int .u8 18, .int .u8 12, .int .u8 5, .int .u8 63, .int .u8 55, .int .u8 48, .int .u8 27, .int .u8 60, .int .u8 41, .int .u8 37, .int .u8 16, .int .u8 46, .int .u8 35, .int .u8 44, .int .u8 21, .int .u8 52, .int .u8 32, .int .u8 23, .int .u8 11, .int .u8 54, .int .u8 26, .int .u8 40, .int .u8 15, .int .u8 34, .int .u8 20, .int .u8 31, .int .u8 10, .int .u8 25, .int .u8 14, .int .u8 19, .int .u8 9, .int .u8 13, .int .u8 8, .int .u8 7, .int .u8 6] t frozen | o => o)).modify 5 (fun | .cells _ t frozen => .cells #[.int .u64 1, .int .u64 10, .int .u64 100, .int .u64 1000, .int .u64 10000, .int .u64 100000, .int .u64 1000000, .int .u64 10000000, .int .u64 100000000, .int .u64 1000000000, .int .u64 10000000000, .int .u64 100000000000, .int .u64 1000000000000, .int .u64 10000000000000, .int .u64 100000000000000, .int .u64 1000000000000000, .int .u64 10000000000000000, .int .u64 100000000000000000, .int .u64 1000000000000000000, .int .u64 10000000000000000000] t frozen | o => o)).modify 4 (fun | .cells _ t frozen => .cells #[.iface 157 (.pointer (some ⟨low0 + 0, 0, none⟩))] t frozen | o => o)).modify 3 (fun | .cells _ t frozen => .cells #[.iface 157 (.pointer (some ⟨low0 + 1, 0, none⟩))] t frozen | o => o)) }
theorem laid_met (os : Os) : laidMet Tryz.prog Rows.libParsesRow.laid ((laidWorld os).forCall (fun _ _ => 0) ⟨#[], #[.slice none 0 0, .slice none 0 0, .slice none 0 0, .agg #[.int .i64 0, .int .i64 0, .string ByteArray.empty, .int .i64 0, .int .i64 0, .slice none 0 0]], []⟩).memory :=
 laidMet_of_run' 8 (by kernel_rfl) (by kernel_rfl)
theorem reads (os : Os) {H : Type} (enc : TypeId × Value → H) : ∃ places, DataW.whole enc Tryz.prog ((laidWorld os).forCall (fun _ _ => 0) ⟨#[], #[.slice none 0 0, .slice none 0 0, .slice none 0 0, .agg #[.int .i64 0, .int .i64 0, .string ByteArray.empty, .int .i64 0, .int .i64 0, .slice none 0 0]], []⟩).memory Tryz.f3.params.toList Rows.libParsesSpec.vars false #[.slice none 0 0, .slice none 0 0, .slice none 0 0, .agg #[.int .i64 0, .int .i64 0, .string ByteArray.empty, .int .i64 0, .int .i64 0, .slice none 0 0]].toList 8 = some ([.nil, .nil, .nil, .agg [.lit (.int .i64 0), .lit (.int .i64 0), .lit (.string []), .lit (.int .i64 0), .lit (.int .i64 0), .nil]], [], places) :=
 ⟨[], by kernel_rfl⟩
theorem amb_of_laid {W : World} (hL : laidMet Tryz.prog Rows.libParsesRow.laid W) : Amb g00 W := by
 intro p hp
 obtain rfl : p = (5, (Go.Lib.pow10Tab.map fun z => Value.int .u64 z).toArray) := List.mem_singleton.1 hp
 have h : laidMet Tryz.prog (("internal/strconv.uint64pow10", Go.Lib.tabData .u64 Go.Lib.pow10Tab) :: [("strconv.ErrRange", Rows.laid_strconv_ErrRange), ("strconv.ErrSyntax", Rows.laid_strconv_ErrSyntax)]) W := hL.tail.tail
 have ht := Go.Lib.tabIs_of_head (g := 5) (t := 167) (e := 145) (n := 20) (by kernel_rfl) (by kernel_rfl) (by kernel_rfl) (by kernel_rfl) (by kernel_rfl) (by kernel_rfl) h
 refine ⟨rfl, ?_⟩
 unfold Go.Lib.TabIs World.var? at ht
 rw [show Tryz.prog.globalNamed "internal/strconv.uint64pow10" = some 5 by kernel_rfl, Option.bind_some] at ht
 split at ht
 ·rename_i cs t x hx
  simp only [Option.some.injEq] at ht
  subst ht
  exact ⟨t, x, hx⟩
 ·cases ht
set_option maxRecDepth 100000 in
theorem contract (H : Type) (enc : TypeId × Value → H) (W : World) (base : Nat) (args : Array Value) (ds gs : List (DataW H)) (before : List MemPlace) (hL : laidMet Tryz.prog Rows.libParsesRow.laid W)
  (hval : ∀ (j : Nat) t v, Tryz.f3.params[j]? = some t → args[j]? = some v → Value.okWide Tryz.prog W .any base t v)
  (hW : DataW.Whole enc Tryz.prog Tryz.f3.params.toList Rows.libParsesSpec.vars false W args.toList ds gs before) :
  Calls Tryz.prog 3 args W fun e W' => ∃ v, e = .returned v ∧ Rows.libParsesSpec.post enc Tryz.prog Tryz.f3 false true false false W args v W' := by
 have hamb := amb_of_laid hL
 have hW' := hW
 obtain ⟨p, q, hA0, hV, rfl, hfz, hnd⟩ := hW
 have hA : DataW.TrodAll enc Tryz.prog W 0 (fun _ => true) true Tryz.f3.params.toList args.toList ds p := hA0
 rw [Tryz.params3] at hA hval
 obtain ⟨v0, vs0, d0, ds0, p0, q0, hargs0, rfl, rfl, h0, r0⟩ := trodAll_cons hA
 obtain ⟨v1, vs1, d1, ds1, p1, q1, hargs1, rfl, rfl, h1, r1⟩ := trodAll_cons r0
 obtain ⟨v2, vs2, d2, ds2, p2, q2, hargs2, rfl, rfl, h2, r2⟩ := trodAll_cons r1
 obtain ⟨v3, vs3, d3, ds3, p3, q3, hargs3, rfl, rfl, h3, r3⟩ := trodAll_cons r2
 obtain ⟨rfl, rfl, rfl⟩ := trodAll_nil r3
 obtain rfl : args = #[v0, v1, v2, v3] := by cases args; simp_all
 obtain ⟨rfl, rfl⟩ := trodVars_none hV
 have w0 := hval 0 22 v0 rfl rfl
 have w1 := hval 1 23 v1 rfl rfl
 have w2 := hval 2 23 v2 rfl rfl
 have w3 := hval 3 26 v3 rfl rfl
 unfold Value.okWide at w3
 rw [Tryz.underlying26] at w3
 obtain ⟨cs3, rfl, _, _⟩ := w3
 have k0 := h0
 have lt0 : ∀ x ∈ p0, x.block < W.heap.size := by obtain ⟨m, hm⟩ := k0; exact DataW.trod_lt m _ _ _ hm
 obtain ⟨m0, hm0⟩ := h0
 rw [okWide_slice Tryz.underlying22 w0] at hm0
 obtain ⟨files, x0, e0, s0, o0⟩ := dec_LFile hm0
 simp only [List.cons.injEq, and_true] at e0
 subst e0
 have k1 := h1
 have lt1 : ∀ x ∈ p1, x.block < W.heap.size := by obtain ⟨m, hm⟩ := k1; exact DataW.trod_lt m _ _ _ hm
 obtain ⟨m1, hm1⟩ := h1
 rw [okWide_slice Tryz.underlying23 w1] at hm1
 obtain ⟨features, x1, e1, s1, o1⟩ := dec_Lstring hm1
 simp only [List.cons.injEq, and_true] at e1
 subst e1
 have k2 := h2
 have lt2 : ∀ x ∈ p2, x.block < W.heap.size := by obtain ⟨m, hm⟩ := k2; exact DataW.trod_lt m _ _ _ hm
 obtain ⟨m2, hm2⟩ := h2
 rw [okWide_slice Tryz.underlying23 w2] at hm2
 obtain ⟨libs, x2, e2, s2, o2⟩ := dec_Lstring hm2
 simp only [List.cons.injEq, and_true] at e2
 subst e2
 have k3 := h3
 have lt3 : ∀ x ∈ p3, x.block < W.heap.size := by obtain ⟨m, hm⟩ := k3; exact DataW.trod_lt m _ _ _ hm
 obtain ⟨m3, hm3⟩ := h3
 obtain ⟨d, s3, o3⟩ := dec_Datum _ _ _ hm3
 refine ((c_LibParsesRow files features libs d []).2 g00 W [v0, v1, v2, .agg cs3] (sim00 _ W) ⟨_, _, rfl, s0, ⟨_, _, rfl, s1, ⟨_, _, rfl, s2, ⟨_, _, rfl, ⟨cs3.toList, rfl, s3, o3⟩, rfl⟩⟩⟩⟩).mono fun e W' ⟨r, st', g', ⟨h1, h2⟩, hend, _, hext⟩ => ?_
 subst h1
 obtain ⟨val, rfl, hb⟩ := hend
 simp only [SimV] at hb
 subst hb
 have bel := below_of hext
 exact ⟨_, rfl, _, _, _, [], _, [], hW', trodAll_mk1 (shut_bool Tryz.underlying4 _), (trodAll_cons_mk (Below.trod laidOut (by kernel_rfl) (of_decide_eq_true (by kernel_rfl)) k0 bel lt0) (trodAll_cons_mk (Below.trod laidOut (by kernel_rfl) (of_decide_eq_true (by kernel_rfl)) k1 bel lt1) (trodAll_cons_mk (Below.trod laidOut (by kernel_rfl) (of_decide_eq_true (by kernel_rfl)) k2 bel lt2) (trodAll_cons_mk (Below.trod laidOut (by kernel_rfl) (of_decide_eq_true (by kernel_rfl)) k3 bel lt3) trodAll_mk0)))), rfl, bel.frame _, fun h => by cases h⟩
set_option maxRecDepth 100000 in
theorem lifted (os : Os) (started : os.Started) (H : Type) (enc : TypeId × Value → H) (F : Stop.Interp) :
  ReturnsInHanded {} Tryz.checked os 3 .any ((OpenSpec.ofChange Rows.libParsesSpec).preRow enc Tryz.prog Tryz.f3 Rows.libParsesRow.domain false Rows.libParsesRow.laid) (((OpenSpec.ofChange Rows.libParsesSpec).at F).post enc Tryz.prog Tryz.f3 false true false false) := by
 obtain ⟨places, hx⟩ := reads os enc
 refine returnsInHanded_of_row (C := Tryz.checked) (s := OpenSpec.ofChange Rows.libParsesSpec) own started (by kernel_rfl) Tryz.func3
  (witness_row_at (enc := enc) (C := Tryz.checked) false (laidWorld os) #[.slice none 0 0, .slice none 0 0, .slice none 0 0, .agg #[.int .i64 0, .int .i64 0, .string ByteArray.empty, .int .i64 0, .int .i64 0, .slice none 0 0]] rfl (by kernel_rfl) (by kernel_rfl) (by kernel_rfl)
   (OpenSpec.preRow_of_cond 8 hx (by kernel_rfl) (fun k hk => by cases hk) (by kernel_rfl) (laid_met os))) ?_
 intro W base args ds gs before hval hW _ hk _ hL _ _
 exact contract H enc W base args ds gs before hL hval hW
theorem said : Rows.LibParsesSaid :=
 OpenClaim.holds_of_cond 3 Tryz.f3 rfl rfl rfl rfl rfl rfl rfl ⟨rfl, rfl, rfl, rfl, rfl⟩ rfl rfl rfl rfl rfl (by kernel_rfl) Tryz.func3 (by kernel_rfl)
  (of_decide_eq_true (by kernel_rfl)) (by unfold Func.isWrapper; first | (rw [if_pos (by decide +kernel)]; kernel_rfl) | (rw [if_neg (by decide +kernel)]; exact ⟨rfl, rfl⟩))
  (fun os started H enc _ F => by rw [OpenClaim.pre_eq_preRow]; exact lifted os started H enc F)
theorem plain (f : FuncId) (fn : Func) (hf : Tryz.pinned.checked.prog.funcNamed "graftwood/graftlaw3.LibParses" = some f) (hfn : Tryz.pinned.checked.prog.funcs[f]? = some fn) :
  true = Tryz.pinned.checked.prog.looks [] ∧ ∀ (j : Nat) t, fn.params[j]? = some t → Tryz.pinned.checked.prog.wantsStandIn t = false := by
 obtain rfl : f = 3 := Option.some.inj ((show Tryz.prog.funcNamed "graftwood/graftlaw3.LibParses" = some 3 by kernel_rfl).symm.trans hf) |>.symm
 obtain rfl : fn = Tryz.f3 := (Option.some.inj (Tryz.func3.symm.trans hfn)).symm
 refine ⟨by kernel_rfl, fun j t ht => ?_⟩
 rw [Tryz.params3] at ht
 have hm := Array.mem_of_getElem? ht
 simp at hm
 rcases hm with rfl | rfl | rfl
 ·exact (show Tryz.prog.wantsStandIn 22 = false by kernel_rfl)
 ·exact (show Tryz.prog.wantsStandIn 23 = false by kernel_rfl)
 ·exact (show Tryz.prog.wantsStandIn 26 = false by kernel_rfl)
end Go.Proofs.YtpllcpbhjglpaaaGreatDoor.Gx
namespace Go.Proofs.YtpllcpbhjglpaaaGreatDoor
theorem libParsesCard_holds : Rows.LibParsesCardSaid :=
 Claim7.holds_tied_plain_at .later [] _ _ _ _ Gx.said (fun _ h => by cases h) (by kernel_rfl) (fun _ h => by cases h) libParses_row_tie rfl ⟨rfl, rfl⟩ (by kernel_rfl) rfl Gx.plain (by kernel_rfl)
#print axioms libParsesCard_holds
end Go.Proofs.YtpllcpbhjglpaaaGreatDoor
