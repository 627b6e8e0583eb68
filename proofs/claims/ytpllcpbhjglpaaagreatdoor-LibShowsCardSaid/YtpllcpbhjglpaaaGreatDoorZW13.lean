/- strings.Split at a blank: by the shelf. Laws of libraries: what is asked first; LibSplit, walked. Libraries put together: walked. Libraries put together: Show, walked. (Printed by mk_Q3.py.). Libraries that include a file: LibFiles, in plain terms. Of two ways one: LibElse, in plain terms. What is shown is parsed: LibTurns, in plain terms. What is shown is parsed: LibTurns, in plain terms. When libraries are the same, walked. Laws of libraries: LibTurns, walked. The document's libraries put together: sets, walked. The document's libraries put together: Show, walked. What a row needs: how what comes in is read. How what comes in for LibShows is read. -/
import Derived.Test.YtpllcpbhjglpaaaGreatDoorZW12
import Derived.Shelf.Lay
import Derived.Shelf.LaySoft
import Derived.Shelf.Strings.Split
import Derived.Shelf.Strings.PiecesUse
import Derived.WalkKit
import Derived.ProofKit
import Derived.OpenShut
import Derived.ShutString
import Derived.ChangeOld
import Derived.Below
import Derived.SizedLaws
import Derived.Carry
import Derived.JoinedCond
import Derived.Test.YtpllcpbhjglpaaaGreatDoorRows
namespace Go.Proofs.YtpllcpbhjglpaaaGreatDoor.Gx
open Go Go.Proofs.YtpllcpbhjglpaaaGreatDoor.Gw
open Nat renaming reduceEqDiff → qqE, reduceAdd → qqA, reduceLT → qqL, reduceLeDiff → qqD, reduceMul → qqM
set_option linter.unusedSimpArgs false
set_option linter.unusedVariables false
/-- What stands between the blanks. -/
def splitP : Str → List Str
 | [] => [[]]
 | c :: r => bif decide (c = 32) then [] :: splitP r else match splitP r with
  | [] => [[c]]
  | h :: t => (c :: h) :: t
theorem splitP_ne (s : Str) : splitP s ≠ [] := by
 cases s with
 | nil => simp [splitP]
 | cons c r =>
  simp only [splitP]
  cases decide (c = 32) with
  | true => simp
  | false => cases splitP r <;> simp
theorem splitP_len : ∀ s : Str, (splitP s).length ≤ s.length + 1 ∧ ∀ x ∈ splitP s, x.length ≤ s.length
 | [] => by simp [splitP]
 | c :: r => by
  obtain ⟨h1, h2⟩ := splitP_len r
  simp only [splitP]
  cases decide (c = 32) with
  | true =>
   simp only [cond_true, List.length_cons]
   refine ⟨by omega, fun x hx => ?_⟩
   rcases List.mem_cons.1 hx with rfl | hx
   ·simp
   ·have := h2 x hx; omega
  | false =>
   simp only [cond_false]
   cases hs : splitP r with
   | nil => exact absurd hs (splitP_ne r)
   | cons h t =>
    rw [hs] at h1 h2
    simp only [List.length_cons] at h1 ⊢
    refine ⟨by omega, fun x hx => ?_⟩
    rcases List.mem_cons.1 hx with rfl | hx
    ·have := h2 h (by simp); simp only [List.length_cons]; omega
    ·have := h2 x (by simp [hx]); omega
theorem join_split : ∀ s : Str, joinP (splitP s) = s
 | [] => rfl
 | c :: r => by
  have ih := join_split r
  simp only [splitP]
  cases e : decide (c = 32) with
  | true =>
   simp only [cond_true]
   cases hs : splitP r with
   | nil => exact absurd hs (splitP_ne r)
   | cons h t =>
    rw [hs] at ih
    rw [joinP, ih, of_decide_eq_true e]
    ·rfl
    ·simp
  | false =>
   simp only [cond_false]
   cases hs : splitP r with
   | nil => exact absurd hs (splitP_ne r)
   | cons h t =>
    rw [hs] at ih
    simp only
    cases t with
    | nil => simp only [joinP] at ih ⊢; rw [ih]
    | cons u t => simp only [joinP] at ih ⊢; rw [← ih]; rfl
theorem index_ge (s : Str) : -1 ≤ Lib.index s [32] := by rw [Lib.index_one]; exact Lib.indexByte_ge s 32
theorem index_cons (c : UInt8) (r : Str) : Lib.index (c :: r) [32] = if c = 32 then 0 else if Lib.index r [32] = -1 then -1 else Lib.index r [32] + 1 := by
 rw [Lib.index_one, Lib.index_one, Lib.indexByte]
 by_cases h : c = 32
 ·simp [h]
 ·simp [h]
theorem count_index : ∀ s : Str, (Lib.index s [32] = -1 ↔ s.count 32 = 0)
 | [] => by simp [Lib.index]
 | c :: r => by
  rw [index_cons]
  by_cases h : c = 32
  ·subst h; simp
  ·rw [if_neg h, List.count_cons_of_ne h]
   have := count_index r
   have hg := index_ge r
   by_cases h2 : Lib.index r [32] = -1
   ·simp [h2, this.1 h2]
   ·rw [if_neg h2]
    constructor
    ·intro h3; omega
    ·intro h3; exact absurd (this.2 h3) h2
theorem splitK_cons (c : UInt8) (r : Str) (h : c ≠ 32) (k : Nat) (hk : r.count 32 = k) : Lib.splitK [32] 0 k (c :: r) = match Lib.splitK [32] 0 k r with
  | [] => [[c]]
  | a :: t => (c :: a) :: t := by
 cases k with
 | zero => rfl
 | succ k =>
  have hi : Lib.index r [32] ≠ -1 := fun e => by have := (count_index r).1 e; omega
  have hg := index_ge r
  unfold Lib.splitK
  rw [index_cons, if_neg h, if_neg hi]
  have h1 : (Lib.index r [32] + 1 == -1) = false := by simp; omega
  have h2 : (Lib.index r [32] == -1) = false := by simp [hi]
  rw [h1, h2]
  obtain ⟨n, hn⟩ : ∃ n : Nat, Lib.index r [32] = n := ⟨(Lib.index r [32]).toNat, by omega⟩
  rw [hn]
  have e1 : ((n : Int) + 1).toNat = n + 1 := by omega
  have e2 : ((n : Int)).toNat = n := by omega
  rw [e1, e2]
  simp
theorem splitK_eq : ∀ s : Str, Lib.splitK [32] 0 (s.count 32) s = splitP s
 | [] => rfl
 | c :: r => by
  have ih := splitK_eq r
  simp only [splitP]
  by_cases h : c = 32
  ·subst h
   rw [List.count_cons_self, decide_eq_true rfl, cond_true, ← ih, Lib.splitK, index_cons]
   simp
  ·rw [List.count_cons_of_ne h, decide_eq_false h, cond_false, splitK_cons c r h _ rfl, ih]
   cases splitP r <;> rfl
open Go.Proofs Go.Shelf in
shelf_lay Lays.n221 Nm 221 at Tryz as YtpllcpbhjglpaaaGreatDoor.laysG
theorem sizeStr : (Tryz.prog.info? 9).map (fun i => (i.zero, i.size, i.bytes)) = some (some (.string ByteArray.empty), 1, 16) := by kernel_rfl
theorem pieces_rows (g : G) (w : World) (l : List ByteArray) (t : TypeId) : ∀ (r : List ByteArray) (o : Nat), (∀ (j : Nat) x, r[j]? = some x → l[o + j]? = some x) → (∀ x ∈ r, x.data.toList.length ≤ 9223372036854775807) →
  SimRows (g.new w.heap.size none) (w.alloc (.cells (l.map Value.string).toArray t)) ⟨w.heap.size, o, none⟩ 1 (r.map fun b => [V.str b.data.toList])
 | [], o, _, _ => trivial
 | b :: r, o, h, hs => by
  simp only [List.map_cons, SimRows, SimAt, and_true]
  refine ⟨rfl, ⟨.string b, ⟨rfl, by simp, fun k hk => by simp [G.new] at hk⟩, Lib.pieces_cell_at w l t o b (h 0 b rfl), rfl, by cases b; rfl, hs b (by simp)⟩, ?_⟩
  exact pieces_rows g w l t r (o + 1) (fun j x hj => by have := h (j + 1) x hj; rw [← this]; congr 1; omega) fun x hx => hs x (by simp [hx])
open Go.Proofs in
theorem c_genSplit (s : Str) (hs : s.length < 4294967281) (st : St) : VCalls Tryz.prog TT 56 [.str s, .str [32], .int .i64 0, .int .i64 (-1)] st fun r st' => r = .ret (encS (splitP s)) ∧ st' = st := by
 refine ⟨⟨_, Tryz.func56, by kernel_rfl, by kernel_rfl⟩, fun g w vals h1 h2 => ?_⟩
 simp only [SimVs, SimV] at h2
 obtain ⟨_, _, rfl, ⟨rfl, _⟩, _, _, rfl, ⟨rfl, _⟩, _, _, rfl, rfl, _, _, rfl, rfl, rfl⟩ := h2
 have hcnt : Lib.countB ⟨s.toArray⟩ ⟨#[32]⟩ = s.count 32 := by
  show Lib.count s [32] = _
  rw [Lib.count_one]
 have hle : s.count 32 ≤ s.length := List.count_le_length
 have hN : ((s.count 32 + 1 : Nat) : Int) = min (if (-1 : Int) < 0 then (Lib.countB ⟨s.toArray⟩ ⟨#[32]⟩ : Int) + 1 else -1) (((⟨s.toArray⟩ : ByteArray).size : Int) + 1) := by
  rw [if_pos (by decide), hcnt, show (⟨s.toArray⟩ : ByteArray).size = s.length from rfl]
  omega
 have h := Any.strings_genSplit_core YtpllcpbhjglpaaaGreatDoor.laysG sizeStr ⟨s.toArray⟩ ⟨#[32]⟩ 0 (-1) (s.count 32 + 1) w hs (Nat.le_refl 1) (Nat.zero_le _)
  (fun x c _ => by
   refine (Any.strings_Index_one { YtpllcpbhjglpaaaGreatDoor.laysG with } x 32 _).mono fun e w' ⟨he, hw⟩ => ⟨?_, hw⟩
   rw [he]
   show _ = Ending.returned (Value.int .i64 (Lib.index x.data.toList [32]))
   rw [Lib.index_one])
  (by
   refine (Any.strings_Count_one { YtpllcpbhjglpaaaGreatDoor.laysG with } ⟨s.toArray⟩ 32 w).mono fun e w' ⟨he, hw⟩ => ⟨?_, hw⟩
   rw [he, hcnt]
   rfl)
  (by decide) (by decide) hN
 have hd := Lib.splitB_data ⟨#[32]⟩ 0 (s.count 32) ⟨s.toArray⟩
 have hd' : (Lib.splitB ⟨#[32]⟩ 0 (s.count 32) ⟨s.toArray⟩).map (·.data.toList) = splitP s := by rw [hd, ← splitK_eq]
 have hlen := Lib.splitB_all ⟨#[32]⟩ (Nat.le_refl 1) 0 _ ⟨s.toArray⟩ hcnt
 have hfull : Lib.cellsOf (Lib.splitB ⟨#[32]⟩ 0 (s.count 32) ⟨s.toArray⟩) (s.count 32 + 1) = ((Lib.splitB ⟨#[32]⟩ 0 (s.count 32) ⟨s.toArray⟩).map Value.string).toArray := by rw [← hlen]; exact Lib.cellsOf_full _
 rw [Nat.add_sub_cancel, hlen, hfull] at h
 refine h.mono fun e w' ⟨he, hw⟩ => ?_
 subst hw
 refine ⟨.ret (encS (splitP s)), st, g.new w.heap.size none, ⟨rfl, rfl⟩, ⟨_, he, ?_⟩, h1.alloc _ none, Ext.alloc _ _ _ none⟩
 have hrows : (splitP s).map (fun x => [V.str x]) = (Lib.splitB ⟨#[32]⟩ 0 (s.count 32) ⟨s.toArray⟩).map fun b => [V.str b.data.toList] := by rw [← hd', List.map_map]; rfl
 have hl2 : (splitP s).length = s.count 32 + 1 := by rw [← hd', List.length_map, hlen]
 simp only [encS, SimV, List.length_map, hl2]
 refine ⟨_, _, rfl, Nat.le_refl _, by unfold maxLen; omega, fun h => (by cases h), .inr rfl, fun e h => (by cases h), ?_⟩
 rw [hrows]
 refine pieces_rows g w _ _ _ 0 (fun j x hj => by rw [Nat.zero_add]; exact hj) fun x hx => ?_
 have hm : x.data.toList ∈ splitP s := by rw [← hd']; exact List.mem_map_of_mem hx
 have := (splitP_len s).2 _ hm
 omega
theorem c_Split (s : Str) (hs : s.length < 4294967281) (st : St) : VCalls Tryz.prog TT 34 [.str s, .str [32]] st fun r st' => r = .ret (encS (splitP s)) ∧ st' = st := by
 refine vfun TT_ok (an := anL []) (L := [0, 1, 4]) (rs := [.tmp 4]) Tryz.func34 rfl (by kernel_rfl) rfl Tryz.ntmps34 rfl rfl (Nat.le_refl _) fun hst ha hf => ?_
 simp only [gw0, qqE, ↓reduceIte, qqA, qqL, qqD, qqM]
 refine (c_genSplit s hs _).use (wkL_refl _) fun _ => ?_
 simp only [gw0, qqE, ↓reduceIte, qqA, qqL, qqD, qqM]
 exact gives_self (encS_lt _ _) hst
theorem c_one (s : Str) (d : Datum) (h : readR s = .inr [d]) (st : St) : VCalls Tryz.prog TT 30 [.str s] st fun r st' => r = .ret (.agg (encD d)) ∧ st' = st := by
 refine vfun TT_ok (an := anL []) (L := [0, 2, 3, 4]) (rs := [.cell 2 26]) Tryz.func30 rfl (by kernel_rfl) rfl Tryz.ntmps30 rfl rfl (Nat.le_refl _) fun hst ha hf => ?_
 simp only [gw0, qqE, ↓reduceIte, qqA, qqL, qqD, qqM]
 refine (c_Read s _).use (wkL_refl _) fun _ => ?_
 rw [h]
 simp only [readV, fltV]
 simp only [bz35, bz24, gw0, qqE, ↓reduceIte, qqA, qqL, qqD, qqM, lstD, List.length_cons]
 simp only [bz35, bz24, gw0, qqE, ↓reduceIte, qqA, qqL, qqD, qqM, show decide (((1 : Nat) : Int) = 1) = true from rfl, Bool.not_true, lstD, List.length_cons, show Int.toNat 0 = 0 from rfl, List.getD_cons_zero, show ((0 : Int) ≤ 0 ∧ (0 : Int) < ((1 : Nat) : Int)) = True by simp, true_and]
 exact gives_of (X := .agg (encD d)) (wk_refl _) (wkSt_refl _) (by simp only [V.lt]; exact encD_lt _ _) hst
def aliveF : Str := [40, 100, 101, 102, 105, 110, 101, 32, 120, 32, 49, 41]
def aliveS : Str := [40, 108, 105, 98, 114, 97, 114, 121, 32, 40, 97, 32, 98, 41, 32, 40, 101, 120, 112, 111, 114, 116, 32, 120, 41, 32, 40, 105, 110, 99, 108, 117, 100, 101, 32, 102, 41, 41]
def aliveD : Datum := Ld [Sd wLibrary, Ld [Sd [97], Sd [98]], Ld [Sd wExport, Sd [120]], Ld [Sd wInclude, Sd [102]]]
def aliveW : Wd := ⟨[([102], aliveF)], [], []⟩
def aliveO : Lib' := ⟨[97, 32, 98], [([120], [120])], [], [Ld [Sd [100, 101, 102, 105, 110, 101], Sd [120], .mk 1 1 [] 0 0 []]]⟩
theorem alive_read : readR aliveS = .inr [aliveD] := by kernel_rfl
theorem alive_parse : parseP aliveW aliveD = (aliveO, 0) := by kernel_rfl
theorem c_alive (st : St) : VCalls Tryz.prog TT 9 [] st fun r st' => r = .ret (.bool true) ∧ st' = st := by
 refine vfun TT_ok (an := anL []) (L := [0, 1, 2]) (rs := [.tmp 0]) Tryz.func9 rfl (by kernel_rfl) rfl Tryz.ntmps9 rfl rfl (Nat.le_refl _) fun hst ha hf => ?_
 simp only [gw2, qqE, ↓reduceIte, qqA, qqL, qqD, qqM, ite_self]
 refine (c_one aliveS aliveD alive_read _).use (wkL_refl _) fun _ => ?_
 simp only [gw2, qqE, ↓reduceIte, qqA, qqL, qqD, qqM, ite_self]
 refine (c_libParse aliveW aliveD _).use (wkL_cons (wk_refl _) (wkL_cons (wk_nils _) (wkL_cons (wk_nils _) (wkL_refl _)))) fun _ => ?_
 rw [alive_parse]
 simp only [libV, encLib]
 simp only [bz35, gw2, qqE, ↓reduceIte, qqA, qqL, qqD, qqM, ite_self, aliveO, rows2, List.length_cons]
 exact gives_bool' rfl hst
theorem c_libname (s : Str) (st : St) : VCalls Tryz.prog TT 31 [.str s] st fun r st' => r = .ret (.agg (encD (Sd s))) ∧ st' = st := by
 refine vfun TT_ok (an := anL []) (L := [0, 2]) (rs := [.cell 2 26]) Tryz.func31 rfl (by kernel_rfl) rfl Tryz.ntmps31 rfl rfl (Nat.le_refl _) fun hst ha hf => ?_
 simp only [gw2, qqE, ↓reduceIte, qqA, qqL, qqD, qqM, ite_self]
 refine gives_of (wk_agg ?_) (wkSt_refl _) (by simp only [V.lt]; exact encD_lt _ _) hst
 rw [Sd, encD_mk]
 exact wkL_cons (wk_refl _) (wkL_cons (wk_refl _) (wkL_cons (wk_refl _) (wkL_cons (wk_refl _) (wkL_cons (wk_refl _) (wkL_cons (wk_nils _) wkL_nil)))))
theorem c_libof (l : List Datum) (st : St) : VCalls Tryz.prog TT 32 [lstD l] st fun r st' => r = .ret (.agg (encD (Ld l))) ∧ st' = st := by
 refine vfun TT_ok (an := anL []) (L := [0, 2]) (rs := [.cell 2 26]) Tryz.func32 rfl (by kernel_rfl) rfl Tryz.ntmps32 rfl rfl (Nat.le_refl _) fun hst ha hf => ?_
 simp only [gw2, qqE, ↓reduceIte, qqA, qqL, qqD, qqM, ite_self, lstD]
 refine gives_of (wk_agg ?_) (wkSt_refl _) (by simp only [V.lt]; exact encD_lt _ _) hst
 rw [Ld, encD_mk]
 exact wkL_refl _
theorem c_liball (s : Str) (l : List Str) (hl : l.length ≤ 1000000) (st : St) : VCalls Tryz.prog TT 33 [.str s, encS l] st fun r st' => r = .ret (lstD (Sd s :: l.map Sd)) ∧ st' = st := by
 refine vfun TT_ok (an := anL [(10, 1)]) (L := [0, 1, 4, 5, 7, 11, 12, 13]) (rs := [.tmp 4]) Tryz.func33 rfl (by kernel_rfl) rfl Tryz.ntmps33 rfl rfl (Nat.le_refl _) fun hst ha hf => ?_
 have hkl : l.length ≤ 9223372036854775807 := by omega
 simp only [gw2, qqE, ↓reduceIte, qqA, qqL, qqD, qqM, ite_self]
 refine (c_libname s _).use (wkL_refl _) fun _ => ?_
 simp only [bz25, gw2, qqE, ↓reduceIte, qqA, qqL, qqD, qqM, ite_self, encS]
 refine vfor (σ := Nat) [0, 1, 4, 5, 11, 12, 13] (fun x => [(0, true, .str s), (1, true, encS l), (4, true, .nils), (5, true, .lst 6 (some st.length) (encD (Sd s) :: (l.take x).map fun a => encD (Sd a))), (11, true, encS l), (12, true, .int .i64 l.length), (13, true, .int .i64 x)]) (fun x => st ++ [.tip 26 (1 + x)]) (fun x => l.length - x) (fun x => x ≤ l.length ∧ (0 : Nat) = 0) 0 rfl TT_ok ⟨Nat.zero_le _, rfl⟩ rfl rfl ?_
 rintro i ⟨hi, -⟩
 simp only [encS]
 rcases at_or_end l i hi with ⟨rfl, hd⟩ | ⟨a, hlt, hget, hdr⟩
 ·simp only [gw2, qqE, ↓reduceIte, qqA, qqL, qqD, qqM, ite_self, lt_no]
  refine gives_of (X := lstD (Sd s :: l.map Sd)) ?_ (wkSt_refl _) (lstD_lt _ _) hst
  rw [lstD, List.map_cons, List.map_map, List.take_length]
  exact wk_tok _ _ _
 ·simp only [gw2, qqE, ↓reduceIte, qqA, qqL, qqD, qqM, ite_self, lt_yes hlt, List.length_map, getD_map hget, Int.ofNat_lt.mpr hlt]
  refine (c_libname a _).use (wkL_refl _) fun _ => ?_
  have ht : (l.take i).length = i := by rw [List.length_take]; omega
  simp only [bz25, gw2, qqE, ↓reduceIte, qqA, qqL, qqD, qqM, ite_self, encS, List.length_cons, ht, Env.keep, next_i64 hlt hkl]
  refine ⟨⟨by omega, by omega⟩, i + 1, ?_, by rw [show 1 + (i + 1) = i + 2 by omega], by omega, hlt⟩
  rw [List.take_add_one, hget]
  simp
def wordOf (k : Int) : Str := [wOnly, wExcept, wPrefix, wRename].getD (k - 2).toNat []
def showR (a b : Str) : Datum := Ld [Sd a, Sd b]
mutual
/-- A set, as a datum. -/
def showS : Set' → Datum
 | .mk k n ns az p kids => bif decide (k = 1) then Ld ((splitP n).map Sd)
  else Ld (Sd (wordOf k) :: showH kids :: bif decide (k = 4) then [Sd p] else bif decide (k = 5) then List.zipWith showR ns az else ns.map Sd)
def showH : List Set' → Datum
 | [] => .mk 0 0 [] 0 0 []
 | a :: _ => showS a
end
mutual
/-- Such a one may be shown. -/
def okS : Set' → Prop
 | .mk k n ns az _ kids => n.length ≤ 1000 ∧ ns.length ≤ 1000000 ∧ (k ≠ 1 → 2 ≤ k ∧ k ≤ 5 ∧ kids ≠ [] ∧ (k = 5 → az.length = ns.length)) ∧ okSs kids
def okSs : List Set' → Prop
 | [] => True
 | a :: r => okS a ∧ okSs r
end
theorem okSs_mem : ∀ {l : List Set'} {s : Set'}, okSs l → s ∈ l → okS s
 | a :: r, s, h, hs => by
  rw [okSs] at h
  rcases List.mem_cons.1 hs with rfl | hs
  ·exact h.1
  ·exact okSs_mem h.2 hs
theorem bz2 : type_of% @List.getD_cons_succ.{0} ∧ type_of% @List.getD_cons_zero.{0} ∧ type_of% @List.length_cons.{0} ∧ type_of% @List.length_map.{0,0} ∧ type_of% @List.map_cons.{0,0} ∧ type_of% @Nat.le_refl ∧ type_of% @encD_drop ∧ type_of% @encD_len ∧ type_of% @encD_take ∧ type_of% @encSet_len ∧ type_of% @encSet_take ∧ (Int.toNat 0 = 0) ∧ (Int.toNat 1 = 1) ∧ (Int.toNat 3 = 3) ∧ (IntKind.i64.wrap (5 - 2) = 3) ∧ (decide ((5 : Int) = 4) = false) ∧ (decide ((5 : Int) = 5) = true) := ⟨@List.getD_cons_succ.{0}, @List.getD_cons_zero.{0}, @List.length_cons.{0}, @List.length_map.{0,0}, @List.map_cons.{0,0}, @Nat.le_refl, @encD_drop, @encD_len, @encD_take, @encSet_len, @encSet_take, rfl, rfl, rfl, by decide, rfl, rfl⟩
theorem bz11 : type_of% @List.getD_cons_succ.{0} ∧ type_of% @List.getD_cons_zero.{0} ∧ type_of% @List.length_cons.{0} ∧ type_of% @List.length_map.{0,0} ∧ type_of% @List.map_cons.{0,0} ∧ type_of% @Nat.le_refl ∧ type_of% @encD_drop ∧ type_of% @encD_len ∧ type_of% @encD_take ∧ type_of% @encSet_len ∧ type_of% @encSet_take ∧ (Int.toNat 0 = 0) ∧ (Int.toNat 1 = 1) ∧ (Int.toNat 2 = 2) ∧ (IntKind.i64.wrap (4 - 2) = 2) ∧ (decide ((4 : Int) = 4) = true) ∧ (decide ((4 : Int) = 5) = false) := ⟨@List.getD_cons_succ.{0}, @List.getD_cons_zero.{0}, @List.length_cons.{0}, @List.length_map.{0,0}, @List.map_cons.{0,0}, @Nat.le_refl, @encD_drop, @encD_len, @encD_take, @encSet_len, @encSet_take, rfl, rfl, rfl, by decide, rfl, rfl⟩
theorem bz13 : type_of% @List.getD_cons_succ.{0} ∧ type_of% @List.getD_cons_zero.{0} ∧ type_of% @List.length_cons.{0} ∧ type_of% @List.length_map.{0,0} ∧ type_of% @List.map_cons.{0,0} ∧ type_of% @Nat.le_refl ∧ type_of% @encD_drop ∧ type_of% @encD_len ∧ type_of% @encD_take ∧ type_of% @encSet_len ∧ type_of% @encSet_take ∧ (Int.toNat 0 = 0) ∧ (Int.toNat 1 = 1) ∧ (IntKind.i64.wrap (3 - 2) = 1) ∧ (decide ((3 : Int) = 4) = false) ∧ (decide ((3 : Int) = 5) = false) := ⟨@List.getD_cons_succ.{0}, @List.getD_cons_zero.{0}, @List.length_cons.{0}, @List.length_map.{0,0}, @List.map_cons.{0,0}, @Nat.le_refl, @encD_drop, @encD_len, @encD_take, @encSet_len, @encSet_take, rfl, rfl, by decide, rfl, rfl⟩
theorem bz12 : type_of% @List.getD_cons_succ.{0} ∧ type_of% @List.getD_cons_zero.{0} ∧ type_of% @List.length_cons.{0} ∧ type_of% @List.length_map.{0,0} ∧ type_of% @List.map_cons.{0,0} ∧ type_of% @Nat.le_refl ∧ type_of% @encD_drop ∧ type_of% @encD_len ∧ type_of% @encD_take ∧ type_of% @encSet_len ∧ type_of% @encSet_take ∧ (Int.toNat 0 = 0) ∧ (Int.toNat 1 = 1) ∧ (IntKind.i64.wrap (2 - 2) = 0) ∧ (decide ((2 : Int) = 4) = false) ∧ (decide ((2 : Int) = 5) = false) := ⟨@List.getD_cons_succ.{0}, @List.getD_cons_zero.{0}, @List.length_cons.{0}, @List.length_map.{0,0}, @List.map_cons.{0,0}, @Nat.le_refl, @encD_drop, @encD_len, @encD_take, @encSet_len, @encSet_take, rfl, rfl, by decide, rfl, rfl⟩
theorem c_showSet (s : Set') : okS s → ∀ st : St, VCalls Tryz.prog TT 35 [.ref (encSet s)] st fun r st' => r = .ret (.agg (encD (showS s))) ∧ st' = st := by
 refine Set'.ind (p := fun s => okS s → ∀ st : St, VCalls Tryz.prog TT 35 [.ref (encSet s)] st fun r st' => r = .ret (.agg (encD (showS s))) ∧ st' = st) ?_ s
 intro k n ns az p kids ih ok st
 rw [okS] at ok
 obtain ⟨hn, hns, hk, hkids⟩ := ok
 refine vfun TT_ok (an := anL [(36, 1)]) (L := [0, 2, 3, 4, 5, 6, 40, 64, 65, 66]) (rs := [.cell 2 26]) Tryz.func35 rfl (by kernel_rfl) rfl Tryz.ntmps35 rfl rfl (Nat.le_refl _) fun hst ha hf => ?_
 simp only [encSet_mk]
 simp only [gw2, qqE, ↓reduceIte, qqA, qqL, qqD, qqM, ite_self]
 refine iK_split (fun h1 => ?_) (fun h1 => ?_)
 ·simp only [gw2, qqE, ↓reduceIte, qqA, qqL, qqD, qqM, ite_self]
  refine (c_Split n (by omega) _).use (wkL_refl _) fun _ => ?_
  simp only [gw2, qqE, ↓reduceIte, qqA, qqL, qqD, qqM, ite_self]
  refine (c_liball [] (splitP n) (by have := (splitP_len n).1; omega) _).use (wkL_refl _) fun _ => ?_
  simp only [gw2, qqE, ↓reduceIte, qqA, qqL, qqD, qqM, ite_self, lstD, List.length_map, List.length_cons, List.map_cons, List.drop_succ_cons, List.drop_zero]
  refine ⟨by omega, ?_⟩
  refine (c_libof ((splitP n).map Sd) _).use (wkL_refl _) fun _ => ?_
  simp only [bz24, gw2, qqE, ↓reduceIte, qqA, qqL, qqD, qqM, ite_self]
  rw [show showS (.mk k n ns az p kids) = Ld ((splitP n).map Sd) by rw [showS, h1]; rfl]
  exact gives_of (wk_refl _) (wkSt_refl _) (by simp only [V.lt]; exact encD_lt _ _) hst
 ·obtain ⟨h2, h5, hne, haz⟩ := hk (of_decide_eq_false h1)
  cases kids with
  | nil => exact absurd rfl hne
  | cons kd rest =>
  have ihk := ih kd (by simp) (okSs_mem hkids (by simp))
  have hk4 : k = 2 ∨ k = 3 ∨ k = 4 ∨ k = 5 := by omega
  rcases hk4 with rfl | rfl | rfl | rfl
  ·simp only [bz12, gw2, qqE, ↓reduceIte, qqA, qqL, qqD, qqM, ite_self]
   refine ⟨by simp, ?_⟩
   refine vdraw TT_ok TT_mixed [0, 0, 0, 0, 0, 0, 0, 0, 2, 0] (by kernel_rfl) ?_
   simp only [bz12, gw2, qqE, ↓reduceIte, qqA, qqL, qqD, qqM, ite_self]
   refine eK_free (c_libname (wordOf 2)) (wkL_refl _) ?_
   simp only [bz12, gw2, qqE, ↓reduceIte, qqA, qqL, qqD, qqM, ite_self]
   refine ⟨⟨by omega, by omega⟩, ?_⟩
   refine eK_free ihk (wkL_refl _) ?_
   simp only [bz12, gw2, qqE, ↓reduceIte, qqA, qqL, qqD, qqM, ite_self]
   refine (c_liball [] ns (by omega) _).use (wkL_refl _) fun _ => ?_
   simp only [bz12, gw2, qqE, ↓reduceIte, qqA, qqL, qqD, qqM, ite_self, lstD]
   refine ⟨by omega, by omega, ?_⟩
   refine (c_libof (Sd (wordOf 2) :: showS kd :: ns.map Sd) _).use (wkL_cons (wk_tok _ _ _) wkL_nil) fun _ => ?_
   simp only [bz12, gw2, qqE, ↓reduceIte, qqA, qqL, qqD, qqM, ite_self]
   rw [show showS (.mk 2 n ns az p (kd :: rest)) = Ld (Sd (wordOf 2) :: showS kd :: ns.map Sd) by rw [showS, showH]; rfl]
   exact gives_of (wk_refl _) (wkSt_refl _) (by simp only [V.lt]; exact encD_lt _ _) hst
  ·simp only [bz13, gw2, qqE, ↓reduceIte, qqA, qqL, qqD, qqM, ite_self]
   refine ⟨by simp, ?_⟩
   refine vdraw TT_ok TT_mixed [0, 0, 0, 0, 0, 0, 0, 0, 2, 0] (by kernel_rfl) ?_
   simp only [bz13, gw2, qqE, ↓reduceIte, qqA, qqL, qqD, qqM, ite_self]
   refine eK_free (c_libname (wordOf 3)) (wkL_refl _) ?_
   simp only [bz13, gw2, qqE, ↓reduceIte, qqA, qqL, qqD, qqM, ite_self]
   refine ⟨⟨by omega, by omega⟩, ?_⟩
   refine eK_free ihk (wkL_refl _) ?_
   simp only [bz13, gw2, qqE, ↓reduceIte, qqA, qqL, qqD, qqM, ite_self]
   refine (c_liball [] ns (by omega) _).use (wkL_refl _) fun _ => ?_
   simp only [bz13, gw2, qqE, ↓reduceIte, qqA, qqL, qqD, qqM, ite_self, lstD]
   refine ⟨by omega, by omega, ?_⟩
   refine (c_libof (Sd (wordOf 3) :: showS kd :: ns.map Sd) _).use (wkL_cons (wk_tok _ _ _) wkL_nil) fun _ => ?_
   simp only [bz13, gw2, qqE, ↓reduceIte, qqA, qqL, qqD, qqM, ite_self]
   rw [show showS (.mk 3 n ns az p (kd :: rest)) = Ld (Sd (wordOf 3) :: showS kd :: ns.map Sd) by rw [showS, showH]; rfl]
   exact gives_of (wk_refl _) (wkSt_refl _) (by simp only [V.lt]; exact encD_lt _ _) hst
  ·simp only [bz11, gw2, qqE, ↓reduceIte, qqA, qqL, qqD, qqM, ite_self]
   refine ⟨by simp, ?_⟩
   refine vdraw TT_ok TT_mixed [0, 0, 0, 0, 0, 0, 0, 0, 2, 0] (by kernel_rfl) ?_
   simp only [bz11, gw2, qqE, ↓reduceIte, qqA, qqL, qqD, qqM, ite_self]
   refine eK_free (c_libname (wordOf 4)) (wkL_refl _) ?_
   simp only [bz11, gw2, qqE, ↓reduceIte, qqA, qqL, qqD, qqM, ite_self]
   refine ⟨⟨by omega, by omega⟩, ?_⟩
   refine eK_free ihk (wkL_refl _) ?_
   simp only [bz11, gw2, qqE, ↓reduceIte, qqA, qqL, qqD, qqM, ite_self]
   refine (c_libname p _).use (wkL_refl _) fun _ => ?_
   simp only [bz11, gw2, qqE, ↓reduceIte, qqA, qqL, qqD, qqM, ite_self]
   refine (c_libof (Sd (wordOf 4) :: showS kd :: [Sd p]) _).use (wkL_cons (wk_tok _ _ _) wkL_nil) fun _ => ?_
   simp only [bz11, gw2, qqE, ↓reduceIte, qqA, qqL, qqD, qqM, ite_self]
   rw [show showS (.mk 4 n ns az p (kd :: rest)) = Ld (Sd (wordOf 4) :: showS kd :: [Sd p]) by rw [showS, showH]; rfl]
   exact gives_of (wk_refl _) (wkSt_refl _) (by simp only [V.lt]; exact encD_lt _ _) hst
  ·simp only [bz2, gw2, qqE, ↓reduceIte, qqA, qqL, qqD, qqM, ite_self]
   refine ⟨by simp, ?_⟩
   refine vdraw TT_ok TT_mixed [0, 0, 0, 0, 0, 0, 0, 0, 2, 0] (by kernel_rfl) ?_
   simp only [bz2, gw2, qqE, ↓reduceIte, qqA, qqL, qqD, qqM, ite_self]
   refine eK_free (c_libname (wordOf 5)) (wkL_refl _) ?_
   simp only [bz2, gw2, qqE, ↓reduceIte, qqA, qqL, qqD, qqM, ite_self]
   refine ⟨⟨by omega, by omega⟩, ?_⟩
   refine eK_free ihk (wkL_refl _) ?_
   simp only [bz2, gw2, qqE, ↓reduceIte, qqA, qqL, qqD, qqM, ite_self, encS]
   have haz := haz rfl
   have hzl : (List.zipWith showR ns az).length = ns.length := by rw [List.length_zipWith]; omega
   have hkl : ns.length ≤ 9223372036854775807 := by omega
   refine vfor (σ := Nat) [0, 2, 3, 4, 40, 64, 65, 66] (fun x => [(0, true, .ref [.int .i64 5, .str n, encS ns, encS az, .str p, .lst 6 none (encSet kd :: rest.map encSet)]), (2, true, .ptr st.length 0), (3, true, .str [114, 101, 110, 97, 109, 101]), (4, true, .lst 6 (some (st.length + 1)) ([encD (Sd (wordOf 5)), encD (showS kd)] ++ ((List.zipWith showR ns az).take x).map encD)), (40, true, .int .i64 5), (64, true, encS ns), (65, true, .int .i64 ns.length), (66, true, .int .i64 x)]) (fun x => st ++ [.box [.int .i64 0, .int .i64 0, .str [], .int .i64 0, .int .i64 0, .nils], .tip 26 (2 + x)]) (fun x => ns.length - x) (fun x => x ≤ ns.length ∧ (0 : Nat) = 0) 0 rfl TT_ok ⟨Nat.zero_le _, rfl⟩ rfl rfl ?_
   rintro i ⟨hi, -⟩
   simp only [encS]
   rcases at_or_end ns i hi with ⟨rfl, hd⟩ | ⟨a, hlt, hget, hdr⟩
   ·simp only [bz2, gw2, qqE, ↓reduceIte, qqA, qqL, qqD, qqM, ite_self, lt_no, encS]
    rw [List.take_of_length_le (by rw [hzl]; exact Nat.le_refl _)]
    refine (c_libof (Sd (wordOf 5) :: showS kd :: List.zipWith showR ns az) _).use (wkL_cons (wk_tok _ _ _) wkL_nil) fun _ => ?_
    simp only [bz2, gw2, qqE, ↓reduceIte, qqA, qqL, qqD, qqM, ite_self]
    rw [show showS (.mk 5 n ns az p (kd :: rest)) = Ld (Sd (wordOf 5) :: showS kd :: List.zipWith showR ns az) by rw [showS, showH]; rfl]
    exact gives_of (wk_refl _) (wkSt_refl _) (by simp only [V.lt]; exact encD_lt _ _) hst
   ·rcases at_or_end az i (by omega) with ⟨e, hd⟩ | ⟨b, hlt2, hget2, hdr2⟩
    ·omega
    simp only [bz2, gw2, qqE, ↓reduceIte, qqA, qqL, qqD, qqM, ite_self, lt_yes hlt, getD_map hget, Int.ofNat_lt.mpr hlt]
    have hzt : ((List.zipWith showR ns az).take i).length = i := by rw [List.length_take, hzl]; omega
    refine vdraw TT_ok TT_mixed [0, 0, 0, 0, 0, 0, 0, 0, 0, 0, 0, 0, 0, 0, 2, 0] (by kernel_rfl) ?_
    simp only [bz2, gw2, qqE, ↓reduceIte, qqA, qqL, qqD, qqM, ite_self, encS, getD_map hget, getD_map hget2, Int.ofNat_lt.mpr hlt, Int.ofNat_lt.mpr hlt2]
    refine eK_free (c_libname a) (wkL_refl _) ?_
    simp only [bz2, gw2, qqE, ↓reduceIte, qqA, qqL, qqD, qqM, ite_self, getD_map hget2, Int.ofNat_lt.mpr hlt2]
    refine eK_free (c_libname b) (wkL_refl _) ?_
    simp only [bz2, gw2, qqE, ↓reduceIte, qqA, qqL, qqD, qqM, ite_self]
    refine eK_free (c_libof [Sd a, Sd b]) (wkL_refl _) ?_
    simp only [bz2, gw2, qqE, ↓reduceIte, qqA, qqL, qqD, qqM, ite_self, List.length_append, hzt, List.length_nil, Env.keep, next_i64 hlt hkl]
    refine ⟨⟨by omega, by omega⟩, i + 1, ?_, by rw [show 2 + (i + 1) = i + 3 by omega], by omega, hlt⟩
    rw [List.take_add_one, List.getElem?_zipWith, hget, hget2]
    simp [showR]
def showE (p : Str × Str) : Datum := bif decide (p.1 = p.2) then Sd p.1 else Ld [Sd wRename, Sd p.2, Sd p.1]
/-- A library, or a program, as a datum. -/
def showHead (o : Lib') : List Datum := bif decide (o.name = []) then [Sd wProgram] else [Sd wLibrary, Ld ((splitP o.name).map Sd), Ld (Sd wExport :: o.exps.map showE)]
def showP (o : Lib') : Datum := Ld (showHead o ++ [Ld (Sd wImport :: o.imps.map showS), Ld (Sd wBegin :: o.body)])
def okLib (o : Lib') : Prop := o.name.length ≤ 1000 ∧ o.exps.length ≤ 1000000 ∧ o.imps.length ≤ 1000000 ∧ o.body.length ≤ 1000000 ∧ okSs o.imps
theorem bz15 : type_of% @List.length_append.{0} ∧ type_of% @List.length_cons.{0} ∧ type_of% @List.length_map.{0,0} ∧ type_of% @List.length_nil.{0} ∧ type_of% @List.nil_append.{0} ∧ type_of% @Nat.le_refl ∧ type_of% @encD_drop ∧ type_of% @encD_len ∧ type_of% @encD_take := ⟨@List.length_append.{0}, @List.length_cons.{0}, @List.length_map.{0,0}, @List.length_nil.{0}, @List.nil_append.{0}, @Nat.le_refl, @encD_drop, @encD_len, @encD_take⟩
set_option maxHeartbeats 2000000 in
theorem c_libShow (o : Lib') (ok : okLib o) (st : St) : VCalls Tryz.prog TT 11 [.agg (encLib o)] st fun r st' => r = .ret (.agg (encD (showP o))) ∧ st' = st := by
 obtain ⟨hn, he, hi, hb, his⟩ := ok
 have hil : o.imps.length ≤ 9223372036854775807 := by omega
 refine vfun TT_ok (an := anL [(1, 1), (13, 1), (21, 1), (23, 1), (61, 1), (81, 1)]) (L := [0, 1, 2, 3, 4, 6, 7, 8, 25, 26, 27, 64, 65]) (rs := [.cell 2 26]) Tryz.func11 rfl (by kernel_rfl) rfl Tryz.ntmps11 rfl rfl (Nat.le_refl _) fun hst ha hf => ?_
 simp only [encLib]
 simp only [gw2, qqE, ↓reduceIte, qqA, qqL, qqD, qqM, ite_self]
 refine iK_split (fun h1 => ?_) (fun h1 => ?_)
 ·simp only [gw2, qqE, ↓reduceIte, qqA, qqL, qqD, qqM, ite_self]
  refine (c_libname wProgram _).use (wkL_refl _) fun _ => ?_
  simp only [bz17, gw2, qqE, ↓reduceIte, qqA, qqL, qqD, qqM, ite_self]
  refine (c_libname wImport _).use (wkL_refl _) fun _ => ?_
  simp only [bz17, gw2, qqE, ↓reduceIte, qqA, qqL, qqD, qqM, ite_self]
  have hh : showHead o = [Sd wProgram] := by rw [showHead, h1]; rfl
  have hwk : ∀ t, wk (.lst 6 t [encD (Sd wProgram), encD (Ld (Sd wImport :: o.imps.map showS)), encD (Ld (Sd wBegin :: o.body))]) (lstD (showHead o ++ [Ld (Sd wImport :: o.imps.map showS), Ld (Sd wBegin :: o.body)])) := fun t => by rw [hh]; exact wk_tok _ _ _
  refine vfor (σ := Nat) [0, 1, 2, 3, 7, 64, 65] (fun x => [(0, true, .agg [.str o.name, .lst 2 none (rows2 o.exps), .lst 6 none (o.imps.map encSet), .lst 6 none (o.body.map encD)]), (1, true, .ref [.str o.name, .lst 2 none (rows2 o.exps), .lst 6 none (o.imps.map encSet), .lst 6 none (o.body.map encD)]), (2, true, .ptr st.length 0), (3, true, .lst 6 (some (st.length + 1)) ([encD (Sd wProgram)])), (7, true, .lst 6 (some (st.length + 2)) (encD (Sd wImport) :: (o.imps.take x).map fun s => encD (showS s))), (64, true, .int .i64 o.imps.length), (65, true, .int .i64 x)]) (fun x => st ++ (.box [.int .i64 0, .int .i64 0, .str [], .int .i64 0, .int .i64 0, .nils] :: .tip 26 (1) :: ([] ++ [.tip 26 (1 + x)]))) (fun x => o.imps.length - x) (fun x => x ≤ o.imps.length ∧ (0 : Nat) = 0) 0 rfl TT_ok ⟨Nat.zero_le _, rfl⟩ rfl rfl ?_
  rintro i ⟨hi2, -⟩
  rcases at_or_end o.imps i hi2 with ⟨rfl, hd⟩ | ⟨a, hlt, hget, hdr⟩
  ·simp only [gw2, qqE, ↓reduceIte, qqA, qqL, qqD, qqM, ite_self, lt_no]
   refine vdraw TT_ok TT_mixed [0, 0, 0, 0, 2, 0, 0, 2, 0, 0, 2, 0, 2] (by kernel_rfl) ?_
   simp only [bz15, gw2, qqE, ↓reduceIte, qqA, qqL, qqD, qqM, ite_self, List.take_length]
   refine eK_free (c_libof (Sd wImport :: o.imps.map showS)) (wkL_cons (by rw [lstD, List.map_cons, List.map_map]; exact wk_tok _ _ _) wkL_nil) ?_
   simp only [bz15, gw2, qqE, ↓reduceIte, qqA, qqL, qqD, qqM, ite_self]
   refine eK_free (c_libname wBegin) (wkL_refl _) ?_
   simp only [bz15, gw2, qqE, ↓reduceIte, qqA, qqL, qqD, qqM, ite_self]
   refine ⟨by omega, ?_⟩
   refine eK_free (c_libof (Sd wBegin :: o.body)) (wkL_cons (wk_tok _ _ _) wkL_nil) ?_
   simp only [bz15, gw2, qqE, ↓reduceIte, qqA, qqL, qqD, qqM, ite_self]
   refine eK_free (c_libof (showHead o ++ [Ld (Sd wImport :: o.imps.map showS), Ld (Sd wBegin :: o.body)])) (wkL_cons (hwk _) wkL_nil) ?_
   simp only [bz15, gw2, qqE, ↓reduceIte, qqA, qqL, qqD, qqM, ite_self]
   exact gives_of (wk_refl _) (wkSt_refl _) (by simp only [V.lt]; exact encD_lt _ _) hst
  ·simp only [bz15, gw2, qqE, ↓reduceIte, qqA, qqL, qqD, qqM, ite_self, lt_yes hlt, getD_map hget, Int.ofNat_lt.mpr hlt]
   refine (c_showSet a (okSs_mem his (List.mem_of_getElem? hget)) _).use (wkL_refl _) fun _ => ?_
   have ht : (o.imps.take i).length = i := by rw [List.length_take]; omega
   simp only [bz15, gw2, qqE, ↓reduceIte, qqA, qqL, qqD, qqM, ite_self, ht, Env.keep, next_i64 hlt hil]
   refine ⟨by omega, i + 1, ?_, ?_, by omega, hlt⟩
   ·rw [List.take_add_one, hget]
    simp
   ·rw [show 1 + (i + 1) = i + 2 by omega]
    try rfl
 ·simp only [gw2, qqE, ↓reduceIte, qqA, qqL, qqD, qqM, ite_self]
  refine vdraw TT_ok TT_mixed [0, 0, 0, 0, 0, 0, 0, 2, 0] (by kernel_rfl) ?_
  simp only [gw2, qqE, ↓reduceIte, qqA, qqL, qqD, qqM, ite_self]
  refine eK_free (c_libname wLibrary) (wkL_refl _) ?_
  simp only [gw2, qqE, ↓reduceIte, qqA, qqL, qqD, qqM, ite_self]
  refine eK_free (c_Split o.name (by omega)) (wkL_refl _) ?_
  simp only [gw2, qqE, ↓reduceIte, qqA, qqL, qqD, qqM, ite_self]
  refine eK_free (c_liball [] (splitP o.name) (by have := (splitP_len o.name).1; omega)) (wkL_refl _) ?_
  simp only [gw2, qqE, ↓reduceIte, qqA, qqL, qqD, qqM, ite_self, lstD, List.length_map, List.length_cons, List.map_cons, List.drop_succ_cons, List.drop_zero]
  refine ⟨by omega, ?_⟩
  refine eK_free (c_libof ((splitP o.name).map Sd)) (wkL_refl _) ?_
  simp only [bz17, gw2, qqE, ↓reduceIte, qqA, qqL, qqD, qqM, ite_self]
  refine (c_libname wExport _).use (wkL_refl _) fun _ => ?_
  simp only [bz17, gw2, qqE, ↓reduceIte, qqA, qqL, qqD, qqM, ite_self, rows2]
  have hel : o.exps.length ≤ 9223372036854775807 := by omega
  refine vforD (σ := Nat) [0, 1, 2, 3, 4, 25, 26, 27] (fun x => [(0, true, .agg [.str o.name, .lst 2 none (rows2 o.exps), .lst 6 none (o.imps.map encSet), .lst 6 none (o.body.map encD)]), (1, true, .ref [.str o.name, .lst 2 none (rows2 o.exps), .lst 6 none (o.imps.map encSet), .lst 6 none (o.body.map encD)]), (2, true, .ptr st.length 0), (3, true, .lst 6 (some (st.length + 1)) [encD (Sd wLibrary), encD (Ld ((splitP o.name).map Sd))]), (4, true, .lst 6 (some (st.length + 2)) (encD (Sd wExport) :: (o.exps.take x).map fun p => encD (showE p))), (25, true, .lst 2 none (rows2 o.exps)), (26, true, .int .i64 o.exps.length), (27, true, .int .i64 x)]) (fun x => st ++ [.box [.int .i64 0, .int .i64 0, .str [], .int .i64 0, .int .i64 0, .nils], .tip 26 2, .tip 26 (1 + x)]) (fun x => o.exps.length - x) (fun x => x ≤ o.exps.length ∧ (0 : Nat) = 0) 0 rfl TT_ok ⟨Nat.zero_le _, rfl⟩ (wkE_refl _) rfl ?_
  rintro i ⟨hi2, -⟩
  simp only [rows2]
  rcases at_or_end o.exps i hi2 with ⟨rfl, hd⟩ | ⟨a, hlt, hget, hdr⟩
  ·simp only [bz17, gw2, qqE, ↓reduceIte, qqA, qqL, qqD, qqM, ite_self, lt_no, List.take_length]
   refine (c_libof (Sd wExport :: o.exps.map showE) _).use (wkL_cons (by rw [lstD, List.map_cons, List.map_map]; exact wk_tok _ _ _) wkL_nil) fun _ => ?_
   simp only [bz17, gw2, qqE, ↓reduceIte, qqA, qqL, qqD, qqM, ite_self]
   refine (c_libname wImport _).use (wkL_refl _) fun _ => ?_
   simp only [bz17, gw2, qqE, ↓reduceIte, qqA, qqL, qqD, qqM, ite_self]
   have hh : showHead o = [Sd wLibrary, Ld ((splitP o.name).map Sd), Ld (Sd wExport :: o.exps.map showE)] := by rw [showHead, h1]; rfl
   have hwk : ∀ t, wk (.lst 6 t [encD (Sd wLibrary), encD (Ld ((splitP o.name).map Sd)), encD (Ld (Sd wExport :: o.exps.map showE)), encD (Ld (Sd wImport :: o.imps.map showS)), encD (Ld (Sd wBegin :: o.body))]) (lstD (showHead o ++ [Ld (Sd wImport :: o.imps.map showS), Ld (Sd wBegin :: o.body)])) := fun t => by rw [hh]; exact wk_tok _ _ _
   refine vfor (σ := Nat) [0, 1, 2, 3, 7, 64, 65] (fun x => [(0, true, .agg [.str o.name, .lst 2 none (rows2 o.exps), .lst 6 none (o.imps.map encSet), .lst 6 none (o.body.map encD)]), (1, true, .ref [.str o.name, .lst 2 none (rows2 o.exps), .lst 6 none (o.imps.map encSet), .lst 6 none (o.body.map encD)]), (2, true, .ptr st.length 0), (3, true, .lst 6 (some (st.length + 1)) ([encD (Sd wLibrary), encD (Ld ((splitP o.name).map Sd)), encD (Ld (Sd wExport :: o.exps.map showE))])), (7, true, .lst 6 (some (st.length + 3)) (encD (Sd wImport) :: (o.imps.take x).map fun s => encD (showS s))), (64, true, .int .i64 o.imps.length), (65, true, .int .i64 x)]) (fun x => st ++ (.box [.int .i64 0, .int .i64 0, .str [], .int .i64 0, .int .i64 0, .nils] :: .tip 26 (3) :: ([.tip 26 (1 + o.exps.length)] ++ [.tip 26 (1 + x)]))) (fun x => o.imps.length - x) (fun x => x ≤ o.imps.length ∧ (0 : Nat) = 0) 0 rfl TT_ok ⟨Nat.zero_le _, rfl⟩ rfl rfl ?_
   rintro i ⟨hi2, -⟩
   rcases at_or_end o.imps i hi2 with ⟨rfl, hd⟩ | ⟨a, hlt, hget, hdr⟩
   ·simp only [gw2, qqE, ↓reduceIte, qqA, qqL, qqD, qqM, ite_self, lt_no]
    refine vdraw TT_ok TT_mixed [0, 0, 0, 0, 2, 0, 0, 2, 0, 0, 2, 0, 2] (by kernel_rfl) ?_
    simp only [bz15, gw2, qqE, ↓reduceIte, qqA, qqL, qqD, qqM, ite_self, List.take_length, List.singleton_append]
    refine eK_free (c_libof (Sd wImport :: o.imps.map showS)) (wkL_cons (by rw [lstD, List.map_cons, List.map_map]; exact wk_tok _ _ _) wkL_nil) ?_
    simp only [bz15, gw2, qqE, ↓reduceIte, qqA, qqL, qqD, qqM, ite_self, List.singleton_append]
    refine eK_free (c_libname wBegin) (wkL_refl _) ?_
    simp only [bz15, gw2, qqE, ↓reduceIte, qqA, qqL, qqD, qqM, ite_self, List.singleton_append]
    refine ⟨by omega, ?_⟩
    refine eK_free (c_libof (Sd wBegin :: o.body)) (wkL_cons (wk_tok _ _ _) wkL_nil) ?_
    simp only [bz15, gw2, qqE, ↓reduceIte, qqA, qqL, qqD, qqM, ite_self, List.singleton_append]
    refine eK_free (c_libof (showHead o ++ [Ld (Sd wImport :: o.imps.map showS), Ld (Sd wBegin :: o.body)])) (wkL_cons (hwk _) wkL_nil) ?_
    simp only [bz15, gw2, qqE, ↓reduceIte, qqA, qqL, qqD, qqM, ite_self, List.singleton_append]
    exact gives_of (wk_refl _) (wkSt_refl _) (by simp only [V.lt]; exact encD_lt _ _) hst
   ·simp only [bz15, gw2, qqE, ↓reduceIte, qqA, qqL, qqD, qqM, ite_self, lt_yes hlt, getD_map hget, Int.ofNat_lt.mpr hlt, List.singleton_append]
    refine (c_showSet a (okSs_mem his (List.mem_of_getElem? hget)) _).use (wkL_refl _) fun _ => ?_
    have ht : (o.imps.take i).length = i := by rw [List.length_take]; omega
    simp only [bz15, gw2, qqE, ↓reduceIte, qqA, qqL, qqD, qqM, ite_self, ht, Env.keep, next_i64 hlt hil, List.singleton_append]
    refine ⟨by omega, i + 1, ?_, ?_, by omega, hlt⟩
    ·rw [List.take_add_one, hget]
     simp
    ·rw [show 1 + (i + 1) = i + 2 by omega]
     try rfl
  ·simp only [bz17, gw2, qqE, ↓reduceIte, qqA, qqL, qqD, qqM, ite_self, lt_yes hlt, getD_map hget, Int.ofNat_lt.mpr hlt, encF2]
   have ht : (o.exps.take i).length = i := by rw [List.length_take]; omega
   refine iK_split (fun h2 => ?_) (fun h2 => ?_)
   ·simp only [gw2, qqE, ↓reduceIte, qqA, qqL, qqD, qqM, ite_self]
    refine (c_libname a.1 _).use (wkL_refl _) fun _ => ?_
    simp only [bz17, gw2, qqE, ↓reduceIte, qqA, qqL, qqD, qqM, ite_self, ht]
    have h4 : ((o.exps.take (i + 1)).map fun p => encD (showE p)) = ((o.exps.take i).map fun p => encD (showE p)) ++ [encD (Sd a.1)] := by
     rw [List.take_add_one, hget]; simp [showE, h2]
    refine ⟨⟨by omega, by omega⟩, i + 1, ⟨?_, st ++ [.box [.int .i64 0, .int .i64 0, .str [], .int .i64 0, .int .i64 0, .nils], .tip 26 2, .tip 26 (i + 2)], [.box [.str a.1, .str a.2]], by simp, by rw [show 1 + (i + 1) = i + 2 by omega]; exact wkSt_refl _, ?_, ok_app hst (by simp [ltEs, Ent.lt, ltL, V.lt]), by simp⟩, by omega, hlt⟩
    ·simp only [gw0, qqE, ↓reduceIte, qqA, qqL, qqD, qqM, Env.keep, next_i64 hlt hel]
     rw [h4]
     exact wkE_refl _
    ·have q1 := encLib_lt (st.length + 3) o
     have q2 := lstD_lt (st.length + 3) [Sd wLibrary, Ld ((splitP o.name).map Sd)]
     have q3 := lstD_lt (st.length + 3) (Sd wExport :: (o.exps.take (i + 1)).map showE)
     have q4 := rows2_lt (st.length + 3) o.exps
     simp only [encLib, rows2, ltL, V.lt, lstD, List.map_cons, List.map_nil, List.map_map, Function.comp_def] at q1 q2 q3 q4
     simp only [ltE, V.lt, ltL, gwL, rows2]
     exact ⟨q1, q1, by omega, ⟨fun e h => by cases h; omega, q2.2⟩, ⟨fun e h => by cases h; omega, q3.2⟩, q1.2.1, trivial, trivial, trivial⟩
   ·simp only [gw2, qqE, ↓reduceIte, qqA, qqL, qqD, qqM, ite_self]
    refine vstageT TT_ok TT_mixed (σ := Unit) [st ++ [.box [.int .i64 0, .int .i64 0, .str [], .int .i64 0, .int .i64 0, .nils], .tip 26 2, .tip 26 (1 + i), .box [.str a.1, .str a.2]], st ++ [.box [.int .i64 0, .int .i64 0, .str [], .int .i64 0, .int .i64 0, .nils], .tip 26 2, .tip 26 (i + 2), .box [.str a.1, .str a.2]]] [0, 0, 0, 3, 0, 0, 3, 0, 0, 0, 0, 4, 0] [0, 1, 2, 3, 4, 5, 6, 7, 8, 9, 10, 11, 12] [] [] [0, 1, 2, 3, 4, 6, 25, 26, 27] (fun _x => [(0, true, .agg [.str o.name, .lst 2 none (rows2 o.exps), .lst 6 none (o.imps.map encSet), .lst 6 none (o.body.map encD)]), (1, true, .ref [.str o.name, .lst 2 none (rows2 o.exps), .lst 6 none (o.imps.map encSet), .lst 6 none (o.body.map encD)]), (2, true, .ptr st.length 0), (3, true, .lst 6 (some (st.length + 1)) [encD (Sd wLibrary), encD (Ld ((splitP o.name).map Sd))]), (4, true, .lst 6 (some (st.length + 2)) (encD (Sd wExport) :: ((o.exps.take i).map fun p => encD (showE p)) ++ [encD (Ld [Sd wRename, Sd a.2, Sd a.1])])), (6, true, .ptr (st.length + 3) 0), (25, true, .lst 2 none (rows2 o.exps)), (26, true, .int .i64 o.exps.length), (27, true, .int .i64 i)]) (fun _x => st ++ [.box [.int .i64 0, .int .i64 0, .str [], .int .i64 0, .int .i64 0, .nils], .tip 26 2, .tip 26 (i + 2), .box [.str a.1, .str a.2]]) (fun _x => True) rfl (by kernel_rfl) ?_ ?_
    ·simp only [bz17, gw2, qqE, ↓reduceIte, qqA, qqL, qqD, qqM, ite_self, ht]
     refine eK3_free (c_libname wRename) (wkL_refl _) ?_
     simp only [bz17, gw2, qqE, ↓reduceIte, qqA, qqL, qqD, qqM, ite_self, ht]
     refine eK3_free (c_libname a.2) (wkL_refl _) ?_
     simp only [bz17, gw2, qqE, ↓reduceIte, qqA, qqL, qqD, qqM, ite_self, ht]
     refine eK3_free (c_libname a.1) (wkL_refl _) ?_
     simp only [bz17, gw2, qqE, ↓reduceIte, qqA, qqL, qqD, qqM, ite_self, ht]
     refine eK3_free (c_libof [Sd wRename, Sd a.2, Sd a.1]) (wkL_refl _) ?_
     simp only [bz17, gw2, qqE, ↓reduceIte, qqA, qqL, qqD, qqM, ite_self, ht, List.mem_cons, true_or, or_true, show 1 + i + 1 = i + 2 by omega]
     exact ⟨⟨by omega, by omega⟩, rfl, rfl, (), rfl, rfl, trivial⟩
    rintro - -
    simp only [gw2, qqE, ↓reduceIte, qqA, qqL, qqD, qqM, ite_self]
    have h4 : ((o.exps.take (i + 1)).map fun p => encD (showE p)) = ((o.exps.take i).map fun p => encD (showE p)) ++ [encD (Ld [Sd wRename, Sd a.2, Sd a.1])] := by
     rw [List.take_add_one, hget]; simp [showE, h2]
    refine ⟨i + 1, ⟨?_, st ++ [.box [.int .i64 0, .int .i64 0, .str [], .int .i64 0, .int .i64 0, .nils], .tip 26 2, .tip 26 (i + 2)], [.box [.str a.1, .str a.2]], by simp, by rw [show 1 + (i + 1) = i + 2 by omega]; exact wkSt_refl _, ?_, ok_app hst (by simp [ltEs, Ent.lt, ltL, V.lt]), by simp⟩, by omega, hlt⟩
    ·simp only [gw0, qqE, ↓reduceIte, qqA, qqL, qqD, qqM, Env.keep, next_i64 hlt hel]
     rw [h4]
     exact wkE_refl _
    ·have q1 := encLib_lt (st.length + 3) o
     have q2 := lstD_lt (st.length + 3) [Sd wLibrary, Ld ((splitP o.name).map Sd)]
     have q3 := lstD_lt (st.length + 3) (Sd wExport :: (o.exps.take (i + 1)).map showE)
     have q4 := rows2_lt (st.length + 3) o.exps
     simp only [encLib, rows2, ltL, V.lt, lstD, List.map_cons, List.map_nil, List.map_map, Function.comp_def] at q1 q2 q3 q4
     simp only [ltE, V.lt, ltL, gwL, rows2]
     exact ⟨q1, q1, by omega, ⟨fun e h => by cases h; omega, q2.2⟩, ⟨fun e h => by cases h; omega, q3.2⟩, q1.2.1, trivial, trivial, trivial⟩
set_option linter.unusedVariables false
theorem lib_ok {w : Wd} {d : Datum} (h : (parseP w d).2 = 0) : (topP w d).2 = 0 ∧ parseP w d = topP w d := by
 unfold parseP at h ⊢
 cases e1 : decide ((wrongL [d] 0 0).1 = 0) with
 | false => rw [e1] at h; exact absurd h (of_decide_eq_false e1)
 | true =>
  rw [e1] at h
  simp only [Bool.not_true, cond_false] at h ⊢
  cases e2 : decide ((30 : Int) < w.files.length) with
  | true => rw [e2] at h; simp at h
  | false =>
   rw [e2] at h
   simp only [cond_false] at h ⊢
   cases e3 : decide ((topP w d).2 = 0) with
   | false => rw [e3] at h; exact absurd h (of_decide_eq_false e3)
   | true => exact ⟨of_decide_eq_true e3, rfl⟩
theorem thenE_inv {α β : Type} {x : α × Int} {z : β} {f : α → β × Int} (h : (thenE x z f).2 = 0) : x.2 = 0 ∧ thenE x z f = f x.1 := by
 by_cases e : x.2 = 0
 ·exact ⟨e, thenE_ok e⟩
 ·rw [thenE_bad e] at h; exact absurd h e
theorem syms_map : ∀ (l : List Str) (acc : List Str), symsP (l.map Sd) acc = (acc ++ l, 0)
 | [], acc => by simp [symsP]
 | s :: r, acc => by
  rw [List.map_cons, symsP]
  rw [show symP (Sd s) = (s, 0) from rfl]
  simp only [decide_true, cond_true]
  rw [syms_map r]
  simp
theorem called_len {d : Datum} (h : (calledP d).2 = 0) : (calledP d).1.length ≤ 60 := by
 unfold calledP at h ⊢
 obtain ⟨_, e1⟩ := thenE_inv h
 rw [e1] at h ⊢
 obtain ⟨_, e2⟩ := thenE_inv h
 rw [e2] at h ⊢
 revert h
 cases e : decide (60 < (joinP (symsP (listP 1 d).1 []).1).length) with
 | true => intro h; simp at h
 | false => intro _; simpa using e
theorem called_show {s : Str} (h : s.length ≤ 60) : calledP (Ld ((splitP s).map Sd)) = (s, 0) := by
 unfold calledP
 rw [list_L (by rw [List.length_map]; have := List.length_pos_iff.2 (splitP_ne s); omega), thenE_ok rfl]
 rw [syms_map, thenE_ok rfl]
 simp only [List.nil_append, join_split]
 rw [decide_eq_false (by omega)]; rfl
theorem syms_len {l : List Datum} (h : (symsP l []).2 = 0) : (symsP l []).1.length = l.length := by
 have := symsP_len l [] h
 simpa using this
/-- Pairs of names that are told anew. -/
theorem ren_show : ∀ (l : List Datum) (a b : List Str) (x y : List Str), renP l a b = ((x, y), 0) → ∃ u v : List Str, x = a ++ u ∧ y = b ++ v ∧ u.length = v.length ∧ u.length = l.length
 | [], a, b, x, y, h => by
  simp only [renP, Prod.mk.injEq, and_true] at h
  exact ⟨[], [], by simp [h.1], by simp [h.2], rfl, rfl⟩
 | p :: r, a, b, x, y, h => by
  rw [renP] at h
  have h0 := congrArg Prod.snd h
  obtain ⟨_, e1⟩ := thenE_inv h0
  rw [e1] at h
  have h0 := congrArg Prod.snd h
  obtain ⟨_, e2⟩ := thenE_inv h0
  rw [e2] at h
  have h0 := congrArg Prod.snd h
  revert h h0
  generalize (symsP (listP 2 p).1 []).1 = two
  intro h h0
  match two, h, h0 with
  | [x1, y1], h, h0 =>
   obtain ⟨u, v, k1, k2, k3, k4⟩ := ren_show r _ _ _ _ h
   exact ⟨x1 :: u, y1 :: v, by simp [k1], by simp [k2], by simp [k3], by simp [k4]⟩
  | [], h, h0 => simp at h0
  | [_], h, h0 => simp at h0
  | _ :: _ :: _ :: _, h, h0 => simp at h0
theorem ren_back : ∀ (u v : List Str) (a b : List Str), u.length = v.length → renP (List.zipWith showR u v) a b = ((a ++ u, b ++ v), 0)
 | [], [], a, b, _ => by simp [renP]
 | [], _ :: _, _, _, h => by simp at h
 | _ :: _, [], _, _, h => by simp at h
 | x :: u, y :: v, a, b, h => by
  rw [List.zipWith_cons_cons, renP]
  unfold showR
  rw [list_L (by simp), thenE_ok rfl]
  rw [show symsP [Sd x, Sd y] [] = ([x, y], 0) from syms_map [x, y] [], thenE_ok rfl]
  simp only
  have := ren_back u v (a ++ [x]) (b ++ [y]) (by simpa using h)
  unfold showR at this
  rw [this]
  simp
theorem kind_H (s : Set') : kindOf (showS s) = 4 := by
 cases s with
 | mk k n ns az p kids =>
  rw [showS]
  cases decide (k = 1) <;> rfl
theorem set_kind (k : Int) (h2 : 2 ≤ k) (h5 : k ≤ 5) (x : Datum) (hx : kindOf x = 4) (r : List Datum) : setKind (Sd (wordOf k) :: x :: r) = k := by
 have : k = 2 ∨ k = 3 ∨ k = 4 ∨ k = 5 := by omega
 unfold setKind
 simp only [hx, decide_true, Bool.true_and]
 rcases this with rfl | rfl | rfl | rfl <;> rfl
theorem set_words (s : Str) : setKind ((splitP s).map Sd) < 2 := by
 cases splitP s with
 | nil => simp [setKind]
 | cons a r =>
  cases r with
  | nil => simp [setKind]
  | cons b r => simp [setKind, Sd, kindOf]
theorem idx4 (s : Str) : idxOf s 0 [wOnly, wExcept, wPrefix, wRename] ≤ 3 := by
 simp only [idxOf]
 cases decide (s = wOnly) <;> cases decide (s = wExcept) <;> cases decide (s = wPrefix) <;> cases decide (s = wRename) <;> simp
theorem setKind_le (l : List Datum) : setKind l ≤ 5 := by
 unfold setKind
 split
 ·rename_i a b r
  cases (decide (kindOf b = 4) && decide (kindOf a = 3)) with
  | false => simp
  | true => have := idx4 (nameOf a); simp only [cond_true]; omega
 ·omega
/-- A set that was told is told again by what it is shown as. -/
theorem set_show : ∀ (f : Nat) (d : Datum), okM d → (setP f d).2 = 0 → setP f (showS (setP f d).1) = ((setP f d).1, 0) ∧ okS (setP f d).1
 | 0, d, _, h => by simp [setP] at h
 | f + 1, d, hm, h => by
  generalize hs : setP (f + 1) d = R at h ⊢
  rw [setP] at hs
  obtain ⟨e0, e1⟩ := thenE_inv (x := listP 1 d) (by rw [hs]; exact h)
  rw [e1] at hs
  clear e1
  generalize hl : (listP 1 d).1 = l at hs
  have hll : l.length ≤ 2000 ∧ okMs l := by
   obtain ⟨k, n, nm, s, lb, kids⟩ := d
   rw [← hl]
   rw [okM] at hm
   simp only [listP] at e0 ⊢
   cases e : (!decide (k = 4) || decide (kids.length < 1)) with
   | true => rw [e] at e0; simp at e0
   | false =>
    simp only [cond_false]
    simp only [Bool.or_eq_false_iff, Bool.not_eq_false', decide_eq_true_eq] at e
    exact hm.2 e.1
  cases hk : decide (setKind l < 2) with
  | true =>
   rw [hk, cond_true] at hs
   obtain ⟨c0, c1⟩ := thenE_inv (x := calledP d) (by rw [hs]; exact h)
   rw [c1] at hs
   subst hs
   have hc := called_len c0
   generalize (calledP d).1 = s at hc ⊢
   refine ⟨?_, by rw [okS]; exact ⟨by omega, by simp, fun h => absurd rfl h, trivial⟩⟩
   have hs : showS (.mk 1 s [] [] [] []) = Ld ((splitP s).map Sd) := by rw [showS]; rfl
   simp only
   rw [hs, setP, list_L (by rw [List.length_map]; have := List.length_pos_iff.2 (splitP_ne s); omega), thenE_ok rfl]
   simp only
   rw [decide_eq_true (set_words s), cond_true, called_show hc, thenE_ok rfl]
  | false =>
   rw [hk, cond_false] at hs
   have hk2 : 2 ≤ setKind l := by have := of_decide_eq_false hk; omega
   have hk5 := setKind_le l
   obtain ⟨c0, c1⟩ := thenE_inv (x := setP f (l.getD 1 (.mk 0 0 [] 0 0 []))) (by rw [hs]; exact h)
   rw [c1] at hs
   clear c1
   have hm1 : okM (l.getD 1 (.mk 0 0 [] 0 0 [])) := by
    rw [List.getD_eq_getElem?_getD]
    cases hg : l[1]? with
    | none => simp [okM]
    | some x => exact okMs_mem hll.2 (List.mem_of_getElem? hg)
   obtain ⟨i1, i2⟩ := set_show f _ hm1 c0
   generalize (setP f (l.getD 1 (.mk 0 0 [] 0 0 []))).1 = kd at hs i1 i2
   have hok : ∀ ns az p, ns.length ≤ 2000 → (setKind l = 5 → az.length = ns.length) → okS (.mk (setKind l) [] ns az p [kd]) := fun ns az p h1 h2 => by
    rw [okS]
    exact ⟨by simp, by omega, fun _ => ⟨hk2, hk5, by simp, h2⟩, i2, trivial⟩
   have hsh : ∀ (ns az : List Str) (p : Str) (tl : List Datum), tl = (bif decide (setKind l = 4) then [Sd p] else bif decide (setKind l = 5) then List.zipWith showR ns az else ns.map Sd) →
     ∀ g : Int, setKind l = g → setP (f + 1) (showS (.mk g [] ns az p [kd])) = bif decide (g = 4) then (bif !decide (tl.length = 1) then (noSet, 2) else thenE (symP (tl.getD 0 (.mk 0 0 [] 0 0 []))) noSet fun p => (.mk g [] [] [] p [kd], 0))
   else bif decide (g = 5) then thenE (renP tl [] []) noSet fun r => (.mk g [] r.1 r.2 [] [kd], 0)
   else thenE (symsP tl []) noSet fun ns => (.mk g [] ns [] [] [kd], 0) := fun ns az p tl htl g hg => by
    subst hg
    have e : showS (.mk (setKind l) [] ns az p [kd]) = Ld (Sd (wordOf (setKind l)) :: showS kd :: tl) := by
     rw [showS, decide_eq_false (by omega), cond_false, htl, showH]
    rw [e, setP, list_L (by simp), thenE_ok rfl]
    simp only
    rw [set_kind _ hk2 hk5 _ (kind_H kd), decide_eq_false (by omega), cond_false]
    simp only [bz29, List.drop_succ_cons, List.drop_zero, List.length_cons]
    rw [i1, thenE_ok rfl]
    have : decide (tl.length + 1 + 1 = 3) = decide (tl.length = 1) := by
     by_cases h : tl.length = 1
     ·rw [decide_eq_true h, decide_eq_true (by omega)]
     ·rw [decide_eq_false h, decide_eq_false (by omega)]
    rw [this]
   cases h4 : decide (setKind l = 4) with
   | true =>
    rw [h4, cond_true] at hs
    cases h3 : decide (l.length = 3) with
    | false => rw [h3] at hs; subst hs; simp at h
    | true =>
     rw [h3, Bool.not_true, cond_false] at hs
     obtain ⟨s0, s1⟩ := thenE_inv (x := symP (l.getD 2 (.mk 0 0 [] 0 0 []))) (by rw [hs]; exact h)
     rw [s1] at hs
     subst hs
     generalize (symP (l.getD 2 (.mk 0 0 [] 0 0 []))).1 = p
     refine ⟨?_, hok [] [] p (by simp) fun _ => rfl⟩
     simp only
     rw [hsh [] [] p [Sd p] (by rw [h4]; rfl) _ rfl, h4]
     rfl
   | false =>
    rw [h4, cond_false] at hs
    cases h5 : decide (setKind l = 5) with
    | true =>
     rw [h5, cond_true] at hs
     obtain ⟨s0, s1⟩ := thenE_inv (x := renP (l.drop 2) [] []) (by rw [hs]; exact h)
     rw [s1] at hs
     subst hs
     obtain ⟨u, v, k1, k2, k3, k4⟩ := ren_show (l.drop 2) [] [] (renP (l.drop 2) [] []).1.1 (renP (l.drop 2) [] []).1.2 (Prod.ext rfl s0)
     rw [List.nil_append] at k1 k2
     have hul : u.length ≤ 2000 := by rw [k4, List.length_drop]; omega
     simp only
     rw [k1, k2]
     refine ⟨?_, hok u v [] hul fun _ => k3.symm⟩
     rw [hsh u v [] (List.zipWith showR u v) (by rw [h4, h5]; rfl) _ rfl, h4, h5, ren_back u v [] [] k3]
     rfl
    | false =>
     rw [h5, cond_false] at hs
     obtain ⟨s0, s1⟩ := thenE_inv (x := symsP (l.drop 2) []) (by rw [hs]; exact h)
     rw [s1] at hs
     subst hs
     have hul : (symsP (l.drop 2) []).1.length ≤ 2000 := by rw [syms_len s0, List.length_drop]; omega
     generalize (symsP (l.drop 2) []).1 = ns at hul
     refine ⟨?_, hok ns [] [] hul fun e => absurd e (of_decide_eq_false h5)⟩
     simp only
     rw [hsh ns [] [] (ns.map Sd) (by rw [h4, h5]; rfl) _ rfl, h4, h5, syms_map]
     rfl
/-- No name is brought out twice. -/
def oneE : Prs → Prs → Bool
 | _, [] => true
 | acc, p :: r => !(acc.any fun q => decide (q.1 = p.1)) && oneE (acc ++ [p]) r
theorem oneE_snoc : ∀ (acc l : Prs) (p : Str × Str), oneE acc (l ++ [p]) = (oneE acc l && !((acc ++ l).any fun q => decide (q.1 = p.1)))
 | acc, [], p => by simp [oneE]
 | acc, q :: r, p => by
  rw [List.cons_append, oneE, oneE, oneE_snoc (acc ++ [q]) r p]
  simp [Bool.and_assoc]
def showable (s : Set') : Prop := setP 12 (showS s) = (s, 0) ∧ okS s
/-- A library as far as it may be made. -/
structure Good (o : Lib') : Prop where
 exps : o.exps.length ≤ 200
 one : oneE [] o.exps = true
 imps : o.imps.length ≤ 20
 sets : ∀ s ∈ o.imps, showable s
 body : o.body.length ≤ 200
 none : o.name = [] → o.exps = []
theorem good_body {l : List Datum} {o : Lib'} (h : Good o) : Good (bodyL l o).1 := by
 unfold bodyL
 cases e : decide (200 < o.body.length + l.length) with
 | true => exact h
 | false => exact ⟨h.exps, h.one, h.imps, h.sets, by simp only [cond_false, List.length_append]; have := of_decide_eq_false e; omega, h.none⟩
theorem good_export : ∀ (l : List Datum) {o : Lib'}, o.name ≠ [] → Good o → Good (exportP l o).1
 | [], o, hn, h => h
 | d :: r, o, hn, h => by
  rw [exportP_cons]
  cases e1 : decide ((exportOne d).2 = 0) with
  | false => exact h
  | true =>
   simp only [cond_true]
   cases e2 : o.exps.any fun p => decide (p.1 = (exportOne d).1.1) with
   | true => exact h
   | false =>
    simp only [cond_false]
    cases e3 : decide (o.exps.length = 200) with
    | true => exact h
    | false =>
     simp only [cond_false]
     refine good_export r hn ⟨?_, ?_, h.imps, h.sets, h.body, fun e => absurd e hn⟩
     ·have := h.exps; have := of_decide_eq_false e3; simp only [bz33]; omega
     ·simp only [oneE_snoc, h.one, List.nil_append, e2]; rfl
theorem good_import : ∀ (l : List Datum) {o : Lib'}, okMs l → Good o → Good (importP l o).1
 | [], o, hm, h => h
 | d :: r, o, hm, h => by
  rw [okMs] at hm
  rw [importP_cons]
  cases e1 : decide (o.imps.length = 20) with
  | true => exact h
  | false =>
   simp only [cond_false]
   cases e2 : decide ((setP 12 d).2 = 0) with
   | false => exact h
   | true =>
    simp only [cond_true]
    have hs := set_show 12 d hm.1 (of_decide_eq_true e2)
    refine good_import r hm.2 ⟨h.exps, h.one, ?_, fun s hs2 => ?_, h.body, h.none⟩
    ·have := h.imps; have := of_decide_eq_false e1; simp only [bz33]; omega
    ·rcases List.mem_append.1 hs2 with hs2 | hs2
     ·exact h.sets s hs2
     ·rw [List.mem_singleton.1 hs2]; exact hs
theorem good_include (w : Wd) : ∀ (l : List Datum) {o : Lib'}, Good o → Good (includeP w l o).1
 | [], o, h => h
 | d :: r, o, h => by
  rw [includeP_cons]
  cases e1 : decide ((symP d).2 = 0) with
  | false => exact h
  | true =>
   simp only [cond_true]
   cases fileOf (symP d).1 w.files with
   | none => exact h
   | some t =>
    simp only
    cases readR t with
    | inl f => exact h
    | inr k =>
     simp only
     cases decide ((bodyL k o).2 = 0) with
     | false => exact good_body h
     | true => exact good_include w r (good_body h)
theorem name_body (l : List Datum) (o : Lib') : (bodyL l o).1.name = o.name := by
 unfold bodyL; cases decide (200 < o.body.length + l.length) <;> rfl
theorem name_import : ∀ (l : List Datum) (o : Lib'), (importP l o).1.name = o.name
 | [], o => rfl
 | d :: r, o => by
  rw [importP_cons]
  cases decide (o.imps.length = 20) with
  | true => rfl
  | false =>
   simp only [cond_false]
   cases decide ((setP 12 d).2 = 0) with
   | false => rfl
   | true => exact name_import r _
theorem name_include (w : Wd) : ∀ (l : List Datum) (o : Lib'), (includeP w l o).1.name = o.name
 | [], o => rfl
 | d :: r, o => by
  rw [includeP_cons]
  cases decide ((symP d).2 = 0) with
  | false => rfl
  | true =>
   simp only [cond_true]
   cases fileOf (symP d).1 w.files with
   | none => rfl
   | some t =>
    simp only
    cases readR t with
    | inl f => rfl
    | inr k =>
     simp only
     cases decide ((bodyL k o).2 = 0) with
     | false => exact name_body k o
     | true => rw [cond_true, name_include w r, name_body]
mutual
theorem good_decl (w : Wd) : ∀ (d : Datum) (o : Lib'), okM d → Good o → Good (declD w d o).1 ∧ (declD w d o).1.name = o.name
 | .mk k n nm s l [], o, hm, h => by
  rw [declD_eq]
  cases decide (k = 4) with
  | true => exact ⟨h, rfl⟩
  | false => exact ⟨h, rfl⟩
 | .mk k n nm s l (hd :: t), o, hm, h => by
  rw [declD_eq]
  rw [okM] at hm
  cases e1 : decide (k = 4) with
  | false => exact ⟨h, rfl⟩
  | true =>
   have hmt : okMs t := by
    have := (hm.2 (of_decide_eq_true e1)).2
    rw [okMs] at this
    exact this.2
   simp only [Bool.not_true, cond_false]
   cases e2 : decide ((symP hd).2 = 0) with
   | false => exact ⟨h, rfl⟩
   | true =>
    simp only [Bool.not_true, cond_false]
    cases decide ((symP hd).1 = wExport) with
    | true =>
     simp only [cond_true]
     cases e4 : decide (o.name = []) with
     | true => exact ⟨h, rfl⟩
     | false => exact ⟨good_export t (of_decide_eq_false e4) h, export_name t o⟩
    | false =>
     simp only [cond_false]
     cases decide ((symP hd).1 = wImport) with
     | true => exact ⟨good_import t hmt h, name_import t o⟩
     | false =>
      simp only [cond_false]
      cases decide ((symP hd).1 = wBegin) with
      | true => exact ⟨good_body h, name_body t o⟩
      | false =>
       simp only [cond_false]
       cases decide ((symP hd).1 = wInclude) with
       | true => exact ⟨good_include w t h, name_include w t o⟩
       | false =>
        simp only [cond_false]
        cases decide ((symP hd).1 = wCond) with
        | true => exact good_cond w t o hmt h
        | false => exact ⟨h, rfl⟩
theorem good_decls (w : Wd) : ∀ (l : List Datum) (o : Lib'), okMs l → Good o → Good (declsL w l o).1 ∧ (declsL w l o).1.name = o.name
 | [], o, hm, h => ⟨h, rfl⟩
 | d :: r, o, hm, h => by
  rw [okMs] at hm
  rw [declsL_cons]
  have h1 := good_decl w d o hm.1 h
  cases decide ((declD w d o).2 = 0) with
  | false => exact h1
  | true =>
   have h2 := good_decls w r _ hm.2 h1.1
   exact ⟨h2.1, h2.2.trans h1.2⟩
theorem good_cond (w : Wd) : ∀ (l : List Datum) (o : Lib'), okMs l → Good o → Good (condL w l o).1 ∧ (condL w l o).1.name = o.name
 | [], o, hm, h => ⟨h, rfl⟩
 | .mk k n nm s l [] :: r, o, hm, h => by
  rw [condL_cons]
  cases decide (k = 4) with
  | true => exact ⟨h, rfl⟩
  | false => exact ⟨h, rfl⟩
 | .mk k n nm s l (hd :: t) :: r, o, hm, h => by
  rw [condL_cons]
  rw [okMs, okM] at hm
  cases e1 : decide (k = 4) with
  | false => exact ⟨h, rfl⟩
  | true =>
   have hmt : okMs t := by
    have := (hm.1.2 (of_decide_eq_true e1)).2
    rw [okMs] at this
    exact this.2
   simp only [Bool.not_true, cond_false]
   cases isElse hd with
   | true => exact good_decls w t o hmt h
   | false =>
    simp only [cond_false]
    cases decide ((holdsD w hd).2 = 0) with
    | false => exact ⟨h, rfl⟩
    | true =>
     simp only [Bool.not_true, cond_false]
     cases (holdsD w hd).1 with
     | true => exact good_decls w t o hmt h
     | false => exact good_cond w r o hm.2 h
end
theorem shape_kids {k n : Int} {nm : Str} {s lb : Int} {kids : List Datum} {deep c : Int} (hk : k = 4) (h : (shapeD (.mk k n nm s lb kids) deep c).1 = 0) : (shapeDs kids (deep + 1) (c + 1)).1 = 0 := by
 subst hk
 unfold shapeD at h
 cases e : decide (2000 < c + 1) || decide (40 < deep) with
 | true => rw [e] at h; simp at h
 | false => rw [e] at h; simpa using h
theorem shapes_mem : ∀ {l : List Datum} {deep c : Int}, (shapeDs l deep c).1 = 0 → ∀ x ∈ l, ∃ c', (shapeD x deep c').1 = 0
 | d :: r, deep, c, h, x, hx => by
  rw [shapes_cons] at h
  cases e : decide ((shapeD d deep c).1 = 0) with
  | false => rw [e] at h; exact absurd h (of_decide_eq_false e)
  | true =>
   rw [e] at h
   rcases List.mem_cons.1 hx with rfl | hx
   ·exact ⟨c, of_decide_eq_true e⟩
   ·exact shapes_mem h x hx
/-- What was parsed is well made. -/
theorem parse_good {w : Wd} {d : Datum} {o : Lib'} (h : parseP w d = (o, 0)) : Good o ∧ o.name.length ≤ 60 := by
 have hw : (wrongL [d] 0 0).1 = 0 := by
  unfold parseP at h
  cases e : decide ((wrongL [d] 0 0).1 = 0) with
  | true => exact of_decide_eq_true e
  | false => rw [e] at h; have := congrArg Prod.snd h; exact absurd this (of_decide_eq_false e)
 have hm := wrongL_okM hw
 rw [wrong_one] at hw
 obtain ⟨t0, t1⟩ := lib_ok (w := w) (d := d) (by rw [h])
 rw [h] at t1
 unfold topP at t1
 obtain ⟨e0, e1⟩ := thenE_inv (x := listP 1 d) (by rw [← t1])
 rw [e1] at t1
 obtain ⟨f0, f1⟩ := thenE_inv (x := symP ((listP 1 d).1.getD 0 (.mk 0 0 [] 0 0 []))) (by rw [← t1])
 rw [f1] at t1
 have hg0 : ∀ n, (n = [] → True) → Good { noLib with name := n } := fun n _ => ⟨by simp [noLib], rfl, by simp [noLib], by simp [noLib], by simp [noLib], fun _ => rfl⟩
 have hkids : kindOf d = 4 ∧ okMs (listP 1 d).1 ∧ ∀ x ∈ (listP 1 d).1, ∃ c', (shapeD x 2 c').1 = 0 := by
  obtain ⟨k, n, nm, s, lb, kids⟩ := d
  simp only [listP, kindOf] at e0 ⊢
  rw [okM] at hm
  cases e : (!decide (k = 4) || decide (kids.length < 1)) with
  | true => rw [e] at e0; simp at e0
  | false =>
   simp only [cond_false]
   simp only [Bool.or_eq_false_iff, Bool.not_eq_false', decide_eq_true_eq, decide_eq_false_iff_not] at e
   exact ⟨e.1, (hm.2 e.1).2, shapes_mem (shape_kids e.1 hw)⟩
 have hdrop : ∀ (n : Nat) (l : List Datum), okMs l → okMs (l.drop n) := by
  intro n
  induction n with
  | zero => intro l h; simpa using h
  | succ n ih =>
   intro l h
   cases l with
   | nil => simpa using h
   | cons a r => rw [List.drop_succ_cons]; rw [okMs] at h; exact ih r h.2
 cases g1 : decide ((symP ((listP 1 d).1.getD 0 (.mk 0 0 [] 0 0 []))).1 = wLibrary) with
 | true =>
  rw [g1, cond_true] at t1
  obtain ⟨i0, i1⟩ := thenE_inv (x := listP 2 d) (by rw [← t1])
  rw [i1] at t1
  obtain ⟨j0, j1⟩ := thenE_inv (x := calledP ((listP 2 d).1.getD 1 (.mk 0 0 [] 0 0 []))) (by rw [← t1])
  rw [j1] at t1
  have hgd := good_decls w ((listP 1 d).1.drop 2) { noLib with name := (calledP ((listP 2 d).1.getD 1 (.mk 0 0 [] 0 0 []))).1 } (hdrop 2 _ hkids.2.1) (hg0 _ fun _ => trivial)
  rw [← t1] at hgd
  exact ⟨hgd.1, by rw [hgd.2]; exact called_len j0⟩
 | false =>
  rw [g1, cond_false] at t1
  cases g2 : decide ((symP ((listP 1 d).1.getD 0 (.mk 0 0 [] 0 0 []))).1 = wProgram) with
  | false => rw [g2] at t1; have := congrArg Prod.snd t1; simp at this
  | true =>
   rw [g2, cond_true] at t1
   have hgd := good_decls w ((listP 1 d).1.drop 1) noLib (hdrop 1 _ hkids.2.1) (hg0 [] fun _ => trivial)
   rw [← t1] at hgd
   exact ⟨hgd.1, by rw [hgd.2]; simp [noLib]⟩
theorem okSs_of : ∀ {l : List Set'}, (∀ s ∈ l, showable s) → okSs l
 | [], _ => trivial
 | s :: r, h => ⟨(h s (by simp)).2, okSs_of fun t ht => h t (by simp [ht])⟩
theorem good_ok {o : Lib'} (h : Good o) (hn : o.name.length ≤ 60) : okLib o := ⟨by omega, by have := h.exps; omega, by have := h.imps; omega, by have := h.body; omega, okSs_of h.sets⟩
set_option linter.unusedVariables false
theorem parse_bad {w : Wd} {d : Datum} (h : (parseP w d).2 ≠ 0) : (parseP w d).1 = noLib := by
 unfold parseP at h ⊢
 cases e1 : decide ((wrongL [d] 0 0).1 = 0) with
 | false => rfl
 | true =>
  rw [e1] at h
  simp only [Bool.not_true, cond_false] at h ⊢
  cases e2 : decide ((30 : Int) < w.files.length) with
  | true => rfl
  | false =>
   rw [e2] at h
   simp only [cond_false] at h ⊢
   cases e3 : decide ((topP w d).2 = 0) with
   | false => rfl
   | true => rw [e3] at h; exact absurd (of_decide_eq_true e3) h
theorem c_SymD (st : St) (s : Str) : VCalls Tryz.prog TT 36 [.str s] st fun r st' => r = .ret (.agg (encD (Sd s))) ∧ st' = st := c_Sym st s
theorem c_ListD (st : St) (l : List Datum) : VCalls Tryz.prog TT 37 [lstD l] st fun r st' => r = .ret (.agg (encD (Ld l))) ∧ st' = st := c_List st l
/-- What is had of a piece, ahead of the pieces behind. -/
def glue (c : Str) : List Str → List Str
 | [] => [c]
 | h :: t => (c ++ h) :: t
theorem glue_nil {l : List Str} (h : l ≠ []) : glue [] l = l := by
 cases l with
 | nil => exact absurd rfl h
 | cons a r => rfl
theorem glue_32 (c r : Str) : glue c (splitP (32 :: r)) = c :: glue [] (splitP r) := by
 rw [glue_nil (splitP_ne r)]
 simp [splitP, glue]
theorem glue_c {x : UInt8} (h : x ≠ 32) (c r : Str) : glue c (splitP (x :: r)) = glue (c ++ [x]) (splitP r) := by
 simp only [splitP, decide_eq_false h, cond_false]
 cases splitP r with
 | nil => rfl
 | cons a t => simp [glue]
theorem c_syms (s : Str) (hs : s.length ≤ 1000) (st : St) : VCalls Tryz.prog TT 38 [.str s] st fun r st' => r = .ret (lstD ((splitP s).map Sd)) ∧ st' = st := by
 refine vfun TT_ok (an := anL []) (L := [0, 2, 3, 4, 5]) (rs := [.tmp 2]) Tryz.func38 rfl (by kernel_rfl) rfl Tryz.ntmps38 rfl rfl (Nat.le_refl _) fun hst ha hf => ?_
 simp only [gw2, qqE, ↓reduceIte, qqA, qqL, qqD, qqM, ite_self]
 refine vforT (σ := Nat × Nat × List Str) [26] [0, 3, 4, 5] (fun x => [(0, true, .str s), (3, true, .lst 6 (some st.length) (x.2.2.map fun a => encD (Sd a))), (4, true, .int .i64 x.2.1), (5, true, .int .i64 x.1)]) (fun x => st ++ [.tip 26 x.2.2.length]) (fun x => s.length + 1 - x.1) (fun x => x.1 ≤ s.length + 1 ∧ x.2.1 ≤ x.1 ∧ x.2.2.length ≤ x.1 ∧ (x.1 ≤ s.length → splitP s = x.2.2 ++ glue ((s.take x.1).drop x.2.1) (splitP (s.drop x.1))) ∧ (x.1 = s.length + 1 → splitP s = x.2.2)) (0, 0, []) rfl TT_ok ⟨Nat.zero_le _, Nat.le_refl _, Nat.le_refl _, fun _ => by simp [glue_nil (splitP_ne s)], fun h => by simp at h⟩ ?_ ?_ ?_
 ·simp only [gw0, qqE, ↓reduceIte, qqA, qqL, qqD, qqM, Env.keep]
  exact ⟨_, _, rfl, wk_refl _, _, _, rfl, wk_tip _ (by simp [Tips]), _, _, rfl, wk_refl _, _, _, rfl, wk_refl _, rfl⟩
 ·exact ⟨st, wkSt_refl _, by simp only [bz35, gwL, tips]⟩
 rintro ⟨i, fr, acc⟩ ⟨hi, hfr, hacc, hI, hJ⟩
 simp only at hi hfr hacc hI hJ ⊢
 have e1 : decide ((i : Int) ≤ (s.length : Int)) = decide (i ≤ s.length) := by by_cases h : i ≤ s.length <;> simp [h] <;> omega
 have e2 : decide ((i : Int) = (s.length : Int)) = decide (i = s.length) := by by_cases h : i = s.length <;> simp [h] <;> omega
 have hw1 : IntKind.i64.wrap ((i : Int) + 1) = ((i + 1 : Nat) : Int) := by rw [wrap_i64 (by omega) (by omega)]; omega
 have hX : ∀ j : Nat, ltE (st.length + 1) [(0, true, .str s), (3, true, .lst 6 (some st.length) (acc.map fun a => encD (Sd a))), (4, true, .int .i64 fr), (5, true, .int .i64 j)] := fun j => by
  simp only [ltE, V.lt]
  exact ⟨trivial, ⟨fun e h => by cases h; omega, ltRows_map fun x _ => encD_lt _ _⟩, trivial, trivial, trivial⟩
 simp only [gw2, qqE, ↓reduceIte, qqA, qqL, qqD, qqM, ite_self, e1]
 by_cases hle : i ≤ s.length
 rotate_left
 ·simp only [gw2, qqE, ↓reduceIte, qqA, qqL, qqD, qqM, ite_self, decide_eq_false hle]
  have hie : i = s.length + 1 := by omega
  rw [hJ hie, lstD, List.map_map]
  exact gives_of (wk_tok _ _ _) (wkSt_refl _) (by simp only [V.lt]; exact ⟨fun e h => (by cases h), ltRows_map fun x _ => encD_lt _ _⟩) hst
 ·simp only [gw2, qqE, ↓reduceIte, qqA, qqL, qqD, qqM, ite_self, decide_eq_true hle, e2]
  have hI := hI hle
  have htl : ((s.take i).drop fr).length = i - fr := by simp; omega
  by_cases hend : i = s.length
  ·subst hend
   simp only [gw2, qqE, ↓reduceIte, qqA, qqL, qqD, qqM, ite_self, decide_eq_true (rfl : s.length = s.length), Bool.not_true, Bool.true_or, Int.toNat_natCast]
   refine ⟨⟨by omega, by omega⟩, ?_⟩
   refine (c_SymD _ _).use (wkL_refl _) fun _ => ?_
   have hw1' : IntKind.i64.wrap ((s.length : Nat) + 1 : Int) = ((s.length + 1 : Nat) : Int) := by rw [wrap_i64 (by omega) (by omega)]; omega
   simp only [bz5, gw2, qqE, ↓reduceIte, qqA, qqL, qqD, qqM, ite_self, lstD, encSet_len, encSet_take, hw1', Env.keep]
   refine ⟨by omega, (s.length + 1, s.length + 1, acc ++ [(s.take s.length).drop fr]), ⟨?_, st ++ [.tip 26 (acc.length + 1)], [], by simp, by simp only [bz33]; exact wkSt_refl _, ?_, ok_app hst ⟨trivial, trivial⟩, by simp⟩, by dsimp only; omega, by dsimp only; omega, Nat.le_refl _, by simp; omega, ?_, ?_⟩
   ·simp only [bz34]
    exact wkE_refl _
   ·simp only [ltE, V.lt, gwL]
    exact ⟨trivial, ⟨fun e h => by cases h; omega, ltRows_map fun x _ => encD_lt _ _⟩, trivial, trivial, trivial⟩
   ·intro h; simp only at h; omega
   ·intro _
    rw [List.drop_length, show splitP [] = [[]] from rfl] at hI
    simpa [glue] using hI
  ·have hlt : i < s.length := by omega
   rcases at_or_end s i hle with ⟨h9, hd⟩ | ⟨ch, _, hget, hdr⟩
   ·omega
   have h32 : decide ((ch.toNat : Int) = 32) = decide (ch = 32) := byte_eq ch 32
   simp only [gw2, qqE, ↓reduceIte, qqA, qqL, qqD, qqM, ite_self, decide_eq_false hend, Bool.not_false, Bool.false_or, getD_at hget, Int.ofNat_lt.mpr hlt, h32, Int.toNat_natCast]
   refine iK_split (fun h8 => ?_) (fun h8 => ?_)
   ·have h32' : ch = 32 := of_decide_eq_true h8
    simp only [bz5, gw2, qqE, ↓reduceIte, qqA, qqL, qqD, qqM, ite_self, lstD, encSet_len, encSet_take, Int.toNat_natCast]
    refine ⟨⟨by omega, by omega⟩, ?_⟩
    refine (c_SymD _ _).use (wkL_refl _) fun _ => ?_
    have hw1' : IntKind.i64.wrap ((i : Nat) + 1 : Int) = ((i + 1 : Nat) : Int) := by rw [wrap_i64 (by omega) (by omega)]; omega
    simp only [bz5, gw2, qqE, ↓reduceIte, qqA, qqL, qqD, qqM, ite_self, lstD, encSet_len, encSet_take, hw1', Env.keep]
    refine ⟨by omega, (i + 1, i + 1, acc ++ [(s.take i).drop fr]), ⟨?_, st ++ [.tip 26 (acc.length + 1)], [], by simp, by simp only [bz33]; exact wkSt_refl _, ?_, ok_app hst ⟨trivial, trivial⟩, by simp⟩, by dsimp only; omega, by dsimp only; omega, Nat.le_refl _, by simp; omega, ?_, ?_⟩
    ·simp only [bz34]
     exact wkE_refl _
    ·simp only [ltE, V.lt, gwL]
     exact ⟨trivial, ⟨fun e h => by cases h; omega, ltRows_map fun x _ => encD_lt _ _⟩, trivial, trivial, trivial⟩
    ·intro _
     simp only
     rw [hdr, h32', glue_32] at hI
     rw [hI, show (s.take (i + 1)).drop (i + 1) = [] from List.drop_eq_nil_of_le (by simp; omega)]
     simp
    ·intro h; simp only at h; omega
   ·have h32' : ch ≠ 32 := of_decide_eq_false h8
    simp only [gw2, qqE, ↓reduceIte, qqA, qqL, qqD, qqM, ite_self, hw1, Env.keep]
    refine ⟨(i + 1, fr, acc), ⟨wkE_refl _, st ++ [.tip 26 acc.length], [], by simp, wkSt_refl _, by simpa using hX (i + 1), ok_app hst ⟨trivial, trivial⟩, by simp⟩, by dsimp only; omega, by dsimp only; omega, by dsimp only; omega, by dsimp only; omega, fun _ => ?_, fun h => by simp only at h; omega⟩
    simp only
    rw [hdr, glue_c h32'] at hI
    rw [hI, List.take_add_one, hget]
    rw [List.drop_append_of_le_length (by simp; omega)]
    rfl
mutual
/-- A prefix comes with no names. -/
def preS : Set' → Prop
 | .mk k _ ns _ _ kids => (k = 4 → ns = []) ∧ preSs kids
def preSs : List Set' → Prop
 | [] => True
 | a :: r => preS a ∧ preSs r
end
theorem setP_pre : ∀ (f : Nat) (d : Datum), (setP f d).2 = 0 → preS (setP f d).1
 | 0, d, h => by simp [setP] at h
 | f + 1, d, h => by
  generalize hs : setP (f + 1) d = R at h ⊢
  rw [setP] at hs
  obtain ⟨e0, e1⟩ := thenE_inv (x := listP 1 d) (by rw [hs]; exact h)
  rw [e1] at hs
  clear e1
  generalize (listP 1 d).1 = l at hs
  cases h1 : decide (setKind l < 2) with
  | true =>
   rw [h1, cond_true] at hs
   obtain ⟨e0, e1⟩ := thenE_inv (x := calledP d) (by rw [hs]; exact h)
   rw [e1] at hs
   rw [← hs, preS]
   exact ⟨fun h => absurd h (by decide), trivial⟩
  | false =>
   rw [h1, cond_false] at hs
   obtain ⟨e0, e1⟩ := thenE_inv (x := setP f (l.getD 1 (.mk 0 0 [] 0 0 []))) (by rw [hs]; exact h)
   rw [e1] at hs
   have ih := setP_pre f _ e0
   generalize (setP f (l.getD 1 (.mk 0 0 [] 0 0 []))).1 = k at hs ih
   cases h4 : decide (setKind l = 4) with
   | true =>
    rw [h4, cond_true] at hs
    cases h3 : !decide (l.length = 3) with
    | true => rw [h3] at hs; rw [← hs] at h; simp at h
    | false =>
     rw [h3, cond_false] at hs
     obtain ⟨e0, e1⟩ := thenE_inv (x := symP (l.getD 2 (.mk 0 0 [] 0 0 []))) (by rw [hs]; exact h)
     rw [e1] at hs
     rw [← hs, preS]
     exact ⟨fun _ => rfl, ih, trivial⟩
   | false =>
    have h4' := of_decide_eq_false h4
    rw [h4, cond_false] at hs
    cases h5 : decide (setKind l = 5) with
    | true =>
     rw [h5, cond_true] at hs
     obtain ⟨e0, e1⟩ := thenE_inv (x := renP (l.drop 2) [] []) (by rw [hs]; exact h)
     rw [e1] at hs
     rw [← hs, preS]
     exact ⟨fun h => absurd h h4', ih, trivial⟩
    | false =>
     rw [h5, cond_false] at hs
     obtain ⟨e0, e1⟩ := thenE_inv (x := symsP (l.drop 2) []) (by rw [hs]; exact h)
     rw [e1] at hs
     rw [← hs, preS]
     exact ⟨fun h => absurd h h4', ih, trivial⟩
theorem bz3 : type_of% @List.drop_succ_cons.{0} ∧ type_of% @List.drop_zero.{0} ∧ type_of% @List.getD_cons_succ.{0} ∧ type_of% @List.getD_cons_zero.{0} ∧ type_of% @List.length_cons.{0} ∧ type_of% @List.length_map.{0,0} ∧ type_of% @List.length_nil.{0} ∧ type_of% @List.map_cons.{0,0} ∧ type_of% @List.map_nil.{0,0} ∧ type_of% @Nat.le_refl ∧ type_of% @encD_drop ∧ type_of% @encD_len ∧ type_of% @encD_take ∧ type_of% @encSet_len ∧ type_of% @encSet_take ∧ (Int.toNat 0 = 0) ∧ (Int.toNat 1 = 1) ∧ (Int.toNat 2 = 2) ∧ (Int.toNat 5 = 5) ∧ (decide ((5 : Int) = 1) = false) ∧ (decide ((5 : Int) = 4) = false) ∧ (decide ((5 : Int) = 5) = true) := ⟨@List.drop_succ_cons.{0}, @List.drop_zero.{0}, @List.getD_cons_succ.{0}, @List.getD_cons_zero.{0}, @List.length_cons.{0}, @List.length_map.{0,0}, @List.length_nil.{0}, @List.map_cons.{0,0}, @List.map_nil.{0,0}, @Nat.le_refl, @encD_drop, @encD_len, @encD_take, @encSet_len, @encSet_take, rfl, rfl, rfl, rfl, rfl, rfl, rfl⟩
theorem bz8 : type_of% @List.drop_succ_cons.{0} ∧ type_of% @List.drop_zero.{0} ∧ type_of% @List.getD_cons_succ.{0} ∧ type_of% @List.getD_cons_zero.{0} ∧ type_of% @List.length_cons.{0} ∧ type_of% @List.length_map.{0,0} ∧ type_of% @List.length_nil.{0} ∧ type_of% @List.map_cons.{0,0} ∧ type_of% @List.map_nil.{0,0} ∧ type_of% @Nat.le_refl ∧ type_of% @encD_drop ∧ type_of% @encD_len ∧ type_of% @encD_take ∧ type_of% @encSet_len ∧ type_of% @encSet_take ∧ (Int.toNat 0 = 0) ∧ (Int.toNat 1 = 1) ∧ (Int.toNat 2 = 2) ∧ (Int.toNat 4 = 4) ∧ (decide ((4 : Int) = 1) = false) ∧ (decide ((4 : Int) = 4) = true) ∧ (decide ((4 : Int) = 5) = false) := ⟨@List.drop_succ_cons.{0}, @List.drop_zero.{0}, @List.getD_cons_succ.{0}, @List.getD_cons_zero.{0}, @List.length_cons.{0}, @List.length_map.{0,0}, @List.length_nil.{0}, @List.map_cons.{0,0}, @List.map_nil.{0,0}, @Nat.le_refl, @encD_drop, @encD_len, @encD_take, @encSet_len, @encSet_take, rfl, rfl, rfl, rfl, rfl, rfl, rfl⟩
theorem bz6 : type_of% @List.drop_succ_cons.{0} ∧ type_of% @List.drop_zero.{0} ∧ type_of% @List.getD_cons_succ.{0} ∧ type_of% @List.getD_cons_zero.{0} ∧ type_of% @List.length_cons.{0} ∧ type_of% @List.length_map.{0,0} ∧ type_of% @List.length_nil.{0} ∧ type_of% @List.map_cons.{0,0} ∧ type_of% @List.map_nil.{0,0} ∧ type_of% @Nat.le_refl ∧ type_of% @encD_drop ∧ type_of% @encD_len ∧ type_of% @encD_take ∧ type_of% @encSet_len ∧ type_of% @encSet_take ∧ (Int.toNat 0 = 0) ∧ (Int.toNat 1 = 1) ∧ (Int.toNat 2 = 2) ∧ (Int.toNat 3 = 3) ∧ (decide ((3 : Int) = 1) = false) ∧ (decide ((3 : Int) = 4) = false) ∧ (decide ((3 : Int) = 5) = false) := ⟨@List.drop_succ_cons.{0}, @List.drop_zero.{0}, @List.getD_cons_succ.{0}, @List.getD_cons_zero.{0}, @List.length_cons.{0}, @List.length_map.{0,0}, @List.length_nil.{0}, @List.map_cons.{0,0}, @List.map_nil.{0,0}, @Nat.le_refl, @encD_drop, @encD_len, @encD_take, @encSet_len, @encSet_take, rfl, rfl, rfl, rfl, rfl, rfl, rfl⟩
theorem bz7 : type_of% @List.drop_succ_cons.{0} ∧ type_of% @List.drop_zero.{0} ∧ type_of% @List.getD_cons_succ.{0} ∧ type_of% @List.getD_cons_zero.{0} ∧ type_of% @List.length_cons.{0} ∧ type_of% @List.length_map.{0,0} ∧ type_of% @List.length_nil.{0} ∧ type_of% @List.map_cons.{0,0} ∧ type_of% @List.map_nil.{0,0} ∧ type_of% @Nat.le_refl ∧ type_of% @encD_drop ∧ type_of% @encD_len ∧ type_of% @encD_take ∧ type_of% @encSet_len ∧ type_of% @encSet_take ∧ (Int.toNat 0 = 0) ∧ (Int.toNat 1 = 1) ∧ (Int.toNat 2 = 2) ∧ (decide ((2 : Int) = 1) = false) ∧ (decide ((2 : Int) = 4) = false) ∧ (decide ((2 : Int) = 5) = false) := ⟨@List.drop_succ_cons.{0}, @List.drop_zero.{0}, @List.getD_cons_succ.{0}, @List.getD_cons_zero.{0}, @List.length_cons.{0}, @List.length_map.{0,0}, @List.length_nil.{0}, @List.map_cons.{0,0}, @List.map_nil.{0,0}, @Nat.le_refl, @encD_drop, @encD_len, @encD_take, @encSet_len, @encSet_take, rfl, rfl, rfl, rfl, rfl, rfl⟩
theorem c_refShowSet (s : Set') : okS s → preS s → ∀ st : St, VCalls Tryz.prog TT 39 [.agg (encSet s)] st fun r st' => r = .ret (.agg (encD (showS s))) ∧ st' = st := by
 refine Set'.ind (p := fun s => okS s → preS s → ∀ st : St, VCalls Tryz.prog TT 39 [.agg (encSet s)] st fun r st' => r = .ret (.agg (encD (showS s))) ∧ st' = st) ?_ s
 intro k n ns az p kids ih ok hp st
 rw [okS] at ok
 rw [preS] at hp
 obtain ⟨hn, hns, hk, hkids⟩ := ok
 refine vfun TT_ok (an := anL [(1, 1), (24, 1)]) (L := [0, 1, 2, 3, 4, 5, 35, 36, 37]) (rs := [.cell 2 26]) Tryz.func39 rfl (by kernel_rfl) rfl Tryz.ntmps39 rfl rfl (Nat.le_refl _) fun hst ha hf => ?_
 simp only [encSet_mk]
 simp only [gw2, qqE, ↓reduceIte, qqA, qqL, qqD, qqM, ite_self]
 refine iK_split (fun h1 => ?_) (fun h1 => ?_)
 ·simp only [gw2, qqE, ↓reduceIte, qqA, qqL, qqD, qqM, ite_self]
  refine (c_syms n hn _).use (wkL_refl _) fun _ => ?_
  simp only [gw2, qqE, ↓reduceIte, qqA, qqL, qqD, qqM, ite_self]
  refine (c_ListD _ ((splitP n).map Sd)).use (wkL_refl _) fun _ => ?_
  simp only [bz24, gw2, qqE, ↓reduceIte, qqA, qqL, qqD, qqM, ite_self]
  rw [show showS (.mk k n ns az p kids) = Ld ((splitP n).map Sd) by rw [showS, h1]; rfl]
  exact gives_of (wk_refl _) (wkSt_refl _) (by simp only [V.lt]; exact encD_lt _ _) hst
 ·obtain ⟨h2, h5, hne, haz⟩ := hk (of_decide_eq_false h1)
  cases kids with
  | nil => exact absurd rfl hne
  | cons kd rest =>
  have hpk : preS kd := hp.2.1
  have ihk := ih kd (by simp) (okSs_mem hkids (by simp)) hpk
  have hk4 : k = 2 ∨ k = 3 ∨ k = 4 ∨ k = 5 := by omega
  rcases hk4 with rfl | rfl | rfl | rfl
  ·simp only [bz7, gw2, qqE, ↓reduceIte, qqA, qqL, qqD, qqM, ite_self, lstD]
   refine vdraw TT_ok TT_mixed [0, 0, 0, 0, 0, 0, 0, 0, 0, 0, 0, 2, 0] (by kernel_rfl) ?_
   simp only [bz7, gw2, qqE, ↓reduceIte, qqA, qqL, qqD, qqM, ite_self, lstD]
   refine ⟨by omega, eK_free (c_SymD · (wordOf 2)) (wkL_refl _) ?_⟩
   simp only [bz7, gw2, qqE, ↓reduceIte, qqA, qqL, qqD, qqM, ite_self, lstD]
   refine ⟨⟨by omega, by omega⟩, ?_⟩
   refine eK_free ihk (wkL_refl _) ?_
   simp only [bz7, gw2, qqE, ↓reduceIte, qqA, qqL, qqD, qqM, ite_self, lstD, encS]
   have hkl : ns.length ≤ 9223372036854775807 := by omega
   refine vfor (σ := Nat) [0, 1, 2, 3, 35, 36, 37] (fun x => [(0, true, .agg [.int .i64 2, .str n, encS ns, encS az, .str p, .lst 6 none (encSet kd :: rest.map encSet)]), (1, true, .ref [.int .i64 2, .str n, encS ns, encS az, .str p, .lst 6 none (encSet kd :: rest.map encSet)]), (2, true, .ptr st.length 0), (3, true, .lst 6 (some (st.length + 1)) ([encD (Sd (wordOf 2)), encD (showS kd)] ++ (ns.take x).map fun a => encD (Sd a))), (35, true, encS ns), (36, true, .int .i64 ns.length), (37, true, .int .i64 x)]) (fun x => st ++ [.box [.int .i64 0, .int .i64 0, .str [], .int .i64 0, .int .i64 0, .nils], .tip 26 (2 + x)]) (fun x => ns.length - x) (fun x => x ≤ ns.length ∧ (0 : Nat) = 0) 0 rfl TT_ok ⟨Nat.zero_le _, rfl⟩ rfl rfl ?_
   rintro i ⟨hi, -⟩
   simp only [encS]
   rcases at_or_end ns i hi with ⟨rfl, hd⟩ | ⟨a, hlt, hget, hdr⟩
   ·simp only [bz7, gw2, qqE, ↓reduceIte, qqA, qqL, qqD, qqM, ite_self, lstD, encS, lt_no]
    rw [List.take_length]
    have e9 : (.lst 6 none ([encD (Sd (wordOf 2)), encD (showS kd)] ++ ns.map fun a => encD (Sd a))) = lstD (Sd (wordOf 2) :: showS kd :: ns.map Sd) := by simp [lstD]
    refine (c_ListD _ (Sd (wordOf 2) :: showS kd :: ns.map Sd)).use (wkL_cons (by rw [← e9]; exact wk_tok _ _ _) wkL_nil) fun _ => ?_
    simp only [bz7, gw2, qqE, ↓reduceIte, qqA, qqL, qqD, qqM, ite_self, lstD, encS]
    rw [show showS (.mk 2 n ns az p (kd :: rest)) = Ld (Sd (wordOf 2) :: showS kd :: ns.map Sd) by rw [showS, showH]; rfl]
    exact gives_of (wk_refl _) (wkSt_refl _) (by simp only [V.lt]; exact encD_lt _ _) hst
   ·simp only [bz7, gw2, qqE, ↓reduceIte, qqA, qqL, qqD, qqM, ite_self, lstD, encS, lt_yes hlt, getD_map hget, Int.ofNat_lt.mpr hlt]
    refine (c_SymD _ a).use (wkL_refl _) fun _ => ?_
    have ht : (ns.take i).length = i := by rw [List.length_take]; omega
    simp only [bz7, gw2, qqE, ↓reduceIte, qqA, qqL, qqD, qqM, ite_self, lstD, encS, List.length_append, ht, Env.keep, next_i64 hlt hkl]
    refine ⟨by omega, i + 1, ?_, by rw [show 2 + (i + 1) = i + 3 by omega], by omega, hlt⟩
    rw [List.take_add_one, hget]
    simp
  ·simp only [bz6, gw2, qqE, ↓reduceIte, qqA, qqL, qqD, qqM, ite_self, lstD]
   refine vdraw TT_ok TT_mixed [0, 0, 0, 0, 0, 0, 0, 0, 0, 0, 0, 2, 0] (by kernel_rfl) ?_
   simp only [bz6, gw2, qqE, ↓reduceIte, qqA, qqL, qqD, qqM, ite_self, lstD]
   refine ⟨by omega, eK_free (c_SymD · (wordOf 3)) (wkL_refl _) ?_⟩
   simp only [bz6, gw2, qqE, ↓reduceIte, qqA, qqL, qqD, qqM, ite_self, lstD]
   refine ⟨⟨by omega, by omega⟩, ?_⟩
   refine eK_free ihk (wkL_refl _) ?_
   simp only [bz6, gw2, qqE, ↓reduceIte, qqA, qqL, qqD, qqM, ite_self, lstD, encS]
   have hkl : ns.length ≤ 9223372036854775807 := by omega
   refine vfor (σ := Nat) [0, 1, 2, 3, 35, 36, 37] (fun x => [(0, true, .agg [.int .i64 3, .str n, encS ns, encS az, .str p, .lst 6 none (encSet kd :: rest.map encSet)]), (1, true, .ref [.int .i64 3, .str n, encS ns, encS az, .str p, .lst 6 none (encSet kd :: rest.map encSet)]), (2, true, .ptr st.length 0), (3, true, .lst 6 (some (st.length + 1)) ([encD (Sd (wordOf 3)), encD (showS kd)] ++ (ns.take x).map fun a => encD (Sd a))), (35, true, encS ns), (36, true, .int .i64 ns.length), (37, true, .int .i64 x)]) (fun x => st ++ [.box [.int .i64 0, .int .i64 0, .str [], .int .i64 0, .int .i64 0, .nils], .tip 26 (2 + x)]) (fun x => ns.length - x) (fun x => x ≤ ns.length ∧ (0 : Nat) = 0) 0 rfl TT_ok ⟨Nat.zero_le _, rfl⟩ rfl rfl ?_
   rintro i ⟨hi, -⟩
   simp only [encS]
   rcases at_or_end ns i hi with ⟨rfl, hd⟩ | ⟨a, hlt, hget, hdr⟩
   ·simp only [bz6, gw2, qqE, ↓reduceIte, qqA, qqL, qqD, qqM, ite_self, lstD, encS, lt_no]
    rw [List.take_length]
    have e9 : (.lst 6 none ([encD (Sd (wordOf 3)), encD (showS kd)] ++ ns.map fun a => encD (Sd a))) = lstD (Sd (wordOf 3) :: showS kd :: ns.map Sd) := by simp [lstD]
    refine (c_ListD _ (Sd (wordOf 3) :: showS kd :: ns.map Sd)).use (wkL_cons (by rw [← e9]; exact wk_tok _ _ _) wkL_nil) fun _ => ?_
    simp only [bz6, gw2, qqE, ↓reduceIte, qqA, qqL, qqD, qqM, ite_self, lstD, encS]
    rw [show showS (.mk 3 n ns az p (kd :: rest)) = Ld (Sd (wordOf 3) :: showS kd :: ns.map Sd) by rw [showS, showH]; rfl]
    exact gives_of (wk_refl _) (wkSt_refl _) (by simp only [V.lt]; exact encD_lt _ _) hst
   ·simp only [bz6, gw2, qqE, ↓reduceIte, qqA, qqL, qqD, qqM, ite_self, lstD, encS, lt_yes hlt, getD_map hget, Int.ofNat_lt.mpr hlt]
    refine (c_SymD _ a).use (wkL_refl _) fun _ => ?_
    have ht : (ns.take i).length = i := by rw [List.length_take]; omega
    simp only [bz6, gw2, qqE, ↓reduceIte, qqA, qqL, qqD, qqM, ite_self, lstD, encS, List.length_append, ht, Env.keep, next_i64 hlt hkl]
    refine ⟨by omega, i + 1, ?_, by rw [show 2 + (i + 1) = i + 3 by omega], by omega, hlt⟩
    rw [List.take_add_one, hget]
    simp
  ·simp only [bz8, gw2, qqE, ↓reduceIte, qqA, qqL, qqD, qqM, ite_self, lstD]
   refine vdraw TT_ok TT_mixed [0, 0, 0, 0, 0, 0, 0, 0, 0, 0, 0, 2, 0] (by kernel_rfl) ?_
   simp only [bz8, gw2, qqE, ↓reduceIte, qqA, qqL, qqD, qqM, ite_self, lstD]
   refine ⟨by omega, eK_free (c_SymD · (wordOf 4)) (wkL_refl _) ?_⟩
   simp only [bz8, gw2, qqE, ↓reduceIte, qqA, qqL, qqD, qqM, ite_self, lstD]
   refine ⟨⟨by omega, by omega⟩, ?_⟩
   refine eK_free ihk (wkL_refl _) ?_
   simp only [bz8, gw2, qqE, ↓reduceIte, qqA, qqL, qqD, qqM, ite_self, lstD, encS]
   obtain rfl := hp.1 rfl
   refine (c_SymD _ p).use (wkL_refl _) fun _ => ?_
   simp only [bz8, gw2, qqE, ↓reduceIte, qqA, qqL, qqD, qqM, ite_self, lstD, encS]
   refine vfor (σ := Nat) [0, 1, 2, 3, 35, 36, 37] (fun x => [(0, true, .agg [.int .i64 4, .str n, encS [], encS az, .str p, .lst 6 none (encSet kd :: rest.map encSet)]), (1, true, .ref [.int .i64 4, .str n, encS [], encS az, .str p, .lst 6 none (encSet kd :: rest.map encSet)]), (2, true, .ptr st.length 0), (3, true, .lst 6 (some (st.length + 1)) [encD (Sd (wordOf 4)), encD (showS kd), encD (Sd p)]), (35, true, encS []), (36, true, .int .i64 (0 : Nat)), (37, true, .int .i64 0)]) (fun x => st ++ [.box [.int .i64 0, .int .i64 0, .str [], .int .i64 0, .int .i64 0, .nils], .tip 26 3]) (fun x => 0) (fun x => x = 0) 0 rfl TT_ok rfl rfl rfl ?_
   rintro x -
   simp only [bz8, gw2, qqE, ↓reduceIte, qqA, qqL, qqD, qqM, ite_self, lstD, encS, show decide ((0 : Int) < ((0 : Nat) : Int)) = false from rfl]
   refine (c_ListD _ [Sd (wordOf 4), showS kd, Sd p]).use (wkL_cons (wk_tok _ _ _) wkL_nil) fun _ => ?_
   simp only [bz8, gw2, qqE, ↓reduceIte, qqA, qqL, qqD, qqM, ite_self, lstD, encS]
   rw [show showS (.mk 4 n [] az p (kd :: rest)) = Ld [Sd (wordOf 4), showS kd, Sd p] by rw [showS, showH]; rfl]
   exact gives_of (wk_refl _) (wkSt_refl _) (by simp only [V.lt]; exact encD_lt _ _) hst
  ·simp only [bz3, gw2, qqE, ↓reduceIte, qqA, qqL, qqD, qqM, ite_self, lstD]
   refine vdraw TT_ok TT_mixed [0, 0, 0, 0, 0, 0, 0, 0, 0, 0, 0, 2, 0] (by kernel_rfl) ?_
   simp only [bz3, gw2, qqE, ↓reduceIte, qqA, qqL, qqD, qqM, ite_self, lstD]
   refine ⟨by omega, eK_free (c_SymD · (wordOf 5)) (wkL_refl _) ?_⟩
   simp only [bz3, gw2, qqE, ↓reduceIte, qqA, qqL, qqD, qqM, ite_self, lstD]
   refine ⟨⟨by omega, by omega⟩, ?_⟩
   refine eK_free ihk (wkL_refl _) ?_
   simp only [bz3, gw2, qqE, ↓reduceIte, qqA, qqL, qqD, qqM, ite_self, lstD, encS]
   have haz := haz rfl
   have hzl : (List.zipWith showR ns az).length = ns.length := by rw [List.length_zipWith]; omega
   have hkl : ns.length ≤ 9223372036854775807 := by omega
   refine vfor (σ := Nat) [0, 1, 2, 3, 35, 36, 37] (fun x => [(0, true, .agg [.int .i64 5, .str n, encS ns, encS az, .str p, .lst 6 none (encSet kd :: rest.map encSet)]), (1, true, .ref [.int .i64 5, .str n, encS ns, encS az, .str p, .lst 6 none (encSet kd :: rest.map encSet)]), (2, true, .ptr st.length 0), (3, true, .lst 6 (some (st.length + 1)) ([encD (Sd (wordOf 5)), encD (showS kd)] ++ ((List.zipWith showR ns az).take x).map encD)), (35, true, encS ns), (36, true, .int .i64 ns.length), (37, true, .int .i64 x)]) (fun x => st ++ [.box [.int .i64 0, .int .i64 0, .str [], .int .i64 0, .int .i64 0, .nils], .tip 26 (2 + x)]) (fun x => ns.length - x) (fun x => x ≤ ns.length ∧ (0 : Nat) = 0) 0 rfl TT_ok ⟨Nat.zero_le _, rfl⟩ rfl rfl ?_
   rintro i ⟨hi, -⟩
   simp only [encS]
   rcases at_or_end ns i hi with ⟨rfl, hd⟩ | ⟨a, hlt, hget, hdr⟩
   ·simp only [bz3, gw2, qqE, ↓reduceIte, qqA, qqL, qqD, qqM, ite_self, lstD, encS, lt_no]
    rw [List.take_of_length_le (by rw [hzl]; exact Nat.le_refl _)]
    refine (c_ListD _ (Sd (wordOf 5) :: showS kd :: List.zipWith showR ns az)).use (wkL_cons (wk_tok _ _ _) wkL_nil) fun _ => ?_
    simp only [bz3, gw2, qqE, ↓reduceIte, qqA, qqL, qqD, qqM, ite_self, lstD, encS]
    rw [show showS (.mk 5 n ns az p (kd :: rest)) = Ld (Sd (wordOf 5) :: showS kd :: List.zipWith showR ns az) by rw [showS, showH]; rfl]
    exact gives_of (wk_refl _) (wkSt_refl _) (by simp only [V.lt]; exact encD_lt _ _) hst
   ·rcases at_or_end az i (by omega) with ⟨e, hd⟩ | ⟨b, hlt2, hget2, hdr2⟩
    ·omega
    have hzt : ((List.zipWith showR ns az).take i).length = i := by rw [List.length_take, hzl]; omega
    simp only [bz3, gw2, qqE, ↓reduceIte, qqA, qqL, qqD, qqM, ite_self, lstD, encS, lt_yes hlt, getD_map hget, Int.ofNat_lt.mpr hlt]
    refine vdraw TT_ok TT_mixed [0, 0, 0, 0, 0, 0, 0, 0, 0, 0, 0, 0, 2, 0] (by kernel_rfl) ?_
    simp only [bz3, gw2, qqE, ↓reduceIte, qqA, qqL, qqD, qqM, ite_self, lstD, encS, getD_map hget2, Int.ofNat_lt.mpr hlt2, Int.toNat_natCast]
    refine eK_free (fun s => c_SymD s a) (wkL_refl _) ?_
    simp only [bz3, gw2, qqE, ↓reduceIte, qqA, qqL, qqD, qqM, ite_self, lstD, encS, getD_map hget2, Int.ofNat_lt.mpr hlt2, Int.toNat_natCast]
    refine eK_free (fun s => c_SymD s b) (wkL_refl _) ?_
    simp only [bz3, gw2, qqE, ↓reduceIte, qqA, qqL, qqD, qqM, ite_self, lstD, encS]
    refine eK_free (fun s => c_ListD s [Sd a, Sd b]) (wkL_refl _) ?_
    simp only [bz3, gw2, qqE, ↓reduceIte, qqA, qqL, qqD, qqM, ite_self, lstD, encS, List.length_append, hzt, Env.keep, next_i64 hlt hkl]
    refine ⟨⟨by omega, by omega⟩, i + 1, ?_, by rw [show 2 + (i + 1) = i + 3 by omega], by omega, hlt⟩
    rw [List.take_add_one, List.getElem?_zipWith, hget, hget2]
    simp [showR]
theorem bz19 : type_of% @List.drop_succ_cons.{0} ∧ type_of% @List.drop_zero.{0} ∧ type_of% @List.getD_cons_succ.{0} ∧ type_of% @List.getD_cons_zero.{0} ∧ type_of% @List.length_append.{0} ∧ type_of% @List.length_cons.{0} ∧ type_of% @List.length_map.{0,0} ∧ type_of% @List.length_nil.{0} ∧ type_of% @List.map_cons.{0,0} ∧ type_of% @List.map_nil.{0,0} ∧ type_of% @Nat.le_refl ∧ type_of% @encD_drop ∧ type_of% @encD_len ∧ type_of% @encD_take ∧ type_of% @encSet_len ∧ type_of% @encSet_take ∧ type_of% @rows2_len ∧ (Int.toNat 0 = 0) ∧ (Int.toNat 1 = 1) ∧ (Int.toNat 2 = 2) := ⟨@List.drop_succ_cons.{0}, @List.drop_zero.{0}, @List.getD_cons_succ.{0}, @List.getD_cons_zero.{0}, @List.length_append.{0}, @List.length_cons.{0}, @List.length_map.{0,0}, @List.length_nil.{0}, @List.map_cons.{0,0}, @List.map_nil.{0,0}, @Nat.le_refl, @encD_drop, @encD_len, @encD_take, @encSet_len, @encSet_take, @rows2_len, rfl, rfl, rfl⟩
theorem bz0 : type_of% @List.drop_succ_cons.{0} ∧ type_of% @List.drop_zero.{0} ∧ type_of% @List.getD_cons_succ.{0} ∧ type_of% @List.getD_cons_zero.{0} ∧ type_of% @List.length_cons.{0} ∧ type_of% @List.length_map.{0,0} ∧ type_of% @List.length_nil.{0} ∧ type_of% @List.map_cons.{0,0} ∧ type_of% @List.map_nil.{0,0} ∧ type_of% @Nat.le_refl ∧ type_of% @encD_drop ∧ type_of% @encD_len ∧ type_of% @encD_take ∧ type_of% @encSet_len ∧ type_of% @encSet_take ∧ type_of% @rows2_len ∧ (Int.toNat 0 = 0) ∧ (Int.toNat 1 = 1) ∧ (Int.toNat 2 = 2) := ⟨@List.drop_succ_cons.{0}, @List.drop_zero.{0}, @List.getD_cons_succ.{0}, @List.getD_cons_zero.{0}, @List.length_cons.{0}, @List.length_map.{0,0}, @List.length_nil.{0}, @List.map_cons.{0,0}, @List.map_nil.{0,0}, @Nat.le_refl, @encD_drop, @encD_len, @encD_take, @encSet_len, @encSet_take, @rows2_len, rfl, rfl, rfl⟩
set_option maxHeartbeats 4000000 in
theorem c_refShow (o : Lib') (ok : okLib o) (hps : ∀ s ∈ o.imps, preS s) (st : St) : VCalls Tryz.prog TT 12 [.agg (encLib o)] st fun r st' => r = .ret (.agg (encD (showP o))) ∧ st' = st := by
 obtain ⟨hn, he, hi, hb, his⟩ := ok
 have hil : o.imps.length ≤ 9223372036854775807 := by omega
 have hel : o.exps.length ≤ 9223372036854775807 := by omega
 refine vfun TT_ok (an := anL [(1, 1), (13, 1), (18, 1), (55, 1), (57, 1), (72, 1)]) (L := [0, 1, 2, 3, 4, 6, 7, 8, 10, 11, 20, 21, 22, 59, 60, 61]) (rs := [.cell 2 26]) Tryz.func12 rfl (by kernel_rfl) rfl Tryz.ntmps12 rfl rfl (Nat.le_refl _) fun hst ha hf => ?_
 simp only [encLib]
 simp only [gw2, qqE, ↓reduceIte, qqA, qqL, qqD, qqM, ite_self]
 refine (c_SymD _ wProgram).use (wkL_refl _) fun _ => ?_
 simp only [bz0, gw2, qqE, ↓reduceIte, qqA, qqL, qqD, qqM, ite_self, lstD, encF2]
 refine iK_split (fun h1 => ?_) (fun h1 => ?_)
 ·have h1' : decide (o.name = []) = false := not_yes h1
  simp only [bz0, gw2, qqE, ↓reduceIte, qqA, qqL, qqD, qqM, ite_self, lstD, encF2]
  refine (c_SymD _ wExport).use (wkL_refl _) fun _ => ?_
  simp only [bz0, gw2, qqE, ↓reduceIte, qqA, qqL, qqD, qqM, ite_self, lstD, encF2]
  refine vforD (σ := Nat) [0, 1, 2, 4, 20, 21, 22] (fun x => [(0, true, .agg [.str o.name, .lst 2 none (rows2 o.exps), .lst 6 none (o.imps.map encSet), .lst 6 none (o.body.map encD)]), (1, true, .ref [.str o.name, .lst 2 none (rows2 o.exps), .lst 6 none (o.imps.map encSet), .lst 6 none (o.body.map encD)]), (2, true, .ptr st.length 0), (4, true, .lst 6 (some (st.length + 2)) (encD (Sd wExport) :: (o.exps.take x).map fun p => encD (showE p))), (20, true, .lst 2 none (rows2 o.exps)), (21, true, .int .i64 o.exps.length), (22, true, .int .i64 x)]) (fun x => st ++ [.box [.int .i64 0, .int .i64 0, .str [], .int .i64 0, .int .i64 0, .nils], .tip 26 1, .tip 26 (1 + x)]) (fun x => o.exps.length - x) (fun x => x ≤ o.exps.length ∧ (0 : Nat) = 0) 0 rfl TT_ok ⟨Nat.zero_le _, rfl⟩ (wkE_refl _) rfl ?_
  rintro i ⟨hi2, -⟩
  rcases at_or_end o.exps i hi2 with ⟨rfl, hd⟩ | ⟨a, hlt, hget, hdr⟩
  ·simp only [bz0, gw2, qqE, ↓reduceIte, qqA, qqL, qqD, qqM, ite_self, lstD, encF2, lt_no]
   rw [List.take_length]
   refine vdraw TT_ok TT_mixed [0, 0, 0, 0, 0, 0, 0, 2, 0] (by kernel_rfl) ?_
   simp only [bz0, gw2, qqE, ↓reduceIte, qqA, qqL, qqD, qqM, ite_self, lstD, encF2]
   refine eK_free (fun s => c_SymD s wLibrary) (wkL_refl _) ?_
   simp only [bz0, gw2, qqE, ↓reduceIte, qqA, qqL, qqD, qqM, ite_self, lstD, encF2]
   refine eK_free (fun s => c_syms o.name hn s) (wkL_refl _) ?_
   simp only [bz0, gw2, qqE, ↓reduceIte, qqA, qqL, qqD, qqM, ite_self, lstD, encF2]
   refine eK_free (fun s => c_ListD s ((splitP o.name).map Sd)) (wkL_refl _) ?_
   simp only [bz0, gw2, qqE, ↓reduceIte, qqA, qqL, qqD, qqM, ite_self, lstD, encF2]
   have eE : lstD (Sd wExport :: o.exps.map showE) = .lst 6 none (encD (Sd wExport) :: o.exps.map fun s => encD (showE s)) := by simp [lstD]
   refine eK_free (fun s => c_ListD s (Sd wExport :: o.exps.map showE)) (wkL_cons (by rw [eE]; exact wk_tok _ _ _) wkL_nil) ?_
   simp only [bz0, gw2, qqE, ↓reduceIte, qqA, qqL, qqD, qqM, ite_self, lstD, encF2]
   refine (c_SymD _ wImport).use (wkL_refl _) fun _ => ?_
   simp only [bz0, gw2, qqE, ↓reduceIte, qqA, qqL, qqD, qqM, ite_self, lstD, encF2]
   refine vforD (σ := Nat) [0, 1, 2, 3, 8, 59, 60, 61] (fun x => [(0, true, .agg [.str o.name, .lst 2 none (rows2 o.exps), .lst 6 none (o.imps.map encSet), .lst 6 none (o.body.map encD)]), (1, true, .ref [.str o.name, .lst 2 none (rows2 o.exps), .lst 6 none (o.imps.map encSet), .lst 6 none (o.body.map encD)]), (2, true, .ptr st.length 0), (3, true, .lst 6 (some (st.length + 3)) [encD (Sd wLibrary), encD (Ld ((splitP o.name).map Sd)), encD (Ld (Sd wExport :: o.exps.map showE))]), (8, true, .lst 6 (some (st.length + 4)) (encD (Sd wImport) :: (o.imps.take x).map fun s => encD (showS s))), (59, true, .lst 6 none (o.imps.map encSet)), (60, true, .int .i64 o.imps.length), (61, true, .int .i64 x)]) (fun x => st ++ [.box [.int .i64 0, .int .i64 0, .str [], .int .i64 0, .int .i64 0, .nils], .tip 26 1, .tip 26 (1 + o.exps.length), .tip 26 3, .tip 26 (1 + x)]) (fun x => o.imps.length - x) (fun x => x ≤ o.imps.length ∧ (0 : Nat) = 0) 0 rfl TT_ok ⟨Nat.zero_le _, rfl⟩ (wkE_refl _) rfl ?_
   rintro i ⟨hi2, -⟩
   rcases at_or_end o.imps i hi2 with ⟨rfl, hd⟩ | ⟨a, hlt, hget, hdr⟩
   ·simp only [bz0, gw2, qqE, ↓reduceIte, qqA, qqL, qqD, qqM, ite_self, lstD, encF2, lt_no]
    rw [List.take_length]
    refine vdraw TT_ok TT_mixed [0, 2, 0, 0, 2, 0] (by kernel_rfl) ?_
    simp only [bz0, gw2, qqE, ↓reduceIte, qqA, qqL, qqD, qqM, ite_self, lstD, encF2]
    refine eK_free (fun s => c_SymD s wBegin) (wkL_refl _) ?_
    simp only [bz0, gw2, qqE, ↓reduceIte, qqA, qqL, qqD, qqM, ite_self, lstD, encF2]
    refine ⟨by omega, ?_⟩
    have eI : lstD (Sd wImport :: o.imps.map showS) = .lst 6 none (encD (Sd wImport) :: o.imps.map fun s => encD (showS s)) := by simp [lstD]
    refine (c_ListD _ (Sd wImport :: o.imps.map showS)).use (wkL_cons (by rw [eI]; exact wk_tok _ _ _) wkL_nil) fun _ => ?_
    simp only [bz0, gw2, qqE, ↓reduceIte, qqA, qqL, qqD, qqM, ite_self, lstD, encF2]
    refine (c_ListD _ (Sd wBegin :: o.body)).use (wkL_cons (wk_tok _ _ _) wkL_nil) fun _ => ?_
    simp only [bz0, gw2, qqE, ↓reduceIte, qqA, qqL, qqD, qqM, ite_self, lstD, encF2]
    have hh : showP o = Ld [Sd wLibrary, Ld ((splitP o.name).map Sd), Ld (Sd wExport :: o.exps.map showE), Ld (Sd wImport :: o.imps.map showS), Ld (Sd wBegin :: o.body)] := by rw [showP, showHead, h1']; rfl
    refine (c_ListD _ [Sd wLibrary, Ld ((splitP o.name).map Sd), Ld (Sd wExport :: o.exps.map showE), Ld (Sd wImport :: o.imps.map showS), Ld (Sd wBegin :: o.body)]).use (wkL_cons (wk_tok _ _ _) wkL_nil) fun _ => ?_
    simp only [bz0, gw2, qqE, ↓reduceIte, qqA, qqL, qqD, qqM, ite_self, lstD, encF2]
    rw [hh]
    exact gives_of (wk_refl _) (wkSt_refl _) (by simp only [V.lt]; exact encD_lt _ _) hst
   ·simp only [bz0, gw2, qqE, ↓reduceIte, qqA, qqL, qqD, qqM, ite_self, lstD, encF2, lt_yes hlt, getD_map hget, Int.ofNat_lt.mpr hlt]
    have hoa := okSs_mem his (List.mem_of_getElem? hget)
    have hpa := hps a (List.mem_of_getElem? hget)
    refine (c_refShowSet a hoa hpa _).use (wkL_refl _) fun _ => ?_
    have ht : (o.imps.take i).length = i := by rw [List.length_take]; omega
    simp only [bz19, gw2, qqE, ↓reduceIte, qqA, qqL, qqD, qqM, ite_self, lstD, encF2, ht, Env.keep, next_i64 hlt hil]
    refine ⟨⟨by omega, by omega⟩, i + 1, ⟨?_, st ++ [.box [.int .i64 0, .int .i64 0, .str [], .int .i64 0, .int .i64 0, .nils], .tip 26 1, .tip 26 (1 + o.exps.length), .tip 26 3, .tip 26 (1 + (i + 1))], [.box (encSet a)], ?_, wkSt_refl _, ?_, ok_app hst ⟨by simp [Ent.lt, ltL, V.lt], trivial, trivial, trivial, trivial, trivial⟩, by simp⟩, by omega, hlt⟩
    ·rw [List.take_add_one, hget]
     simp only [bz34, Option.toList_some]
     exact wkE_refl _
    ·rw [show 1 + (i + 1) = i + 2 by omega]; simp
    ·have q1 := encLib_lt (st.length + 5) o
     simp only [encLib] at q1
     have q2 : V.lt (st.length + 5) (.lst 6 none (o.imps.map encSet)) := q1.2.2.1
     simp only [V.lt] at q2
     simp only [ltE, V.lt, gwL, Nat.reduceAdd]
     refine ⟨q1, q1, by omega, ⟨fun e h => (by cases h; omega), encD_lt _ _, encD_lt _ _, encD_lt _ _, trivial⟩, ⟨fun e h => (by cases h; omega), encD_lt _ _, ltRows_map fun s _ => encD_lt _ _⟩, q2, trivial, trivial, trivial⟩
  ·have hg : (rows2 o.exps).getD i [] = encF2 a := getD_map (f := encF2) hget
   simp only [bz0, gw2, qqE, ↓reduceIte, qqA, qqL, qqD, qqM, ite_self, lt_yes hlt, hg, lstD, encF2, Int.ofNat_lt.mpr hlt, Int.toNat_natCast]
   refine (c_SymD _ a.1).use (wkL_refl _) fun _ => ?_
   have ht : (o.exps.take i).length = i := by rw [List.length_take]; omega
   simp only [bz0, gw2, qqE, ↓reduceIte, qqA, qqL, qqD, qqM, ite_self, lstD, encF2]
   refine iK_split (fun h3 => ?_) (fun h3 => ?_)
   ·have hse : showE a = Ld [Sd wRename, Sd a.2, Sd a.1] := by rw [showE, show decide (a.1 = a.2) = false from not_yes h3]; rfl
    simp only [bz0, gw2, qqE, ↓reduceIte, qqA, qqL, qqD, qqM, ite_self, lstD, encF2]
    refine vdraw TT_ok TT_mixed [0, 0, 1, 0, 0, 1, 0, 0, 0, 2] (by kernel_rfl) ?_
    simp only [bz0, gw2, qqE, ↓reduceIte, qqA, qqL, qqD, qqM, ite_self, lstD, encF2]
    refine eK_free (fun s => c_SymD s wRename) (wkL_refl _) ?_
    simp only [bz0, gw2, qqE, ↓reduceIte, qqA, qqL, qqD, qqM, ite_self, lstD, encF2]
    refine eK_free (fun s => c_SymD s a.2) (wkL_refl _) ?_
    simp only [bz0, gw2, qqE, ↓reduceIte, qqA, qqL, qqD, qqM, ite_self, lstD, encF2]
    refine eK_free (fun s => c_SymD s a.1) (wkL_refl _) ?_
    simp only [bz0, gw2, qqE, ↓reduceIte, qqA, qqL, qqD, qqM, ite_self, lstD, encF2]
    refine eK_free (fun s => c_ListD s [Sd wRename, Sd a.2, Sd a.1]) (wkL_refl _) ?_
    simp only [bz19, gw2, qqE, ↓reduceIte, qqA, qqL, qqD, qqM, ite_self, lstD, encF2, ht, Env.keep, next_i64 hlt hel]
    rw [← hse]
    refine ⟨⟨by omega, by omega⟩, i + 1, ⟨?_, st ++ [.box [.int .i64 0, .int .i64 0, .str [], .int .i64 0, .int .i64 0, .nils], .tip 26 1, .tip 26 (1 + (i + 1))], [.box [.str a.1, .str a.2], .box (encD (showE a))], ?_, wkSt_refl _, ?_, ok_app hst ⟨by simp [Ent.lt, ltL, V.lt], trivial, trivial, trivial⟩, by simp⟩, by omega, hlt⟩
    ·rw [List.take_add_one, hget]
     simp only [bz34, Option.toList_some]
     exact wkE_refl _
    ·rw [show 1 + (i + 1) = i + 2 by omega]; simp
    ·have q1 := encLib_lt (st.length + 3) o
     simp only [encLib] at q1
     simp only [ltE, V.lt, gwL, Nat.reduceAdd]
     exact ⟨q1, q1, by omega, ⟨fun e h => (by cases h; omega), encD_lt _ _, ltRows_map fun s _ => encD_lt _ _⟩, ⟨fun e h => (by cases h), rows2_lt _ _⟩, trivial, trivial, trivial⟩
   ·have hse : showE a = Sd a.1 := by rw [showE, show decide (a.1 = a.2) = true from not_no h3]; rfl
    simp only [bz19, gw2, qqE, ↓reduceIte, qqA, qqL, qqD, qqM, ite_self, lstD, encF2, ht, Env.keep, next_i64 hlt hel]
    rw [← hse]
    refine ⟨⟨by omega, by omega⟩, i + 1, ⟨?_, st ++ [.box [.int .i64 0, .int .i64 0, .str [], .int .i64 0, .int .i64 0, .nils], .tip 26 1, .tip 26 (1 + (i + 1))], [.box [.str a.1, .str a.2], .box (encD (showE a))], ?_, wkSt_refl _, ?_, ok_app hst ⟨by simp [Ent.lt, ltL, V.lt], trivial, trivial, trivial⟩, by simp⟩, by omega, hlt⟩
    ·rw [List.take_add_one, hget]
     simp only [bz34, Option.toList_some]
     exact wkE_refl _
    ·rw [show 1 + (i + 1) = i + 2 by omega]; simp
    ·have q1 := encLib_lt (st.length + 3) o
     simp only [encLib] at q1
     simp only [ltE, V.lt, gwL, Nat.reduceAdd]
     exact ⟨q1, q1, by omega, ⟨fun e h => (by cases h; omega), encD_lt _ _, ltRows_map fun s _ => encD_lt _ _⟩, ⟨fun e h => (by cases h), rows2_lt _ _⟩, trivial, trivial, trivial⟩
 ·have h1' : decide (o.name = []) = true := not_no h1
  simp only [bz0, gw2, qqE, ↓reduceIte, qqA, qqL, qqD, qqM, ite_self, lstD, encF2]
  refine (c_SymD _ wImport).use (wkL_refl _) fun _ => ?_
  simp only [bz0, gw2, qqE, ↓reduceIte, qqA, qqL, qqD, qqM, ite_self, lstD, encF2]
  refine vforD (σ := Nat) [0, 1, 2, 3, 8, 59, 60, 61] (fun x => [(0, true, .agg [.str o.name, .lst 2 none (rows2 o.exps), .lst 6 none (o.imps.map encSet), .lst 6 none (o.body.map encD)]), (1, true, .ref [.str o.name, .lst 2 none (rows2 o.exps), .lst 6 none (o.imps.map encSet), .lst 6 none (o.body.map encD)]), (2, true, .ptr st.length 0), (3, true, .lst 6 (some (st.length + 1)) [encD (Sd wProgram)]), (8, true, .lst 6 (some (st.length + 2)) (encD (Sd wImport) :: (o.imps.take x).map fun s => encD (showS s))), (59, true, .lst 6 none (o.imps.map encSet)), (60, true, .int .i64 o.imps.length), (61, true, .int .i64 x)]) (fun x => st ++ [.box [.int .i64 0, .int .i64 0, .str [], .int .i64 0, .int .i64 0, .nils], .tip 26 1, .tip 26 (1 + x)]) (fun x => o.imps.length - x) (fun x => x ≤ o.imps.length ∧ (0 : Nat) = 0) 0 rfl TT_ok ⟨Nat.zero_le _, rfl⟩ (wkE_refl _) rfl ?_
  rintro i ⟨hi2, -⟩
  rcases at_or_end o.imps i hi2 with ⟨rfl, hd⟩ | ⟨a, hlt, hget, hdr⟩
  ·simp only [bz0, gw2, qqE, ↓reduceIte, qqA, qqL, qqD, qqM, ite_self, lstD, encF2, lt_no]
   rw [List.take_length]
   refine vdraw TT_ok TT_mixed [0, 2, 0, 0, 2, 0] (by kernel_rfl) ?_
   simp only [bz0, gw2, qqE, ↓reduceIte, qqA, qqL, qqD, qqM, ite_self, lstD, encF2]
   refine eK_free (fun s => c_SymD s wBegin) (wkL_refl _) ?_
   simp only [bz0, gw2, qqE, ↓reduceIte, qqA, qqL, qqD, qqM, ite_self, lstD, encF2]
   refine ⟨by omega, ?_⟩
   have eI : lstD (Sd wImport :: o.imps.map showS) = .lst 6 none (encD (Sd wImport) :: o.imps.map fun s => encD (showS s)) := by simp [lstD]
   refine (c_ListD _ (Sd wImport :: o.imps.map showS)).use (wkL_cons (by rw [eI]; exact wk_tok _ _ _) wkL_nil) fun _ => ?_
   simp only [bz0, gw2, qqE, ↓reduceIte, qqA, qqL, qqD, qqM, ite_self, lstD, encF2]
   refine (c_ListD _ (Sd wBegin :: o.body)).use (wkL_cons (wk_tok _ _ _) wkL_nil) fun _ => ?_
   simp only [bz0, gw2, qqE, ↓reduceIte, qqA, qqL, qqD, qqM, ite_self, lstD, encF2]
   have hh : showP o = Ld [Sd wProgram, Ld (Sd wImport :: o.imps.map showS), Ld (Sd wBegin :: o.body)] := by rw [showP, showHead, h1']; rfl
   refine (c_ListD _ [Sd wProgram, Ld (Sd wImport :: o.imps.map showS), Ld (Sd wBegin :: o.body)]).use (wkL_cons (wk_tok _ _ _) wkL_nil) fun _ => ?_
   simp only [bz0, gw2, qqE, ↓reduceIte, qqA, qqL, qqD, qqM, ite_self, lstD, encF2]
   rw [hh]
   exact gives_of (wk_refl _) (wkSt_refl _) (by simp only [V.lt]; exact encD_lt _ _) hst
  ·simp only [bz0, gw2, qqE, ↓reduceIte, qqA, qqL, qqD, qqM, ite_self, lstD, encF2, lt_yes hlt, getD_map hget, Int.ofNat_lt.mpr hlt]
   have hoa := okSs_mem his (List.mem_of_getElem? hget)
   have hpa := hps a (List.mem_of_getElem? hget)
   refine (c_refShowSet a hoa hpa _).use (wkL_refl _) fun _ => ?_
   have ht : (o.imps.take i).length = i := by rw [List.length_take]; omega
   simp only [bz19, gw2, qqE, ↓reduceIte, qqA, qqL, qqD, qqM, ite_self, lstD, encF2, ht, Env.keep, next_i64 hlt hil]
   refine ⟨⟨by omega, by omega⟩, i + 1, ⟨?_, st ++ [.box [.int .i64 0, .int .i64 0, .str [], .int .i64 0, .int .i64 0, .nils], .tip 26 1, .tip 26 (1 + (i + 1))], [.box (encSet a)], ?_, wkSt_refl _, ?_, ok_app hst ⟨by simp [Ent.lt, ltL, V.lt], trivial, trivial, trivial⟩, by simp⟩, by omega, hlt⟩
   ·rw [List.take_add_one, hget]
    simp only [bz34, Option.toList_some]
    exact wkE_refl _
   ·rw [show 1 + (i + 1) = i + 2 by omega]; simp
   ·have q1 := encLib_lt (st.length + 3) o
    simp only [encLib] at q1
    have q2 : V.lt (st.length + 3) (.lst 6 none (o.imps.map encSet)) := q1.2.2.1
    simp only [V.lt] at q2
    simp only [ltE, V.lt, gwL, Nat.reduceAdd]
    refine ⟨q1, q1, by omega, ⟨fun e h => (by cases h; omega), encD_lt _ _, trivial⟩, ⟨fun e h => (by cases h; omega), encD_lt _ _, ltRows_map fun s _ => encD_lt _ _⟩, q2, trivial, trivial, trivial⟩
theorem show_pre {s : Set'} (h : showable s) : preS s := by
 have := setP_pre 12 (showS s) (by rw [h.1])
 rwa [h.1] at this
theorem bz31 : type_of% @Nat.le_refl ∧ type_of% @encD_drop ∧ type_of% @encD_len ∧ type_of% @encD_take ∧ type_of% @encLib_drop ∧ type_of% @encLib_len ∧ type_of% @encLib_take := ⟨@Nat.le_refl, @encD_drop, @encD_len, @encD_take, @encLib_drop, @encLib_len, @encLib_take⟩
theorem c_LibShowsRow (files : List (Str × Str)) (features libs : List Str) (d : Datum) (st : St) : VCalls Tryz.prog TT 4 [.lst 2 none (files.map encF2), encS features, encS libs, .agg (encD d)] st fun r st' => r = .ret (.bool true) ∧ st' = st := by
 refine vfun TT_ok (an := anL [(7, 1)]) (L := [0, 1, 2, 3, 7, 8, 9, 10]) (rs := [.tmp 8]) Tryz.func4 rfl (by kernel_rfl) rfl Tryz.ntmps4 rfl rfl (Nat.le_refl _) fun hst ha hf => ?_
 simp only [bz24, gw2, qqE, ↓reduceIte, qqA, qqL, qqD, qqM, ite_self, encS]
 refine (c_alive _).use (wkL_refl _) fun _ => ?_
 simp only [bz24, gw2, qqE, ↓reduceIte, qqA, qqL, qqD, qqM, ite_self, Bool.not_true]
 refine (c_refParse3 ⟨files, features, libs⟩ d _).use (wkL_refl _) fun _ => ?_
 simp only [libV]
 simp only [bz31, gw2, qqE, ↓reduceIte, qqA, qqL, qqD, qqM, ite_self]
 by_cases h : (parseP ⟨files, features, libs⟩ d).2 = 0
 ·have hp : parseP ⟨files, features, libs⟩ d = ((parseP ⟨files, features, libs⟩ d).1, 0) := Prod.ext rfl h
  rw [h]
  generalize (parseP ⟨files, features, libs⟩ d).1 = o at hp ⊢
  obtain ⟨hg, hn⟩ := parse_good hp
  refine vdraw TT_ok TT_mixed [0, 0, 0, 1, 0, 1, 0, 0, 0, 0] (by kernel_rfl) ?_
  simp only [bz31, gw2, qqE, ↓reduceIte, qqA, qqL, qqD, qqM, ite_self, show decide ((0 : Int) = 0) = true from rfl, Bool.not_true, Bool.not_false]
  refine eK_free (fun s => c_libShow o (good_ok hg hn) s) (wkL_refl _) ?_
  simp only [bz31, gw2, qqE, ↓reduceIte, qqA, qqL, qqD, qqM, ite_self]
  refine eK_free (fun s => c_refShow o (good_ok hg hn) (fun s hs => show_pre (hg.sets s hs)) s) (wkL_refl _) ?_
  simp only [bz31, gw2, qqE, ↓reduceIte, qqA, qqL, qqD, qqM, ite_self]
  refine eK_free (fun s => c_Equal (showP o) (showP o) s) (wkL_refl _) ?_
  simp only [gw2, qqE, ↓reduceIte, qqA, qqL, qqD, qqM, ite_self]
  exact gives_bool' (eqD_self _) hst
 ·have hok : okLib noLib := ⟨by simp [noLib], by simp [noLib], by simp [noLib], by simp [noLib], trivial⟩
  rw [parse_bad h]
  refine vdraw TT_ok TT_mixed [0, 0, 0, 1, 0, 1, 0, 0, 0, 0] (by kernel_rfl) ?_
  simp only [bz31, gw2, qqE, ↓reduceIte, qqA, qqL, qqD, qqM, ite_self, decide_eq_false h, Bool.not_false, Bool.not_true]
  refine eK_free (fun s => c_libShow noLib hok s) (wkL_refl _) ?_
  simp only [bz31, gw2, qqE, ↓reduceIte, qqA, qqL, qqD, qqM, ite_self]
  refine eK_free (fun s => c_refShow noLib hok (fun s hs => by simp [noLib] at hs) s) (wkL_refl _) ?_
  simp only [bz31, gw2, qqE, ↓reduceIte, qqA, qqL, qqD, qqM, ite_self]
  refine eK_free (fun s => c_Equal (showP noLib) (showP noLib) s) (wkL_refl _) ?_
  simp only [gw2, qqE, ↓reduceIte, qqA, qqL, qqD, qqM, ite_self]
  exact gives_bool' rfl hst
end Go.Proofs.YtpllcpbhjglpaaaGreatDoor.Gx
namespace Go.Proofs.YtpllcpbhjglpaaaGreatDoor.Gx
open Go Go.Proofs.YtpllcpbhjglpaaaGreatDoor.Gw
set_option linter.unusedSimpArgs false
set_option linter.unusedVariables false
def encS1 (s : Str) : List V := [.str s]
theorem len_succ {α : Type} {cs : List α} {n : Nat} (h : cs.length = n + 1) : ∃ c r, cs = c :: r ∧ r.length = n := by
 cases cs with
 | nil => simp at h
 | cons c r => exact ⟨c, r, rfl, by simpa using h⟩
open Go.ChangeShapes Go.WideShapes Go.ChangeAt Go.RowKit
theorem own : ownKnob Tryz.prog.godebug = none := by kernel_rfl
theorem laidOut : laidOutB Tryz.prog = true := by kernel_rfl
theorem below_of {W W' : World} {g' : G} (h : Ext g00 W g' W') : Below W.heap.size W W' := ⟨h.os, h.tape, h.output, h.size, fun k hk => (h.free k hk rfl).1⟩
theorem okWide_slice {P : Program} {W : World} {r : Reach} {b : Nat} {t e : TypeId} {v : Value} (ht : P.underlying t = some (.slice e)) (h : Value.okWide P W r b t v) : v.cells.toList = [v] := by
 unfold Value.okWide at h
 rw [ht] at h
 simp only [Cell.okWide, ht] at h
 cases v <;> first | rfl | (simp [Cell.ok, ht] at h)
theorem dec_str1 {H : Type} {enc : TypeId × Value → H} {P : Program} {W : World} {spare : Nat → Bool} {held : Bool} {t : TypeId} (ht : P.underlying t = some .string) {n : Nat} {cs : List Value} {r : DataW H × List MemPlace} (h : DataW.trod enc P W 0 spare held n t cs = some r) : ∃ x : Str, SimVs g00 W (encS1 x) cs ∧ ∀ u ∈ cs, u.oneCell' = true := by
 obtain ⟨m, rfl, hm⟩ := dec_str ht h
 exact ⟨m, ⟨_, _, rfl, ⟨rfl, hm⟩, rfl⟩, by simp [Value.oneCell']⟩
end Go.Proofs.YtpllcpbhjglpaaaGreatDoor.Gx
namespace Go.Proofs.YtpllcpbhjglpaaaGreatDoor.Gx
open Go Go.Proofs.YtpllcpbhjglpaaaGreatDoor.Gw
open Nat renaming reduceEqDiff → qqE, reduceAdd → qqA, reduceLT → qqL, reduceLeDiff → qqD, reduceMul → qqM
set_option linter.unusedSimpArgs false
set_option linter.unusedVariables false
theorem cells9 : Tryz.prog.cellsOf 9 = 1 := by kernel_rfl
theorem cells59 : Tryz.prog.cellsOf 59 = 2 := by kernel_rfl
theorem dec_File {H : Type} {enc : TypeId × Value → H} {W : World} {spare : Nat → Bool} {held : Bool} : ∀ (n : Nat) (cs : List Value) (r : DataW H × List MemPlace), DataW.trod enc Tryz.prog W 0 spare held n 59 cs = some r → ∃ x : Str × Str, SimVs g00 W (encF2 x) cs ∧ ∀ u ∈ cs, u.oneCell' = true := by
 intro n cs r h
 obtain ⟨m, rfl, hl, hf⟩ := dec_struct Tryz.underlying59 h
 rw [cells59] at hl
 obtain ⟨c0, t0, rfl, l0⟩ := len_succ hl
 obtain ⟨c1, t1, rfl, l1⟩ := len_succ l0
 obtain rfl := List.eq_nil_of_length_eq_zero l1
 simp only [List.forall_mem_cons, cells9, List.drop_zero, List.drop_succ_cons, List.take_succ_cons, List.take_zero] at hf
 obtain ⟨⟨y0, h0⟩, ⟨y1, h1⟩, _⟩ := hf
 obtain ⟨x0, e0, k0⟩ := dec_str Tryz.underlying9 h0
 obtain ⟨x1, e1, k1⟩ := dec_str Tryz.underlying9 h1
 simp only [List.cons.injEq, and_true] at e0 e1
 subst e0 e1
 refine ⟨Prod.mk x0 x1, ?_, ?_⟩
 ·exact ⟨_, _, rfl, ⟨rfl, k0⟩, ⟨_, _, rfl, ⟨rfl, k1⟩, rfl⟩⟩
 ·intro u hu
  simp only [List.mem_cons, List.not_mem_nil, or_false] at hu
  rcases hu with rfl | rfl <;> first | rfl
theorem dec_LFile {H : Type} {enc : TypeId × Value → H} {W : World} {spare : Nat → Bool} {held : Bool} {n : Nat} {cs : List Value} {r : DataW H × List MemPlace} (h : DataW.trod enc Tryz.prog W 0 spare held n 22 cs = some r) : ∃ (l : List (Str × Str)) (v : Value), cs = [v] ∧ SimV g00 W (.lst 2 none (l.map encF2)) v ∧ v.oneCell' = true :=
 dec_slice encF2 Tryz.underlying22 cells59 (by decide) (fun m _ cs r hr => dec_File m cs r hr) h
theorem dec_Lstring {H : Type} {enc : TypeId × Value → H} {W : World} {spare : Nat → Bool} {held : Bool} {n : Nat} {cs : List Value} {r : DataW H × List MemPlace} (h : DataW.trod enc Tryz.prog W 0 spare held n 23 cs = some r) : ∃ (l : List (Str)) (v : Value), cs = [v] ∧ SimV g00 W (.lst 1 none (l.map encS1)) v ∧ v.oneCell' = true :=
 dec_slice (X := Str) encS1 Tryz.underlying23 cells9 (by decide) (fun m _ cs r hr => dec_str1 Tryz.underlying9 hr) h
theorem cells26 : Tryz.prog.cellsOf 26 = 6 := by kernel_rfl
theorem cells3 : Tryz.prog.cellsOf 3 = 1 := by kernel_rfl
theorem cells2 : Tryz.prog.cellsOf 2 = 1 := by kernel_rfl
theorem cells24 : Tryz.prog.cellsOf 24 = 1 := by kernel_rfl
theorem dec_Datum {H : Type} {enc : TypeId × Value → H} {W : World} {spare : Nat → Bool} {held : Bool} : ∀ (n : Nat) (cs : List Value) (r : DataW H × List MemPlace), DataW.trod enc Tryz.prog W 0 spare held n 26 cs = some r → ∃ x : Datum, SimVs g00 W (encD x) cs ∧ ∀ u ∈ cs, u.oneCell' = true := by
 intro n
 induction n using Nat.strongRecOn with
 | _ n ih =>
  intro cs r h
  obtain ⟨m, rfl, hl, hf⟩ := dec_struct Tryz.underlying26 h
  rw [cells26] at hl
  obtain ⟨c0, t0, rfl, l0⟩ := len_succ hl
  obtain ⟨c1, t1, rfl, l1⟩ := len_succ l0
  obtain ⟨c2, t2, rfl, l2⟩ := len_succ l1
  obtain ⟨c3, t3, rfl, l3⟩ := len_succ l2
  obtain ⟨c4, t4, rfl, l4⟩ := len_succ l3
  obtain ⟨c5, t5, rfl, l5⟩ := len_succ l4
  obtain rfl := List.eq_nil_of_length_eq_zero l5
  simp only [List.forall_mem_cons, cells2, cells24, cells3, cells9, List.drop_zero, List.drop_succ_cons, List.take_succ_cons, List.take_zero] at hf
  obtain ⟨⟨y0, h0⟩, ⟨y1, h1⟩, ⟨y2, h2⟩, ⟨y3, h3⟩, ⟨y4, h4⟩, ⟨y5, h5⟩, _⟩ := hf
  obtain ⟨x0, e0⟩ := dec_int Tryz.underlying3 h0
  obtain ⟨x1, e1⟩ := dec_int Tryz.underlying2 h1
  obtain ⟨x2, e2, k2⟩ := dec_str Tryz.underlying9 h2
  obtain ⟨x3, e3⟩ := dec_int Tryz.underlying3 h3
  obtain ⟨x4, e4⟩ := dec_int Tryz.underlying3 h4
  obtain ⟨x5, v5, e5, k5, j5⟩ := dec_slice encD Tryz.underlying24 cells26 (by decide) (fun m' hm' cs r hr => ih m' (by omega) cs r hr) h5
  simp only [List.cons.injEq, and_true] at e0 e1 e2 e3 e4 e5
  subst e0 e1 e2 e3 e4 e5
  refine ⟨Datum.mk x0 x1 x2 x3 x4 x5, ?_, ?_⟩
  ·rw [encD_mk]
   exact ⟨_, _, rfl, rfl, ⟨_, _, rfl, rfl, ⟨_, _, rfl, ⟨rfl, k2⟩, ⟨_, _, rfl, rfl, ⟨_, _, rfl, rfl, ⟨_, _, rfl, k5, rfl⟩⟩⟩⟩⟩⟩
  ·intro u hu
   simp only [List.mem_cons, List.not_mem_nil, or_false] at hu
   rcases hu with rfl | rfl | rfl | rfl | rfl | rfl <;> first | rfl | exact j5
end Go.Proofs.YtpllcpbhjglpaaaGreatDoor.Gx
