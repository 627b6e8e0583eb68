/- Contracts: what is wrong with lists of data (the document's answer); the base's names; a datum without what its kinds have not. Contracts: a datum without what its kinds have not. Contracts: a datum without what its kinds have not (the document's answer); when data are the same. Contracts: when data are the same. strings.Builder: what its methods do. Calls of the library that leave what there was. Writing data: numbers; a datum; data on lines. Writing data, walked. Printing data, walked. The document's texts of data, walked; the law TextPrints. What a row needs: how what comes in is read. How what comes in for TextPrints is read. The row of the law TextPrints, whatever comes in: it answers true, and what came in reads as it did. -/
import Derived.Test.YtbnkfcjmcjiahaaDoorZQ7
import Derived.Lib.Builder
import Derived.Lib.UnsafeStr
import Derived.Shelf.Strconv.Itoa4
import Derived.Shelf.Lay
import Derived.Lib.ItoaLen
import Derived.Ground.NamesProg
import Derived.WalkKit
import Derived.ProofKit
import Derived.OpenShut
import Derived.ShutString
import Derived.ChangeOld
import Derived.Below
import Derived.SizedLaws
import Derived.Carry
import Derived.JoinedCond
import Derived.Test.YtbnkfcjmcjiahaaDoorRows
import Derived.Test.YtbnkfcjmcjiahaaDoorCards
import Derived.Test.YtbnkfcjmcjiahaaDoorTie
import Derived.Deep.DeepHandedRow
import Derived.Lib.LaidTab
import Derived.Stop.LaidErr

namespace Go.Proofs.YtbnkfcjmcjiahaaDoor.Gx
open Go Go.Proofs.YtbnkfcjmcjiahaaDoor.Gw
set_option linter.unusedSimpArgs false
set_option linter.unusedVariables false

theorem lstD_lt (n : Nat) (l : List Datum) : (lstD l).lt n := by
  simp only [lstD, V.lt]
  exact ⟨fun e h => (by cases h), by rw [← encDs_map]; exact encDs_lt _ _⟩

theorem c_ref_Wrong (st : St) (l : List Datum) : VCalls Tryd.prog TT 11 [lstD l] st fun r st' => r = .ret (fltV (wrongL l 0 0)) ∧ st' = st := by
  refine vfun TT_ok (an := anL []) (L := [0, 2, 3, 4, 5, 6, 7, 8, 9]) (rs := [.cell 2 25]) Tryd.func11 rfl (by kernel_rfl) rfl Tryd.ntmps11 rfl rfl (Nat.le_refl _) fun hst ha hf => ?_
  simp only [lstD, fltV, fitL, V.fit, List.length_map] at hf ⊢
  have hkl : l.length ≤ 9223372036854775807 := by simp at hf; omega
  simp only [gwL, gwB, gwD, gwE, gwS, gwTT, gwZ, gwN, gwC, Nat.reduceEqDiff, ↓reduceIte, Nat.reduceAdd, Nat.reduceLT, Nat.reduceLeDiff, Nat.reduceMul, List.length_map]
  refine vforD (σ := Nat × Int) [0, 2, 3, 7, 8, 9] (fun x => [(0, true, lstD l), (2, true, .ptr st.length 0), (3, true, .ptr (st.length + 1) 0), (7, true, lstD l), (8, true, .int .i64 l.length), (9, true, .int .i64 x.1)]) (fun x => st ++ [.box [.int .i64 0, .int .i64 0], .box [.int .i64 x.2]]) (fun x => l.length - x.1) (fun x => x.1 ≤ l.length ∧ 0 ≤ x.2 ∧ x.2 ≤ 2000 ∧ wrongL l 0 0 = wrongL (l.drop x.1) x.1 x.2) (0, 0) rfl TT_ok ⟨Nat.zero_le _, by omega, by omega, rfl⟩ (wkE_refl _) rfl ?_
  rintro ⟨i, c⟩ ⟨hi, hc0, hc1, hx⟩
  simp only at hi hc0 hc1 hx
  rw [hx]
  simp only [lstD]
  rcases at_or_end l i hi with ⟨rfl, hd⟩ | ⟨a, hlt, hget, hdr⟩
  · simp only [gwL, gwB, gwD, gwE, gwS, gwTT, gwZ, gwN, gwC, Nat.reduceEqDiff, ↓reduceIte, Nat.reduceAdd, Nat.reduceLT, Nat.reduceLeDiff, Nat.reduceMul, lt_no, hd, wrongL]
    exact gives_of (wk_refl _) (wkSt_refl _) (by simp [V.lt, ltL]) hst
  · simp only [gwL, gwB, gwD, gwE, gwS, gwTT, gwZ, gwN, gwC, Nat.reduceEqDiff, ↓reduceIte, Nat.reduceAdd, Nat.reduceLT, Nat.reduceLeDiff, Nat.reduceMul, lt_yes hlt, hdr, wrongL, List.length_map, getD_map hget, encD_take, encD_len, encD_drop, Int.ofNat_lt.mpr hlt, Nat.le_refl]
    refine (c_Shape a (st ++ [.box [.int .i64 0, .int .i64 0], .box [.int .i64 c], .box (encD a)]) (st.length + 1) c 1 (by simp only [gwL]) hc0 hc1 (by omega) (by omega)).use (wkL_refl _) fun _ => ?_
    simp only [gwL, gwB, gwD, gwE, gwS, gwTT, gwZ, gwN, gwC, Nat.reduceEqDiff, ↓reduceIte, Nat.reduceAdd, Nat.reduceLT, Nat.reduceLeDiff, Nat.reduceMul]
    refine iK_split (fun h5 => ?_) (fun h5 => ?_)
    · rw [not_yes h5]
      simp only [gwL, gwB, gwD, gwE, gwS, gwTT, gwZ, gwN, gwC, Nat.reduceEqDiff, ↓reduceIte, Nat.reduceAdd, Nat.reduceLT, Nat.reduceLeDiff, Nat.reduceMul]
      exact gives_of (wk_refl _) (wkSt_refl _) (by simp [V.lt, ltL]) hst
    · have h6 : decide ((shapeD a 1 c).1 = 0) = true := by simpa using h5
      have h7 := shapeD_ok a 1 c hc0 (of_decide_eq_true h6)
      rw [h6]
      simp only [gwL, gwB, gwD, gwE, gwS, gwTT, gwZ, gwN, gwC, Nat.reduceEqDiff, ↓reduceIte, Nat.reduceAdd, Nat.reduceLT, Nat.reduceLeDiff, Nat.reduceMul]
      refine ⟨(i + 1, (shapeD a 1 c).2), ⟨?_, st ++ [.box [.int .i64 0, .int .i64 0], .box [.int .i64 (shapeD a 1 c).2]], [.box (encD a)], by simp only [gwL], wkSt_refl _, ?_, ?_, by simp⟩, by simp only; omega, by simp only; omega, by simp only; omega, h7.2, rfl⟩
      · simp only [gwL, gwB, gwD, gwE, gwS, gwTT, gwZ, gwN, gwC, Nat.reduceEqDiff, ↓reduceIte, Nat.reduceAdd, Nat.reduceLT, Nat.reduceLeDiff, Nat.reduceMul, Env.keep, next_i64 hlt hkl]
        exact wkE_refl _
      · simp only [ltE, V.lt, gwL, lstD_lt, and_true, true_and]
        exact ⟨lstD_lt _ _, by omega, by omega, lstD_lt _ _⟩
      · exact ok_app hst (by simp [ltEs, Ent.lt, ltL, V.lt])

def prims : List Str := [[42], [43], [45], [60], [61], [99, 97, 114], [99, 100, 114], [99, 111, 110, 115], [101, 113, 63], [110, 111, 116], [110, 117, 108, 108, 63], [111, 117, 116], [112, 97, 105, 114, 63]]
theorem encS_lt (n : Nat) (l : List Str) : (encS l).lt n := by
  simp only [encS, V.lt]
  refine ⟨fun e h => (by cases h), ltRows_map fun x _ => ?_⟩
  simp [ltL, V.lt]
end Go.Proofs.YtbnkfcjmcjiahaaDoor.Gx

namespace Go.Proofs.YtbnkfcjmcjiahaaDoor.Gx
open Go Go.Proofs.YtbnkfcjmcjiahaaDoor.Gw
set_option linter.unusedSimpArgs false
set_option linter.unusedVariables false

mutual
def bareD : Datum → Datum
  | .mk k n nm _ _ kids => bif decide (k = 3) then .mk k 0 nm 0 0 [] else bif decide (k = 4) then .mk k 0 [] 0 0 (bareDs kids) else .mk k n [] 0 0 []
def bareDs : List Datum → List Datum
  | [] => []
  | d :: r => bareD d :: bareDs r
end
theorem bareDs_map : ∀ l : List Datum, bareDs l = l.map bareD
  | [] => rfl
  | d :: r => by simp only [bareDs, List.map_cons, bareDs_map r]
theorem bareD_mk (k n : Int) (nm : Str) (s l : Int) (kids : List Datum) : bareD (.mk k n nm s l kids) = bif decide (k = 3) then .mk k 0 nm 0 0 [] else bif decide (k = 4) then .mk k 0 [] 0 0 (kids.map bareD) else .mk k n [] 0 0 [] := by
  simp only [bareD, bareDs_map]

mutual
/-- Lists have few kids. -/
def smallD : Datum → Prop
  | .mk k _ _ _ _ kids => k = 4 → kids.length ≤ 2000 ∧ smallDs kids
def smallDs : List Datum → Prop
  | [] => True
  | d :: r => smallD d ∧ smallDs r
end
theorem smallDs_mem : ∀ {l : List Datum} {d : Datum}, smallDs l → d ∈ l → smallD d
  | [], d, _, h => by simp at h
  | x :: r, d, h, hd => by
    rcases List.mem_cons.1 hd with rfl | hd
    · exact h.1
    · exact smallDs_mem h.2 hd
theorem take_next {α : Type} {l : List α} {i : Nat} {a : α} (h : l[i]? = some a) : l.take (i + 1) = l.take i ++ [a] := by
  rw [List.take_add_one, h]; rfl

end Go.Proofs.YtbnkfcjmcjiahaaDoor.Gx

namespace Go.Proofs.YtbnkfcjmcjiahaaDoor.Gx
open Go Go.Proofs.YtbnkfcjmcjiahaaDoor.Gw
set_option linter.unusedSimpArgs false
set_option linter.unusedVariables false

mutual
def bareR : Datum → Datum
  | .mk k n nm s l kids => bif decide (k = 1) then .mk k n [] 0 0 [] else bif decide (k = 2) then .mk k n [] 0 0 [] else bif decide (k = 3) then .mk k 0 nm s l [] else bif decide (k = 4) then .mk k 0 [] 0 0 (bareRs kids) else .mk k 0 [] 0 0 []
def bareRs : List Datum → List Datum
  | [] => []
  | d :: r => bareR d :: bareRs r
end
theorem bareRs_map : ∀ l : List Datum, bareRs l = l.map bareR
  | [] => rfl
  | d :: r => by simp only [bareRs, List.map_cons, bareRs_map r]
theorem bareR_mk (k n : Int) (nm : Str) (s l : Int) (kids : List Datum) : bareR (.mk k n nm s l kids) = bif decide (k = 1) then .mk k n [] 0 0 [] else bif decide (k = 2) then .mk k n [] 0 0 [] else bif decide (k = 3) then .mk k 0 nm s l [] else bif decide (k = 4) then .mk k 0 [] 0 0 (kids.map bareR) else .mk k 0 [] 0 0 [] := by
  simp only [bareR, bareRs_map]

end Go.Proofs.YtbnkfcjmcjiahaaDoor.Gx

namespace Go.Proofs.YtbnkfcjmcjiahaaDoor.Gx
open Go Go.Proofs.YtbnkfcjmcjiahaaDoor.Gw
set_option linter.unusedSimpArgs false
set_option linter.unusedVariables false

mutual
def eqD : Datum → Datum → Bool
  | .mk k n nm s l kids, .mk k' n' nm' s' l' kids' =>
    bif decide (k = k') then
      bif decide (k = 1) then decide (n = n') else bif decide (k = 2) then decide (n = n')
      else bif decide (k = 3) then (decide (nm = nm') && decide (s = s')) && decide (l = l')
      else bif decide (k = 4) then eqDs kids kids' else true
    else false
def eqDs : List Datum → List Datum → Bool
  | [], [] => true
  | a :: r, b :: r' => eqD a b && eqDs r r'
  | [], _ :: _ => false
  | _ :: _, [] => false
end
theorem eqDs_len : ∀ {l m : List Datum}, l.length ≠ m.length → eqDs l m = false
  | [], [], h => absurd rfl h
  | [], _ :: _, _ => by simp only [eqDs]
  | _ :: _, [], _ => by simp only [eqDs]
  | a :: r, b :: r', h => by
    simp only [eqDs, eqDs_len (l := r) (m := r') (by simpa using h), Bool.and_false]

theorem c_Same_of (l : List Datum) (ih : ∀ d ∈ l, ∀ (e : Datum) (st : St), VCalls Tryd.prog TT 31 [.agg (encD d), .agg (encD e)] st fun r st' => r = .ret (.bool (eqD d e)) ∧ st' = st) (m : List Datum) (st : St) :
    VCalls Tryd.prog TT 14 [lstD l, lstD m] st fun r st' => r = .ret (.bool (eqDs l m)) ∧ st' = st := by
  refine vfun TT_ok (an := anL []) (L := [0, 1, 4, 5, 12, 13]) (rs := [.tmp 4]) Tryd.func14 rfl (by kernel_rfl) rfl Tryd.ntmps14 rfl rfl (Nat.le_refl _) fun hst ha hf => ?_
  simp only [lstD, fitL, V.fit, List.length_map] at hf ⊢
  have hkl : l.length ≤ 9223372036854775807 := by simp at hf; omega
  simp only [gwL, gwB, gwD, gwE, gwS, gwTT, gwZ, gwN, gwC, Nat.reduceEqDiff, ↓reduceIte, Nat.reduceAdd, Nat.reduceLT, Nat.reduceLeDiff, Nat.reduceMul, List.length_map]
  refine iK_split (fun h => ?_) (fun h => ?_)
  · simp only [gwL, gwB, gwD, gwE, gwS, gwTT, gwZ, gwN, gwC, Nat.reduceEqDiff, ↓reduceIte, Nat.reduceAdd, Nat.reduceLT, Nat.reduceLeDiff, Nat.reduceMul]
    refine gives_bool ?_ hst
    rw [eqDs_len]
    simp at h
    omega
  have hlen : l.length = m.length := by simp at h; omega
  simp only [gwL, gwB, gwD, gwE, gwS, gwTT, gwZ, gwN, gwC, Nat.reduceEqDiff, ↓reduceIte, Nat.reduceAdd, Nat.reduceLT, Nat.reduceLeDiff, Nat.reduceMul, List.length_map]
  refine vfor (σ := Nat) [0, 1, 4, 12, 13] (fun i => [(0, true, lstD l), (1, true, lstD m), (4, true, .bool false), (12, true, .int .i64 l.length), (13, true, .int .i64 i)]) (fun i => st) (fun i => l.length - i) (fun i => i ≤ l.length ∧ eqDs l m = eqDs (l.drop i) (m.drop i)) 0 rfl TT_ok ⟨Nat.zero_le _, rfl⟩ rfl rfl ?_
  rintro i ⟨hi, hx⟩
  rw [hx]
  simp only [lstD]
  rcases at_or_end l i hi with ⟨rfl, hd⟩ | ⟨a, hlt, hget, hdr⟩
  · have hd2 : m.drop l.length = [] := List.drop_of_length_le (by omega)
    simp only [gwL, gwB, gwD, gwE, gwS, gwTT, gwZ, gwN, gwC, Nat.reduceEqDiff, ↓reduceIte, Nat.reduceAdd, Nat.reduceLT, Nat.reduceLeDiff, Nat.reduceMul, lt_no, hd, hd2, eqDs]
    exact gives_bool rfl hst
  · rcases at_or_end m i (by omega) with ⟨e, hd⟩ | ⟨b, hlt2, hget2, hdr2⟩
    · omega
    simp only [gwL, gwB, gwD, gwE, gwS, gwTT, gwZ, gwN, gwC, Nat.reduceEqDiff, ↓reduceIte, Nat.reduceAdd, Nat.reduceLT, Nat.reduceLeDiff, Nat.reduceMul, lt_yes hlt, hdr, hdr2, eqDs, List.length_map, Int.ofNat_lt.mpr hlt]
    refine vdraw TT_ok TT_mixed [0, 0, 0, 1, 0, 0, 0, 1, 0, 0] (by kernel_rfl) ?_
    simp only [gwL, gwB, gwD, gwE, gwS, gwTT, gwZ, gwN, gwC, Nat.reduceEqDiff, ↓reduceIte, Nat.reduceAdd, Nat.reduceLT, Nat.reduceLeDiff, Nat.reduceMul, List.length_map, getD_map hget, getD_map hget2, encD_take, encD_len, Int.ofNat_lt.mpr hlt, Int.ofNat_lt.mpr hlt2, Nat.le_refl]
    refine eK_free (ih a (List.mem_of_getElem? hget) b) (wkL_refl _) ?_
    simp only [gwL, gwB, gwD, gwE, gwS, gwTT, gwZ, gwN, gwC, Nat.reduceEqDiff, ↓reduceIte, Nat.reduceAdd, Nat.reduceLT, Nat.reduceLeDiff, Nat.reduceMul]
    refine iK_split (fun h5 => ?_) (fun h5 => ?_)
    · simp only [gwL, gwB, gwD, gwE, gwS, gwTT, gwZ, gwN, gwC, Nat.reduceEqDiff, ↓reduceIte, Nat.reduceAdd, Nat.reduceLT, Nat.reduceLeDiff, Nat.reduceMul]
      exact gives_bool (by rw [not_yes h5]; rfl) hst
    · simp only [gwL, gwB, gwD, gwE, gwS, gwTT, gwZ, gwN, gwC, Nat.reduceEqDiff, ↓reduceIte, Nat.reduceAdd, Nat.reduceLT, Nat.reduceLeDiff, Nat.reduceMul, Env.keep]
      exact ⟨i + 1, by rw [next_i64 hlt hkl], by omega, hlt, by rw [not_no h5]; rfl⟩

theorem c_Equal (d : Datum) : ∀ (e : Datum) (st : St), VCalls Tryd.prog TT 31 [.agg (encD d), .agg (encD e)] st fun r st' => r = .ret (.bool (eqD d e)) ∧ st' = st := by
  refine Datum.ind (p := fun d => ∀ (e : Datum) (st : St), VCalls Tryd.prog TT 31 [.agg (encD d), .agg (encD e)] st fun r st' => r = .ret (.bool (eqD d e)) ∧ st' = st) ?_ d
  intro k n nm s l kids ih e st
  obtain ⟨k', n', nm', s', l', kids'⟩ := e
  refine vfun TT_ok (an := anL [(2, 1), (3, 1)]) (L := [0, 1, 2, 3, 4, 11, 12]) (rs := [.tmp 4]) Tryd.func31 rfl (by kernel_rfl) rfl Tryd.ntmps31 rfl rfl (Nat.le_refl _) fun hst ha hf => ?_
  simp only [encD_mk]
  unfold eqD
  simp only [gwL, gwB, gwD, gwE, gwS, gwTT, gwZ, gwN, gwC, Nat.reduceEqDiff, ↓reduceIte, Nat.reduceAdd, Nat.reduceLT, Nat.reduceLeDiff, Nat.reduceMul]
  refine iK_split (fun h => ?_) (fun h => ?_)
  · rw [not_yes h]
    simp only [gwL, gwB, gwD, gwE, gwS, gwTT, gwZ, gwN, gwC, Nat.reduceEqDiff, ↓reduceIte, Nat.reduceAdd, Nat.reduceLT, Nat.reduceLeDiff, Nat.reduceMul]
    exact gives_bool rfl hst
  rw [not_no h]
  simp only [gwL, gwB, gwD, gwE, gwS, gwTT, gwZ, gwN, gwC, Nat.reduceEqDiff, ↓reduceIte, Nat.reduceAdd, Nat.reduceLT, Nat.reduceLeDiff, Nat.reduceMul]
  refine iK_split (fun h1 => ?_) (fun h1 => ?_)
  · rw [h1]
    simp only [gwL, gwB, gwD, gwE, gwS, gwTT, gwZ, gwN, gwC, Nat.reduceEqDiff, ↓reduceIte, Nat.reduceAdd, Nat.reduceLT, Nat.reduceLeDiff, Nat.reduceMul]
    exact gives_bool rfl hst
  rw [h1]
  simp only [gwL, gwB, gwD, gwE, gwS, gwTT, gwZ, gwN, gwC, Nat.reduceEqDiff, ↓reduceIte, Nat.reduceAdd, Nat.reduceLT, Nat.reduceLeDiff, Nat.reduceMul]
  refine iK_split (fun h2 => ?_) (fun h2 => ?_)
  · rw [h2]
    simp only [gwL, gwB, gwD, gwE, gwS, gwTT, gwZ, gwN, gwC, Nat.reduceEqDiff, ↓reduceIte, Nat.reduceAdd, Nat.reduceLT, Nat.reduceLeDiff, Nat.reduceMul]
    exact gives_bool rfl hst
  rw [h2]
  simp only [gwL, gwB, gwD, gwE, gwS, gwTT, gwZ, gwN, gwC, Nat.reduceEqDiff, ↓reduceIte, Nat.reduceAdd, Nat.reduceLT, Nat.reduceLeDiff, Nat.reduceMul]
  refine iK_split (fun h3 => ?_) (fun h3 => ?_)
  · rw [h3]
    simp only [gwL, gwB, gwD, gwE, gwS, gwTT, gwZ, gwN, gwC, Nat.reduceEqDiff, ↓reduceIte, Nat.reduceAdd, Nat.reduceLT, Nat.reduceLeDiff, Nat.reduceMul]
    exact gives_bool rfl hst
  rw [h3]
  simp only [gwL, gwB, gwD, gwE, gwS, gwTT, gwZ, gwN, gwC, Nat.reduceEqDiff, ↓reduceIte, Nat.reduceAdd, Nat.reduceLT, Nat.reduceLeDiff, Nat.reduceMul]
  refine iK_split (fun h4 => ?_) (fun h4 => ?_)
  · rw [h4]
    simp only [gwL, gwB, gwD, gwE, gwS, gwTT, gwZ, gwN, gwC, Nat.reduceEqDiff, ↓reduceIte, Nat.reduceAdd, Nat.reduceLT, Nat.reduceLeDiff, Nat.reduceMul]
    refine (c_Same_of kids ih kids' st).use (wkL_refl _) fun _ => ?_
    simp only [gwL, gwB, gwD, gwE, gwS, gwTT, gwZ, gwN, gwC, Nat.reduceEqDiff, ↓reduceIte, Nat.reduceAdd, Nat.reduceLT, Nat.reduceLeDiff, Nat.reduceMul]
    exact gives_bool rfl hst
  · rw [h4]
    simp only [gwL, gwB, gwD, gwE, gwS, gwTT, gwZ, gwN, gwC, Nat.reduceEqDiff, ↓reduceIte, Nat.reduceAdd, Nat.reduceLT, Nat.reduceLeDiff, Nat.reduceMul]
    exact gives_bool rfl hst
end Go.Proofs.YtbnkfcjmcjiahaaDoor.Gx

namespace Go.Proofs.YtbnkfcjmcjiahaaDoor.Gx
open Go Go.Proofs.YtbnkfcjmcjiahaaDoor.Gw
set_option linter.unusedSimpArgs false
set_option linter.unusedVariables false

/-- A text's bytes as rows. -/
def bytesV (s : Str) : List (List V) := s.map fun c => [V.int .u8 c.toNat]
theorem bytesV_len (s : Str) : (bytesV s).length = s.length := by simp [bytesV]
theorem bytesV_app (s t : Str) : bytesV s ++ bytesV t = bytesV (s ++ t) := by simp [bytesV]
theorem bytesV_flat : ∀ s : Str, (bytesV s).flatten = s.map fun c => V.int .u8 c.toNat
  | [] => rfl
  | c :: r => by have := bytesV_flat r; simp only [bytesV, List.map_cons, List.flatten_cons] at *; rw [this]; rfl
theorem sim_bytes {g : G} {w : World} : ∀ {s : Str} {xs : List Value}, SimVs g w (s.map fun c => V.int .u8 c.toNat) xs → xs = s.map fun c => Value.int .u8 c.toNat
  | [], xs, h => by simpa [SimVs] using h
  | c :: r, xs, h => by
    simp only [List.map_cons, SimVs, SimV] at h
    obtain ⟨v, t, rfl, rfl, h2⟩ := h
    rw [sim_bytes h2]; rfl

set_option maxHeartbeats 1000000 in
set_option maxRecDepth 100000 in
theorem copyCheck_used (p : Nat) (w : World) (h0 : w.cell? ⟨p, 0, none⟩ = some (.pointer (some ⟨p, 0, none⟩))) :
    Calls Tryd.prog 38 #[.pointer (some ⟨p, 0, none⟩)] w fun e w' => e = .returned (.tuple #[]) ∧ w' = w := by
  obtain ⟨j, hj, _⟩ := Option.map_eq_some_iff.1 (show (Tryd.prog.info? 40).map (·.size) = some 2 by kernel_rfl)
  go_enter Tryd.func38, Tryd.ntmps38
  go_wp2
  rw [Lib.run_neq_ptr_same w _ Tryd.underlying38 hj]
  go_wp2
  go_end0
  exact ⟨rfl, rfl⟩
set_option maxHeartbeats 1000000 in
set_option maxRecDepth 100000 in
theorem copyCheck_fresh (T k p : Nat) (w : World) (h0 : w.cell? ⟨p, 0, none⟩ = some (.pointer none)) (hsh : w.shape? p = some (T, k)) (hk : 0 < k) (hfz : w.frozen? ⟨p, 0, none⟩ = false)
    (hl : liesAt Tryd.prog Tryd.prog.depth T (k / Tryd.prog.cellsOf T) 0 40 1 = true) :
    Calls Tryd.prog 38 #[.pointer (some ⟨p, 0, none⟩)] w fun e w' => e = .returned (.tuple #[]) ∧ w' = w.setCell ⟨p, 0, none⟩ (.pointer (some ⟨p, 0, none⟩)) := by
  obtain ⟨j, hj, hjs⟩ := Option.map_eq_some_iff.1 (show (Tryd.prog.info? 40).map (·.size) = some 2 by kernel_rfl)
  go_enter Tryd.func38, Tryd.ntmps38
  go_wp2
  rw [Lib.run_to_unsafe w ⟨p, 0, none⟩ Tryd.underlying38 Tryd.underlying81 hj (by rw [hjs]; decide) hsh hk]
  simp only [Result.andThen]
  rw [Oper.upon_value]
  go_wp2
  rw [run_callFunc_extern Tryd.func51 (by kernel_rfl) (by kernel_rfl) (by kernel_rfl) (e := Extern.AbiNoEscape.same) (by kernel_rfl)]
  rw [Lib.run_noEscape]
  simp only [Result.andThen]
  rw [Oper.upon_value]
  go_wp2
  rw [Lib.run_from_unsafe w ⟨p, 0, none⟩ Tryd.underlying81 Tryd.underlying38 hj hsh hl]
  simp only [Result.andThen]
  rw [Oper.upon_value]
  go_wp2
  go_end0
  exact ⟨rfl, rfl⟩

/-- What the box says of the builder's own cells. -/
theorem c_copyCheck {T k : Nat} (st : St) (b : Nat) (r : List V) (hb : st[b]? = some (.box (.addr b T k :: r))) (hl : liesAt Tryd.prog Tryd.prog.depth T (k / Tryd.prog.cellsOf T) 0 40 1 = true) :
    VCalls Tryd.prog TT 38 [.ptr b 0] st fun q st' => q = .ret (.tup []) ∧ st' = st := by
  refine ⟨⟨_, Tryd.func38, by kernel_rfl, by kernel_rfl⟩, fun g w vals hst hv => ?_⟩
  simp only [SimVs, SimV] at hv
  obtain ⟨_, _, rfl, ⟨hbn, rfl⟩, rfl⟩ := hv
  have hent := hst.ent b _ hb
  simp only [SimE, SimVs, SimV] at hent
  obtain ⟨hown, vs, t, hheap, ⟨p, rs, rfl, ⟨h1, hsh, hp⟩, hrs⟩, hone⟩ := hent
  have hkk : k = rs.length + 1 ∧ T = t := by
    rw [World.shape?, hheap] at hsh
    simp at hsh
    exact ⟨hsh.2.symm, hsh.1.symm⟩
  rcases hp with rfl | rfl
  · refine (copyCheck_fresh T k (g.pb b) w (by simp [World.cell?, hheap]) hsh (by omega) (by simp [World.frozen?, hheap]) hl).mono ?_
    rintro e w' ⟨rfl, rfl⟩
    rw [Go.setCell_eq_setRow w (g.pb b) 0 _ t (0, 0) _ hheap]
    have hset : ((Value.pointer none :: rs).toArray.setIfInBounds 0 (.pointer (some ⟨g.pb b, 0, none⟩))) = (Value.pointer (some ⟨g.pb b, 0, none⟩) :: rs).toArray := by simp
    rw [hset]
    obtain ⟨s1, s2⟩ := hst.write (c' := .addr b T k :: r) (vs' := Value.pointer (some ⟨g.pb b, 0, none⟩) :: rs) hb hheap (by
      simp only [SimVs, SimV]; exact ⟨_, _, rfl, ⟨h1, hsh, .inr rfl⟩, hrs⟩) (fun u hu => by
      rcases List.mem_cons.1 hu with rfl | hu
      · rfl
      · exact hone u (by simp [hu])) (by simp)
    have hst' : st.set b (.box (.addr b T k :: r)) = st := by
      obtain ⟨hlt, he⟩ := List.getElem?_eq_some_iff.1 hb
      rw [← he]; exact List.set_getElem_self hlt
    rw [hst'] at s1
    exact ⟨_, st, g, ⟨rfl, rfl⟩, ⟨_, rfl, by simp [SimV, SimVs]⟩, s1, s2⟩
  · refine (copyCheck_used (g.pb b) w (by simp [World.cell?, hheap])).mono ?_
    rintro e w' ⟨rfl, rfl⟩
    exact ⟨_, st, g, ⟨rfl, rfl⟩, ⟨_, rfl, by simp [SimV, SimVs]⟩, hst, Ext.refl _ _⟩

/-- A builder that holds a text: its box, its bytes. -/
structure IsB (st : St) (b t T k : Nat) (s : Str) (r : List V) : Prop where
  box : st[b]? = some (.box (.addr b T k :: .arr t s.length :: r))
  arr : st[t]? = some (.arr 5 1 (bytesV s))
  lies : liesAt Tryd.prog Tryd.prog.depth T (k / Tryd.prog.cellsOf T) 0 40 1 = true
def bput (st : St) (b t T k : Nat) (s : Str) (r : List V) : St := (st.set t (.arr 5 1 (bytesV s))).set b (.box (.addr b T k :: .arr t s.length :: r))
section
variable {st : St} {b t T k : Nat} {s : Str} {r : List V}
theorem IsB.ne (h : IsB st b t T k s r) : b ≠ t := fun e => by
  have h1 := h.box
  rw [e, h.arr] at h1
  cases h1
theorem IsB.put (h : IsB st b t T k s r) (s' : Str) : IsB (bput st b t T k s' r) b t T k s' r where
  box := by
    simp only [bput]
    rw [List.getElem?_set_self (by rw [List.length_set]; exact (List.getElem?_eq_some_iff.1 h.box).1)]
  arr := by
    simp only [bput]
    rw [List.getElem?_set_ne h.ne, List.getElem?_set_self (List.getElem?_eq_some_iff.1 h.arr).1]
  lies := h.lies
theorem bput_bput (h : b ≠ t) (s' : Str) : bput (bput st b t T k s r) b t T k s' r = bput st b t T k s' r := by
  simp only [bput]
  rw [List.set_comm _ _ h, List.set_set, List.set_set]
theorem bput_len : (bput st b t T k s r).length = st.length := by simp [bput]
theorem IsB.same (h : IsB st b t T k s r) : bput st b t T k s r = st := by
  simp only [bput]
  obtain ⟨h1, h2⟩ := List.getElem?_eq_some_iff.1 h.arr
  obtain ⟨h3, h4⟩ := List.getElem?_eq_some_iff.1 h.box
  rw [← h2, List.set_getElem_self, ← h4, List.set_getElem_self]
theorem bput_ok (h : IsB st b t T k s r) (hst : St.ok st) (s' : Str) : St.ok (bput st b t T k s' r) := by
  intro e he
  rw [bput_len]
  have hb := hst _ (List.mem_of_getElem? h.box)
  rcases List.mem_or_eq_of_mem_set he with h' | rfl
  · rcases List.mem_or_eq_of_mem_set h' with h' | rfl
    · exact hst e h'
    · simp only [Ent.lt, bytesV]
      have : ∀ l : Str, ltRows st.length (l.map fun c => [V.int .u8 c.toNat]) := fun l => by
        induction l with
        | nil => trivial
        | cons a l ih => exact ⟨⟨trivial, trivial⟩, ih⟩
      exact this s'
  · simp only [Ent.lt, ltL, V.lt] at hb ⊢
    exact hb
end

theorem c_WriteByte {st : St} {b t T k : Nat} {s : Str} {r : List V} (h : IsB st b t T k s r) (c : UInt8) (hl : s.length < 100000000000000) :
    VCalls Tryd.prog TT 19 [.ptr b 0, .int .u8 c.toNat] st fun q st' => q = .ret .nili ∧ st' = bput st b t T k (s ++ [c]) r := by
  refine vfun TT_ok (an := anL []) (L := [0, 1, 4]) (rs := [.tmp 4]) Tryd.func19 rfl (by kernel_rfl) rfl Tryd.ntmps19 rfl rfl (Nat.le_of_eq bput_len.symm) fun hst ha hf => ?_
  have hb := h.box
  have ht := h.arr
  have hb2 : ∀ e, (st.set t e)[b]? = some (.box (.addr b T k :: .arr t s.length :: r)) := fun e => by rw [List.getElem?_set_ne h.ne.symm]; exact hb
  simp only [gwL, gwB, gwD, gwE, gwS, gwTT, gwZ, gwN, gwC, Nat.reduceEqDiff, ↓reduceIte, Nat.reduceAdd, Nat.reduceLT, Nat.reduceLeDiff, Nat.reduceMul]
  refine (c_copyCheck st b _ hb h.lies).use (wkL_refl _) fun _ => ?_
  simp only [gwL, gwB, gwD, gwE, gwS, gwTT, gwZ, gwN, gwC, Nat.reduceEqDiff, ↓reduceIte, Nat.reduceAdd, Nat.reduceLT, Nat.reduceLeDiff, Nat.reduceMul, hb, ht, hb2, bytesV_len]
  refine ⟨by omega, ?_⟩
  have e : (st.set t (.arr 5 1 (bytesV s ++ [[V.int .u8 c.toNat]]))).set b (.box (.addr b T k :: .arr t (s.length + 1) :: r)) = bput st b t T k (s ++ [c]) r := by
    simp [bput, bytesV]
  rw [e]
  exact gives_self (by simp [V.lt]) (bput_ok h hst _)
theorem c_WriteString {st : St} {b t T k : Nat} {s : Str} {r : List V} (h : IsB st b t T k s r) (x : Str) (hl : s.length + x.length < 100000000000000) :
    VCalls Tryd.prog TT 36 [.ptr b 0, .str x] st fun q st' => q = .ret (.tup [.int .i64 x.length, .nili]) ∧ st' = bput st b t T k (s ++ x) r := by
  refine vfun TT_ok (an := anL []) (L := [0, 1, 4, 5]) (rs := [.tmp 4, .tmp 5]) Tryd.func36 rfl (by kernel_rfl) rfl Tryd.ntmps36 rfl rfl (Nat.le_of_eq bput_len.symm) fun hst ha hf => ?_
  have hb := h.box
  have ht := h.arr
  have hb2 : ∀ e, (st.set t e)[b]? = some (.box (.addr b T k :: .arr t s.length :: r)) := fun e => by rw [List.getElem?_set_ne h.ne.symm]; exact hb
  simp only [gwL, gwB, gwD, gwE, gwS, gwTT, gwZ, gwN, gwC, Nat.reduceEqDiff, ↓reduceIte, Nat.reduceAdd, Nat.reduceLT, Nat.reduceLeDiff, Nat.reduceMul]
  refine (c_copyCheck st b _ hb h.lies).use (wkL_refl _) fun _ => ?_
  simp only [gwL, gwB, gwD, gwE, gwS, gwTT, gwZ, gwN, gwC, Nat.reduceEqDiff, ↓reduceIte, Nat.reduceAdd, Nat.reduceLT, Nat.reduceLeDiff, Nat.reduceMul, hb, ht, hb2, bytesV_len, List.length_map]
  refine ⟨by omega, ?_⟩
  have e : (st.set t (.arr 5 1 (bytesV s ++ x.map fun b => [V.int .u8 b.toNat]))).set b (.box (.addr b T k :: .arr t (s.length + x.length) :: r)) = bput st b t T k (s ++ x) r := by
    simp [bput, bytesV]
  rw [e]
  exact gives_self (by simp [V.lt, ltL]) (bput_ok h hst _)
theorem c_Len {st : St} {b t T k : Nat} {s : Str} {r : List V} (h : IsB st b t T k s r) :
    VCalls Tryd.prog TT 20 [.ptr b 0] st fun q st' => q = .ret (.int .i64 s.length) ∧ st' = st := by
  refine vfun TT_ok (an := anL []) (L := [0, 2]) (rs := [.tmp 2]) Tryd.func20 rfl (by kernel_rfl) rfl Tryd.ntmps20 rfl rfl (Nat.le_refl _) fun hst ha hf => ?_
  have hb := h.box
  have ht := h.arr
  simp only [gwL, gwB, gwD, gwE, gwS, gwTT, gwZ, gwN, gwC, Nat.reduceEqDiff, ↓reduceIte, Nat.reduceAdd, Nat.reduceLT, Nat.reduceLeDiff, Nat.reduceMul, hb, ht]
  exact gives_int rfl hst

set_option maxHeartbeats 2000000 in
set_option maxRecDepth 100000 in
theorem string_row (p g cap : Nat) (s : Str) (w : World) (c0 : w.cell? ⟨p, 1, none⟩ = some (.slice (some ⟨g, 0, none⟩) s.length cap)) (h0 : s ≠ []) (hc : s.length ≤ cap) (hm : cap ≤ maxLen) (cells : Nat) (hsh : w.shape? g = some (5, cells)) (hcs : s.length ≤ cells)
    (hcell : ∀ j x, s[j]? = some x → w.cell? ((⟨g, 0, none⟩ : Addr).add j) = some (.int .u8 x.toNat)) :
    Calls Tryd.prog 21 #[.pointer (some ⟨p, 0, none⟩)] w fun e w' => e = .returned (.string ⟨s.toArray⟩) ∧ w' = w.drew.freeze ⟨g, 0, none⟩ s.length := by
  have hl0 : s.length ≠ 0 := by simpa using h0
  have c1 : w.drew.cell? ⟨p, 1, none⟩ = some (.slice (some ⟨g, 0, none⟩) s.length cap) := c0
  have hSD : (Builtin.unsafeSliceData_ #[37] 72 #[.slice (some ⟨g, 0, none⟩) s.length cap]).run Tryd.prog w.drew = .ok (.pointer (some ⟨g, 0, none⟩)) w.drew :=
    Lib.run_unsafeSliceData_row _ _ _ _ _ _ (by omega)
  have hUS : (Builtin.unsafeString_ #[72, 3] 9 #[.pointer (some ⟨g, 0, none⟩), .int .i64 s.length]).run Tryd.prog w.drew = .ok (.string ⟨s.toArray⟩) (w.drew.freeze ⟨g, 0, none⟩ s.length) :=
    Lib.run_unsafeString_row w.drew 72 3 9 5 Tryd.underlying72 (by kernel_rfl) g cells hsh s h0 hcs (by unfold maxLen at hm; omega) hcell
  go_enter Tryd.func21, Tryd.ntmps21
  go_wp2
  go_region
  all_goals (go_wp2; go_ret; exact ⟨rfl, rfl⟩)
set_option maxHeartbeats 2000000 in
set_option maxRecDepth 100000 in
theorem string_nil (p : Nat) (w : World) (c0 : w.cell? ⟨p, 1, none⟩ = some (.slice none 0 0)) :
    Calls Tryd.prog 21 #[.pointer (some ⟨p, 0, none⟩)] w fun e w' => e = .returned (.string ⟨#[]⟩) ∧ w' = w.drew := by
  have hUS : ∀ (W : World) (q : Option Addr), (Builtin.unsafeString_ #[72, 3] 9 #[.pointer q, .int .i64 0]).run Tryd.prog W = .ok (.string .empty) W := fun W q => Lib.run_unsafeString_none W _ _ _ q
  have c1 : w.drew.cell? ⟨p, 1, none⟩ = some (.slice none 0 0) := c0
  have hSD : (Builtin.unsafeSliceData_ #[37] 72 #[.slice none 0 0]).run Tryd.prog w.drew = .ok (.pointer none) w.drew := rfl
  go_enter Tryd.func21, Tryd.ntmps21
  go_wp2
  go_region
  all_goals (go_wp2; go_ret; exact ⟨rfl, rfl⟩)
set_option maxHeartbeats 2000000 in
set_option maxRecDepth 100000 in
theorem string_room (p g cap : Nat) (w : World) (hc0 : cap ≠ 0) (c0 : w.cell? ⟨p, 1, none⟩ = some (.slice (some ⟨g, 0, none⟩) 0 cap)) :
    Calls Tryd.prog 21 #[.pointer (some ⟨p, 0, none⟩)] w fun e w' => e = .returned (.string ⟨#[]⟩) ∧ w' = w.drew := by
  have hUS : ∀ (W : World) (q : Option Addr), (Builtin.unsafeString_ #[72, 3] 9 #[.pointer q, .int .i64 0]).run Tryd.prog W = .ok (.string .empty) W := fun W q => Lib.run_unsafeString_none W _ _ _ q
  have c1 : w.drew.cell? ⟨p, 1, none⟩ = some (.slice (some ⟨g, 0, none⟩) 0 cap) := c0
  have hSD : (Builtin.unsafeSliceData_ #[37] 72 #[.slice (some ⟨g, 0, none⟩) 0 cap]).run Tryd.prog w.drew = .ok (.pointer (some ⟨g, 0, none⟩)) w.drew :=
    Lib.run_unsafeSliceData_row _ _ _ _ _ _ hc0
  clear hc0
  go_enter Tryd.func21, Tryd.ntmps21
  go_wp2
  go_region
  all_goals (go_wp2; go_ret; exact ⟨rfl, rfl⟩)
set_option maxHeartbeats 2000000 in
set_option maxRecDepth 100000 in
theorem string_noroom (p g : Nat) (w : World) (hlt : p < w.heap.size) (c0 : w.cell? ⟨p, 1, none⟩ = some (.slice (some ⟨g, 0, none⟩) 0 0)) (sh : TypeId × Nat) (hsh : w.shape? g = some sh) :
    Calls Tryd.prog 21 #[.pointer (some ⟨p, 0, none⟩)] w fun e w' => e = .returned (.string ⟨#[]⟩) ∧ w' = w.drew.alloc (.view ⟨g, 0, none⟩ 5) := by
  have hUS : ∀ (W : World) (q : Option Addr), (Builtin.unsafeString_ #[72, 3] 9 #[.pointer q, .int .i64 0]).run Tryd.prog W = .ok (.string .empty) W := fun W q => Lib.run_unsafeString_none W _ _ _ q
  have c1 : w.drew.cell? ⟨p, 1, none⟩ = some (.slice (some ⟨g, 0, none⟩) 0 0) := c0
  have hSD : (Builtin.unsafeSliceData_ #[37] 72 #[.slice (some ⟨g, 0, none⟩) 0 0]).run Tryd.prog w.drew = .ok (.pointer (some ⟨w.drew.heap.size, 0, none⟩)) (w.drew.alloc (.view ⟨g, 0, none⟩ 5)) :=
    Lib.run_unsafeSliceData_zero w.drew _ _ 5 Tryd.underlying72 ⟨g, 0, none⟩ 0 sh hsh
  have c2 : (w.drew.alloc (.view ⟨g, 0, none⟩ 5)).cell? ⟨p, 1, none⟩ = some (.slice (some ⟨g, 0, none⟩) 0 0) := by
    have := Go.RowKit.Below.heap_alloc w.drew (.view ⟨g, 0, none⟩ 5) p hlt
    rw [cell_of_block (w := w.drew) this]; exact c1
  have c3 : (w.alloc (.view ⟨g, 0, none⟩ 5)).drew.cell? ⟨p, 1, none⟩ = some (.slice (some ⟨g, 0, none⟩) 0 0) := c2
  go_enter Tryd.func21, Tryd.ntmps21
  go_wp2
  go_region
  all_goals (go_wp2; go_ret; exact ⟨rfl, rfl⟩)

theorem frz_eq (w : World) (a : Addr) (n : Nat) (h : n ≠ 0) : w.freeze a n = { w with heap := (w.freeze a n).heap } := by
  unfold World.freeze; rw [if_neg h]
theorem frz_other (w : World) (b n c : Nat) (h : c ≠ b) : (w.freeze ⟨b, 0, none⟩ n).heap[c]? = w.heap[c]? := by
  unfold World.freeze
  split
  · rfl
  · simp [Array.getElem?_modify, Ne.symm h]
theorem frz_self (w : World) (b n : Nat) {cur : Array Value} {e : TypeId} (h : w.heap[b]? = some (.cells cur e (0, 0))) (hn : n ≠ 0) : (w.freeze ⟨b, 0, none⟩ n).heap[b]? = some (.cells cur e (0, n)) := by
  unfold World.freeze
  rw [if_neg hn]
  simp [Array.getElem?_modify, h]
theorem frz_cell (w : World) (b n : Nat) (a : Addr) {cur : Array Value} {e : TypeId} (h : w.heap[b]? = some (.cells cur e (0, 0))) : (w.freeze ⟨b, 0, none⟩ n).cell? a = w.cell? a := by
  by_cases hn : n = 0
  · subst hn; rfl
  by_cases hb : a.block = b
  · have := frz_self w b n h hn
    simp only [World.cell?, hb, this, h]
  · simp only [World.cell?, frz_other w b n _ hb]

/-- What was written; its bytes are written no more. -/
theorem c_String {st : St} {b t T k : Nat} {s : Str} {r : List V} (h : IsB st b t T k s r) :
    VCalls Tryd.prog TT 21 [.ptr b 0] st fun q st' => q = .ret (.str s) ∧ st' = st.set t .gone := by
  refine ⟨⟨_, Tryd.func21, by kernel_rfl, by kernel_rfl⟩, fun g w vals hst hv => ?_⟩
  simp only [SimVs, SimV] at hv
  obtain ⟨_, _, rfl, ⟨hbn, rfl⟩, rfl⟩ := hv
  have hent := hst.ent b _ h.box
  simp only [SimE, SimVs, SimV] at hent
  obtain ⟨hown, vs, ty, hheap, ⟨p, rs, rfl, _, u, rs2, rfl, ⟨ht1, ht2, ht3, a, cap, rfl⟩, hrs⟩, hone⟩ := hent
  obtain ⟨m1, m2, xs, ⟨t1, t2, t3⟩, m3, m4⟩ := hst.ent t _ h.arr
  rw [bytesV_len] at t1 t2 t3
  have htv := ht3 t1
  replace t3 := tip2 t3 rfl
  have c0 : w.cell? ⟨g.pb b, 1, none⟩ = some (.slice a s.length cap) := by simp [World.cell?, hheap]
  have hlt := (Array.getElem?_eq_some_iff.1 hheap).1
  have hmel : ∀ (g' : G) (w' : World), Ext g w g' w' → g'.n = g.n → (∀ o, g'.pb o = g.pb o) → (∀ o, g'.len o = g.len o ∧ g'.tv o = g.tv o) → (∀ c, c < w.heap.size → blkOf g t (.arr 5 1 (bytesV s)) ≠ some c → (g.own c).isSome = true → w'.heap[c]? = w.heap[c]? ∧ g'.own c = g.own c) → SimSt TT g' (st.set t .gone) w' := fun g' w' hx e1 e2 e3 e4 =>
    hst.upd h.arr hx e1 e2 (fun o _ => e3 o) e4 trivial (fun c hc => by simp [blkOf] at hc)
  have hd := Ext.drew g w
  have fin : ∀ (g' : G) (w' : World), SimSt TT g' (st.set t .gone) w' → Ext g w g' w' → ∃ q st' g'', (q = VEnd.ret (.str s) ∧ st' = st.set t .gone) ∧ SimEnd g'' w' q (.returned (.string ⟨s.toArray⟩)) ∧ SimSt TT g'' st' w' ∧ Ext g w g'' w' := fun g' w' h1 h2 =>
    ⟨_, _, g', ⟨rfl, rfl⟩, ⟨_, rfl, by
      simp only [SimV]
      refine ⟨trivial, ?_⟩
      rcases t3 with ⟨q0, _⟩ | ⟨b', cap', cur, k1, k2, k3, k4, k5, _⟩
      · omega
      · have : maxLen = 9223372036854775807 := rfl
        omega⟩, h1, h2⟩
  rcases t3 with ⟨q0, q1⟩ | ⟨b', cap', cur, k1, k2, k3, k4, k5, k6, k7⟩
  · have hs : s = [] := List.eq_nil_of_length_eq_zero q0
    subst hs
    rw [htv] at q1; simp only [List.length_nil, Value.slice.injEq, true_and] at q1
    obtain ⟨rfl, rfl⟩ := q1
    refine (string_nil (g.pb b) w c0).mono ?_
    rintro e w' ⟨rfl, rfl⟩
    have := fin g w.drew (hmel g w.drew hd rfl (fun _ => rfl) (fun _ => ⟨rfl, rfl⟩) (fun _ _ _ _ => ⟨rfl, rfl⟩)) hd
    exact this
  · rw [htv] at k1; cases k1
    simp only [Nat.zero_add, Nat.add_zero, List.drop_zero] at k2 k6 k7
    by_cases hs : s = []
    · subst hs
      by_cases hc : cap = 0
      · subst hc
        refine (string_noroom (g.pb b) b' w hlt c0 (5, cur.size) (by rw [World.shape?, k3])).mono ?_
        rintro e w' ⟨rfl, rfl⟩
        have hx := Ext.allocD g w (.view ⟨b', 0, none⟩ 5) none
        exact fin _ _ (hmel _ _ hx rfl (fun _ => rfl) (fun _ => ⟨rfl, rfl⟩) (fun c hc _ _ => ⟨Go.RowKit.Below.heap_alloc w.drew _ c hc, by simp only [G.new]; rw [if_neg (by omega)]⟩)) hx
      · refine (string_room (g.pb b) b' cap w hc c0).mono ?_
        rintro e w' ⟨rfl, rfl⟩
        exact fin g w.drew (hmel g w.drew hd rfl (fun _ => rfl) (fun _ => ⟨rfl, rfl⟩) (fun _ _ _ _ => ⟨rfl, rfl⟩)) hd
    · have hsz : (TT 5).size = 1 := m1.symm
      rw [hsz, Nat.mul_one] at k6 k7
      rw [bytesV_flat] at m3
      have hxs := sim_bytes m3
      refine (string_row (g.pb b) b' cap s w c0 hs k4 k5 cur.size (by rw [World.shape?, k3]) (by omega) (fun j x hj => ?_)).mono ?_
      · have hj' : xs[j]? = some (.int .u8 x.toNat) := by rw [hxs]; simp [hj]
        rw [← k7] at hj'
        have hjl : j < s.length := (List.getElem?_eq_some_iff.1 hj).1
        rw [List.getElem?_take_of_lt hjl] at hj'
        rw [Addr.add_eq rfl]
        simp only [World.cell?, k3, Nat.zero_add]
        simpa using hj'
      · rintro e w' ⟨rfl, rfl⟩
        have hn0 : s.length ≠ 0 := by simpa using hs
        have hfz : ∀ c, c ≠ b' → (w.drew.freeze ⟨b', 0, none⟩ s.length).heap[c]? = w.heap[c]? := fun c hc => frz_other w.drew _ _ c hc
        have hx : Ext g w g (w.drew.freeze ⟨b', 0, none⟩ s.length) := by
          refine ⟨?_, ?_, ?_, ?_, Nat.le_refl _, fun _ _ => rfl, fun _ _ => Nat.le_refl _, fun _ _ _ => rfl, fun c hc hn => ⟨hfz c (fun e => by rw [e, k2] at hn; cases hn), hn⟩, fun c k' hc hk => ⟨fun off _ => frz_cell w.drew _ _ _ (by exact k3), fun k'' hk' => by rw [hk] at hk'; cases hk'; exact Nat.le_refl _⟩, fun c hc => ?_⟩
          · rw [frz_eq _ _ _ hn0]; rfl
          · rw [frz_eq _ _ _ hn0]; rfl
          · rw [frz_eq _ _ _ hn0]; rfl
          · rw [show (w.drew.freeze ⟨b', 0, none⟩ s.length).heap.size = w.drew.heap.size by unfold World.freeze; rw [if_neg hn0]; simp only [Array.size_modify]]; exact Nat.le_refl _
          · by_cases e : c = b'
            · subst e
              rw [World.shape?, World.shape?, frz_self w.drew _ _ (by exact k3) hn0, k3]
            · exact shape_of_block (hfz c e)
        refine fin g _ (hmel g _ hx rfl (fun _ => rfl) (fun _ => ⟨rfl, rfl⟩) (fun c hc hne _ => ⟨hfz c (fun e => hne ?_), rfl⟩)) hx
        rw [e]
        simp only [blkOf]
        rw [htv]
        rfl
end Go.Proofs.YtbnkfcjmcjiahaaDoor.Gx

namespace Go.Proofs.YtbnkfcjmcjiahaaDoor.Gx
open Go Go.Proofs.YtbnkfcjmcjiahaaDoor.Gw
set_option linter.unusedSimpArgs false
set_option linter.unusedVariables false

theorem Ext.below {g : G} {w w' : World} (hb : Go.RowKit.Below w.heap.size w w') : Ext g w g w' :=
  ⟨hb.os, hb.tape, hb.output, hb.size, Nat.le_refl _, fun _ _ => rfl, fun _ _ => Nat.le_refl _, fun _ _ _ => rfl, fun b h1 h2 => ⟨hb.block b h1, h2⟩, fun b k h1 h2 => ⟨fun off _ => cell_of_block (hb.block b h1), fun k' h3 => by rw [h2] at h3; cases h3; exact Nat.le_refl _⟩, fun b h1 => shape_of_block (hb.block b h1)⟩
/-- A call of the library that leaves what there was, and makes perhaps something; it may look at the tables. -/
theorem VCalls.ofBelowA {P : Program} {T : Nat → TI} {f : FuncId} {args : List V} {st : St} {X : V} (he : Gw.Enters P f)
    (h : ∀ (g : G) (w : World) (vals : List Value), Amb g w → SimVs g w args vals → ∃ val, (∀ g' w', SimV g' w' X val) ∧ Calls P f vals.toArray w fun e w' => e = .returned val ∧ Go.RowKit.Below w.heap.size w w') : VCalls P T f args st fun r s => r = .ret X ∧ s = st :=
  ⟨he, fun g w vals h1 h2 => by
    obtain ⟨val, h3, h4⟩ := h g w vals h1.amb h2
    refine h4.mono ?_
    rintro e w' ⟨rfl, hb⟩
    exact ⟨.ret X, st, g, ⟨rfl, rfl⟩, ⟨val, rfl, h3 _ _⟩, h1.keep (Ext.below hb) rfl (fun _ _ => rfl) (fun b h5 _ => ⟨hb.block b h5, rfl⟩), Ext.below hb⟩⟩

/-- Where the tables are nothing to it. -/
theorem VCalls.ofBelow {P : Program} {T : Nat → TI} {f : FuncId} {args : List V} {st : St} {X : V} (he : Gw.Enters P f)
    (h : ∀ (g : G) (w : World) (vals : List Value), SimVs g w args vals → ∃ val, (∀ g' w', SimV g' w' X val) ∧ Calls P f vals.toArray w fun e w' => e = .returned val ∧ Go.RowKit.Below w.heap.size w w') : VCalls P T f args st fun r s => r = .ret X ∧ s = st :=
  VCalls.ofBelowA he fun g w vals _ hv => h g w vals hv
end Go.Proofs.YtbnkfcjmcjiahaaDoor.Gx

namespace Go.Proofs.YtbnkfcjmcjiahaaDoor.Gx
open Go Go.Proofs.YtbnkfcjmcjiahaaDoor.Gw
set_option linter.unusedSimpArgs false
set_option linter.unusedVariables false

open Go.Proofs Go.Shelf in
shelf_lay LaysM.n173 Nm 173 at Tryd as YtbnkfcjmcjiahaaDoor.laysFI

theorem itoa_len (n : Int) (h0 : -9223372036854775808 ≤ n) (h1 : n ≤ 9223372036854775807) : (Lib.itoa n).length ≤ 21 := Lib.itoa_length_le n h0 h1
theorem c_FormatInt (st : St) (n : Int) (h0 : -9223372036854775808 ≤ n) (h1 : n ≤ 9223372036854775807) :
    VCalls Tryd.prog TT 37 [.int .i64 n, .int .i64 10] st fun r st' => r = .ret (.str (Lib.itoa n)) ∧ st' = st := by
  refine VCalls.ofBelowA ⟨_, Tryd.func37, by kernel_rfl, by kernel_rfl⟩ fun g w vals ha hv => ?_
  simp only [SimVs, SimV] at hv
  obtain ⟨_, _, rfl, rfl, _, _, rfl, rfl, rfl⟩ := hv
  have htab : Lib.TabIs Tryd.prog w "internal/strconv.uint64pow10" .u64 Lib.pow10Tab := by
    obtain ⟨_, t, x, hx⟩ := ha (0, _) (List.mem_singleton.2 rfl)
    unfold Lib.TabIs World.var?
    rw [show Tryd.prog.globalNamed "internal/strconv.uint64pow10" = some 0 by kernel_rfl, Option.bind_some, hx]
  refine ⟨.string ⟨(Lib.itoa n).toArray⟩, fun g' w' => by
    simp only [SimV]
    have := itoa_len n h0 h1
    exact ⟨trivial, by omega⟩, ?_⟩
  refine (Go.Proofs.Any.strconv_FormatInt_10 YtbnkfcjmcjiahaaDoor.laysFI n h0 h1 w htab).mono ?_
  rintro e w' ⟨rfl, k, os, rfl⟩
  refine ⟨rfl, rfl, rfl, rfl, ?_, fun c hc => ?_⟩
  · simp [Go.Sort.grow]
  · show ((w.heap ++ os)[c]?) = _
    rw [Array.getElem?_append_left hc]

mutual
/-- A datum's text. -/
def textD : Datum → Str
  | .mk k n nm s l kids => bif decide (k = 1) then Lib.itoa n else bif decide (k = 2) then (bif decide (n = 1) then [35, 116] else [35, 102]) else bif decide (k = 3) then nm else 40 :: ((spaced kids).drop 1 ++ [41])
/-- Each with a blank ahead. -/
def spaced : List Datum → Str
  | [] => []
  | d :: r => 32 :: (textD d ++ spaced r)
end
mutual
/-- Kinds, and what there is of numbers, are right. -/
def okD : Datum → Prop
  | .mk k n nm s l kids => (k = 1 ∧ -1000000000000000 ≤ n ∧ n ≤ 1000000000000000) ∨ (k = 2 ∧ (n = 0 ∨ n = 1)) ∨ (k = 3 ∧ namedB nm = true ∧ s = 0 ∧ l = 0) ∨ (k = 4 ∧ okDs kids)
def okDs : List Datum → Prop
  | [] => True
  | d :: r => okD d ∧ okDs r
end
mutual
/-- How many nodes. -/
def cntD : Datum → Nat
  | .mk k _ _ _ _ kids => 1 + bif decide (k = 4) then cntDs kids else 0
def cntDs : List Datum → Nat
  | [] => 0
  | d :: r => cntD d + cntDs r
end
theorem okDs_mem : ∀ {l : List Datum} {d : Datum}, okDs l → d ∈ l → okD d
  | x :: r, d, h, hm => by
    rcases List.mem_cons.1 hm with rfl | hm
    · exact h.1
    · exact okDs_mem h.2 hm
theorem spaced_app : ∀ l m : List Datum, spaced (l ++ m) = spaced l ++ spaced m
  | [], m => rfl
  | d :: r, m => by simp only [List.cons_append, spaced, spaced_app r m, List.append_assoc]
theorem okDs_drop : ∀ {l : List Datum} (i : Nat), okDs l → okDs (l.drop i)
  | l, 0, h => h
  | [], i + 1, h => h
  | d :: r, i + 1, h => okDs_drop i h.2
theorem small_itoa {n : Int} (h : -1000000000000000 ≤ n) (h1 : n ≤ 1000000000000000) : (Lib.itoa n).length ≤ 21 := itoa_len n (by omega) (by omega)
mutual
theorem textD_len : ∀ d : Datum, okD d → (textD d).length + 1 ≤ 22 * cntD d
  | .mk k n nm s l kids, h => by
    simp only [okD] at h
    simp only [textD, cntD]
    rcases h with ⟨rfl, h1, h2⟩ | ⟨rfl, h1⟩ | ⟨rfl, h1, _⟩ | ⟨rfl, h1⟩
    · have := small_itoa h1 h2; simp; omega
    · simp; cases decide (n = 1) <;> simp <;> omega
    · simp only [namedB, Bool.and_eq_true, decide_eq_true_eq] at h1
      simp; omega
    · have := spaced_len kids h1
      simp; omega
theorem spaced_len : ∀ l : List Datum, okDs l → (spaced l).length ≤ 22 * cntDs l
  | [], _ => by simp [spaced]
  | d :: r, h => by
    have h1 := textD_len d h.1
    have h2 := spaced_len r h.2
    simp only [spaced, cntDs, List.length_cons, List.length_append]
    omega
end
mutual
theorem shape_okD : ∀ (d : Datum) (deep c : Int), (shapeD d deep c).1 = 0 → okD d ∧ (shapeD d deep c).2 = c + cntD d
  | .mk k n nm s l kids, deep, c, h => by
    unfold shapeD at h ⊢
    simp only [okD, cntD]
    cases h1 : (decide (2000 < c + 1) || decide (40 < deep)) with
    | true => rw [h1] at h; simp at h
    | false =>
      rw [h1] at h
      simp only [cond_false] at h ⊢
      by_cases k1 : k = 1
      · subst k1
        cases h2 : (decide (1000000000000000 < n) || decide (n < -1000000000000000)) with
        | true => simp [h2] at h
        | false =>
          simp only [Bool.or_eq_false_iff, decide_eq_false_iff_not] at h2
          exact ⟨.inl ⟨rfl, by omega, by omega⟩, by simp [h2]⟩
      by_cases k2 : k = 2
      · subst k2
        cases h2 : (decide (n = 0) || decide (n = 1)) with
        | false => simp [h2] at h
        | true =>
          have h3 := h2
          simp only [Bool.or_eq_true, decide_eq_true_eq] at h3
          exact ⟨.inr (.inl ⟨rfl, h3⟩), by simp [h2]⟩
      by_cases k3 : k = 3
      · subst k3
        cases h2 : namedB nm with
        | false => simp [h2] at h
        | true =>
          cases h3 : (decide (s = 0) && decide (l = 0)) with
          | false => simp [h2, h3] at h
          | true =>
            have h4 := h3
            simp only [Bool.and_eq_true, decide_eq_true_eq] at h4
            exact ⟨.inr (.inr (.inl ⟨rfl, rfl, h4⟩)), by simp [h2, h3]⟩
      by_cases k4 : k = 4
      · subst k4
        have h' : (shapeDs kids (deep + 1) (c + 1)).1 = 0 := by simpa using h
        have := shape_okDs kids _ _ h'
        refine ⟨.inr (.inr (.inr ⟨rfl, this.1⟩)), ?_⟩
        simp [this.2]; omega
      · simp [k1, k2, k3, k4] at h
theorem shape_okDs : ∀ (l : List Datum) (deep c : Int), (shapeDs l deep c).1 = 0 → okDs l ∧ (shapeDs l deep c).2 = c + cntDs l
  | [], _, c, _ => by simp [okDs, cntDs, shapeDs]
  | d :: r, deep, c, h => by
    simp only [shapeDs] at h ⊢
    by_cases h1 : (shapeD d deep c).1 = 0
    · have i1 := shape_okD d deep c h1
      simp only [h1, decide_true, cond_true] at h ⊢
      have i2 := shape_okDs r deep _ h
      refine ⟨⟨i1.1, i2.1⟩, ?_⟩
      rw [i2.2, i1.2]; simp only [cntDs]; omega
    · simp [h1] at h
end
end Go.Proofs.YtbnkfcjmcjiahaaDoor.Gx

namespace Go.Proofs.YtbnkfcjmcjiahaaDoor.Gx
open Go Go.Proofs.YtbnkfcjmcjiahaaDoor.Gw
set_option linter.unusedSimpArgs false
set_option linter.unusedVariables false

/-- Kids behind each other, a blank between. -/
theorem take_spaced {kids : List Datum} {i : Nat} {a : Datum} (h : kids[i]? = some a) : (spaced (kids.take (i + 1))) = spaced (kids.take i) ++ (32 :: textD a) := by
  rw [take_next h, spaced_app]; simp [spaced]
theorem spaced_take_le (kids : List Datum) (i : Nat) : (spaced (kids.take i)).length ≤ (spaced kids).length := by
  have := spaced_app (kids.take i) (kids.drop i)
  rw [List.take_append_drop] at this
  rw [this]; simp

theorem dk4 : (decide ((2 : Int) = 1) = false) ∧ (decide ((3 : Int) = 1) = false) ∧ (decide ((3 : Int) = 2) = false) ∧ (decide ((4 : Int) = 1) = false) ∧ (decide ((4 : Int) = 2) = false) ∧ (decide ((4 : Int) = 3) = false) ∧ (decide ((2 : Int) = 2) = true) ∧ (decide ((3 : Int) = 3) = true) ∧ (decide ((4 : Int) = 4) = true) ∧ (decide ((1 : Int) = 1) = true) := by decide
theorem c_write (d : Datum) : ∀ (st : St) (b t T k : Nat) (s : Str) (r : List V), IsB st b t T k s r → okD d → s.length + (textD d).length < 10000000000000 →
    VCalls Tryd.prog TT 18 [.ptr b 0, .ref (encD d)] st fun q st' => q = .ret (.tup []) ∧ st' = bput st b t T k (s ++ textD d) r := by
  refine Datum.ind (p := fun d => ∀ (st : St) (b t T k : Nat) (s : Str) (r : List V), IsB st b t T k s r → okD d → s.length + (textD d).length < 10000000000000 →
    VCalls Tryd.prog TT 18 [.ptr b 0, .ref (encD d)] st fun q st' => q = .ret (.tup []) ∧ st' = bput st b t T k (s ++ textD d) r) ?_ d
  intro kd n nm sp lb kids ih st b t T k s r h hd hl
  refine vfun TT_ok (an := anL []) (L := [0, 1, 4, 8, 45, 46]) (rs := []) Tryd.func18 rfl (by kernel_rfl) rfl Tryd.ntmps18 rfl rfl (Nat.le_of_eq bput_len.symm) fun hst ha hf => ?_
  have done : ∀ x, Gives (.tup []) (bput st b t T k x r) (.ret (.tup [])) (bput st b t T k x r) := fun x => gives_self (by simp [V.lt, ltL]) (bput_ok h hst x)
  simp only [encD_mk]
  simp only [gwL, gwB, gwD, gwE, gwS, gwTT, gwZ, gwN, gwC, Nat.reduceEqDiff, ↓reduceIte, Nat.reduceAdd, Nat.reduceLT, Nat.reduceLeDiff, Nat.reduceMul]
  simp only [okD] at hd
  simp only [textD] at hl ⊢
  rcases hd with ⟨rfl, h1, h2⟩ | ⟨rfl, h1⟩ | ⟨rfl, h1, _⟩ | ⟨rfl, h1⟩
  · simp only [decide_true, cond_true] at hl ⊢
    simp only [gwL, gwB, gwD, gwE, gwS, gwTT, gwZ, gwN, gwC, Nat.reduceEqDiff, ↓reduceIte, Nat.reduceAdd, Nat.reduceLT, Nat.reduceLeDiff, Nat.reduceMul]
    refine (c_FormatInt st n (by omega) (by omega)).use (wkL_refl _) fun _ => ?_
    simp only [gwL, gwB, gwD, gwE, gwS, gwTT, gwZ, gwN, gwC, Nat.reduceEqDiff, ↓reduceIte, Nat.reduceAdd, Nat.reduceLT, Nat.reduceLeDiff, Nat.reduceMul]
    refine (c_WriteString h _ (by omega)).use (wkL_refl _) fun _ => ?_
    simp only [gwL, gwB, gwD, gwE, gwS, gwTT, gwZ, gwN, gwC, Nat.reduceEqDiff, ↓reduceIte, Nat.reduceAdd, Nat.reduceLT, Nat.reduceLeDiff, Nat.reduceMul]
    exact done _
  · simp only [dk4, decide_true, cond_true, cond_false] at hl ⊢
    simp only [gwL, gwB, gwD, gwE, gwS, gwTT, gwZ, gwN, gwC, Nat.reduceEqDiff, ↓reduceIte, Nat.reduceAdd, Nat.reduceLT, Nat.reduceLeDiff, Nat.reduceMul, dk4, decide_true]
    rcases h1 with rfl | rfl
    · refine ⟨⟨by omega, by decide⟩, ?_⟩
      simp only [gwL, gwB, gwD, gwE, gwS, gwTT, gwZ, gwN, gwC, Nat.reduceEqDiff, ↓reduceIte, Nat.reduceAdd, Nat.reduceLT, Nat.reduceLeDiff, Nat.reduceMul, dk4, show Int.toNat 0 = 0 from rfl, List.getD_cons_zero]
      refine (c_WriteString h [35, 102] (by simp at hl ⊢; omega)).use (wkL_refl _) fun _ => ?_
      simp only [gwL, gwB, gwD, gwE, gwS, gwTT, gwZ, gwN, gwC, Nat.reduceEqDiff, ↓reduceIte, Nat.reduceAdd, Nat.reduceLT, Nat.reduceLeDiff, Nat.reduceMul]
      exact done _
    · refine ⟨⟨by omega, by decide⟩, ?_⟩
      simp only [gwL, gwB, gwD, gwE, gwS, gwTT, gwZ, gwN, gwC, Nat.reduceEqDiff, ↓reduceIte, Nat.reduceAdd, Nat.reduceLT, Nat.reduceLeDiff, Nat.reduceMul, dk4, show Int.toNat 1 = 1 from rfl, List.getD_cons_succ, List.getD_cons_zero]
      refine (c_WriteString h [35, 116] (by simp at hl ⊢; omega)).use (wkL_refl _) fun _ => ?_
      simp only [gwL, gwB, gwD, gwE, gwS, gwTT, gwZ, gwN, gwC, Nat.reduceEqDiff, ↓reduceIte, Nat.reduceAdd, Nat.reduceLT, Nat.reduceLeDiff, Nat.reduceMul]
      exact done _
  · simp only [dk4, decide_true, cond_true, cond_false] at hl ⊢
    simp only [gwL, gwB, gwD, gwE, gwS, gwTT, gwZ, gwN, gwC, Nat.reduceEqDiff, ↓reduceIte, Nat.reduceAdd, Nat.reduceLT, Nat.reduceLeDiff, Nat.reduceMul, dk4, decide_true]
    refine (c_WriteString h _ (by omega)).use (wkL_refl _) fun _ => ?_
    simp only [gwL, gwB, gwD, gwE, gwS, gwTT, gwZ, gwN, gwC, Nat.reduceEqDiff, ↓reduceIte, Nat.reduceAdd, Nat.reduceLT, Nat.reduceLeDiff, Nat.reduceMul]
    exact done _
  · simp only [dk4, decide_true, cond_true, cond_false, List.length_cons, List.length_append, List.length_nil, List.length_drop] at hl ⊢
    simp only [encD_mk, fitL, V.fit, List.length_map] at hf
    have hkl : kids.length ≤ 9223372036854775807 := by simp at hf; omega
    simp only [gwL, gwB, gwD, gwE, gwS, gwTT, gwZ, gwN, gwC, Nat.reduceEqDiff, ↓reduceIte, Nat.reduceAdd, Nat.reduceLT, Nat.reduceLeDiff, Nat.reduceMul, dk4, decide_true]
    refine (c_WriteByte h 40 (by omega)).use (wkL_refl _) fun _ => ?_
    simp only [gwL, gwB, gwD, gwE, gwS, gwTT, gwZ, gwN, gwC, Nat.reduceEqDiff, ↓reduceIte, Nat.reduceAdd, Nat.reduceLT, Nat.reduceLeDiff, Nat.reduceMul, dk4, decide_true, List.length_map]
    refine vforD (σ := Nat) [0, 1, 8, 45, 46] (fun i => [(0, true, .ptr b 0), (1, true, .ref (encD (.mk 4 n nm sp lb kids))), (8, true, .int .i64 4), (45, true, .int .i64 kids.length), (46, true, .int .i64 i)]) (fun i => bput st b t T k (s ++ [40] ++ (spaced (kids.take i)).drop 1) r) (fun i => kids.length - i) (fun i => i ≤ kids.length) 0 rfl TT_ok (Nat.zero_le _) (by rw [encD_mk]; exact wkE_refl _) (by simp [spaced]) ?_
    intro i hi
    simp only [encD_mk]
    have h2 : ∀ x, IsB (bput st b t T k x r) b t T k x r := fun x => h.put x
    have hne := h.ne
    have hle := spaced_take_le kids i
    rcases at_or_end kids i hi with ⟨rfl, hdd⟩ | ⟨a, hlt2, hget, hdr⟩
    · simp only [gwL, gwB, gwD, gwE, gwS, gwTT, gwZ, gwN, gwC, Nat.reduceEqDiff, ↓reduceIte, Nat.reduceAdd, Nat.reduceLT, Nat.reduceLeDiff, Nat.reduceMul, lt_no]
      rw [List.take_length] at hle ⊢
      refine (c_WriteByte (h2 _) 41 (by simp; omega)).use (wkL_refl _) fun _ => ?_
      simp only [gwL, gwB, gwD, gwE, gwS, gwTT, gwZ, gwN, gwC, Nat.reduceEqDiff, ↓reduceIte, Nat.reduceAdd, Nat.reduceLT, Nat.reduceLeDiff, Nat.reduceMul, bput_bput hne]
      rw [show s ++ [40] ++ (spaced kids).drop 1 ++ [41] = s ++ 40 :: ((spaced kids).drop 1 ++ [41]) by simp]
      exact done _
    · have hle2 := spaced_take_le kids (i + 1)
      rw [take_spaced hget] at hle2
      simp only [List.length_append, List.length_cons] at hle2
      simp only [gwL, gwB, gwD, gwE, gwS, gwTT, gwZ, gwN, gwC, Nat.reduceEqDiff, ↓reduceIte, Nat.reduceAdd, Nat.reduceLT, Nat.reduceLeDiff, Nat.reduceMul, lt_yes hlt2, hdr, List.length_map, getD_map hget, Int.ofNat_lt.mpr hlt2]
      have hend : ∀ x : Str, x = s ++ [40] ++ (spaced (kids.take (i + 1))).drop 1 → ∀ st', st' = bput st b t T k x r → st' = bput st b t T k (s ++ [40] ++ (spaced (kids.take (i + 1))).drop 1) r := fun x e st' e2 => by rw [e2, e]
      refine iK_split (fun h5 => ?_) (fun h5 => ?_)
      · simp only [gwL, gwB, gwD, gwE, gwS, gwTT, gwZ, gwN, gwC, Nat.reduceEqDiff, ↓reduceIte, Nat.reduceAdd, Nat.reduceLT, Nat.reduceLeDiff, Nat.reduceMul, h5]
        have hi0 : 0 < i := by simpa using h5
        refine (c_WriteByte (h2 _) 32 (by simp; omega)).use (wkL_refl _) fun _ => ?_
        simp only [gwL, gwB, gwD, gwE, gwS, gwTT, gwZ, gwN, gwC, Nat.reduceEqDiff, ↓reduceIte, Nat.reduceAdd, Nat.reduceLT, Nat.reduceLeDiff, Nat.reduceMul, bput_bput hne, getD_map hget, List.length_map, Int.ofNat_lt.mpr hlt2]
        refine (ih a (List.mem_of_getElem? hget) _ b t T k _ r (h2 _) (okDs_mem h1 (List.mem_of_getElem? hget)) (by simp; omega)).use (wkL_refl _) fun _ => ?_
        simp only [gwL, gwB, gwD, gwE, gwS, gwTT, gwZ, gwN, gwC, Nat.reduceEqDiff, ↓reduceIte, Nat.reduceAdd, Nat.reduceLT, Nat.reduceLeDiff, Nat.reduceMul, bput_bput hne]
        have hx : s ++ [40] ++ (spaced (kids.take i)).drop 1 ++ [32] ++ textD a = s ++ [40] ++ (spaced (kids.take (i + 1))).drop 1 := by
          rw [take_spaced hget]
          have : 1 ≤ (spaced (kids.take i)).length := by
            cases hk : kids.take i with
            | nil => rw [List.take_eq_nil_iff] at hk; rcases hk with rfl | rfl <;> simp at hlt2 hi0
            | cons x y => simp [spaced]
          rw [List.drop_append_of_le_length this]
          simp
        rw [hx]
        refine ⟨i + 1, ⟨?_, _, [], (List.append_nil _).symm, wkSt_refl _, ?_, bput_ok h hst _, by simp only [bput_len]; exact Nat.le_refl _⟩, by omega, by omega⟩
        · simp only [gwL, gwB, gwD, gwE, gwS, gwTT, gwZ, gwN, gwC, Nat.reduceEqDiff, ↓reduceIte, Nat.reduceAdd, Nat.reduceLT, Nat.reduceLeDiff, Nat.reduceMul, Env.keep, next_i64 hlt2 hkl]
          exact wkE_refl _
        · simp only [ltE, V.lt, bput_len]
          have hbl := (List.getElem?_eq_some_iff.1 h.box).1
          have := encD_lt st.length (.mk 4 n nm sp lb kids)
          rw [encD_mk] at this
          exact ⟨hbl, this, trivial, trivial, trivial, trivial⟩
      · simp only [gwL, gwB, gwD, gwE, gwS, gwTT, gwZ, gwN, gwC, Nat.reduceEqDiff, ↓reduceIte, Nat.reduceAdd, Nat.reduceLT, Nat.reduceLeDiff, Nat.reduceMul, h5]
        have hi0 : i = 0 := by have := of_decide_eq_false h5; omega
        subst hi0
        simp only [gwL, gwB, gwD, gwE, gwS, gwTT, gwZ, gwN, gwC, Nat.reduceEqDiff, ↓reduceIte, Nat.reduceAdd, Nat.reduceLT, Nat.reduceLeDiff, Nat.reduceMul, getD_map hget, List.length_map, Int.ofNat_lt.mpr hlt2]
        refine (ih a (List.mem_of_getElem? hget) _ b t T k _ r (h2 _) (okDs_mem h1 (List.mem_of_getElem? hget)) (by simp [spaced]; omega)).use (wkL_refl _) fun _ => ?_
        simp only [gwL, gwB, gwD, gwE, gwS, gwTT, gwZ, gwN, gwC, Nat.reduceEqDiff, ↓reduceIte, Nat.reduceAdd, Nat.reduceLT, Nat.reduceLeDiff, Nat.reduceMul, bput_bput hne]
        have hx : s ++ [40] ++ (spaced []).drop 1 ++ textD a = s ++ [40] ++ (spaced (kids.take (0 + 1))).drop 1 := by
          rw [take_spaced hget]
          simp [spaced]
        rw [hx]
        refine ⟨0 + 1, ⟨?_, _, [], (List.append_nil _).symm, wkSt_refl _, ?_, bput_ok h hst _, by simp only [bput_len]; exact Nat.le_refl _⟩, by omega, by omega⟩
        · simp only [gwL, gwB, gwD, gwE, gwS, gwTT, gwZ, gwN, gwC, Nat.reduceEqDiff, ↓reduceIte, Nat.reduceAdd, Nat.reduceLT, Nat.reduceLeDiff, Nat.reduceMul, Env.keep, next_i64 hlt2 hkl]
          exact wkE_refl _
        · simp only [ltE, V.lt, bput_len]
          have hbl := (List.getElem?_eq_some_iff.1 h.box).1
          have := encD_lt st.length (.mk 4 n nm sp lb kids)
          rw [encD_mk] at this
          exact ⟨hbl, this, trivial, trivial, trivial, trivial⟩
end Go.Proofs.YtbnkfcjmcjiahaaDoor.Gx

namespace Go.Proofs.YtbnkfcjmcjiahaaDoor.Gx
open Go Go.Proofs.YtbnkfcjmcjiahaaDoor.Gw
set_option linter.unusedSimpArgs false
set_option linter.unusedVariables false

/-- Data, each on a line. -/
def textL : List Datum → Str
  | [] => []
  | d :: r => textD d ++ 10 :: textL r
theorem textL_app : ∀ l m : List Datum, textL (l ++ m) = textL l ++ textL m
  | [], m => rfl
  | d :: r, m => by simp only [List.cons_append, textL, textL_app r m, List.append_assoc]
theorem take_textL {l : List Datum} {i : Nat} {a : Datum} (h : l[i]? = some a) : textL (l.take (i + 1)) = textL (l.take i) ++ textD a ++ [10] := by
  rw [take_next h, textL_app]; simp [textL]
theorem textL_take_le (l : List Datum) (i : Nat) : (textL (l.take i)).length ≤ (textL l).length := by
  have := textL_app (l.take i) (l.drop i)
  rw [List.take_append_drop] at this
  rw [this]; simp
theorem textL_len : ∀ l : List Datum, okDs l → (textL l).length ≤ 22 * cntDs l
  | [], _ => by simp [textL]
  | d :: r, h => by
    have h1 := textD_len d h.1
    have h2 := textL_len r h.2
    simp only [textL, cntDs, List.length_cons, List.length_append]
    omega
theorem wrong_ok : ∀ (l : List Datum) (i : Nat) (c : Int), 0 ≤ c → c ≤ 2000 → (wrongL l i c).1 = 0 → okDs l ∧ c + cntDs l ≤ 2000
  | [], i, c, h0, h1, _ => by simp [okDs, cntDs, h1]
  | d :: r, i, c, h0, h1, h => by
    simp only [wrongL] at h
    by_cases e : (shapeD d 1 c).1 = 0
    · simp only [e, decide_true, cond_true] at h
      have k1 := shape_okD d 1 c e
      have k2 := shapeD_ok d 1 c h0 e
      have k3 := wrong_ok r (i + 1) _ (by omega) k2.2 h
      refine ⟨⟨k1.1, k3.1⟩, ?_⟩
      simp only [cntDs]; omega
    · simp [e] at h
/-- What is printed, or what is wrong. -/
def printL (l : List Datum) : Str × (Int × Int) := bif decide ((wrongL l 0 0).1 = 0) then (bif decide (6000 < (textL l).length) then ([], (4, 0)) else (textL l, (0, 0))) else ([], wrongL l 0 0)
def printV (x : Str × (Int × Int)) : V := .tup [.str x.1, fltV x.2]

theorem at_app {α : Type} {x : α} (st l : List α) (k : Nat) (h : l[k]? = some x) : (st ++ l)[st.length + k]? = some x := by
  rw [List.getElem?_append_right (Nat.le_add_right _ _), Nat.add_sub_cancel_left]; exact h
theorem bytesV_lt (n : Nat) : ∀ s : Str, ltRows n (bytesV s)
  | [] => trivial
  | c :: r => ⟨⟨trivial, trivial⟩, bytesV_lt n r⟩
theorem lies40 : ∀ T k : Nat, T = 40 → k = 2 → liesAt Tryd.prog Tryd.prog.depth T (k / Tryd.prog.cellsOf T) 0 40 1 = true := by
  rintro _ _ rfl rfl
  kernel_rfl
theorem c_Print (st : St) (l : List Datum) : VCalls Tryd.prog TT 8 [lstD l] st fun r st' => r = .ret (printV (printL l)) ∧ st' = st := by
  refine vfun TT_ok (an := anL [(5, 5)]) (L := [0, 2, 3, 4, 5, 6, 14, 15]) (rs := [.tmp 2, .cell 3 25]) Tryd.func8 rfl (by kernel_rfl) rfl Tryd.ntmps8 rfl rfl (Nat.le_refl _) fun hst ha hf => ?_
  simp only [fitL, V.fit, List.length_map, lstD] at hf
  have hkl : l.length ≤ 9223372036854775807 := by simp at hf; omega
  simp only [gwL, gwB, gwD, gwE, gwS, gwTT, gwZ, gwN, gwC, Nat.reduceEqDiff, ↓reduceIte, Nat.reduceAdd, Nat.reduceLT, Nat.reduceLeDiff, Nat.reduceMul]
  refine (c_text_Wrong _ l).use (wkL_refl _) fun _ => ?_
  simp only [fltV, lstD]
  simp only [gwL, gwB, gwD, gwE, gwS, gwTT, gwZ, gwN, gwC, Nat.reduceEqDiff, ↓reduceIte, Nat.reduceAdd, Nat.reduceLT, Nat.reduceLeDiff, Nat.reduceMul]
  refine iK_split (fun h => ?_) (fun h => ?_)
  · have h1 : decide ((wrongL l 0 0).1 = 0) = false := not_yes h
    simp only [gwL, gwB, gwD, gwE, gwS, gwTT, gwZ, gwN, gwC, Nat.reduceEqDiff, ↓reduceIte, Nat.reduceAdd, Nat.reduceLT, Nat.reduceLeDiff, Nat.reduceMul]
    refine vdraw TT_ok TT_mixed [1, 0, 2] (by kernel_rfl) ?_
    simp only [gwL, gwB, gwD, gwE, gwS, gwTT, gwZ, gwN, gwC, Nat.reduceEqDiff, ↓reduceIte, Nat.reduceAdd, Nat.reduceLT, Nat.reduceLeDiff, Nat.reduceMul]
    simp only [printL, h1, cond_false, printV, fltV]
    exact gives_of (wk_refl _) (wkSt_refl _) (by simp [V.lt, ltL]) hst
  have h1 : decide ((wrongL l 0 0).1 = 0) = true := not_no h
  have hw := wrong_ok l 0 0 (by omega) (by omega) (of_decide_eq_true h1)
  have hlen := textL_len l hw.1
  have hw0 : (wrongL l 0 0).1 = 0 := of_decide_eq_true h1
  simp only [gwL, gwB, gwD, gwE, gwS, gwTT, gwZ, gwN, gwC, Nat.reduceEqDiff, ↓reduceIte, Nat.reduceAdd, Nat.reduceLT, Nat.reduceLeDiff, Nat.reduceMul, List.length_map]
  refine vnilB (st.length + 2) 1 [.addr (st.length + 2) 40 2, .nils] 5 (by simp) rfl ?_
  rw [List.set_append_left _ _ (by simp), List.set_append_right _ _ (by omega)]
  simp only [Nat.add_sub_cancel_left, List.set_cons_zero, List.set_cons_succ, List.append_assoc, List.cons_append, List.nil_append, List.length_append, List.length_cons, List.length_nil, Nat.reduceAdd]
  have hT5 : (TT 5).size = 1 := rfl
  rw [hT5]
  refine vforD (σ := Nat) [0, 2, 3, 4, 5, 14, 15] (fun i => [(0, true, lstD l), (2, true, .str []), (3, true, .ptr st.length 0), (4, true, .ptr (st.length + 1) 0), (5, true, .ptr (st.length + 2) 0), (14, true, .int .i64 l.length), (15, true, .int .i64 i)]) (fun i => st ++ [.box [.int .i64 0, .int .i64 0], .box [.int .i64 0, .int .i64 (wrongL l 0 0).2], .box [.addr (st.length + 2) 40 2, .arr (st.length + 3) (textL (l.take i)).length], .arr 5 1 (bytesV (textL (l.take i)))]) (fun i => l.length - i) (fun i => i ≤ l.length) 0 rfl TT_ok (Nat.zero_le _) (by rw [lstD]; exact wkE_refl _) (by simp [hw0, textL, bytesV]) ?_
  have hI : ∀ x, IsB (st ++ [.box [.int .i64 0, .int .i64 0], .box [.int .i64 0, .int .i64 (wrongL l 0 0).2], .box [.addr (st.length + 2) 40 2, .arr (st.length + 3) x.length], .arr 5 1 (bytesV x)]) (st.length + 2) (st.length + 3) 40 2 x [] := fun x => ⟨at_app _ _ 2 (by simp only [List.getElem?_cons_succ, List.getElem?_cons_zero]), at_app _ _ 3 (by simp only [List.getElem?_cons_succ, List.getElem?_cons_zero]), lies40 _ _ rfl rfl⟩
  intro i hi
  simp only [lstD]
  have hle := textL_take_le l i
  rcases at_or_end l i hi with ⟨rfl, hdd⟩ | ⟨a, hlt2, hget, hdr⟩
  · simp only [gwL, gwB, gwD, gwE, gwS, gwTT, gwZ, gwN, gwC, Nat.reduceEqDiff, ↓reduceIte, Nat.reduceAdd, Nat.reduceLT, Nat.reduceLeDiff, Nat.reduceMul, lt_no]
    rw [List.take_length]
    refine (c_Len (hI _)).use (wkL_refl _) fun _ => ?_
    simp only [gwL, gwB, gwD, gwE, gwS, gwTT, gwZ, gwN, gwC, Nat.reduceEqDiff, ↓reduceIte, Nat.reduceAdd, Nat.reduceLT, Nat.reduceLeDiff, Nat.reduceMul]
    refine iK_split (fun h2 => ?_) (fun h2 => ?_)
    · simp only [gwL, gwB, gwD, gwE, gwS, gwTT, gwZ, gwN, gwC, Nat.reduceEqDiff, ↓reduceIte, Nat.reduceAdd, Nat.reduceLT, Nat.reduceLeDiff, Nat.reduceMul]
      have h3 : decide (6000 < (textL l).length) = true := by rw [decide_eq_true_eq] at h2 ⊢; omega
      simp only [printL, h1, h3, cond_true, printV, fltV]
      exact gives_of (wk_refl _) (wkSt_refl _) (by simp [V.lt, ltL]) hst
    · have h3 : decide (6000 < (textL l).length) = false := by rw [decide_eq_false_iff_not] at h2 ⊢; omega
      simp only [gwL, gwB, gwD, gwE, gwS, gwTT, gwZ, gwN, gwC, Nat.reduceEqDiff, ↓reduceIte, Nat.reduceAdd, Nat.reduceLT, Nat.reduceLeDiff, Nat.reduceMul]
      refine (c_String (hI _)).use (wkL_refl _) fun _ => ?_
      simp only [gwL, gwB, gwD, gwE, gwS, gwTT, gwZ, gwN, gwC, Nat.reduceEqDiff, ↓reduceIte, Nat.reduceAdd, Nat.reduceLT, Nat.reduceLeDiff, Nat.reduceMul]
      simp only [printL, h1, h3, cond_true, cond_false, printV, fltV]
      exact gives_of (wk_refl _) (wkSt_refl _) (by simp [V.lt, ltL]) hst
  · have hle2 := textL_take_le l (i + 1)
    rw [take_textL hget] at hle2
    simp only [List.length_append, List.length_cons, List.length_nil] at hle2
    simp only [gwL, gwB, gwD, gwE, gwS, gwTT, gwZ, gwN, gwC, Nat.reduceEqDiff, ↓reduceIte, Nat.reduceAdd, Nat.reduceLT, Nat.reduceLeDiff, Nat.reduceMul, lt_yes hlt2, hdr, List.length_map, getD_map hget, Int.ofNat_lt.mpr hlt2]
    refine (c_write a _ _ _ _ _ _ [] (hI _) (okDs_mem hw.1 (List.mem_of_getElem? hget)) (by omega)).use (wkL_refl _) fun _ => ?_
    simp only [gwL, gwB, gwD, gwE, gwS, gwTT, gwZ, gwN, gwC, Nat.reduceEqDiff, ↓reduceIte, Nat.reduceAdd, Nat.reduceLT, Nat.reduceLeDiff, Nat.reduceMul, bput]
    refine (c_WriteByte (hI _) 10 (by simp; omega)).use (wkL_refl _) fun _ => ?_
    simp only [gwL, gwB, gwD, gwE, gwS, gwTT, gwZ, gwN, gwC, Nat.reduceEqDiff, ↓reduceIte, Nat.reduceAdd, Nat.reduceLT, Nat.reduceLeDiff, Nat.reduceMul, bput]
    rw [← take_textL hget]
    refine ⟨i + 1, ⟨?_, _, [], (List.append_nil _).symm, wkSt_refl _, ?_, ?_, by simp⟩, by omega, by omega⟩
    · simp only [gwL, gwB, gwD, gwE, gwS, gwTT, gwZ, gwN, gwC, Nat.reduceEqDiff, ↓reduceIte, Nat.reduceAdd, Nat.reduceLT, Nat.reduceLeDiff, Nat.reduceMul, Env.keep, next_i64 hlt2 hkl]
      exact wkE_refl _
    · simp only [ltE, V.lt, List.length_append, List.length_cons, List.length_nil]
      exact ⟨⟨fun e h => (by cases h), by rw [← encDs_map]; exact encDs_lt _ _⟩, trivial, by omega, by omega, by omega, trivial, trivial, trivial⟩
    · refine ok_app hst ⟨⟨trivial, trivial, trivial⟩, ⟨trivial, trivial, trivial⟩, ⟨?_, ?_, trivial⟩, bytesV_lt _ _, trivial⟩
      · simp only [V.lt, List.length_cons, List.length_nil]; omega
      · simp only [V.lt, List.length_cons, List.length_nil]; omega
end Go.Proofs.YtbnkfcjmcjiahaaDoor.Gx

namespace Go.Proofs.YtbnkfcjmcjiahaaDoor.Gx
open Go Go.Proofs.YtbnkfcjmcjiahaaDoor.Gw
set_option linter.unusedSimpArgs false
set_option linter.unusedVariables false

theorem tail2 {α : Type} (st : List α) (a b c : α) : st ++ [a, b, c] = (st ++ [a, b]) ++ [c] := by simp
theorem c_ref_Text (d : Datum) : okD d → (textD d).length < 10000000000000 → ∀ st : St,
    VCalls Tryd.prog TT 22 [.agg (encD d)] st fun q st' => q = .ret (.str (textD d)) ∧ st' = st := by
  refine Datum.ind (p := fun d => okD d → (textD d).length < 10000000000000 → ∀ st : St,
    VCalls Tryd.prog TT 22 [.agg (encD d)] st fun q st' => q = .ret (.str (textD d)) ∧ st' = st) ?_ d
  intro kd n nm sp lb kids ih hd hl st
  refine vfun TT_ok (an := anL [(1, 1)]) (L := [0, 1, 2, 3, 5, 7, 23, 24, 25]) (rs := [.tmp 2]) Tryd.func22 rfl (by kernel_rfl) rfl Tryd.ntmps22 rfl rfl (Nat.le_refl _) fun hst ha hf => ?_
  simp only [encD_mk]
  simp only [gwL, gwB, gwD, gwE, gwS, gwTT, gwZ, gwN, gwC, Nat.reduceEqDiff, ↓reduceIte, Nat.reduceAdd, Nat.reduceLT, Nat.reduceLeDiff, Nat.reduceMul]
  simp only [okD] at hd
  simp only [textD] at hl ⊢
  rcases hd with ⟨rfl, h1, h2⟩ | ⟨rfl, h1⟩ | ⟨rfl, h1, _⟩ | ⟨rfl, h1⟩
  · simp only [dk4, decide_true, cond_true, cond_false] at hl ⊢
    simp only [gwL, gwB, gwD, gwE, gwS, gwTT, gwZ, gwN, gwC, Nat.reduceEqDiff, ↓reduceIte, Nat.reduceAdd, Nat.reduceLT, Nat.reduceLeDiff, Nat.reduceMul, dk4, decide_true]
    refine (c_FormatInt _ n (by omega) (by omega)).use (wkL_refl _) fun _ => ?_
    simp only [gwL, gwB, gwD, gwE, gwS, gwTT, gwZ, gwN, gwC, Nat.reduceEqDiff, ↓reduceIte, Nat.reduceAdd, Nat.reduceLT, Nat.reduceLeDiff, Nat.reduceMul]
    exact gives_str rfl hst
  · simp only [dk4, decide_true, cond_true, cond_false] at hl ⊢
    simp only [gwL, gwB, gwD, gwE, gwS, gwTT, gwZ, gwN, gwC, Nat.reduceEqDiff, ↓reduceIte, Nat.reduceAdd, Nat.reduceLT, Nat.reduceLeDiff, Nat.reduceMul, dk4, decide_true]
    refine iK_split (fun h => ?_) (fun h => ?_)
    · simp only [gwL, gwB, gwD, gwE, gwS, gwTT, gwZ, gwN, gwC, Nat.reduceEqDiff, ↓reduceIte, Nat.reduceAdd, Nat.reduceLT, Nat.reduceLeDiff, Nat.reduceMul]
      exact (by rw [h]; exact gives_str rfl hst)
    · simp only [gwL, gwB, gwD, gwE, gwS, gwTT, gwZ, gwN, gwC, Nat.reduceEqDiff, ↓reduceIte, Nat.reduceAdd, Nat.reduceLT, Nat.reduceLeDiff, Nat.reduceMul]
      exact (by rw [h]; exact gives_str rfl hst)
  · simp only [dk4, decide_true, cond_true, cond_false] at hl ⊢
    simp only [gwL, gwB, gwD, gwE, gwS, gwTT, gwZ, gwN, gwC, Nat.reduceEqDiff, ↓reduceIte, Nat.reduceAdd, Nat.reduceLT, Nat.reduceLeDiff, Nat.reduceMul, dk4, decide_true]
    exact gives_str rfl hst
  · simp only [dk4, decide_true, cond_true, cond_false, List.length_cons, List.length_append, List.length_nil, List.length_drop] at hl ⊢
    simp only [encD_mk, fitL, V.fit, List.length_map] at hf
    have hkl : kids.length ≤ 9223372036854775807 := by simp at hf; omega
    simp only [gwL, gwB, gwD, gwE, gwS, gwTT, gwZ, gwN, gwC, Nat.reduceEqDiff, ↓reduceIte, Nat.reduceAdd, Nat.reduceLT, Nat.reduceLeDiff, Nat.reduceMul, dk4, decide_true, List.length_map]
    refine vforD (σ := Nat) [0, 1, 2, 7, 3, 23, 24, 25] (fun i => [(0, true, .agg (encD (.mk 4 n nm sp lb kids))), (1, true, .ref (encD (.mk 4 n nm sp lb kids))), (2, true, .str []), (7, true, .int .i64 4), (3, true, .str (spaced (kids.take i))), (23, true, lstD kids), (24, true, .int .i64 kids.length), (25, true, .int .i64 i)]) (fun i => st) (fun i => kids.length - i) (fun i => i ≤ kids.length) 0 rfl TT_ok (Nat.zero_le _) (by rw [encD_mk]; exact wkE_refl _) rfl ?_
    intro i hi
    simp only [lstD]
    have hle := spaced_take_le kids i
    rcases at_or_end kids i hi with ⟨rfl, hdd⟩ | ⟨a, hlt2, hget, hdr⟩
    · simp only [gwL, gwB, gwD, gwE, gwS, gwTT, gwZ, gwN, gwC, Nat.reduceEqDiff, ↓reduceIte, Nat.reduceAdd, Nat.reduceLT, Nat.reduceLeDiff, Nat.reduceMul, lt_no]
      rw [List.take_length]
      refine iK_split (fun h => ?_) (fun h => ?_)
      · simp only [gwL, gwB, gwD, gwE, gwS, gwTT, gwZ, gwN, gwC, Nat.reduceEqDiff, ↓reduceIte, Nat.reduceAdd, Nat.reduceLT, Nat.reduceLeDiff, Nat.reduceMul]
        have hk : kids = [] := by
          have := of_decide_eq_true h
          cases kids with
          | nil => rfl
          | cons x y => simp [spaced] at this
        subst hk
        exact gives_str rfl hst
      · simp only [gwL, gwB, gwD, gwE, gwS, gwTT, gwZ, gwN, gwC, Nat.reduceEqDiff, ↓reduceIte, Nat.reduceAdd, Nat.reduceLT, Nat.reduceLeDiff, Nat.reduceMul]
        have h0 : 1 ≤ (spaced kids).length := by
          have := of_decide_eq_false h
          cases kids with
          | nil => exact absurd rfl this
          | cons x y => simp [spaced]
        simp only [show Int.toNat 1 = 1 from rfl, List.length_drop]
        exact ⟨by omega, by omega, by omega, gives_str rfl hst⟩
    · have hle2 := spaced_take_le kids (i + 1)
      rw [take_spaced hget] at hle2
      simp only [List.length_append, List.length_cons] at hle2
      simp only [gwL, gwB, gwD, gwE, gwS, gwTT, gwZ, gwN, gwC, Nat.reduceEqDiff, ↓reduceIte, Nat.reduceAdd, Nat.reduceLT, Nat.reduceLeDiff, Nat.reduceMul, lt_yes hlt2, hdr, List.length_map, getD_map hget, encD_take, encD_len, encD_drop, Int.ofNat_lt.mpr hlt2, Nat.le_refl]
      refine ⟨by omega, (ih a (List.mem_of_getElem? hget) (okDs_mem h1 (List.mem_of_getElem? hget)) (by omega) _).use (wkL_refl _) fun _ => ?_⟩
      simp only [gwL, gwB, gwD, gwE, gwS, gwTT, gwZ, gwN, gwC, Nat.reduceEqDiff, ↓reduceIte, Nat.reduceAdd, Nat.reduceLT, Nat.reduceLeDiff, Nat.reduceMul, List.length_append, List.length_cons, List.length_nil]
      refine ⟨by omega, i + 1, ⟨?_, _, _, rfl, wkSt_refl _, ?_, hst, Nat.le_refl _⟩, by omega, by omega⟩
      · simp only [gwL, gwB, gwD, gwE, gwS, gwTT, gwZ, gwN, gwC, Nat.reduceEqDiff, ↓reduceIte, Nat.reduceAdd, Nat.reduceLT, Nat.reduceLeDiff, Nat.reduceMul, Env.keep, next_i64 hlt2 hkl]
        rw [show spaced (kids.take (i + 1)) = spaced (kids.take i) ++ [32] ++ textD a by rw [take_spaced hget]; simp]
        exact wkE_refl _
      · simp only [ltE, V.lt]
        have := encD_lt st.length (.mk 4 n nm sp lb kids)
        exact ⟨this, this, trivial, trivial, trivial, ⟨fun e h => (by cases h), by rw [← encDs_map]; exact encDs_lt _ _⟩, trivial, trivial, trivial⟩

theorem c_ref_Print (st : St) (l : List Datum) : VCalls Tryd.prog TT 9 [lstD l] st fun r st' => r = .ret (printV (printL l)) ∧ st' = st := by
  refine vfun TT_ok (an := anL []) (L := [0, 2, 3, 4, 5, 7, 14, 15, 16]) (rs := [.tmp 2, .cell 3 25]) Tryd.func9 rfl (by kernel_rfl) rfl Tryd.ntmps9 rfl rfl (Nat.le_refl _) fun hst ha hf => ?_
  simp only [fitL, V.fit, List.length_map, lstD] at hf
  have hkl : l.length ≤ 9223372036854775807 := by simp at hf; omega
  simp only [gwL, gwB, gwD, gwE, gwS, gwTT, gwZ, gwN, gwC, Nat.reduceEqDiff, ↓reduceIte, Nat.reduceAdd, Nat.reduceLT, Nat.reduceLeDiff, Nat.reduceMul]
  refine (c_ref_Wrong _ l).use (wkL_refl _) fun _ => ?_
  simp only [fltV, lstD]
  simp only [gwL, gwB, gwD, gwE, gwS, gwTT, gwZ, gwN, gwC, Nat.reduceEqDiff, ↓reduceIte, Nat.reduceAdd, Nat.reduceLT, Nat.reduceLeDiff, Nat.reduceMul]
  refine iK_split (fun h => ?_) (fun h => ?_)
  · have h1 : decide ((wrongL l 0 0).1 = 0) = false := not_yes h
    simp only [gwL, gwB, gwD, gwE, gwS, gwTT, gwZ, gwN, gwC, Nat.reduceEqDiff, ↓reduceIte, Nat.reduceAdd, Nat.reduceLT, Nat.reduceLeDiff, Nat.reduceMul]
    refine vdraw TT_ok TT_mixed [1, 0, 2] (by kernel_rfl) ?_
    simp only [gwL, gwB, gwD, gwE, gwS, gwTT, gwZ, gwN, gwC, Nat.reduceEqDiff, ↓reduceIte, Nat.reduceAdd, Nat.reduceLT, Nat.reduceLeDiff, Nat.reduceMul]
    simp only [printL, h1, cond_false, printV, fltV]
    exact gives_of (wk_refl _) (wkSt_refl _) (by simp [V.lt, ltL]) hst
  have h1 : decide ((wrongL l 0 0).1 = 0) = true := not_no h
  have hw := wrong_ok l 0 0 (by omega) (by omega) (of_decide_eq_true h1)
  have hlen := textL_len l hw.1
  have hw0 : (wrongL l 0 0).1 = 0 := of_decide_eq_true h1
  simp only [gwL, gwB, gwD, gwE, gwS, gwTT, gwZ, gwN, gwC, Nat.reduceEqDiff, ↓reduceIte, Nat.reduceAdd, Nat.reduceLT, Nat.reduceLeDiff, Nat.reduceMul, List.length_map]
  refine vforD (σ := Nat) [0, 2, 3, 4, 5, 14, 15, 16] (fun i => [(0, true, lstD l), (2, true, .str []), (3, true, .ptr st.length 0), (4, true, .ptr (st.length + 1) 0), (5, true, .str (textL (l.take i))), (14, true, lstD l), (15, true, .int .i64 l.length), (16, true, .int .i64 i)]) (fun i => st ++ [.box [.int .i64 0, .int .i64 0], .box [.int .i64 0, .int .i64 (wrongL l 0 0).2]]) (fun i => l.length - i) (fun i => i ≤ l.length) 0 rfl TT_ok (Nat.zero_le _) (by rw [lstD]; exact wkE_refl _) (by simp [hw0]) ?_
  intro i hi
  simp only [lstD]
  have hle := textL_take_le l i
  rcases at_or_end l i hi with ⟨rfl, hdd⟩ | ⟨a, hlt2, hget, hdr⟩
  · simp only [gwL, gwB, gwD, gwE, gwS, gwTT, gwZ, gwN, gwC, Nat.reduceEqDiff, ↓reduceIte, Nat.reduceAdd, Nat.reduceLT, Nat.reduceLeDiff, Nat.reduceMul, lt_no]
    rw [List.take_length]
    refine iK_split (fun h2 => ?_) (fun h2 => ?_)
    · simp only [gwL, gwB, gwD, gwE, gwS, gwTT, gwZ, gwN, gwC, Nat.reduceEqDiff, ↓reduceIte, Nat.reduceAdd, Nat.reduceLT, Nat.reduceLeDiff, Nat.reduceMul]
      have h3 : decide (6000 < (textL l).length) = true := by rw [decide_eq_true_eq] at h2 ⊢; omega
      simp only [printL, h1, h3, cond_true, printV, fltV]
      exact gives_of (wk_refl _) (wkSt_refl _) (by simp [V.lt, ltL]) hst
    · have h3 : decide (6000 < (textL l).length) = false := by rw [decide_eq_false_iff_not] at h2 ⊢; omega
      simp only [gwL, gwB, gwD, gwE, gwS, gwTT, gwZ, gwN, gwC, Nat.reduceEqDiff, ↓reduceIte, Nat.reduceAdd, Nat.reduceLT, Nat.reduceLeDiff, Nat.reduceMul]
      simp only [printL, h1, h3, cond_true, cond_false, printV, fltV]
      exact gives_of (wk_refl _) (wkSt_refl _) (by simp [V.lt, ltL]) hst
  · have hle2 := textL_take_le l (i + 1)
    rw [take_textL hget] at hle2
    simp only [List.length_append, List.length_cons, List.length_nil] at hle2
    simp only [gwL, gwB, gwD, gwE, gwS, gwTT, gwZ, gwN, gwC, Nat.reduceEqDiff, ↓reduceIte, Nat.reduceAdd, Nat.reduceLT, Nat.reduceLeDiff, Nat.reduceMul, lt_yes hlt2, hdr, List.length_map, getD_map hget, encD_take, encD_len, encD_drop, Int.ofNat_lt.mpr hlt2, Nat.le_refl]
    refine (c_ref_Text a (okDs_mem hw.1 (List.mem_of_getElem? hget)) (by omega) _).use (wkL_refl _) fun _ => ?_
    simp only [gwL, gwB, gwD, gwE, gwS, gwTT, gwZ, gwN, gwC, Nat.reduceEqDiff, ↓reduceIte, Nat.reduceAdd, Nat.reduceLT, Nat.reduceLeDiff, Nat.reduceMul, List.length_append, List.length_cons, List.length_nil]
    refine ⟨by omega, by omega, i + 1, ⟨?_, _, _, tail2 _ _ _ _, wkSt_refl _, ?_, ?_, by simp⟩, by omega, by omega⟩
    · simp only [gwL, gwB, gwD, gwE, gwS, gwTT, gwZ, gwN, gwC, Nat.reduceEqDiff, ↓reduceIte, Nat.reduceAdd, Nat.reduceLT, Nat.reduceLeDiff, Nat.reduceMul, Env.keep, next_i64 hlt2 hkl]
      rw [take_textL hget]
      exact wkE_refl _
    · simp only [ltE, V.lt, List.length_append, List.length_cons, List.length_nil]
      have hl := lstD_lt (st.length + (0 + 1 + 1)) l
      simp only [lstD, V.lt] at hl
      exact ⟨hl, trivial, by omega, by omega, trivial, hl, trivial, trivial, trivial⟩
    · exact ok_app hst ⟨⟨trivial, trivial, trivial⟩, ⟨trivial, trivial, trivial⟩, trivial⟩

theorem c_TextPrints (l : List Datum) (st : St) : VCalls Tryd.prog TT 3 [lstD l] st fun r st' => r = .ret (.bool true) ∧ st' = st := by
  refine vfun TT_ok (an := anL []) (L := [0, 2, 3, 4, 5, 6]) (rs := [.tmp 2]) Tryd.func3 rfl (by kernel_rfl) rfl Tryd.ntmps3 rfl rfl (Nat.le_refl _) fun hst ha hf => ?_
  simp only [gwL, gwB, gwD, gwE, gwS, gwTT, gwZ, gwN, gwC, Nat.reduceEqDiff, ↓reduceIte, Nat.reduceAdd, Nat.reduceLT, Nat.reduceLeDiff, Nat.reduceMul]
  refine (c_Print st l).use (wkL_refl _) fun _ => ?_
  simp only [printV, fltV]
  simp only [gwL, gwB, gwD, gwE, gwS, gwTT, gwZ, gwN, gwC, Nat.reduceEqDiff, ↓reduceIte, Nat.reduceAdd, Nat.reduceLT, Nat.reduceLeDiff, Nat.reduceMul]
  refine (c_ref_Print _ l).use (wkL_refl _) fun _ => ?_
  simp only [printV, fltV]
  simp only [gwL, gwB, gwD, gwE, gwS, gwTT, gwZ, gwN, gwC, Nat.reduceEqDiff, ↓reduceIte, Nat.reduceAdd, Nat.reduceLT, Nat.reduceLeDiff, Nat.reduceMul]
  refine (c_text_Wrong _ l).use (wkL_refl _) fun _ => ?_
  simp only [gwL, gwB, gwD, gwE, gwS, gwTT, gwZ, gwN, gwC, Nat.reduceEqDiff, ↓reduceIte, Nat.reduceAdd, Nat.reduceLT, Nat.reduceLeDiff, Nat.reduceMul]
  refine (c_ref_Wrong _ l).use (wkL_refl _) fun _ => ?_
  simp only [fltV]
  simp only [gwL, gwB, gwD, gwE, gwS, gwTT, gwZ, gwN, gwC, Nat.reduceEqDiff, ↓reduceIte, Nat.reduceAdd, Nat.reduceLT, Nat.reduceLeDiff, Nat.reduceMul, decide_true, Bool.and_true]
  exact gives_bool' rfl hst
end Go.Proofs.YtbnkfcjmcjiahaaDoor.Gx

namespace Go.Proofs.YtbnkfcjmcjiahaaDoor.Gx
open Go Go.Proofs.YtbnkfcjmcjiahaaDoor.Gw
set_option linter.unusedSimpArgs false
set_option linter.unusedVariables false
def encI1 (n : Int) : List V := [.int .i64 n]
def encS1 (s : Str) : List V := [.str s]

theorem len_succ {α : Type} {cs : List α} {n : Nat} (h : cs.length = n + 1) : ∃ c r, cs = c :: r ∧ r.length = n := by
  cases cs with
  | nil => simp at h
  | cons c r => exact ⟨c, r, rfl, by simpa using h⟩
open Go.ChangeShapes Go.WideShapes Go.ChangeAt Go.RowKit
theorem own : ownKnob Tryd.prog.godebug = none := by kernel_rfl
theorem laidOut : laidOutB Tryd.prog = true := by kernel_rfl
theorem below_of {W W' : World} {g' : G} (h : Ext g00 W g' W') : Below W.heap.size W W' := ⟨h.os, h.tape, h.output, h.size, fun k hk => (h.free k hk rfl).1⟩
theorem bulk_one {H : Type} (d : DataW H) : 1 ≤ Rows.uptoBulk d := by
  cases d with
  | lit l => cases l <;> simp [Rows.uptoBulk]
  | nil => simp [Rows.uptoBulk]
  | ptr d => simp [Rows.uptoBulk]
  | slice elems spare => simp [Rows.uptoBulk]
  | agg parts => simp [Rows.uptoBulk]
  | iface t d => simp [Rows.uptoBulk]
  | map entries => simp [Rows.uptoBulk]
  | held h => simp [Rows.uptoBulk]
theorem bulk_len {H : Type} : ∀ l : List (DataW H), l.length ≤ Rows.uptoBulkAll l
  | [] => by simp [Rows.uptoBulkAll]
  | x :: r => by have := bulk_one x; have := bulk_len r; simp only [Rows.uptoBulkAll, List.length_cons]; omega
/-- A slice that is read has no more elements than its bulk. -/
theorem bulk_slice {H : Type} {enc : TypeId × Value → H} {P : Program} {W : World} {spare : Nat → Bool} {held : Bool} {n : Nat} {t e : TypeId} {v : Value} {r : DataW H × List MemPlace} (ht : P.underlying t = some (.slice e)) {sz : Nat} {tp : Option Nat} {rows : List (List V)}
    (h : DataW.trod enc P W 0 spare held n t [v] = some r) (hs : SimV g00 W (.lst sz tp rows) v) : rows.length ≤ Rows.uptoBulk r.1 := by
  simp only [SimV] at hs
  obtain ⟨a, cap, rfl, -⟩ := hs
  cases n with
  | zero => simp [DataW.trod] at h
  | succ n =>
    unfold DataW.trod at h
    rw [ht] at h
    split at h <;> first | (cases h; done) | skip
    all_goals rename_i e'; first | (injection e' with e'; cases e'; done) | skip
    · simp only [List.cons.injEq, Value.slice.injEq, and_true] at e'
      obtain ⟨_, e', _⟩ := e'
      omega
    · simp only [List.cons.injEq, Value.slice.injEq, and_true] at e'
      obtain ⟨_, e', _⟩ := e'
      simp only at h
      split at h
      case isFalse => cases h
      rw [e']
      generalize hm : List.mapM (m := Option) _ _ = o at h
      cases o with
      | none => simp at h
      | some ys =>
        obtain ⟨hl, -⟩ := mapM_some hm
        simp only [Option.bind_some, Option.map_eq_some_iff] at h
        obtain ⟨zs, -, rfl⟩ := h
        have := bulk_len (ys.map (·.1))
        rw [List.length_map, hl, List.length_range] at this
        simp only [Rows.uptoBulk]
        omega
/-- A string that is read is no longer than its bulk. -/
theorem bulk_str {H : Type} {enc : TypeId × Value → H} {P : Program} {W : World} {spare : Nat → Bool} {held : Bool} {n : Nat} {t : TypeId} {s : List UInt8} {r : DataW H × List MemPlace} (ht : P.underlying t = some .string)
    (h : DataW.trod enc P W 0 spare held n t [.string ⟨s.toArray⟩] = some r) : s.length ≤ Rows.uptoBulk r.1 := by
  cases n with
  | zero => simp [DataW.trod] at h
  | succ n =>
    unfold DataW.trod at h
    rw [ht] at h
    split at h <;> first | (cases h; done) | skip
    all_goals rename_i e'; first | (injection e' with e'; cases e'; done) | skip
    · simp only [List.cons.injEq, Value.string.injEq, and_true] at e'
      subst e'
      split at h
      · simp only [Option.some.injEq] at h
        subst h
        simp [Rows.uptoBulk, ByteArray.size]
      · cases h
    · exact ((‹∀ s_1 : ByteArray, some TypeDesc.string = some TypeDesc.string → [Value.string ⟨s.toArray⟩] = [Value.string s_1] → False›) _ rfl rfl).elim
theorem okWide_slice {P : Program} {W : World} {r : Reach} {b : Nat} {t e : TypeId} {v : Value} (ht : P.underlying t = some (.slice e)) (h : Value.okWide P W r b t v) : v.cells.toList = [v] := by
  unfold Value.okWide at h
  rw [ht] at h
  simp only [Cell.okWide, ht] at h
  cases v <;> first | rfl | (simp [Cell.ok, ht] at h)
theorem okWide_str {P : Program} {W : World} {r : Reach} {b : Nat} {t : TypeId} {v : Value} (ht : P.underlying t = some .string) (h : Value.okWide P W r b t v) : v.cells.toList = [v] := by
  unfold Value.okWide at h
  rw [ht] at h
  simp only [Cell.okWide, ht] at h
  cases v <;> first | rfl | (simp [Cell.ok, ht] at h)
theorem okWide_int {P : Program} {W : World} {r : Reach} {b : Nat} {t : TypeId} {k : IntKind} {v : Value} (ht : P.underlying t = some (.int k)) (h : Value.okWide P W r b t v) : v.cells.toList = [v] := by
  unfold Value.okWide at h
  rw [ht] at h
  simp only [Cell.okWide, ht] at h
  cases v <;> first | rfl | (simp [Cell.ok, ht] at h)
theorem dec_int1 {H : Type} {enc : TypeId × Value → H} {P : Program} {W : World} {spare : Nat → Bool} {held : Bool} {t : TypeId} (ht : P.underlying t = some (.int .i64)) {n : Nat} {cs : List Value} {r : DataW H × List MemPlace} (h : DataW.trod enc P W 0 spare held n t cs = some r) : ∃ x : Int, SimVs g00 W (encI1 x) cs ∧ ∀ u ∈ cs, u.oneCell' = true := by
  obtain ⟨m, rfl⟩ := dec_int ht h
  exact ⟨m, ⟨_, _, rfl, rfl, rfl⟩, by simp [Value.oneCell']⟩
theorem dec_str1 {H : Type} {enc : TypeId × Value → H} {P : Program} {W : World} {spare : Nat → Bool} {held : Bool} {t : TypeId} (ht : P.underlying t = some .string) {n : Nat} {cs : List Value} {r : DataW H × List MemPlace} (h : DataW.trod enc P W 0 spare held n t cs = some r) : ∃ x : Str, SimVs g00 W (encS1 x) cs ∧ ∀ u ∈ cs, u.oneCell' = true := by
  obtain ⟨m, rfl, hm⟩ := dec_str ht h
  exact ⟨m, ⟨_, _, rfl, ⟨rfl, hm⟩, rfl⟩, by simp [Value.oneCell']⟩
end Go.Proofs.YtbnkfcjmcjiahaaDoor.Gx

namespace Go.Proofs.YtbnkfcjmcjiahaaDoor.Gx
open Go Go.Proofs.YtbnkfcjmcjiahaaDoor.Gw
set_option linter.unusedSimpArgs false
set_option linter.unusedVariables false
theorem cells44 : Tryd.prog.cellsOf 44 = 6 := by kernel_rfl
theorem cells3 : Tryd.prog.cellsOf 3 = 1 := by kernel_rfl
theorem cells2 : Tryd.prog.cellsOf 2 = 1 := by kernel_rfl
theorem cells9 : Tryd.prog.cellsOf 9 = 1 := by kernel_rfl
theorem cells22 : Tryd.prog.cellsOf 22 = 1 := by kernel_rfl
theorem dec_Datum {H : Type} {enc : TypeId × Value → H} {W : World} {spare : Nat → Bool} {held : Bool} : ∀ (n : Nat) (cs : List Value) (r : DataW H × List MemPlace), DataW.trod enc Tryd.prog W 0 spare held n 44 cs = some r → ∃ x : Datum, SimVs g00 W (encD x) cs ∧ ∀ u ∈ cs, u.oneCell' = true := by
  intro n
  induction n using Nat.strongRecOn with
  | _ n ih =>
    intro cs r h
    obtain ⟨m, rfl, hl, hf⟩ := dec_struct Tryd.underlying44 h
    rw [cells44] at hl
    obtain ⟨c0, t0, rfl, l0⟩ := len_succ hl
    obtain ⟨c1, t1, rfl, l1⟩ := len_succ l0
    obtain ⟨c2, t2, rfl, l2⟩ := len_succ l1
    obtain ⟨c3, t3, rfl, l3⟩ := len_succ l2
    obtain ⟨c4, t4, rfl, l4⟩ := len_succ l3
    obtain ⟨c5, t5, rfl, l5⟩ := len_succ l4
    obtain rfl := List.eq_nil_of_length_eq_zero l5
    simp only [List.forall_mem_cons, cells2, cells22, cells3, cells9, List.drop_zero, List.drop_succ_cons, List.take_succ_cons, List.take_zero] at hf
    obtain ⟨⟨y0, h0⟩, ⟨y1, h1⟩, ⟨y2, h2⟩, ⟨y3, h3⟩, ⟨y4, h4⟩, ⟨y5, h5⟩, _⟩ := hf
    obtain ⟨x0, e0⟩ := dec_int Tryd.underlying3 h0
    obtain ⟨x1, e1⟩ := dec_int Tryd.underlying2 h1
    obtain ⟨x2, e2, k2⟩ := dec_str Tryd.underlying9 h2
    obtain ⟨x3, e3⟩ := dec_int Tryd.underlying3 h3
    obtain ⟨x4, e4⟩ := dec_int Tryd.underlying3 h4
    obtain ⟨x5, v5, e5, k5, j5⟩ := dec_slice encD Tryd.underlying22 cells44 (by decide) (fun m' hm' cs r hr => ih m' (by omega) cs r hr) h5
    simp only [List.cons.injEq, and_true] at e0 e1 e2 e3 e4 e5
    subst e0 e1 e2 e3 e4 e5
    refine ⟨Datum.mk x0 x1 x2 x3 x4 x5, ?_, ?_⟩
    · rw [encD_mk]
      exact ⟨_, _, rfl, rfl, ⟨_, _, rfl, rfl, ⟨_, _, rfl, ⟨rfl, k2⟩, ⟨_, _, rfl, rfl, ⟨_, _, rfl, rfl, ⟨_, _, rfl, k5, rfl⟩⟩⟩⟩⟩⟩
    · intro u hu
      simp only [List.mem_cons, List.not_mem_nil, or_false] at hu 
      rcases hu with rfl | rfl | rfl | rfl | rfl | rfl <;> first | rfl | exact j5
theorem dec_LDatum {H : Type} {enc : TypeId × Value → H} {W : World} {spare : Nat → Bool} {held : Bool} {n : Nat} {cs : List Value} {r : DataW H × List MemPlace} (h : DataW.trod enc Tryd.prog W 0 spare held n 22 cs = some r) : ∃ (l : List (Datum)) (v : Value), cs = [v] ∧ SimV g00 W (.lst 6 none (l.map encD)) v ∧ v.oneCell' = true :=
  dec_slice encD Tryd.underlying22 cells44 (by decide) (fun m _ cs r hr => dec_Datum m cs r hr) h
end Go.Proofs.YtbnkfcjmcjiahaaDoor.Gx

namespace Go.Proofs.YtbnkfcjmcjiahaaDoor.Gx
open Go Go.Proofs.YtbnkfcjmcjiahaaDoor.Gw
set_option linter.unusedSimpArgs false
set_option linter.unusedVariables false
open Go.ChangeShapes Go.WideShapes Go.ChangeAt Go.RowKit
noncomputable def low0 : Nat := (World.holding Tryd.prog default ⟨#[], #[], []⟩).heap.size
/-- A world that meets what is laid. -/
noncomputable def laidWorld (os : Os) : World :=
  { World.holding Tryd.prog os ⟨#[], #[], []⟩ with heap := ((((World.holding Tryd.prog os ⟨#[], #[], []⟩).heap.modify 0 (fun | .cells _ t frozen => .cells #[.int .u64 1, .int .u64 10, .int .u64 100, .int .u64 1000, .int .u64 10000, .int .u64 100000, .int .u64 1000000, .int .u64 10000000, .int .u64 100000000, .int .u64 1000000000, .int .u64 10000000000, .int .u64 100000000000, .int .u64 1000000000000, .int .u64 10000000000000, .int .u64 100000000000000, .int .u64 1000000000000000, .int .u64 10000000000000000, .int .u64 100000000000000000, .int .u64 1000000000000000000, .int .u64 10000000000000000000] t frozen | o => o)).modify 4 (fun | .cells _ t frozen => .cells #[.int .u8 0, .int .u8 1, .int .u8 28, .int .u8 2, .int .u8 29, .int .u8 14, .int .u8 24, .int .u8 3, .int .u8 30, .int .u8 22, .int .u8 20, .int .u8 15, .int .u8 25, .int .u8 17, .int .u8 4, .int .u8 8, .int .u8 31, .int .u8 27, .int .u8 13, .int .u8 23, .int .u8 21, .int .u8 19, .int .u8 16, .int .u8 7, .int .u8 26, .int .u8 12, .int .u8 18, .int .u8 6, .int .u8 11, .int .u8 5, .int .u8 10, .int .u8 9] t frozen | o => o)).modify 5 (fun | .cells _ t frozen => .cells #[.int .u8 0, .int .u8 1, .int .u8 56, .int .u8 2, .int .u8 57, .int .u8 49, .int .u8 28, .int .u8 3, .int .u8 61, .int .u8 58, .int .u8 42, .int .u8 50, .int .u8 38, .int .u8 29, .int .u8 17, .int .u8 4, .int .u8 62, .int .u8 47, .int .u8 59, .int .u8 36, .int .u8 45, .int .u8 43, .int .u8 51, .int .u8 22, .int .u8 53, .int .u8 39, .int .u8 33, .int .u8 30, .int .u8 24, .int .u8 18, .int .u8 12, .int .u8 5, .int .u8 63, .int .u8 55, .int .u8 48, .int .u8 27, .int .u8 60, .int .u8 41, .int .u8 37, .int .u8 16, .int .u8 46, .int .u8 35, .int .u8 44, .int .u8 21, .int .u8 52, .int .u8 32, .int .u8 23, .int .u8 11, .int .u8 54, .int .u8 26, .int .u8 40, .int .u8 15, .int .u8 34, .int .u8 20, .int .u8 31, .int .u8 10, .int .u8 25, .int .u8 14, .int .u8 19, .int .u8 9, .int .u8 13, .int .u8 8, .int .u8 7, .int .u8 6] t frozen | o => o)) }
theorem laid_met (os : Os) : laidMet Tryd.prog Rows.textPrintsRow.laid ((laidWorld os).forCall (fun _ _ => 0) ⟨#[], #[.slice none 0 0], []⟩).memory :=
  laidMet_of_run' 8 (by kernel_rfl) (by kernel_rfl)
theorem reads (os : Os) {H : Type} (enc : TypeId × Value → H) : ∃ places, DataW.whole enc Tryd.prog ((laidWorld os).forCall (fun _ _ => 0) ⟨#[], #[.slice none 0 0], []⟩).memory Tryd.f3.params.toList Rows.textPrintsSpec.vars false #[.slice none 0 0].toList 8 = some ([.nil], [], places) :=
  ⟨[], by kernel_rfl⟩
theorem amb_of_laid {W : World} (hL : laidMet Tryd.prog Rows.textPrintsRow.laid W) : Amb g00 W := by
  intro p hp
  obtain rfl : p = (0, (Go.Lib.pow10Tab.map fun z => Value.int .u64 z).toArray) := List.mem_singleton.1 hp
  have h : laidMet Tryd.prog (("internal/strconv.uint64pow10", Go.Lib.tabData .u64 Go.Lib.pow10Tab) :: []) W := hL.tail.tail
  have ht := Go.Lib.tabIs_of_head (g := 0) (t := 95) (e := 87) (n := 20) (by kernel_rfl) (by kernel_rfl) (by kernel_rfl) (by kernel_rfl) (by kernel_rfl) (by kernel_rfl) h
  refine ⟨rfl, ?_⟩
  unfold Go.Lib.TabIs World.var? at ht
  rw [show Tryd.prog.globalNamed "internal/strconv.uint64pow10" = some 0 by kernel_rfl, Option.bind_some] at ht
  split at ht
  · rename_i cs t x hx
    simp only [Option.some.injEq] at ht
    subst ht
    exact ⟨t, x, hx⟩
  · cases ht
set_option maxRecDepth 100000 in
theorem contract (H : Type) (enc : TypeId × Value → H) (W : World) (base : Nat) (args : Array Value) (ds gs : List (DataW H)) (before : List MemPlace) (hL : laidMet Tryd.prog Rows.textPrintsRow.laid W)
    (hval : ∀ (j : Nat) t v, Tryd.f3.params[j]? = some t → args[j]? = some v → Value.okWide Tryd.prog W .any base t v)
    (hW : DataW.Whole enc Tryd.prog Tryd.f3.params.toList Rows.textPrintsSpec.vars false W args.toList ds gs before) :
    Calls Tryd.prog 3 args W fun e W' => ∃ v, e = .returned v ∧ Rows.textPrintsSpec.post enc Tryd.prog Tryd.f3 false true false false W args v W' := by
  have hamb := amb_of_laid hL
  have hW' := hW
  obtain ⟨p, q, hA0, hV, rfl, hfz, hnd⟩ := hW
  have hA : DataW.TrodAll enc Tryd.prog W 0 (fun _ => true) true Tryd.f3.params.toList args.toList ds p := hA0
  rw [Tryd.params3] at hA hval
  obtain ⟨v0, vs0, d0, ds0, p0, q0, hargs0, rfl, rfl, h0, r0⟩ := trodAll_cons hA
  obtain ⟨rfl, rfl, rfl⟩ := trodAll_nil r0
  obtain rfl : args = #[v0] := by cases args; simp_all
  obtain ⟨rfl, rfl⟩ := trodVars_none hV
  have w0 := hval 0 22 v0 rfl rfl
  have k0 := h0
  have lt0 : ∀ x ∈ p0, x.block < W.heap.size := by obtain ⟨m, hm⟩ := k0; exact DataW.trod_lt m _ _ _ hm
  obtain ⟨m0, hm0⟩ := h0
  rw [okWide_slice Tryd.underlying22 w0] at hm0
  obtain ⟨l, x0, e0, s0, o0⟩ := dec_LDatum hm0
  simp only [List.cons.injEq, and_true] at e0
  subst e0
  refine ((c_TextPrints l []).2 g00 W [v0] (sim00 _ W) ⟨_, _, rfl, s0, rfl⟩).mono fun e W' ⟨r, st', g', ⟨h1, h2⟩, hend, _, hext⟩ => ?_
  subst h1
  obtain ⟨val, rfl, hb⟩ := hend
  simp only [SimV] at hb
  subst hb
  have bel := below_of hext
  exact ⟨_, rfl, _, _, _, [], _, [], hW', trodAll_mk1 (shut_bool Tryd.underlying4 _), (trodAll_cons_mk (Below.trod laidOut (by kernel_rfl) (of_decide_eq_true (by kernel_rfl)) k0 bel lt0) trodAll_mk0), rfl, bel.frame _, fun h => by cases h⟩
set_option maxRecDepth 100000 in
theorem lifted (os : Os) (started : os.Started) (H : Type) (enc : TypeId × Value → H) (F : Stop.Interp) :
    ReturnsInHanded {} Tryd.checked os 3 .any ((OpenSpec.ofChange Rows.textPrintsSpec).preRow enc Tryd.prog Tryd.f3 Rows.textPrintsRow.domain false Rows.textPrintsRow.laid) (((OpenSpec.ofChange Rows.textPrintsSpec).at F).post enc Tryd.prog Tryd.f3 false true false false) := by
  obtain ⟨places, hx⟩ := reads os enc
  refine returnsInHanded_of_row (C := Tryd.checked) (s := OpenSpec.ofChange Rows.textPrintsSpec) own started (by kernel_rfl) Tryd.func3
    (witness_row_at (enc := enc) (C := Tryd.checked) false (laidWorld os) #[.slice none 0 0] rfl (by kernel_rfl) (by kernel_rfl) (by kernel_rfl)
      (OpenSpec.preRow_of_cond 8 hx (by kernel_rfl) (fun k hk => by cases hk) (by kernel_rfl) (laid_met os))) ?_
  intro W base args ds gs before hval hW _ _ _ hL _ _
  exact contract H enc W base args ds gs before hL hval hW
theorem said : Rows.TextPrintsSaid :=
  OpenClaim.holds_of_cond 3 Tryd.f3 rfl rfl rfl rfl rfl rfl rfl ⟨rfl, rfl, rfl, rfl, rfl⟩ rfl rfl rfl rfl rfl (by kernel_rfl) Tryd.func3 (by kernel_rfl)
    (of_decide_eq_true (by kernel_rfl)) (by unfold Func.isWrapper; first | (rw [if_pos (by decide +kernel)]; kernel_rfl) | (rw [if_neg (by decide +kernel)]; exact ⟨rfl, rfl⟩))
    (fun os started H enc _ F => by rw [OpenClaim.pre_eq_preRow]; exact lifted os started H enc F)
theorem plain (f : FuncId) (fn : Func) (hf : Tryd.pinned.checked.prog.funcNamed "graftwood/graftlaw1.TextPrints" = some f) (hfn : Tryd.pinned.checked.prog.funcs[f]? = some fn) :
    true = Tryd.pinned.checked.prog.looks [] ∧ ∀ (j : Nat) t, fn.params[j]? = some t → Tryd.pinned.checked.prog.wantsStandIn t = false := by
  obtain rfl : f = 3 := Option.some.inj ((show Tryd.prog.funcNamed "graftwood/graftlaw1.TextPrints" = some 3 by kernel_rfl).symm.trans hf) |>.symm
  obtain rfl : fn = Tryd.f3 := (Option.some.inj (Tryd.func3.symm.trans hfn)).symm
  refine ⟨by kernel_rfl, fun j t ht => ?_⟩
  rw [Tryd.params3] at ht
  obtain rfl : t = 22 := by simpa using Array.mem_of_getElem? ht
  exact (show Tryd.prog.wantsStandIn 22 = false by kernel_rfl)
end Go.Proofs.YtbnkfcjmcjiahaaDoor.Gx
namespace Go.Proofs.YtbnkfcjmcjiahaaDoor
theorem textPrintsCard_holds : Rows.TextPrintsCardSaid :=
  Claim7.holds_tied_plain_at .later [] _ _ _ _ Gx.said (fun _ h => by cases h) (by kernel_rfl) (fun _ h => by cases h) textPrints_row_tie rfl ⟨rfl, rfl⟩ (by kernel_rfl) rfl Gx.plain (by kernel_rfl)
#print axioms textPrintsCard_holds
end Go.Proofs.YtbnkfcjmcjiahaaDoor
