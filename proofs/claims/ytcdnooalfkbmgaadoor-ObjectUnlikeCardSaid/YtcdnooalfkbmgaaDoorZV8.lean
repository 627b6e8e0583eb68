/- Contracts: a datum without what its kinds have not (the document's answer); when data are the same. Contracts: when data are the same. Numbers as bytes, in plain terms. Instructions, procedures, units: as they lie. Contract: when procedures are the same. Data that are right: what is bare of them, and that they are themselves. Contracts: small functions that look at units. Contracts: what is wrong with an instruction. Contracts: how a procedure uses the stack. -/
import Derived.Test.YtcdnooalfkbmgaaDoorZV7

namespace Go.Proofs.YtcdnooalfkbmgaaDoor.Gx
open Go Go.Proofs.YtcdnooalfkbmgaaDoor.Gw
set_option linter.unusedSimpArgs false
set_option linter.unusedVariables false

mutual
def bareR : Datum → Datum
  | .mk k n nm s l kids => bif decide (k = 1) then .mk k n [] 0 0 [] else bif decide (k = 2) then .mk k n [] 0 0 [] else bif decide (k = 3) then .mk k 0 nm s l [] else bif decide (k = 4) then .mk k 0 [] 0 0 (bareRs kids) else .mk k 0 [] 0 0 []
def bareRs : List Datum → List Datum
  | [] => []
  | d :: r => bareR d :: bareRs r
end
theorem bareRs_map : ∀ l : List Datum, bareRs l = l.map bareR
  | [] => rfl
  | d :: r => by simp only [bareRs, List.map_cons, bareRs_map r]
theorem bareR_mk (k n : Int) (nm : Str) (s l : Int) (kids : List Datum) : bareR (.mk k n nm s l kids) = bif decide (k = 1) then .mk k n [] 0 0 [] else bif decide (k = 2) then .mk k n [] 0 0 [] else bif decide (k = 3) then .mk k 0 nm s l [] else bif decide (k = 4) then .mk k 0 [] 0 0 (kids.map bareR) else .mk k 0 [] 0 0 [] := by
  simp only [bareR, bareRs_map]

theorem c_ref_Bare (d : Datum) : smallD d → ∀ st : St, VCalls Tryd.prog TT 24 [.agg (encD d)] st fun r st' => r = .ret (.agg (encD (bareR d))) ∧ st' = st := by
  refine Datum.ind (p := fun d => smallD d → ∀ st : St, VCalls Tryd.prog TT 24 [.agg (encD d)] st fun r st' => r = .ret (.agg (encD (bareR d))) ∧ st' = st) ?_ d
  intro k n nm s l kids ih hsm st
  refine vfun TT_ok (an := anL [(1, 1)]) (L := [0, 1, 2, 3, 5, 10, 11, 29, 30, 31]) (rs := [.cell 2 53]) Tryd.func24 rfl (by kernel_rfl) rfl Tryd.ntmps24 rfl rfl (Nat.le_refl _) fun hst ha hf => ?_
  simp only [encD_mk, fitL, V.fit, List.length_map] at hf ⊢
  have hkl : kids.length ≤ 9223372036854775807 := by simp at hf; omega
  rw [bareR_mk]
  simp only [gwL, gwB, gwD, gwE, gwS, gwTT, gwZ, gwN, gwC, Nat.reduceEqDiff, ↓reduceIte, Nat.reduceAdd, Nat.reduceLT, Nat.reduceLeDiff, Nat.reduceMul]
  refine iK_split (fun h => ?_) (fun h => ?_)
  · rw [h]
    have h4 : decide (k = 4) = false := by simp at h ⊢; omega
    simp only [gwL, gwB, gwD, gwE, gwS, gwTT, gwZ, gwN, gwC, Nat.reduceEqDiff, ↓reduceIte, Nat.reduceAdd, Nat.reduceLT, Nat.reduceLeDiff, Nat.reduceMul, List.length_map]
    refine vforD (σ := Nat) [1, 2, 3, 29, 30, 31] (fun i => [(1, true, .ref (encD (.mk k n nm s l kids))), (2, true, .ptr st.length 0), (3, true, .ptr (st.length + 1) 0), (29, true, lstD kids), (30, true, .int .i64 kids.length), (31, true, .int .i64 i)]) (fun i => st ++ [.box [.int .i64 0, .int .i64 0, .str [], .int .i64 0, .int .i64 0, .nils], .box [.int .i64 k, .int .i64 n, .str [], .int .i64 0, .int .i64 0, .nils]]) (fun i => kids.length - i) (fun i => i ≤ kids.length) 0 rfl TT_ok (Nat.zero_le _) (by rw [encD_mk]; exact wkE_refl _) rfl ?_
    intro i hi
    simp only [encD_mk, lstD]
    rcases at_or_end kids i hi with ⟨rfl, hd⟩ | ⟨a, hlt, hget, hdr⟩
    · simp only [gwL, gwB, gwD, gwE, gwS, gwTT, gwZ, gwN, gwC, Nat.reduceEqDiff, ↓reduceIte, Nat.reduceAdd, Nat.reduceLT, Nat.reduceLeDiff, Nat.reduceMul, lt_no, hd, encD_mk]
      refine gives_of (wk_agg ?_) (wkSt_refl _) (by simp only [V.lt]; exact encD_lt _ (.mk k n [] 0 0 [])) hst
      exact wkL_cons (wk_refl _) (wkL_cons (wk_refl _) (wkL_cons (wk_refl _) (wkL_cons (wk_refl _) (wkL_cons (wk_refl _) (wkL_cons (wk_nils _) wkL_nil)))))
    · simp only [gwL, gwB, gwD, gwE, gwS, gwTT, gwZ, gwN, gwC, Nat.reduceEqDiff, ↓reduceIte, Nat.reduceAdd, Nat.reduceLT, Nat.reduceLeDiff, Nat.reduceMul, lt_yes hlt, hdr, List.length_map, getD_map hget, encD_take, encD_len, encD_drop, Int.ofNat_lt.mpr hlt, Nat.le_refl, h4]
      refine ⟨i + 1, ⟨?_, st ++ [.box [.int .i64 0, .int .i64 0, .str [], .int .i64 0, .int .i64 0, .nils], .box [.int .i64 k, .int .i64 n, .str [], .int .i64 0, .int .i64 0, .nils]], [.box (encD a)], by simp only [gwL], wkSt_refl _, ?_, ?_, by simp⟩, by omega, hlt⟩
      · simp only [gwL, gwB, gwD, gwE, gwS, gwTT, gwZ, gwN, gwC, Nat.reduceEqDiff, ↓reduceIte, Nat.reduceAdd, Nat.reduceLT, Nat.reduceLeDiff, Nat.reduceMul, Env.keep, next_i64 hlt hkl]
        exact wkE_refl _
      · simp only [ltE, V.lt, gwL]
        exact ⟨by have := encD_lt (st.length + 2) (.mk k n nm s l kids); rw [encD_mk] at this; exact this, by omega, by omega, lstD_lt _ _, trivial, trivial, trivial⟩
      · exact ok_app hst (by simp [ltEs, Ent.lt, ltL, V.lt])
  rw [h]
  simp only [gwL, gwB, gwD, gwE, gwS, gwTT, gwZ, gwN, gwC, Nat.reduceEqDiff, ↓reduceIte, Nat.reduceAdd, Nat.reduceLT, Nat.reduceLeDiff, Nat.reduceMul]
  refine iK_split (fun h2 => ?_) (fun h2 => ?_)
  · rw [h2]
    have h4 : decide (k = 4) = false := by simp at h2 ⊢; omega
    simp only [gwL, gwB, gwD, gwE, gwS, gwTT, gwZ, gwN, gwC, Nat.reduceEqDiff, ↓reduceIte, Nat.reduceAdd, Nat.reduceLT, Nat.reduceLeDiff, Nat.reduceMul, List.length_map]
    refine vforD (σ := Nat) [1, 2, 3, 29, 30, 31] (fun i => [(1, true, .ref (encD (.mk k n nm s l kids))), (2, true, .ptr st.length 0), (3, true, .ptr (st.length + 1) 0), (29, true, lstD kids), (30, true, .int .i64 kids.length), (31, true, .int .i64 i)]) (fun i => st ++ [.box [.int .i64 0, .int .i64 0, .str [], .int .i64 0, .int .i64 0, .nils], .box [.int .i64 k, .int .i64 n, .str [], .int .i64 0, .int .i64 0, .nils]]) (fun i => kids.length - i) (fun i => i ≤ kids.length) 0 rfl TT_ok (Nat.zero_le _) (by rw [encD_mk]; exact wkE_refl _) rfl ?_
    intro i hi
    simp only [encD_mk, lstD]
    rcases at_or_end kids i hi with ⟨rfl, hd⟩ | ⟨a, hlt, hget, hdr⟩
    · simp only [gwL, gwB, gwD, gwE, gwS, gwTT, gwZ, gwN, gwC, Nat.reduceEqDiff, ↓reduceIte, Nat.reduceAdd, Nat.reduceLT, Nat.reduceLeDiff, Nat.reduceMul, lt_no, hd, encD_mk]
      refine gives_of (wk_agg ?_) (wkSt_refl _) (by simp only [V.lt]; exact encD_lt _ (.mk k n [] 0 0 [])) hst
      exact wkL_cons (wk_refl _) (wkL_cons (wk_refl _) (wkL_cons (wk_refl _) (wkL_cons (wk_refl _) (wkL_cons (wk_refl _) (wkL_cons (wk_nils _) wkL_nil)))))
    · simp only [gwL, gwB, gwD, gwE, gwS, gwTT, gwZ, gwN, gwC, Nat.reduceEqDiff, ↓reduceIte, Nat.reduceAdd, Nat.reduceLT, Nat.reduceLeDiff, Nat.reduceMul, lt_yes hlt, hdr, List.length_map, getD_map hget, encD_take, encD_len, encD_drop, Int.ofNat_lt.mpr hlt, Nat.le_refl, h4]
      refine ⟨i + 1, ⟨?_, st ++ [.box [.int .i64 0, .int .i64 0, .str [], .int .i64 0, .int .i64 0, .nils], .box [.int .i64 k, .int .i64 n, .str [], .int .i64 0, .int .i64 0, .nils]], [.box (encD a)], by simp only [gwL], wkSt_refl _, ?_, ?_, by simp⟩, by omega, hlt⟩
      · simp only [gwL, gwB, gwD, gwE, gwS, gwTT, gwZ, gwN, gwC, Nat.reduceEqDiff, ↓reduceIte, Nat.reduceAdd, Nat.reduceLT, Nat.reduceLeDiff, Nat.reduceMul, Env.keep, next_i64 hlt hkl]
        exact wkE_refl _
      · simp only [ltE, V.lt, gwL]
        exact ⟨by have := encD_lt (st.length + 2) (.mk k n nm s l kids); rw [encD_mk] at this; exact this, by omega, by omega, lstD_lt _ _, trivial, trivial, trivial⟩
      · exact ok_app hst (by simp [ltEs, Ent.lt, ltL, V.lt])
  rw [h2]
  simp only [gwL, gwB, gwD, gwE, gwS, gwTT, gwZ, gwN, gwC, Nat.reduceEqDiff, ↓reduceIte, Nat.reduceAdd, Nat.reduceLT, Nat.reduceLeDiff, Nat.reduceMul]
  refine iK_split (fun h3 => ?_) (fun h3 => ?_)
  · rw [h3]
    have h4 : decide (k = 4) = false := by simp at h3 ⊢; omega
    simp only [gwL, gwB, gwD, gwE, gwS, gwTT, gwZ, gwN, gwC, Nat.reduceEqDiff, ↓reduceIte, Nat.reduceAdd, Nat.reduceLT, Nat.reduceLeDiff, Nat.reduceMul]
    refine vdraw TT_ok TT_mixed [0, 0, 0, 0, 0, 0, 0, 2, 0, 2, 0, 2] (by kernel_rfl) ?_
    simp only [gwL, gwB, gwD, gwE, gwS, gwTT, gwZ, gwN, gwC, Nat.reduceEqDiff, ↓reduceIte, Nat.reduceAdd, Nat.reduceLT, Nat.reduceLeDiff, Nat.reduceMul, List.length_map]
    refine vforD (σ := Nat) [1, 2, 3, 29, 30, 31] (fun i => [(1, true, .ref (encD (.mk k n nm s l kids))), (2, true, .ptr st.length 0), (3, true, .ptr (st.length + 1) 0), (29, true, lstD kids), (30, true, .int .i64 kids.length), (31, true, .int .i64 i)]) (fun i => st ++ [.box [.int .i64 0, .int .i64 0, .str [], .int .i64 0, .int .i64 0, .nils], .box [.int .i64 k, .int .i64 0, .str nm, .int .i64 s, .int .i64 l, .nils]]) (fun i => kids.length - i) (fun i => i ≤ kids.length) 0 rfl TT_ok (Nat.zero_le _) (by rw [encD_mk]; exact wkE_refl _) rfl ?_
    intro i hi
    simp only [encD_mk, lstD]
    rcases at_or_end kids i hi with ⟨rfl, hd⟩ | ⟨a, hlt, hget, hdr⟩
    · simp only [gwL, gwB, gwD, gwE, gwS, gwTT, gwZ, gwN, gwC, Nat.reduceEqDiff, ↓reduceIte, Nat.reduceAdd, Nat.reduceLT, Nat.reduceLeDiff, Nat.reduceMul, lt_no, hd, encD_mk]
      refine gives_of (wk_agg ?_) (wkSt_refl _) (by simp only [V.lt]; exact encD_lt _ (.mk k 0 nm s l [])) hst
      exact wkL_cons (wk_refl _) (wkL_cons (wk_refl _) (wkL_cons (wk_refl _) (wkL_cons (wk_refl _) (wkL_cons (wk_refl _) (wkL_cons (wk_nils _) wkL_nil)))))
    · simp only [gwL, gwB, gwD, gwE, gwS, gwTT, gwZ, gwN, gwC, Nat.reduceEqDiff, ↓reduceIte, Nat.reduceAdd, Nat.reduceLT, Nat.reduceLeDiff, Nat.reduceMul, lt_yes hlt, hdr, List.length_map, getD_map hget, encD_take, encD_len, encD_drop, Int.ofNat_lt.mpr hlt, Nat.le_refl, h4]
      refine ⟨i + 1, ⟨?_, st ++ [.box [.int .i64 0, .int .i64 0, .str [], .int .i64 0, .int .i64 0, .nils], .box [.int .i64 k, .int .i64 0, .str nm, .int .i64 s, .int .i64 l, .nils]], [.box (encD a)], by simp only [gwL], wkSt_refl _, ?_, ?_, by simp⟩, by omega, hlt⟩
      · simp only [gwL, gwB, gwD, gwE, gwS, gwTT, gwZ, gwN, gwC, Nat.reduceEqDiff, ↓reduceIte, Nat.reduceAdd, Nat.reduceLT, Nat.reduceLeDiff, Nat.reduceMul, Env.keep, next_i64 hlt hkl]
        exact wkE_refl _
      · simp only [ltE, V.lt, gwL]
        exact ⟨by have := encD_lt (st.length + 2) (.mk k n nm s l kids); rw [encD_mk] at this; exact this, by omega, by omega, lstD_lt _ _, trivial, trivial, trivial⟩
      · exact ok_app hst (by simp [ltEs, Ent.lt, ltL, V.lt])
  rw [h3]
  simp only [gwL, gwB, gwD, gwE, gwS, gwTT, gwZ, gwN, gwC, Nat.reduceEqDiff, ↓reduceIte, Nat.reduceAdd, Nat.reduceLT, Nat.reduceLeDiff, Nat.reduceMul, List.length_map]
  by_cases h4 : k = 4
  · have h4' : decide (k = 4) = true := decide_eq_true h4
    rw [h4']
    obtain ⟨hs1, hs2⟩ := hsm h4
    refine vforT (σ := Nat) [53] [1, 2, 3, 29, 30, 31] (fun i => [(1, true, .ref (encD (.mk k n nm s l kids))), (2, true, .ptr st.length 0), (3, true, .ptr (st.length + 1) 0), (29, true, lstD kids), (30, true, .int .i64 kids.length), (31, true, .int .i64 i)]) (fun i => st ++ [.box [.int .i64 0, .int .i64 0, .str [], .int .i64 0, .int .i64 0, .nils], .box [.int .i64 k, .int .i64 0, .str [], .int .i64 0, .int .i64 0, .lst 6 (some (st.length + 2)) ((kids.take i).map fun d => encD (bareR d))], .tip 53 i]) (fun i => kids.length - i) (fun i => i ≤ kids.length) 0 rfl TT_ok (Nat.zero_le _) ?_ ?_ ?_
    · rw [encD_mk]; exact wkE_refl _
    · refine ⟨st ++ [.box [.int .i64 0, .int .i64 0, .str [], .int .i64 0, .int .i64 0, .nils], .box [.int .i64 k, .int .i64 0, .str [], .int .i64 0, .int .i64 0, .lst 6 (some (st.length + 2)) []]], ?_, by simp only [gwL, tips, List.map_cons, List.map_nil, List.take_zero]⟩
      refine (wkSt_refl _).append (wkSt_cons (Ent.wkp_refl _) (wkSt_cons (Ent.wk_box ?_) wkSt_nil))
      exact wkL_cons (wk_refl _) (wkL_cons (wk_refl _) (wkL_cons (wk_refl _) (wkL_cons (wk_refl _) (wkL_cons (wk_refl _) (wkL_cons (wk_tip _ (by simp [Tips])) wkL_nil)))))
    intro i hi
    simp only [encD_mk, lstD]
    rcases at_or_end kids i hi with ⟨rfl, hd⟩ | ⟨a, hlt, hget, hdr⟩
    · simp only [gwL, gwB, gwD, gwE, gwS, gwTT, gwZ, gwN, gwC, Nat.reduceEqDiff, ↓reduceIte, Nat.reduceAdd, Nat.reduceLT, Nat.reduceLeDiff, Nat.reduceMul, lt_no, hd, List.take_length, encD_mk]
      have hm : (kids.map bareR).map encD = kids.map (fun d => encD (bareR d)) := by rw [List.map_map]; rfl
      rw [hm]
      refine gives_of (wk_agg ?_) (wkSt_refl _) ?_ hst
      · exact wkL_cons (wk_refl _) (wkL_cons (wk_refl _) (wkL_cons (wk_refl _) (wkL_cons (wk_refl _) (wkL_cons (wk_refl _) (wkL_cons (wk_tok _ _ _) wkL_nil)))))
      · rw [← hm]
        have := encD_lt st.length (.mk k 0 [] 0 0 (kids.map bareR))
        simp only [encD_mk] at this
        simp only [V.lt]; exact this
    · simp only [gwL, gwB, gwD, gwE, gwS, gwTT, gwZ, gwN, gwC, Nat.reduceEqDiff, ↓reduceIte, Nat.reduceAdd, Nat.reduceLT, Nat.reduceLeDiff, Nat.reduceMul, lt_yes hlt, hdr, List.length_map, getD_map hget, encD_take, encD_len, encD_drop, Int.ofNat_lt.mpr hlt, Nat.le_refl, h4']
      refine vdraw TT_ok TT_mixed [0, 1, 1, 0, 0, 2, 0, 2] (by kernel_rfl) ?_
      simp only [gwL, gwB, gwD, gwE, gwS, gwTT, gwZ, gwN, gwC, Nat.reduceEqDiff, ↓reduceIte, Nat.reduceAdd, Nat.reduceLT, Nat.reduceLeDiff, Nat.reduceMul, encD_take, encD_len, encD_drop, Nat.le_refl]
      refine eK_free (ih a (List.mem_of_getElem? hget) (smallDs_mem hs2 (List.mem_of_getElem? hget))) (wkL_refl _) ?_
      simp only [gwL, gwB, gwD, gwE, gwS, gwTT, gwZ, gwN, gwC, Nat.reduceEqDiff, ↓reduceIte, Nat.reduceAdd, Nat.reduceLT, Nat.reduceLeDiff, Nat.reduceMul, encD_take, encD_len, encD_drop, Nat.le_refl, List.length_map, List.length_take, Nat.min_eq_left hi]
      refine ⟨by omega, ?_⟩
      refine ⟨i + 1, ⟨?_, st ++ [.box [.int .i64 0, .int .i64 0, .str [], .int .i64 0, .int .i64 0, .nils], .box [.int .i64 k, .int .i64 0, .str [], .int .i64 0, .int .i64 0, .lst 6 (some (st.length + 2)) ((kids.take (i + 1)).map fun d => encD (bareR d))], .tip 53 (i + 1)], [.box (encD a)], ?_, wkSt_refl _, ?_, ?_, by simp⟩, by omega, hlt⟩
      · simp only [gwL, gwB, gwD, gwE, gwS, gwTT, gwZ, gwN, gwC, Nat.reduceEqDiff, ↓reduceIte, Nat.reduceAdd, Nat.reduceLT, Nat.reduceLeDiff, Nat.reduceMul, Env.keep, next_i64 hlt hkl]
        exact wkE_refl _
      · rw [take_next hget, List.map_append]
        simp only [gwL, List.map_cons, List.map_nil, show min i kids.length = i by omega]
      · simp only [ltE, V.lt, gwL]
        exact ⟨by have := encD_lt (st.length + 3) (.mk k n nm s l kids); rw [encD_mk] at this; exact this, by omega, by omega, lstD_lt _ _, trivial, trivial, trivial⟩
      · refine ok_app hst ⟨by simp [Ent.lt, ltL, V.lt], ⟨?_, trivial, trivial⟩⟩
        simp only [Ent.lt, ltL, V.lt, true_and, and_true]
        exact ⟨fun e he => by cases he; simp, ltRows_map fun d _ => encD_lt _ _⟩
  · have h4 : decide (k = 4) = false := decide_eq_false h4
    rw [h4]
    refine vforD (σ := Nat) [1, 2, 3, 29, 30, 31] (fun i => [(1, true, .ref (encD (.mk k n nm s l kids))), (2, true, .ptr st.length 0), (3, true, .ptr (st.length + 1) 0), (29, true, lstD kids), (30, true, .int .i64 kids.length), (31, true, .int .i64 i)]) (fun i => st ++ [.box [.int .i64 0, .int .i64 0, .str [], .int .i64 0, .int .i64 0, .nils], .box [.int .i64 k, .int .i64 0, .str [], .int .i64 0, .int .i64 0, .nils]]) (fun i => kids.length - i) (fun i => i ≤ kids.length) 0 rfl TT_ok (Nat.zero_le _) (by rw [encD_mk]; exact wkE_refl _) rfl ?_
    intro i hi
    simp only [encD_mk, lstD]
    rcases at_or_end kids i hi with ⟨rfl, hd⟩ | ⟨a, hlt, hget, hdr⟩
    · simp only [gwL, gwB, gwD, gwE, gwS, gwTT, gwZ, gwN, gwC, Nat.reduceEqDiff, ↓reduceIte, Nat.reduceAdd, Nat.reduceLT, Nat.reduceLeDiff, Nat.reduceMul, lt_no, hd, encD_mk]
      refine gives_of (wk_agg ?_) (wkSt_refl _) (by simp only [V.lt]; exact encD_lt _ (.mk k 0 [] 0 0 [])) hst
      exact wkL_cons (wk_refl _) (wkL_cons (wk_refl _) (wkL_cons (wk_refl _) (wkL_cons (wk_refl _) (wkL_cons (wk_refl _) (wkL_cons (wk_nils _) wkL_nil)))))
    · simp only [gwL, gwB, gwD, gwE, gwS, gwTT, gwZ, gwN, gwC, Nat.reduceEqDiff, ↓reduceIte, Nat.reduceAdd, Nat.reduceLT, Nat.reduceLeDiff, Nat.reduceMul, lt_yes hlt, hdr, List.length_map, getD_map hget, encD_take, encD_len, encD_drop, Int.ofNat_lt.mpr hlt, Nat.le_refl, h4]
      refine ⟨i + 1, ⟨?_, st ++ [.box [.int .i64 0, .int .i64 0, .str [], .int .i64 0, .int .i64 0, .nils], .box [.int .i64 k, .int .i64 0, .str [], .int .i64 0, .int .i64 0, .nils]], [.box (encD a)], by simp only [gwL], wkSt_refl _, ?_, ?_, by simp⟩, by omega, hlt⟩
      · simp only [gwL, gwB, gwD, gwE, gwS, gwTT, gwZ, gwN, gwC, Nat.reduceEqDiff, ↓reduceIte, Nat.reduceAdd, Nat.reduceLT, Nat.reduceLeDiff, Nat.reduceMul, Env.keep, next_i64 hlt hkl]
        exact wkE_refl _
      · simp only [ltE, V.lt, gwL]
        exact ⟨by have := encD_lt (st.length + 2) (.mk k n nm s l kids); rw [encD_mk] at this; exact this, by omega, by omega, lstD_lt _ _, trivial, trivial, trivial⟩
      · exact ok_app hst (by simp [ltEs, Ent.lt, ltL, V.lt])
end Go.Proofs.YtcdnooalfkbmgaaDoor.Gx

namespace Go.Proofs.YtcdnooalfkbmgaaDoor.Gx
open Go Go.Proofs.YtcdnooalfkbmgaaDoor.Gw
set_option linter.unusedSimpArgs false
set_option linter.unusedVariables false

mutual
def eqD : Datum → Datum → Bool
  | .mk k n nm s l kids, .mk k' n' nm' s' l' kids' =>
    bif decide (k = k') then
      bif decide (k = 1) then decide (n = n') else bif decide (k = 2) then decide (n = n')
      else bif decide (k = 3) then (decide (nm = nm') && decide (s = s')) && decide (l = l')
      else bif decide (k = 4) then eqDs kids kids' else true
    else false
def eqDs : List Datum → List Datum → Bool
  | [], [] => true
  | a :: r, b :: r' => eqD a b && eqDs r r'
  | [], _ :: _ => false
  | _ :: _, [] => false
end
theorem eqDs_len : ∀ {l m : List Datum}, l.length ≠ m.length → eqDs l m = false
  | [], [], h => absurd rfl h
  | [], _ :: _, _ => by simp only [eqDs]
  | _ :: _, [], _ => by simp only [eqDs]
  | a :: r, b :: r', h => by
    simp only [eqDs, eqDs_len (l := r) (m := r') (by simpa using h), Bool.and_false]

theorem c_Same_of (l : List Datum) (ih : ∀ d ∈ l, ∀ (e : Datum) (st : St), VCalls Tryd.prog TT 32 [.agg (encD d), .agg (encD e)] st fun r st' => r = .ret (.bool (eqD d e)) ∧ st' = st) (m : List Datum) (st : St) :
    VCalls Tryd.prog TT 40 [lstD l, lstD m] st fun r st' => r = .ret (.bool (eqDs l m)) ∧ st' = st := by
  refine vfun TT_ok (an := anL []) (L := [0, 1, 4, 5, 12, 13]) (rs := [.tmp 4]) Tryd.func40 rfl (by kernel_rfl) rfl Tryd.ntmps40 rfl rfl (Nat.le_refl _) fun hst ha hf => ?_
  simp only [lstD, fitL, V.fit, List.length_map] at hf ⊢
  have hkl : l.length ≤ 9223372036854775807 := by simp at hf; omega
  simp only [gwL, gwB, gwD, gwE, gwS, gwTT, gwZ, gwN, gwC, Nat.reduceEqDiff, ↓reduceIte, Nat.reduceAdd, Nat.reduceLT, Nat.reduceLeDiff, Nat.reduceMul, List.length_map]
  refine iK_split (fun h => ?_) (fun h => ?_)
  · simp only [gwL, gwB, gwD, gwE, gwS, gwTT, gwZ, gwN, gwC, Nat.reduceEqDiff, ↓reduceIte, Nat.reduceAdd, Nat.reduceLT, Nat.reduceLeDiff, Nat.reduceMul]
    refine gives_bool ?_ hst
    rw [eqDs_len]
    simp at h
    omega
  have hlen : l.length = m.length := by simp at h; omega
  simp only [gwL, gwB, gwD, gwE, gwS, gwTT, gwZ, gwN, gwC, Nat.reduceEqDiff, ↓reduceIte, Nat.reduceAdd, Nat.reduceLT, Nat.reduceLeDiff, Nat.reduceMul, List.length_map]
  refine vfor (σ := Nat) [0, 1, 4, 12, 13] (fun i => [(0, true, lstD l), (1, true, lstD m), (4, true, .bool false), (12, true, .int .i64 l.length), (13, true, .int .i64 i)]) (fun i => st) (fun i => l.length - i) (fun i => i ≤ l.length ∧ eqDs l m = eqDs (l.drop i) (m.drop i)) 0 rfl TT_ok ⟨Nat.zero_le _, rfl⟩ rfl rfl ?_
  rintro i ⟨hi, hx⟩
  rw [hx]
  simp only [lstD]
  rcases at_or_end l i hi with ⟨rfl, hd⟩ | ⟨a, hlt, hget, hdr⟩
  · have hd2 : m.drop l.length = [] := List.drop_of_length_le (by omega)
    simp only [gwL, gwB, gwD, gwE, gwS, gwTT, gwZ, gwN, gwC, Nat.reduceEqDiff, ↓reduceIte, Nat.reduceAdd, Nat.reduceLT, Nat.reduceLeDiff, Nat.reduceMul, lt_no, hd, hd2, eqDs]
    exact gives_bool rfl hst
  · rcases at_or_end m i (by omega) with ⟨e, hd⟩ | ⟨b, hlt2, hget2, hdr2⟩
    · omega
    simp only [gwL, gwB, gwD, gwE, gwS, gwTT, gwZ, gwN, gwC, Nat.reduceEqDiff, ↓reduceIte, Nat.reduceAdd, Nat.reduceLT, Nat.reduceLeDiff, Nat.reduceMul, lt_yes hlt, hdr, hdr2, eqDs, List.length_map, Int.ofNat_lt.mpr hlt]
    refine vdraw TT_ok TT_mixed [0, 0, 0, 1, 0, 0, 0, 1, 0, 0] (by kernel_rfl) ?_
    simp only [gwL, gwB, gwD, gwE, gwS, gwTT, gwZ, gwN, gwC, Nat.reduceEqDiff, ↓reduceIte, Nat.reduceAdd, Nat.reduceLT, Nat.reduceLeDiff, Nat.reduceMul, List.length_map, getD_map hget, getD_map hget2, encD_take, encD_len, Int.ofNat_lt.mpr hlt, Int.ofNat_lt.mpr hlt2, Nat.le_refl]
    refine eK_free (ih a (List.mem_of_getElem? hget) b) (wkL_refl _) ?_
    simp only [gwL, gwB, gwD, gwE, gwS, gwTT, gwZ, gwN, gwC, Nat.reduceEqDiff, ↓reduceIte, Nat.reduceAdd, Nat.reduceLT, Nat.reduceLeDiff, Nat.reduceMul]
    refine iK_split (fun h5 => ?_) (fun h5 => ?_)
    · simp only [gwL, gwB, gwD, gwE, gwS, gwTT, gwZ, gwN, gwC, Nat.reduceEqDiff, ↓reduceIte, Nat.reduceAdd, Nat.reduceLT, Nat.reduceLeDiff, Nat.reduceMul]
      exact gives_bool (by rw [not_yes h5]; rfl) hst
    · simp only [gwL, gwB, gwD, gwE, gwS, gwTT, gwZ, gwN, gwC, Nat.reduceEqDiff, ↓reduceIte, Nat.reduceAdd, Nat.reduceLT, Nat.reduceLeDiff, Nat.reduceMul, Env.keep]
      exact ⟨i + 1, by rw [next_i64 hlt hkl], by omega, hlt, by rw [not_no h5]; rfl⟩

theorem c_Equal (d : Datum) : ∀ (e : Datum) (st : St), VCalls Tryd.prog TT 32 [.agg (encD d), .agg (encD e)] st fun r st' => r = .ret (.bool (eqD d e)) ∧ st' = st := by
  refine Datum.ind (p := fun d => ∀ (e : Datum) (st : St), VCalls Tryd.prog TT 32 [.agg (encD d), .agg (encD e)] st fun r st' => r = .ret (.bool (eqD d e)) ∧ st' = st) ?_ d
  intro k n nm s l kids ih e st
  obtain ⟨k', n', nm', s', l', kids'⟩ := e
  refine vfun TT_ok (an := anL [(2, 1), (3, 1)]) (L := [0, 1, 2, 3, 4, 11, 12]) (rs := [.tmp 4]) Tryd.func32 rfl (by kernel_rfl) rfl Tryd.ntmps32 rfl rfl (Nat.le_refl _) fun hst ha hf => ?_
  simp only [encD_mk]
  unfold eqD
  simp only [gwL, gwB, gwD, gwE, gwS, gwTT, gwZ, gwN, gwC, Nat.reduceEqDiff, ↓reduceIte, Nat.reduceAdd, Nat.reduceLT, Nat.reduceLeDiff, Nat.reduceMul]
  refine iK_split (fun h => ?_) (fun h => ?_)
  · rw [not_yes h]
    simp only [gwL, gwB, gwD, gwE, gwS, gwTT, gwZ, gwN, gwC, Nat.reduceEqDiff, ↓reduceIte, Nat.reduceAdd, Nat.reduceLT, Nat.reduceLeDiff, Nat.reduceMul]
    exact gives_bool rfl hst
  rw [not_no h]
  simp only [gwL, gwB, gwD, gwE, gwS, gwTT, gwZ, gwN, gwC, Nat.reduceEqDiff, ↓reduceIte, Nat.reduceAdd, Nat.reduceLT, Nat.reduceLeDiff, Nat.reduceMul]
  refine iK_split (fun h1 => ?_) (fun h1 => ?_)
  · rw [h1]
    simp only [gwL, gwB, gwD, gwE, gwS, gwTT, gwZ, gwN, gwC, Nat.reduceEqDiff, ↓reduceIte, Nat.reduceAdd, Nat.reduceLT, Nat.reduceLeDiff, Nat.reduceMul]
    exact gives_bool rfl hst
  rw [h1]
  simp only [gwL, gwB, gwD, gwE, gwS, gwTT, gwZ, gwN, gwC, Nat.reduceEqDiff, ↓reduceIte, Nat.reduceAdd, Nat.reduceLT, Nat.reduceLeDiff, Nat.reduceMul]
  refine iK_split (fun h2 => ?_) (fun h2 => ?_)
  · rw [h2]
    simp only [gwL, gwB, gwD, gwE, gwS, gwTT, gwZ, gwN, gwC, Nat.reduceEqDiff, ↓reduceIte, Nat.reduceAdd, Nat.reduceLT, Nat.reduceLeDiff, Nat.reduceMul]
    exact gives_bool rfl hst
  rw [h2]
  simp only [gwL, gwB, gwD, gwE, gwS, gwTT, gwZ, gwN, gwC, Nat.reduceEqDiff, ↓reduceIte, Nat.reduceAdd, Nat.reduceLT, Nat.reduceLeDiff, Nat.reduceMul]
  refine iK_split (fun h3 => ?_) (fun h3 => ?_)
  · rw [h3]
    simp only [gwL, gwB, gwD, gwE, gwS, gwTT, gwZ, gwN, gwC, Nat.reduceEqDiff, ↓reduceIte, Nat.reduceAdd, Nat.reduceLT, Nat.reduceLeDiff, Nat.reduceMul]
    exact gives_bool rfl hst
  rw [h3]
  simp only [gwL, gwB, gwD, gwE, gwS, gwTT, gwZ, gwN, gwC, Nat.reduceEqDiff, ↓reduceIte, Nat.reduceAdd, Nat.reduceLT, Nat.reduceLeDiff, Nat.reduceMul]
  refine iK_split (fun h4 => ?_) (fun h4 => ?_)
  · rw [h4]
    simp only [gwL, gwB, gwD, gwE, gwS, gwTT, gwZ, gwN, gwC, Nat.reduceEqDiff, ↓reduceIte, Nat.reduceAdd, Nat.reduceLT, Nat.reduceLeDiff, Nat.reduceMul]
    refine (c_Same_of kids ih kids' st).use (wkL_refl _) fun _ => ?_
    simp only [gwL, gwB, gwD, gwE, gwS, gwTT, gwZ, gwN, gwC, Nat.reduceEqDiff, ↓reduceIte, Nat.reduceAdd, Nat.reduceLT, Nat.reduceLeDiff, Nat.reduceMul]
    exact gives_bool rfl hst
  · rw [h4]
    simp only [gwL, gwB, gwD, gwE, gwS, gwTT, gwZ, gwN, gwC, Nat.reduceEqDiff, ↓reduceIte, Nat.reduceAdd, Nat.reduceLT, Nat.reduceLeDiff, Nat.reduceMul]
    exact gives_bool rfl hst
end Go.Proofs.YtcdnooalfkbmgaaDoor.Gx

namespace Go.Proofs.YtcdnooalfkbmgaaDoor.Gx
open Go Go.Proofs.YtcdnooalfkbmgaaDoor.Gw
set_option linter.unusedSimpArgs false
set_option linter.unusedVariables false

/-- A number without a sign. -/
def zz (n : Int) : Nat := if n < 0 then (-(2 * n + 1)).toNat else (2 * n).toNat
def unzz (u : Nat) : Int := if u % 2 = 1 then -((u / 2 : Nat) : Int) - 1 else ((u / 2 : Nat) : Int)
theorem unzz_zz (n : Int) : unzz (zz n) = n := by
  unfold unzz zz
  split <;> split <;> omega
theorem zz_unzz (u : Nat) : zz (unzz u) = u := by
  unfold unzz zz
  split <;> split <;> omega
theorem zz_lt {n : Int} (h0 : -9223372036854775808 ≤ n) (h1 : n ≤ 9223372036854775807) : zz n < 18446744073709551616 := by
  unfold zz
  split <;> omega
/-- Its bytes, the last ones first. -/
def vb : Nat → Nat → Str
  | 0, u => [UInt8.ofNat u]
  | f + 1, u => bif decide (u < 128) then [UInt8.ofNat u] else UInt8.ofNat (128 + u % 128) :: vb f (u / 128)
def numB (n : Int) : Str := vb 9 (zz n)
theorem vb_len : ∀ (f u : Nat), 1 ≤ (vb f u).length ∧ (vb f u).length ≤ f + 1
  | 0, u => by simp [vb]
  | f + 1, u => by
    have := vb_len f (u / 128)
    simp only [vb]
    cases decide (u < 128) <;> simp <;> omega
theorem numB_len (n : Int) : 1 ≤ (numB n).length ∧ (numB n).length ≤ 10 := vb_len 9 _
/-- Reading one, so many bytes behind, that come to so much: it, what is left, and whether it is none. -/
def rdV : Nat → Nat → Nat → Str → Int × Str × Bool
  | 0, _, _, s => (0, s, true)
  | f + 1, i, u, s => match s with
    | [] => (0, [], true)
    | c :: r => bif (decide (0 < i) && decide (c.toNat = 0)) || (decide (i = 9) && decide (1 < c.toNat)) then (0, r, true)
      else bif decide (c.toNat < 128) then (unzz (u + c.toNat % 128 * 128 ^ i), r, false)
      else rdV f (i + 1) (u + c.toNat % 128 * 128 ^ i) r
def numR (s : Str) : Int × Str × Bool := rdV 10 0 0 s
theorem rdV_le : ∀ (f i u : Nat) (s : Str), (rdV f i u s).2.1.length ≤ s.length ∧ ((rdV f i u s).2.2 = false → (rdV f i u s).2.1.length < s.length)
  | 0, _, _, s => by simp [rdV]
  | f + 1, i, u, [] => by simp [rdV]
  | f + 1, i, u, c :: r => by
    have := rdV_le f (i + 1) (u + c.toNat % 128 * 128 ^ i) r
    simp only [rdV]
    cases (decide (0 < i) && decide (c.toNat = 0)) || (decide (i = 9) && decide (1 < c.toNat)) <;> simp only [cond_true, cond_false]
    · cases decide (c.toNat < 128) <;> simp only [cond_true, cond_false, List.length_cons]
      · exact ⟨by omega, fun h => by have := this.2 h; omega⟩
      · exact ⟨by omega, fun _ => by omega⟩
    · simp
theorem byte_ofNat {n : Nat} (h : n < 256) : (UInt8.ofNat n).toNat = n := by simp; omega
/-- What is written is read. -/
theorem rd_vb (x : Str) : ∀ (f i u v : Nat), f + i = 9 → v < 2 * 128 ^ f → (0 < i → 0 < v) → u < 128 ^ i → rdV (f + 1) i u (vb f v ++ x) = (unzz (u + v * 128 ^ i), x, false)
  | 0, i, u, v, hi, hv, h0, hu => by
    simp only [vb, List.cons_append, List.nil_append, rdV]
    have hv2 : v < 2 := by simpa using hv
    rw [byte_ofNat (by omega)]
    have e1 : (decide (0 < i) && decide (v = 0)) = false := by
      simp only [Bool.and_eq_false_iff, decide_eq_false_iff_not]
      by_cases h : 0 < i
      · exact .inr (by have := h0 h; omega)
      · exact .inl h
    have e2 : (decide (i = 9) && decide (1 < v)) = false := by simp; omega
    rw [e1, e2, show decide (v < 128) = true by simp; omega, Nat.mod_eq_of_lt (by omega)]
    rfl
  | f + 1, i, u, v, hi, hv, h0, hu => by
    simp only [vb]
    by_cases hv1 : v < 128
    · simp only [hv1, decide_true, cond_true, List.cons_append, List.nil_append, rdV]
      rw [byte_ofNat (by omega)]
      have e1 : (decide (0 < i) && decide (v = 0)) = false := by
        simp only [Bool.and_eq_false_iff, decide_eq_false_iff_not]
        by_cases h : 0 < i
        · exact .inr (by have := h0 h; omega)
        · exact .inl h
      have e2 : (decide (i = 9) && decide (1 < v)) = false := by simp; omega
      rw [e1, e2, show decide (v < 128) = true by simp; omega, Nat.mod_eq_of_lt (by omega)]
      rfl
    · have hb := byte_ofNat (show 128 + v % 128 < 256 by omega)
      simp only [hv1, decide_false, cond_false, List.cons_append]
      have ih := rd_vb x f (i + 1) (u + v % 128 * 128 ^ i) (v / 128) (by omega) (by rw [Nat.pow_succ] at hv; omega) (fun _ => by omega) (by
        rw [Nat.pow_succ]
        have : v % 128 * 128 ^ i ≤ 127 * 128 ^ i := Nat.mul_le_mul_right _ (by omega)
        omega)
      have hs : rdV (f + 1 + 1) i u (UInt8.ofNat (128 + v % 128) :: (vb f (v / 128) ++ x)) = rdV (f + 1) (i + 1) (u + v % 128 * 128 ^ i) (vb f (v / 128) ++ x) := by
        conv => lhs; unfold rdV
        simp only [hb]
        have e1 : (decide (0 < i) && decide (128 + v % 128 = 0)) = false := by simp
        have e2 : (decide (i = 9) && decide (1 < 128 + v % 128)) = false := by simp; omega
        rw [e1, e2, show decide (128 + v % 128 < 128) = false by simp, show (128 + v % 128) % 128 = v % 128 by omega]
        rfl
      rw [hs, ih]
      congr 1
      congr 1
      have : v = v % 128 + 128 * (v / 128) := by omega
      conv => rhs; rw [this]
      rw [Nat.pow_succ, Nat.add_mul, Nat.mul_comm (128 ^ i) 128, ← Nat.mul_assoc, Nat.mul_comm 128 (v / 128)]
      omega
theorem numR_numB {n : Int} (x : Str) (h0 : -9223372036854775808 ≤ n) (h1 : n ≤ 9223372036854775807) : numR (numB n ++ x) = (n, x, false) := by
  have := rd_vb x 9 0 0 (zz n) rfl (by have := zz_lt h0 h1; simpa using this) (fun h => by omega) (by simp)
  rw [show numR (numB n ++ x) = rdV (9 + 1) 0 0 (vb 9 (zz n) ++ x) from rfl, this]
  simp [unzz_zz]
/-- What is read is what is written of it. -/
theorem vb_rd : ∀ (f i u : Nat) (s : Str) (n : Int) (r : Str), f + i = 9 → rdV (f + 1) i u s = (n, r, false) → u < 128 ^ i → ∃ v, n = unzz (u + v * 128 ^ i) ∧ s = vb f v ++ r ∧ v < 2 * 128 ^ f ∧ (0 < i → 0 < v)
  | f, i, u, [], n, r, _, h, _ => by simp [rdV] at h
  | f, i, u, c :: s, n, r, hi, h, hu => by
    unfold rdV at h
    simp only at h
    have hc := c.toNat_lt
    have hco : UInt8.ofNat c.toNat = c := by simp
    cases e : (decide (0 < i) && decide (c.toNat = 0)) || (decide (i = 9) && decide (1 < c.toNat)) with
    | true => rw [e] at h; simp at h
    | false =>
      rw [e] at h
      simp only [Bool.or_eq_false_iff, Bool.and_eq_false_iff, decide_eq_false_iff_not] at e
      simp only [cond_false] at h
      by_cases h1 : c.toNat < 128
      · simp only [h1, decide_true, cond_true, Prod.mk.injEq, and_true] at h
        obtain ⟨rfl, rfl⟩ := h
        refine ⟨c.toNat, by rw [Nat.mod_eq_of_lt h1], ?_, ?_, fun h => by omega⟩
        · cases f with
          | zero => simp [vb]
          | succ f => simp only [vb, h1, decide_true, cond_true, hco, List.cons_append, List.nil_append]
        · cases f with
          | zero => simp; omega
          | succ f =>
            have : 128 ^ (f + 1) ≥ 128 := by rw [Nat.pow_succ]; have := Nat.pow_pos (n := f) (show 0 < 128 by decide); omega
            omega
      · simp only [h1, decide_false, cond_false] at h
        cases f with
        | zero => simp [rdV] at h
        | succ f =>
          obtain ⟨v, k1, k2, k3, k4⟩ := vb_rd f (i + 1) (u + c.toNat % 128 * 128 ^ i) s n r (by omega) h (by
            rw [Nat.pow_succ]
            have : c.toNat % 128 * 128 ^ i ≤ 127 * 128 ^ i := Nat.mul_le_mul_right _ (by omega)
            omega)
          have hv := k4 (by omega)
          refine ⟨c.toNat % 128 + 128 * v, ?_, ?_, ?_, fun _ => by omega⟩
          · rw [k1, Nat.pow_succ, Nat.add_mul, Nat.mul_comm (128 ^ i) 128, ← Nat.mul_assoc, Nat.mul_comm v 128, Nat.add_assoc]
          · have e3 : ¬ c.toNat % 128 + 128 * v < 128 := by omega
            simp only [vb, e3, decide_false, cond_false, List.cons_append]
            have e4 : (c.toNat % 128 + 128 * v) % 128 = c.toNat % 128 := by omega
            have e5 : (c.toNat % 128 + 128 * v) / 128 = v := by omega
            rw [e4, e5, show 128 + c.toNat % 128 = c.toNat by omega, hco, ← k2]
          · rw [Nat.pow_succ]; omega
theorem numB_numR {s : Str} {n : Int} {r : Str} (h : numR s = (n, r, false)) : s = numB n ++ r ∧ -9223372036854775808 ≤ n ∧ n ≤ 9223372036854775807 := by
  obtain ⟨v, k1, k2, k3, _⟩ := vb_rd 9 0 0 s n r rfl h (by simp)
  simp only [Nat.pow_zero, Nat.mul_one, Nat.zero_add] at k1
  subst k1
  refine ⟨by rw [k2]; simp only [numB, zz_unzz], ?_, ?_⟩ <;> (unfold unzz; split <;> omega)
end Go.Proofs.YtcdnooalfkbmgaaDoor.Gx

namespace Go.Proofs.YtcdnooalfkbmgaaDoor.Gx
open Go Go.Proofs.YtcdnooalfkbmgaaDoor.Gw
set_option linter.unusedSimpArgs false
set_option linter.unusedVariables false

/-- An instruction. -/
structure Ins where
  op : Int
  a : Int := 0
  n : Int := 0
  lib : Str := []
  own : Str := []
  quote : Datum := .mk 0 0 [] 0 0 []
def encI (i : Ins) : List V := [.int .i64 i.op, .int .i64 i.a, .int .i64 i.n, .str i.lib, .str i.own] ++ encD i.quote
theorem encI_len (i : Ins) : (encI i).length = 11 := by simp only [encI, List.length_append, encD_len, List.length_cons, List.length_nil]
theorem encI_lt (n : Nat) (i : Ins) : ltL n (encI i) := ltL_append (by simp [ltL, V.lt]) (encD_lt n i.quote)
def noI : Ins := { op := 0 }
theorem wk_ins (op a n : Int) (lib own : Str) : wkL [.int .i64 op, .int .i64 a, .int .i64 n, .str lib, .str own, .int .i64 0, .int .i64 0, .str [], .int .i64 0, .int .i64 0, .nils] (encI { op := op, a := a, n := n, lib := lib, own := own }) := by
  simp only [encI, encD_mk]
  exact wkL_cons (wk_refl _) (wkL_cons (wk_refl _) (wkL_cons (wk_refl _) (wkL_cons (wk_refl _) (wkL_cons (wk_refl _) (wkL_cons (wk_refl _) (wkL_cons (wk_refl _) (wkL_cons (wk_refl _) (wkL_cons (wk_refl _) (wkL_cons (wk_refl _) (wkL_cons (wk_nils _) wkL_nil))))))))))
def lstI (l : List Ins) : V := .lst 11 none (l.map encI)
theorem lstI_lt (n : Nat) (l : List Ins) : (lstI l).lt n := by
  simp only [lstI, V.lt]
  exact ⟨fun e h => (by cases h), ltRows_map fun x _ => encI_lt _ _⟩
theorem encI_mk (op a n : Int) (lb ow : Str) (q : Datum) : encI ⟨op, a, n, lb, ow, q⟩ = .int .i64 op :: .int .i64 a :: .int .i64 n :: .str lb :: .str ow :: encD q := rfl
/-- A call of what is told by a relation. -/
theorem useQ {P : Program} {T : Nat → TI} {an : Nat → Nat} {L : List Nat} {ds : List Deferred} {f : FuncId} {args args' : List V} {st : St} {Q0 : VEnd → St → Prop} {dst : Option Tmp} {gc : Bool} {all : Array Oper} {os : List Oper} {env : Env} {k : Kont} {Q : VExit → Env → St → Prop}
    (h : VCalls P T f args' st Q0) (hw : wkL args args') (h3 : ∀ v s, ¬ Q0 (.panic v) s) (h2 : ∀ X s, X.fit → Q0 (.ret X) s → oK P T an L ds all os (env.put L dst gc X) s k Q) : VCalls P T f args st (aK P T an L ds dst gc all os env k Q) :=
  (h.args hw).monoF fun r s hf hq => by
    cases r with
    | ret X => exact h2 X s hf hq
    | panic v => exact absurd hq (h3 v s)

/-- A procedure in the making. -/
structure Pr where
  args : Int
  code : List Ins
def encPr (p : Pr) : List V := [.int .i64 p.args, lstI p.code]
def lstPr (l : List Pr) : V := .lst 2 none (l.map encPr)
theorem lstPr_lt (n : Nat) (l : List Pr) : (lstPr l).lt n := by
  simp only [lstPr, V.lt]
  exact ⟨fun e h => (by cases h), ltRows_map fun x _ => ⟨trivial, lstI_lt _ _, trivial⟩⟩
/-- A unit. -/
structure Unit' where
  name : Str
  protos : List Pr
def encU (u : Unit') : List V := [.str u.name, lstPr u.protos]
theorem fit_rows {α : Type} {f : α → List V} {l : List α} {a : α} (h : fitR (l.map f)) (ha : a ∈ l) : fitL (f a) := by
  induction l with
  | nil => simp at ha
  | cons x l ih =>
    rcases List.mem_cons.1 ha with rfl | ha
    · exact h.1
    · exact ih h.2 ha

end Go.Proofs.YtcdnooalfkbmgaaDoor.Gx

namespace Go.Proofs.YtcdnooalfkbmgaaDoor.Gx
open Go Go.Proofs.YtcdnooalfkbmgaaDoor.Gw
set_option linter.unusedSimpArgs false
set_option linter.unusedVariables false

def sameI (x y : Ins) : Bool := ((((decide (x.op = y.op) && decide (x.a = y.a)) && decide (x.n = y.n)) && decide (x.lib = y.lib)) && decide (x.own = y.own)) && eqD x.quote y.quote
def sameL : List Ins → List Ins → Bool
  | [], [] => true
  | x :: r, y :: s => sameI x y && sameL r s
  | [], _ :: _ => false
  | _ :: _, [] => false
def samePs : List Pr → List Pr → Bool
  | [], [] => true
  | p :: r, q :: s => (decide (p.args = q.args) && decide (p.code.length = q.code.length)) && (sameL p.code q.code && samePs r s)
  | [], _ :: _ => false
  | _ :: _, [] => false
theorem samePs_len : ∀ {l m : List Pr}, l.length ≠ m.length → samePs l m = false
  | [], [], h => absurd rfl h
  | [], _ :: _, _ => by simp only [samePs]
  | _ :: _, [], _ => by simp only [samePs]
  | a :: r, b :: r', h => by
    simp only [samePs, samePs_len (l := r) (m := r') (by simpa using h), Bool.and_false]

set_option maxRecDepth 20000 in
set_option maxHeartbeats 8000000 in
theorem c_SameProtos (l m : List Pr) (st : St) : VCalls Tryd.prog TT 22 [lstPr l, lstPr m] st fun r st' => r = .ret (.bool (samePs l m)) ∧ st' = st := by
  refine vfun TT_ok (an := anL []) (L := [0, 1, 4, 5, 6, 7, 8, 15, 16, 50, 51]) (rs := [.tmp 4]) Tryd.func22 rfl (by kernel_rfl) rfl Tryd.ntmps22 rfl rfl (Nat.le_refl _) fun hst ha hf => ?_
  simp only [lstPr, fitL, V.fit, List.length_map] at hf ⊢
  obtain ⟨⟨hkl, hfl⟩, ⟨hkm, hfm⟩, _⟩ := hf
  simp only [gwL, gwB, gwD, gwE, gwS, gwTT, gwZ, gwN, gwC, Nat.reduceEqDiff, ↓reduceIte, Nat.reduceAdd, Nat.reduceLT, Nat.reduceLeDiff, Nat.reduceMul, List.length_map]
  refine iK_split (fun h => ?_) (fun h => ?_)
  · simp only [gwL, gwB, gwD, gwE, gwS, gwTT, gwZ, gwN, gwC, Nat.reduceEqDiff, ↓reduceIte, Nat.reduceAdd, Nat.reduceLT, Nat.reduceLeDiff, Nat.reduceMul]
    refine gives_bool ?_ hst
    rw [samePs_len]
    simp at h
    omega
  have hlen : l.length = m.length := by simp at h; omega
  simp only [gwL, gwB, gwD, gwE, gwS, gwTT, gwZ, gwN, gwC, Nat.reduceEqDiff, ↓reduceIte, Nat.reduceAdd, Nat.reduceLT, Nat.reduceLeDiff, Nat.reduceMul, List.length_map]
  refine vfor (σ := Nat × St) [0, 1, 4, 15, 16] (fun x => [(0, true, lstPr l), (1, true, lstPr m), (4, true, .bool false), (15, true, .int .i64 l.length), (16, true, .int .i64 x.1)]) (fun x => st ++ x.2) (fun x => l.length - x.1) (fun x => x.1 ≤ l.length ∧ samePs l m = samePs (l.drop x.1) (m.drop x.1)) (0, []) rfl TT_ok ⟨Nat.zero_le _, rfl⟩ rfl (List.append_nil st).symm ?_
  rintro ⟨i, ex⟩ ⟨hi, hx⟩
  simp only at hi hx ⊢
  rw [hx]
  simp only [lstPr]
  rcases at_or_end l i hi with ⟨rfl, hd⟩ | ⟨a, hlt, hget, hdr⟩
  · have hd2 : m.drop l.length = [] := List.drop_of_length_le (by omega)
    simp only [gwL, gwB, gwD, gwE, gwS, gwTT, gwZ, gwN, gwC, Nat.reduceEqDiff, ↓reduceIte, Nat.reduceAdd, Nat.reduceLT, Nat.reduceLeDiff, Nat.reduceMul, lt_no, hd, hd2, samePs]
    exact gives_bool' rfl hst
  · rcases at_or_end m i (by omega) with ⟨e, hd⟩ | ⟨b, hlt2, hget2, hdr2⟩
    · omega
    simp only [gwL, gwB, gwD, gwE, gwS, gwTT, gwZ, gwN, gwC, Nat.reduceEqDiff, ↓reduceIte, Nat.reduceAdd, Nat.reduceLT, Nat.reduceLeDiff, Nat.reduceMul, lt_yes hlt, hdr, hdr2, samePs, List.length_map, Int.ofNat_lt.mpr hlt]
    refine vdraw TT_ok TT_mixed [0, 0, 0, 0, 1, 0, 0, 0, 0, 1, 0, 0, 0, 0, 0, 0, 1, 0, 0, 0, 0, 0, 1, 0, 0, 0] (by kernel_rfl) ?_
    simp only [gwL, gwB, gwD, gwE, gwS, gwTT, gwZ, gwN, gwC, Nat.reduceEqDiff, ↓reduceIte, Nat.reduceAdd, Nat.reduceLT, Nat.reduceLeDiff, Nat.reduceMul, List.length_map, getD_map hget, getD_map hget2, encPr, lstI, Int.ofNat_lt.mpr hlt, Int.ofNat_lt.mpr hlt2]
    have hfa := fit_rows hfl (List.mem_of_getElem? hget)
    simp only [encPr, lstI, fitL, V.fit, List.length_map] at hfa
    have hal : a.code.length ≤ 9223372036854775807 := hfa.2.1.1
    refine iK_split (fun h5 => ?_) (fun h5 => ?_)
    · have e5 : (decide (a.args = b.args) && decide (a.code.length = b.code.length)) = false := by
        revert h5
        cases decide (a.args = b.args) <;> simp
        omega
      simp only [gwL, gwB, gwD, gwE, gwS, gwTT, gwZ, gwN, gwC, Nat.reduceEqDiff, ↓reduceIte, Nat.reduceAdd, Nat.reduceLT, Nat.reduceLeDiff, Nat.reduceMul, e5]
      exact gives_bool' rfl hst
    have e5 : (decide (a.args = b.args) && decide (a.code.length = b.code.length)) = true := by
      revert h5
      cases decide (a.args = b.args) <;> simp
      omega
    have hcl : a.code.length = b.code.length := by simp at e5; exact e5.2
    rw [e5]
    simp only [gwL, gwB, gwD, gwE, gwS, gwTT, gwZ, gwN, gwC, Nat.reduceEqDiff, ↓reduceIte, Nat.reduceAdd, Nat.reduceLT, Nat.reduceLeDiff, Nat.reduceMul, List.length_map, getD_map hget, encPr, lstI, Int.ofNat_lt.mpr hlt]
    refine vfor (σ := Nat × St) [0, 1, 4, 5, 15, 16, 50, 51] (fun x => [(0, true, lstPr l), (1, true, lstPr m), (4, true, .bool false), (5, true, .int .i64 i), (15, true, .int .i64 l.length), (16, true, .int .i64 i), (50, true, .int .i64 a.code.length), (51, true, .int .i64 x.1)]) (fun x => st ++ x.2) (fun x => a.code.length - x.1) (fun x => x.1 ≤ a.code.length ∧ sameL a.code b.code = sameL (a.code.drop x.1) (b.code.drop x.1)) (0, ex) rfl TT_ok ⟨Nat.zero_le _, rfl⟩ rfl rfl ?_
    rintro ⟨j, ex2⟩ ⟨hj, hy⟩
    simp only at hj hy ⊢
    rw [hy]
    simp only [lstPr]
    rcases at_or_end a.code j hj with ⟨rfl, hd3⟩ | ⟨u, hltj, hgetj, hdrj⟩
    · have hd4 : b.code.drop a.code.length = [] := List.drop_of_length_le (by omega)
      simp only [gwL, gwB, gwD, gwE, gwS, gwTT, gwZ, gwN, gwC, Nat.reduceEqDiff, ↓reduceIte, Nat.reduceAdd, Nat.reduceLT, Nat.reduceLeDiff, Nat.reduceMul, lt_no, hd3, hd4, sameL]
      exact ⟨(i + 1, ex2), by simp only [next_i64 hlt hkl]; rfl, rfl, by simp only; omega, by simp only; omega, rfl⟩
    · rcases at_or_end b.code j (by omega) with ⟨e, hd⟩ | ⟨v, hltj2, hgetj2, hdrj2⟩
      · omega
      have encI_take : ∀ i : Ins, (encI i).take 11 = encI i := fun i => List.take_of_length_le (by rw [encI_len]; exact Nat.le_refl _)
      have encI_drop : ∀ i : Ins, (encI i).drop 11 = [] := fun i => List.drop_of_length_le (by rw [encI_len]; exact Nat.le_refl _)
      simp only [gwL, gwB, gwD, gwE, gwS, gwTT, gwZ, gwN, gwC, Nat.reduceEqDiff, ↓reduceIte, Nat.reduceAdd, Nat.reduceLT, Nat.reduceLeDiff, Nat.reduceMul, lt_yes hltj, hdrj, hdrj2, sameL, List.length_map, Int.ofNat_lt.mpr hltj]
      refine vdraw2 TT_ok TT_mixed (σ := Nat × Nat × St) [0, 0, 0, 0, 0, 0, 0, 0, 0, 0, 0, 0, 0, 0, 0, 0, 2, 2, 2, 2] [0, 1, 2, 3, 4, 5, 6, 7, 8, 9, 10, 11, 12, 13, 14, 15, 17, 16, 18, 19] 16 17 [0, 1, 4, 5, 7, 8, 15, 16, 50, 51] (fun x => [(0, true, lstPr l), (1, true, lstPr m), (4, true, .bool false), (5, true, .int .i64 i), (7, true, .ptr x.1 0), (8, true, .ptr x.2.1 0), (15, true, .int .i64 l.length), (16, true, .int .i64 i), (50, true, .int .i64 a.code.length), (51, true, .int .i64 j)]) (fun x => st ++ x.2.2) (fun x => (st ++ x.2.2)[x.1]? = some (.box (encI u)) ∧ (st ++ x.2.2)[x.2.1]? = some (.box (encI v))) rfl (by kernel_rfl) ?_ ?_ ?_
      · simp only [gwL, gwB, gwD, gwE, gwS, gwTT, gwZ, gwN, gwC, Nat.reduceEqDiff, ↓reduceIte, Nat.reduceAdd, Nat.reduceLT, Nat.reduceLeDiff, Nat.reduceMul, List.length_map, getD_map hget, getD_map hget2, getD_map hgetj, getD_map hgetj2, encPr, lstI, Int.ofNat_lt.mpr hlt, Int.ofNat_lt.mpr hlt2, Int.ofNat_lt.mpr hltj, Int.ofNat_lt.mpr hltj2, encI_take, encI_len, encI_drop]
        exact ⟨rfl, rfl, (st.length + ex2.length, st.length + (ex2.length + 1), ex2 ++ [Ent.box (encI u), Ent.box (encI v)]), rfl, rfl, by simp [List.getElem?_append_right], by simp [List.getElem?_append_right]⟩
      · simp only [pickO, pickC, List.map_cons, List.map_nil, List.getD_cons_zero, List.getD_cons_succ]
        simp only [gwL, gwB, gwD, gwE, gwS, gwTT, gwZ, gwN, gwC, Nat.reduceEqDiff, ↓reduceIte, Nat.reduceAdd, Nat.reduceLT, Nat.reduceLeDiff, Nat.reduceMul, List.length_map, getD_map hget, getD_map hget2, getD_map hgetj, getD_map hgetj2, encPr, lstI, Int.ofNat_lt.mpr hlt, Int.ofNat_lt.mpr hlt2, Int.ofNat_lt.mpr hltj, Int.ofNat_lt.mpr hltj2, encI_take, encI_len, encI_drop]
        exact ⟨rfl, rfl, (st.length + (ex2.length + 1), st.length + ex2.length, ex2 ++ [Ent.box (encI v), Ent.box (encI u)]), rfl, rfl, by simp [List.getElem?_append_right], by simp [List.getElem?_append_right]⟩
      · rintro ⟨n1, n2, ex3⟩ ⟨h1, h2⟩
        simp only at h1 h2 ⊢
        obtain ⟨uop, ua, un, ul, uo, uq⟩ := u
        obtain ⟨vop, va, vn, vl, vo, vq⟩ := v
        simp only [encI_mk] at h1 h2
        have ql : 6 ≤ (encD uq).length := by rw [encD_len]; exact Nat.le_refl _
        have ql2 : 6 ≤ (encD vq).length := by rw [encD_len]; exact Nat.le_refl _
        simp only [gwL, gwB, gwD, gwE, gwS, gwTT, gwZ, gwN, gwC, Nat.reduceEqDiff, ↓reduceIte, Nat.reduceAdd, Nat.reduceLT, Nat.reduceLeDiff, Nat.reduceMul, h1, h2, encD_take, encD_len, encD_drop]
        refine rK_guarded (.bool (eqD uq vq)) (fun _ => c_Equal uq vq _) ?_
        simp only [gwL, gwB, gwD, gwE, gwS, gwTT, gwZ, gwN, gwC, Nat.reduceEqDiff, ↓reduceIte, Nat.reduceAdd, Nat.reduceLT, Nat.reduceLeDiff, Nat.reduceMul]
        have es : sameI ⟨uop, ua, un, ul, uo, uq⟩ ⟨vop, va, vn, vl, vo, vq⟩ = !(!decide (uop = vop) || !decide (ua = va) || !decide (un = vn) || !decide (ul = vl) || !decide (uo = vo) || !eqD uq vq) := by
          simp only [sameI, Bool.not_or, Bool.not_not]
        refine iK_split (fun h7 => ?_) (fun h7 => ?_)
        · rw [h7] at es
          simp only [gwL, gwB, gwD, gwE, gwS, gwTT, gwZ, gwN, gwC, Nat.reduceEqDiff, ↓reduceIte, Nat.reduceAdd, Nat.reduceLT, Nat.reduceLeDiff, Nat.reduceMul, es]
          exact gives_bool' rfl hst
        · rw [h7] at es
          simp only [gwL, gwB, gwD, gwE, gwS, gwTT, gwZ, gwN, gwC, Nat.reduceEqDiff, ↓reduceIte, Nat.reduceAdd, Nat.reduceLT, Nat.reduceLeDiff, Nat.reduceMul, es]
          exact ⟨(j + 1, ex3), by simp only [next_i64 hltj hal]; rfl, rfl, by simp only; omega, by simp only; omega, rfl⟩
end Go.Proofs.YtcdnooalfkbmgaaDoor.Gx

namespace Go.Proofs.YtcdnooalfkbmgaaDoor.Gx
open Go Go.Proofs.YtcdnooalfkbmgaaDoor.Gw
set_option linter.unusedSimpArgs false
set_option linter.unusedVariables false

mutual
/-- A datum of a kind that there is, whose lists are few. -/
def goodD : Datum → Prop
  | .mk k _ _ s l kids => (k = 1 ∨ k = 2 ∨ k = 3 ∨ k = 4) ∧ (k = 4 → kids.length ≤ 2000 ∧ goodDs kids) ∧ (k = 3 → s = 0 ∧ l = 0)
def goodDs : List Datum → Prop
  | [] => True
  | d :: r => goodD d ∧ goodDs r
end
mutual
theorem goodD_small : ∀ d : Datum, goodD d → smallD d
  | .mk k n nm s l kids, h => by
    rw [goodD] at h
    rw [smallD]
    exact fun hk => ⟨(h.2.1 hk).1, goodDs_small kids (h.2.1 hk).2⟩
theorem goodDs_small : ∀ l : List Datum, goodDs l → smallDs l
  | [], _ => by rw [smallDs]; trivial
  | d :: r, h => by rw [goodDs] at h; rw [smallDs]; exact ⟨goodD_small d h.1, goodDs_small r h.2⟩
end
mutual
theorem shapeD_good : ∀ (d : Datum) (deep c : Int), 0 ≤ c → (shapeD d deep c).1 = 0 → goodD d ∧ c + 1 ≤ (shapeD d deep c).2
  | .mk k n nm s l kids, deep, c, h0, h => by
    rw [goodD]
    unfold shapeD at h ⊢
    cases h1 : (decide (2000 < c + 1) || decide (40 < deep)) with
    | true => rw [h1] at h; simp at h
    | false =>
      have hc : c + 1 ≤ 2000 := by simp at h1; omega
      rw [h1] at h
      simp only [cond_false] at h ⊢
      cases h2 : decide (k = 1) <;> rw [h2] at h <;> simp only [cond_false, cond_true] at h ⊢
      · have k1 := of_decide_eq_false h2
        cases h3 : decide (k = 2) <;> rw [h3] at h <;> simp only [cond_false, cond_true] at h ⊢
        · have k2 := of_decide_eq_false h3
          cases h4 : decide (k = 3) <;> rw [h4] at h <;> simp only [cond_false, cond_true] at h ⊢
          · cases h5 : decide (k = 4) <;> rw [h5] at h <;> simp only [cond_false, cond_true] at h ⊢
            · simp at h
            · have k4 := of_decide_eq_true h5
              have g := shapeDs_good kids (deep + 1) (c + 1) (by omega) hc h
              have t := shapeDs_ok kids (deep + 1) (c + 1) (by omega) hc h
              exact ⟨⟨by omega, fun _ => ⟨by omega, g.1⟩, fun h => by omega⟩, by omega⟩
          · have k3 := of_decide_eq_true h4
            refine ⟨⟨by omega, fun h => by omega, fun _ => ?_⟩, ?_⟩
            · revert h
              cases namedB nm <;> cases h6 : (decide (s = 0) && decide (l = 0)) <;> simp
              simpa using h6
            · cases namedB nm <;> cases (decide (s = 0) && decide (l = 0)) <;> simp
        · have k2 := of_decide_eq_true h3
          refine ⟨⟨by omega, fun h => by omega, fun h => by omega⟩, ?_⟩
          cases (decide (n = 0) || decide (n = 1)) <;> simp
      · have k1 := of_decide_eq_true h2
        refine ⟨⟨by omega, fun h => by omega, fun h => by omega⟩, ?_⟩
        cases (decide (1000000000000000 < n) || decide (n < -1000000000000000)) <;> simp
theorem shapeDs_good : ∀ (l : List Datum) (deep c : Int), 0 ≤ c → c ≤ 2000 → (shapeDs l deep c).1 = 0 → goodDs l ∧ c + l.length ≤ (shapeDs l deep c).2
  | [], deep, c, h0, h1, h => by simp only [goodDs, shapeDs, List.length_nil, true_and]; omega
  | d :: r, deep, c, h0, h1, h => by
    simp only [shapeDs] at h ⊢
    cases h2 : decide ((shapeD d deep c).1 = 0) with
    | true =>
      rw [h2] at h
      simp only [cond_true] at h ⊢
      have k1 := shapeD_good d deep c h0 (of_decide_eq_true h2)
      have k3 := shapeD_ok d deep c h0 (of_decide_eq_true h2)
      have k2 := shapeDs_good r deep _ (by omega) k3.2 h
      rw [goodDs, List.length_cons]
      exact ⟨⟨k1.1, k2.1⟩, by omega⟩
    | false =>
      rw [h2] at h
      simp only [cond_false] at h
      exact absurd h (of_decide_eq_false h2)
end
theorem wrongL_good {q : Datum} (h : (wrongL [q] 0 0).1 = 0) : goodD q := by
  simp only [wrongL] at h
  cases h2 : decide ((shapeD q 1 0).1 = 0) with
  | true => exact (shapeD_good q 1 0 (by omega) (of_decide_eq_true h2)).1
  | false => rw [h2] at h; simp only [cond_false] at h; exact absurd h (of_decide_eq_false h2)

-- bare data
mutual
theorem bare_same : ∀ d : Datum, goodD d → bareD d = bareR d
  | .mk k n nm s l kids, h => by
    rw [goodD] at h
    rw [bareD_mk, bareR_mk]
    obtain ⟨h1, h2, h3⟩ := h
    rcases h1 with rfl | rfl | rfl | rfl
    · simp
    · simp
    · obtain ⟨rfl, rfl⟩ := h3 rfl; simp
    · have := bares_same kids (h2 rfl).2
      rw [bareDs_map, bareRs_map] at this
      simp [this]
theorem bares_same : ∀ l : List Datum, goodDs l → bareDs l = bareRs l
  | [], _ => by simp only [bareDs, bareRs]
  | d :: r, h => by rw [goodDs] at h; simp only [bareDs, bareRs, bare_same d h.1, bares_same r h.2]
end
mutual
theorem eqD_self : ∀ d : Datum, eqD d d = true
  | .mk k n nm s l kids => by
    rw [eqD]
    simp only [decide_true, cond_true, Bool.and_self, eqDs_self kids]
    simp
theorem eqDs_self : ∀ l : List Datum, eqDs l l = true
  | [] => by rw [eqDs]
  | d :: r => by rw [eqDs, eqD_self d, eqDs_self r]; rfl
end
theorem sameL_self : ∀ l : List Ins, sameL l l = true
  | [] => rfl
  | i :: r => by simp [sameL, sameI, eqD_self, sameL_self r]
theorem samePs_self : ∀ l : List Pr, samePs l l = true
  | [] => rfl
  | p :: r => by simp [samePs, sameL_self, samePs_self r]
end Go.Proofs.YtcdnooalfkbmgaaDoor.Gx

namespace Go.Proofs.YtcdnooalfkbmgaaDoor.Gx
open Go Go.Proofs.YtcdnooalfkbmgaaDoor.Gw
set_option linter.unusedSimpArgs false
set_option linter.unusedVariables false

def badCh (c : UInt8) : Bool := decide ((c.toNat : Int) < 32) || decide (126 < (c.toNat : Int))
def printB (s : Str) : Bool := s.all fun c => !badCh c
def plainB (s : Str) : Bool := printB s && decide (s.length ≤ 60)
theorem c_plain (st : St) (s : Str) : VCalls Tryd.prog TT 25 [.str s] st fun r st' => r = .ret (.bool (plainB s)) ∧ st' = st := by
  refine vfun TT_ok (an := anL []) (L := [0, 2, 3, 8, 9]) (rs := [.tmp 2]) Tryd.func25 rfl (by kernel_rfl) rfl Tryd.ntmps25 rfl rfl (Nat.le_refl _) fun hst ha hf => ?_
  simp only [fitL, V.fit] at hf
  simp only [gwL, gwB, gwD, gwE, gwS, gwTT, gwZ, gwN, gwC, Nat.reduceEqDiff, ↓reduceIte, Nat.reduceAdd, Nat.reduceLT, Nat.reduceLeDiff, Nat.reduceMul]
  refine iK_split (fun h => ?_) (fun h => ?_)
  · simp only [gwL, gwB, gwD, gwE, gwS, gwTT, gwZ, gwN, gwC, Nat.reduceEqDiff, ↓reduceIte, Nat.reduceAdd, Nat.reduceLT, Nat.reduceLeDiff, Nat.reduceMul]
    refine gives_bool ?_ hst
    have h' := of_decide_eq_true h
    have : ¬ s.length ≤ 60 := by omega
    simp [plainB, this]
  · have h' : s.length ≤ 60 := by have := of_decide_eq_false h; omega
    have e : plainB s = printB s := by simp [plainB, h']
    rw [e]
    simp only [gwL, gwB, gwD, gwE, gwS, gwTT, gwZ, gwN, gwC, Nat.reduceEqDiff, ↓reduceIte, Nat.reduceAdd, Nat.reduceLT, Nat.reduceLeDiff, Nat.reduceMul]
    refine vfor (σ := Nat) [0, 2, 8, 9] (fun i => [(0, true, .str s), (2, true, .bool false), (8, true, .int .i64 s.length), (9, true, .int .i64 i)]) (fun i => st) (fun i => s.length - i) (fun i => i ≤ s.length ∧ printB s = printB (s.drop i)) 0 rfl TT_ok ⟨Nat.zero_le _, rfl⟩ rfl rfl ?_
    rintro i ⟨hi, hx⟩
    rw [hx]
    rcases at_or_end s i hi with ⟨rfl, hd⟩ | ⟨a, hlt, hget, hdr⟩
    · simp only [gwL, gwB, gwD, gwE, gwS, gwTT, gwZ, gwN, gwC, Nat.reduceEqDiff, ↓reduceIte, Nat.reduceAdd, Nat.reduceLT, Nat.reduceLeDiff, Nat.reduceMul, lt_no, hd]
      exact gives_bool rfl hst
    · simp only [gwL, gwB, gwD, gwE, gwS, gwTT, gwZ, gwN, gwC, Nat.reduceEqDiff, ↓reduceIte, Nat.reduceAdd, Nat.reduceLT, Nat.reduceLeDiff, Nat.reduceMul, lt_yes hlt, hdr, getD_at hget, Int.ofNat_lt.mpr hlt]
      refine iK_split (fun h2 => ?_) (fun h2 => ?_)
      · simp only [gwL, gwB, gwD, gwE, gwS, gwTT, gwZ, gwN, gwC, Nat.reduceEqDiff, ↓reduceIte, Nat.reduceAdd, Nat.reduceLT, Nat.reduceLeDiff, Nat.reduceMul]
        refine gives_bool ?_ hst
        simp only [printB, List.all_cons, badCh, h2, Bool.not_true, Bool.false_and]
      · simp only [gwL, gwB, gwD, gwE, gwS, gwTT, gwZ, gwN, gwC, Nat.reduceEqDiff, ↓reduceIte, Nat.reduceAdd, Nat.reduceLT, Nat.reduceLeDiff, Nat.reduceMul, Env.keep]
        refine ⟨i + 1, by rw [next_i64 hlt (by omega)], by omega, hlt, ?_⟩
        simp only [printB, List.all_cons, badCh, h2, Bool.not_false, Bool.true_and]
def amongE (a n : Int) : Int := bif decide (a < 0) || decide (n ≤ a) then 3 else 0
theorem c_among (st : St) (a n : Int) : VCalls Tryd.prog TT 41 [.int .i64 a, .int .i64 n] st fun r st' => r = .ret (.int .i64 (amongE a n)) ∧ st' = st := by
  refine vfun TT_ok (an := anL []) (L := [0, 1, 4]) (rs := [.tmp 4]) Tryd.func41 rfl (by kernel_rfl) rfl Tryd.ntmps41 rfl rfl (Nat.le_refl _) fun hst ha hf => ?_
  simp only [gwL, gwB, gwD, gwE, gwS, gwTT, gwZ, gwN, gwC, Nat.reduceEqDiff, ↓reduceIte, Nat.reduceAdd, Nat.reduceLT, Nat.reduceLeDiff, Nat.reduceMul]
  refine iK_split (fun h => ?_) (fun h => ?_)
  · simp only [gwL, gwB, gwD, gwE, gwS, gwTT, gwZ, gwN, gwC, Nat.reduceEqDiff, ↓reduceIte, Nat.reduceAdd, Nat.reduceLT, Nat.reduceLeDiff, Nat.reduceMul]
    exact gives_int (by simp [amongE, h]) hst
  · simp only [gwL, gwB, gwD, gwE, gwS, gwTT, gwZ, gwN, gwC, Nat.reduceEqDiff, ↓reduceIte, Nat.reduceAdd, Nat.reduceLT, Nat.reduceLeDiff, Nat.reduceMul]
    exact gives_int (by simp [amongE, h]) hst

-- slices of numbers
def rowsI (l : List Int) : List (List V) := l.map fun n => [V.int .i64 n]
def idxI (x : Int) : Nat → List Int → Int
  | _, [] => -1
  | i, a :: r => bif decide (x = a) then (i : Int) else idxI x (i + 1) r
theorem c_IndexI (st : St) (l : List Int) (x : Int) : VCalls Tryd.prog TT 47 [.lst 1 none (rowsI l), .int .i64 x] st fun r st' => r = .ret (.int .i64 (idxI x 0 l)) ∧ st' = st := by
  refine vfun TT_ok (an := anL []) (L := [0, 1, 4, 5, 7, 8]) (rs := [.tmp 4]) Tryd.func47 rfl (by kernel_rfl) rfl Tryd.ntmps47 rfl rfl (Nat.le_refl _) fun hst ha hf => ?_
  simp only [fitL, V.fit, rowsI, List.length_map] at hf
  simp only [rowsI]
  simp only [gwL, gwB, gwD, gwE, gwS, gwTT, gwZ, gwN, gwC, Nat.reduceEqDiff, ↓reduceIte, Nat.reduceAdd, Nat.reduceLT, Nat.reduceLeDiff, Nat.reduceMul, List.length_map]
  refine vfor (σ := Nat) [0, 1, 4, 7, 8] (fun i => [(0, true, .lst 1 none (rowsI l)), (1, true, .int .i64 x), (4, true, .int .i64 0), (7, true, .int .i64 l.length), (8, true, .int .i64 i)]) (fun i => st) (fun i => l.length - i) (fun i => i ≤ l.length ∧ idxI x 0 l = idxI x i (l.drop i)) 0 rfl TT_ok ⟨Nat.zero_le _, rfl⟩ rfl rfl ?_
  rintro i ⟨hi, hx⟩
  rw [hx]
  rcases at_or_end l i hi with ⟨rfl, hd⟩ | ⟨a, hlt, hget, hdr⟩
  · simp only [gwL, gwB, gwD, gwE, gwS, gwTT, gwZ, gwN, gwC, Nat.reduceEqDiff, ↓reduceIte, Nat.reduceAdd, Nat.reduceLT, Nat.reduceLeDiff, Nat.reduceMul, lt_no, hd, idxI]
    exact gives_int rfl hst
  · simp only [rowsI]
    simp only [gwL, gwB, gwD, gwE, gwS, gwTT, gwZ, gwN, gwC, Nat.reduceEqDiff, ↓reduceIte, Nat.reduceAdd, Nat.reduceLT, Nat.reduceLeDiff, Nat.reduceMul, lt_yes hlt, hdr, idxI, List.length_map, getD_map hget, Int.ofNat_lt.mpr hlt]
    refine iK_split (fun h => ?_) (fun h => ?_)
    · simp only [gwL, gwB, gwD, gwE, gwS, gwTT, gwZ, gwN, gwC, Nat.reduceEqDiff, ↓reduceIte, Nat.reduceAdd, Nat.reduceLT, Nat.reduceLeDiff, Nat.reduceMul, h]
      exact gives_int rfl hst
    · simp only [gwL, gwB, gwD, gwE, gwS, gwTT, gwZ, gwN, gwC, Nat.reduceEqDiff, ↓reduceIte, Nat.reduceAdd, Nat.reduceLT, Nat.reduceLeDiff, Nat.reduceMul, h, Env.keep]
      exact ⟨i + 1, by rw [next_i64 hlt hf.1.1], by omega, hlt, rfl⟩
theorem idxI_ge (s : Int) : ∀ (l : List Int) (i : Nat), decide (0 ≤ idxI s i l) = decide (s ∈ l)
  | [], i => by simp [idxI]
  | a :: r, i => by
    have := idxI_ge s r (i + 1)
    by_cases h : s = a
    · subst h; simp [idxI]
    · simp only [idxI, h, decide_false, cond_false, this, List.mem_cons, false_or]
theorem c_ContainsI (st : St) (l : List Int) (x : Int) : VCalls Tryd.prog TT 35 [.lst 1 none (rowsI l), .int .i64 x] st fun r st' => r = .ret (.bool (decide (x ∈ l))) ∧ st' = st := by
  refine vfun TT_ok (an := anL []) (L := [0, 1, 4]) (rs := [.tmp 4]) Tryd.func35 rfl (by kernel_rfl) rfl Tryd.ntmps35 rfl rfl (Nat.le_refl _) fun hst ha hf => ?_
  simp only [gwL, gwB, gwD, gwE, gwS, gwTT, gwZ, gwN, gwC, Nat.reduceEqDiff, ↓reduceIte, Nat.reduceAdd, Nat.reduceLT, Nat.reduceLeDiff, Nat.reduceMul]
  refine (c_IndexI st l x).use (wkL_refl _) fun _ => ?_
  simp only [gwL, gwB, gwD, gwE, gwS, gwTT, gwZ, gwN, gwC, Nat.reduceEqDiff, ↓reduceIte, Nat.reduceAdd, Nat.reduceLT, Nat.reduceLeDiff, Nat.reduceMul, idxI_ge]
  exact gives_bool rfl hst

-- slices of bindings
structure Bind' where
  here : Str := []
  lib : Str
  own : Str
deriving DecidableEq
def encB (b : Bind') : List V := [.str b.here, .str b.lib, .str b.own]
def rowsB (l : List Bind') : List (List V) := l.map encB
def eqB (x y : Bind') : Bool := decide (x.here = y.here) && (decide (x.lib = y.lib) && (decide (x.own = y.own) && true))
theorem eqB_iff (x y : Bind') : eqB x y = decide (x = y) := by
  obtain ⟨a, b, c⟩ := x
  obtain ⟨d, e, f⟩ := y
  simp only [eqB, Bind'.mk.injEq, Bool.and_true]
  by_cases h1 : a = d <;> by_cases h2 : b = e <;> by_cases h3 : c = f <;> simp [h1, h2, h3]
def idxB (x : Bind') : Nat → List Bind' → Int
  | _, [] => -1
  | i, a :: r => bif eqB x a then (i : Int) else idxB x (i + 1) r
theorem idxB_ge (s : Bind') : ∀ (l : List Bind') (i : Nat), decide (0 ≤ idxB s i l) = decide (s ∈ l)
  | [], i => by simp [idxB]
  | a :: r, i => by
    have := idxB_ge s r (i + 1)
    by_cases h : s = a
    · subst h; simp [idxB, eqB_iff]
    · simp only [idxB, eqB_iff, h, decide_false, cond_false, this, List.mem_cons, false_or]
/-- How many an instruction takes, and puts. -/
def movesI (op a : Int) : Int × Int :=
  bif decide (op = 8) then (IntKind.i64.wrap (a + 1), 1) else bif decide (op = 9) then (0, 0) else bif decide (op = 10) || decide (op = 14) then (1, 0) else
  bif decide (op = 11) || decide (op = 12) || decide (op = 13) then (1, 1) else (0, 1)
theorem c_moves (st : St) (i : Ins) : VCalls Tryd.prog TT 46 [.ref (encI i)] st fun r st' => r = .ret (.tup [.int .i64 (movesI i.op i.a).1, .int .i64 (movesI i.op i.a).2]) ∧ st' = st := by
  refine vfun TT_ok (an := anL []) (L := [0, 2, 3, 7, 17, 20]) (rs := [.tmp 2, .tmp 3]) Tryd.func46 rfl (by kernel_rfl) rfl Tryd.ntmps46 rfl rfl (Nat.le_refl _) fun hst ha hf => ?_
  obtain ⟨op, a, n, lb, ow, q⟩ := i
  simp only [encI_mk]
  have fin : ∀ x y : Int, movesI op a = (x, y) → Gives (.tup [.int .i64 (movesI op a).1, .int .i64 (movesI op a).2]) st (.ret (.tup [.int .i64 x, .int .i64 y])) st := fun x y h => by
    rw [h]; exact gives_self (by simp [V.lt, ltL]) hst
  simp only [gwL, gwB, gwD, gwE, gwS, gwTT, gwZ, gwN, gwC, Nat.reduceEqDiff, ↓reduceIte, Nat.reduceAdd, Nat.reduceLT, Nat.reduceLeDiff, Nat.reduceMul]
  refine iK_split (fun h1 => ?_) (fun h1 => ?_)
  · simp only [gwL, gwB, gwD, gwE, gwS, gwTT, gwZ, gwN, gwC, Nat.reduceEqDiff, ↓reduceIte, Nat.reduceAdd, Nat.reduceLT, Nat.reduceLeDiff, Nat.reduceMul]
    exact fin _ _ (by simp only [movesI, h1, cond_true])
  simp only [gwL, gwB, gwD, gwE, gwS, gwTT, gwZ, gwN, gwC, Nat.reduceEqDiff, ↓reduceIte, Nat.reduceAdd, Nat.reduceLT, Nat.reduceLeDiff, Nat.reduceMul]
  refine iK_split (fun h2 => ?_) (fun h2 => ?_)
  · simp only [gwL, gwB, gwD, gwE, gwS, gwTT, gwZ, gwN, gwC, Nat.reduceEqDiff, ↓reduceIte, Nat.reduceAdd, Nat.reduceLT, Nat.reduceLeDiff, Nat.reduceMul]
    exact fin _ _ (by simp only [movesI, h1, h2, cond_true, cond_false])
  simp only [gwL, gwB, gwD, gwE, gwS, gwTT, gwZ, gwN, gwC, Nat.reduceEqDiff, ↓reduceIte, Nat.reduceAdd, Nat.reduceLT, Nat.reduceLeDiff, Nat.reduceMul]
  refine iK_split (fun h3 => ?_) (fun h3 => ?_)
  · simp only [gwL, gwB, gwD, gwE, gwS, gwTT, gwZ, gwN, gwC, Nat.reduceEqDiff, ↓reduceIte, Nat.reduceAdd, Nat.reduceLT, Nat.reduceLeDiff, Nat.reduceMul, h3]
    exact fin _ _ (by simp only [movesI, h1, h2, h3, Bool.true_or, cond_true, cond_false])
  simp only [gwL, gwB, gwD, gwE, gwS, gwTT, gwZ, gwN, gwC, Nat.reduceEqDiff, ↓reduceIte, Nat.reduceAdd, Nat.reduceLT, Nat.reduceLeDiff, Nat.reduceMul, h3]
  refine iK_split (fun h4 => ?_) (fun h4 => ?_)
  · simp only [gwL, gwB, gwD, gwE, gwS, gwTT, gwZ, gwN, gwC, Nat.reduceEqDiff, ↓reduceIte, Nat.reduceAdd, Nat.reduceLT, Nat.reduceLeDiff, Nat.reduceMul]
    exact fin _ _ (by simp only [movesI, h1, h2, h3, h4, Bool.false_or, cond_true, cond_false])
  simp only [gwL, gwB, gwD, gwE, gwS, gwTT, gwZ, gwN, gwC, Nat.reduceEqDiff, ↓reduceIte, Nat.reduceAdd, Nat.reduceLT, Nat.reduceLeDiff, Nat.reduceMul]
  refine iK_split (fun h5 => ?_) (fun h5 => ?_)
  · simp only [gwL, gwB, gwD, gwE, gwS, gwTT, gwZ, gwN, gwC, Nat.reduceEqDiff, ↓reduceIte, Nat.reduceAdd, Nat.reduceLT, Nat.reduceLeDiff, Nat.reduceMul, h5]
    exact fin _ _ (by simp only [movesI, h1, h2, h3, h4, h5, Bool.or_self, Bool.true_or, cond_true, cond_false])
  simp only [gwL, gwB, gwD, gwE, gwS, gwTT, gwZ, gwN, gwC, Nat.reduceEqDiff, ↓reduceIte, Nat.reduceAdd, Nat.reduceLT, Nat.reduceLeDiff, Nat.reduceMul, h5]
  refine iK_split (fun h6 => ?_) (fun h6 => ?_)
  · simp only [gwL, gwB, gwD, gwE, gwS, gwTT, gwZ, gwN, gwC, Nat.reduceEqDiff, ↓reduceIte, Nat.reduceAdd, Nat.reduceLT, Nat.reduceLeDiff, Nat.reduceMul, h6]
    exact fin _ _ (by simp only [movesI, h1, h2, h3, h4, h5, h6, Bool.or_self, Bool.true_or, Bool.or_true, Bool.false_or, cond_true, cond_false])
  simp only [gwL, gwB, gwD, gwE, gwS, gwTT, gwZ, gwN, gwC, Nat.reduceEqDiff, ↓reduceIte, Nat.reduceAdd, Nat.reduceLT, Nat.reduceLeDiff, Nat.reduceMul, h6]
  refine iK_split (fun h7 => ?_) (fun h7 => ?_)
  · simp only [gwL, gwB, gwD, gwE, gwS, gwTT, gwZ, gwN, gwC, Nat.reduceEqDiff, ↓reduceIte, Nat.reduceAdd, Nat.reduceLT, Nat.reduceLeDiff, Nat.reduceMul]
    exact fin _ _ (by simp only [movesI, h1, h2, h3, h4, h5, h6, h7, Bool.or_self, Bool.true_or, Bool.or_true, Bool.false_or, cond_true, cond_false])
  · simp only [gwL, gwB, gwD, gwE, gwS, gwTT, gwZ, gwN, gwC, Nat.reduceEqDiff, ↓reduceIte, Nat.reduceAdd, Nat.reduceLT, Nat.reduceLeDiff, Nat.reduceMul]
    exact fin _ _ (by simp only [movesI, h1, h2, h3, h4, h5, h6, h7, Bool.or_self, cond_true, cond_false])
end Go.Proofs.YtcdnooalfkbmgaaDoor.Gx

namespace Go.Proofs.YtcdnooalfkbmgaaDoor.Gx
open Go Go.Proofs.YtcdnooalfkbmgaaDoor.Gw
set_option linter.unusedSimpArgs false
set_option linter.unusedVariables false

/-- A shape of procedures, as it lies: how many parameters are around each, in an object. -/
structure SH (s : St) (b A : Nat) (ps : List Pr) (ar : List Int) (G : Int) : Prop where
  box : s[b]? = some (.box [lstPr ps, .arr A ar.length, .int .i64 G])
  arr : s[A]? = some (.arr 3 1 (rowsI ar))
theorem rowsI_len (l : List Int) : (rowsI l).length = l.length := by simp [rowsI]
def globalE (G : Int) (i : Ins) : Int := bif decide (0 ≤ G) then amongE i.a G else bif !plainB i.lib || !namedB i.own then 7 else 0

theorem c_global (s : St) (b A : Nat) (ps : List Pr) (ar : List Int) (G : Int) (i : Ins) (h : SH s b A ps ar G) : VCalls Tryd.prog TT 42 [.ptr b 0, .ref (encI i)] s fun r st' => r = .ret (.int .i64 (globalE G i)) ∧ st' = s := by
  refine vfun TT_ok (an := anL []) (L := [0, 1, 4]) (rs := [.tmp 4]) Tryd.func42 rfl (by kernel_rfl) rfl Tryd.ntmps42 rfl rfl (Nat.le_refl _) fun hst ha hf => ?_
  obtain ⟨op, a, n, lb, ow, q⟩ := i
  simp only [encI_mk]
  simp only [gwL, gwB, gwD, gwE, gwS, gwTT, gwZ, gwN, gwC, Nat.reduceEqDiff, ↓reduceIte, Nat.reduceAdd, Nat.reduceLT, Nat.reduceLeDiff, Nat.reduceMul, h.box]
  refine iK_split (fun h1 => ?_) (fun h1 => ?_)
  · simp only [gwL, gwB, gwD, gwE, gwS, gwTT, gwZ, gwN, gwC, Nat.reduceEqDiff, ↓reduceIte, Nat.reduceAdd, Nat.reduceLT, Nat.reduceLeDiff, Nat.reduceMul]
    refine vdraw TT_ok TT_mixed [0, 0, 0, 1, 0, 0, 0, 1, 0, 0] (by kernel_rfl) ?_
    simp only [gwL, gwB, gwD, gwE, gwS, gwTT, gwZ, gwN, gwC, Nat.reduceEqDiff, ↓reduceIte, Nat.reduceAdd, Nat.reduceLT, Nat.reduceLeDiff, Nat.reduceMul, h.box]
    refine eK_free (fun s => c_among s a G) (wkL_refl _) ?_
    simp only [gwL, gwB, gwD, gwE, gwS, gwTT, gwZ, gwN, gwC, Nat.reduceEqDiff, ↓reduceIte, Nat.reduceAdd, Nat.reduceLT, Nat.reduceLeDiff, Nat.reduceMul]
    exact gives_int (by simp only [globalE, h1, cond_true]) hst
  · simp only [gwL, gwB, gwD, gwE, gwS, gwTT, gwZ, gwN, gwC, Nat.reduceEqDiff, ↓reduceIte, Nat.reduceAdd, Nat.reduceLT, Nat.reduceLeDiff, Nat.reduceMul]
    refine (c_plain _ lb).use (wkL_refl _) fun _ => ?_
    simp only [gwL, gwB, gwD, gwE, gwS, gwTT, gwZ, gwN, gwC, Nat.reduceEqDiff, ↓reduceIte, Nat.reduceAdd, Nat.reduceLT, Nat.reduceLeDiff, Nat.reduceMul]
    refine rK_guarded (.bool (namedB ow)) (fun _ => c_text_Named _ ow) ?_
    simp only [gwL, gwB, gwD, gwE, gwS, gwTT, gwZ, gwN, gwC, Nat.reduceEqDiff, ↓reduceIte, Nat.reduceAdd, Nat.reduceLT, Nat.reduceLeDiff, Nat.reduceMul]
    refine iK_split (fun h2 => ?_) (fun h2 => ?_)
    · simp only [gwL, gwB, gwD, gwE, gwS, gwTT, gwZ, gwN, gwC, Nat.reduceEqDiff, ↓reduceIte, Nat.reduceAdd, Nat.reduceLT, Nat.reduceLeDiff, Nat.reduceMul]
      exact gives_int (by simp only [globalE, h1, cond_false, h2, cond_true]) hst
    · simp only [gwL, gwB, gwD, gwE, gwS, gwTT, gwZ, gwN, gwC, Nat.reduceEqDiff, ↓reduceIte, Nat.reduceAdd, Nat.reduceLT, Nat.reduceLeDiff, Nat.reduceMul]
      exact gives_int (by simp only [globalE, h1, cond_false, h2]) hst

theorem rowsI_set (l : List Int) (k : Nat) (x : Int) : (rowsI l).set k [V.int .i64 x] = rowsI (l.set k x) := by simp [rowsI, List.map_set]
/-- What is wrong with an instruction of a procedure; and how many parameters are around each behind it. -/
def insE (ps : List Pr) (G : Int) (p : Nat) (i : Ins) (ar : List Int) : Int × List Int :=
  bif decide (i.op = 1) then (bif decide (1000000000000000 < i.n) || decide (i.n < -1000000000000000) then 3 else 0, ar)
  else bif decide (i.op = 2) then (bif !decide (i.n = 0) && !decide (i.n = 1) then 3 else 0, ar)
  else bif decide (i.op = 3) then ((wrongL [i.quote] 0 0).1, ar)
  else bif decide (i.op = 4) || decide (i.op = 11) then (amongE i.a (ar.getD p 0), ar)
  else bif decide (i.op = 5) || decide (i.op = 12) || decide (i.op = 13) then (globalE G i, ar)
  else bif decide (i.op = 6) then (bif !decide (i.own ∈ prims) then 7 else 0, ar)
  else bif decide (i.op = 7) then
    (bif decide (i.a ≤ p) || decide ((ps.length : Int) ≤ i.a) then (3, ar) else bif decide (0 ≤ ar.getD i.a.toNat 0) then (8, ar)
     else (0, ar.set i.a.toNat (IntKind.i64.wrap (ar.getD p 0 + (ps.getD i.a.toNat ⟨0, []⟩).args))))
  else bif decide (i.op = 8) then (amongE i.a 2001, ar)
  else bif decide (i.op = 9) || decide (i.op = 10) then (amongE i.a ((ps.getD p ⟨0, []⟩).code.length), ar)
  else bif decide (i.op = 14) || decide (i.op = 15) then (0, ar)
  else (1, ar)
theorem insE_len (ps : List Pr) (G : Int) (p : Nat) (i : Ins) (ar : List Int) : (insE ps G p i ar).2.length = ar.length := by
  unfold insE
  repeat' (first | rfl | (simp only [Bool.cond_decide]) | split | (simp; done))
  all_goals simp [cond]
  all_goals repeat' split
  all_goals simp

set_option maxRecDepth 20000 in
set_option maxHeartbeats 8000000 in
theorem c_ins (s : St) (b A : Nat) (ps : List Pr) (ar : List Int) (G : Int) (p : Nat) (i : Ins) (h : SH s b A ps ar G) (hp : p < ar.length) (hl : ps.length = ar.length) (hl2 : ar.length ≤ 1000000000) :
    VCalls Tryd.prog TT 33 [.ptr b 0, .int .i64 p, .ref (encI i)] s fun r st' => r = .ret (.int .i64 (insE ps G p i ar).1) ∧ st' = s.set A (.arr 3 1 (rowsI (insE ps G p i ar).2)) := by
  have hset : s.set A (.arr 3 1 (rowsI ar)) = s := by
    apply List.ext_getElem?; intro j
    rw [List.getElem?_set]
    split
    · rename_i e; subst e
      split
      · exact h.arr.symm
      · rename_i e; have := (List.getElem?_eq_some_iff.1 h.arr).1; omega
    · rfl
  refine vfun TT_ok (an := anL []) (L := [0, 1, 2, 6, 10, 48, 63, 145, 162]) (rs := [.tmp 6]) Tryd.func33 rfl (by kernel_rfl) rfl Tryd.ntmps33 rfl rfl (by simp) fun hst ha hf => ?_
  obtain ⟨op, a, n, lb, ow, q⟩ := i
  generalize hr : insE ps G p ⟨op, a, n, lb, ow, q⟩ ar = r
  have fin : ∀ e : Int, insE ps G p ⟨op, a, n, lb, ow, q⟩ ar = (e, ar) → Gives (.int .i64 r.1) (s.set A (.arr 3 1 (rowsI r.2))) (.ret (.int .i64 e)) s := fun e he => by
    rw [← hr, he]; simp only; rw [hset]; exact gives_self (by simp [V.lt]) hst
  have hra : (rowsI ar).getD p [] = [.int .i64 (ar.getD p 0)] := by
    have e : ar[p]? = some (ar.getD p 0) := by rw [List.getD_eq_getElem?_getD, List.getElem?_eq_getElem hp]; rfl
    exact getD_map (f := fun n => [V.int .i64 n]) e
  have hrp : (ps.map encPr).getD p [] = encPr (ps.getD p ⟨0, []⟩) := by
    have e : ps[p]? = some (ps.getD p ⟨0, []⟩) := by rw [List.getD_eq_getElem?_getD, List.getElem?_eq_getElem (by omega : p < ps.length)]; rfl
    exact getD_map e
  have hpl : (p : Int) < (ar.length : Int) := Int.ofNat_lt.mpr hp
  simp only [encI_mk]
  simp only [gwL, gwB, gwD, gwE, gwS, gwTT, gwZ, gwN, gwC, Nat.reduceEqDiff, ↓reduceIte, Nat.reduceAdd, Nat.reduceLT, Nat.reduceLeDiff, Nat.reduceMul]
  refine iK_split (fun h1 => ?_) (fun h1 => ?_)
  · simp only [gwL, gwB, gwD, gwE, gwS, gwTT, gwZ, gwN, gwC, Nat.reduceEqDiff, ↓reduceIte, Nat.reduceAdd, Nat.reduceLT, Nat.reduceLeDiff, Nat.reduceMul]
    refine iK_split (fun h2 => ?_) (fun h2 => ?_)
    · simp only [gwL, gwB, gwD, gwE, gwS, gwTT, gwZ, gwN, gwC, Nat.reduceEqDiff, ↓reduceIte, Nat.reduceAdd, Nat.reduceLT, Nat.reduceLeDiff, Nat.reduceMul]
      exact fin _ (by simp only [insE, h1, h2, cond_true])
    · simp only [gwL, gwB, gwD, gwE, gwS, gwTT, gwZ, gwN, gwC, Nat.reduceEqDiff, ↓reduceIte, Nat.reduceAdd, Nat.reduceLT, Nat.reduceLeDiff, Nat.reduceMul]
      exact fin _ (by simp only [insE, h1, h2, cond_true, cond_false])
  simp only [gwL, gwB, gwD, gwE, gwS, gwTT, gwZ, gwN, gwC, Nat.reduceEqDiff, ↓reduceIte, Nat.reduceAdd, Nat.reduceLT, Nat.reduceLeDiff, Nat.reduceMul]
  refine iK_split (fun h2 => ?_) (fun h2 => ?_)
  · simp only [gwL, gwB, gwD, gwE, gwS, gwTT, gwZ, gwN, gwC, Nat.reduceEqDiff, ↓reduceIte, Nat.reduceAdd, Nat.reduceLT, Nat.reduceLeDiff, Nat.reduceMul]
    refine iK_split (fun h3 => ?_) (fun h3 => ?_)
    · simp only [gwL, gwB, gwD, gwE, gwS, gwTT, gwZ, gwN, gwC, Nat.reduceEqDiff, ↓reduceIte, Nat.reduceAdd, Nat.reduceLT, Nat.reduceLeDiff, Nat.reduceMul]
      exact fin _ (by simp only [insE, h1, h2, h3, cond_true, cond_false])
    · simp only [gwL, gwB, gwD, gwE, gwS, gwTT, gwZ, gwN, gwC, Nat.reduceEqDiff, ↓reduceIte, Nat.reduceAdd, Nat.reduceLT, Nat.reduceLeDiff, Nat.reduceMul]
      exact fin _ (by simp only [insE, h1, h2, h3, cond_true, cond_false])
  simp only [gwL, gwB, gwD, gwE, gwS, gwTT, gwZ, gwN, gwC, Nat.reduceEqDiff, ↓reduceIte, Nat.reduceAdd, Nat.reduceLT, Nat.reduceLeDiff, Nat.reduceMul]
  refine iK_split (fun h3 => ?_) (fun h3 => ?_)
  · simp only [gwL, gwB, gwD, gwE, gwS, gwTT, gwZ, gwN, gwC, Nat.reduceEqDiff, ↓reduceIte, Nat.reduceAdd, Nat.reduceLT, Nat.reduceLeDiff, Nat.reduceMul, encD_take, encD_len]
    refine (c_text_Wrong _ [q]).use (wkL_refl _) fun _ => ?_
    simp only [gwL, gwB, gwD, gwE, gwS, gwTT, gwZ, gwN, gwC, Nat.reduceEqDiff, ↓reduceIte, Nat.reduceAdd, Nat.reduceLT, Nat.reduceLeDiff, Nat.reduceMul, fltV]
    exact fin _ (by simp only [insE, h1, h2, h3, cond_true, cond_false])
  simp only [gwL, gwB, gwD, gwE, gwS, gwTT, gwZ, gwN, gwC, Nat.reduceEqDiff, ↓reduceIte, Nat.reduceAdd, Nat.reduceLT, Nat.reduceLeDiff, Nat.reduceMul]
  refine iK_split (fun h4 => ?_) (fun h4 => ?_)
  · simp only [gwL, gwB, gwD, gwE, gwS, gwTT, gwZ, gwN, gwC, Nat.reduceEqDiff, ↓reduceIte, Nat.reduceAdd, Nat.reduceLT, Nat.reduceLeDiff, Nat.reduceMul, h4]
    refine vdraw TT_ok TT_mixed [0, 0, 0, 1, 0, 0, 0, 1, 0, 1, 1, 0, 0] (by kernel_rfl) ?_
    simp only [gwL, gwB, gwD, gwE, gwS, gwTT, gwZ, gwN, gwC, Nat.reduceEqDiff, ↓reduceIte, Nat.reduceAdd, Nat.reduceLT, Nat.reduceLeDiff, Nat.reduceMul, h.box, h.arr, hra, rowsI_len]
    refine ⟨hpl, hp, ?_⟩
    refine eK_free (fun s => c_among s a (ar.getD p 0)) (wkL_refl _) ?_
    simp only [gwL, gwB, gwD, gwE, gwS, gwTT, gwZ, gwN, gwC, Nat.reduceEqDiff, ↓reduceIte, Nat.reduceAdd, Nat.reduceLT, Nat.reduceLeDiff, Nat.reduceMul]
    exact fin _ (by simp only [insE, h1, h2, h3, h4, Bool.true_or, Bool.or_true, Bool.false_or, cond_true, cond_false])
  simp only [gwL, gwB, gwD, gwE, gwS, gwTT, gwZ, gwN, gwC, Nat.reduceEqDiff, ↓reduceIte, Nat.reduceAdd, Nat.reduceLT, Nat.reduceLeDiff, Nat.reduceMul, h4]
  refine iK_split (fun h5 => ?_) (fun h5 => ?_)
  · simp only [gwL, gwB, gwD, gwE, gwS, gwTT, gwZ, gwN, gwC, Nat.reduceEqDiff, ↓reduceIte, Nat.reduceAdd, Nat.reduceLT, Nat.reduceLeDiff, Nat.reduceMul, h5]
    refine vdraw TT_ok TT_mixed [0, 0, 0, 1, 0, 0, 0, 1, 0, 1, 1, 0, 0] (by kernel_rfl) ?_
    simp only [gwL, gwB, gwD, gwE, gwS, gwTT, gwZ, gwN, gwC, Nat.reduceEqDiff, ↓reduceIte, Nat.reduceAdd, Nat.reduceLT, Nat.reduceLeDiff, Nat.reduceMul, h.box, h.arr, hra, rowsI_len]
    refine ⟨hpl, hp, ?_⟩
    refine eK_free (fun s => c_among s a (ar.getD p 0)) (wkL_refl _) ?_
    simp only [gwL, gwB, gwD, gwE, gwS, gwTT, gwZ, gwN, gwC, Nat.reduceEqDiff, ↓reduceIte, Nat.reduceAdd, Nat.reduceLT, Nat.reduceLeDiff, Nat.reduceMul]
    exact fin _ (by simp only [insE, h1, h2, h3, h4, h5, Bool.true_or, Bool.or_true, Bool.false_or, cond_true, cond_false])
  simp only [gwL, gwB, gwD, gwE, gwS, gwTT, gwZ, gwN, gwC, Nat.reduceEqDiff, ↓reduceIte, Nat.reduceAdd, Nat.reduceLT, Nat.reduceLeDiff, Nat.reduceMul, h5]
  refine iK_split (fun h6 => ?_) (fun h6 => ?_)
  · simp only [gwL, gwB, gwD, gwE, gwS, gwTT, gwZ, gwN, gwC, Nat.reduceEqDiff, ↓reduceIte, Nat.reduceAdd, Nat.reduceLT, Nat.reduceLeDiff, Nat.reduceMul, h6]
    refine (c_global s b A ps ar G ⟨op, a, n, lb, ow, q⟩ h).use (wkL_refl _) fun _ => ?_
    simp only [gwL, gwB, gwD, gwE, gwS, gwTT, gwZ, gwN, gwC, Nat.reduceEqDiff, ↓reduceIte, Nat.reduceAdd, Nat.reduceLT, Nat.reduceLeDiff, Nat.reduceMul]
    exact fin _ (by simp only [insE, h1, h2, h3, h4, h5, h6, Bool.true_or, Bool.or_true, Bool.false_or, Bool.or_false, Bool.or_self, cond_true, cond_false])
  simp only [gwL, gwB, gwD, gwE, gwS, gwTT, gwZ, gwN, gwC, Nat.reduceEqDiff, ↓reduceIte, Nat.reduceAdd, Nat.reduceLT, Nat.reduceLeDiff, Nat.reduceMul, h6]
  refine iK_split (fun h7 => ?_) (fun h7 => ?_)
  · simp only [gwL, gwB, gwD, gwE, gwS, gwTT, gwZ, gwN, gwC, Nat.reduceEqDiff, ↓reduceIte, Nat.reduceAdd, Nat.reduceLT, Nat.reduceLeDiff, Nat.reduceMul, h7]
    refine (c_global s b A ps ar G ⟨op, a, n, lb, ow, q⟩ h).use (wkL_refl _) fun _ => ?_
    simp only [gwL, gwB, gwD, gwE, gwS, gwTT, gwZ, gwN, gwC, Nat.reduceEqDiff, ↓reduceIte, Nat.reduceAdd, Nat.reduceLT, Nat.reduceLeDiff, Nat.reduceMul]
    exact fin _ (by simp only [insE, h1, h2, h3, h4, h5, h6, h7, Bool.true_or, Bool.or_true, Bool.false_or, Bool.or_false, Bool.or_self, cond_true, cond_false])
  simp only [gwL, gwB, gwD, gwE, gwS, gwTT, gwZ, gwN, gwC, Nat.reduceEqDiff, ↓reduceIte, Nat.reduceAdd, Nat.reduceLT, Nat.reduceLeDiff, Nat.reduceMul, h7]
  refine iK_split (fun h8 => ?_) (fun h8 => ?_)
  · simp only [gwL, gwB, gwD, gwE, gwS, gwTT, gwZ, gwN, gwC, Nat.reduceEqDiff, ↓reduceIte, Nat.reduceAdd, Nat.reduceLT, Nat.reduceLeDiff, Nat.reduceMul, h8]
    refine (c_global s b A ps ar G ⟨op, a, n, lb, ow, q⟩ h).use (wkL_refl _) fun _ => ?_
    simp only [gwL, gwB, gwD, gwE, gwS, gwTT, gwZ, gwN, gwC, Nat.reduceEqDiff, ↓reduceIte, Nat.reduceAdd, Nat.reduceLT, Nat.reduceLeDiff, Nat.reduceMul]
    exact fin _ (by simp only [insE, h1, h2, h3, h4, h5, h6, h7, h8, Bool.true_or, Bool.or_true, Bool.false_or, Bool.or_false, Bool.or_self, cond_true, cond_false])
  simp only [gwL, gwB, gwD, gwE, gwS, gwTT, gwZ, gwN, gwC, Nat.reduceEqDiff, ↓reduceIte, Nat.reduceAdd, Nat.reduceLT, Nat.reduceLeDiff, Nat.reduceMul, h8]
  refine iK_split (fun h9 => ?_) (fun h9 => ?_)
  · simp only [gwL, gwB, gwD, gwE, gwS, gwTT, gwZ, gwN, gwC, Nat.reduceEqDiff, ↓reduceIte, Nat.reduceAdd, Nat.reduceLT, Nat.reduceLeDiff, Nat.reduceMul]
    refine vdraw TT_ok TT_mixed [0, 0, 0, 0, 1, 0, 0] (by kernel_rfl) ?_
    simp only [gwL, gwB, gwD, gwE, gwS, gwTT, gwZ, gwN, gwC, Nat.reduceEqDiff, ↓reduceIte, Nat.reduceAdd, Nat.reduceLT, Nat.reduceLeDiff, Nat.reduceMul]
    refine eK_free (fun s => c_Prims s) (wkL_refl _) ?_
    simp only [gwL, gwB, gwD, gwE, gwS, gwTT, gwZ, gwN, gwC, Nat.reduceEqDiff, ↓reduceIte, Nat.reduceAdd, Nat.reduceLT, Nat.reduceLeDiff, Nat.reduceMul]
    refine eK_free (fun s => c_Contains s prims ow) (wkL_refl _) ?_
    simp only [gwL, gwB, gwD, gwE, gwS, gwTT, gwZ, gwN, gwC, Nat.reduceEqDiff, ↓reduceIte, Nat.reduceAdd, Nat.reduceLT, Nat.reduceLeDiff, Nat.reduceMul]
    refine iK_split (fun h10 => ?_) (fun h10 => ?_)
    · simp only [gwL, gwB, gwD, gwE, gwS, gwTT, gwZ, gwN, gwC, Nat.reduceEqDiff, ↓reduceIte, Nat.reduceAdd, Nat.reduceLT, Nat.reduceLeDiff, Nat.reduceMul]
      exact fin _ (by simp only [insE, h1, h2, h3, h4, h5, h6, h7, h8, h9, h10, Bool.true_or, Bool.or_true, Bool.false_or, Bool.or_false, Bool.or_self, cond_true, cond_false])
    · simp only [gwL, gwB, gwD, gwE, gwS, gwTT, gwZ, gwN, gwC, Nat.reduceEqDiff, ↓reduceIte, Nat.reduceAdd, Nat.reduceLT, Nat.reduceLeDiff, Nat.reduceMul]
      exact fin _ (by simp only [insE, h1, h2, h3, h4, h5, h6, h7, h8, h9, h10, Bool.true_or, Bool.or_true, Bool.false_or, Bool.or_false, Bool.or_self, cond_true, cond_false])
  simp only [gwL, gwB, gwD, gwE, gwS, gwTT, gwZ, gwN, gwC, Nat.reduceEqDiff, ↓reduceIte, Nat.reduceAdd, Nat.reduceLT, Nat.reduceLeDiff, Nat.reduceMul]
  refine iK_split (fun h10 => ?_) (fun h10 => ?_)
  · simp only [gwL, gwB, gwD, gwE, gwS, gwTT, gwZ, gwN, gwC, Nat.reduceEqDiff, ↓reduceIte, Nat.reduceAdd, Nat.reduceLT, Nat.reduceLeDiff, Nat.reduceMul]
    refine vdraw TT_ok TT_mixed [0, 0, 0, 1, 0, 0, 0, 0, 0, 0, 1, 0, 0, 0, 1, 0, 0, 0] (by kernel_rfl) ?_
    simp only [gwL, gwB, gwD, gwE, gwS, gwTT, gwZ, gwN, gwC, Nat.reduceEqDiff, ↓reduceIte, Nat.reduceAdd, Nat.reduceLT, Nat.reduceLeDiff, Nat.reduceMul, h.box, lstPr, List.length_map]
    refine iK_split (fun h11 => ?_) (fun h11 => ?_)
    · simp only [gwL, gwB, gwD, gwE, gwS, gwTT, gwZ, gwN, gwC, Nat.reduceEqDiff, ↓reduceIte, Nat.reduceAdd, Nat.reduceLT, Nat.reduceLeDiff, Nat.reduceMul]
      exact fin _ (by simp only [insE, h1, h2, h3, h4, h5, h6, h7, h8, h9, h10, h11, Bool.true_or, Bool.or_true, Bool.false_or, Bool.or_false, Bool.or_self, cond_true, cond_false])
    have h11' := h11
    simp only [Bool.or_eq_false_iff, decide_eq_false_iff_not, Int.not_le] at h11'
    obtain ⟨ha1, ha2⟩ := h11'
    obtain ⟨a', rfl⟩ : ∃ a' : Nat, a = a' := ⟨a.toNat, by omega⟩
    have ha3 : a' < ar.length := by omega
    have hra2 : (rowsI ar).getD a' [] = [.int .i64 (ar.getD a' 0)] := by
      have e : ar[a']? = some (ar.getD a' 0) := by rw [List.getD_eq_getElem?_getD, List.getElem?_eq_getElem ha3]; rfl
      exact getD_map (f := fun n => [V.int .i64 n]) e
    have hrp2 : (ps.map encPr).getD a' [] = encPr (ps.getD a' ⟨0, []⟩) := by
      have e : ps[a']? = some (ps.getD a' ⟨0, []⟩) := by rw [List.getD_eq_getElem?_getD, List.getElem?_eq_getElem (by omega : a' < ps.length)]; rfl
      exact getD_map e
    have hal : (a' : Int) < (ar.length : Int) := Int.ofNat_lt.mpr ha3
    simp only [gwL, gwB, gwD, gwE, gwS, gwTT, gwZ, gwN, gwC, Nat.reduceEqDiff, ↓reduceIte, Nat.reduceAdd, Nat.reduceLT, Nat.reduceLeDiff, Nat.reduceMul]
    refine vdraw TT_ok TT_mixed [0, 0, 0, 1, 0, 0, 0, 1, 1, 1, 0] (by kernel_rfl) ?_
    simp only [gwL, gwB, gwD, gwE, gwS, gwTT, gwZ, gwN, gwC, Nat.reduceEqDiff, ↓reduceIte, Nat.reduceAdd, Nat.reduceLT, Nat.reduceLeDiff, Nat.reduceMul, h.box, h.arr, hra2, rowsI_len, Int.toNat_natCast]
    refine ⟨hal, ha3, ?_⟩
    refine iK_split (fun h12 => ?_) (fun h12 => ?_)
    · simp only [gwL, gwB, gwD, gwE, gwS, gwTT, gwZ, gwN, gwC, Nat.reduceEqDiff, ↓reduceIte, Nat.reduceAdd, Nat.reduceLT, Nat.reduceLeDiff, Nat.reduceMul]
      exact fin _ (by simp only [insE, h1, h2, h3, h4, h5, h6, h7, h8, h9, h10, h11, h12, Int.toNat_natCast, Bool.true_or, Bool.or_true, Bool.false_or, Bool.or_false, Bool.or_self, cond_true, cond_false])
    simp only [gwL, gwB, gwD, gwE, gwS, gwTT, gwZ, gwN, gwC, Nat.reduceEqDiff, ↓reduceIte, Nat.reduceAdd, Nat.reduceLT, Nat.reduceLeDiff, Nat.reduceMul]
    refine vdraw TT_ok TT_mixed [0, 0, 0, 1, 0, 0, 0, 1, 0, 0, 0, 1, 0, 1, 1, 0, 0, 0, 1, 0, 0, 0, 1, 0, 0, 1, 0, 1, 2] (by kernel_rfl) ?_
    simp only [gwL, gwB, gwD, gwE, gwS, gwTT, gwZ, gwN, gwC, Nat.reduceEqDiff, ↓reduceIte, Nat.reduceAdd, Nat.reduceLT, Nat.reduceLeDiff, Nat.reduceMul, h.box, h.arr, hra, hra2, hrp2, rowsI_len, Int.toNat_natCast, lstPr, encPr, List.length_map]
    refine ⟨hpl, hp, by omega, hal, ha3, ?_⟩
    have e : insE ps G p ⟨op, a', n, lb, ow, q⟩ ar = (0, ar.set a' (IntKind.i64.wrap (ar.getD p 0 + (ps.getD a' ⟨0, []⟩).args))) := by
      simp only [insE, h1, h2, h3, h4, h5, h6, h7, h8, h9, h10, h11, h12, Int.toNat_natCast, Bool.true_or, Bool.or_true, Bool.false_or, Bool.or_false, Bool.or_self, cond_true, cond_false]
    rw [← hr, e]
    simp only
    rw [rowsI_set]
    exact gives_self (by simp [V.lt]) (ok_set hst (ltRows_map fun _ _ => ⟨trivial, trivial⟩))
  simp only [gwL, gwB, gwD, gwE, gwS, gwTT, gwZ, gwN, gwC, Nat.reduceEqDiff, ↓reduceIte, Nat.reduceAdd, Nat.reduceLT, Nat.reduceLeDiff, Nat.reduceMul]
  refine iK_split (fun h11 => ?_) (fun h11 => ?_)
  · simp only [gwL, gwB, gwD, gwE, gwS, gwTT, gwZ, gwN, gwC, Nat.reduceEqDiff, ↓reduceIte, Nat.reduceAdd, Nat.reduceLT, Nat.reduceLeDiff, Nat.reduceMul]
    refine (c_among _ a 2001).use (wkL_refl _) fun _ => ?_
    simp only [gwL, gwB, gwD, gwE, gwS, gwTT, gwZ, gwN, gwC, Nat.reduceEqDiff, ↓reduceIte, Nat.reduceAdd, Nat.reduceLT, Nat.reduceLeDiff, Nat.reduceMul]
    exact fin _ (by simp only [insE, h1, h2, h3, h4, h5, h6, h7, h8, h9, h10, h11, Bool.true_or, Bool.or_true, Bool.false_or, Bool.or_false, Bool.or_self, cond_true, cond_false])
  simp only [gwL, gwB, gwD, gwE, gwS, gwTT, gwZ, gwN, gwC, Nat.reduceEqDiff, ↓reduceIte, Nat.reduceAdd, Nat.reduceLT, Nat.reduceLeDiff, Nat.reduceMul]
  refine iK_split (fun h12 => ?_) (fun h12 => ?_)
  · simp only [gwL, gwB, gwD, gwE, gwS, gwTT, gwZ, gwN, gwC, Nat.reduceEqDiff, ↓reduceIte, Nat.reduceAdd, Nat.reduceLT, Nat.reduceLeDiff, Nat.reduceMul, h12]
    refine vdraw TT_ok TT_mixed [0, 0, 0, 1, 0, 0, 0, 1, 0, 0, 0, 1, 0, 0, 0] (by kernel_rfl) ?_
    simp only [gwL, gwB, gwD, gwE, gwS, gwTT, gwZ, gwN, gwC, Nat.reduceEqDiff, ↓reduceIte, Nat.reduceAdd, Nat.reduceLT, Nat.reduceLeDiff, Nat.reduceMul, h.box, lstPr, List.length_map, hrp, encPr, lstI]
    refine ⟨Int.ofNat_lt.mpr (by omega), ?_⟩
    refine eK_free (fun s => c_among s a _) (wkL_refl _) ?_
    simp only [gwL, gwB, gwD, gwE, gwS, gwTT, gwZ, gwN, gwC, Nat.reduceEqDiff, ↓reduceIte, Nat.reduceAdd, Nat.reduceLT, Nat.reduceLeDiff, Nat.reduceMul]
    exact fin _ (by simp only [insE, h1, h2, h3, h4, h5, h6, h7, h8, h9, h10, h11, h12, Bool.true_or, Bool.or_true, Bool.false_or, Bool.or_false, Bool.or_self, cond_true, cond_false])
  simp only [gwL, gwB, gwD, gwE, gwS, gwTT, gwZ, gwN, gwC, Nat.reduceEqDiff, ↓reduceIte, Nat.reduceAdd, Nat.reduceLT, Nat.reduceLeDiff, Nat.reduceMul, h12]
  refine iK_split (fun h13 => ?_) (fun h13 => ?_)
  · simp only [gwL, gwB, gwD, gwE, gwS, gwTT, gwZ, gwN, gwC, Nat.reduceEqDiff, ↓reduceIte, Nat.reduceAdd, Nat.reduceLT, Nat.reduceLeDiff, Nat.reduceMul, h13]
    refine vdraw TT_ok TT_mixed [0, 0, 0, 1, 0, 0, 0, 1, 0, 0, 0, 1, 0, 0, 0] (by kernel_rfl) ?_
    simp only [gwL, gwB, gwD, gwE, gwS, gwTT, gwZ, gwN, gwC, Nat.reduceEqDiff, ↓reduceIte, Nat.reduceAdd, Nat.reduceLT, Nat.reduceLeDiff, Nat.reduceMul, h.box, lstPr, List.length_map, hrp, encPr, lstI]
    refine ⟨Int.ofNat_lt.mpr (by omega), ?_⟩
    refine eK_free (fun s => c_among s a _) (wkL_refl _) ?_
    simp only [gwL, gwB, gwD, gwE, gwS, gwTT, gwZ, gwN, gwC, Nat.reduceEqDiff, ↓reduceIte, Nat.reduceAdd, Nat.reduceLT, Nat.reduceLeDiff, Nat.reduceMul]
    exact fin _ (by simp only [insE, h1, h2, h3, h4, h5, h6, h7, h8, h9, h10, h11, h12, h13, Bool.true_or, Bool.or_true, Bool.false_or, Bool.or_false, Bool.or_self, cond_true, cond_false])
  simp only [gwL, gwB, gwD, gwE, gwS, gwTT, gwZ, gwN, gwC, Nat.reduceEqDiff, ↓reduceIte, Nat.reduceAdd, Nat.reduceLT, Nat.reduceLeDiff, Nat.reduceMul, h13]
  refine iK_split (fun h14 => ?_) (fun h14 => ?_)
  · simp only [gwL, gwB, gwD, gwE, gwS, gwTT, gwZ, gwN, gwC, Nat.reduceEqDiff, ↓reduceIte, Nat.reduceAdd, Nat.reduceLT, Nat.reduceLeDiff, Nat.reduceMul, h14]
    exact fin _ (by simp only [insE, h1, h2, h3, h4, h5, h6, h7, h8, h9, h10, h11, h12, h13, h14, Bool.true_or, Bool.or_true, Bool.false_or, Bool.or_false, Bool.or_self, cond_true, cond_false])
  simp only [gwL, gwB, gwD, gwE, gwS, gwTT, gwZ, gwN, gwC, Nat.reduceEqDiff, ↓reduceIte, Nat.reduceAdd, Nat.reduceLT, Nat.reduceLeDiff, Nat.reduceMul, h14]
  refine iK_split (fun h15 => ?_) (fun h15 => ?_)
  · simp only [gwL, gwB, gwD, gwE, gwS, gwTT, gwZ, gwN, gwC, Nat.reduceEqDiff, ↓reduceIte, Nat.reduceAdd, Nat.reduceLT, Nat.reduceLeDiff, Nat.reduceMul, h15]
    exact fin _ (by simp only [insE, h1, h2, h3, h4, h5, h6, h7, h8, h9, h10, h11, h12, h13, h14, h15, Bool.true_or, Bool.or_true, Bool.false_or, Bool.or_false, Bool.or_self, cond_true, cond_false])
  simp only [gwL, gwB, gwD, gwE, gwS, gwTT, gwZ, gwN, gwC, Nat.reduceEqDiff, ↓reduceIte, Nat.reduceAdd, Nat.reduceLT, Nat.reduceLeDiff, Nat.reduceMul, h15]
  exact fin _ (by simp only [insE, h1, h2, h3, h4, h5, h6, h7, h8, h9, h10, h11, h12, h13, h14, h15, Bool.true_or, Bool.or_true, Bool.false_or, Bool.or_false, Bool.or_self, cond_true, cond_false])
end Go.Proofs.YtcdnooalfkbmgaaDoor.Gx

namespace Go.Proofs.YtcdnooalfkbmgaaDoor.Gx
open Go Go.Proofs.YtcdnooalfkbmgaaDoor.Gw
set_option linter.unusedSimpArgs false
set_option linter.unusedVariables false

/-- Code, and heights, as the walk over them has them. -/
structure HS (s : St) (c hb H : Nat) (code : List Ins) (high : List Int) : Prop where
  code : s[c]? = some (.box [lstI code])
  box : s[hb]? = some (.box [.arr H high.length])
  arr : s[H]? = some (.arr 3 1 (rowsI high))
theorem rowsI_get {l : List Int} {k : Nat} (h : k < l.length) : (rowsI l).getD k [] = [.int .i64 (l.getD k 0)] := by
  have e : l[k]? = some (l.getD k 0) := by rw [List.getD_eq_getElem?_getD, List.getElem?_eq_getElem h]; rfl
  exact getD_map (f := fun n => [V.int .i64 n]) e
theorem set_same {s : St} {o : Nat} {e : Ent} (h : s[o]? = some e) : s.set o e = s := by
  apply List.ext_getElem?; intro j
  rw [List.getElem?_set]
  split
  · rename_i e'; subst e'
    split
    · exact h.symm
    · rename_i e2; have := (List.getElem?_eq_some_iff.1 h).1; omega
  · rfl
/-- Two ways meet at a place. -/
def meetP (n : Nat) (high : List Int) (i h : Int) : Bool × List Int :=
  bif decide ((n : Int) ≤ i) || (decide (0 ≤ high.getD i.toNat 0) && !decide (high.getD i.toNat 0 = h)) then (false, high) else (true, high.set i.toNat h)
theorem meetP_len (n : Nat) (high : List Int) (i h : Int) : (meetP n high i h).2.length = high.length := by
  unfold meetP
  cases decide ((n : Int) ≤ i) || (decide (0 ≤ high.getD i.toNat 0) && !decide (high.getD i.toNat 0 = h)) <;> simp

set_option maxRecDepth 20000 in
set_option maxHeartbeats 2000000 in
theorem c_meet (s : St) (c hb H : Nat) (code : List Ins) (high : List Int) (i : Nat) (h : Int) (hs : HS s c hb H code high) (hl : code.length = high.length) :
    VCalls Tryd.prog TT 45 [.int .i64 i, .int .i64 h, .ptr c 0, .ptr hb 0] s fun r st' => r = .ret (.bool (meetP code.length high i h).1) ∧ st' = s.set H (.arr 3 1 (rowsI (meetP code.length high i h).2)) := by
  refine vfun TT_ok (an := anL []) (L := [0, 1, 2, 3, 6]) (rs := [.tmp 6]) Tryd.func45 rfl (by kernel_rfl) rfl Tryd.ntmps45 rfl rfl (by simp) fun hst ha hf => ?_
  have bad : (meetP code.length high i h) = (false, high) → Gives (.bool (meetP code.length high i h).1) (s.set H (.arr 3 1 (rowsI (meetP code.length high i h).2))) (.ret (.bool false)) s := fun e => by
    rw [e]; simp only; rw [set_same hs.arr]; exact gives_self (by simp [V.lt]) hst
  rcases Nat.lt_or_ge i high.length with hlt | hge
  · have e1 : decide ((code.length : Int) ≤ i) = false := decide_eq_false (by omega)
    have hgi := rowsI_get hlt
    have hil : (i : Int) < (high.length : Int) := Int.ofNat_lt.mpr hlt
    simp only [gwL, gwB, gwD, gwE, gwS, gwTT, gwZ, gwN, gwC, Nat.reduceEqDiff, ↓reduceIte, Nat.reduceAdd, Nat.reduceLT, Nat.reduceLeDiff, Nat.reduceMul, hs.code, hs.box, hs.arr, lstI, List.length_map, e1, hgi, rowsI_len, Int.toNat_natCast, Bool.not_false, Bool.false_or, forall_const]
    refine ⟨hil, hlt, fun _ => hil, fun _ => hlt, iK_split (fun h1 => ?_) (fun h1 => ?_)⟩
    · simp only [gwL, gwB, gwD, gwE, gwS, gwTT, gwZ, gwN, gwC, Nat.reduceEqDiff, ↓reduceIte, Nat.reduceAdd, Nat.reduceLT, Nat.reduceLeDiff, Nat.reduceMul]
      exact bad (by simp only [meetP, e1, Int.toNat_natCast, h1, Bool.false_or, cond_true])
    · simp only [gwL, gwB, gwD, gwE, gwS, gwTT, gwZ, gwN, gwC, Nat.reduceEqDiff, ↓reduceIte, Nat.reduceAdd, Nat.reduceLT, Nat.reduceLeDiff, Nat.reduceMul, hs.box, hs.arr, hgi, rowsI_len, Int.toNat_natCast]
      refine ⟨hil, hlt, ?_⟩
      have e : meetP code.length high i h = (true, high.set i h) := by simp only [meetP, e1, Int.toNat_natCast, h1, Bool.false_or, cond_false]
      rw [e]
      simp only
      rw [rowsI_set]
      exact gives_self (by simp [V.lt]) (ok_set hst (ltRows_map fun _ _ => ⟨trivial, trivial⟩))
  · have e1 : decide ((code.length : Int) ≤ i) = true := decide_eq_true (by omega)
    have hgi : (rowsI high).getD i [] = [] := by rw [List.getD_eq_getElem?_getD, List.getElem?_eq_none (by rw [rowsI_len]; exact hge)]; rfl
    simp only [gwL, gwB, gwD, gwE, gwS, gwTT, gwZ, gwN, gwC, Nat.reduceEqDiff, ↓reduceIte, Nat.reduceAdd, Nat.reduceLT, Nat.reduceLeDiff, Nat.reduceMul, hs.code, hs.box, hs.arr, lstI, List.length_map, e1, hgi, rowsI_len, Int.toNat_natCast, Bool.not_true, Bool.true_or]
    exact bad (by simp only [meetP, e1, Bool.true_or, cond_true])

/-- The heights at first. -/
def initHt (n i : Nat) : List Int := (List.range n).map fun j => bif decide (j < i) then (bif decide (j = 0) then 0 else -1) else 0
theorem initHt_len (n i : Nat) : (initHt n i).length = n := by simp [initHt]
theorem initHt_zero (n : Nat) : rowsI (initHt n 0) = List.replicate n [V.int .i64 0] := by
  apply List.ext_getElem
  · simp [rowsI, initHt]
  · intro j h1 h2
    simp [rowsI, initHt]
theorem initHt_set (n i : Nat) (h : i < n) : (initHt n i).set i (bif decide (i = 0) then 0 else -1) = initHt n (i + 1) := by
  apply List.ext_getElem
  · simp [initHt]
  · intro j h1 h2
    rw [List.getElem_set]
    simp only [initHt, List.getElem_map, List.getElem_range]
    by_cases e : i = j
    · subst e; simp
    · have e1 : decide (j < i + 1) = decide (j < i) := by by_cases h : j < i <;> simp [h] <;> omega
      simp [e, e1]
def stackG (n : Nat) (body : Bool) : List Ins → Nat → List Int → Int
  | [], _, _ => 0
  | x :: r, i, high =>
    bif decide (high.getD i 0 < 0) || (decide (x.op = 15) && (decide (1 < high.getD i 0) || !(decide (high.getD i 0 = 0) == body))) then 8
    else bif decide (x.op = 15) then stackG n body r (i + 1) high
    else bif decide (IntKind.i64.wrap (high.getD i 0 - (movesI x.op x.a).1) < 0) then 8
    else bif decide (x.op = 9) then
      (bif decide (x.a ≤ i) then 8 else
       bif !(meetP n high x.a (IntKind.i64.wrap (IntKind.i64.wrap (high.getD i 0 - (movesI x.op x.a).1) + (movesI x.op x.a).2))).1 then 8 else
       stackG n body r (i + 1) (meetP n high x.a (IntKind.i64.wrap (IntKind.i64.wrap (high.getD i 0 - (movesI x.op x.a).1) + (movesI x.op x.a).2))).2)
    else bif decide (x.op = 10) then
      (bif decide (x.a ≤ i) then 8 else
       bif !(meetP n high x.a (IntKind.i64.wrap (IntKind.i64.wrap (high.getD i 0 - (movesI x.op x.a).1) + (movesI x.op x.a).2))).1 then 8 else
       bif !(meetP n (meetP n high x.a (IntKind.i64.wrap (IntKind.i64.wrap (high.getD i 0 - (movesI x.op x.a).1) + (movesI x.op x.a).2))).2 ((i + 1 : Nat) : Int) (IntKind.i64.wrap (IntKind.i64.wrap (high.getD i 0 - (movesI x.op x.a).1) + (movesI x.op x.a).2))).1 then 8 else
       stackG n body r (i + 1) (meetP n (meetP n high x.a (IntKind.i64.wrap (IntKind.i64.wrap (high.getD i 0 - (movesI x.op x.a).1) + (movesI x.op x.a).2))).2 ((i + 1 : Nat) : Int) (IntKind.i64.wrap (IntKind.i64.wrap (high.getD i 0 - (movesI x.op x.a).1) + (movesI x.op x.a).2))).2)
    else
      (bif !(meetP n high ((i + 1 : Nat) : Int) (IntKind.i64.wrap (IntKind.i64.wrap (high.getD i 0 - (movesI x.op x.a).1) + (movesI x.op x.a).2))).1 then 8 else
       stackG n body r (i + 1) (meetP n high ((i + 1 : Nat) : Int) (IntKind.i64.wrap (IntKind.i64.wrap (high.getD i 0 - (movesI x.op x.a).1) + (movesI x.op x.a).2))).2)
def stackE (code : List Ins) (body : Bool) : Int := stackG code.length body code 0 (initHt code.length code.length)

set_option maxRecDepth 20000 in
set_option maxHeartbeats 8000000 in
theorem c_stack (s : St) (b A : Nat) (ps : List Pr) (ar : List Int) (G : Int) (p : Nat) (q : Pr) (body : Bool) (h : SH s b A ps ar G) (hq : ps[p]? = some q) (hl : q.code.length ≤ 6000) :
    VCalls Tryd.prog TT 34 [.ptr b 0, .int .i64 p, .bool body] s fun r st' => r = .ret (.int .i64 (stackE q.code body)) ∧ st' = s := by
  refine vfun TT_ok (an := anL []) (L := [0, 1, 2, 6, 7, 8, 9, 10, 11, 12, 13, 14, 15, 16, 29, 30, 42, 43]) (rs := [.tmp 6]) Tryd.func34 rfl (by kernel_rfl) rfl Tryd.ntmps34 rfl rfl (Nat.le_refl _) fun hst ha hf => ?_
  have hrp : (ps.map encPr).getD p [] = encPr q := getD_map hq
  have hpl : (p : Int) < (ps.length : Int) := Int.ofNat_lt.mpr (List.getElem?_eq_some_iff.1 hq).1
  obtain ⟨qa, code⟩ := q
  simp only at hl ⊢
  simp only [gwL, gwB, gwD, gwE, gwS, gwTT, gwZ, gwN, gwC, Nat.reduceEqDiff, ↓reduceIte, Nat.reduceAdd, Nat.reduceLT, Nat.reduceLeDiff, Nat.reduceMul, h.box, lstPr, List.length_map, hrp, encPr, lstI]
  refine ⟨hpl, ⟨by omega, by omega⟩, ?_⟩
  rw [← initHt_zero]
  refine vfor (σ := Nat) [2, 7, 8, 29, 30] (fun i => [(2, true, .bool body), (7, true, .ptr s.length 0), (8, true, .ptr (s.length + 2) 0), (29, true, .int .i64 code.length), (30, true, .int .i64 i)]) (fun i => s ++ [.box [.lst 11 none (code.map encI)], .arr 3 1 (rowsI (initHt code.length i)), .box [.arr (s.length + 1) code.length]]) (fun i => code.length - i) (fun i => i ≤ code.length) 0 rfl TT_ok (Nat.zero_le _) rfl rfl ?_
  intro i hi
  have hil : (rowsI (initHt code.length i)).length = code.length := by rw [rowsI_len, initHt_len]
  rcases Nat.lt_or_ge i code.length with hlt | hge
  · have hgi := rowsI_get (l := initHt code.length i) (by rw [initHt_len]; exact hlt)
    have w : IntKind.i64.wrap ((i : Int) + 1) = ((i + 1 : Nat) : Int) := next_i64 hlt (by omega)
    have wv : IntKind.i64.wrap (0 - if (1 : Int) < (i : Int) then (1 : Int) else (i : Int)) = (bif decide (i = 0) then 0 else -1) := by
      match i with
      | 0 => rfl
      | 1 => rfl
      | k + 2 =>
        have h2 : (1 : Int) < ((k + 2 : Nat) : Int) := by omega
        rw [if_pos h2]; rfl
    simp only [gwL, gwB, gwD, gwE, gwS, gwTT, gwZ, gwN, gwC, Nat.reduceEqDiff, ↓reduceIte, Nat.reduceAdd, Nat.reduceLT, Nat.reduceLeDiff, Nat.reduceMul, lt_yes hlt, hil, hgi, Int.toNat_natCast, Int.ofNat_lt.mpr hlt, w, rowsI_set, Env.keep]
    refine ⟨hlt, i + 1, rfl, ?_, by omega, hlt⟩
    rw [wv, initHt_set _ _ hlt]
  have hie : i = code.length := by omega
  subst hie
  simp only [gwL, gwB, gwD, gwE, gwS, gwTT, gwZ, gwN, gwC, Nat.reduceEqDiff, ↓reduceIte, Nat.reduceAdd, Nat.reduceLT, Nat.reduceLeDiff, Nat.reduceMul, lt_no, List.length_map]
  generalize hz : initHt code.length code.length = z0
  have hzl : z0.length = code.length := by rw [← hz, initHt_len]
  refine vfor (σ := Nat × List Int) [2, 7, 8, 10, 42, 43] (fun x => [(2, true, .bool body), (7, true, .ptr s.length 0), (8, true, .ptr (s.length + 2) 0), (10, true, .fn (.func 45) [.ptr s.length 0, .ptr (s.length + 2) 0]), (42, true, .int .i64 code.length), (43, true, .int .i64 x.1)]) (fun x => s ++ [.box [.lst 11 none (code.map encI)], .arr 3 1 (rowsI x.2), .box [.arr (s.length + 1) code.length]]) (fun x => code.length - x.1) (fun x => x.1 ≤ code.length ∧ x.2.length = code.length ∧ stackG code.length body code 0 z0 = stackG code.length body (code.drop x.1) x.1 x.2) (0, z0) rfl TT_ok ⟨Nat.zero_le _, hzl, rfl⟩ rfl rfl ?_
  rintro ⟨i, high⟩ ⟨hi, hhl, hx⟩
  simp only at hi hhl hx ⊢
  have hE : stackE code body = stackG code.length body (code.drop i) i high := by rw [stackE, hz]; exact hx
  rw [hE]
  rcases at_or_end code i hi with ⟨hie, hd⟩ | ⟨u, hlt, hget, hdr⟩
  · have hie2 : i = code.length := hie
    subst hie2
    simp only [gwL, gwB, gwD, gwE, gwS, gwTT, gwZ, gwN, gwC, Nat.reduceEqDiff, ↓reduceIte, Nat.reduceAdd, Nat.reduceLT, Nat.reduceLeDiff, Nat.reduceMul, lt_no, hd, stackG]
    exact gives_int' rfl hst
  · have hgi := rowsI_get (l := high) (k := i) (by omega)
    have hgu : (code.map encI).getD i [] = encI u := getD_map hget
    have hrl : (rowsI high).length = code.length := by rw [rowsI_len, hhl]
    have w : IntKind.i64.wrap ((i : Int) + 1) = ((i + 1 : Nat) : Int) := next_i64 hlt (by omega)
    have hil2 : (i : Int) < (code.length : Int) := Int.ofNat_lt.mpr hlt
    obtain ⟨op, a, n, lb, ow, qd⟩ := u
    simp only [encI_mk] at hgu
    rw [hdr, stackG] at hx ⊢
    simp only at hx ⊢
    generalize hgx : high.getD i 0 = hv at *
    simp only [gwL, gwB, gwD, gwE, gwS, gwTT, gwZ, gwN, gwC, Nat.reduceEqDiff, ↓reduceIte, Nat.reduceAdd, Nat.reduceLT, Nat.reduceLeDiff, Nat.reduceMul, lt_yes hlt, hil2, hgi, hgu, hrl, Int.toNat_natCast, w, List.length_map]
    refine ⟨hlt, fun _ => hlt, fun _ => hlt, fun h _ => ⟨h, fun h2 => by rw [h, h2]; rfl⟩, fun h _ => ⟨h, fun h2 => by rw [h, h2]; rfl⟩, iK_split (fun h1 => ?_) (fun h1 => ?_)⟩
    · simp only [gwL, gwB, gwD, gwE, gwS, gwTT, gwZ, gwN, gwC, Nat.reduceEqDiff, ↓reduceIte, Nat.reduceAdd, Nat.reduceLT, Nat.reduceLeDiff, Nat.reduceMul, h1, cond_true]
      exact gives_int' rfl hst
    have hHS : HS (s ++ [Ent.box [.lst 11 none (code.map encI)], .arr 3 1 (rowsI high), .box [.arr (s.length + 1) code.length]]) s.length (s.length + 2) (s.length + 1) code high :=
      ⟨by simp [lstI], by simp [hhl], by simp⟩
    simp only [h1, cond_false] at hx
    simp only [gwL, gwB, gwD, gwE, gwS, gwTT, gwZ, gwN, gwC, Nat.reduceEqDiff, ↓reduceIte, Nat.reduceAdd, Nat.reduceLT, Nat.reduceLeDiff, Nat.reduceMul, h1, cond_false]
    refine iK_split (fun h15 => ?_) (fun h15 => ?_)
    · simp only [h15, cond_true] at hx
      simp only [gwL, gwB, gwD, gwE, gwS, gwTT, gwZ, gwN, gwC, Nat.reduceEqDiff, ↓reduceIte, Nat.reduceAdd, Nat.reduceLT, Nat.reduceLeDiff, Nat.reduceMul, h15, cond_true, w, Env.keep]
      exact ⟨(i + 1, high), rfl, rfl, by simp only; omega, by simp only; omega, hhl, hx⟩
    simp only [h15, cond_false] at hx
    simp only [gwL, gwB, gwD, gwE, gwS, gwTT, gwZ, gwN, gwC, Nat.reduceEqDiff, ↓reduceIte, Nat.reduceAdd, Nat.reduceLT, Nat.reduceLeDiff, Nat.reduceMul, h15, cond_false]
    refine (c_moves _ ⟨op, a, n, lb, ow, qd⟩).use (wkL_refl _) fun _ => ?_
    simp only
    generalize (movesI op a).1 = tk at *
    generalize (movesI op a).2 = pt at *
    simp only [gwL, gwB, gwD, gwE, gwS, gwTT, gwZ, gwN, gwC, Nat.reduceEqDiff, ↓reduceIte, Nat.reduceAdd, Nat.reduceLT, Nat.reduceLeDiff, Nat.reduceMul, hgi, hrl, Int.toNat_natCast]
    refine ⟨hil2, hlt, iK_split (fun h3 => ?_) (fun h3 => ?_)⟩
    · simp only [gwL, gwB, gwD, gwE, gwS, gwTT, gwZ, gwN, gwC, Nat.reduceEqDiff, ↓reduceIte, Nat.reduceAdd, Nat.reduceLT, Nat.reduceLeDiff, Nat.reduceMul, h3, cond_true]
      exact gives_int' rfl hst
    simp only [h3, cond_false] at hx
    simp only [h3, cond_false]
    obtain ⟨hh, hhe⟩ : ∃ hh : Int, hh = IntKind.i64.wrap (IntKind.i64.wrap (hv - tk) + pt) := ⟨_, rfl⟩
    have hh2 := hhe.symm
    rw [hh2] at hx ⊢
    have st2 : ∀ l : List Int, (s ++ [Ent.box [.lst 11 none (code.map encI)], .arr 3 1 (rowsI high), .box [.arr (s.length + 1) code.length]]).set (s.length + 1) (.arr 3 1 (rowsI l)) = s ++ [Ent.box [.lst 11 none (code.map encI)], .arr 3 1 (rowsI l), .box [.arr (s.length + 1) code.length]] := fun l => by simp [List.set_append]
    cases h9 : decide (op = 9) with
    | true =>
      simp only [h9, cond_true] at hx ⊢
      cases h10 : decide (a ≤ i) with
      | true =>
        simp only [h10, cond_true] at hx ⊢
        simp only [gwL, gwB, gwD, gwE, gwS, gwTT, gwZ, gwN, gwC, Nat.reduceEqDiff, ↓reduceIte, Nat.reduceAdd, Nat.reduceLT, Nat.reduceLeDiff, Nat.reduceMul, h3, h9, h10, hh2, cond_true, cond_false, Bool.true_or, Bool.or_true, Bool.false_or, Bool.or_false, Bool.not_true, Bool.not_false, Bool.and_true, Bool.true_and, Bool.false_and, Bool.and_false]
        refine rK_not (.bool false) ?_
        simp only [gwL, gwB, gwD, gwE, gwS, gwTT, gwZ, gwN, gwC, Nat.reduceEqDiff, ↓reduceIte, Nat.reduceAdd, Nat.reduceLT, Nat.reduceLeDiff, Nat.reduceMul, h3, h9, h10, hh2, cond_true, cond_false, Bool.true_or, Bool.or_true, Bool.false_or, Bool.or_false, Bool.not_true, Bool.not_false, Bool.and_true, Bool.true_and, Bool.false_and, Bool.and_false]
        refine rK_not (.bool false) ?_
        simp only [gwL, gwB, gwD, gwE, gwS, gwTT, gwZ, gwN, gwC, Nat.reduceEqDiff, ↓reduceIte, Nat.reduceAdd, Nat.reduceLT, Nat.reduceLeDiff, Nat.reduceMul, h3, h9, h10, hh2, cond_true, cond_false, Bool.true_or, Bool.or_true, Bool.false_or, Bool.or_false, Bool.not_true, Bool.not_false, Bool.and_true, Bool.true_and, Bool.false_and, Bool.and_false]
        exact gives_int' rfl hst
      | false =>
        simp only [h10, cond_false] at hx ⊢
        obtain ⟨a', rfl⟩ : ∃ a' : Nat, a = a' := ⟨a.toNat, by have := of_decide_eq_false h10; omega⟩
        have hmt := c_meet _ _ _ _ code high a' hh hHS (by omega)
        have hml := meetP_len code.length high a' hh
        rw [st2] at hmt
        generalize meetP code.length high a' hh = m at hx hmt hml ⊢
        obtain ⟨mb, m2⟩ := m
        simp only at hx hmt hml ⊢
        simp only [gwL, gwB, gwD, gwE, gwS, gwTT, gwZ, gwN, gwC, Nat.reduceEqDiff, ↓reduceIte, Nat.reduceAdd, Nat.reduceLT, Nat.reduceLeDiff, Nat.reduceMul, h3, h9, h10, hh2, cond_true, cond_false, Bool.true_or, Bool.or_true, Bool.false_or, Bool.or_false, Bool.not_true, Bool.not_false, Bool.and_true, Bool.true_and, Bool.false_and, Bool.and_false]
        refine rK_made hmt (wkL_refl _) ?_
        cases mb with
        | false =>
          simp only [gwL, gwB, gwD, gwE, gwS, gwTT, gwZ, gwN, gwC, Nat.reduceEqDiff, ↓reduceIte, Nat.reduceAdd, Nat.reduceLT, Nat.reduceLeDiff, Nat.reduceMul, h3, h9, h10, hh2, cond_true, cond_false, Bool.true_or, Bool.or_true, Bool.false_or, Bool.or_false, Bool.not_true, Bool.not_false, Bool.and_true, Bool.true_and, Bool.false_and, Bool.and_false]
          refine rK_not (.bool false) ?_
          simp only [gwL, gwB, gwD, gwE, gwS, gwTT, gwZ, gwN, gwC, Nat.reduceEqDiff, ↓reduceIte, Nat.reduceAdd, Nat.reduceLT, Nat.reduceLeDiff, Nat.reduceMul, h3, h9, h10, hh2, cond_true, cond_false, Bool.true_or, Bool.or_true, Bool.false_or, Bool.or_false, Bool.not_true, Bool.not_false, Bool.and_true, Bool.true_and, Bool.false_and, Bool.and_false]
          exact gives_int' rfl hst
        | true =>
          simp only [gwL, gwB, gwD, gwE, gwS, gwTT, gwZ, gwN, gwC, Nat.reduceEqDiff, ↓reduceIte, Nat.reduceAdd, Nat.reduceLT, Nat.reduceLeDiff, Nat.reduceMul, h3, h9, h10, hh2, cond_true, cond_false, Bool.true_or, Bool.or_true, Bool.false_or, Bool.or_false, Bool.not_true, Bool.not_false, Bool.and_true, Bool.true_and, Bool.false_and, Bool.and_false]
          refine rK_not (.bool false) ?_
          simp only [gwL, gwB, gwD, gwE, gwS, gwTT, gwZ, gwN, gwC, Nat.reduceEqDiff, ↓reduceIte, Nat.reduceAdd, Nat.reduceLT, Nat.reduceLeDiff, Nat.reduceMul, h3, h9, h10, hh2, cond_true, cond_false, Bool.true_or, Bool.or_true, Bool.false_or, Bool.or_false, Bool.not_true, Bool.not_false, Bool.and_true, Bool.true_and, Bool.false_and, Bool.and_false, w, Env.keep]
          simp only [Bool.not_true, cond_false] at hx
          exact ⟨(i + 1, m2), rfl, rfl, by simp only; omega, by simp only; omega, by simp only; omega, hx⟩
    | false =>
      simp only [h9, cond_false] at hx ⊢
      cases h0 : decide (op = 10) with
      | true =>
        simp only [h0, cond_true] at hx ⊢
        cases h10 : decide (a ≤ i) with
        | true =>
          simp only [h10, cond_true] at hx ⊢
          simp only [gwL, gwB, gwD, gwE, gwS, gwTT, gwZ, gwN, gwC, Nat.reduceEqDiff, ↓reduceIte, Nat.reduceAdd, Nat.reduceLT, Nat.reduceLeDiff, Nat.reduceMul, h3, h9, h0, h10, hh2, cond_true, cond_false, Bool.true_or, Bool.or_true, Bool.false_or, Bool.or_false, Bool.not_true, Bool.not_false, Bool.and_true, Bool.true_and, Bool.false_and, Bool.and_false]
          refine rK_not (.bool false) ?_
          simp only [gwL, gwB, gwD, gwE, gwS, gwTT, gwZ, gwN, gwC, Nat.reduceEqDiff, ↓reduceIte, Nat.reduceAdd, Nat.reduceLT, Nat.reduceLeDiff, Nat.reduceMul, h3, h9, h0, h10, hh2, cond_true, cond_false, Bool.true_or, Bool.or_true, Bool.false_or, Bool.or_false, Bool.not_true, Bool.not_false, Bool.and_true, Bool.true_and, Bool.false_and, Bool.and_false]
          refine rK_not (.bool false) ?_
          simp only [gwL, gwB, gwD, gwE, gwS, gwTT, gwZ, gwN, gwC, Nat.reduceEqDiff, ↓reduceIte, Nat.reduceAdd, Nat.reduceLT, Nat.reduceLeDiff, Nat.reduceMul, h3, h9, h0, h10, hh2, cond_true, cond_false, Bool.true_or, Bool.or_true, Bool.false_or, Bool.or_false, Bool.not_true, Bool.not_false, Bool.and_true, Bool.true_and, Bool.false_and, Bool.and_false]
          exact gives_int' rfl hst
        | false =>
          simp only [h10, cond_false] at hx ⊢
          obtain ⟨a', rfl⟩ : ∃ a' : Nat, a = a' := ⟨a.toNat, by have := of_decide_eq_false h10; omega⟩
          have hmt := c_meet _ _ _ _ code high a' hh hHS (by omega)
          have hml := meetP_len code.length high a' hh
          rw [st2] at hmt
          generalize meetP code.length high a' hh = m at hx hmt hml ⊢
          obtain ⟨mb, m2⟩ := m
          simp only at hx hmt hml ⊢
          simp only [gwL, gwB, gwD, gwE, gwS, gwTT, gwZ, gwN, gwC, Nat.reduceEqDiff, ↓reduceIte, Nat.reduceAdd, Nat.reduceLT, Nat.reduceLeDiff, Nat.reduceMul, h3, h9, h0, h10, hh2, cond_true, cond_false, Bool.true_or, Bool.or_true, Bool.false_or, Bool.or_false, Bool.not_true, Bool.not_false, Bool.and_true, Bool.true_and, Bool.false_and, Bool.and_false]
          refine rK_made hmt (wkL_refl _) ?_
          cases mb with
          | false =>
            simp only [gwL, gwB, gwD, gwE, gwS, gwTT, gwZ, gwN, gwC, Nat.reduceEqDiff, ↓reduceIte, Nat.reduceAdd, Nat.reduceLT, Nat.reduceLeDiff, Nat.reduceMul, h3, h9, h0, h10, hh2, cond_true, cond_false, Bool.true_or, Bool.or_true, Bool.false_or, Bool.or_false, Bool.not_true, Bool.not_false, Bool.and_true, Bool.true_and, Bool.false_and, Bool.and_false]
            refine rK_not (.bool false) ?_
            simp only [gwL, gwB, gwD, gwE, gwS, gwTT, gwZ, gwN, gwC, Nat.reduceEqDiff, ↓reduceIte, Nat.reduceAdd, Nat.reduceLT, Nat.reduceLeDiff, Nat.reduceMul, h3, h9, h0, h10, hh2, cond_true, cond_false, Bool.true_or, Bool.or_true, Bool.false_or, Bool.or_false, Bool.not_true, Bool.not_false, Bool.and_true, Bool.true_and, Bool.false_and, Bool.and_false]
            exact gives_int' rfl hst
          | true =>
            simp only [Bool.not_true, cond_false] at hx ⊢
            have hHS2 : HS (s ++ [Ent.box [.lst 11 none (code.map encI)], .arr 3 1 (rowsI m2), .box [.arr (s.length + 1) code.length]]) s.length (s.length + 2) (s.length + 1) code m2 :=
              ⟨by simp [lstI], by simp; omega, by simp⟩
            have st2' : ∀ l : List Int, (s ++ [Ent.box [.lst 11 none (code.map encI)], .arr 3 1 (rowsI m2), .box [.arr (s.length + 1) code.length]]).set (s.length + 1) (.arr 3 1 (rowsI l)) = s ++ [Ent.box [.lst 11 none (code.map encI)], .arr 3 1 (rowsI l), .box [.arr (s.length + 1) code.length]] := fun l => by simp [List.set_append]
            have hmtb := c_meet _ _ _ _ code m2 (i + 1) hh hHS2 (by omega)
            have hmlb := meetP_len code.length m2 ((i + 1 : Nat) : Int) hh
            rw [st2'] at hmtb
            generalize meetP code.length m2 ((i + 1 : Nat) : Int) hh = mb at hx hmtb hmlb ⊢
            obtain ⟨mbb, m2b⟩ := mb
            simp only at hx hmtb hmlb ⊢
            simp only [gwL, gwB, gwD, gwE, gwS, gwTT, gwZ, gwN, gwC, Nat.reduceEqDiff, ↓reduceIte, Nat.reduceAdd, Nat.reduceLT, Nat.reduceLeDiff, Nat.reduceMul, h3, h9, h0, h10, hh2, cond_true, cond_false, Bool.true_or, Bool.or_true, Bool.false_or, Bool.or_false, Bool.not_true, Bool.not_false, Bool.and_true, Bool.true_and, Bool.false_and, Bool.and_false]
            refine rK_made hmtb (wkL_cons (by rw [w]; exact wk_refl _) (wkL_refl _)) ?_
            cases mbb with
            | false =>
              simp only [gwL, gwB, gwD, gwE, gwS, gwTT, gwZ, gwN, gwC, Nat.reduceEqDiff, ↓reduceIte, Nat.reduceAdd, Nat.reduceLT, Nat.reduceLeDiff, Nat.reduceMul, h3, h9, h0, h10, hh2, cond_true, cond_false, Bool.true_or, Bool.or_true, Bool.false_or, Bool.or_false, Bool.not_true, Bool.not_false, Bool.and_true, Bool.true_and, Bool.false_and, Bool.and_false]
              exact gives_int' rfl hst
            | true =>
              simp only [gwL, gwB, gwD, gwE, gwS, gwTT, gwZ, gwN, gwC, Nat.reduceEqDiff, ↓reduceIte, Nat.reduceAdd, Nat.reduceLT, Nat.reduceLeDiff, Nat.reduceMul, h3, h9, h0, h10, hh2, cond_true, cond_false, Bool.true_or, Bool.or_true, Bool.false_or, Bool.or_false, Bool.not_true, Bool.not_false, Bool.and_true, Bool.true_and, Bool.false_and, Bool.and_false, w, Env.keep]
              simp only [Bool.not_true, cond_false] at hx
              exact ⟨(i + 1, m2b), rfl, rfl, by simp only; omega, by simp only; omega, by simp only; omega, hx⟩
      | false =>
        simp only [h0, cond_false] at hx ⊢
        have hmtb := c_meet _ _ _ _ code high (i + 1) hh hHS (by omega)
        have hmlb := meetP_len code.length high ((i + 1 : Nat) : Int) hh
        rw [st2] at hmtb
        generalize meetP code.length high ((i + 1 : Nat) : Int) hh = mb at hx hmtb hmlb ⊢
        obtain ⟨mbb, m2b⟩ := mb
        simp only at hx hmtb hmlb ⊢
        simp only [gwL, gwB, gwD, gwE, gwS, gwTT, gwZ, gwN, gwC, Nat.reduceEqDiff, ↓reduceIte, Nat.reduceAdd, Nat.reduceLT, Nat.reduceLeDiff, Nat.reduceMul, h3, h9, h0, hh2, cond_true, cond_false, Bool.true_or, Bool.or_true, Bool.false_or, Bool.or_false, Bool.not_true, Bool.not_false, Bool.and_true, Bool.true_and, Bool.false_and, Bool.and_false]
        refine rK_not (.bool false) ?_
        simp only [gwL, gwB, gwD, gwE, gwS, gwTT, gwZ, gwN, gwC, Nat.reduceEqDiff, ↓reduceIte, Nat.reduceAdd, Nat.reduceLT, Nat.reduceLeDiff, Nat.reduceMul, h3, h9, h0, hh2, cond_true, cond_false, Bool.true_or, Bool.or_true, Bool.false_or, Bool.or_false, Bool.not_true, Bool.not_false, Bool.and_true, Bool.true_and, Bool.false_and, Bool.and_false]
        refine rK_made hmtb (wkL_cons (by rw [w]; exact wk_refl _) (wkL_refl _)) ?_
        cases mbb with
        | false =>
          simp only [gwL, gwB, gwD, gwE, gwS, gwTT, gwZ, gwN, gwC, Nat.reduceEqDiff, ↓reduceIte, Nat.reduceAdd, Nat.reduceLT, Nat.reduceLeDiff, Nat.reduceMul, h3, h9, h0, hh2, cond_true, cond_false, Bool.true_or, Bool.or_true, Bool.false_or, Bool.or_false, Bool.not_true, Bool.not_false, Bool.and_true, Bool.true_and, Bool.false_and, Bool.and_false]
          exact gives_int' rfl hst
        | true =>
          simp only [gwL, gwB, gwD, gwE, gwS, gwTT, gwZ, gwN, gwC, Nat.reduceEqDiff, ↓reduceIte, Nat.reduceAdd, Nat.reduceLT, Nat.reduceLeDiff, Nat.reduceMul, h3, h9, h0, hh2, cond_true, cond_false, Bool.true_or, Bool.or_true, Bool.false_or, Bool.or_false, Bool.not_true, Bool.not_false, Bool.and_true, Bool.true_and, Bool.false_and, Bool.and_false, w, Env.keep]
          simp only [Bool.not_true, cond_false] at hx
          exact ⟨(i + 1, m2b), rfl, rfl, by simp only; omega, by simp only; omega, by simp only; omega, hx⟩
end Go.Proofs.YtcdnooalfkbmgaaDoor.Gx
