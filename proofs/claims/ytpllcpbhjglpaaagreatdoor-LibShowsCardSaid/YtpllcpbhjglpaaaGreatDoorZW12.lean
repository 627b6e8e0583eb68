/- The document's libraries: declarations, walked. The document's libraries: Parse, walked. Libraries taken apart: laws, in plain terms. Laws of libraries: what they ask, walked. When libraries are the same, walked where they are. Laws of libraries: LibParses, walked. -/
import Derived.Test.YtpllcpbhjglpaaaGreatDoorZW11
open Nat renaming reduceEqDiff → qqE, reduceAdd → qqA, reduceLT → qqL, reduceLeDiff → qqD, reduceMul → qqM
namespace Go.Proofs.YtpllcpbhjglpaaaGreatDoor.Gx
open Go Go.Proofs.YtpllcpbhjglpaaaGreatDoor.Gw
set_option linter.unusedSimpArgs false
set_option linter.unusedVariables false
/-- The state with a box, and two rows behind it. -/
def wX (st : St) (b : Nat) (c : List V) (nE : Nat) (rI : List (List V)) : St := ((st.set (b + 1) (.tip 65 nE)).set (b + 2) (.arr 69 6 rI)).set b (.box c)
section
variable {st : St} {b : Nat} (h : b + 2 < st.length) (c c' : List V) (nE nE' : Nat) (rI rI' : List (List V)) (ex : St)
theorem wX_len : (wX st b c nE rI).length = st.length := by simp [wX]
theorem wX_k (k : Nat) : (wX st b c nE rI ++ ex)[st.length + k]? = ex[k]? := by
 rw [List.getElem?_append_right (by rw [wX_len]; omega), wX_len]; simp
theorem wX_k0 : (wX st b c nE rI ++ ex)[st.length]? = ex[0]? := wX_k c nE rI ex 0
theorem wX_sk (k : Nat) (x : Ent) : (wX st b c nE rI ++ ex).set (st.length + k) x = wX st b c nE rI ++ ex.set k x := by
 rw [List.set_append_right _ _ (by rw [wX_len]; omega), wX_len]; simp
theorem wX_sk0 (x : Ent) : (wX st b c nE rI ++ ex).set st.length x = wX st b c nE rI ++ ex.set 0 x := wX_sk c nE rI ex 0 x
include h
theorem wX_b : (wX st b c nE rI ++ ex)[b]? = some (.box c) := left_at (by unfold wX; rw [List.getElem?_set_self (by simp; omega)])
theorem wX_1 : (wX st b c nE rI ++ ex)[b + 1]? = some (.tip 65 nE) := left_at (by
 unfold wX; rw [List.getElem?_set_ne (by omega), List.getElem?_set_ne (by omega), List.getElem?_set_self (by omega)])
theorem wX_2 : (wX st b c nE rI ++ ex)[b + 2]? = some (.arr 69 6 rI) := left_at (by
 unfold wX; rw [List.getElem?_set_ne (by omega), List.getElem?_set_self (by simp; omega)])
theorem wX_sb : (wX st b c nE rI ++ ex).set b (.box c') = wX st b c' nE rI ++ ex := by
 rw [List.set_append_left _ _ (by rw [wX_len]; omega)]; unfold wX; rw [List.set_set]
theorem wX_s1 : (wX st b c nE rI ++ ex).set (b + 1) (.tip 65 nE') = wX st b c nE' rI ++ ex := by
 rw [List.set_append_left _ _ (by rw [wX_len]; omega)]; unfold wX
 rw [set_sw _ b (b + 1) _ _ (by omega), set_sw _ (b + 2) (b + 1) _ _ (by omega), List.set_set]
theorem wX_s2 : (wX st b c nE rI ++ ex).set (b + 2) (.arr 69 6 rI') = wX st b c nE rI' ++ ex := by
 rw [List.set_append_left _ _ (by rw [wX_len]; omega)]; unfold wX
 rw [set_sw _ b (b + 2) _ _ (by omega), List.set_set]
end
theorem bodyW_len {o : Lib'} (l : List Datum) {e : Int} (h : o.body.length ≤ 200) : (bodyW l o e).1.body.length ≤ 200 := by
 unfold bodyW
 by_cases h1 : (bif decide (200 < l.length + o.body.length) then stp e 5 else e) = 0
 ·rw [decide_eq_true h1]
  cases h2 : decide (200 < l.length + o.body.length) with
  | true => rw [h2] at h1; exact absurd h1 (stp_5 e)
  | false => simp only [decide_eq_false_iff_not] at h2; simp; omega
 ·rw [decide_eq_false h1]; exact h
def DeclW (w : Wd) (b : Nat) (N : Nat) : Prop := w.files.length ≤ 30 → ∀ (d : Datum), SizeOf.sizeOf d < N → okM d → ∀ (o : Lib'), okO o → ∀ (st : St) (ex : St), b + 2 < st.length →
  VCalls Tryz.prog TT 26 [.ptr b 0, .agg (encD d)] (wQ st w b o 0 ++ ex) fun r st' => r = .ret (.tup []) ∧ st' = wQ st w b (declW w d o).1 (declW w d o).2 ++ ex
theorem bz28 : type_of% @wX_k ∧ type_of% @wX_k0 ∧ type_of% @wX_len ∧ type_of% @wX_sk ∧ type_of% @wX_sk0 := ⟨@wX_k, @wX_k0, @wX_len, @wX_sk, @wX_sk0⟩
theorem bz23 : type_of% @List.length_map.{0,0} ∧ type_of% @rows2_len ∧ type_of% @wX_k ∧ type_of% @wX_k0 ∧ type_of% @wX_len ∧ type_of% @wX_sk ∧ type_of% @wX_sk0 := ⟨@List.length_map.{0,0}, @rows2_len, @wX_k, @wX_k0, @wX_len, @wX_sk, @wX_sk0⟩
theorem bz10 : type_of% @List.drop_succ_cons.{0} ∧ type_of% @List.drop_zero.{0} ∧ type_of% @List.getD_cons_succ.{0} ∧ type_of% @List.getD_cons_zero.{0} ∧ type_of% @List.length_cons.{0} ∧ type_of% @List.length_map.{0,0} ∧ type_of% @List.length_nil.{0} ∧ type_of% @List.map_cons.{0,0} ∧ type_of% @List.map_nil.{0,0} ∧ type_of% @Nat.le_refl ∧ type_of% @encD_drop ∧ type_of% @encD_len ∧ type_of% @encD_take ∧ type_of% @rows2_len ∧ (Int.toNat 0 = 0) ∧ (Int.toNat 1 = 1) ∧ (Int.toNat 2 = 2) ∧ type_of% @wQ_k ∧ type_of% @wQ_k0 ∧ type_of% @wQ_len ∧ type_of% @wQ_sk ∧ type_of% @wQ_sk0 := ⟨@List.drop_succ_cons.{0}, @List.drop_zero.{0}, @List.getD_cons_succ.{0}, @List.getD_cons_zero.{0}, @List.length_cons.{0}, @List.length_map.{0,0}, @List.length_nil.{0}, @List.map_cons.{0,0}, @List.map_nil.{0,0}, @Nat.le_refl, @encD_drop, @encD_len, @encD_take, @rows2_len, rfl, rfl, rfl, @wQ_k, @wQ_k0, @wQ_len, @wQ_sk, @wQ_sk0⟩
theorem bz16 : type_of% @List.drop_succ_cons.{0} ∧ type_of% @List.drop_zero.{0} ∧ type_of% @List.getD_cons_succ.{0} ∧ type_of% @List.getD_cons_zero.{0} ∧ type_of% @List.length_cons.{0} ∧ type_of% @List.length_map.{0,0} ∧ type_of% @List.length_nil.{0} ∧ type_of% @List.map_cons.{0,0} ∧ type_of% @List.map_nil.{0,0} ∧ type_of% @Nat.le_refl ∧ type_of% @encD_drop ∧ type_of% @encD_len ∧ type_of% @encD_mk ∧ type_of% @encD_take ∧ (Int.toNat 0 = 0) ∧ (Int.toNat 1 = 1) ∧ (Int.toNat 2 = 2) ∧ type_of% @wQ_k ∧ type_of% @wQ_k0 ∧ type_of% @wQ_len ∧ type_of% @wQ_sk ∧ type_of% @wQ_sk0 := ⟨@List.drop_succ_cons.{0}, @List.drop_zero.{0}, @List.getD_cons_succ.{0}, @List.getD_cons_zero.{0}, @List.length_cons.{0}, @List.length_map.{0,0}, @List.length_nil.{0}, @List.map_cons.{0,0}, @List.map_nil.{0,0}, @Nat.le_refl, @encD_drop, @encD_len, @encD_mk, @encD_take, rfl, rfl, rfl, @wQ_k, @wQ_k0, @wQ_len, @wQ_sk, @wQ_sk0⟩
theorem bz1 : type_of% @List.drop_succ_cons.{0} ∧ type_of% @List.drop_zero.{0} ∧ type_of% @List.getD_cons_succ.{0} ∧ type_of% @List.getD_cons_zero.{0} ∧ type_of% @List.length_cons.{0} ∧ type_of% @List.length_map.{0,0} ∧ type_of% @List.length_nil.{0} ∧ type_of% @List.map_cons.{0,0} ∧ type_of% @List.map_nil.{0,0} ∧ type_of% @Nat.le_refl ∧ type_of% @encD_drop ∧ type_of% @encD_len ∧ type_of% @encD_take ∧ (Int.toNat 0 = 0) ∧ (Int.toNat 1 = 1) ∧ (Int.toNat 2 = 2) ∧ type_of% @wQ_k ∧ type_of% @wQ_k0 ∧ type_of% @wQ_len ∧ type_of% @wQ_sk ∧ type_of% @wQ_sk0 := ⟨@List.drop_succ_cons.{0}, @List.drop_zero.{0}, @List.getD_cons_succ.{0}, @List.getD_cons_zero.{0}, @List.length_cons.{0}, @List.length_map.{0,0}, @List.length_nil.{0}, @List.map_cons.{0,0}, @List.map_nil.{0,0}, @Nat.le_refl, @encD_drop, @encD_len, @encD_take, rfl, rfl, rfl, @wQ_k, @wQ_k0, @wQ_len, @wQ_sk, @wQ_sk0⟩
set_option maxHeartbeats 8000000 in
theorem c_wdecl1 (w : Wd) (b N : Nat) (IH : DeclW w b N) : DeclW w b (N + 1) := by
 intro hW d hsz hd o ho st ex hb
 obtain ⟨k, n, nm, sk, sl, kids⟩ := d
 refine vfun TT_ok (an := anL [(3, 1)]) (L := [0, 1, 3, 4, 5, 7, 8, 9, 10, 12, 13, 15, 16, 17, 19, 20, 21, 23, 24, 25, 27, 39, 53, 54, 55, 134, 135, 136, 177, 178, 179, 192, 193, 194, 230, 231, 232, 266, 267, 268]) (rs := []) Tryz.func26 rfl (by kernel_rfl) rfl Tryz.ntmps26 rfl rfl (by simp [wQ_len]) fun hst ha hf => ?_
 have hE := fun o' e' => wQ_okX hb o' e' hst
 have hkids : k = 4 → kids.length ≤ 2000 ∧ okMs kids := by rw [okM] at hd; exact hd.2
 simp only [bz24, gw2, qqE, ↓reduceIte, qqA, qqL, qqD, qqM, ite_self, encD_mk]
 refine (q_need hb w o 0 ex (.mk k n nm sk sl kids) 1 (by omega)).use (by rw [encD_mk]; exact wkL_refl _) fun _ => ?_
 have hn0 := needW_0 1 (.mk k n nm sk sl kids)
 by_cases hl : (listP 1 (.mk k n nm sk sl kids)).2 = 0
 rotate_left
 ·have h2 : (listP 1 (.mk k n nm sk sl kids)).2 = 2 ∧ declW w (.mk k n nm sk sl kids) o = (o, 2) := by
   rw [declW_eq]
   simp only [listP] at hl ⊢
   cases e : decide (k = 4) with
   | false => exact ⟨rfl, rfl⟩
   | true =>
    rw [e] at hl
    cases kids with
    | nil => exact ⟨rfl, rfl⟩
    | cons x t => simp at hl
  rw [h2.2]
  rw [show needW 1 (.mk k n nm sk sl kids) 0 = ([zD], 2) from Prod.ext (needW_bad hl) (hn0.1.trans h2.1)]
  simp only [bz1, gw2, qqE, ↓reduceIte, qqA, qqL, qqD, qqM, ite_self, lstD]
  refine ⟨⟨by omega, by decide⟩, ?_⟩
  refine (q_word hb w o 2 ex zD).use (wkL_refl _) fun _ => ?_
  rw [show wordW zD 2 = ([], 2) from rfl]
  simp only [gw2, qqE, ↓reduceIte, qqA, qqL, qqD, qqM, ite_self]
  refine (q_good hb w o 2 ex).use (wkL_refl _) fun _ => ?_
  simp only [bz26, gw2, qqE, ↓reduceIte, qqA, qqL, qqD, qqM, ite_self]
  exact gives_self trivial (hE _ _)
 have hk4 : k = 4 ∧ kids ≠ [] ∧ (listP 1 (.mk k n nm sk sl kids)).1 = kids := by
  simp only [listP] at hl ⊢
  cases e : !decide (k = 4) || decide (kids.length < 1) with
  | true => rw [e] at hl; simp at hl
  | false =>
   simp only [Bool.or_eq_false_iff, Bool.not_eq_false', decide_eq_true_eq, decide_eq_false_iff_not] at e
   exact ⟨e.1, fun h => by rw [h] at e; simp at e, rfl⟩
 obtain ⟨hk4, hne, hkk⟩ := hk4
 obtain ⟨hkl, hks⟩ := hkids hk4
 rw [show needW 1 (.mk k n nm sk sl kids) 0 = (kids, 0) from Prod.ext ((hn0.2 hl).trans hkk) (hn0.1.trans hl)]
 cases kids with
 | nil => exact absurd rfl hne
 | cons hh t =>
  have hkl2 : t.length + 1 ≤ 2000 := hkl
  have htm : okMs t := hks.2
  have hG := declW_eq w k n nm sk sl (hh :: t) o
  rw [decide_eq_true hk4, Bool.not_true, cond_false] at hG
  simp only at hG
  generalize declW w (.mk k n nm sk sl (hh :: t)) o = G at hG
  have hrec : ∀ x : Datum, SizeOf.sizeOf x < SizeOf.sizeOf t → okM x → ∀ (o : Lib'), okO o → ∀ (st : St) (ex : St), b + 2 < st.length → VCalls Tryz.prog TT 26 [.ptr b 0, .agg (encD x)] (wQ st w b o 0 ++ ex) fun r st' => r = .ret (.tup []) ∧ st' = wQ st w b (declW w x o).1 (declW w x o).2 ++ ex := fun x hx hm o ho st ex hb => by
   have g2 := size_kids k n nm sk sl (hh :: t)
   have g3 : SizeOf.sizeOf t < SizeOf.sizeOf (hh :: t) := by simp; omega
   exact IH hW x (by omega) hm o ho st ex hb
  simp only [bz1, gw2, qqE, ↓reduceIte, qqA, qqL, qqD, qqM, ite_self, lstD]
  refine ⟨⟨by omega, by omega⟩, ?_⟩
  refine (q_word hb w o 0 ex hh).use (wkL_refl _) fun _ => ?_
  rw [wordW_0]
  simp only [gw2, qqE, ↓reduceIte, qqA, qqL, qqD, qqM, ite_self]
  refine (q_good hb w o _ ex).use (wkL_refl _) fun _ => ?_
  simp only [gw2, qqE, ↓reduceIte, qqA, qqL, qqD, qqM, ite_self]
  refine iK_split (fun h1 => ?_) (fun h1 => ?_)
  ·rw [h1, cond_true] at hG
   simp only [gw2, qqE, ↓reduceIte, qqA, qqL, qqD, qqM, ite_self]
   rw [hG]
   exact gives_self trivial (hE _ _)
  rw [h1, cond_false] at hG
  have h1' : (symP hh).2 = 0 := by simpa using h1
  rw [h1']
  generalize (symP hh).1 = wd at hG
  simp only [gw2, qqE, ↓reduceIte, qqA, qqL, qqD, qqM, ite_self]
  refine iK_split (fun h2 => ?_) (fun h2 => ?_)
  ·rw [show decide (wd = wExport) = true from h2, cond_true] at hG
   simp only [gw2, qqE, ↓reduceIte, qqA, qqL, qqD, qqM, ite_self, wQ_b hb]
   refine iK_split (fun h7 => ?_) (fun h7 => ?_)
   ·rw [h7, cond_true] at hG
    simp only [gw2, qqE, ↓reduceIte, qqA, qqL, qqD, qqM, ite_self]
    refine (q_stop hb w o 0 ex 2).use (wkL_refl _) fun _ => ?_
    rw [exportW_no (show (2 : Int) ≠ 0 by decide)] at hG
    rw [show stp 0 2 = 2 from rfl, hG]
    simp only [bz1, gw2, qqE, ↓reduceIte, qqA, qqL, qqD, qqM, ite_self, lstD]
    refine ⟨⟨by omega, by omega⟩, ?_⟩
    refine vfor (σ := Nat) [0, 53, 54, 55] (fun x => [(0, true, .ptr b 0), (53, true, lstD t), (54, true, .int .i64 t.length), (55, true, .int .i64 0)]) (fun x => wQ st w b o 2 ++ ex) (fun x => 0) (fun x => x = 0) 0 rfl TT_ok rfl rfl rfl ?_
    rintro x -
    cases t with
    | nil =>
     simp only [bz1, gw2, qqE, ↓reduceIte, qqA, qqL, qqD, qqM, ite_self, lstD, show decide ((0 : Int) < ((0 : Nat) : Int)) = false from rfl]
     exact gives_self trivial (hE _ _)
    | cons a r =>
     have e9 : decide ((0 : Int) < ((r.length + 1 : Nat) : Int)) = true := decide_eq_true (by omega)
     simp only [bz1, gw2, qqE, ↓reduceIte, qqA, qqL, qqD, qqM, ite_self, lstD, e9]
     refine ⟨⟨by omega, by omega⟩, ?_⟩
     refine (q_good hb w o 2 (ex ++ [.box (encD a)])).use (wkL_refl _) fun _ => ?_
     simp only [bz26, gw2, qqE, ↓reduceIte, qqA, qqL, qqD, qqM, ite_self]
     rw [← List.append_assoc]
     exact gives_of (wk_refl _) (wkSt_refl _) trivial (hE _ _)
   rw [h7, cond_false] at hG
   simp only [bz1, gw2, qqE, ↓reduceIte, qqA, qqL, qqD, qqM, ite_self, lstD]
   refine ⟨⟨by omega, by omega⟩, ?_⟩
   have hlE : ∀ (o' : Lib') (e' : Int) (i : Nat), ltE (wQ st w b o' e' ++ ex).length [(0, true, .ptr b 0), (53, true, lstD t), (54, true, .int .i64 t.length), (55, true, .int .i64 i)] := fun o' e' i => by
    have q3 := lstD_lt (wQ st w b o' e' ++ ex).length t
    simp only [lstD, V.lt] at q3
    simp only [ltE, V.lt]
    exact ⟨by simp [wQ_len]; omega, q3, trivial, trivial, trivial⟩
   have hfold : ∀ (o1 : Lib') (x y : Str) (e6 : Int), wX st b [.lst 2 none (rows2 w.files), encS w.feats, encS w.libs, .str o1.name, .lst 2 (some (b + 1)) (rows2 o1.exps ++ [[.str x, .str y]]), .arr (b + 2) o1.imps.length, .lst 6 none (o1.body.map encD), .int .i64 e6] (o1.exps.length + 1) (o1.imps.map encSet) = wQ st w b { o1 with exps := o1.exps ++ [(x, y)] } e6 := fun o1 x y e6 => by
    unfold wX wQ uQ wE cQ; simp [rows2, encF2]
   refine vforD (σ := Nat × Lib' × Int) [0, 53, 54, 55] (fun x => [(0, true, .ptr b 0), (53, true, lstD t), (54, true, .int .i64 t.length), (55, true, .int .i64 x.1)]) (fun x => wQ st w b x.2.1 x.2.2 ++ ex) (fun x => t.length - x.1) (fun x => x.1 ≤ t.length ∧ x.2.1.exps.length ≤ 201 ∧ (x.2.2 = 0 → x.2.1.exps.length ≤ 200) ∧ exportW t o 0 = exportW (t.drop x.1) x.2.1 x.2.2) (0, o, 0) rfl TT_ok ⟨Nat.zero_le _, by have := ho.1; simp only; omega, fun _ => ho.1, rfl⟩ (wkE_refl _) rfl ?_
   rintro ⟨i, o1, e1⟩ ⟨hi, hx1, hx2, hI⟩
   simp only at hi hx1 hx2 hI ⊢
   rw [hI] at hG
   rcases at_or_end t i hi with ⟨rfl, hdd⟩ | ⟨a, hlt, hget, hdr⟩
   ·rw [hdd, exportW] at hG
    simp only [gw2, qqE, ↓reduceIte, qqA, qqL, qqD, qqM, ite_self, lt_no, lstD]
    rw [hG]
    exact gives_self trivial (hE _ _)
   ·rw [hdr] at hG
    have hma : okM a := okMs_mem htm (List.mem_of_getElem? hget)
    obtain ⟨ka, na, nma, sa, la, kidsa⟩ := a
    simp only [bz1, gw2, qqE, ↓reduceIte, qqA, qqL, qqD, qqM, ite_self, lt_yes hlt, getD_map hget, Int.ofNat_lt.mpr hlt, lstD]
    refine (q_good hb w o1 e1 (ex ++ [.box (encD (.mk ka na nma sa la kidsa))])).use (wkL_refl _) fun _ => ?_
    simp only [gw2, qqE, ↓reduceIte, qqA, qqL, qqD, qqM, ite_self]
    refine iK_split (fun h8 => ?_) (fun h8 => ?_)
    ·rw [exportW, h8, cond_true] at hG
     simp only [gw2, qqE, ↓reduceIte, qqA, qqL, qqD, qqM, ite_self]
     rw [hG, ← List.append_assoc]
     exact gives_of (wk_refl _) (wkSt_refl _) trivial (hE _ _)
    ·rw [exportW, h8, cond_false] at hG
     have h8' : e1 = 0 := by simpa using h8
     subst h8'
     simp only [bz16, gw2, qqE, ↓reduceIte, qqA, qqL, qqD, qqM, ite_self, lstD]
     refine iK_split (fun h9 => ?_) (fun h9 => ?_)
     ·have hJ := hI
      rw [hdr, exportW, show (!decide ((0 : Int) = 0)) = false from rfl, cond_false, pairW, show decide (kindOf (.mk ka na nma sa la kidsa) = 4) = true from h9, cond_true] at hJ
      rw [pairW, show decide (kindOf (.mk ka na nma sa la kidsa) = 4) = true from h9, cond_true] at hG
      simp only [bz16, gw2, qqE, ↓reduceIte, qqA, qqL, qqD, qqM, ite_self, lstD]
      refine (q_need hb w o1 0 (ex ++ [.box [.int .i64 ka, .int .i64 na, .str nma, .int .i64 sa, .int .i64 la, .lst 6 none (kidsa.map encD)], .box [.str [], .str []]]) (.mk ka na nma sa la kidsa) 3 (by omega)).use (by rw [encD_mk]; exact wkL_refl _) fun _ => ?_
      have hm3 := needW_okM 0 (by omega : 3 ≤ 2000) hma
      generalize needW 3 (.mk ka na nma sa la kidsa) 0 = q3 at hG hJ hm3 ⊢
      obtain ⟨l3, e3⟩ := q3
      simp only at hG hJ hm3 ⊢
      simp only [gw2, qqE, ↓reduceIte, qqA, qqL, qqD, qqM, ite_self]
      refine (q_words hb w o1 e3 (ex ++ [.box [.int .i64 ka, .int .i64 na, .str nma, .int .i64 sa, .int .i64 la, .lst 6 none (kidsa.map encD)], .box [.str [], .str []]]) l3 (by omega)).use (wkL_refl _) fun _ => ?_
      generalize wordsW l3 e3 [] = q4 at hG hJ ⊢
      obtain ⟨tw, e4⟩ := q4
      rcases tw with _ | ⟨a1, _ | ⟨b1, _ | ⟨c1, _ | ⟨d1, t1⟩⟩⟩⟩
      ·simp only [bz1, gw2, qqE, ↓reduceIte, qqA, qqL, qqD, qqM, ite_self, encS, lstD, show decide (((0 : Nat) : Int) = 3) = false from rfl, Bool.not_false, List.getD_nil]
       refine (q_stop hb w o1 e4 (ex ++ [.box [.int .i64 ka, .int .i64 na, .str nma, .int .i64 sa, .int .i64 la, .lst 6 none (kidsa.map encD)], .box [.str [], .str []]]) 2).use (wkL_refl _) fun _ => ?_
       simp only [gw2, qqE, ↓reduceIte, qqA, qqL, qqD, qqM, ite_self]
       rw [hG, ← List.append_assoc]
       exact gives_of (wk_refl _) (wkSt_refl _) trivial (hE _ _)
      ·simp only [bz1, gw2, qqE, ↓reduceIte, qqA, qqL, qqD, qqM, ite_self, encS, lstD, show decide (((1 : Nat) : Int) = 3) = false from rfl, Bool.not_false]
       refine (q_stop hb w o1 e4 (ex ++ [.box [.int .i64 ka, .int .i64 na, .str nma, .int .i64 sa, .int .i64 la, .lst 6 none (kidsa.map encD)], .box [.str [], .str []]]) 2).use (wkL_refl _) fun _ => ?_
       simp only [gw2, qqE, ↓reduceIte, qqA, qqL, qqD, qqM, ite_self]
       rw [hG, ← List.append_assoc]
       exact gives_of (wk_refl _) (wkSt_refl _) trivial (hE _ _)
      ·simp only [bz1, gw2, qqE, ↓reduceIte, qqA, qqL, qqD, qqM, ite_self, encS, lstD, show decide (((2 : Nat) : Int) = 3) = false from rfl, Bool.not_false]
       refine (q_stop hb w o1 e4 (ex ++ [.box [.int .i64 ka, .int .i64 na, .str nma, .int .i64 sa, .int .i64 la, .lst 6 none (kidsa.map encD)], .box [.str [], .str []]]) 2).use (wkL_refl _) fun _ => ?_
       simp only [gw2, qqE, ↓reduceIte, qqA, qqL, qqD, qqM, ite_self]
       rw [hG, ← List.append_assoc]
       exact gives_of (wk_refl _) (wkSt_refl _) trivial (hE _ _)
      ·simp only [bz1, gw2, qqE, ↓reduceIte, qqA, qqL, qqD, qqM, ite_self, encS, lstD, show decide (((3 : Nat) : Int) = 3) = true from rfl, Bool.not_true]
       refine ⟨⟨by omega, by decide⟩, ?_⟩
       simp only at hG hJ
       refine iK_split (fun h10 => ?_) (fun h10 => ?_)
       ·rw [show decide (a1 = wRename) = false from not_yes h10, cond_false] at hG
        simp only [gw2, qqE, ↓reduceIte, qqA, qqL, qqD, qqM, ite_self]
        refine (q_stop hb w o1 e4 (ex ++ [.box [.int .i64 ka, .int .i64 na, .str nma, .int .i64 sa, .int .i64 la, .lst 6 none (kidsa.map encD)], .box [.str [], .str []]]) 2).use (wkL_refl _) fun _ => ?_
        simp only [gw2, qqE, ↓reduceIte, qqA, qqL, qqD, qqM, ite_self]
        rw [hG, ← List.append_assoc]
        exact gives_of (wk_refl _) (wkSt_refl _) trivial (hE _ _)
       ·rw [show decide (a1 = wRename) = true from not_no h10, cond_true] at hG hJ
        simp only at hG hJ
        simp only [bz1, gw2, qqE, ↓reduceIte, qqA, qqL, qqD, qqM, ite_self, lstD]
        refine vdraw TT_ok TT_mixed [0, 0, 0, 0, 0, 0, 0, 2] (by kernel_rfl) ?_
        simp only [bz1, gw2, qqE, ↓reduceIte, qqA, qqL, qqD, qqM, ite_self, encS, lstD]
        refine ⟨⟨by omega, by decide⟩, ⟨by omega, by decide⟩, ?_⟩
        have hpair : exportW t o 0 = exportW (t.drop (i + 1)) (putW (c1, b1) e4 o1).1 (putW (c1, b1) e4 o1).2 := hJ
        by_cases he9 : e4 = 0
        ·have hdz : decide (e4 = 0) = true := decide_eq_true he9
         rw [he9] at hG hpair ⊢
         refine vdraw TT_ok TT_mixed [0, 1, 0, 0, 0, 0, 0, 1, 0, 1, 0, 0] (by kernel_rfl) ?_
         simp only [bz1, gw2, qqE, ↓reduceIte, qqA, qqL, qqD, qqM, ite_self, wQ_b hb, lstD]
         refine eK_still (fun _ => q_good hb w o1 0 (ex ++ [.box [.int .i64 ka, .int .i64 na, .str nma, .int .i64 sa, .int .i64 la, .lst 6 none (kidsa.map encD)], .box [.str c1, .str b1]])) (wkL_refl _) ?_
         simp only [bz1, gw2, qqE, ↓reduceIte, qqA, qqL, qqD, qqM, ite_self, wQ_b hb, lstD, show decide ((0 : Int) = 0) = true from rfl]
         refine eK_free (fun s => c_ref2Has o1.exps c1 s) (wkL_cons (wk_tok _ _ _) (wkL_refl _)) ?_
         simp only [gw2, qqE, ↓reduceIte, qqA, qqL, qqD, qqM, ite_self]
         refine iK_split (fun h11 => ?_) (fun h11 => ?_)
         ·simp only [gw2, qqE, ↓reduceIte, qqA, qqL, qqD, qqM, ite_self]
          refine (q_stop hb w o1 0 (ex ++ [.box [.int .i64 ka, .int .i64 na, .str nma, .int .i64 sa, .int .i64 la, .lst 6 none (kidsa.map encD)], .box [.str c1, .str b1]]) 8).use (wkL_refl _) fun _ => ?_
          have e7 : decide ((200 : Int) ≤ (o1.exps.length : Int)) = decide (200 ≤ o1.exps.length) := by by_cases h : 200 ≤ o1.exps.length <;> simp [h] <;> omega
          simp only [bz10, gw2, qqE, ↓reduceIte, qqA, qqL, qqD, qqM, ite_self, wQ_b hb, e7, lstD]
          refine iK_split (fun h12 => ?_) (fun h12 => ?_)
          ·have hput : putW (c1, b1) (0) o1 = ({ o1 with exps := o1.exps ++ [(c1, b1)] }, stp (stp 0 8) 5) := by simp only [putW, h11, h12, show decide ((0 : Int) = 0) = true from rfl]; rfl
           simp only [gw2, qqE, ↓reduceIte, qqA, qqL, qqD, qqM, ite_self]
           refine (q_stop hb w o1 (stp 0 8) (ex ++ [.box [.int .i64 ka, .int .i64 na, .str nma, .int .i64 sa, .int .i64 la, .lst 6 none (kidsa.map encD)], .box [.str c1, .str b1]]) 5).use (wkL_refl _) fun _ => ?_
           simp only [gw2, qqE, ↓reduceIte, qqA, qqL, qqD, qqM, ite_self]
           rw [show wQ st w b o1 (stp (stp 0 8) 5) ++ (ex ++ [.box [.int .i64 ka, .int .i64 na, .str nma, .int .i64 sa, .int .i64 la, .lst 6 none (kidsa.map encD)], .box [.str c1, .str b1]]) = wX st b [.lst 2 none (rows2 w.files), encS w.feats, encS w.libs, .str o1.name, .lst 2 (some (b + 1)) (rows2 o1.exps), .arr (b + 2) o1.imps.length, .lst 6 none (o1.body.map encD), .int .i64 (stp (stp 0 8) 5)] o1.exps.length (o1.imps.map encSet) ++ (ex ++ [.box [.int .i64 ka, .int .i64 na, .str nma, .int .i64 sa, .int .i64 la, .lst 6 none (kidsa.map encD)], .box [.str c1, .str b1]]) from rfl]
           refine vdraw TT_ok TT_mixed [0, 0, 0, 0, 0, 1, 1, 0, 2, 0, 0, 0, 2] (by kernel_rfl) ?_
           simp only [bz23, gw2, qqE, ↓reduceIte, qqA, qqL, qqD, qqM, ite_self, wX_b hb, wX_1 hb, wX_2 hb, wX_sb hb, wX_s1 hb, wX_s2 hb]
           refine ⟨by omega, ?_⟩
           simp only [bz28, gw2, qqE, ↓reduceIte, qqA, qqL, qqD, qqM, ite_self, wX_b hb, wX_1 hb, wX_2 hb, wX_sb hb, wX_s1 hb, wX_s2 hb, Env.keep, next_i64 hlt (by omega)]
           refine ⟨(i + 1, { o1 with exps := o1.exps ++ [(c1, b1)] }, stp (stp 0 8) 5), ⟨wkE_refl _, wQ st w b { o1 with exps := o1.exps ++ [(c1, b1)] } (stp (stp 0 8) 5) ++ ex, [.box [.int .i64 ka, .int .i64 na, .str nma, .int .i64 sa, .int .i64 la, .lst 6 none (kidsa.map encD)], .box [.str c1, .str b1]], by rw [hfold]; simp, wkSt_refl _, hlE _ _ _, hE _ _, by simp [wQ_len]⟩, by dsimp only; omega, hlt, by simp; omega, ?_, by rw [hpair, hput]⟩
           intro h0
           simp only at h0; exact absurd h0 (stp_5 _)
          ·have hput : putW (c1, b1) (0) o1 = ({ o1 with exps := o1.exps ++ [(c1, b1)] }, stp 0 8) := by simp only [putW, h11, h12, show decide ((0 : Int) = 0) = true from rfl]; rfl
           simp only [gw2, qqE, ↓reduceIte, qqA, qqL, qqD, qqM, ite_self]
           rw [show wQ st w b o1 (stp 0 8) ++ (ex ++ [.box [.int .i64 ka, .int .i64 na, .str nma, .int .i64 sa, .int .i64 la, .lst 6 none (kidsa.map encD)], .box [.str c1, .str b1]]) = wX st b [.lst 2 none (rows2 w.files), encS w.feats, encS w.libs, .str o1.name, .lst 2 (some (b + 1)) (rows2 o1.exps), .arr (b + 2) o1.imps.length, .lst 6 none (o1.body.map encD), .int .i64 (stp 0 8)] o1.exps.length (o1.imps.map encSet) ++ (ex ++ [.box [.int .i64 ka, .int .i64 na, .str nma, .int .i64 sa, .int .i64 la, .lst 6 none (kidsa.map encD)], .box [.str c1, .str b1]]) from rfl]
           refine vdraw TT_ok TT_mixed [0, 0, 0, 0, 0, 1, 1, 0, 2, 0, 0, 0, 2] (by kernel_rfl) ?_
           simp only [bz23, gw2, qqE, ↓reduceIte, qqA, qqL, qqD, qqM, ite_self, wX_b hb, wX_1 hb, wX_2 hb, wX_sb hb, wX_s1 hb, wX_s2 hb]
           refine ⟨by omega, ?_⟩
           simp only [bz28, gw2, qqE, ↓reduceIte, qqA, qqL, qqD, qqM, ite_self, wX_b hb, wX_1 hb, wX_2 hb, wX_sb hb, wX_s1 hb, wX_s2 hb, Env.keep, next_i64 hlt (by omega)]
           refine ⟨(i + 1, { o1 with exps := o1.exps ++ [(c1, b1)] }, stp 0 8), ⟨wkE_refl _, wQ st w b { o1 with exps := o1.exps ++ [(c1, b1)] } (stp 0 8) ++ ex, [.box [.int .i64 ka, .int .i64 na, .str nma, .int .i64 sa, .int .i64 la, .lst 6 none (kidsa.map encD)], .box [.str c1, .str b1]], by rw [hfold]; simp, wkSt_refl _, hlE _ _ _, hE _ _, by simp [wQ_len]⟩, by dsimp only; omega, hlt, by simp; omega, ?_, by rw [hpair, hput]⟩
           intro h0
           simp only [decide_eq_false_iff_not] at h12; simp; omega
         ·simp only [gw2, qqE, ↓reduceIte, qqA, qqL, qqD, qqM, ite_self]
          have e7 : decide ((200 : Int) ≤ (o1.exps.length : Int)) = decide (200 ≤ o1.exps.length) := by by_cases h : 200 ≤ o1.exps.length <;> simp [h] <;> omega
          simp only [bz10, gw2, qqE, ↓reduceIte, qqA, qqL, qqD, qqM, ite_self, wQ_b hb, e7, lstD]
          refine iK_split (fun h12 => ?_) (fun h12 => ?_)
          ·have hput : putW (c1, b1) (0) o1 = ({ o1 with exps := o1.exps ++ [(c1, b1)] }, stp (0) 5) := by simp only [putW, h11, h12, show decide ((0 : Int) = 0) = true from rfl]; rfl
           simp only [gw2, qqE, ↓reduceIte, qqA, qqL, qqD, qqM, ite_self]
           refine (q_stop hb w o1 (0) (ex ++ [.box [.int .i64 ka, .int .i64 na, .str nma, .int .i64 sa, .int .i64 la, .lst 6 none (kidsa.map encD)], .box [.str c1, .str b1]]) 5).use (wkL_refl _) fun _ => ?_
           simp only [gw2, qqE, ↓reduceIte, qqA, qqL, qqD, qqM, ite_self]
           rw [show wQ st w b o1 (stp (0) 5) ++ (ex ++ [.box [.int .i64 ka, .int .i64 na, .str nma, .int .i64 sa, .int .i64 la, .lst 6 none (kidsa.map encD)], .box [.str c1, .str b1]]) = wX st b [.lst 2 none (rows2 w.files), encS w.feats, encS w.libs, .str o1.name, .lst 2 (some (b + 1)) (rows2 o1.exps), .arr (b + 2) o1.imps.length, .lst 6 none (o1.body.map encD), .int .i64 (stp (0) 5)] o1.exps.length (o1.imps.map encSet) ++ (ex ++ [.box [.int .i64 ka, .int .i64 na, .str nma, .int .i64 sa, .int .i64 la, .lst 6 none (kidsa.map encD)], .box [.str c1, .str b1]]) from rfl]
           refine vdraw TT_ok TT_mixed [0, 0, 0, 0, 0, 1, 1, 0, 2, 0, 0, 0, 2] (by kernel_rfl) ?_
           simp only [bz23, gw2, qqE, ↓reduceIte, qqA, qqL, qqD, qqM, ite_self, wX_b hb, wX_1 hb, wX_2 hb, wX_sb hb, wX_s1 hb, wX_s2 hb]
           refine ⟨by omega, ?_⟩
           simp only [bz28, gw2, qqE, ↓reduceIte, qqA, qqL, qqD, qqM, ite_self, wX_b hb, wX_1 hb, wX_2 hb, wX_sb hb, wX_s1 hb, wX_s2 hb, Env.keep, next_i64 hlt (by omega)]
           refine ⟨(i + 1, { o1 with exps := o1.exps ++ [(c1, b1)] }, stp (0) 5), ⟨wkE_refl _, wQ st w b { o1 with exps := o1.exps ++ [(c1, b1)] } (stp (0) 5) ++ ex, [.box [.int .i64 ka, .int .i64 na, .str nma, .int .i64 sa, .int .i64 la, .lst 6 none (kidsa.map encD)], .box [.str c1, .str b1]], by rw [hfold]; simp, wkSt_refl _, hlE _ _ _, hE _ _, by simp [wQ_len]⟩, by dsimp only; omega, hlt, by simp; omega, ?_, by rw [hpair, hput]⟩
           intro h0
           simp only at h0; exact absurd h0 (stp_5 _)
          ·have hput : putW (c1, b1) (0) o1 = ({ o1 with exps := o1.exps ++ [(c1, b1)] }, 0) := by simp only [putW, h11, h12, show decide ((0 : Int) = 0) = true from rfl]; rfl
           simp only [gw2, qqE, ↓reduceIte, qqA, qqL, qqD, qqM, ite_self]
           rw [show wQ st w b o1 (0) ++ (ex ++ [.box [.int .i64 ka, .int .i64 na, .str nma, .int .i64 sa, .int .i64 la, .lst 6 none (kidsa.map encD)], .box [.str c1, .str b1]]) = wX st b [.lst 2 none (rows2 w.files), encS w.feats, encS w.libs, .str o1.name, .lst 2 (some (b + 1)) (rows2 o1.exps), .arr (b + 2) o1.imps.length, .lst 6 none (o1.body.map encD), .int .i64 (0)] o1.exps.length (o1.imps.map encSet) ++ (ex ++ [.box [.int .i64 ka, .int .i64 na, .str nma, .int .i64 sa, .int .i64 la, .lst 6 none (kidsa.map encD)], .box [.str c1, .str b1]]) from rfl]
           refine vdraw TT_ok TT_mixed [0, 0, 0, 0, 0, 1, 1, 0, 2, 0, 0, 0, 2] (by kernel_rfl) ?_
           simp only [bz23, gw2, qqE, ↓reduceIte, qqA, qqL, qqD, qqM, ite_self, wX_b hb, wX_1 hb, wX_2 hb, wX_sb hb, wX_s1 hb, wX_s2 hb]
           refine ⟨by omega, ?_⟩
           simp only [bz28, gw2, qqE, ↓reduceIte, qqA, qqL, qqD, qqM, ite_self, wX_b hb, wX_1 hb, wX_2 hb, wX_sb hb, wX_s1 hb, wX_s2 hb, Env.keep, next_i64 hlt (by omega)]
           refine ⟨(i + 1, { o1 with exps := o1.exps ++ [(c1, b1)] }, 0), ⟨wkE_refl _, wQ st w b { o1 with exps := o1.exps ++ [(c1, b1)] } (0) ++ ex, [.box [.int .i64 ka, .int .i64 na, .str nma, .int .i64 sa, .int .i64 la, .lst 6 none (kidsa.map encD)], .box [.str c1, .str b1]], by rw [hfold]; simp, wkSt_refl _, hlE _ _ _, hE _ _, by simp [wQ_len]⟩, by dsimp only; omega, hlt, by simp; omega, ?_, by rw [hpair, hput]⟩
           intro h0
           simp only [decide_eq_false_iff_not] at h12; simp; omega
        ·have hdz : decide (e4 = 0) = false := decide_eq_false he9
         refine vdraw TT_ok TT_mixed [0, 1, 0, 0, 0, 0, 0, 1, 0, 1, 0, 0] (by kernel_rfl) ?_
         simp only [bz1, gw2, qqE, ↓reduceIte, qqA, qqL, qqD, qqM, ite_self, wQ_b hb, lstD]
         refine eK_still (fun _ => q_good hb w o1 (e4) (ex ++ [.box [.int .i64 ka, .int .i64 na, .str nma, .int .i64 sa, .int .i64 la, .lst 6 none (kidsa.map encD)], .box [.str c1, .str b1]])) (wkL_refl _) ?_
         simp only [bz1, gw2, qqE, ↓reduceIte, qqA, qqL, qqD, qqM, ite_self, wQ_b hb, lstD, hdz]
         refine eK_free (fun s => c_ref2Has o1.exps c1 s) (wkL_cons (wk_tok _ _ _) (wkL_refl _)) ?_
         have e7 : decide ((200 : Int) ≤ (o1.exps.length : Int)) = decide (200 ≤ o1.exps.length) := by by_cases h : 200 ≤ o1.exps.length <;> simp [h] <;> omega
         simp only [bz10, gw2, qqE, ↓reduceIte, qqA, qqL, qqD, qqM, ite_self, wQ_b hb, e7, lstD]
         refine iK_split (fun h12 => ?_) (fun h12 => ?_)
         ·have hput : putW (c1, b1) (e4) o1 = ({ o1 with exps := o1.exps ++ [(c1, b1)] }, stp (e4) 5) := by simp only [putW, hdz, h12, Bool.false_and]; rfl
          simp only [gw2, qqE, ↓reduceIte, qqA, qqL, qqD, qqM, ite_self]
          refine (q_stop hb w o1 (e4) (ex ++ [.box [.int .i64 ka, .int .i64 na, .str nma, .int .i64 sa, .int .i64 la, .lst 6 none (kidsa.map encD)], .box [.str c1, .str b1]]) 5).use (wkL_refl _) fun _ => ?_
          simp only [gw2, qqE, ↓reduceIte, qqA, qqL, qqD, qqM, ite_self]
          rw [show wQ st w b o1 (stp (e4) 5) ++ (ex ++ [.box [.int .i64 ka, .int .i64 na, .str nma, .int .i64 sa, .int .i64 la, .lst 6 none (kidsa.map encD)], .box [.str c1, .str b1]]) = wX st b [.lst 2 none (rows2 w.files), encS w.feats, encS w.libs, .str o1.name, .lst 2 (some (b + 1)) (rows2 o1.exps), .arr (b + 2) o1.imps.length, .lst 6 none (o1.body.map encD), .int .i64 (stp (e4) 5)] o1.exps.length (o1.imps.map encSet) ++ (ex ++ [.box [.int .i64 ka, .int .i64 na, .str nma, .int .i64 sa, .int .i64 la, .lst 6 none (kidsa.map encD)], .box [.str c1, .str b1]]) from rfl]
          refine vdraw TT_ok TT_mixed [0, 0, 0, 0, 0, 1, 1, 0, 2, 0, 0, 0, 2] (by kernel_rfl) ?_
          simp only [bz23, gw2, qqE, ↓reduceIte, qqA, qqL, qqD, qqM, ite_self, wX_b hb, wX_1 hb, wX_2 hb, wX_sb hb, wX_s1 hb, wX_s2 hb]
          refine ⟨by omega, ?_⟩
          simp only [bz28, gw2, qqE, ↓reduceIte, qqA, qqL, qqD, qqM, ite_self, wX_b hb, wX_1 hb, wX_2 hb, wX_sb hb, wX_s1 hb, wX_s2 hb, Env.keep, next_i64 hlt (by omega)]
          refine ⟨(i + 1, { o1 with exps := o1.exps ++ [(c1, b1)] }, stp (e4) 5), ⟨wkE_refl _, wQ st w b { o1 with exps := o1.exps ++ [(c1, b1)] } (stp (e4) 5) ++ ex, [.box [.int .i64 ka, .int .i64 na, .str nma, .int .i64 sa, .int .i64 la, .lst 6 none (kidsa.map encD)], .box [.str c1, .str b1]], by rw [hfold]; simp, wkSt_refl _, hlE _ _ _, hE _ _, by simp [wQ_len]⟩, by dsimp only; omega, hlt, by simp; omega, ?_, by rw [hpair, hput]⟩
          intro h0
          simp only at h0; exact absurd h0 (stp_5 _)
         ·have hput : putW (c1, b1) (e4) o1 = ({ o1 with exps := o1.exps ++ [(c1, b1)] }, e4) := by simp only [putW, hdz, h12, Bool.false_and]; rfl
          simp only [gw2, qqE, ↓reduceIte, qqA, qqL, qqD, qqM, ite_self]
          rw [show wQ st w b o1 (e4) ++ (ex ++ [.box [.int .i64 ka, .int .i64 na, .str nma, .int .i64 sa, .int .i64 la, .lst 6 none (kidsa.map encD)], .box [.str c1, .str b1]]) = wX st b [.lst 2 none (rows2 w.files), encS w.feats, encS w.libs, .str o1.name, .lst 2 (some (b + 1)) (rows2 o1.exps), .arr (b + 2) o1.imps.length, .lst 6 none (o1.body.map encD), .int .i64 (e4)] o1.exps.length (o1.imps.map encSet) ++ (ex ++ [.box [.int .i64 ka, .int .i64 na, .str nma, .int .i64 sa, .int .i64 la, .lst 6 none (kidsa.map encD)], .box [.str c1, .str b1]]) from rfl]
          refine vdraw TT_ok TT_mixed [0, 0, 0, 0, 0, 1, 1, 0, 2, 0, 0, 0, 2] (by kernel_rfl) ?_
          simp only [bz23, gw2, qqE, ↓reduceIte, qqA, qqL, qqD, qqM, ite_self, wX_b hb, wX_1 hb, wX_2 hb, wX_sb hb, wX_s1 hb, wX_s2 hb]
          refine ⟨by omega, ?_⟩
          simp only [bz28, gw2, qqE, ↓reduceIte, qqA, qqL, qqD, qqM, ite_self, wX_b hb, wX_1 hb, wX_2 hb, wX_sb hb, wX_s1 hb, wX_s2 hb, Env.keep, next_i64 hlt (by omega)]
          refine ⟨(i + 1, { o1 with exps := o1.exps ++ [(c1, b1)] }, e4), ⟨wkE_refl _, wQ st w b { o1 with exps := o1.exps ++ [(c1, b1)] } (e4) ++ ex, [.box [.int .i64 ka, .int .i64 na, .str nma, .int .i64 sa, .int .i64 la, .lst 6 none (kidsa.map encD)], .box [.str c1, .str b1]], by rw [hfold]; simp, wkSt_refl _, hlE _ _ _, hE _ _, by simp [wQ_len]⟩, by dsimp only; omega, hlt, by simp; omega, ?_, by rw [hpair, hput]⟩
          intro h0
          simp only [decide_eq_false_iff_not] at h12; simp; omega
      ·have e11 : decide (((t1.length + 4 : Nat) : Int) = 3) = false := decide_eq_false (by omega)
       simp only [bz1, gw2, qqE, ↓reduceIte, qqA, qqL, qqD, qqM, ite_self, encS, lstD, e11, Bool.not_false]
       refine (q_stop hb w o1 e4 (ex ++ [.box [.int .i64 ka, .int .i64 na, .str nma, .int .i64 sa, .int .i64 la, .lst 6 none (kidsa.map encD)], .box [.str [], .str []]]) 2).use (wkL_refl _) fun _ => ?_
       simp only [gw2, qqE, ↓reduceIte, qqA, qqL, qqD, qqM, ite_self]
       rw [hG, ← List.append_assoc]
       exact gives_of (wk_refl _) (wkSt_refl _) trivial (hE _ _)
     ·have hJ := hI
      rw [hdr, exportW, show (!decide ((0 : Int) = 0)) = false from rfl, cond_false, pairW, show decide (kindOf (.mk ka na nma sa la kidsa) = 4) = false from h9, cond_false] at hJ
      rw [pairW, show decide (kindOf (.mk ka na nma sa la kidsa) = 4) = false from h9, cond_false] at hG
      simp only at hG hJ
      simp only [bz16, gw2, qqE, ↓reduceIte, qqA, qqL, qqD, qqM, ite_self, lstD]
      refine (q_word hb w o1 0 (ex ++ [.box [.int .i64 ka, .int .i64 na, .str nma, .int .i64 sa, .int .i64 la, .lst 6 none (kidsa.map encD)], .box [.str [], .str []]]) (.mk ka na nma sa la kidsa)).use (by rw [encD_mk]; exact wkL_refl _) fun _ => ?_
      generalize wordW (.mk ka na nma sa la kidsa) 0 = q3 at hG hJ ⊢
      obtain ⟨w1, e3⟩ := q3
      simp only at hG hJ ⊢
      simp only [bz1, gw2, qqE, ↓reduceIte, qqA, qqL, qqD, qqM, ite_self, lstD]
      have hpair : exportW t o 0 = exportW (t.drop (i + 1)) (putW (w1, w1) e3 o1).1 (putW (w1, w1) e3 o1).2 := hJ
      by_cases he9 : e3 = 0
      ·have hdz : decide (e3 = 0) = true := decide_eq_true he9
       rw [he9] at hG hpair ⊢
       refine vdraw TT_ok TT_mixed [0, 1, 0, 0, 0, 0, 0, 1, 0, 1, 0, 0] (by kernel_rfl) ?_
       simp only [bz1, gw2, qqE, ↓reduceIte, qqA, qqL, qqD, qqM, ite_self, wQ_b hb, lstD]
       refine eK_still (fun _ => q_good hb w o1 0 (ex ++ [.box [.int .i64 ka, .int .i64 na, .str nma, .int .i64 sa, .int .i64 la, .lst 6 none (kidsa.map encD)], .box [.str w1, .str w1]])) (wkL_refl _) ?_
       simp only [bz1, gw2, qqE, ↓reduceIte, qqA, qqL, qqD, qqM, ite_self, wQ_b hb, lstD, show decide ((0 : Int) = 0) = true from rfl]
       refine eK_free (fun s => c_ref2Has o1.exps w1 s) (wkL_cons (wk_tok _ _ _) (wkL_refl _)) ?_
       simp only [gw2, qqE, ↓reduceIte, qqA, qqL, qqD, qqM, ite_self]
       refine iK_split (fun h11 => ?_) (fun h11 => ?_)
       ·simp only [gw2, qqE, ↓reduceIte, qqA, qqL, qqD, qqM, ite_self]
        refine (q_stop hb w o1 0 (ex ++ [.box [.int .i64 ka, .int .i64 na, .str nma, .int .i64 sa, .int .i64 la, .lst 6 none (kidsa.map encD)], .box [.str w1, .str w1]]) 8).use (wkL_refl _) fun _ => ?_
        have e7 : decide ((200 : Int) ≤ (o1.exps.length : Int)) = decide (200 ≤ o1.exps.length) := by by_cases h : 200 ≤ o1.exps.length <;> simp [h] <;> omega
        simp only [bz10, gw2, qqE, ↓reduceIte, qqA, qqL, qqD, qqM, ite_self, wQ_b hb, e7, lstD]
        refine iK_split (fun h12 => ?_) (fun h12 => ?_)
        ·have hput : putW (w1, w1) (0) o1 = ({ o1 with exps := o1.exps ++ [(w1, w1)] }, stp (stp 0 8) 5) := by simp only [putW, h11, h12, show decide ((0 : Int) = 0) = true from rfl]; rfl
         simp only [gw2, qqE, ↓reduceIte, qqA, qqL, qqD, qqM, ite_self]
         refine (q_stop hb w o1 (stp 0 8) (ex ++ [.box [.int .i64 ka, .int .i64 na, .str nma, .int .i64 sa, .int .i64 la, .lst 6 none (kidsa.map encD)], .box [.str w1, .str w1]]) 5).use (wkL_refl _) fun _ => ?_
         simp only [gw2, qqE, ↓reduceIte, qqA, qqL, qqD, qqM, ite_self]
         rw [show wQ st w b o1 (stp (stp 0 8) 5) ++ (ex ++ [.box [.int .i64 ka, .int .i64 na, .str nma, .int .i64 sa, .int .i64 la, .lst 6 none (kidsa.map encD)], .box [.str w1, .str w1]]) = wX st b [.lst 2 none (rows2 w.files), encS w.feats, encS w.libs, .str o1.name, .lst 2 (some (b + 1)) (rows2 o1.exps), .arr (b + 2) o1.imps.length, .lst 6 none (o1.body.map encD), .int .i64 (stp (stp 0 8) 5)] o1.exps.length (o1.imps.map encSet) ++ (ex ++ [.box [.int .i64 ka, .int .i64 na, .str nma, .int .i64 sa, .int .i64 la, .lst 6 none (kidsa.map encD)], .box [.str w1, .str w1]]) from rfl]
         refine vdraw TT_ok TT_mixed [0, 0, 0, 0, 0, 1, 1, 0, 2, 0, 0, 0, 2] (by kernel_rfl) ?_
         simp only [bz23, gw2, qqE, ↓reduceIte, qqA, qqL, qqD, qqM, ite_self, wX_b hb, wX_1 hb, wX_2 hb, wX_sb hb, wX_s1 hb, wX_s2 hb]
         refine ⟨by omega, ?_⟩
         simp only [bz28, gw2, qqE, ↓reduceIte, qqA, qqL, qqD, qqM, ite_self, wX_b hb, wX_1 hb, wX_2 hb, wX_sb hb, wX_s1 hb, wX_s2 hb, Env.keep, next_i64 hlt (by omega)]
         refine ⟨(i + 1, { o1 with exps := o1.exps ++ [(w1, w1)] }, stp (stp 0 8) 5), ⟨wkE_refl _, wQ st w b { o1 with exps := o1.exps ++ [(w1, w1)] } (stp (stp 0 8) 5) ++ ex, [.box [.int .i64 ka, .int .i64 na, .str nma, .int .i64 sa, .int .i64 la, .lst 6 none (kidsa.map encD)], .box [.str w1, .str w1]], by rw [hfold]; simp, wkSt_refl _, hlE _ _ _, hE _ _, by simp [wQ_len]⟩, by dsimp only; omega, hlt, by simp; omega, ?_, by rw [hpair, hput]⟩
         intro h0
         simp only at h0; exact absurd h0 (stp_5 _)
        ·have hput : putW (w1, w1) (0) o1 = ({ o1 with exps := o1.exps ++ [(w1, w1)] }, stp 0 8) := by simp only [putW, h11, h12, show decide ((0 : Int) = 0) = true from rfl]; rfl
         simp only [gw2, qqE, ↓reduceIte, qqA, qqL, qqD, qqM, ite_self]
         rw [show wQ st w b o1 (stp 0 8) ++ (ex ++ [.box [.int .i64 ka, .int .i64 na, .str nma, .int .i64 sa, .int .i64 la, .lst 6 none (kidsa.map encD)], .box [.str w1, .str w1]]) = wX st b [.lst 2 none (rows2 w.files), encS w.feats, encS w.libs, .str o1.name, .lst 2 (some (b + 1)) (rows2 o1.exps), .arr (b + 2) o1.imps.length, .lst 6 none (o1.body.map encD), .int .i64 (stp 0 8)] o1.exps.length (o1.imps.map encSet) ++ (ex ++ [.box [.int .i64 ka, .int .i64 na, .str nma, .int .i64 sa, .int .i64 la, .lst 6 none (kidsa.map encD)], .box [.str w1, .str w1]]) from rfl]
         refine vdraw TT_ok TT_mixed [0, 0, 0, 0, 0, 1, 1, 0, 2, 0, 0, 0, 2] (by kernel_rfl) ?_
         simp only [bz23, gw2, qqE, ↓reduceIte, qqA, qqL, qqD, qqM, ite_self, wX_b hb, wX_1 hb, wX_2 hb, wX_sb hb, wX_s1 hb, wX_s2 hb]
         refine ⟨by omega, ?_⟩
         simp only [bz28, gw2, qqE, ↓reduceIte, qqA, qqL, qqD, qqM, ite_self, wX_b hb, wX_1 hb, wX_2 hb, wX_sb hb, wX_s1 hb, wX_s2 hb, Env.keep, next_i64 hlt (by omega)]
         refine ⟨(i + 1, { o1 with exps := o1.exps ++ [(w1, w1)] }, stp 0 8), ⟨wkE_refl _, wQ st w b { o1 with exps := o1.exps ++ [(w1, w1)] } (stp 0 8) ++ ex, [.box [.int .i64 ka, .int .i64 na, .str nma, .int .i64 sa, .int .i64 la, .lst 6 none (kidsa.map encD)], .box [.str w1, .str w1]], by rw [hfold]; simp, wkSt_refl _, hlE _ _ _, hE _ _, by simp [wQ_len]⟩, by dsimp only; omega, hlt, by simp; omega, ?_, by rw [hpair, hput]⟩
         intro h0
         simp only [decide_eq_false_iff_not] at h12; simp; omega
       ·simp only [gw2, qqE, ↓reduceIte, qqA, qqL, qqD, qqM, ite_self]
        have e7 : decide ((200 : Int) ≤ (o1.exps.length : Int)) = decide (200 ≤ o1.exps.length) := by by_cases h : 200 ≤ o1.exps.length <;> simp [h] <;> omega
        simp only [bz10, gw2, qqE, ↓reduceIte, qqA, qqL, qqD, qqM, ite_self, wQ_b hb, e7, lstD]
        refine iK_split (fun h12 => ?_) (fun h12 => ?_)
        ·have hput : putW (w1, w1) (0) o1 = ({ o1 with exps := o1.exps ++ [(w1, w1)] }, stp (0) 5) := by simp only [putW, h11, h12, show decide ((0 : Int) = 0) = true from rfl]; rfl
         simp only [gw2, qqE, ↓reduceIte, qqA, qqL, qqD, qqM, ite_self]
         refine (q_stop hb w o1 (0) (ex ++ [.box [.int .i64 ka, .int .i64 na, .str nma, .int .i64 sa, .int .i64 la, .lst 6 none (kidsa.map encD)], .box [.str w1, .str w1]]) 5).use (wkL_refl _) fun _ => ?_
         simp only [gw2, qqE, ↓reduceIte, qqA, qqL, qqD, qqM, ite_self]
         rw [show wQ st w b o1 (stp (0) 5) ++ (ex ++ [.box [.int .i64 ka, .int .i64 na, .str nma, .int .i64 sa, .int .i64 la, .lst 6 none (kidsa.map encD)], .box [.str w1, .str w1]]) = wX st b [.lst 2 none (rows2 w.files), encS w.feats, encS w.libs, .str o1.name, .lst 2 (some (b + 1)) (rows2 o1.exps), .arr (b + 2) o1.imps.length, .lst 6 none (o1.body.map encD), .int .i64 (stp (0) 5)] o1.exps.length (o1.imps.map encSet) ++ (ex ++ [.box [.int .i64 ka, .int .i64 na, .str nma, .int .i64 sa, .int .i64 la, .lst 6 none (kidsa.map encD)], .box [.str w1, .str w1]]) from rfl]
         refine vdraw TT_ok TT_mixed [0, 0, 0, 0, 0, 1, 1, 0, 2, 0, 0, 0, 2] (by kernel_rfl) ?_
         simp only [bz23, gw2, qqE, ↓reduceIte, qqA, qqL, qqD, qqM, ite_self, wX_b hb, wX_1 hb, wX_2 hb, wX_sb hb, wX_s1 hb, wX_s2 hb]
         refine ⟨by omega, ?_⟩
         simp only [bz28, gw2, qqE, ↓reduceIte, qqA, qqL, qqD, qqM, ite_self, wX_b hb, wX_1 hb, wX_2 hb, wX_sb hb, wX_s1 hb, wX_s2 hb, Env.keep, next_i64 hlt (by omega)]
         refine ⟨(i + 1, { o1 with exps := o1.exps ++ [(w1, w1)] }, stp (0) 5), ⟨wkE_refl _, wQ st w b { o1 with exps := o1.exps ++ [(w1, w1)] } (stp (0) 5) ++ ex, [.box [.int .i64 ka, .int .i64 na, .str nma, .int .i64 sa, .int .i64 la, .lst 6 none (kidsa.map encD)], .box [.str w1, .str w1]], by rw [hfold]; simp, wkSt_refl _, hlE _ _ _, hE _ _, by simp [wQ_len]⟩, by dsimp only; omega, hlt, by simp; omega, ?_, by rw [hpair, hput]⟩
         intro h0
         simp only at h0; exact absurd h0 (stp_5 _)
        ·have hput : putW (w1, w1) (0) o1 = ({ o1 with exps := o1.exps ++ [(w1, w1)] }, 0) := by simp only [putW, h11, h12, show decide ((0 : Int) = 0) = true from rfl]; rfl
         simp only [gw2, qqE, ↓reduceIte, qqA, qqL, qqD, qqM, ite_self]
         rw [show wQ st w b o1 (0) ++ (ex ++ [.box [.int .i64 ka, .int .i64 na, .str nma, .int .i64 sa, .int .i64 la, .lst 6 none (kidsa.map encD)], .box [.str w1, .str w1]]) = wX st b [.lst 2 none (rows2 w.files), encS w.feats, encS w.libs, .str o1.name, .lst 2 (some (b + 1)) (rows2 o1.exps), .arr (b + 2) o1.imps.length, .lst 6 none (o1.body.map encD), .int .i64 (0)] o1.exps.length (o1.imps.map encSet) ++ (ex ++ [.box [.int .i64 ka, .int .i64 na, .str nma, .int .i64 sa, .int .i64 la, .lst 6 none (kidsa.map encD)], .box [.str w1, .str w1]]) from rfl]
         refine vdraw TT_ok TT_mixed [0, 0, 0, 0, 0, 1, 1, 0, 2, 0, 0, 0, 2] (by kernel_rfl) ?_
         simp only [bz23, gw2, qqE, ↓reduceIte, qqA, qqL, qqD, qqM, ite_self, wX_b hb, wX_1 hb, wX_2 hb, wX_sb hb, wX_s1 hb, wX_s2 hb]
         refine ⟨by omega, ?_⟩
         simp only [bz28, gw2, qqE, ↓reduceIte, qqA, qqL, qqD, qqM, ite_self, wX_b hb, wX_1 hb, wX_2 hb, wX_sb hb, wX_s1 hb, wX_s2 hb, Env.keep, next_i64 hlt (by omega)]
         refine ⟨(i + 1, { o1 with exps := o1.exps ++ [(w1, w1)] }, 0), ⟨wkE_refl _, wQ st w b { o1 with exps := o1.exps ++ [(w1, w1)] } (0) ++ ex, [.box [.int .i64 ka, .int .i64 na, .str nma, .int .i64 sa, .int .i64 la, .lst 6 none (kidsa.map encD)], .box [.str w1, .str w1]], by rw [hfold]; simp, wkSt_refl _, hlE _ _ _, hE _ _, by simp [wQ_len]⟩, by dsimp only; omega, hlt, by simp; omega, ?_, by rw [hpair, hput]⟩
         intro h0
         simp only [decide_eq_false_iff_not] at h12; simp; omega
      ·have hdz : decide (e3 = 0) = false := decide_eq_false he9
       refine vdraw TT_ok TT_mixed [0, 1, 0, 0, 0, 0, 0, 1, 0, 1, 0, 0] (by kernel_rfl) ?_
       simp only [bz1, gw2, qqE, ↓reduceIte, qqA, qqL, qqD, qqM, ite_self, wQ_b hb, lstD]
       refine eK_still (fun _ => q_good hb w o1 (e3) (ex ++ [.box [.int .i64 ka, .int .i64 na, .str nma, .int .i64 sa, .int .i64 la, .lst 6 none (kidsa.map encD)], .box [.str w1, .str w1]])) (wkL_refl _) ?_
       simp only [bz1, gw2, qqE, ↓reduceIte, qqA, qqL, qqD, qqM, ite_self, wQ_b hb, lstD, hdz]
       refine eK_free (fun s => c_ref2Has o1.exps w1 s) (wkL_cons (wk_tok _ _ _) (wkL_refl _)) ?_
       have e7 : decide ((200 : Int) ≤ (o1.exps.length : Int)) = decide (200 ≤ o1.exps.length) := by by_cases h : 200 ≤ o1.exps.length <;> simp [h] <;> omega
       simp only [bz10, gw2, qqE, ↓reduceIte, qqA, qqL, qqD, qqM, ite_self, wQ_b hb, e7, lstD]
       refine iK_split (fun h12 => ?_) (fun h12 => ?_)
       ·have hput : putW (w1, w1) (e3) o1 = ({ o1 with exps := o1.exps ++ [(w1, w1)] }, stp (e3) 5) := by simp only [putW, hdz, h12, Bool.false_and]; rfl
        simp only [gw2, qqE, ↓reduceIte, qqA, qqL, qqD, qqM, ite_self]
        refine (q_stop hb w o1 (e3) (ex ++ [.box [.int .i64 ka, .int .i64 na, .str nma, .int .i64 sa, .int .i64 la, .lst 6 none (kidsa.map encD)], .box [.str w1, .str w1]]) 5).use (wkL_refl _) fun _ => ?_
        simp only [gw2, qqE, ↓reduceIte, qqA, qqL, qqD, qqM, ite_self]
        rw [show wQ st w b o1 (stp (e3) 5) ++ (ex ++ [.box [.int .i64 ka, .int .i64 na, .str nma, .int .i64 sa, .int .i64 la, .lst 6 none (kidsa.map encD)], .box [.str w1, .str w1]]) = wX st b [.lst 2 none (rows2 w.files), encS w.feats, encS w.libs, .str o1.name, .lst 2 (some (b + 1)) (rows2 o1.exps), .arr (b + 2) o1.imps.length, .lst 6 none (o1.body.map encD), .int .i64 (stp (e3) 5)] o1.exps.length (o1.imps.map encSet) ++ (ex ++ [.box [.int .i64 ka, .int .i64 na, .str nma, .int .i64 sa, .int .i64 la, .lst 6 none (kidsa.map encD)], .box [.str w1, .str w1]]) from rfl]
        refine vdraw TT_ok TT_mixed [0, 0, 0, 0, 0, 1, 1, 0, 2, 0, 0, 0, 2] (by kernel_rfl) ?_
        simp only [bz23, gw2, qqE, ↓reduceIte, qqA, qqL, qqD, qqM, ite_self, wX_b hb, wX_1 hb, wX_2 hb, wX_sb hb, wX_s1 hb, wX_s2 hb]
        refine ⟨by omega, ?_⟩
        simp only [bz28, gw2, qqE, ↓reduceIte, qqA, qqL, qqD, qqM, ite_self, wX_b hb, wX_1 hb, wX_2 hb, wX_sb hb, wX_s1 hb, wX_s2 hb, Env.keep, next_i64 hlt (by omega)]
        refine ⟨(i + 1, { o1 with exps := o1.exps ++ [(w1, w1)] }, stp (e3) 5), ⟨wkE_refl _, wQ st w b { o1 with exps := o1.exps ++ [(w1, w1)] } (stp (e3) 5) ++ ex, [.box [.int .i64 ka, .int .i64 na, .str nma, .int .i64 sa, .int .i64 la, .lst 6 none (kidsa.map encD)], .box [.str w1, .str w1]], by rw [hfold]; simp, wkSt_refl _, hlE _ _ _, hE _ _, by simp [wQ_len]⟩, by dsimp only; omega, hlt, by simp; omega, ?_, by rw [hpair, hput]⟩
        intro h0
        simp only at h0; exact absurd h0 (stp_5 _)
       ·have hput : putW (w1, w1) (e3) o1 = ({ o1 with exps := o1.exps ++ [(w1, w1)] }, e3) := by simp only [putW, hdz, h12, Bool.false_and]; rfl
        simp only [gw2, qqE, ↓reduceIte, qqA, qqL, qqD, qqM, ite_self]
        rw [show wQ st w b o1 (e3) ++ (ex ++ [.box [.int .i64 ka, .int .i64 na, .str nma, .int .i64 sa, .int .i64 la, .lst 6 none (kidsa.map encD)], .box [.str w1, .str w1]]) = wX st b [.lst 2 none (rows2 w.files), encS w.feats, encS w.libs, .str o1.name, .lst 2 (some (b + 1)) (rows2 o1.exps), .arr (b + 2) o1.imps.length, .lst 6 none (o1.body.map encD), .int .i64 (e3)] o1.exps.length (o1.imps.map encSet) ++ (ex ++ [.box [.int .i64 ka, .int .i64 na, .str nma, .int .i64 sa, .int .i64 la, .lst 6 none (kidsa.map encD)], .box [.str w1, .str w1]]) from rfl]
        refine vdraw TT_ok TT_mixed [0, 0, 0, 0, 0, 1, 1, 0, 2, 0, 0, 0, 2] (by kernel_rfl) ?_
        simp only [bz23, gw2, qqE, ↓reduceIte, qqA, qqL, qqD, qqM, ite_self, wX_b hb, wX_1 hb, wX_2 hb, wX_sb hb, wX_s1 hb, wX_s2 hb]
        refine ⟨by omega, ?_⟩
        simp only [bz28, gw2, qqE, ↓reduceIte, qqA, qqL, qqD, qqM, ite_self, wX_b hb, wX_1 hb, wX_2 hb, wX_sb hb, wX_s1 hb, wX_s2 hb, Env.keep, next_i64 hlt (by omega)]
        refine ⟨(i + 1, { o1 with exps := o1.exps ++ [(w1, w1)] }, e3), ⟨wkE_refl _, wQ st w b { o1 with exps := o1.exps ++ [(w1, w1)] } (e3) ++ ex, [.box [.int .i64 ka, .int .i64 na, .str nma, .int .i64 sa, .int .i64 la, .lst 6 none (kidsa.map encD)], .box [.str w1, .str w1]], by rw [hfold]; simp, wkSt_refl _, hlE _ _ _, hE _ _, by simp [wQ_len]⟩, by dsimp only; omega, hlt, by simp; omega, ?_, by rw [hpair, hput]⟩
        intro h0
        simp only [decide_eq_false_iff_not] at h12; simp; omega
  rw [show decide (wd = wExport) = false from h2, cond_false] at hG
  simp only [gw2, qqE, ↓reduceIte, qqA, qqL, qqD, qqM, ite_self]
  refine iK_split (fun h3 => ?_) (fun h3 => ?_)
  ·rw [show decide (wd = wImport) = true from h3, cond_true] at hG
   simp only [bz1, gw2, qqE, ↓reduceIte, qqA, qqL, qqD, qqM, ite_self, lstD]
   refine ⟨⟨by omega, by omega⟩, ?_⟩
   have hlE : ∀ (o' : Lib') (e' : Int) (i : Nat), ltE (wQ st w b o' e' ++ ex).length [(0, true, .ptr b 0), (134, true, lstD t), (135, true, .int .i64 t.length), (136, true, .int .i64 i)] := fun o' e' i => by
    have q3 := lstD_lt (wQ st w b o' e' ++ ex).length t
    simp only [lstD, V.lt] at q3
    simp only [ltE, V.lt]
    exact ⟨by simp [wQ_len]; omega, q3, trivial, trivial, trivial⟩
   refine vforD (σ := Nat × Lib' × Int) [0, 134, 135, 136] (fun x => [(0, true, .ptr b 0), (134, true, lstD t), (135, true, .int .i64 t.length), (136, true, .int .i64 x.1)]) (fun x => wQ st w b x.2.1 x.2.2 ++ ex) (fun x => t.length - x.1) (fun x => x.1 ≤ t.length ∧ x.2.1.imps.length ≤ 21 ∧ importW t o 0 = importW (t.drop x.1) x.2.1 x.2.2) (0, o, 0) rfl TT_ok ⟨Nat.zero_le _, by have := ho.2.1; simp only; omega, rfl⟩ (wkE_refl _) rfl ?_
   rintro ⟨i, o1, e1⟩ ⟨hi, hx1, hI⟩
   simp only at hi hx1 hI ⊢
   rcases at_or_end t i hi with ⟨rfl, hdd⟩ | ⟨a, hlt, hget, hdr⟩
   ·rw [hI, hdd, importW] at hG
    simp only [gw2, qqE, ↓reduceIte, qqA, qqL, qqD, qqM, ite_self, lt_no, lstD]
    rw [hG]
    exact gives_self trivial (hE _ _)
   ·rw [hdr, importW] at hI
    have hma : okM a := okMs_mem htm (List.mem_of_getElem? hget)
    have e7 : decide ((20 : Int) ≤ (o1.imps.length : Int)) = decide (20 ≤ o1.imps.length) := by by_cases h : 20 ≤ o1.imps.length <;> simp [h] <;> omega
    simp only [bz1, gw2, qqE, ↓reduceIte, qqA, qqL, qqD, qqM, ite_self, lt_yes hlt, getD_map hget, Int.ofNat_lt.mpr hlt, lstD, wQ_b hb, wQ_2 hb, e7]
    refine iK_split (fun h7 => ?_) (fun h7 => ?_)
    ·rw [h7, cond_true, decide_eq_false (stp_5 e1), cond_false] at hI
     simp only [gw2, qqE, ↓reduceIte, qqA, qqL, qqD, qqM, ite_self]
     refine (q_stop hb w o1 e1 (ex ++ [.box (encD a)]) 5).use (wkL_refl _) fun _ => ?_
     simp only [gw2, qqE, ↓reduceIte, qqA, qqL, qqD, qqM, ite_self]
     refine (q_good hb w o1 (stp e1 5) (ex ++ [.box (encD a)])).use (wkL_refl _) fun _ => ?_
     simp only [gw2, qqE, ↓reduceIte, qqA, qqL, qqD, qqM, ite_self, decide_eq_false (stp_5 e1), Env.keep, next_i64 hlt (by omega)]
     refine ⟨(i + 1, o1, stp e1 5), ⟨wkE_refl _, wQ st w b o1 (stp e1 5) ++ ex, [.box (encD a)], by simp, wkSt_refl _, hlE _ _ _, hE _ _, by simp [wQ_len]⟩, by dsimp only; omega, hlt, hx1, hI⟩
    ·rw [h7, cond_false] at hI
     simp only [gw2, qqE, ↓reduceIte, qqA, qqL, qqD, qqM, ite_self]
     refine (q_good hb w o1 e1 (ex ++ [.box (encD a)])).use (wkL_refl _) fun _ => ?_
     simp only [gw2, qqE, ↓reduceIte, qqA, qqL, qqD, qqM, ite_self]
     refine iK_split (fun h8 => ?_) (fun h8 => ?_)
     ·rw [h8, cond_true] at hI
      obtain rfl := of_decide_eq_true h8
      simp only [bz1, gw2, qqE, ↓reduceIte, qqA, qqL, qqD, qqM, ite_self, lstD]
      refine (q_set hb w o1 (ex ++ [.box (encD a)]) a hma).use (wkL_refl _) fun _ => ?_
      generalize setW 12 a = q at hI ⊢
      obtain ⟨S, e2⟩ := q
      simp only at hI ⊢
      simp only [bz1, gw2, qqE, ↓reduceIte, qqA, qqL, qqD, qqM, ite_self, lstD, encSet_take, encSet_len]
      have hset1 : ∀ z X : List V, (o1.imps.map encSet ++ [z]).set o1.imps.length X = o1.imps.map encSet ++ [X] := fun z X => by rw [List.set_append_right _ _ (by simp)]; simp
      have hget1 : ∀ z : List V, (o1.imps.map encSet ++ [z]).getD o1.imps.length [] = z := fun z => by simp [List.getD_eq_getElem?_getD]
      have hw1 : IntKind.i64.wrap ((o1.imps.length : Int) + 1) = ((o1.imps.length + 1 : Nat) : Int) := by rw [wrap_i64 (by omega) (by omega)]; omega
      rw [show wQ st w b o1 e2 ++ (ex ++ [.box (encD a), .box (encSet S)]) = wX st b [.lst 2 none (rows2 w.files), encS w.feats, encS w.libs, .str o1.name, .lst 2 (some (b + 1)) (rows2 o1.exps), .arr (b + 2) (o1.imps.length), .lst 6 none (o1.body.map encD), .int .i64 (e2)] o1.exps.length (o1.imps.map encSet) ++ (ex ++ [.box (encD a), .box (encSet S)]) from rfl]
      refine vstageT TT_ok TT_mixed (σ := Unit) [] [0, 0, 0, 0, 1, 1, 0, 0, 2, 0, 2, 0, 0, 0, 2] [0, 1, 2, 3, 4, 5, 6, 7, 8] [9, 10, 11, 12, 13, 14] [.nd 9 [.nd 10 [.nd 11 [.nd 12 [.nd 13 [.nd 14 []]]]], .nd 11 [.nd 10 [.nd 12 [.nd 13 [.nd 14 []]]], .nd 12 [.nd 10 [.nd 13 [.nd 14 []]], .nd 13 [.nd 10 [.nd 14 []], .nd 14 [.nd 10 []]]]]], .nd 11 [.nd 9 [.nd 10 [.nd 12 [.nd 13 [.nd 14 []]]], .nd 12 [.nd 10 [.nd 13 [.nd 14 []]], .nd 13 [.nd 10 [.nd 14 []], .nd 14 [.nd 10 []]]]], .nd 12 [.nd 9 [.nd 10 [.nd 13 [.nd 14 []]], .nd 13 [.nd 10 [.nd 14 []], .nd 14 [.nd 10 []]]], .nd 13 [.nd 9 [.nd 10 [.nd 14 []], .nd 14 [.nd 10 []]], .nd 14 [.nd 9 [.nd 10 []]]]]]] [0, 134, 135, 136] (fun _x => [(0, true, .ptr b 0), (134, true, lstD t), (135, true, .int .i64 t.length), (136, true, .int .i64 i)]) (fun _x => wX st b [.lst 2 none (rows2 w.files), encS w.feats, encS w.libs, .str o1.name, .lst 2 (some (b + 1)) (rows2 o1.exps), .arr (b + 2) (o1.imps.length + 1), .lst 6 none (o1.body.map encD), .int .i64 (e2)] o1.exps.length (o1.imps.map encSet ++ [encSet S]) ++ (ex ++ [.box (encD a), .box (encSet S)])) (fun _x => True) rfl (by kernel_rfl) ?_ ?_
      ·simp only [bz17, bz28, gw2, qqE, ↓reduceIte, qqA, qqL, qqD, qqM, ite_self, wX_b hb, wX_1 hb, wX_2 hb, wX_sb hb, wX_s1 hb, wX_s2 hb, hset1, hget1, hw1, encSet_len, encSet_take]
       repeat' (first | exact ⟨rfl, rfl, (), rfl, rfl, trivial⟩ | omega | apply And.intro)
      ·rintro - -
       simp only [bz28, gw2, qqE, ↓reduceIte, qqA, qqL, qqD, qqM, ite_self, wX_b hb, wX_1 hb, wX_2 hb, wX_sb hb, wX_s1 hb, wX_s2 hb, Env.keep, next_i64 hlt (by omega)]
       refine ⟨(i + 1, { o1 with imps := o1.imps ++ [S] }, e2), ⟨wkE_refl _, wQ st w b { o1 with imps := o1.imps ++ [S] } e2 ++ ex, [.box (encD a), .box (encSet S)], ?_, wkSt_refl _, hlE _ _ _, hE _ _, by simp [wQ_len]⟩, by dsimp only; omega, hlt, ?_, hI⟩
       ·rw [List.append_assoc]
        congr 1
        unfold wX wQ uQ wE cQ
        simp
       ·simp only [decide_eq_false_iff_not] at h7
        simp; omega
     ·rw [h8, cond_false] at hI
      simp only [gw2, qqE, ↓reduceIte, qqA, qqL, qqD, qqM, ite_self, Env.keep, next_i64 hlt (by omega)]
      refine ⟨(i + 1, o1, e1), ⟨wkE_refl _, wQ st w b o1 e1 ++ ex, [.box (encD a)], by simp, wkSt_refl _, hlE _ _ _, hE _ _, by simp [wQ_len]⟩, by dsimp only; omega, hlt, hx1, hI⟩
  rw [show decide (wd = wImport) = false from h3, cond_false] at hG
  simp only [gw2, qqE, ↓reduceIte, qqA, qqL, qqD, qqM, ite_self]
  refine iK_split (fun h4 => ?_) (fun h4 => ?_)
  ·rw [show decide (wd = wBegin) = true from h4, cond_true] at hG
   simp only [bz1, gw2, qqE, ↓reduceIte, qqA, qqL, qqD, qqM, ite_self, lstD]
   refine ⟨⟨by omega, by omega⟩, ?_⟩
   refine (c_wbody w t o 0 (fun _ => ho.2.2) (by have := ho.2.2; omega) (by omega) st b hb ex).use (wkL_refl _) fun _ => ?_
   simp only [gw2, qqE, ↓reduceIte, qqA, qqL, qqD, qqM, ite_self]
   rw [hG]
   exact gives_self trivial (hE _ _)
  rw [show decide (wd = wBegin) = false from h4, cond_false] at hG
  simp only [gw2, qqE, ↓reduceIte, qqA, qqL, qqD, qqM, ite_self]
  refine iK_split (fun h5 => ?_) (fun h5 => ?_)
  ·rw [show decide (wd = wInclude) = true from h5, cond_true] at hG
   simp only [bz1, gw2, qqE, ↓reduceIte, qqA, qqL, qqD, qqM, ite_self, lstD]
   refine ⟨⟨by omega, by omega⟩, ?_⟩
   have hlE : ∀ (o' : Lib') (e' : Int) (i : Nat), ltE (wQ st w b o' e' ++ ex).length [(0, true, .ptr b 0), (177, true, lstD t), (178, true, .int .i64 t.length), (179, true, .int .i64 i)] := fun o' e' i => by
    have q3 := lstD_lt (wQ st w b o' e' ++ ex).length t
    simp only [lstD, V.lt] at q3
    simp only [ltE, V.lt]
    exact ⟨by simp [wQ_len]; omega, q3, trivial, trivial, trivial⟩
   refine vforD (σ := Nat × Lib' × Int) [0, 177, 178, 179] (fun x => [(0, true, .ptr b 0), (177, true, lstD t), (178, true, .int .i64 t.length), (179, true, .int .i64 x.1)]) (fun x => wQ st w b x.2.1 x.2.2 ++ ex) (fun x => t.length - x.1) (fun x => x.1 ≤ t.length ∧ x.2.1.body.length ≤ 200 ∧ includeW w t o 0 = includeW w (t.drop x.1) x.2.1 x.2.2) (0, o, 0) rfl TT_ok ⟨Nat.zero_le _, ho.2.2, rfl⟩ (wkE_refl _) rfl ?_
   rintro ⟨i, o1, e1⟩ ⟨hi, hx1, hI⟩
   simp only at hi hx1 hI ⊢
   rcases at_or_end t i hi with ⟨rfl, hdd⟩ | ⟨a, hlt, hget, hdr⟩
   ·rw [hI, hdd, includeW] at hG
    simp only [gw2, qqE, ↓reduceIte, qqA, qqL, qqD, qqM, ite_self, lt_no, lstD]
    rw [hG]
    exact gives_self trivial (hE _ _)
   ·rw [hI, hdr, includeW] at hG
    rw [hdr, includeW] at hI
    have hma : okM a := okMs_mem htm (List.mem_of_getElem? hget)
    simp only [bz1, gw2, qqE, ↓reduceIte, qqA, qqL, qqD, qqM, ite_self, lt_yes hlt, getD_map hget, Int.ofNat_lt.mpr hlt, lstD]
    refine (q_word hb w o1 e1 (ex ++ [.box (encD a)]) a).use (wkL_refl _) fun _ => ?_
    have hw0 : (wordW a e1).2 = 0 → e1 = 0 := fun h => by
     by_cases h2 : e1 = 0
     ·exact h2
     ·rw [wordW_no h2] at h; exact h
    generalize wordW a e1 = q at hG hI hw0 ⊢
    obtain ⟨nn, e2⟩ := q
    simp only at hG hI hw0 ⊢
    simp only [gw2, qqE, ↓reduceIte, qqA, qqL, qqD, qqM, ite_self]
    refine (q_good hb w o1 e2 (ex ++ [.box (encD a)])).use (wkL_refl _) fun _ => ?_
    simp only [gw2, qqE, ↓reduceIte, qqA, qqL, qqD, qqM, ite_self]
    refine iK_split (fun h7 => ?_) (fun h7 => ?_)
    ·rw [h7, cond_true] at hG
     simp only [gw2, qqE, ↓reduceIte, qqA, qqL, qqD, qqM, ite_self]
     rw [hG, ← List.append_assoc]
     exact gives_of (wk_refl _) (wkSt_refl _) trivial (hE _ _)
    rw [h7, cond_false] at hI
    have h7' : e2 = 0 := by simpa using h7
    subst h7'
    have hfl : w.files.length ≤ 9223372036854775807 := by omega
    simp only [bz10, gw2, qqE, ↓reduceIte, qqA, qqL, qqD, qqM, ite_self, lstD, wQ_b hb]
    refine vforD (σ := Nat × Bool × Lib' × Int) [0, 16, 17, 177, 178, 179, 192, 193, 194] (fun x => [(0, true, .ptr b 0), (16, true, .str nn), (17, true, .bool x.2.1), (177, true, lstD t), (178, true, .int .i64 t.length), (179, true, .int .i64 i), (192, true, .lst 2 none (rows2 w.files)), (193, true, .int .i64 w.files.length), (194, true, .int .i64 x.1)]) (fun x => wQ st w b x.2.2.1 x.2.2.2 ++ (ex ++ [.box (encD a)])) (fun x => w.files.length - x.1) (fun x => x.1 ≤ w.files.length ∧ x.2.2.1.body.length ≤ 200 ∧ (x.2.1 = false → x.2.2 = (o1, 0) ∧ fileOf nn w.files = fileOf nn (w.files.drop x.1)) ∧ (x.2.1 = true → includeW w t o 0 = includeW w (t.drop (i + 1)) x.2.2.1 x.2.2.2)) (0, false, o1, 0) rfl TT_ok ⟨Nat.zero_le _, hx1, fun _ => ⟨rfl, rfl⟩, fun h => by cases h⟩ (wkE_refl _) rfl ?_
    rintro ⟨j, fd, o2, e2⟩ ⟨hj, hx2, hF, hT⟩
    simp only at hj hx2 hF hT ⊢
    have hlE2 : ∀ (o' : Lib') (e' : Int) (fd : Bool) (j : Nat), ltE (wQ st w b o' e' ++ (ex ++ [Ent.box (encD a)])).length [(0, true, .ptr b 0), (16, true, .str nn), (17, true, .bool fd), (177, true, lstD t), (178, true, .int .i64 t.length), (179, true, .int .i64 i), (192, true, .lst 2 none (rows2 w.files)), (193, true, .int .i64 w.files.length), (194, true, .int .i64 j)] := fun o' e' fd j => by
     have q3 := lstD_lt (wQ st w b o' e' ++ (ex ++ [Ent.box (encD a)])).length t
     simp only [lstD, V.lt] at q3
     simp only [ltE, V.lt]
     exact ⟨by simp [wQ_len]; omega, trivial, trivial, q3, trivial, trivial, ⟨fun e h => (by cases h), rows2_lt _ _⟩, trivial, trivial, trivial⟩
    have hE2 : ∀ (o' : Lib') (e' : Int), St.ok (wQ st w b o' e' ++ (ex ++ [Ent.box (encD a)])) := fun o' e' => by
     rw [← List.append_assoc]
     exact ok_app (hE _ _) ⟨encD_lt _ _, trivial⟩
    rcases at_or_end w.files j hj with ⟨rfl, hdd2⟩ | ⟨f, hlt2, hget2, hdr2⟩
    ·simp only [gw2, qqE, ↓reduceIte, qqA, qqL, qqD, qqM, ite_self, lt_no]
     cases fd with
     | false =>
      obtain ⟨h8, h9⟩ := hF rfl
      rw [hdd2] at h9
      rw [h9] at hI
      simp only [fileOf] at hI
      simp only [Prod.mk.injEq] at h8
      obtain ⟨rfl, rfl⟩ := h8
      simp only [gw2, qqE, ↓reduceIte, qqA, qqL, qqD, qqM, ite_self, Bool.not_false]
      refine (q_stop hb w o2 0 (ex ++ [.box (encD a)]) 6).use (wkL_refl _) fun _ => ?_
      simp only [gw2, qqE, ↓reduceIte, qqA, qqL, qqD, qqM, ite_self, Env.keep, next_i64 hlt (by omega)]
      refine ⟨(i + 1, o2, stp 0 6), ⟨wkE_refl _, wQ st w b o2 (stp 0 6) ++ ex, [.box (encD a)], by simp, wkSt_refl _, hlE _ _ _, hE _ _, by simp [wQ_len]⟩, by dsimp only; omega, hlt, hx1, hI⟩
     | true =>
      simp only [gw2, qqE, ↓reduceIte, qqA, qqL, qqD, qqM, ite_self, Bool.not_true, Env.keep, next_i64 hlt (by omega)]
      refine ⟨(i + 1, o2, e2), ⟨wkE_refl _, wQ st w b o2 e2 ++ ex, [.box (encD a)], by simp, wkSt_refl _, hlE _ _ _, hE _ _, by simp [wQ_len]⟩, by dsimp only; omega, hlt, hx2, hT rfl⟩
    ·have hg : (rows2 w.files).getD j [] = encF2 f := getD_map (f := encF2) hget2
     simp only [bz10, gw2, qqE, ↓reduceIte, qqA, qqL, qqD, qqM, ite_self, lt_yes hlt2, hg, encF2, Int.ofNat_lt.mpr hlt2, lstD, Int.toNat_natCast]
     refine iK_split (fun h8 => ?_) (fun h8 => ?_)
     ·simp only [gw2, qqE, ↓reduceIte, qqA, qqL, qqD, qqM, ite_self, Env.keep, next_i64 hlt2 hfl]
      refine ⟨(j + 1, fd, o2, e2), ⟨wkE_refl _, wQ st w b o2 e2 ++ (ex ++ [.box (encD a)]), [.box [.str f.1, .str f.2]], by simp, wkSt_refl _, hlE2 _ _ _ _, hE2 _ _, by simp [wQ_len]⟩, by dsimp only; omega, hlt2, hx2, fun h9 => ?_, hT⟩
      simp only at h9
      subst h9
      obtain ⟨h10, h11⟩ := hF rfl
      have h12 : decide (f.1 = nn) = false := by simpa using h8
      rw [hdr2, fileOf, h12, cond_false] at h11
      exact ⟨h10, h11⟩
     ·obtain ⟨h9, rfl⟩ := Bool.or_eq_false_iff.1 h8
      have h12 : decide (f.1 = nn) = true := by simpa using h9
      obtain ⟨h10, h11⟩ := hF rfl
      simp only [Prod.mk.injEq] at h10
      obtain ⟨rfl, rfl⟩ := h10
      rw [hdr2, fileOf, h12, cond_true] at h11
      rw [h11] at hI
      simp only at hI
      simp only [bz1, gw2, qqE, ↓reduceIte, qqA, qqL, qqD, qqM, ite_self, lstD]
      refine (c_refRead f.2 _).use (wkL_refl _) fun _ => ?_
      cases hr : readR f.2 with
      | inl g =>
       have hg0 := read_bad hr
       have hg1 : decide (g.1 = 0) = false := by simpa using hg0
       rw [hr] at hI
       simp only [readV, fltV] at hI ⊢
       simp only [bz1, gw2, qqE, ↓reduceIte, qqA, qqL, qqD, qqM, ite_self, lstD, hg1, Bool.not_false]
       refine (q_stop hb w o2 0 (ex ++ [.box (encD a), .box [.str f.1, .str f.2], .box [.int .i64 g.1, .int .i64 g.2]]) g.1).use (wkL_refl _) fun _ => ?_
       rw [show stp 0 g.1 = g.1 from rfl]
       simp only [gw2, qqE, ↓reduceIte, qqA, qqL, qqD, qqM, ite_self]
       refine (c_wbody w [] o2 g.1 (fun _ => hx2) (by omega) (by simp) st b hb (ex ++ [.box (encD a), .box [.str f.1, .str f.2], .box [.int .i64 g.1, .int .i64 g.2]])).use (wkL_refl _) fun _ => ?_
       have hbl := bodyW_len [] (e := g.1) hx2
       generalize bodyW [] o2 g.1 = q at hI hbl ⊢
       obtain ⟨o3, e3⟩ := q
       simp only [gw2, qqE, ↓reduceIte, qqA, qqL, qqD, qqM, ite_self, Env.keep, next_i64 hlt2 hfl]
       refine ⟨(j + 1, true, o3, e3), ⟨wkE_refl _, wQ st w b o3 e3 ++ (ex ++ [.box (encD a)]), [.box [.str f.1, .str f.2], .box [.int .i64 g.1, .int .i64 g.2]], by simp, wkSt_refl _, hlE2 _ _ _ _, hE2 _ _, by simp [wQ_len]⟩, by dsimp only; omega, hlt2, hbl, fun h => (by cases h), fun _ => hI⟩
      | inr kk =>
       have hkl := readR_small hr
       rw [hr] at hI
       simp only [readV, fltV] at hI ⊢
       simp only [bz1, gw2, qqE, ↓reduceIte, qqA, qqL, qqD, qqM, ite_self, lstD, show decide ((0 : Int) = 0) = true from rfl, Bool.not_true]
       refine (c_wbody w kk o2 0 (fun _ => hx2) (by omega) (by omega) st b hb (ex ++ [.box (encD a), .box [.str f.1, .str f.2], .box [.int .i64 0, .int .i64 0]])).use (wkL_refl _) fun _ => ?_
       have hbl := bodyW_len kk (e := 0) hx2
       generalize bodyW kk o2 0 = q at hI hbl ⊢
       obtain ⟨o3, e3⟩ := q
       simp only [gw2, qqE, ↓reduceIte, qqA, qqL, qqD, qqM, ite_self, Env.keep, next_i64 hlt2 hfl]
       refine ⟨(j + 1, true, o3, e3), ⟨wkE_refl _, wQ st w b o3 e3 ++ (ex ++ [.box (encD a)]), [.box [.str f.1, .str f.2], .box [.int .i64 0, .int .i64 0]], by simp, wkSt_refl _, hlE2 _ _ _ _, hE2 _ _, by simp [wQ_len]⟩, by dsimp only; omega, hlt2, hbl, fun h => (by cases h), fun _ => hI⟩
  rw [show decide (wd = wInclude) = false from h5, cond_false] at hG
  simp only [gw2, qqE, ↓reduceIte, qqA, qqL, qqD, qqM, ite_self]
  refine iK_split (fun h6 => ?_) (fun h6 => ?_)
  ·rw [show decide (wd = wCond) = true from h6, cond_true] at hG
   simp only [bz1, gw2, qqE, ↓reduceIte, qqA, qqL, qqD, qqM, ite_self, lstD]
   refine ⟨⟨by omega, by omega⟩, ?_⟩
   refine vforD (σ := Nat) [0, 230, 231, 232] (fun i => [(0, true, .ptr b 0), (230, true, lstD t), (231, true, .int .i64 t.length), (232, true, .int .i64 i)]) (fun i => wQ st w b o 0 ++ ex) (fun i => t.length - i) (fun i => i ≤ t.length ∧ condW w t o = condW w (t.drop i) o) 0 rfl TT_ok ⟨Nat.zero_le _, rfl⟩ (wkE_refl _) rfl ?_
   rintro i ⟨hi, hI⟩
   rw [hI] at hG
   rcases at_or_end t i hi with ⟨rfl, hdd⟩ | ⟨a, hlt, hget, hdr⟩
   ·rw [hdd, condW] at hG
    simp only [gw2, qqE, ↓reduceIte, qqA, qqL, qqD, qqM, ite_self, lt_no, lstD]
    rw [hG]
    exact gives_self trivial (hE _ _)
   ·rw [hdr] at hG hI
    have hma : okM a := okMs_mem htm (List.mem_of_getElem? hget)
    have hsa := size_mem (List.mem_of_getElem? hget)
    obtain ⟨ka, na, nma, sa, la, kidsa⟩ := a
    rw [condW_cons] at hG hI
    simp only [bz16, gw2, qqE, ↓reduceIte, qqA, qqL, qqD, qqM, ite_self, lt_yes hlt, getD_map hget, Int.ofNat_lt.mpr hlt, lstD]
    refine (q_need hb w o 0 (ex ++ [.box [.int .i64 ka, .int .i64 na, .str nma, .int .i64 sa, .int .i64 la, .lst 6 none (kidsa.map encD)]]) (.mk ka na nma sa la kidsa) 1 (by omega)).use (by rw [encD_mk]; exact wkL_refl _) fun _ => ?_
    have hn1 := needW_0 1 (.mk ka na nma sa la kidsa)
    by_cases hl1 : (listP 1 (.mk ka na nma sa la kidsa)).2 = 0
    rotate_left
    ·have hc2 : (listP 1 (.mk ka na nma sa la kidsa)).2 = 2 ∧ G = (o, 2) := by
      rw [hG]
      simp only [listP] at hl1 ⊢
      cases e : decide (ka = 4) with
      | false => exact ⟨rfl, rfl⟩
      | true =>
       rw [e] at hl1
       cases kidsa with
       | nil => exact ⟨rfl, rfl⟩
       | cons x t => simp at hl1
     rw [show needW 1 (.mk ka na nma sa la kidsa) 0 = ([zD], 2) from Prod.ext (needW_bad hl1) (hn1.1.trans hc2.1)]
     simp only [gw2, qqE, ↓reduceIte, qqA, qqL, qqD, qqM, ite_self]
     refine (q_good hb w o 2 (ex ++ [.box [.int .i64 ka, .int .i64 na, .str nma, .int .i64 sa, .int .i64 la, .lst 6 none (kidsa.map encD)]])).use (wkL_refl _) fun _ => ?_
     simp only [bz26, gw2, qqE, ↓reduceIte, qqA, qqL, qqD, qqM, ite_self]
     rw [hc2.2, ← List.append_assoc]
     exact gives_of (wk_refl _) (wkSt_refl _) trivial (hE _ _)
    have hka4 : ka = 4 ∧ kidsa ≠ [] ∧ (listP 1 (.mk ka na nma sa la kidsa)).1 = kidsa := by
     simp only [listP] at hl1 ⊢
     cases e : !decide (ka = 4) || decide (kidsa.length < 1) with
     | true => rw [e] at hl1; simp at hl1
     | false =>
      simp only [Bool.or_eq_false_iff, Bool.not_eq_false', decide_eq_true_eq, decide_eq_false_iff_not] at e
      exact ⟨e.1, fun h => by rw [h] at e; simp at e, rfl⟩
    obtain ⟨hka4, hnea, hkka⟩ := hka4
    have hmk := hma
    rw [okM] at hmk
    obtain ⟨hkla, hksa⟩ := hmk.2 hka4
    rw [show needW 1 (.mk ka na nma sa la kidsa) 0 = (kidsa, 0) from Prod.ext ((hn1.2 hl1).trans hkka) (hn1.1.trans hl1)]
    rw [decide_eq_true hka4, Bool.not_true, cond_false] at hG hI
    cases kidsa with
    | nil => exact absurd rfl hnea
    | cons h u =>
     simp only at hG hI
     have hul : u.length + 1 ≤ 2000 := hkla
     have hum : okMs u := hksa.2
     have hus : SizeOf.sizeOf u < SizeOf.sizeOf t := by
      have g2 := size_kids ka na nma sa la (h :: u)
      have g3 : SizeOf.sizeOf u < SizeOf.sizeOf (h :: u) := by simp; omega
      omega
     obtain ⟨kh, nh, nmh, sh, lh, kidsh⟩ := h
     simp only [gw2, qqE, ↓reduceIte, qqA, qqL, qqD, qqM, ite_self]
     refine (q_good hb w o 0 (ex ++ [.box [.int .i64 ka, .int .i64 na, .str nma, .int .i64 sa, .int .i64 la, .lst 6 none ((Datum.mk kh nh nmh sh lh kidsh :: u).map encD)]])).use (wkL_refl _) fun _ => ?_
     simp only [bz16, gw2, qqE, ↓reduceIte, qqA, qqL, qqD, qqM, ite_self, show decide ((0 : Int) = 0) = true from rfl, Bool.not_true, lstD]
     have hlG : ((0 : Int) ≤ 0 ∧ (0 : Int) < ((u.length + 1 : Nat) : Int)) := ⟨by omega, by omega⟩
     cases h8 : (decide (kh = 3) && decide (nmh = [101, 108, 115, 101])) with
     | true =>
      have hel : isElse (.mk kh nh nmh sh lh kidsh) = true := h8
      rw [hel, cond_true] at hG
      simp only [gw2, qqE, ↓reduceIte, qqA, qqL, qqD, qqM, ite_self, h8, Bool.not_true]
      refine ⟨hlG, fun _ => hlG, rK_not (.bool true) ?_⟩
      simp only [gw2, qqE, ↓reduceIte, qqA, qqL, qqD, qqM, ite_self]
      refine (q_good hb w o 0 (ex ++ [.box [.int .i64 ka, .int .i64 na, .str nma, .int .i64 sa, .int .i64 la, .lst 6 none ([.int .i64 kh, .int .i64 nh, .str nmh, .int .i64 sh, .int .i64 lh, .lst 6 none (kidsh.map encD)] :: u.map encD)]])).use (wkL_refl _) fun _ => ?_
      simp only [bz16, gw2, qqE, ↓reduceIte, qqA, qqL, qqD, qqM, ite_self, show decide ((0 : Int) = 0) = true from rfl, Bool.not_true, lstD]
      refine ⟨⟨by omega, by omega⟩, ?_⟩
      refine vforD (σ := Nat × Lib' × Int) [0, 266, 267, 268] (fun x => [(0, true, .ptr b 0), (266, true, .lst 6 none (u.map encD)), (267, true, .int .i64 u.length), (268, true, .int .i64 x.1)]) (fun x => wQ st w b x.2.1 x.2.2 ++ (ex ++ [.box [.int .i64 ka, .int .i64 na, .str nma, .int .i64 sa, .int .i64 la, .lst 6 none ([.int .i64 kh, .int .i64 nh, .str nmh, .int .i64 sh, .int .i64 lh, .lst 6 none (kidsh.map encD)] :: u.map encD)]])) (fun x => u.length - x.1) (fun x => x.1 ≤ u.length ∧ (x.2.2 = 0 → okO x.2.1) ∧ declsW w u o = (bif decide (x.2.2 = 0) then declsW w (u.drop x.1) x.2.1 else (x.2.1, x.2.2))) (0, o, 0) rfl TT_ok ⟨Nat.zero_le _, fun _ => ho, rfl⟩ (wkE_refl _) rfl ?_
      rintro ⟨j, o2, e2⟩ ⟨hj, hok2, hJ⟩
      simp only at hj hok2 hJ ⊢
      rcases at_or_end u j hj with ⟨rfl, hdd2⟩ | ⟨x, hlt2, hget2, hdr2⟩
      ·have hG2 : G = (o2, e2) := by
        rw [hG, hJ, hdd2]
        cases h : decide (e2 = 0) with
        | true => rw [of_decide_eq_true h]; rfl
        | false => rfl
       simp only [gw2, qqE, ↓reduceIte, qqA, qqL, qqD, qqM, ite_self, lt_no, lstD]
       rw [hG2, ← List.append_assoc]
       exact gives_of (wk_refl _) (wkSt_refl _) trivial (hE _ _)
      ·rw [hdr2, declsW_cons] at hJ
       have hsx := size_mem (List.mem_of_getElem? hget2)
       have hmx : okM x := okMs_mem hum (List.mem_of_getElem? hget2)
       have hE2 : ∀ (o' : Lib') (e' : Int), St.ok (wQ st w b o' e' ++ (ex ++ [Ent.box [.int .i64 ka, .int .i64 na, .str nma, .int .i64 sa, .int .i64 la, .lst 6 none ([.int .i64 kh, .int .i64 nh, .str nmh, .int .i64 sh, .int .i64 lh, .lst 6 none (kidsh.map encD)] :: u.map encD)]])) := fun o' e' => by
        rw [← List.append_assoc]
        refine ok_app (hE _ _) ⟨?_, trivial⟩
        have q1 := encD_lt ((wQ st w b o' e' ++ ex).length + 1) (.mk ka na nma sa la (.mk kh nh nmh sh lh kidsh :: u))
        rw [encD_mk, List.map_cons, encD_mk] at q1
        exact q1
       have hlE2 : ∀ (o' : Lib') (e' : Int) (j : Nat), ltE (wQ st w b o' e' ++ (ex ++ [Ent.box [.int .i64 ka, .int .i64 na, .str nma, .int .i64 sa, .int .i64 la, .lst 6 none ([.int .i64 kh, .int .i64 nh, .str nmh, .int .i64 sh, .int .i64 lh, .lst 6 none (kidsh.map encD)] :: u.map encD)]])).length [(0, true, .ptr b 0), (266, true, .lst 6 none (u.map encD)), (267, true, .int .i64 u.length), (268, true, .int .i64 j)] := fun o' e' j => by
        have q3 := lstD_lt (wQ st w b o' e' ++ (ex ++ [Ent.box [.int .i64 ka, .int .i64 na, .str nma, .int .i64 sa, .int .i64 la, .lst 6 none ([.int .i64 kh, .int .i64 nh, .str nmh, .int .i64 sh, .int .i64 lh, .lst 6 none (kidsh.map encD)] :: u.map encD)]])).length u
        simp only [lstD, V.lt] at q3
        simp only [ltE, V.lt]
        exact ⟨by simp [wQ_len]; omega, q3, trivial, trivial, trivial⟩
       simp only [bz1, gw2, qqE, ↓reduceIte, qqA, qqL, qqD, qqM, ite_self, lt_yes hlt2, getD_map hget2, Int.ofNat_lt.mpr hlt2, lstD]
       refine (q_good hb w o2 e2 (ex ++ [.box [.int .i64 ka, .int .i64 na, .str nma, .int .i64 sa, .int .i64 la, .lst 6 none ([.int .i64 kh, .int .i64 nh, .str nmh, .int .i64 sh, .int .i64 lh, .lst 6 none (kidsh.map encD)] :: u.map encD)], .box (encD x)])).use (wkL_refl _) fun _ => ?_
       simp only [gw2, qqE, ↓reduceIte, qqA, qqL, qqD, qqM, ite_self]
       refine iK_split (fun h11 => ?_) (fun h11 => ?_)
       ·obtain rfl := of_decide_eq_true h11
        rw [h11, cond_true] at hJ
        simp only [bz1, gw2, qqE, ↓reduceIte, qqA, qqL, qqD, qqM, ite_self, lstD]
        refine (hrec x (by omega) hmx o2 (hok2 rfl) st (ex ++ [.box [.int .i64 ka, .int .i64 na, .str nma, .int .i64 sa, .int .i64 la, .lst 6 none ([.int .i64 kh, .int .i64 nh, .str nmh, .int .i64 sh, .int .i64 lh, .lst 6 none (kidsh.map encD)] :: u.map encD)], .box (encD x)]) hb).use (wkL_refl _) fun _ => ?_
        have hag := declW_0 w x o2 (hok2 rfl)
        have hok3 : (declW w x o2).2 = 0 → okO (declW w x o2).1 := fun h => by
         rw [hag.eq (hag.1.symm.trans h)]
         exact declD_ok w x o2 (hok2 rfl)
        generalize declW w x o2 = q at hJ hok3 ⊢
        obtain ⟨o3, e3⟩ := q
        simp only [gw2, qqE, ↓reduceIte, qqA, qqL, qqD, qqM, ite_self, Env.keep, next_i64 hlt2 (by omega)]
        refine ⟨(j + 1, o3, e3), ⟨wkE_refl _, wQ st w b o3 e3 ++ (ex ++ [.box [.int .i64 ka, .int .i64 na, .str nma, .int .i64 sa, .int .i64 la, .lst 6 none ([.int .i64 kh, .int .i64 nh, .str nmh, .int .i64 sh, .int .i64 lh, .lst 6 none (kidsh.map encD)] :: u.map encD)]]), [.box (encD x)], by simp, wkSt_refl _, hlE2 _ _ _, hE2 _ _, by simp [wQ_len]⟩, by dsimp only; omega, hlt2, hok3, hJ⟩
       ·rw [h11, cond_false] at hJ
        simp only [gw2, qqE, ↓reduceIte, qqA, qqL, qqD, qqM, ite_self, Env.keep, next_i64 hlt2 (by omega)]
        refine ⟨(j + 1, o2, e2), ⟨wkE_refl _, wQ st w b o2 e2 ++ (ex ++ [.box [.int .i64 ka, .int .i64 na, .str nma, .int .i64 sa, .int .i64 la, .lst 6 none ([.int .i64 kh, .int .i64 nh, .str nmh, .int .i64 sh, .int .i64 lh, .lst 6 none (kidsh.map encD)] :: u.map encD)]]), [.box (encD x)], by simp, wkSt_refl _, hlE2 _ _ _, hE2 _ _, by simp [wQ_len]⟩, by dsimp only; omega, hlt2, hok2, by rw [hJ, h11]; rfl⟩
     | false =>
      have hel : isElse (.mk kh nh nmh sh lh kidsh) = false := h8
      rw [hel, cond_false] at hG hI
      simp only [gw2, qqE, ↓reduceIte, qqA, qqL, qqD, qqM, ite_self, h8, Bool.not_false]
      refine ⟨hlG, fun _ => hlG, hlG, rK_go ?_⟩
      have hsh : okM (.mk kh nh nmh sh lh kidsh) := hksa.1
      refine (c_wholds w o b _ (.mk kh nh nmh sh lh kidsh) (Nat.lt_succ_self _) hsh st (ex ++ [.box [.int .i64 ka, .int .i64 na, .str nma, .int .i64 sa, .int .i64 la, .lst 6 none ([.int .i64 kh, .int .i64 nh, .str nmh, .int .i64 sh, .int .i64 lh, .lst 6 none (kidsh.map encD)] :: u.map encD)]]) hb).use (by rw [encD_mk]; exact wkL_refl _) fun _ => ?_
      simp only [gw2, qqE, ↓reduceIte, qqA, qqL, qqD, qqM, ite_self]
      refine (q_good hb w o _ (ex ++ [.box [.int .i64 ka, .int .i64 na, .str nma, .int .i64 sa, .int .i64 la, .lst 6 none ([.int .i64 kh, .int .i64 nh, .str nmh, .int .i64 sh, .int .i64 lh, .lst 6 none (kidsh.map encD)] :: u.map encD)]])).use (wkL_refl _) fun _ => ?_
      simp only [gw2, qqE, ↓reduceIte, qqA, qqL, qqD, qqM, ite_self]
      refine iK_split (fun h9 => ?_) (fun h9 => ?_)
      ·rw [h9, cond_true] at hG
       simp only [gw2, qqE, ↓reduceIte, qqA, qqL, qqD, qqM, ite_self]
       rw [hG, ← List.append_assoc]
       exact gives_of (wk_refl _) (wkSt_refl _) trivial (hE _ _)
      ·rw [h9, cond_false] at hG hI
       have h9' : (holdsW w (.mk kh nh nmh sh lh kidsh)).2 = 0 := by simpa using h9
       rw [h9']
       simp only [gw2, qqE, ↓reduceIte, qqA, qqL, qqD, qqM, ite_self]
       refine iK_split (fun h10 => ?_) (fun h10 => ?_)
       ·rw [h10, cond_true] at hG
        simp only [bz16, gw2, qqE, ↓reduceIte, qqA, qqL, qqD, qqM, ite_self, lstD]
        refine ⟨⟨by omega, by omega⟩, ?_⟩
        refine vforD (σ := Nat × Lib' × Int) [0, 266, 267, 268] (fun x => [(0, true, .ptr b 0), (266, true, .lst 6 none (u.map encD)), (267, true, .int .i64 u.length), (268, true, .int .i64 x.1)]) (fun x => wQ st w b x.2.1 x.2.2 ++ (ex ++ [.box [.int .i64 ka, .int .i64 na, .str nma, .int .i64 sa, .int .i64 la, .lst 6 none ([.int .i64 kh, .int .i64 nh, .str nmh, .int .i64 sh, .int .i64 lh, .lst 6 none (kidsh.map encD)] :: u.map encD)]])) (fun x => u.length - x.1) (fun x => x.1 ≤ u.length ∧ (x.2.2 = 0 → okO x.2.1) ∧ declsW w u o = (bif decide (x.2.2 = 0) then declsW w (u.drop x.1) x.2.1 else (x.2.1, x.2.2))) (0, o, 0) rfl TT_ok ⟨Nat.zero_le _, fun _ => ho, rfl⟩ (wkE_refl _) rfl ?_
        rintro ⟨j, o2, e2⟩ ⟨hj, hok2, hJ⟩
        simp only at hj hok2 hJ ⊢
        rcases at_or_end u j hj with ⟨rfl, hdd2⟩ | ⟨x, hlt2, hget2, hdr2⟩
        ·have hG2 : G = (o2, e2) := by
          rw [hG, hJ, hdd2]
          cases h : decide (e2 = 0) with
          | true => rw [of_decide_eq_true h]; rfl
          | false => rfl
         simp only [gw2, qqE, ↓reduceIte, qqA, qqL, qqD, qqM, ite_self, lt_no, lstD]
         rw [hG2, ← List.append_assoc]
         exact gives_of (wk_refl _) (wkSt_refl _) trivial (hE _ _)
        ·rw [hdr2, declsW_cons] at hJ
         have hsx := size_mem (List.mem_of_getElem? hget2)
         have hmx : okM x := okMs_mem hum (List.mem_of_getElem? hget2)
         have hE2 : ∀ (o' : Lib') (e' : Int), St.ok (wQ st w b o' e' ++ (ex ++ [Ent.box [.int .i64 ka, .int .i64 na, .str nma, .int .i64 sa, .int .i64 la, .lst 6 none ([.int .i64 kh, .int .i64 nh, .str nmh, .int .i64 sh, .int .i64 lh, .lst 6 none (kidsh.map encD)] :: u.map encD)]])) := fun o' e' => by
          rw [← List.append_assoc]
          refine ok_app (hE _ _) ⟨?_, trivial⟩
          have q1 := encD_lt ((wQ st w b o' e' ++ ex).length + 1) (.mk ka na nma sa la (.mk kh nh nmh sh lh kidsh :: u))
          rw [encD_mk, List.map_cons, encD_mk] at q1
          exact q1
         have hlE2 : ∀ (o' : Lib') (e' : Int) (j : Nat), ltE (wQ st w b o' e' ++ (ex ++ [Ent.box [.int .i64 ka, .int .i64 na, .str nma, .int .i64 sa, .int .i64 la, .lst 6 none ([.int .i64 kh, .int .i64 nh, .str nmh, .int .i64 sh, .int .i64 lh, .lst 6 none (kidsh.map encD)] :: u.map encD)]])).length [(0, true, .ptr b 0), (266, true, .lst 6 none (u.map encD)), (267, true, .int .i64 u.length), (268, true, .int .i64 j)] := fun o' e' j => by
          have q3 := lstD_lt (wQ st w b o' e' ++ (ex ++ [Ent.box [.int .i64 ka, .int .i64 na, .str nma, .int .i64 sa, .int .i64 la, .lst 6 none ([.int .i64 kh, .int .i64 nh, .str nmh, .int .i64 sh, .int .i64 lh, .lst 6 none (kidsh.map encD)] :: u.map encD)]])).length u
          simp only [lstD, V.lt] at q3
          simp only [ltE, V.lt]
          exact ⟨by simp [wQ_len]; omega, q3, trivial, trivial, trivial⟩
         simp only [bz1, gw2, qqE, ↓reduceIte, qqA, qqL, qqD, qqM, ite_self, lt_yes hlt2, getD_map hget2, Int.ofNat_lt.mpr hlt2, lstD]
         refine (q_good hb w o2 e2 (ex ++ [.box [.int .i64 ka, .int .i64 na, .str nma, .int .i64 sa, .int .i64 la, .lst 6 none ([.int .i64 kh, .int .i64 nh, .str nmh, .int .i64 sh, .int .i64 lh, .lst 6 none (kidsh.map encD)] :: u.map encD)], .box (encD x)])).use (wkL_refl _) fun _ => ?_
         simp only [gw2, qqE, ↓reduceIte, qqA, qqL, qqD, qqM, ite_self]
         refine iK_split (fun h11 => ?_) (fun h11 => ?_)
         ·obtain rfl := of_decide_eq_true h11
          rw [h11, cond_true] at hJ
          simp only [bz1, gw2, qqE, ↓reduceIte, qqA, qqL, qqD, qqM, ite_self, lstD]
          refine (hrec x (by omega) hmx o2 (hok2 rfl) st (ex ++ [.box [.int .i64 ka, .int .i64 na, .str nma, .int .i64 sa, .int .i64 la, .lst 6 none ([.int .i64 kh, .int .i64 nh, .str nmh, .int .i64 sh, .int .i64 lh, .lst 6 none (kidsh.map encD)] :: u.map encD)], .box (encD x)]) hb).use (wkL_refl _) fun _ => ?_
          have hag := declW_0 w x o2 (hok2 rfl)
          have hok3 : (declW w x o2).2 = 0 → okO (declW w x o2).1 := fun h => by
           rw [hag.eq (hag.1.symm.trans h)]
           exact declD_ok w x o2 (hok2 rfl)
          generalize declW w x o2 = q at hJ hok3 ⊢
          obtain ⟨o3, e3⟩ := q
          simp only [gw2, qqE, ↓reduceIte, qqA, qqL, qqD, qqM, ite_self, Env.keep, next_i64 hlt2 (by omega)]
          refine ⟨(j + 1, o3, e3), ⟨wkE_refl _, wQ st w b o3 e3 ++ (ex ++ [.box [.int .i64 ka, .int .i64 na, .str nma, .int .i64 sa, .int .i64 la, .lst 6 none ([.int .i64 kh, .int .i64 nh, .str nmh, .int .i64 sh, .int .i64 lh, .lst 6 none (kidsh.map encD)] :: u.map encD)]]), [.box (encD x)], by simp, wkSt_refl _, hlE2 _ _ _, hE2 _ _, by simp [wQ_len]⟩, by dsimp only; omega, hlt2, hok3, hJ⟩
         ·rw [h11, cond_false] at hJ
          simp only [gw2, qqE, ↓reduceIte, qqA, qqL, qqD, qqM, ite_self, Env.keep, next_i64 hlt2 (by omega)]
          refine ⟨(j + 1, o2, e2), ⟨wkE_refl _, wQ st w b o2 e2 ++ (ex ++ [.box [.int .i64 ka, .int .i64 na, .str nma, .int .i64 sa, .int .i64 la, .lst 6 none ([.int .i64 kh, .int .i64 nh, .str nmh, .int .i64 sh, .int .i64 lh, .lst 6 none (kidsh.map encD)] :: u.map encD)]]), [.box (encD x)], by simp, wkSt_refl _, hlE2 _ _ _, hE2 _ _, by simp [wQ_len]⟩, by dsimp only; omega, hlt2, hok2, by rw [hJ, h11]; rfl⟩
       ·rw [h10, cond_false] at hG hI
        simp only [gw2, qqE, ↓reduceIte, qqA, qqL, qqD, qqM, ite_self, Env.keep, next_i64 hlt (by omega)]
        refine ⟨i + 1, ⟨wkE_refl _, wQ st w b o 0 ++ ex, [.box [.int .i64 ka, .int .i64 na, .str nma, .int .i64 sa, .int .i64 la, .lst 6 none ([.int .i64 kh, .int .i64 nh, .str nmh, .int .i64 sh, .int .i64 lh, .lst 6 none (kidsh.map encD)] :: u.map encD)]], by simp, wkSt_refl _, ?_, hE _ _, by simp [wQ_len]⟩, by omega, hlt, hI⟩
        have q3 := lstD_lt (wQ st w b o 0 ++ ex).length t
        simp only [lstD, V.lt] at q3
        simp only [ltE, V.lt]
        exact ⟨by simp [wQ_len]; omega, q3, trivial, trivial, trivial⟩
  rw [show decide (wd = wCond) = false from h6, cond_false] at hG
  simp only [gw2, qqE, ↓reduceIte, qqA, qqL, qqD, qqM, ite_self]
  refine (q_stop hb w o 0 ex 2).use (wkL_refl _) fun _ => ?_
  simp only [gw2, qqE, ↓reduceIte, qqA, qqL, qqD, qqM, ite_self]
  rw [hG]
  exact gives_self trivial (hE _ _)
end Go.Proofs.YtpllcpbhjglpaaaGreatDoor.Gx
namespace Go.Proofs.YtpllcpbhjglpaaaGreatDoor.Gx
open Go Go.Proofs.YtpllcpbhjglpaaaGreatDoor.Gw
open Nat renaming reduceEqDiff → qqE, reduceAdd → qqA, reduceLT → qqL, reduceLeDiff → qqD, reduceMul → qqM
set_option linter.unusedSimpArgs false
set_option linter.unusedVariables false
theorem c_wdeclN (w : Wd) (b : Nat) : ∀ N, DeclW w b N
 | 0 => fun _ d h => by omega
 | N + 1 => c_wdecl1 w b N (c_wdeclN w b N)
theorem c_wdecl (w : Wd) (hW : w.files.length ≤ 30) (b : Nat) (d : Datum) (hd : okM d) (o : Lib') (ho : okO o) (st : St) (hb : b + 2 < st.length) :
  VCalls Tryz.prog TT 26 [.ptr b 0, .agg (encD d)] (wQ st w b o 0) fun r st' => r = .ret (.tup []) ∧ st' = wQ st w b (declW w d o).1 (declW w d o).2 := by
 have h := c_wdeclN w b _ hW d (Nat.lt_succ_self _) hd o ho st [] hb
 simpa only [List.append_nil] using h
theorem at_4 (st : St) (A B C D E : Ent) : (st ++ (A :: B :: C :: D :: [E]))[st.length + 4]? = some E := by simp
theorem bz5 : type_of% @List.drop_succ_cons.{0} ∧ type_of% @List.drop_zero.{0} ∧ type_of% @List.getD_cons_succ.{0} ∧ type_of% @List.getD_cons_zero.{0} ∧ type_of% @List.length_cons.{0} ∧ type_of% @List.length_map.{0,0} ∧ type_of% @List.length_nil.{0} ∧ type_of% @List.map_cons.{0,0} ∧ type_of% @List.map_nil.{0,0} ∧ type_of% @Nat.le_refl ∧ type_of% @encD_drop ∧ type_of% @encD_len ∧ type_of% @encD_take ∧ (Int.toNat 0 = 0) ∧ (Int.toNat 1 = 1) ∧ (Int.toNat 2 = 2) := ⟨@List.drop_succ_cons.{0}, @List.drop_zero.{0}, @List.getD_cons_succ.{0}, @List.getD_cons_zero.{0}, @List.length_cons.{0}, @List.length_map.{0,0}, @List.length_nil.{0}, @List.map_cons.{0,0}, @List.map_nil.{0,0}, @Nat.le_refl, @encD_drop, @encD_len, @encD_take, rfl, rfl, rfl⟩
set_option maxHeartbeats 8000000 in
theorem c_refParse3 (w : Wd) (dt : Datum) (st : St) : VCalls Tryz.prog TT 7 [.lst 2 none (rows2 w.files), encS w.feats, encS w.libs, .agg (encD dt)] st fun r st' => r = .ret (libV (parseP w dt)) ∧ st' = st := by
 refine VCalls.freeze (Q := fun r s' => ∃ v u ex, r = .ret v ∧ s' = st ++ ex ∧ Thaw s' st.length v u ∧ wk u (libV (parseP w dt)) ∧ (libV (parseP w dt)).lt st.length) ?_ (fun r s' h => h)
 have hz : ∀ e : Int, wk (.tup [.agg [.str [], .nils, .nils, .nils], .int .i64 e]) (libV (noLib, e)) := fun e =>
  wk_tup (wkL_cons (wk_agg (wkL_cons (wk_refl _) (wkL_cons (wk_nils _) (wkL_cons (wk_nils _) (wkL_cons (wk_nils _) wkL_nil))))) (wkL_cons (wk_refl _) wkL_nil))
 refine vfunQ TT_ok (an := anL [(7, 1)]) (L := [0, 1, 2, 3, 7, 8, 9, 10, 11, 12, 13, 14, 15]) (rs := [.cell 8 30, .tmp 9]) Tryz.func7 rfl (by kernel_rfl) rfl Tryz.ntmps7 rfl rfl fun hst ha hf => ?_
 simp only [bz24, gw2, qqE, ↓reduceIte, qqA, qqL, qqD, qqM, ite_self]
 refine (c_ref_Wrong _ [dt]).use (wkL_refl _) fun _ => ?_
 simp only [fltV]
 simp only [gw2, qqE, ↓reduceIte, qqA, qqL, qqD, qqM, ite_self]
 have hp0 : parseP w dt = bif !decide ((wrongL [dt] 0 0).1 = 0) then (noLib, (wrongL [dt] 0 0).1)
   else bif decide ((30 : Int) < w.files.length) then (noLib, 5)
   else bif decide ((topP w dt).2 = 0) then topP w dt else (noLib, (topP w dt).2) := rfl
 refine iK_split (fun h => ?_) (fun h => ?_)
 ·rw [h, cond_true] at hp0
  simp only [gw2, qqE, ↓reduceIte, qqA, qqL, qqD, qqM, ite_self]
  refine vmelt 10 (st.length + 1) _ rfl (by simp only [gwL]; rfl) ?_
  simp only [gw2, qqE, ↓reduceIte, qqA, qqL, qqD, qqM, ite_self, meltE]
  refine vdraw TT_ok TT_mixed [0, 0, 0, 2, 0] (by kernel_rfl) ?_
  simp only [gw2, qqE, ↓reduceIte, qqA, qqL, qqD, qqM, ite_self]
  rw [hp0]
  exact ⟨_, _, _, rfl, rfl, .same _, hz _, libV_lt _ _⟩
 rw [h, cond_false] at hp0
 have hok := wrongL_okM (of_decide_eq_true (by simpa using h))
 generalize (wrongL [dt] 0 0).1 = f1
 generalize (wrongL [dt] 0 0).2 = f2
 simp only [gw2, qqE, ↓reduceIte, qqA, qqL, qqD, qqM, ite_self, rows2_len]
 refine iK_split (fun h2 => ?_) (fun h2 => ?_)
 ·rw [h2, cond_true] at hp0
  simp only [gw2, qqE, ↓reduceIte, qqA, qqL, qqD, qqM, ite_self]
  rw [hp0]
  exact ⟨_, _, _, rfl, rfl, .same _, hz _, libV_lt _ _⟩
 rw [h2, cond_false] at hp0
 have hW : w.files.length ≤ 30 := by simp only [decide_eq_false_iff_not] at h2; omega
 simp only [bz24, gw2, qqE, ↓reduceIte, qqA, qqL, qqD, qqM, ite_self, encS]
 have hWQ : ∀ (o : Lib') (e : Int), wQ (st ++ [Ent.box zLib, Ent.box [.int .i64 f1, .int .i64 f2], Ent.gone, Ent.gone, Ent.gone]) w (st.length + 2) o e = st ++ [.box zLib, .box [.int .i64 f1, .int .i64 f2], wE (cQ w (st.length + 2) o) e, .tip 65 o.exps.length, .arr 69 6 (o.imps.map encSet)] := fun o e => by
  unfold wQ uQ
  rw [List.set_append_right _ _ (by omega), List.set_append_right _ _ (by omega), List.set_append_right _ _ (by omega)]
  simp only [show st.length + 2 - st.length = 2 by omega, show st.length + 2 + 1 - st.length = 3 by omega, show st.length + 2 + 2 - st.length = 4 by omega, List.set_cons_succ, List.set_cons_zero]
 have hb0 : st.length + 2 + 2 < (st ++ [Ent.box zLib, Ent.box [.int .i64 f1, .int .i64 f2], Ent.gone, Ent.gone, Ent.gone]).length := by simp
 have good : ∀ (o : Lib') (e : Int), VCalls Tryz.prog TT 23 [.ptr (st.length + 2) 0] (wQ (st ++ [Ent.box zLib, Ent.box [.int .i64 f1, .int .i64 f2], Ent.gone, Ent.gone, Ent.gone]) w (st.length + 2) o e) fun r st' => r = .ret (.bool (decide (e = 0))) ∧ st' = wQ (st ++ [Ent.box zLib, Ent.box [.int .i64 f1, .int .i64 f2], Ent.gone, Ent.gone, Ent.gone]) w (st.length + 2) o e := fun o e => by simpa only [List.append_nil] using q_good hb0 w o e []
 have stop : ∀ (o : Lib') (e x : Int), VCalls Tryz.prog TT 25 [.ptr (st.length + 2) 0, .int .i64 x] (wQ (st ++ [Ent.box zLib, Ent.box [.int .i64 f1, .int .i64 f2], Ent.gone, Ent.gone, Ent.gone]) w (st.length + 2) o e) fun r st' => r = .ret (.tup []) ∧ st' = wQ (st ++ [Ent.box zLib, Ent.box [.int .i64 f1, .int .i64 f2], Ent.gone, Ent.gone, Ent.gone]) w (st.length + 2) o (stp e x) := fun o e x => by simpa only [List.append_nil] using q_stop hb0 w o e [] x
 have word : ∀ (o : Lib') (e : Int) (d : Datum), VCalls Tryz.prog TT 22 [.ptr (st.length + 2) 0, .agg (encD d)] (wQ (st ++ [Ent.box zLib, Ent.box [.int .i64 f1, .int .i64 f2], Ent.gone, Ent.gone, Ent.gone]) w (st.length + 2) o e) fun r st' => r = .ret (.str (wordW d e).1) ∧ st' = wQ (st ++ [Ent.box zLib, Ent.box [.int .i64 f1, .int .i64 f2], Ent.gone, Ent.gone, Ent.gone]) w (st.length + 2) o (wordW d e).2 := fun o e d => by simpa only [List.append_nil] using q_word hb0 w o e [] d
 have need : ∀ (o : Lib') (e : Int) (d : Datum) (n : Nat), n ≤ 3 → VCalls Tryz.prog TT 21 [.ptr (st.length + 2) 0, .agg (encD d), .int .i64 n] (wQ (st ++ [Ent.box zLib, Ent.box [.int .i64 f1, .int .i64 f2], Ent.gone, Ent.gone, Ent.gone]) w (st.length + 2) o e) fun r st' => r = .ret (lstD (needW n d e).1) ∧ st' = wQ (st ++ [Ent.box zLib, Ent.box [.int .i64 f1, .int .i64 f2], Ent.gone, Ent.gone, Ent.gone]) w (st.length + 2) o (needW n d e).2 := fun o e d n hn => by simpa only [List.append_nil] using q_need hb0 w o e [] d n hn
 have name : ∀ (o : Lib') (e : Int) (d : Datum), okM d → VCalls Tryz.prog TT 24 [.ptr (st.length + 2) 0, .agg (encD d)] (wQ (st ++ [Ent.box zLib, Ent.box [.int .i64 f1, .int .i64 f2], Ent.gone, Ent.gone, Ent.gone]) w (st.length + 2) o e) fun r st' => r = .ret (.str (nameW d e).1) ∧ st' = wQ (st ++ [Ent.box zLib, Ent.box [.int .i64 f1, .int .i64 f2], Ent.gone, Ent.gone, Ent.gone]) w (st.length + 2) o (nameW d e).2 := fun o e d hd => by simpa only [List.append_nil] using q_name hb0 w o e [] d hd
 have hn0 : VCalls Tryz.prog TT 21 [.ptr (st.length + 2) 0, .agg (encD dt), .int .i64 1] (st ++ [.box zLib, .box [.int .i64 f1, .int .i64 f2], wE (cQ w (st.length + 2) noLib) 0, .tip 65 noLib.exps.length, .arr 69 6 (noLib.imps.map encSet)]) fun r st' => r = .ret (lstD (needW 1 dt 0).1) ∧ st' = wQ (st ++ [Ent.box zLib, Ent.box [.int .i64 f1, .int .i64 f2], Ent.gone, Ent.gone, Ent.gone]) w (st.length + 2) noLib (needW 1 dt 0).2 := by
  rw [← hWQ]
  exact need noLib 0 dt 1 (by omega)
 refine VCalls.more [65] (s0 := st ++ [.box [.str [], .nils, .nils, .nils], .box [.int .i64 f1, .int .i64 f2], .box [.lst 2 none (rows2 w.files), .lst 1 none (w.feats.map fun s => [.str s]), .lst 1 none (w.libs.map fun s => [.str s]), .str [], .lst 2 (some (st.length + 3)) [], .nils, .lst 6 none [], .int .i64 0]]) ?_ (wkL_refl _) ?_
 rotate_left
 ·refine (wkSt_refl _).append (wkSt_cons (Ent.wkp_refl _) (wkSt_cons (Ent.wkp_refl _) (wkSt_cons (Ent.wk_box ?_) wkSt_nil)))
  exact wkL_cons (wk_refl _) (wkL_cons (wk_refl _) (wkL_cons (wk_refl _) (wkL_cons (wk_refl _) (wkL_cons (wk_tip _ (by simp [Tips])) (wkL_cons (wk_refl _) (wkL_cons (wk_nils _) (wkL_cons (wk_refl _) wkL_nil)))))))
 simp only [bz30, tips, List.map_cons, List.map_nil]
 refine VCalls.nilB (st.length + 2) 5 [.lst 2 none (rows2 w.files), .lst 1 none (w.feats.map fun s => [.str s]), .lst 1 none (w.libs.map fun s => [.str s]), .str [], .lst 2 (some (st.length + 3)) [], .nils, .lst 6 none [], .int .i64 0] 69 (by simp) rfl ?_
 simp only [bz33, bz30, Nat.reduceAdd, List.set_cons_succ, List.set_cons_zero]
 rw [List.set_append_right _ _ (by omega)]
 simp only [show st.length + 2 - st.length = 2 by omega, List.set_cons_succ, List.set_cons_zero]
 have hT6 : (TT 69).size = 6 := rfl
 rw [hT6]
 refine hn0.use (wkL_refl _) fun _ => ?_
 have ht0 : topP w dt = thenE (listP 1 dt) noLib fun k => thenE (symP (k.getD 0 (.mk 0 0 [] 0 0 []))) noLib fun s =>
  bif decide (s = wLibrary) then thenE (listP 2 dt) noLib fun k2 => thenE (calledP (k2.getD 1 (.mk 0 0 [] 0 0 []))) noLib fun nm => declsL w (k.drop 2) { noLib with name := nm }
  else bif decide (s = wProgram) then declsL w (k.drop 1) noLib
  else (noLib, 2) := rfl
 have hpe : ∀ e : Int, (topP w dt).2 = e → e ≠ 0 → parseP w dt = (noLib, e) := fun e h1 h2 => by rw [hp0, h1, decide_eq_false h2]; rfl
 have hok0 : okO noLib := ⟨by simp [noLib], by simp [noLib], by simp [noLib]⟩
 obtain ⟨n1, n2⟩ := needW_0 1 dt
 by_cases hl : (listP 1 dt).2 = 0
 rotate_left
 ·rw [thenE_bad hl] at ht0
  have hl2 : (listP 1 dt).2 = 2 := by
   obtain ⟨k, m, nm, s, l, kids⟩ := dt
   simp only [listP] at hl ⊢
   cases e : !decide (k = 4) || decide (kids.length < 1) with
   | true => rfl
   | false => rw [e] at hl; exact absurd rfl hl
  have hp2 := hpe 2 (by rw [ht0]; exact hl2) (by decide)
  rw [show needW 1 dt 0 = ([zD], 2) from Prod.ext (needW_bad hl) (n1.trans hl2)]
  simp only [bz5, gw2, qqE, ↓reduceIte, qqA, qqL, qqD, qqM, ite_self, lstD]
  refine ⟨⟨by omega, by decide⟩, ?_⟩
  refine (word noLib 2 zD).use (wkL_refl _) fun _ => ?_
  rw [show wordW zD 2 = ([], 2) from rfl]
  simp only [gw2, qqE, ↓reduceIte, qqA, qqL, qqD, qqM, ite_self, show decide (([] : List UInt8) = [108, 105, 98, 114, 97, 114, 121]) = false from rfl, show decide (([] : List UInt8) = [112, 114, 111, 103, 114, 97, 109]) = false from rfl, Bool.not_false]
  refine (stop noLib 2 2).use (wkL_refl _) fun _ => ?_
  rw [show stp 2 2 = 2 from rfl]
  simp only [gw2, qqE, ↓reduceIte, qqA, qqL, qqD, qqM, ite_self]
  refine vfor (σ := Nat) [8, 9, 11, 12, 15] (fun x => [(8, true, .ptr st.length 0), (9, true, .int .i64 0), (11, true, .ptr (st.length + 2) 0), (12, true, .lst 6 none [encD zD]), (15, true, .int .i64 1)]) (fun x => wQ (st ++ [Ent.box zLib, Ent.box [.int .i64 f1, .int .i64 f2], Ent.gone, Ent.gone, Ent.gone]) w (st.length + 2) noLib 2) (fun x => 0) (fun x => x = 0) 0 rfl TT_ok rfl rfl rfl ?_
  rintro x -
  simp only [bz5, gw2, qqE, ↓reduceIte, qqA, qqL, qqD, qqM, ite_self, lstD]
  refine rK_guarded (.bool (decide (2 = 0))) (fun _ => good noLib 2) ?_
  simp only [gw2, qqE, ↓reduceIte, qqA, qqL, qqD, qqM, ite_self, show decide ((2 : Int) = 0) = false from rfl, Bool.and_false]
  refine (good noLib 2).use (wkL_refl _) fun _ => ?_
  simp only [bz26, gw2, qqE, ↓reduceIte, qqA, qqL, qqD, qqM, ite_self]
  rw [hWQ]
  simp only [bz29, wE, cQ, zLib]
  refine vmelt 11 (st.length + 2) _ rfl (by simp only [gwL]; rfl) ?_
  simp only [gw2, qqE, ↓reduceIte, qqA, qqL, qqD, qqM, ite_self, meltE]
  refine vdraw TT_ok TT_mixed [0, 0, 0, 0, 0, 2, 0] (by kernel_rfl) ?_
  simp only [gw2, qqE, ↓reduceIte, qqA, qqL, qqD, qqM, ite_self]
  rw [hp2]
  exact ⟨_, _, _, rfl, rfl, .same _, hz _, libV_lt _ _⟩
 have hm := listP_okM hok hl
 rw [thenE_ok hl] at ht0
 rw [show needW 1 dt 0 = ((listP 1 dt).1, 0) from Prod.ext (n2 hl) (n1.trans hl)]
 obtain ⟨kk, hkk⟩ : ∃ kk, (listP 1 dt).1 = kk := ⟨_, rfl⟩
 rw [hkk] at ht0 hm ⊢
 cases kk with
 | nil => have := hm.2.2; simp at this
 | cons a r =>
  simp only [List.getD_cons_zero] at ht0
  simp only [bz5, gw2, qqE, ↓reduceIte, qqA, qqL, qqD, qqM, ite_self, lstD]
  refine ⟨⟨by omega, by omega⟩, ?_⟩
  refine (word noLib 0 a).use (wkL_refl _) fun _ => ?_
  rw [wordW_0]
  by_cases hs : (symP a).2 = 0
  rotate_left
  ·rw [thenE_bad hs] at ht0
   have hs2 : symP a = ([], 2) := by
    obtain ⟨k, m, nm, s, l, kids⟩ := a
    simp only [symP] at hs ⊢
    cases e : decide (k = 3) with
    | true => rw [e] at hs; exact absurd rfl hs
    | false => rfl
   rw [hs2] at ht0 ⊢
   have hp2 := hpe 2 (by rw [ht0]) (by decide)
   simp only [gw2, qqE, ↓reduceIte, qqA, qqL, qqD, qqM, ite_self, show decide (([] : List UInt8) = [108, 105, 98, 114, 97, 114, 121]) = false from rfl, show decide (([] : List UInt8) = [112, 114, 111, 103, 114, 97, 109]) = false from rfl, Bool.not_false]
   refine (stop noLib 2 2).use (wkL_refl _) fun _ => ?_
   rw [show stp 2 2 = 2 from rfl]
   simp only [gw2, qqE, ↓reduceIte, qqA, qqL, qqD, qqM, ite_self]
   refine vfor (σ := Nat) [8, 9, 11, 12, 15] (fun x => [(8, true, .ptr st.length 0), (9, true, .int .i64 0), (11, true, .ptr (st.length + 2) 0), (12, true, .lst 6 none (encD a :: r.map encD)), (15, true, .int .i64 1)]) (fun x => wQ (st ++ [Ent.box zLib, Ent.box [.int .i64 f1, .int .i64 f2], Ent.gone, Ent.gone, Ent.gone]) w (st.length + 2) noLib 2) (fun x => 0) (fun x => x = 0) 0 rfl TT_ok rfl rfl rfl ?_
   rintro x -
   simp only [bz5, gw2, qqE, ↓reduceIte, qqA, qqL, qqD, qqM, ite_self, lstD]
   refine rK_guarded (.bool (decide (2 = 0))) (fun _ => good noLib 2) ?_
   simp only [gw2, qqE, ↓reduceIte, qqA, qqL, qqD, qqM, ite_self, show decide ((2 : Int) = 0) = false from rfl, Bool.and_false]
   refine (good noLib 2).use (wkL_refl _) fun _ => ?_
   simp only [bz26, gw2, qqE, ↓reduceIte, qqA, qqL, qqD, qqM, ite_self]
   rw [hWQ]
   simp only [bz29, wE, cQ, zLib]
   refine vmelt 11 (st.length + 2) _ rfl (by simp only [gwL]; rfl) ?_
   simp only [gw2, qqE, ↓reduceIte, qqA, qqL, qqD, qqM, ite_self, meltE]
   refine vdraw TT_ok TT_mixed [0, 0, 0, 0, 0, 2, 0] (by kernel_rfl) ?_
   simp only [gw2, qqE, ↓reduceIte, qqA, qqL, qqD, qqM, ite_self]
   rw [hp2]
   exact ⟨_, _, _, rfl, rfl, .same _, hz _, libV_lt _ _⟩
  rw [thenE_ok hs] at ht0
  rw [hs]
  generalize (symP a).1 = wd at ht0
  simp only [gw2, qqE, ↓reduceIte, qqA, qqL, qqD, qqM, ite_self]
  refine iK_split (fun h3 => ?_) (fun h3 => ?_)
  ·rw [show decide (wd = wLibrary) = true from h3, cond_true] at ht0
   simp only [bz24, gw2, qqE, ↓reduceIte, qqA, qqL, qqD, qqM, ite_self]
   refine (need noLib 0 dt 2 (by omega)).use (wkL_refl _) fun _ => ?_
   obtain ⟨m1, m2⟩ := needW_0 2 dt
   by_cases hl3 : (listP 2 dt).2 = 0
   rotate_left
   ·rw [thenE_bad hl3] at ht0
    have hl2 : (listP 2 dt).2 = 2 := by
     obtain ⟨k, m, nm, s, l, kids⟩ := dt
     simp only [listP] at hl3 ⊢
     cases e : !decide (k = 4) || decide (kids.length < 2) with
     | true => rfl
     | false => rw [e] at hl3; exact absurd rfl hl3
    have hp2 := hpe 2 (by rw [ht0]; exact hl2) (by decide)
    rw [show needW 2 dt 0 = ([zD, zD], 2) from Prod.ext (needW_bad hl3) (m1.trans hl2)]
    simp only [bz5, gw2, qqE, ↓reduceIte, qqA, qqL, qqD, qqM, ite_self, lstD]
    refine (good noLib 2).use (wkL_refl _) fun _ => ?_
    simp only [gw2, qqE, ↓reduceIte, qqA, qqL, qqD, qqM, ite_self, show decide ((2 : Int) = 0) = false from rfl]
    refine vfor (σ := Nat) [8, 9, 11, 12, 15] (fun x => [(8, true, .ptr st.length 0), (9, true, .int .i64 0), (11, true, .ptr (st.length + 2) 0), (12, true, .lst 6 none [encD zD, encD zD]), (15, true, .int .i64 2)]) (fun x => wQ (st ++ [Ent.box zLib, Ent.box [.int .i64 f1, .int .i64 f2], Ent.gone, Ent.gone, Ent.gone]) w (st.length + 2) noLib 2) (fun x => 0) (fun x => x = 0) 0 rfl TT_ok rfl rfl rfl ?_
    rintro x -
    simp only [bz5, gw2, qqE, ↓reduceIte, qqA, qqL, qqD, qqM, ite_self, lstD]
    refine rK_guarded (.bool (decide (2 = 0))) (fun _ => good noLib 2) ?_
    simp only [gw2, qqE, ↓reduceIte, qqA, qqL, qqD, qqM, ite_self, show decide ((2 : Int) = 0) = false from rfl, Bool.and_false]
    refine (good noLib 2).use (wkL_refl _) fun _ => ?_
    simp only [bz26, gw2, qqE, ↓reduceIte, qqA, qqL, qqD, qqM, ite_self]
    rw [hWQ]
    simp only [bz29, wE, cQ, zLib]
    refine vmelt 11 (st.length + 2) _ rfl (by simp only [gwL]; rfl) ?_
    simp only [gw2, qqE, ↓reduceIte, qqA, qqL, qqD, qqM, ite_self, meltE]
    refine vdraw TT_ok TT_mixed [0, 0, 0, 0, 0, 2, 0] (by kernel_rfl) ?_
    simp only [gw2, qqE, ↓reduceIte, qqA, qqL, qqD, qqM, ite_self]
    rw [hp2]
    exact ⟨_, _, _, rfl, rfl, .same _, hz _, libV_lt _ _⟩
   have hks : (listP 2 dt).1 = a :: r := by rw [← hkk]; exact listP_same hl hl3
   rw [thenE_ok hl3, hks] at ht0
   have hm4 := listP_okM hok hl3
   rw [hks] at hm4
   rw [show needW 2 dt 0 = (a :: r, 0) from Prod.ext ((m2 hl3).trans hks) (m1.trans hl3)]
   cases r with
   | nil => have := hm4.2.2; simp at this
   | cons y z =>
    simp only [bz29, List.drop_succ_cons, List.drop_zero] at ht0
    have hmy : okM y := okMs_mem hm4.1 (by simp)
    have hmr : okMs z := hm4.1.2.2
    have hzl : z.length + 2 ≤ 2000 := hm4.2.1
    simp only [gw2, qqE, ↓reduceIte, qqA, qqL, qqD, qqM, ite_self]
    refine (good noLib 0).use (wkL_refl _) fun _ => ?_
    simp only [bz5, gw2, qqE, ↓reduceIte, qqA, qqL, qqD, qqM, ite_self, show decide ((0 : Int) = 0) = true from rfl, lstD]
    refine ⟨⟨by omega, by omega⟩, ?_⟩
    refine (name noLib 0 y hmy).use (wkL_refl _) fun _ => ?_
    obtain ⟨q1, q2⟩ := nameW_0 y
    have hst1 : ∀ (nm : Str) (e : Int), (wQ (st ++ [Ent.box zLib, Ent.box [.int .i64 f1, .int .i64 f2], Ent.gone, Ent.gone, Ent.gone]) w (st.length + 2) noLib e).set (st.length + 2) (.box [.lst 2 none (rows2 w.files), encS w.feats, encS w.libs, .str nm, .lst 2 (some (st.length + 3)) [], .arr (st.length + 4) 0, .lst 6 none [], .int .i64 e]) = wQ (st ++ [Ent.box zLib, Ent.box [.int .i64 f1, .int .i64 f2], Ent.gone, Ent.gone, Ent.gone]) w (st.length + 2) { noLib with name := nm } e := fun nm e => by
     rw [hWQ, hWQ, List.set_append_right _ _ (by omega)]
     simp only [show st.length + 2 - st.length = 2 by omega, List.set_cons_succ, List.set_cons_zero]
     rfl
    have hat1 : ∀ (e : Int), (wQ (st ++ [Ent.box zLib, Ent.box [.int .i64 f1, .int .i64 f2], Ent.gone, Ent.gone, Ent.gone]) w (st.length + 2) noLib e)[st.length + 2]? = some (.box [.lst 2 none (rows2 w.files), encS w.feats, encS w.libs, .str [], .lst 2 (some (st.length + 3)) [], .arr (st.length + 4) 0, .lst 6 none [], .int .i64 e]) := fun e => wQ_b0 hb0 w noLib e
    by_cases hc : (calledP y).2 = 0
    rotate_left
    ·rw [thenE_bad hc] at ht0
     have hp2 := hpe _ (by rw [ht0]) hc
     rw [show nameW y 0 = ((nameW y 0).1, (calledP y).2) from Prod.ext rfl q1]
     generalize (nameW y 0).1 = nm
     generalize hcg : (calledP y).2 = e9 at hc hp2
     simp only [bz5, gw2, qqE, ↓reduceIte, qqA, qqL, qqD, qqM, ite_self, hat1, hst1, lstD]
     refine vfor (σ := Nat) [8, 9, 11, 12, 15] (fun x => [(8, true, .ptr st.length 0), (9, true, .int .i64 0), (11, true, .ptr (st.length + 2) 0), (12, true, .lst 6 none (encD a :: encD y :: z.map encD)), (15, true, .int .i64 2)]) (fun x => wQ (st ++ [Ent.box zLib, Ent.box [.int .i64 f1, .int .i64 f2], Ent.gone, Ent.gone, Ent.gone]) w (st.length + 2) { noLib with name := nm } e9) (fun x => 0) (fun x => x = 0) 0 rfl TT_ok rfl rfl rfl ?_
     rintro x -
     simp only [bz5, gw2, qqE, ↓reduceIte, qqA, qqL, qqD, qqM, ite_self, lstD]
     refine rK_guarded (.bool (decide (e9 = 0))) (fun _ => good { noLib with name := nm } e9) ?_
     simp only [gw2, qqE, ↓reduceIte, qqA, qqL, qqD, qqM, ite_self, decide_eq_false hc, Bool.and_false]
     refine (good { noLib with name := nm } e9).use (wkL_refl _) fun _ => ?_
     simp only [gw2, qqE, ↓reduceIte, qqA, qqL, qqD, qqM, ite_self, decide_eq_false hc, Bool.not_false]
     rw [hWQ]
     simp only [bz29, wE, cQ, zLib]
     refine vmelt 11 (st.length + 2) _ rfl (by simp only [gwL]; rfl) ?_
     simp only [gw2, qqE, ↓reduceIte, qqA, qqL, qqD, qqM, ite_self, meltE]
     refine vdraw TT_ok TT_mixed [0, 0, 0, 0, 0, 2, 0] (by kernel_rfl) ?_
     simp only [gw2, qqE, ↓reduceIte, qqA, qqL, qqD, qqM, ite_self]
     rw [hp2]
     exact ⟨_, _, _, rfl, rfl, .same _, hz _, libV_lt _ _⟩
    ·rw [thenE_ok hc] at ht0
     rw [show nameW y 0 = ((calledP y).1, 0) from Prod.ext (q2 hc) (q1.trans hc)]
     generalize (calledP y).1 = nm at ht0
     have hok0 : okO { noLib with name := nm } := hok0
     have hag := declsW_0 w z { noLib with name := nm } hok0
     have hpok : ∀ of, declsW w z { noLib with name := nm } = (of, 0) → parseP w dt = (of, 0) := fun of h => by
      have h0 : (declsL w z { noLib with name := nm }).2 = 0 := by rw [← hag.1, h]
      rw [hp0, ht0, decide_eq_true h0, cond_true, ← hag.eq h0, h]
     have hpbad : ∀ of e, declsW w z { noLib with name := nm } = (of, e) → e ≠ 0 → parseP w dt = (noLib, e) := fun of e h he => hpe e (by rw [ht0, ← hag.1, h]) he
     simp only [bz5, gw2, qqE, ↓reduceIte, qqA, qqL, qqD, qqM, ite_self, hat1, hst1, lstD]
     refine vfor (σ := Nat × Lib' × Int) [8, 9, 11, 12, 15] (fun x => [(8, true, .ptr st.length 0), (9, true, .int .i64 0), (11, true, .ptr (st.length + 2) 0), (12, true, .lst 6 none (encD a :: encD y :: z.map encD)), (15, true, .int .i64 (2 + x.1 : Nat))]) (fun x => wQ (st ++ [Ent.box zLib, Ent.box [.int .i64 f1, .int .i64 f2], Ent.gone, Ent.gone, Ent.gone]) w (st.length + 2) x.2.1 x.2.2) (fun x => z.length - x.1) (fun x => x.1 ≤ z.length ∧ (x.2.2 = 0 → okO x.2.1) ∧ declsW w z { noLib with name := nm } = (bif decide (x.2.2 = 0) then declsW w (z.drop x.1) x.2.1 else (x.2.1, x.2.2))) (0, { noLib with name := nm }, 0) rfl TT_ok ⟨Nat.zero_le _, fun _ => hok0, rfl⟩ rfl rfl ?_
     rintro ⟨j, o2, e2⟩ ⟨hj, hok2, hJ⟩
     simp only at hj hok2 hJ ⊢
     have e10 : decide (((2 + j : Nat) : Int) < ((z.length + 2 : Nat) : Int)) = decide (j < z.length) := by by_cases h : j < z.length <;> simp [h] <;> omega
     simp only [bz5, gw2, qqE, ↓reduceIte, qqA, qqL, qqD, qqM, ite_self, lstD, e10]
     refine rK_guarded (.bool (decide (e2 = 0))) (fun _ => good o2 e2) ?_
     rcases at_or_end z j hj with ⟨rfl, hdd⟩ | ⟨x, hlt, hget, hdr⟩
     ·rw [hdd] at hJ
      simp only [gw2, qqE, ↓reduceIte, qqA, qqL, qqD, qqM, ite_self, show decide (z.length < z.length) = false by simp, Bool.false_and]
      by_cases he2 : e2 = 0
      ·subst he2
       have hJ2 : declsW w z { noLib with name := nm } = (o2, 0) := hJ
       refine (good o2 0).use (wkL_refl _) fun _ => ?_
       simp only [gw2, qqE, ↓reduceIte, qqA, qqL, qqD, qqM, ite_self, show decide ((0 : Int) = 0) = true from rfl, Bool.not_true]
       rw [hWQ]
       simp only [bz29, wE, cQ, zLib]
       simp only [gw2, qqE, ↓reduceIte, qqA, qqL, qqD, qqM, ite_self]
       rw [hpok o2 hJ2]
       refine ⟨_, _, _, rfl, rfl, .tup (.cons (.agg (.cons (.same _) (.cons (.same _) (.cons (.arr (rows' := o2.imps.map encSet) (e := 69) (by omega) (at_4 ..) (by simp) (ThawR.refl _)) (.cons (.same _) .nil))))) (.cons (.same _) .nil)), ?_, libV_lt _ _⟩
       exact wk_tup (wkL_cons (wk_agg (wkL_cons (wk_refl _) (wkL_cons (wk_tok _ _ _) (wkL_cons (wk_refl _) (wkL_cons (wk_refl _) wkL_nil))))) (wkL_cons (wk_refl _) wkL_nil))
      ·rw [decide_eq_false he2, cond_false] at hJ
       refine (good o2 e2).use (wkL_refl _) fun _ => ?_
       simp only [gw2, qqE, ↓reduceIte, qqA, qqL, qqD, qqM, ite_self, decide_eq_false he2, Bool.not_false]
       rw [hWQ]
       simp only [bz29, wE, cQ, zLib]
       refine vmelt 11 (st.length + 2) _ rfl (by simp only [gwL]; rfl) ?_
       simp only [gw2, qqE, ↓reduceIte, qqA, qqL, qqD, qqM, ite_self, meltE]
       refine vdraw TT_ok TT_mixed [0, 0, 0, 0, 0, 2, 0] (by kernel_rfl) ?_
       simp only [gw2, qqE, ↓reduceIte, qqA, qqL, qqD, qqM, ite_self]
       rw [hpbad o2 e2 hJ he2]
       exact ⟨_, _, _, rfl, rfl, .same _, hz _, libV_lt _ _⟩
     ·rw [hdr, declsW_cons] at hJ
      have hmx : okM x := okMs_mem hmr (List.mem_of_getElem? hget)
      by_cases he2 : e2 = 0
      ·subst he2
       rw [decide_eq_true (rfl : (0 : Int) = 0), cond_true] at hJ
       have hg0 : ((encD a :: encD y :: z.map encD)).getD (2 + j) [] = encD x := by
        rw [Nat.add_comm]
        simp [List.getD_eq_getElem?_getD, hget]
       have hlt3 : ((2 + j : Nat) : Int) < ((z.length + 2 : Nat) : Int) := by omega
       simp only [bz5, gw2, qqE, ↓reduceIte, qqA, qqL, qqD, qqM, ite_self, show decide (j < z.length) = true from decide_eq_true hlt, Bool.true_and, show decide ((0 : Int) = 0) = true from rfl, lstD, Int.toNat_natCast, hlt3, hg0]
       refine (c_wdecl w hW (st.length + 2) x hmx o2 (hok2 rfl) (st ++ [Ent.box zLib, Ent.box [.int .i64 f1, .int .i64 f2], Ent.gone, Ent.gone, Ent.gone]) hb0).use (wkL_refl _) fun _ => ?_
       have hag := declW_0 w x o2 (hok2 rfl)
       have hok3 : (declW w x o2).2 = 0 → okO (declW w x o2).1 := fun h => by
        rw [hag.eq (hag.1.symm.trans h)]
        exact declD_ok w x o2 (hok2 rfl)
       generalize declW w x o2 = q at hJ hok3 ⊢
       obtain ⟨o3, e3⟩ := q
       have hwj : IntKind.i64.wrap (((2 + j : Nat) : Int) + 1) = ((2 + (j + 1) : Nat) : Int) := by rw [wrap_i64 (by omega) (by omega)]; omega
       simp only [gw2, qqE, ↓reduceIte, qqA, qqL, qqD, qqM, ite_self, Env.keep, hwj]
       exact ⟨(j + 1, o3, e3), rfl, rfl, by dsimp only; omega, hlt, hok3, hJ⟩
      ·rw [decide_eq_false he2, cond_false] at hJ
       simp only [gw2, qqE, ↓reduceIte, qqA, qqL, qqD, qqM, ite_self, decide_eq_false he2, Bool.and_false]
       refine (good o2 e2).use (wkL_refl _) fun _ => ?_
       simp only [gw2, qqE, ↓reduceIte, qqA, qqL, qqD, qqM, ite_self, decide_eq_false he2, Bool.not_false]
       rw [hWQ]
       simp only [bz29, wE, cQ, zLib]
       refine vmelt 11 (st.length + 2) _ rfl (by simp only [gwL]; rfl) ?_
       simp only [gw2, qqE, ↓reduceIte, qqA, qqL, qqD, qqM, ite_self, meltE]
       refine vdraw TT_ok TT_mixed [0, 0, 0, 0, 0, 2, 0] (by kernel_rfl) ?_
       simp only [gw2, qqE, ↓reduceIte, qqA, qqL, qqD, qqM, ite_self]
       rw [hpbad o2 e2 hJ he2]
       exact ⟨_, _, _, rfl, rfl, .same _, hz _, libV_lt _ _⟩
  ·rw [show decide (wd = wLibrary) = false from h3, cond_false] at ht0
   simp only [gw2, qqE, ↓reduceIte, qqA, qqL, qqD, qqM, ite_self]
   refine iK_split (fun h4 => ?_) (fun h4 => ?_)
   ·have hwp : wd ≠ wProgram := of_decide_eq_false (not_yes h4)
    rw [decide_eq_false hwp, cond_false] at ht0
    have hp2 := hpe 2 (by rw [ht0]) (by decide)
    simp only [gw2, qqE, ↓reduceIte, qqA, qqL, qqD, qqM, ite_self]
    refine (stop noLib 0 2).use (wkL_refl _) fun _ => ?_
    rw [show stp 0 2 = 2 from rfl]
    simp only [gw2, qqE, ↓reduceIte, qqA, qqL, qqD, qqM, ite_self]
    refine vfor (σ := Nat) [8, 9, 11, 12, 15] (fun x => [(8, true, .ptr st.length 0), (9, true, .int .i64 0), (11, true, .ptr (st.length + 2) 0), (12, true, .lst 6 none (encD a :: r.map encD)), (15, true, .int .i64 1)]) (fun x => wQ (st ++ [Ent.box zLib, Ent.box [.int .i64 f1, .int .i64 f2], Ent.gone, Ent.gone, Ent.gone]) w (st.length + 2) noLib 2) (fun x => 0) (fun x => x = 0) 0 rfl TT_ok rfl rfl rfl ?_
    rintro x -
    simp only [bz5, gw2, qqE, ↓reduceIte, qqA, qqL, qqD, qqM, ite_self, lstD]
    refine rK_guarded (.bool (decide (2 = 0))) (fun _ => good noLib 2) ?_
    simp only [gw2, qqE, ↓reduceIte, qqA, qqL, qqD, qqM, ite_self, show decide ((2 : Int) = 0) = false from rfl, Bool.and_false]
    refine (good noLib 2).use (wkL_refl _) fun _ => ?_
    simp only [bz26, gw2, qqE, ↓reduceIte, qqA, qqL, qqD, qqM, ite_self]
    rw [hWQ]
    simp only [bz29, wE, cQ, zLib]
    refine vmelt 11 (st.length + 2) _ rfl (by simp only [gwL]; rfl) ?_
    simp only [gw2, qqE, ↓reduceIte, qqA, qqL, qqD, qqM, ite_self, meltE]
    refine vdraw TT_ok TT_mixed [0, 0, 0, 0, 0, 2, 0] (by kernel_rfl) ?_
    simp only [gw2, qqE, ↓reduceIte, qqA, qqL, qqD, qqM, ite_self]
    rw [hp2]
    exact ⟨_, _, _, rfl, rfl, .same _, hz _, libV_lt _ _⟩
   ·have hwp : wd = wProgram := of_decide_eq_true (not_no h4)
    rw [decide_eq_true hwp, cond_true] at ht0
    simp only [List.drop_succ_cons, List.drop_zero] at ht0
    have hmr : okMs r := hm.1.2
    have hrl : r.length + 1 ≤ 2000 := hm.2.1
    have hag := declsW_0 w r noLib hok0
    have hpok : ∀ of, declsW w r noLib = (of, 0) → parseP w dt = (of, 0) := fun of h => by
     have h0 : (declsL w r noLib).2 = 0 := by rw [← hag.1, h]
     rw [hp0, ht0, decide_eq_true h0, cond_true, ← hag.eq h0, h]
    have hpbad : ∀ of e, declsW w r noLib = (of, e) → e ≠ 0 → parseP w dt = (noLib, e) := fun of e h he => hpe e (by rw [ht0, ← hag.1, h]) he
    simp only [gw2, qqE, ↓reduceIte, qqA, qqL, qqD, qqM, ite_self]
    refine vfor (σ := Nat × Lib' × Int) [8, 9, 11, 12, 15] (fun x => [(8, true, .ptr st.length 0), (9, true, .int .i64 0), (11, true, .ptr (st.length + 2) 0), (12, true, .lst 6 none (encD a :: r.map encD)), (15, true, .int .i64 (1 + x.1 : Nat))]) (fun x => wQ (st ++ [Ent.box zLib, Ent.box [.int .i64 f1, .int .i64 f2], Ent.gone, Ent.gone, Ent.gone]) w (st.length + 2) x.2.1 x.2.2) (fun x => r.length - x.1) (fun x => x.1 ≤ r.length ∧ (x.2.2 = 0 → okO x.2.1) ∧ declsW w r noLib = (bif decide (x.2.2 = 0) then declsW w (r.drop x.1) x.2.1 else (x.2.1, x.2.2))) (0, noLib, 0) rfl TT_ok ⟨Nat.zero_le _, fun _ => hok0, rfl⟩ rfl rfl ?_
    rintro ⟨j, o2, e2⟩ ⟨hj, hok2, hJ⟩
    simp only at hj hok2 hJ ⊢
    have e10 : decide (((1 + j : Nat) : Int) < ((r.length + 1 : Nat) : Int)) = decide (j < r.length) := by by_cases h : j < r.length <;> simp [h] <;> omega
    simp only [bz5, gw2, qqE, ↓reduceIte, qqA, qqL, qqD, qqM, ite_self, lstD, e10]
    refine rK_guarded (.bool (decide (e2 = 0))) (fun _ => good o2 e2) ?_
    rcases at_or_end r j hj with ⟨rfl, hdd⟩ | ⟨x, hlt, hget, hdr⟩
    ·rw [hdd] at hJ
     simp only [gw2, qqE, ↓reduceIte, qqA, qqL, qqD, qqM, ite_self, show decide (r.length < r.length) = false by simp, Bool.false_and]
     by_cases he2 : e2 = 0
     ·subst he2
      have hJ2 : declsW w r noLib = (o2, 0) := hJ
      refine (good o2 0).use (wkL_refl _) fun _ => ?_
      simp only [gw2, qqE, ↓reduceIte, qqA, qqL, qqD, qqM, ite_self, show decide ((0 : Int) = 0) = true from rfl, Bool.not_true]
      rw [hWQ]
      simp only [bz29, wE, cQ, zLib]
      simp only [gw2, qqE, ↓reduceIte, qqA, qqL, qqD, qqM, ite_self]
      rw [hpok o2 hJ2]
      refine ⟨_, _, _, rfl, rfl, .tup (.cons (.agg (.cons (.same _) (.cons (.same _) (.cons (.arr (rows' := o2.imps.map encSet) (e := 69) (by omega) (at_4 ..) (by simp) (ThawR.refl _)) (.cons (.same _) .nil))))) (.cons (.same _) .nil)), ?_, libV_lt _ _⟩
      exact wk_tup (wkL_cons (wk_agg (wkL_cons (wk_refl _) (wkL_cons (wk_tok _ _ _) (wkL_cons (wk_refl _) (wkL_cons (wk_refl _) wkL_nil))))) (wkL_cons (wk_refl _) wkL_nil))
     ·rw [decide_eq_false he2, cond_false] at hJ
      refine (good o2 e2).use (wkL_refl _) fun _ => ?_
      simp only [gw2, qqE, ↓reduceIte, qqA, qqL, qqD, qqM, ite_self, decide_eq_false he2, Bool.not_false]
      rw [hWQ]
      simp only [bz29, wE, cQ, zLib]
      refine vmelt 11 (st.length + 2) _ rfl (by simp only [gwL]; rfl) ?_
      simp only [gw2, qqE, ↓reduceIte, qqA, qqL, qqD, qqM, ite_self, meltE]
      refine vdraw TT_ok TT_mixed [0, 0, 0, 0, 0, 2, 0] (by kernel_rfl) ?_
      simp only [gw2, qqE, ↓reduceIte, qqA, qqL, qqD, qqM, ite_self]
      rw [hpbad o2 e2 hJ he2]
      exact ⟨_, _, _, rfl, rfl, .same _, hz _, libV_lt _ _⟩
    ·rw [hdr, declsW_cons] at hJ
     have hmx : okM x := okMs_mem hmr (List.mem_of_getElem? hget)
     by_cases he2 : e2 = 0
     ·subst he2
      rw [decide_eq_true (rfl : (0 : Int) = 0), cond_true] at hJ
      have hg0 : ((encD a :: r.map encD)).getD (1 + j) [] = encD x := by
       rw [Nat.add_comm]
       simp [List.getD_eq_getElem?_getD, hget]
      have hlt3 : ((1 + j : Nat) : Int) < ((r.length + 1 : Nat) : Int) := by omega
      simp only [bz5, gw2, qqE, ↓reduceIte, qqA, qqL, qqD, qqM, ite_self, show decide (j < r.length) = true from decide_eq_true hlt, Bool.true_and, show decide ((0 : Int) = 0) = true from rfl, lstD, Int.toNat_natCast, hlt3, hg0]
      refine (c_wdecl w hW (st.length + 2) x hmx o2 (hok2 rfl) (st ++ [Ent.box zLib, Ent.box [.int .i64 f1, .int .i64 f2], Ent.gone, Ent.gone, Ent.gone]) hb0).use (wkL_refl _) fun _ => ?_
      have hag := declW_0 w x o2 (hok2 rfl)
      have hok3 : (declW w x o2).2 = 0 → okO (declW w x o2).1 := fun h => by
       rw [hag.eq (hag.1.symm.trans h)]
       exact declD_ok w x o2 (hok2 rfl)
      generalize declW w x o2 = q at hJ hok3 ⊢
      obtain ⟨o3, e3⟩ := q
      have hwj : IntKind.i64.wrap (((1 + j : Nat) : Int) + 1) = ((1 + (j + 1) : Nat) : Int) := by rw [wrap_i64 (by omega) (by omega)]; omega
      simp only [gw2, qqE, ↓reduceIte, qqA, qqL, qqD, qqM, ite_self, Env.keep, hwj]
      exact ⟨(j + 1, o3, e3), rfl, rfl, by dsimp only; omega, hlt, hok3, hJ⟩
     ·rw [decide_eq_false he2, cond_false] at hJ
      simp only [gw2, qqE, ↓reduceIte, qqA, qqL, qqD, qqM, ite_self, decide_eq_false he2, Bool.and_false]
      refine (good o2 e2).use (wkL_refl _) fun _ => ?_
      simp only [gw2, qqE, ↓reduceIte, qqA, qqL, qqD, qqM, ite_self, decide_eq_false he2, Bool.not_false]
      rw [hWQ]
      simp only [bz29, wE, cQ, zLib]
      refine vmelt 11 (st.length + 2) _ rfl (by simp only [gwL]; rfl) ?_
      simp only [gw2, qqE, ↓reduceIte, qqA, qqL, qqD, qqM, ite_self, meltE]
      refine vdraw TT_ok TT_mixed [0, 0, 0, 0, 0, 2, 0] (by kernel_rfl) ?_
      simp only [gw2, qqE, ↓reduceIte, qqA, qqL, qqD, qqM, ite_self]
      rw [hpbad o2 e2 hJ he2]
      exact ⟨_, _, _, rfl, rfl, .same _, hz _, libV_lt _ _⟩
theorem shapes_cons (d : Datum) (r : List Datum) (deep c : Int) : shapeDs (d :: r) deep c = bif decide ((shapeD d deep c).1 = 0) then shapeDs r deep (shapeD d deep c).2 else shapeD d deep c := by rw [shapeDs]
def Ld (l : List Datum) : Datum := .mk 4 0 [] 0 0 l
def Sd (s : Str) : Datum := .mk 3 0 s 0 0 []
theorem wrong_one (d : Datum) : (wrongL [d] 0 0).1 = (shapeD d 1 0).1 := by
 simp only [wrongL]
 cases e : decide ((shapeD d 1 0).1 = 0) with
 | true => simp only [cond_true]; exact (of_decide_eq_true e).symm
 | false => rfl
/-- The same, as far as it counts. -/
def same2 {α : Type} (x y : α × Int) : Prop := x.2 = y.2 ∧ (x.2 = 0 → x.1 = y.1)
theorem same2.refl {α : Type} (x : α × Int) : same2 x x := ⟨rfl, fun _ => rfl⟩
theorem exportP_cons (d : Datum) (r : List Datum) (o : Lib') : exportP (d :: r) o = bif decide ((exportOne d).2 = 0) then
      (bif o.exps.any (fun p => decide (p.1 = (exportOne d).1.1)) then (o, 8) else bif decide (o.exps.length = 200) then (o, 5) else exportP r { o with exps := o.exps ++ [(exportOne d).1] })
  else (o, (exportOne d).2) := rfl
theorem importP_cons (d : Datum) (r : List Datum) (o : Lib') : importP (d :: r) o = bif decide (o.imps.length = 20) then (o, 5) else bif decide ((setP 12 d).2 = 0) then importP r { o with imps := o.imps ++ [(setP 12 d).1] } else (o, (setP 12 d).2) := rfl
theorem includeP_cons (w : Wd) (d : Datum) (r : List Datum) (o : Lib') : includeP w (d :: r) o = bif decide ((symP d).2 = 0) then
      (match fileOf (symP d).1 w.files with
      | none => (o, 6)
      | some t => match readR t with
       | .inl f => (o, f.1)
       | .inr k => bif decide ((bodyL k o).2 = 0) then includeP w r (bodyL k o).1 else bodyL k o)
  else (o, (symP d).2) := by rw [includeP]; rfl
theorem export_name : ∀ (l : List Datum) (o : Lib'), (exportP l o).1.name = o.name
 | [], o => rfl
 | d :: r, o => by
  simp only [exportP]
  cases decide ((exportOne d).2 = 0) with
  | false => rfl
  | true =>
   cases o.exps.any fun p => decide (p.1 = (exportOne d).1.1) with
   | true => rfl
   | false =>
    cases decide (o.exps.length = 200) with
    | true => rfl
    | false => exact export_name r _
theorem list_L {l : List Datum} {n : Nat} (h : n ≤ l.length) : listP n (Ld l) = (l, 0) := by
 simp only [Ld, listP, decide_true, Bool.not_true, Bool.false_or]
 rw [decide_eq_false (by omega)]; rfl
theorem encLib_len (o : Lib') : (encLib o).length = 4 := rfl
theorem encLib_take (o : Lib') : (encLib o).take 4 = encLib o := rfl
theorem encLib_drop (o : Lib') : (encLib o).drop 4 = [] := rfl
mutual
theorem eqD_self : ∀ d : Datum, eqD d d = true
 | .mk k n nm s l kids => by
  simp only [eqD, decide_true, cond_true, Bool.and_self, eqDs_self kids]
  cases decide (k = 1) <;> cases decide (k = 2) <;> cases decide (k = 3) <;> cases decide (k = 4) <;> rfl
theorem eqDs_self : ∀ l : List Datum, eqDs l l = true
 | [] => by simp only [eqDs]
 | a :: r => by simp only [eqDs, eqD_self a, eqDs_self r, Bool.and_self]
end
set_option linter.unusedVariables false
end Go.Proofs.YtpllcpbhjglpaaaGreatDoor.Gx
