/- Contract of the document's answer: what is wrong with procedures, whose bodies stand at places. Contracts of the document's answer: what is wrong with a unit. The document's texts of data, walked; the law TextPrints. The document's bytes of a unit, walked (seat ZD). The document's reading: blanks, counts, stops. The document's reading: what it comes to, whatever it is; beside what a text's data are. What a fold over a number's letters gives. -/
import Derived.Test.YtcdnooalfkbmgaaGreatDoorZE11
namespace Go.Proofs.YtcdnooalfkbmgaaGreatDoor.Gx
open Go Go.Proofs.YtcdnooalfkbmgaaGreatDoor.Gw
open Nat (reduceEqDiff reduceAdd reduceLT reduceLeDiff reduceMul)
set_option linter.unusedSimpArgs false
set_option linter.unusedVariables false
/-- How many are around each: as a list, and as a map. -/
structure AR (n : Nat) (ar : List Int) (M : List (Int × Int)) : Prop where
 len : ar.length = n
 eq : ∀ j : Nat, j < n → asc (j : Int) M = (if ar.getD j 0 < 0 then none else some (ar.getD j 0))
 lo : ∀ j : Nat, j < n → -1 ≤ ar.getD j 0
 hi : ∀ j : Nat, j < n → ar.getD j 0 ≤ 2000 * j
theorem asc_ups {κ α : Type} [DecidableEq κ] (s t : κ) (a : α) : ∀ l : List (κ × α), asc t (ups s a l) = if t = s then some a else asc t l
 | [] => by simp only [ups, asc]
 | (k, b) :: r => by
  simp only [ups]
  by_cases h : s = k
  ·subst h
   simp only [if_true, asc]
   by_cases h2 : t = s <;> simp [h2]
  ·simp only [h, if_false, asc, asc_ups s t a r]
   by_cases h2 : t = k
   ·subst h2; simp [Ne.symm h]
   ·simp [h2]
theorem AR.set {n : Nat} {ar : List Int} {M : List (Int × Int)} (h : AR n ar M) {k : Nat} {x : Int} (hk : k < n) (h0 : 0 ≤ x) (h1 : x ≤ 2000 * k) : AR n (ar.set k x) (ups (k : Int) x M) := by
 have hl := h.len
 refine ⟨by simp [hl], fun j hj => ?_, fun j hj => ?_, fun j hj => ?_⟩
 ·rw [asc_ups]
  by_cases e : j = k
  ·subst e
   rw [getD_set_eq (by omega), if_pos rfl, if_neg (by omega)]
  ·rw [getD_set_ne (Ne.symm e), if_neg (by omega)]; exact h.eq j hj
 ·by_cases e : j = k
  ·subst e; rw [getD_set_eq (by omega)]; omega
  ·rw [getD_set_ne (Ne.symm e)]; exact h.lo j hj
 ·by_cases e : j = k
  ·subst e; rw [getD_set_eq (by omega)]; omega
  ·rw [getD_set_ne (Ne.symm e)]; exact h.hi j hj
theorem AR.init (n : Nat) : AR n (List.replicate n (-1)) [] := by
 have e : ∀ j, j < n → (List.replicate n (-1 : Int)).getD j 0 = -1 := fun j hj => by rw [List.getD_eq_getElem?_getD, List.getElem?_replicate_of_lt hj]; rfl
 exact ⟨by simp, fun j hj => by rw [e j hj]; rfl, fun j hj => by rw [e j hj]; omega, fun j hj => by rw [e j hj]; omega⟩
def protosR (l : List Pr) (bs : List Int) (G : Int) : Int := bif !decide (formE l = 0) then formE l else shapeE l G bs
set_option maxRecDepth 20000 in
set_option maxHeartbeats 16000000 in
theorem c_ref8_Protos (l : List Pr) (bs : List Int) (G : Int) (st : St) (hl : l.length ≤ 1000000) (hbs : ∀ x ∈ bs, 0 ≤ x ∧ x < l.length) (hbl : bs.length ≤ 1000000000) :
  VCalls Tryz.prog TT 21 [lstPr l, .lst 1 none (rowsI bs), .int .i64 G] st fun r st' => r = .ret (.int .i64 (protosR l bs G)) ∧ st' = st := by
 refine vfun TT_ok (an := anL []) (L := [0, 1, 2, 6, 8, 9, 10, 12, 13, 14, 15, 17, 19, 20, 21, 22, 23, 48, 49, 50, 66, 67, 82, 83, 84]) (rs := [.tmp 6]) Tryz.func21 rfl (by kernel_rfl) rfl Tryz.ntmps21 rfl rfl (Nat.le_refl _) fun hst ha hf => ?_
 simp only [gw0, reduceEqDiff, ↓reduceIte, reduceAdd, reduceLT, reduceLeDiff, reduceMul, lstPr, List.length_map]
 refine vforD (σ := Nat) [0, 1, 2, 21, 22, 23] (fun i => [(0, true, lstPr l), (1, true, .lst 1 none (rowsI bs)), (2, true, .int .i64 G), (21, true, lstPr l), (22, true, .int .i64 l.length), (23, true, .int .i64 i)]) (fun i => st) (fun i => l.length - i) (fun i => i ≤ l.length ∧ formE l = formE (l.drop i)) 0 rfl TT_ok ⟨Nat.zero_le _, rfl⟩ (wkE_refl _) rfl ?_
 rintro i ⟨hi, hx⟩
 rcases at_or_end l i hi with ⟨hie, hd⟩ | ⟨q, hlt, hget, hdr⟩
 ·have hie2 : i = l.length := hie
  subst hie2
  rw [hd, formE] at hx
  have hfc := formE_code hx
  have hP : protosR l bs G = shapeE l G bs := by simp [protosR, hx]
  rw [hP]
  simp only [gw0, reduceEqDiff, ↓reduceIte, reduceAdd, reduceLT, reduceLeDiff, reduceMul, mapLook, mapPut, mapRange, mapLen, makeMapE, keyOk, keyKind, keyGood, lookR, zeroV, entV, entS, nextV, nextS, beq_self_eq_true, cond_true, cond_false, lt_no, rowsI_len]
  refine vfor (σ := Nat × List (Int × Int) × List (Int × Bool) × List Int) [0, 1, 2, 9, 10, 48, 49, 50] (fun x => [(0, true, lstPr l), (1, true, .lst 1 none (rowsI bs)), (2, true, .int .i64 G), (9, true, .map st.length), (10, true, .map (st.length + 1)), (48, true, .lst 1 none (rowsI bs)), (49, true, .int .i64 bs.length), (50, true, .int .i64 x.1)]) (fun x => st ++ [mapE (V.int .i64) (V.int .i64) x.2.1, mapE (V.int .i64) V.bool x.2.2.1]) (fun x => bs.length - x.1) (fun x => x.1 ≤ bs.length ∧ AR l.length x.2.2.2 x.2.1 ∧ (∀ j : Int, asc j x.2.2.1 = if j ∈ bs.take x.1 then some true else none) ∧ bodiesG l bs (List.replicate l.length (-1)) = bodiesG l (bs.drop x.1) x.2.2.2) (0, [], [], List.replicate l.length (-1)) rfl TT_ok ⟨Nat.zero_le _, AR.init _, by intro j; simp [asc], rfl⟩ rfl rfl ?_
  rintro ⟨i, M, B, ar⟩ ⟨hi, hA, hB, hx2⟩
  simp only at hi hA hB hx2 ⊢
  rcases at_or_end bs i hi with ⟨hie, hd⟩ | ⟨u, hlt, hget, hdr⟩
  ·have hie2 : i = bs.length := hie
   subst hie2
   rw [hd, bodiesG] at hx2
   rw [List.take_length] at hB
   have hE : shapeE l G bs = protoG l G bs l 0 ar := by rw [shapeE, hx2]
   rw [hE]
   simp only [gw0, reduceEqDiff, ↓reduceIte, reduceAdd, reduceLT, reduceLeDiff, reduceMul, lt_no, lstPr, List.length_map]
   refine vfor (σ := Nat × List (Int × Int) × List Int × St) [0, 1, 2, 9, 10, 66, 67] (fun x => [(0, true, .lst 2 none (l.map encPr)), (1, true, .lst 1 none (rowsI bs)), (2, true, .int .i64 G), (9, true, .map st.length), (10, true, .map (st.length + 1)), (66, true, .int .i64 l.length), (67, true, .int .i64 x.1)]) (fun x => st ++ (mapE (V.int .i64) (V.int .i64) x.2.1 :: mapE (V.int .i64) V.bool B :: x.2.2.2)) (fun x => l.length - x.1) (fun x => x.1 ≤ l.length ∧ AR l.length x.2.2.1 x.2.1 ∧ protoG l G bs l 0 ar = protoG l G bs (l.drop x.1) x.1 x.2.2.1) (0, M, ar, []) rfl TT_ok ⟨Nat.zero_le _, hA, rfl⟩ rfl rfl ?_
   clear hA hE hx2
   rintro ⟨p, M, ar1, ex⟩ ⟨hp, hA, hy⟩
   simp only at hp hA hy ⊢
   rw [hy]
   rcases at_or_end l p hp with ⟨hpe, hpd⟩ | ⟨q, hpt, hpq, hpr⟩
   ·have hpe2 : p = l.length := hpe
    subst hpe2
    rw [hpd, protoG]
    simp only [gw0, reduceEqDiff, ↓reduceIte, reduceAdd, reduceLT, reduceLeDiff, reduceMul, lt_no]
    exact gives_int' rfl hst
   have hgp : (l.map encPr).getD p [] = encPr q := getD_map hpq
   have hlq : l.getD p ⟨0, []⟩ = q := getD_at hpq
   have w : IntKind.i64.wrap ((p : Int) + 1) = ((p + 1 : Nat) : Int) := next_i64 hpt (by omega)
   have hpl : (p : Int) < (l.length : Int) := Int.ofNat_lt.mpr hpt
   have hqf := hfc q (List.mem_of_getElem? hpq)
   rw [hpr, protoG] at hy ⊢
   obtain ⟨qa, code⟩ := q
   simp only at hqf
   have hBp : asc (p : Int) B = if (p : Int) ∈ bs then some true else none := hB p
   have hAp := hA.eq p hpt
   have hAlo := hA.lo p hpt
   have hAhi := hA.hi p hpt
   generalize hgx : ar1.getD p 0 = av1 at *
   cases h1 : decide (av1 < 0) with
   | true =>
    rw [if_pos (of_decide_eq_true h1)] at hAp
    simp only [gw0, reduceEqDiff, ↓reduceIte, reduceAdd, reduceLT, reduceLeDiff, reduceMul, mapLook, mapPut, mapRange, mapLen, makeMapE, keyOk, keyKind, keyGood, lookR, zeroV, entV, entS, nextV, nextS, beq_self_eq_true, cond_true, cond_false, lt_yes hpt, look_mapE (ev := V.int .i64) (keyP_i64 TT), hAp, Option.map_none, Option.getD_none, Option.isSome_none, Bool.not_false]
    exact gives_int' rfl hst
   | false =>
   have hav := of_decide_eq_false h1
   rw [if_neg hav] at hAp
   simp only [h1, cond_false] at hy
   simp only [cond_false]
   simp only [gw0, reduceEqDiff, ↓reduceIte, reduceAdd, reduceLT, reduceLeDiff, reduceMul, mapLook, mapPut, mapRange, mapLen, makeMapE, keyOk, keyKind, keyGood, lookR, zeroV, entV, entS, nextV, nextS, beq_self_eq_true, cond_true, cond_false, lt_yes hpt, look_mapE (ev := V.int .i64) (keyP_i64 TT), hAp, Option.map_some, Option.getD_some, Option.isSome_some, Bool.not_true, hgp, encPr, lstI, hpl, Int.toNat_natCast, List.length_map]
   refine vfor (σ := Nat × List (Int × Int) × List Int × St) [0, 1, 2, 9, 10, 13, 14, 66, 67, 82, 83, 84] (fun x => [(0, true, .lst 2 none (l.map encPr)), (1, true, .lst 1 none (rowsI bs)), (2, true, .int .i64 G), (9, true, .map st.length), (10, true, .map (st.length + 1)), (13, true, .int .i64 p), (14, true, .int .i64 av1), (66, true, .int .i64 l.length), (67, true, .int .i64 p), (82, true, .lst 11 none (code.map encI)), (83, true, .int .i64 code.length), (84, true, .int .i64 x.1)]) (fun x => st ++ (mapE (V.int .i64) (V.int .i64) x.2.1 :: mapE (V.int .i64) V.bool B :: x.2.2.2)) (fun x => code.length - x.1) (fun x => x.1 ≤ code.length ∧ AR l.length x.2.2.1 x.2.1 ∧ x.2.2.1.getD p 0 = av1 ∧ insG l G p code ar1 = insG l G p (code.drop x.1) x.2.2.1) (0, M, ar1, ex) rfl TT_ok ⟨Nat.zero_le _, hA, hgx, rfl⟩ rfl rfl ?_
   clear hA hAp
   rintro ⟨j, M, ar2, ex⟩ ⟨hj, hA, hg2, hz⟩
   simp only at hj hA hg2 hz ⊢
   rcases at_or_end code j hj with ⟨hje, hjd⟩ | ⟨u, hjt, hju, hjr⟩
   ·have hje2 : j = code.length := hje
    subst hje2
    rw [hjd, insG] at hz
    simp only [hz, decide_true, Bool.not_true, cond_false] at hy ⊢
    have hok : ∀ x ∈ code, OpsOk code.length x := fun x hx => by
     obtain ⟨ar', h⟩ := insG_zero (by rw [hz] : (insG l G p code ar1).1 = 0) x hx
     have := ins_ops h
     rwa [hlq] at this
    have hBv : ((asc (p : Int) B).map V.bool).getD (V.bool false) = V.bool (decide ((p : Int) ∈ bs)) := by
     rw [hBp]; by_cases h : (p : Int) ∈ bs <;> simp [h]
    obtain ⟨hH1, hH2⟩ := heights_eq (body := decide ((p : Int) ∈ bs)) (by omega) hok
    simp only [gw0, reduceEqDiff, ↓reduceIte, reduceAdd, reduceLT, reduceLeDiff, reduceMul, lt_no]
    refine vdraw TT_ok TT_mixed [0, 0, 0, 0, 1, 0, 0, 1, 0, 0] (by kernel_rfl) ?_
    simp only [gw0, reduceEqDiff, ↓reduceIte, reduceAdd, reduceLT, reduceLeDiff, reduceMul, mapLook, mapPut, mapRange, mapLen, makeMapE, keyOk, keyKind, keyGood, lookR, zeroV, entV, entS, nextV, nextS, beq_self_eq_true, cond_true, cond_false, hgp, encPr, lstI, hpl, look_mapE (ev := V.bool) (keyP_i64 TT), hBv, Int.toNat_natCast, List.length_map]
    refine eK_free (fun s => c_Heights code _ s (by omega)) (wkL_refl _) ?_
    rw [hH1]
    simp only [gw0, reduceEqDiff, ↓reduceIte, reduceAdd, reduceLT, reduceLeDiff, reduceMul]
    refine iK_split (fun h2 => ?_) (fun h2 => ?_)
    ·simp only [gw0, reduceEqDiff, ↓reduceIte, reduceAdd, reduceLT, reduceLeDiff, reduceMul, h2, cond_true]
     exact gives_int' (by rcases hH2 with h | h; simp [h] at h2; exact h.symm) hst
    ·simp only [h2, cond_false] at hy
     simp only [gw0, reduceEqDiff, ↓reduceIte, reduceAdd, reduceLT, reduceLeDiff, reduceMul, h2, cond_false, w, Env.keep]
     exact ⟨(p + 1, M, ar2, ex), rfl, rfl, by simp only; omega, by simp only; omega, hA, rfl⟩
   ·have hgu : (code.map encI).getD j [] = encI u := getD_map hju
    have w2 : IntKind.i64.wrap ((j : Int) + 1) = ((j + 1 : Nat) : Int) := next_i64 hjt (by omega)
    have hjl : (j : Int) < (code.length : Int) := Int.ofNat_lt.mpr hjt
    rw [hjr, insG] at hz
    by_cases h7 : u.op = 7
    ·obtain ⟨op, a, n, lb, ow, qd⟩ := u
     simp only at h7
     subst h7
     simp only [encI_mk] at hgu
     have hI : insE l G p ⟨7, a, n, lb, ow, qd⟩ ar2 = (bif decide (a ≤ (p : Int)) || decide ((l.length : Int) ≤ a) then (3, ar2) else bif decide (0 ≤ ar2.getD a.toNat 0) then (8, ar2) else (0, ar2.set a.toNat (IntKind.i64.wrap (ar2.getD p 0 + (l.getD a.toNat ⟨0, []⟩).args)))) := by simp [insE]
     rw [hI] at hz
     simp only [gw0, reduceEqDiff, ↓reduceIte, reduceAdd, reduceLT, reduceLeDiff, reduceMul, lt_yes hjt, hgu, hjl, encD_take, encD_len, Int.toNat_natCast, List.length_map, Int.reduceEq]
     refine iK_split (fun h2 => ?_) (fun h2 => ?_)
     ·simp only [h2, cond_true, Int.reduceEq, decide_false, Bool.not_false] at hz
      simp only [hz, Int.reduceEq, decide_false, Bool.not_false, cond_true]
      simp only [gw0, reduceEqDiff, ↓reduceIte, reduceAdd, reduceLT, reduceLeDiff, reduceMul]
      exact gives_int' rfl hst
     simp only [h2, cond_false] at hz
     simp only [Bool.or_eq_false_iff, decide_eq_false_iff_not] at h2
     obtain ⟨k, rfl⟩ : ∃ k : Nat, a = k := ⟨a.toNat, by omega⟩
     have hk : k < l.length := by omega
     have hAk := hA.eq k hk
     have hlk : l[k]? = some (l.getD k ⟨0, []⟩) := by rw [List.getD_eq_getElem?_getD, List.getElem?_eq_getElem hk]; rfl
     have hgk : (l.map encPr).getD k [] = encPr (l.getD k ⟨0, []⟩) := getD_map hlk
     have hfk := hfc _ (List.mem_of_getElem? hlk)
     have hkl : (k : Int) < (l.length : Int) := Int.ofNat_lt.mpr hk
     rw [Int.toNat_natCast] at hz
     generalize l.getD k ⟨0, []⟩ = qk at *
     obtain ⟨ka, kc⟩ := qk
     simp only at hfk hz
     cases h3 : decide (0 ≤ ar2.getD k 0) with
     | true =>
      rw [if_neg (by have := of_decide_eq_true h3; omega)] at hAk
      simp only [h3, cond_true, Int.reduceEq, decide_false, Bool.not_false] at hz
      simp only [hz, Int.reduceEq, decide_false, Bool.not_false, cond_true]
      simp only [gw0, reduceEqDiff, ↓reduceIte, reduceAdd, reduceLT, reduceLeDiff, reduceMul, mapLook, mapPut, mapRange, mapLen, makeMapE, keyOk, keyKind, keyGood, lookR, zeroV, entV, entS, nextV, nextS, beq_self_eq_true, cond_true, cond_false, look_mapE (ev := V.int .i64) (keyP_i64 TT), hAk, Option.map_some, Option.getD_some, Option.isSome_some]
      exact gives_int' rfl hst
     | false =>
      rw [if_pos (by have := of_decide_eq_false h3; omega)] at hAk
      rw [hg2] at hz
      simp only [h3, cond_false, decide_true, Bool.not_true] at hz
      have wv : IntKind.i64.wrap (av1 + ka) = av1 + ka := wrap_i64 (by omega) (by omega)
      rw [wv] at hz
      simp only [gw0, reduceEqDiff, ↓reduceIte, reduceAdd, reduceLT, reduceLeDiff, reduceMul, mapLook, mapPut, mapRange, mapLen, makeMapE, keyOk, keyKind, keyGood, lookR, zeroV, entV, entS, nextV, nextS, beq_self_eq_true, cond_true, cond_false, look_mapE (ev := V.int .i64) (keyP_i64 TT), hAk, Option.map_none, Option.getD_none, Option.isSome_none]
      refine vdraw TT_ok TT_mixed [0, 0, 1, 0, 0, 0, 1, 0, 0, 1, 0, 2] (by kernel_rfl) ?_
      simp only [gw0, reduceEqDiff, ↓reduceIte, reduceAdd, reduceLT, reduceLeDiff, reduceMul, mapLook, mapPut, mapRange, mapLen, makeMapE, keyOk, keyKind, keyGood, lookR, zeroV, entV, entS, nextV, nextS, beq_self_eq_true, cond_true, cond_false, put_mapE (ev := V.int .i64) (keyP_i64 TT), hgk, encPr, hkl, Int.toNat_natCast, List.length_map, wv, w2, Env.keep]
      exact ⟨(j + 1, ups (k : Int) (av1 + ka) M, ar2.set k (av1 + ka), ex ++ [Ent.box (V.int .i64 7 :: V.int .i64 (k : Int) :: V.int .i64 n :: V.str lb :: V.str ow :: encD qd)]), rfl, rfl, by simp only; omega, by simp only; omega, hA.set hk (by omega) (by omega), by simp only; rw [getD_set_ne (by omega)]; exact hg2, hz⟩
    ·have ho := own_ins l G p u ar2 h7
     rw [hg2, hlq] at ho
     obtain ⟨ho1, ho2⟩ := ho
     have hco := fun s => c_Own u av1 code.length G s
     simp only at ho1
     rw [ho1] at hco
     obtain ⟨op, a, n, lb, ow, qd⟩ := u
     simp only at h7
     have e7 : decide (op = 7) = false := decide_eq_false h7
     simp only [encI_mk] at hgu hco
     simp only [gw0, reduceEqDiff, ↓reduceIte, reduceAdd, reduceLT, reduceLeDiff, reduceMul, lt_yes hjt, hgu, hjl, e7, encD_take, encD_len, Int.toNat_natCast, List.length_map]
     refine vdraw TT_ok TT_mixed [1, 0, 0, 0, 0, 0, 1, 0, 0, 0, 0] (by kernel_rfl) ?_
     simp only [gw0, reduceEqDiff, ↓reduceIte, reduceAdd, reduceLT, reduceLeDiff, reduceMul, hgp, encPr, lstI, hpl, encD_take, encD_len, Int.toNat_natCast, List.length_map]
     refine eK_free hco (wkL_refl _) ?_
     simp only [gw0, reduceEqDiff, ↓reduceIte, reduceAdd, reduceLT, reduceLeDiff, reduceMul]
     refine iK_split (fun h2 => ?_) (fun h2 => ?_)
     ·simp only [h2, cond_true] at hz
      simp only [hz, h2, cond_true]
      simp only [gw0, reduceEqDiff, ↓reduceIte, reduceAdd, reduceLT, reduceLeDiff, reduceMul]
      exact gives_int' rfl hst
     ·simp only [h2, cond_false, ho2] at hz
      simp only [gw0, reduceEqDiff, ↓reduceIte, reduceAdd, reduceLT, reduceLeDiff, reduceMul, w2, Env.keep]
      exact ⟨(j + 1, M, ar2, ex ++ [Ent.box (V.int .i64 op :: V.int .i64 a :: V.int .i64 n :: V.str lb :: V.str ow :: encD qd)]), rfl, rfl, by simp only; omega, by simp only; omega, hA, hg2, hz⟩
  ·obtain ⟨hu1, hu2⟩ := hbs u (List.mem_of_getElem? hget)
   obtain ⟨u', rfl⟩ : ∃ u' : Nat, u = u' := ⟨u.toNat, by omega⟩
   have hu3 : u' < l.length := by omega
   have hgb : (rowsI bs).getD i [] = [.int .i64 u'] := getD_map (f := fun n => [V.int .i64 n]) hget
   have hlu : l[u']? = some (l.getD u' ⟨0, []⟩) := by rw [List.getD_eq_getElem?_getD, List.getElem?_eq_getElem hu3]; rfl
   have hgp : (l.map encPr).getD u' [] = encPr (l.getD u' ⟨0, []⟩) := getD_map hlu
   have hau := hfc _ (List.mem_of_getElem? hlu)
   have w : IntKind.i64.wrap ((i : Int) + 1) = ((i + 1 : Nat) : Int) := next_i64 hlt (by omega)
   have hib : (i : Int) < (bs.length : Int) := Int.ofNat_lt.mpr hlt
   have huu : (u' : Int) < (l.length : Int) := Int.ofNat_lt.mpr hu3
   rw [hdr, bodiesG, Int.toNat_natCast] at hx2
   generalize l.getD u' ⟨0, []⟩ = q at *
   obtain ⟨qa, qc⟩ := q
   simp only at hau hx2
   simp only [gw0, reduceEqDiff, ↓reduceIte, reduceAdd, reduceLT, reduceLeDiff, reduceMul, lt_yes hlt, hgb, hgp, encPr, lstPr, rowsI_len, Int.toNat_natCast, hib, huu, List.length_map]
   refine iK_split (fun h1 => ?_) (fun h1 => ?_)
   ·have hqa : ¬ qa = 0 := by have := of_decide_eq_true h1; omega
    have hE : shapeE l G bs = 3 := by rw [shapeE, hx2]; simp [hqa]
    simp only [gw0, reduceEqDiff, ↓reduceIte, reduceAdd, reduceLT, reduceLeDiff, reduceMul]
    exact gives_int' hE.symm hst
   have hqa : qa = 0 := by have := of_decide_eq_false h1; omega
   simp only [hqa, decide_true, Bool.not_true, cond_false] at hx2
   simp only [gw0, reduceEqDiff, ↓reduceIte, reduceAdd, reduceLT, reduceLeDiff, reduceMul, mapLook, mapPut, mapRange, mapLen, makeMapE, keyOk, keyKind, keyGood, lookR, zeroV, entV, entS, nextV, nextS, beq_self_eq_true, cond_true, cond_false, put_mapE (ev := V.int .i64) (keyP_i64 TT), put_mapE (ev := V.bool) (keyP_i64 TT), w, Env.keep]
   refine ⟨(i + 1, ups (u' : Int) 0 M, ups (u' : Int) true B, ar.set u' 0), rfl, rfl, by simp only; omega, by simp only; omega, hA.set hu3 (by omega) (by omega), fun j => ?_, hx2⟩
   simp only
   rw [asc_ups, hB, List.take_add_one, hget]
   by_cases h : j = (u' : Int)
   ·simp [h]
   ·simp [h]
 ·rw [hdr] at hx
  obtain ⟨qa, qc⟩ := q
  have hg : (l.map encPr).getD i [] = encPr ⟨qa, qc⟩ := getD_map hget
  have hfe : formE l ≠ 0 → protosR l bs G = formE l := fun h => by simp [protosR, h]
  rw [formE] at hx
  simp only at hx
  have hz : decide ((qc.length : Int) < 1) = decide ((qc.length : Int) = 0) := by rw [decide_eq_decide]; omega
  rw [hz] at hx
  simp only [gw0, reduceEqDiff, ↓reduceIte, reduceAdd, reduceLT, reduceLeDiff, reduceMul, lt_yes hlt, lstPr, hg, encPr, lstI, List.length_map, Int.ofNat_lt.mpr hlt]
  refine iK_split (fun h1 => ?_) (fun h1 => ?_)
  ·simp only [h1, cond_true] at hx
   simp only [gw0, reduceEqDiff, ↓reduceIte, reduceAdd, reduceLT, reduceLeDiff, reduceMul]
   exact gives_int' (by rw [hfe (by rw [hx]; decide), hx]) hst
  simp only [h1, cond_false] at hx
  simp only [gw0, reduceEqDiff, ↓reduceIte, reduceAdd, reduceLT, reduceLeDiff, reduceMul]
  refine iK_split (fun h2 => ?_) (fun h2 => ?_)
  ·simp only [h2, cond_true] at hx
   simp only [gw0, reduceEqDiff, ↓reduceIte, reduceAdd, reduceLT, reduceLeDiff, reduceMul]
   exact gives_int' (by rw [hfe (by rw [hx]; decide), hx]) hst
  simp only [h2, cond_false] at hx
  simp only [gw0, reduceEqDiff, ↓reduceIte, reduceAdd, reduceLT, reduceLeDiff, reduceMul, Env.keep]
  refine ⟨i + 1, ⟨?_, st, [.box [.int .i64 qa, .lst 11 none (qc.map encI)]], rfl, wkSt_refl _, ?_, hst, Nat.le_refl _⟩, by omega, hlt, hx⟩
  ·simp only [gw0, reduceEqDiff, ↓reduceIte, reduceAdd, reduceLT, reduceLeDiff, reduceMul, Env.keep, next_i64 hlt (show l.length ≤ 9223372036854775807 by omega), lstPr]
   exact wkE_refl _
  ·simp only [ltE, V.lt]
   exact ⟨lstPr_lt _ _, ⟨fun e h => (by cases h), ltRows_map fun x _ => ⟨trivial, trivial⟩⟩, trivial, lstPr_lt _ _, trivial, trivial, trivial⟩
set_option maxRecDepth 20000 in
set_option maxHeartbeats 4000000 in
theorem c_ref8_Wrong (u : Unit') (st : St) : VCalls Tryz.prog TT 6 [.agg (encU u)] st fun r st' => r = .ret (.int .i64 (unitE u)) ∧ st' = st := by
 refine vfun TT_ok (an := anL [(1, 1)]) (L := [0, 1, 2]) (rs := [.tmp 2]) Tryz.func6 rfl (by kernel_rfl) rfl Tryz.ntmps6 rfl rfl (Nat.le_refl _) fun hst ha hf => ?_
 obtain ⟨nm, ps⟩ := u
 simp only [gw0, reduceEqDiff, ↓reduceIte, reduceAdd, reduceLT, reduceLeDiff, reduceMul, encU]
 refine (c_ref_Plain _ nm).use (wkL_refl _) fun _ => ?_
 simp only [gw0, reduceEqDiff, ↓reduceIte, reduceAdd, reduceLT, reduceLeDiff, reduceMul]
 refine iK_split (fun h1 => ?_) (fun h1 => ?_)
 ·simp only [gw0, reduceEqDiff, ↓reduceIte, reduceAdd, reduceLT, reduceLeDiff, reduceMul]
  exact gives_int (by simp only [unitE, h1, cond_true]) hst
 have hz : decide ((ps.length : Int) < 1) = decide ((ps.length : Int) = 0) := by rw [decide_eq_decide]; omega
 simp only [gw0, reduceEqDiff, ↓reduceIte, reduceAdd, reduceLT, reduceLeDiff, reduceMul, lstPr, List.length_map]
 refine iK_split (fun h2 => ?_) (fun h2 => ?_)
 ·simp only [gw0, reduceEqDiff, ↓reduceIte, reduceAdd, reduceLT, reduceLeDiff, reduceMul]
  exact gives_int (by simp only [unitE, h1, hz, h2, cond_true, cond_false]) hst
 have h2' := h2
 simp only [Bool.or_eq_false_iff, decide_eq_false_iff_not] at h2'
 simp only [gw0, reduceEqDiff, ↓reduceIte, reduceAdd, reduceLT, reduceLeDiff, reduceMul]
 refine (c_ref8_Protos ps [0] (-1) _ (by omega) (fun x hx => by simp at hx; subst hx; omega) (by simp)).use (wkL_refl _) fun _ => ?_
 simp only [gw0, reduceEqDiff, ↓reduceIte, reduceAdd, reduceLT, reduceLeDiff, reduceMul]
 exact gives_int (by simp only [unitE, protosR, h1, hz, h2, cond_false]) hst
theorem c_ref_Text (d : Datum) : okD d → (textD d).length < 10000000000000 → ∀ st : St,
  VCalls Tryz.prog TT 57 [.agg (encD d)] st fun q st' => q = .ret (.str (textD d)) ∧ st' = st := by
 refine Datum.ind (p := fun d => okD d → (textD d).length < 10000000000000 → ∀ st : St,
  VCalls Tryz.prog TT 57 [.agg (encD d)] st fun q st' => q = .ret (.str (textD d)) ∧ st' = st) ?_ d
 intro kd n nm sp lb kids ih hd hl st
 refine vfun TT_ok (an := anL [(1, 1)]) (L := [0, 1, 2, 3, 5, 7, 23, 24, 25]) (rs := [.tmp 2]) Tryz.func57 rfl (by kernel_rfl) rfl Tryz.ntmps57 rfl rfl (Nat.le_refl _) fun hst ha hf => ?_
 simp only [encD_mk]
 simp only [gw0, reduceEqDiff, ↓reduceIte, reduceAdd, reduceLT, reduceLeDiff, reduceMul]
 simp only [okD] at hd
 simp only [textD] at hl ⊢
 rcases hd with ⟨rfl, h1, h2⟩ | ⟨rfl, h1⟩ | ⟨rfl, h1, _⟩ | ⟨rfl, h1⟩
 ·simp only [dk4, decide_true, cond_true, cond_false] at hl ⊢
  simp only [gw0, reduceEqDiff, ↓reduceIte, reduceAdd, reduceLT, reduceLeDiff, reduceMul, dk4, decide_true]
  refine (c_FormatInt _ n (by omega) (by omega)).use (wkL_refl _) fun _ => ?_
  simp only [gw0, reduceEqDiff, ↓reduceIte, reduceAdd, reduceLT, reduceLeDiff, reduceMul]
  exact gives_str rfl hst
 ·simp only [dk4, decide_true, cond_true, cond_false] at hl ⊢
  simp only [gw0, reduceEqDiff, ↓reduceIte, reduceAdd, reduceLT, reduceLeDiff, reduceMul, dk4, decide_true]
  refine iK_split (fun h => ?_) (fun h => ?_)
  ·simp only [gw0, reduceEqDiff, ↓reduceIte, reduceAdd, reduceLT, reduceLeDiff, reduceMul]
   exact (by rw [h]; exact gives_str rfl hst)
  ·simp only [gw0, reduceEqDiff, ↓reduceIte, reduceAdd, reduceLT, reduceLeDiff, reduceMul]
   exact (by rw [h]; exact gives_str rfl hst)
 ·simp only [dk4, decide_true, cond_true, cond_false] at hl ⊢
  simp only [gw0, reduceEqDiff, ↓reduceIte, reduceAdd, reduceLT, reduceLeDiff, reduceMul, dk4, decide_true]
  exact gives_str rfl hst
 ·simp only [dk4, decide_true, cond_true, cond_false, List.length_cons, List.length_append, List.length_nil, List.length_drop] at hl ⊢
  simp only [encD_mk, fitL, V.fit, List.length_map] at hf
  have hkl : kids.length ≤ 9223372036854775807 := by simp at hf; omega
  simp only [gw0, reduceEqDiff, ↓reduceIte, reduceAdd, reduceLT, reduceLeDiff, reduceMul, dk4, decide_true, List.length_map]
  refine vforD (σ := Nat) [0, 1, 2, 7, 3, 23, 24, 25] (fun i => [(0, true, .agg (encD (.mk 4 n nm sp lb kids))), (1, true, .ref (encD (.mk 4 n nm sp lb kids))), (2, true, .str []), (7, true, .int .i64 4), (3, true, .str (spaced (kids.take i))), (23, true, lstD kids), (24, true, .int .i64 kids.length), (25, true, .int .i64 i)]) (fun i => st) (fun i => kids.length - i) (fun i => i ≤ kids.length) 0 rfl TT_ok (Nat.zero_le _) (by rw [encD_mk]; exact wkE_refl _) rfl ?_
  intro i hi
  simp only [lstD]
  have hle := spaced_take_le kids i
  rcases at_or_end kids i hi with ⟨rfl, hdd⟩ | ⟨a, hlt2, hget, hdr⟩
  ·simp only [gw0, reduceEqDiff, ↓reduceIte, reduceAdd, reduceLT, reduceLeDiff, reduceMul, lt_no]
   rw [List.take_length]
   refine iK_split (fun h => ?_) (fun h => ?_)
   ·simp only [gw0, reduceEqDiff, ↓reduceIte, reduceAdd, reduceLT, reduceLeDiff, reduceMul]
    have hk : kids = [] := by
     have := of_decide_eq_true h
     cases kids with
     | nil => rfl
     | cons x y => simp [spaced] at this
    subst hk
    exact gives_str rfl hst
   ·simp only [gw0, reduceEqDiff, ↓reduceIte, reduceAdd, reduceLT, reduceLeDiff, reduceMul]
    have h0 : 1 ≤ (spaced kids).length := by
     have := of_decide_eq_false h
     cases kids with
     | nil => exact absurd rfl this
     | cons x y => simp [spaced]
    simp only [show Int.toNat 1 = 1 from rfl, List.length_drop]
    exact ⟨by omega, by omega, by omega, gives_str rfl hst⟩
  ·have hle2 := spaced_take_le kids (i + 1)
   rw [take_spaced hget] at hle2
   simp only [List.length_append, List.length_cons] at hle2
   simp only [gw0, reduceEqDiff, ↓reduceIte, reduceAdd, reduceLT, reduceLeDiff, reduceMul, lt_yes hlt2, hdr, List.length_map, getD_map hget, encD_take, encD_len, encD_drop, Int.ofNat_lt.mpr hlt2, Nat.le_refl]
   refine ⟨by omega, (ih a (List.mem_of_getElem? hget) (okDs_mem h1 (List.mem_of_getElem? hget)) (by omega) _).use (wkL_refl _) fun _ => ?_⟩
   simp only [gw0, reduceEqDiff, ↓reduceIte, reduceAdd, reduceLT, reduceLeDiff, reduceMul, List.length_append, List.length_cons, List.length_nil]
   refine ⟨by omega, i + 1, ⟨?_, _, _, rfl, wkSt_refl _, ?_, hst, Nat.le_refl _⟩, by omega, by omega⟩
   ·simp only [gw0, reduceEqDiff, ↓reduceIte, reduceAdd, reduceLT, reduceLeDiff, reduceMul, Env.keep, next_i64 hlt2 hkl]
    rw [show spaced (kids.take (i + 1)) = spaced (kids.take i) ++ [32] ++ textD a by rw [take_spaced hget]; simp]
    exact wkE_refl _
   ·simp only [ltE, V.lt]
    have := encD_lt st.length (.mk 4 n nm sp lb kids)
    exact ⟨this, this, trivial, trivial, trivial, ⟨fun e h => (by cases h), by rw [← encDs_map]; exact encDs_lt _ _⟩, trivial, trivial, trivial⟩
theorem c_ref_Print (st : St) (l : List Datum) : VCalls Tryz.prog TT 30 [lstD l] st fun r st' => r = .ret (printV (printL l)) ∧ st' = st := by
 refine vfun TT_ok (an := anL []) (L := [0, 2, 3, 4, 5, 7, 14, 15, 16]) (rs := [.tmp 2, .cell 3 41]) Tryz.func30 rfl (by kernel_rfl) rfl Tryz.ntmps30 rfl rfl (Nat.le_refl _) fun hst ha hf => ?_
 simp only [fitL, V.fit, List.length_map, lstD] at hf
 have hkl : l.length ≤ 9223372036854775807 := by simp at hf; omega
 simp only [gw0, reduceEqDiff, ↓reduceIte, reduceAdd, reduceLT, reduceLeDiff, reduceMul]
 refine (c_ref_Wrong _ l).use (wkL_refl _) fun _ => ?_
 simp only [fltV, lstD]
 simp only [gw0, reduceEqDiff, ↓reduceIte, reduceAdd, reduceLT, reduceLeDiff, reduceMul]
 refine iK_split (fun h => ?_) (fun h => ?_)
 ·have h1 : decide ((wrongL l 0 0).1 = 0) = false := not_yes h
  simp only [gw0, reduceEqDiff, ↓reduceIte, reduceAdd, reduceLT, reduceLeDiff, reduceMul]
  refine vdraw TT_ok TT_mixed [1, 0, 2] (by kernel_rfl) ?_
  simp only [gw0, reduceEqDiff, ↓reduceIte, reduceAdd, reduceLT, reduceLeDiff, reduceMul]
  simp only [printL, h1, cond_false, printV, fltV]
  exact gives_of (wk_refl _) (wkSt_refl _) (by simp [V.lt, ltL]) hst
 have h1 : decide ((wrongL l 0 0).1 = 0) = true := not_no h
 have hw := wrong_ok l 0 0 (by omega) (by omega) (of_decide_eq_true h1)
 have hlen := textL_len l hw.1
 have hw0 : (wrongL l 0 0).1 = 0 := of_decide_eq_true h1
 simp only [gw0, reduceEqDiff, ↓reduceIte, reduceAdd, reduceLT, reduceLeDiff, reduceMul, List.length_map]
 refine vforD (σ := Nat) [0, 2, 3, 4, 5, 14, 15, 16] (fun i => [(0, true, lstD l), (2, true, .str []), (3, true, .ptr st.length 0), (4, true, .ptr (st.length + 1) 0), (5, true, .str (textL (l.take i))), (14, true, lstD l), (15, true, .int .i64 l.length), (16, true, .int .i64 i)]) (fun i => st ++ [.box [.int .i64 0, .int .i64 0], .box [.int .i64 0, .int .i64 (wrongL l 0 0).2]]) (fun i => l.length - i) (fun i => i ≤ l.length) 0 rfl TT_ok (Nat.zero_le _) (by rw [lstD]; exact wkE_refl _) (by simp [hw0]) ?_
 intro i hi
 simp only [lstD]
 have hle := textL_take_le l i
 rcases at_or_end l i hi with ⟨rfl, hdd⟩ | ⟨a, hlt2, hget, hdr⟩
 ·simp only [gw0, reduceEqDiff, ↓reduceIte, reduceAdd, reduceLT, reduceLeDiff, reduceMul, lt_no]
  rw [List.take_length]
  refine iK_split (fun h2 => ?_) (fun h2 => ?_)
  ·simp only [gw0, reduceEqDiff, ↓reduceIte, reduceAdd, reduceLT, reduceLeDiff, reduceMul]
   have h3 : decide (6000 < (textL l).length) = true := by rw [decide_eq_true_eq] at h2 ⊢; omega
   simp only [printL, h1, h3, cond_true, printV, fltV]
   exact gives_of (wk_refl _) (wkSt_refl _) (by simp [V.lt, ltL]) hst
  ·have h3 : decide (6000 < (textL l).length) = false := by rw [decide_eq_false_iff_not] at h2 ⊢; omega
   simp only [gw0, reduceEqDiff, ↓reduceIte, reduceAdd, reduceLT, reduceLeDiff, reduceMul]
   simp only [printL, h1, h3, cond_true, cond_false, printV, fltV]
   exact gives_of (wk_refl _) (wkSt_refl _) (by simp [V.lt, ltL]) hst
 ·have hle2 := textL_take_le l (i + 1)
  rw [take_textL hget] at hle2
  simp only [List.length_append, List.length_cons, List.length_nil] at hle2
  simp only [gw0, reduceEqDiff, ↓reduceIte, reduceAdd, reduceLT, reduceLeDiff, reduceMul, lt_yes hlt2, hdr, List.length_map, getD_map hget, encD_take, encD_len, encD_drop, Int.ofNat_lt.mpr hlt2, Nat.le_refl]
  refine (c_ref_Text a (okDs_mem hw.1 (List.mem_of_getElem? hget)) (by omega) _).use (wkL_refl _) fun _ => ?_
  simp only [gw0, reduceEqDiff, ↓reduceIte, reduceAdd, reduceLT, reduceLeDiff, reduceMul, List.length_append, List.length_cons, List.length_nil]
  refine ⟨by omega, by omega, i + 1, ⟨?_, _, _, tail2 _ _ _ _, wkSt_refl _, ?_, ?_, by simp⟩, by omega, by omega⟩
  ·simp only [gw0, reduceEqDiff, ↓reduceIte, reduceAdd, reduceLT, reduceLeDiff, reduceMul, Env.keep, next_i64 hlt2 hkl]
   rw [take_textL hget]
   exact wkE_refl _
  ·simp only [ltE, V.lt, List.length_append, List.length_cons, List.length_nil]
   have hl := lstD_lt (st.length + (0 + 1 + 1)) l
   simp only [lstD, V.lt] at hl
   exact ⟨hl, trivial, by omega, by omega, trivial, hl, trivial, trivial, trivial⟩
  ·exact ok_app hst ⟨⟨trivial, trivial, trivial⟩, ⟨trivial, trivial, trivial⟩, trivial⟩
/-- A call of whose answer nobody writes the row. -/
theorem VCalls_plain {P : Program} {T : Nat → TI} {f : FuncId} {args : List V} {st ex : St} {v X : V} (h : VCalls P T f args st fun q st' => q = .ret v ∧ st' = st ++ ex) (hw : wk v X) (hx : X.lt st.length) : VCalls P T f args st fun q st' => q = .ret X ∧ st' = st :=
 VCalls.give ⟨h.1, fun g w vals h1 h2 => (h.2 g w vals h1 h2).mono fun e w' ⟨r, s, g', ⟨e1, e2⟩, k2, k3, k4⟩ => ⟨r, s, g', ⟨ex, v, st, e2, wkSt_refl _, e1, hw, hx, h1.okSt⟩, k2, k3, k4⟩⟩ (Nat.le_refl _)
theorem lstYb_lt (n : Nat) (s : Str) : (V.lst 1 none (byteRows s)).lt n := by
 simp only [V.lt]; exact ⟨fun e h => (by cases h), rows_lt _ _⟩
theorem c_numN (n : Int) (h0 : -9223372036854775808 ≤ n) (h1 : n ≤ 9223372036854775807) (st : St) : VCalls Tryz.prog TT 28 [.int .i64 n] st fun q st' => q = .ret (.lst 1 none (byteRows (numB n))) ∧ st' = st :=
 VCalls_plain (c_ref8_Num n h0 h1 st) (wk_tok _ _ _) (lstYb_lt _ _)
theorem c_strN (s : Str) (hs : s.length ≤ 10000000000000) (st : St) : VCalls Tryz.prog TT 27 [.str s] st fun q st' => q = .ret (.lst 1 none (byteRows (strB s))) ∧ st' = st :=
 VCalls_plain (c_ref8_str s hs st) (wk_tok _ _ _) (lstYb_lt _ _)
theorem byteRows_app (a b : Str) : byteRows a ++ byteRows b = byteRows (a ++ b) := by simp [byteRows]
theorem insW_kind {i : Ins} (h : InsR i) : insW i =
  bif decide (kindR i.op = 110) then (numB i.op ++ numB i.n, 0)
  else bif decide (kindR i.op = 113) then (numB i.op ++ strB (printL [i.quote]).1, (printL [i.quote]).2.1)
  else bif decide (kindR i.op = 103) then (numB i.op ++ strB i.lib ++ strB i.own, 0)
  else bif decide (kindR i.op = 112) then (numB i.op ++ strB i.own, 0)
  else bif decide (kindR i.op = 45) then (numB i.op, 0)
  else (numB i.op ++ numB i.a, 0) := by
 have := h.op
 obtain ⟨op, a, n, lb, ow, q⟩ := i
 simp only at this ⊢
 have : op = 1 ∨ op = 2 ∨ op = 3 ∨ op = 4 ∨ op = 5 ∨ op = 6 ∨ op = 7 ∨ op = 8 ∨ op = 9 ∨ op = 10 ∨ op = 11 ∨ op = 12 ∨ op = 13 ∨ op = 14 ∨ op = 15 := by omega
 rcases this with rfl | rfl | rfl | rfl | rfl | rfl | rfl | rfl | rfl | rfl | rfl | rfl | rfl | rfl | rfl <;> rfl
theorem gives_of0 {v X : V} {st : St} (hw : wk v X) (h : X.lt st.length) (hst : St.ok st) : Gives X st (.ret v) st := ⟨[], v, st, (List.append_nil _).symm, wkSt_refl _, rfl, hw, h, hst⟩
/-- What an instruction's kind says of it. -/
theorem kind_of {i : Ins} (h : InsR i) : (kindR i.op = 110 → i.op = 1 ∨ i.op = 2) ∧ (kindR i.op = 113 → i.op = 3) ∧ (kindR i.op = 103 → i.op = 5 ∨ i.op = 12 ∨ i.op = 13) ∧ (kindR i.op = 112 → i.op = 6) ∧ (kindR i.op ≠ 110 → kindR i.op ≠ 113 → kindR i.op ≠ 103 → kindR i.op ≠ 112 → kindR i.op ≠ 45 → i.op = 4 ∨ i.op = 7 ∨ i.op = 8 ∨ i.op = 9 ∨ i.op = 10 ∨ i.op = 11) := by
 have := h.op
 obtain ⟨op, a, n, lb, ow, q⟩ := i
 simp only at this ⊢
 have : op = 1 ∨ op = 2 ∨ op = 3 ∨ op = 4 ∨ op = 5 ∨ op = 6 ∨ op = 7 ∨ op = 8 ∨ op = 9 ∨ op = 10 ∨ op = 11 ∨ op = 12 ∨ op = 13 ∨ op = 14 ∨ op = 15 := by omega
 rcases this with rfl | rfl | rfl | rfl | rfl | rfl | rfl | rfl | rfl | rfl | rfl | rfl | rfl | rfl | rfl <;> refine ⟨?_, ?_, ?_, ?_, ?_⟩ <;> decide
set_option maxHeartbeats 4000000 in
theorem c_ref8_Bytes (u : Unit') (st : St) : VCalls Tryz.prog TT 8 [.agg (encU u)] st fun q st' => q = .ret (bytesR (bytesW u)) ∧ st' = st := by
 obtain ⟨nm, ps⟩ := u
 refine vfun TT_ok (an := anL [(1, 1)]) (L := [0, 1, 2, 3, 4, 5, 7, 9, 10, 11, 26, 27, 28, 43, 44, 45, 56]) (rs := [.tmp 2, .tmp 3]) Tryz.func8 rfl (by kernel_rfl) rfl Tryz.ntmps8 rfl rfl (Nat.le_refl _) fun hst ha hf => ?_
 simp only [encU]
 simp only [gw0, reduceEqDiff, ↓reduceIte, reduceAdd, reduceLT, reduceLeDiff, reduceMul]
 refine (c_ref8_Wrong ⟨nm, ps⟩ st).use (wkL_refl _) fun _ => ?_
 simp only [gw0, reduceEqDiff, ↓reduceIte, reduceAdd, reduceLT, reduceLeDiff, reduceMul]
 refine iK_split (fun h => ?_) (fun h => ?_)
 ·have h1 : decide (unitE ⟨nm, ps⟩ = 0) = false := not_yes h
  simp only [gw0, reduceEqDiff, ↓reduceIte, reduceAdd, reduceLT, reduceLeDiff, reduceMul]
  simp only [bytesW, h1, cond_false, bytesR, lstY, byteRows, List.map_nil]
  exact gives_of0 (wk_tup (wkL_cons (wk_nils _) (wkL_cons (wk_refl _) wkL_nil))) (by simp [V.lt, ltL, ltRows]) hst
 have h1 : decide (unitE ⟨nm, ps⟩ = 0) = true := not_no h
 have hu := unit_ok (of_decide_eq_true h1)
 have hr := unit_right (of_decide_eq_true h1)
 have hnm := plain_len hu.plain
 have hps : ∀ p ∈ ps, p.code.length ≤ 6000 ∧ ∀ x ∈ p.code, InsR x := fun p hp => ⟨(hu.form p hp).2.1, hr p hp⟩
 have hpl := hu.few.2
 have hpP := protosP_len ps hps
 have hn1 := numB_len nm.length
 have hn2 := numB_len ps.length
 simp only at hnm hpl hpP
 have hk : ∀ s : Str, (byteRows s).length = s.length := rows_len
 simp only [gw0, reduceEqDiff, ↓reduceIte, reduceAdd, reduceLT, reduceLeDiff, reduceMul, lstPr]
 refine vdraw TT_ok TT_mixed [0, 0, 2, 0, 0, 0, 0, 2, 0] (by kernel_rfl) ?_
 simp only [gw0, reduceEqDiff, ↓reduceIte, reduceAdd, reduceLT, reduceLeDiff, reduceMul]
 refine eK_loud (c_ref8_str nm (by omega) st) (wkL_refl _) ?_
 simp only [gw0, reduceEqDiff, ↓reduceIte, reduceAdd, reduceLT, reduceLeDiff, reduceMul, List.length_map]
 refine eK_free (fun st => c_numN ps.length (by omega) (by omega) st) (wkL_refl _) ?_
 simp only [gw0, reduceEqDiff, ↓reduceIte, reduceAdd, reduceLT, reduceLeDiff, reduceMul, rows_len, byteRows_app, List.length_map]
 refine ⟨by simp only [List.length_append]; omega, ?_⟩
 rw [show numB (nm.length : Int) ++ nm = strB nm from rfl, ← List.length_append]
 have hW0 : ∀ x : Str, x = strB nm ++ numB ps.length → x.length ≤ 80 := fun x e => by rw [e]; simp [strB]; omega
 generalize hw0 : strB nm ++ numB ps.length = w0
 have hw0l := hW0 w0 hw0.symm
 refine vforD (σ := Nat) [0, 1, 2, 3, 4, 5, 26, 27, 28] (fun i => [(0, true, .agg (encU ⟨nm, ps⟩)), (1, true, .ref (encU ⟨nm, ps⟩)), (2, true, .nils), (3, true, .int .i64 0), (4, true, .int .i64 (unitE ⟨nm, ps⟩)), (5, true, .lst 1 (some st.length) (byteRows (w0 ++ protosP (ps.take i)))), (26, true, lstPr ps), (27, true, .int .i64 ps.length), (28, true, .int .i64 i)]) (fun i => st ++ [.tip 5 (w0 ++ protosP (ps.take i)).length]) (fun i => ps.length - i) (fun i => i ≤ ps.length ∧ (protosW ps).2 = (protosW (ps.drop i)).2) 0 rfl TT_ok ⟨Nat.zero_le _, rfl⟩ (by simp only [encU, lstPr, List.take_zero, protosP, List.flatMap_nil, List.append_nil]; exact wkE_refl _) (by simp [protosP]) ?_
 rintro i ⟨hi, he⟩
 simp only [encU, lstPr]
 have hle : (protosP (ps.take i)).length ≤ (protosP ps).length := by
  have e := List.take_append_drop i ps
  conv => rhs; rw [← e]
  simp only [protosP, List.flatMap_append, List.length_append]
  omega
 rcases at_or_end ps i hi with ⟨rfl, hdd⟩ | ⟨a, hlt2, hget, hdr⟩
 ·have hz : (protosW ps).2 = 0 := by rw [he, hdd]; rfl
  have hzp := (protosW_ok hz).1
  have huw : unitW ⟨nm, ps⟩ = w0 ++ protosP ps := by rw [unitW, hzp, hw0]
  simp only [gw0, reduceEqDiff, ↓reduceIte, reduceAdd, reduceLT, reduceLeDiff, reduceMul, lt_no]
  rw [List.take_length]
  simp only [gw0, reduceEqDiff, ↓reduceIte, reduceAdd, reduceLT, reduceLeDiff, reduceMul, rows_len]
  refine iK_split (fun h2 => ?_) (fun h2 => ?_)
  ·have h3 : decide (60000 < (unitW ⟨nm, ps⟩).length) = true := by rw [huw, decide_eq_true_eq]; rw [decide_eq_true_eq] at h2; omega
   simp only [gw0, reduceEqDiff, ↓reduceIte, reduceAdd, reduceLT, reduceLeDiff, reduceMul]
   simp only [bytesW, h1, hz, h3, decide_true, cond_true, bytesR, lstY, byteRows, List.map_nil]
   exact gives_of (wk_tup (wkL_cons (wk_nils _) (wkL_cons (wk_refl _) wkL_nil))) (wkSt_refl _) (by simp [V.lt, ltL, ltRows]) hst
  ·have h3 : decide (60000 < (unitW ⟨nm, ps⟩).length) = false := by rw [huw, decide_eq_false_iff_not]; rw [decide_eq_false_iff_not] at h2; omega
   simp only [gw0, reduceEqDiff, ↓reduceIte, reduceAdd, reduceLT, reduceLeDiff, reduceMul]
   have h3' := h3
   rw [huw] at h3'
   simp only [bytesW, h1, hz, huw, h3', decide_true, cond_true, cond_false, bytesR, lstY]
   refine gives_of (wk_tup (wkL_cons (wk_tok _ _ _) (wkL_cons (wk_refl _) wkL_nil))) (wkSt_refl _) ?_ hst
   simp only [V.lt, ltL]
   exact ⟨⟨fun e h => (by cases h), byteRows_lt _ _⟩, trivial, trivial⟩
 ·obtain ⟨pa, pc⟩ := a
  have hm := List.mem_of_getElem? hget
  have hpa := hu.form _ hm
  have hpr := hps _ hm
  simp only at hpa hpr
  have hna := numB_len pa
  have hnc := numB_len pc.length
  have hcl := codeP_len pc hpr.2
  have hle2 : (protosP ps).length ≤ 20000000000 := by omega
  simp only [gw0, reduceEqDiff, ↓reduceIte, reduceAdd, reduceLT, reduceLeDiff, reduceMul, lt_yes hlt2, hdr, List.length_map, getD_map hget, Int.ofNat_lt.mpr hlt2, encPr, lstI]
  refine vmelt 7 (st.length + 1) _ rfl (by simp only [gwL]; rfl) ?_
  simp only [gw0, reduceEqDiff, ↓reduceIte, reduceAdd, reduceLT, reduceLeDiff, reduceMul, meltE]
  refine vdraw TT_ok TT_mixed [0, 0, 0, 0, 2, 0, 0, 0, 0, 2, 0] (by kernel_rfl) ?_
  simp only [gw0, reduceEqDiff, ↓reduceIte, reduceAdd, reduceLT, reduceLeDiff, reduceMul, lstI]
  refine eK_free (fun st => c_numN pa (by omega) (by omega) st) (wkL_refl _) ?_
  simp only [gw0, reduceEqDiff, ↓reduceIte, reduceAdd, reduceLT, reduceLeDiff, reduceMul, rows_len, byteRows_app, List.length_map]
  refine ⟨by simp only [List.length_append]; omega, eK_free (fun st => c_numN pc.length (by omega) (by omega) st) (wkL_refl _) ?_⟩
  simp only [gw0, reduceEqDiff, ↓reduceIte, reduceAdd, reduceLT, reduceLeDiff, reduceMul, rows_len, byteRows_app, List.length_map, ← List.length_append]
  refine ⟨by simp only [List.length_append]; omega, ?_⟩
  have hB : ∀ x : Str, x = w0 ++ protosP (ps.take i) ++ numB pa ++ numB pc.length → x.length ≤ 30000000000 ∧ x = w0 ++ protosP (ps.take i) ++ headW ⟨pa, pc⟩ := fun x e => by
   rw [e]; simp [headW]; omega
  generalize hb0 : w0 ++ protosP (ps.take i) ++ numB pa ++ numB pc.length = b0
  obtain ⟨hb0l, hb0e⟩ := hB b0 hb0.symm
  refine vforD (σ := Nat) [0, 1, 2, 3, 4, 5, 7, 26, 27, 28, 43, 44, 45] (fun j => [(0, true, .agg (encU ⟨nm, ps⟩)), (1, true, .ref (encU ⟨nm, ps⟩)), (2, true, .nils), (3, true, .int .i64 0), (4, true, .int .i64 (unitE ⟨nm, ps⟩)), (5, true, .lst 1 (some st.length) (byteRows (b0 ++ codeP (pc.take j)))), (7, true, .ref [.int .i64 pa, .lst 11 none (pc.map encI)]), (26, true, lstPr ps), (27, true, .int .i64 ps.length), (28, true, .int .i64 i), (43, true, .lst 11 none (pc.map encI)), (44, true, .int .i64 pc.length), (45, true, .int .i64 j)]) (fun j => st ++ [.tip 5 (b0 ++ codeP (pc.take j)).length, .gone]) (fun j => pc.length - j) (fun j => j ≤ pc.length ∧ (codeW pc).2 = (codeW (pc.drop j)).2) 0 rfl TT_ok ⟨Nat.zero_le _, rfl⟩ (by simp only [encU, lstPr, List.take_zero, codeP, List.flatMap_nil, List.append_nil]; exact wkE_refl _) (by simp [codeP]) ?_
  rintro j ⟨hj, hje⟩
  simp only [encU, lstPr]
  have hlej : (codeP (pc.take j)).length ≤ (codeP pc).length := by
   have e := List.take_append_drop j pc
   conv => rhs; rw [← e]
   simp only [codeP, List.flatMap_append, List.length_append]
   omega
  rcases at_or_end pc j hj with ⟨rfl, hjd⟩ | ⟨x, hlt3, hget3, hdr3⟩
  ·have hcz : (codeW pc).2 = 0 := by rw [hje, hjd]; rfl
   have hne : (protosW ps).2 = (protosW (ps.drop (i + 1))).2 := by rw [he, hdr]; exact protosW_good hcz
   simp only [gw0, reduceEqDiff, ↓reduceIte, reduceAdd, reduceLT, reduceLeDiff, reduceMul, lt_no]
   rw [List.take_length]
   have hbx : b0 ++ codeP pc = w0 ++ protosP (ps.take (i + 1)) := by rw [take_protosP hget, hb0e]; simp
   rw [hbx]
   refine ⟨i + 1, ⟨?_, st ++ [.tip 5 (w0 ++ protosP (ps.take (i + 1))).length], [.gone], by simp, wkSt_refl _, ?_, ?_, by simp⟩, by omega, hlt2, hne⟩
   ·simp only [gw0, reduceEqDiff, ↓reduceIte, reduceAdd, reduceLT, reduceLeDiff, reduceMul, Env.keep, next_i64 hlt2 (by omega)]
    exact wkE_refl _
   ·simp only [ltE, V.lt, List.length_append, List.length_cons, List.length_nil]
    have hl := lstPr_lt (st.length + (0 + 1)) ps
    simp only [lstPr, V.lt] at hl
    exact ⟨⟨trivial, hl, trivial⟩, ⟨trivial, hl, trivial⟩, trivial, trivial, trivial, ⟨fun e h => by cases h; omega, rows_lt _ _⟩, hl, trivial, trivial, trivial⟩
   ·exact ok_app hst ⟨trivial, trivial⟩
  ·have hxr := hpr.2 x (List.mem_of_getElem? hget3)
   have hko := kind_of hxr
   have hwk := insW_kind hxr
   have hxl := insW_len hxr
   have hop := hxr.op
   have hb1 : (b0 ++ codeP (pc.take j)).length ≤ 80000000000 := by simp only [List.length_append]; omega
   have hnext : (insW x).2 = 0 → b0 ++ codeP (pc.take j) ++ (insW x).1 = b0 ++ codeP (pc.take (j + 1)) ∧ (codeW pc).2 = (codeW (pc.drop (j + 1))).2 := fun h => ⟨by rw [take_codeP hget3, List.append_assoc], by rw [hje, hdr3]; exact codeW_good h⟩
   generalize hb2 : b0 ++ codeP (pc.take j) = b2 at hb1 hnext ⊢
   simp only [gw0, reduceEqDiff, ↓reduceIte, reduceAdd, reduceLT, reduceLeDiff, reduceMul, lt_yes hlt3, hdr3, List.length_map, getD_map hget3, Int.ofNat_lt.mpr hlt3, encI_take, encI_len, Nat.le_refl]
   obtain ⟨op, xa, xn, xl, xo, xq⟩ := x
   simp only [encI_mk] at *
   simp only [gw0, reduceEqDiff, ↓reduceIte, reduceAdd, reduceLT, reduceLeDiff, reduceMul]
   have hnop := numB_len op
   refine (c_numN op (by omega) (by omega) _).use (wkL_refl _) fun _ => ?_
   simp only [gw0, reduceEqDiff, ↓reduceIte, reduceAdd, reduceLT, reduceLeDiff, reduceMul, rows_len, byteRows_app, List.length_map, ← List.length_append]
   refine ⟨by simp only [List.length_append, strB]; omega, ?_⟩
   refine (c_Kind op _).use (wkL_refl _) fun _ => ?_
   simp only [gw0, reduceEqDiff, ↓reduceIte, reduceAdd, reduceLT, reduceLeDiff, reduceMul]
   refine iK_split (fun h5 => ?_) (fun h5 => ?_)
   ·have hrn := hxr.n (hko.1 (of_decide_eq_true h5))
    have hnx := numB_len xn
    simp only at hrn
    simp only [gw0, reduceEqDiff, ↓reduceIte, reduceAdd, reduceLT, reduceLeDiff, reduceMul]
    refine (c_numN xn (by omega) (by omega) _).use (wkL_refl _) fun _ => ?_
    simp only [gw0, reduceEqDiff, ↓reduceIte, reduceAdd, reduceLT, reduceLeDiff, reduceMul, rows_len, byteRows_app, List.length_map, ← List.length_append]
    refine ⟨by simp only [List.length_append, strB]; omega, ?_⟩
    have hw : insW ⟨op, xa, xn, xl, xo, xq⟩ = (numB op ++ numB xn, 0) := by rw [hwk]; simp only [h5, cond_true, cond_false]
    obtain ⟨hn1, hn2⟩ := hnext (by rw [hw])
    rw [hw] at hn1
    simp only [← List.append_assoc] at hn1
    rw [hn1]
    refine ⟨j + 1, ⟨?_, st ++ [.tip 5 (b0 ++ codeP (pc.take (j + 1))).length, .gone], [.box (.int .i64 op :: .int .i64 xa :: .int .i64 xn :: .str xl :: .str xo :: encD xq)], by simp, wkSt_refl _, ?_, ?_, by simp⟩, by omega, hlt3, hn2⟩
    ·simp only [gw0, reduceEqDiff, ↓reduceIte, reduceAdd, reduceLT, reduceLeDiff, reduceMul, Env.keep, next_i64 hlt3 (by omega)]
     exact wkE_refl _
    ·simp only [ltE, V.lt, List.length_append, List.length_cons, List.length_nil]
     have hl := lstPr_lt (st.length + (0 + 1 + 1)) ps
     have hl2 := lstI_lt (st.length + (0 + 1 + 1)) pc
     simp only [lstPr, lstI, V.lt] at hl hl2
     exact ⟨⟨trivial, hl, trivial⟩, ⟨trivial, hl, trivial⟩, trivial, trivial, trivial, ⟨fun e h => by cases h; omega, rows_lt _ _⟩, ⟨trivial, hl2, trivial⟩, hl, trivial, trivial, hl2, trivial, trivial, trivial⟩
    ·exact ok_app hst ⟨trivial, trivial, trivial⟩
   simp only [gw0, reduceEqDiff, ↓reduceIte, reduceAdd, reduceLT, reduceLeDiff, reduceMul]
   refine iK_split (fun h6 => ?_) (fun h6 => ?_)
   ·have hpl6 := print_len [xq]
    have hnx := numB_len (printL [xq]).1.length
    have hw : insW ⟨op, xa, xn, xl, xo, xq⟩ = (numB op ++ strB (printL [xq]).1, (printL [xq]).2.1) := by rw [hwk]; simp only [h5, h6, cond_true, cond_false]
    simp only [gw0, reduceEqDiff, ↓reduceIte, reduceAdd, reduceLT, reduceLeDiff, reduceMul, encD_take, encD_len, encD_drop, Nat.le_refl, List.length_cons, List.length_nil]
    refine (c_ref_Print _ [xq]).use (wkL_refl _) fun _ => ?_
    obtain ⟨⟨t, e, q⟩, hpr2⟩ : ∃ x, printL [xq] = x := ⟨_, rfl⟩
    simp only [hpr2] at hpl6 hnx hw ⊢
    simp only [printV, fltV]
    simp only [gw0, reduceEqDiff, ↓reduceIte, reduceAdd, reduceLT, reduceLeDiff, reduceMul]
    refine iK_split (fun h7 => ?_) (fun h7 => ?_)
    ·have h8 : e ≠ 0 := of_decide_eq_false (not_yes h7)
     have h9 : (codeW pc).2 = (insW ⟨op, xa, xn, xl, xo, xq⟩).2 := codeW_bad (by rw [hje, hdr3]) (by rw [hw]; exact h8)
     rw [hw] at h9
     simp only at h9
     have h10 : (protosW ps).2 = e := by rw [← h9]; exact protosW_bad (p := ⟨pa, pc⟩) (by rw [he, hdr]) (by rw [h9]; exact h8)
     simp only [gw0, reduceEqDiff, ↓reduceIte, reduceAdd, reduceLT, reduceLeDiff, reduceMul]
     refine vdraw TT_ok TT_mixed [0, 1, 0, 0] (by kernel_rfl) ?_
     simp only [gw0, reduceEqDiff, ↓reduceIte, reduceAdd, reduceLT, reduceLeDiff, reduceMul]
     simp only [bytesW, h1, h10, not_yes h7, cond_true, cond_false, bytesR, lstY, byteRows, List.map_nil]
     exact gives_of (wk_tup (wkL_cons (wk_nils _) (wkL_cons (wk_refl _) wkL_nil))) (wkSt_refl _) (by simp [V.lt, ltL, ltRows]) hst
    ·have h8 : e = 0 := of_decide_eq_true (not_no h7)
     subst h8
     simp only [gw0, reduceEqDiff, ↓reduceIte, reduceAdd, reduceLT, reduceLeDiff, reduceMul]
     refine (c_strN t (by omega) _).use (wkL_refl _) fun _ => ?_
     simp only [gw0, reduceEqDiff, ↓reduceIte, reduceAdd, reduceLT, reduceLeDiff, reduceMul, rows_len, byteRows_app, List.length_map, ← List.length_append]
     refine ⟨by simp only [List.length_append, strB]; omega, ?_⟩
     have hw : insW ⟨op, xa, xn, xl, xo, xq⟩ = (numB op ++ strB t, 0) := hw
     obtain ⟨hn1, hn2⟩ := hnext (by rw [hw])
     rw [hw] at hn1
     simp only [← List.append_assoc] at hn1
     rw [hn1]
     refine ⟨j + 1, ⟨?_, st ++ [.tip 5 (b0 ++ codeP (pc.take (j + 1))).length, .gone], [.box (.int .i64 op :: .int .i64 xa :: .int .i64 xn :: .str xl :: .str xo :: encD xq), .box [.int .i64 0, .int .i64 q]], by simp, wkSt_refl _, ?_, ?_, by simp⟩, by omega, hlt3, hn2⟩
     ·simp only [gw0, reduceEqDiff, ↓reduceIte, reduceAdd, reduceLT, reduceLeDiff, reduceMul, Env.keep, next_i64 hlt3 (by omega)]
      exact wkE_refl _
     ·simp only [ltE, V.lt, List.length_append, List.length_cons, List.length_nil]
      have hl := lstPr_lt (st.length + (0 + 1 + 1)) ps
      have hl2 := lstI_lt (st.length + (0 + 1 + 1)) pc
      simp only [lstPr, lstI, V.lt] at hl hl2
      exact ⟨⟨trivial, hl, trivial⟩, ⟨trivial, hl, trivial⟩, trivial, trivial, trivial, ⟨fun e h => by cases h; omega, rows_lt _ _⟩, ⟨trivial, hl2, trivial⟩, hl, trivial, trivial, hl2, trivial, trivial, trivial⟩
     ·exact ok_app hst ⟨trivial, trivial, trivial⟩
   simp only [gw0, reduceEqDiff, ↓reduceIte, reduceAdd, reduceLT, reduceLeDiff, reduceMul]
   refine iK_split (fun h7 => ?_) (fun h7 => ?_)
   ·have hrg := hxr.g (hko.2.2.1 (of_decide_eq_true h7))
    have hnx := numB_len xl.length
    have hny := numB_len xo.length
    simp only at hrg
    simp only [gw0, reduceEqDiff, ↓reduceIte, reduceAdd, reduceLT, reduceLeDiff, reduceMul]
    refine vmelt 9 (st.length + 2) _ rfl (by simp only [gwL]; rfl) ?_
    simp only [gw0, reduceEqDiff, ↓reduceIte, reduceAdd, reduceLT, reduceLeDiff, reduceMul, meltE]
    refine vdraw TT_ok TT_mixed [0, 0, 0, 0, 2, 0, 0, 0, 2, 0] (by kernel_rfl) ?_
    simp only [gw0, reduceEqDiff, ↓reduceIte, reduceAdd, reduceLT, reduceLeDiff, reduceMul]
    refine eK_free (fun st => c_strN xl (by omega) st) (wkL_refl _) ?_
    simp only [gw0, reduceEqDiff, ↓reduceIte, reduceAdd, reduceLT, reduceLeDiff, reduceMul, rows_len, byteRows_app, List.length_map, ← List.length_append]
    refine ⟨by simp only [List.length_append, strB]; omega, eK_free (fun st => c_strN xo (by omega) st) (wkL_refl _) ?_⟩
    simp only [gw0, reduceEqDiff, ↓reduceIte, reduceAdd, reduceLT, reduceLeDiff, reduceMul, rows_len, byteRows_app, List.length_map, ← List.length_append]
    refine ⟨by simp only [List.length_append, strB]; omega, ?_⟩
    have hw : insW ⟨op, xa, xn, xl, xo, xq⟩ = (numB op ++ strB xl ++ strB xo, 0) := by rw [hwk]; simp only [h5, h6, h7, cond_true, cond_false]
    obtain ⟨hn1, hn2⟩ := hnext (by rw [hw])
    rw [hw] at hn1
    simp only [← List.append_assoc] at hn1
    rw [hn1]
    refine ⟨j + 1, ⟨?_, st ++ [.tip 5 (b0 ++ codeP (pc.take (j + 1))).length, .gone], [.gone], by simp, wkSt_refl _, ?_, ?_, by simp⟩, by omega, hlt3, hn2⟩
    ·simp only [gw0, reduceEqDiff, ↓reduceIte, reduceAdd, reduceLT, reduceLeDiff, reduceMul, Env.keep, next_i64 hlt3 (by omega)]
     exact wkE_refl _
    ·simp only [ltE, V.lt, List.length_append, List.length_cons, List.length_nil]
     have hl := lstPr_lt (st.length + (0 + 1 + 1)) ps
     have hl2 := lstI_lt (st.length + (0 + 1 + 1)) pc
     simp only [lstPr, lstI, V.lt] at hl hl2
     exact ⟨⟨trivial, hl, trivial⟩, ⟨trivial, hl, trivial⟩, trivial, trivial, trivial, ⟨fun e h => by cases h; omega, rows_lt _ _⟩, ⟨trivial, hl2, trivial⟩, hl, trivial, trivial, hl2, trivial, trivial, trivial⟩
    ·exact ok_app hst ⟨trivial, trivial, trivial⟩
   simp only [gw0, reduceEqDiff, ↓reduceIte, reduceAdd, reduceLT, reduceLeDiff, reduceMul]
   refine iK_split (fun h8 => ?_) (fun h8 => ?_)
   ·have hrg := hxr.p (hko.2.2.2.1 (of_decide_eq_true h8))
    have hny := numB_len xo.length
    simp only at hrg
    simp only [gw0, reduceEqDiff, ↓reduceIte, reduceAdd, reduceLT, reduceLeDiff, reduceMul]
    refine (c_strN xo (by omega) _).use (wkL_refl _) fun _ => ?_
    simp only [gw0, reduceEqDiff, ↓reduceIte, reduceAdd, reduceLT, reduceLeDiff, reduceMul, rows_len, byteRows_app, List.length_map, ← List.length_append]
    refine ⟨by simp only [List.length_append, strB]; omega, ?_⟩
    have hw : insW ⟨op, xa, xn, xl, xo, xq⟩ = (numB op ++ strB xo, 0) := by rw [hwk]; simp only [h5, h6, h7, h8, cond_true, cond_false]
    obtain ⟨hn1, hn2⟩ := hnext (by rw [hw])
    rw [hw] at hn1
    simp only [← List.append_assoc] at hn1
    rw [hn1]
    refine ⟨j + 1, ⟨?_, st ++ [.tip 5 (b0 ++ codeP (pc.take (j + 1))).length, .gone], [.box (.int .i64 op :: .int .i64 xa :: .int .i64 xn :: .str xl :: .str xo :: encD xq)], by simp, wkSt_refl _, ?_, ?_, by simp⟩, by omega, hlt3, hn2⟩
    ·simp only [gw0, reduceEqDiff, ↓reduceIte, reduceAdd, reduceLT, reduceLeDiff, reduceMul, Env.keep, next_i64 hlt3 (by omega)]
     exact wkE_refl _
    ·simp only [ltE, V.lt, List.length_append, List.length_cons, List.length_nil]
     have hl := lstPr_lt (st.length + (0 + 1 + 1)) ps
     have hl2 := lstI_lt (st.length + (0 + 1 + 1)) pc
     simp only [lstPr, lstI, V.lt] at hl hl2
     exact ⟨⟨trivial, hl, trivial⟩, ⟨trivial, hl, trivial⟩, trivial, trivial, trivial, ⟨fun e h => by cases h; omega, rows_lt _ _⟩, ⟨trivial, hl2, trivial⟩, hl, trivial, trivial, hl2, trivial, trivial, trivial⟩
    ·exact ok_app hst ⟨trivial, trivial, trivial⟩
   simp only [gw0, reduceEqDiff, ↓reduceIte, reduceAdd, reduceLT, reduceLeDiff, reduceMul]
   refine iK_split (fun h9 => ?_) (fun h9 => ?_)
   ·simp only [gw0, reduceEqDiff, ↓reduceIte, reduceAdd, reduceLT, reduceLeDiff, reduceMul]
    have hw : insW ⟨op, xa, xn, xl, xo, xq⟩ = (numB op, 0) := by rw [hwk]; simp only [h5, h6, h7, h8, h9, cond_true, cond_false]
    obtain ⟨hn1, hn2⟩ := hnext (by rw [hw])
    rw [hw] at hn1
    simp only [← List.append_assoc] at hn1
    rw [hn1]
    refine ⟨j + 1, ⟨?_, st ++ [.tip 5 (b0 ++ codeP (pc.take (j + 1))).length, .gone], [.box (.int .i64 op :: .int .i64 xa :: .int .i64 xn :: .str xl :: .str xo :: encD xq)], by simp, wkSt_refl _, ?_, ?_, by simp⟩, by omega, hlt3, hn2⟩
    ·simp only [gw0, reduceEqDiff, ↓reduceIte, reduceAdd, reduceLT, reduceLeDiff, reduceMul, Env.keep, next_i64 hlt3 (by omega)]
     exact wkE_refl _
    ·simp only [ltE, V.lt, List.length_append, List.length_cons, List.length_nil]
     have hl := lstPr_lt (st.length + (0 + 1 + 1)) ps
     have hl2 := lstI_lt (st.length + (0 + 1 + 1)) pc
     simp only [lstPr, lstI, V.lt] at hl hl2
     exact ⟨⟨trivial, hl, trivial⟩, ⟨trivial, hl, trivial⟩, trivial, trivial, trivial, ⟨fun e h => by cases h; omega, rows_lt _ _⟩, ⟨trivial, hl2, trivial⟩, hl, trivial, trivial, hl2, trivial, trivial, trivial⟩
    ·exact ok_app hst ⟨trivial, trivial, trivial⟩
   ·have hra := hxr.a (hko.2.2.2.2 (of_decide_eq_false h5) (of_decide_eq_false h6) (of_decide_eq_false h7) (of_decide_eq_false h8) (of_decide_eq_false h9))
    have hnx := numB_len xa
    simp only at hra
    simp only [gw0, reduceEqDiff, ↓reduceIte, reduceAdd, reduceLT, reduceLeDiff, reduceMul]
    refine (c_numN xa (by omega) (by omega) _).use (wkL_refl _) fun _ => ?_
    simp only [gw0, reduceEqDiff, ↓reduceIte, reduceAdd, reduceLT, reduceLeDiff, reduceMul, rows_len, byteRows_app, List.length_map, ← List.length_append]
    refine ⟨by simp only [List.length_append, strB]; omega, ?_⟩
    have hw : insW ⟨op, xa, xn, xl, xo, xq⟩ = (numB op ++ numB xa, 0) := by rw [hwk]; simp only [h5, h6, h7, h8, h9, cond_true, cond_false]
    obtain ⟨hn1, hn2⟩ := hnext (by rw [hw])
    rw [hw] at hn1
    simp only [← List.append_assoc] at hn1
    rw [hn1]
    refine ⟨j + 1, ⟨?_, st ++ [.tip 5 (b0 ++ codeP (pc.take (j + 1))).length, .gone], [.box (.int .i64 op :: .int .i64 xa :: .int .i64 xn :: .str xl :: .str xo :: encD xq)], by simp, wkSt_refl _, ?_, ?_, by simp⟩, by omega, hlt3, hn2⟩
    ·simp only [gw0, reduceEqDiff, ↓reduceIte, reduceAdd, reduceLT, reduceLeDiff, reduceMul, Env.keep, next_i64 hlt3 (by omega)]
     exact wkE_refl _
    ·simp only [ltE, V.lt, List.length_append, List.length_cons, List.length_nil]
     have hl := lstPr_lt (st.length + (0 + 1 + 1)) ps
     have hl2 := lstI_lt (st.length + (0 + 1 + 1)) pc
     simp only [lstPr, lstI, V.lt] at hl hl2
     exact ⟨⟨trivial, hl, trivial⟩, ⟨trivial, hl, trivial⟩, trivial, trivial, trivial, ⟨fun e h => by cases h; omega, rows_lt _ _⟩, ⟨trivial, hl2, trivial⟩, hl, trivial, trivial, hl2, trivial, trivial, trivial⟩
    ·exact ok_app hst ⟨trivial, trivial, trivial⟩
/-- The document's walk: its text, where it is, how many nodes there were, what was wrong first. -/
def wkN (s : Str) (p n : Nat) (f : Int × Int) : Ent := .box [.str s, .int .i64 p, .int .i64 n, .int .i64 f.1, .int .i64 f.2]
theorem wkN_ok {st : St} {b p n : Nat} {s : Str} {f : Int × Int} (h : St.ok st) : St.ok (st.set b (wkN s p n f)) := by
 intro e he
 rw [List.length_set]
 rcases List.mem_or_eq_of_mem_set he with h' | rfl
 ·exact h e h'
 ·simp [wkN, Ent.lt, ltL, V.lt]
theorem at_w {st : St} {b : Nat} {s : Str} (h : b < st.length) (p n : Nat) (f : Int × Int) (l : St) : (st.set b (wkN s p n f) ++ l)[b]? = some (.box [.str s, .int .i64 p, .int .i64 n, .int .i64 f.1, .int .i64 f.2]) := get_b h
theorem at_w0 {st : St} {b : Nat} {s : Str} (h : b < st.length) (p n : Nat) (f : Int × Int) : (st.set b (wkN s p n f))[b]? = some (.box [.str s, .int .i64 p, .int .i64 n, .int .i64 f.1, .int .i64 f.2]) := List.getElem?_set_self h
theorem c_skip (s : Str) (st : St) (b p n : Nat) (f : Int × Int) (hlt : b < st.length) (hp : p ≤ s.length) (hs : s.length ≤ 6000) :
  VCalls Tryz.prog TT 59 [.ptr b 0] (st.set b (wkN s p n f)) fun r st' => r = .ret (.tup []) ∧ st' = st.set b (wkN s (s.length - (blk false (s.drop p)).length) n f) := by
 refine vfun TT_ok (an := anL []) (L := [0, 2, 3]) (rs := []) Tryz.func59 rfl (by kernel_rfl) rfl Tryz.ntmps59 rfl rfl (by simp) fun hst ha hf => ?_
 have hok : ∀ p n, St.ok (st.set b (wkN s p n f)) := fun p n => by have := wkN_ok (s := s) (b := b) (p := p) (n := n) (f := f) hst; rw [List.set_set] at this; exact this
 have h63 : s.length ≤ 9223372036854775807 := by omega
 have hend : ∀ x, x ≤ s.length → blk false (s.drop p) = s.drop x → Gives (.tup []) (st.set b (wkN s (s.length - (blk false (s.drop p)).length) n f)) (.ret (.tup [])) (st.set b (wkN s x n f)) := by
  intro x hx h
  rw [h, List.length_drop, show s.length - (s.length - x) = x by omega]
  exact gives_self (by simp [V.lt, ltL]) (hok _ _)
 simp only [gw0, reduceEqDiff, ↓reduceIte, reduceAdd, reduceLT, reduceLeDiff, reduceMul]
 refine vfor (σ := Nat × Bool) [0, 2] (fun x => [(0, true, .ptr b 0), (2, true, .bool x.2)]) (fun x => st.set b (wkN s x.1 n f)) (fun x => s.length - x.1) (fun x => x.1 ≤ s.length ∧ blk false (s.drop p) = blk x.2 (s.drop x.1)) (p, false) rfl TT_ok ⟨hp, rfl⟩ rfl rfl ?_
 rintro ⟨x, note⟩ ⟨hx, hI⟩
 simp only at hx hI ⊢
 simp only [gw0, reduceEqDiff, ↓reduceIte, reduceAdd, reduceLT, reduceLeDiff, reduceMul]
 refine vdraw TT_ok TT_mixed [0, 0, 0, 1, 0, 0, 0, 1, 0, 0] (by kernel_rfl) ?_
 rcases at_or_end s x hx with ⟨rfl, hd⟩ | ⟨c, hltx, hget, hdr⟩
 ·simp only [gw0, reduceEqDiff, ↓reduceIte, reduceAdd, reduceLT, reduceLeDiff, reduceMul, at_w0 hlt, lt_no]
  exact hend _ (Nat.le_refl _) (by rw [hI, hd]; cases note <;> rfl)
 simp only [gw0, reduceEqDiff, ↓reduceIte, reduceAdd, reduceLT, reduceLeDiff, reduceMul, at_w0 hlt, lt_yes hltx]
 refine vdraw TT_ok TT_mixed [0, 0, 0, 1, 0, 0, 0, 1, 0, 0] (by kernel_rfl) ?_
 have h10 : decide ((c.toNat : Int) = 10) = decide (c = 10) := byte_eq c 10
 have h59 : decide ((c.toNat : Int) = 59) = decide (c = 59) := byte_eq c 59
 have h32 : decide ((c.toNat : Int) = 32) = decide (c = 32) := byte_eq c 32
 have h9 : decide ((c.toNat : Int) = 9) = decide (c = 9) := byte_eq c 9
 simp only [gw0, reduceEqDiff, ↓reduceIte, reduceAdd, reduceLT, reduceLeDiff, reduceMul, at_w0 hlt, getD_at hget, Int.ofNat_lt.mpr hltx, h10, h59, h32, h9]
 rw [hdr] at hI
 have hbk : ∀ b' : Bool, blk b' (c :: s.drop (x + 1)) = (match b' with | true => bif decide (c = 10) then blk false (s.drop (x + 1)) else blk true (s.drop (x + 1)) | false => bif isBlank c then blk false (s.drop (x + 1)) else bif decide (c = 59) then blk true (s.drop (x + 1)) else c :: s.drop (x + 1)) := fun b' => by cases b' <;> simp only [blk]
 rw [hbk] at hI
 refine iK_split (fun h => ?_) (fun h => ?_)
 ·have hc := of_decide_eq_true h
  have k59 : decide ((c.toNat : Int) = 59) = false := by rw [hc]; rfl
  have k10 : decide ((c.toNat : Int) = 10) = true := by rw [hc]; rfl
  have hI' : blk false (s.drop p) = blk false (s.drop (x + 1)) := by rw [hI]; subst hc; cases note <;> rfl
  simp only [gw0, reduceEqDiff, ↓reduceIte, reduceAdd, reduceLT, reduceLeDiff, reduceMul, k59, at_w0 hlt, next_i64 hltx h63, k10]
  simp only [gw0, reduceEqDiff, ↓reduceIte, reduceAdd, reduceLT, reduceLeDiff, reduceMul, Env.keep]
  exact ⟨(x + 1, false), rfl, by rw [List.set_set]; rfl, by dsimp only; omega, by dsimp only; omega, hI'⟩
 ·simp only [gw0, reduceEqDiff, ↓reduceIte, reduceAdd, reduceLT, reduceLeDiff, reduceMul, h59]
  refine iK_split (fun h2 => ?_) (fun h2 => ?_)
  ·have hc := of_decide_eq_true h2
   have hI' : blk false (s.drop p) = blk true (s.drop (x + 1)) := by rw [hI]; subst hc; cases note <;> rfl
   simp only [gw0, reduceEqDiff, ↓reduceIte, reduceAdd, reduceLT, reduceLeDiff, reduceMul, at_w0 hlt, next_i64 hltx h63]
   simp only [gw0, reduceEqDiff, ↓reduceIte, reduceAdd, reduceLT, reduceLeDiff, reduceMul, Env.keep]
   exact ⟨(x + 1, true), rfl, by rw [List.set_set]; rfl, by dsimp only; omega, by dsimp only; omega, hI'⟩
  ·simp only [gw0, reduceEqDiff, ↓reduceIte, reduceAdd, reduceLT, reduceLeDiff, reduceMul, h32, h9, h10, h]
   refine iK_split (fun h3 => ?_) (fun h3 => ?_)
   ·simp only [gw0, reduceEqDiff, ↓reduceIte, reduceAdd, reduceLT, reduceLeDiff, reduceMul]
    refine hend x hx ?_
    rw [hI, hdr]
    revert h3
    simp only [isBlank, h, h2]
    cases note <;> cases decide (c = 32) <;> cases decide (c = 9) <;> simp
   ·simp only [gw0, reduceEqDiff, ↓reduceIte, reduceAdd, reduceLT, reduceLeDiff, reduceMul, at_w0 hlt, next_i64 hltx h63]
    simp only [gw0, reduceEqDiff, ↓reduceIte, reduceAdd, reduceLT, reduceLeDiff, reduceMul, Env.keep]
    refine ⟨(x + 1, note), rfl, by rw [List.set_set]; rfl, by dsimp only; omega, by dsimp only; omega, ?_⟩
    rw [hI]
    revert h3
    simp only [isBlank, h, h2]
    cases note <;> cases decide (c = 32) <;> cases decide (c = 9) <;> simp
theorem c_good (s : Str) (st : St) (b p n : Nat) (f : Int × Int) (hb : st[b]? = some (wkN s p n f)) :
  VCalls Tryz.prog TT 60 [.ptr b 0] st fun r st' => r = .ret (.bool (decide (f.1 = 0))) ∧ st' = st := by
 refine vfun TT_ok (an := anL []) (L := [0, 2]) (rs := [.tmp 2]) Tryz.func60 rfl (by kernel_rfl) rfl Tryz.ntmps60 rfl rfl (Nat.le_refl _) fun hst ha hf => ?_
 simp only [wkN] at hb
 simp only [gw0, reduceEqDiff, ↓reduceIte, reduceAdd, reduceLT, reduceLeDiff, reduceMul, hb]
 exact gives_bool rfl hst
/-- The first fault is kept. -/
def keepF (f g : Int × Int) : Int × Int := if f.1 = 0 then g else f
theorem c_stop (s : Str) (st : St) (b p n : Nat) (f : Int × Int) (e q : Int) (hlt : b < st.length) :
  VCalls Tryz.prog TT 83 [.ptr b 0, .int .i64 e, .int .i64 q] (st.set b (wkN s p n f)) fun r st' => r = .ret (.tup []) ∧ st' = st.set b (wkN s p n (keepF f (e, q))) := by
 refine vfun TT_ok (an := anL []) (L := [0, 1, 2]) (rs := []) Tryz.func83 rfl (by kernel_rfl) rfl Tryz.ntmps83 rfl rfl (by simp) fun hst ha hf => ?_
 have hok : ∀ f, St.ok (st.set b (wkN s p n f)) := fun f => by have := wkN_ok (s := s) (b := b) (p := p) (n := n) (f := f) hst; rw [List.set_set] at this; exact this
 simp only [gw0, reduceEqDiff, ↓reduceIte, reduceAdd, reduceLT, reduceLeDiff, reduceMul, at_w0 hlt]
 refine iK_split (fun h => ?_) (fun h => ?_)
 ·have h' := of_decide_eq_true h
  simp only [gw0, reduceEqDiff, ↓reduceIte, reduceAdd, reduceLT, reduceLeDiff, reduceMul, at_w0 hlt]
  rw [List.set_set]
  simp only [keepF, if_pos h']
  exact gives_self (by simp [V.lt, ltL]) (hok (e, q))
 ·have h' := of_decide_eq_false h
  simp only [gw0, reduceEqDiff, ↓reduceIte, reduceAdd, reduceLT, reduceLeDiff, reduceMul]
  simp only [keepF, if_neg h']
  exact gives_self (by simp [V.lt, ltL]) (hok f)
theorem c_count (s : Str) (st : St) (b p n : Nat) (f : Int × Int) (deep q : Int) (hlt : b < st.length) (hn : n ≤ 100000) :
  VCalls Tryz.prog TT 82 [.ptr b 0, .int .i64 deep, .int .i64 q] (st.set b (wkN s p n f)) fun r st' => r = .ret (.tup []) ∧ st' = st.set b (wkN s p (n + 1) (bif decide (2000 < n + 1) || decide (40 < deep) then keepF f (4, q) else f)) := by
 refine vfun TT_ok (an := anL []) (L := [0, 1, 2]) (rs := []) Tryz.func82 rfl (by kernel_rfl) rfl Tryz.ntmps82 rfl rfl (by simp) fun hst ha hf => ?_
 have hok : ∀ n f, St.ok (st.set b (wkN s p n f)) := fun n f => by have := wkN_ok (s := s) (b := b) (p := p) (n := n) (f := f) hst; rw [List.set_set] at this; exact this
 have hwr : IntKind.i64.wrap ((n : Int) + 1) = ((n + 1 : Nat) : Int) := by rw [wrap_i64 (by omega) (by omega)]; omega
 have hd : decide ((2000 : Int) < ((n + 1 : Nat) : Int)) = decide (2000 < n + 1) := by rw [decide_eq_decide]; omega
 have hE : (st.set b (.box [.str s, .int .i64 p, .int .i64 ((n + 1 : Nat) : Int), .int .i64 f.1, .int .i64 f.2]))[b]? = some (.box [.str s, .int .i64 p, .int .i64 ((n + 1 : Nat) : Int), .int .i64 f.1, .int .i64 f.2]) := List.getElem?_set_self hlt
 simp only [gw0, reduceEqDiff, ↓reduceIte, reduceAdd, reduceLT, reduceLeDiff, reduceMul, at_w0 hlt, hwr, List.set_set, hE, hd]
 refine iK_split (fun h => ?_) (fun h => ?_)
 ·rw [h]
  simp only [gw0, reduceEqDiff, ↓reduceIte, reduceAdd, reduceLT, reduceLeDiff, reduceMul]
  refine (c_stop s st b p (n + 1) f 4 q hlt).use (wkL_refl _) fun _ => ?_
  simp only [gw0, reduceEqDiff, ↓reduceIte, reduceAdd, reduceLT, reduceLeDiff, reduceMul]
  exact gives_self (by simp [V.lt, ltL]) (hok _ _)
 ·rw [h]
  simp only [gw0, reduceEqDiff, ↓reduceIte, reduceAdd, reduceLT, reduceLeDiff, reduceMul]
  exact gives_self (by simp [V.lt, ltL]) (hok _ _)
structure WR where
 d : Datum
 p : Nat
 n : Nat
 f : Int × Int
def zeroDt : Datum := .mk 0 0 [] 0 0 []
def wdB (q p n : Nat) : Str → WR
 | [] => ⟨zeroDt, p, n, (2, q)⟩
 | t :: r => bif decide (t = 116) || decide (t = 102) then
   (match r with
   | [] => ⟨.mk 2 (bif decide (t = 116) then 1 else 0) [] 0 0 [], p + 1, n, (0, 0)⟩
   | u :: _ => bif letterB u then ⟨zeroDt, p, n, (2, q)⟩ else ⟨.mk 2 (bif decide (t = 116) then 1 else 0) [] 0 0 [], p + 1, n, (0, 0)⟩)
  else ⟨zeroDt, p, n, (2, q)⟩
def wdA (q p n : Nat) (w : Str) : WR :=
 bif looksB w then (bif decide ((17 : Int) < w.length) then ⟨zeroDt, p, n, (3, q)⟩ else ⟨.mk 1 (numV w) [] 0 0 [], p, n, bif decide (1000000000000000 < numV w) || decide (numV w < -1000000000000000) then (3, q) else (0, 0)⟩)
 else ⟨.mk 3 0 w 0 0 [], p, n, bif decide ((20 : Int) < w.length) then (7, q) else (0, 0)⟩
mutual
def wdD (s : Str) : Nat → Int → Nat → Nat → WR
 | 0, _, p, n => ⟨zeroDt, p, n, (0, 0)⟩
 | F + 1, deep, p, n => bif decide (2000 < n + 1) || decide (40 < deep) then ⟨zeroDt, p, n + 1, (4, p)⟩
  else match s.drop p with
   | [] => ⟨zeroDt, p, n + 1, (2, p)⟩
   | c :: r => bif decide (c = 40) then wdL s F deep [] (p + 1) (n + 1)
    else bif decide (c = 39) then (bif decide (2000 < n + 2) || decide (40 < deep + 1) then ⟨zeroDt, p + 1, n + 2, (4, p)⟩
     else ⟨quoteD (wdD s F (deep + 1) (s.length - (blk false r).length) (n + 2)).d, (wdD s F (deep + 1) (s.length - (blk false r).length) (n + 2)).p, (wdD s F (deep + 1) (s.length - (blk false r).length) (n + 2)).n, (wdD s F (deep + 1) (s.length - (blk false r).length) (n + 2)).f⟩)
    else bif decide (c = 35) then wdB p (p + 1) (n + 1) r
    else bif letterB c then wdA p (p + 1 + (r.takeWhile letterB).length) (n + 1) (c :: r.takeWhile letterB)
    else ⟨zeroDt, p + 1, n + 1, (2, p)⟩
def wdL (s : Str) : Nat → Int → List Datum → Nat → Nat → WR
 | 0, _, acc, p, n => ⟨.mk 4 0 [] 0 0 acc, p, n, (0, 0)⟩
 | F + 1, deep, acc, p, n => match blk false (s.drop p) with
  | [] => ⟨.mk 4 0 [] 0 0 acc, s.length, n, (2, s.length)⟩
  | c :: r => bif decide (c = 41) then ⟨.mk 4 0 [] 0 0 acc, s.length - r.length, n, (0, 0)⟩
   else bif decide ((wdD s F (deep + 1) (s.length - (r.length + 1)) n).f.1 = 0) then
    wdL s F deep (acc ++ [(wdD s F (deep + 1) (s.length - (r.length + 1)) n).d]) (wdD s F (deep + 1) (s.length - (r.length + 1)) n).p (wdD s F (deep + 1) (s.length - (r.length + 1)) n).n
   else ⟨.mk 4 0 [] 0 0 (acc ++ [(wdD s F (deep + 1) (s.length - (r.length + 1)) n).d]), (wdD s F (deep + 1) (s.length - (r.length + 1)) n).p, (wdD s F (deep + 1) (s.length - (r.length + 1)) n).n, (wdD s F (deep + 1) (s.length - (r.length + 1)) n).f⟩
end
/-- Both tell the same. -/
def Agree (w : WR) : RR → Prop
 | .ok x p n => w = ⟨x, p, n, (0, 0)⟩
 | .err e q _ _ => w.f = (e, q) ∧ e ≠ 0
theorem agreeB (q p n : Nat) (r : Str) : Agree (wdB q p n r) (rdB q p n r) := by
 cases r with
 | nil => exact ⟨rfl, by decide⟩
 | cons t r =>
  simp only [wdB, rdB]
  cases (decide (t = 116) || decide (t = 102)) with
  | false => exact ⟨rfl, by decide⟩
  | true =>
   cases r with
   | nil => rfl
   | cons u r =>
    dsimp only
    cases letterB u with
    | true => exact ⟨rfl, by decide⟩
    | false => rfl
theorem agreeA (s : Str) (q p n : Nat) (c : UInt8) (r : Str) : Agree (wdA q (p + (r.takeWhile letterB).length) n (c :: r.takeWhile letterB)) (rdA s q p n c r) := by
 simp only [wdA, rdA, atomR]
 generalize (c :: r.takeWhile letterB) = w
 cases looksB w with
 | true =>
  simp only [cond_true]
  cases decide ((17 : Int) < w.length) with
  | true => exact ⟨rfl, by decide⟩
  | false =>
   simp only [cond_false]
   cases (decide (1000000000000000 < numV w) || decide (numV w < -1000000000000000)) with
   | true => exact ⟨rfl, by decide⟩
   | false => rfl
 | false =>
  simp only [cond_false]
  cases decide ((20 : Int) < w.length) with
  | true => exact ⟨rfl, by decide⟩
  | false => rfl
theorem agree (s : Str) : ∀ F : Nat, (∀ (deep : Int) (p n : Nat), p ≤ s.length → n ≤ 2000 → 2 * (s.length - p) < F → Agree (wdD s F deep p n) (rdD s F deep p n)) ∧ (∀ (deep : Int) (acc : List Datum) (p n : Nat), p ≤ s.length → n ≤ 2000 → 2 * (s.length - p) + 1 < F → Agree (wdL s F deep acc p n) (rdL s F deep acc p n))
 | 0 => ⟨fun _ _ _ _ _ h => by omega, fun _ _ _ _ _ _ h => by omega⟩
 | F + 1 => by
  obtain ⟨ih1, ih2⟩ := agree s F
  refine ⟨fun deep p n hp hn hF => ?_, fun deep acc p n hp hn hF => ?_⟩
  ·simp only [wdD, rdD]
   cases h0 : (decide (2000 < n + 1) || decide (40 < deep)) with
   | true => exact ⟨rfl, by decide⟩
   | false =>
    have hn1 : n + 1 ≤ 2000 := by simp at h0; omega
    simp only [cond_false]
    cases hd : s.drop p with
    | nil => exact ⟨rfl, by decide⟩
    | cons c r =>
     dsimp only
     have hl := drop_len hd
     cases decide (c = 40) with
     | true => exact ih2 deep [] (p + 1) (n + 1) (by omega) hn1 (by omega)
     | false =>
      simp only [cond_false]
      cases decide (c = 39) with
      | true =>
       simp only [cond_true]
       cases h1 : (decide (2000 < n + 2) || decide (40 < deep + 1)) with
       | true => exact ⟨rfl, by decide⟩
       | false =>
        have hn2 : n + 2 ≤ 2000 := by simp at h1; omega
        simp only [cond_false]
        have hb := blk_le r false
        have := ih1 (deep + 1) (s.length - (blk false r).length) (n + 2) (by omega) hn2 (by omega)
        generalize rdD s F (deep + 1) (s.length - (blk false r).length) (n + 2) = rr at this ⊢
        generalize wdD s F (deep + 1) (s.length - (blk false r).length) (n + 2) = w at this ⊢
        cases rr with
        | ok x p' n' => simp only [Agree, RR.quote] at this ⊢; rw [this]
        | err e q p' n' => exact this
      | false =>
       simp only [cond_false]
       cases decide (c = 35) with
       | true => exact agreeB _ _ _ _
       | false =>
        simp only [cond_false]
        cases letterB c with
        | true => exact agreeA s p (p + 1) (n + 1) c r
        | false => exact ⟨rfl, by decide⟩
  ·simp only [wdL, rdL]
   have hb := blk_le (s.drop p) false
   simp only [List.length_drop] at hb
   cases hd : blk false (s.drop p) with
   | nil => exact ⟨rfl, by decide⟩
   | cons c r =>
    dsimp only
    rw [hd] at hb
    simp only [List.length_cons] at hb
    cases decide (c = 41) with
    | true => rfl
    | false =>
     simp only [cond_false]
     have h1 := ih1 (deep + 1) (s.length - (r.length + 1)) n (by omega) hn (by omega)
     have hfar := (rd_far s F).1 (deep + 1) (s.length - (r.length + 1)) n hn
     generalize rdD s F (deep + 1) (s.length - (r.length + 1)) n = rr at h1 hfar ⊢
     generalize wdD s F (deep + 1) (s.length - (r.length + 1)) n = w at h1 ⊢
     cases rr with
     | err e q p' n' =>
      simp only [Agree] at h1
      simp only [RR.bind, Agree]
      rw [h1.1]
      simp only [decide_eq_false h1.2, cond_false]
      exact ⟨trivial, h1.2⟩
     | ok x p' n' =>
      simp only [Agree] at h1
      subst h1
      simp only [RR.far] at hfar
      simp only [RR.bind, decide_true, cond_true]
      exact ih2 deep (acc ++ [x]) p' n' hfar.2.1 hfar.2.2 (by omega)
def valW (l : Str) : Nat := numN (l.filter fun a => !decide (a = 45))
theorem looks_mem {w : Str} (h : looksB w = true) {a : UInt8} (ha : a ∈ w) : a = 45 ∨ (48 ≤ a.toNat ∧ a.toNat ≤ 57) := by
 rcases looks_inv h with ⟨r, rfl, hd, _⟩ | ⟨_, hd, _⟩
 ·rcases List.mem_cons.1 ha with rfl | ha
  ·exact .inl rfl
  ·right
   have := List.all_eq_true.1 hd a ha
   simpa using this
 ·right
  have := List.all_eq_true.1 hd a ha
  simpa using this
theorem val_next {w : Str} {i : Nat} {a : UInt8} (hget : w[i]? = some a) : valW (w.take (i + 1)) = if a = 45 then valW (w.take i) else valW (w.take i) * 10 + (a.toNat - 48) := by
 rw [take_next hget]
 unfold valW
 rw [List.filter_append]
 by_cases h : a = 45
 ·simp [h]
 ·simp [h, numN, List.foldl_append]
theorem val_lt {w : Str} (h : looksB w = true) (hl : w.length ≤ 17) (i : Nat) : valW (w.take i) < 100000000000000000 := by
 have hd : digits ((w.take i).filter fun a => !decide (a = 45)) = true := by
  unfold digits
  rw [List.all_eq_true]
  intro a ha
  obtain ⟨h1, h2⟩ := List.mem_filter.1 ha
  have := looks_mem h (List.mem_of_mem_take h1)
  simp at h2 ⊢
  rcases this with h3 | h3
  ·exact absurd h3 h2
  ·exact h3
 have hlen : ((w.take i).filter fun a => !decide (a = 45)).length ≤ 17 := by
  have h1 := List.length_filter_le (fun a => !decide (a = (45 : UInt8))) (w.take i)
  have h2 : (w.take i).length ≤ w.length := by simp; omega
  omega
 have := (parse_digits _ 0 0 hd (by decide) (by omega)).2
 have hb : (10 : Nat) ^ (0 + ((w.take i).filter fun a => !decide (a = 45)).length) ≤ 10 ^ 17 := Nat.pow_le_pow_right (by decide) (by omega)
 unfold valW numN
 omega
theorem val_end {w : Str} (h : looksB w = true) : ∃ a, w[0]? = some a ∧ numV w = if a = 45 then -(valW w : Int) else valW w := by
 rcases looks_inv h with ⟨r, rfl, hd, _⟩ | ⟨hno, hd, hne⟩
 ·refine ⟨45, rfl, ?_⟩
  have : r.filter (fun a => !decide (a = 45)) = r := List.filter_eq_self.2 fun a ha => by
   have := List.all_eq_true.1 hd a ha
   simp at this ⊢
   rintro rfl
   exact absurd this.1 (by decide)
  simp only [numV, if_true, valW]
  rw [List.filter_cons]
  simp [this]
 ·cases w with
  | nil => exact absurd rfl hne
  | cons a r =>
   have ha : ¬ a = 45 := fun e => hno r (by rw [e])
   refine ⟨a, rfl, ?_⟩
   have : (a :: r).filter (fun a => !decide (a = 45)) = a :: r := List.filter_eq_self.2 fun b hb => by
    have := List.all_eq_true.1 hd b hb
    simp at this ⊢
    rintro rfl
    exact absurd this.1 (by decide)
   rw [if_neg ha, valW, this]
   unfold numV
   split
   ·rename_i r' e; exact absurd e (hno r')
   ·rfl
end Go.Proofs.YtcdnooalfkbmgaaGreatDoor.Gx
