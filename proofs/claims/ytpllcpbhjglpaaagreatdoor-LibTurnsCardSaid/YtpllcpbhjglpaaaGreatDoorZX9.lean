/- lib: import sets, walked. lib: how a library that is made lies; bodies, walked. lib: what is brought out, walked. Reading, by what is left of the text, not by where it is; with more fuel, behind more nodes, with more text behind. Reading, by what is left of the text: with more fuel, behind more nodes, with more text behind. strings.Builder: what its methods do. Writing data: numbers; a datum; data on lines. Writing data, walked. Printing data, walked. What is written is read. -/
import Derived.Test.YtpllcpbhjglpaaaGreatDoorZX8
import Derived.Lib.Builder
import Derived.Lib.UnsafeStr
import Derived.Shelf.Strconv.Itoa4
import Derived.Shelf.Lay
import Derived.Lib.ItoaLen
import Derived.Ground.NamesProg
namespace Go.Proofs.YtpllcpbhjglpaaaGreatDoor.Gx
open Go Go.Proofs.YtpllcpbhjglpaaaGreatDoor.Gw
open Nat (reduceEqDiff reduceAdd reduceLT reduceLeDiff reduceMul)
set_option linter.unusedSimpArgs false
set_option linter.unusedVariables false
theorem encSet_lt (n : Nat) (s : Set') : ltL n (encSet s) := by
 obtain ⟨k, nm, ns, az, p, kids⟩ := s
 rw [encSet_mk]
 refine ⟨trivial, trivial, encS_lt _ _, encS_lt _ _, trivial, ?_, trivial⟩
 simp only [V.lt]
 refine ⟨fun e h => (by cases h), ltRows_map fun x _ => ?_⟩
 exact encSet_lt n x
theorem encSet_len (s : Set') : (encSet s).length = 6 := by cases s; rw [encSet_mk]; rfl
theorem encSet_take (s : Set') : (encSet s).take 6 = encSet s := List.take_of_length_le (by rw [encSet_len]; exact Nat.le_refl _)
theorem idxOf_rng (s : Str) : ∀ (l : List Str) (i : Nat), -1 ≤ idxOf s i l ∧ idxOf s i l < i + l.length
 | [], i => by simp [idxOf]; omega
 | a :: r, i => by
  have := idxOf_rng s r (i + 1)
  simp only [idxOf, List.length_cons]
  cases decide (s = a) <;> simp only [cond_true, cond_false] <;> omega
set_option maxHeartbeats 4000000 in
theorem c_libset : ∀ (f : Nat) (d : Datum) (dp : Int), f ≤ 12 → dp = 13 - f → okM d → ∀ st, OutS 44 [.agg (encD d), .int .i64 dp] st (.agg (encSet (setP f d).1)) (setP f d).2 st
 | 0, d, dp, hf, hdp, hd, st => by
  refine OutS_of (Nat.le_refl _) ?_
  refine vfunQ TT_ok (an := anL [(2, 1)]) (L := [0, 1, 2, 4, 5, 6, 7, 9, 10, 54, 73, 74, 75]) (rs := [.cell 4 69]) Tryz.func44 rfl (by kernel_rfl) rfl Tryz.ntmps44 rfl rfl fun hst ha hf => ?_
  have e1 : decide ((12 : Int) < dp) = true := decide_eq_true (by omega)
  simp only [gw0, reduceEqDiff, ↓reduceIte, reduceAdd, reduceLT, reduceLeDiff, reduceMul, gwD3, gwDT, pureR_none, ite_self, nilR, nilB, bitF, bitV, nilC, nilCmp, eqb, assertV, assertW, zeroV, wQ_normal, wQ_ret, wQ_panic, pickO, pickC, List.map_cons, List.map_nil, List.getD_cons_zero, List.getD_cons_succ, Env.keep, beq_self_eq_true, cond_true, cond_false, e1]
  refine (c_libfail _ 4).useP (wkL_refl _) ?_
  simp only [gw0, reduceEqDiff, ↓reduceIte, reduceAdd, reduceLT, reduceLeDiff, reduceMul, gwD3, gwDT, pureR_none, ite_self, nilR, nilB, bitF, bitV, nilC, nilCmp, eqb, assertV, assertW, zeroV, wQ_normal, wQ_ret, wQ_panic, pickO, pickC, List.map_cons, List.map_nil, List.getD_cons_zero, List.getD_cons_succ, Env.keep, beq_self_eq_true, cond_true, cond_false]
  exact outS_p (show (4 : Int) ≠ 0 by decide) (givesP_of (wk_refl _) (wkSt_refl _) (oops_lt _ _) hst)
 | f + 1, d, dp, hf, hdp, hd, st => by
  refine OutS_of (Nat.le_refl _) ?_
  refine vfunQ TT_ok (an := anL [(2, 1)]) (L := [0, 1, 2, 4, 5, 6, 7, 9, 10, 54, 73, 74, 75]) (rs := [.cell 4 69]) Tryz.func44 rfl (by kernel_rfl) rfl Tryz.ntmps44 rfl rfl fun hst ha hf => ?_
  have e1 : decide ((12 : Int) < dp) = false := decide_eq_false (by omega)
  simp only [gw0, reduceEqDiff, ↓reduceIte, reduceAdd, reduceLT, reduceLeDiff, reduceMul, gwD3, gwDT, pureR_none, ite_self, nilR, nilB, bitF, bitV, nilC, nilCmp, eqb, assertV, assertW, zeroV, wQ_normal, wQ_ret, wQ_panic, pickO, pickC, List.map_cons, List.map_nil, List.getD_cons_zero, List.getD_cons_succ, Env.keep, beq_self_eq_true, cond_true, cond_false, e1, encD_take, encD_len, encD_drop, Nat.le_refl]
  have hs0 : setP (f + 1) d = thenE (listP 1 d) noSet fun l =>
   bif decide (setKind l < 2) then thenE (calledP d) noSet fun s => (.mk 1 s [] [] [] [], 0)
   else thenE (setP f (l.getD 1 (.mk 0 0 [] 0 0 []))) noSet fun k =>
    bif decide (setKind l = 4) then (bif !decide (l.length = 3) then (noSet, 2) else thenE (symP (l.getD 2 (.mk 0 0 [] 0 0 []))) noSet fun p => (.mk (setKind l) [] [] [] p [k], 0))
    else bif decide (setKind l = 5) then thenE (renP (l.drop 2) [] []) noSet fun r => (.mk (setKind l) [] r.1 r.2 [] [k], 0)
    else thenE (symsP (l.drop 2) []) noSet fun ns => (.mk (setKind l) [] ns [] [] [k], 0) := rfl
  generalize hG : setP (f + 1) d = G at hs0 ⊢
  rcases (c_liblist d 1 _).cases with ⟨he, hc⟩ | ⟨he, hc⟩
  ·refine hc.use (wkL_refl _) fun _ => ?_
   have hm := listP_okM hd he
   obtain ⟨l, hle⟩ : ∃ l, (listP 1 d).1 = l := ⟨_, rfl⟩
   rw [hle] at hm ⊢
   have fin1 : ∀ (s : Set') (X : List V) (ex : List Ent), wkL X (encSet s) → Gives (.agg (encSet s)) st (.ret (.agg X)) (st ++ ex) := fun s X ex hw =>
    gives_of (wk_agg hw) (wkSt_refl _) (by simp only [V.lt]; exact encSet_lt _ _) hst
   have w1 : ∀ s : Str, wkL [.int .i64 1, .str s, .nils, .nils, .str [], .nils] (encSet (.mk 1 s [] [] [] [])) := fun s => by
    rw [encSet_mk]
    exact wkL_cons (wk_refl _) (wkL_cons (wk_refl _) (wkL_cons (wk_nils _) (wkL_cons (wk_nils _) (wkL_cons (wk_refl _) (wkL_cons (wk_nils _) wkL_nil)))))
   have callD : ∀ (ex : St), OutS 17 [.agg (encD d)] (st ++ ex) (.str (calledP d).1) (calledP d).2 (st ++ ex) := fun ex => c_libcalled d hd _
   cases l with
   | nil => have := hm.2.2; simp at this
   | cons a r =>
    obtain ⟨ka, na, nma, sa, la, kidsa⟩ := a
    cases r with
    | nil =>
     simp only [gw0, reduceEqDiff, ↓reduceIte, reduceAdd, reduceLT, reduceLeDiff, reduceMul, gwD3, gwDT, pureR_none, ite_self, nilR, nilB, bitF, bitV, nilC, nilCmp, eqb, assertV, assertW, zeroV, wQ_normal, wQ_ret, wQ_panic, pickO, pickC, List.map_cons, List.map_nil, List.getD_cons_zero, List.getD_cons_succ, Env.keep, beq_self_eq_true, cond_true, cond_false, lstD, List.length_cons, List.length_nil, List.map_cons, List.map_nil, show decide ((1 : Int) < ((0 + 1 : Nat) : Int)) = false from rfl, show Int.toNat 1 = 1 from rfl, show Int.toNat 0 = 0 from rfl, show Int.toNat 2 = 2 from rfl, List.getD_cons_succ, List.getD_nil, List.getD_cons_zero, List.length_map, encD_take, encD_len, encD_drop, Nat.le_refl, encD_mk, show decide ((0 : Int) < 2) = true from rfl]
     have hv : G = thenE (calledP d) noSet fun s => (.mk 1 s [] [] [] [], 0) := by rw [hs0, thenE_ok he, hle]; simp only [show decide (setKind [.mk ka na nma sa la kidsa] < 2) = true from rfl, cond_true]
     rcases (callD [_]).cases with ⟨he2, hc2⟩ | ⟨he2, hc2⟩
     ·refine hc2.use (wkL_refl _) fun _ => ?_
      rw [hv, thenE_ok he2]
      simp only [gw0, reduceEqDiff, ↓reduceIte, reduceAdd, reduceLT, reduceLeDiff, reduceMul, gwD3, gwDT, pureR_none, ite_self, nilR, nilB, bitF, bitV, nilC, nilCmp, eqb, assertV, assertW, zeroV, wQ_normal, wQ_ret, wQ_panic, pickO, pickC, List.map_cons, List.map_nil, List.getD_cons_zero, List.getD_cons_succ, Env.keep, beq_self_eq_true, cond_true, cond_false]
      exact outS_g rfl (fin1 _ _ _ (w1 _))
     ·refine hc2.useP (wkL_refl _) ?_
      rw [hv, thenE_bad he2]
      simp only [gw0, reduceEqDiff, ↓reduceIte, reduceAdd, reduceLT, reduceLeDiff, reduceMul, gwD3, gwDT, pureR_none, ite_self, nilR, nilB, bitF, bitV, nilC, nilCmp, eqb, assertV, assertW, zeroV, wQ_normal, wQ_ret, wQ_panic, pickO, pickC, List.map_cons, List.map_nil, List.getD_cons_zero, List.getD_cons_succ, Env.keep, beq_self_eq_true, cond_true, cond_false]
      exact outS_p he2 (givesP_of (wk_refl _) (wkSt_refl _) (oops_lt _ _) hst)
    | cons b r =>
     obtain ⟨kb, nb, nmb, sb, lb, kidsb⟩ := b
     have e2 : decide ((1 : Int) < ((r.length + 2 : Nat) : Int)) = true := decide_eq_true (by omega)
     simp only [gw0, reduceEqDiff, ↓reduceIte, reduceAdd, reduceLT, reduceLeDiff, reduceMul, gwD3, gwDT, pureR_none, ite_self, nilR, nilB, bitF, bitV, nilC, nilCmp, eqb, assertV, assertW, zeroV, wQ_normal, wQ_ret, wQ_panic, pickO, pickC, List.map_cons, List.map_nil, List.getD_cons_zero, List.getD_cons_succ, Env.keep, beq_self_eq_true, cond_true, cond_false, lstD, List.length_cons, List.map_cons, e2, show Int.toNat 1 = 1 from rfl, show Int.toNat 0 = 0 from rfl, show Int.toNat 2 = 2 from rfl, List.getD_cons_succ, List.getD_nil, List.getD_cons_zero, List.length_map, encD_take, encD_len, encD_drop, Nat.le_refl, encD_mk]
     refine ⟨⟨by omega, by omega⟩, fun _ => ⟨by omega, by omega⟩, iK_split (fun h => ?_) (fun h => ?_)⟩
     ·have hk0 : setKind (.mk ka na nma sa la kidsa :: .mk kb nb nmb sb lb kidsb :: r) = idxOf nma 0 [wOnly, wExcept, wPrefix, wRename] + 2 := by
       show (bif (decide (kb = 4) && decide (ka = 3)) then idxOf nma 0 [wOnly, wExcept, wPrefix, wRename] + 2 else 0) = _
       rw [h]; rfl
      have hrg := idxOf_rng nma [wOnly, wExcept, wPrefix, wRename] 0
      simp only [List.length_cons, List.length_nil] at hrg
      simp only [gw0, reduceEqDiff, ↓reduceIte, reduceAdd, reduceLT, reduceLeDiff, reduceMul, gwD3, gwDT, pureR_none, ite_self, nilR, nilB, bitF, bitV, nilC, nilCmp, eqb, assertV, assertW, zeroV, wQ_normal, wQ_ret, wQ_panic, pickO, pickC, List.map_cons, List.map_nil, List.getD_cons_zero, List.getD_cons_succ, Env.keep, beq_self_eq_true, cond_true, cond_false, show Int.toNat 1 = 1 from rfl, show Int.toNat 0 = 0 from rfl, show Int.toNat 2 = 2 from rfl, List.getD_cons_succ, List.getD_nil, List.getD_cons_zero, List.length_map, encD_take, encD_len, encD_drop, Nat.le_refl]
      refine ⟨⟨by omega, by omega⟩, ?_⟩
      refine (c_Index _ [wOnly, wExcept, wPrefix, wRename] nma).use (wkL_refl _) fun _ => ?_
      have e3 : IntKind.i64.wrap (idxOf nma 0 [wOnly, wExcept, wPrefix, wRename] + 2) = idxOf nma 0 [wOnly, wExcept, wPrefix, wRename] + 2 := wrap_i64 (by omega) (by omega)
      generalize hK : idxOf nma 0 [wOnly, wExcept, wPrefix, wRename] = K0 at *
      obtain ⟨K, hKK⟩ : ∃ K, K0 + 2 = K := ⟨_, rfl⟩
      rw [hKK] at hk0
      replace e3 : IntKind.i64.wrap (K0 + 2) = K := by rw [e3, hKK]
      simp only [gw0, reduceEqDiff, ↓reduceIte, reduceAdd, reduceLT, reduceLeDiff, reduceMul, gwD3, gwDT, pureR_none, ite_self, nilR, nilB, bitF, bitV, nilC, nilCmp, eqb, assertV, assertW, zeroV, wQ_normal, wQ_ret, wQ_panic, pickO, pickC, List.map_cons, List.map_nil, List.getD_cons_zero, List.getD_cons_succ, Env.keep, beq_self_eq_true, cond_true, cond_false, e3, encD_take, encD_len, encD_drop, Nat.le_refl]
      refine iK_split (fun h2 => ?_) (fun h2 => ?_)
      ·simp only [gw0, reduceEqDiff, ↓reduceIte, reduceAdd, reduceLT, reduceLeDiff, reduceMul, gwD3, gwDT, pureR_none, ite_self, nilR, nilB, bitF, bitV, nilC, nilCmp, eqb, assertV, assertW, zeroV, wQ_normal, wQ_ret, wQ_panic, pickO, pickC, List.map_cons, List.map_nil, List.getD_cons_zero, List.getD_cons_succ, Env.keep, beq_self_eq_true, cond_true, cond_false, encD_take, encD_len, encD_drop, Nat.le_refl]
       have hv : G = thenE (calledP d) noSet fun s => (.mk 1 s [] [] [] [], 0) := by rw [hs0, thenE_ok he, hle]; simp only [hk0, h2, cond_true]
       rcases (callD [_]).cases with ⟨he2, hc2⟩ | ⟨he2, hc2⟩
       ·refine hc2.use (wkL_refl _) fun _ => ?_
        rw [hv, thenE_ok he2]
        simp only [gw0, reduceEqDiff, ↓reduceIte, reduceAdd, reduceLT, reduceLeDiff, reduceMul, gwD3, gwDT, pureR_none, ite_self, nilR, nilB, bitF, bitV, nilC, nilCmp, eqb, assertV, assertW, zeroV, wQ_normal, wQ_ret, wQ_panic, pickO, pickC, List.map_cons, List.map_nil, List.getD_cons_zero, List.getD_cons_succ, Env.keep, beq_self_eq_true, cond_true, cond_false]
        exact outS_g rfl (fin1 _ _ _ (w1 _))
       ·refine hc2.useP (wkL_refl _) ?_
        rw [hv, thenE_bad he2]
        simp only [gw0, reduceEqDiff, ↓reduceIte, reduceAdd, reduceLT, reduceLeDiff, reduceMul, gwD3, gwDT, pureR_none, ite_self, nilR, nilB, bitF, bitV, nilC, nilCmp, eqb, assertV, assertW, zeroV, wQ_normal, wQ_ret, wQ_panic, pickO, pickC, List.map_cons, List.map_nil, List.getD_cons_zero, List.getD_cons_succ, Env.keep, beq_self_eq_true, cond_true, cond_false]
        exact outS_p he2 (givesP_of (wk_refl _) (wkSt_refl _) (oops_lt _ _) hst)
      ·have hv0 : G = thenE (setP f (.mk kb nb nmb sb lb kidsb)) noSet fun k =>
         bif decide (K = 4) then (bif !decide (r.length = 1) then (noSet, 2) else thenE (symP (r.getD 0 (.mk 0 0 [] 0 0 []))) noSet fun p => (.mk K [] [] [] p [k], 0))
         else bif decide (K = 5) then thenE (renP r [] []) noSet fun r => (.mk K [] r.1 r.2 [] [k], 0)
         else thenE (symsP r []) noSet fun ns => (.mk K [] ns [] [] [k], 0) := by
        rw [hs0, thenE_ok he, hle]
        simp only [hk0, h2, cond_false, List.getD_cons_succ, List.getD_cons_zero, List.length_cons, List.drop_succ_cons, List.drop_zero, Nat.reduceEqDiff]
       have hmb : okM (.mk kb nb nmb sb lb kidsb) := okMs_mem hm.1 (by simp)
       have e4 : IntKind.i64.wrap (dp + 1) = dp + 1 := wrap_i64 (by omega) (by omega)
       simp only [gw0, reduceEqDiff, ↓reduceIte, reduceAdd, reduceLT, reduceLeDiff, reduceMul, gwD3, gwDT, pureR_none, ite_self, nilR, nilB, bitF, bitV, nilC, nilCmp, eqb, assertV, assertW, zeroV, wQ_normal, wQ_ret, wQ_panic, pickO, pickC, List.map_cons, List.map_nil, List.getD_cons_zero, List.getD_cons_succ, Env.keep, beq_self_eq_true, cond_true, cond_false, e4, show Int.toNat 1 = 1 from rfl, show Int.toNat 0 = 0 from rfl, show Int.toNat 2 = 2 from rfl, List.getD_cons_succ, List.getD_nil, List.getD_cons_zero, List.length_map, encD_take, encD_len, encD_drop, Nat.le_refl]
       refine ⟨⟨by omega, by omega⟩, ?_⟩
       rcases (c_libset f (.mk kb nb nmb sb lb kidsb) (dp + 1) (by omega) (by omega) hmb (st ++ [.box [.int .i64 0, .str [], .nils, .nils, .str [], .nils]])).cases with ⟨he2, hc2⟩ | ⟨he2, hc2⟩
       ·refine hc2.use (by rw [encD_mk]; exact wkL_refl _) fun _ => ?_
        rw [thenE_ok he2] at hv0
        generalize (setP f (.mk kb nb nmb sb lb kidsb)).1 = k at hv0
        simp only [gw0, reduceEqDiff, ↓reduceIte, reduceAdd, reduceLT, reduceLeDiff, reduceMul, gwD3, gwDT, pureR_none, ite_self, nilR, nilB, bitF, bitV, nilC, nilCmp, eqb, assertV, assertW, zeroV, wQ_normal, wQ_ret, wQ_panic, pickO, pickC, List.map_cons, List.map_nil, List.getD_cons_zero, List.getD_cons_succ, Env.keep, beq_self_eq_true, cond_true, cond_false, encSet_len, encSet_take, Nat.le_refl, e3]
        have wk3 : ∀ (ns az : List Str) (p : Str) (vn va : V), wk vn (encS ns) → wk va (encS az) → wkL [.int .i64 K, .str [], vn, va, .str p, .lst 6 none [encSet k]] (encSet (.mk K [] ns az p [k])) := fun ns az p vn va h1 h2 => by
         rw [encSet_mk]
         exact wkL_cons (wk_refl _) (wkL_cons (wk_refl _) (wkL_cons h1 (wkL_cons h2 (wkL_cons (wk_refl _) (wkL_cons (wk_refl _) wkL_nil)))))
        refine iK_split (fun h3 => ?_) (fun h3 => ?_)
        ·rw [h3, cond_true] at hv0
         have e5 : decide (((r.length + 2 : Nat) : Int) = 3) = decide (r.length = 1) := by by_cases h : r.length = 1 <;> simp [h] <;> omega
         simp only [gw0, reduceEqDiff, ↓reduceIte, reduceAdd, reduceLT, reduceLeDiff, reduceMul, gwD3, gwDT, pureR_none, ite_self, nilR, nilB, bitF, bitV, nilC, nilCmp, eqb, assertV, assertW, zeroV, wQ_normal, wQ_ret, wQ_panic, pickO, pickC, List.map_cons, List.map_nil, List.getD_cons_zero, List.getD_cons_succ, Env.keep, beq_self_eq_true, cond_true, cond_false, show Int.toNat 1 = 1 from rfl, show Int.toNat 0 = 0 from rfl, show Int.toNat 2 = 2 from rfl, List.getD_cons_succ, List.getD_nil, List.getD_cons_zero, List.length_map, encD_take, encD_len, encD_drop, Nat.le_refl, List.length_cons, List.length_nil, List.map_cons, List.map_nil, List.drop_succ_cons, List.drop_zero, e5]
         refine iK_split (fun h4 => ?_) (fun h4 => ?_)
         ·rw [h4, cond_true] at hv0
          simp only [gw0, reduceEqDiff, ↓reduceIte, reduceAdd, reduceLT, reduceLeDiff, reduceMul, gwD3, gwDT, pureR_none, ite_self, nilR, nilB, bitF, bitV, nilC, nilCmp, eqb, assertV, assertW, zeroV, wQ_normal, wQ_ret, wQ_panic, pickO, pickC, List.map_cons, List.map_nil, List.getD_cons_zero, List.getD_cons_succ, Env.keep, beq_self_eq_true, cond_true, cond_false]
          refine (c_libfail _ 2).useP (wkL_refl _) ?_
          rw [hv0]
          simp only [gw0, reduceEqDiff, ↓reduceIte, reduceAdd, reduceLT, reduceLeDiff, reduceMul, gwD3, gwDT, pureR_none, ite_self, nilR, nilB, bitF, bitV, nilC, nilCmp, eqb, assertV, assertW, zeroV, wQ_normal, wQ_ret, wQ_panic, pickO, pickC, List.map_cons, List.map_nil, List.getD_cons_zero, List.getD_cons_succ, Env.keep, beq_self_eq_true, cond_true, cond_false]
          exact outS_p (show (2 : Int) ≠ 0 by decide) (givesP_of (wk_refl _) (wkSt_refl _) (oops_lt _ _) hst)
         ·rw [h4, cond_false] at hv0
          obtain ⟨c, rfl⟩ : ∃ c, r = [c] := by
           cases r with
           | nil => simp at h4
           | cons c t =>
            cases t with
            | nil => exact ⟨c, rfl⟩
            | cons y z => simp at h4
          simp only [gw0, reduceEqDiff, ↓reduceIte, reduceAdd, reduceLT, reduceLeDiff, reduceMul, gwD3, gwDT, pureR_none, ite_self, nilR, nilB, bitF, bitV, nilC, nilCmp, eqb, assertV, assertW, zeroV, wQ_normal, wQ_ret, wQ_panic, pickO, pickC, List.map_cons, List.map_nil, List.getD_cons_zero, List.getD_cons_succ, Env.keep, beq_self_eq_true, cond_true, cond_false, show Int.toNat 1 = 1 from rfl, show Int.toNat 0 = 0 from rfl, show Int.toNat 2 = 2 from rfl, List.getD_cons_succ, List.getD_nil, List.getD_cons_zero, List.length_map, encD_take, encD_len, encD_drop, Nat.le_refl, List.length_cons, List.length_nil, List.map_cons, List.map_nil, List.drop_succ_cons, List.drop_zero]
          refine ⟨⟨by omega, by omega⟩, ?_⟩
          rcases (c_libsym c (st ++ [.box [.int .i64 0, .str [], .nils, .nils, .str [], .nils], .box [.int .i64 K, .str [], .nils, .nils, .str [], .lst 6 none [encSet k]]])).cases with ⟨he3, hc3⟩ | ⟨he3, hc3⟩
          ·refine hc3.use (wkL_refl _) fun _ => ?_
           rw [hv0, thenE_ok (by exact he3)]
           simp only [gw0, reduceEqDiff, ↓reduceIte, reduceAdd, reduceLT, reduceLeDiff, reduceMul, gwD3, gwDT, pureR_none, ite_self, nilR, nilB, bitF, bitV, nilC, nilCmp, eqb, assertV, assertW, zeroV, wQ_normal, wQ_ret, wQ_panic, pickO, pickC, List.map_cons, List.map_nil, List.getD_cons_zero, List.getD_cons_succ, Env.keep, beq_self_eq_true, cond_true, cond_false, encSet_len, encSet_take]
           exact outS_g rfl (fin1 _ _ _ (wk3 [] [] _ _ _ (wk_nils _) (wk_nils _)))
          ·refine hc3.useP (wkL_refl _) ?_
           rw [hv0, thenE_bad (by exact he3)]
           simp only [gw0, reduceEqDiff, ↓reduceIte, reduceAdd, reduceLT, reduceLeDiff, reduceMul, gwD3, gwDT, pureR_none, ite_self, nilR, nilB, bitF, bitV, nilC, nilCmp, eqb, assertV, assertW, zeroV, wQ_normal, wQ_ret, wQ_panic, pickO, pickC, List.map_cons, List.map_nil, List.getD_cons_zero, List.getD_cons_succ, Env.keep, beq_self_eq_true, cond_true, cond_false]
           exact outS_p he3 (givesP_of (wk_refl _) (wkSt_refl _) (oops_lt _ _) hst)
        ·rw [h3, cond_false] at hv0
         simp only [gw0, reduceEqDiff, ↓reduceIte, reduceAdd, reduceLT, reduceLeDiff, reduceMul, gwD3, gwDT, pureR_none, ite_self, nilR, nilB, bitF, bitV, nilC, nilCmp, eqb, assertV, assertW, zeroV, wQ_normal, wQ_ret, wQ_panic, pickO, pickC, List.map_cons, List.map_nil, List.getD_cons_zero, List.getD_cons_succ, Env.keep, beq_self_eq_true, cond_true, cond_false]
         refine iK_split (fun h4 => ?_) (fun h4 => ?_)
         ·rw [h4, cond_true] at hv0
          simp only [gw0, reduceEqDiff, ↓reduceIte, reduceAdd, reduceLT, reduceLeDiff, reduceMul, gwD3, gwDT, pureR_none, ite_self, nilR, nilB, bitF, bitV, nilC, nilCmp, eqb, assertV, assertW, zeroV, wQ_normal, wQ_ret, wQ_panic, pickO, pickC, List.map_cons, List.map_nil, List.getD_cons_zero, List.getD_cons_succ, Env.keep, beq_self_eq_true, cond_true, cond_false, show Int.toNat 1 = 1 from rfl, show Int.toNat 0 = 0 from rfl, show Int.toNat 2 = 2 from rfl, List.getD_cons_succ, List.getD_nil, List.getD_cons_zero, List.length_map, encD_take, encD_len, encD_drop, Nat.le_refl, List.length_cons, List.length_nil, List.map_cons, List.map_nil, List.drop_succ_cons, List.drop_zero]
          refine ⟨⟨by omega, by omega⟩, ?_⟩
          have hrl : r.length ≤ 2000 := by simp only [List.length_cons] at hm; omega
          refine vforT (σ := Nat × List Str × List Str) [9, 9] [0, 1, 2, 4, 5, 6, 7, 54, 73, 74, 75] (fun x => [(0, true, .agg (encD d)), (1, true, .int .i64 dp), (2, true, .ref (encD d)), (4, true, .ptr st.length 0), (5, true, (.lst 6 none ([V.int .i64 ka, V.int .i64 na, V.str nma, V.int .i64 sa, V.int .i64 la, V.lst 6 none (kidsa.map encD)] :: [V.int .i64 kb, V.int .i64 nb, V.str nmb, V.int .i64 sb, V.int .i64 lb, V.lst 6 none (kidsb.map encD)] :: r.map encD))), (6, true, .int .i64 K), (7, true, .ptr (st.length + 1) 0), (54, true, .int .i64 K), (73, true, .lst 6 none (r.map encD)), (74, true, .int .i64 r.length), (75, true, .int .i64 x.1)]) (fun x => st ++ [.box [.int .i64 0, .str [], .nils, .nils, .str [], .nils], .box [.int .i64 K, .str [], .lst 1 (some (st.length + 2)) (x.2.1.map fun s => [V.str s]), .lst 1 (some (st.length + 3)) (x.2.2.map fun s => [V.str s]), .str [], .lst 6 none [encSet k]], .tip 9 x.2.1.length, .tip 9 x.2.2.length]) (fun x => r.length - x.1) (fun x => x.1 ≤ r.length ∧ x.2.1.length = x.1 ∧ x.2.2.length = x.1 ∧ renP r [] [] = renP (r.drop x.1) x.2.1 x.2.2) (0, [], []) rfl TT_ok ⟨Nat.zero_le _, rfl, rfl, rfl⟩ ?_ ?_ ?_
          ·exact wkE_refl _
          ·refine ⟨st ++ [.box [.int .i64 0, .str [], .nils, .nils, .str [], .nils], .box [.int .i64 K, .str [], .lst 1 (some (st.length + 2)) [], .lst 1 (some (st.length + 3)) [], .str [], .lst 6 none [encSet k]]], ?_, by simp only [gwL, tips, List.map_cons, List.map_nil, List.length_nil, List.append_assoc, List.cons_append, List.nil_append]⟩
           refine (wkSt_refl _).append (wkSt_cons (Ent.wkp_refl _) (wkSt_cons (Ent.wk_box ?_) wkSt_nil))
           exact wkL_cons (wk_refl _) (wkL_cons (wk_refl _) (wkL_cons (wk_tip _ (by simp [Tips])) (wkL_cons (wk_tip _ (by simp [Tips])) (wkL_cons (wk_refl _) (wkL_cons (wk_refl _) wkL_nil)))))
          rintro ⟨i, ns, az⟩ ⟨hi, hns, haz, hI⟩
          simp only at hi hns haz hI ⊢
          rw [hI] at hv0
          rcases at_or_end r i hi with ⟨rfl, hdd⟩ | ⟨p, hlt, hget, hdr⟩
          ·rw [hdd, renP, thenE_ok rfl] at hv0
           rw [hv0]
           simp only [gw0, reduceEqDiff, ↓reduceIte, reduceAdd, reduceLT, reduceLeDiff, reduceMul, gwD3, gwDT, pureR_none, ite_self, nilR, nilB, bitF, bitV, nilC, nilCmp, eqb, assertV, assertW, zeroV, wQ_normal, wQ_ret, wQ_panic, pickO, pickC, List.map_cons, List.map_nil, List.getD_cons_zero, List.getD_cons_succ, Env.keep, beq_self_eq_true, cond_true, cond_false, lt_no, encSet_len, encSet_take]
           exact outS_g rfl (fin1 _ _ _ (wk3 ns az [] _ _ (wk_tok _ _ _) (wk_tok _ _ _)))
          ·rw [hdr, renP] at hv0
           have hmp : okM p := okMs_mem hm.1 (by have := List.mem_of_getElem? hget; simp [this])
           simp only [gw0, reduceEqDiff, ↓reduceIte, reduceAdd, reduceLT, reduceLeDiff, reduceMul, gwD3, gwDT, pureR_none, ite_self, nilR, nilB, bitF, bitV, nilC, nilCmp, eqb, assertV, assertW, zeroV, wQ_normal, wQ_ret, wQ_panic, pickO, pickC, List.map_cons, List.map_nil, List.getD_cons_zero, List.getD_cons_succ, Env.keep, beq_self_eq_true, cond_true, cond_false, lt_yes hlt, List.length_map, getD_map hget, Int.ofNat_lt.mpr hlt, encD_take, encD_len, encD_drop, Nat.le_refl]
           rcases (c_liblist p 2 (st ++ [.box [.int .i64 0, .str [], .nils, .nils, .str [], .nils], .box [.int .i64 K, .str [], .lst 1 (some (st.length + 2)) (ns.map fun s => [V.str s]), .lst 1 (some (st.length + 3)) (az.map fun s => [V.str s]), .str [], .lst 6 none [encSet k]], .tip 9 ns.length, .tip 9 az.length] ++ [.box (encD p)])).cases with ⟨he3, hc3⟩ | ⟨he3, hc3⟩
           ·simp only [List.append_assoc, List.cons_append, List.nil_append] at hc3
            refine hc3.use (wkL_refl _) fun _ => ?_
            rw [thenE_ok he3] at hv0
            have hm3 := listP_okM hmp he3
            obtain ⟨k3, hk3⟩ : ∃ k3, (listP 2 p).1 = k3 := ⟨_, rfl⟩
            rw [hk3] at hv0 hm3 ⊢
            simp only [gw0, reduceEqDiff, ↓reduceIte, reduceAdd, reduceLT, reduceLeDiff, reduceMul, gwD3, gwDT, pureR_none, ite_self, nilR, nilB, bitF, bitV, nilC, nilCmp, eqb, assertV, assertW, zeroV, wQ_normal, wQ_ret, wQ_panic, pickO, pickC, List.map_cons, List.map_nil, List.getD_cons_zero, List.getD_cons_succ, Env.keep, beq_self_eq_true, cond_true, cond_false]
            rcases (c_libsyms k3 (by omega) (st ++ [.box [.int .i64 0, .str [], .nils, .nils, .str [], .nils], .box [.int .i64 K, .str [], .lst 1 (some (st.length + 2)) (ns.map fun s => [V.str s]), .lst 1 (some (st.length + 3)) (az.map fun s => [V.str s]), .str [], .lst 6 none [encSet k]], .tip 9 ns.length, .tip 9 az.length] ++ [.box (encD p)])).cases with ⟨he4, hc4⟩ | ⟨he4, hc4⟩
            ·simp only [List.append_assoc, List.cons_append, List.nil_append] at hc4
             refine hc4.use (wkL_refl _) fun _ => ?_
             rw [thenE_ok he4] at hv0
             obtain ⟨two, htwo⟩ : ∃ two, (symsP k3 []).1 = two := ⟨_, rfl⟩
             rw [htwo] at hv0 ⊢
             have e6 : decide ((two.length : Int) = 2) = decide (two.length = 2) := by by_cases h : two.length = 2 <;> simp [h] <;> omega
             simp only [gw0, reduceEqDiff, ↓reduceIte, reduceAdd, reduceLT, reduceLeDiff, reduceMul, gwD3, gwDT, pureR_none, ite_self, nilR, nilB, bitF, bitV, nilC, nilCmp, eqb, assertV, assertW, zeroV, wQ_normal, wQ_ret, wQ_panic, pickO, pickC, List.map_cons, List.map_nil, List.getD_cons_zero, List.getD_cons_succ, Env.keep, beq_self_eq_true, cond_true, cond_false, encS, List.length_map, e6]
             refine iK_split (fun h6 => ?_) (fun h6 => ?_)
             ·have hv1 : G = (noSet, 2) := by
               rw [hv0]
               cases two with
               | nil => rfl
               | cons x t =>
                cases t with
                | nil => rfl
                | cons y z =>
                 cases z with
                 | nil => simp at h6
                 | cons u v => rfl
              simp only [gw0, reduceEqDiff, ↓reduceIte, reduceAdd, reduceLT, reduceLeDiff, reduceMul, gwD3, gwDT, pureR_none, ite_self, nilR, nilB, bitF, bitV, nilC, nilCmp, eqb, assertV, assertW, zeroV, wQ_normal, wQ_ret, wQ_panic, pickO, pickC, List.map_cons, List.map_nil, List.getD_cons_zero, List.getD_cons_succ, Env.keep, beq_self_eq_true, cond_true, cond_false]
              refine (c_libfail _ 2).useP (wkL_refl _) ?_
              rw [hv1]
              simp only [gw0, reduceEqDiff, ↓reduceIte, reduceAdd, reduceLT, reduceLeDiff, reduceMul, gwD3, gwDT, pureR_none, ite_self, nilR, nilB, bitF, bitV, nilC, nilCmp, eqb, assertV, assertW, zeroV, wQ_normal, wQ_ret, wQ_panic, pickO, pickC, List.map_cons, List.map_nil, List.getD_cons_zero, List.getD_cons_succ, Env.keep, beq_self_eq_true, cond_true, cond_false]
              exact outS_p (show (2 : Int) ≠ 0 by decide) (givesP_of (wk_refl _) (wkSt_refl _) (oops_lt _ _) hst)
             ·obtain ⟨x, y, rfl⟩ : ∃ x y, two = [x, y] := by
               cases two with
               | nil => simp at h6
               | cons x t =>
                cases t with
                | nil => simp at h6
                | cons y z =>
                 cases z with
                 | nil => exact ⟨x, y, rfl⟩
                 | cons u v => simp at h6
              simp only at hv0
              simp only [gw0, reduceEqDiff, ↓reduceIte, reduceAdd, reduceLT, reduceLeDiff, reduceMul, gwD3, gwDT, pureR_none, ite_self, nilR, nilB, bitF, bitV, nilC, nilCmp, eqb, assertV, assertW, zeroV, wQ_normal, wQ_ret, wQ_panic, pickO, pickC, List.map_cons, List.map_nil, List.getD_cons_zero, List.getD_cons_succ, Env.keep, beq_self_eq_true, cond_true, cond_false]
              refine vdraw2 TT_ok TT_mixed (σ := Unit) [0, 1, 0, 0, 0, 0, 2, 0, 1, 0, 0, 0, 0, 2, 0, 2, 0, 2] [0, 1, 2, 3, 4, 5, 7, 8, 6, 9, 10, 11, 12, 13, 14, 15, 16, 17] 6 8 [0, 1, 2, 4, 5, 6, 7, 54, 73, 74, 75, 9] (fun _x => [(0, true, .agg (encD d)), (1, true, .int .i64 dp), (2, true, .ref (encD d)), (4, true, .ptr st.length 0), (5, true, (.lst 6 none ([V.int .i64 ka, V.int .i64 na, V.str nma, V.int .i64 sa, V.int .i64 la, V.lst 6 none (kidsa.map encD)] :: [V.int .i64 kb, V.int .i64 nb, V.str nmb, V.int .i64 sb, V.int .i64 lb, V.lst 6 none (kidsb.map encD)] :: r.map encD))), (6, true, .int .i64 K), (7, true, .ptr (st.length + 1) 0), (54, true, .int .i64 K), (73, true, .lst 6 none (r.map encD)), (74, true, .int .i64 r.length), (75, true, .int .i64 i), (9, true, .ptr (st.length + 4) 0)]) (fun _x => st ++ [.box [.int .i64 0, .str [], .nils, .nils, .str [], .nils], .box [.int .i64 K, .str [], .lst 1 (some (st.length + 2)) ((ns.map fun s => [V.str s]) ++ [[V.str x]]), .lst 1 (some (st.length + 3)) ((az.map fun s => [V.str s]) ++ [[V.str y]]), .str [], .lst 6 none [encSet k]], .tip 9 (ns.length + 1), .tip 9 (az.length + 1)] ++ [.box (encD p)]) (fun _x => True) rfl (by kernel_rfl) ?_ ?_ ?_
              ·simp only [gw0, reduceEqDiff, ↓reduceIte, reduceAdd, reduceLT, reduceLeDiff, reduceMul, gwD3, gwDT, pureR_none, ite_self, nilR, nilB, bitF, bitV, nilC, nilCmp, eqb, assertV, assertW, zeroV, wQ_normal, wQ_ret, wQ_panic, pickO, pickC, List.map_cons, List.map_nil, List.getD_cons_zero, List.getD_cons_succ, Env.keep, beq_self_eq_true, cond_true, cond_false, show Int.toNat 1 = 1 from rfl, show Int.toNat 0 = 0 from rfl, show Int.toNat 2 = 2 from rfl, List.getD_cons_succ, List.getD_nil, List.getD_cons_zero, List.length_map, encD_take, encD_len, encD_drop, Nat.le_refl, List.length_cons, List.length_nil, List.map_cons, List.map_nil, List.drop_succ_cons, List.drop_zero, List.append_assoc, List.cons_append, List.nil_append]
               exact ⟨⟨by omega, by omega⟩, by omega, ⟨by omega, by omega⟩, by omega, rfl, rfl, (), rfl, rfl, trivial⟩
              ·simp only [gw0, reduceEqDiff, ↓reduceIte, reduceAdd, reduceLT, reduceLeDiff, reduceMul, gwD3, gwDT, pureR_none, ite_self, nilR, nilB, bitF, bitV, nilC, nilCmp, eqb, assertV, assertW, zeroV, wQ_normal, wQ_ret, wQ_panic, pickO, pickC, List.map_cons, List.map_nil, List.getD_cons_zero, List.getD_cons_succ, Env.keep, beq_self_eq_true, cond_true, cond_false, show Int.toNat 1 = 1 from rfl, show Int.toNat 0 = 0 from rfl, show Int.toNat 2 = 2 from rfl, List.getD_cons_succ, List.getD_nil, List.getD_cons_zero, List.length_map, encD_take, encD_len, encD_drop, Nat.le_refl, List.length_cons, List.length_nil, List.map_cons, List.map_nil, List.drop_succ_cons, List.drop_zero, List.append_assoc, List.cons_append, List.nil_append]
               exact ⟨⟨by omega, by omega⟩, by omega, ⟨by omega, by omega⟩, by omega, rfl, rfl, (), rfl, rfl, trivial⟩
              ·rintro - -
               simp only [gw0, reduceEqDiff, ↓reduceIte, reduceAdd, reduceLT, reduceLeDiff, reduceMul, gwD3, gwDT, pureR_none, ite_self, nilR, nilB, bitF, bitV, nilC, nilCmp, eqb, assertV, assertW, zeroV, wQ_normal, wQ_ret, wQ_panic, pickO, pickC, List.map_cons, List.map_nil, List.getD_cons_zero, List.getD_cons_succ, Env.keep, beq_self_eq_true, cond_true, cond_false, Env.keep, next_i64 hlt (by omega), List.append_assoc, List.cons_append, List.nil_append]
               refine ⟨(i + 1, ns ++ [x], az ++ [y]), ⟨wkE_refl _, st ++ [.box [.int .i64 0, .str [], .nils, .nils, .str [], .nils], .box [.int .i64 K, .str [], .lst 1 (some (st.length + 2)) (((ns ++ [x]).map fun s => [V.str s])), .lst 1 (some (st.length + 3)) (((az ++ [y]).map fun s => [V.str s])), .str [], .lst 6 none [encSet k]], .tip 9 (ns ++ [x]).length, .tip 9 (az ++ [y]).length], [.box (encD p)], by simp, wkSt_refl _, ?_, ?_, by simp⟩, by dsimp only; omega, hlt, by simp; omega, by simp; omega, by rw [hI, hdr, renP, thenE_ok he3, hk3, thenE_ok he4, htwo]⟩
               ·have hlb : (V.lst 6 none ([V.int .i64 ka, V.int .i64 na, V.str nma, V.int .i64 sa, V.int .i64 la, V.lst 6 none (kidsa.map encD)] :: [V.int .i64 kb, V.int .i64 nb, V.str nmb, V.int .i64 sb, V.int .i64 lb, V.lst 6 none (kidsb.map encD)] :: r.map encD)).lt (st.length + (1 + (1 + (1 + 1)))) := by
                 have := lstD_lt (st.length + (1 + (1 + (1 + 1)))) (.mk ka na nma sa la kidsa :: .mk kb nb nmb sb lb kidsb :: r)
                 simpa only [lstD, List.map_cons, encD_mk] using this
                have hlr := lstD_lt (st.length + (1 + (1 + (1 + 1)))) r
                have hld := encD_lt (st.length + (1 + (1 + (1 + 1)))) d
                simp only [lstD, V.lt] at hlb hlr
                simp only [ltE, V.lt, gwL]
                exact ⟨hld, trivial, hld, by omega, hlb, trivial, by omega, trivial, hlr, trivial, trivial, trivial⟩
               ·refine ok_app hst ⟨by simp [Ent.lt, ltL, V.lt], ?_, trivial, trivial, trivial⟩
                simp only [Ent.lt, ltL, V.lt, true_and, and_true]
                refine ⟨⟨fun e h => (by cases h; simp), ltRows_map fun x _ => ⟨trivial, trivial⟩⟩, ⟨fun e h => (by cases h; simp), ltRows_map fun x _ => ⟨trivial, trivial⟩⟩, fun e h => (by cases h), ?_⟩
                exact ⟨encSet_lt _ _, trivial⟩
            ·simp only [List.append_assoc, List.cons_append, List.nil_append] at hc4
             refine hc4.useP (wkL_refl _) ?_
             rw [hv0, thenE_bad he4, thenE_bad (by exact he4)]
             simp only [gw0, reduceEqDiff, ↓reduceIte, reduceAdd, reduceLT, reduceLeDiff, reduceMul, gwD3, gwDT, pureR_none, ite_self, nilR, nilB, bitF, bitV, nilC, nilCmp, eqb, assertV, assertW, zeroV, wQ_normal, wQ_ret, wQ_panic, pickO, pickC, List.map_cons, List.map_nil, List.getD_cons_zero, List.getD_cons_succ, Env.keep, beq_self_eq_true, cond_true, cond_false]
             exact outS_p he4 (givesP_of (wk_refl _) (wkSt_refl _) (oops_lt _ _) hst)
           ·simp only [List.append_assoc, List.cons_append, List.nil_append] at hc3
            refine hc3.useP (by exact wkL_refl _) ?_
            rw [hv0, thenE_bad he3, thenE_bad (by exact he3)]
            simp only [gw0, reduceEqDiff, ↓reduceIte, reduceAdd, reduceLT, reduceLeDiff, reduceMul, gwD3, gwDT, pureR_none, ite_self, nilR, nilB, bitF, bitV, nilC, nilCmp, eqb, assertV, assertW, zeroV, wQ_normal, wQ_ret, wQ_panic, pickO, pickC, List.map_cons, List.map_nil, List.getD_cons_zero, List.getD_cons_succ, Env.keep, beq_self_eq_true, cond_true, cond_false]
            exact outS_p he3 (givesP_of (wk_refl _) (wkSt_refl _) (oops_lt _ _) hst)
         ·rw [h4, cond_false] at hv0
          simp only [gw0, reduceEqDiff, ↓reduceIte, reduceAdd, reduceLT, reduceLeDiff, reduceMul, gwD3, gwDT, pureR_none, ite_self, nilR, nilB, bitF, bitV, nilC, nilCmp, eqb, assertV, assertW, zeroV, wQ_normal, wQ_ret, wQ_panic, pickO, pickC, List.map_cons, List.map_nil, List.getD_cons_zero, List.getD_cons_succ, Env.keep, beq_self_eq_true, cond_true, cond_false, show Int.toNat 1 = 1 from rfl, show Int.toNat 0 = 0 from rfl, show Int.toNat 2 = 2 from rfl, List.getD_cons_succ, List.getD_nil, List.getD_cons_zero, List.length_map, encD_take, encD_len, encD_drop, Nat.le_refl, List.length_cons, List.length_nil, List.map_cons, List.map_nil, List.drop_succ_cons, List.drop_zero]
          refine ⟨⟨by omega, by omega⟩, ?_⟩
          rcases (c_libsyms r (by simp only [List.length_cons] at hm; omega) (st ++ [.box [.int .i64 0, .str [], .nils, .nils, .str [], .nils], .box [.int .i64 K, .str [], .nils, .nils, .str [], .lst 6 none [encSet k]]])).cases with ⟨he3, hc3⟩ | ⟨he3, hc3⟩
          ·refine hc3.use (wkL_refl _) fun _ => ?_
           rw [hv0, thenE_ok (by exact he3)]
           simp only [gw0, reduceEqDiff, ↓reduceIte, reduceAdd, reduceLT, reduceLeDiff, reduceMul, gwD3, gwDT, pureR_none, ite_self, nilR, nilB, bitF, bitV, nilC, nilCmp, eqb, assertV, assertW, zeroV, wQ_normal, wQ_ret, wQ_panic, pickO, pickC, List.map_cons, List.map_nil, List.getD_cons_zero, List.getD_cons_succ, Env.keep, beq_self_eq_true, cond_true, cond_false, encSet_len, encSet_take, encS]
           exact outS_g rfl (fin1 _ _ _ (wk3 _ [] [] _ _ (wk_refl _) (wk_nils _)))
          ·refine hc3.useP (wkL_refl _) ?_
           rw [hv0, thenE_bad (by exact he3)]
           simp only [gw0, reduceEqDiff, ↓reduceIte, reduceAdd, reduceLT, reduceLeDiff, reduceMul, gwD3, gwDT, pureR_none, ite_self, nilR, nilB, bitF, bitV, nilC, nilCmp, eqb, assertV, assertW, zeroV, wQ_normal, wQ_ret, wQ_panic, pickO, pickC, List.map_cons, List.map_nil, List.getD_cons_zero, List.getD_cons_succ, Env.keep, beq_self_eq_true, cond_true, cond_false]
           exact outS_p he3 (givesP_of (wk_refl _) (wkSt_refl _) (oops_lt _ _) hst)
       ·refine hc2.useP (by rw [encD_mk]; exact wkL_refl _) ?_
        rw [hv0, thenE_bad he2]
        simp only [gw0, reduceEqDiff, ↓reduceIte, reduceAdd, reduceLT, reduceLeDiff, reduceMul, gwD3, gwDT, pureR_none, ite_self, nilR, nilB, bitF, bitV, nilC, nilCmp, eqb, assertV, assertW, zeroV, wQ_normal, wQ_ret, wQ_panic, pickO, pickC, List.map_cons, List.map_nil, List.getD_cons_zero, List.getD_cons_succ, Env.keep, beq_self_eq_true, cond_true, cond_false]
        exact outS_p he2 (givesP_of (wk_refl _) (wkSt_refl _) (oops_lt _ _) hst)
     ·simp only [gw0, reduceEqDiff, ↓reduceIte, reduceAdd, reduceLT, reduceLeDiff, reduceMul, gwD3, gwDT, pureR_none, ite_self, nilR, nilB, bitF, bitV, nilC, nilCmp, eqb, assertV, assertW, zeroV, wQ_normal, wQ_ret, wQ_panic, pickO, pickC, List.map_cons, List.map_nil, List.getD_cons_zero, List.getD_cons_succ, Env.keep, beq_self_eq_true, cond_true, cond_false, show decide ((0 : Int) < 2) = true from rfl, encD_take, encD_len, encD_drop, Nat.le_refl]
      have hv : G = thenE (calledP d) noSet fun s => (.mk 1 s [] [] [] [], 0) := by rw [hs0, thenE_ok he, hle]; rw [show setKind (.mk ka na nma sa la kidsa :: .mk kb nb nmb sb lb kidsb :: r) = (bif (decide (kb = 4) && decide (ka = 3)) then idxOf nma 0 [wOnly, wExcept, wPrefix, wRename] + 2 else 0) from rfl, h]; rfl
      rcases (callD [_]).cases with ⟨he2, hc2⟩ | ⟨he2, hc2⟩
      ·refine hc2.use (wkL_refl _) fun _ => ?_
       rw [hv, thenE_ok he2]
       simp only [gw0, reduceEqDiff, ↓reduceIte, reduceAdd, reduceLT, reduceLeDiff, reduceMul, gwD3, gwDT, pureR_none, ite_self, nilR, nilB, bitF, bitV, nilC, nilCmp, eqb, assertV, assertW, zeroV, wQ_normal, wQ_ret, wQ_panic, pickO, pickC, List.map_cons, List.map_nil, List.getD_cons_zero, List.getD_cons_succ, Env.keep, beq_self_eq_true, cond_true, cond_false]
       exact outS_g rfl (fin1 _ _ _ (w1 _))
      ·refine hc2.useP (wkL_refl _) ?_
       rw [hv, thenE_bad he2]
       simp only [gw0, reduceEqDiff, ↓reduceIte, reduceAdd, reduceLT, reduceLeDiff, reduceMul, gwD3, gwDT, pureR_none, ite_self, nilR, nilB, bitF, bitV, nilC, nilCmp, eqb, assertV, assertW, zeroV, wQ_normal, wQ_ret, wQ_panic, pickO, pickC, List.map_cons, List.map_nil, List.getD_cons_zero, List.getD_cons_succ, Env.keep, beq_self_eq_true, cond_true, cond_false]
       exact outS_p he2 (givesP_of (wk_refl _) (wkSt_refl _) (oops_lt _ _) hst)
  ·refine hc.useP (wkL_refl _) ?_
   rw [hs0, thenE_bad he]
   simp only [gw0, reduceEqDiff, ↓reduceIte, reduceAdd, reduceLT, reduceLeDiff, reduceMul, gwD3, gwDT, pureR_none, ite_self, nilR, nilB, bitF, bitV, nilC, nilCmp, eqb, assertV, assertW, zeroV, wQ_normal, wQ_ret, wQ_panic, pickO, pickC, List.map_cons, List.map_nil, List.getD_cons_zero, List.getD_cons_succ, Env.keep, beq_self_eq_true, cond_true, cond_false]
   exact outS_p he (givesP_of (wk_refl _) (wkSt_refl _) (oops_lt _ _) hst)
end Go.Proofs.YtpllcpbhjglpaaaGreatDoor.Gx
open Nat (reduceEqDiff reduceAdd reduceLT reduceLeDiff reduceMul)
namespace Go.Proofs.YtpllcpbhjglpaaaGreatDoor.Gx
open Go Go.Proofs.YtpllcpbhjglpaaaGreatDoor.Gw
set_option linter.unusedSimpArgs false
set_option linter.unusedVariables false
/-- The state with a box, and three rows behind it. -/
def wR (st : St) (b : Nat) (c : List V) (nE : Nat) (rI : List (List V)) (nB : Nat) : St := (((st.set b (.box c)).set (b + 1) (.tip 65 nE)).set (b + 2) (.arr 69 6 rI)).set (b + 3) (.tip 26 nB)
section
variable {st : St} {b : Nat} (h : b + 3 < st.length) (c c' : List V) (nE nE' : Nat) (rI rI' : List (List V)) (nB nB' : Nat) (ex : St)
theorem wR_len : (wR st b c nE rI nB).length = st.length := by simp [wR]
theorem wR_at {st : St} {b : Nat} (h : b + 3 < st.length) (c : List V) (nE : Nat) (rI : List (List V)) (nB : Nat) : (wR st b c nE rI nB)[b]? = some (.box c) ∧ (wR st b c nE rI nB)[b + 1]? = some (.tip 65 nE) ∧ (wR st b c nE rI nB)[b + 2]? = some (.arr 69 6 rI) ∧ (wR st b c nE rI nB)[b + 3]? = some (.tip 26 nB) := by
 unfold wR
 refine ⟨?_, ?_, ?_, ?_⟩
 ·rw [List.getElem?_set_ne (by omega), List.getElem?_set_ne (by omega), List.getElem?_set_ne (by omega), List.getElem?_set_self (by omega)]
 ·rw [List.getElem?_set_ne (by omega), List.getElem?_set_ne (by omega), List.getElem?_set_self (by simp; omega)]
 ·rw [List.getElem?_set_ne (by omega), List.getElem?_set_self (by simp; omega)]
 ·rw [List.getElem?_set_self (by simp; omega)]
theorem left_at {s ex : St} {j : Nat} {e : Ent} (h : s[j]? = some e) : (s ++ ex)[j]? = some e := by
 rw [List.getElem?_append_left (List.getElem?_eq_some_iff.1 h).1]; exact h
include h in
theorem wR_b : (wR st b c nE rI nB ++ ex)[b]? = some (.box c) := left_at (wR_at h ..).1
include h in
theorem wR_1 : (wR st b c nE rI nB ++ ex)[b + 1]? = some (.tip 65 nE) := left_at (wR_at h ..).2.1
include h in
theorem wR_2 : (wR st b c nE rI nB ++ ex)[b + 2]? = some (.arr 69 6 rI) := left_at (wR_at h ..).2.2.1
include h in
theorem wR_3 : (wR st b c nE rI nB ++ ex)[b + 3]? = some (.tip 26 nB) := left_at (wR_at h ..).2.2.2
include h in
theorem wR_b0 : (wR st b c nE rI nB)[b]? = some (.box c) := (wR_at h ..).1
include h in
theorem wR_30 : (wR st b c nE rI nB)[b + 3]? = some (.tip 26 nB) := (wR_at h ..).2.2.2
theorem set_sw (l : St) (i j : Nat) (x y : Ent) (h : i ≠ j) : (l.set i x).set j y = (l.set j y).set i x := List.set_comm _ _ h
theorem wR_s0 : (wR st b c nE rI nB).set b (.box c') = wR st b c' nE rI nB := by
 unfold wR
 rw [set_sw _ (b + 3) b _ _ (by omega), set_sw _ (b + 2) b _ _ (by omega), set_sw _ (b + 1) b _ _ (by omega), List.set_set]
theorem wR_s1 : (wR st b c nE rI nB).set (b + 1) (.tip 65 nE') = wR st b c nE' rI nB := by
 unfold wR
 rw [set_sw _ (b + 3) (b + 1) _ _ (by omega), set_sw _ (b + 2) (b + 1) _ _ (by omega), List.set_set]
theorem wR_s2 : (wR st b c nE rI nB).set (b + 2) (.arr 69 6 rI') = wR st b c nE rI' nB := by
 unfold wR
 rw [set_sw _ (b + 3) (b + 2) _ _ (by omega), List.set_set]
theorem wR_s3 : (wR st b c nE rI nB).set (b + 3) (.tip 26 nB') = wR st b c nE rI nB' := by
 unfold wR
 rw [List.set_set]
theorem wR_wR (c0 : List V) (n0 : Nat) (r0 : List (List V)) (m0 : Nat) : wR (wR st b c0 n0 r0 m0) b c nE rI nB = wR st b c nE rI nB := by
 show ((((wR st b c0 n0 r0 m0).set b (.box c)).set (b + 1) (.tip _ nE)).set (b + 2) (.arr _ 6 rI)).set (b + 3) (.tip _ nB) = _
 rw [wR_s0, wR_s1, wR_s2, wR_s3]
include h in
theorem wR_set (j : Nat) (e : Ent) (hj : j ≤ b + 3) : (wR st b c nE rI nB ++ ex).set j e = (wR st b c nE rI nB).set j e ++ ex := List.set_append_left _ _ (by rw [wR_len]; omega)
include h in
theorem wR_sb : (wR st b c nE rI nB ++ ex).set b (.box c') = wR st b c' nE rI nB ++ ex := by rw [wR_set h _ _ _ _ _ _ _ (by omega), wR_s0]
include h in
theorem wR_sE : (wR st b c nE rI nB ++ ex).set (b + 1) (.tip 65 nE') = wR st b c nE' rI nB ++ ex := by rw [wR_set h _ _ _ _ _ _ _ (by omega), wR_s1]
include h in
theorem wR_sI : (wR st b c nE rI nB ++ ex).set (b + 2) (.arr 69 6 rI') = wR st b c nE rI' nB ++ ex := by rw [wR_set h _ _ _ _ _ _ _ (by omega), wR_s2]
include h in
theorem wR_sB : (wR st b c nE rI nB ++ ex).set (b + 3) (.tip 26 nB') = wR st b c nE rI nB' ++ ex := by rw [wR_set h _ _ _ _ _ _ _ (by omega), wR_s3]
theorem wR_k (k : Nat) : (wR st b c nE rI nB ++ ex)[st.length + k]? = ex[k]? := by
 rw [List.getElem?_append_right (by rw [wR_len]; omega), wR_len]; simp
theorem wR_k0 : (wR st b c nE rI nB ++ ex)[st.length]? = ex[0]? := wR_k c nE rI nB ex 0
theorem wR_sk (k : Nat) (x : Ent) : (wR st b c nE rI nB ++ ex).set (st.length + k) x = wR st b c nE rI nB ++ ex.set k x := by
 rw [List.set_append_right _ _ (by rw [wR_len]; omega), wR_len]; simp
theorem wR_sk0 (x : Ent) : (wR st b c nE rI nB ++ ex).set st.length x = wR st b c nE rI nB ++ ex.set 0 x := wR_sk c nE rI nB ex 0 x
include h in
theorem wR_app : wR (st ++ ex) b c nE rI nB = wR st b c nE rI nB ++ ex := by
 unfold wR
 rw [List.set_append_left _ _ (by omega), List.set_append_left _ _ (by simp; omega), List.set_append_left _ _ (by simp; omega), List.set_append_left _ _ (by simp; omega)]
end
def cellsW (w : Wd) (b : Nat) (nm : Str) (E : List (List V)) (nI : Nat) (B : List (List V)) : List V := [.lst 2 none (rows2 w.files), encS w.feats, encS w.libs, .str nm, .lst 2 (some (b + 1)) E, .arr (b + 2) nI, .lst 6 (some (b + 3)) B, .int .i64 0]
/-- The state with a library as far as it is made. -/
def wS (st : St) (w : Wd) (b : Nat) (o : Lib') : St := wR st b (cellsW w b o.name (rows2 o.exps) o.imps.length (o.body.map encD)) o.exps.length (o.imps.map encSet) o.body.length
theorem wS_len (st : St) (w : Wd) (b : Nat) (o : Lib') : (wS st w b o).length = st.length := wR_len ..
theorem wS_app {st : St} {b : Nat} (h : b + 3 < st.length) (w : Wd) (o : Lib') (ex : St) : wS (st ++ ex) w b o = wS st w b o ++ ex := wR_app h ..
theorem wS_ok {st : St} {w : Wd} {b : Nat} {o : Lib'} (h : b + 3 < st.length) (o' : Lib') (hs : St.ok (wS st w b o)) : St.ok (wS st w b o') := by
 have e : wS st w b o' = wR (wS st w b o) b (cellsW w b o'.name (rows2 o'.exps) o'.imps.length (o'.body.map encD)) o'.exps.length (o'.imps.map encSet) o'.body.length := by
  simp only [wS]
  exact (wR_wR ..).symm
 rw [e]
 have hl := wS_len st w b o
 have hb : ∀ s : St, s.length = st.length → St.ok s → ∀ (j : Nat) (x : Ent), x.lt st.length → St.ok (s.set j x) := fun s hs1 hs2 j x hx y hy => by
  rw [List.length_set]
  rcases List.mem_or_eq_of_mem_set hy with h' | rfl
  ·exact hs2 y h'
  ·rw [hs1]; exact hx
 unfold wR
 refine hb _ (by simp [hl]) (hb _ (by simp [hl]) (hb _ (by simp [hl]) (hb _ hl hs _ _ ?_) _ _ ?_) _ _ ?_) _ _ ?_
 ·have h2 : (V.lst 2 none (rows2 w.files)).lt st.length := by simp only [V.lt]; exact ⟨fun e h => (by cases h), rows2_lt _ _⟩
  have h3 : (V.lst 2 (some (b + 1)) (rows2 o'.exps)).lt st.length := by simp only [V.lt]; exact ⟨fun e h => (by cases h; omega), rows2_lt _ _⟩
  have h4 : (V.lst 6 (some (b + 3)) (o'.body.map encD)).lt st.length := by simp only [V.lt]; exact ⟨fun e h => (by cases h; omega), ltRows_map fun d _ => encD_lt _ _⟩
  exact ⟨h2, encS_lt _ _, encS_lt _ _, trivial, h3, (by simp only [V.lt]; omega), h4, trivial, trivial⟩
 ·exact trivial
 ·exact ltRows_map fun s _ => encSet_lt _ _
 ·exact trivial
/-- No more than may be. -/
def okO (o : Lib') : Prop := o.exps.length ≤ 200 ∧ o.imps.length ≤ 20 ∧ o.body.length ≤ 200
theorem c_libbody (w : Wd) (l : List Datum) (o : Lib') (ho : okO o) (hl : l.length ≤ 1000000) (st : St) (b : Nat) (hb : b + 3 < st.length) :
  OutS 45 [.ptr b 0, lstD l] (wS st w b o) (.tup []) (bodyL l o).2 (wS st w b (bodyL l o).1) := by
 refine OutS_of (by rw [wS_len, wS_len]; exact Nat.le_refl _) ?_
 refine vfunQ TT_ok (an := anL []) (L := [0, 1]) (rs := []) Tryz.func45 rfl (by kernel_rfl) rfl Tryz.ntmps45 rfl rfl fun hst ha hf => ?_
 obtain ⟨h1, h2, h3⟩ := ho
 have hw := fun o' => wS_ok hb o' hst
 simp only [bodyL]
 simp only [wS, cellsW]
 have e1 : IntKind.i64.wrap ((o.body.length : Int) + (l.length : Int)) = ((o.body.length + l.length : Nat) : Int) := by rw [wrap_i64 (by omega) (by omega)]; omega
 have e2 : decide ((200 : Int) < ((o.body.length + l.length : Nat) : Int)) = decide (200 < o.body.length + l.length) := by by_cases h : 200 < o.body.length + l.length <;> simp [h] <;> omega
 simp only [gw0, reduceEqDiff, ↓reduceIte, reduceAdd, reduceLT, reduceLeDiff, reduceMul, gwD3, gwDT, pureR_none, ite_self, nilR, nilB, bitF, bitV, nilC, nilCmp, eqb, assertV, assertW, zeroV, wQ_normal, wQ_ret, wQ_panic, pickO, pickC, List.map_cons, List.map_nil, List.getD_cons_zero, List.getD_cons_succ, Env.keep, beq_self_eq_true, cond_true, cond_false, lstD, wR_b0 hb, wR_30 hb, List.length_map, e1, e2]
 refine iK_split (fun h => ?_) (fun h => ?_)
 ·rw [h, cond_true]
  simp only [gw0, reduceEqDiff, ↓reduceIte, reduceAdd, reduceLT, reduceLeDiff, reduceMul, gwD3, gwDT, pureR_none, ite_self, nilR, nilB, bitF, bitV, nilC, nilCmp, eqb, assertV, assertW, zeroV, wQ_normal, wQ_ret, wQ_panic, pickO, pickC, List.map_cons, List.map_nil, List.getD_cons_zero, List.getD_cons_succ, Env.keep, beq_self_eq_true, cond_true, cond_false]
  refine (c_libfail _ 5).useP (wkL_refl _) ?_
  simp only [gw0, reduceEqDiff, ↓reduceIte, reduceAdd, reduceLT, reduceLeDiff, reduceMul, gwD3, gwDT, pureR_none, ite_self, nilR, nilB, bitF, bitV, nilC, nilCmp, eqb, assertV, assertW, zeroV, wQ_normal, wQ_ret, wQ_panic, pickO, pickC, List.map_cons, List.map_nil, List.getD_cons_zero, List.getD_cons_succ, Env.keep, beq_self_eq_true, cond_true, cond_false]
  exact outS_p (show (5 : Int) ≠ 0 by decide) (givesP_self (oops_lt _ _) (hw o))
 ·rw [h, cond_false]
  simp only [gw0, reduceEqDiff, ↓reduceIte, reduceAdd, reduceLT, reduceLeDiff, reduceMul, gwD3, gwDT, pureR_none, ite_self, nilR, nilB, bitF, bitV, nilC, nilCmp, eqb, assertV, assertW, zeroV, wQ_normal, wQ_ret, wQ_panic, pickO, pickC, List.map_cons, List.map_nil, List.getD_cons_zero, List.getD_cons_succ, Env.keep, beq_self_eq_true, cond_true, cond_false, lstD, wR_b0 hb, wR_30 hb, wR_s0, wR_s3, List.length_map]
  rw [← List.map_append, ← List.length_append]
  exact ⟨by rw [List.length_append]; omega, outS_g rfl (gives_self trivial (hw { o with body := o.body ++ l }))⟩
end Go.Proofs.YtpllcpbhjglpaaaGreatDoor.Gx
namespace Go.Proofs.YtpllcpbhjglpaaaGreatDoor.Gx
open Go Go.Proofs.YtpllcpbhjglpaaaGreatDoor.Gw
open Nat (reduceEqDiff reduceAdd reduceLT reduceLeDiff reduceMul)
set_option linter.unusedSimpArgs false
set_option linter.unusedVariables false
theorem okO_exp {o : Lib'} (h : okO o) (q : Str × Str) (hl : o.exps.length ≠ 200) : okO { o with exps := o.exps ++ [q] } := ⟨by have := h.1; simp; omega, h.2.1, h.2.2⟩
set_option maxHeartbeats 4000000 in
theorem c_libexport (w : Wd) (l : List Datum) (hm : okMs l) (o : Lib') (ho : okO o) (hl : l.length ≤ 1000000) (st : St) (b : Nat) (hb : b + 3 < st.length) :
  OutS 43 [.ptr b 0, lstD l] (wS st w b o) (.tup []) (exportP l o).2 (wS st w b (exportP l o).1) := by
 refine OutS_of (by rw [wS_len, wS_len]; exact Nat.le_refl _) ?_
 refine vfunQ TT_ok (an := anL []) (L := [0, 1, 5, 6, 7, 8, 9, 10]) (rs := []) Tryz.func43 rfl (by kernel_rfl) rfl Tryz.ntmps43 rfl rfl fun hst ha hf => ?_
 have hw := fun o' => wS_ok hb o' hst
 simp only [gw0, reduceEqDiff, ↓reduceIte, reduceAdd, reduceLT, reduceLeDiff, reduceMul, gwD3, gwDT, pureR_none, ite_self, nilR, nilB, bitF, bitV, nilC, nilCmp, eqb, assertV, assertW, zeroV, wQ_normal, wQ_ret, wQ_panic, pickO, pickC, List.map_cons, List.map_nil, List.getD_cons_zero, List.getD_cons_succ, Env.keep, beq_self_eq_true, cond_true, cond_false, lstD, List.length_map]
 refine vforD (σ := Nat × Lib') [0, 1, 8, 9, 10] (fun x => [(0, true, .ptr b 0), (1, true, lstD l), (8, true, lstD l), (9, true, .int .i64 l.length), (10, true, .int .i64 x.1)]) (fun x => wS st w b x.2) (fun x => l.length - x.1) (fun x => x.1 ≤ l.length ∧ okO x.2 ∧ exportP l o = exportP (l.drop x.1) x.2) (0, o) rfl TT_ok ⟨Nat.zero_le _, ho, rfl⟩ (wkE_refl _) rfl ?_
 rintro ⟨i, o1⟩ ⟨hi, ho1, hI⟩
 simp only at hi ho1 hI ⊢
 rw [hI]
 rcases at_or_end l i hi with ⟨rfl, hd⟩ | ⟨a, hlt, hget, hdr⟩
 ·rw [hd]
  simp only [gw0, reduceEqDiff, ↓reduceIte, reduceAdd, reduceLT, reduceLeDiff, reduceMul, gwD3, gwDT, pureR_none, ite_self, nilR, nilB, bitF, bitV, nilC, nilCmp, eqb, assertV, assertW, zeroV, wQ_normal, wQ_ret, wQ_panic, pickO, pickC, List.map_cons, List.map_nil, List.getD_cons_zero, List.getD_cons_succ, Env.keep, beq_self_eq_true, cond_true, cond_false, lt_no, lstD]
  exact outS_g rfl (gives_self trivial (hw o1))
 ·rw [hdr]
  have hma : okM a := okMs_mem hm (List.mem_of_getElem? hget)
  have hE : exportP (a :: l.drop (i + 1)) o1 = bif decide ((exportOne a).2 = 0) then
   (bif o1.exps.any (fun p => decide (p.1 = (exportOne a).1.1)) then (o1, 8) else bif decide (o1.exps.length = 200) then (o1, 5) else exportP (l.drop (i + 1)) { o1 with exps := o1.exps ++ [(exportOne a).1] })
  else (o1, (exportOne a).2) := rfl
  generalize hG : exportP (a :: l.drop (i + 1)) o1 = G at hE
  obtain ⟨ka, na, nma, sa, la, kidsa⟩ := a
  simp only [wS, cellsW]
  have hone : exportOne (.mk ka na nma sa la kidsa) = bif decide (ka = 4) then thenE (listP 3 (.mk ka na nma sa la kidsa)) ([], []) fun k => thenE (symsP k []) ([], []) fun three => match three with
    | [a, b, c] => bif decide (a = wRename) then ((c, b), 0) else (([], []), 2)
    | _ => (([], []), 2)
   else thenE (symP (.mk ka na nma sa la kidsa)) ([], []) fun n => ((n, n), 0) := rfl
  simp only [gw0, reduceEqDiff, ↓reduceIte, reduceAdd, reduceLT, reduceLeDiff, reduceMul, gwD3, gwDT, pureR_none, ite_self, nilR, nilB, bitF, bitV, nilC, nilCmp, eqb, assertV, assertW, zeroV, wQ_normal, wQ_ret, wQ_panic, pickO, pickC, List.map_cons, List.map_nil, List.getD_cons_zero, List.getD_cons_succ, Env.keep, beq_self_eq_true, cond_true, cond_false, lt_yes hlt, lstD, List.length_map, getD_map hget, Int.ofNat_lt.mpr hlt, encD_take, encD_len, encD_drop, Nat.le_refl, wR_len, wR_k, wR_k0, wR_sk, wR_sk0, wR_b hb, wR_1 hb, wR_2 hb, wR_3 hb, wR_sb hb, wR_sE hb, wR_sI hb, wR_sB hb, encD_mk]
  refine iK_split (fun h => ?_) (fun h => ?_)
  ·rw [h, cond_true] at hone
   simp only [gw0, reduceEqDiff, ↓reduceIte, reduceAdd, reduceLT, reduceLeDiff, reduceMul, gwD3, gwDT, pureR_none, ite_self, nilR, nilB, bitF, bitV, nilC, nilCmp, eqb, assertV, assertW, zeroV, wQ_normal, wQ_ret, wQ_panic, pickO, pickC, List.map_cons, List.map_nil, List.getD_cons_zero, List.getD_cons_succ, Env.keep, beq_self_eq_true, cond_true, cond_false, wR_len, wR_k, wR_k0, wR_sk, wR_sk0, wR_b hb, wR_1 hb, wR_2 hb, wR_3 hb, wR_sb hb, wR_sE hb, wR_sI hb, wR_sB hb]
   rcases (c_liblist (.mk ka na nma sa la kidsa) 3 (wR st b [.lst 2 none (rows2 w.files), encS w.feats, encS w.libs, .str o1.name, .lst 2 (some (b + 1)) (rows2 o1.exps), .arr (b + 2) o1.imps.length, .lst 6 (some (b + 3)) (o1.body.map encD), .int .i64 0] o1.exps.length (o1.imps.map encSet) o1.body.length ++ [.box [V.int .i64 ka, V.int .i64 na, V.str nma, V.int .i64 sa, V.int .i64 la, V.lst 6 none (kidsa.map encD)], .box [.str [], .str []]])).cases with ⟨he, hc⟩ | ⟨he, hc⟩
   ·refine hc.use (by rw [encD_mk]; exact wkL_refl _) fun _ => ?_
    rw [thenE_ok he] at hone
    have hm3 := listP_okM hma he
    obtain ⟨k3, hk3⟩ : ∃ k3, (listP 3 (.mk ka na nma sa la kidsa)).1 = k3 := ⟨_, rfl⟩
    rw [hk3] at hone hm3 ⊢
    simp only [gw0, reduceEqDiff, ↓reduceIte, reduceAdd, reduceLT, reduceLeDiff, reduceMul, gwD3, gwDT, pureR_none, ite_self, nilR, nilB, bitF, bitV, nilC, nilCmp, eqb, assertV, assertW, zeroV, wQ_normal, wQ_ret, wQ_panic, pickO, pickC, List.map_cons, List.map_nil, List.getD_cons_zero, List.getD_cons_succ, Env.keep, beq_self_eq_true, cond_true, cond_false]
    rcases (c_libsyms k3 (by omega) (wR st b [.lst 2 none (rows2 w.files), encS w.feats, encS w.libs, .str o1.name, .lst 2 (some (b + 1)) (rows2 o1.exps), .arr (b + 2) o1.imps.length, .lst 6 (some (b + 3)) (o1.body.map encD), .int .i64 0] o1.exps.length (o1.imps.map encSet) o1.body.length ++ [.box [V.int .i64 ka, V.int .i64 na, V.str nma, V.int .i64 sa, V.int .i64 la, V.lst 6 none (kidsa.map encD)], .box [.str [], .str []]])).cases with ⟨he4, hc4⟩ | ⟨he4, hc4⟩
    ·refine hc4.use (wkL_refl _) fun _ => ?_
     rw [thenE_ok he4] at hone
     obtain ⟨three, h3⟩ : ∃ three, (symsP k3 []).1 = three := ⟨_, rfl⟩
     rw [h3] at hone ⊢
     have e6 : decide ((three.length : Int) = 3) = decide (three.length = 3) := by by_cases h : three.length = 3 <;> simp [h] <;> omega
     have bad2 : exportOne (.mk ka na nma sa la kidsa) = (([], []), 2) → G = (o1, 2) := fun e => by rw [hE, e]; rfl
     cases hlen : decide (three.length = 3) with
     | false =>
      have hv : exportOne (.mk ka na nma sa la kidsa) = (([], []), 2) := by
       rw [hone]
       cases three with
       | nil => rfl
       | cons x t => cases t with
        | nil => rfl
        | cons y z => cases z with
         | nil => rfl
         | cons u v => cases v with
          | nil => simp at hlen
          | cons p q => rfl
      cases three with
      | nil =>
       simp only [gw0, reduceEqDiff, ↓reduceIte, reduceAdd, reduceLT, reduceLeDiff, reduceMul, gwD3, gwDT, pureR_none, ite_self, nilR, nilB, bitF, bitV, nilC, nilCmp, eqb, assertV, assertW, zeroV, wQ_normal, wQ_ret, wQ_panic, pickO, pickC, List.map_cons, List.map_nil, List.getD_cons_zero, List.getD_cons_succ, Env.keep, beq_self_eq_true, cond_true, cond_false, show encS [] = .lst 1 none [] from rfl, List.length_nil, show decide (((0 : Nat) : Int) = 3) = false from rfl, Bool.not_false, Bool.not_true, show Int.toNat 0 = 0 from rfl, List.getD_nil, wR_len, wR_k, wR_k0, wR_sk, wR_sk0, wR_b hb, wR_1 hb, wR_2 hb, wR_3 hb, wR_sb hb, wR_sE hb, wR_sI hb, wR_sB hb]
       refine (c_libfail _ 2).useP (wkL_refl _) ?_
       rw [bad2 hv]
       simp only [gw0, reduceEqDiff, ↓reduceIte, reduceAdd, reduceLT, reduceLeDiff, reduceMul, gwD3, gwDT, pureR_none, ite_self, nilR, nilB, bitF, bitV, nilC, nilCmp, eqb, assertV, assertW, zeroV, wQ_normal, wQ_ret, wQ_panic, pickO, pickC, List.map_cons, List.map_nil, List.getD_cons_zero, List.getD_cons_succ, Env.keep, beq_self_eq_true, cond_true, cond_false]
       exact outS_p (show (2 : Int) ≠ 0 by decide) (givesP_of (wk_refl _) (wkSt_refl _) (oops_lt _ _) (hw o1))
      | cons x t =>
       have e8 : decide (((t.length + 1 : Nat) : Int) = 3) = false := by rw [List.length_cons] at e6 hlen; rw [e6, hlen]
       simp only [gw0, reduceEqDiff, ↓reduceIte, reduceAdd, reduceLT, reduceLeDiff, reduceMul, gwD3, gwDT, pureR_none, ite_self, nilR, nilB, bitF, bitV, nilC, nilCmp, eqb, assertV, assertW, zeroV, wQ_normal, wQ_ret, wQ_panic, pickO, pickC, List.map_cons, List.map_nil, List.getD_cons_zero, List.getD_cons_succ, Env.keep, beq_self_eq_true, cond_true, cond_false, show encS (x :: t) = .lst 1 none ([.str x] :: t.map fun s => [.str s]) from rfl, List.length_cons, List.length_map, e8, Bool.not_false, Bool.not_true, show Int.toNat 0 = 0 from rfl, wR_len, wR_k, wR_k0, wR_sk, wR_sk0, wR_b hb, wR_1 hb, wR_2 hb, wR_3 hb, wR_sb hb, wR_sE hb, wR_sI hb, wR_sB hb]
       refine (c_libfail _ 2).useP (wkL_refl _) ?_
       rw [bad2 hv]
       simp only [gw0, reduceEqDiff, ↓reduceIte, reduceAdd, reduceLT, reduceLeDiff, reduceMul, gwD3, gwDT, pureR_none, ite_self, nilR, nilB, bitF, bitV, nilC, nilCmp, eqb, assertV, assertW, zeroV, wQ_normal, wQ_ret, wQ_panic, pickO, pickC, List.map_cons, List.map_nil, List.getD_cons_zero, List.getD_cons_succ, Env.keep, beq_self_eq_true, cond_true, cond_false]
       exact outS_p (show (2 : Int) ≠ 0 by decide) (givesP_of (wk_refl _) (wkSt_refl _) (oops_lt _ _) (hw o1))
     | true =>
      obtain ⟨x, y, z, rfl⟩ : ∃ x y z, three = [x, y, z] := by
       cases three with
       | nil => simp at hlen
       | cons x t => cases t with
        | nil => simp at hlen
        | cons y z => cases z with
         | nil => simp at hlen
         | cons u v => cases v with
          | nil => exact ⟨x, y, u, rfl⟩
          | cons p q => simp at hlen
      simp only at hone
      simp only [gw0, reduceEqDiff, ↓reduceIte, reduceAdd, reduceLT, reduceLeDiff, reduceMul, gwD3, gwDT, pureR_none, ite_self, nilR, nilB, bitF, bitV, nilC, nilCmp, eqb, assertV, assertW, zeroV, wQ_normal, wQ_ret, wQ_panic, pickO, pickC, List.map_cons, List.map_nil, List.getD_cons_zero, List.getD_cons_succ, Env.keep, beq_self_eq_true, cond_true, cond_false, show encS [x, y, z] = .lst 1 none [[.str x], [.str y], [.str z]] from rfl, List.length_map, List.length_cons, List.length_nil, Bool.not_false, Bool.not_true, show decide (((0 + 1 + 1 + 1 : Nat) : Int) = 3) = true from rfl, show Int.toNat 0 = 0 from rfl, show Int.toNat 1 = 1 from rfl, show Int.toNat 2 = 2 from rfl, wR_len, wR_k, wR_k0, wR_sk, wR_sk0, wR_b hb, wR_1 hb, wR_2 hb, wR_3 hb, wR_sb hb, wR_sE hb, wR_sI hb, wR_sB hb]
      refine ⟨⟨by omega, by omega⟩, iK_split (fun h5 => ?_) (fun h5 => ?_)⟩
      ·have hv : exportOne (.mk ka na nma sa la kidsa) = (([], []), 2) := by
        rw [hone, show decide (x = wRename) = false from not_yes h5]; rfl
       simp only [gw0, reduceEqDiff, ↓reduceIte, reduceAdd, reduceLT, reduceLeDiff, reduceMul, gwD3, gwDT, pureR_none, ite_self, nilR, nilB, bitF, bitV, nilC, nilCmp, eqb, assertV, assertW, zeroV, wQ_normal, wQ_ret, wQ_panic, pickO, pickC, List.map_cons, List.map_nil, List.getD_cons_zero, List.getD_cons_succ, Env.keep, beq_self_eq_true, cond_true, cond_false]
       refine (c_libfail _ 2).useP (wkL_refl _) ?_
       rw [bad2 hv]
       simp only [gw0, reduceEqDiff, ↓reduceIte, reduceAdd, reduceLT, reduceLeDiff, reduceMul, gwD3, gwDT, pureR_none, ite_self, nilR, nilB, bitF, bitV, nilC, nilCmp, eqb, assertV, assertW, zeroV, wQ_normal, wQ_ret, wQ_panic, pickO, pickC, List.map_cons, List.map_nil, List.getD_cons_zero, List.getD_cons_succ, Env.keep, beq_self_eq_true, cond_true, cond_false]
       exact outS_p (show (2 : Int) ≠ 0 by decide) (givesP_of (wk_refl _) (wkSt_refl _) (oops_lt _ _) (hw o1))
      ·have hv : exportOne (.mk ka na nma sa la kidsa) = ((z, y), 0) := by
        rw [hone, show decide (x = wRename) = true from not_no h5]; rfl
       rw [hv] at hE
       simp only [show decide ((0 : Int) = 0) = true from rfl, cond_true] at hE
       simp only [gw0, reduceEqDiff, ↓reduceIte, reduceAdd, reduceLT, reduceLeDiff, reduceMul, gwD3, gwDT, pureR_none, ite_self, nilR, nilB, bitF, bitV, nilC, nilCmp, eqb, assertV, assertW, zeroV, wQ_normal, wQ_ret, wQ_panic, pickO, pickC, List.map_cons, List.map_nil, List.getD_cons_zero, List.getD_cons_succ, Env.keep, beq_self_eq_true, cond_true, cond_false, wR_len, wR_k, wR_k0, wR_sk, wR_sk0, wR_b hb, wR_1 hb, wR_2 hb, wR_3 hb, wR_sb hb, wR_sE hb, wR_sI hb, wR_sB hb]
       refine vdraw TT_ok TT_mixed [0, 0, 0, 0, 0, 0, 0, 2] (by kernel_rfl) ?_
       simp only [gw0, reduceEqDiff, ↓reduceIte, reduceAdd, reduceLT, reduceLeDiff, reduceMul, gwD3, gwDT, pureR_none, ite_self, nilR, nilB, bitF, bitV, nilC, nilCmp, eqb, assertV, assertW, zeroV, wQ_normal, wQ_ret, wQ_panic, pickO, pickC, List.map_cons, List.map_nil, List.getD_cons_zero, List.getD_cons_succ, Env.keep, beq_self_eq_true, cond_true, cond_false, wR_len, wR_k, wR_k0, wR_sk, wR_sk0, wR_b hb, wR_1 hb, wR_2 hb, wR_3 hb, wR_sb hb, wR_sE hb, wR_sI hb, wR_sB hb, show Int.toNat 0 = 0 from rfl, show Int.toNat 1 = 1 from rfl, show Int.toNat 2 = 2 from rfl, List.length_cons, List.length_nil]
       refine ⟨⟨by omega, by omega⟩, ⟨by omega, by omega⟩, ?_⟩
       have hx : (wR st b [.lst 2 none (rows2 w.files), encS w.feats, encS w.libs, .str o1.name, .lst 2 (some (b + 1)) (rows2 o1.exps), .arr (b + 2) o1.imps.length, .lst 6 (some (b + 3)) (o1.body.map encD), .int .i64 0] o1.exps.length (o1.imps.map encSet) o1.body.length ++ [.box [V.int .i64 ka, V.int .i64 na, V.str nma, V.int .i64 sa, V.int .i64 la, V.lst 6 none (kidsa.map encD)], .box (encF2 (z, y))])[st.length + 1]? = some (.box (encF2 (z, y))) := wR_k _ _ _ _ _ 1
       refine (c_HasPair _ o1.exps 62 [.ptr (st.length + 1) 0] (fun p => decide (p.1 = (z, y).1)) (fun a _ => c_sameHere a (z, y) _ _ hx)).use (wkL_cons (wk_tok _ _ _) (wkL_cons (wk_refl _) wkL_nil)) fun _ => ?_
       simp only [gw0, reduceEqDiff, ↓reduceIte, reduceAdd, reduceLT, reduceLeDiff, reduceMul, gwD3, gwDT, pureR_none, ite_self, nilR, nilB, bitF, bitV, nilC, nilCmp, eqb, assertV, assertW, zeroV, wQ_normal, wQ_ret, wQ_panic, pickO, pickC, List.map_cons, List.map_nil, List.getD_cons_zero, List.getD_cons_succ, Env.keep, beq_self_eq_true, cond_true, cond_false, wR_len, wR_k, wR_k0, wR_sk, wR_sk0, wR_b hb, wR_1 hb, wR_2 hb, wR_3 hb, wR_sb hb, wR_sE hb, wR_sI hb, wR_sB hb, List.length_map]
       refine iK_split (fun h6 => ?_) (fun h6 => ?_)
       ·rw [h6, cond_true] at hE
        simp only [gw0, reduceEqDiff, ↓reduceIte, reduceAdd, reduceLT, reduceLeDiff, reduceMul, gwD3, gwDT, pureR_none, ite_self, nilR, nilB, bitF, bitV, nilC, nilCmp, eqb, assertV, assertW, zeroV, wQ_normal, wQ_ret, wQ_panic, pickO, pickC, List.map_cons, List.map_nil, List.getD_cons_zero, List.getD_cons_succ, Env.keep, beq_self_eq_true, cond_true, cond_false]
        refine (c_libfail _ 8).useP (wkL_refl _) ?_
        rw [hE]
        simp only [gw0, reduceEqDiff, ↓reduceIte, reduceAdd, reduceLT, reduceLeDiff, reduceMul, gwD3, gwDT, pureR_none, ite_self, nilR, nilB, bitF, bitV, nilC, nilCmp, eqb, assertV, assertW, zeroV, wQ_normal, wQ_ret, wQ_panic, pickO, pickC, List.map_cons, List.map_nil, List.getD_cons_zero, List.getD_cons_succ, Env.keep, beq_self_eq_true, cond_true, cond_false]
        exact outS_p (show (8 : Int) ≠ 0 by decide) (givesP_of (wk_refl _) (wkSt_refl _) (oops_lt _ _) (hw o1))
       ·rw [h6, cond_false] at hE
        have e7 : decide ((o1.exps.length : Int) = 200) = decide (o1.exps.length = 200) := by by_cases h : o1.exps.length = 200 <;> simp [h] <;> omega
        simp only [gw0, reduceEqDiff, ↓reduceIte, reduceAdd, reduceLT, reduceLeDiff, reduceMul, gwD3, gwDT, pureR_none, ite_self, nilR, nilB, bitF, bitV, nilC, nilCmp, eqb, assertV, assertW, zeroV, wQ_normal, wQ_ret, wQ_panic, pickO, pickC, List.map_cons, List.map_nil, List.getD_cons_zero, List.getD_cons_succ, Env.keep, beq_self_eq_true, cond_true, cond_false, wR_len, wR_k, wR_k0, wR_sk, wR_sk0, wR_b hb, wR_1 hb, wR_2 hb, wR_3 hb, wR_sb hb, wR_sE hb, wR_sI hb, wR_sB hb, List.length_map, rows2_len, e7]
        refine iK_split (fun h7 => ?_) (fun h7 => ?_)
        ·rw [h7, cond_true] at hE
         simp only [gw0, reduceEqDiff, ↓reduceIte, reduceAdd, reduceLT, reduceLeDiff, reduceMul, gwD3, gwDT, pureR_none, ite_self, nilR, nilB, bitF, bitV, nilC, nilCmp, eqb, assertV, assertW, zeroV, wQ_normal, wQ_ret, wQ_panic, pickO, pickC, List.map_cons, List.map_nil, List.getD_cons_zero, List.getD_cons_succ, Env.keep, beq_self_eq_true, cond_true, cond_false]
         refine (c_libfail _ 5).useP (wkL_refl _) ?_
         rw [hE]
         simp only [gw0, reduceEqDiff, ↓reduceIte, reduceAdd, reduceLT, reduceLeDiff, reduceMul, gwD3, gwDT, pureR_none, ite_self, nilR, nilB, bitF, bitV, nilC, nilCmp, eqb, assertV, assertW, zeroV, wQ_normal, wQ_ret, wQ_panic, pickO, pickC, List.map_cons, List.map_nil, List.getD_cons_zero, List.getD_cons_succ, Env.keep, beq_self_eq_true, cond_true, cond_false]
         exact outS_p (show (5 : Int) ≠ 0 by decide) (givesP_of (wk_refl _) (wkSt_refl _) (oops_lt _ _) (hw o1))
        ·rw [h7, cond_false] at hE
         simp only [gw0, reduceEqDiff, ↓reduceIte, reduceAdd, reduceLT, reduceLeDiff, reduceMul, gwD3, gwDT, pureR_none, ite_self, nilR, nilB, bitF, bitV, nilC, nilCmp, eqb, assertV, assertW, zeroV, wQ_normal, wQ_ret, wQ_panic, pickO, pickC, List.map_cons, List.map_nil, List.getD_cons_zero, List.getD_cons_succ, Env.keep, beq_self_eq_true, cond_true, cond_false, wR_len, wR_k, wR_k0, wR_sk, wR_sk0, wR_b hb, wR_1 hb, wR_2 hb, wR_3 hb, wR_sb hb, wR_sE hb, wR_sI hb, wR_sB hb, List.length_map, rows2_len]
         refine vdraw TT_ok TT_mixed [0, 0, 0, 0, 0, 1, 1, 0, 2, 0, 0, 0, 2] (by kernel_rfl) ?_
         simp only [gw0, reduceEqDiff, ↓reduceIte, reduceAdd, reduceLT, reduceLeDiff, reduceMul, gwD3, gwDT, pureR_none, ite_self, nilR, nilB, bitF, bitV, nilC, nilCmp, eqb, assertV, assertW, zeroV, wQ_normal, wQ_ret, wQ_panic, pickO, pickC, List.map_cons, List.map_nil, List.getD_cons_zero, List.getD_cons_succ, Env.keep, beq_self_eq_true, cond_true, cond_false, wR_len, wR_k, wR_k0, wR_sk, wR_sk0, wR_b hb, wR_1 hb, wR_2 hb, wR_3 hb, wR_sb hb, wR_sE hb, wR_sI hb, wR_sB hb, List.length_map, rows2_len, encF2, Env.keep, next_i64 hlt (by omega)]
         refine ⟨by have := ho1.1; omega, (i + 1, { o1 with exps := o1.exps ++ [(z, y)] }), ⟨wkE_refl _, wS st w b { o1 with exps := o1.exps ++ [(z, y)] }, [.box [V.int .i64 ka, V.int .i64 na, V.str nma, V.int .i64 sa, V.int .i64 la, V.lst 6 none (kidsa.map encD)], .box [.str (z, y).1, .str (z, y).2]], by simp [wS, cellsW, rows2, encF2], wkSt_refl _, ?_, hw _, by rw [wR_len]; exact Nat.le_refl _⟩, by dsimp only; omega, hlt, okO_exp ho1 _ (of_decide_eq_false h7), hE⟩
         simp only [ltE, V.lt]
         have hll := lstD_lt (wS st w b { o1 with exps := o1.exps ++ [(z, y)] }).length l
         simp only [lstD, V.lt] at hll
         exact ⟨by rw [wR_len]; omega, hll, hll, trivial, trivial, trivial⟩
    ·refine hc4.useP (wkL_refl _) ?_
     rw [thenE_bad he4] at hone
     rw [hE, hone, decide_eq_false he4, cond_false]
     simp only [gw0, reduceEqDiff, ↓reduceIte, reduceAdd, reduceLT, reduceLeDiff, reduceMul, gwD3, gwDT, pureR_none, ite_self, nilR, nilB, bitF, bitV, nilC, nilCmp, eqb, assertV, assertW, zeroV, wQ_normal, wQ_ret, wQ_panic, pickO, pickC, List.map_cons, List.map_nil, List.getD_cons_zero, List.getD_cons_succ, Env.keep, beq_self_eq_true, cond_true, cond_false]
     exact outS_p he4 (givesP_of (wk_refl _) (wkSt_refl _) (oops_lt _ _) (hw o1))
   ·refine hc.useP (by rw [encD_mk]; exact wkL_refl _) ?_
    rw [thenE_bad he] at hone
    rw [hE, hone, decide_eq_false he, cond_false]
    simp only [gw0, reduceEqDiff, ↓reduceIte, reduceAdd, reduceLT, reduceLeDiff, reduceMul, gwD3, gwDT, pureR_none, ite_self, nilR, nilB, bitF, bitV, nilC, nilCmp, eqb, assertV, assertW, zeroV, wQ_normal, wQ_ret, wQ_panic, pickO, pickC, List.map_cons, List.map_nil, List.getD_cons_zero, List.getD_cons_succ, Env.keep, beq_self_eq_true, cond_true, cond_false]
    exact outS_p he (givesP_of (wk_refl _) (wkSt_refl _) (oops_lt _ _) (hw o1))
  ·rw [h, cond_false] at hone
   simp only [gw0, reduceEqDiff, ↓reduceIte, reduceAdd, reduceLT, reduceLeDiff, reduceMul, gwD3, gwDT, pureR_none, ite_self, nilR, nilB, bitF, bitV, nilC, nilCmp, eqb, assertV, assertW, zeroV, wQ_normal, wQ_ret, wQ_panic, pickO, pickC, List.map_cons, List.map_nil, List.getD_cons_zero, List.getD_cons_succ, Env.keep, beq_self_eq_true, cond_true, cond_false, wR_len, wR_k, wR_k0, wR_sk, wR_sk0, wR_b hb, wR_1 hb, wR_2 hb, wR_3 hb, wR_sb hb, wR_sE hb, wR_sI hb, wR_sB hb]
   refine vmelt 5 st.length _ rfl (by rw [wR_k0]; rfl) ?_
   simp only [gw0, reduceEqDiff, ↓reduceIte, reduceAdd, reduceLT, reduceLeDiff, reduceMul, gwD3, gwDT, pureR_none, ite_self, nilR, nilB, bitF, bitV, nilC, nilCmp, eqb, assertV, assertW, zeroV, wQ_normal, wQ_ret, wQ_panic, pickO, pickC, List.map_cons, List.map_nil, List.getD_cons_zero, List.getD_cons_succ, Env.keep, beq_self_eq_true, cond_true, cond_false, meltE, wR_len, wR_k, wR_k0, wR_sk, wR_sk0, wR_b hb, wR_1 hb, wR_2 hb, wR_3 hb, wR_sb hb, wR_sE hb, wR_sI hb, wR_sB hb, List.set_cons_zero]
   rcases (c_libsym (.mk ka na nma sa la kidsa) (wR st b [.lst 2 none (rows2 w.files), encS w.feats, encS w.libs, .str o1.name, .lst 2 (some (b + 1)) (rows2 o1.exps), .arr (b + 2) o1.imps.length, .lst 6 (some (b + 3)) (o1.body.map encD), .int .i64 0] o1.exps.length (o1.imps.map encSet) o1.body.length ++ [.gone, .box [.str [], .str []]])).cases with ⟨he, hc⟩ | ⟨he, hc⟩
   ·rw [thenE_ok he] at hone
    rw [hone] at hE
    simp only [show decide ((0 : Int) = 0) = true from rfl, cond_true] at hE
    refine vdraw TT_ok TT_mixed [0, 0, 0, 0, 0, 2] (by kernel_rfl) ?_
    simp only [gw0, reduceEqDiff, ↓reduceIte, reduceAdd, reduceLT, reduceLeDiff, reduceMul, gwD3, gwDT, pureR_none, ite_self, nilR, nilB, bitF, bitV, nilC, nilCmp, eqb, assertV, assertW, zeroV, wQ_normal, wQ_ret, wQ_panic, pickO, pickC, List.map_cons, List.map_nil, List.getD_cons_zero, List.getD_cons_succ, Env.keep, beq_self_eq_true, cond_true, cond_false, wR_len, wR_k, wR_k0, wR_sk, wR_sk0, wR_b hb, wR_1 hb, wR_2 hb, wR_3 hb, wR_sb hb, wR_sE hb, wR_sI hb, wR_sB hb]
    have hfree : ∀ s0 : St, VCalls Tryz.prog TT 16 [.agg [V.int .i64 ka, V.int .i64 na, V.str nma, V.int .i64 sa, V.int .i64 la, V.lst 6 none (kidsa.map encD)]] s0 fun r s' => r = .ret (.str (symP (.mk ka na nma sa la kidsa)).1) ∧ s' = s0 := fun s0 => by
     rcases (c_libsym (.mk ka na nma sa la kidsa) s0).cases with ⟨_, h⟩ | ⟨h, _⟩
     ·rw [encD_mk] at h; exact h
     ·exact absurd he h
    refine eK_free hfree (wkL_refl _) ?_
    simp only [gw0, reduceEqDiff, ↓reduceIte, reduceAdd, reduceLT, reduceLeDiff, reduceMul, gwD3, gwDT, pureR_none, ite_self, nilR, nilB, bitF, bitV, nilC, nilCmp, eqb, assertV, assertW, zeroV, wQ_normal, wQ_ret, wQ_panic, pickO, pickC, List.map_cons, List.map_nil, List.getD_cons_zero, List.getD_cons_succ, Env.keep, beq_self_eq_true, cond_true, cond_false, wR_len, wR_k, wR_k0, wR_sk, wR_sk0, wR_b hb, wR_1 hb, wR_2 hb, wR_3 hb, wR_sb hb, wR_sE hb, wR_sI hb, wR_sB hb]
    refine eK_free hfree (wkL_refl _) ?_
    simp only [gw0, reduceEqDiff, ↓reduceIte, reduceAdd, reduceLT, reduceLeDiff, reduceMul, gwD3, gwDT, pureR_none, ite_self, nilR, nilB, bitF, bitV, nilC, nilCmp, eqb, assertV, assertW, zeroV, wQ_normal, wQ_ret, wQ_panic, pickO, pickC, List.map_cons, List.map_nil, List.getD_cons_zero, List.getD_cons_succ, Env.keep, beq_self_eq_true, cond_true, cond_false, wR_len, wR_k, wR_k0, wR_sk, wR_sk0, wR_b hb, wR_1 hb, wR_2 hb, wR_3 hb, wR_sb hb, wR_sE hb, wR_sI hb, wR_sB hb]
    generalize (symP (.mk ka na nma sa la kidsa)).1 = nq at hE hone ⊢
    have hx : (wR st b [.lst 2 none (rows2 w.files), encS w.feats, encS w.libs, .str o1.name, .lst 2 (some (b + 1)) (rows2 o1.exps), .arr (b + 2) o1.imps.length, .lst 6 (some (b + 3)) (o1.body.map encD), .int .i64 0] o1.exps.length (o1.imps.map encSet) o1.body.length ++ [.gone, .box (encF2 (nq, nq))])[st.length + 1]? = some (.box (encF2 (nq, nq))) := wR_k _ _ _ _ _ 1
    refine (c_HasPair _ o1.exps 62 [.ptr (st.length + 1) 0] (fun p => decide (p.1 = (nq, nq).1)) (fun a _ => c_sameHere a (nq, nq) _ _ hx)).use (wkL_cons (wk_tok _ _ _) (wkL_cons (wk_refl _) wkL_nil)) fun _ => ?_
    simp only [gw0, reduceEqDiff, ↓reduceIte, reduceAdd, reduceLT, reduceLeDiff, reduceMul, gwD3, gwDT, pureR_none, ite_self, nilR, nilB, bitF, bitV, nilC, nilCmp, eqb, assertV, assertW, zeroV, wQ_normal, wQ_ret, wQ_panic, pickO, pickC, List.map_cons, List.map_nil, List.getD_cons_zero, List.getD_cons_succ, Env.keep, beq_self_eq_true, cond_true, cond_false, wR_len, wR_k, wR_k0, wR_sk, wR_sk0, wR_b hb, wR_1 hb, wR_2 hb, wR_3 hb, wR_sb hb, wR_sE hb, wR_sI hb, wR_sB hb, List.length_map]
    refine iK_split (fun h6 => ?_) (fun h6 => ?_)
    ·rw [h6, cond_true] at hE
     simp only [gw0, reduceEqDiff, ↓reduceIte, reduceAdd, reduceLT, reduceLeDiff, reduceMul, gwD3, gwDT, pureR_none, ite_self, nilR, nilB, bitF, bitV, nilC, nilCmp, eqb, assertV, assertW, zeroV, wQ_normal, wQ_ret, wQ_panic, pickO, pickC, List.map_cons, List.map_nil, List.getD_cons_zero, List.getD_cons_succ, Env.keep, beq_self_eq_true, cond_true, cond_false]
     refine (c_libfail _ 8).useP (wkL_refl _) ?_
     rw [hE]
     simp only [gw0, reduceEqDiff, ↓reduceIte, reduceAdd, reduceLT, reduceLeDiff, reduceMul, gwD3, gwDT, pureR_none, ite_self, nilR, nilB, bitF, bitV, nilC, nilCmp, eqb, assertV, assertW, zeroV, wQ_normal, wQ_ret, wQ_panic, pickO, pickC, List.map_cons, List.map_nil, List.getD_cons_zero, List.getD_cons_succ, Env.keep, beq_self_eq_true, cond_true, cond_false]
     exact outS_p (show (8 : Int) ≠ 0 by decide) (givesP_of (wk_refl _) (wkSt_refl _) (oops_lt _ _) (hw o1))
    ·rw [h6, cond_false] at hE
     have e7 : decide ((o1.exps.length : Int) = 200) = decide (o1.exps.length = 200) := by by_cases h : o1.exps.length = 200 <;> simp [h] <;> omega
     simp only [gw0, reduceEqDiff, ↓reduceIte, reduceAdd, reduceLT, reduceLeDiff, reduceMul, gwD3, gwDT, pureR_none, ite_self, nilR, nilB, bitF, bitV, nilC, nilCmp, eqb, assertV, assertW, zeroV, wQ_normal, wQ_ret, wQ_panic, pickO, pickC, List.map_cons, List.map_nil, List.getD_cons_zero, List.getD_cons_succ, Env.keep, beq_self_eq_true, cond_true, cond_false, wR_len, wR_k, wR_k0, wR_sk, wR_sk0, wR_b hb, wR_1 hb, wR_2 hb, wR_3 hb, wR_sb hb, wR_sE hb, wR_sI hb, wR_sB hb, List.length_map, rows2_len, e7]
     refine iK_split (fun h7 => ?_) (fun h7 => ?_)
     ·rw [h7, cond_true] at hE
      simp only [gw0, reduceEqDiff, ↓reduceIte, reduceAdd, reduceLT, reduceLeDiff, reduceMul, gwD3, gwDT, pureR_none, ite_self, nilR, nilB, bitF, bitV, nilC, nilCmp, eqb, assertV, assertW, zeroV, wQ_normal, wQ_ret, wQ_panic, pickO, pickC, List.map_cons, List.map_nil, List.getD_cons_zero, List.getD_cons_succ, Env.keep, beq_self_eq_true, cond_true, cond_false]
      refine (c_libfail _ 5).useP (wkL_refl _) ?_
      rw [hE]
      simp only [gw0, reduceEqDiff, ↓reduceIte, reduceAdd, reduceLT, reduceLeDiff, reduceMul, gwD3, gwDT, pureR_none, ite_self, nilR, nilB, bitF, bitV, nilC, nilCmp, eqb, assertV, assertW, zeroV, wQ_normal, wQ_ret, wQ_panic, pickO, pickC, List.map_cons, List.map_nil, List.getD_cons_zero, List.getD_cons_succ, Env.keep, beq_self_eq_true, cond_true, cond_false]
      exact outS_p (show (5 : Int) ≠ 0 by decide) (givesP_of (wk_refl _) (wkSt_refl _) (oops_lt _ _) (hw o1))
     ·rw [h7, cond_false] at hE
      simp only [gw0, reduceEqDiff, ↓reduceIte, reduceAdd, reduceLT, reduceLeDiff, reduceMul, gwD3, gwDT, pureR_none, ite_self, nilR, nilB, bitF, bitV, nilC, nilCmp, eqb, assertV, assertW, zeroV, wQ_normal, wQ_ret, wQ_panic, pickO, pickC, List.map_cons, List.map_nil, List.getD_cons_zero, List.getD_cons_succ, Env.keep, beq_self_eq_true, cond_true, cond_false, wR_len, wR_k, wR_k0, wR_sk, wR_sk0, wR_b hb, wR_1 hb, wR_2 hb, wR_3 hb, wR_sb hb, wR_sE hb, wR_sI hb, wR_sB hb, List.length_map, rows2_len]
      refine vdraw TT_ok TT_mixed [0, 0, 0, 0, 0, 1, 1, 0, 2, 0, 0, 0, 2] (by kernel_rfl) ?_
      simp only [gw0, reduceEqDiff, ↓reduceIte, reduceAdd, reduceLT, reduceLeDiff, reduceMul, gwD3, gwDT, pureR_none, ite_self, nilR, nilB, bitF, bitV, nilC, nilCmp, eqb, assertV, assertW, zeroV, wQ_normal, wQ_ret, wQ_panic, pickO, pickC, List.map_cons, List.map_nil, List.getD_cons_zero, List.getD_cons_succ, Env.keep, beq_self_eq_true, cond_true, cond_false, wR_len, wR_k, wR_k0, wR_sk, wR_sk0, wR_b hb, wR_1 hb, wR_2 hb, wR_3 hb, wR_sb hb, wR_sE hb, wR_sI hb, wR_sB hb, List.length_map, rows2_len, encF2, Env.keep, next_i64 hlt (by omega)]
      refine ⟨by have := ho1.1; omega, (i + 1, { o1 with exps := o1.exps ++ [(nq, nq)] }), ⟨wkE_refl _, wS st w b { o1 with exps := o1.exps ++ [(nq, nq)] }, [.gone, .box [.str (nq, nq).1, .str (nq, nq).2]], by simp [wS, cellsW, rows2, encF2], wkSt_refl _, ?_, hw _, by rw [wR_len]; exact Nat.le_refl _⟩, by dsimp only; omega, hlt, okO_exp ho1 _ (of_decide_eq_false h7), hE⟩
      simp only [ltE, V.lt]
      have hll := lstD_lt (wS st w b { o1 with exps := o1.exps ++ [(nq, nq)] }).length l
      simp only [lstD, V.lt] at hll
      exact ⟨by rw [wR_len]; omega, hll, hll, trivial, trivial, trivial⟩
   ·rw [thenE_bad he] at hone
    refine vpanic TT_ok TT_mixed [0, 0, 0, 0, 0, 2] [0, 2] 1 [3, 4, 5] [0, 1, 5, 6, 7, 8, 9, 10] rfl (by kernel_rfl) ?_
    simp only [gw0, reduceEqDiff, ↓reduceIte, reduceAdd, reduceLT, reduceLeDiff, reduceMul, gwD3, gwDT, pureR_none, ite_self, nilR, nilB, bitF, bitV, nilC, nilCmp, eqb, assertV, assertW, zeroV, wQ_normal, wQ_ret, wQ_panic, pickO, pickC, List.map_cons, List.map_nil, List.getD_cons_zero, List.getD_cons_succ, Env.keep, beq_self_eq_true, cond_true, cond_false, wR_len, wR_k, wR_k0, wR_sk, wR_sk0, wR_b hb, wR_1 hb, wR_2 hb, wR_3 hb, wR_sb hb, wR_sE hb, wR_sI hb, wR_sB hb]
    refine pK_of hc (by rw [encD_mk]; exact wkL_refl _) ?_
    rw [hE, hone, decide_eq_false he, cond_false]
    exact outS_p he (givesP_of (wk_refl _) (wkSt_refl _) (oops_lt _ _) (hw o1))
abbrev PR := Sum Int (Datum × Str × Nat)
def pQ : PR → PR
 | .inl e => .inl e
 | .inr (x, r, n) => .inr (quoteD x, r, n)
def pB (n : Nat) : Str → PR
 | [] => .inl 2
 | t :: r => bif decide (t = 116) || decide (t = 102) then
   (match r with
   | [] => .inr (.mk 2 (bif decide (t = 116) then 1 else 0) [] 0 0 [], [], n)
   | u :: q => bif letterB u then .inl 2 else .inr (.mk 2 (bif decide (t = 116) then 1 else 0) [] 0 0 [], u :: q, n))
  else .inl 2
def pA (n : Nat) (c : UInt8) (r : Str) : PR := match atomR (c :: r.takeWhile letterB) with
 | .inl e => .inl e
 | .inr d => .inr (d, r.dropWhile letterB, n)
mutual
def pD : Nat → Int → Str → Nat → PR
 | 0, _, _, _ => .inl 0
 | f + 1, deep, r, n => bif decide (2000 < n + 1) || decide (40 < deep) then .inl 4
  else match r with
   | [] => .inl 2
   | c :: r => bif decide (c = 40) then pL f deep [] r (n + 1)
    else bif decide (c = 39) then (bif decide (2000 < n + 2) || decide (40 < deep + 1) then .inl 4 else pQ (pD f (deep + 1) (blk false r) (n + 2)))
    else bif decide (c = 35) then pB (n + 1) r
    else bif letterB c then pA (n + 1) c r
    else .inl 2
def pL : Nat → Int → List Datum → Str → Nat → PR
 | 0, _, _, _, _ => .inl 0
 | f + 1, deep, acc, r, n => match blk false r with
  | [] => .inl 2
  | c :: r => bif decide (c = 41) then .inr (.mk 4 0 [] 0 0 acc, r, n)
   else match pD f (deep + 1) (c :: r) n with
    | .inl e => .inl e
    | .inr (x, r', n') => pL f deep (acc ++ [x]) r' n'
end
def pT : Nat → List Datum → Str → Nat → Sum Int (List Datum × Nat)
 | 0, _, _, _ => .inl 0
 | f + 1, acc, r, n => match blk false r with
  | [] => .inr (acc, n)
  | c :: q => match pD f 1 (c :: q) n with
   | .inl e => .inl e
   | .inr (x, r', n') => pT f (acc ++ [x]) r' n'
/-- What one gives, and the other. -/
def Agr (s : Str) (p : Nat) : PR → RR → Prop
 | .inl e, r => ∃ q p' n', r = .err e q p' n'
 | .inr (d, x, n), r => ∃ p', p ≤ p' ∧ p' ≤ s.length ∧ x = s.drop p' ∧ r = .ok d p' n
theorem agrB (s : Str) (q p n : Nat) (r : Str) (h : r = s.drop p) (hp : p ≤ s.length) : Agr s p (pB n r) (rdB q p n r) := by
 cases r with
 | nil => exact ⟨_, _, _, rfl⟩
 | cons t r =>
  have hl := drop_len h.symm
  have h1 : s.drop (p + 1) = r := by rw [← List.drop_drop, ← h]; rfl
  simp only [pB, rdB]
  cases decide (t = 116) || decide (t = 102) with
  | false => exact ⟨_, _, _, rfl⟩
  | true =>
   simp only [cond_true]
   cases r with
   | nil => exact ⟨p + 1, by omega, by omega, h1.symm, rfl⟩
   | cons u w =>
    simp only
    cases letterB u with
    | true => exact ⟨_, _, _, rfl⟩
    | false => exact ⟨p + 1, by omega, by omega, h1.symm, rfl⟩
theorem take_drop_while (l : Str) : l.drop (l.takeWhile letterB).length = l.dropWhile letterB := by
 have := List.takeWhile_append_dropWhile (p := letterB) (l := l)
 conv => lhs; arg 2; rw [← this]
 rw [List.drop_left]
theorem agrA (s : Str) (q p n : Nat) (c : UInt8) (r : Str) (h : r = s.drop p) (hp : p ≤ s.length) : Agr s p (pA n c r) (rdA s q p n c r) := by
 have hl : r.length = s.length - p := by rw [h]; simp
 have htw := takeWhile_le (l := r)
 unfold pA rdA
 cases atomR (c :: r.takeWhile letterB) with
 | inl e => exact ⟨_, _, _, rfl⟩
 | inr d => exact ⟨p + (r.takeWhile letterB).length, by omega, by omega, by rw [← List.drop_drop, ← h, take_drop_while], rfl⟩
theorem agr_up {s : Str} {p q : Nat} {a : PR} {b : RR} (h : Agr s q a b) (hp : p ≤ q) : Agr s p a b := by
 cases a with
 | inl e => exact h
 | inr x =>
  obtain ⟨d, r, n⟩ := x
  obtain ⟨p', h1, h2, h3, h4⟩ := h
  exact ⟨p', by omega, h2, h3, h4⟩
theorem blk_at (s : Str) (p : Nat) : blk false (s.drop p) = s.drop (s.length - (blk false (s.drop p)).length) := by
 have h1 := blk_drop (s.drop p) false
 have h2 := blk_le (s.drop p) false
 rw [List.length_drop] at h1 h2
 conv => lhs; rw [h1, List.drop_drop]
 by_cases hp : p ≤ s.length
 ·congr 1; omega
 ·have e1 : (blk false (s.drop p)).length = 0 := by omega
  rw [e1, List.drop_of_length_le (by omega), List.drop_of_length_le (by omega)]
theorem rd_agr (s : Str) : ∀ f : Nat, (∀ (deep : Int) (p n : Nat), p ≤ s.length → Agr s p (pD f deep (s.drop p) n) (rdD s f deep p n)) ∧
  (∀ (deep : Int) (acc : List Datum) (p n : Nat), p ≤ s.length → Agr s p (pL f deep acc (s.drop p) n) (rdL s f deep acc p n))
 | 0 => ⟨fun _ _ _ _ => ⟨_, _, _, rfl⟩, fun _ _ _ _ _ => ⟨_, _, _, rfl⟩⟩
 | f + 1 => by
  obtain ⟨ihD, ihL⟩ := rd_agr s f
  constructor
  ·intro deep p n hp
   simp only [pD, rdD]
   cases decide (2000 < n + 1) || decide (40 < deep) with
   | true => exact ⟨_, _, _, rfl⟩
   | false =>
    simp only [cond_false]
    cases hd : s.drop p with
    | nil => exact ⟨_, _, _, rfl⟩
    | cons c r =>
     have hl := drop_len hd
     have h1 : s.drop (p + 1) = r := by rw [← List.drop_drop, hd]; rfl
     simp only
     cases decide (c = 40) with
     | true => simp only [cond_true]; rw [← h1]; exact agr_up (ihL deep [] (p + 1) (n + 1) (by omega)) (by omega)
     | false =>
      simp only [cond_false]
      cases decide (c = 39) with
      | true =>
       simp only [cond_true]
       cases decide (2000 < n + 2) || decide (40 < deep + 1) with
       | true => exact ⟨_, _, _, rfl⟩
       | false =>
        simp only [cond_false]
        have hb := blk_at s (p + 1)
        rw [h1] at hb
        have hle := blk_le r false
        have := ihD (deep + 1) (s.length - (blk false r).length) (n + 2) (by omega)
        rw [← hb] at this
        generalize pD f (deep + 1) (blk false r) (n + 2) = a at this ⊢
        cases a with
        | inl e => obtain ⟨q, p', n', e1⟩ := this; rw [e1]; exact ⟨_, _, _, rfl⟩
        | inr x =>
         obtain ⟨d, r', n'⟩ := x
         obtain ⟨p', k1, k2, k3, k4⟩ := this
         rw [k4]
         exact ⟨p', by omega, k2, k3, rfl⟩
      | false =>
       simp only [cond_false]
       cases decide (c = 35) with
       | true => simp only [cond_true]; exact agr_up (agrB s p (p + 1) (n + 1) r h1.symm (by omega)) (by omega)
       | false =>
        simp only [cond_false]
        cases letterB c with
        | true => simp only [cond_true]; exact agr_up (agrA s p (p + 1) (n + 1) c r h1.symm (by omega)) (by omega)
        | false => exact ⟨_, _, _, rfl⟩
  ·intro deep acc p n hp
   simp only [pL, rdL]
   have hb := blk_at s p
   have hle := blk_le (s.drop p) false
   rw [List.length_drop] at hle
   cases hk : blk false (s.drop p) with
   | nil => exact ⟨_, _, _, rfl⟩
   | cons c r =>
    rw [hk] at hb hle
    simp only [List.length_cons] at hb hle
    have hr : s.drop (s.length - r.length) = r := by
     have : s.length - r.length = (s.length - (r.length + 1)) + 1 := by omega
     rw [this, ← List.drop_drop, ← hb]; rfl
    simp only
    cases decide (c = 41) with
    | true => exact ⟨s.length - r.length, by omega, by omega, hr.symm, rfl⟩
    | false =>
     simp only [cond_false]
     have := ihD (deep + 1) (s.length - (r.length + 1)) n (by omega)
     rw [← hb] at this
     generalize pD f (deep + 1) (c :: r) n = a at this ⊢
     cases a with
     | inl e => obtain ⟨q, p', n', e1⟩ := this; rw [e1]; exact ⟨_, _, _, rfl⟩
     | inr x =>
      obtain ⟨d, r', n'⟩ := x
      obtain ⟨p', k1, k2, k3, k4⟩ := this
      rw [k4]
      simp only [RR.bind]
      rw [k3]
      exact agr_up (ihL deep (acc ++ [d]) p' n' k2) (by omega)
theorem top_agr (s : Str) : ∀ (f : Nat) (acc : List Datum) (p n : Nat), p ≤ s.length →
  (match pT f acc (s.drop p) n with
   | .inl e => ∃ q, rdTop s f acc (s.length - (blk false (s.drop p)).length) n = .inl (e, q)
   | .inr (l, _) => rdTop s f acc (s.length - (blk false (s.drop p)).length) n = .inr l)
 | 0, acc, p, n, hp => ⟨_, rfl⟩
 | f + 1, acc, p, n, hp => by
  simp only [pT, rdTop]
  have hb := blk_at s p
  have hle := blk_le (s.drop p) false
  rw [List.length_drop] at hle
  cases hk : blk false (s.drop p) with
  | nil =>
   rw [hk] at hb
   rw [← hb]
  | cons c r =>
   rw [hk] at hb hle
   simp only [List.length_cons] at hb hle
   simp only [List.length_cons]
   rw [← hb]
   simp only
   have := (rd_agr s f).1 1 (s.length - (r.length + 1)) n (by omega)
   rw [← hb] at this
   generalize pD f 1 (c :: r) n = a at this ⊢
   cases a with
   | inl e => obtain ⟨q, p', n', e1⟩ := this; rw [e1]; exact ⟨_, rfl⟩
   | inr x =>
    obtain ⟨d, r', n'⟩ := x
    obtain ⟨p', k1, k2, k3, k4⟩ := this
    rw [k4]
    simp only
    rw [k3]
    exact top_agr s f (acc ++ [d]) p' n' k2
/-- Reading, without places. -/
theorem read_ok {s : Str} {l : List Datum} : readR s = .inr l ↔ s.length ≤ 6000 ∧ ∃ n, pT (2 * s.length + 3) [] s 0 = .inr (l, n) := by
 have h := top_agr s (2 * s.length + 3) [] 0 0 (Nat.zero_le _)
 rw [List.drop_zero] at h
 unfold readR
 by_cases hs : (6000 : Int) < s.length
 ·simp only [hs, decide_true, cond_true]
  exact ⟨fun h => (by cases h), fun h => (by omega)⟩
 ·simp only [hs, decide_false, cond_false]
  cases hp : pT (2 * s.length + 3) [] s 0 with
  | inl e =>
   rw [hp] at h
   obtain ⟨q, h⟩ := h
   rw [h]
   exact ⟨fun h => (by cases h), fun ⟨_, n, h⟩ => (by cases h)⟩
  | inr x =>
   obtain ⟨m, n⟩ := x
   rw [hp] at h
   simp only at h
   rw [h]
   exact ⟨fun h => (by cases h; exact ⟨by omega, n, rfl⟩), fun ⟨_, n', h⟩ => (by cases h; rfl)⟩
theorem read_err {s : Str} {e : Int} (hs : s.length ≤ 6000) (h : pT (2 * s.length + 3) [] s 0 = .inl e) : ∃ q, readR s = .inl (e, q) := by
 have k := top_agr s (2 * s.length + 3) [] 0 0 (Nat.zero_le _)
 rw [List.drop_zero, h] at k
 obtain ⟨q, k⟩ := k
 refine ⟨q, ?_⟩
 unfold readR
 rw [show decide ((6000 : Int) < s.length) = false by simp; omega, cond_false]
 exact k
/-- More text behind, that no word goes on in. -/
def Brk : Str → Prop
 | [] => True
 | c :: _ => letterB c = false
theorem blk_ext : ∀ (r x : Str) (b : Bool) {c : UInt8} {q : Str}, blk b r = c :: q → blk b (r ++ x) = c :: (q ++ x)
 | [], x, b, c, q, h => by cases b <;> simp [blk] at h
 | d :: r, x, false, c, q, h => by
  simp only [blk, List.cons_append] at h ⊢
  cases h1 : isBlank d with
  | true => rw [h1] at h; simp only [cond_true] at h ⊢; exact blk_ext r x false h
  | false =>
   rw [h1] at h
   simp only [cond_false] at h ⊢
   cases h2 : decide (d = 59) with
   | true => rw [h2] at h; simp only [cond_true] at h ⊢; exact blk_ext r x true h
   | false => rw [h2] at h; simp only [cond_false] at h ⊢; cases h; rfl
 | d :: r, x, true, c, q, h => by
  simp only [blk, List.cons_append] at h ⊢
  cases h1 : decide (d = 10) with
  | true => rw [h1] at h; simp only [cond_true] at h ⊢; exact blk_ext r x false h
  | false => rw [h1] at h; simp only [cond_false] at h ⊢; exact blk_ext r x true h
/-- Where nothing is left, a line behind is looked at anew. -/
theorem blk_line : ∀ (r t : Str) (b : Bool), blk b r = [] → blk b (r ++ 10 :: t) = blk false t
 | [], t, false, _ => by simp [blk, isBlank]
 | [], t, true, _ => by simp [blk]
 | d :: r, t, false, h => by
  simp only [blk, List.cons_append] at h ⊢
  cases h1 : isBlank d with
  | true => rw [h1] at h; simp only [cond_true] at h ⊢; exact blk_line r t false h
  | false =>
   rw [h1] at h
   simp only [cond_false] at h ⊢
   cases h2 : decide (d = 59) with
   | true => rw [h2] at h; simp only [cond_true] at h ⊢; exact blk_line r t true h
   | false => rw [h2] at h; simp at h
 | d :: r, t, true, h => by
  simp only [blk, List.cons_append] at h ⊢
  cases h1 : decide (d = 10) with
  | true => rw [h1] at h; simp only [cond_true] at h ⊢; exact blk_line r t false h
  | false => rw [h1] at h; simp only [cond_false] at h ⊢; exact blk_line r t true h
theorem tw_ext {r x : Str} (hx : Brk x) : (r ++ x).takeWhile letterB = r.takeWhile letterB ∧ (r ++ x).dropWhile letterB = r.dropWhile letterB ++ x := by
 induction r with
 | nil =>
  cases x with
  | nil => simp
  | cons c x => simp only [Brk] at hx; simp [hx]
 | cons d r ih =>
  simp only [List.cons_append, List.takeWhile_cons, List.dropWhile_cons]
  cases letterB d <;> simp [ih]
/-- With more fuel, more text behind, and so many nodes more: the same, or too much. -/
def More (x : Str) (m : Nat) (a : Datum × Str × Nat) (b : PR) : Prop := b = .inr (a.1, a.2.1 ++ x, a.2.2 + m) ∨ (b = .inl 4 ∧ m ≠ 0)
theorem moreB {n m : Nat} {r x : Str} {a : Datum × Str × Nat} (hx : Brk x) (h : pB n r = .inr a) : More x m a (pB (n + m) (r ++ x)) := by
 cases r with
 | nil => cases h
 | cons t r =>
  simp only [pB, List.cons_append] at h ⊢
  cases h1 : decide (t = 116) || decide (t = 102) with
  | false => rw [h1] at h; cases h
  | true =>
   rw [h1] at h
   simp only [cond_true] at h ⊢
   cases r with
   | nil =>
    simp only at h
    cases h
    cases x with
    | nil => exact .inl rfl
    | cons c x => simp only [Brk] at hx; simp only [List.nil_append, hx, cond_false]; exact .inl rfl
   | cons u w =>
    simp only [List.cons_append] at h ⊢
    cases hu : letterB u with
    | true => rw [hu] at h; cases h
    | false => rw [hu] at h; simp only [cond_false] at h ⊢; cases h; exact .inl rfl
theorem moreA {n m : Nat} {c : UInt8} {r x : Str} {a : Datum × Str × Nat} (hx : Brk x) (h : pA n c r = .inr a) : More x m a (pA (n + m) c (r ++ x)) := by
 unfold pA at h ⊢
 obtain ⟨e1, e2⟩ := tw_ext (r := r) hx
 rw [e1, e2]
 cases hq : atomR (c :: r.takeWhile letterB) with
 | inl e => rw [hq] at h; cases h
 | inr d => rw [hq] at h; cases h; exact .inl rfl
theorem p_more (x : Str) (m : Nat) (hx : Brk x) : ∀ f : Nat, (∀ (F : Nat) (deep : Int) (r : Str) (n : Nat) (a : Datum × Str × Nat), f ≤ F → pD f deep r n = .inr a → More x m a (pD F deep (r ++ x) (n + m))) ∧
  (∀ (F : Nat) (deep : Int) (acc : List Datum) (r : Str) (n : Nat) (a : Datum × Str × Nat), f ≤ F → pL f deep acc r n = .inr a → More x m a (pL F deep acc (r ++ x) (n + m)))
 | 0 => ⟨fun F deep r n a _ h => (by cases h), fun F deep acc r n a _ h => (by cases h)⟩
 | f + 1 => by
  obtain ⟨ihD, ihL⟩ := p_more x m hx f
  constructor
  ·intro F deep r n a hF h
   obtain ⟨F, rfl⟩ : ∃ G, F = G + 1 := ⟨F - 1, by omega⟩
   have hF' : f ≤ F := by omega
   simp only [pD] at h ⊢
   cases h1 : (decide (2000 < n + 1) || decide (40 < deep)) with
   | true => rw [h1] at h; cases h
   | false =>
    rw [h1] at h
    simp only [cond_false] at h
    cases h2 : (decide (2000 < n + m + 1) || decide (40 < deep)) with
    | true =>
     simp only [cond_true]
     simp only [Bool.or_eq_true, Bool.or_eq_false_iff, decide_eq_true_eq, decide_eq_false_iff_not] at h1 h2
     exact .inr ⟨rfl, by omega⟩
    | false =>
     simp only [cond_false]
     cases r with
     | nil => cases h
     | cons c r =>
      simp only [List.cons_append] at h ⊢
      have e1 : n + m + 1 = n + 1 + m := by omega
      have e2 : n + m + 2 = n + 2 + m := by omega
      rw [e1]
      cases h3 : decide (c = 40) with
      | true => rw [h3] at h; simp only [cond_true] at h ⊢; exact ihL F deep [] r (n + 1) a hF' h
      | false =>
       rw [h3] at h
       simp only [cond_false] at h ⊢
       cases h4 : decide (c = 39) with
       | true =>
        rw [h4] at h
        simp only [cond_true] at h ⊢
        cases h5 : (decide (2000 < n + 2) || decide (40 < deep + 1)) with
        | true => rw [h5] at h; cases h
        | false =>
         rw [h5] at h
         simp only [cond_false] at h
         cases h6 : (decide (2000 < n + m + 2) || decide (40 < deep + 1)) with
         | true =>
          simp only [Bool.or_eq_true, Bool.or_eq_false_iff, decide_eq_true_eq, decide_eq_false_iff_not] at h5 h6
          exact .inr ⟨rfl, by omega⟩
         | false =>
          simp only [cond_false]
          cases hq : pD f (deep + 1) (blk false r) (n + 2) with
          | inl e => rw [hq] at h; cases h
          | inr y =>
           rw [hq] at h
           have hb : blk false (r ++ x) = blk false r ++ x := by
            cases hk : blk false r with
            | nil =>
             rw [hk] at hq
             cases f with
             | zero => cases hq
             | succ f =>
              simp only [pD] at hq
              cases h7 : (decide (2000 < n + 2 + 1) || decide (40 < deep + 1)) <;> rw [h7] at hq <;> cases hq
            | cons e q => rw [blk_ext r x false hk]; rfl
           have := ihD F (deep + 1) (blk false r) (n + 2) y hF' hq
           rw [hb, e2]
           rcases this with h8 | ⟨h8, h9⟩
           ·rw [h8]; cases h; exact .inl rfl
           ·rw [h8]; exact .inr ⟨rfl, h9⟩
       | false =>
        rw [h4] at h
        simp only [cond_false] at h ⊢
        cases h5 : decide (c = 35) with
        | true => rw [h5] at h; simp only [cond_true] at h ⊢; exact moreB hx h
        | false =>
         rw [h5] at h
         simp only [cond_false] at h ⊢
         cases h6 : letterB c with
         | true => rw [h6] at h; simp only [cond_true] at h ⊢; exact moreA hx h
         | false => rw [h6] at h; cases h
  ·intro F deep acc r n a hF h
   obtain ⟨F, rfl⟩ : ∃ G, F = G + 1 := ⟨F - 1, by omega⟩
   have hF' : f ≤ F := by omega
   simp only [pL] at h ⊢
   cases hk : blk false r with
   | nil => rw [hk] at h; cases h
   | cons c q =>
    rw [hk] at h
    rw [blk_ext r x false hk]
    simp only at h ⊢
    cases h1 : decide (c = 41) with
    | true => rw [h1] at h; simp only [cond_true] at h ⊢; cases h; exact .inl rfl
    | false =>
     rw [h1] at h
     simp only [cond_false] at h ⊢
     cases hq : pD f (deep + 1) (c :: q) n with
     | inl e => rw [hq] at h; cases h
     | inr y =>
      obtain ⟨d, r', n'⟩ := y
      rw [hq] at h
      simp only at h
      have := ihD F (deep + 1) (c :: q) n _ hF' hq
      rw [List.cons_append] at this
      rcases this with h8 | ⟨h8, h9⟩
      ·rw [h8]; simp only; exact ihL F deep (acc ++ [d]) r' n' a hF' h
      ·rw [h8]; exact .inr ⟨rfl, h9⟩
/-- Data on lines, and more lines behind. -/
theorem t_line (t : Str) : ∀ (f F : Nat) (acc : List Datum) (r : Str) (n : Nat) (l : List Datum) (n' : Nat), pT f acc r n = .inr (l, n') → f ≤ F → ∃ G, F + 1 ≤ G + f ∧ pT F acc (r ++ 10 :: t) n = pT G l t n'
 | 0, F, acc, r, n, l, n', h, _ => by cases h
 | f + 1, F, acc, r, n, l, n', h, hF => by
  obtain ⟨F, rfl⟩ : ∃ G, F = G + 1 := ⟨F - 1, by omega⟩
  simp only [pT] at h
  cases hk : blk false r with
  | nil =>
   rw [hk] at h
   simp only at h
   cases h
   refine ⟨F + 1, by omega, ?_⟩
   simp only [pT]
   rw [blk_line r t false hk]
  | cons c q =>
   rw [hk] at h
   simp only at h
   cases hq : pD f 1 (c :: q) n with
   | inl e => rw [hq] at h; cases h
   | inr y =>
    obtain ⟨d, r', n2⟩ := y
    rw [hq] at h
    simp only at h
    have hb : Brk (10 :: t) := by show letterB 10 = false; decide
    have := (p_more (10 :: t) 0 hb f).1 F 1 (c :: q) n _ (by omega) hq
    rw [List.cons_append] at this
    obtain ⟨G, g1, g2⟩ := t_line t f F (acc ++ [d]) r' n2 l n' h (by omega)
    refine ⟨G, by omega, ?_⟩
    rw [← g2]
    conv => lhs; unfold pT
    rw [blk_ext r (10 :: t) false hk]
    simp only
    rcases this with h8 | ⟨_, h9⟩
    ·rw [Nat.add_zero] at h8; rw [h8]; rfl
    ·exact absurd rfl h9
/-- A note goes on to its line's end. -/
theorem blk_note : ∀ (note t : Str), (10 : UInt8) ∉ note → blk true (note ++ 10 :: t) = blk false t
 | [], t, _ => by simp [blk]
 | c :: r, t, h => by
  simp only [List.mem_cons, not_or] at h
  simp only [List.cons_append, blk]
  rw [show decide (c = 10) = false by simp; exact fun e => h.1 e.symm, cond_false]
  exact blk_note r t h.2
theorem blk_note_end : ∀ (note : Str), (10 : UInt8) ∉ note → blk true note = []
 | [], _ => by simp [blk]
 | c :: r, h => by
  simp only [List.mem_cons, not_or] at h
  simp only [blk]
  rw [show decide (c = 10) = false by simp; exact fun e => h.1 e.symm, cond_false]
  exact blk_note_end r h.2
/-- BLANKS AND NOTES SAY NOTHING. -/
theorem blanks {s note : Str} {a : List Datum} (ha : readR s = .inr a) (hn : (10 : UInt8) ∉ note) (hl : s.length + 2 * note.length + 6 ≤ 6000) :
  readR ([59] ++ note ++ [10, 32, 9] ++ s ++ [10, 59] ++ note) = .inr a := by
 obtain ⟨h1, n1, ha⟩ := read_ok.1 ha
 have e : [59] ++ note ++ [10, 32, 9] ++ s ++ [10, 59] ++ note = 59 :: (note ++ 10 :: (32 :: 9 :: (s ++ 10 :: (59 :: note)))) := by simp
 rw [e]
 generalize hz : (59 : UInt8) :: (note ++ 10 :: (32 :: 9 :: (s ++ 10 :: (59 :: note)))) = z
 have hlen : z.length = s.length + 2 * note.length + 6 := by rw [← hz]; simp; omega
 obtain ⟨G, g1, g2⟩ := t_line (59 :: note) _ (2 * z.length + 3) [] s 0 a n1 ha (by omega)
 refine read_ok.2 ⟨by omega, n1, ?_⟩
 have hb : blk false z = blk false (s ++ 10 :: (59 :: note)) := by
  rw [← hz]
  have i1 : isBlank 59 = false := by decide
  have i2 : isBlank 32 = true := by decide
  have i3 : isBlank 9 = true := by decide
  conv => lhs; unfold blk
  rw [i1, cond_false, show decide ((59 : UInt8) = 59) = true by decide, cond_true, blk_note note _ hn]
  simp only [blk, i2, i3, cond_true]
 have h3 : pT (2 * z.length + 3) [] z 0 = pT (2 * z.length + 3) [] (s ++ 10 :: (59 :: note)) 0 := by
  simp only [pT]; rw [hb]
 rw [h3, g2]
 obtain ⟨G, rfl⟩ : ∃ G', G = G' + 1 := ⟨G - 1, by omega⟩
 simp only [pT]
 have : blk false (59 :: note) = [] := by
  have i1 : isBlank 59 = false := by decide
  conv => lhs; unfold blk
  rw [i1, cond_false, show decide ((59 : UInt8) = 59) = true by decide, cond_true, blk_note_end note hn]
 rw [this]
end Go.Proofs.YtpllcpbhjglpaaaGreatDoor.Gx
namespace Go.Proofs.YtpllcpbhjglpaaaGreatDoor.Gx
open Go Go.Proofs.YtpllcpbhjglpaaaGreatDoor.Gw
set_option linter.unusedSimpArgs false
set_option linter.unusedVariables false
/-- A text's bytes as rows. -/
def bytesV (s : Str) : List (List V) := s.map fun c => [V.int .u8 c.toNat]
/-- A builder that holds a text: its box, its bytes. -/
structure IsB (st : St) (b t T k : Nat) (s : Str) (r : List V) : Prop where
 box : st[b]? = some (.box (.addr b T k :: .arr t s.length :: r))
 arr : st[t]? = some (.arr 5 1 (bytesV s))
 lies : liesAt Tryz.prog Tryz.prog.depth T (k / Tryz.prog.cellsOf T) 0 91 1 = true
def bput (st : St) (b t T k : Nat) (s : Str) (r : List V) : St := (st.set t (.arr 5 1 (bytesV s))).set b (.box (.addr b T k :: .arr t s.length :: r))
section
variable {st : St} {b t T k : Nat} {s : Str} {r : List V}
theorem IsB.ne (h : IsB st b t T k s r) : b ≠ t := fun e => by
 have h1 := h.box
 rw [e, h.arr] at h1
 cases h1
theorem IsB.put (h : IsB st b t T k s r) (s' : Str) : IsB (bput st b t T k s' r) b t T k s' r where
 box := by
  simp only [bput]
  rw [List.getElem?_set_self (by rw [List.length_set]; exact (List.getElem?_eq_some_iff.1 h.box).1)]
 arr := by
  simp only [bput]
  rw [List.getElem?_set_ne h.ne, List.getElem?_set_self (List.getElem?_eq_some_iff.1 h.arr).1]
 lies := h.lies
theorem IsB.same (h : IsB st b t T k s r) : bput st b t T k s r = st := by
 simp only [bput]
 obtain ⟨h1, h2⟩ := List.getElem?_eq_some_iff.1 h.arr
 obtain ⟨h3, h4⟩ := List.getElem?_eq_some_iff.1 h.box
 rw [← h2, List.set_getElem_self, ← h4, List.set_getElem_self]
end
end Go.Proofs.YtpllcpbhjglpaaaGreatDoor.Gx
namespace Go.Proofs.YtpllcpbhjglpaaaGreatDoor.Gx
open Go Go.Proofs.YtpllcpbhjglpaaaGreatDoor.Gw
open Nat (reduceEqDiff reduceAdd reduceLT reduceLeDiff reduceMul)
set_option linter.unusedSimpArgs false
set_option linter.unusedVariables false
mutual
/-- A datum's text. -/
def textD : Datum → Str
 | .mk k n nm s l kids => bif decide (k = 1) then Lib.itoa n else bif decide (k = 2) then (bif decide (n = 1) then [35, 116] else [35, 102]) else bif decide (k = 3) then nm else 40 :: ((spaced kids).drop 1 ++ [41])
/-- Each with a blank ahead. -/
def spaced : List Datum → Str
 | [] => []
 | d :: r => 32 :: (textD d ++ spaced r)
end
mutual
/-- Kinds, and what there is of numbers, are right. -/
def okD : Datum → Prop
 | .mk k n nm s l kids => (k = 1 ∧ -1000000000000000 ≤ n ∧ n ≤ 1000000000000000) ∨ (k = 2 ∧ (n = 0 ∨ n = 1)) ∨ (k = 3 ∧ namedB nm = true ∧ s = 0 ∧ l = 0) ∨ (k = 4 ∧ okDs kids)
def okDs : List Datum → Prop
 | [] => True
 | d :: r => okD d ∧ okDs r
end
mutual
/-- How many nodes. -/
def cntD : Datum → Nat
 | .mk k _ _ _ _ kids => 1 + bif decide (k = 4) then cntDs kids else 0
def cntDs : List Datum → Nat
 | [] => 0
 | d :: r => cntD d + cntDs r
end
mutual
theorem shape_okD : ∀ (d : Datum) (deep c : Int), (shapeD d deep c).1 = 0 → okD d ∧ (shapeD d deep c).2 = c + cntD d
 | .mk k n nm s l kids, deep, c, h => by
  unfold shapeD at h ⊢
  simp only [okD, cntD]
  cases h1 : (decide (2000 < c + 1) || decide (40 < deep)) with
  | true => rw [h1] at h; simp at h
  | false =>
   rw [h1] at h
   simp only [cond_false] at h ⊢
   by_cases k1 : k = 1
   ·subst k1
    cases h2 : (decide (1000000000000000 < n) || decide (n < -1000000000000000)) with
    | true => simp [h2] at h
    | false =>
     simp only [Bool.or_eq_false_iff, decide_eq_false_iff_not] at h2
     exact ⟨.inl ⟨rfl, by omega, by omega⟩, by simp [h2]⟩
   by_cases k2 : k = 2
   ·subst k2
    cases h2 : (decide (n = 0) || decide (n = 1)) with
    | false => simp [h2] at h
    | true =>
     have h3 := h2
     simp only [Bool.or_eq_true, decide_eq_true_eq] at h3
     exact ⟨.inr (.inl ⟨rfl, h3⟩), by simp [h2]⟩
   by_cases k3 : k = 3
   ·subst k3
    cases h2 : namedB nm with
    | false => simp [h2] at h
    | true =>
     cases h3 : (decide (s = 0) && decide (l = 0)) with
     | false => simp [h2, h3] at h
     | true =>
      have h4 := h3
      simp only [Bool.and_eq_true, decide_eq_true_eq] at h4
      exact ⟨.inr (.inr (.inl ⟨rfl, rfl, h4⟩)), by simp [h2, h3]⟩
   by_cases k4 : k = 4
   ·subst k4
    have h' : (shapeDs kids (deep + 1) (c + 1)).1 = 0 := by simpa using h
    have := shape_okDs kids _ _ h'
    refine ⟨.inr (.inr (.inr ⟨rfl, this.1⟩)), ?_⟩
    simp [this.2]; omega
   ·simp [k1, k2, k3, k4] at h
theorem shape_okDs : ∀ (l : List Datum) (deep c : Int), (shapeDs l deep c).1 = 0 → okDs l ∧ (shapeDs l deep c).2 = c + cntDs l
 | [], _, c, _ => by simp [okDs, cntDs, shapeDs]
 | d :: r, deep, c, h => by
  simp only [shapeDs] at h ⊢
  by_cases h1 : (shapeD d deep c).1 = 0
  ·have i1 := shape_okD d deep c h1
   simp only [h1, decide_true, cond_true] at h ⊢
   have i2 := shape_okDs r deep _ h
   refine ⟨⟨i1.1, i2.1⟩, ?_⟩
   rw [i2.2, i1.2]; simp only [cntDs]; omega
  ·simp [h1] at h
end
theorem dk4 : (decide ((2 : Int) = 1) = false) ∧ (decide ((3 : Int) = 1) = false) ∧ (decide ((3 : Int) = 2) = false) ∧ (decide ((4 : Int) = 1) = false) ∧ (decide ((4 : Int) = 2) = false) ∧ (decide ((4 : Int) = 3) = false) ∧ (decide ((2 : Int) = 2) = true) ∧ (decide ((3 : Int) = 3) = true) ∧ (decide ((4 : Int) = 4) = true) ∧ (decide ((1 : Int) = 1) = true) := by decide
/-- Data, each on a line. -/
def textL : List Datum → Str
 | [] => []
 | d :: r => textD d ++ 10 :: textL r
theorem wrong_ok : ∀ (l : List Datum) (i : Nat) (c : Int), 0 ≤ c → c ≤ 2000 → (wrongL l i c).1 = 0 → okDs l ∧ c + cntDs l ≤ 2000
 | [], i, c, h0, h1, _ => by simp [okDs, cntDs, h1]
 | d :: r, i, c, h0, h1, h => by
  simp only [wrongL] at h
  by_cases e : (shapeD d 1 c).1 = 0
  ·simp only [e, decide_true, cond_true] at h
   have k1 := shape_okD d 1 c e
   have k2 := shapeD_ok d 1 c h0 e
   have k3 := wrong_ok r (i + 1) _ (by omega) k2.2 h
   refine ⟨⟨k1.1, k3.1⟩, ?_⟩
   simp only [cntDs]; omega
  ·simp [e] at h
/-- What is printed, or what is wrong. -/
def printL (l : List Datum) : Str × (Int × Int) := bif decide ((wrongL l 0 0).1 = 0) then (bif decide (6000 < (textL l).length) then ([], (4, 0)) else (textL l, (0, 0))) else ([], wrongL l 0 0)
-- numerals
theorem dig_byte {u : Nat} (h : u < 10) : (UInt8.ofNat (48 + u)).toNat = 48 + u := by simp; omega
theorem dec_ok (u : Nat) : digits (Lib.decDigits u) = true ∧ Lib.decDigits u ≠ [] ∧ numN (Lib.decDigits u) = u := by
 induction u using Nat.strongRecOn with
 | _ u ih =>
  rw [Lib.decDigits]
  split
  ·rename_i h
   have := dig_byte h
   refine ⟨?_, by simp, ?_⟩
   ·simp only [digits, List.all_cons, List.all_nil, Bool.and_true, this]; simp; omega
   ·simp only [numN, List.foldl_cons, List.foldl_nil, this]; omega
  ·rename_i h
   obtain ⟨h1, h2, h3⟩ := ih (u / 10) (by omega)
   have := dig_byte (Nat.mod_lt u (show 10 > 0 by decide))
   refine ⟨?_, by simp, ?_⟩
   ·simp only [digits, List.all_append, List.all_cons, List.all_nil, Bool.and_true, this] at h1 ⊢; rw [h1]; simp; omega
   ·simp only [numN, List.foldl_append, List.foldl_cons, List.foldl_nil, this] at h3 ⊢; rw [h3]; omega
theorem dec_len : ∀ (k u : Nat), u < 10 ^ (k + 1) → (Lib.decDigits u).length ≤ k + 1
 | 0, u, h => by rw [Lib.decDigits, dif_pos (by simpa using h)]; simp
 | k + 1, u, h => by
  rw [Lib.decDigits]
  split
  ·simp
  ·have := dec_len k (u / 10) (by rw [Nat.pow_succ] at h; omega)
   simp; omega
theorem digits_letters : ∀ {s : Str}, digits s = true → s.all letterB = true
 | [], _ => rfl
 | c :: r, h => by
  simp only [digits, List.all_cons, Bool.and_eq_true, decide_eq_true_eq] at h ⊢
  refine ⟨?_, digits_letters h.2⟩
  have key : ∀ c : UInt8, decide (48 ≤ c.toNat) && decide (c.toNat ≤ 57) → letterB c = true := fun c => of_decide_eq_true (all_bytes (p := fun c => decide (decide (48 ≤ c.toNat) && decide (c.toNat ≤ 57) → letterB c = true)) (by decide +kernel) c)
  exact key c (by simp [h.1.1, h.1.2])
theorem digits_head {c : UInt8} {r : Str} (h : digits (c :: r) = true) : c ≠ 45 := by
 simp only [digits, List.all_cons, Bool.and_eq_true, decide_eq_true_eq] at h
 rintro rfl
 have := h.1.1
 simp at this
theorem itoa_ok {n : Int} (h0 : -1000000000000000 ≤ n) (h1 : n ≤ 1000000000000000) : (Lib.itoa n).all letterB = true ∧ Lib.itoa n ≠ [] ∧ looksB (Lib.itoa n) = true ∧ (Lib.itoa n).length ≤ 17 ∧ numV (Lib.itoa n) = n := by
 unfold Lib.itoa
 split
 ·rename_i h
  obtain ⟨k1, k2, k3⟩ := dec_ok n.natAbs
  have kl := dec_len 15 n.natAbs (by omega)
  refine ⟨?_, by simp, ?_, by simp; omega, ?_⟩
  ·rw [List.all_cons, digits_letters k1]; decide
  ·simp only [looksB, k1, Bool.true_and, Bool.not_eq_true', List.isEmpty_eq_false_iff]; exact k2
  ·simp only [numV, k3]; omega
 ·rename_i h
  obtain ⟨k1, k2, k3⟩ := dec_ok n.toNat
  have kl := dec_len 15 n.toNat (by omega)
  refine ⟨digits_letters k1, k2, ?_, by omega, ?_⟩
  ·generalize Lib.decDigits n.toNat = s at k1 k2
   cases s with
   | nil => exact absurd rfl k2
   | cons c r =>
    have hc := digits_head k1
    unfold looksB
    split
    ·rename_i r' e; simp only [List.cons.injEq] at e; exact absurd e.1 hc
    ·rw [k1]; rfl
  ·generalize Lib.decDigits n.toNat = s at k1 k2 k3
   cases s with
   | nil => exact absurd rfl k2
   | cons c r =>
    have hc := digits_head k1
    unfold numV
    split
    ·rename_i r' e; simp only [List.cons.injEq] at e; exact absurd e.1 hc
    ·rw [k3]; omega
mutual
/-- A datum, but what its kind has not. -/
def normD : Datum → Datum
 | .mk k n nm s l kids => bif decide (k = 1) || decide (k = 2) then .mk k n [] 0 0 [] else bif decide (k = 3) then .mk 3 0 nm 0 0 [] else .mk 4 0 [] 0 0 (normDs kids)
def normDs : List Datum → List Datum
 | [] => []
 | d :: r => normD d :: normDs r
end
/-- No blank, no note, no end. -/
def Beg (c : UInt8) : Prop := isBlank c = false ∧ decide (c = 59) = false ∧ decide (c = 41) = false
theorem letter_beg (c : UInt8) (h : letterB c = true) : isBlank c = false ∧ decide (c = 59) = false ∧ decide (c = 41) = false ∧ decide (c = 40) = false ∧ decide (c = 39) = false ∧ decide (c = 35) = false := by
 have key : ∀ c : UInt8, letterB c = true → (isBlank c = false ∧ decide (c = 59) = false ∧ decide (c = 41) = false ∧ decide (c = 40) = false ∧ decide (c = 39) = false ∧ decide (c = 35) = false) := fun c => of_decide_eq_true (all_bytes (p := fun c => decide (letterB c = true → (isBlank c = false ∧ decide (c = 59) = false ∧ decide (c = 41) = false ∧ decide (c = 40) = false ∧ decide (c = 39) = false ∧ decide (c = 35) = false))) (by decide +kernel) c)
 exact key c h
theorem beg_blk {c : UInt8} {q : Str} (h : Beg c) : blk false (c :: q) = c :: q := by
 simp only [blk, h.1, h.2.1, cond_false]
theorem beg_blk' {c : UInt8} {q : Str} (h1 : isBlank c = false) (h2 : decide (c = 59) = false) : blk false (c :: q) = c :: q := by
 simp only [blk, h1, h2, cond_false]
theorem word_cons {s : Str} (h : s.all letterB = true) (h0 : s ≠ []) : ∃ c q, s = c :: q ∧ letterB c = true ∧ q.all letterB = true := by
 cases s with
 | nil => exact absurd rfl h0
 | cons c q => simp only [List.all_cons, Bool.and_eq_true] at h; exact ⟨c, q, rfl, h⟩
theorem text_beg : ∀ d : Datum, okD d → ∃ c q, textD d = c :: q ∧ Beg c := by
 intro d h
 cases d with
 | mk k n nm s l kids =>
  simp only [okD] at h
  simp only [textD]
  rcases h with ⟨rfl, h1, h2⟩ | ⟨rfl, h1⟩ | ⟨rfl, h1, _⟩ | ⟨rfl, h1⟩
  ·obtain ⟨k1, k2, _⟩ := itoa_ok h1 h2
   obtain ⟨c, q, e, hc, _⟩ := word_cons k1 k2
   have := letter_beg c hc
   exact ⟨c, q, by simp [e], this.1, this.2.1, this.2.2.1⟩
  ·rcases h1 with rfl | rfl
   ·exact ⟨35, [102], by simp, by decide, by decide, by decide⟩
   ·exact ⟨35, [116], by simp, by decide, by decide, by decide⟩
  ·simp only [namedB, Bool.and_eq_true, decide_eq_true_eq] at h1
   obtain ⟨c, q, e, hc, _⟩ := word_cons h1.1 (by intro e; rw [e] at h1; simp at h1)
   have := letter_beg c hc
   exact ⟨c, q, by simp [e], this.1, this.2.1, this.2.2.1⟩
  ·exact ⟨40, (spaced kids).drop 1 ++ [41], by simp, by decide, by decide, by decide⟩
theorem tw_self : ∀ {s : Str}, s.all letterB = true → s.takeWhile letterB = s
 | [], _ => rfl
 | c :: r, h => by
  simp only [List.all_cons, Bool.and_eq_true] at h
  rw [List.takeWhile_cons, h.1]
  simp [tw_self h.2]
theorem tw_all {s x : Str} (h : s.all letterB = true) (hx : Brk x) : (s ++ x).takeWhile letterB = s ∧ (s ++ x).dropWhile letterB = x := by
 obtain ⟨e1, e2⟩ := tw_ext (r := s) hx
 have e3 : s.takeWhile letterB = s := tw_self h
 have e4 := List.takeWhile_append_dropWhile (p := letterB) (l := s)
 rw [e3] at e4
 have e5 : s.dropWhile letterB = [] := by
  have := congrArg List.length e4
  simp at this
  exact this
 rw [e1, e2, e3, e5]; simp
theorem named_atom {nm : Str} (h : namedB nm = true) : atomR nm = .inr (.mk 3 0 nm 0 0 []) := by
 simp only [namedB, Bool.and_eq_true, decide_eq_true_eq, Bool.not_eq_true'] at h
 unfold atomR
 rw [h.2.2, cond_false, show decide ((20 : Int) < nm.length) = false by simp; omega, cond_false]
theorem num_atom {n : Int} (h0 : -1000000000000000 ≤ n) (h1 : n ≤ 1000000000000000) : atomR (Lib.itoa n) = .inr (.mk 1 n [] 0 0 []) := by
 obtain ⟨k1, k2, k3, k4, k5⟩ := itoa_ok h0 h1
 unfold atomR
 rw [k3, cond_true, show decide ((17 : Int) < (Lib.itoa n).length) = false by simp; omega, cond_false, k5, show (decide ((1000000000000000 : Int) < n) || decide (n < -1000000000000000)) = false by simp; omega, cond_false]
theorem pD_word {f : Nat} {deep : Int} {n : Nat} {w x : Str} {d : Datum} (hd : (decide (2000 < n + 1) || decide (40 < deep)) = false) (hw : w.all letterB = true) (h0 : w ≠ []) (hx : Brk x) (ha : atomR w = .inr d) : pD (f + 1) deep (w ++ x) n = .inr (d, x, n + 1) := by
 obtain ⟨c, q, rfl, hc, hq⟩ := word_cons hw h0
 obtain ⟨_, _, _, k1, k2, k3⟩ := letter_beg c hc
 obtain ⟨t1, t2⟩ := tw_all hq hx
 simp only [pD, hd, List.cons_append, k1, k2, k3, hc, cond_false, cond_true, pA, t1, t2, ha]
theorem dk5 : (decide ((1 : Int) = 4) = false) ∧ (decide ((2 : Int) = 4) = false) ∧ (decide ((3 : Int) = 4) = false) ∧ (decide ((1 : Int) = 2) = false) ∧ (decide ((1 : Int) = 3) = false) ∧ (decide ((2 : Int) = 3) = false) ∧ (decide ((0 : Int) = 1) = false) ∧ (decide ((40 : UInt8) = 40) = true) ∧ (decide ((35 : UInt8) = 40) = false) ∧ (decide ((35 : UInt8) = 39) = false) ∧ (decide ((35 : UInt8) = 35) = true) := by decide
mutual
theorem print_read : ∀ (d : Datum) (F : Nat) (deep : Int) (n : Nat) (x : Str), (shapeD d deep n).1 = 0 → Brk x → 2 * (textD d).length ≤ F → pD F deep (textD d ++ x) n = .inr (normD d, x, n + cntD d)
 | .mk k m nm s l kids, F, deep, n, x, h, hx, hF => by
  have hok := (shape_okD _ _ _ h).1
  obtain ⟨c0, q0, e0, hb0⟩ := text_beg _ hok
  obtain ⟨F, rfl⟩ : ∃ G, F = G + 1 := ⟨F - 1, by rw [e0] at hF; simp at hF; omega⟩
  have hd : (decide (2000 < n + 1) || decide (40 < deep)) = false := by
   unfold shapeD at h
   cases h1 : (decide ((2000 : Int) < n + 1) || decide (40 < deep)) with
   | true => rw [h1] at h; simp at h
   | false => simp only [Bool.or_eq_false_iff, decide_eq_false_iff_not] at h1 ⊢; omega
  simp only [okD] at hok
  simp only [textD, normD, cntD] at hF ⊢
  rcases hok with ⟨rfl, h1, h2⟩ | ⟨rfl, h1⟩ | ⟨rfl, h1, _⟩ | ⟨rfl, h1⟩
  ·obtain ⟨k1, k2, _⟩ := itoa_ok h1 h2
   simp only [dk4, dk5, decide_true, cond_true, cond_false, Bool.true_or, Nat.add_zero]
   exact pD_word hd k1 k2 hx (num_atom h1 h2)
  ·simp only [dk4, dk5, decide_true, cond_true, cond_false, Bool.or_true, Nat.add_zero]
   have hbr : ∀ t : UInt8, (decide (t = 116) || decide (t = 102)) = true → pB (n + 1) (t :: x) = .inr (.mk 2 (bif decide (t = 116) then 1 else 0) [] 0 0 [], x, n + 1) := by
    intro t ht
    simp only [pB, ht, cond_true]
    cases x with
    | nil => rfl
    | cons u w => simp only [Brk] at hx; simp only [hx, cond_false]
   rcases h1 with rfl | rfl
   ·simp only [dk5, cond_false, List.cons_append, List.nil_append, pD, hd, decide_true, cond_true]
    rw [hbr 102 (by decide)]; rfl
   ·simp only [dk4, dk5, cond_false, cond_true, decide_true, List.cons_append, List.nil_append, pD, hd]
    rw [hbr 116 (by decide)]; rfl
  ·have h1' := h1
   simp only [namedB, Bool.and_eq_true, decide_eq_true_eq] at h1'
   simp only [dk4, dk5, decide_true, cond_true, cond_false, Bool.or_self, Nat.add_zero]
   exact pD_word hd h1'.1 (by intro e; rw [e] at h1'; simp at h1') hx (named_atom h1)
  ·simp only [dk4, decide_true, cond_true, cond_false, Bool.or_self, List.length_cons, List.length_append, List.length_drop, List.length_nil] at hF ⊢
   have hs : (shapeDs kids (deep + 1) ((n + 1 : Nat) : Int)).1 = 0 := by
    unfold shapeD at h
    have : (decide ((2000 : Int) < n + 1) || decide (40 < deep)) = false := by
     simp only [Bool.or_eq_false_iff, decide_eq_false_iff_not] at hd ⊢; omega
    rw [this] at h
    simpa using h
   have := print_reads kids F deep [] (n + 1) x hs hx (by
    cases kids with
    | nil => simp [spaced] at hF ⊢; omega
    | cons a b => simp only [spaced, List.length_cons] at hF ⊢; omega)
   obtain ⟨F, rfl⟩ : ∃ G, F = G + 1 := ⟨F - 1, by omega⟩
   simp only [List.cons_append, List.append_assoc, List.nil_append] at this ⊢
   conv => lhs; unfold pD
   rw [hd, cond_false]
   simp only [dk5, decide_true, cond_true]
   have hdrop : blk false ((spaced kids).drop 1 ++ 41 :: x) = blk false (spaced kids ++ 41 :: x) := by
    cases kids with
    | nil => rfl
    | cons a b => simp only [spaced, List.drop_succ_cons, List.drop_zero, List.cons_append]; conv => rhs; unfold blk
                  rw [show isBlank 32 = true by decide, cond_true]
   have hpl : pL (F + 1) deep [] ((spaced kids).drop 1 ++ 41 :: x) (n + 1) = pL (F + 1) deep [] (spaced kids ++ 41 :: x) (n + 1) := by
    conv => lhs; unfold pL
    conv => rhs; unfold pL
    rw [hdrop]
   rw [hpl, this, show n + (1 + cntDs kids) = n + 1 + cntDs kids by omega]
theorem print_reads : ∀ (l : List Datum) (F : Nat) (deep : Int) (acc : List Datum) (n : Nat) (x : Str), (shapeDs l (deep + 1) n).1 = 0 → Brk x → 2 * (spaced l).length + 1 ≤ F → pL F deep acc (spaced l ++ [41] ++ x) n = .inr (.mk 4 0 [] 0 0 (acc ++ normDs l), x, n + cntDs l)
 | [], F, deep, acc, n, x, h, hx, hF => by
  obtain ⟨F, rfl⟩ : ∃ G, F = G + 1 := ⟨F - 1, by omega⟩
  simp only [spaced, List.nil_append, List.cons_append, pL, normDs, cntDs, List.append_nil, Nat.add_zero]
  rw [beg_blk' (by decide) (by decide)]
  rfl
 | d :: r, F, deep, acc, n, x, h, hx, hF => by
  obtain ⟨F, rfl⟩ : ∃ G, F = G + 1 := ⟨F - 1, by omega⟩
  simp only [spaced, List.length_cons, List.length_append] at hF
  simp only [shapeDs] at h
  have h1 : (shapeD d (deep + 1) n).1 = 0 := by
   by_cases e : (shapeD d (deep + 1) n).1 = 0
   ·exact e
   ·simp [e] at h
  have k1 := shape_okD _ _ _ h1
  have h2 : (shapeDs r (deep + 1) ((n + cntD d : Nat) : Int)).1 = 0 := by
   rw [h1, k1.2] at h
   simpa using h
  obtain ⟨c, q, e, hb⟩ := text_beg d k1.1
  have hbrk : Brk (spaced r ++ [41] ++ x) := by
   cases r with
   | nil => show letterB 41 = false; decide
   | cons a b => show letterB 32 = false; decide
  have i1 := print_read d F (deep + 1) n (spaced r ++ [41] ++ x) h1 hbrk (by omega)
  have i2 := print_reads r F deep (acc ++ [normD d]) (n + cntD d) x h2 hx (by omega)
  have hblk : blk false (spaced (d :: r) ++ [41] ++ x) = textD d ++ (spaced r ++ [41] ++ x) := by
   simp only [spaced, List.cons_append, List.append_assoc]
   conv => lhs; unfold blk
   rw [show isBlank 32 = true by decide, cond_true, e]
   exact beg_blk hb
  conv => lhs; unfold pL
  rw [hblk, e]
  simp only [List.cons_append]
  rw [hb.2.2, cond_false]
  rw [e] at i1
  simp only [List.cons_append] at i1
  rw [i1]
  simp only
  rw [i2]
  simp only [normDs, cntDs, List.append_assoc, List.cons_append, List.nil_append, Nat.add_assoc]
end
end Go.Proofs.YtpllcpbhjglpaaaGreatDoor.Gx
