/- Contract of graph.Order. Plain law: who stands, who can't. Plain law: what an order is like. Contracts of graftlaw4's own functions. The law GraphBehind answers true. What a row needs: how what comes in is read. How what comes in for GraphBehind is read. Nodes that come in: each needs no more names than the bulk of what is read. Contracts of graftref4: in, Needs, Reaches. Contract of graftref4.Names. Plain law: who can't stand anywhere needs itself. -/
import Derived.Test.YtcegdbniggdckaaZG6
import Derived.WalkKit
import Derived.ProofKit
import Derived.OpenShut
import Derived.ShutString
import Derived.ChangeOld
import Derived.Below
import Derived.SizedLaws
import Derived.Carry
import Derived.JoinedCond
import Derived.Test.YtcegdbniggdckaaRows

namespace Go.Proofs.Ytcegdbniggdckaa.Gx
open Go Go.Proofs.Ytcegdbniggdckaa.Gw
set_option linter.unusedSimpArgs false
set_option linter.unusedVariables false

structure Node' where
  name : Str
  needs : List Str
def encN (n : Node') : List V := [.str n.name, encS n.needs]
def lstN (l : List Node') : V := .lst 2 none (l.map encN)
/-- What nodes need, by name; or a name that comes twice. -/
def dupL : List Node' → NM → Option Str × NM
  | [], M => (none, M)
  | n :: r, M => if (asc n.name M).isSome = true then (some n.name, M) else dupL r (ups n.name n.needs M)
def missL (M : NM) : List Str → Option Str
  | [] => none
  | n :: r => if ((ndM M n).any fun m => !(asc m M).isSome) = true then some n else missL M r
def pickL (f : Str → List Str) (l : List Str) : Int := idxF (fun n => !((f n).any fun m => decide (m ∈ l))) 0 l
noncomputable def putL (f : Str → List Str) : Nat → List Str → List Str → List Str × Str × Int
  | 0, _, out => (out, [], 0)
  | k + 1, left, out =>
    if left = [] then (out, [], 0) else
    if pickL f left < 0 then ([], cycL f left, 9) else
    putL f k (left.take (pickL f left).toNat ++ left.drop ((pickL f left).toNat + 1)) (out ++ [left.getD (pickL f left).toNat []])
noncomputable def orderL (l : List Node') : List Str × Str × Int :=
  match (dupL l []).1 with
  | some n => ([], n, 8)
  | none => match missL (dupL l []).2 (sortS ((dupL l []).2.map (·.1))) with
    | some n => ([], n, 6)
    | none => putL (ndM (dupL l []).2) (sortS ((dupL l []).2.map (·.1))).length (sortS ((dupL l []).2.map (·.1))) []
def ordV (r : List Str × Str × Int) : V := .tup [encS r.1, .str r.2.1, .int .i64 r.2.2]
structure NOk (l : List Node') : Prop where
  few : l.length ≤ 1048576
  len : ∀ n ∈ l, n.needs.length ≤ 1048576
theorem encN_mk (a : Str) (b : List Str) : encN ⟨a, b⟩ = [.str a, encS b] := rfl
theorem missL_none {M : NM} : ∀ {l : List Str}, missL M l = none → ∀ n ∈ l, ∀ m ∈ ndM M n, (asc m M).isSome = true
  | [], _, n, hn => by simp at hn
  | x :: r, h, n, hn => by
    rw [missL] at h
    split at h
    · cases h
    · rename_i hx
      rcases List.mem_cons.1 hn with rfl | hn
      · intro m hm
        simp only [List.any_eq_true, not_exists, not_and, Bool.not_eq_true'] at hx
        have := hx m hm
        cases e : asc m M with
        | none => rw [e] at this; exact absurd rfl this
        | some v => rfl
      · exact missL_none h n hn
theorem ndM_none {M : NM} {n : Str} (h : asc n M = none) : ndM M n = [] := by unfold ndM; rw [h]; rfl
set_option maxRecDepth 20000 in
set_option maxHeartbeats 16000000 in
theorem c_Order (l : List Node') (st : St) (hN : NOk l) : VCalls Try.prog TT 8 [lstN l] st fun r st' => r = .ret (ordV (orderL l)) ∧ st' = st := by
  refine vfun TT_ok (an := anL [(39, 2)]) (L := [0, 2, 3, 4, 5, 7, 9, 10, 11, 13, 14, 15, 17, 18, 19, 41, 52, 53, 54]) (rs := [.tmp 2, .tmp 3, .tmp 4]) Try.func8 rfl (by kernel_rfl) rfl Try.ntmps8 rfl rfl (Nat.le_refl _) fun hst ha hf => ?_
  generalize hr : orderL l = res
  have hfew := hN.few
  simp only [lstN, fitL, V.fit, List.length_map] at hf ⊢
  simp only [gwL, gwB, gwD, gwE, gwS, gwTT, gwZ, gwN, gwC, Nat.reduceEqDiff, ↓reduceIte, Nat.reduceAdd, Nat.reduceLT, Nat.reduceLeDiff, Nat.reduceMul, mapLook, mapPut, mapRange, mapLen, makeMapE, keyOk, keyKind, keyGood, lookR, zeroV, entV, entS, nextV, nextS, beq_self_eq_true, cond_true, cond_false, List.length_map]
  have give : ∀ (v : V) (a : List Str) (b : Str) (e : Int) (ex : St), res = (a, b, e) → wk v (encS a) → Gives (ordV res) st (.ret (.tup [v, .str b, .int .i64 e])) (st ++ ex) := fun v a b e ex h hw => by
    rw [h]
    refine gives_of (wk_tup (wkL_cons hw (wkL_refl _))) (wkSt_refl _) ?_ hst
    simp only [ordV, encS, V.lt, ltL, and_true, true_and]
    exact ⟨fun e h => (by cases h), ltRows_map fun x _ => ⟨trivial, trivial⟩⟩
  refine vfor (σ := Nat × NM × St) [0, 2, 3, 4, 5, 17, 18, 19] (fun x => [(0, true, .lst 2 none (l.map encN)), (2, true, .nils), (3, true, .str []), (4, true, .int .i64 0), (5, true, .ptr (st.length + 1) 0), (17, true, .lst 2 none (l.map encN)), (18, true, .int .i64 l.length), (19, true, .int .i64 x.1)]) (fun x => st ++ (mapE V.str encS x.2.1 :: Ent.box [.map st.length] :: x.2.2)) (fun x => l.length - x.1) (fun x => x.1 ≤ l.length ∧ dupL l [] = dupL (l.drop x.1) x.2.1 ∧ x.2.1.length ≤ x.1 ∧ ∀ p ∈ x.2.1, p.2.length ≤ 1048576) (0, [], []) rfl TT_ok ⟨Nat.zero_le _, rfl, Nat.le_refl _, by simp⟩ rfl rfl ?_
  rintro ⟨i, M, Y⟩ ⟨hi, hx, hMl, hMn⟩
  simp only at hi hx hMl hMn ⊢
  have hlk := fun (i : TI) (ok : Bool) (st : St) (n : Str) (M : NM) => look_mapE (ev := encS) (keyP_str TT) i ok n st M
  have hpt := fun (o : Nat) (n : Str) (a : List Str) (st : St) (M : NM) => put_mapE (ev := encS) (keyP_str TT) o n a st M
  rcases at_or_end l i hi with ⟨hie, hd⟩ | ⟨u, hlt, hget, hdr⟩
  · have hie2 : i = l.length := hie
    subst hie2
    rw [hd, dupL] at hx
    obtain ⟨S1, hS1⟩ : ∃ S1 : St, S1 = st ++ (mapE V.str encS M :: Ent.box [.map st.length] :: Y) := ⟨_, rfl⟩
    have hm0 : ∀ X : St, (S1 ++ X)[st.length]? = some (mapE V.str encS M) := fun X => by rw [hS1, List.append_assoc, List.getElem?_append_right (by omega)]; simp
    have hm1 : ∀ X : St, (S1 ++ X)[st.length + 1]? = some (.box [.map st.length]) := fun X => by rw [hS1, List.append_assoc, List.getElem?_append_right (by omega)]; simp
    rw [← hS1]
    have hm00 := hm0 []
    have hm10 := hm1 []
    rw [List.append_nil] at hm00 hm10
    have hrm := fun (st1 : St) => range_mapE (ek := V.str) (ev := encS) st.length st1 M
    simp only [gwL, gwB, gwD, gwE, gwS, gwTT, gwZ, gwN, gwC, Nat.reduceEqDiff, ↓reduceIte, Nat.reduceAdd, Nat.reduceLT, Nat.reduceLeDiff, Nat.reduceMul, mapLook, mapPut, mapRange, mapLen, makeMapE, keyOk, keyKind, keyGood, lookR, zeroV, entV, entS, nextV, nextS, beq_self_eq_true, cond_true, cond_false, lt_no, hm00, hm10, hm1, hm0, hrm]
    clear hm00 hm10
    refine vfor (σ := List Nat × List Str × St) [0, 2, 3, 4, 5, 17, 18, 19, 10, 41] (fun x => [(0, true, .lst 2 none (l.map encN)), (2, true, .nils), (3, true, .str []), (4, true, .int .i64 0), (5, true, .ptr (st.length + 1) 0), (17, true, .lst 2 none (l.map encN)), (18, true, .int .i64 l.length), (19, true, .int .i64 l.length), (10, true, .ptr (S1.length + 1) 0), (41, true, .ptr (S1.length + 2) 0)]) (fun x => S1 ++ (Ent.arr 9 1 (rowsS x.2.1) :: Ent.box [.arr S1.length x.2.1.length] :: Ent.iter st.length M.length x.1 :: x.2.2)) (fun x => M.length - x.1.length) (fun x => x.1.Nodup ∧ (∀ i ∈ x.1, i < M.length) ∧ x.2.1 = x.1.map fun i => (M.getD i ([], [])).1) ([], [], []) rfl TT_ok ⟨List.nodup_nil, by simp, rfl⟩ rfl rfl ?_
    rintro ⟨seen, nms, Z⟩ ⟨hs1, hs2, hs3⟩
    simp only at hs1 hs2 hs3 ⊢
    have hnx := fun (o : Nat) (st1 : St) => next_mapE (ek := V.str) (ev := encS) o st.length seen st1 M
    simp only [gwL, gwB, gwD, gwE, gwS, gwTT, gwZ, gwN, gwC, Nat.reduceEqDiff, ↓reduceIte, Nat.reduceAdd, Nat.reduceLT, Nat.reduceLeDiff, Nat.reduceMul, mapLook, mapPut, mapRange, mapLen, makeMapE, keyOk, keyKind, keyGood, lookR, zeroV, entV, entS, nextV, nextS, beq_self_eq_true, cond_true, cond_false, hm0, hnx]
    refine nextL_all (fun hend => ?_) (fun e a hia hil his => ?_)
    · have hperm : nms.Perm (M.map (·.1)) := by
        rw [hs3, ← map_getD_range (fun p : Str × List Str => p.1) ([], []) M]
        exact (seen_perm hs1 hs2 hend).map _
      have hnl : nms.length = M.length := by rw [hperm.length_eq, List.length_map]
      simp only [gwL, gwB, gwD, gwE, gwS, gwTT, gwZ, gwN, gwC, Nat.reduceEqDiff, ↓reduceIte, Nat.reduceAdd, Nat.reduceLT, Nat.reduceLeDiff, Nat.reduceMul, mapLook, mapPut, mapRange, mapLen, makeMapE, keyOk, keyKind, keyGood, lookR, zeroV, entV, entS, nextV, nextS, beq_self_eq_true, cond_true, cond_false]
      refine (c_SortS nms S1.length _ (by simp) (by omega)).use (wkL_refl _) fun _ => ?_
      obtain ⟨left, hleft⟩ : ∃ left, left = nms.mergeSort fun x y => decide (x ≤ y) := ⟨_, rfl⟩
      have hleft2 : left = sortS (M.map (·.1)) := by rw [hleft]; exact sortS_eq hperm
      have hll : nms.length = left.length := by rw [hleft]; simp
      rw [← hleft, hll]
      clear hs1 hs2 hs3 hnx hend
      simp only [gwL, gwB, gwD, gwE, gwS, gwTT, gwZ, gwN, gwC, Nat.reduceEqDiff, ↓reduceIte, Nat.reduceAdd, Nat.reduceLT, Nat.reduceLeDiff, Nat.reduceMul, mapLook, mapPut, mapRange, mapLen, makeMapE, keyOk, keyKind, keyGood, lookR, zeroV, entV, entS, nextV, nextS, beq_self_eq_true, cond_true, cond_false, rowsS_len]
      have hlM : left.length = M.length := by rw [hleft2, (sortS_perm _).length_eq, List.length_map]
      have hkeys : ∀ n ∈ left, (asc n M).isSome = true := fun n hn => asc_keys.2 ((sortS_perm _).mem_iff.1 (by rw [← hleft2]; exact hn))
      clear hleft hll hnl hperm hrm
      obtain ⟨S2, hS2⟩ : ∃ S2 : St, S2 = S1 ++ (Ent.arr 9 1 (rowsS left) :: Ent.box [.arr S1.length left.length] :: Ent.iter st.length M.length seen :: Z) := ⟨_, rfl⟩
      rw [← hS2]
      have hA : S2[S1.length]? = some (.arr 9 1 (rowsS left)) := by rw [hS2]; simp
      have hB : S2[S1.length + 1]? = some (.box [.arr S1.length left.length]) := by rw [hS2]; simp
      have hC : S2[st.length]? = some (mapE V.str encS M) := by rw [hS2]; exact hm0 _
      have hD : S2[st.length + 1]? = some (.box [.map st.length]) := by rw [hS2]; exact hm1 _
      refine vfor (σ := Nat) [0, 2, 3, 4, 5, 17, 18, 19, 10, 41, 52, 53, 54] (fun i => [(0, true, .lst 2 none (l.map encN)), (2, true, .nils), (3, true, .str []), (4, true, .int .i64 0), (5, true, .ptr (st.length + 1) 0), (17, true, .lst 2 none (l.map encN)), (18, true, .int .i64 l.length), (19, true, .int .i64 l.length), (10, true, .ptr (S1.length + 1) 0), (41, true, .ptr (S1.length + 2) 0), (52, true, .arr S1.length left.length), (53, true, .int .i64 left.length), (54, true, .int .i64 i)]) (fun i => S2) (fun i => left.length - i) (fun i => i ≤ left.length ∧ missL M left = missL M (left.drop i)) 0 rfl TT_ok ⟨Nat.zero_le _, rfl⟩ rfl rfl ?_
      rintro i ⟨hi, hmi⟩
      rcases at_or_end left i hi with ⟨hie, hd⟩ | ⟨n, hlt, hget, hdr⟩
      · have hie2 : i = left.length := hie
        subst hie2
        rw [hd, missL] at hmi
        simp only [gwL, gwB, gwD, gwE, gwS, gwTT, gwZ, gwN, gwC, Nat.reduceEqDiff, ↓reduceIte, Nat.reduceAdd, Nat.reduceLT, Nat.reduceLeDiff, Nat.reduceMul, mapLook, mapPut, mapRange, mapLen, makeMapE, keyOk, keyKind, keyGood, lookR, zeroV, entV, entS, nextV, nextS, beq_self_eq_true, cond_true, cond_false, lt_no]
        have hMok : MOk M := ⟨by omega, hMn⟩
        have hall : ∀ n m, m ∈ ndM M n → (asc m M).isSome = true := fun n m hm => by
          cases hno : asc n M with
          | none => rw [ndM_none hno] at hm; simp at hm
          | some v =>
            have hk : n ∈ left := by rw [hleft2]; exact (sortS_perm _).mem_iff.2 (asc_keys.1 (by rw [hno]; rfl))
            exact missL_none hmi n hk m hm
        have hres : res = putL (ndM M) left.length left [] := by rw [← hr, orderL, hx]; simp only [← hleft2, hmi]
        refine vmore [9] [2, 3, 4, 5, 10, 14] [(2, true, .nils), (3, true, .str []), (4, true, .int .i64 0), (5, true, .ptr (st.length + 1) 0), (10, true, .ptr (S1.length + 1) 0), (14, true, .lst 1 (some S2.length) [])] (S2 ++ [Ent.tip 9 0]) rfl ?_ ?_ ?_
        · simp only [gwL, gwB, gwD, gwE, gwS, gwTT, gwZ, gwN, gwC, Nat.reduceEqDiff, ↓reduceIte, Nat.reduceAdd, Nat.reduceLT, Nat.reduceLeDiff, Nat.reduceMul, Env.keep]
          exact wkE_cons (wk_refl _) (wkE_cons (wk_refl _) (wkE_cons (wk_refl _) (wkE_cons (wk_refl _) (wkE_cons (wk_refl _) (wkE_cons (wk_tip _ (by simp [Tips])) wkE_nil)))))
        · exact ⟨_, wkSt_refl _, rfl⟩
        have hS2l : S1.length + 2 < S2.length := by rw [hS2]; simp
        refine vfor (σ := List Str × List Str × Nat × St) [2, 3, 4, 5, 10, 14] (fun x => [(2, true, .nils), (3, true, .str []), (4, true, .int .i64 0), (5, true, .ptr (st.length + 1) 0), (10, true, .ptr (S1.length + 1) 0), (14, true, .lst 1 (some S2.length) (rowsS x.2.1))]) (fun x => x.2.2.2) (fun x => x.1.length) (fun x => (∃ X, x.2.2.2 = S1 ++ X) ∧ x.2.2.2[S1.length + 1]? = some (.box [.arr x.2.2.1 x.1.length]) ∧ x.2.2.2[x.2.2.1]? = some (.arr 9 1 (rowsS x.1)) ∧ x.2.2.2[S2.length]? = some (.tip 9 x.2.1.length) ∧ S1.length ≤ x.2.2.1 ∧ x.1.length + x.2.1.length = M.length ∧ (∀ n ∈ x.1, (asc n M).isSome = true) ∧ res = putL (ndM M) x.1.length x.1 x.2.1) (left, [], S1.length, S2 ++ [Ent.tip 9 0]) rfl TT_ok ⟨⟨_, by rw [hS2, List.append_assoc]⟩, by show (S2 ++ [Ent.tip 9 0])[S1.length + 1]? = _; rw [st_old (by omega), hB], by show (S2 ++ [Ent.tip 9 0])[S1.length]? = _; rw [st_old (by omega), hA], by simp, Nat.le_refl _, by simp [hlM], hkeys, hres⟩ rfl rfl ?_
        rintro ⟨lf, out, kk, S⟩ ⟨⟨X, hX⟩, hSb, hSk, hSt, hkk, hsum, hin, hput⟩
        simp only at hX hSb hSk hSt hkk hsum hin hput ⊢
        have hSC : S[st.length]? = some (mapE V.str encS M) := by rw [hX]; exact hm0 _
        have hSD : S[st.length + 1]? = some (.box [.map st.length]) := by rw [hX]; exact hm1 _
        have hpre : ∃ Z, S = st ++ Z := ⟨_, by rw [hX, hS1, List.append_assoc]⟩
        by_cases hz : lf = []
        · subst hz
          have d0 : decide ((0 : Int) < ((0 : Nat) : Int)) = false := rfl
          simp only [gwL, gwB, gwD, gwE, gwS, gwTT, gwZ, gwN, gwC, Nat.reduceEqDiff, ↓reduceIte, Nat.reduceAdd, Nat.reduceLT, Nat.reduceLeDiff, Nat.reduceMul, mapLook, mapPut, mapRange, mapLen, makeMapE, keyOk, keyKind, keyGood, lookR, zeroV, entV, entS, nextV, nextS, beq_self_eq_true, cond_true, cond_false, hSb, d0]
          obtain ⟨Z', hZ'⟩ := hpre
          rw [hZ']
          exact give _ out _ _ _ hput (wk_tok ..)
        · have hpos : 0 < lf.length := List.length_pos_iff.2 hz
          have d0 : decide ((0 : Int) < (lf.length : Int)) = true := by simp; omega
          simp only [gwL, gwB, gwD, gwE, gwS, gwTT, gwZ, gwN, gwC, Nat.reduceEqDiff, ↓reduceIte, Nat.reduceAdd, Nat.reduceLT, Nat.reduceLeDiff, Nat.reduceMul, mapLook, mapPut, mapRange, mapLen, makeMapE, keyOk, keyKind, keyGood, lookR, zeroV, entV, entS, nextV, nextS, beq_self_eq_true, cond_true, cond_false, hSb, d0]
          refine (c_IndexFuncA S kk lf hSk (by omega) 17 [.ptr (st.length + 1) 0, .ptr (S1.length + 1) 0] (fun n => !((ndM M n).any fun m => decide (m ∈ lf))) fun n _ => c_Order2 S (st.length + 1) st.length M (S1.length + 1) kk lf n hSD hSC hSb hSk (by omega)).use (wkL_refl _) fun _ => ?_
          rw [show lf.length = (lf.length - 1) + 1 by omega, putL, if_neg hz] at hput
          rcases idxF_at (fun n => !((ndM M n).any fun m => decide (m ∈ lf))) lf 0 with ⟨hneg, -⟩ | ⟨j, a, hj1, hj2, hj3, -, -⟩
          · have hpk : pickL (ndM M) lf < 0 := hneg
            rw [if_pos hpk] at hput
            have d1 : decide (idxF (fun n => !((ndM M n).any fun m => decide (m ∈ lf))) 0 lf < 0) = true := decide_eq_true hneg
            simp only [gwL, gwB, gwD, gwE, gwS, gwTT, gwZ, gwN, gwC, Nat.reduceEqDiff, ↓reduceIte, Nat.reduceAdd, Nat.reduceLT, Nat.reduceLeDiff, Nat.reduceMul, mapLook, mapPut, mapRange, mapLen, makeMapE, keyOk, keyKind, keyGood, lookR, zeroV, entV, entS, nextV, nextS, beq_self_eq_true, cond_true, cond_false, hSb, hSD, d1]
            refine (c_cycle S kk st.length lf M hSk hSC (by omega) hMok hin hall).use (wkL_refl _) fun _ => ?_
            simp only [gwL, gwB, gwD, gwE, gwS, gwTT, gwZ, gwN, gwC, Nat.reduceEqDiff, ↓reduceIte, Nat.reduceAdd, Nat.reduceLT, Nat.reduceLeDiff, Nat.reduceMul]
            obtain ⟨Z', hZ'⟩ := hpre
            rw [hZ']
            exact give _ [] _ _ _ hput (wk_nils 1)
          · rw [Nat.zero_add] at hj1
            have hpk : pickL (ndM M) lf = (j : Int) := hj1
            rw [hpk, if_neg (by omega), Int.toNat_natCast] at hput
            have d1 : decide ((j : Int) < 0) = false := by simp
            have w : IntKind.i64.wrap ((j : Int) + 1) = ((j + 1 : Nat) : Int) := next_i64 hj2 (by omega)
            rw [hj1]
            have hne : kk ≠ S2.length := fun e => by rw [e, hSt] at hSk; cases hSk
            have hn1 : kk ≠ S1.length + 1 := fun e => by rw [e, hSb] at hSk; cases hSk
            have hl1 := (List.getElem?_eq_some_iff.1 hSb).1
            have hl2 := (List.getElem?_eq_some_iff.1 hSt).1
            have hl3 := (List.getElem?_eq_some_iff.1 hSk).1
            have hq1 : ∀ e : Ent, (S.set S2.length e)[S1.length + 1]? = some (.box [.arr kk lf.length]) := fun e => by rw [List.getElem?_set_ne (by omega), hSb]
            have hq2 : ∀ e : Ent, (S.set S2.length e)[kk]? = some (.arr 9 1 (rowsS lf)) := fun e => by rw [List.getElem?_set_ne (by omega), hSk]
            simp only [gwL, gwB, gwD, gwE, gwS, gwTT, gwZ, gwN, gwC, Nat.reduceEqDiff, ↓reduceIte, Nat.reduceAdd, Nat.reduceLT, Nat.reduceLeDiff, Nat.reduceMul, mapLook, mapPut, mapRange, mapLen, makeMapE, keyOk, keyKind, keyGood, lookR, zeroV, entV, entS, nextV, nextS, beq_self_eq_true, cond_true, cond_false, hSb, hSk, d1, rowsS_getD hj3, rowsS_len, Int.toNat_natCast, hSt, w, hq1]
            refine ⟨by omega, hj2, by omega, ?_⟩
            refine (c_DeleteS lf kk j _ (hq2 _) hj2).use (wkL_refl _) fun _ => ?_
            have hrs : rowsS out ++ [[V.str a]] = rowsS (out ++ [a]) := by simp [rowsS]
            have hln : (out ++ [a]).length = out.length + 1 := by simp
            have hlf : (lf.take j ++ lf.drop (j + 1)).length = lf.length - 1 := by simp; omega
            obtain ⟨S4, hS4⟩ : ∃ S4 : St, S4 = ((S.set S2.length (Ent.tip 9 (out.length + 1))).set kk .gone ++ [Ent.arr 9 1 (rowsS (lf.take j ++ lf.drop (j + 1)))]) := ⟨_, rfl⟩
            rw [← hS4]
            have hS4l : S4.length = S.length + 1 := by rw [hS4]; simp
            have hS4b : S4[S1.length + 1]? = some (.box [.arr kk lf.length]) := by rw [hS4, st_old (by simp; omega), List.getElem?_set_ne (by omega), hq1]
            have hS4t : S4[S2.length]? = some (.tip 9 (out.length + 1)) := by rw [hS4, st_old (by simp; omega), List.getElem?_set_ne (by omega), List.getElem?_set_self hl2]
            have hS4k : S4[S.length]? = some (.arr 9 1 (rowsS (lf.take j ++ lf.drop (j + 1)))) := by rw [hS4, List.getElem?_append_right (by simp)]; simp
            have hS4p : ∃ X, S4 = S1 ++ X := ⟨_, by rw [hS4, hX, List.set_append_right _ _ (by omega), List.set_append_right _ _ (by omega), List.append_assoc]⟩
            clear hS4
            simp only [gwL, gwB, gwD, gwE, gwS, gwTT, gwZ, gwN, gwC, Nat.reduceEqDiff, ↓reduceIte, Nat.reduceAdd, Nat.reduceLT, Nat.reduceLeDiff, Nat.reduceMul, mapLook, mapPut, mapRange, mapLen, makeMapE, keyOk, keyKind, keyGood, lookR, zeroV, entV, entS, nextV, nextS, beq_self_eq_true, cond_true, cond_false, hS4b, List.length_set, Env.keep]
            obtain ⟨X4, hX4⟩ := hS4p
            refine ⟨(lf.take j ++ lf.drop (j + 1), out ++ [a], S.length, _), by simp only [hrs], rfl, by simp only [hlf]; omega, ⟨_, by simp only; rw [hX4, List.set_append_right _ _ (by omega)]⟩, ?_, ?_, ?_, by simp only; omega, by simp only [hlf, hln]; omega, fun n hn => ?_, ?_⟩
            · simp only [hlf]; rw [List.getElem?_set_self (by omega)]
            · simp only; rw [List.getElem?_set_ne (by omega), hS4k]
            · simp only [hln]; rw [List.getElem?_set_ne (by omega), hS4t]
            · rcases List.mem_append.1 hn with hn | hn
              · exact hin n (List.mem_of_mem_take hn)
              · exact hin n (List.mem_of_mem_drop hn)
            · simp only [hlf]
              rw [hput, List.getD_eq_getElem?_getD, hj3]; rfl
      · have w : IntKind.i64.wrap ((i : Int) + 1) = ((i + 1 : Nat) : Int) := next_i64 hlt (by omega)
        have hnn := asc_need (hkeys n (List.mem_of_getElem? hget))
        rw [hdr, missL] at hmi
        simp only [gwL, gwB, gwD, gwE, gwS, gwTT, gwZ, gwN, gwC, Nat.reduceEqDiff, ↓reduceIte, Nat.reduceAdd, Nat.reduceLT, Nat.reduceLeDiff, Nat.reduceMul, mapLook, mapPut, mapRange, mapLen, makeMapE, keyOk, keyKind, keyGood, lookR, zeroV, entV, entS, nextV, nextS, beq_self_eq_true, cond_true, cond_false, lt_yes hlt, hA, hB, hC, hD, rowsS_getD hget, rowsS_len, Int.toNat_natCast, hlk, hnn, Int.ofNat_lt.mpr hlt]
        refine ⟨hlt, ?_⟩
        refine (c_ContainsFunc S2 (ndM M n) 15 [.ptr (st.length + 1) 0] (fun m => !(asc m M).isSome) fun m _ => c_Order1 S2 (st.length + 1) st.length M m hD hC).use (wkL_refl _) fun _ => ?_
        simp only [gwL, gwB, gwD, gwE, gwS, gwTT, gwZ, gwN, gwC, Nat.reduceEqDiff, ↓reduceIte, Nat.reduceAdd, Nat.reduceLT, Nat.reduceLeDiff, Nat.reduceMul]
        refine iK_split (fun h1 => ?_) (fun h1 => ?_)
        · rw [if_pos h1] at hmi
          simp only [gwL, gwB, gwD, gwE, gwS, gwTT, gwZ, gwN, gwC, Nat.reduceEqDiff, ↓reduceIte, Nat.reduceAdd, Nat.reduceLT, Nat.reduceLeDiff, Nat.reduceMul]
          rw [hS2, hS1, List.append_assoc]
          exact give _ [] _ _ _ (by rw [← hr, orderL, hx]; simp only [← hleft2, hmi]) (wk_nils 1)
        · rw [if_neg (by rw [h1]; simp)] at hmi
          simp only [gwL, gwB, gwD, gwE, gwS, gwTT, gwZ, gwN, gwC, Nat.reduceEqDiff, ↓reduceIte, Nat.reduceAdd, Nat.reduceLT, Nat.reduceLeDiff, Nat.reduceMul, w, Env.keep]
          exact ⟨i + 1, rfl, by omega, by omega, hmi⟩
    · have hent := fun (st1 : St) => ent_mapE (ek := V.str) (ev := encS) (seen := seen) (st := st1) hia
      simp only [gwL, gwB, gwD, gwE, gwS, gwTT, gwZ, gwN, gwC, Nat.reduceEqDiff, ↓reduceIte, Nat.reduceAdd, Nat.reduceLT, Nat.reduceLeDiff, Nat.reduceMul, mapLook, mapPut, mapRange, mapLen, makeMapE, keyOk, keyKind, keyGood, lookR, zeroV, entV, entS, nextV, nextS, beq_self_eq_true, cond_true, cond_false, hm0, hent, rowsS_len, Env.keep]
      have hnl : nms.length = seen.length := by rw [hs3, List.length_map]
      have hnd : (seen ++ [e]).Nodup := List.nodup_append.2 ⟨hs1, by simp, fun a ha b hb => by rw [List.mem_singleton] at hb; subst hb; intro e'; subst e'; exact his ha⟩
      have hlt2 : ∀ i ∈ seen ++ [e], i < M.length := fun i hi => by
        rcases List.mem_append.1 hi with hi | hi
        · exact hs2 i hi
        · rw [List.mem_singleton] at hi; rw [hi]; exact hil
      have hsl := seen_len hnd hlt2
      rw [List.length_append] at hsl
      simp only [List.length_cons, List.length_nil] at hsl
      have hrs : rowsS nms ++ [[V.str a.1]] = rowsS (nms ++ [a.1]) := by simp [rowsS]
      have hln : (nms ++ [a.1]).length = nms.length + 1 := by simp
      exact ⟨by omega, (seen ++ [e], nms ++ [a.1], Z), by simp only [hrs, hln], by simp only [List.length_append, List.length_cons, List.length_nil]; omega, hnd, hlt2, by simp only [List.map_append, hs3, List.map_cons, List.map_nil, List.getD_eq_getElem?_getD, hia, Option.getD_some]⟩
  · have hg : (l.map encN).getD i [] = encN u := getD_map hget
    have w : IntKind.i64.wrap ((i : Int) + 1) = ((i + 1 : Nat) : Int) := next_i64 hlt (by omega)
    obtain ⟨un, us⟩ := u
    rw [hdr, dupL] at hx
    simp only at hx
    simp only [gwL, gwB, gwD, gwE, gwS, gwTT, gwZ, gwN, gwC, Nat.reduceEqDiff, ↓reduceIte, Nat.reduceAdd, Nat.reduceLT, Nat.reduceLeDiff, Nat.reduceMul, mapLook, mapPut, mapRange, mapLen, makeMapE, keyOk, keyKind, keyGood, lookR, zeroV, entV, entS, nextV, nextS, beq_self_eq_true, cond_true, cond_false, lt_yes hlt, hg, encN_mk, List.length_map, Int.ofNat_lt.mpr hlt, Int.toNat_natCast, hlk]
    refine iK_split (fun h1 => ?_) (fun h1 => ?_)
    · rw [if_pos h1] at hx
      simp only [gwL, gwB, gwD, gwE, gwS, gwTT, gwZ, gwN, gwC, Nat.reduceEqDiff, ↓reduceIte, Nat.reduceAdd, Nat.reduceLT, Nat.reduceLeDiff, Nat.reduceMul]
      refine vdraw TT_ok TT_mixed [0, 1, 0, 0, 0] (by kernel_rfl) ?_
      simp only [gwL, gwB, gwD, gwE, gwS, gwTT, gwZ, gwN, gwC, Nat.reduceEqDiff, ↓reduceIte, Nat.reduceAdd, Nat.reduceLT, Nat.reduceLeDiff, Nat.reduceMul]
      exact give _ [] _ _ _ (by rw [← hr, orderL, hx]) (wk_nils 1)
    · rw [if_neg (by rw [h1]; simp)] at hx
      have hno : asc un M = none := by cases h : asc un M with
                                       | none => rfl
                                       | some v => rw [h] at h1; cases h1
      have hme : (List.map (fun s => [V.str s]) us) = rowsS us := rfl
      simp only [gwL, gwB, gwD, gwE, gwS, gwTT, gwZ, gwN, gwC, Nat.reduceEqDiff, ↓reduceIte, Nat.reduceAdd, Nat.reduceLT, Nat.reduceLeDiff, Nat.reduceMul, mapLook, mapPut, mapRange, mapLen, makeMapE, keyOk, keyKind, keyGood, lookR, zeroV, entV, entS, nextV, nextS, beq_self_eq_true, cond_true, cond_false, hpt, w, Env.keep]
      exact ⟨(i + 1, ups un us M, _), rfl, rfl, by simp only; omega, by simp only; omega, hx, by simp only [ups_new hno, List.length_append, List.length_cons, List.length_nil]; omega, fun p hp => by
        simp only [ups_new hno] at hp
        rcases List.mem_append.1 hp with hp | hp
        · exact hMn p hp
        · rw [List.mem_singleton] at hp; rw [hp]; exact hN.len _ (List.mem_of_getElem? hget)⟩
end Go.Proofs.Ytcegdbniggdckaa.Gx

namespace Go.Proofs.Ytcegdbniggdckaa.Gx
open Go Go.Proofs.Ytcegdbniggdckaa.Gw
set_option linter.unusedSimpArgs false
set_option linter.unusedVariables false

theorem Rch.trans {f : Str → List Str} {a b c : Str} (h : Rch f a b) (k : Rch f b c) : Rch f a c := by
  induction k with
  | one hc => exact .step h hc
  | step _ hc ih => exact .step ih hc
/-- Where each needs one of them, one needs itself. -/
theorem pigeon {f : Str → List Str} {R : List Str} (hne : R ≠ []) (h : ∀ n ∈ R, ∃ m ∈ f n, m ∈ R) : ∃ n ∈ R, Rch f n n := by
  refine Classical.byContradiction fun hno => ?_
  have hno' : ∀ n ∈ R, ¬ Rch f n n := fun n hn hr => hno ⟨n, hn, hr⟩
  obtain ⟨x0, hx0⟩ := List.exists_mem_of_ne_nil R hne
  have hg : ∃ g : Str → Str, ∀ n ∈ R, g n ∈ f n ∧ g n ∈ R :=
    ⟨fun n => if h' : n ∈ R then Classical.choose (h n h') else n, fun n hn => by
      simp only [hn, dif_pos]; exact Classical.choose_spec (h n hn)⟩
  obtain ⟨g, hg⟩ := hg
  have hseq : ∃ s : Nat → Str, s 0 = x0 ∧ ∀ k, s (k + 1) = g (s k) := ⟨fun k => Nat.rec x0 (fun _ y => g y) k, rfl, fun _ => rfl⟩
  obtain ⟨s, s0, s1⟩ := hseq
  have hin : ∀ k, s k ∈ R := fun k => by
    induction k with
    | zero => rw [s0]; exact hx0
    | succ k ih => rw [s1]; exact (hg _ ih).2
  have hr : ∀ i d, Rch f (s i) (s (i + d + 1)) := fun i d => by
    induction d with
    | zero => rw [Nat.add_zero, s1]; exact .one (hg _ (hin i)).1
    | succ d ih => rw [show i + (d + 1) + 1 = (i + d + 1) + 1 by omega, s1]; exact .step ih (hg _ (hin _)).1
  have hnd : ((List.range (R.length + 1)).map s).Nodup := by
    unfold List.Nodup
    rw [List.pairwise_map]
    refine List.pairwise_lt_range.imp fun {i j} hij e => ?_
    have := hr i (j - i - 1)
    rw [show i + (j - i - 1) + 1 = j by omega, ← e] at this
    exact hno' _ (hin i) this
  have := hnd.length_le_of_subset (l₂ := R) fun x hx => by
    obtain ⟨k, _, rfl⟩ := List.mem_map.1 hx
    exact hin k
  simp only [List.length_map, List.length_range] at this
  omega
theorem cycL_none {f : Str → List Str} : ∀ {l : List Str}, (∀ n ∈ l, ¬ Rch f n n) → cycL f l = []
  | [], _ => rfl
  | x :: r, h => by rw [cycL, if_neg (h x (by simp)), cycL_none fun n hn => h n (by simp [hn])]
theorem cycL_erase {f : Str → List Str} : ∀ {l : List Str} {j : Nat} {a : Str}, l[j]? = some a → ¬ Rch f a a → cycL f (l.take j ++ l.drop (j + 1)) = cycL f l
  | [], j, a, h, _ => by simp at h
  | x :: r, 0, a, h, ha => by
    simp at h; subst h
    rw [cycL, if_neg ha]; simp
  | x :: r, j + 1, a, h, ha => by
    have := cycL_erase (l := r) (j := j) (a := a) (by simpa using h) ha
    simp only [List.take_succ_cons, List.drop_succ_cons, List.cons_append, cycL, this]
/-- What stays when one is taken. -/
theorem mem_take_drop {l : List Str} {j : Nat} {a n : Str} (h : l[j]? = some a) (hn : l.Nodup) : n ∈ l.take j ++ l.drop (j + 1) ↔ n ∈ l ∧ n ≠ a := by
  have hj := (List.getElem?_eq_some_iff.1 h).1
  have e : l = l.take j ++ a :: l.drop (j + 1) := by
    conv => lhs; rw [← List.take_append_drop j l, List.drop_eq_getElem_cons hj, (List.getElem?_eq_some_iff.1 h).2]
  have hn' := hn
  rw [e] at hn'
  rw [List.nodup_append, List.nodup_cons] at hn'
  obtain ⟨-, ⟨h3, -⟩, h4⟩ := hn'
  have : n ∈ l ↔ n ∈ l.take j ∨ n = a ∨ n ∈ l.drop (j + 1) := by
    conv => lhs; rw [e]
    simp
  rw [this, List.mem_append]
  constructor
  · rintro (h | h)
    · exact ⟨.inl h, fun e => h4 n h a (by simp) e⟩
    · exact ⟨.inr (.inr h), fun e => h3 (e ▸ h)⟩
  · rintro ⟨h | h | h, hne⟩
    · exact .inl h
    · exact absurd h hne
    · exact .inr h
theorem nodup_take_drop {l : List Str} {j : Nat} (hn : l.Nodup) : (l.take j ++ l.drop (j + 1)).Nodup := by
  refine List.Nodup.sublist ?_ hn
  conv => rhs; rw [← List.take_append_drop j l]
  refine List.Sublist.append (List.Sublist.refl _) ?_
  rw [← List.drop_drop]
  exact List.drop_sublist _ _
/-- Who needs itself can't be put; the least one is told. -/
theorem put_cyc {f : Str → List Str} {all : List Str} (hcl : ∀ n ∈ all, ∀ m ∈ f n, m ∈ all) : ∀ (k : Nat) (left out : List Str), left.length = k → left.Nodup → (∀ n ∈ left, n ∈ all) → (∀ n ∈ all, Rch f n n → n ∈ left) → (∃ n ∈ all, Rch f n n) → putL f k left out = ([], cycL f left, 9)
  | 0, left, out, hk, _, _, hc, ⟨n, hn, hr⟩ => by
    have := hc n hn hr
    rw [List.length_eq_zero_iff.1 hk] at this
    simp at this
  | k + 1, left, out, hk, hnd, hsub, hc, hex => by
    have hne : left ≠ [] := by intro e; rw [e] at hk; simp at hk
    rw [putL, if_neg hne]
    rcases idxF_at (fun n => !((f n).any fun m => decide (m ∈ left))) left 0 with ⟨hneg, -⟩ | ⟨j, a, hj1, hj2, hj3, hj4, -⟩
    · have hpk : pickL f left < 0 := hneg
      rw [if_pos hpk]
    · rw [Nat.zero_add] at hj1
      have hpk : pickL f left = (j : Int) := hj1
      rw [hpk, if_neg (by omega), Int.toNat_natCast]
      have ham := List.mem_of_getElem? hj3
      have hna : ¬ Rch f a a := fun hr => by
        have key : ∀ b, Rch f a b → Rch f b a → ∃ m ∈ f a, m ∈ left := by
          intro b hb
          induction hb with
          | one hm => exact fun hba => ⟨_, hm, hc _ (hcl a (hsub a ham) _ hm) (hba.trans (.one hm))⟩
          | step hab hbc ih => exact fun hca => ih ((Rch.one hbc).trans hca)
        obtain ⟨m, hm, hml⟩ := key a hr hr
        simp only [Bool.not_eq_true', List.any_eq_false, decide_eq_true_eq] at hj4
        exact hj4 m hm hml
      rw [put_cyc hcl k _ _ (by simp; omega) (nodup_take_drop hnd) (fun n hn => hsub n ((mem_take_drop hj3 hnd).1 hn).1) (fun n hn hr => (mem_take_drop hj3 hnd).2 ⟨hc n hn hr, fun e => hna (e ▸ hr)⟩) hex, cycL_erase hj3 hna]
/-- Where none needs itself, there is always one that may be put. -/
theorem pick_some {f : Str → List Str} {left : List Str} (hne : left ≠ []) (hno : ∀ n ∈ left, ¬ Rch f n n) : ∃ (j : Nat) (a : Str), pickL f left = (j : Int) ∧ j < left.length ∧ left[j]? = some a ∧ (∀ m ∈ f a, m ∉ left) ∧ ∀ b ∈ left.take j, ∃ m ∈ f b, m ∈ left := by
  rcases idxF_at (fun n => !((f n).any fun m => decide (m ∈ left))) left 0 with ⟨-, hneg⟩ | ⟨j, a, hj1, hj2, hj3, hj4, hj5⟩
  · obtain ⟨n, hn, hr⟩ := pigeon hne fun n hn => by
      have := hneg n hn
      simpa using this
    exact absurd hr (hno n hn)
  · rw [Nat.zero_add] at hj1
    refine ⟨j, a, hj1, hj2, hj3, fun m hm hml => ?_, fun b hb => ?_⟩
    · simp only [Bool.not_eq_true', List.any_eq_false, decide_eq_true_eq] at hj4
      exact hj4 m hm hml
    · have := hj5 b hb
      simpa using this
end Go.Proofs.Ytcegdbniggdckaa.Gx

namespace Go.Proofs.Ytcegdbniggdckaa.Gx
open Go Go.Proofs.Ytcegdbniggdckaa.Gw
set_option linter.unusedSimpArgs false
set_option linter.unusedVariables false

/-- Each stands behind what it needs, and is the least that may. -/
def Good (f : Str → List Str) (left out ext : List Str) : Prop := ∀ (i : Nat) (x : Str), ext[i]? = some x →
  (∀ m ∈ f x, m ∈ out ++ ext.take i) ∧ ∀ n ∈ left, n ∉ ext.take i → n < x → ∃ m ∈ f n, m ∉ out ++ ext.take i
theorem put_ok {f : Str → List Str} {all : List Str} (hcl : ∀ n ∈ all, ∀ m ∈ f n, m ∈ all) : ∀ (k : Nat) (left out o : List Str) (nm : Str), left.length = k → left.Nodup → left.Pairwise (· ≤ ·) → (∀ n, n ∈ all ↔ n ∈ left ∨ n ∈ out) → (∀ n ∈ left, n ∉ out) →
    putL f k left out = (o, nm, 0) → ∃ ext, o = out ++ ext ∧ nm = [] ∧ ext.Perm left ∧ Good f left out ext
  | 0, left, out, o, nm, hk, _, _, _, _, h => by
    rw [putL] at h
    cases h
    rw [List.length_eq_zero_iff.1 hk]
    exact ⟨[], by simp, rfl, List.Perm.refl _, fun i x hx => by simp at hx⟩
  | k + 1, left, out, o, nm, hk, hnd, hso, hall, hdj, h => by
    have hne : left ≠ [] := by intro e; rw [e] at hk; simp at hk
    rw [putL, if_neg hne] at h
    rcases idxF_at (fun n => !((f n).any fun m => decide (m ∈ left))) left 0 with ⟨hneg, -⟩ | ⟨j, a, hj1, hj2, hj3, hj4, hj5⟩
    · have hpk : pickL f left < 0 := hneg
      rw [if_pos hpk] at h
      simp only [Prod.mk.injEq] at h
      exact absurd h.2.2 (by decide)
    · rw [Nat.zero_add] at hj1
      have hpk : pickL f left = (j : Int) := hj1
      rw [hpk, if_neg (by omega), Int.toNat_natCast, List.getD_eq_getElem?_getD, hj3] at h
      simp only [Option.getD_some] at h
      have ham := List.mem_of_getElem? hj3
      have hmem := fun n => mem_take_drop (n := n) hj3 hnd
      have hfa : ∀ m ∈ f a, m ∈ out := fun m hm => by
        simp only [Bool.not_eq_true', List.any_eq_false, decide_eq_true_eq] at hj4
        rcases (hall m).1 (hcl a ((hall a).2 (.inl ham)) m hm) with h | h
        · exact absurd h (hj4 m hm)
        · exact h
      have hsub : (left.take j ++ left.drop (j + 1)).Sublist left := by
        conv => rhs; rw [← List.take_append_drop j left]
        refine List.Sublist.append (List.Sublist.refl _) ?_
        rw [← List.drop_drop]
        exact List.drop_sublist _ _
      obtain ⟨ext, e1, e2, e3, e4⟩ := put_ok hcl k _ _ o nm (by simp; omega) (nodup_take_drop hnd) (hso.sublist hsub) (fun n => by
        rw [hall n, hmem n, List.mem_append, List.mem_singleton]
        constructor
        · rintro (h | h)
          · by_cases e : n = a
            · exact .inr (.inr e)
            · exact .inl ⟨h, e⟩
          · exact .inr (.inl h)
        · rintro (h | h | h)
          · exact .inl h.1
          · exact .inr h
          · rw [h]; exact .inl ham) (fun n hn => by
        have := (hmem n).1 hn
        rw [List.mem_append, List.mem_singleton]
        rintro (h | h)
        · exact hdj n this.1 h
        · exact this.2 h) h
      have hp : left.Perm (a :: (left.take j ++ left.drop (j + 1))) := by
        conv => lhs; rw [← List.take_append_drop j left, List.drop_eq_getElem_cons hj2, (List.getElem?_eq_some_iff.1 hj3).2]
        exact List.perm_middle
      refine ⟨a :: ext, by rw [e1]; simp, e2, (e3.cons a).trans hp.symm, fun i x hx => ?_⟩
      cases i with
      | zero =>
        simp at hx
        subst hx
        refine ⟨fun m hm => by simpa using hfa m hm, fun n hn _ hlt => ?_⟩
        have hnj : n ∈ left.take j := by
          have := hn
          rw [← List.take_append_drop j left, List.mem_append] at this
          rcases this with h | h
          · exact h
          · exfalso
            have hpw := hso
            rw [← List.take_append_drop j left, List.drop_eq_getElem_cons hj2, (List.getElem?_eq_some_iff.1 hj3).2, List.pairwise_append, List.pairwise_cons] at hpw
            rw [List.drop_eq_getElem_cons hj2, (List.getElem?_eq_some_iff.1 hj3).2] at h
            rcases List.mem_cons.1 h with rfl | h
            · exact List.lt_irrefl _ hlt
            · exact List.not_le.2 hlt (hpw.2.1.1 n h)
        have := hj5 n hnj
        simp only [Bool.not_eq_false', List.any_eq_true, decide_eq_true_eq] at this
        obtain ⟨m, hm, hml⟩ := this
        exact ⟨m, hm, by simpa using hdj m hml⟩
      | succ i =>
        simp only [List.getElem?_cons_succ] at hx
        obtain ⟨g1, g2⟩ := e4 i x hx
        simp only [List.take_succ_cons]
        have hap : out ++ [a] ++ ext.take i = out ++ a :: ext.take i := by simp
        rw [hap] at g1 g2
        refine ⟨g1, fun n hn hnt hlt => g2 n ((hmem n).2 ⟨hn, fun e => hnt (by rw [e]; simp)⟩) (fun h => hnt (by simp [h])) hlt⟩
theorem put_err {f : Str → List Str} : ∀ (k : Nat) (left out : List Str), (putL f k left out).2.2 ≠ 0 → (putL f k left out).1 = []
  | 0, left, out, h => by simp [putL] at h
  | k + 1, left, out, h => by
    rw [putL] at h ⊢
    by_cases h1 : left = []
    · rw [if_pos h1] at h; simp at h
    · rw [if_neg h1] at h ⊢
      by_cases h2 : pickL f left < 0
      · rw [if_pos h2]
      · rw [if_neg h2] at h ⊢; exact put_err k _ _ h
theorem order_err (l : List Node') (h : (orderL l).2.2 ≠ 0) : (orderL l).1 = [] := by
  unfold orderL at h ⊢
  cases h1 : (dupL l []).1 with
  | some n => rfl
  | none =>
    rw [h1] at h
    cases h2 : missL (dupL l []).2 (sortS ((dupL l []).2.map (·.1))) with
    | some n => rfl
    | none => rw [h2] at h; exact put_err _ _ _ h
/-- The needs of a name. -/
def fndL (s : Str) : List Node' → Option (List Str)
  | [] => none
  | n :: r => if n.name = s then some n.needs else fndL s r
theorem dup_none : ∀ {l : List Node'} {M : NM}, (dupL l M).1 = none → (∀ s, asc s (dupL l M).2 = match asc s M with | some v => some v | none => fndL s l) ∧ (dupL l M).2.map (·.1) = M.map (·.1) ++ l.map (·.name) ∧ (l.map (·.name)).Nodup ∧ (∀ n ∈ l, asc n.name M = none) ∧ ∀ n ∈ l, fndL n.name l = some n.needs
  | [], M, _ => ⟨fun s => by simp only [dupL, fndL]; cases asc s M <;> rfl, by simp [dupL], by simp, by simp, by simp⟩
  | u :: r, M, h => by
    rw [dupL] at h ⊢
    by_cases h1 : (asc u.name M).isSome = true
    · rw [if_pos h1] at h; simp at h
    · rw [if_neg h1] at h ⊢
      have hno : asc u.name M = none := by cases e : asc u.name M with
                                           | none => rfl
                                           | some v => rw [e] at h1; exact absurd rfl h1
      obtain ⟨e1, e2, e3, e4, e5⟩ := dup_none h
      have hur : ∀ n ∈ r, n.name ≠ u.name := fun n hn e => by
        have := e4 n hn
        rw [asc_ups, if_pos e] at this; cases this
      refine ⟨fun s => ?_, by rw [e2, ups_new hno]; simp, ?_, fun n hn => ?_, fun n hn => ?_⟩
      · rw [e1 s, asc_ups, fndL]
        by_cases e : s = u.name
        · rw [if_pos e, e, hno]; simp
        · rw [if_neg e, if_neg (Ne.symm e)]
      · rw [List.map_cons, List.nodup_cons]
        exact ⟨fun h => by obtain ⟨n, hn, he⟩ := List.mem_map.1 h; exact hur n hn he, e3⟩
      · rcases List.mem_cons.1 hn with rfl | hn
        · exact hno
        · have := e4 n hn
          rw [asc_ups, if_neg (hur n hn)] at this; exact this
      · rw [fndL]
        rcases List.mem_cons.1 hn with rfl | hn
        · rw [if_pos rfl]
        · rw [if_neg (fun e => hur n hn e.symm)]; exact e5 n hn
/-- An order that is told is right. -/
theorem order_ok {l : List Node'} {o : List Str} {nm : Str} (h : orderL l = (o, nm, 0)) : nm = [] ∧ (l.map (·.name)).Nodup ∧ o.Perm (l.map (·.name)) ∧
    ∀ (i : Nat) (x : Str), o[i]? = some x → ∀ u ∈ l, (u.name = x → ∀ m ∈ u.needs, m ∈ o.take i) ∧ (u.name ∉ o.take i → u.name < x → ∃ m ∈ u.needs, m ∉ o.take i) := by
  unfold orderL at h
  cases h1 : (dupL l []).1 with
  | some n => rw [h1] at h; simp only [Prod.mk.injEq] at h; exact absurd h.2.2 (by decide)
  | none =>
    rw [h1] at h
    obtain ⟨e1, e2, e3, -, e5⟩ := dup_none h1
    generalize (dupL l []).2 = M at *
    simp only [List.map_nil, List.nil_append] at e2
    rw [e2] at h
    cases h2 : missL M (sortS (l.map (·.name))) with
    | some n => rw [h2] at h; simp only [Prod.mk.injEq] at h; exact absurd h.2.2 (by decide)
    | none =>
      rw [h2] at h
      simp only at h
      have hp := sortS_perm (l.map (·.name))
      have hnd : (sortS (l.map (·.name))).Nodup := hp.nodup_iff.2 e3
      have hmi := missL_none h2
      have hkeys : ∀ s, (asc s M).isSome = true → s ∈ sortS (l.map (·.name)) := fun s hs => hp.mem_iff.2 (by rw [← e2]; exact asc_keys.1 hs)
      obtain ⟨ext, k1, k2, k3, k4⟩ := put_ok (all := sortS (l.map (·.name))) (fun n hn m hm => hkeys m (hmi n hn m hm)) _ _ _ o nm rfl hnd (sortS_sorted _) (fun n => by simp) (by simp) h
      rw [List.nil_append] at k1
      subst k1
      refine ⟨k2, e3, k3.trans hp, fun i x hx u hu => ?_⟩
      obtain ⟨g1, g2⟩ := k4 i x hx
      simp only [List.nil_append] at g1 g2
      have hu1 : ndM M u.name = u.needs := by
        unfold ndM; rw [e1, asc, e5 u hu]; rfl
      refine ⟨fun e m hm => g1 m (by rw [← e, hu1]; exact hm), fun hn hlt => ?_⟩
      have := g2 u.name (hp.mem_iff.2 (List.mem_map_of_mem hu)) hn hlt
      rw [hu1] at this
      exact this
end Go.Proofs.Ytcegdbniggdckaa.Gx

namespace Go.Proofs.Ytcegdbniggdckaa.Gx
open Go Go.Proofs.Ytcegdbniggdckaa.Gw
set_option linter.unusedSimpArgs false
set_option linter.unusedVariables false

def sameS : List Str → List Str → Bool
  | [], [] => true
  | x :: r, y :: s => bif !decide (x = y) then false else sameS r s
  | _, _ => false
theorem sameS_self : ∀ l : List Str, sameS l l = true
  | [] => rfl
  | x :: r => by simp [sameS, sameS_self r]
theorem sameS_len : ∀ {l m : List Str}, l.length ≠ m.length → sameS l m = false
  | [], [], h => absurd rfl h
  | [], _ :: _, _ => rfl
  | _ :: _, [], _ => rfl
  | x :: r, y :: s, h => by
    rw [sameS, sameS_len (l := r) (m := s) (by simpa using h)]
    cases decide (x = y) <;> rfl
set_option maxHeartbeats 4000000 in
theorem c_same (st : St) (l m : List Str) : VCalls Try.prog TT 10 [encS l, encS m] st fun r st' => r = .ret (.bool (sameS l m)) ∧ st' = st := by
  refine vfun TT_ok (an := anL []) (L := [0, 1, 4, 5, 12, 13]) (rs := [.tmp 4]) Try.func10 rfl (by kernel_rfl) rfl Try.ntmps10 rfl rfl (Nat.le_refl _) fun hst ha hf => ?_
  simp only [encS, fitL, V.fit, List.length_map] at hf
  simp only [encS]
  simp only [gwL, gwB, gwD, gwE, gwS, gwTT, gwZ, gwN, gwC, Nat.reduceEqDiff, ↓reduceIte, Nat.reduceAdd, Nat.reduceLT, Nat.reduceLeDiff, Nat.reduceMul, List.length_map]
  refine iK_split (fun h => ?_) (fun h => ?_)
  · simp only [gwL, gwB, gwD, gwE, gwS, gwTT, gwZ, gwN, gwC, Nat.reduceEqDiff, ↓reduceIte, Nat.reduceAdd, Nat.reduceLT, Nat.reduceLeDiff, Nat.reduceMul]
    exact gives_bool (by rw [sameS_len (by simpa [Int.ofNat_inj] using h)]) hst
  have hlm : l.length = m.length := by simpa [Int.ofNat_inj] using h
  simp only [gwL, gwB, gwD, gwE, gwS, gwTT, gwZ, gwN, gwC, Nat.reduceEqDiff, ↓reduceIte, Nat.reduceAdd, Nat.reduceLT, Nat.reduceLeDiff, Nat.reduceMul, List.length_map]
  refine vfor (σ := Nat) [0, 1, 4, 12, 13] (fun i => [(0, true, encS l), (1, true, encS m), (4, true, .bool false), (12, true, .int .i64 l.length), (13, true, .int .i64 i)]) (fun i => st) (fun i => l.length - i) (fun i => i ≤ l.length ∧ sameS l m = sameS (l.drop i) (m.drop i)) 0 rfl TT_ok ⟨Nat.zero_le _, rfl⟩ rfl rfl ?_
  rintro i ⟨hi, hx⟩
  rw [hx]
  rcases at_or_end l i hi with ⟨rfl, hd⟩ | ⟨a, hlt, hget, hdr⟩
  · simp only [gwL, gwB, gwD, gwE, gwS, gwTT, gwZ, gwN, gwC, Nat.reduceEqDiff, ↓reduceIte, Nat.reduceAdd, Nat.reduceLT, Nat.reduceLeDiff, Nat.reduceMul, lt_no, hd]
    exact gives_bool (by rw [hlm]; simp [sameS]) hst
  · rcases at_or_end m i (by omega) with ⟨hme, -⟩ | ⟨b, hltm, hgetm, hdrm⟩
    · omega
    simp only [encS]
    rw [hdr, hdrm, sameS]
    simp only [gwL, gwB, gwD, gwE, gwS, gwTT, gwZ, gwN, gwC, Nat.reduceEqDiff, ↓reduceIte, Nat.reduceAdd, Nat.reduceLT, Nat.reduceLeDiff, Nat.reduceMul, lt_yes hlt]
    refine vdraw TT_ok TT_mixed [0, 0, 0, 1, 0, 0, 0, 1, 0] (by kernel_rfl) ?_
    simp only [gwL, gwB, gwD, gwE, gwS, gwTT, gwZ, gwN, gwC, Nat.reduceEqDiff, ↓reduceIte, Nat.reduceAdd, Nat.reduceLT, Nat.reduceLeDiff, Nat.reduceMul, List.length_map, getD_map hget, getD_map hgetm, Int.ofNat_lt.mpr hlt, Int.ofNat_lt.mpr hltm, Int.toNat_natCast]
    refine iK_split (fun h1 => ?_) (fun h1 => ?_)
    · rw [h1]
      simp only [gwL, gwB, gwD, gwE, gwS, gwTT, gwZ, gwN, gwC, Nat.reduceEqDiff, ↓reduceIte, Nat.reduceAdd, Nat.reduceLT, Nat.reduceLeDiff, Nat.reduceMul]
      exact gives_bool rfl hst
    · rw [h1]
      have w : IntKind.i64.wrap ((i : Int) + 1) = ((i + 1 : Nat) : Int) := next_i64 hlt (by omega)
      simp only [gwL, gwB, gwD, gwE, gwS, gwTT, gwZ, gwN, gwC, Nat.reduceEqDiff, ↓reduceIte, Nat.reduceAdd, Nat.reduceLT, Nat.reduceLeDiff, Nat.reduceMul, w, Env.keep]
      exact ⟨i + 1, rfl, by omega, hlt, rfl⟩
theorem sortS_id {l : List Str} (h : l.Pairwise (· ≤ ·)) : sortS l = l := sorted_eq (sortS_sorted l) h (sortS_perm l)
theorem al1 : orderL [⟨[97], [[98]]⟩, ⟨[98], []⟩] = ([[98], [97]], [], 0) := by
  have hs : sortS [[97], [98]] = ([[97], [98]] : List Str) := sortS_id (by decide)
  have e1 : dupL [⟨[97], [[98]]⟩, ⟨[98], []⟩] [] = (none, [([97], [[98]]), ([98], [])]) := by rfl
  unfold orderL
  rw [e1]
  simp only [List.map_cons, List.map_nil, hs]
  rfl
theorem al2 : orderL [⟨[99], [[99]]⟩] = ([], [99], 9) := by
  have hs : sortS [[99]] = ([[99]] : List Str) := sortS_id (by decide)
  have e1 : dupL [⟨[99], [[99]]⟩] [] = (none, [([99], [[99]])]) := by rfl
  unfold orderL
  rw [e1]
  simp only [List.map_cons, List.map_nil, hs]
  have hr : Rch (ndM [([99], [[99]])]) [99] [99] := .one (by decide)
  have hc : cycL (ndM [([99], [[99]])]) [[99]] = [99] := by rw [cycL, if_pos hr]
  show putL (ndM [([99], [[99]])]) 1 [[99]] [] = _
  rw [putL, hc, if_neg (by decide), if_pos (by decide)]
theorem wkR_cons {p : Nat → Prop} {x y : List V} {xs ys : List (List V)} (h : wkLp p x y) (k : wkRp p xs ys) : wkRp p (x :: xs) (y :: ys) := by simp only [wkRp]; exact ⟨y, ys, rfl, h, k⟩
set_option maxHeartbeats 4000000 in
theorem c_alive (st : St) : VCalls Try.prog TT 11 [] st fun r st' => r = .ret (.bool true) ∧ st' = st := by
  refine vfun TT_ok (an := anL []) (L := [0, 1, 3, 5, 6]) (rs := [.tmp 0]) Try.func11 rfl (by kernel_rfl) rfl Try.ntmps11 rfl rfl (Nat.le_refl _) fun hst ha hf => ?_
  simp only [gwL, gwB, gwD, gwE, gwS, gwTT, gwZ, gwN, gwC, Nat.reduceEqDiff, ↓reduceIte, Nat.reduceAdd, Nat.reduceLT, Nat.reduceLeDiff, Nat.reduceMul]
  refine (c_Order [⟨[97], [[98]]⟩, ⟨[98], []⟩] _ ⟨by decide, by decide⟩).use (wkL_cons (wk_lst (wkR_cons (wkL_refl _) (wkR_cons (wkL_cons (wk_refl _) (wkL_cons (wk_nils 1) wkL_nil)) (wkR_refl _)))) wkL_nil) fun _ => ?_
  rw [al1]
  simp only [gwL, gwB, gwD, gwE, gwS, gwTT, gwZ, gwN, gwC, Nat.reduceEqDiff, ↓reduceIte, Nat.reduceAdd, Nat.reduceLT, Nat.reduceLeDiff, Nat.reduceMul, ordV, encS]
  refine (c_Order [⟨[99], [[99]]⟩] _ ⟨by decide, by decide⟩).use (wkL_refl _) fun _ => ?_
  rw [al2]
  have g0 : ∀ {α : Type} (x : α) (l : List α) (d : α), (x :: l).getD (Int.toNat 0) d = x := fun _ _ _ => rfl
  have d2 : decide (((2 : Nat) : Int) = 2) = true := rfl
  simp only [gwL, gwB, gwD, gwE, gwS, gwTT, gwZ, gwN, gwC, Nat.reduceEqDiff, ↓reduceIte, Nat.reduceAdd, Nat.reduceLT, Nat.reduceLeDiff, Nat.reduceMul, ordV, encS, g0, d2]
  exact ⟨⟨by decide, by decide⟩, gives_bool rfl hst⟩
end Go.Proofs.Ytcegdbniggdckaa.Gx

namespace Go.Proofs.Ytcegdbniggdckaa.Gx
open Go Go.Proofs.Ytcegdbniggdckaa.Gw
set_option linter.unusedSimpArgs false
set_option linter.unusedVariables false

theorem idxOf_take {m : Str} : ∀ {o : List Str} {i j : Nat}, m ∈ o.take j → (i : Int) ≤ idxOf m i o ∧ idxOf m i o < ((i + j : Nat) : Int)
  | [], i, j, h => by simp at h
  | x :: r, i, 0, h => by simp at h
  | x :: r, i, j + 1, h => by
    rw [idxOf]
    by_cases e : m = x
    · simp only [e, decide_true, cond_true]; omega
    · simp only [e, decide_false, cond_false]
      rw [List.take_succ_cons] at h
      rcases List.mem_cons.1 h with h | h
      · exact absurd h e
      · have := idxOf_take (i := i + 1) h
        omega
theorem idxOf_get {x : Str} : ∀ {o : List Str} {i j : Nat}, o.Nodup → o[j]? = some x → idxOf x i o = ((i + j : Nat) : Int)
  | [], i, j, _, h => by simp at h
  | y :: r, i, 0, _, h => by simp at h; subst h; simp [idxOf]
  | y :: r, i, j + 1, hn, h => by
    simp only [List.getElem?_cons_succ] at h
    rw [List.nodup_cons] at hn
    have e : x ≠ y := fun e => hn.1 (e ▸ List.mem_of_getElem? h)
    rw [idxOf]
    simp only [e, decide_false, cond_false]
    rw [idxOf_get (i := i + 1) hn.2 h]; congr 1; omega
set_option maxRecDepth 20000 in
set_option maxHeartbeats 8000000 in
theorem c_GraphBehind (l : List Node') (st : St) (hN : NOk l) : VCalls Try.prog TT 4 [lstN l] st fun r st' => r = .ret (.bool true) ∧ st' = st := by
  refine vfun TT_ok (an := anL []) (L := [0, 2, 3, 4, 5, 6, 7, 8, 10, 12, 27, 28, 29, 55, 56, 57, 62, 63, 64]) (rs := [.tmp 2]) Try.func4 rfl (by kernel_rfl) rfl Try.ntmps4 rfl rfl (Nat.le_refl _) fun hst ha hf => ?_
  simp only [gwL, gwB, gwD, gwE, gwS, gwTT, gwZ, gwN, gwC, Nat.reduceEqDiff, ↓reduceIte, Nat.reduceAdd, Nat.reduceLT, Nat.reduceLeDiff, Nat.reduceMul]
  refine (c_alive _).use (wkL_refl _) fun _ => ?_
  simp only [gwL, gwB, gwD, gwE, gwS, gwTT, gwZ, gwN, gwC, Nat.reduceEqDiff, ↓reduceIte, Nat.reduceAdd, Nat.reduceLT, Nat.reduceLeDiff, Nat.reduceMul]
  refine (c_Order l _ hN).use (wkL_refl _) fun _ => ?_
  have hOk := @order_ok l
  have hEr := order_err l
  have hfew := hN.few
  generalize orderL l = res at *
  obtain ⟨o, nm, e⟩ := res
  simp only at hEr
  simp only [lstN]
  simp only [gwL, gwB, gwD, gwE, gwS, gwTT, gwZ, gwN, gwC, Nat.reduceEqDiff, ↓reduceIte, Nat.reduceAdd, Nat.reduceLT, Nat.reduceLeDiff, Nat.reduceMul, ordV, encS]
  refine iK_split (fun h1 => ?_) (fun h1 => ?_)
  · have h1' : e ≠ 0 := by simpa using h1
    rw [hEr h1']
    simp only [gwL, gwB, gwD, gwE, gwS, gwTT, gwZ, gwN, gwC, Nat.reduceEqDiff, ↓reduceIte, Nat.reduceAdd, Nat.reduceLT, Nat.reduceLeDiff, Nat.reduceMul, List.map_nil, List.length_nil]
    exact gives_bool rfl hst
  have h1' : e = 0 := by simpa using h1
  subst h1'
  obtain ⟨hnm, hnd, hpm, hgo⟩ := hOk rfl
  subst hnm
  have hond : o.Nodup := hpm.nodup_iff.2 hnd
  have hol : o.length = l.length := by rw [hpm.length_eq, List.length_map]
  simp only [gwL, gwB, gwD, gwE, gwS, gwTT, gwZ, gwN, gwC, Nat.reduceEqDiff, ↓reduceIte, Nat.reduceAdd, Nat.reduceLT, Nat.reduceLeDiff, Nat.reduceMul, mapLook, mapPut, mapRange, mapLen, makeMapE, keyOk, keyKind, keyGood, lookR, zeroV, entV, entS, nextV, nextS, beq_self_eq_true, cond_true, cond_false, List.length_map]
  refine vfor (σ := Nat × List (Str × Int)) [0, 2, 3, 4, 6, 27, 28, 29] (fun x => [(0, true, .lst 2 none (l.map encN)), (2, true, .bool false), (3, true, .lst 1 none (rowsS o)), (4, true, .str []), (6, true, .map st.length), (27, true, .lst 1 none (rowsS o)), (28, true, .int .i64 o.length), (29, true, .int .i64 x.1)]) (fun x => st ++ [mapE V.str (V.int .i64) x.2]) (fun x => o.length - x.1) (fun x => x.1 ≤ o.length ∧ x.2.length = x.1 ∧ ∀ s, asc s x.2 = if s ∈ o.take x.1 then some (idxOf s 0 o + 1) else none) (0, []) rfl TT_ok ⟨Nat.zero_le _, rfl, fun s => by simp [asc]⟩ rfl rfl ?_
  rintro ⟨i, M⟩ ⟨hi, hMl, hM⟩
  simp only at hi hMl hM ⊢
  have hlk := fun (i : TI) (ok : Bool) (st : St) (n : Str) => look_mapE (ev := V.int .i64) (keyP_str TT) i ok n st M
  have hpt := fun (o : Nat) (n : Str) (a : Int) (st : St) => put_mapE (ev := V.int .i64) (keyP_str TT) o n a st M
  have hlm := fun (st : St) => len_mapE (ek := V.str) (ev := V.int .i64) st M
  rcases at_or_end o i hi with ⟨hie, hd⟩ | ⟨u, hlt, hget, hdr⟩
  · have hie2 : i = o.length := hie
    subst hie2
    rw [List.take_length] at hM
    have d1 : decide ((M.length : Int) = (l.length : Int)) = true := by rw [hMl, hol]; simp
    have d2 : decide ((o.length : Int) = (l.length : Int)) = true := by rw [hol]; simp
    have d3 : ∀ s : Str, decide (s = s) = true := fun s => by simp
    simp only [gwL, gwB, gwD, gwE, gwS, gwTT, gwZ, gwN, gwC, Nat.reduceEqDiff, ↓reduceIte, Nat.reduceAdd, Nat.reduceLT, Nat.reduceLeDiff, Nat.reduceMul, mapLook, mapPut, mapRange, mapLen, makeMapE, keyOk, keyKind, keyGood, lookR, zeroV, entV, entS, nextV, nextS, beq_self_eq_true, cond_true, cond_false, lt_no, rowsS_len, hlm, List.length_map, d1, d2, d3, Bool.not_true, Bool.or_self, Bool.not_false, forall_const]
    have hbad : ∀ u ∈ l, ∀ m ∈ u.needs, m ∈ o ∧ u.name ∈ o ∧ 0 ≤ idxOf m 0 o ∧ idxOf m 0 o < idxOf u.name 0 o := fun u hu m hm => by
      have huo : u.name ∈ o := hpm.mem_iff.2 (List.mem_map_of_mem hu)
      obtain ⟨j, hj⟩ := List.getElem?_of_mem huo
      have hmt := (hgo j u.name hj u hu).1 rfl m hm
      have := idxOf_take (i := 0) hmt
      have := idxOf_get (i := 0) hond hj
      exact ⟨List.mem_of_mem_take hmt, huo, by omega, by omega⟩
    refine vfor (σ := Nat × St) [0, 2, 6, 55, 56, 57] (fun x => [(0, true, .lst 2 none (l.map encN)), (2, true, .bool false), (6, true, .map st.length), (55, true, .lst 2 none (l.map encN)), (56, true, .int .i64 l.length), (57, true, .int .i64 x.1)]) (fun x => st ++ (mapE V.str (V.int .i64) M :: x.2)) (fun x => l.length - x.1) (fun x => x.1 ≤ l.length) (0, []) rfl TT_ok (Nat.zero_le _) rfl rfl ?_
    rintro ⟨p, ex⟩ hp
    simp only at hp ⊢
    rcases at_or_end l p hp with ⟨hpe, -⟩ | ⟨u, hpt2, hpg, -⟩
    · have hpe2 : p = l.length := hpe
      subst hpe2
      simp only [gwL, gwB, gwD, gwE, gwS, gwTT, gwZ, gwN, gwC, Nat.reduceEqDiff, ↓reduceIte, Nat.reduceAdd, Nat.reduceLT, Nat.reduceLeDiff, Nat.reduceMul, mapLook, mapPut, mapRange, mapLen, makeMapE, keyOk, keyKind, keyGood, lookR, zeroV, entV, entS, nextV, nextS, beq_self_eq_true, cond_true, cond_false, lt_no]
      exact gives_bool' rfl hst
    · have hg : (l.map encN).getD p [] = encN u := getD_map hpg
      have w : IntKind.i64.wrap ((p : Int) + 1) = ((p + 1 : Nat) : Int) := next_i64 hpt2 (by omega)
      have hum := List.mem_of_getElem? hpg
      have hul := hN.len u hum
      obtain ⟨un, us⟩ := u
      simp only at hul
      simp only [gwL, gwB, gwD, gwE, gwS, gwTT, gwZ, gwN, gwC, Nat.reduceEqDiff, ↓reduceIte, Nat.reduceAdd, Nat.reduceLT, Nat.reduceLeDiff, Nat.reduceMul, mapLook, mapPut, mapRange, mapLen, makeMapE, keyOk, keyKind, keyGood, lookR, zeroV, entV, entS, nextV, nextS, beq_self_eq_true, cond_true, cond_false, lt_yes hpt2, hg, encN_mk, encS, List.length_map, Int.ofNat_lt.mpr hpt2, Int.toNat_natCast]
      refine vfor (σ := Nat) [0, 2, 6, 55, 56, 57, 10, 62, 63, 64] (fun q => [(0, true, .lst 2 none (l.map encN)), (2, true, .bool false), (6, true, .map st.length), (55, true, .lst 2 none (l.map encN)), (56, true, .int .i64 l.length), (57, true, .int .i64 p), (10, true, .ptr (st.length + (ex.length + 1)) 0), (62, true, .lst 1 none (rowsS us)), (63, true, .int .i64 us.length), (64, true, .int .i64 q)]) (fun q => st ++ (mapE V.str (V.int .i64) M :: (ex ++ [Ent.box [.str un, .lst 1 none (rowsS us)]]))) (fun q => us.length - q) (fun q => q ≤ us.length) 0 rfl TT_ok (Nat.zero_le _) rfl rfl ?_
      intro q hq
      rcases at_or_end us q hq with ⟨hqe, -⟩ | ⟨m, hqt, hqg, -⟩
      · have hqe2 : q = us.length := hqe
        subst hqe2
        simp only [gwL, gwB, gwD, gwE, gwS, gwTT, gwZ, gwN, gwC, Nat.reduceEqDiff, ↓reduceIte, Nat.reduceAdd, Nat.reduceLT, Nat.reduceLeDiff, Nat.reduceMul, mapLook, mapPut, mapRange, mapLen, makeMapE, keyOk, keyKind, keyGood, lookR, zeroV, entV, entS, nextV, nextS, beq_self_eq_true, cond_true, cond_false, lt_no, w, Env.keep]
        exact ⟨(p + 1, _), rfl, rfl, by simp only; omega, by simp only; omega⟩
      · have wq : IntKind.i64.wrap ((q : Int) + 1) = ((q + 1 : Nat) : Int) := next_i64 hqt (by omega)
        obtain ⟨b1, b2, b3, b4⟩ := hbad _ hum m (List.mem_of_getElem? hqg)
        simp only at b2 b4
        have l1 : asc m M = some (idxOf m 0 o + 1) := by rw [hM m, if_pos b1]
        have l2 : asc un M = some (idxOf un 0 o + 1) := by rw [hM un, if_pos b2]
        have c1 : decide (idxOf m 0 o + 1 = 0) = false := decide_eq_false (by omega)
        have c2 : decide (idxOf un 0 o + 1 ≤ idxOf m 0 o + 1) = false := decide_eq_false (by omega)
        simp only [gwL, gwB, gwD, gwE, gwS, gwTT, gwZ, gwN, gwC, Nat.reduceEqDiff, ↓reduceIte, Nat.reduceAdd, Nat.reduceLT, Nat.reduceLeDiff, Nat.reduceMul, mapLook, mapPut, mapRange, mapLen, makeMapE, keyOk, keyKind, keyGood, lookR, zeroV, entV, entS, nextV, nextS, beq_self_eq_true, cond_true, cond_false, lt_yes hqt, rowsS_getD hqg, rowsS_len, Int.toNat_natCast, Int.ofNat_lt.mpr hqt, hlk, l1, l2, c1, c2, Option.map_some, Option.getD_some, Bool.or_self, wq, Env.keep]
        exact ⟨q + 1, rfl, by omega, by omega⟩
  · have w : IntKind.i64.wrap ((i : Int) + 1) = ((i + 1 : Nat) : Int) := next_i64 hlt (by omega)
    have hni : u ∉ o.take i := by
      have hn := hond
      rw [← List.take_append_drop i o, hdr, List.nodup_append] at hn
      exact fun h => hn.2.2 u h u (by simp) rfl
    have hno : asc u M = none := by rw [hM u, if_neg hni]
    have hig := idxOf_get (i := 0) hond hget
    simp only [gwL, gwB, gwD, gwE, gwS, gwTT, gwZ, gwN, gwC, Nat.reduceEqDiff, ↓reduceIte, Nat.reduceAdd, Nat.reduceLT, Nat.reduceLeDiff, Nat.reduceMul, mapLook, mapPut, mapRange, mapLen, makeMapE, keyOk, keyKind, keyGood, lookR, zeroV, entV, entS, nextV, nextS, beq_self_eq_true, cond_true, cond_false, lt_yes hlt, rowsS_getD hget, rowsS_len, Int.toNat_natCast, Int.ofNat_lt.mpr hlt, w, hpt, Env.keep]
    refine ⟨(i + 1, ups u ((i + 1 : Nat) : Int) M), rfl, rfl, by simp only; omega, by simp only; omega, by simp only [ups_new hno, List.length_append, List.length_cons, List.length_nil, hMl], fun s => ?_⟩
    simp only [asc_ups]
    have htk : o.take (i + 1) = o.take i ++ [u] := by rw [List.take_add_one, hget]; rfl
    by_cases e : s = u
    · subst e
      rw [if_pos rfl, if_pos (by rw [htk]; simp), hig]; congr 1; omega
    · rw [if_neg e, hM s, htk]; simp [e]
end Go.Proofs.Ytcegdbniggdckaa.Gx

namespace Go.Proofs.Ytcegdbniggdckaa.Gx
open Go Go.Proofs.Ytcegdbniggdckaa.Gw
set_option linter.unusedSimpArgs false
set_option linter.unusedVariables false
def encI1 (n : Int) : List V := [.int .i64 n]
def encS1 (s : Str) : List V := [.str s]

theorem len_succ {α : Type} {cs : List α} {n : Nat} (h : cs.length = n + 1) : ∃ c r, cs = c :: r ∧ r.length = n := by
  cases cs with
  | nil => simp at h
  | cons c r => exact ⟨c, r, rfl, by simpa using h⟩
open Go.ChangeShapes Go.WideShapes Go.ChangeAt Go.RowKit
theorem own : ownKnob Try.prog.godebug = none := by kernel_rfl
theorem laidOut : laidOutB Try.prog = true := by kernel_rfl
theorem below_of {W W' : World} {g' : G} (h : Ext g00 W g' W') : Below W.heap.size W W' := ⟨h.os, h.tape, h.output, h.size, fun k hk => (h.free k hk rfl).1⟩
theorem bulk_one {H : Type} (d : DataW H) : 1 ≤ Rows.uptoBulk d := by
  cases d with
  | lit l => cases l <;> simp [Rows.uptoBulk]
  | nil => simp [Rows.uptoBulk]
  | ptr d => simp [Rows.uptoBulk]
  | slice elems spare => simp [Rows.uptoBulk]
  | agg parts => simp [Rows.uptoBulk]
  | iface t d => simp [Rows.uptoBulk]
  | map entries => simp [Rows.uptoBulk]
  | held h => simp [Rows.uptoBulk]
theorem bulk_len {H : Type} : ∀ l : List (DataW H), l.length ≤ Rows.uptoBulkAll l
  | [] => by simp [Rows.uptoBulkAll]
  | x :: r => by have := bulk_one x; have := bulk_len r; simp only [Rows.uptoBulkAll, List.length_cons]; omega
/-- A slice that is read has no more elements than its bulk. -/
theorem bulk_slice {H : Type} {enc : TypeId × Value → H} {P : Program} {W : World} {spare : Nat → Bool} {held : Bool} {n : Nat} {t e : TypeId} {v : Value} {r : DataW H × List MemPlace} (ht : P.underlying t = some (.slice e)) {sz : Nat} {tp : Option Nat} {rows : List (List V)}
    (h : DataW.trod enc P W 0 spare held n t [v] = some r) (hs : SimV g00 W (.lst sz tp rows) v) : rows.length ≤ Rows.uptoBulk r.1 := by
  simp only [SimV] at hs
  obtain ⟨a, cap, rfl, -⟩ := hs
  cases n with
  | zero => simp [DataW.trod] at h
  | succ n =>
    unfold DataW.trod at h
    rw [ht] at h
    split at h <;> first | (cases h; done) | skip
    all_goals rename_i e'; first | (injection e' with e'; cases e'; done) | skip
    · simp only [List.cons.injEq, Value.slice.injEq, and_true] at e'
      obtain ⟨_, e', _⟩ := e'
      omega
    · simp only [List.cons.injEq, Value.slice.injEq, and_true] at e'
      obtain ⟨_, e', _⟩ := e'
      simp only at h
      split at h
      case isFalse => cases h
      rw [e']
      generalize hm : List.mapM (m := Option) _ _ = o at h
      cases o with
      | none => simp at h
      | some ys =>
        obtain ⟨hl, -⟩ := mapM_some hm
        simp only [Option.bind_some, Option.map_eq_some_iff] at h
        obtain ⟨zs, -, rfl⟩ := h
        have := bulk_len (ys.map (·.1))
        rw [List.length_map, hl, List.length_range] at this
        simp only [Rows.uptoBulk]
        omega
/-- A string that is read is no longer than its bulk. -/
theorem bulk_str {H : Type} {enc : TypeId × Value → H} {P : Program} {W : World} {spare : Nat → Bool} {held : Bool} {n : Nat} {t : TypeId} {s : List UInt8} {r : DataW H × List MemPlace} (ht : P.underlying t = some .string)
    (h : DataW.trod enc P W 0 spare held n t [.string ⟨s.toArray⟩] = some r) : s.length ≤ Rows.uptoBulk r.1 := by
  cases n with
  | zero => simp [DataW.trod] at h
  | succ n =>
    unfold DataW.trod at h
    rw [ht] at h
    split at h <;> first | (cases h; done) | skip
    all_goals rename_i e'; first | (injection e' with e'; cases e'; done) | skip
    · simp only [List.cons.injEq, Value.string.injEq, and_true] at e'
      subst e'
      split at h
      · simp only [Option.some.injEq] at h
        subst h
        simp [Rows.uptoBulk, ByteArray.size]
      · cases h
    · exact ((‹∀ s_1 : ByteArray, some TypeDesc.string = some TypeDesc.string → [Value.string ⟨s.toArray⟩] = [Value.string s_1] → False›) _ rfl rfl).elim
theorem okWide_slice {P : Program} {W : World} {r : Reach} {b : Nat} {t e : TypeId} {v : Value} (ht : P.underlying t = some (.slice e)) (h : Value.okWide P W r b t v) : v.cells.toList = [v] := by
  unfold Value.okWide at h
  rw [ht] at h
  simp only [Cell.okWide, ht] at h
  cases v <;> first | rfl | (simp [Cell.ok, ht] at h)
theorem okWide_str {P : Program} {W : World} {r : Reach} {b : Nat} {t : TypeId} {v : Value} (ht : P.underlying t = some .string) (h : Value.okWide P W r b t v) : v.cells.toList = [v] := by
  unfold Value.okWide at h
  rw [ht] at h
  simp only [Cell.okWide, ht] at h
  cases v <;> first | rfl | (simp [Cell.ok, ht] at h)
theorem okWide_int {P : Program} {W : World} {r : Reach} {b : Nat} {t : TypeId} {k : IntKind} {v : Value} (ht : P.underlying t = some (.int k)) (h : Value.okWide P W r b t v) : v.cells.toList = [v] := by
  unfold Value.okWide at h
  rw [ht] at h
  simp only [Cell.okWide, ht] at h
  cases v <;> first | rfl | (simp [Cell.ok, ht] at h)
theorem dec_int1 {H : Type} {enc : TypeId × Value → H} {P : Program} {W : World} {spare : Nat → Bool} {held : Bool} {t : TypeId} (ht : P.underlying t = some (.int .i64)) {n : Nat} {cs : List Value} {r : DataW H × List MemPlace} (h : DataW.trod enc P W 0 spare held n t cs = some r) : ∃ x : Int, SimVs g00 W (encI1 x) cs ∧ ∀ u ∈ cs, u.oneCell' = true := by
  obtain ⟨m, rfl⟩ := dec_int ht h
  exact ⟨m, ⟨_, _, rfl, rfl, rfl⟩, by simp [Value.oneCell']⟩
theorem dec_str1 {H : Type} {enc : TypeId × Value → H} {P : Program} {W : World} {spare : Nat → Bool} {held : Bool} {t : TypeId} (ht : P.underlying t = some .string) {n : Nat} {cs : List Value} {r : DataW H × List MemPlace} (h : DataW.trod enc P W 0 spare held n t cs = some r) : ∃ x : Str, SimVs g00 W (encS1 x) cs ∧ ∀ u ∈ cs, u.oneCell' = true := by
  obtain ⟨m, rfl, hm⟩ := dec_str ht h
  exact ⟨m, ⟨_, _, rfl, ⟨rfl, hm⟩, rfl⟩, by simp [Value.oneCell']⟩
end Go.Proofs.Ytcegdbniggdckaa.Gx

namespace Go.Proofs.Ytcegdbniggdckaa.Gx
open Go Go.Proofs.Ytcegdbniggdckaa.Gw
set_option linter.unusedSimpArgs false
set_option linter.unusedVariables false
theorem cells9 : Try.prog.cellsOf 9 = 1 := by kernel_rfl
theorem dec_Lstring {H : Type} {enc : TypeId × Value → H} {W : World} {spare : Nat → Bool} {held : Bool} {n : Nat} {cs : List Value} {r : DataW H × List MemPlace} (h : DataW.trod enc Try.prog W 0 spare held n 23 cs = some r) : ∃ (l : List (Str)) (v : Value), cs = [v] ∧ SimV g00 W (.lst 1 none (l.map encS1)) v ∧ v.oneCell' = true :=
  dec_slice (X := Str) encS1 Try.underlying23 cells9 (by decide) (fun m _ cs r hr => dec_str1 Try.underlying9 hr) h
theorem cells23 : Try.prog.cellsOf 23 = 1 := by kernel_rfl
theorem cells32 : Try.prog.cellsOf 32 = 2 := by kernel_rfl
theorem dec_Node {H : Type} {enc : TypeId × Value → H} {W : World} {spare : Nat → Bool} {held : Bool} : ∀ (n : Nat) (cs : List Value) (r : DataW H × List MemPlace), DataW.trod enc Try.prog W 0 spare held n 32 cs = some r → ∃ x : Node', SimVs g00 W (encN x) cs ∧ ∀ u ∈ cs, u.oneCell' = true := by
  intro n cs r h
  obtain ⟨m, rfl, hl, hf⟩ := dec_struct Try.underlying32 h
  rw [cells32] at hl
  obtain ⟨c0, t0, rfl, l0⟩ := len_succ hl
  obtain ⟨c1, t1, rfl, l1⟩ := len_succ l0
  obtain rfl := List.eq_nil_of_length_eq_zero l1
  simp only [List.forall_mem_cons, cells23, cells9, List.drop_zero, List.drop_succ_cons, List.take_succ_cons, List.take_zero] at hf
  obtain ⟨⟨y0, h0⟩, ⟨y1, h1⟩, _⟩ := hf
  obtain ⟨x0, e0, k0⟩ := dec_str Try.underlying9 h0
  obtain ⟨x1, v1, e1, k1, j1⟩ := dec_Lstring h1
  simp only [List.cons.injEq, and_true] at e0 e1
  subst e0 e1
  refine ⟨Node'.mk x0 x1, ?_, ?_⟩
  · exact ⟨_, _, rfl, ⟨rfl, k0⟩, ⟨_, _, rfl, k1, rfl⟩⟩
  · intro u hu
    simp only [List.mem_cons, List.not_mem_nil, or_false] at hu 
    rcases hu with rfl | rfl <;> first | rfl | exact j1
theorem dec_LNode {H : Type} {enc : TypeId × Value → H} {W : World} {spare : Nat → Bool} {held : Bool} {n : Nat} {cs : List Value} {r : DataW H × List MemPlace} (h : DataW.trod enc Try.prog W 0 spare held n 22 cs = some r) : ∃ (l : List (Node')) (v : Value), cs = [v] ∧ SimV g00 W (.lst 2 none (l.map encN)) v ∧ v.oneCell' = true :=
  dec_slice encN Try.underlying22 cells32 (by decide) (fun m _ cs r hr => dec_Node m cs r hr) h
end Go.Proofs.Ytcegdbniggdckaa.Gx

namespace Go.Proofs.Ytcegdbniggdckaa.Gx
open Go Go.Proofs.Ytcegdbniggdckaa.Gw
set_option linter.unusedSimpArgs false
set_option linter.unusedVariables false
open Go.ChangeShapes Go.WideShapes Go.ChangeAt Go.RowKit
section
variable {H : Type} {enc : TypeId × Value → H} {P : Program} {W : World} {spare : Nat → Bool} {held : Bool}
theorem bulk_mem {d : DataW H} : ∀ {l : List (DataW H)}, d ∈ l → Rows.uptoBulk d ≤ Rows.uptoBulkAll l
  | [], h => by simp at h
  | x :: r, h => by
    simp only [Rows.uptoBulkAll]
    rcases List.mem_cons.1 h with rfl | h
    · omega
    · have := bulk_mem h; omega
theorem dec_structB {t : TypeId} {fs : Array Field} (ht : P.underlying t = some (.struct fs)) {n : Nat} {cs : List Value} {r : DataW H × List MemPlace} (h : DataW.trod enc P W 0 spare held n t cs = some r) :
    ∃ m, n = m + 1 ∧ cs.length = P.cellsOf t ∧ ∀ f ∈ fs.toList, ∃ y, DataW.trod enc P W 0 spare held m f.type ((cs.drop f.offset).take (P.cellsOf f.type)) = some y ∧ Rows.uptoBulk y.1 ≤ Rows.uptoBulk r.1 := by
  cases n with
  | zero => simp [DataW.trod] at h
  | succ n =>
    unfold DataW.trod at h
    rw [ht] at h
    split at h <;> first | (cases h; done) | skip
    all_goals rename_i e; first | (injection e with e; cases e; done) | skip
    · rename_i cs _ _ _
      injection e with e
      injection e with e
      subst e
      split at h
      case isFalse => simp at h
      rename_i hl
      refine ⟨n, rfl, hl, fun f hf => ?_⟩
      cases hm : List.mapM (fun f => DataW.trod enc P W 0 spare held n f.type (List.take (P.cellsOf f.type) (List.drop f.offset cs))) fs.toList with
      | none => rw [hm] at h; simp at h
      | some ys =>
        obtain ⟨i, hi⟩ := List.getElem?_of_mem hf
        obtain ⟨y, hy1, hy⟩ := (mapM_some hm).2 i f hi
        refine ⟨y, hy, ?_⟩
        rw [hm] at h
        simp only [Option.map_some, Option.some.injEq] at h
        rw [← h]
        simp only [Rows.uptoBulk]
        have := bulk_mem (d := y.1) (l := ys.map (·.1)) (List.mem_map_of_mem (List.mem_of_getElem? hy1))
        omega
    · exact (‹∀ fs_1 : Array Field, some (TypeDesc.struct fs) = some (TypeDesc.struct fs_1) → False› fs rfl).elim
theorem dec_sliceB {X : Type} (f : X → List V) {sz : Nat} {e t : TypeId} (ht : P.underlying t = some (.slice e)) (hsz : P.cellsOf e = sz) (hpos : 0 < sz) {n : Nat} {cs : List Value} {r : DataW H × List MemPlace}
    (ih : ∀ m, m < n → ∀ cs y, DataW.trod enc P W 0 spare held m e cs = some y → Rows.uptoBulk y.1 ≤ Rows.uptoBulk r.1 → ∃ x : X, SimVs g00 W (f x) cs ∧ ∀ u ∈ cs, u.oneCell' = true) (h : DataW.trod enc P W 0 spare held n t cs = some r) :
    ∃ (l : List X) (v : Value), cs = [v] ∧ SimV g00 W (.lst sz none (l.map f)) v ∧ v.oneCell' = true := by
  cases n with
  | zero => simp [DataW.trod] at h
  | succ n =>
    unfold DataW.trod at h
    rw [ht] at h
    split at h <;> first | (cases h; done) | skip
    all_goals rename_i e'; first | (injection e' with e'; cases e'; done) | skip
    · exact ⟨[], _, rfl, by simp only [SimV]; exact ⟨none, 0, rfl, by simp, by simp [maxLen], by simp, .inl rfl, by simp, by simp [SimRows]⟩, rfl⟩
    · rename_i a len cap
      injection e' with e'
      injection e' with e'
      subst e'
      rw [hsz] at h
      split at h
      case isFalse => cases h
      rename_i hc
      obtain ⟨_, c1, c2⟩ := hc
      refine Exists.elim (show ∃ elems, (List.range len).mapM (fun i => (W.cells? 0 (a.add (i * sz)) sz).bind (DataW.trod enc P W 0 spare held n e)) = some elems from ?_) fun elems hm => ?_
      · cases hm : (List.range len).mapM (fun i => (W.cells? 0 (a.add (i * sz)) sz).bind (DataW.trod enc P W 0 spare held n e)) with
        | none => dsimp only at h; rw [hm] at h; simp at h
        | some ys => exact ⟨ys, rfl⟩
      obtain ⟨hl, hi⟩ := mapM_some hm
      have hbk : ∀ y ∈ elems, Rows.uptoBulk y.1 ≤ Rows.uptoBulk r.1 := by
        intro y hy
        dsimp only at h
        rw [hm] at h
        simp only [Option.bind_some, Option.map_eq_some_iff] at h
        obtain ⟨zs, -, rfl⟩ := h
        simp only [Rows.uptoBulk]
        have := bulk_mem (d := y.1) (l := elems.map (·.1)) (List.mem_map_of_mem hy)
        omega
      have each : ∀ i ∈ List.range len, ∃ x : X, ∃ cs : List Value, cs.length = sz ∧ SimVs g00 W (f x) cs ∧ (∀ u ∈ cs, u.oneCell' = true) ∧ ∀ (j : Nat) (u : Value), cs[j]? = some u → W.cell? ((a.add (i * sz)).add j) = some u := by
        intro i hir
        rw [List.mem_range] at hir
        obtain ⟨y, hy1, hy⟩ := hi i i (by rw [List.getElem?_range hir])
        cases hcs : W.cells? 0 (a.add (i * sz)) sz with
        | none => rw [hcs] at hy; simp at hy
        | some cs =>
          rw [hcs] at hy
          obtain ⟨k1, k2⟩ := dec_cells hcs
          obtain ⟨x, k3, k4⟩ := ih n (Nat.lt_succ_self n) cs y hy (hbk y (List.mem_of_getElem? hy1))
          exact ⟨x, cs, k1, k3, k4, k2⟩
      obtain ⟨xs, hxl, hxs⟩ := choose_list (List.range len) each
      rw [List.length_range] at hxl
      refine ⟨xs, _, rfl, ?_, rfl⟩
      simp only [SimV]
      refine ⟨some a, cap, by rw [List.length_map, hxl], by rw [List.length_map, hxl]; exact c1, c2, by simp, ?_, by simp, ?_⟩
      · cases xs with
        | nil => exact .inl rfl
        | cons x xs =>
          right
          obtain ⟨cs, k1, _, _, k2⟩ := hxs 0 0 x (by rw [List.getElem?_range (by simp at hxl; omega)]) rfl
          have h0 : cs[0]? = some (cs[0]'(by omega)) := List.getElem?_eq_getElem _
          have := World.cell?_spot (k2 0 _ h0)
          simpa [Addr.add] using this
      · cases xs with
        | nil => simp [SimRows]
        | cons x xs =>
          obtain ⟨cs, k1, _, _, k2⟩ := hxs 0 0 x (by rw [List.getElem?_range (by simp at hxl; omega)]) rfl
          have h0 : cs[0]? = some (cs[0]'(by omega)) := List.getElem?_eq_getElem _
          have hc0 := k2 0 _ h0
          have hsp : a.spot = none := by have := World.cell?_spot hc0; simpa [Addr.add] using this
          have hblk : a.block < W.heap.size := by
            unfold World.cell? at hc0
            split at hc0
            · rename_i hh
              have := (Array.getElem?_eq_some_iff.1 hh).1
              rw [Addr.add_eq hsp, Addr.add_eq rfl] at this
              exact this
            · cases hc0
          obtain ⟨b, off, sp⟩ := a
          simp only at hsp hblk
          subst hsp
          simp only [Option.getD_some]
          refine dec_rows hblk (x :: xs) off fun i y hy => ?_
          have hil : i < len := by rw [← hxl]; exact (List.getElem?_eq_some_iff.1 hy).1
          obtain ⟨cs, j1, j2, j3, j4⟩ := hxs i i y (by rw [List.getElem?_range hil]) hy
          refine ⟨cs, j1, j2, j3, fun j u hj => ?_⟩
          have := j4 j u hj
          rw [show (Addr.mk b off none).add (i * sz) = ⟨b, off + i * sz, none⟩ from Addr.add_eq rfl _, show (Addr.mk b (off + i * sz) none).add j = ⟨b, off + i * sz + j, none⟩ from Addr.add_eq rfl _] at this
          exact this
    all_goals first | (exact (‹∀ (e_1 : TypeId) (a : Addr) (len cap : Nat), some (TypeDesc.slice e) = some (TypeDesc.slice e_1) → _ → False› e _ _ _ rfl (by assumption)).elim) | (simp at h)
end
theorem dec_NodeB {H : Type} {enc : TypeId × Value → H} {W : World} {spare : Nat → Bool} {held : Bool} : ∀ (n : Nat) (cs : List Value) (r : DataW H × List MemPlace), DataW.trod enc Try.prog W 0 spare held n 32 cs = some r → Rows.uptoBulk r.1 ≤ 1048576 →
    ∃ x : { x : Node' // x.needs.length ≤ 1048576 }, SimVs g00 W (encN x.1) cs ∧ ∀ u ∈ cs, u.oneCell' = true := by
  intro n cs r h hb
  obtain ⟨m, rfl, hl, hf⟩ := dec_structB Try.underlying32 h
  rw [cells32] at hl
  obtain ⟨c0, t0, rfl, l0⟩ := len_succ hl
  obtain ⟨c1, t1, rfl, l1⟩ := len_succ l0
  obtain rfl := List.eq_nil_of_length_eq_zero l1
  simp only [List.forall_mem_cons, cells23, cells9, List.drop_zero, List.drop_succ_cons, List.take_succ_cons, List.take_zero] at hf
  obtain ⟨⟨y0, h0, -⟩, ⟨y1, h1, b1⟩, _⟩ := hf
  obtain ⟨x0, e0, k0⟩ := dec_str Try.underlying9 h0
  obtain ⟨x1, v1, e1, k1, j1⟩ := dec_Lstring h1
  simp only [List.cons.injEq, and_true] at e0 e1
  subst e0 e1
  have q := bulk_slice Try.underlying23 h1 k1
  rw [List.length_map] at q
  refine ⟨⟨Node'.mk x0 x1, by simp only; omega⟩, ?_, ?_⟩
  · exact ⟨_, _, rfl, ⟨rfl, k0⟩, ⟨_, _, rfl, k1, rfl⟩⟩
  · intro u hu
    simp only [List.mem_cons, List.not_mem_nil, or_false] at hu 
    rcases hu with rfl | rfl <;> first | rfl | exact j1
theorem dec_LNodeB {H : Type} {enc : TypeId × Value → H} {W : World} {spare : Nat → Bool} {held : Bool} {n : Nat} {cs : List Value} {r : DataW H × List MemPlace} (h : DataW.trod enc Try.prog W 0 spare held n 22 cs = some r) (hb : Rows.uptoBulk r.1 ≤ 1048576) :
    ∃ (l : List (Node')) (v : Value), cs = [v] ∧ SimV g00 W (.lst 2 none (l.map encN)) v ∧ v.oneCell' = true ∧ NOk l := by
  obtain ⟨l, v, rfl, k2, k3⟩ := dec_sliceB (X := { x : Node' // x.needs.length ≤ 1048576 }) (fun x => encN x.1) Try.underlying22 cells32 (by decide) (fun m _ cs y hy hyb => dec_NodeB m cs y hy (by omega)) h
  have e : l.map (fun x => encN x.1) = (l.map (·.1)).map encN := by rw [List.map_map]; rfl
  have q := bulk_slice Try.underlying22 h k2
  rw [List.length_map] at q
  refine ⟨l.map (·.1), v, rfl, by rw [← e]; exact k2, k3, ⟨by rw [List.length_map]; omega, fun n hn => ?_⟩⟩
  obtain ⟨x, _, rfl⟩ := List.mem_map.1 hn
  exact x.2
end Go.Proofs.Ytcegdbniggdckaa.Gx

namespace Go.Proofs.Ytcegdbniggdckaa.Gx
open Go Go.Proofs.Ytcegdbniggdckaa.Gw
set_option linter.unusedSimpArgs false
set_option linter.unusedVariables false

theorem c_in4 (st : St) (l : List Str) (s : Str) : VCalls Try.prog TT 24 [encS l, .str s] st fun r st' => r = .ret (.bool (decide (s ∈ l))) ∧ st' = st := by
  refine vfun TT_ok (an := anL []) (L := [0, 1, 4, 6, 7, 8, 9]) (rs := [.tmp 4]) Try.func24 rfl (by kernel_rfl) rfl Try.ntmps24 rfl rfl (Nat.le_refl _) fun hst ha hf => ?_
  simp only [encS, fitL, V.fit, List.length_map] at hf
  simp only [encS]
  simp only [gwL, gwB, gwD, gwE, gwS, gwTT, gwZ, gwN, gwC, Nat.reduceEqDiff, ↓reduceIte, Nat.reduceAdd, Nat.reduceLT, Nat.reduceLeDiff, Nat.reduceMul, List.length_map]
  refine vfor (σ := Nat) [0, 1, 4, 8, 7, 9] (fun i => [(0, true, encS l), (1, true, .str s), (4, true, .bool false), (8, true, .int .i64 l.length), (7, true, encS l), (9, true, .int .i64 i)]) (fun i => st) (fun i => l.length - i) (fun i => i ≤ l.length ∧ decide (s ∈ l) = decide (s ∈ l.drop i)) 0 rfl TT_ok ⟨Nat.zero_le _, rfl⟩ rfl rfl ?_
  rintro i ⟨hi, hx⟩
  rw [hx]
  rcases at_or_end l i hi with ⟨rfl, hd⟩ | ⟨a, hlt, hget, hdr⟩
  · simp only [gwL, gwB, gwD, gwE, gwS, gwTT, gwZ, gwN, gwC, Nat.reduceEqDiff, ↓reduceIte, Nat.reduceAdd, Nat.reduceLT, Nat.reduceLeDiff, Nat.reduceMul, lt_no, hd]
    exact gives_bool (by simp) hst
  · simp only [encS]
    simp only [gwL, gwB, gwD, gwE, gwS, gwTT, gwZ, gwN, gwC, Nat.reduceEqDiff, ↓reduceIte, Nat.reduceAdd, Nat.reduceLT, Nat.reduceLeDiff, Nat.reduceMul, lt_yes hlt, hdr, List.length_map, getD_map hget, Int.ofNat_lt.mpr hlt]
    refine iK_split (fun h => ?_) (fun h => ?_)
    · have h' := of_decide_eq_true h
      simp only [gwL, gwB, gwD, gwE, gwS, gwTT, gwZ, gwN, gwC, Nat.reduceEqDiff, ↓reduceIte, Nat.reduceAdd, Nat.reduceLT, Nat.reduceLeDiff, Nat.reduceMul]
      exact gives_bool (by simp [h']) hst
    · have h' := of_decide_eq_false h
      simp only [gwL, gwB, gwD, gwE, gwS, gwTT, gwZ, gwN, gwC, Nat.reduceEqDiff, ↓reduceIte, Nat.reduceAdd, Nat.reduceLT, Nat.reduceLeDiff, Nat.reduceMul, Env.keep]
      exact ⟨i + 1, by rw [next_i64 hlt hf.1.1], by omega, hlt, by simp [Ne.symm h']⟩
set_option maxHeartbeats 2000000 in
theorem c_Needs4 (st : St) (l : List Node') (s : Str) (hl : l.length ≤ 1048576) : VCalls Try.prog TT 23 [lstN l, .str s] st fun r st' => r = .ret (.tup [encS ((fndL s l).getD []), .bool (fndL s l).isSome]) ∧ st' = st := by
  refine vfun TT_ok (an := anL []) (L := [0, 1, 4, 5, 7, 8, 9, 10]) (rs := [.tmp 4, .tmp 5]) Try.func23 rfl (by kernel_rfl) rfl Try.ntmps23 rfl rfl (Nat.le_refl _) fun hst ha hf => ?_
  generalize hr : fndL s l = res
  have give : ∀ (v : V) (b : Bool) (ex : St), wk v (encS (res.getD [])) → b = res.isSome → Gives (.tup [encS (res.getD []), .bool res.isSome]) st (.ret (.tup [v, .bool b])) (st ++ ex) := fun v b ex hw hb => by
    rw [hb]
    refine gives_of (wk_tup (wkL_cons hw (wkL_refl _))) (wkSt_refl _) ?_ hst
    simp only [encS, V.lt, ltL, and_true, true_and]
    exact ⟨fun e h => (by cases h), ltRows_map fun x _ => ⟨trivial, trivial⟩⟩
  simp only [lstN]
  simp only [gwL, gwB, gwD, gwE, gwS, gwTT, gwZ, gwN, gwC, Nat.reduceEqDiff, ↓reduceIte, Nat.reduceAdd, Nat.reduceLT, Nat.reduceLeDiff, Nat.reduceMul, List.length_map]
  refine vfor (σ := Nat × St) [0, 1, 4, 5, 8, 9, 10] (fun x => [(0, true, .lst 2 none (l.map encN)), (1, true, .str s), (4, true, .nils), (5, true, .bool false), (8, true, .lst 2 none (l.map encN)), (9, true, .int .i64 l.length), (10, true, .int .i64 x.1)]) (fun x => x.2) (fun x => l.length - x.1) (fun x => x.1 ≤ l.length ∧ (∃ ex, x.2 = st ++ ex) ∧ fndL s l = fndL s (l.drop x.1)) (0, st) rfl TT_ok ⟨Nat.zero_le _, ⟨[], by rw [List.append_nil]⟩, rfl⟩ rfl rfl ?_
  rintro ⟨i, S⟩ ⟨hi, ⟨ex, hex⟩, hx⟩
  simp only at hi hex hx ⊢
  subst hex
  rcases at_or_end l i hi with ⟨hie, hd⟩ | ⟨u, hlt, hget, hdr⟩
  · have hie2 : i = l.length := hie
    subst hie2
    rw [hd, fndL] at hx
    simp only [gwL, gwB, gwD, gwE, gwS, gwTT, gwZ, gwN, gwC, Nat.reduceEqDiff, ↓reduceIte, Nat.reduceAdd, Nat.reduceLT, Nat.reduceLeDiff, Nat.reduceMul, lt_no]
    exact give _ _ _ (by rw [← hr, hx]; exact wk_nils 1) (by rw [← hr, hx]; rfl)
  · have hg : (l.map encN).getD i [] = encN u := getD_map hget
    have w : IntKind.i64.wrap ((i : Int) + 1) = ((i + 1 : Nat) : Int) := next_i64 hlt (by omega)
    obtain ⟨un, us⟩ := u
    rw [hdr, fndL] at hx
    simp only at hx
    simp only [gwL, gwB, gwD, gwE, gwS, gwTT, gwZ, gwN, gwC, Nat.reduceEqDiff, ↓reduceIte, Nat.reduceAdd, Nat.reduceLT, Nat.reduceLeDiff, Nat.reduceMul, lt_yes hlt, hg, encN_mk, List.length_map, Int.ofNat_lt.mpr hlt, Int.toNat_natCast]
    refine iK_split (fun h => ?_) (fun h => ?_)
    · have h' := of_decide_eq_true h
      rw [if_pos h'] at hx
      simp only [gwL, gwB, gwD, gwE, gwS, gwTT, gwZ, gwN, gwC, Nat.reduceEqDiff, ↓reduceIte, Nat.reduceAdd, Nat.reduceLT, Nat.reduceLeDiff, Nat.reduceMul]
      exact give _ _ _ (by rw [← hr, hx]; exact wk_refl _) (by rw [← hr, hx]; rfl)
    · have h' := of_decide_eq_false h
      rw [if_neg h'] at hx
      simp only [gwL, gwB, gwD, gwE, gwS, gwTT, gwZ, gwN, gwC, Nat.reduceEqDiff, ↓reduceIte, Nat.reduceAdd, Nat.reduceLT, Nat.reduceLeDiff, Nat.reduceMul, w, Env.keep]
      exact ⟨(i + 1, _), rfl, rfl, by simp only; omega, by simp only; omega, ⟨_, rfl⟩, hx⟩
theorem fnd_memC {s : Str} {v : List Str} : ∀ {l : List Node'}, fndL s l = some v → ∃ n ∈ l, n.name = s ∧ n.needs = v
  | [], h => by simp [fndL] at h
  | n :: r, h => by
    rw [fndL] at h
    by_cases e : n.name = s
    · rw [if_pos e] at h; cases h; exact ⟨n, by simp, e, rfl⟩
    · rw [if_neg e] at h
      obtain ⟨m, h1, h2⟩ := fnd_memC h
      exact ⟨m, by simp [h1], h2⟩
/-- What a name needs, as the nodes tell it. -/
def ndF (l : List Node') (s : Str) : List Str := (fndL s l).getD []
theorem ndF_mem {l : List Node'} {s m : Str} (h : m ∈ ndF l s) : m ∈ l.flatMap (·.needs) := by
  unfold ndF at h
  cases e : fndL s l with
  | none => rw [e] at h; simp at h
  | some v =>
    rw [e] at h
    obtain ⟨n, hn, -, rfl⟩ := fnd_memC e
    exact List.mem_flatMap.2 ⟨n, hn, h⟩
open Classical in
set_option maxRecDepth 20000 in
set_option maxHeartbeats 4000000 in
theorem c_Reaches (st : St) (l : List Node') (a b : Str) (hN : NOk l) : VCalls Try.prog TT 12 [lstN l, .str a, .str b] st fun r st' => r = .ret (.bool (decide (Rch (ndF l) a b))) ∧ st' = st := by
  refine vfun TT_ok (an := anL [(13, 1), (15, 1), (28, 3)]) (L := [0, 1, 2, 6, 7, 8, 9, 12, 29, 30, 31]) (rs := [.tmp 6]) Try.func12 rfl (by kernel_rfl) rfl Try.ntmps12 rfl rfl (Nat.le_refl _) fun hst ha hf => ?_
  simp only [lstN]
  have hfew := hN.few
  have hU : (l.flatMap (·.needs)).length ≤ l.length * 1048576 := by
    have key : ∀ l : List Node', (∀ n ∈ l, n.needs.length ≤ 1048576) → (l.flatMap (·.needs)).length ≤ l.length * 1048576 := fun l => by
      induction l with
      | nil => simp
      | cons n r ih =>
        intro h
        have h1 := h n (by simp)
        have h2 := ih fun m hm => h m (by simp [hm])
        simp only [List.flatMap_cons, List.length_append, List.length_cons, Nat.succ_mul] at *
        omega
    exact key l hN.len
  obtain ⟨U, hUe⟩ : ∃ U, U = l.flatMap (·.needs) := ⟨_, rfl⟩
  rw [← hUe] at hU
  simp only [gwL, gwB, gwD, gwE, gwS, gwTT, gwZ, gwN, gwC, Nat.reduceEqDiff, ↓reduceIte, Nat.reduceAdd, Nat.reduceLT, Nat.reduceLeDiff, Nat.reduceMul]
  refine vfor (σ := St × List Str × List Str × Nat) [0, 1, 2, 6, 7, 8] (fun x => [(0, true, .lst 2 none (l.map encN)), (1, true, .str a), (2, true, .str b), (6, true, .bool false), (7, true, .lst 1 (some st.length) (rowsS x.2.1)), (8, true, .lst 1 (some x.2.2.2) (rowsS x.2.2.1))]) (fun x => x.1) (fun x => leftU U x.2.1 + x.2.2.1.length) (fun x => (∃ X, x.1 = st ++ X) ∧ x.1[st.length]? = some (.tip 9 x.2.1.length) ∧ x.1[x.2.2.2]? = some (.tip 9 x.2.2.1.length) ∧ x.2.2.2 ≠ st.length ∧ st.length ≤ x.2.2.2 ∧ leftU U x.2.1 + x.2.2.1.length ≤ 2199023255552 ∧ leftU U x.2.1 + x.2.1.length ≤ 2199023255552 ∧ (∀ m ∈ x.2.1, Rch (ndF l) a m) ∧ (∀ m ∈ x.2.2.1, m = a ∨ m ∈ x.2.1) ∧ (∀ n, (n = a ∨ n ∈ x.2.1) → n ∈ x.2.2.1 ∨ ∀ m ∈ ndF l n, m ≠ b ∧ m ∈ x.2.1)) (st ++ [Ent.tip 9 0, Ent.tip 9 1], [], [a], st.length + 1) rfl TT_ok ⟨⟨_, rfl⟩, by simp, by simp, by simp, by simp, by have := leftU_le U []; simp only [List.length_cons, List.length_nil]; omega, by have := leftU_le U []; simp only [List.length_nil]; omega, by simp, by simp, by simp⟩ rfl rfl ?_
  rintro ⟨S, seen, todo, k8⟩ ⟨⟨X, hX⟩, h7, h8, hk1, hk2, hb1, hb2, hc1, hc2, hc3⟩
  simp only at hX h7 h8 hk1 hk2 hb1 hb2 hc1 hc2 hc3 ⊢
  cases todo with
  | nil =>
    have d0 : decide ((0 : Int) < ((0 : Nat) : Int)) = false := rfl
    simp only [gwL, gwB, gwD, gwE, gwS, gwTT, gwZ, gwN, gwC, Nat.reduceEqDiff, ↓reduceIte, Nat.reduceAdd, Nat.reduceLT, Nat.reduceLeDiff, Nat.reduceMul, rowsS_len, List.length_nil, d0]
    have hno : ¬ Rch (ndF l) a b := fun hr => by
      have key : ∀ m, Rch (ndF l) a m → m ≠ b ∧ m ∈ seen := fun m hm => by
        induction hm with
        | one h => exact ((hc3 a (.inl rfl)).resolve_left (by simp)) _ h
        | step _ h ih => exact ((hc3 _ (.inr ih.2)).resolve_left (by simp)) _ h
      exact (key b hr).1 rfl
    rw [hX]
    exact gives_bool' (by simp [hno]) hst
  | cons n rest =>
    have d0 : decide ((0 : Int) < ((rest.length + 1 : Nat) : Int)) = true := decide_eq_true (by omega)
    have hrn : rowsS (n :: rest) = [V.str n] :: rowsS rest := rfl
    have hg0 : (rowsS (n :: rest)).getD (Int.toNat 0) [] = [V.str n] := rfl
    have hdl : (ndF l n).length ≤ 1048576 := by
      unfold ndF
      cases e : fndL n l with
      | none => simp
      | some v =>
        obtain ⟨u, hu, -, rfl⟩ := fnd_memC e
        exact hN.len u hu
    have hnR : ∀ m ∈ ndF l n, Rch (ndF l) a m := fun m hm => by
      rcases hc2 n (by simp) with rfl | h
      · exact .one hm
      · exact .step (hc1 n h) hm
    simp only [gwL, gwB, gwD, gwE, gwS, gwTT, gwZ, gwN, gwC, Nat.reduceEqDiff, ↓reduceIte, Nat.reduceAdd, Nat.reduceLT, Nat.reduceLeDiff, Nat.reduceMul, rowsS_len, List.length_cons, d0, hg0]
    refine ⟨by omega, ?_⟩
    refine (c_Needs4 S l n hfew).use (wkL_refl _) fun _ => ?_
    have hl8 := (List.getElem?_eq_some_iff.1 h8).1
    have hl7 := (List.getElem?_eq_some_iff.1 h7).1
    have hdr1 : List.drop (Int.toNat 1) (rowsS (n :: rest)) = rowsS rest := rfl
    rw [show (fndL n l).getD [] = ndF l n from rfl]
    have hsub : rest.length + 1 - Int.toNat 1 = rest.length := rfl
    simp only [gwL, gwB, gwD, gwE, gwS, gwTT, gwZ, gwN, gwC, Nat.reduceEqDiff, ↓reduceIte, Nat.reduceAdd, Nat.reduceLT, Nat.reduceLeDiff, Nat.reduceMul, encS, sufE, sufS, h8, hdr1, rowsS_len, hsub, List.length_map, List.length_cons]
    refine ⟨by omega, ?_⟩
    obtain ⟨S1, hS1⟩ : ∃ S1 : St, S1 = S.set k8 .gone ++ [Ent.tip 9 rest.length] := ⟨_, rfl⟩
    rw [← hS1]
    have g7 : S1[st.length]? = some (.tip 9 seen.length) := by rw [hS1, st_old (by simp; omega), List.getElem?_set_ne (by omega), h7]
    have g8 : S1[S.length]? = some (.tip 9 rest.length) := by rw [hS1, List.getElem?_append_right (by simp)]; simp
    have gp : ∃ X, S1 = st ++ X := ⟨_, by rw [hS1, hX, List.set_append_right _ _ (by omega), List.append_assoc]⟩
    have hSl : st.length < S.length := hl7
    clear hS1
    refine vfor (σ := St × List Str × List Str × Nat) [0, 1, 2, 6, 7, 8, 29, 30, 31] (fun y => [(0, true, .lst 2 none (l.map encN)), (1, true, .str a), (2, true, .str b), (6, true, .bool false), (7, true, .lst 1 (some st.length) (rowsS y.2.1)), (8, true, .lst 1 (some S.length) (rowsS y.2.2.1)), (29, true, .lst 1 none (rowsS (ndF l n))), (30, true, .int .i64 (ndF l n).length), (31, true, .int .i64 y.2.2.2)]) (fun y => y.1) (fun y => (ndF l n).length - y.2.2.2) (fun y => y.2.2.2 ≤ (ndF l n).length ∧ (∃ X, y.1 = st ++ X) ∧ y.1[st.length]? = some (.tip 9 y.2.1.length) ∧ y.1[S.length]? = some (.tip 9 y.2.2.1.length) ∧ leftU U y.2.1 + y.2.2.1.length ≤ leftU U seen + rest.length ∧ leftU U y.2.1 + y.2.1.length ≤ leftU U seen + seen.length ∧ (∀ m ∈ y.2.1, Rch (ndF l) a m) ∧ (∀ m ∈ seen, m ∈ y.2.1) ∧ (∀ m ∈ rest, m ∈ y.2.2.1) ∧ (∀ m ∈ y.2.2.1, m = a ∨ m ∈ y.2.1) ∧ (∀ m ∈ y.2.1, m ∈ seen ∨ m ∈ y.2.2.1) ∧ (∀ m ∈ (ndF l n).take y.2.2.2, m ≠ b ∧ m ∈ y.2.1)) (S1, seen, rest, 0) rfl TT_ok ⟨Nat.zero_le _, gp, g7, g8, Nat.le_refl _, Nat.le_refl _, hc1, fun _ h => h, fun _ h => h, fun m hm => hc2 m (by simp [hm]), fun _ h => .inl h, by simp⟩ rfl rfl ?_
    rintro ⟨S2, s2, t2, p⟩ ⟨hp, ⟨X2, hX2⟩, i7, i8, j1, j2, j3, j4, j5, j6, j7, j8⟩
    simp only at hp hX2 i7 i8 j1 j2 j3 j4 j5 j6 j7 j8 ⊢
    simp only [List.length_cons] at hb1
    rcases at_or_end (ndF l n) p hp with ⟨hpe, -⟩ | ⟨m, hpt, hpg, -⟩
    · have hpe2 : p = (ndF l n).length := hpe
      subst hpe2
      rw [List.take_length] at j8
      simp only [gwL, gwB, gwD, gwE, gwS, gwTT, gwZ, gwN, gwC, Nat.reduceEqDiff, ↓reduceIte, Nat.reduceAdd, Nat.reduceLT, Nat.reduceLeDiff, Nat.reduceMul, lt_no, Env.keep]
      refine ⟨(S2, s2, t2, S.length), rfl, rfl, by simp only; omega, ⟨X2, hX2⟩, i7, i8, by simp only; omega, by simp only; omega, by simp only; omega, by simp only; omega, j3, j6, fun n' hn' => ?_⟩
      simp only at hn' ⊢
      have old : (n' = a ∨ n' ∈ seen) → n' ∈ t2 ∨ ∀ m ∈ ndF l n', m ≠ b ∧ m ∈ s2 := fun ho => by
        rcases hc3 n' ho with h | h
        · rcases List.mem_cons.1 h with rfl | h
          · exact .inr j8
          · exact .inl (j5 _ h)
        · exact .inr fun m hm => ⟨(h m hm).1, j4 m (h m hm).2⟩
      rcases hn' with h | h
      · exact old (.inl h)
      · rcases j7 n' h with h | h
        · exact old (.inr h)
        · exact .inl h
    · have w : IntKind.i64.wrap ((p : Int) + 1) = ((p + 1 : Nat) : Int) := next_i64 hpt (by omega)
      have hmn := List.mem_of_getElem? hpg
      have htk : (ndF l n).take (p + 1) = (ndF l n).take p ++ [m] := by rw [List.take_add_one, hpg]; rfl
      simp only [gwL, gwB, gwD, gwE, gwS, gwTT, gwZ, gwN, gwC, Nat.reduceEqDiff, ↓reduceIte, Nat.reduceAdd, Nat.reduceLT, Nat.reduceLeDiff, Nat.reduceMul, lt_yes hpt, rowsS_getD hpg, rowsS_len, Int.toNat_natCast, Int.ofNat_lt.mpr hpt]
      refine iK_split (fun h => ?_) (fun h => ?_)
      · have h' := of_decide_eq_true h
        simp only [gwL, gwB, gwD, gwE, gwS, gwTT, gwZ, gwN, gwC, Nat.reduceEqDiff, ↓reduceIte, Nat.reduceAdd, Nat.reduceLT, Nat.reduceLeDiff, Nat.reduceMul]
        rw [hX2]
        exact gives_bool' (by simp [h' ▸ hnR m hmn]) hst
      have hmb := of_decide_eq_false h
      simp only [gwL, gwB, gwD, gwE, gwS, gwTT, gwZ, gwN, gwC, Nat.reduceEqDiff, ↓reduceIte, Nat.reduceAdd, Nat.reduceLT, Nat.reduceLeDiff, Nat.reduceMul]
      refine (c_in4 S2 s2 m).use (wkL_cons (wk_tok ..) (wkL_refl _)) fun _ => ?_
      simp only [gwL, gwB, gwD, gwE, gwS, gwTT, gwZ, gwN, gwC, Nat.reduceEqDiff, ↓reduceIte, Nat.reduceAdd, Nat.reduceLT, Nat.reduceLeDiff, Nat.reduceMul]
      refine iK_split (fun h => ?_) (fun h => ?_)
      · have hnc : m ∉ s2 := by simpa using h
        have hle := leftU_new (U := U) (by rw [hUe]; exact ndF_mem hmn) hnc
        have hne : S.length ≠ st.length := by omega
        have i7' : ∀ e : Ent, (S2.set st.length e)[S.length]? = some (.tip 9 t2.length) := fun e => by rw [List.getElem?_set_ne (by omega), i8]
        simp only [gwL, gwB, gwD, gwE, gwS, gwTT, gwZ, gwN, gwC, Nat.reduceEqDiff, ↓reduceIte, Nat.reduceAdd, Nat.reduceLT, Nat.reduceLeDiff, Nat.reduceMul, w, rowsS_len, i7, i7', Env.keep]
        have r1 : rowsS s2 ++ [[V.str m]] = rowsS (s2 ++ [m]) := by simp [rowsS]
        have r2 : rowsS t2 ++ [[V.str m]] = rowsS (t2 ++ [m]) := by simp [rowsS]
        have n1 : (s2 ++ [m]).length = s2.length + 1 := by simp
        have n2 : (t2 ++ [m]).length = t2.length + 1 := by simp
        have l2 := (List.getElem?_eq_some_iff.1 i7).1
        have l3 := (List.getElem?_eq_some_iff.1 i8).1
        refine ⟨by omega, by omega, (_, s2 ++ [m], t2 ++ [m], p + 1), by simp only [r1, r2], rfl, by simp only; omega, by simp only; omega, ⟨_, by simp only; rw [hX2, List.set_append_right _ _ (by omega), List.set_append_right _ _ (by omega)]⟩, ?_, ?_, by simp only [n2]; omega, by simp only [n1]; omega, ?_, ?_, ?_, ?_, ?_, ?_⟩
        · simp only [n1]; rw [List.getElem?_set_ne hne, List.getElem?_set_self l2]
        · simp only [n2]; rw [List.getElem?_set_self (by rw [List.length_set]; exact l3)]
        · intro x hx
          simp only at hx
          rcases List.mem_append.1 hx with hx | hx
          · exact j3 x hx
          · rw [List.mem_singleton] at hx; subst hx; exact hnR x hmn
        · exact fun x hx => List.mem_append_left _ (j4 x hx)
        · exact fun x hx => List.mem_append_left _ (j5 x hx)
        · intro x hx
          simp only at hx ⊢
          rcases List.mem_append.1 hx with hx | hx
          · rcases j6 x hx with h | h
            · exact .inl h
            · exact .inr (List.mem_append_left _ h)
          · exact .inr (List.mem_append_right _ hx)
        · intro x hx
          simp only at hx ⊢
          rcases List.mem_append.1 hx with hx | hx
          · rcases j7 x hx with h | h
            · exact .inl h
            · exact .inr (List.mem_append_left _ h)
          · exact .inr (List.mem_append_right _ hx)
        · intro x hx
          simp only [htk] at hx ⊢
          rcases List.mem_append.1 hx with hx | hx
          · exact ⟨(j8 x hx).1, List.mem_append_left _ (j8 x hx).2⟩
          · rw [List.mem_singleton] at hx; subst hx; exact ⟨hmb, List.mem_append_right _ (by simp)⟩
      · have hnc : m ∈ s2 := by simpa using h
        simp only [gwL, gwB, gwD, gwE, gwS, gwTT, gwZ, gwN, gwC, Nat.reduceEqDiff, ↓reduceIte, Nat.reduceAdd, Nat.reduceLT, Nat.reduceLeDiff, Nat.reduceMul, w, Env.keep]
        exact ⟨(S2, s2, t2, p + 1), rfl, rfl, by simp only; omega, by simp only; omega, ⟨X2, hX2⟩, i7, i8, j1, j2, j3, j4, j5, j6, j7, fun m' hm' => by
          simp only [htk] at hm'
          rcases List.mem_append.1 hm' with hm' | hm'
          · exact j8 m' hm'
          · rw [List.mem_singleton] at hm'; subst hm'; exact ⟨hmb, hnc⟩⟩
end Go.Proofs.Ytcegdbniggdckaa.Gx

namespace Go.Proofs.Ytcegdbniggdckaa.Gx
open Go Go.Proofs.Ytcegdbniggdckaa.Gw
set_option linter.unusedSimpArgs false
set_option linter.unusedVariables false

set_option maxRecDepth 20000 in
set_option maxHeartbeats 4000000 in
theorem c_Names4 (st : St) (l : List Node') (hl : l.length ≤ 1048576) : VCalls Try.prog TT 22 [lstN l] st fun r st' => r = .ret (encS (sortS (l.map (·.name)))) ∧ st' = st := by
  refine vfun TT_ok (an := anL [(28, 1)]) (L := [0, 2, 3, 5, 6, 7, 8, 9]) (rs := [.tmp 2]) Try.func22 rfl (by kernel_rfl) rfl Try.ntmps22 rfl rfl (Nat.le_refl _) fun hst ha hf => ?_
  simp only [lstN]
  simp only [gwL, gwB, gwD, gwE, gwS, gwTT, gwZ, gwN, gwC, Nat.reduceEqDiff, ↓reduceIte, Nat.reduceAdd, Nat.reduceLT, Nat.reduceLeDiff, Nat.reduceMul, List.length_map]
  refine vmore [9] [0, 2, 3, 7, 8, 9] [(0, true, .lst 2 none (l.map encN)), (2, true, .nils), (3, true, .lst 1 (some st.length) []), (7, true, .lst 2 none (l.map encN)), (8, true, .int .i64 l.length), (9, true, .int .i64 0)] (st ++ [Ent.tip 9 0]) rfl ?_ ?_ ?_
  · simp only [gwL, gwB, gwD, gwE, gwS, gwTT, gwZ, gwN, gwC, Nat.reduceEqDiff, ↓reduceIte, Nat.reduceAdd, Nat.reduceLT, Nat.reduceLeDiff, Nat.reduceMul, Env.keep]
    exact wkE_cons (wk_refl _) (wkE_cons (wk_refl _) (wkE_cons (wk_tip _ (by simp [Tips])) (wkE_refl _)))
  · exact ⟨_, wkSt_refl _, rfl⟩
  refine vfor (σ := Nat × List Str × Nat × St) [0, 2, 3, 7, 8, 9] (fun x => [(0, true, .lst 2 none (l.map encN)), (2, true, .nils), (3, true, .lst 1 (some x.2.2.1) (rowsS x.2.1)), (7, true, .lst 2 none (l.map encN)), (8, true, .int .i64 l.length), (9, true, .int .i64 x.1)]) (fun x => x.2.2.2) (fun x => l.length - x.1) (fun x => x.1 ≤ l.length ∧ (∃ X, x.2.2.2 = st ++ X) ∧ x.2.1.Pairwise (· ≤ ·) ∧ x.2.1.Perm ((l.take x.1).map (·.name))) (0, [], st.length, st ++ [Ent.tip 9 0]) rfl TT_ok ⟨Nat.zero_le _, ⟨_, rfl⟩, List.Pairwise.nil, by simp⟩ rfl rfl ?_
  rintro ⟨i, out, t3, S⟩ ⟨hi, ⟨X, hX⟩, hso, hpm⟩
  simp only at hi hX hso hpm ⊢
  have hol : out.length = i := by rw [hpm.length_eq, List.length_map, List.length_take]; omega
  rcases at_or_end l i hi with ⟨hie, -⟩ | ⟨u, hlt, hget, -⟩
  · have hie2 : i = l.length := hie
    subst hie2
    rw [List.take_length] at hpm
    simp only [gwL, gwB, gwD, gwE, gwS, gwTT, gwZ, gwN, gwC, Nat.reduceEqDiff, ↓reduceIte, Nat.reduceAdd, Nat.reduceLT, Nat.reduceLeDiff, Nat.reduceMul, lt_no]
    rw [hX, sorted_eq (sortS_sorted _) hso ((sortS_perm _).trans hpm.symm)]
    refine gives_of (wk_tok ..) (wkSt_refl _) ?_ hst
    simp only [encS, V.lt]
    exact ⟨fun e h => (by cases h), ltRows_map fun x _ => ⟨trivial, trivial⟩⟩
  · have hg : (l.map encN).getD i [] = encN u := getD_map hget
    have w : IntKind.i64.wrap ((i : Int) + 1) = ((i + 1 : Nat) : Int) := next_i64 hlt (by omega)
    have htk : (l.take (i + 1)).map (·.name) = (l.take i).map (·.name) ++ [u.name] := by rw [List.take_add_one, hget]; simp
    obtain ⟨un, us⟩ := u
    simp only [gwL, gwB, gwD, gwE, gwS, gwTT, gwZ, gwN, gwC, Nat.reduceEqDiff, ↓reduceIte, Nat.reduceAdd, Nat.reduceLT, Nat.reduceLeDiff, Nat.reduceMul, lt_yes hlt, hg, encN_mk, List.length_map, Int.ofNat_lt.mpr hlt, Int.toNat_natCast]
    refine vmelt 5 S.length [.str un, encS us] rfl (by simp) ?_
    simp only [gwL, gwB, gwD, gwE, gwS, gwTT, gwZ, gwN, gwC, Nat.reduceEqDiff, ↓reduceIte, Nat.reduceAdd, Nat.reduceLT, Nat.reduceLeDiff, Nat.reduceMul, encS]
    refine vfor (σ := Nat) [0, 2, 3, 7, 8, 9, 5, 6] (fun k => [(0, true, .lst 2 none (l.map encN)), (2, true, .nils), (3, true, .lst 1 (some t3) (rowsS out)), (7, true, .lst 2 none (l.map encN)), (8, true, .int .i64 l.length), (9, true, .int .i64 i), (5, true, .ref [.str un, .lst 1 none (us.map fun s => [V.str s])]), (6, true, .int .i64 k)]) (fun k => S ++ [Ent.gone]) (fun k => out.length - k) (fun k => k ≤ out.length ∧ ∀ b ∈ out.take k, b < un) 0 rfl TT_ok ⟨Nat.zero_le _, by simp⟩ rfl rfl ?_
    rintro k ⟨hk, hkb⟩
    have fin : (∀ b ∈ out.drop k, un ≤ b) → (out.take k ++ un :: out.drop k).Pairwise (· ≤ ·) ∧ (out.take k ++ un :: out.drop k).Perm ((l.take (i + 1)).map (·.name)) := fun hd => by
      have hp := hso
      rw [← List.take_append_drop k out, List.pairwise_append] at hp
      refine ⟨List.pairwise_append.2 ⟨hp.1, List.pairwise_cons.2 ⟨hd, hp.2.1⟩, fun a ha b hb => ?_⟩, ?_⟩
      · rcases List.mem_cons.1 hb with rfl | hb
        · exact List.not_lt.1 fun h => List.lt_irrefl _ (List.lt_trans h (hkb a ha))
        · exact hp.2.2 a ha b hb
      · rw [htk]
        refine List.perm_middle.trans ?_
        rw [List.take_append_drop]
        exact (hpm.cons un).trans (List.perm_append_singleton _ _).symm
    simp only [gwL, gwB, gwD, gwE, gwS, gwTT, gwZ, gwN, gwC, Nat.reduceEqDiff, ↓reduceIte, Nat.reduceAdd, Nat.reduceLT, Nat.reduceLeDiff, Nat.reduceMul]
    refine vdraw TT_ok TT_mixed [0, 0, 0, 0, 0, 0, 0, 0, 0, 0, 0, 0, 0] (by kernel_rfl) ?_
    rcases at_or_end out k hk with ⟨hke, hkd⟩ | ⟨c, hkt, hkg, hkr⟩
    · obtain ⟨f1, f2⟩ := fin (by rw [hkd]; simp)
      have hge : (rowsS out).getD k [] = [] := by rw [List.getD_eq_getElem?_getD, List.getElem?_eq_none (by rw [rowsS_len]; omega)]; rfl
      have hlk : decide ((k : Int) < (out.length : Int)) = false := decide_eq_false (by omega)
      simp only [gwL, gwB, gwD, gwE, gwS, gwTT, gwZ, gwN, gwC, Nat.reduceEqDiff, ↓reduceIte, Nat.reduceAdd, Nat.reduceLT, Nat.reduceLeDiff, Nat.reduceMul, rowsS_len, Int.toNat_natCast, hlk, Bool.false_and, hge]
      refine vdraw TT_ok TT_mixed [2, 0, 0, 0, 2, 0, 0, 0, 2, 0, 0, 0, 2, 0] (by kernel_rfl) ?_
      have e1 : (List.take k (rowsS out)).length = k := by rw [List.length_take, rowsS_len]; omega
      have e2 : (List.drop k (rowsS out)).length = out.length - k := by rw [List.length_drop, rowsS_len]
      have e3 : (List.take k (rowsS out) ++ [[V.str un]]).length = k + 1 := by rw [List.length_append, e1]; rfl
      have e4 : List.take k (rowsS out) ++ [[V.str un]] ++ List.drop k (rowsS out) = rowsS (out.take k ++ un :: out.drop k) := by simp [rowsS, List.map_take, List.map_drop]
      simp only [gwL, gwB, gwD, gwE, gwS, gwTT, gwZ, gwN, gwC, Nat.reduceEqDiff, ↓reduceIte, Nat.reduceAdd, Nat.reduceLT, Nat.reduceLeDiff, Nat.reduceMul, rowsS_len, Int.toNat_natCast, encS, e1, e2, e3, w, Env.keep]
      rw [e4]
      exact ⟨by omega, by omega, by omega, by omega, by omega, (i + 1, _, _, _), rfl, rfl, by simp only; omega, by simp only; omega, ⟨_, by simp only; rw [hX, List.append_assoc]⟩, f1, f2⟩
    · simp only [gwL, gwB, gwD, gwE, gwS, gwTT, gwZ, gwN, gwC, Nat.reduceEqDiff, ↓reduceIte, Nat.reduceAdd, Nat.reduceLT, Nat.reduceLeDiff, Nat.reduceMul, rowsS_len, rowsS_getD hkg, Int.toNat_natCast, lt_yes hkt, Int.ofNat_lt.mpr hkt, Bool.true_and, forall_const]
      refine iK_split (fun h => ?_) (fun h => ?_)
      · rw [bytesLess_eq] at h
        have wk : IntKind.i64.wrap ((k : Int) + 1) = ((k + 1 : Nat) : Int) := next_i64 hkt (by omega)
        have htk2 : out.take (k + 1) = out.take k ++ [c] := by rw [List.take_add_one, hkg]; rfl
        simp only [gwL, gwB, gwD, gwE, gwS, gwTT, gwZ, gwN, gwC, Nat.reduceEqDiff, ↓reduceIte, Nat.reduceAdd, Nat.reduceLT, Nat.reduceLeDiff, Nat.reduceMul, wk, Env.keep]
        exact ⟨k + 1, rfl, by omega, by omega, fun x hx => by
          rw [htk2] at hx
          rcases List.mem_append.1 hx with hx | hx
          · exact hkb x hx
          · rw [List.mem_singleton] at hx; rw [hx]; exact of_decide_eq_true h⟩
      · rw [bytesLess_eq] at h
        have hcu : un ≤ c := List.not_lt.1 (of_decide_eq_false h)
        obtain ⟨f1, f2⟩ := fin (by
          have hp := hso
          rw [← List.take_append_drop k out, List.pairwise_append, hkr, List.pairwise_cons] at hp
          intro x hx
          rw [hkr] at hx
          rcases List.mem_cons.1 hx with rfl | hx
          · exact hcu
          · exact List.le_trans hcu (hp.2.1.1 x hx))
        simp only [gwL, gwB, gwD, gwE, gwS, gwTT, gwZ, gwN, gwC, Nat.reduceEqDiff, ↓reduceIte, Nat.reduceAdd, Nat.reduceLT, Nat.reduceLeDiff, Nat.reduceMul]
        refine vdraw TT_ok TT_mixed [2, 0, 0, 0, 2, 0, 0, 0, 2, 0, 0, 0, 2, 0] (by kernel_rfl) ?_
        have e1 : (List.take k (rowsS out)).length = k := by rw [List.length_take, rowsS_len]; omega
        have e2 : (List.drop k (rowsS out)).length = out.length - k := by rw [List.length_drop, rowsS_len]
        have e3 : (List.take k (rowsS out) ++ [[V.str un]]).length = k + 1 := by rw [List.length_append, e1]; rfl
        have e4 : List.take k (rowsS out) ++ [[V.str un]] ++ List.drop k (rowsS out) = rowsS (out.take k ++ un :: out.drop k) := by simp [rowsS, List.map_take, List.map_drop]
        simp only [gwL, gwB, gwD, gwE, gwS, gwTT, gwZ, gwN, gwC, Nat.reduceEqDiff, ↓reduceIte, Nat.reduceAdd, Nat.reduceLT, Nat.reduceLeDiff, Nat.reduceMul, rowsS_len, Int.toNat_natCast, encS, e1, e2, e3, w, Env.keep]
        rw [e4]
        exact ⟨by omega, by omega, by omega, by omega, by omega, (i + 1, _, _, _), rfl, rfl, by simp only; omega, by simp only; omega, ⟨_, by simp only; rw [hX, List.append_assoc]⟩, f1, f2⟩
end Go.Proofs.Ytcegdbniggdckaa.Gx

namespace Go.Proofs.Ytcegdbniggdckaa.Gx
open Go Go.Proofs.Ytcegdbniggdckaa.Gw
set_option linter.unusedSimpArgs false
set_option linter.unusedVariables false

theorem put_free {f : Str → List Str} : ∀ (k : Nat) (left out : List Str), left.length = k → (∀ n ∈ left, ¬ Rch f n n) → (putL f k left out).2.2 = 0
  | 0, left, out, _, _ => rfl
  | k + 1, left, out, hk, hno => by
    have hne : left ≠ [] := by intro e; rw [e] at hk; simp at hk
    obtain ⟨j, a, h1, h2, -, -, -⟩ := pick_some hne hno
    rw [putL, if_neg hne, h1, if_neg (by omega), Int.toNat_natCast]
    refine put_free k _ _ (by simp; omega) fun n hn => ?_
    rcases List.mem_append.1 hn with hn | hn
    · exact hno n (List.mem_of_mem_take hn)
    · exact hno n (List.mem_of_mem_drop hn)
theorem cycL_spec {f : Str → List Str} : ∀ {l : List Str}, l.Pairwise (· ≤ ·) → (∃ n ∈ l, Rch f n n) → Rch f (cycL f l) (cycL f l) ∧ ∀ x ∈ l, x < cycL f l → ¬ Rch f x x
  | [], _, ⟨n, hn, _⟩ => by simp at hn
  | y :: r, hp, ⟨n, hn, hr⟩ => by
    rw [List.pairwise_cons] at hp
    rw [cycL]
    by_cases h : Rch f y y
    · rw [if_pos h]
      refine ⟨h, fun x hx hlt => ?_⟩
      rcases List.mem_cons.1 hx with rfl | hx
      · exact absurd hlt (List.lt_irrefl _)
      · exact absurd (hp.1 x hx) (List.not_le.2 hlt)
    · rw [if_neg h]
      have hn' : n ∈ r := by
        rcases List.mem_cons.1 hn with rfl | hn
        · exact absurd hr h
        · exact hn
      obtain ⟨e1, e2⟩ := cycL_spec hp.2 ⟨n, hn', hr⟩
      refine ⟨e1, fun x hx hlt => ?_⟩
      rcases List.mem_cons.1 hx with rfl | hx
      · exact h
      · exact e2 x hx hlt
theorem order_cycle {l : List Node'} {o : List Str} {n : Str} (h : orderL l = (o, n, 9)) : Rch (ndF l) n n ∧ ∀ u ∈ l, u.name < n → ¬ Rch (ndF l) u.name u.name := by
  unfold orderL at h
  cases h1 : (dupL l []).1 with
  | some n => rw [h1] at h; simp only [Prod.mk.injEq] at h; exact absurd h.2.2 (by decide)
  | none =>
    rw [h1] at h
    obtain ⟨e1, e2, e3, -, e5⟩ := dup_none h1
    generalize (dupL l []).2 = M at *
    simp only [List.map_nil, List.nil_append, asc] at e1 e2
    rw [e2] at h
    cases h2 : missL M (sortS (l.map (·.name))) with
    | some n => rw [h2] at h; simp only [Prod.mk.injEq] at h; exact absurd h.2.2 (by decide)
    | none =>
      rw [h2] at h
      simp only at h
      have hf : ndM M = ndF l := by funext s; unfold ndM ndF; rw [e1]
      have hp := sortS_perm (l.map (·.name))
      have hnd : (sortS (l.map (·.name))).Nodup := hp.nodup_iff.2 e3
      have hmi := missL_none h2
      have hkeys : ∀ s, (asc s M).isSome = true → s ∈ sortS (l.map (·.name)) := fun s hs => hp.mem_iff.2 (by rw [← e2]; exact asc_keys.1 hs)
      rw [hf] at h hmi
      have hex : ∃ n ∈ sortS (l.map (·.name)), Rch (ndF l) n n := Classical.byContradiction fun hno => by
        have := put_free (f := ndF l) _ (sortS (l.map (·.name))) [] rfl fun n hn hr => hno ⟨n, hn, hr⟩
        rw [h] at this; simp at this
      have hc := put_cyc (f := ndF l) (all := sortS (l.map (·.name))) (fun n hn m hm => hkeys m (hmi n hn m hm)) _ (sortS (l.map (·.name))) [] rfl hnd (fun _ h => h) (fun _ h _ => h) hex
      rw [hc] at h
      simp only [Prod.mk.injEq, and_true] at h
      obtain ⟨k1, k2⟩ := cycL_spec (sortS_sorted (l.map (·.name))) hex
      rw [h.2] at k1 k2
      exact ⟨k1, fun u hu => k2 u.name (hp.mem_iff.2 (List.mem_map_of_mem hu))⟩
end Go.Proofs.Ytcegdbniggdckaa.Gx
