/- Contract of names.table.of. Contracts: strings.Compare; slices.SortFunc of an array of pairs, by their first. Contract of slices.SortFunc, of an array of pairs, by their first. A nil slice may be taken for an array of nothing. Contracts of names.table.sorted and names.Of. Contracts: graftref2's Same, Has, Sort; graftlaw2's own functions. -/
import Derived.Test.YtakcdeihljojiaaZO6
import Derived.Shelf.Lay
import Derived.Shelf.LaySoft
import Derived.Shelf.SlGeneric
import Derived.Shelf.SlSortCmp.WholeK
import Derived.Shelf.SlSortCmp.NoneTotal
import Derived.Ground.SlsfProg
import Derived.Lib.Walk
import Derived.Sort.OwnSorted

namespace Go.Proofs.Ytakcdeihljojiaa.Gx
open Go Go.Proofs.Ytakcdeihljojiaa.Gw
set_option linter.unusedSimpArgs false
set_option linter.unusedVariables false

theorem namedB_len {s : Str} (h : namedB s = true) : s.length ≤ 20 := by
  unfold namedB at h
  simp only [Bool.and_eq_true, decide_eq_true_eq] at h
  exact h.2.1.2
theorem idxOf_lt (s : Str) : ∀ (l : List Str) (i : Nat), idxOf s i l < ((i + l.length : Nat) : Int)
  | [], i => by simp [idxOf]; omega
  | a :: r, i => by
    have := idxOf_lt s r (i + 1)
    rw [idxOf]
    cases decide (s = a) with
    | true => simp only [cond_true, List.length_cons]; omega
    | false => simp only [cond_false, List.length_cons]; omega
theorem stepB_end {k : Int} {ns az : List Str} {p : Str} {M out : Tb} (h6 : ¬(k ≠ 4 ∧ (ns.any fun n => !(asc n M).isSome) = true)) (hp : out.Perm (M.filterMap (keep1 k ns az p))) (ho : TbOk out) : stepB k ns az p (0, M) = (0, M.filterMap (keep1 k ns az p)) := by
  unfold stepB
  rw [if_neg (by simp), if_neg h6, if_neg (fun h => h ((hp.map _).nodup_iff.1 ho.nodup)), if_neg]
  simp only [List.any_eq_true, not_exists, not_and]
  intro q hq
  rw [ho.named q (hp.mem_iff.2 hq)]; simp
theorem stepB_dup {k : Int} {ns az : List Str} {p : Str} {M : Tb} (h6 : ¬(k ≠ 4 ∧ (ns.any fun n => !(asc n M).isSome) = true)) (h : ¬ ((M.filterMap (keep1 k ns az p)).map (·.1)).Nodup) : (stepB k ns az p (0, M)).1 = 8 := by
  unfold stepB
  rw [if_neg (by simp), if_neg h6, if_pos h]
theorem stepB_bad {ns az : List Str} {p : Str} {M : Tb} (hM : TbOk M) {q : Str × Str} (hq : q ∈ M) (hb : namedB (p ++ q.1) = false) : (stepB 4 ns az p (0, M)).1 = 7 := by
  have hk : keep1 4 ns az p = fun q => some (p ++ q.1, q.2) := by funext q; unfold keep1; rw [if_neg (by simp), if_neg (by simp)]; simp
  unfold stepB
  rw [if_neg (by simp), if_neg (by simp), hk]
  have hf : M.filterMap (fun q => some (p ++ q.1, q.2)) = M.map fun q => (p ++ q.1, q.2) := by rw [← List.filterMap_eq_map]; rfl
  rw [hf, if_neg, if_pos]
  · simp only [List.any_eq_true, List.mem_map]
    exact ⟨_, ⟨q, hq, rfl⟩, by simp [hb]⟩
  · intro hno
    refine hno ?_
    rw [List.map_map]
    have := hM.nodup
    unfold List.Nodup at this ⊢
    rw [List.pairwise_map] at this ⊢
    exact this.imp fun h e => h (List.append_cancel_left e)
theorem c_of1 (st : St) (o m : Nat) (M : Tb) (s : Str) (h1 : st[o]? = some (.box [.map m])) (h2 : st[m]? = some (mapE V.str V.str M)) :
    VCalls Try.prog TT 42 [.str s, .ptr o 0] st fun r st' => r = .ret (.bool (!(asc s M).isSome)) ∧ st' = st := by
  refine vfun TT_ok (an := anL []) (L := [0, 1, 3, 5]) (rs := [.tmp 3]) Try.func42 rfl (by kernel_rfl) rfl Try.ntmps42 rfl rfl (Nat.le_refl _) fun hst ha hf => ?_
  have hlk := fun (i : TI) (ok : Bool) (st : St) (n : Str) => look_mapE (ev := V.str) (keyP_str TT) i ok n st M
  simp only [gwL, gwB, gwD, gwE, gwS, gwTT, gwZ, gwN, gwC, Nat.reduceEqDiff, ↓reduceIte, Nat.reduceAdd, Nat.reduceLT, Nat.reduceLeDiff, Nat.reduceMul, mapLook, mapPut, mapRange, mapLen, makeMapE, keyOk, keyKind, keyGood, lookR, zeroV, entV, entS, nextV, nextS, beq_self_eq_true, cond_true, cond_false, h1, h2, hlk]
  exact gives_bool rfl hst
/-- What a set brings: another table, or what is wrong. -/
def OfQ (s : Set') (M : Tb) (st : St) (r : VEnd) (st' : St) : Prop :=
  ∃ ex, st' = st ++ ex ∧ (((brS s M).1 ≠ 0 ∧ r = .ret (.tup [.nilm, .int .i64 (brS s M).1])) ∨ ((brS s M).1 = 0 ∧ ∃ o M', r = .ret (.tup [.map o, .int .i64 0]) ∧ st'[o]? = some (mapE V.str V.str M') ∧ M'.Perm (brS s M).2))
theorem OfQ.np {s : Set'} {M : Tb} {st : St} (v : V) (s' : St) : ¬ OfQ s M st (.panic v) s' := by
  rintro ⟨ex, -, ⟨-, h⟩ | ⟨-, o, M', h, -⟩⟩ <;> cases h
set_option maxRecDepth 20000 in
set_option maxHeartbeats 16000000 in
theorem c_ofS (s : Set') : ∀ (st : St) (o : Nat) (M : Tb), st[o]? = some (mapE V.str V.str M) → TbOk M → M.length ≤ 1000000 → (∃ d, 0 ≤ d ∧ shapeS s d = 0) →
    VCalls Try.prog TT 28 [.map o, .ref (encSet s)] st (OfQ s M st) := by
  refine Set'.ind (p := fun s => ∀ (st : St) (o : Nat) (M : Tb), st[o]? = some (mapE V.str V.str M) → TbOk M → M.length ≤ 1000000 → (∃ d, 0 ≤ d ∧ shapeS s d = 0) →
    VCalls Try.prog TT 28 [.map o, .ref (encSet s)] st (OfQ s M st)) ?_ s
  intro k n ns az p kids ih st o M ho hM hMl ⟨d, hd0, hd⟩
  refine vfunQ TT_ok (an := anL []) (L := [0, 1, 4, 5, 6, 7, 8, 9, 10, 11, 13, 48, 63]) (rs := [.tmp 4, .tmp 5]) Try.func28 rfl (by kernel_rfl) rfl Try.ntmps28 rfl rfl fun hst ha hf => ?_
  simp only [encSet_mk]
  simp only [gwL, gwB, gwD, gwE, gwS, gwTT, gwZ, gwN, gwC, Nat.reduceEqDiff, ↓reduceIte, Nat.reduceAdd, Nat.reduceLT, Nat.reduceLeDiff, Nat.reduceMul]
  refine iK_split (fun h => ?_) (fun h => ?_)
  · have hk : k = 1 := of_decide_eq_true h
    simp only [gwL, gwB, gwD, gwE, gwS, gwTT, gwZ, gwN, gwC, Nat.reduceEqDiff, ↓reduceIte, Nat.reduceAdd, Nat.reduceLT, Nat.reduceLeDiff, Nat.reduceMul]
    exact ⟨[], by rw [List.append_nil], .inr ⟨by rw [brS, if_pos hk], o, M, rfl, ho, by rw [brS, if_pos hk]⟩⟩
  have hk : k ≠ 1 := of_decide_eq_false h
  have hform := shapeS_form hd0 hd
  obtain ⟨⟨x, rfl, d', hd0', hd'⟩, hk2, hk5, hren, hpre⟩ := (show _ from (by unfold FormS at hform; exact hform.resolve_left hk) : (∃ x, kids = [x] ∧ ∃ d, 0 ≤ d ∧ shapeS x d = 0) ∧ 2 ≤ k ∧ k ≤ 5 ∧ (k = 5 → ns.length = az.length ∧ ∀ n ∈ az, namedB n = true) ∧ (k = 4 → namedB p = true))
  simp only [gwL, gwB, gwD, gwE, gwS, gwTT, gwZ, gwN, gwC, Nat.reduceEqDiff, ↓reduceIte, Nat.reduceAdd, Nat.reduceLT, Nat.reduceLeDiff, Nat.reduceMul, List.map_cons, List.map_nil, List.length_cons, List.length_nil, List.getD_cons_zero]
  refine ⟨⟨by decide, by decide⟩, ?_⟩
  refine useQS (ih x (by simp) st o M ho hM hMl ⟨d', hd0', hd'⟩) (wkL_refl _) (wkSt_refl _) OfQ.np fun X s1 _ hq => ?_
  have hbr : brS (.mk k n ns az p [x]) M = stepB k ns az p (brS x M) := by rw [brS, if_neg hk]; rfl
  obtain ⟨ex, rfl, ⟨he, hX⟩ | ⟨he, o1, M1, hX, ho1, hp1⟩⟩ := hq
  · cases hX
    have hdec : (!decide ((brS x M).1 = 0)) = true := by simp [he]
    simp only [gwL, gwB, gwD, gwE, gwS, gwTT, gwZ, gwN, gwC, Nat.reduceEqDiff, ↓reduceIte, Nat.reduceAdd, Nat.reduceLT, Nat.reduceLeDiff, Nat.reduceMul, mapLook, mapPut, mapRange, mapLen, makeMapE, keyOk, keyKind, keyGood, lookR, zeroV, entV, entS, nextV, nextS, beq_self_eq_true, cond_true, cond_false, hdec]
    refine ⟨ex ++ [Ent.box [V.nilm]], rfl, .inl ⟨?_, ?_⟩⟩
    · rw [hbr]; unfold stepB; rw [if_pos he]; exact he
    · rw [hbr]; unfold stepB; rw [if_pos he]
  cases hX
  have hstep := stepB_perm (k := k) (ns := ns) (az := az) (p := p) hp1
  have hbr2 : stepB k ns az p (0, (brS x M).2) = brS (.mk k n ns az p [x]) M := by rw [hbr, ← he]
  rw [hbr2] at hstep
  have hM1 : TbOk M1 := (brS_ok x hM ⟨d', hd0', hd'⟩ he).perm hp1
  simp only [gwL, gwB, gwD, gwE, gwS, gwTT, gwZ, gwN, gwC, Nat.reduceEqDiff, ↓reduceIte, Nat.reduceAdd, Nat.reduceLT, Nat.reduceLeDiff, Nat.reduceMul, mapLook, mapPut, mapRange, mapLen, makeMapE, keyOk, keyKind, keyGood, lookR, zeroV, entV, entS, nextV, nextS, beq_self_eq_true, cond_true, cond_false]
  have hl1 := (List.getElem?_eq_some_iff.1 ho1).1
  obtain ⟨b, hb⟩ : ∃ b, b = st.length + ex.length := ⟨_, rfl⟩
  obtain ⟨S1, hS1⟩ : ∃ S1 : St, S1 = st ++ (ex ++ [Ent.box [V.map o1]]) := ⟨_, rfl⟩
  have g1 : S1[b]? = some (.box [.map o1]) := by rw [hS1, hb, ← List.append_assoc]; simp
  have g2 : S1[o1]? = some (mapE V.str V.str M1) := by rw [hS1, ← List.append_assoc, List.getElem?_append_left hl1, ho1]
  have gp : ∃ Z, S1 = st ++ Z := ⟨_, hS1⟩
  rw [← hS1, ← hb]
  clear hS1 hb ho1 hl1
  clear hp1
  refine rK_guarded (.bool (ns.any fun n => !(asc n M1).isSome)) (fun _ => c_ContainsFunc S1 ns 42 [.ptr b 0] (fun n => !(asc n M1).isSome) fun a _ => c_of1 S1 b o1 M1 a g1 g2) ?_
  simp only [gwL, gwB, gwD, gwE, gwS, gwTT, gwZ, gwN, gwC, Nat.reduceEqDiff, ↓reduceIte, Nat.reduceAdd, Nat.reduceLT, Nat.reduceLeDiff, Nat.reduceMul, mapLook, mapPut, mapRange, mapLen, makeMapE, keyOk, keyKind, keyGood, lookR, zeroV, entV, entS, nextV, nextS, beq_self_eq_true, cond_true, cond_false]
  have out : ∀ (e : Int) (Y : St), e ≠ 0 → (stepB k ns az p (0, M1)).1 = e → OfQ (.mk k n ns az p [x]) M st (.ret (.tup [.nilm, .int .i64 e])) (S1 ++ Y) := fun e Y h1 h2 => by
    obtain ⟨Z, rfl⟩ := gp
    refine ⟨Z ++ Y, by rw [List.append_assoc], .inl ⟨?_, ?_⟩⟩
    · rw [← hstep.1, h2]; exact h1
    · rw [← hstep.1, h2]
  refine iK_split (fun h6 => ?_) (fun h6 => ?_)
  · simp only [gwL, gwB, gwD, gwE, gwS, gwTT, gwZ, gwN, gwC, Nat.reduceEqDiff, ↓reduceIte, Nat.reduceAdd, Nat.reduceLT, Nat.reduceLeDiff, Nat.reduceMul, mapLook, mapPut, mapRange, mapLen, makeMapE, keyOk, keyKind, keyGood, lookR, zeroV, entV, entS, nextV, nextS, beq_self_eq_true, cond_true, cond_false]
    have := out 6 [] (by decide) (by
      unfold stepB
      rw [if_neg (by simp), if_pos ⟨by intro e; rw [e] at h6; simp at h6, by revert h6; cases (ns.any fun n => !(asc n M1).isSome) <;> simp⟩])
    rwa [List.append_nil] at this
  have h6' : ¬ (k ≠ 4 ∧ (ns.any fun n => !(asc n M1).isSome) = true) := by
    rintro ⟨h1, h2⟩
    rw [h2] at h6
    simp [h1] at h6
  have gg1 : ∀ X : St, (S1 ++ X)[b]? = some (.box [.map o1]) := fun X => by rw [List.getElem?_append_left (List.getElem?_eq_some_iff.1 g1).1, g1]
  have gg2 : ∀ X : St, (S1 ++ X)[o1]? = some (mapE V.str V.str M1) := fun X => by rw [List.getElem?_append_left (List.getElem?_eq_some_iff.1 g2).1, g2]
  have hrm := fun (st1 : St) => range_mapE (ek := V.str) (ev := V.str) o1 st1 M1
  simp only [gwL, gwB, gwD, gwE, gwS, gwTT, gwZ, gwN, gwC, Nat.reduceEqDiff, ↓reduceIte, Nat.reduceAdd, Nat.reduceLT, Nat.reduceLeDiff, Nat.reduceMul, mapLook, mapPut, mapRange, mapLen, makeMapE, keyOk, keyKind, keyGood, lookR, zeroV, entV, entS, nextV, nextS, beq_self_eq_true, cond_true, cond_false, gg1, gg2, hrm]
  refine vfor (σ := List Nat × Tb) [1, 4, 5, 8, 48] (fun q => [(1, true, .ref [.int .i64 k, .str n, encS ns, encS az, .str p, .lst 6 none [encSet x]]), (4, true, .nilm), (5, true, .int .i64 0), (8, true, .map S1.length), (48, true, .ptr (S1.length + 1) 0)]) (fun q => S1 ++ [mapE V.str V.str q.2, Ent.iter o1 M1.length q.1]) (fun q => M1.length - q.1.length) (fun q => q.1.Nodup ∧ (∀ i ∈ q.1, i < M1.length) ∧ q.2 = metB (keep1 k ns az p) M1 q.1 ∧ TbOk q.2) ([], []) rfl TT_ok ⟨List.nodup_nil, by simp, rfl, ⟨List.nodup_nil, by simp⟩⟩ rfl rfl ?_
  rintro ⟨seen, out1⟩ ⟨hs1, hs2, hs3, hs4⟩
  simp only at hs1 hs2 hs3 hs4 ⊢
  have hnx := fun (o : Nat) (st1 : St) => next_mapE (ek := V.str) (ev := V.str) o o1 seen st1 M1
  simp only [gwL, gwB, gwD, gwE, gwS, gwTT, gwZ, gwN, gwC, Nat.reduceEqDiff, ↓reduceIte, Nat.reduceAdd, Nat.reduceLT, Nat.reduceLeDiff, Nat.reduceMul, mapLook, mapPut, mapRange, mapLen, makeMapE, keyOk, keyKind, keyGood, lookR, zeroV, entV, entS, nextV, nextS, beq_self_eq_true, cond_true, cond_false, gg2, hnx]
  refine nextL_all (fun hend => ?_) (fun e a hia hil his => ?_)
  · simp only [gwL, gwB, gwD, gwE, gwS, gwTT, gwZ, gwN, gwC, Nat.reduceEqDiff, ↓reduceIte, Nat.reduceAdd, Nat.reduceLT, Nat.reduceLeDiff, Nat.reduceMul, mapLook, mapPut, mapRange, mapLen, makeMapE, keyOk, keyKind, keyGood, lookR, zeroV, entV, entS, nextV, nextS, beq_self_eq_true, cond_true, cond_false]
    have hp := metB_all (f := keep1 k ns az p) hs1 hs2 hend
    rw [← hs3] at hp
    have hend2 := stepB_end h6' hp hs4
    rw [hend2] at hstep
    obtain ⟨Z, hZ⟩ := gp
    refine ⟨Z ++ [mapE V.str V.str out1, Ent.iter o1 M1.length seen], by rw [hZ, List.append_assoc], .inr ⟨hstep.1.symm, S1.length, out1, rfl, by simp, hp.trans hstep.2⟩⟩
  · have hent := fun (st1 : St) => ent_mapE (ek := V.str) (ev := V.str) (seen := seen) (st := st1) hia
    have hlk := fun (i : TI) (ok : Bool) (st : St) (n : Str) => look_mapE (ev := V.str) (keyP_str TT) i ok n st out1
    have hpt := fun (o : Nat) (n : Str) (a : Str) (st : St) => put_mapE (ev := V.str) (keyP_str TT) o n a st out1
    have han : namedB a.1 = true := hM1.named a (List.mem_of_getElem? hia)
    have hseen : (seen ++ [e]).Nodup := List.nodup_append.2 ⟨hs1, by simp, fun a ha b hb => by rw [List.mem_singleton] at hb; subst hb; intro e'; subst e'; exact his ha⟩
    have hlt2 : ∀ i ∈ seen ++ [e], i < M1.length := fun i hi => by
      rcases List.mem_append.1 hi with hi | hi
      · exact hs2 i hi
      · rw [List.mem_singleton] at hi; rw [hi]; exact hil
    have hsl := seen_len hseen hlt2
    rw [List.length_append] at hsl
    simp only [List.length_cons, List.length_nil] at hsl
    have hadd := metB_add (f := keep1 k ns az p) (seen := seen) hia
    rw [← hs3] at hadd
    have skip : keep1 k ns az p a = none → out1 = metB (keep1 k ns az p) M1 (seen ++ [e]) := fun h => by rw [hadd, h]; simp
    simp only [gwL, gwB, gwD, gwE, gwS, gwTT, gwZ, gwN, gwC, Nat.reduceEqDiff, ↓reduceIte, Nat.reduceAdd, Nat.reduceLT, Nat.reduceLeDiff, Nat.reduceMul, mapLook, mapPut, mapRange, mapLen, makeMapE, keyOk, keyKind, keyGood, lookR, zeroV, entV, entS, nextV, nextS, beq_self_eq_true, cond_true, cond_false, gg2, hent]
    refine (c_Index _ ns a.1).use (wkL_refl _) fun _ => ?_
    obtain ⟨i, hi⟩ : ∃ i, i = idxOf a.1 0 ns := ⟨_, rfl⟩
    rw [← hi]
    simp only [gwL, gwB, gwD, gwE, gwS, gwTT, gwZ, gwN, gwC, Nat.reduceEqDiff, ↓reduceIte, Nat.reduceAdd, Nat.reduceLT, Nat.reduceLeDiff, Nat.reduceMul, mapLook, mapPut, mapRange, mapLen, makeMapE, keyOk, keyKind, keyGood, lookR, zeroV, entV, entS, nextV, nextS, beq_self_eq_true, cond_true, cond_false]
    refine iK_split (fun h2 => ?_) (fun h2 => ?_)
    · have h2' : k = 2 := of_decide_eq_true h2
      simp only [gwL, gwB, gwD, gwE, gwS, gwTT, gwZ, gwN, gwC, Nat.reduceEqDiff, ↓reduceIte, Nat.reduceAdd, Nat.reduceLT, Nat.reduceLeDiff, Nat.reduceMul, mapLook, mapPut, mapRange, mapLen, makeMapE, keyOk, keyKind, keyGood, lookR, zeroV, entV, entS, nextV, nextS, beq_self_eq_true, cond_true, cond_false]
      refine iK_split (fun h7 => ?_) (fun h7 => ?_)
      · have hn : keep1 k ns az p a = none := by unfold keep1; rw [if_pos ⟨h2', by rw [← hi]; exact of_decide_eq_true h7⟩]
        simp only [gwL, gwB, gwD, gwE, gwS, gwTT, gwZ, gwN, gwC, Nat.reduceEqDiff, ↓reduceIte, Nat.reduceAdd, Nat.reduceLT, Nat.reduceLeDiff, Nat.reduceMul, mapLook, mapPut, mapRange, mapLen, makeMapE, keyOk, keyKind, keyGood, lookR, zeroV, entV, entS, nextV, nextS, beq_self_eq_true, cond_true, cond_false, Env.keep]
        exact ⟨(seen ++ [e], out1), rfl, by simp only [List.length_append, List.length_cons, List.length_nil]; omega, hseen, hlt2, skip hn, hs4⟩
      · have hk1 : keep1 k ns az p a = some (a.1, a.2) := by
          have : ¬ i < 0 := of_decide_eq_false h7
          unfold keep1; rw [if_neg (fun h => this (by rw [hi]; exact h.2)), if_neg (by omega), if_neg (by omega), if_neg (by omega)]
        obtain ⟨h9, hh9⟩ : ∃ h9, h9 = a.1 := ⟨_, rfl⟩
        rw [← hh9] at hk1 ⊢
        have hbad : namedB h9 = false → (stepB k ns az p (0, M1)).1 = 7 := fun h => by rw [hh9, han] at h; cases h
        simp only [gwL, gwB, gwD, gwE, gwS, gwTT, gwZ, gwN, gwC, Nat.reduceEqDiff, ↓reduceIte, Nat.reduceAdd, Nat.reduceLT, Nat.reduceLeDiff, Nat.reduceMul, mapLook, mapPut, mapRange, mapLen, makeMapE, keyOk, keyKind, keyGood, lookR, zeroV, entV, entS, nextV, nextS, beq_self_eq_true, cond_true, cond_false, hlk]
        refine iK_split (fun h8 => ?_) (fun h8 => ?_)
        · simp only [gwL, gwB, gwD, gwE, gwS, gwTT, gwZ, gwN, gwC, Nat.reduceEqDiff, ↓reduceIte, Nat.reduceAdd, Nat.reduceLT, Nat.reduceLeDiff, Nat.reduceMul, mapLook, mapPut, mapRange, mapLen, makeMapE, keyOk, keyKind, keyGood, lookR, zeroV, entV, entS, nextV, nextS, beq_self_eq_true, cond_true, cond_false]
          exact out 8 _ (by decide) (stepB_dup h6' (metB_dup hia hk1 his hs2 (by rw [← hs3]; exact h8)))
        simp only [gwL, gwB, gwD, gwE, gwS, gwTT, gwZ, gwN, gwC, Nat.reduceEqDiff, ↓reduceIte, Nat.reduceAdd, Nat.reduceLT, Nat.reduceLeDiff, Nat.reduceMul, mapLook, mapPut, mapRange, mapLen, makeMapE, keyOk, keyKind, keyGood, lookR, zeroV, entV, entS, nextV, nextS, beq_self_eq_true, cond_true, cond_false]
        refine (c_text_Named _ h9).use (wkL_refl _) fun _ => ?_
        simp only [gwL, gwB, gwD, gwE, gwS, gwTT, gwZ, gwN, gwC, Nat.reduceEqDiff, ↓reduceIte, Nat.reduceAdd, Nat.reduceLT, Nat.reduceLeDiff, Nat.reduceMul, mapLook, mapPut, mapRange, mapLen, makeMapE, keyOk, keyKind, keyGood, lookR, zeroV, entV, entS, nextV, nextS, beq_self_eq_true, cond_true, cond_false]
        refine iK_split (fun h10 => ?_) (fun h10 => ?_)
        · simp only [gwL, gwB, gwD, gwE, gwS, gwTT, gwZ, gwN, gwC, Nat.reduceEqDiff, ↓reduceIte, Nat.reduceAdd, Nat.reduceLT, Nat.reduceLeDiff, Nat.reduceMul, mapLook, mapPut, mapRange, mapLen, makeMapE, keyOk, keyKind, keyGood, lookR, zeroV, entV, entS, nextV, nextS, beq_self_eq_true, cond_true, cond_false]
          exact out 7 _ (by decide) (hbad (by simpa using h10))
        have hno : asc h9 out1 = none := by cases h : asc h9 out1 with
                                            | none => rfl
                                            | some v => rw [h] at h8; cases h8
        have hup : ups h9 a.2 out1 = out1 ++ [(h9, a.2)] := ups_new hno
        simp only [gwL, gwB, gwD, gwE, gwS, gwTT, gwZ, gwN, gwC, Nat.reduceEqDiff, ↓reduceIte, Nat.reduceAdd, Nat.reduceLT, Nat.reduceLeDiff, Nat.reduceMul, mapLook, mapPut, mapRange, mapLen, makeMapE, keyOk, keyKind, keyGood, lookR, zeroV, entV, entS, nextV, nextS, beq_self_eq_true, cond_true, cond_false, hpt, hup, Env.keep]
        refine ⟨(seen ++ [e], out1 ++ [(h9, a.2)]), rfl, by simp only [List.length_append, List.length_cons, List.length_nil]; omega, hseen, hlt2, by simp only [hadd, hk1]; rfl, ?_, fun q hq => ?_⟩
        · simp only [List.map_append, List.map_cons, List.map_nil]
          refine List.nodup_append.2 ⟨hs4.nodup, by simp, fun x hx y hy => ?_⟩
          rw [List.mem_singleton] at hy
          subst hy
          intro e'
          subst e'
          have := asc_keys.2 hx
          rw [hno] at this; cases this
        · rcases List.mem_append.1 hq with hq | hq
          · exact hs4.named q hq
          · rw [List.mem_singleton] at hq; rw [hq]; simpa using h10
    have hn2 : k ≠ 2 := of_decide_eq_false h2
    simp only [gwL, gwB, gwD, gwE, gwS, gwTT, gwZ, gwN, gwC, Nat.reduceEqDiff, ↓reduceIte, Nat.reduceAdd, Nat.reduceLT, Nat.reduceLeDiff, Nat.reduceMul, mapLook, mapPut, mapRange, mapLen, makeMapE, keyOk, keyKind, keyGood, lookR, zeroV, entV, entS, nextV, nextS, beq_self_eq_true, cond_true, cond_false]
    refine iK_split (fun h3 => ?_) (fun h3 => ?_)
    · have h3' : k = 3 := of_decide_eq_true h3
      simp only [gwL, gwB, gwD, gwE, gwS, gwTT, gwZ, gwN, gwC, Nat.reduceEqDiff, ↓reduceIte, Nat.reduceAdd, Nat.reduceLT, Nat.reduceLeDiff, Nat.reduceMul, mapLook, mapPut, mapRange, mapLen, makeMapE, keyOk, keyKind, keyGood, lookR, zeroV, entV, entS, nextV, nextS, beq_self_eq_true, cond_true, cond_false]
      refine iK_split (fun h7 => ?_) (fun h7 => ?_)
      · have hn : keep1 k ns az p a = none := by unfold keep1; rw [if_neg (by omega), if_pos ⟨h3', by rw [← hi]; exact of_decide_eq_true h7⟩]
        simp only [gwL, gwB, gwD, gwE, gwS, gwTT, gwZ, gwN, gwC, Nat.reduceEqDiff, ↓reduceIte, Nat.reduceAdd, Nat.reduceLT, Nat.reduceLeDiff, Nat.reduceMul, mapLook, mapPut, mapRange, mapLen, makeMapE, keyOk, keyKind, keyGood, lookR, zeroV, entV, entS, nextV, nextS, beq_self_eq_true, cond_true, cond_false, Env.keep]
        exact ⟨(seen ++ [e], out1), rfl, by simp only [List.length_append, List.length_cons, List.length_nil]; omega, hseen, hlt2, skip hn, hs4⟩
      · have hk1 : keep1 k ns az p a = some (a.1, a.2) := by
          have : ¬ 0 ≤ i := of_decide_eq_false h7
          unfold keep1; rw [if_neg (by omega), if_neg (fun h => this (by rw [hi]; exact h.2)), if_neg (by omega), if_neg (by omega)]
        obtain ⟨h9, hh9⟩ : ∃ h9, h9 = a.1 := ⟨_, rfl⟩
        rw [← hh9] at hk1 ⊢
        have hbad : namedB h9 = false → (stepB k ns az p (0, M1)).1 = 7 := fun h => by rw [hh9, han] at h; cases h
        simp only [gwL, gwB, gwD, gwE, gwS, gwTT, gwZ, gwN, gwC, Nat.reduceEqDiff, ↓reduceIte, Nat.reduceAdd, Nat.reduceLT, Nat.reduceLeDiff, Nat.reduceMul, mapLook, mapPut, mapRange, mapLen, makeMapE, keyOk, keyKind, keyGood, lookR, zeroV, entV, entS, nextV, nextS, beq_self_eq_true, cond_true, cond_false, hlk]
        refine iK_split (fun h8 => ?_) (fun h8 => ?_)
        · simp only [gwL, gwB, gwD, gwE, gwS, gwTT, gwZ, gwN, gwC, Nat.reduceEqDiff, ↓reduceIte, Nat.reduceAdd, Nat.reduceLT, Nat.reduceLeDiff, Nat.reduceMul, mapLook, mapPut, mapRange, mapLen, makeMapE, keyOk, keyKind, keyGood, lookR, zeroV, entV, entS, nextV, nextS, beq_self_eq_true, cond_true, cond_false]
          exact out 8 _ (by decide) (stepB_dup h6' (metB_dup hia hk1 his hs2 (by rw [← hs3]; exact h8)))
        simp only [gwL, gwB, gwD, gwE, gwS, gwTT, gwZ, gwN, gwC, Nat.reduceEqDiff, ↓reduceIte, Nat.reduceAdd, Nat.reduceLT, Nat.reduceLeDiff, Nat.reduceMul, mapLook, mapPut, mapRange, mapLen, makeMapE, keyOk, keyKind, keyGood, lookR, zeroV, entV, entS, nextV, nextS, beq_self_eq_true, cond_true, cond_false]
        refine (c_text_Named _ h9).use (wkL_refl _) fun _ => ?_
        simp only [gwL, gwB, gwD, gwE, gwS, gwTT, gwZ, gwN, gwC, Nat.reduceEqDiff, ↓reduceIte, Nat.reduceAdd, Nat.reduceLT, Nat.reduceLeDiff, Nat.reduceMul, mapLook, mapPut, mapRange, mapLen, makeMapE, keyOk, keyKind, keyGood, lookR, zeroV, entV, entS, nextV, nextS, beq_self_eq_true, cond_true, cond_false]
        refine iK_split (fun h10 => ?_) (fun h10 => ?_)
        · simp only [gwL, gwB, gwD, gwE, gwS, gwTT, gwZ, gwN, gwC, Nat.reduceEqDiff, ↓reduceIte, Nat.reduceAdd, Nat.reduceLT, Nat.reduceLeDiff, Nat.reduceMul, mapLook, mapPut, mapRange, mapLen, makeMapE, keyOk, keyKind, keyGood, lookR, zeroV, entV, entS, nextV, nextS, beq_self_eq_true, cond_true, cond_false]
          exact out 7 _ (by decide) (hbad (by simpa using h10))
        have hno : asc h9 out1 = none := by cases h : asc h9 out1 with
                                            | none => rfl
                                            | some v => rw [h] at h8; cases h8
        have hup : ups h9 a.2 out1 = out1 ++ [(h9, a.2)] := ups_new hno
        simp only [gwL, gwB, gwD, gwE, gwS, gwTT, gwZ, gwN, gwC, Nat.reduceEqDiff, ↓reduceIte, Nat.reduceAdd, Nat.reduceLT, Nat.reduceLeDiff, Nat.reduceMul, mapLook, mapPut, mapRange, mapLen, makeMapE, keyOk, keyKind, keyGood, lookR, zeroV, entV, entS, nextV, nextS, beq_self_eq_true, cond_true, cond_false, hpt, hup, Env.keep]
        refine ⟨(seen ++ [e], out1 ++ [(h9, a.2)]), rfl, by simp only [List.length_append, List.length_cons, List.length_nil]; omega, hseen, hlt2, by simp only [hadd, hk1]; rfl, ?_, fun q hq => ?_⟩
        · simp only [List.map_append, List.map_cons, List.map_nil]
          refine List.nodup_append.2 ⟨hs4.nodup, by simp, fun x hx y hy => ?_⟩
          rw [List.mem_singleton] at hy
          subst hy
          intro e'
          subst e'
          have := asc_keys.2 hx
          rw [hno] at this; cases this
        · rcases List.mem_append.1 hq with hq | hq
          · exact hs4.named q hq
          · rw [List.mem_singleton] at hq; rw [hq]; simpa using h10
    have hn3 : k ≠ 3 := of_decide_eq_false h3
    simp only [gwL, gwB, gwD, gwE, gwS, gwTT, gwZ, gwN, gwC, Nat.reduceEqDiff, ↓reduceIte, Nat.reduceAdd, Nat.reduceLT, Nat.reduceLeDiff, Nat.reduceMul, mapLook, mapPut, mapRange, mapLen, makeMapE, keyOk, keyKind, keyGood, lookR, zeroV, entV, entS, nextV, nextS, beq_self_eq_true, cond_true, cond_false]
    refine iK_split (fun h4 => ?_) (fun h4 => ?_)
    · have h4' : k = 4 := of_decide_eq_true h4
      have hpn := hpre h4'
      have hl1 : p.length + a.1.length ≤ 9223372036854775807 := by
        have e1 := namedB_len hpn
        have e2 := namedB_len han
        omega
      simp only [gwL, gwB, gwD, gwE, gwS, gwTT, gwZ, gwN, gwC, Nat.reduceEqDiff, ↓reduceIte, Nat.reduceAdd, Nat.reduceLT, Nat.reduceLeDiff, Nat.reduceMul, mapLook, mapPut, mapRange, mapLen, makeMapE, keyOk, keyKind, keyGood, lookR, zeroV, entV, entS, nextV, nextS, beq_self_eq_true, cond_true, cond_false]
      refine ⟨hl1, ?_⟩
      have hk1 : keep1 k ns az p a = some (p ++ a.1, a.2) := by
        unfold keep1; rw [if_neg (by omega), if_neg (by omega), if_pos h4']
      obtain ⟨h9, hh9⟩ : ∃ h9, h9 = p ++ a.1 := ⟨_, rfl⟩
      rw [← hh9] at hk1 ⊢
      have hbad : namedB h9 = false → (stepB k ns az p (0, M1)).1 = 7 := fun h => by rw [h4']; exact stepB_bad hM1 (List.mem_of_getElem? hia) (by rw [← hh9]; exact h)
      simp only [gwL, gwB, gwD, gwE, gwS, gwTT, gwZ, gwN, gwC, Nat.reduceEqDiff, ↓reduceIte, Nat.reduceAdd, Nat.reduceLT, Nat.reduceLeDiff, Nat.reduceMul, mapLook, mapPut, mapRange, mapLen, makeMapE, keyOk, keyKind, keyGood, lookR, zeroV, entV, entS, nextV, nextS, beq_self_eq_true, cond_true, cond_false, hlk]
      refine iK_split (fun h8 => ?_) (fun h8 => ?_)
      · simp only [gwL, gwB, gwD, gwE, gwS, gwTT, gwZ, gwN, gwC, Nat.reduceEqDiff, ↓reduceIte, Nat.reduceAdd, Nat.reduceLT, Nat.reduceLeDiff, Nat.reduceMul, mapLook, mapPut, mapRange, mapLen, makeMapE, keyOk, keyKind, keyGood, lookR, zeroV, entV, entS, nextV, nextS, beq_self_eq_true, cond_true, cond_false]
        exact out 8 _ (by decide) (stepB_dup h6' (metB_dup hia hk1 his hs2 (by rw [← hs3]; exact h8)))
      simp only [gwL, gwB, gwD, gwE, gwS, gwTT, gwZ, gwN, gwC, Nat.reduceEqDiff, ↓reduceIte, Nat.reduceAdd, Nat.reduceLT, Nat.reduceLeDiff, Nat.reduceMul, mapLook, mapPut, mapRange, mapLen, makeMapE, keyOk, keyKind, keyGood, lookR, zeroV, entV, entS, nextV, nextS, beq_self_eq_true, cond_true, cond_false]
      refine (c_text_Named _ h9).use (wkL_refl _) fun _ => ?_
      simp only [gwL, gwB, gwD, gwE, gwS, gwTT, gwZ, gwN, gwC, Nat.reduceEqDiff, ↓reduceIte, Nat.reduceAdd, Nat.reduceLT, Nat.reduceLeDiff, Nat.reduceMul, mapLook, mapPut, mapRange, mapLen, makeMapE, keyOk, keyKind, keyGood, lookR, zeroV, entV, entS, nextV, nextS, beq_self_eq_true, cond_true, cond_false]
      refine iK_split (fun h10 => ?_) (fun h10 => ?_)
      · simp only [gwL, gwB, gwD, gwE, gwS, gwTT, gwZ, gwN, gwC, Nat.reduceEqDiff, ↓reduceIte, Nat.reduceAdd, Nat.reduceLT, Nat.reduceLeDiff, Nat.reduceMul, mapLook, mapPut, mapRange, mapLen, makeMapE, keyOk, keyKind, keyGood, lookR, zeroV, entV, entS, nextV, nextS, beq_self_eq_true, cond_true, cond_false]
        exact out 7 _ (by decide) (hbad (by simpa using h10))
      have hno : asc h9 out1 = none := by cases h : asc h9 out1 with
                                          | none => rfl
                                          | some v => rw [h] at h8; cases h8
      have hup : ups h9 a.2 out1 = out1 ++ [(h9, a.2)] := ups_new hno
      simp only [gwL, gwB, gwD, gwE, gwS, gwTT, gwZ, gwN, gwC, Nat.reduceEqDiff, ↓reduceIte, Nat.reduceAdd, Nat.reduceLT, Nat.reduceLeDiff, Nat.reduceMul, mapLook, mapPut, mapRange, mapLen, makeMapE, keyOk, keyKind, keyGood, lookR, zeroV, entV, entS, nextV, nextS, beq_self_eq_true, cond_true, cond_false, hpt, hup, Env.keep]
      refine ⟨(seen ++ [e], out1 ++ [(h9, a.2)]), rfl, by simp only [List.length_append, List.length_cons, List.length_nil]; omega, hseen, hlt2, by simp only [hadd, hk1]; rfl, ?_, fun q hq => ?_⟩
      · simp only [List.map_append, List.map_cons, List.map_nil]
        refine List.nodup_append.2 ⟨hs4.nodup, by simp, fun x hx y hy => ?_⟩
        rw [List.mem_singleton] at hy
        subst hy
        intro e'
        subst e'
        have := asc_keys.2 hx
        rw [hno] at this; cases this
      · rcases List.mem_append.1 hq with hq | hq
        · exact hs4.named q hq
        · rw [List.mem_singleton] at hq; rw [hq]; simpa using h10
    have hn4 : k ≠ 4 := of_decide_eq_false h4
    have h5' : k = 5 := by omega
    obtain ⟨hra, hrn⟩ := hren h5'
    have d5 : decide (k = 5) = true := decide_eq_true h5'
    simp only [gwL, gwB, gwD, gwE, gwS, gwTT, gwZ, gwN, gwC, Nat.reduceEqDiff, ↓reduceIte, Nat.reduceAdd, Nat.reduceLT, Nat.reduceLeDiff, Nat.reduceMul, mapLook, mapPut, mapRange, mapLen, makeMapE, keyOk, keyKind, keyGood, lookR, zeroV, entV, entS, nextV, nextS, beq_self_eq_true, cond_true, cond_false, d5]
    refine iK_split (fun h7 => ?_) (fun h7 => ?_)
    · have h7' : 0 ≤ i := of_decide_eq_true h7
      have hilt : i < az.length := by have := idxOf_lt a.1 ns 0; omega
      obtain ⟨v, hv⟩ : ∃ v, az[i.toNat]? = some v := ⟨_, List.getElem?_eq_getElem (by omega)⟩
      have hg : (az.map fun s => [V.str s]).getD i.toNat [] = [.str v] := getD_map (f := fun s => [V.str s]) hv
      have hvn := hrn v (List.mem_of_getElem? hv)
      simp only [gwL, gwB, gwD, gwE, gwS, gwTT, gwZ, gwN, gwC, Nat.reduceEqDiff, ↓reduceIte, Nat.reduceAdd, Nat.reduceLT, Nat.reduceLeDiff, Nat.reduceMul, mapLook, mapPut, mapRange, mapLen, makeMapE, keyOk, keyKind, keyGood, lookR, zeroV, entV, entS, nextV, nextS, beq_self_eq_true, cond_true, cond_false, encS, List.length_map, hg]
      refine ⟨⟨h7', hilt⟩, ?_⟩
      have hk1 : keep1 k ns az p a = some (v, a.2) := by
        unfold keep1; rw [if_neg (by omega), if_neg (by omega), if_neg hn4, if_pos ⟨h5', by rw [← hi]; exact h7'⟩, ← hi, List.getD_eq_getElem?_getD, hv]; rfl
      obtain ⟨h9, hh9⟩ : ∃ h9, h9 = v := ⟨_, rfl⟩
      rw [← hh9] at hk1 ⊢
      have hbad : namedB h9 = false → (stepB k ns az p (0, M1)).1 = 7 := fun h => by rw [hh9, hvn] at h; cases h
      simp only [gwL, gwB, gwD, gwE, gwS, gwTT, gwZ, gwN, gwC, Nat.reduceEqDiff, ↓reduceIte, Nat.reduceAdd, Nat.reduceLT, Nat.reduceLeDiff, Nat.reduceMul, mapLook, mapPut, mapRange, mapLen, makeMapE, keyOk, keyKind, keyGood, lookR, zeroV, entV, entS, nextV, nextS, beq_self_eq_true, cond_true, cond_false, hlk]
      refine iK_split (fun h8 => ?_) (fun h8 => ?_)
      · simp only [gwL, gwB, gwD, gwE, gwS, gwTT, gwZ, gwN, gwC, Nat.reduceEqDiff, ↓reduceIte, Nat.reduceAdd, Nat.reduceLT, Nat.reduceLeDiff, Nat.reduceMul, mapLook, mapPut, mapRange, mapLen, makeMapE, keyOk, keyKind, keyGood, lookR, zeroV, entV, entS, nextV, nextS, beq_self_eq_true, cond_true, cond_false]
        exact out 8 _ (by decide) (stepB_dup h6' (metB_dup hia hk1 his hs2 (by rw [← hs3]; exact h8)))
      simp only [gwL, gwB, gwD, gwE, gwS, gwTT, gwZ, gwN, gwC, Nat.reduceEqDiff, ↓reduceIte, Nat.reduceAdd, Nat.reduceLT, Nat.reduceLeDiff, Nat.reduceMul, mapLook, mapPut, mapRange, mapLen, makeMapE, keyOk, keyKind, keyGood, lookR, zeroV, entV, entS, nextV, nextS, beq_self_eq_true, cond_true, cond_false]
      refine (c_text_Named _ h9).use (wkL_refl _) fun _ => ?_
      simp only [gwL, gwB, gwD, gwE, gwS, gwTT, gwZ, gwN, gwC, Nat.reduceEqDiff, ↓reduceIte, Nat.reduceAdd, Nat.reduceLT, Nat.reduceLeDiff, Nat.reduceMul, mapLook, mapPut, mapRange, mapLen, makeMapE, keyOk, keyKind, keyGood, lookR, zeroV, entV, entS, nextV, nextS, beq_self_eq_true, cond_true, cond_false]
      refine iK_split (fun h10 => ?_) (fun h10 => ?_)
      · simp only [gwL, gwB, gwD, gwE, gwS, gwTT, gwZ, gwN, gwC, Nat.reduceEqDiff, ↓reduceIte, Nat.reduceAdd, Nat.reduceLT, Nat.reduceLeDiff, Nat.reduceMul, mapLook, mapPut, mapRange, mapLen, makeMapE, keyOk, keyKind, keyGood, lookR, zeroV, entV, entS, nextV, nextS, beq_self_eq_true, cond_true, cond_false]
        exact out 7 _ (by decide) (hbad (by simpa using h10))
      have hno : asc h9 out1 = none := by cases h : asc h9 out1 with
                                          | none => rfl
                                          | some v => rw [h] at h8; cases h8
      have hup : ups h9 a.2 out1 = out1 ++ [(h9, a.2)] := ups_new hno
      simp only [gwL, gwB, gwD, gwE, gwS, gwTT, gwZ, gwN, gwC, Nat.reduceEqDiff, ↓reduceIte, Nat.reduceAdd, Nat.reduceLT, Nat.reduceLeDiff, Nat.reduceMul, mapLook, mapPut, mapRange, mapLen, makeMapE, keyOk, keyKind, keyGood, lookR, zeroV, entV, entS, nextV, nextS, beq_self_eq_true, cond_true, cond_false, hpt, hup, Env.keep]
      refine ⟨(seen ++ [e], out1 ++ [(h9, a.2)]), rfl, by simp only [List.length_append, List.length_cons, List.length_nil]; omega, hseen, hlt2, by simp only [hadd, hk1]; rfl, ?_, fun q hq => ?_⟩
      · simp only [List.map_append, List.map_cons, List.map_nil]
        refine List.nodup_append.2 ⟨hs4.nodup, by simp, fun x hx y hy => ?_⟩
        rw [List.mem_singleton] at hy
        subst hy
        intro e'
        subst e'
        have := asc_keys.2 hx
        rw [hno] at this; cases this
      · rcases List.mem_append.1 hq with hq | hq
        · exact hs4.named q hq
        · rw [List.mem_singleton] at hq; rw [hq]; simpa using h10
    · have hk1 : keep1 k ns az p a = some (a.1, a.2) := by
        have : ¬ 0 ≤ i := of_decide_eq_false h7
        unfold keep1; rw [if_neg (by omega), if_neg (by omega), if_neg hn4, if_neg (fun h => this (by rw [hi]; exact h.2))]
      obtain ⟨h9, hh9⟩ : ∃ h9, h9 = a.1 := ⟨_, rfl⟩
      rw [← hh9] at hk1 ⊢
      have hbad : namedB h9 = false → (stepB k ns az p (0, M1)).1 = 7 := fun h => by rw [hh9, han] at h; cases h
      simp only [gwL, gwB, gwD, gwE, gwS, gwTT, gwZ, gwN, gwC, Nat.reduceEqDiff, ↓reduceIte, Nat.reduceAdd, Nat.reduceLT, Nat.reduceLeDiff, Nat.reduceMul, mapLook, mapPut, mapRange, mapLen, makeMapE, keyOk, keyKind, keyGood, lookR, zeroV, entV, entS, nextV, nextS, beq_self_eq_true, cond_true, cond_false, hlk]
      refine iK_split (fun h8 => ?_) (fun h8 => ?_)
      · simp only [gwL, gwB, gwD, gwE, gwS, gwTT, gwZ, gwN, gwC, Nat.reduceEqDiff, ↓reduceIte, Nat.reduceAdd, Nat.reduceLT, Nat.reduceLeDiff, Nat.reduceMul, mapLook, mapPut, mapRange, mapLen, makeMapE, keyOk, keyKind, keyGood, lookR, zeroV, entV, entS, nextV, nextS, beq_self_eq_true, cond_true, cond_false]
        exact out 8 _ (by decide) (stepB_dup h6' (metB_dup hia hk1 his hs2 (by rw [← hs3]; exact h8)))
      simp only [gwL, gwB, gwD, gwE, gwS, gwTT, gwZ, gwN, gwC, Nat.reduceEqDiff, ↓reduceIte, Nat.reduceAdd, Nat.reduceLT, Nat.reduceLeDiff, Nat.reduceMul, mapLook, mapPut, mapRange, mapLen, makeMapE, keyOk, keyKind, keyGood, lookR, zeroV, entV, entS, nextV, nextS, beq_self_eq_true, cond_true, cond_false]
      refine (c_text_Named _ h9).use (wkL_refl _) fun _ => ?_
      simp only [gwL, gwB, gwD, gwE, gwS, gwTT, gwZ, gwN, gwC, Nat.reduceEqDiff, ↓reduceIte, Nat.reduceAdd, Nat.reduceLT, Nat.reduceLeDiff, Nat.reduceMul, mapLook, mapPut, mapRange, mapLen, makeMapE, keyOk, keyKind, keyGood, lookR, zeroV, entV, entS, nextV, nextS, beq_self_eq_true, cond_true, cond_false]
      refine iK_split (fun h10 => ?_) (fun h10 => ?_)
      · simp only [gwL, gwB, gwD, gwE, gwS, gwTT, gwZ, gwN, gwC, Nat.reduceEqDiff, ↓reduceIte, Nat.reduceAdd, Nat.reduceLT, Nat.reduceLeDiff, Nat.reduceMul, mapLook, mapPut, mapRange, mapLen, makeMapE, keyOk, keyKind, keyGood, lookR, zeroV, entV, entS, nextV, nextS, beq_self_eq_true, cond_true, cond_false]
        exact out 7 _ (by decide) (hbad (by simpa using h10))
      have hno : asc h9 out1 = none := by cases h : asc h9 out1 with
                                          | none => rfl
                                          | some v => rw [h] at h8; cases h8
      have hup : ups h9 a.2 out1 = out1 ++ [(h9, a.2)] := ups_new hno
      simp only [gwL, gwB, gwD, gwE, gwS, gwTT, gwZ, gwN, gwC, Nat.reduceEqDiff, ↓reduceIte, Nat.reduceAdd, Nat.reduceLT, Nat.reduceLeDiff, Nat.reduceMul, mapLook, mapPut, mapRange, mapLen, makeMapE, keyOk, keyKind, keyGood, lookR, zeroV, entV, entS, nextV, nextS, beq_self_eq_true, cond_true, cond_false, hpt, hup, Env.keep]
      refine ⟨(seen ++ [e], out1 ++ [(h9, a.2)]), rfl, by simp only [List.length_append, List.length_cons, List.length_nil]; omega, hseen, hlt2, by simp only [hadd, hk1]; rfl, ?_, fun q hq => ?_⟩
      · simp only [List.map_append, List.map_cons, List.map_nil]
        refine List.nodup_append.2 ⟨hs4.nodup, by simp, fun x hx y hy => ?_⟩
        rw [List.mem_singleton] at hy
        subst hy
        intro e'
        subst e'
        have := asc_keys.2 hx
        rw [hno] at this; cases this
      · rcases List.mem_append.1 hq with hq | hq
        · exact hs4.named q hq
        · rw [List.mem_singleton] at hq; rw [hq]; simpa using h10
end Go.Proofs.Ytakcdeihljojiaa.Gx

namespace Go.Proofs
open Go.Shelf
shelf_lay_g SlLaysF0.n6 Slsf 6 at Try 44 as Ytakcdeihljojiaa.laysSF
end Go.Proofs
namespace Go.Proofs.Ytakcdeihljojiaa.Gx
open Go Go.Proofs.Ytakcdeihljojiaa.Gw
set_option linter.unusedSimpArgs false
set_option linter.unusedVariables false
open Go.Sort (putRow putCells grow Holds HoldsK putRowK PermIn SortedIn SWO flatK)
open Go.Proofs (sortWorldK ltOf CmpLays)

theorem cmp_lt : ∀ a b : Str, decide (Lib.compareBytes a b < 0) = decide (a < b)
  | [], [] => by simp [Lib.compareBytes]
  | [], _ :: _ => by simp [Lib.compareBytes]
  | _ :: _, [] => by simp [Lib.compareBytes]
  | x :: r, y :: s => by
    have ih := cmp_lt r s
    rw [decide_eq_decide] at ih ⊢
    rw [Lib.compareBytes, List.cons_lt_cons_iff]
    by_cases h : x < y
    · simp [h]
    · rw [if_neg h]
      by_cases h2 : y < x
      · have : x ≠ y := fun e => by subst e; exact h h2
        rw [if_pos h2]; simp [h, this]
      · have : x = y := UInt8.le_antisymm (UInt8.not_lt.1 h2) (UInt8.not_lt.1 h)
        rw [if_neg h2, ih]; simp [h, this]
theorem cmp_eq : ∀ a b : Str, decide (Lib.compareBytes a b = 0) = decide (a = b)
  | [], [] => by simp [Lib.compareBytes]
  | [], _ :: _ => by simp [Lib.compareBytes]
  | _ :: _, [] => by simp [Lib.compareBytes]
  | x :: r, y :: s => by
    have ih := cmp_eq r s
    rw [decide_eq_decide] at ih ⊢
    rw [Lib.compareBytes]
    by_cases h : x < y
    · have : x ≠ y := fun e => by subst e; exact UInt8.lt_irrefl _ h
      simp [h, this]
    · rw [if_neg h]
      by_cases h2 : y < x
      · have : x ≠ y := fun e => by subst e; exact h h2
        rw [if_pos h2]; simp [this]
      · have : x = y := UInt8.le_antisymm (UInt8.not_lt.1 h2) (UInt8.not_lt.1 h)
        rw [if_neg h2, ih]; simp [this]
set_option maxHeartbeats 1000000 in
set_option maxRecDepth 100000 in
theorem r_CompareString (a b : ByteArray) (w : World) :
    Calls Try.prog 46 #[.string a, .string b] w fun e w' => e = .returned (.int .i64 (Lib.compareBytes a.data.toList b.data.toList)) ∧ w' = w := by
  go_enter Try.func46, Try.ntmps46
  go_wp2
  rw [run_callFunc_extern Try.func55 (by kernel_rfl) (by kernel_rfl) (by kernel_rfl) (e := Extern.BytealgCompare.compare) (by kernel_rfl), Lib.run_compareString]
  simp only [Result.andThen]
  rw [Oper.upon_value]
  go_wp2
  go_ret
  exact ⟨rfl, rfl⟩
set_option maxHeartbeats 1000000 in
theorem r_Compare (a b : ByteArray) (w : World) :
    Calls Try.prog 34 #[.string a, .string b] w fun e w' => e = .returned (.int .i64 (Lib.compareBytes a.data.toList b.data.toList)) ∧ w' = w := by
  go_enter Try.func34, Try.ntmps34
  go_wp2_with (go_at_call 46; refine (r_CompareString _ _ _).mono ?_; rintro e w' ⟨rfl, rfl⟩)
  go_ret
  exact ⟨rfl, rfl⟩
theorem c_Compare (st : St) (a b : Str) : VCalls Try.prog TT 34 [.str a, .str b] st fun r st' => r = .ret (.int .i64 (Lib.compareBytes a b)) ∧ st' = st := by
  refine VCalls.ofReal ⟨_, Try.func34, by kernel_rfl, by kernel_rfl⟩ fun g w vals h => ?_
  simp only [SimVs, SimV] at h
  obtain ⟨_, _, rfl, ⟨rfl, _⟩, _, _, rfl, ⟨rfl, _⟩, rfl⟩ := h
  exact ⟨_, by simp only [SimV], r_Compare ⟨a.toArray⟩ ⟨b.toArray⟩ w⟩
def encQ (q : Str × Str) : List Value := [encStr q.1, encStr q.2]
set_option maxHeartbeats 1000000 in
theorem r_sorted1 (x y : Str × Str) (W : World) : Calls Try.prog 45 #[.agg #[encStr x.1, encStr x.2], .agg #[encStr y.1, encStr y.2]] W fun e w' => e = .returned (.int .i64 (Lib.compareBytes x.1 y.1)) ∧ ∃ q os', w' = grow (W.drewN q) os' := by
  have hcon := fun W' => r_Compare ⟨x.1.toArray⟩ ⟨y.1.toArray⟩ W'
  simp only [encStr]
  change ∀ W', Calls Try.prog 34 #[.string ⟨x.1.toArray⟩, .string ⟨y.1.toArray⟩] W' fun e w' => e = .returned (.int .i64 (Lib.compareBytes x.1 y.1)) ∧ w' = W' at hcon
  generalize Lib.compareBytes x.1 y.1 = r at hcon ⊢
  go_enter Try.func45, Try.ntmps45
  go_wp2_with (go_at_call 34; refine (hcon _).mono ?_; rintro e w' ⟨rfl, rfl⟩)
  go_ret
  exact ⟨rfl, 0, _, by rw [Go.Sort.alloc_eq_grow, Go.Sort.alloc_eq_grow, Go.Sort.grow_grow]; rfl⟩
theorem cmpLays1 (blk off size : Nat) (w : World) : CmpLays Try.prog 45 #[] encQ 2 (fun x y => Lib.compareBytes x.1 y.1) blk off size w :=
  fun _ _ _ _ x y => r_sorted1 x y _
theorem ltQ (x y : Str × Str) : ltOf (fun x y : Str × Str => Lib.compareBytes x.1 y.1) x y = decide (x.1 < y.1) := by unfold ltOf; exact cmp_lt _ _
theorem swoQ : SWO (ltOf fun x y : Str × Str => Lib.compareBytes x.1 y.1) where
  irrefl x := by rw [ltQ]; simp [List.lt_irrefl]
  trans x y z h1 h2 := by rw [ltQ] at *; simp only [decide_eq_true_eq] at *; exact List.lt_trans h1 h2
  ntrans x y z h1 h2 := by
    rw [ltQ] at *
    simp only [decide_eq_false_iff_not] at *
    exact List.not_lt.2 (List.le_trans (List.not_lt.1 h2) (List.not_lt.1 h1))
end Go.Proofs.Ytakcdeihljojiaa.Gx

namespace Go.Proofs.Ytakcdeihljojiaa.Gx
open Go Go.Proofs.Ytakcdeihljojiaa.Gw
set_option linter.unusedSimpArgs false
set_option linter.unusedVariables false
open Go.Sort (putRow putCells grow Holds HoldsK putRowK PermIn SortedIn SWO flatK)
open Go.Proofs (sortWorldK ltOf CmpLays)

theorem Ext.grown {g : G} {w w' : World} {b : Nat} (h : w.grownBy w' (some b)) (ho : g.own b = some 0) : Ext g w g w' := by
  obtain ⟨h1, h2, h3, h4, h5⟩ := h
  refine ⟨h1, h2, h3, h4, Nat.le_refl _, fun _ _ => rfl, fun _ _ => Nat.le_refl _, fun _ _ _ => rfl, fun c hc hn => ⟨h5 c hc (fun e => by cases e; rw [ho] at hn; cases hn), hn⟩, fun c k hc hk => ⟨fun off hoff => ?_, fun k' hk' => by rw [hk] at hk'; cases hk'; exact Nat.le_refl _⟩⟩
  by_cases e : c = b
  · subst e; rw [ho] at hk; cases hk; omega
  · exact cell_of_block (h5 c hc (fun e' => e (by cases e'; rfl)))
/-- Go.holds_of_block, of whatever cells. -/
theorem holds_of_cells {w : World} {g : Nat} {cur : Array Value} {e : TypeId} {ss : List Value} (hb : w.heap[g]? = some (.cells cur e (0, 0))) (ht : cur.toList.take ss.length = ss) : Holds id w g 0 ss.toArray := by
  intro j hj
  have hj' : j < ss.length := by simpa using hj
  refine ⟨?_, by simp [World.frozen?, hb]⟩
  have h1 : (cur.toList.take ss.length)[j]? = ss[j]? := by rw [ht]
  rw [List.getElem?_take_of_lt hj'] at h1
  simp only [World.cell?, hb, Nat.zero_add]
  simp only [Option.isSome_none, Bool.false_eq_true, if_false]
  rw [← Array.getElem?_toList, h1]
  simp [hj']
theorem heap_put {w : World} {g n : Nat} {os : Array Obj} {cur : Array Value} {e : TypeId} {fr : Nat × Nat} (d : Array Value) (hb : w.heap[g]? = some (.cells cur e fr)) :
    (grow (putRow id (Sort.ahead w n) g 0 d) os).heap[g]? = some (.cells (putCells id 0 d cur) e fr) := by
  have hg : g < w.heap.size := (Array.getElem?_eq_some_iff.1 hb).1
  rw [Go.Sort.heap_grow_old _ _ (by simpa using hg)]
  simp [putRow, Go.Sort.mapBlock, Sort.ahead, Array.getElem?_modify, hb, Go.Sort.onCells]
theorem grownBy_put {w : World} {g n : Nat} {os : Array Obj} (d : Array Value) : w.grownBy (grow (putRow id (Sort.ahead w n) g 0 d) os) (some g) := by
  refine ⟨rfl, rfl, rfl, by simp, fun k hk hne => ?_⟩
  rw [Go.Sort.heap_grow_old _ _ (by simpa using hk)]
  have : g ≠ k := fun e => hne (by rw [e])
  simp [putRow, Go.Sort.mapBlock, Sort.ahead, Array.getElem?_modify, this]
theorem take_put (cur : Array Value) (ts : List Value) (h : ts.length ≤ cur.size) : (putCells id 0 ts.toArray cur).toList.take ts.length = ts := by
  apply List.ext_getElem?
  intro j
  by_cases hj : j < ts.length
  · rw [List.getElem?_take_of_lt hj, Array.getElem?_toList]
    simp [putCells, hj, show j < cur.size by omega]
  · rw [List.getElem?_take_eq_none (by omega), List.getElem?_eq_none (by omega)]
variable {T : Nat → TI}
theorem row_put {g : G} {w w' : World} {st : St} {k : Nat} {e : TypeId} {sz : Nat} {rows rows' : List (List V)} {ts : List Value} {b cap n : Nat} {os : Array Obj} (hst : SimSt T g st w) (hk : st[k]? = some (.arr e sz rows))
    (htv : g.tv k = .slice (some ⟨b, 0, none⟩) rows.length cap) (hl : rows'.length = rows.length) (hr : ∀ r ∈ rows', r.length = sz) (hts : ts.length = rows.length * sz) (hone : ∀ u ∈ ts, u.oneCell' = true)
    (hw : w' = grow (putRow id (Sort.ahead w n) b 0 ts.toArray) os) (hsim : ∀ g' w', SimVs g' w' rows'.flatten ts) : SimSt T g (st.set k (.arr e sz rows')) w' ∧ Ext g w g w' := by
  obtain ⟨m1, m2, xs, ⟨t1, t2, t3⟩, m3, m4⟩ := hst.ent k _ hk
  replace t3 := tip2 t3 rfl
  rcases t3 with ⟨h0, h0'⟩ | ⟨b', cap', cur, k1, k2, k3, k4, k5, k6, k7⟩
  · rw [htv] at h0'; cases h0'
  rw [htv] at k1; cases k1
  simp only [Nat.zero_add, Nat.add_zero, List.drop_zero] at k2 k6 k7
  have hx : Ext g w g w' := Ext.grown (by rw [hw]; exact grownBy_put _) k2
  have hb : w'.heap[b]? = some (.cells (putCells id 0 ts.toArray cur) e (0, 0)) := by rw [hw]; exact heap_put _ k3
  refine ⟨hst.upd hk hx rfl (fun _ => rfl) (fun _ _ => ⟨rfl, rfl⟩) (fun c hc hne ho => ⟨?_, rfl⟩) ?_ (fun c hc => .inl hc), hx⟩
  · have hg : w.grownBy w' (some b) := by rw [hw]; exact grownBy_put _
    exact hg.block c hc (fun e' => by cases e'; exact hne (by simp [blkOf, htv, Value.ownBlock]))
  · refine ⟨m1, hr, ts, ?_, hsim _ _, hone⟩
    refine ⟨by rw [t1, hl], by rw [hts, hl, ← m1], .inr <| .inr ⟨b, cap, _, by rw [htv, hl], k2, hb, by rw [hl]; exact k4, k5, ?_, ?_⟩⟩
    · simp [putCells, k6]
    · rw [List.drop_zero, hl, ← m1, ← hts]
      exact take_put cur ts (by rw [k6, ← m1, hts]; exact Nat.mul_le_mul_right _ k4)

def rowsP (l : Tb) : List (List V) := l.map fun q => [V.str q.1, V.str q.2]
def flatQ (l : Tb) : List Value := l.flatMap encQ
theorem flatQ_len : ∀ l : Tb, (flatQ l).length = l.length * 2
  | [] => rfl
  | q :: r => by have := flatQ_len r; simp only [flatQ, List.flatMap_cons, List.length_append, encQ, List.length_cons, List.length_nil] at *; omega
theorem simQ {g : G} {w : World} : ∀ {l : Tb} {xs : List Value}, SimVs g w (rowsP l).flatten xs → xs = flatQ l ∧ ∀ q ∈ l, q.1.length ≤ 9223372036854775807 ∧ q.2.length ≤ 9223372036854775807
  | [], xs, h => by simp only [rowsP, List.map_nil, List.flatten_nil, SimVs] at h; subst h; exact ⟨rfl, by simp⟩
  | q :: r, xs, h => by
    simp only [rowsP, List.map_cons, List.flatten_cons, List.cons_append, List.nil_append, SimVs] at h
    obtain ⟨v, t, rfl, h1, v2, t2, rfl, h2, h3⟩ := h
    simp only [SimV] at h1 h2
    obtain ⟨e, e2⟩ := simQ (l := r) h3
    refine ⟨by rw [e, h1.1, h2.1]; rfl, fun x hx => ?_⟩
    rcases List.mem_cons.1 hx with rfl | hx
    · exact ⟨h1.2, h2.2⟩
    · exact e2 x hx
theorem qSim {g : G} {w : World} : ∀ {l : Tb}, (∀ q ∈ l, q.1.length ≤ 9223372036854775807 ∧ q.2.length ≤ 9223372036854775807) → SimVs g w (rowsP l).flatten (flatQ l)
  | [], _ => rfl
  | q :: r, h => ⟨_, _, rfl, ⟨rfl, (h q (by simp)).1⟩, _, _, rfl, ⟨rfl, (h q (by simp)).2⟩, qSim fun x hx => h x (by simp [hx])⟩
theorem flatQ_get : ∀ (l : Tb) (t : Nat), t < l.length * 2 → (flatQ l)[t]? = some (encQ (l[t / 2]!))[t % 2]!
  | [], t, h => by simp at h
  | q :: r, 0, _ => rfl
  | q :: r, 1, _ => rfl
  | q :: r, t + 2, h => by
    have := flatQ_get r t (by simp only [List.length_cons] at h; omega)
    have e1 : (t + 2) / 2 = t / 2 + 1 := by omega
    have e2 : (t + 2) % 2 = t % 2 := by omega
    rw [e1, e2]
    simp only [flatQ, List.flatMap_cons, encQ, List.cons_append, List.nil_append, List.getElem?_cons_succ] at *
    rw [this]
    simp
theorem flatK_Q (l : Tb) : (flatK encQ 2 l.toArray) = (flatQ l).toArray := by
  apply Array.ext
  · simp [flatQ_len]
  · intro t h1 h2
    have ht : t < l.length * 2 := by simpa using h1
    have a := Go.Sort.get_flatK encQ 2 l.toArray t (by simpa using ht)
    have b := flatQ_get l t ht
    rw [getElem!_pos _ t h1] at a
    rw [a]
    have b' : (flatQ l)[t]'(by rw [flatQ_len]; exact ht) = (encQ (l[t / 2]!))[t % 2]! := by
      rw [List.getElem?_eq_getElem (by rw [flatQ_len]; exact ht)] at b
      simpa using b
    simp only [List.getElem_toArray]
    rw [b']
    congr 2
    simp
def leQ (a b : Str × Str) : Bool := decide (a.1 ≤ b.1)
def sortP (l : Tb) : Tb := l.mergeSort leQ
theorem sortP_perm (l : Tb) : (sortP l).Perm l := List.mergeSort_perm l _
theorem sortP_sorted (l : Tb) : (sortP l).Pairwise fun a b => a.1 ≤ b.1 := by
  have := List.pairwise_mergeSort (le := leQ) (fun a b c h1 h2 => by
    simp only [leQ, decide_eq_true_eq] at *; exact List.le_trans h1 h2) (fun a b => by
    simp only [leQ, Bool.or_eq_true, decide_eq_true_eq]; exact List.le_total a.1 b.1) l
  exact this.imp fun h => by simpa [leQ] using h
/-- Of what is told apart by its first there is one rising list. -/
theorem sortedP_eq {l m : Tb} (hn : (m.map (·.1)).Nodup) (h1 : l.Pairwise fun a b => a.1 ≤ b.1) (h2 : m.Pairwise fun a b => a.1 ≤ b.1) (h : l.Perm m) : l = m := by
  refine h.eq_of_pairwise (fun a b ha hb h1 h2 => ?_) h1 h2
  have e := List.le_antisymm h1 h2
  have ha' : a ∈ m := h.mem_iff.1 ha
  obtain ⟨i, hi⟩ := List.getElem?_of_mem ha'
  obtain ⟨j, hj⟩ := List.getElem?_of_mem hb
  obtain ⟨hi1, hi2⟩ := List.getElem?_eq_some_iff.1 hi
  obtain ⟨hj1, hj2⟩ := List.getElem?_eq_some_iff.1 hj
  unfold List.Nodup at hn
  rw [List.pairwise_map, List.pairwise_iff_getElem] at hn
  rcases Nat.lt_trichotomy i j with hlt | heq | hlt
  · exact absurd (by rw [hi2, hj2]; exact e) (hn i j hi1 hj1 hlt)
  · subst heq; rw [← hi2, ← hj2]
  · exact absurd (by rw [hi2, hj2]; exact e.symm) (hn j i hj1 hi1 hlt)
theorem sortP_eq {l m : Tb} (hn : (l.map (·.1)).Nodup) (h : l.Perm m) : sortP l = sortP m :=
  sortedP_eq (((sortP_perm m).map _).nodup_iff.2 ((h.map _).nodup_iff.1 hn)) (sortP_sorted l) (sortP_sorted m) ((sortP_perm l).trans (h.trans (sortP_perm m).symm))
theorem c_SortFuncP (l : Tb) (k : Nat) (st : St) (hk : st[k]? = some (.arr 38 2 (rowsP l))) (hn : (l.map (·.1)).Nodup) (hl : l.length < 4611686018427387904) : VCalls Try.prog TT 44 [.arr k l.length, .fn (.func 45) []] st fun r st' =>
    r = .ret (.tup []) ∧ st' = st.set k (.arr 38 2 (rowsP (sortP l))) := by
  refine ⟨⟨_, Try.func44, by kernel_rfl, by kernel_rfl⟩, fun g w vals hst hv => ?_⟩
  simp only [SimVs, SimV] at hv
  obtain ⟨v, _, rfl, ⟨-, -, h3, -⟩, _, _, rfl, ⟨vs, rfl, rfl⟩, rfl⟩ := hv
  obtain ⟨m1, m2, xs, ⟨t1, t2, t3⟩, m3, m4⟩ := hst.ent k _ hk
  have hlen : (rowsP l).length = l.length := by simp [rowsP]
  rw [hlen] at t1 t2 t3
  have hvv := h3 t1
  subst hvv
  replace t3 := tip2 t3 rfl
  rcases t3 with ⟨h0, h0'⟩ | ⟨b, cap, cur, k1, k2, k3, k4, k5, k6, k7⟩
  · have hnil : l = [] := List.length_eq_zero_iff.1 h0
    rw [h0']
    subst hnil
    refine (AnyF.slices_SortFunc_none Ytakcdeihljojiaa.laysSF none 0 _ w).mono ?_
    rintro e w' ⟨rfl, rfl⟩
    refine ⟨.ret (.tup []), _, g, ⟨rfl, rfl⟩, ⟨_, rfl, by simp [SimV, SimVs]⟩, ?_, Ext.refl _ _⟩
    have : st.set k (.arr 38 2 (rowsP (sortP []))) = st := by
      rw [show sortP [] = [] from List.mergeSort_nil]
      apply List.ext_getElem?
      intro j
      by_cases e : j = k
      · subst e; rw [List.getElem?_set_self (List.getElem?_eq_some_iff.1 hk).1, hk]
      · rw [List.getElem?_set_ne (Ne.symm e)]
    rw [this]; exact hst
  · simp only [Nat.zero_add, Nat.add_zero, List.drop_zero] at k2 k6 k7
    have k1' := k1
    rw [k1]
    obtain ⟨hxs, hfit⟩ := simQ m3
    have hsz : (TT 38).size = 2 := m1.symm
    have hH : HoldsK encQ 2 w b 0 l.toArray := by
      unfold HoldsK
      rw [flatK_Q]
      refine holds_of_cells k3 ?_
      rw [flatQ_len, ← hxs, ← k7, hsz]
    have eg : ∀ args w, (callFunc 45 args).run Try.prog w = .ok (.enter 45 args) w := enters_of Try.func45 (by kernel_rfl) rfl
    refine (AnyQ.slices_SortFunc Ytakcdeihljojiaa.laysSF 2 Try.isAgg38 Try.sizeOf38 encQ (fun _ => rfl) (fun x v hv => by simp [encQ] at hv; rcases hv with rfl | rfl <;> rfl) (fun x y => Lib.compareBytes x.1 y.1) swoQ 45 #[] b 0 cap l.toArray w eg (cmpLays1 b 0 _ w) hH (Array.getElem?_eq_some_iff.1 k3).1 (by simpa using hl)).mono ?_
    rintro e w' ⟨rfl, d', n, os, ⟨p1, -, p3⟩, hs, rfl⟩
    have hd' : d'.toList.Perm l := by
      have e1 : d'.extract 0 l.toArray.size = d' := by rw [← p1]; simp
      rw [e1] at p3
      simpa using p3
    have hsd : d'.toList.Pairwise fun a b => a.1 ≤ b.1 := by
      rw [List.pairwise_iff_getElem]
      intro i j hi hj hij
      have := hs i j (Nat.zero_le _) hij (by rw [← p1]; simpa using hj)
      rw [ltQ, decide_eq_false_iff_not] at this
      have e1 : d'[i]! = d'.toList[i] := by rw [getElem!_pos d' i (by simpa using hi)]; simp
      have e2 : d'[j]! = d'.toList[j] := by rw [getElem!_pos d' j (by simpa using hj)]; simp
      rw [e1, e2] at this
      exact List.not_lt.1 this
    have hd2 : d'.toList = sortP l := sortedP_eq (((sortP_perm l).map _).nodup_iff.2 hn) hsd (sortP_sorted l) (hd'.trans (sortP_perm l).symm)
    have hd3 : d' = (sortP l).toArray := by rw [← hd2]
    have hlen2 : (sortP l).length = l.length := (sortP_perm l).length_eq
    subst hd3
    obtain ⟨s1, s2⟩ := row_put (rows' := rowsP (sortP l)) (ts := flatQ (sortP l)) (os := os) (n := n) (w' := sortWorldK encQ 2 w b 0 n (sortP l).toArray os) hst hk (by rw [hlen]; exact k1') (by simp [rowsP, hlen2]) (fun r hr => by simp only [rowsP, List.mem_map] at hr; obtain ⟨q, _, rfl⟩ := hr; rfl) (by rw [flatQ_len, hlen2, hlen]) (fun u hu => by
      simp only [flatQ, List.mem_flatMap] at hu
      obtain ⟨q, _, hu⟩ := hu
      simp [encQ] at hu
      rcases hu with rfl | rfl <;> rfl) (by unfold sortWorldK putRowK; rw [flatK_Q]) (fun _ _ => qSim fun q hq => hfit q ((sortP_perm l).mem_iff.1 hq))
    exact ⟨.ret (.tup []), _, g, ⟨rfl, rfl⟩, ⟨_, rfl, by simp [SimV, SimVs]⟩, s1, s2⟩
end Go.Proofs.Ytakcdeihljojiaa.Gx

namespace Go.Proofs.Ytakcdeihljojiaa.Gw
open Go
set_option linter.unusedSimpArgs false

def putG (t : Nat) (x : V) : List (Nat × Bool × V) → List (Nat × Bool × V)
  | [] => []
  | (k, b, v) :: r => (k, b, if k = t then x else v) :: putG t x r
theorem putG_find (t : Nat) (x : V) : ∀ (g : List (Nat × Bool × V)) (k : Nat), Gw.find (putG t x g) k = (Gw.find g k).map fun y => (y.1, if k = t then x else y.2)
  | [], k => rfl
  | (j, b, v) :: r, k => by
    simp only [putG, Gw.find]
    by_cases e : j = k
    · subst e; simp
    · simp only [e, if_false]
      exact putG_find t x r k
/-- What a named temporary holds may be taken for something else. -/
theorem env_put {g' : G} {w : World} {L : List Nat} {N : Nat} {g1 l : List (Nat × Bool × V)} {a : Act} {t : Nat} {v x : V} (hg : Gw.find g1 t = some (true, v)) (henv : SimEnv g' w ⟨N, g1, l⟩ a) (hok : EnvOK L ⟨N, g1, l⟩) (hx : ∀ u, SimV g' w v u → SimV g' w x u) :
    SimEnv g' w ⟨N, putG t x g1, []⟩ a ∧ EnvOK L ⟨N, putG t x g1, []⟩ := by
  have look1 : ∀ k y, Gw.find g1 k = some y → (⟨N, g1, l⟩ : Env).look k = some y := fun k y hk => (hok k y hk).2
  refine ⟨⟨henv.1, fun k b u hk => ?_⟩, fun k y hk => ?_⟩
  · simp only [Env.look, Gw.find] at hk
    rw [putG_find] at hk
    cases hf : Gw.find g1 k with
    | none => rw [hf] at hk; simp at hk
    | some y =>
      rw [hf] at hk
      simp only [Option.map_some, Option.some.injEq, Prod.mk.injEq] at hk
      have h1 := henv.2 k y.1 y.2 (by rw [look1 k y hf])
      obtain ⟨rfl, rfl⟩ := hk
      by_cases e : k = t
      · subst e
        rw [hg] at hf
        cases hf
        simp only [if_true] at h1 ⊢
        exact hx _ h1
      · rw [if_neg e]; exact h1
  · rw [putG_find] at hk
    refine ⟨?_, by simp only [Env.look, Gw.find]; rw [putG_find]; exact hk⟩
    cases hf : Gw.find g1 k with
    | none => rw [hf] at hk; simp at hk
    | some y => exact (hok k y hf).1
theorem vnilA {P : Program} {T : Nat → TI} {L : List Nat} {ds : List Deferred} {c : Code} {N : Nat} {g1 l : List (Nat × Bool × V)} {st : St} {Q : VExit → Env → St → Prop} (t : Nat) (e : TypeId) (hg : Gw.find g1 t = some (true, .nils))
    (h : VC P T L ds c ⟨N, putG t (.arr st.length 0) g1, []⟩ (st ++ [.arr e (T e).size []]) Q) : VC P T L ds c ⟨N, g1, l⟩ st Q := by
  intro g w a hst henv hok hds
  have hn := hst.n
  have hx := Ext.push g w 0 (.slice none 0 0) 0
  have hS : SimSt T (g.push 0 (.slice none 0 0) 0) (st ++ [.arr e (T e).size []]) w := hst.push ⟨rfl, by simp, [], ⟨by simp [G.push], by simp, .inl ⟨rfl, by simp [G.push]⟩⟩, by simp [SimVs], by simp⟩ (fun c hc => by simp [blkOf, G.push, Value.ownBlock] at hc)
  obtain ⟨k1, k2⟩ := env_put (x := .arr st.length 0) hg (henv.ext hx) hok fun u hu => by
    simp only [SimV] at hu ⊢
    subst hu
    exact ⟨by simp [G.push, hn], by simp [G.push, hn], fun _ => by simp [G.push, hn], none, 0, rfl⟩
  exact wp_mono (h _ w a hS k1 k2 hds) fun e a' u hL => hL.ext hx
end Go.Proofs.Ytakcdeihljojiaa.Gw

namespace Go.Proofs.Ytakcdeihljojiaa.Gx
open Go Go.Proofs.Ytakcdeihljojiaa.Gw
set_option linter.unusedSimpArgs false
set_option linter.unusedVariables false

def lstP (l : Tb) : V := .lst 2 none (rowsP l)
theorem rowsP_len (l : Tb) : (rowsP l).length = l.length := by simp [rowsP]
theorem thawR_refl {st : St} {m : Nat} : ∀ l : List (List V), ThawR st m l l
  | [] => .nil
  | x :: r => .cons (ThawL.refl x) (thawR_refl r)
theorem rowsP_lt (n : Nat) (l : Tb) : ltRows n (rowsP l) := by unfold rowsP; exact ltRows_map fun x _ => ⟨trivial, trivial, trivial⟩
theorem lstP_lt (n : Nat) (l : Tb) : (lstP l).lt n := by simp only [lstP, V.lt]; exact ⟨fun e h => (by cases h), rowsP_lt n l⟩
set_option maxRecDepth 20000 in
set_option maxHeartbeats 8000000 in
theorem c_sortedT (st : St) (o : Nat) (M : Tb) (ho : st[o]? = some (mapE V.str V.str M)) (hM : (M.map (·.1)).Nodup) (hl : M.length ≤ 1000000) :
    VCalls Try.prog TT 29 [.map o] st fun r st' => r = .ret (lstP (sortP M)) ∧ st' = st := by
  refine VCalls.freeze (Q := fun r st' => ∃ k ex, r = .ret (.arr k M.length) ∧ st' = st ++ ex ∧ st.length ≤ k ∧ st'[k]? = some (.arr 38 2 (rowsP (sortP M)))) ?_ ?_
  · refine vfunQ TT_ok (an := anL []) (L := [0, 2, 3, 4, 5, 7]) (rs := [.tmp 2]) Try.func29 rfl (by kernel_rfl) rfl Try.ntmps29 rfl rfl fun hst ha hf => ?_
    have hrm := fun (st1 : St) => range_mapE (ek := V.str) (ev := V.str) o st1 M
    simp only [gwL, gwB, gwD, gwE, gwS, gwTT, gwZ, gwN, gwC, Nat.reduceEqDiff, ↓reduceIte, Nat.reduceAdd, Nat.reduceLT, Nat.reduceLeDiff, Nat.reduceMul, mapLook, mapPut, mapRange, mapLen, makeMapE, keyOk, keyKind, keyGood, lookR, zeroV, entV, entS, nextV, nextS, beq_self_eq_true, cond_true, cond_false, ho, hrm]
    refine vnilA 3 38 rfl ?_
    simp only [putG, List.length_append, List.length_cons, List.length_nil, Nat.reduceEqDiff, if_true, if_false, List.append_assoc, List.cons_append, List.nil_append]
    refine vfor (σ := List Nat × Tb) [0, 2, 3, 7] (fun x => [(0, true, .map o), (2, true, .nils), (3, true, .arr (st.length + 1) x.2.length), (7, true, .ptr st.length 0)]) (fun x => st ++ [Ent.iter o M.length x.1, Ent.arr 38 2 (rowsP x.2)]) (fun x => M.length - x.1.length) (fun x => x.1.Nodup ∧ (∀ i ∈ x.1, i < M.length) ∧ x.2 = x.1.map fun i => M.getD i ([], [])) ([], []) rfl TT_ok ⟨List.nodup_nil, by simp, rfl⟩ rfl rfl ?_
    rintro ⟨seen, out⟩ ⟨hs1, hs2, hs3⟩
    simp only at hs1 hs2 hs3 ⊢
    have hol := (List.getElem?_eq_some_iff.1 ho).1
    have gg : ∀ X : St, (st ++ X)[o]? = some (mapE V.str V.str M) := fun X => by rw [List.getElem?_append_left hol, ho]
    have hnx := fun (o1 : Nat) (st1 : St) => next_mapE (ek := V.str) (ev := V.str) o1 o seen st1 M
    simp only [gwL, gwB, gwD, gwE, gwS, gwTT, gwZ, gwN, gwC, Nat.reduceEqDiff, ↓reduceIte, Nat.reduceAdd, Nat.reduceLT, Nat.reduceLeDiff, Nat.reduceMul, mapLook, mapPut, mapRange, mapLen, makeMapE, keyOk, keyKind, keyGood, lookR, zeroV, entV, entS, nextV, nextS, beq_self_eq_true, cond_true, cond_false, gg, hnx]
    refine nextL_all (fun hend => ?_) (fun e a hia hil his => ?_)
    · have hp : out.Perm M := by
        rw [hs3]
        have := (seen_perm hs1 hs2 hend).map fun i => M.getD i ([], [])
        rw [map_getD_range (fun q : Str × Str => q) ([], []) M] at this
        simpa using this
      have hon : (out.map (·.1)).Nodup := (hp.map _).nodup_iff.2 hM
      have hol2 := hp.length_eq
      simp only [gwL, gwB, gwD, gwE, gwS, gwTT, gwZ, gwN, gwC, Nat.reduceEqDiff, ↓reduceIte, Nat.reduceAdd, Nat.reduceLT, Nat.reduceLeDiff, Nat.reduceMul, mapLook, mapPut, mapRange, mapLen, makeMapE, keyOk, keyKind, keyGood, lookR, zeroV, entV, entS, nextV, nextS, beq_self_eq_true, cond_true, cond_false]
      refine (c_SortFuncP out (st.length + 1) _ (by simp) hon (by omega)).use (wkL_refl _) fun _ => ?_
      simp only [gwL, gwB, gwD, gwE, gwS, gwTT, gwZ, gwN, gwC, Nat.reduceEqDiff, ↓reduceIte, Nat.reduceAdd, Nat.reduceLT, Nat.reduceLeDiff, Nat.reduceMul, mapLook, mapPut, mapRange, mapLen, makeMapE, keyOk, keyKind, keyGood, lookR, zeroV, entV, entS, nextV, nextS, beq_self_eq_true, cond_true, cond_false]
      exact ⟨st.length + 1, _, by rw [hol2], rfl, by omega, by rw [List.getElem?_append_right (by omega), sortP_eq hon hp]; simp⟩
    · have hent := fun (st1 : St) => ent_mapE (ek := V.str) (ev := V.str) (seen := seen) (st := st1) hia
      simp only [gwL, gwB, gwD, gwE, gwS, gwTT, gwZ, gwN, gwC, Nat.reduceEqDiff, ↓reduceIte, Nat.reduceAdd, Nat.reduceLT, Nat.reduceLeDiff, Nat.reduceMul, mapLook, mapPut, mapRange, mapLen, makeMapE, keyOk, keyKind, keyGood, lookR, zeroV, entV, entS, nextV, nextS, beq_self_eq_true, cond_true, cond_false, gg, hent, Env.keep]
      have hseen : (seen ++ [e]).Nodup := List.nodup_append.2 ⟨hs1, by simp, fun a ha b hb => by rw [List.mem_singleton] at hb; subst hb; intro e'; subst e'; exact his ha⟩
      have hlt2 : ∀ i ∈ seen ++ [e], i < M.length := fun i hi => by
        rcases List.mem_append.1 hi with hi | hi
        · exact hs2 i hi
        · rw [List.mem_singleton] at hi; rw [hi]; exact hil
      have hsl := seen_len hseen hlt2
      rw [List.length_append] at hsl
      simp only [List.length_cons, List.length_nil] at hsl
      have hoL : out.length = seen.length := by rw [hs3, List.length_map]
      have hr2 : rowsP out ++ [[V.str a.1, V.str a.2]] = rowsP (out ++ [a]) := by simp [rowsP]
      have hl2 : (out ++ [a]).length = out.length + 1 := by simp
      rw [rowsP_len]
      exact ⟨⟨rfl, by omega⟩, (seen ++ [e], out ++ [a]), by simp only [hl2], by simp only [hr2], by simp only [List.length_append, List.length_cons, List.length_nil]; omega, hseen, hlt2, by simp only [List.map_append, hs3, List.map_cons, List.map_nil, List.getD_eq_getElem?_getD, hia, Option.getD_some]⟩
  · rintro r st' ⟨k, ex, rfl, rfl, hk, hk2⟩
    exact ⟨_, _, ex, rfl, rfl, .arr hk hk2 (by rw [rowsP_len, (sortP_perm M).length_eq]) (thawR_refl _), wk_refl _, lstP_lt _ _⟩

/-- What a library has, as a table; or what is wrong with it. -/
def exL : List Str → Tb → Int × Tb
  | [], M => (0, M)
  | n :: r, M => if namedB n = false then (7, []) else if (asc n M).isSome = true then (8, []) else exL r (M ++ [(n, n)])
def ofL (s : Set') (ex : List Str) : Tb × Int :=
  if shapeS s 1 ≠ 0 then ([], shapeS s 1) else
  if 200 < ex.length then ([], 5) else
  if (exL ex []).1 ≠ 0 then ([], (exL ex []).1) else
  if (brS s (exL ex []).2).1 ≠ 0 then ([], (brS s (exL ex []).2).1) else (sortP (brS s (exL ex []).2).2, 0)
def ofV (r : Tb × Int) : V := .tup [lstP r.1, .int .i64 r.2]
theorem ofV_lt (n : Nat) (r : Tb × Int) : (ofV r).lt n := by simp only [ofV, V.lt, ltL, and_true]; exact ⟨fun e h => (by cases h), rowsP_lt n _⟩
theorem brS_len (s : Set') : ∀ (M : Tb), (brS s M).2.length ≤ M.length := by
  refine Set'.ind (p := fun s => ∀ M : Tb, (brS s M).2.length ≤ M.length) ?_ s
  intro k n ns az p kids ih M
  rw [brS]
  by_cases hk : k = 1
  · rw [if_pos hk]; exact Nat.le_refl _
  rw [if_neg hk]
  have hkid : (brSs kids M).2.length ≤ M.length := by
    cases kids with
    | nil => exact Nat.le_refl _
    | cons x r => exact ih x (by simp) M
  unfold stepB
  split
  · simp
  · split
    · simp
    · split
      · simp
      · split
        · simp
        · exact Nat.le_trans (List.length_filterMap_le _ _) hkid
set_option maxRecDepth 20000 in
set_option maxHeartbeats 8000000 in
theorem c_Of (s : Set') (ex : List Str) (st : St) : VCalls Try.prog TT 11 [.agg (encSet s), encS ex] st fun r st' => r = .ret (ofV (ofL s ex)) ∧ st' = st := by
  refine vfun TT_ok (an := anL [(2, 1)]) (L := [0, 1, 2, 4, 5, 6, 7, 9, 11, 12, 13, 22, 23, 24]) (rs := [.tmp 4, .tmp 5]) Try.func11 rfl (by kernel_rfl) rfl Try.ntmps11 rfl rfl (Nat.le_refl _) fun hst ha hf => ?_
  generalize hr : ofL s ex = res
  have give : ∀ (v : V) (a : Tb) (e : Int) (Y : St), res = (a, e) → wk v (lstP a) → Gives (ofV res) st (.ret (.tup [v, .int .i64 e])) (st ++ Y) := fun v a e Y h hw => by
    rw [h]
    exact gives_of (wk_tup (wkL_cons hw (wkL_refl _))) (wkSt_refl _) (ofV_lt _ _) hst
  have give0 : ∀ (v : V) (a : Tb) (e : Int), res = (a, e) → wk v (lstP a) → Gives (ofV res) st (.ret (.tup [v, .int .i64 e])) st := fun v a e h hw => by
    have := give v a e [] h hw
    rwa [List.append_nil] at this
  have hcl : V.cells (.agg (encSet s)) = some (encSet s) := rfl
  have hfl : ex.length ≤ 9223372036854775807 := by
    simp only [fitL, V.fit, encS, List.length_map] at hf
    exact hf.2.1.1
  simp only [gwL, gwB, gwD, gwE, gwS, gwTT, gwZ, gwN, gwC, Nat.reduceEqDiff, ↓reduceIte, Nat.reduceAdd, Nat.reduceLT, Nat.reduceLeDiff, Nat.reduceMul, hcl]
  refine (c_shapeS s st 1 (by decide) (by decide)).use (wkL_refl _) fun _ => ?_
  simp only [gwL, gwB, gwD, gwE, gwS, gwTT, gwZ, gwN, gwC, Nat.reduceEqDiff, ↓reduceIte, Nat.reduceAdd, Nat.reduceLT, Nat.reduceLeDiff, Nat.reduceMul]
  unfold ofL at hr
  refine iK_split (fun h => ?_) (fun h => ?_)
  · have h' : shapeS s 1 ≠ 0 := by simpa using h
    rw [if_pos h'] at hr
    simp only [gwL, gwB, gwD, gwE, gwS, gwTT, gwZ, gwN, gwC, Nat.reduceEqDiff, ↓reduceIte, Nat.reduceAdd, Nat.reduceLT, Nat.reduceLeDiff, Nat.reduceMul]
    exact give0 _ [] _ hr.symm (wk_nils 2)
  have h' : shapeS s 1 = 0 := by simpa using h
  rw [if_neg (by rw [h']; simp)] at hr
  simp only [gwL, gwB, gwD, gwE, gwS, gwTT, gwZ, gwN, gwC, Nat.reduceEqDiff, ↓reduceIte, Nat.reduceAdd, Nat.reduceLT, Nat.reduceLeDiff, Nat.reduceMul, encS, List.length_map]
  refine iK_split (fun h2 => ?_) (fun h2 => ?_)
  · have h2' : 200 < ex.length := by have := of_decide_eq_true h2; omega
    rw [if_pos h2'] at hr
    simp only [gwL, gwB, gwD, gwE, gwS, gwTT, gwZ, gwN, gwC, Nat.reduceEqDiff, ↓reduceIte, Nat.reduceAdd, Nat.reduceLT, Nat.reduceLeDiff, Nat.reduceMul]
    exact give0 _ [] _ hr.symm (wk_nils 2)
  have h2' : ¬ 200 < ex.length := by have := of_decide_eq_false h2; omega
  rw [if_neg h2'] at hr
  have hmk := fun (st : St) => make_mapE (k := 9) (e := 9) V.str V.str st
  simp only [gwL, gwB, gwD, gwE, gwS, gwTT, gwZ, gwN, gwC, Nat.reduceEqDiff, ↓reduceIte, Nat.reduceAdd, Nat.reduceLT, Nat.reduceLeDiff, Nat.reduceMul, mapLook, mapPut, mapRange, mapLen, makeMapE, keyOk, keyKind, keyGood, lookR, zeroV, entV, entS, nextV, nextS, beq_self_eq_true, cond_true, cond_false, List.length_map]
  refine vfor (σ := Nat × Tb) [2, 4, 5, 7, 22, 23, 24] (fun x => [(2, true, .ref (encSet s)), (4, true, .nils), (5, true, .int .i64 0), (7, true, .map st.length), (22, true, .lst 1 none (ex.map fun s => [V.str s])), (23, true, .int .i64 ex.length), (24, true, .int .i64 x.1)]) (fun x => st ++ [mapE V.str V.str x.2]) (fun x => ex.length - x.1) (fun x => x.1 ≤ ex.length ∧ exL ex [] = exL (ex.drop x.1) x.2 ∧ TbOk x.2 ∧ x.2.length = x.1) (0, []) rfl TT_ok ⟨Nat.zero_le _, rfl, ⟨List.nodup_nil, by simp⟩, rfl⟩ rfl rfl ?_
  rintro ⟨i, M⟩ ⟨hi, hx, hM, hMl⟩
  simp only at hi hx hM hMl ⊢
  have hlk := fun (i : TI) (ok : Bool) (st : St) (n : Str) => look_mapE (ev := V.str) (keyP_str TT) i ok n st M
  have hpt := fun (o : Nat) (n : Str) (a : Str) (st : St) => put_mapE (ev := V.str) (keyP_str TT) o n a st M
  rcases at_or_end ex i hi with ⟨hie, hd⟩ | ⟨n, hlt, hget, hdr⟩
  · have hie2 : i = ex.length := hie
    subst hie2
    rw [hd, exL] at hx
    rw [hx, if_neg (by simp)] at hr
    simp only [gwL, gwB, gwD, gwE, gwS, gwTT, gwZ, gwN, gwC, Nat.reduceEqDiff, ↓reduceIte, Nat.reduceAdd, Nat.reduceLT, Nat.reduceLeDiff, Nat.reduceMul, mapLook, mapPut, mapRange, mapLen, makeMapE, keyOk, keyKind, keyGood, lookR, zeroV, entV, entS, nextV, nextS, beq_self_eq_true, cond_true, cond_false, lt_no]
    refine useQS (c_ofS s _ st.length M (by simp) hM (by omega) ⟨1, by decide, h'⟩) (wkL_refl _) (wkSt_refl _) OfQ.np fun X s1 _ hq => ?_
    obtain ⟨Y, rfl, ⟨he, hX⟩ | ⟨he, o1, M1, hX, ho1, hp1⟩⟩ := hq
    · cases hX
      rw [if_pos he] at hr
      have hdec : (!decide ((brS s M).1 = 0)) = true := by simp [he]
      simp only [gwL, gwB, gwD, gwE, gwS, gwTT, gwZ, gwN, gwC, Nat.reduceEqDiff, ↓reduceIte, Nat.reduceAdd, Nat.reduceLT, Nat.reduceLeDiff, Nat.reduceMul, mapLook, mapPut, mapRange, mapLen, makeMapE, keyOk, keyKind, keyGood, lookR, zeroV, entV, entS, nextV, nextS, beq_self_eq_true, cond_true, cond_false, hdec]
      exact give _ [] _ _ hr.symm (wk_nils 2)
    · cases hX
      rw [if_neg (by rw [he]; simp)] at hr
      have hok := brS_ok s hM ⟨1, by decide, h'⟩ he
      have hM1 := hok.perm hp1
      have hl1 := brS_len s M
      have hl2 := hp1.length_eq
      simp only [gwL, gwB, gwD, gwE, gwS, gwTT, gwZ, gwN, gwC, Nat.reduceEqDiff, ↓reduceIte, Nat.reduceAdd, Nat.reduceLT, Nat.reduceLeDiff, Nat.reduceMul, mapLook, mapPut, mapRange, mapLen, makeMapE, keyOk, keyKind, keyGood, lookR, zeroV, entV, entS, nextV, nextS, beq_self_eq_true, cond_true, cond_false]
      have ho2 : (st ++ mapE V.str V.str M :: Y)[o1]? = some (mapE V.str V.str M1) := by rw [← ho1, List.append_assoc]; rfl
      refine (c_sortedT _ o1 M1 ho2 hM1.nodup (by omega)).use (wkL_refl _) fun _ => ?_
      simp only [gwL, gwB, gwD, gwE, gwS, gwTT, gwZ, gwN, gwC, Nat.reduceEqDiff, ↓reduceIte, Nat.reduceAdd, Nat.reduceLT, Nat.reduceLeDiff, Nat.reduceMul, mapLook, mapPut, mapRange, mapLen, makeMapE, keyOk, keyKind, keyGood, lookR, zeroV, entV, entS, nextV, nextS, beq_self_eq_true, cond_true, cond_false]
      rw [sortP_eq hM1.nodup hp1]
      exact give _ _ _ _ hr.symm (wk_refl _)
  · have hg : (ex.map fun s => [V.str s]).getD i [] = [.str n] := getD_map (f := fun s => [V.str s]) hget
    have w : IntKind.i64.wrap ((i : Int) + 1) = ((i + 1 : Nat) : Int) := next_i64 hlt hfl
    rw [hdr, exL] at hx
    simp only [gwL, gwB, gwD, gwE, gwS, gwTT, gwZ, gwN, gwC, Nat.reduceEqDiff, ↓reduceIte, Nat.reduceAdd, Nat.reduceLT, Nat.reduceLeDiff, Nat.reduceMul, mapLook, mapPut, mapRange, mapLen, makeMapE, keyOk, keyKind, keyGood, lookR, zeroV, entV, entS, nextV, nextS, beq_self_eq_true, cond_true, cond_false, lt_yes hlt, hg, List.length_map, Int.ofNat_lt.mpr hlt, Int.toNat_natCast]
    refine (c_text_Named _ n).use (wkL_refl _) fun _ => ?_
    simp only [gwL, gwB, gwD, gwE, gwS, gwTT, gwZ, gwN, gwC, Nat.reduceEqDiff, ↓reduceIte, Nat.reduceAdd, Nat.reduceLT, Nat.reduceLeDiff, Nat.reduceMul, mapLook, mapPut, mapRange, mapLen, makeMapE, keyOk, keyKind, keyGood, lookR, zeroV, entV, entS, nextV, nextS, beq_self_eq_true, cond_true, cond_false]
    refine iK_split (fun h3 => ?_) (fun h3 => ?_)
    · have h3' : namedB n = false := by simpa using h3
      rw [if_pos h3'] at hx
      rw [hx, if_pos (by decide)] at hr
      simp only [gwL, gwB, gwD, gwE, gwS, gwTT, gwZ, gwN, gwC, Nat.reduceEqDiff, ↓reduceIte, Nat.reduceAdd, Nat.reduceLT, Nat.reduceLeDiff, Nat.reduceMul, mapLook, mapPut, mapRange, mapLen, makeMapE, keyOk, keyKind, keyGood, lookR, zeroV, entV, entS, nextV, nextS, beq_self_eq_true, cond_true, cond_false]
      exact give _ [] _ _ hr.symm (wk_nils 2)
    have h3' : namedB n = true := by simpa using h3
    rw [if_neg (by rw [h3']; simp)] at hx
    simp only [gwL, gwB, gwD, gwE, gwS, gwTT, gwZ, gwN, gwC, Nat.reduceEqDiff, ↓reduceIte, Nat.reduceAdd, Nat.reduceLT, Nat.reduceLeDiff, Nat.reduceMul, mapLook, mapPut, mapRange, mapLen, makeMapE, keyOk, keyKind, keyGood, lookR, zeroV, entV, entS, nextV, nextS, beq_self_eq_true, cond_true, cond_false, hlk]
    refine iK_split (fun h4 => ?_) (fun h4 => ?_)
    · rw [if_pos h4] at hx
      rw [hx, if_pos (by decide)] at hr
      simp only [gwL, gwB, gwD, gwE, gwS, gwTT, gwZ, gwN, gwC, Nat.reduceEqDiff, ↓reduceIte, Nat.reduceAdd, Nat.reduceLT, Nat.reduceLeDiff, Nat.reduceMul, mapLook, mapPut, mapRange, mapLen, makeMapE, keyOk, keyKind, keyGood, lookR, zeroV, entV, entS, nextV, nextS, beq_self_eq_true, cond_true, cond_false]
      exact give _ [] _ _ hr.symm (wk_nils 2)
    rw [if_neg (by rw [h4]; simp)] at hx
    have hno : asc n M = none := by cases h : asc n M with
                                    | none => rfl
                                    | some v => rw [h] at h4; cases h4
    have hup : ups n n M = M ++ [(n, n)] := ups_new hno
    simp only [gwL, gwB, gwD, gwE, gwS, gwTT, gwZ, gwN, gwC, Nat.reduceEqDiff, ↓reduceIte, Nat.reduceAdd, Nat.reduceLT, Nat.reduceLeDiff, Nat.reduceMul, mapLook, mapPut, mapRange, mapLen, makeMapE, keyOk, keyKind, keyGood, lookR, zeroV, entV, entS, nextV, nextS, beq_self_eq_true, cond_true, cond_false, hpt, hup, w, Env.keep]
    refine ⟨(i + 1, M ++ [(n, n)]), rfl, rfl, by simp only; omega, by simp only; omega, hx, ⟨?_, fun q hq => ?_⟩, by simp [hMl]⟩
    · simp only [List.map_append, List.map_cons, List.map_nil]
      refine List.nodup_append.2 ⟨hM.nodup, by simp, fun x hx2 y hy => ?_⟩
      rw [List.mem_singleton] at hy
      subst hy
      intro e'
      subst e'
      have := asc_keys.2 hx2
      rw [hno] at this; cases this
    · rcases List.mem_append.1 hq with hq | hq
      · exact hM.named q hq
      · rw [List.mem_singleton] at hq; rw [hq]; exact h3'
end Go.Proofs.Ytakcdeihljojiaa.Gx

namespace Go.Proofs.Ytakcdeihljojiaa.Gx
open Go Go.Proofs.Ytakcdeihljojiaa.Gw
set_option linter.unusedSimpArgs false
set_option linter.unusedVariables false

theorem rowsP_getD {l : Tb} {i : Nat} {a : Str × Str} (h : l[i]? = some a) : (rowsP l).getD i [] = [.str a.1, .str a.2] := getD_map (f := fun q : Str × Str => [V.str q.1, V.str q.2]) h
def sameP : Tb → Tb → Bool
  | [], [] => true
  | x :: r, y :: s => bif !(decide (x.1 = y.1) && decide (x.2 = y.2)) then false else sameP r s
  | _, _ => false
theorem sameP_self : ∀ l : Tb, sameP l l = true
  | [] => rfl
  | x :: r => by simp [sameP, sameP_self r]
theorem sameP_len : ∀ {l m : Tb}, l.length ≠ m.length → sameP l m = false
  | [], [], h => absurd rfl h
  | [], _ :: _, _ => rfl
  | _ :: _, [], _ => rfl
  | x :: r, y :: s, h => by
    rw [sameP, sameP_len (l := r) (m := s) (by simpa using h)]
    cases (!(decide (x.1 = y.1) && decide (x.2 = y.2))) <;> rfl
set_option maxHeartbeats 4000000 in
theorem c_Same2 (st : St) (l m : Tb) : VCalls Try.prog TT 13 [lstP l, lstP m] st fun r st' => r = .ret (.bool (sameP l m)) ∧ st' = st := by
  refine vfun TT_ok (an := anL []) (L := [0, 1, 4, 5, 12, 13]) (rs := [.tmp 4]) Try.func13 rfl (by kernel_rfl) rfl Try.ntmps13 rfl rfl (Nat.le_refl _) fun hst ha hf => ?_
  simp only [lstP, fitL, V.fit, rowsP_len] at hf
  simp only [lstP]
  simp only [gwL, gwB, gwD, gwE, gwS, gwTT, gwZ, gwN, gwC, Nat.reduceEqDiff, ↓reduceIte, Nat.reduceAdd, Nat.reduceLT, Nat.reduceLeDiff, Nat.reduceMul, rowsP_len]
  refine iK_split (fun h => ?_) (fun h => ?_)
  · simp only [gwL, gwB, gwD, gwE, gwS, gwTT, gwZ, gwN, gwC, Nat.reduceEqDiff, ↓reduceIte, Nat.reduceAdd, Nat.reduceLT, Nat.reduceLeDiff, Nat.reduceMul]
    exact gives_bool (by rw [sameP_len (by simpa [Int.ofNat_inj] using h)]) hst
  have hlm : l.length = m.length := by simpa [Int.ofNat_inj] using h
  simp only [gwL, gwB, gwD, gwE, gwS, gwTT, gwZ, gwN, gwC, Nat.reduceEqDiff, ↓reduceIte, Nat.reduceAdd, Nat.reduceLT, Nat.reduceLeDiff, Nat.reduceMul, rowsP_len]
  refine vfor (σ := Nat) [0, 1, 4, 12, 13] (fun i => [(0, true, lstP l), (1, true, lstP m), (4, true, .bool false), (12, true, .int .i64 l.length), (13, true, .int .i64 i)]) (fun i => st) (fun i => l.length - i) (fun i => i ≤ l.length ∧ sameP l m = sameP (l.drop i) (m.drop i)) 0 rfl TT_ok ⟨Nat.zero_le _, rfl⟩ rfl rfl ?_
  rintro i ⟨hi, hx⟩
  rw [hx]
  rcases at_or_end l i hi with ⟨rfl, hd⟩ | ⟨a, hlt, hget, hdr⟩
  · simp only [gwL, gwB, gwD, gwE, gwS, gwTT, gwZ, gwN, gwC, Nat.reduceEqDiff, ↓reduceIte, Nat.reduceAdd, Nat.reduceLT, Nat.reduceLeDiff, Nat.reduceMul, lt_no, hd]
    exact gives_bool (by rw [hlm]; simp [sameP]) hst
  · rcases at_or_end m i (by omega) with ⟨hme, -⟩ | ⟨b, hltm, hgetm, hdrm⟩
    · omega
    simp only [lstP]
    rw [hdr, hdrm, sameP]
    simp only [gwL, gwB, gwD, gwE, gwS, gwTT, gwZ, gwN, gwC, Nat.reduceEqDiff, ↓reduceIte, Nat.reduceAdd, Nat.reduceLT, Nat.reduceLeDiff, Nat.reduceMul, lt_yes hlt]
    refine vdraw TT_ok TT_mixed [0, 0, 0, 1, 0, 0, 0, 1, 0] (by kernel_rfl) ?_
    simp only [gwL, gwB, gwD, gwE, gwS, gwTT, gwZ, gwN, gwC, Nat.reduceEqDiff, ↓reduceIte, Nat.reduceAdd, Nat.reduceLT, Nat.reduceLeDiff, Nat.reduceMul, rowsP_len, rowsP_getD hget, rowsP_getD hgetm, Int.ofNat_lt.mpr hlt, Int.ofNat_lt.mpr hltm, Int.toNat_natCast]
    refine iK_split (fun h1 => ?_) (fun h1 => ?_)
    · rw [h1]
      simp only [gwL, gwB, gwD, gwE, gwS, gwTT, gwZ, gwN, gwC, Nat.reduceEqDiff, ↓reduceIte, Nat.reduceAdd, Nat.reduceLT, Nat.reduceLeDiff, Nat.reduceMul]
      exact gives_bool rfl hst
    · rw [h1]
      have w : IntKind.i64.wrap ((i : Int) + 1) = ((i + 1 : Nat) : Int) := next_i64 hlt (by omega)
      simp only [gwL, gwB, gwD, gwE, gwS, gwTT, gwZ, gwN, gwC, Nat.reduceEqDiff, ↓reduceIte, Nat.reduceAdd, Nat.reduceLT, Nat.reduceLeDiff, Nat.reduceMul, w, Env.keep]
      exact ⟨i + 1, rfl, by omega, hlt, rfl⟩
set_option maxHeartbeats 4000000 in
theorem c_Has2 (st : St) (l : Tb) (s : Str) : VCalls Try.prog TT 18 [lstP l, .str s] st fun r st' => r = .ret (.bool (decide (s ∈ l.map (·.1)))) ∧ st' = st := by
  refine vfun TT_ok (an := anL []) (L := [0, 1, 4, 6, 7, 8, 9]) (rs := [.tmp 4]) Try.func18 rfl (by kernel_rfl) rfl Try.ntmps18 rfl rfl (Nat.le_refl _) fun hst ha hf => ?_
  simp only [lstP, fitL, V.fit, rowsP_len] at hf
  simp only [lstP]
  simp only [gwL, gwB, gwD, gwE, gwS, gwTT, gwZ, gwN, gwC, Nat.reduceEqDiff, ↓reduceIte, Nat.reduceAdd, Nat.reduceLT, Nat.reduceLeDiff, Nat.reduceMul, rowsP_len]
  refine vfor (σ := Nat × St) [0, 1, 4, 7, 8, 9] (fun x => [(0, true, .lst 2 none (rowsP l)), (1, true, .str s), (4, true, .bool false), (7, true, .lst 2 none (rowsP l)), (8, true, .int .i64 l.length), (9, true, .int .i64 x.1)]) (fun x => x.2) (fun x => l.length - x.1) (fun x => x.1 ≤ l.length ∧ (∃ ex, x.2 = st ++ ex) ∧ decide (s ∈ l.map (·.1)) = decide (s ∈ (l.drop x.1).map (·.1))) (0, st) rfl TT_ok ⟨Nat.zero_le _, ⟨[], by rw [List.append_nil]⟩, rfl⟩ rfl rfl ?_
  rintro ⟨i, S⟩ ⟨hi, ⟨ex, hex⟩, hx⟩
  simp only at hi hex hx ⊢
  subst hex
  rw [hx]
  rcases at_or_end l i hi with ⟨hie, hd⟩ | ⟨a, hlt, hget, hdr⟩
  · have hie2 : i = l.length := hie
    subst hie2
    simp only [gwL, gwB, gwD, gwE, gwS, gwTT, gwZ, gwN, gwC, Nat.reduceEqDiff, ↓reduceIte, Nat.reduceAdd, Nat.reduceLT, Nat.reduceLeDiff, Nat.reduceMul, lt_no]
    rw [hd]
    exact gives_bool' (by simp) hst
  · have w : IntKind.i64.wrap ((i : Int) + 1) = ((i + 1 : Nat) : Int) := next_i64 hlt (by omega)
    simp only [gwL, gwB, gwD, gwE, gwS, gwTT, gwZ, gwN, gwC, Nat.reduceEqDiff, ↓reduceIte, Nat.reduceAdd, Nat.reduceLT, Nat.reduceLeDiff, Nat.reduceMul, lt_yes hlt, rowsP_len, rowsP_getD hget, Int.ofNat_lt.mpr hlt, Int.toNat_natCast]
    refine iK_split (fun h => ?_) (fun h => ?_)
    · have h' := of_decide_eq_true h
      simp only [gwL, gwB, gwD, gwE, gwS, gwTT, gwZ, gwN, gwC, Nat.reduceEqDiff, ↓reduceIte, Nat.reduceAdd, Nat.reduceLT, Nat.reduceLeDiff, Nat.reduceMul]
      rw [hdr]
      exact gives_bool' (by simp [h']) hst
    · have h' := of_decide_eq_false h
      simp only [gwL, gwB, gwD, gwE, gwS, gwTT, gwZ, gwN, gwC, Nat.reduceEqDiff, ↓reduceIte, Nat.reduceAdd, Nat.reduceLT, Nat.reduceLeDiff, Nat.reduceMul, w, Env.keep]
      exact ⟨(i + 1, _), rfl, rfl, by simp only; omega, by simp only; omega, ⟨_, rfl⟩, by rw [hdr]; simp [Ne.symm h']⟩

theorem wkR_cons {p : Nat → Prop} {x y : List V} {xs ys : List (List V)} (h : wkLp p x y) (k : wkRp p xs ys) : wkRp p (x :: xs) (y :: ys) := by simp only [wkRp]; exact ⟨y, ys, rfl, h, k⟩
set_option maxRecDepth 20000 in
set_option maxHeartbeats 4000000 in
theorem c_Sort2 (st : St) (l : Tb) (hl : l.length ≤ 1048576) (hnd : (l.map (·.1)).Nodup) : VCalls Try.prog TT 14 [lstP l] st fun r st' => r = .ret (lstP (sortP l)) ∧ st' = st := by
  refine vfun TT_ok (an := anL [(29, 1)]) (L := [0, 2, 3, 5, 6, 7, 8, 9]) (rs := [.tmp 2]) Try.func14 rfl (by kernel_rfl) rfl Try.ntmps14 rfl rfl (Nat.le_refl _) fun hst ha hf => ?_
  simp only [lstP]
  simp only [gwL, gwB, gwD, gwE, gwS, gwTT, gwZ, gwN, gwC, Nat.reduceEqDiff, ↓reduceIte, Nat.reduceAdd, Nat.reduceLT, Nat.reduceLeDiff, Nat.reduceMul, rowsP_len]
  refine vmore [38] [0, 2, 3, 7, 8, 9] [(0, true, .lst 2 none (rowsP l)), (2, true, .nils), (3, true, .lst 2 (some st.length) []), (7, true, .lst 2 none (rowsP l)), (8, true, .int .i64 l.length), (9, true, .int .i64 0)] (st ++ [Ent.tip 38 0]) rfl ?_ ?_ ?_
  · simp only [gwL, gwB, gwD, gwE, gwS, gwTT, gwZ, gwN, gwC, Nat.reduceEqDiff, ↓reduceIte, Nat.reduceAdd, Nat.reduceLT, Nat.reduceLeDiff, Nat.reduceMul, Env.keep]
    exact wkE_cons (wk_refl _) (wkE_cons (wk_refl _) (wkE_cons (wk_tip _ (by simp [Tips])) (wkE_refl _)))
  · exact ⟨_, wkSt_refl _, rfl⟩
  refine vfor (σ := Nat × Tb × Nat × St) [0, 2, 3, 7, 8, 9] (fun x => [(0, true, .lst 2 none (rowsP l)), (2, true, .nils), (3, true, .lst 2 (some x.2.2.1) (rowsP x.2.1)), (7, true, .lst 2 none (rowsP l)), (8, true, .int .i64 l.length), (9, true, .int .i64 x.1)]) (fun x => x.2.2.2) (fun x => l.length - x.1) (fun x => x.1 ≤ l.length ∧ (∃ X, x.2.2.2 = st ++ X) ∧ x.2.1.Pairwise (fun a b => a.1 ≤ b.1) ∧ x.2.1.Perm (l.take x.1)) (0, [], st.length, st ++ [Ent.tip 38 0]) rfl TT_ok ⟨Nat.zero_le _, ⟨_, rfl⟩, List.Pairwise.nil, by simp⟩ rfl rfl ?_
  rintro ⟨i, out, t3, S⟩ ⟨hi, ⟨X, hX⟩, hso, hpm⟩
  simp only at hi hX hso hpm ⊢
  have hol : out.length = i := by rw [hpm.length_eq, List.length_take]; omega
  rcases at_or_end l i hi with ⟨hie, -⟩ | ⟨u, hlt, hget, -⟩
  · have hie2 : i = l.length := hie
    subst hie2
    rw [List.take_length] at hpm
    simp only [gwL, gwB, gwD, gwE, gwS, gwTT, gwZ, gwN, gwC, Nat.reduceEqDiff, ↓reduceIte, Nat.reduceAdd, Nat.reduceLT, Nat.reduceLeDiff, Nat.reduceMul, lt_no]
    rw [hX, sortedP_eq ((hpm.map _).nodup_iff.2 hnd) (sortP_sorted l) hso ((sortP_perm _).trans hpm.symm)]
    exact gives_of (wk_tok ..) (wkSt_refl _) (lstP_lt _ _) hst
  · have hg : (rowsP l).getD i [] = [.str u.1, .str u.2] := rowsP_getD hget
    have w : IntKind.i64.wrap ((i : Int) + 1) = ((i + 1 : Nat) : Int) := next_i64 hlt (by omega)
    have htk : l.take (i + 1) = l.take i ++ [u] := by rw [List.take_add_one, hget]; rfl
    obtain ⟨un, us⟩ := u
    simp only [gwL, gwB, gwD, gwE, gwS, gwTT, gwZ, gwN, gwC, Nat.reduceEqDiff, ↓reduceIte, Nat.reduceAdd, Nat.reduceLT, Nat.reduceLeDiff, Nat.reduceMul, lt_yes hlt, hg, rowsP_len, Int.ofNat_lt.mpr hlt, Int.toNat_natCast]
    refine vmelt 5 S.length [.str un, .str us] rfl (by simp) ?_
    simp only [gwL, gwB, gwD, gwE, gwS, gwTT, gwZ, gwN, gwC, Nat.reduceEqDiff, ↓reduceIte, Nat.reduceAdd, Nat.reduceLT, Nat.reduceLeDiff, Nat.reduceMul]
    refine vfor (σ := Nat) [0, 2, 3, 7, 8, 9, 5, 6] (fun k => [(0, true, .lst 2 none (rowsP l)), (2, true, .nils), (3, true, .lst 2 (some t3) (rowsP out)), (7, true, .lst 2 none (rowsP l)), (8, true, .int .i64 l.length), (9, true, .int .i64 i), (5, true, .ref [.str un, .str us]), (6, true, .int .i64 k)]) (fun k => S ++ [Ent.gone]) (fun k => out.length - k) (fun k => k ≤ out.length ∧ ∀ b ∈ out.take k, b.1 < un) 0 rfl TT_ok ⟨Nat.zero_le _, by simp⟩ rfl rfl ?_
    rintro k ⟨hk, hkb⟩
    have fin : (∀ b ∈ out.drop k, un ≤ b.1) → (out.take k ++ (un, us) :: out.drop k).Pairwise (fun a b => a.1 ≤ b.1) ∧ (out.take k ++ (un, us) :: out.drop k).Perm (l.take (i + 1)) := fun hd => by
      have hp := hso
      rw [← List.take_append_drop k out, List.pairwise_append] at hp
      refine ⟨List.pairwise_append.2 ⟨hp.1, List.pairwise_cons.2 ⟨hd, hp.2.1⟩, fun a ha b hb => ?_⟩, ?_⟩
      · rcases List.mem_cons.1 hb with rfl | hb
        · exact List.not_lt.1 fun h => List.lt_irrefl _ (List.lt_trans h (hkb a ha))
        · exact hp.2.2 a ha b hb
      · rw [htk]
        refine List.perm_middle.trans ?_
        rw [List.take_append_drop]
        exact (hpm.cons _).trans (List.perm_append_singleton _ _).symm
    have e4 : List.take k (rowsP out) ++ [[V.str un, V.str us]] ++ List.drop k (rowsP out) = rowsP (out.take k ++ (un, us) :: out.drop k) := by simp [rowsP, List.map_take, List.map_drop]
    have e1 : (List.take k (rowsP out)).length = k := by rw [List.length_take, rowsP_len]; omega
    have e2 : (List.drop k (rowsP out)).length = out.length - k := by rw [List.length_drop, rowsP_len]
    have e3 : (List.take k (rowsP out) ++ [[V.str un, V.str us]]).length = k + 1 := by rw [List.length_append, e1]; rfl
    simp only [gwL, gwB, gwD, gwE, gwS, gwTT, gwZ, gwN, gwC, Nat.reduceEqDiff, ↓reduceIte, Nat.reduceAdd, Nat.reduceLT, Nat.reduceLeDiff, Nat.reduceMul]
    refine vdraw TT_ok TT_mixed [0, 0, 0, 0, 0, 0, 0, 0, 0, 0, 0, 0, 0, 0] (by kernel_rfl) ?_
    rcases at_or_end out k hk with ⟨hke, hkd⟩ | ⟨c, hkt, hkg, hkr⟩
    · obtain ⟨f1, f2⟩ := fin (by rw [hkd]; simp)
      have hge : (rowsP out).getD k [] = [] := by rw [List.getD_eq_getElem?_getD, List.getElem?_eq_none (by rw [rowsP_len]; omega)]; rfl
      have hlk : decide ((k : Int) < (out.length : Int)) = false := decide_eq_false (by omega)
      simp only [gwL, gwB, gwD, gwE, gwS, gwTT, gwZ, gwN, gwC, Nat.reduceEqDiff, ↓reduceIte, Nat.reduceAdd, Nat.reduceLT, Nat.reduceLeDiff, Nat.reduceMul, rowsP_len, Int.toNat_natCast, hlk, Bool.false_and, hge]
      refine vdraw TT_ok TT_mixed [2, 0, 0, 0, 2, 0, 0, 2, 0, 0, 0, 2, 0] (by kernel_rfl) ?_
      simp only [gwL, gwB, gwD, gwE, gwS, gwTT, gwZ, gwN, gwC, Nat.reduceEqDiff, ↓reduceIte, Nat.reduceAdd, Nat.reduceLT, Nat.reduceLeDiff, Nat.reduceMul, rowsP_len, Int.toNat_natCast, e1, e2, e3, w, Env.keep]
      rw [e4]
      exact ⟨by omega, by omega, by omega, by omega, by omega, (i + 1, _, _, _), rfl, rfl, by simp only; omega, by simp only; omega, ⟨_, by simp only; rw [hX, List.append_assoc]⟩, f1, f2⟩
    · simp only [gwL, gwB, gwD, gwE, gwS, gwTT, gwZ, gwN, gwC, Nat.reduceEqDiff, ↓reduceIte, Nat.reduceAdd, Nat.reduceLT, Nat.reduceLeDiff, Nat.reduceMul, rowsP_len, rowsP_getD hkg, Int.toNat_natCast, lt_yes hkt, Int.ofNat_lt.mpr hkt, Bool.true_and, forall_const]
      refine iK_split (fun h => ?_) (fun h => ?_)
      · rw [bytesLess_eq] at h
        have wk : IntKind.i64.wrap ((k : Int) + 1) = ((k + 1 : Nat) : Int) := next_i64 hkt (by omega)
        have htk2 : out.take (k + 1) = out.take k ++ [c] := by rw [List.take_add_one, hkg]; rfl
        simp only [gwL, gwB, gwD, gwE, gwS, gwTT, gwZ, gwN, gwC, Nat.reduceEqDiff, ↓reduceIte, Nat.reduceAdd, Nat.reduceLT, Nat.reduceLeDiff, Nat.reduceMul, wk, Env.keep]
        exact ⟨k + 1, rfl, by omega, by omega, fun x hx => by
          rw [htk2] at hx
          rcases List.mem_append.1 hx with hx | hx
          · exact hkb x hx
          · rw [List.mem_singleton] at hx; rw [hx]; exact of_decide_eq_true h⟩
      · rw [bytesLess_eq] at h
        have hcu : un ≤ c.1 := List.not_lt.1 (of_decide_eq_false h)
        obtain ⟨f1, f2⟩ := fin (by
          have hp := hso
          rw [← List.take_append_drop k out, List.pairwise_append, hkr, List.pairwise_cons] at hp
          intro x hx
          rw [hkr] at hx
          rcases List.mem_cons.1 hx with rfl | hx
          · exact hcu
          · exact List.le_trans hcu (hp.2.1.1 x hx))
        simp only [gwL, gwB, gwD, gwE, gwS, gwTT, gwZ, gwN, gwC, Nat.reduceEqDiff, ↓reduceIte, Nat.reduceAdd, Nat.reduceLT, Nat.reduceLeDiff, Nat.reduceMul]
        refine vdraw TT_ok TT_mixed [2, 0, 0, 0, 2, 0, 0, 2, 0, 0, 0, 2, 0] (by kernel_rfl) ?_
        simp only [gwL, gwB, gwD, gwE, gwS, gwTT, gwZ, gwN, gwC, Nat.reduceEqDiff, ↓reduceIte, Nat.reduceAdd, Nat.reduceLT, Nat.reduceLeDiff, Nat.reduceMul, rowsP_len, Int.toNat_natCast, e1, e2, e3, w, Env.keep]
        rw [e4]
        exact ⟨by omega, by omega, by omega, by omega, by omega, (i + 1, _, _, _), rfl, rfl, by simp only; omega, by simp only; omega, ⟨_, by simp only; rw [hX, List.append_assoc]⟩, f1, f2⟩
theorem encSet_lt (n : Nat) (s : Set') : ltL n (encSet s) := by
  refine Set'.ind (p := fun s => ltL n (encSet s)) ?_ s
  intro k nm ns az p kids ih
  rw [encSet_mk]
  simp only [ltL, V.lt, true_and, and_true]
  refine ⟨encS_lt n ns, encS_lt n az, fun e h => (by cases h), ?_⟩
  induction kids with
  | nil => trivial
  | cons x r ihr => exact ⟨ih x (by simp), ihr fun d hd => ih d (by simp [hd])⟩
def onS (k : Int) (s : Set') (l : List Str) : Set' := .mk k [] l [] [] [s]
theorem c_on (st : St) (k : Int) (s : Set') (l : List Str) : VCalls Try.prog TT 12 [.int .i64 k, .agg (encSet s), encS l] st fun r st' => r = .ret (.agg (encSet (onS k s l))) ∧ st' = st := by
  refine vfun TT_ok (an := anL [(4, 1)]) (L := [0, 1, 2, 4, 6]) (rs := [.cell 6 25]) Try.func12 rfl (by kernel_rfl) rfl Try.ntmps12 rfl rfl (Nat.le_refl _) fun hst ha hf => ?_
  have hcl : V.cells (.agg (encSet s)) = some (encSet s) := rfl
  have hln : (encSet s).length = 6 := by cases s; rfl
  have htk : (encSet s).take 6 = encSet s := List.take_of_length_le (by omega)
  simp only [gwL, gwB, gwD, gwE, gwS, gwTT, gwZ, gwN, gwC, Nat.reduceEqDiff, ↓reduceIte, Nat.reduceAdd, Nat.reduceLT, Nat.reduceLeDiff, Nat.reduceMul, hcl, hln, htk, encS]
  rw [onS, encSet_mk]
  refine gives_of (wk_agg (wkL_cons (wk_refl _) (wkL_cons (wk_refl _) (wkL_cons (wk_refl _) (wkL_cons (wk_nils 1) (wkL_refl _)))))) (wkSt_refl _) ?_ hst
  have := encSet_lt st.length (onS k s l)
  rw [onS, encSet_mk] at this
  simpa only [V.lt] using this
def preS (s : Set') (p : Str) : Set' := .mk 4 [] [] [] p [s]
theorem c_pre (st : St) (s : Set') (p : Str) : VCalls Try.prog TT 16 [.agg (encSet s), .str p] st fun r st' => r = .ret (.agg (encSet (preS s p))) ∧ st' = st := by
  refine vfun TT_ok (an := anL [(2, 1)]) (L := [0, 1, 2, 4]) (rs := [.cell 4 25]) Try.func16 rfl (by kernel_rfl) rfl Try.ntmps16 rfl rfl (Nat.le_refl _) fun hst ha hf => ?_
  have hcl : V.cells (.agg (encSet s)) = some (encSet s) := rfl
  have hln : (encSet s).length = 6 := by cases s; rfl
  have htk : (encSet s).take 6 = encSet s := List.take_of_length_le (by omega)
  simp only [gwL, gwB, gwD, gwE, gwS, gwTT, gwZ, gwN, gwC, Nat.reduceEqDiff, ↓reduceIte, Nat.reduceAdd, Nat.reduceLT, Nat.reduceLeDiff, Nat.reduceMul, hcl, hln, htk, encS]
  rw [preS, encSet_mk]
  refine gives_of (wk_agg (wkL_cons (wk_refl _) (wkL_cons (wk_refl _) (wkL_cons (wk_nils 1) (wkL_cons (wk_nils 1) (wkL_refl _)))))) (wkSt_refl _) ?_ hst
  have := encSet_lt st.length (preS s p)
  rw [preS, encSet_mk] at this
  simpa only [V.lt] using this
def renS (s : Set') (n a : Str) : Set' := .mk 5 [] [n] [a] [] [s]
theorem c_ren (st : St) (s : Set') (n a : Str) : VCalls Try.prog TT 17 [.agg (encSet s), .str n, .str a] st fun r st' => r = .ret (.agg (encSet (renS s n a))) ∧ st' = st := by
  refine vfun TT_ok (an := anL [(3, 1)]) (L := [0, 1, 2, 3, 6]) (rs := [.cell 6 25]) Try.func17 rfl (by kernel_rfl) rfl Try.ntmps17 rfl rfl (Nat.le_refl _) fun hst ha hf => ?_
  have hcl : V.cells (.agg (encSet s)) = some (encSet s) := rfl
  have hln : (encSet s).length = 6 := by cases s; rfl
  have htk : (encSet s).take 6 = encSet s := List.take_of_length_le (by omega)
  simp only [gwL, gwB, gwD, gwE, gwS, gwTT, gwZ, gwN, gwC, Nat.reduceEqDiff, ↓reduceIte, Nat.reduceAdd, Nat.reduceLT, Nat.reduceLeDiff, Nat.reduceMul, hcl, hln, htk, encS]
  rw [renS, encSet_mk]
  refine gives_of (wk_refl _) (wkSt_refl _) ?_ hst
  have := encSet_lt st.length (renS s n a)
  rw [renS, encSet_mk] at this
  simpa only [V.lt] using this
def libS : Set' := .mk 1 [109] [] [] [] []
theorem c_libS (st : St) : VCalls Try.prog TT 25 [] st fun r st' => r = .ret (.agg (encSet libS)) ∧ st' = st := by
  refine vfun TT_ok (an := anL []) (L := [0]) (rs := [.cell 0 25]) Try.func25 rfl (by kernel_rfl) rfl Try.ntmps25 rfl rfl (Nat.le_refl _) fun hst ha hf => ?_
  simp only [gwL, gwB, gwD, gwE, gwS, gwTT, gwZ, gwN, gwC, Nat.reduceEqDiff, ↓reduceIte, Nat.reduceAdd, Nat.reduceLT, Nat.reduceLeDiff, Nat.reduceMul]
  rw [libS, encSet_mk]
  refine gives_of (wk_agg (wkL_cons (wk_refl _) (wkL_cons (wk_refl _) (wkL_cons (wk_nils 1) (wkL_cons (wk_nils 1) (wkL_cons (wk_refl _) (wkL_cons (wk_nils 6) wkL_nil))))))) (wkSt_refl _) ?_ hst
  have := encSet_lt st.length libS
  rw [libS, encSet_mk] at this
  simpa only [V.lt] using this
theorem al1 : ofL (preS (onS 2 libS [[98]]) [120, 45]) [[97], [98]] = ([([120, 45, 98], [98])], 0) := by
  have e1 : shapeS (preS (onS 2 libS [[98]]) [120, 45]) 1 = 0 := by decide
  have e2 : exL [[97], [98]] [] = (0, [([97], [97]), ([98], [98])]) := by decide
  have e3 : brS (preS (onS 2 libS [[98]]) [120, 45]) [([97], [97]), ([98], [98])] = (0, [([120, 45, 98], [98])]) := by decide
  unfold ofL
  rw [e1, e2]
  simp only [e3]
  rw [if_neg (by simp), if_neg (by decide), if_neg (by simp), if_neg (by simp)]
  rw [sortP, List.mergeSort_singleton]
set_option maxHeartbeats 4000000 in
theorem c_alive2 (st : St) : VCalls Try.prog TT 10 [] st fun r st' => r = .ret (.bool true) ∧ st' = st := by
  refine vfun TT_ok (an := anL []) (L := [0, 1, 2]) (rs := [.tmp 0]) Try.func10 rfl (by kernel_rfl) rfl Try.ntmps10 rfl rfl (Nat.le_refl _) fun hst ha hf => ?_
  simp only [gwL, gwB, gwD, gwE, gwS, gwTT, gwZ, gwN, gwC, Nat.reduceEqDiff, ↓reduceIte, Nat.reduceAdd, Nat.reduceLT, Nat.reduceLeDiff, Nat.reduceMul]
  refine (c_libS _).use (wkL_refl _) fun _ => ?_
  simp only [gwL, gwB, gwD, gwE, gwS, gwTT, gwZ, gwN, gwC, Nat.reduceEqDiff, ↓reduceIte, Nat.reduceAdd, Nat.reduceLT, Nat.reduceLeDiff, Nat.reduceMul]
  refine (c_on _ 2 libS [[98]]).use (wkL_refl _) fun _ => ?_
  have hcl : ∀ s : Set', V.cells (.agg (encSet s)) = some (encSet s) := fun _ => rfl
  have hln : ∀ s : Set', (encSet s).length = 6 := fun s => by cases s; rfl
  simp only [gwL, gwB, gwD, gwE, gwS, gwTT, gwZ, gwN, gwC, Nat.reduceEqDiff, ↓reduceIte, Nat.reduceAdd, Nat.reduceLT, Nat.reduceLeDiff, Nat.reduceMul, hcl, hln]
  refine (c_Of (preS (onS 2 libS [[98]]) [120, 45]) [[97], [98]] _).use (wkL_cons (by rw [preS, encSet_mk]; exact wk_agg (wkL_cons (wk_refl _) (wkL_cons (wk_refl _) (wkL_cons (wk_nils 1) (wkL_cons (wk_nils 1) (wkL_refl _)))))) (wkL_refl _)) fun _ => ?_
  rw [al1]
  have g0 : ∀ (x : List V) (l : List (List V)) (d : List V), (x :: l).getD (Int.toNat 0) d = x := fun _ _ _ => rfl
  have d1 : decide (((1 : Nat) : Int) = 1) = true := rfl
  simp only [gwL, gwB, gwD, gwE, gwS, gwTT, gwZ, gwN, gwC, Nat.reduceEqDiff, ↓reduceIte, Nat.reduceAdd, Nat.reduceLT, Nat.reduceLeDiff, Nat.reduceMul, ofV, lstP, rowsP, List.map_cons, List.map_nil, List.length_cons, List.length_nil, g0, d1]
  exact ⟨⟨by decide, by decide⟩, gives_bool rfl hst⟩
end Go.Proofs.Ytakcdeihljojiaa.Gx
