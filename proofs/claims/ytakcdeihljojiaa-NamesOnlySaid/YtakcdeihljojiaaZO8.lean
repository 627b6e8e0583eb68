/- Plain laws of what sets bring. The laws of graftlaw2 on what one set brings answer true. What a row needs: how what comes in is read. How what comes in for NamesOnly is read. The row of the law NamesOnly, whatever comes in: it answers true, and what came in reads as it did. -/
import Derived.Test.YtakcdeihljojiaaZO7
import Derived.WalkKit
import Derived.ProofKit
import Derived.OpenShut
import Derived.ShutString
import Derived.ChangeOld
import Derived.Below
import Derived.SizedLaws
import Derived.Carry
import Derived.JoinedCond
import Derived.Test.YtakcdeihljojiaaRows

namespace Go.Proofs.Ytakcdeihljojiaa.Gx
open Go Go.Proofs.Ytakcdeihljojiaa.Gw
set_option linter.unusedSimpArgs false
set_option linter.unusedVariables false

theorem idxOf_in (s : Str) (l : List Str) : 0 ≤ idxOf s 0 l ↔ s ∈ l := by
  have := idxOf_ge s l 0
  rwa [decide_eq_decide] at this
theorem keep_only (ns : List Str) (p : Str) (az : List Str) (q : Str × Str) : keep1 2 ns az p q = if q.1 ∈ ns then some q else none := by
  unfold keep1
  have := idxOf_in q.1 ns
  by_cases h : q.1 ∈ ns
  · rw [if_neg (by rintro ⟨-, h2⟩; have := this.2 h; omega), if_neg (by rintro ⟨h2, -⟩; revert h2; decide), if_neg (by decide), if_neg (by rintro ⟨h2, -⟩; revert h2; decide), if_pos h]
  · rw [if_pos ⟨rfl, Int.not_le.1 fun h2 => h (this.1 h2)⟩, if_neg h]
theorem keep_except (ns : List Str) (p : Str) (az : List Str) (q : Str × Str) : keep1 3 ns az p q = if q.1 ∈ ns then none else some q := by
  unfold keep1
  have := idxOf_in q.1 ns
  rw [if_neg (by rintro ⟨h2, -⟩; revert h2; decide)]
  by_cases h : q.1 ∈ ns
  · rw [if_pos ⟨rfl, this.2 h⟩, if_pos h]
  · rw [if_neg (fun h2 => h (this.1 h2.2)), if_neg (by decide), if_neg (by rintro ⟨h2, -⟩; revert h2; decide), if_neg h]
theorem keep_pre (ns : List Str) (p : Str) (az : List Str) (q : Str × Str) : keep1 4 ns az p q = some (p ++ q.1, q.2) := by
  unfold keep1
  rw [if_neg (by rintro ⟨h2, -⟩; revert h2; decide), if_neg (by rintro ⟨h2, -⟩; revert h2; decide), if_pos rfl]
theorem keep_ren (n a p : Str) (q : Str × Str) : keep1 5 [n] [a] p q = some (if q.1 = n then a else q.1, q.2) := by
  unfold keep1
  rw [if_neg (by rintro ⟨h2, -⟩; revert h2; decide), if_neg (by rintro ⟨h2, -⟩; revert h2; decide), if_neg (by decide)]
  by_cases h : q.1 = n
  · simp [idxOf, h]
  · simp [idxOf, h]
theorem filterMap_if {α : Type} (p : α → Bool) : ∀ l : List α, l.filterMap (fun q => if p q = true then some q else none) = l.filter p
  | [] => rfl
  | x :: r => by
    rw [List.filterMap_cons, filterMap_if p r]
    by_cases h : p x = true
    · rw [if_pos h, List.filter_cons_of_pos h]
    · rw [if_neg h, List.filter_cons_of_neg h]
theorem only_map (ns : List Str) (p : Str) (az : List Str) (R : Tb) : R.filterMap (keep1 2 ns az p) = R.filter fun q => decide (q.1 ∈ ns) := by
  rw [← filterMap_if]
  congr 1
  funext q
  rw [keep_only]
  by_cases h : q.1 ∈ ns <;> simp [h]
theorem except_map (ns : List Str) (p : Str) (az : List Str) (R : Tb) : R.filterMap (keep1 3 ns az p) = R.filter fun q => !decide (q.1 ∈ ns) := by
  rw [← filterMap_if]
  congr 1
  funext q
  rw [keep_except]
  by_cases h : q.1 ∈ ns <;> simp [h]
theorem pre_map (ns : List Str) (p : Str) (az : List Str) (R : Tb) : R.filterMap (keep1 4 ns az p) = R.map fun q => (p ++ q.1, q.2) := by
  rw [← List.filterMap_eq_map]
  exact congrArg (fun f => R.filterMap f) (funext fun q => keep_pre ns p az q)
theorem ren_map (n a p : Str) (R : Tb) : R.filterMap (keep1 5 [n] [a] p) = R.map fun q => (if q.1 = n then a else q.1, q.2) := by
  rw [← List.filterMap_eq_map]
  exact congrArg (fun f => R.filterMap f) (funext fun q => keep_ren n a p q)
theorem TbOk.filter {R : Tb} (h : TbOk R) (p : Str × Str → Bool) : TbOk (R.filter p) :=
  ⟨h.nodup.sublist (List.Sublist.map _ List.filter_sublist), fun q hq => h.named q (List.mem_filter.1 hq).1⟩
/-- A step over what is right. -/
theorem stepB_go {k : Int} {ns az : List Str} {p : Str} {R o : Tb} (hm : ¬ (k ≠ 4 ∧ (ns.any fun n => !(asc n R).isSome) = true)) (ho : R.filterMap (keep1 k ns az p) = o) (hok : TbOk o) : stepB k ns az p (0, R) = (0, o) := by
  have := stepB_end (out := o) hm (by rw [ho]) hok
  rw [this, ho]
theorem stepB_miss {k : Int} {ns az : List Str} {p : Str} {R : Tb} (hm : k ≠ 4 ∧ (ns.any fun n => !(asc n R).isSome) = true) : stepB k ns az p (0, R) = (6, []) := by
  unfold stepB; rw [if_neg (by simp), if_pos hm]
theorem stepB_err {k : Int} {ns az : List Str} {p : Str} {r : Int × Tb} (h : r.1 ≠ 0) : stepB k ns az p r = (r.1, []) := by unfold stepB; rw [if_pos h]
theorem exL_ok : ∀ (l : List Str) {M : Tb}, TbOk M → (exL l M).1 = 0 → TbOk (exL l M).2 ∧ (exL l M).2 = M ++ l.map fun n => (n, n)
  | [], M, h, _ => ⟨h, by simp [exL]⟩
  | n :: r, M, h, he => by
    rw [exL] at he ⊢
    by_cases h1 : namedB n = false
    · rw [if_pos h1] at he; exact absurd he (by decide)
    rw [if_neg h1] at he ⊢
    by_cases h2 : (asc n M).isSome = true
    · rw [if_pos h2] at he; exact absurd he (by decide)
    rw [if_neg h2] at he ⊢
    have hM : TbOk (M ++ [(n, n)]) := by
      refine ⟨?_, fun q hq => ?_⟩
      · rw [List.map_append, List.map_cons, List.map_nil]
        refine List.nodup_append.2 ⟨h.nodup, by simp, fun x hx y hy => ?_⟩
        rw [List.mem_singleton] at hy
        subst hy
        rintro rfl
        exact h2 (asc_keys.2 hx)
      · rcases List.mem_append.1 hq with hq | hq
        · exact h.named q hq
        · rw [List.mem_singleton] at hq; rw [hq]; simpa using h1
    obtain ⟨e1, e2⟩ := exL_ok r hM he
    exact ⟨e1, by rw [e2]; simp⟩
theorem tbok_nil : TbOk [] := ⟨List.nodup_nil, by simp⟩
/-- Where a set's form, and what is brought out, is right. -/
theorem ofL_go {s : Set'} {ex : List Str} (h1 : shapeS s 1 = 0) (h2 : ¬ 200 < ex.length) (h3 : (exL ex []).1 = 0) : ofL s ex = if (brS s (exL ex []).2).1 ≠ 0 then ([], (brS s (exL ex []).2).1) else (sortP (brS s (exL ex []).2).2, 0) := by
  unfold ofL; rw [if_neg (by rw [h1]; simp), if_neg h2, if_neg (by rw [h3]; simp)]
theorem ofL_ok {s : Set'} {ex : List Str} (h : (ofL s ex).2 = 0) : shapeS s 1 = 0 ∧ ¬ 200 < ex.length ∧ (exL ex []).1 = 0 ∧ (brS s (exL ex []).2).1 = 0 ∧ (ofL s ex).1 = sortP (brS s (exL ex []).2).2 := by
  unfold ofL at h ⊢
  by_cases h1 : shapeS s 1 ≠ 0
  · rw [if_pos h1] at h; exact absurd h h1
  rw [if_neg h1] at h ⊢
  by_cases h2 : 200 < ex.length
  · rw [if_pos h2] at h; exact absurd h (by decide)
  rw [if_neg h2] at h ⊢
  by_cases h3 : (exL ex []).1 ≠ 0
  · rw [if_pos h3] at h; exact absurd h h3
  rw [if_neg h3] at h ⊢
  by_cases h4 : (brS s (exL ex []).2).1 ≠ 0
  · rw [if_pos h4] at h; exact absurd h h4
  rw [if_neg h4]
  exact ⟨by simpa using h1, h2, by simpa using h3, by simpa using h4, rfl⟩
theorem ofL_err {s : Set'} {ex : List Str} (h : (ofL s ex).2 ≠ 0) : (ofL s ex).1 = [] := by
  unfold ofL at h ⊢
  by_cases h1 : shapeS s 1 ≠ 0
  · rw [if_pos h1]
  rw [if_neg h1] at h ⊢
  by_cases h2 : 200 < ex.length
  · rw [if_pos h2]
  rw [if_neg h2] at h ⊢
  by_cases h3 : (exL ex []).1 ≠ 0
  · rw [if_pos h3]
  rw [if_neg h3] at h ⊢
  by_cases h4 : (brS s (exL ex []).2).1 ≠ 0
  · rw [if_pos h4]
  rw [if_neg h4] at h; exact absurd rfl h
/-- Two sets of a kid each. -/
theorem ofL_two {s t : Set'} {ex : List Str} (h : shapeS s 1 = shapeS t 1) (hb : (exL ex []).1 = 0 → shapeS s 1 = 0 → (brS s (exL ex []).2).1 = (brS t (exL ex []).2).1) : (ofL s ex).2 = (ofL t ex).2 := by
  unfold ofL
  rw [← h]
  by_cases h1 : shapeS s 1 ≠ 0
  · rw [if_pos h1, if_pos h1]
  rw [if_neg h1, if_neg h1]
  by_cases h2 : 200 < ex.length
  · rw [if_pos h2, if_pos h2]
  rw [if_neg h2, if_neg h2]
  by_cases h3 : (exL ex []).1 ≠ 0
  · rw [if_pos h3, if_pos h3]
  rw [if_neg h3, if_neg h3]
  have := hb (by simpa using h3) (by simpa using h1)
  rw [← this]
  by_cases h4 : (brS s (exL ex []).2).1 ≠ 0
  · rw [if_pos h4, if_pos h4]
  rw [if_neg h4, if_neg h4]
theorem shape_on {k : Int} (hk : k = 2 ∨ k = 3) (s : Set') (l : List Str) (d : Int) : shapeS (onS k s l) d = if 12 < d then 4 else shapeS s (d + 1) := by
  unfold onS
  rcases hk with rfl | rfl <;> (rw [shapeS, shapeSs]; by_cases h : 12 < d <;> simp [h])
theorem shape_pre {p : Str} (hp : namedB p = true) (s : Set') (d : Int) : shapeS (preS s p) d = if 12 < d then 4 else shapeS s (d + 1) := by
  unfold preS
  rw [shapeS, shapeSs]; by_cases h : 12 < d <;> simp [h, hp]
/-- Deeper, it's too deep, or as it was. -/
theorem shape_deep (s : Set') : ∀ d : Int, 0 ≤ d → shapeS s (d + 1) = 4 ∨ shapeS s (d + 1) = shapeS s d := by
  refine Set'.ind (p := fun s => ∀ d : Int, 0 ≤ d → shapeS s (d + 1) = 4 ∨ shapeS s (d + 1) = shapeS s d) ?_ s
  intro k n ns az p kids ih d hd
  have hk : shapeSs kids (d + 1 + 1) = 4 ∨ shapeSs kids (d + 1 + 1) = shapeSs kids (d + 1) := by
    cases kids with
    | nil => exact .inr rfl
    | cons x r => exact ih x (by simp) (d + 1) (by omega)
  rw [shapeS, shapeS]
  by_cases h0 : 12 < d + 1
  · left; simp [h0]
  have h1 : ¬ 12 < d := by omega
  simp only [h0, h1, decide_false, cond_false]
  cases (decide (k < 1) || decide (5 < k)) <;> simp only [cond_true, cond_false]
  case true => simp
  cases decide (k = 1) <;> simp only [cond_true, cond_false]
  case true => simp
  cases (!decide ((kids.length : Int) = 1) || decide (k = 5) && !decide ((ns.length : Int) = az.length)) <;> simp only [cond_true, cond_false]
  case true => simp
  cases (decide (k = 4) && !namedB p) <;> simp only [cond_true, cond_false]
  case true => simp
  cases (decide (k = 5) && az.any fun n => !namedB n) <;> simp only [cond_true, cond_false]
  case true => simp
  exact hk

theorem br_on {k : Int} (hk : k ≠ 1) (s : Set') (l : List Str) (M : Tb) : brS (onS k s l) M = stepB k l [] [] (brS s M) := by unfold onS; rw [brS, if_neg hk, brSs]
theorem br_pre (s : Set') (p : Str) (M : Tb) : brS (preS s p) M = stepB 4 [] [] p (brS s M) := by unfold preS; rw [brS, if_neg (by decide), brSs]
theorem br_ren (s : Set') (n a : Str) (M : Tb) : brS (renS s n a) M = stepB 5 [n] [a] [] (brS s M) := by unfold renS; rw [brS, if_neg (by decide), brSs]
theorem br_split {s : Set'} {M : Tb} (h : (brS s M).1 = 0) : brS s M = (0, (brS s M).2) := by rw [← h]
theorem step_only {R : Tb} (hR : TbOk R) (l : List Str) : stepB 2 l [] [] (0, R) = if (l.any fun n => !(asc n R).isSome) = true then (6, []) else (0, R.filter fun q => decide (q.1 ∈ l)) := by
  by_cases h : (l.any fun n => !(asc n R).isSome) = true
  · rw [if_pos h, stepB_miss ⟨by decide, h⟩]
  · rw [if_neg h, stepB_go (fun h2 => h h2.2) (only_map l [] [] R) (hR.filter _)]
theorem step_except {R : Tb} (hR : TbOk R) (l : List Str) : stepB 3 l [] [] (0, R) = if (l.any fun n => !(asc n R).isSome) = true then (6, []) else (0, R.filter fun q => !decide (q.1 ∈ l)) := by
  by_cases h : (l.any fun n => !(asc n R).isSome) = true
  · rw [if_pos h, stepB_miss ⟨by decide, h⟩]
  · rw [if_neg h, stepB_go (fun h2 => h h2.2) (except_map l [] [] R) (hR.filter _)]
theorem shape2 {k : Int} (hk : k = 2 ∨ k = 3) (s : Set') (l : List Str) : shapeS (onS k s l) 1 = shapeS s 2 := by rw [shape_on hk, if_neg (by decide)]; rfl
theorem parted_err (s : Set') (ex l : List Str) : (ofL (onS 2 s l) ex).2 = (ofL (onS 3 s l) ex).2 := by
  refine ofL_two (by rw [shape2 (.inl rfl), shape2 (.inr rfl)]) fun h1 h2 => ?_
  rw [shape2 (.inl rfl)] at h2
  obtain ⟨hE, -⟩ := exL_ok ex tbok_nil h1
  rw [br_on (by decide), br_on (by decide)]
  by_cases h : (brS s (exL ex []).2).1 = 0
  · have hR := brS_ok s hE ⟨2, by decide, h2⟩ h
    rw [br_split h, step_only hR, step_except hR]
    split <;> rfl
  · rw [stepB_err h, stepB_err h]
theorem filter_not {α : Type} (p : α → Bool) : ∀ l : List α, (l.filter p ++ l.filter fun x => !p x).Perm l
  | [] => .nil
  | x :: r => by
    have ih := filter_not p r
    cases h : p x with
    | true => rw [List.filter_cons_of_pos h, List.filter_cons_of_neg (by simp [h])]; exact ih.cons x
    | false => rw [List.filter_cons_of_neg (by simp [h]), List.filter_cons_of_pos (by simp [h])]; exact List.perm_middle.trans (ih.cons x)
theorem ofL_len {s : Set'} {ex : List Str} : (ofL s ex).1.length ≤ ex.length ∧ (ofL s ex).1.length ≤ 200 := by
  by_cases h : (ofL s ex).2 = 0
  · obtain ⟨h1, h2, h3, h4, h5⟩ := ofL_ok h
    obtain ⟨-, e2⟩ := exL_ok ex tbok_nil h3
    have := brS_len s (exL ex []).2
    rw [h5, (sortP_perm _).length_eq]
    rw [e2] at this ⊢
    simp only [List.nil_append, List.length_map] at this ⊢
    omega
  · rw [ofL_err h]; simp
theorem parted_ok {s : Set'} {ex l : List Str} (h : (ofL s ex).2 = 0) (ha : (ofL (onS 2 s l) ex).2 = 0) (hb : (ofL (onS 3 s l) ex).2 = 0) :
    sortP ((ofL (onS 2 s l) ex).1 ++ (ofL (onS 3 s l) ex).1) = (ofL s ex).1 ∧ (((ofL (onS 2 s l) ex).1 ++ (ofL (onS 3 s l) ex).1).map (·.1)).Nodup := by
  obtain ⟨h1, h2, h3, h4, h5⟩ := ofL_ok h
  obtain ⟨-, -, -, a4, a5⟩ := ofL_ok ha
  obtain ⟨-, -, -, b4, b5⟩ := ofL_ok hb
  obtain ⟨hE, -⟩ := exL_ok ex tbok_nil h3
  have hR := brS_ok s hE ⟨1, by decide, h1⟩ h4
  rw [br_on (by decide), br_split h4, step_only hR] at a4 a5
  rw [br_on (by decide), br_split h4, step_except hR] at b4 b5
  have hm : ¬ (l.any fun n => !(asc n (brS s (exL ex []).2).2).isSome) = true := fun hm => by rw [if_pos hm] at a4; exact absurd a4 (by decide)
  rw [if_neg hm] at a5 b5
  rw [a5, b5, h5]
  generalize (brS s (exL ex []).2).2 = R at *
  have hp : (sortP (R.filter fun q => decide (q.1 ∈ l)) ++ sortP (R.filter fun q => !decide (q.1 ∈ l))).Perm R := ((sortP_perm _).append (sortP_perm _)).trans (filter_not _ R)
  have hn := (hp.map (·.1)).nodup_iff.2 hR.nodup
  exact ⟨sortP_eq hn hp, hn⟩
theorem map_nodup {R : Tb} (hR : TbOk R) (p : Str) : ((R.map fun q => (p ++ q.1, q.2)).map (·.1)).Nodup := by
  rw [List.map_map]
  have := hR.nodup
  unfold List.Nodup at this ⊢
  rw [List.pairwise_map] at this ⊢
  exact this.imp fun h e => h (List.append_cancel_left e)
theorem step_pre {R : Tb} (hR : TbOk R) (p : Str) : stepB 4 [] [] p (0, R) = if (R.any fun q => !namedB (p ++ q.1)) = true then (7, []) else (0, R.map fun q => (p ++ q.1, q.2)) := by
  have hany : ((R.map fun q => (p ++ q.1, q.2)).any fun q => !namedB q.1) = R.any fun q => !namedB (p ++ q.1) := by rw [List.any_map]; rfl
  by_cases h : (R.any fun q => !namedB (p ++ q.1)) = true
  · rw [if_pos h]
    unfold stepB
    rw [if_neg (by simp), if_neg (by simp), pre_map, if_neg (fun hh => hh (map_nodup hR p)), if_pos (by rw [hany]; exact h)]
  · rw [if_neg h]
    refine stepB_go (by simp) (pre_map [] p [] R) ⟨map_nodup hR p, fun q hq => ?_⟩
    rw [← hany] at h
    simp only [List.any_eq_true, not_exists, not_and] at h
    simpa using h q hq
/-- Prefix: a is that of a prefix ahead of a prefix, b of both as one. -/
theorem prefix_law {s : Set'} {ex : List Str} {p q : Str} (hp : namedB p = true) (hq : namedB q = true) (hpq : namedB (p ++ q) = true) :
    ((ofL (preS (preS s q) p) ex).2 ≠ 0 → (ofL (preS (preS s q) p) ex).2 = (ofL (preS s (p ++ q)) ex).2 ∨ (ofL (preS (preS s q) p) ex).2 = 4 ∨ (ofL (preS (preS s q) p) ex).2 = 7) ∧
    ((ofL (preS (preS s q) p) ex).2 = 0 → (ofL (preS s (p ++ q)) ex).2 = 0 ∧ (ofL (preS (preS s q) p) ex).1 = (ofL (preS s (p ++ q)) ex).1 ∧ ∀ x ∈ (ofL (preS s (p ++ q)) ex).1, ∃ y, x.1 = p ++ q ++ y) := by
  have s3 : shapeS (preS (preS s q) p) 1 = shapeS s 3 := by rw [shape_pre hp, if_neg (by decide), shape_pre hq, if_neg (by decide)]; rfl
  have s2 : shapeS (preS s (p ++ q)) 1 = shapeS s 2 := by rw [shape_pre hpq, if_neg (by decide)]; rfl
  have hb : ∀ {R : Tb}, TbOk R → (stepB 4 [] [] p (stepB 4 [] [] q (0, R))).1 = 7 ∨ (stepB 4 [] [] p (stepB 4 [] [] q (0, R)) = (0, R.map fun x => (p ++ q ++ x.1, x.2)) ∧ stepB 4 [] [] (p ++ q) (0, R) = (0, R.map fun x => (p ++ q ++ x.1, x.2))) := by
    intro R hR
    rw [step_pre hR q]
    by_cases h : (R.any fun x => !namedB (q ++ x.1)) = true
    · rw [if_pos h, stepB_err (by decide)]; exact .inl rfl
    · rw [if_neg h]
      have hR2 : TbOk (R.map fun x => (q ++ x.1, x.2)) := ⟨map_nodup hR q, fun x hx => by
        obtain ⟨y, hy, rfl⟩ := List.mem_map.1 hx
        simp only [List.any_eq_true, not_exists, not_and] at h
        simpa using h y hy⟩
      rw [step_pre hR2 p, step_pre hR (p ++ q), List.any_map, List.map_map]
      have e1 : ((fun x : Str × Str => !namedB (p ++ x.1)) ∘ fun x : Str × Str => (q ++ x.1, x.2)) = fun x => !namedB (p ++ q ++ x.1) := by funext x; simp
      have e2 : ((fun x : Str × Str => (p ++ x.1, x.2)) ∘ fun x : Str × Str => (q ++ x.1, x.2)) = fun x => (p ++ q ++ x.1, x.2) := by funext x; simp
      rw [e1, e2]
      split
      · exact .inl rfl
      · exact .inr ⟨rfl, rfl⟩
  by_cases h1 : shapeS s 3 = 0
  · have h2 : shapeS s 2 = 0 := by
      rcases shape_deep s 2 (by decide) with h | h
      · rw [show (2 : Int) + 1 = 3 from rfl, h1] at h; exact absurd h (by decide)
      · rw [← h]; exact h1
    by_cases h3 : 200 < ex.length
    · have e1 : (ofL (preS (preS s q) p) ex).2 = 5 := by unfold ofL; rw [if_neg (by rw [s3, h1]; simp), if_pos h3]
      have e2 : (ofL (preS s (p ++ q)) ex).2 = 5 := by unfold ofL; rw [if_neg (by rw [s2, h2]; simp), if_pos h3]
      exact ⟨fun _ => .inl (by rw [e1, e2]), fun h => by rw [e1] at h; exact absurd h (by decide)⟩
    by_cases h4 : (exL ex []).1 = 0
    · obtain ⟨hE, -⟩ := exL_ok ex tbok_nil h4
      rw [ofL_go (by rw [s3, h1]) h3 h4, ofL_go (by rw [s2, h2]) h3 h4]
      rw [br_pre, br_pre, br_pre]
      by_cases h5 : (brS s (exL ex []).2).1 = 0
      · have hR := brS_ok s hE ⟨2, by decide, h2⟩ h5
        rw [br_split h5]
        rcases hb hR with h | ⟨e1, e2⟩
        · rw [if_pos (by rw [h]; decide)]
          exact ⟨fun _ => .inr (.inr h), fun h2 => by simp only at h2; rw [h] at h2; exact absurd h2 (by decide)⟩
        · rw [e1, e2, if_neg (by simp)]
          refine ⟨fun h => absurd rfl h, fun _ => ⟨rfl, rfl, fun x hx => ?_⟩⟩
          obtain ⟨y, -, rfl⟩ := List.mem_map.1 ((sortP_perm _).mem_iff.1 hx)
          exact ⟨y.1, rfl⟩
      · rw [stepB_err h5, stepB_err h5, stepB_err (r := ((brS s (exL ex []).2).1, [])) h5, if_pos h5]
        exact ⟨fun _ => .inl rfl, fun h => absurd h h5⟩
    · have e1 : (ofL (preS (preS s q) p) ex).2 = (exL ex []).1 := by unfold ofL; rw [if_neg (by rw [s3, h1]; simp), if_neg h3, if_pos h4]
      have e2 : (ofL (preS s (p ++ q)) ex).2 = (exL ex []).1 := by unfold ofL; rw [if_neg (by rw [s2, h2]; simp), if_neg h3, if_pos h4]
      exact ⟨fun _ => .inl (by rw [e1, e2]), fun h => by rw [e1] at h; exact absurd h h4⟩
  · have e1 : (ofL (preS (preS s q) p) ex).2 = shapeS s 3 := by unfold ofL; rw [if_pos (by rw [s3]; exact h1), s3]
    refine ⟨fun _ => ?_, fun h => by rw [e1] at h; exact absurd h h1⟩
    rcases shape_deep s 2 (by decide) with h | h
    · exact .inr (.inl (by rw [e1]; exact h))
    · have h' : shapeS s 3 = shapeS s 2 := h
      refine .inl ?_
      have : (ofL (preS s (p ++ q)) ex).2 = shapeS s 2 := by unfold ofL; rw [if_pos (by rw [s2, ← h']; exact h1), s2]
      rw [e1, this, h']
/-- There and back. -/
theorem back_law {s : Set'} {ex : List Str} {n a : Str} (h : (ofL s ex).2 = 0) (ht : (ofL (renS s n a) ex).2 = 0) (hb : (ofL (renS (renS s n a) a n) ex).2 = 0) :
    (ofL (renS (renS s n a) a n) ex).1 = (ofL s ex).1 ∧ (ofL (renS s n a) ex).1.length = (ofL s ex).1.length ∧ a ∈ (ofL (renS s n a) ex).1.map (·.1) := by
  obtain ⟨h1, h2, h3, h4, h5⟩ := ofL_ok h
  obtain ⟨-, -, -, a4, a5⟩ := ofL_ok ht
  obtain ⟨-, -, -, b4, b5⟩ := ofL_ok hb
  obtain ⟨hE, -⟩ := exL_ok ex tbok_nil h3
  have hR := brS_ok s hE ⟨1, by decide, h1⟩ h4
  rw [br_ren] at a4 a5
  rw [br_ren, br_ren] at b4 b5
  obtain ⟨-, k2, k3⟩ := stepB_ok b4
  obtain ⟨-, j2, j3⟩ := stepB_ok a4
  have hmiss : n ∈ (brS s (exL ex []).2).2.map (·.1) := Classical.byContradiction fun hno => by
    rw [br_split h4] at a4
    have : (asc n (brS s (exL ex []).2).2).isSome = false := by rw [asc_mem]; simpa using hno
    rw [stepB_miss ⟨by decide, by simp only [List.any_cons, this]; rfl⟩] at a4
    exact absurd a4 (by decide)
  rw [a5, b5, h5, k3, j3]
  rw [j3] at j2
  generalize (brS s (exL ex []).2).2 = R at *
  rw [ren_map] at j2 ⊢
  rw [ren_map, List.map_map]
  obtain ⟨q0, hq0, hq0n⟩ := List.mem_map.1 hmiss
  have hself : (R.map ((fun q : Str × Str => (if q.1 = a then n else q.1, q.2)) ∘ fun q : Str × Str => (if q.1 = n then a else q.1, q.2))) = R := by
    conv => rhs; rw [← List.map_id R]
    refine List.map_congr_left fun q hq => ?_
    simp only [Function.comp, id_eq]
    by_cases e : q.1 = n
    · simp [e]
      exact Prod.ext e.symm rfl
    · rw [if_neg e]
      by_cases e2 : q.1 = a
      · exfalso
        have hnd := j2.nodup
        rw [List.map_map] at hnd
        unfold List.Nodup at hnd
        rw [List.pairwise_map] at hnd
        obtain ⟨i, hi⟩ := List.getElem?_of_mem hq
        obtain ⟨j, hj⟩ := List.getElem?_of_mem hq0
        obtain ⟨hi1, hi2⟩ := List.getElem?_eq_some_iff.1 hi
        obtain ⟨hj1, hj2⟩ := List.getElem?_eq_some_iff.1 hj
        rw [List.pairwise_iff_getElem] at hnd
        have hne : i ≠ j := fun e' => by subst e'; rw [hi2] at hj2; rw [hj2] at e; exact e hq0n
        rcases Nat.lt_or_gt_of_ne hne with hlt | hlt
        · exact hnd i j hi1 hj1 hlt (by rw [hi2, hj2]; simp [hq0n, e2])
        · exact hnd j i hj1 hi1 hlt (by rw [hi2, hj2]; simp [hq0n, e2])
      · rw [if_neg e2]
  rw [hself]
  refine ⟨rfl, by rw [(sortP_perm _).length_eq, (sortP_perm _).length_eq, List.length_map], ?_⟩
  refine ((sortP_perm _).map (·.1)).mem_iff.2 ?_
  rw [List.map_map]
  exact List.mem_map.2 ⟨q0, hq0, by simp [hq0n]⟩
theorem brS_from (s : Set') : ∀ {M : Tb}, ∀ q ∈ (brS s M).2, ∃ m ∈ M, m.2 = q.2 := by
  refine Set'.ind (p := fun s => ∀ {M : Tb}, ∀ q ∈ (brS s M).2, ∃ m ∈ M, m.2 = q.2) ?_ s
  intro k n ns az p kids ih M q hq
  rw [brS] at hq
  by_cases hk : k = 1
  · rw [if_pos hk] at hq; exact ⟨q, hq, rfl⟩
  rw [if_neg hk] at hq
  have hkid : ∀ q ∈ (brSs kids M).2, ∃ m ∈ M, m.2 = q.2 := by
    cases kids with
    | nil => exact fun q hq => ⟨q, hq, rfl⟩
    | cons x r => exact ih x (by simp)
  unfold stepB at hq
  split at hq
  · simp at hq
  split at hq
  · simp at hq
  split at hq
  · simp at hq
  split at hq
  · simp at hq
  obtain ⟨x, hx, hxq⟩ := List.mem_filterMap.1 hq
  obtain ⟨m, hm, he⟩ := hkid x hx
  refine ⟨m, hm, ?_⟩
  unfold keep1 at hxq
  split at hxq
  · cases hxq
  split at hxq
  · cases hxq
  cases hxq
  exact he
/-- Nothing comes of nothing. -/
theorem from_law {s : Set'} {ex : List Str} (h : (ofL s ex).2 = 0) : (∀ q ∈ (ofL s ex).1, q.2 ∈ ex ∧ namedB q.1 = true) ∧ (ofL s ex).1.Pairwise (fun a b => a.1 < b.1) := by
  obtain ⟨h1, h2, h3, h4, h5⟩ := ofL_ok h
  obtain ⟨hE, e2⟩ := exL_ok ex tbok_nil h3
  have hR := brS_ok s hE ⟨1, by decide, h1⟩ h4
  rw [h5]
  refine ⟨fun q hq => ?_, ?_⟩
  · have hq' := (sortP_perm _).mem_iff.1 hq
    obtain ⟨m, hm, he⟩ := brS_from s q hq'
    rw [e2] at hm
    simp only [List.nil_append] at hm
    obtain ⟨x, hx, rfl⟩ := List.mem_map.1 hm
    exact ⟨by rw [← he]; exact hx, hR.named q hq'⟩
  · have hs := sortP_sorted (brS s (exL ex []).2).2
    have hn := ((sortP_perm (brS s (exL ex []).2).2).map (·.1)).nodup_iff.2 hR.nodup
    unfold List.Nodup at hn
    rw [List.pairwise_map] at hn
    exact hs.imp₂ (fun a b h1 h2 => Classical.byContradiction fun h3 => h2 (List.le_antisymm h1 (List.not_lt.1 h3))) hn
/-- Only of only. -/
theorem only_law {s : Set'} {ex a b : List Str} (h : (ofL (onS 2 (onS 2 s a) b) ex).2 = 0) :
    (ofL (onS 2 s b) ex).2 = 0 ∧ (ofL (onS 2 s b) ex).1 = (ofL (onS 2 (onS 2 s a) b) ex).1 ∧ (ofL (onS 2 s []) ex).2 = 0 ∧ (ofL (onS 2 s []) ex).1 = [] := by
  obtain ⟨h1, h2, h3, h4, h5⟩ := ofL_ok h
  rw [shape2 (.inl rfl), shape_on (.inl rfl), if_neg (by decide)] at h1
  have hs2 : shapeS s 2 = 0 := by
    rcases shape_deep s 2 (by decide) with h | h
    · rw [h1] at h; exact absurd h (by decide)
    · rw [← h]; exact h1
  obtain ⟨hE, -⟩ := exL_ok ex tbok_nil h3
  rw [br_on (by decide), br_on (by decide)] at h4 h5
  have h6 : (brS s (exL ex []).2).1 = 0 := (stepB_ok (stepB_ok h4).1).1
  have hR := brS_ok s hE ⟨2, by decide, hs2⟩ h6
  rw [h5, ofL_go (s := onS 2 s b) (by rw [shape2 (.inl rfl)]; exact hs2) h2 h3, ofL_go (s := onS 2 s []) (by rw [shape2 (.inl rfl)]; exact hs2) h2 h3]
  rw [br_on (by decide), br_on (by decide)]
  rw [br_split h6] at h4 ⊢
  generalize (brS s (exL ex []).2).2 = R at *
  rw [step_only hR a] at h4 ⊢
  by_cases ha : (a.any fun n => !(asc n R).isSome) = true
  · rw [if_pos ha, stepB_err (by decide)] at h4; exact absurd h4 (by decide)
  rw [if_neg ha] at h4 ⊢
  have hR2 := hR.filter fun q => decide (q.1 ∈ a)
  rw [step_only hR2 b] at h4 ⊢
  by_cases hb : (b.any fun n => !(asc n (R.filter fun q => decide (q.1 ∈ a))).isSome) = true
  · rw [if_pos hb] at h4; exact absurd h4 (by decide)
  rw [if_neg hb]
  have hbR : ∀ n ∈ b, n ∈ a ∧ (asc n R).isSome = true := fun n hn => by
    simp only [List.any_eq_true, not_exists, not_and] at hb
    have := hb n hn
    have h2 : (asc n (R.filter fun q => decide (q.1 ∈ a))).isSome = true := by
      cases e : (asc n (R.filter fun q => decide (q.1 ∈ a))).isSome with
      | true => rfl
      | false => rw [e] at this; exact absurd rfl this
    obtain ⟨q, hq, rfl⟩ := List.mem_map.1 (asc_keys.1 h2)
    obtain ⟨q1, q2⟩ := List.mem_filter.1 hq
    exact ⟨by simpa using q2, asc_keys.2 (List.mem_map_of_mem q1)⟩
  have hb2 : ¬ (b.any fun n => !(asc n R).isSome) = true := by
    simp only [List.any_eq_true, not_exists, not_and]
    exact fun n hn => by rw [(hbR n hn).2]; simp
  rw [step_only hR b, if_neg hb2, step_only hR [], if_neg (by simp), if_neg (by simp), if_neg (by simp), List.filter_filter]
  refine ⟨rfl, ?_, rfl, ?_⟩
  · show sortP _ = sortP _
    congr 1
    refine List.filter_congr fun q hq => ?_
    by_cases e : q.1 ∈ b
    · simp [e, (hbR q.1 e).1]
    · simp [e]
  · show sortP _ = _
    rw [List.filter_eq_nil_iff.2 (by simp)]
    exact List.mergeSort_nil
end Go.Proofs.Ytakcdeihljojiaa.Gx

namespace Go.Proofs.Ytakcdeihljojiaa.Gx
open Go Go.Proofs.Ytakcdeihljojiaa.Gw
set_option linter.unusedSimpArgs false
set_option linter.unusedVariables false

theorem cellsSet (s : Set') : V.cells (.agg (encSet s)) = some (encSet s) := rfl
theorem encSet_len (s : Set') : (encSet s).length = 6 := by cases s; rfl
theorem encSet_take (s : Set') : (encSet s).take 6 = encSet s := List.take_of_length_le (by rw [encSet_len]; exact Nat.le_refl _)
set_option maxRecDepth 20000 in
set_option maxHeartbeats 4000000 in
theorem c_NamesParted (s : Set') (ex l : List Str) (st : St) : VCalls Try.prog TT 3 [.agg (encSet s), encS ex, encS l] st fun r st' => r = .ret (.bool true) ∧ st' = st := by
  refine vfun TT_ok (an := anL [(3, 1), (55, 1)]) (L := [0, 1, 2, 3, 6, 7, 8, 9, 10, 11, 12]) (rs := [.tmp 6]) Try.func3 rfl (by kernel_rfl) rfl Try.ntmps3 rfl rfl (Nat.le_refl _) fun hst ha hf => ?_
  have hE := parted_err s ex l
  have hO := @parted_ok s ex l
  have hA := @ofL_len s ex
  have hB := @ofL_len (onS 2 s l) ex
  have hC := @ofL_len (onS 3 s l) ex
  simp only [gwL, gwB, gwD, gwE, gwS, gwTT, gwZ, gwN, gwC, Nat.reduceEqDiff, ↓reduceIte, Nat.reduceAdd, Nat.reduceLT, Nat.reduceLeDiff, Nat.reduceMul, cellsSet]
  refine (c_alive2 _).use (wkL_refl _) fun _ => ?_
  simp only [gwL, gwB, gwD, gwE, gwS, gwTT, gwZ, gwN, gwC, Nat.reduceEqDiff, ↓reduceIte, Nat.reduceAdd, Nat.reduceLT, Nat.reduceLeDiff, Nat.reduceMul, encSet_len, encSet_take]
  refine (c_Of s ex _).use (wkL_refl _) fun _ => ?_
  simp only [gwL, gwB, gwD, gwE, gwS, gwTT, gwZ, gwN, gwC, Nat.reduceEqDiff, ↓reduceIte, Nat.reduceAdd, Nat.reduceLT, Nat.reduceLeDiff, Nat.reduceMul, ofV, encSet_len, encSet_take]
  refine (c_on _ 2 s l).use (wkL_refl _) fun _ => ?_
  simp only [gwL, gwB, gwD, gwE, gwS, gwTT, gwZ, gwN, gwC, Nat.reduceEqDiff, ↓reduceIte, Nat.reduceAdd, Nat.reduceLT, Nat.reduceLeDiff, Nat.reduceMul]
  refine (c_Of (onS 2 s l) ex _).use (wkL_refl _) fun _ => ?_
  simp only [gwL, gwB, gwD, gwE, gwS, gwTT, gwZ, gwN, gwC, Nat.reduceEqDiff, ↓reduceIte, Nat.reduceAdd, Nat.reduceLT, Nat.reduceLeDiff, Nat.reduceMul, ofV, encSet_len, encSet_take]
  refine (c_on _ 3 s l).use (wkL_refl _) fun _ => ?_
  simp only [gwL, gwB, gwD, gwE, gwS, gwTT, gwZ, gwN, gwC, Nat.reduceEqDiff, ↓reduceIte, Nat.reduceAdd, Nat.reduceLT, Nat.reduceLeDiff, Nat.reduceMul]
  refine (c_Of (onS 3 s l) ex _).use (wkL_refl _) fun _ => ?_
  generalize ofL s ex = A at *
  generalize ofL (onS 2 s l) ex = B at *
  generalize ofL (onS 3 s l) ex = C at *
  obtain ⟨A1, A2⟩ := A
  obtain ⟨B1, B2⟩ := B
  obtain ⟨C1, C2⟩ := C
  simp only at hE hO hA hB hC
  subst hE
  simp only [gwL, gwB, gwD, gwE, gwS, gwTT, gwZ, gwN, gwC, Nat.reduceEqDiff, ↓reduceIte, Nat.reduceAdd, Nat.reduceLT, Nat.reduceLeDiff, Nat.reduceMul, ofV]
  refine iK_split (fun h => ?_) (fun h => ?_)
  · simp only [gwL, gwB, gwD, gwE, gwS, gwTT, gwZ, gwN, gwC, Nat.reduceEqDiff, ↓reduceIte, Nat.reduceAdd, Nat.reduceLT, Nat.reduceLeDiff, Nat.reduceMul]
    exact gives_bool (by simp) hst
  have hB0 : B2 = 0 := Classical.byContradiction fun hh => by rw [decide_eq_false hh] at h; simp at h
  have hA0 : A2 = 0 := Classical.byContradiction fun hh => by rw [decide_eq_false hh] at h; simp at h
  obtain ⟨h1, h2⟩ := hO hA0 hB0 hB0
  have hrr : rowsP B1 ++ rowsP C1 = rowsP (B1 ++ C1) := by simp [rowsP]
  simp only [gwL, gwB, gwD, gwE, gwS, gwTT, gwZ, gwN, gwC, Nat.reduceEqDiff, ↓reduceIte, Nat.reduceAdd, Nat.reduceLT, Nat.reduceLeDiff, Nat.reduceMul, lstP, rowsP_len, hrr]
  refine ⟨by omega, by omega, ?_⟩
  refine (c_Sort2 _ (B1 ++ C1) (by rw [List.length_append]; omega) h2).use (wkL_cons (wk_tok ..) wkL_nil) fun _ => ?_
  rw [h1]
  simp only [gwL, gwB, gwD, gwE, gwS, gwTT, gwZ, gwN, gwC, Nat.reduceEqDiff, ↓reduceIte, Nat.reduceAdd, Nat.reduceLT, Nat.reduceLeDiff, Nat.reduceMul]
  refine (c_Same2 _ A1 A1).use (wkL_refl _) fun _ => ?_
  rw [sameP_self]
  simp only [gwL, gwB, gwD, gwE, gwS, gwTT, gwZ, gwN, gwC, Nat.reduceEqDiff, ↓reduceIte, Nat.reduceAdd, Nat.reduceLT, Nat.reduceLeDiff, Nat.reduceMul]
  exact gives_bool' rfl hst
set_option maxRecDepth 20000 in
set_option maxHeartbeats 4000000 in
theorem c_NamesOnly (s : Set') (ex a b : List Str) (st : St) : VCalls Try.prog TT 7 [.agg (encSet s), encS ex, encS a, encS b] st fun r st' => r = .ret (.bool true) ∧ st' = st := by
  refine vfun TT_ok (an := anL [(4, 1)]) (L := [0, 1, 2, 3, 4, 8, 9, 10, 11, 12, 13, 14]) (rs := [.tmp 8]) Try.func7 rfl (by kernel_rfl) rfl Try.ntmps7 rfl rfl (Nat.le_refl _) fun hst ha hf => ?_
  have hO := @only_law s ex a b
  have hR := @ofL_err (onS 2 (onS 2 s a) b) ex
  simp only [gwL, gwB, gwD, gwE, gwS, gwTT, gwZ, gwN, gwC, Nat.reduceEqDiff, ↓reduceIte, Nat.reduceAdd, Nat.reduceLT, Nat.reduceLeDiff, Nat.reduceMul, cellsSet]
  refine (c_alive2 _).use (wkL_refl _) fun _ => ?_
  simp only [gwL, gwB, gwD, gwE, gwS, gwTT, gwZ, gwN, gwC, Nat.reduceEqDiff, ↓reduceIte, Nat.reduceAdd, Nat.reduceLT, Nat.reduceLeDiff, Nat.reduceMul, encSet_len, encSet_take]
  refine (c_on _ 2 s a).use (wkL_refl _) fun _ => ?_
  simp only [gwL, gwB, gwD, gwE, gwS, gwTT, gwZ, gwN, gwC, Nat.reduceEqDiff, ↓reduceIte, Nat.reduceAdd, Nat.reduceLT, Nat.reduceLeDiff, Nat.reduceMul]
  refine (c_on _ 2 (onS 2 s a) b).use (wkL_refl _) fun _ => ?_
  simp only [gwL, gwB, gwD, gwE, gwS, gwTT, gwZ, gwN, gwC, Nat.reduceEqDiff, ↓reduceIte, Nat.reduceAdd, Nat.reduceLT, Nat.reduceLeDiff, Nat.reduceMul]
  refine (c_Of _ ex _).use (wkL_refl _) fun _ => ?_
  generalize ofL (onS 2 (onS 2 s a) b) ex = A at *
  obtain ⟨A1, A2⟩ := A
  simp only at hO hR
  simp only [gwL, gwB, gwD, gwE, gwS, gwTT, gwZ, gwN, gwC, Nat.reduceEqDiff, ↓reduceIte, Nat.reduceAdd, Nat.reduceLT, Nat.reduceLeDiff, Nat.reduceMul, ofV]
  refine iK_split (fun h => ?_) (fun h => ?_)
  · have h' : A2 ≠ 0 := by simpa using h
    rw [hR h']
    simp only [gwL, gwB, gwD, gwE, gwS, gwTT, gwZ, gwN, gwC, Nat.reduceEqDiff, ↓reduceIte, Nat.reduceAdd, Nat.reduceLT, Nat.reduceLeDiff, Nat.reduceMul, lstP, rowsP, List.map_nil, List.length_nil]
    exact gives_bool rfl hst
  have h' : A2 = 0 := by simpa using h
  obtain ⟨o1, o2, o3, o4⟩ := hO h'
  simp only [gwL, gwB, gwD, gwE, gwS, gwTT, gwZ, gwN, gwC, Nat.reduceEqDiff, ↓reduceIte, Nat.reduceAdd, Nat.reduceLT, Nat.reduceLeDiff, Nat.reduceMul, encSet_len, encSet_take]
  refine (c_on _ 2 s b).use (wkL_refl _) fun _ => ?_
  simp only [gwL, gwB, gwD, gwE, gwS, gwTT, gwZ, gwN, gwC, Nat.reduceEqDiff, ↓reduceIte, Nat.reduceAdd, Nat.reduceLT, Nat.reduceLeDiff, Nat.reduceMul]
  refine (c_Of _ ex _).use (wkL_refl _) fun _ => ?_
  rw [show ofL (onS 2 s b) ex = (A1, 0) from Prod.ext o2 o1]
  simp only [gwL, gwB, gwD, gwE, gwS, gwTT, gwZ, gwN, gwC, Nat.reduceEqDiff, ↓reduceIte, Nat.reduceAdd, Nat.reduceLT, Nat.reduceLeDiff, Nat.reduceMul, ofV, encSet_len, encSet_take]
  refine (c_on _ 2 s []).use (wkL_cons (wk_refl _) (wkL_cons (wk_refl _) (wkL_cons (wk_nils 1) wkL_nil))) fun _ => ?_
  simp only [gwL, gwB, gwD, gwE, gwS, gwTT, gwZ, gwN, gwC, Nat.reduceEqDiff, ↓reduceIte, Nat.reduceAdd, Nat.reduceLT, Nat.reduceLeDiff, Nat.reduceMul]
  refine (c_Of _ ex _).use (wkL_refl _) fun _ => ?_
  rw [show ofL (onS 2 s []) ex = ([], 0) from Prod.ext o4 o3]
  simp only [gwL, gwB, gwD, gwE, gwS, gwTT, gwZ, gwN, gwC, Nat.reduceEqDiff, ↓reduceIte, Nat.reduceAdd, Nat.reduceLT, Nat.reduceLeDiff, Nat.reduceMul, ofV]
  refine rK_made (c_Same2 _ A1 A1) (wkL_refl _) ?_
  rw [sameP_self]
  simp only [gwL, gwB, gwD, gwE, gwS, gwTT, gwZ, gwN, gwC, Nat.reduceEqDiff, ↓reduceIte, Nat.reduceAdd, Nat.reduceLT, Nat.reduceLeDiff, Nat.reduceMul, lstP, rowsP, List.map_nil, List.length_nil]
  exact gives_bool rfl hst
set_option maxRecDepth 20000 in
set_option maxHeartbeats 4000000 in
theorem c_NamesBack (s : Set') (ex : List Str) (n a : Str) (st : St) : VCalls Try.prog TT 5 [.agg (encSet s), encS ex, .str n, .str a] st fun r st' => r = .ret (.bool true) ∧ st' = st := by
  refine vfun TT_ok (an := anL [(4, 1)]) (L := [0, 1, 2, 3, 4, 8, 9, 10, 11, 12, 13, 14, 15]) (rs := [.tmp 8]) Try.func5 rfl (by kernel_rfl) rfl Try.ntmps5 rfl rfl (Nat.le_refl _) fun hst ha hf => ?_
  have hO := @back_law s ex n a
  simp only [gwL, gwB, gwD, gwE, gwS, gwTT, gwZ, gwN, gwC, Nat.reduceEqDiff, ↓reduceIte, Nat.reduceAdd, Nat.reduceLT, Nat.reduceLeDiff, Nat.reduceMul, cellsSet]
  refine (c_alive2 _).use (wkL_refl _) fun _ => ?_
  simp only [gwL, gwB, gwD, gwE, gwS, gwTT, gwZ, gwN, gwC, Nat.reduceEqDiff, ↓reduceIte, Nat.reduceAdd, Nat.reduceLT, Nat.reduceLeDiff, Nat.reduceMul, encSet_len, encSet_take]
  refine (c_Of s ex _).use (wkL_refl _) fun _ => ?_
  simp only [gwL, gwB, gwD, gwE, gwS, gwTT, gwZ, gwN, gwC, Nat.reduceEqDiff, ↓reduceIte, Nat.reduceAdd, Nat.reduceLT, Nat.reduceLeDiff, Nat.reduceMul, ofV, encSet_len, encSet_take]
  refine (c_ren _ s n a).use (wkL_refl _) fun _ => ?_
  simp only [gwL, gwB, gwD, gwE, gwS, gwTT, gwZ, gwN, gwC, Nat.reduceEqDiff, ↓reduceIte, Nat.reduceAdd, Nat.reduceLT, Nat.reduceLeDiff, Nat.reduceMul]
  refine (c_Of _ ex _).use (wkL_refl _) fun _ => ?_
  simp only [gwL, gwB, gwD, gwE, gwS, gwTT, gwZ, gwN, gwC, Nat.reduceEqDiff, ↓reduceIte, Nat.reduceAdd, Nat.reduceLT, Nat.reduceLeDiff, Nat.reduceMul, ofV, encSet_len, encSet_take]
  refine (c_ren _ s n a).use (wkL_refl _) fun _ => ?_
  simp only [gwL, gwB, gwD, gwE, gwS, gwTT, gwZ, gwN, gwC, Nat.reduceEqDiff, ↓reduceIte, Nat.reduceAdd, Nat.reduceLT, Nat.reduceLeDiff, Nat.reduceMul]
  refine (c_ren _ (renS s n a) a n).use (wkL_refl _) fun _ => ?_
  simp only [gwL, gwB, gwD, gwE, gwS, gwTT, gwZ, gwN, gwC, Nat.reduceEqDiff, ↓reduceIte, Nat.reduceAdd, Nat.reduceLT, Nat.reduceLeDiff, Nat.reduceMul]
  refine (c_Of _ ex _).use (wkL_refl _) fun _ => ?_
  generalize ofL s ex = A at *
  generalize ofL (renS s n a) ex = B at *
  generalize ofL (renS (renS s n a) a n) ex = C at *
  obtain ⟨A1, A2⟩ := A
  obtain ⟨B1, B2⟩ := B
  obtain ⟨C1, C2⟩ := C
  simp only at hO
  simp only [gwL, gwB, gwD, gwE, gwS, gwTT, gwZ, gwN, gwC, Nat.reduceEqDiff, ↓reduceIte, Nat.reduceAdd, Nat.reduceLT, Nat.reduceLeDiff, Nat.reduceMul, ofV]
  refine iK_split (fun h => ?_) (fun h => ?_)
  · simp only [gwL, gwB, gwD, gwE, gwS, gwTT, gwZ, gwN, gwC, Nat.reduceEqDiff, ↓reduceIte, Nat.reduceAdd, Nat.reduceLT, Nat.reduceLeDiff, Nat.reduceMul]
    exact gives_bool rfl hst
  simp only [Bool.or_eq_false_iff, Bool.not_eq_false', decide_eq_true_eq] at h
  obtain ⟨o1, o2, o3⟩ := hO h.1.1 h.1.2 h.2
  subst o1
  simp only [gwL, gwB, gwD, gwE, gwS, gwTT, gwZ, gwN, gwC, Nat.reduceEqDiff, ↓reduceIte, Nat.reduceAdd, Nat.reduceLT, Nat.reduceLeDiff, Nat.reduceMul]
  refine (c_Same2 _ C1 C1).use (wkL_refl _) fun _ => ?_
  rw [sameP_self]
  have d1 : decide ((B1.length : Int) = (C1.length : Int)) = true := by rw [o2]; simp
  simp only [gwL, gwB, gwD, gwE, gwS, gwTT, gwZ, gwN, gwC, Nat.reduceEqDiff, ↓reduceIte, Nat.reduceAdd, Nat.reduceLT, Nat.reduceLeDiff, Nat.reduceMul, lstP, rowsP_len, d1]
  refine rK_made (c_Has2 _ B1 a) (wkL_refl _) ?_
  rw [decide_eq_true o3]
  simp only [gwL, gwB, gwD, gwE, gwS, gwTT, gwZ, gwN, gwC, Nat.reduceEqDiff, ↓reduceIte, Nat.reduceAdd, Nat.reduceLT, Nat.reduceLeDiff, Nat.reduceMul]
  exact gives_bool rfl hst
set_option maxRecDepth 20000 in
set_option maxHeartbeats 4000000 in
theorem c_NamesPrefix (s : Set') (ex : List Str) (p q : Str) (st : St) : VCalls Try.prog TT 4 [.agg (encSet s), encS ex, .str p, .str q] st fun r st' => r = .ret (.bool true) ∧ st' = st := by
  refine vfun TT_ok (an := anL [(4, 1)]) (L := [0, 1, 2, 3, 4, 8, 9, 10, 11, 12, 13, 15, 73, 74, 75]) (rs := [.tmp 8]) Try.func4 rfl (by kernel_rfl) rfl Try.ntmps4 rfl rfl (Nat.le_refl _) fun hst ha hf => ?_
  simp only [gwL, gwB, gwD, gwE, gwS, gwTT, gwZ, gwN, gwC, Nat.reduceEqDiff, ↓reduceIte, Nat.reduceAdd, Nat.reduceLT, Nat.reduceLeDiff, Nat.reduceMul, cellsSet]
  refine (c_alive2 _).use (wkL_refl _) fun _ => ?_
  simp only [gwL, gwB, gwD, gwE, gwS, gwTT, gwZ, gwN, gwC, Nat.reduceEqDiff, ↓reduceIte, Nat.reduceAdd, Nat.reduceLT, Nat.reduceLeDiff, Nat.reduceMul]
  refine (c_ref_Named _ p).use (wkL_refl _) fun _ => ?_
  simp only [gwL, gwB, gwD, gwE, gwS, gwTT, gwZ, gwN, gwC, Nat.reduceEqDiff, ↓reduceIte, Nat.reduceAdd, Nat.reduceLT, Nat.reduceLeDiff, Nat.reduceMul]
  refine rK_guarded (.bool (namedB q)) (fun _ => c_ref_Named _ q) ?_
  simp only [gwL, gwB, gwD, gwE, gwS, gwTT, gwZ, gwN, gwC, Nat.reduceEqDiff, ↓reduceIte, Nat.reduceAdd, Nat.reduceLT, Nat.reduceLeDiff, Nat.reduceMul]
  refine ⟨fun h => by
    simp only [Bool.not_eq_true', Bool.or_eq_false_iff, Bool.not_eq_false'] at h
    have h1 := namedB_len h.1
    have h2 := namedB_len h.2
    omega, ?_⟩
  refine rK_guarded (.bool (namedB (p ++ q))) (fun _ => c_ref_Named _ (p ++ q)) ?_
  simp only [gwL, gwB, gwD, gwE, gwS, gwTT, gwZ, gwN, gwC, Nat.reduceEqDiff, ↓reduceIte, Nat.reduceAdd, Nat.reduceLT, Nat.reduceLeDiff, Nat.reduceMul]
  refine iK_split (fun h => ?_) (fun h => ?_)
  · simp only [gwL, gwB, gwD, gwE, gwS, gwTT, gwZ, gwN, gwC, Nat.reduceEqDiff, ↓reduceIte, Nat.reduceAdd, Nat.reduceLT, Nat.reduceLeDiff, Nat.reduceMul]
    exact gives_bool rfl hst
  simp only [Bool.or_eq_false_iff, Bool.not_eq_false'] at h
  obtain ⟨⟨hp, hq⟩, hpq⟩ := h
  obtain ⟨hE, hO⟩ := @prefix_law s ex p q hp hq hpq
  have hpl := namedB_len hp
  have hql := namedB_len hq
  have hB := @ofL_len (preS s (p ++ q)) ex
  have e1 : p.length + q.length ≤ 9223372036854775807 := by omega
  simp only [gwL, gwB, gwD, gwE, gwS, gwTT, gwZ, gwN, gwC, Nat.reduceEqDiff, ↓reduceIte, Nat.reduceAdd, Nat.reduceLT, Nat.reduceLeDiff, Nat.reduceMul, encSet_len, encSet_take]
  refine (c_pre _ s q).use (wkL_refl _) fun _ => ?_
  simp only [gwL, gwB, gwD, gwE, gwS, gwTT, gwZ, gwN, gwC, Nat.reduceEqDiff, ↓reduceIte, Nat.reduceAdd, Nat.reduceLT, Nat.reduceLeDiff, Nat.reduceMul]
  refine (c_pre _ (preS s q) p).use (wkL_refl _) fun _ => ?_
  simp only [gwL, gwB, gwD, gwE, gwS, gwTT, gwZ, gwN, gwC, Nat.reduceEqDiff, ↓reduceIte, Nat.reduceAdd, Nat.reduceLT, Nat.reduceLeDiff, Nat.reduceMul]
  refine (c_Of _ ex _).use (wkL_refl _) fun _ => ?_
  simp only [gwL, gwB, gwD, gwE, gwS, gwTT, gwZ, gwN, gwC, Nat.reduceEqDiff, ↓reduceIte, Nat.reduceAdd, Nat.reduceLT, Nat.reduceLeDiff, Nat.reduceMul, ofV, encSet_len, encSet_take]
  refine ⟨e1, ?_⟩
  refine (c_pre _ s (p ++ q)).use (wkL_refl _) fun _ => ?_
  simp only [gwL, gwB, gwD, gwE, gwS, gwTT, gwZ, gwN, gwC, Nat.reduceEqDiff, ↓reduceIte, Nat.reduceAdd, Nat.reduceLT, Nat.reduceLeDiff, Nat.reduceMul]
  refine (c_Of _ ex _).use (wkL_refl _) fun _ => ?_
  generalize ofL (preS (preS s q) p) ex = A at *
  generalize ofL (preS s (p ++ q)) ex = B at *
  obtain ⟨A1, A2⟩ := A
  obtain ⟨B1, B2⟩ := B
  simp only at hE hO hB
  simp only [gwL, gwB, gwD, gwE, gwS, gwTT, gwZ, gwN, gwC, Nat.reduceEqDiff, ↓reduceIte, Nat.reduceAdd, Nat.reduceLT, Nat.reduceLeDiff, Nat.reduceMul, ofV]
  refine iK_split (fun h => ?_) (fun h => ?_)
  · simp only [gwL, gwB, gwD, gwE, gwS, gwTT, gwZ, gwN, gwC, Nat.reduceEqDiff, ↓reduceIte, Nat.reduceAdd, Nat.reduceLT, Nat.reduceLeDiff, Nat.reduceMul]
    refine gives_bool ?_ hst
    by_cases hA : A2 = 0
    · have := (hO hA).1
      simp [hA, this]
    · rcases hE hA with h | h | h <;> simp [h]
  simp only [Bool.or_eq_false_iff, Bool.not_eq_false', decide_eq_true_eq] at h
  obtain ⟨o1, o2, o3⟩ := hO h.1
  subst o2
  simp only [gwL, gwB, gwD, gwE, gwS, gwTT, gwZ, gwN, gwC, Nat.reduceEqDiff, ↓reduceIte, Nat.reduceAdd, Nat.reduceLT, Nat.reduceLeDiff, Nat.reduceMul, lstP, rowsP_len]
  refine vfor (σ := Nat × St) [2, 3, 8, 10, 12, 73, 74, 75] (fun x => [(2, true, .str p), (3, true, .str q), (8, true, .bool false), (10, true, .lst 2 none (rowsP A1)), (12, true, .lst 2 none (rowsP A1)), (73, true, .lst 2 none (rowsP A1)), (74, true, .int .i64 A1.length), (75, true, .int .i64 x.1)]) (fun x => x.2) (fun x => A1.length - x.1) (fun x => x.1 ≤ A1.length ∧ ∃ X, x.2 = st ++ X) (0, st) rfl TT_ok ⟨Nat.zero_le _, [], by rw [List.append_nil]⟩ rfl rfl ?_
  rintro ⟨i, S⟩ ⟨hi, X, hX⟩
  simp only at hi hX ⊢
  rcases at_or_end A1 i hi with ⟨hie, -⟩ | ⟨u, hlt, hget, -⟩
  · have hie2 : i = A1.length := hie
    subst hie2
    simp only [gwL, gwB, gwD, gwE, gwS, gwTT, gwZ, gwN, gwC, Nat.reduceEqDiff, ↓reduceIte, Nat.reduceAdd, Nat.reduceLT, Nat.reduceLeDiff, Nat.reduceMul, lt_no]
    refine (c_Same2 _ A1 A1).use (wkL_refl _) fun _ => ?_
    rw [sameP_self, hX]
    simp only [gwL, gwB, gwD, gwE, gwS, gwTT, gwZ, gwN, gwC, Nat.reduceEqDiff, ↓reduceIte, Nat.reduceAdd, Nat.reduceLT, Nat.reduceLeDiff, Nat.reduceMul]
    exact gives_bool' rfl hst
  · have hg := rowsP_getD hget
    have w : IntKind.i64.wrap ((i : Int) + 1) = ((i + 1 : Nat) : Int) := next_i64 hlt (by omega)
    obtain ⟨y, hy⟩ := o3 u (List.mem_of_getElem? hget)
    obtain ⟨un, us⟩ := u
    simp only at hy
    subst hy
    have d2 : decide (((p ++ q ++ y).length : Int) < ((p ++ q).length : Int)) = false := decide_eq_false (by simp only [List.length_append]; omega)
    have d3 : List.take (p ++ q).length (p ++ q ++ y) = p ++ q := List.take_left
    simp only [gwL, gwB, gwD, gwE, gwS, gwTT, gwZ, gwN, gwC, Nat.reduceEqDiff, ↓reduceIte, Nat.reduceAdd, Nat.reduceLT, Nat.reduceLeDiff, Nat.reduceMul, lt_yes hlt, hg, rowsP_len, Int.ofNat_lt.mpr hlt, Int.toNat_natCast, d2, d3, w, Env.keep]
    exact ⟨e1, e1, by simp only [List.length_append]; omega, e1, (i + 1, _), rfl, rfl, by simp only; omega, by simp only; omega, _, by simp only; rw [hX, List.append_assoc]⟩
set_option maxRecDepth 20000 in
set_option maxHeartbeats 4000000 in
theorem c_NamesFrom (s : Set') (ex : List Str) (st : St) : VCalls Try.prog TT 6 [.agg (encSet s), encS ex] st fun r st' => r = .ret (.bool true) ∧ st' = st := by
  refine vfun TT_ok (an := anL [(2, 1)]) (L := [0, 1, 2, 4, 5, 6, 7, 8, 9, 11, 25, 26, 27, 32, 33, 34]) (rs := [.tmp 4]) Try.func6 rfl (by kernel_rfl) rfl Try.ntmps6 rfl rfl (Nat.le_refl _) fun hst ha hf => ?_
  have hO := @from_law s ex
  have hR := @ofL_err s ex
  have hL := @ofL_len s ex
  have hfl : ex.length ≤ 9223372036854775807 := by
    simp only [fitL, V.fit, encS, List.length_map] at hf
    exact hf.2.1.1
  simp only [gwL, gwB, gwD, gwE, gwS, gwTT, gwZ, gwN, gwC, Nat.reduceEqDiff, ↓reduceIte, Nat.reduceAdd, Nat.reduceLT, Nat.reduceLeDiff, Nat.reduceMul, cellsSet]
  refine (c_alive2 _).use (wkL_refl _) fun _ => ?_
  simp only [gwL, gwB, gwD, gwE, gwS, gwTT, gwZ, gwN, gwC, Nat.reduceEqDiff, ↓reduceIte, Nat.reduceAdd, Nat.reduceLT, Nat.reduceLeDiff, Nat.reduceMul, encSet_len, encSet_take]
  refine (c_Of s ex _).use (wkL_refl _) fun _ => ?_
  generalize ofL s ex = A at *
  obtain ⟨A1, A2⟩ := A
  simp only at hO hR hL
  simp only [gwL, gwB, gwD, gwE, gwS, gwTT, gwZ, gwN, gwC, Nat.reduceEqDiff, ↓reduceIte, Nat.reduceAdd, Nat.reduceLT, Nat.reduceLeDiff, Nat.reduceMul, ofV]
  refine iK_split (fun h => ?_) (fun h => ?_)
  · have h' : A2 ≠ 0 := by simpa using h
    rw [hR h']
    simp only [gwL, gwB, gwD, gwE, gwS, gwTT, gwZ, gwN, gwC, Nat.reduceEqDiff, ↓reduceIte, Nat.reduceAdd, Nat.reduceLT, Nat.reduceLeDiff, Nat.reduceMul, lstP, rowsP, List.map_nil, List.length_nil]
    exact gives_bool rfl hst
  have h' : A2 = 0 := by simpa using h
  obtain ⟨o1, o2⟩ := hO h'
  simp only [gwL, gwB, gwD, gwE, gwS, gwTT, gwZ, gwN, gwC, Nat.reduceEqDiff, ↓reduceIte, Nat.reduceAdd, Nat.reduceLT, Nat.reduceLeDiff, Nat.reduceMul, lstP, rowsP_len]
  refine vfor (σ := Nat × St) [1, 4, 5, 25, 26, 27] (fun x => [(1, true, encS ex), (4, true, .bool false), (5, true, .lst 2 none (rowsP A1)), (25, true, .lst 2 none (rowsP A1)), (26, true, .int .i64 A1.length), (27, true, .int .i64 x.1)]) (fun x => x.2) (fun x => A1.length - x.1) (fun x => x.1 ≤ A1.length ∧ ∃ X, x.2 = st ++ X) (0, st) rfl TT_ok ⟨Nat.zero_le _, [], by rw [List.append_nil]⟩ rfl rfl ?_
  rintro ⟨i, S⟩ ⟨hi, X, hX⟩
  simp only at hi hX ⊢
  rcases at_or_end A1 i hi with ⟨hie, -⟩ | ⟨u, hlt, hget, -⟩
  · have hie2 : i = A1.length := hie
    subst hie2
    simp only [gwL, gwB, gwD, gwE, gwS, gwTT, gwZ, gwN, gwC, Nat.reduceEqDiff, ↓reduceIte, Nat.reduceAdd, Nat.reduceLT, Nat.reduceLeDiff, Nat.reduceMul, lt_no, encS, rowsP_len, List.length_map]
    rw [hX]
    exact gives_bool' (decide_eq_true (by omega)) hst
  · have hg := rowsP_getD hget
    have w : IntKind.i64.wrap ((i : Int) + 1) = ((i + 1 : Nat) : Int) := next_i64 hlt (by omega)
    obtain ⟨hu1, hu2⟩ := o1 u (List.mem_of_getElem? hget)
    simp only [gwL, gwB, gwD, gwE, gwS, gwTT, gwZ, gwN, gwC, Nat.reduceEqDiff, ↓reduceIte, Nat.reduceAdd, Nat.reduceLT, Nat.reduceLeDiff, Nat.reduceMul, lt_yes hlt, hg, rowsP_len, Int.ofNat_lt.mpr hlt, Int.toNat_natCast, encS, List.length_map]
    refine vmelt 8 S.length [.str u.1, .str u.2] rfl (by simp) ?_
    simp only [gwL, gwB, gwD, gwE, gwS, gwTT, gwZ, gwN, gwC, Nat.reduceEqDiff, ↓reduceIte, Nat.reduceAdd, Nat.reduceLT, Nat.reduceLeDiff, Nat.reduceMul]
    refine vfor (σ := Nat × Bool) [1, 4, 5, 7, 8, 9, 25, 26, 27, 32, 33, 34] (fun x => [(1, true, .lst 1 none (ex.map fun s => [V.str s])), (4, true, .bool false), (5, true, .lst 2 none (rowsP A1)), (7, true, .int .i64 i), (8, true, .ref [.str u.1, .str u.2]), (9, true, .bool x.2), (25, true, .lst 2 none (rowsP A1)), (26, true, .int .i64 A1.length), (27, true, .int .i64 i), (32, true, .lst 1 none (ex.map fun s => [V.str s])), (33, true, .int .i64 ex.length), (34, true, .int .i64 x.1)]) (fun x => S ++ [Ent.gone]) (fun x => ex.length - x.1) (fun x => x.1 ≤ ex.length ∧ x.2 = decide (u.2 ∈ ex.take x.1)) (0, false) rfl TT_ok ⟨Nat.zero_le _, by simp⟩ rfl rfl ?_
    rintro ⟨k, b⟩ ⟨hk, hb⟩
    simp only at hk hb ⊢
    rcases at_or_end ex k hk with ⟨hke, -⟩ | ⟨n, hkt, hkg, -⟩
    · have hke2 : k = ex.length := hke
      subst hke2
      rw [List.take_length, decide_eq_true hu1] at hb
      subst hb
      simp only [gwL, gwB, gwD, gwE, gwS, gwTT, gwZ, gwN, gwC, Nat.reduceEqDiff, ↓reduceIte, Nat.reduceAdd, Nat.reduceLT, Nat.reduceLeDiff, Nat.reduceMul, lt_no]
      obtain ⟨z, hz1, hz2⟩ : ∃ z : Str × Str, (rowsP A1).getD (IntKind.i64.wrap ((i : Int) - 1)).toNat [] = [.str z.1, .str z.2] ∧ (0 < i → z.1 < u.1) := by
        rcases Nat.eq_zero_or_pos i with h0 | h0
        · subst h0
          exact ⟨u, hg, fun h => absurd h (by omega)⟩
        · obtain ⟨j, rfl⟩ : ∃ j, i = j + 1 := ⟨i - 1, by omega⟩
          have e1 : IntKind.i64.wrap (((j + 1 : Nat) : Int) - 1) = (j : Int) := by rw [show ((j + 1 : Nat) : Int) - 1 = (j : Int) by omega]; exact wrap_i64 (by omega) (by omega)
          have hj : j < A1.length := by omega
          refine ⟨A1[j], by rw [e1]; exact rowsP_getD (List.getElem?_eq_getElem hj), fun _ => ?_⟩
          have := List.pairwise_iff_getElem.1 o2 j (j + 1) hj hlt (by omega)
          rwa [(List.getElem?_eq_some_iff.1 hget).2] at this
      have hwi : 0 < i → (0 : Int) ≤ IntKind.i64.wrap ((i : Int) - 1) ∧ IntKind.i64.wrap ((i : Int) - 1) < (A1.length : Int) := fun h0 => by
        rw [wrap_i64 (by omega) (by omega)]; omega
      have hlast : (decide ((0 : Int) < (i : Int)) && !Op.bytesLess z.1 u.1) = false := by
        by_cases h0 : 0 < i
        · rw [bytesLess_eq, decide_eq_true (hz2 h0)]; simp
        · rw [decide_eq_false (by omega)]; rfl
      refine vdraw TT_ok TT_mixed [0, 0, 0, 0, 1, 0, 0, 0, 0, 0, 0, 0, 0, 0, 0, 0, 0, 1, 0, 1, 0, 0, 0] (by kernel_rfl) ?_
      simp only [gwL, gwB, gwD, gwE, gwS, gwTT, gwZ, gwN, gwC, Nat.reduceEqDiff, ↓reduceIte, Nat.reduceAdd, Nat.reduceLT, Nat.reduceLeDiff, Nat.reduceMul]
      refine eK_free (fun s => c_ref_Named s u.1) (wkL_refl _) ?_
      rw [hu2]
      simp only [gwL, gwB, gwD, gwE, gwS, gwTT, gwZ, gwN, gwC, Nat.reduceEqDiff, ↓reduceIte, Nat.reduceAdd, Nat.reduceLT, Nat.reduceLeDiff, Nat.reduceMul, hz1, rowsP_len, hlast, w, Env.keep]
      exact ⟨fun h => hwi (by have := of_decide_eq_true h; omega), (i + 1, _), rfl, rfl, by simp only; omega, by simp only; omega, _, by simp only; rw [hX, List.append_assoc]⟩
    · have hgn : (ex.map fun s => [V.str s]).getD k [] = [.str n] := getD_map (f := fun s => [V.str s]) hkg
      have wk : IntKind.i64.wrap ((k : Int) + 1) = ((k + 1 : Nat) : Int) := next_i64 hkt hfl
      simp only [gwL, gwB, gwD, gwE, gwS, gwTT, gwZ, gwN, gwC, Nat.reduceEqDiff, ↓reduceIte, Nat.reduceAdd, Nat.reduceLT, Nat.reduceLeDiff, Nat.reduceMul, lt_yes hkt, hgn, List.length_map, Int.ofNat_lt.mpr hkt, Int.toNat_natCast, wk, Env.keep]
      refine ⟨(k + 1, b || decide (n = u.2)), rfl, by simp only; omega, by simp only; omega, ?_⟩
      simp only [List.take_add_one, hkg, hb]
      by_cases e : n = u.2
      · simp [e]
      · simp [e, Ne.symm e]
end Go.Proofs.Ytakcdeihljojiaa.Gx

namespace Go.Proofs.Ytakcdeihljojiaa.Gx
open Go Go.Proofs.Ytakcdeihljojiaa.Gw
set_option linter.unusedSimpArgs false
set_option linter.unusedVariables false
def encI1 (n : Int) : List V := [.int .i64 n]
def encS1 (s : Str) : List V := [.str s]

theorem len_succ {α : Type} {cs : List α} {n : Nat} (h : cs.length = n + 1) : ∃ c r, cs = c :: r ∧ r.length = n := by
  cases cs with
  | nil => simp at h
  | cons c r => exact ⟨c, r, rfl, by simpa using h⟩
open Go.ChangeShapes Go.WideShapes Go.ChangeAt Go.RowKit
theorem own : ownKnob Try.prog.godebug = none := by kernel_rfl
theorem laidOut : laidOutB Try.prog = true := by kernel_rfl
theorem below_of {W W' : World} {g' : G} (h : Ext g00 W g' W') : Below W.heap.size W W' := ⟨h.os, h.tape, h.output, h.size, fun k hk => (h.free k hk rfl).1⟩
theorem bulk_one {H : Type} (d : DataW H) : 1 ≤ Rows.uptoBulk d := by
  cases d with
  | lit l => cases l <;> simp [Rows.uptoBulk]
  | nil => simp [Rows.uptoBulk]
  | ptr d => simp [Rows.uptoBulk]
  | slice elems spare => simp [Rows.uptoBulk]
  | agg parts => simp [Rows.uptoBulk]
  | iface t d => simp [Rows.uptoBulk]
  | map entries => simp [Rows.uptoBulk]
  | held h => simp [Rows.uptoBulk]
theorem bulk_len {H : Type} : ∀ l : List (DataW H), l.length ≤ Rows.uptoBulkAll l
  | [] => by simp [Rows.uptoBulkAll]
  | x :: r => by have := bulk_one x; have := bulk_len r; simp only [Rows.uptoBulkAll, List.length_cons]; omega
/-- A slice that is read has no more elements than its bulk. -/
theorem bulk_slice {H : Type} {enc : TypeId × Value → H} {P : Program} {W : World} {spare : Nat → Bool} {held : Bool} {n : Nat} {t e : TypeId} {v : Value} {r : DataW H × List MemPlace} (ht : P.underlying t = some (.slice e)) {sz : Nat} {tp : Option Nat} {rows : List (List V)}
    (h : DataW.trod enc P W 0 spare held n t [v] = some r) (hs : SimV g00 W (.lst sz tp rows) v) : rows.length ≤ Rows.uptoBulk r.1 := by
  simp only [SimV] at hs
  obtain ⟨a, cap, rfl, -⟩ := hs
  cases n with
  | zero => simp [DataW.trod] at h
  | succ n =>
    unfold DataW.trod at h
    rw [ht] at h
    split at h <;> first | (cases h; done) | skip
    all_goals rename_i e'; first | (injection e' with e'; cases e'; done) | skip
    · simp only [List.cons.injEq, Value.slice.injEq, and_true] at e'
      obtain ⟨_, e', _⟩ := e'
      omega
    · simp only [List.cons.injEq, Value.slice.injEq, and_true] at e'
      obtain ⟨_, e', _⟩ := e'
      simp only at h
      split at h
      case isFalse => cases h
      rw [e']
      generalize hm : List.mapM (m := Option) _ _ = o at h
      cases o with
      | none => simp at h
      | some ys =>
        obtain ⟨hl, -⟩ := mapM_some hm
        simp only [Option.bind_some, Option.map_eq_some_iff] at h
        obtain ⟨zs, -, rfl⟩ := h
        have := bulk_len (ys.map (·.1))
        rw [List.length_map, hl, List.length_range] at this
        simp only [Rows.uptoBulk]
        omega
/-- A string that is read is no longer than its bulk. -/
theorem bulk_str {H : Type} {enc : TypeId × Value → H} {P : Program} {W : World} {spare : Nat → Bool} {held : Bool} {n : Nat} {t : TypeId} {s : List UInt8} {r : DataW H × List MemPlace} (ht : P.underlying t = some .string)
    (h : DataW.trod enc P W 0 spare held n t [.string ⟨s.toArray⟩] = some r) : s.length ≤ Rows.uptoBulk r.1 := by
  cases n with
  | zero => simp [DataW.trod] at h
  | succ n =>
    unfold DataW.trod at h
    rw [ht] at h
    split at h <;> first | (cases h; done) | skip
    all_goals rename_i e'; first | (injection e' with e'; cases e'; done) | skip
    · simp only [List.cons.injEq, Value.string.injEq, and_true] at e'
      subst e'
      split at h
      · simp only [Option.some.injEq] at h
        subst h
        simp [Rows.uptoBulk, ByteArray.size]
      · cases h
    · exact ((‹∀ s_1 : ByteArray, some TypeDesc.string = some TypeDesc.string → [Value.string ⟨s.toArray⟩] = [Value.string s_1] → False›) _ rfl rfl).elim
theorem okWide_slice {P : Program} {W : World} {r : Reach} {b : Nat} {t e : TypeId} {v : Value} (ht : P.underlying t = some (.slice e)) (h : Value.okWide P W r b t v) : v.cells.toList = [v] := by
  unfold Value.okWide at h
  rw [ht] at h
  simp only [Cell.okWide, ht] at h
  cases v <;> first | rfl | (simp [Cell.ok, ht] at h)
theorem okWide_str {P : Program} {W : World} {r : Reach} {b : Nat} {t : TypeId} {v : Value} (ht : P.underlying t = some .string) (h : Value.okWide P W r b t v) : v.cells.toList = [v] := by
  unfold Value.okWide at h
  rw [ht] at h
  simp only [Cell.okWide, ht] at h
  cases v <;> first | rfl | (simp [Cell.ok, ht] at h)
theorem okWide_int {P : Program} {W : World} {r : Reach} {b : Nat} {t : TypeId} {k : IntKind} {v : Value} (ht : P.underlying t = some (.int k)) (h : Value.okWide P W r b t v) : v.cells.toList = [v] := by
  unfold Value.okWide at h
  rw [ht] at h
  simp only [Cell.okWide, ht] at h
  cases v <;> first | rfl | (simp [Cell.ok, ht] at h)
theorem dec_int1 {H : Type} {enc : TypeId × Value → H} {P : Program} {W : World} {spare : Nat → Bool} {held : Bool} {t : TypeId} (ht : P.underlying t = some (.int .i64)) {n : Nat} {cs : List Value} {r : DataW H × List MemPlace} (h : DataW.trod enc P W 0 spare held n t cs = some r) : ∃ x : Int, SimVs g00 W (encI1 x) cs ∧ ∀ u ∈ cs, u.oneCell' = true := by
  obtain ⟨m, rfl⟩ := dec_int ht h
  exact ⟨m, ⟨_, _, rfl, rfl, rfl⟩, by simp [Value.oneCell']⟩
theorem dec_str1 {H : Type} {enc : TypeId × Value → H} {P : Program} {W : World} {spare : Nat → Bool} {held : Bool} {t : TypeId} (ht : P.underlying t = some .string) {n : Nat} {cs : List Value} {r : DataW H × List MemPlace} (h : DataW.trod enc P W 0 spare held n t cs = some r) : ∃ x : Str, SimVs g00 W (encS1 x) cs ∧ ∀ u ∈ cs, u.oneCell' = true := by
  obtain ⟨m, rfl, hm⟩ := dec_str ht h
  exact ⟨m, ⟨_, _, rfl, ⟨rfl, hm⟩, rfl⟩, by simp [Value.oneCell']⟩
end Go.Proofs.Ytakcdeihljojiaa.Gx

namespace Go.Proofs.Ytakcdeihljojiaa.Gx
open Go Go.Proofs.Ytakcdeihljojiaa.Gw
set_option linter.unusedSimpArgs false
set_option linter.unusedVariables false
theorem cells9 : Try.prog.cellsOf 9 = 1 := by kernel_rfl
theorem dec_Lstring {H : Type} {enc : TypeId × Value → H} {W : World} {spare : Nat → Bool} {held : Bool} {n : Nat} {cs : List Value} {r : DataW H × List MemPlace} (h : DataW.trod enc Try.prog W 0 spare held n 22 cs = some r) : ∃ (l : List (Str)) (v : Value), cs = [v] ∧ SimV g00 W (.lst 1 none (l.map encS1)) v ∧ v.oneCell' = true :=
  dec_slice (X := Str) encS1 Try.underlying22 cells9 (by decide) (fun m _ cs r hr => dec_str1 Try.underlying9 hr) h
theorem cells25 : Try.prog.cellsOf 25 = 6 := by kernel_rfl
theorem cells3 : Try.prog.cellsOf 3 = 1 := by kernel_rfl
theorem cells22 : Try.prog.cellsOf 22 = 1 := by kernel_rfl
theorem cells23 : Try.prog.cellsOf 23 = 1 := by kernel_rfl
theorem dec_Set {H : Type} {enc : TypeId × Value → H} {W : World} {spare : Nat → Bool} {held : Bool} : ∀ (n : Nat) (cs : List Value) (r : DataW H × List MemPlace), DataW.trod enc Try.prog W 0 spare held n 25 cs = some r → ∃ x : Set', SimVs g00 W (encSet x) cs ∧ ∀ u ∈ cs, u.oneCell' = true := by
  intro n
  induction n using Nat.strongRecOn with
  | _ n ih =>
    intro cs r h
    obtain ⟨m, rfl, hl, hf⟩ := dec_struct Try.underlying25 h
    rw [cells25] at hl
    obtain ⟨c0, t0, rfl, l0⟩ := len_succ hl
    obtain ⟨c1, t1, rfl, l1⟩ := len_succ l0
    obtain ⟨c2, t2, rfl, l2⟩ := len_succ l1
    obtain ⟨c3, t3, rfl, l3⟩ := len_succ l2
    obtain ⟨c4, t4, rfl, l4⟩ := len_succ l3
    obtain ⟨c5, t5, rfl, l5⟩ := len_succ l4
    obtain rfl := List.eq_nil_of_length_eq_zero l5
    simp only [List.forall_mem_cons, cells22, cells23, cells3, cells9, List.drop_zero, List.drop_succ_cons, List.take_succ_cons, List.take_zero] at hf
    obtain ⟨⟨y0, h0⟩, ⟨y1, h1⟩, ⟨y2, h2⟩, ⟨y3, h3⟩, ⟨y4, h4⟩, ⟨y5, h5⟩, _⟩ := hf
    obtain ⟨x0, e0⟩ := dec_int Try.underlying3 h0
    obtain ⟨x1, e1, k1⟩ := dec_str Try.underlying9 h1
    obtain ⟨x2, v2, e2, k2, j2⟩ := dec_Lstring h2
    obtain ⟨x3, v3, e3, k3, j3⟩ := dec_Lstring h3
    obtain ⟨x4, e4, k4⟩ := dec_str Try.underlying9 h4
    obtain ⟨x5, v5, e5, k5, j5⟩ := dec_slice encSet Try.underlying23 cells25 (by decide) (fun m' hm' cs r hr => ih m' (by omega) cs r hr) h5
    simp only [List.cons.injEq, and_true] at e0 e1 e2 e3 e4 e5
    subst e0 e1 e2 e3 e4 e5
    refine ⟨Set'.mk x0 x1 x2 x3 x4 x5, ?_, ?_⟩
    · rw [encSet_mk]
      exact ⟨_, _, rfl, rfl, ⟨_, _, rfl, ⟨rfl, k1⟩, ⟨_, _, rfl, k2, ⟨_, _, rfl, k3, ⟨_, _, rfl, ⟨rfl, k4⟩, ⟨_, _, rfl, k5, rfl⟩⟩⟩⟩⟩⟩
    · intro u hu
      simp only [List.mem_cons, List.not_mem_nil, or_false] at hu 
      rcases hu with rfl | rfl | rfl | rfl | rfl | rfl <;> first | rfl | exact j2 | exact j3 | exact j5
end Go.Proofs.Ytakcdeihljojiaa.Gx

namespace Go.Proofs.Ytakcdeihljojiaa.Gx
open Go Go.Proofs.Ytakcdeihljojiaa.Gw
set_option linter.unusedSimpArgs false
set_option linter.unusedVariables false
open Go.ChangeShapes Go.WideShapes Go.ChangeAt Go.RowKit
set_option maxRecDepth 100000 in
theorem lifted (os : Os) (started : os.Started) (H : Type) (enc : TypeId × Value → H) :
    ReturnsInHanded {} Try.checked os 7 .any (Rows.namesOnlySpec.pre6 enc Try.prog Try.f7 Rows.namesOnlyRow.domain false) (Rows.namesOnlySpec.post enc Try.prog Try.f7 false true false false) := by
  refine returnsInHanded_of_change_sized (C := Try.checked) own started (by kernel_rfl) Try.func7
    (ChangeSpec.witness6 (enc := enc) (C := Try.checked) false ⟨#[], #[.agg #[.int .i64 0, .string ByteArray.empty, .slice none 0 0, .slice none 0 0, .string ByteArray.empty, .slice none 0 0], .slice none 0 0, .slice none 0 0, .slice none 0 0], []⟩ 8 (by kernel_rfl) (by kernel_rfl) (by kernel_rfl) (by kernel_rfl)) ?_
  intro W base args ds gs before hval0 hW hcnd hsz0 _
  have hval : ∀ (j : Nat) t v, Try.f7.params[j]? = some t → args[j]? = some v → Value.okWide Try.prog W .any base t v := hval0
  have hW' := hW
  obtain ⟨p, q, hA0, hV, rfl, hfz, hnd⟩ := hW
  have hA : DataW.TrodAll enc Try.prog W 0 (fun _ => true) true Try.f7.params.toList args.toList ds p := hA0
  rw [Try.params7] at hA hval
  obtain ⟨v0, vs0, d0, ds0, p0, q0, hargs0, rfl, rfl, h0, r0⟩ := trodAll_cons hA
  obtain ⟨v1, vs1, d1, ds1, p1, q1, hargs1, rfl, rfl, h1, r1⟩ := trodAll_cons r0
  obtain ⟨v2, vs2, d2, ds2, p2, q2, hargs2, rfl, rfl, h2, r2⟩ := trodAll_cons r1
  obtain ⟨v3, vs3, d3, ds3, p3, q3, hargs3, rfl, rfl, h3, r3⟩ := trodAll_cons r2
  obtain ⟨rfl, rfl, rfl⟩ := trodAll_nil r3
  obtain rfl : args = #[v0, v1, v2, v3] := by cases args; simp_all
  obtain ⟨rfl, rfl⟩ := trodVars_none hV
  have w0 := hval 0 25 v0 rfl rfl
  unfold Value.okWide at w0
  rw [Try.underlying25] at w0
  obtain ⟨cs0, rfl, _, _⟩ := w0
  have w1 := hval 1 22 v1 rfl rfl
  have w2 := hval 2 22 v2 rfl rfl
  have w3 := hval 3 22 v3 rfl rfl
  have k0 := h0
  have lt0 : ∀ x ∈ p0, x.block < W.heap.size := by obtain ⟨m, hm⟩ := k0; exact DataW.trod_lt m _ _ _ hm
  obtain ⟨m0, hm0⟩ := h0
  obtain ⟨s, s0, o0⟩ := dec_Set _ _ _ hm0
  have k1 := h1
  have lt1 : ∀ x ∈ p1, x.block < W.heap.size := by obtain ⟨m, hm⟩ := k1; exact DataW.trod_lt m _ _ _ hm
  obtain ⟨m1, hm1⟩ := h1
  rw [okWide_slice Try.underlying22 w1] at hm1
  obtain ⟨ex, x1, e1, s1, o1⟩ := dec_Lstring hm1
  simp only [List.cons.injEq, and_true] at e1
  subst e1
  have k2 := h2
  have lt2 : ∀ x ∈ p2, x.block < W.heap.size := by obtain ⟨m, hm⟩ := k2; exact DataW.trod_lt m _ _ _ hm
  obtain ⟨m2, hm2⟩ := h2
  rw [okWide_slice Try.underlying22 w2] at hm2
  obtain ⟨a, x2, e2, s2, o2⟩ := dec_Lstring hm2
  simp only [List.cons.injEq, and_true] at e2
  subst e2
  have k3 := h3
  have lt3 : ∀ x ∈ p3, x.block < W.heap.size := by obtain ⟨m, hm⟩ := k3; exact DataW.trod_lt m _ _ _ hm
  obtain ⟨m3, hm3⟩ := h3
  rw [okWide_slice Try.underlying22 w3] at hm3
  obtain ⟨b, x3, e3, s3, o3⟩ := dec_Lstring hm3
  simp only [List.cons.injEq, and_true] at e3
  subst e3
  clear hA0 hval0 hsz0
  refine ((c_NamesOnly s ex a b []).2 g00 W [.agg cs0, v1, v2, v3] (sim00 _ W) ⟨_, _, rfl, ⟨cs0.toList, rfl, s0, o0⟩, ⟨_, _, rfl, s1, ⟨_, _, rfl, s2, ⟨_, _, rfl, s3, rfl⟩⟩⟩⟩).mono fun e W' ⟨r, st', g', ⟨h1, h2⟩, hend, _, hext⟩ => ?_
  subst h1
  obtain ⟨val, rfl, hb⟩ := hend
  simp only [SimV] at hb
  subst hb
  have bel := below_of hext
  exact ⟨_, rfl, _, _, _, [], _, [], hW', trodAll_mk1 (shut_bool Try.underlying4 _), (trodAll_cons_mk (Below.trod laidOut (by kernel_rfl) (of_decide_eq_true (by kernel_rfl)) k0 bel lt0) (trodAll_cons_mk (Below.trod laidOut (by kernel_rfl) (of_decide_eq_true (by kernel_rfl)) k1 bel lt1) (trodAll_cons_mk (Below.trod laidOut (by kernel_rfl) (of_decide_eq_true (by kernel_rfl)) k2 bel lt2) (trodAll_cons_mk (Below.trod laidOut (by kernel_rfl) (of_decide_eq_true (by kernel_rfl)) k3 bel lt3) trodAll_mk0)))), rfl, bel.frame _, fun h => by cases h⟩
theorem over : Rows.namesOnlyRow.holds Try.pinned (OpenSpec.ofChange Rows.namesOnlySpec) :=
  OpenClaim.holds_of_wide 7 Try.f7 rfl rfl rfl rfl rfl rfl rfl ⟨rfl, rfl, rfl, rfl, rfl⟩ rfl rfl rfl rfl rfl (by kernel_rfl) Try.func7 (by kernel_rfl)
    (of_decide_eq_true (by kernel_rfl)) (by unfold Func.isWrapper; first | (rw [if_pos (by decide +kernel)]; kernel_rfl) | (rw [if_neg (by decide +kernel)]; exact ⟨rfl, rfl⟩))
    (fun os started H enc _ => lifted os started H enc)
end Go.Proofs.Ytakcdeihljojiaa.Gx
namespace Go.Proofs.Ytakcdeihljojiaa
/-- The row, under a short name, for the claim. -/
theorem namesOnly_holds : Rows.NamesOnlySaid := Gx.over
#print axioms namesOnly_holds
end Go.Proofs.Ytakcdeihljojiaa
