/- Contract: the compiler's code of an expression. Contract: the compiler makes a unit of a part. -/
import Derived.Test.YtpfdoffnpkokhaaQ9

namespace Go.Proofs.Ytpfdoffnpkokhaa.Gx
open Go Go.Proofs.Ytpfdoffnpkokhaa.Gw
set_option linter.unusedSimpArgs false

def Pexpr (c : Core) : Prop := okC c → ∀ (s : St) (b P : Nat) (es : List (Option Nat)) (ps : List Pr) (p : Nat), US s b P es ps → p < ps.length → tot ps + 3 * nodesC c ≤ 1000000000 → ps.length + nodesC c ≤ 1000000000 →
  VCalls Try.prog TT 16 [.ptr b 0, .int .i64 p, .ref (encC c)] s fun r st' => r = .ret (.tup []) ∧ ∃ es', US st' b P es' (exprP c p ps) ∧ Fr s b P es st' es'

theorem wk_emit {b : Nat} {p : Int} {l : List V} {i : Ins} (h : wkL l (encI i)) : wkL [.ptr b 0, .int .i64 p, .agg l] [.ptr b 0, .int .i64 p, .agg (encI i)] :=
  wkL_cons (wk_refl _) (wkL_cons (wk_refl _) (wkL_cons (wk_agg h) wkL_nil))

set_option maxRecDepth 20000 in
set_option maxHeartbeats 8000000 in
theorem c_expr_one (k ix n : Int) (lb ow : Str) (q : Datum) (kids : List Core) (i : Ins) (hi : oneI (.mk k ix n lb ow q kids) = some i) (hqs : k = 3 → smallD q) (s : St) (b P : Nat) (es : List (Option Nat)) (ps : List Pr) (p : Nat) (hU : US s b P es ps) (hp : p < ps.length) (ht : tot ps ≤ 1000000000) :
  VCalls Try.prog TT 16 [.ptr b 0, .int .i64 p, .ref (encC (.mk k ix n lb ow q kids))] s fun r st' => r = .ret (.tup []) ∧ ∃ es', US st' b P es' (pushP p i ps) ∧ Fr s b P es st' es' := by
  refine vfunQ TT_ok (an := anL []) (L := [0, 1, 2, 6, 7, 8, 9, 10, 11, 12, 13, 27, 171, 172, 197, 198]) (rs := []) Try.func16 rfl (by kernel_rfl) rfl Try.ntmps16 rfl rfl fun hst ha hf => ?_
  simp only [decide_true, decide_false, gwL, gwB, gwD, gwE, gwS, gwTT, gwZ, initG, Nat.reduceEqDiff, ↓reduceIte, Nat.reduceAdd, Nat.reduceLT, Nat.reduceLeDiff, List.map_cons, List.map_nil, builtS, builtinV, pureR, binV, sliceV, pickV, evO, Env.look, find, V.ofConst, resV, resOne, tupV, loadV, fillV, buildV, mkIface, litM, litS, litR, litRows, List.reverse_cons, List.reverse_nil, Nat.reduceMul, appS, memA, appendV, rowsOf, V.cells, TI.sized, TI.known, TI.agg, anL, List.length_cons, List.length_nil, List.append_nil, List.cons_append, List.nil_append, List.drop_succ_cons, List.drop_zero, List.drop_nil, List.take_succ_cons, List.take_zero, List.take_nil, List.getElem?_cons_zero, List.getElem?_cons_succ, List.all_cons, List.all_nil, List.replicate_succ, List.replicate_zero, List.set_cons_zero, List.set_cons_succ, eq_self, true_or, ne_eq, not_false_eq_true, Nat.reduceEqDiff]
  refine (c_one (.mk k ix n lb ow q kids) hqs _).use (wkL_refl _) fun _ => ?_
  have hit : (encI i).take 11 = encI i := List.take_of_length_le (by rw [encI_len]; exact Nat.le_refl _)
  simp only [decide_true, decide_false, gwL, gwB, gwD, gwE, gwS, gwTT, gwZ, initG, Nat.reduceEqDiff, ↓reduceIte, Nat.reduceAdd, Nat.reduceLT, Nat.reduceLeDiff, List.map_cons, List.map_nil, builtS, builtinV, pureR, binV, sliceV, pickV, evO, Env.look, find, V.ofConst, resV, resOne, tupV, loadV, fillV, buildV, mkIface, litM, litS, litR, litRows, List.reverse_cons, List.reverse_nil, Nat.reduceMul, appS, memA, appendV, rowsOf, V.cells, TI.sized, TI.known, TI.agg, anL, List.length_cons, List.length_nil, List.append_nil, List.cons_append, List.nil_append, List.drop_succ_cons, List.drop_zero, List.drop_nil, List.take_succ_cons, List.take_zero, List.take_nil, List.getElem?_cons_zero, List.getElem?_cons_succ, List.all_cons, List.all_nil, List.replicate_succ, List.replicate_zero, List.set_cons_zero, List.set_cons_succ, eq_self, true_or, ne_eq, not_false_eq_true, Nat.reduceEqDiff, hi, Option.getD_some, Option.isSome_some, hit, encI_len]
  refine useQ (c_emitP _ b P es ps (hU.app _) p hp i (Nat.le_trans (hereP_tot ps p) ht)) (wkL_refl _) (by rintro v s' ⟨h, _⟩; cases h) ?_
  rintro X s' hX ⟨hX', es', hU', hF⟩
  cases hX'
  simp only [decide_true, decide_false, gwL, gwB, gwD, gwE, gwS, gwTT, gwZ, initG, Nat.reduceEqDiff, ↓reduceIte, Nat.reduceAdd, Nat.reduceLT, Nat.reduceLeDiff, List.map_cons, List.map_nil, builtS, builtinV, pureR, binV, sliceV, pickV, evO, Env.look, find, V.ofConst, resV, resOne, tupV, loadV, fillV, buildV, mkIface, litM, litS, litR, litRows, List.reverse_cons, List.reverse_nil, Nat.reduceMul, appS, memA, appendV, rowsOf, V.cells, TI.sized, TI.known, TI.agg, anL, List.length_cons, List.length_nil, List.append_nil, List.cons_append, List.nil_append, List.drop_succ_cons, List.drop_zero, List.drop_nil, List.take_succ_cons, List.take_zero, List.take_nil, List.getElem?_cons_zero, List.getElem?_cons_succ, List.all_cons, List.all_nil, List.replicate_succ, List.replicate_zero, List.set_cons_zero, List.set_cons_succ, eq_self, true_or, ne_eq, not_false_eq_true, Nat.reduceEqDiff]
  exact ⟨es', hU', hF.app⟩

/-- A procedure that has code lies in an object. -/
theorem US.at {s : St} {b P : Nat} {es : List (Option Nat)} {ps : List Pr} (h : US s b P es ps) {k : Nat} {q : Pr} (hq : ps[k]? = some q) (hne : 0 < q.code.length) : ∃ o, es[k]? = some (some o) ∧ s[o]? = some (.arr 46 11 (q.code.map encI)) := by
  have hk : k < es.length := by rw [h.len]; exact (List.getElem?_eq_some_iff.1 hq).1
  have he : es[k]? = some es[k] := List.getElem?_eq_getElem hk
  cases h1 : es[k] with
  | none => rw [h1] at he; rw [h.nil k q he hq] at hne; simp at hne
  | some o => rw [h1] at he; exact ⟨o, he, h.code k o q he hq⟩

theorem hereP_of {ps : List Pr} {k : Nat} {q : Pr} (h : ps[k]? = some q) : hereP k ps = q.code.length := by unfold hereP; rw [h]
theorem patchP_set {ps : List Pr} {k : Nat} {p : Pr} (h : ps[k]? = some p) (n : Nat) (a : Int) : patchP k n a ps = ps.set k ⟨p.args, p.code.modify n fun i => { i with a := a }⟩ := by
  unfold patchP
  apply List.ext_getElem?
  intro j
  rw [List.getElem?_modify]
  by_cases e : k = j
  · subst e
    rw [List.getElem?_set_self (List.getElem?_eq_some_iff.1 h).1, h]; simp
  · rw [List.getElem?_set_ne e]; simp [e]
theorem set_same {α : Type} {l : List α} {k : Nat} {a : α} (h : l[k]? = some a) : l.set k a = l := by
  apply List.ext_getElem?
  intro j
  by_cases e : k = j
  · subst e; rw [List.getElem?_set_self (List.getElem?_eq_some_iff.1 h).1, h]
  · rw [List.getElem?_set_ne e]
theorem encI_a (i : Ins) (a : Int) : (encI i).take 1 ++ [V.int .i64 a] ++ (encI i).drop 2 = encI { i with a := a } := by
  obtain ⟨op, a0, n, lb, ow, q⟩ := i
  rfl
/-- An instruction is given its place. -/
theorem US.patch {s : St} {b P : Nat} {es : List (Option Nat)} {ps : List Pr} (h : US s b P es ps) {k o n : Nat} {q : Pr} (hq : ps[k]? = some q) (he : es[k]? = some (some o)) (hn : n < q.code.length) (a m : Int) (hma : m = a) :
    US (s.set o (.arr 46 11 ((q.code.map encI).set n (((q.code.map encI).getD n []).take 1 ++ [.int .i64 a] ++ ((q.code.map encI).getD n []).drop 2)))) b P es (patchP k n m ps) ∧
    Fr s b P es (s.set o (.arr 46 11 ((q.code.map encI).set n (((q.code.map encI).getD n []).take 1 ++ [.int .i64 a] ++ ((q.code.map encI).getD n []).drop 2)))) es := by
  subst hma
  have hc := h.code k o q he hq
  have hO : o < s.length := (List.getElem?_eq_some_iff.1 hc).1
  have hoP : o ≠ P := by intro e; subst e; rw [h.arr] at hc; cases hc
  have hob : o ≠ b := by intro e; subst e; rw [h.box] at hc; cases hc
  have hi : q.code[n]? = some q.code[n] := List.getElem?_eq_getElem hn
  rw [getD_map hi, encI_a]
  have hm : (q.code.map encI).set n (encI { q.code[n] with a := m }) = (q.code.modify n fun i => { i with a := m }).map encI := by
    apply List.ext_getElem?
    intro j
    rw [List.getElem?_map, List.getElem?_modify]
    by_cases e : n = j
    · subst e
      rw [List.getElem?_set_self (by rw [List.length_map]; exact hn), hi]; simp
    · rw [List.getElem?_set_ne e, List.getElem?_map]; simp [e]
  rw [hm, patchP_set hq]
  have := h.put hq (o := o) (c := q.code.modify n fun i => { i with a := m }) (a := q.args) (s' := s.set o (.arr 46 11 ((q.code.modify n fun i => { i with a := m }).map encI))) (by simp) (List.getElem?_set_ne hob) ?_ (List.getElem?_set_self hO) (.inl he) fun j _ _ _ hj => List.getElem?_set_ne (Ne.symm hj)
  · rw [set_same he] at this
    exact this
  · rw [List.getElem?_set_ne hoP, h.arr]
    have e1 := prRows_set es ps k (some o) q h.len
    rw [set_same he, set_same hq] at e1
    rw [← e1]
    simp [prRow, codeV]

theorem kids3 {kids : List Core} (h : lenB 7 kids.length = true) : ∃ a b c, kids = [a, b, c] := by
  simp [lenB] at h
  match kids, h with
  | [a, b, c], _ => exact ⟨a, b, c, rfl⟩
theorem exprP_if (ix n : Int) (lb ow : Str) (q : Datum) (kids : List Core) (p : Nat) (ps : List Pr) : exprP (.mk 7 ix n lb ow q kids) p ps = ifP kids p ps := by
  rw [exprP]; simp [oneI]

set_option maxRecDepth 20000 in
set_option maxHeartbeats 8000000 in
theorem c_expr_if (ix n : Int) (lb ow : Str) (q : Datum) (x y z : Core) (ih : ∀ d ∈ [x, y, z], Pexpr d) : Pexpr (.mk 7 ix n lb ow q [x, y, z]) := by
  intro hok s b P es ps p hU hp ht hl
  rw [okC, okCs, okCs, okCs] at hok
  obtain ⟨-, -, -, hx, hy, hz, -⟩ := hok
  have hn : oneI (.mk 7 ix n lb ow q [x, y, z]) = none := by simp [oneI]
  have ihx := ih x (by simp) hx
  have ihy := ih y (by simp) hy
  have ihz := ih z (by simp) hz
  rw [exprP_if, ifP, thenP, elseP]
  simp only [nodesC, nodesCs] at ht hl
  refine vfunQ TT_ok (an := anL []) (L := [0, 1, 2, 6, 7, 8, 9, 10, 11, 12, 13, 27, 171, 172, 197, 198]) (rs := []) Try.func16 rfl (by kernel_rfl) rfl Try.ntmps16 rfl rfl fun hst ha hf => ?_
  simp only [decide_true, decide_false, gwL, gwB, gwD, gwE, gwS, gwTT, gwZ, initG, Nat.reduceEqDiff, ↓reduceIte, Nat.reduceAdd, Nat.reduceLT, Nat.reduceLeDiff, List.map_cons, List.map_nil, builtS, builtinV, pureR, binV, sliceV, pickV, evO, Env.look, find, V.ofConst, resV, resOne, tupV, loadV, fillV, buildV, mkIface, litM, litS, litR, litRows, List.reverse_cons, List.reverse_nil, Nat.reduceMul, appS, memA, appendV, rowsOf, V.cells, TI.sized, TI.known, TI.agg, anL, List.length_cons, List.length_nil, List.append_nil, List.cons_append, List.nil_append, List.drop_succ_cons, List.drop_zero, List.drop_nil, List.take_succ_cons, List.take_zero, List.take_nil, List.getElem?_cons_zero, List.getElem?_cons_succ, List.all_cons, List.all_nil, List.replicate_succ, List.replicate_zero, List.set_cons_zero, List.set_cons_succ, eq_self, true_or, ne_eq, not_false_eq_true, Nat.reduceEqDiff]
  refine (c_one (.mk 7 ix n lb ow q [x, y, z]) (fun h => by omega) _).use (wkL_refl _) fun _ => ?_
  simp only [encC_mk]
  simp only [decide_true, decide_false, gwL, gwB, gwD, gwE, gwS, gwTT, gwZ, initG, Nat.reduceEqDiff, ↓reduceIte, Nat.reduceAdd, Nat.reduceLT, Nat.reduceLeDiff, List.map_cons, List.map_nil, builtS, builtinV, pureR, binV, sliceV, pickV, evO, Env.look, find, V.ofConst, resV, resOne, tupV, loadV, fillV, buildV, mkIface, litM, litS, litR, litRows, List.reverse_cons, List.reverse_nil, Nat.reduceMul, appS, memA, appendV, rowsOf, V.cells, TI.sized, TI.known, TI.agg, anL, List.length_cons, List.length_nil, List.append_nil, List.cons_append, List.nil_append, List.drop_succ_cons, List.drop_zero, List.drop_nil, List.take_succ_cons, List.take_zero, List.take_nil, List.getElem?_cons_zero, List.getElem?_cons_succ, List.all_cons, List.all_nil, List.replicate_succ, List.replicate_zero, List.set_cons_zero, List.set_cons_succ, eq_self, true_or, ne_eq, not_false_eq_true, Nat.reduceEqDiff, hn, Option.getD_none, Option.isSome_none, Int.reduceEq, encD_drop_app, encI_len]
  refine ⟨by decide, ?_⟩
  refine useQ (ihx _ b P es ps p (hU.app _) hp (by omega) (by omega)) (wkL_refl _) (by rintro v s' ⟨h, _⟩; cases h) ?_
  rintro X s1 hX ⟨hX', es1, hU1, hF1⟩
  cases hX'
  have hp1 := Nat.lt_of_lt_of_le hp (exprP_len x p ps)
  have ht1 := exprP_tot x p ps
  simp only [decide_true, decide_false, gwL, gwB, gwD, gwE, gwS, gwTT, gwZ, initG, Nat.reduceEqDiff, ↓reduceIte, Nat.reduceAdd, Nat.reduceLT, Nat.reduceLeDiff, List.map_cons, List.map_nil, builtS, builtinV, pureR, binV, sliceV, pickV, evO, Env.look, find, V.ofConst, resV, resOne, tupV, loadV, fillV, buildV, mkIface, litM, litS, litR, litRows, List.reverse_cons, List.reverse_nil, Nat.reduceMul, appS, memA, appendV, rowsOf, V.cells, TI.sized, TI.known, TI.agg, anL, List.length_cons, List.length_nil, List.append_nil, List.cons_append, List.nil_append, List.drop_succ_cons, List.drop_zero, List.drop_nil, List.take_succ_cons, List.take_zero, List.take_nil, List.getElem?_cons_zero, List.getElem?_cons_succ, List.all_cons, List.all_nil, List.replicate_succ, List.replicate_zero, List.set_cons_zero, List.set_cons_succ, eq_self, true_or, ne_eq, not_false_eq_true, Nat.reduceEqDiff]
  refine useQ (c_emitP _ b P es1 _ hU1 p hp1 { op := 10 } (Nat.le_trans (hereP_tot _ p) (by omega))) (wk_emit (wk_ins ..)) (by rintro v s' ⟨h, _⟩; cases h) ?_
  rintro X s2 hX ⟨hX', es2, hU2, hF2⟩
  cases hX'
  have hp2 : p < (pushP p { op := 10 } (exprP x p ps)).length := by rw [pushP_len]; exact hp1
  have ht2 := pushP_tot (exprP x p ps) p { op := 10 }
  simp only [decide_true, decide_false, gwL, gwB, gwD, gwE, gwS, gwTT, gwZ, initG, Nat.reduceEqDiff, ↓reduceIte, Nat.reduceAdd, Nat.reduceLT, Nat.reduceLeDiff, List.map_cons, List.map_nil, builtS, builtinV, pureR, binV, sliceV, pickV, evO, Env.look, find, V.ofConst, resV, resOne, tupV, loadV, fillV, buildV, mkIface, litM, litS, litR, litRows, List.reverse_cons, List.reverse_nil, Nat.reduceMul, appS, memA, appendV, rowsOf, V.cells, TI.sized, TI.known, TI.agg, anL, List.length_cons, List.length_nil, List.append_nil, List.cons_append, List.nil_append, List.drop_succ_cons, List.drop_zero, List.drop_nil, List.take_succ_cons, List.take_zero, List.take_nil, List.getElem?_cons_zero, List.getElem?_cons_succ, List.all_cons, List.all_nil, List.replicate_succ, List.replicate_zero, List.set_cons_zero, List.set_cons_succ, eq_self, true_or, ne_eq, not_false_eq_true, Nat.reduceEqDiff, encD_drop_app]
  refine ⟨by decide, ?_⟩
  refine useQ (ihy _ b P es2 _ p hU2 hp2 (by omega) (by rw [pushP_len]; have := exprP_top x p ps; omega)) (wkL_refl _) (by rintro v s' ⟨h, _⟩; cases h) ?_
  rintro X s3 hX ⟨hX', es3, hU3, hF3⟩
  cases hX'
  have hp3 := Nat.lt_of_lt_of_le hp2 (exprP_len y p _)
  have ht3 := exprP_tot y p (pushP p { op := 10 } (exprP x p ps))
  simp only [decide_true, decide_false, gwL, gwB, gwD, gwE, gwS, gwTT, gwZ, initG, Nat.reduceEqDiff, ↓reduceIte, Nat.reduceAdd, Nat.reduceLT, Nat.reduceLeDiff, List.map_cons, List.map_nil, builtS, builtinV, pureR, binV, sliceV, pickV, evO, Env.look, find, V.ofConst, resV, resOne, tupV, loadV, fillV, buildV, mkIface, litM, litS, litR, litRows, List.reverse_cons, List.reverse_nil, Nat.reduceMul, appS, memA, appendV, rowsOf, V.cells, TI.sized, TI.known, TI.agg, anL, List.length_cons, List.length_nil, List.append_nil, List.cons_append, List.nil_append, List.drop_succ_cons, List.drop_zero, List.drop_nil, List.take_succ_cons, List.take_zero, List.take_nil, List.getElem?_cons_zero, List.getElem?_cons_succ, List.all_cons, List.all_nil, List.replicate_succ, List.replicate_zero, List.set_cons_zero, List.set_cons_succ, eq_self, true_or, ne_eq, not_false_eq_true, Nat.reduceEqDiff]
  refine useQ (c_emitP _ b P es3 _ hU3 p hp3 { op := 9 } (Nat.le_trans (hereP_tot _ p) (by omega))) (wk_emit (wk_ins ..)) (by rintro v s' ⟨h, _⟩; cases h) ?_
  rintro X s4 hX ⟨hX', es4, hU4, hF4⟩
  cases hX'
  have hp4 : p < (pushP p { op := 9 } (exprP y p (pushP p { op := 10 } (exprP x p ps)))).length := by rw [pushP_len]; exact hp3
  have ht4 := pushP_tot (exprP y p (pushP p { op := 10 } (exprP x p ps))) p { op := 9 }
  have hg4 : ∃ q, (pushP p { op := 9 } (exprP y p (pushP p { op := 10 } (exprP x p ps))))[p]? = some q ∧ hereP p (exprP x p ps) < q.code.length := by
    refine hereP_get ?_
    have g1 := hereP_push p p { op := 10 } (exprP x p ps)
    have g2 := exprP_here y p p (pushP p { op := 10 } (exprP x p ps))
    have g3 := hereP_push p p { op := 9 } (exprP y p (pushP p { op := 10 } (exprP x p ps)))
    rw [if_pos ⟨rfl, hp1⟩] at g1
    omega
  obtain ⟨q4, hq4, hl4⟩ := hg4
  obtain ⟨o4, he4, ho4⟩ := hU4.at hq4 (by omega)
  simp only [decide_true, decide_false, gwL, gwB, gwD, gwE, gwS, gwTT, gwZ, initG, Nat.reduceEqDiff, ↓reduceIte, Nat.reduceAdd, Nat.reduceLT, Nat.reduceLeDiff, List.map_cons, List.map_nil, builtS, builtinV, pureR, binV, sliceV, pickV, evO, Env.look, find, V.ofConst, resV, resOne, tupV, loadV, fillV, buildV, mkIface, litM, litS, litR, litRows, List.reverse_cons, List.reverse_nil, Nat.reduceMul, appS, memA, appendV, rowsOf, V.cells, TI.sized, TI.known, TI.agg, anL, List.length_cons, List.length_nil, List.append_nil, List.cons_append, List.nil_append, List.drop_succ_cons, List.drop_zero, List.drop_nil, List.take_succ_cons, List.take_zero, List.take_nil, List.getElem?_cons_zero, List.getElem?_cons_succ, List.all_cons, List.all_nil, List.replicate_succ, List.replicate_zero, List.set_cons_zero, List.set_cons_succ, eq_self, true_or, ne_eq, not_false_eq_true, Nat.reduceEqDiff]
  refine vdraw TT_ok TT_mixed [0, 0, 0, 1, 0, 1, 0, 1, 0, 0, 0, 1, 1, 0, 2] (by kernel_rfl) ?_
  have hg : (prRows es4 (pushP p { op := 9 } (exprP y p (pushP p { op := 10 } (exprP x p ps))))).getD p [] = prRow (some o4) q4 := getD_at (prRows_get he4 hq4)
  simp only [decide_true, decide_false, gwL, gwB, gwD, gwE, gwS, gwTT, gwZ, initG, Nat.reduceEqDiff, ↓reduceIte, Nat.reduceAdd, Nat.reduceLT, Nat.reduceLeDiff, List.map_cons, List.map_nil, builtS, builtinV, pureR, binV, sliceV, pickV, evO, Env.look, find, V.ofConst, resV, resOne, tupV, loadV, fillV, buildV, mkIface, litM, litS, litR, litRows, List.reverse_cons, List.reverse_nil, Nat.reduceMul, appS, memA, appendV, rowsOf, V.cells, TI.sized, TI.known, TI.agg, anL, List.length_cons, List.length_nil, List.append_nil, List.cons_append, List.nil_append, List.drop_succ_cons, List.drop_zero, List.drop_nil, List.take_succ_cons, List.take_zero, List.take_nil, List.getElem?_cons_zero, List.getElem?_cons_succ, List.all_cons, List.all_nil, List.replicate_succ, List.replicate_zero, List.set_cons_zero, List.set_cons_succ, eq_self, true_or, ne_eq, not_false_eq_true, Nat.reduceEqDiff, hU4.box, hU4.arr, hg, prRow, codeV, prRows_len hU4.len, Int.ofNat_lt.mpr hp4]
  refine ⟨hp4, eK_still (fun _ => c_here _ b P es4 _ hU4 p _ _ he4 hq4) (wkL_refl _) ?_⟩
  simp only [decide_true, decide_false, gwL, gwB, gwD, gwE, gwS, gwTT, gwZ, initG, Nat.reduceEqDiff, ↓reduceIte, Nat.reduceAdd, Nat.reduceLT, Nat.reduceLeDiff, List.map_cons, List.map_nil, builtS, builtinV, pureR, binV, sliceV, pickV, evO, Env.look, find, V.ofConst, resV, resOne, tupV, loadV, fillV, buildV, mkIface, litM, litS, litR, litRows, List.reverse_cons, List.reverse_nil, Nat.reduceMul, appS, memA, appendV, rowsOf, V.cells, TI.sized, TI.known, TI.agg, anL, List.length_cons, List.length_nil, List.append_nil, List.cons_append, List.nil_append, List.drop_succ_cons, List.drop_zero, List.drop_nil, List.take_succ_cons, List.take_zero, List.take_nil, List.getElem?_cons_zero, List.getElem?_cons_succ, List.all_cons, List.all_nil, List.replicate_succ, List.replicate_zero, List.set_cons_zero, List.set_cons_succ, eq_self, true_or, ne_eq, not_false_eq_true, Nat.reduceEqDiff, hU4.box, hU4.arr, ho4, hg, prRow, codeV, prRows_len hU4.len, Int.ofNat_lt.mpr hp4, List.length_map, encD_drop_app]
  obtain ⟨hU5, hF5⟩ := hU4.patch hq4 he4 hl4 q4.code.length (hereP p (pushP p { op := 9 } (exprP y p (pushP p { op := 10 } (exprP x p ps))))) (by rw [hereP_of hq4])
  have hp5 : p < (patchP p (hereP p (exprP x p ps)) (hereP p (pushP p { op := 9 } (exprP y p (pushP p { op := 10 } (exprP x p ps))))) (pushP p { op := 9 } (exprP y p (pushP p { op := 10 } (exprP x p ps))))).length := by rw [patchP_len]; exact hp4
  have ht5 := patchP_tot (pushP p { op := 9 } (exprP y p (pushP p { op := 10 } (exprP x p ps)))) p (hereP p (exprP x p ps)) (hereP p (pushP p { op := 9 } (exprP y p (pushP p { op := 10 } (exprP x p ps)))))
  refine ⟨by omega, hl4, by decide, ?_⟩
  refine useQ (ihz _ b P es4 _ p hU5 hp5 (by omega) (by rw [patchP_len, pushP_len]; have := exprP_top x p ps; have := exprP_top y p (pushP p { op := 10 } (exprP x p ps)); rw [pushP_len] at this; omega)) (wkL_refl _) (by rintro v s' ⟨h, _⟩; cases h) ?_
  rintro X s6 hX ⟨hX', es6, hU6, hF6⟩
  cases hX'
  have hp6 := Nat.lt_of_lt_of_le hp5 (exprP_len z p _)
  simp only [decide_true, decide_false, gwL, gwB, gwD, gwE, gwS, gwTT, gwZ, initG, Nat.reduceEqDiff, ↓reduceIte, Nat.reduceAdd, Nat.reduceLT, Nat.reduceLeDiff, List.map_cons, List.map_nil, builtS, builtinV, pureR, binV, sliceV, pickV, evO, Env.look, find, V.ofConst, resV, resOne, tupV, loadV, fillV, buildV, mkIface, litM, litS, litR, litRows, List.reverse_cons, List.reverse_nil, Nat.reduceMul, appS, memA, appendV, rowsOf, V.cells, TI.sized, TI.known, TI.agg, anL, List.length_cons, List.length_nil, List.append_nil, List.cons_append, List.nil_append, List.drop_succ_cons, List.drop_zero, List.drop_nil, List.take_succ_cons, List.take_zero, List.take_nil, List.getElem?_cons_zero, List.getElem?_cons_succ, List.all_cons, List.all_nil, List.replicate_succ, List.replicate_zero, List.set_cons_zero, List.set_cons_succ, eq_self, true_or, ne_eq, not_false_eq_true, Nat.reduceEqDiff]
  have hg6 : ∃ q, (exprP z p (patchP p (hereP p (exprP x p ps)) (hereP p (pushP p { op := 9 } (exprP y p (pushP p { op := 10 } (exprP x p ps))))) (pushP p { op := 9 } (exprP y p (pushP p { op := 10 } (exprP x p ps))))))[p]? = some q ∧ hereP p (exprP y p (pushP p { op := 10 } (exprP x p ps))) < q.code.length := by
    refine hereP_get ?_
    have g3 := hereP_push p p { op := 9 } (exprP y p (pushP p { op := 10 } (exprP x p ps)))
    rw [if_pos ⟨rfl, hp3⟩] at g3
    have g4 := exprP_here z p p (patchP p (hereP p (exprP x p ps)) (hereP p (pushP p { op := 9 } (exprP y p (pushP p { op := 10 } (exprP x p ps))))) (pushP p { op := 9 } (exprP y p (pushP p { op := 10 } (exprP x p ps)))))
    rw [hereP_patch] at g4
    omega
  obtain ⟨q6, hq6, hl6⟩ := hg6
  obtain ⟨o6, he6, ho6⟩ := hU6.at hq6 (by omega)
  refine vdraw TT_ok TT_mixed [0, 0, 0, 1, 0, 1, 0, 1, 0, 0, 0, 1, 1, 0, 2] (by kernel_rfl) ?_
  have hg7 : (prRows es6 (exprP z p (patchP p (hereP p (exprP x p ps)) (hereP p (pushP p { op := 9 } (exprP y p (pushP p { op := 10 } (exprP x p ps))))) (pushP p { op := 9 } (exprP y p (pushP p { op := 10 } (exprP x p ps))))))).getD p [] = prRow (some o6) q6 := getD_at (prRows_get he6 hq6)
  simp only [decide_true, decide_false, gwL, gwB, gwD, gwE, gwS, gwTT, gwZ, initG, Nat.reduceEqDiff, ↓reduceIte, Nat.reduceAdd, Nat.reduceLT, Nat.reduceLeDiff, List.map_cons, List.map_nil, builtS, builtinV, pureR, binV, sliceV, pickV, evO, Env.look, find, V.ofConst, resV, resOne, tupV, loadV, fillV, buildV, mkIface, litM, litS, litR, litRows, List.reverse_cons, List.reverse_nil, Nat.reduceMul, appS, memA, appendV, rowsOf, V.cells, TI.sized, TI.known, TI.agg, anL, List.length_cons, List.length_nil, List.append_nil, List.cons_append, List.nil_append, List.drop_succ_cons, List.drop_zero, List.drop_nil, List.take_succ_cons, List.take_zero, List.take_nil, List.getElem?_cons_zero, List.getElem?_cons_succ, List.all_cons, List.all_nil, List.replicate_succ, List.replicate_zero, List.set_cons_zero, List.set_cons_succ, eq_self, true_or, ne_eq, not_false_eq_true, Nat.reduceEqDiff, hU6.box, hU6.arr, hg7, prRow, codeV, prRows_len hU6.len, Int.ofNat_lt.mpr hp6]
  refine ⟨hp6, eK_still (fun _ => c_here _ b P es6 _ hU6 p _ _ he6 hq6) (wkL_refl _) ?_⟩
  simp only [decide_true, decide_false, gwL, gwB, gwD, gwE, gwS, gwTT, gwZ, initG, Nat.reduceEqDiff, ↓reduceIte, Nat.reduceAdd, Nat.reduceLT, Nat.reduceLeDiff, List.map_cons, List.map_nil, builtS, builtinV, pureR, binV, sliceV, pickV, evO, Env.look, find, V.ofConst, resV, resOne, tupV, loadV, fillV, buildV, mkIface, litM, litS, litR, litRows, List.reverse_cons, List.reverse_nil, Nat.reduceMul, appS, memA, appendV, rowsOf, V.cells, TI.sized, TI.known, TI.agg, anL, List.length_cons, List.length_nil, List.append_nil, List.cons_append, List.nil_append, List.drop_succ_cons, List.drop_zero, List.drop_nil, List.take_succ_cons, List.take_zero, List.take_nil, List.getElem?_cons_zero, List.getElem?_cons_succ, List.all_cons, List.all_nil, List.replicate_succ, List.replicate_zero, List.set_cons_zero, List.set_cons_succ, eq_self, true_or, ne_eq, not_false_eq_true, Nat.reduceEqDiff, hU6.box, hU6.arr, ho6, hg7, prRow, codeV, prRows_len hU6.len, Int.ofNat_lt.mpr hp6, List.length_map, encD_drop_app]
  obtain ⟨hU7, hF7⟩ := hU6.patch hq6 he6 hl6 q6.code.length (hereP p (exprP z p _)) (by rw [hereP_of hq6])
  refine ⟨by omega, hl6, es6, ?_, ?_⟩
  · exact hU7
  · exact (((((((hF1.app).trans hF2).trans hF3).trans hF4).trans hF5).trans hF6).trans hF7)

theorem kids1 {k : Int} {kids : List Core} (h : lenB k kids.length = true) (h1 : k = 8 ∨ k = 10 ∨ k = 11 ∨ k = 13) : ∃ a, kids = [a] := by
  have : kids.length = 1 := by
    rcases h1 with rfl | rfl | rfl | rfl <;> simpa [lenB] using h
  match kids, this with
  | [a], _ => exact ⟨a, rfl⟩
theorem exprP_lambda (ix n : Int) (lb ow : Str) (q : Datum) (kids : List Core) (p : Nat) (ps : List Pr) : exprP (.mk 8 ix n lb ow q kids) p ps = pushP ps.length { op := 15 } (seqP kids ps.length (pushP p { op := 7, a := ps.length } (ps ++ [⟨ix, []⟩]))) := by
  rw [exprP]; simp [oneI]

set_option maxRecDepth 20000 in
set_option maxHeartbeats 8000000 in
theorem c_expr_lambda (ix n : Int) (lb ow : Str) (q : Datum) (x : Core) (ih : Pexpr x) : Pexpr (.mk 8 ix n lb ow q [x]) := by
  intro hok s b P es ps p hU hp ht hl
  rw [okC, okCs] at hok
  obtain ⟨-, -, -, hx, -⟩ := hok
  have hn : oneI (.mk 8 ix n lb ow q [x]) = none := by simp [oneI]
  replace ih := ih hx
  rw [exprP_lambda, seqP, seqP]
  simp only [nodesC, nodesCs] at ht hl
  refine vfunQ TT_ok (an := anL []) (L := [0, 1, 2, 6, 7, 8, 9, 10, 11, 12, 13, 27, 171, 172, 197, 198]) (rs := []) Try.func16 rfl (by kernel_rfl) rfl Try.ntmps16 rfl rfl fun hst ha hf => ?_
  simp only [decide_true, decide_false, gwL, gwB, gwD, gwE, gwS, gwTT, gwZ, initG, Nat.reduceEqDiff, ↓reduceIte, Nat.reduceAdd, Nat.reduceLT, Nat.reduceLeDiff, List.map_cons, List.map_nil, builtS, builtinV, pureR, binV, sliceV, pickV, evO, Env.look, find, V.ofConst, resV, resOne, tupV, loadV, fillV, buildV, mkIface, litM, litS, litR, litRows, List.reverse_cons, List.reverse_nil, Nat.reduceMul, appS, memA, appendV, rowsOf, V.cells, TI.sized, TI.known, TI.agg, anL, List.length_cons, List.length_nil, List.append_nil, List.cons_append, List.nil_append, List.drop_succ_cons, List.drop_zero, List.drop_nil, List.take_succ_cons, List.take_zero, List.take_nil, List.getElem?_cons_zero, List.getElem?_cons_succ, List.all_cons, List.all_nil, List.replicate_succ, List.replicate_zero, List.set_cons_zero, List.set_cons_succ, eq_self, true_or, ne_eq, not_false_eq_true, Nat.reduceEqDiff]
  refine (c_one (.mk 8 ix n lb ow q [x]) (fun h => by omega) _).use (wkL_refl _) fun _ => ?_
  simp only [encC_mk]
  have hU0 := hU.app [Ent.box (encI noI)]
  simp only [decide_true, decide_false, gwL, gwB, gwD, gwE, gwS, gwTT, gwZ, initG, Nat.reduceEqDiff, ↓reduceIte, Nat.reduceAdd, Nat.reduceLT, Nat.reduceLeDiff, List.map_cons, List.map_nil, builtS, builtinV, pureR, binV, sliceV, pickV, evO, Env.look, find, V.ofConst, resV, resOne, tupV, loadV, fillV, buildV, mkIface, litM, litS, litR, litRows, List.reverse_cons, List.reverse_nil, Nat.reduceMul, appS, memA, appendV, rowsOf, V.cells, TI.sized, TI.known, TI.agg, anL, List.length_cons, List.length_nil, List.append_nil, List.cons_append, List.nil_append, List.drop_succ_cons, List.drop_zero, List.drop_nil, List.take_succ_cons, List.take_zero, List.take_nil, List.getElem?_cons_zero, List.getElem?_cons_succ, List.all_cons, List.all_nil, List.replicate_succ, List.replicate_zero, List.set_cons_zero, List.set_cons_succ, eq_self, true_or, ne_eq, not_false_eq_true, Nat.reduceEqDiff, hn, Option.getD_none, Option.isSome_none, Int.reduceEq, encD_drop_app, encI_len, hU0.box]
  refine vdraw TT_ok TT_mixed [0, 0, 0, 0, 1, 0, 0, 0, 1, 0, 1, 2, 0, 0, 2] (by kernel_rfl) ?_
  have hbP : P ≠ b := by intro e; subst e; have := hU.box; rw [hU.arr] at this; cases this
  have hbx : ∀ X, ((s ++ [Ent.box (encI noI)]).set P X)[b]? = some (.box [.arr P ps.length]) := fun X => by rw [List.getElem?_set_ne hbP, hU0.box]
  simp only [decide_true, decide_false, gwL, gwB, gwD, gwE, gwS, gwTT, gwZ, initG, Nat.reduceEqDiff, ↓reduceIte, Nat.reduceAdd, Nat.reduceLT, Nat.reduceLeDiff, List.map_cons, List.map_nil, builtS, builtinV, pureR, binV, sliceV, pickV, evO, Env.look, find, V.ofConst, resV, resOne, tupV, loadV, fillV, buildV, mkIface, litM, litS, litR, litRows, List.reverse_cons, List.reverse_nil, Nat.reduceMul, appS, memA, appendV, rowsOf, V.cells, TI.sized, TI.known, TI.agg, anL, List.length_cons, List.length_nil, List.append_nil, List.cons_append, List.nil_append, List.drop_succ_cons, List.drop_zero, List.drop_nil, List.take_succ_cons, List.take_zero, List.take_nil, List.getElem?_cons_zero, List.getElem?_cons_succ, List.all_cons, List.all_nil, List.replicate_succ, List.replicate_zero, List.set_cons_zero, List.set_cons_succ, eq_self, true_or, ne_eq, not_false_eq_true, Nat.reduceEqDiff, encD_drop_app, hU0.box, hU0.arr, prRows_len hU0.len, hbx]
  obtain ⟨hU1, hF1⟩ := hU0.more ix
  have hp1 : p < (ps ++ [(⟨ix, []⟩ : Pr)]).length := by simp; omega
  have ht1 : tot (ps ++ [(⟨ix, []⟩ : Pr)]) = tot ps := by simp [tot_app, tot]
  refine ⟨by omega, ?_⟩
  refine useQ (c_emitP _ b P _ _ hU1 p hp1 { op := 7, a := ps.length } (Nat.le_trans (hereP_tot _ p) (by omega))) (wk_emit (wk_ins ..)) (by rintro v s' ⟨h, _⟩; cases h) ?_
  rintro X s2 hX ⟨hX', es2, hU2, hF2⟩
  cases hX'
  have ht2 := pushP_tot (ps ++ [(⟨ix, []⟩ : Pr)]) p { op := 7, a := ps.length }
  have hp2 : ps.length < (pushP p { op := 7, a := ps.length } (ps ++ [(⟨ix, []⟩ : Pr)])).length := by rw [pushP_len]; simp
  simp only [decide_true, decide_false, gwL, gwB, gwD, gwE, gwS, gwTT, gwZ, initG, Nat.reduceEqDiff, ↓reduceIte, Nat.reduceAdd, Nat.reduceLT, Nat.reduceLeDiff, List.map_cons, List.map_nil, builtS, builtinV, pureR, binV, sliceV, pickV, evO, Env.look, find, V.ofConst, resV, resOne, tupV, loadV, fillV, buildV, mkIface, litM, litS, litR, litRows, List.reverse_cons, List.reverse_nil, Nat.reduceMul, appS, memA, appendV, rowsOf, V.cells, TI.sized, TI.known, TI.agg, anL, List.length_cons, List.length_nil, List.append_nil, List.cons_append, List.nil_append, List.drop_succ_cons, List.drop_zero, List.drop_nil, List.take_succ_cons, List.take_zero, List.take_nil, List.getElem?_cons_zero, List.getElem?_cons_succ, List.all_cons, List.all_nil, List.replicate_succ, List.replicate_zero, List.set_cons_zero, List.set_cons_succ, eq_self, true_or, ne_eq, not_false_eq_true, Nat.reduceEqDiff, encD_drop_app]
  refine ⟨by decide, ?_⟩
  refine useQ (ih _ b P es2 _ ps.length hU2 hp2 (by omega) (by rw [pushP_len, List.length_append, List.length_cons, List.length_nil]; omega)) (wkL_refl _) (by rintro v s' ⟨h, _⟩; cases h) ?_
  rintro X s3 hX ⟨hX', es3, hU3, hF3⟩
  cases hX'
  have ht3 := exprP_tot x ps.length (pushP p { op := 7, a := ps.length } (ps ++ [(⟨ix, []⟩ : Pr)]))
  have hp3 := Nat.lt_of_lt_of_le hp2 (exprP_len x ps.length _)
  simp only [decide_true, decide_false, gwL, gwB, gwD, gwE, gwS, gwTT, gwZ, initG, Nat.reduceEqDiff, ↓reduceIte, Nat.reduceAdd, Nat.reduceLT, Nat.reduceLeDiff, List.map_cons, List.map_nil, builtS, builtinV, pureR, binV, sliceV, pickV, evO, Env.look, find, V.ofConst, resV, resOne, tupV, loadV, fillV, buildV, mkIface, litM, litS, litR, litRows, List.reverse_cons, List.reverse_nil, Nat.reduceMul, appS, memA, appendV, rowsOf, V.cells, TI.sized, TI.known, TI.agg, anL, List.length_cons, List.length_nil, List.append_nil, List.cons_append, List.nil_append, List.drop_succ_cons, List.drop_zero, List.drop_nil, List.take_succ_cons, List.take_zero, List.take_nil, List.getElem?_cons_zero, List.getElem?_cons_succ, List.all_cons, List.all_nil, List.replicate_succ, List.replicate_zero, List.set_cons_zero, List.set_cons_succ, eq_self, true_or, ne_eq, not_false_eq_true, Nat.reduceEqDiff]
  refine useQ (c_emitP _ b P es3 _ hU3 ps.length hp3 { op := 15 } (Nat.le_trans (hereP_tot _ _) (by omega))) (wk_emit (wk_ins ..)) (by rintro v s' ⟨h, _⟩; cases h) ?_
  rintro X s4 hX ⟨hX', es4, hU4, hF4⟩
  cases hX'
  simp only [decide_true, decide_false, gwL, gwB, gwD, gwE, gwS, gwTT, gwZ, initG, Nat.reduceEqDiff, ↓reduceIte, Nat.reduceAdd, Nat.reduceLT, Nat.reduceLeDiff, List.map_cons, List.map_nil, builtS, builtinV, pureR, binV, sliceV, pickV, evO, Env.look, find, V.ofConst, resV, resOne, tupV, loadV, fillV, buildV, mkIface, litM, litS, litR, litRows, List.reverse_cons, List.reverse_nil, Nat.reduceMul, appS, memA, appendV, rowsOf, V.cells, TI.sized, TI.known, TI.agg, anL, List.length_cons, List.length_nil, List.append_nil, List.cons_append, List.nil_append, List.drop_succ_cons, List.drop_zero, List.drop_nil, List.take_succ_cons, List.take_zero, List.take_nil, List.getElem?_cons_zero, List.getElem?_cons_succ, List.all_cons, List.all_nil, List.replicate_succ, List.replicate_zero, List.set_cons_zero, List.set_cons_succ, eq_self, true_or, ne_eq, not_false_eq_true, Nat.reduceEqDiff]
  exact ⟨es4, hU4, ((hF1.app.trans hF2).trans hF3).trans hF4⟩

theorem exprP_set (k ix n : Int) (lb ow : Str) (q : Datum) (kids : List Core) (p : Nat) (ps : List Pr) (h : k = 10 ∨ k = 11 ∨ k = 13) : exprP (.mk k ix n lb ow q kids) p ps = pushP p (bif decide (k = 10) then { op := 11, a := ix } else bif decide (k = 13) then { op := 13, lib := lb, own := ow } else { op := 12, lib := lb, own := ow }) (seqP kids p ps) := by
  rw [exprP]
  rcases h with rfl | rfl | rfl <;> simp [oneI]

set_option maxRecDepth 20000 in
set_option maxHeartbeats 8000000 in
theorem c_expr_set (k ix n : Int) (lb ow : Str) (q : Datum) (x : Core) (hk : k = 10 ∨ k = 11 ∨ k = 13) (ih : Pexpr x) : Pexpr (.mk k ix n lb ow q [x]) := by
  intro hok s b P es ps p hU hp ht hl
  rw [okC, okCs] at hok
  obtain ⟨-, -, -, hx, -⟩ := hok
  have hn : oneI (.mk k ix n lb ow q [x]) = none := by rcases hk with rfl | rfl | rfl <;> simp [oneI]
  replace ih := ih hx
  rw [exprP_set _ _ _ _ _ _ _ _ _ hk, seqP, seqP]
  simp only [nodesC, nodesCs] at ht hl
  refine vfunQ TT_ok (an := anL []) (L := [0, 1, 2, 6, 7, 8, 9, 10, 11, 12, 13, 27, 171, 172, 197, 198]) (rs := []) Try.func16 rfl (by kernel_rfl) rfl Try.ntmps16 rfl rfl fun hst ha hf => ?_
  simp only [decide_true, decide_false, gwL, gwB, gwD, gwE, gwS, gwTT, gwZ, initG, Nat.reduceEqDiff, ↓reduceIte, Nat.reduceAdd, Nat.reduceLT, Nat.reduceLeDiff, List.map_cons, List.map_nil, builtS, builtinV, pureR, binV, sliceV, pickV, evO, Env.look, find, V.ofConst, resV, resOne, tupV, loadV, fillV, buildV, mkIface, litM, litS, litR, litRows, List.reverse_cons, List.reverse_nil, Nat.reduceMul, appS, memA, appendV, rowsOf, V.cells, TI.sized, TI.known, TI.agg, anL, List.length_cons, List.length_nil, List.append_nil, List.cons_append, List.nil_append, List.drop_succ_cons, List.drop_zero, List.drop_nil, List.take_succ_cons, List.take_zero, List.take_nil, List.getElem?_cons_zero, List.getElem?_cons_succ, List.all_cons, List.all_nil, List.replicate_succ, List.replicate_zero, List.set_cons_zero, List.set_cons_succ, eq_self, true_or, ne_eq, not_false_eq_true, Nat.reduceEqDiff]
  refine (c_one (.mk k ix n lb ow q [x]) (fun h => by omega) _).use (wkL_refl _) fun _ => ?_
  simp only [encC_mk]
  have h7 : decide (k = 7) = false := decide_eq_false (by omega)
  have h8 : decide (k = 8) = false := decide_eq_false (by omega)
  have h9 : decide (k = 9) = false := decide_eq_false (by omega)
  have h12 : decide (k = 12) = false := decide_eq_false (by omega)
  have ht1 := exprP_tot x p ps
  have hp1 := Nat.lt_of_lt_of_le hp (exprP_len x p ps)
  simp only [decide_true, decide_false, gwL, gwB, gwD, gwE, gwS, gwTT, gwZ, initG, Nat.reduceEqDiff, ↓reduceIte, Nat.reduceAdd, Nat.reduceLT, Nat.reduceLeDiff, List.map_cons, List.map_nil, builtS, builtinV, pureR, binV, sliceV, pickV, evO, Env.look, find, V.ofConst, resV, resOne, tupV, loadV, fillV, buildV, mkIface, litM, litS, litR, litRows, List.reverse_cons, List.reverse_nil, Nat.reduceMul, appS, memA, appendV, rowsOf, V.cells, TI.sized, TI.known, TI.agg, anL, List.length_cons, List.length_nil, List.append_nil, List.cons_append, List.nil_append, List.drop_succ_cons, List.drop_zero, List.drop_nil, List.take_succ_cons, List.take_zero, List.take_nil, List.getElem?_cons_zero, List.getElem?_cons_succ, List.all_cons, List.all_nil, List.replicate_succ, List.replicate_zero, List.set_cons_zero, List.set_cons_succ, eq_self, true_or, ne_eq, not_false_eq_true, Nat.reduceEqDiff, hn, Option.getD_none, Option.isSome_none, h7, h8, h9, h12, encD_drop_app, encI_len]
  refine ⟨by decide, ?_⟩
  refine useQ (ih _ b P es _ p (hU.app _) hp (by omega) (by omega)) (wkL_refl _) (by rintro v s' ⟨h, _⟩; cases h) ?_
  rintro X s1 hX ⟨hX', es1, hU1, hF1⟩
  cases hX'
  rcases hk with rfl | rfl | rfl
  · simp only [decide_true, decide_false, gwL, gwB, gwD, gwE, gwS, gwTT, gwZ, initG, Nat.reduceEqDiff, ↓reduceIte, Nat.reduceAdd, Nat.reduceLT, Nat.reduceLeDiff, List.map_cons, List.map_nil, builtS, builtinV, pureR, binV, sliceV, pickV, evO, Env.look, find, V.ofConst, resV, resOne, tupV, loadV, fillV, buildV, mkIface, litM, litS, litR, litRows, List.reverse_cons, List.reverse_nil, Nat.reduceMul, appS, memA, appendV, rowsOf, V.cells, TI.sized, TI.known, TI.agg, anL, List.length_cons, List.length_nil, List.append_nil, List.cons_append, List.nil_append, List.drop_succ_cons, List.drop_zero, List.drop_nil, List.take_succ_cons, List.take_zero, List.take_nil, List.getElem?_cons_zero, List.getElem?_cons_succ, List.all_cons, List.all_nil, List.replicate_succ, List.replicate_zero, List.set_cons_zero, List.set_cons_succ, eq_self, true_or, ne_eq, not_false_eq_true, Nat.reduceEqDiff, Int.reduceEq, Bool.not_true, Bool.not_false]
    refine useQ (c_emitP _ b P es1 _ (hU1.app _) p hp1 { op := 11, a := ix } (Nat.le_trans (hereP_tot _ _) (by omega))) (wk_emit (wk_ins ..)) (by rintro v s' ⟨h, _⟩; cases h) ?_
    rintro X s4 hX ⟨hX', es4, hU4, hF4⟩
    cases hX'
    simp only [decide_true, decide_false, gwL, gwB, gwD, gwE, gwS, gwTT, gwZ, initG, Nat.reduceEqDiff, ↓reduceIte, Nat.reduceAdd, Nat.reduceLT, Nat.reduceLeDiff, List.map_cons, List.map_nil, builtS, builtinV, pureR, binV, sliceV, pickV, evO, Env.look, find, V.ofConst, resV, resOne, tupV, loadV, fillV, buildV, mkIface, litM, litS, litR, litRows, List.reverse_cons, List.reverse_nil, Nat.reduceMul, appS, memA, appendV, rowsOf, V.cells, TI.sized, TI.known, TI.agg, anL, List.length_cons, List.length_nil, List.append_nil, List.cons_append, List.nil_append, List.drop_succ_cons, List.drop_zero, List.drop_nil, List.take_succ_cons, List.take_zero, List.take_nil, List.getElem?_cons_zero, List.getElem?_cons_succ, List.all_cons, List.all_nil, List.replicate_succ, List.replicate_zero, List.set_cons_zero, List.set_cons_succ, eq_self, true_or, ne_eq, not_false_eq_true, Nat.reduceEqDiff]
    exact ⟨es4, hU4, hF1.app.trans hF4.app⟩
  · simp only [decide_true, decide_false, gwL, gwB, gwD, gwE, gwS, gwTT, gwZ, initG, Nat.reduceEqDiff, ↓reduceIte, Nat.reduceAdd, Nat.reduceLT, Nat.reduceLeDiff, List.map_cons, List.map_nil, builtS, builtinV, pureR, binV, sliceV, pickV, evO, Env.look, find, V.ofConst, resV, resOne, tupV, loadV, fillV, buildV, mkIface, litM, litS, litR, litRows, List.reverse_cons, List.reverse_nil, Nat.reduceMul, appS, memA, appendV, rowsOf, V.cells, TI.sized, TI.known, TI.agg, anL, List.length_cons, List.length_nil, List.append_nil, List.cons_append, List.nil_append, List.drop_succ_cons, List.drop_zero, List.drop_nil, List.take_succ_cons, List.take_zero, List.take_nil, List.getElem?_cons_zero, List.getElem?_cons_succ, List.all_cons, List.all_nil, List.replicate_succ, List.replicate_zero, List.set_cons_zero, List.set_cons_succ, eq_self, true_or, ne_eq, not_false_eq_true, Nat.reduceEqDiff, Int.reduceEq, Bool.not_true, Bool.not_false]
    refine vdraw TT_ok TT_mixed [0, 0, 0, 1, 0, 0, 0, 1, 0, 2] (by kernel_rfl) ?_
    simp only [decide_true, decide_false, gwL, gwB, gwD, gwE, gwS, gwTT, gwZ, initG, Nat.reduceEqDiff, ↓reduceIte, Nat.reduceAdd, Nat.reduceLT, Nat.reduceLeDiff, List.map_cons, List.map_nil, builtS, builtinV, pureR, binV, sliceV, pickV, evO, Env.look, find, V.ofConst, resV, resOne, tupV, loadV, fillV, buildV, mkIface, litM, litS, litR, litRows, List.reverse_cons, List.reverse_nil, Nat.reduceMul, appS, memA, appendV, rowsOf, V.cells, TI.sized, TI.known, TI.agg, anL, List.length_cons, List.length_nil, List.append_nil, List.cons_append, List.nil_append, List.drop_succ_cons, List.drop_zero, List.drop_nil, List.take_succ_cons, List.take_zero, List.take_nil, List.getElem?_cons_zero, List.getElem?_cons_succ, List.all_cons, List.all_nil, List.replicate_succ, List.replicate_zero, List.set_cons_zero, List.set_cons_succ, eq_self, true_or, ne_eq, not_false_eq_true, Nat.reduceEqDiff, Int.reduceEq, Bool.not_true, Bool.not_false]
    refine useQ (c_emitP _ b P es1 _ (hU1.app _) p hp1 { op := 12, lib := lb, own := ow } (Nat.le_trans (hereP_tot _ _) (by omega))) (wk_emit (wk_ins ..)) (by rintro v s' ⟨h, _⟩; cases h) ?_
    rintro X s4 hX ⟨hX', es4, hU4, hF4⟩
    cases hX'
    simp only [decide_true, decide_false, gwL, gwB, gwD, gwE, gwS, gwTT, gwZ, initG, Nat.reduceEqDiff, ↓reduceIte, Nat.reduceAdd, Nat.reduceLT, Nat.reduceLeDiff, List.map_cons, List.map_nil, builtS, builtinV, pureR, binV, sliceV, pickV, evO, Env.look, find, V.ofConst, resV, resOne, tupV, loadV, fillV, buildV, mkIface, litM, litS, litR, litRows, List.reverse_cons, List.reverse_nil, Nat.reduceMul, appS, memA, appendV, rowsOf, V.cells, TI.sized, TI.known, TI.agg, anL, List.length_cons, List.length_nil, List.append_nil, List.cons_append, List.nil_append, List.drop_succ_cons, List.drop_zero, List.drop_nil, List.take_succ_cons, List.take_zero, List.take_nil, List.getElem?_cons_zero, List.getElem?_cons_succ, List.all_cons, List.all_nil, List.replicate_succ, List.replicate_zero, List.set_cons_zero, List.set_cons_succ, eq_self, true_or, ne_eq, not_false_eq_true, Nat.reduceEqDiff]
    exact ⟨es4, hU4, hF1.app.trans hF4.app⟩
  · simp only [decide_true, decide_false, gwL, gwB, gwD, gwE, gwS, gwTT, gwZ, initG, Nat.reduceEqDiff, ↓reduceIte, Nat.reduceAdd, Nat.reduceLT, Nat.reduceLeDiff, List.map_cons, List.map_nil, builtS, builtinV, pureR, binV, sliceV, pickV, evO, Env.look, find, V.ofConst, resV, resOne, tupV, loadV, fillV, buildV, mkIface, litM, litS, litR, litRows, List.reverse_cons, List.reverse_nil, Nat.reduceMul, appS, memA, appendV, rowsOf, V.cells, TI.sized, TI.known, TI.agg, anL, List.length_cons, List.length_nil, List.append_nil, List.cons_append, List.nil_append, List.drop_succ_cons, List.drop_zero, List.drop_nil, List.take_succ_cons, List.take_zero, List.take_nil, List.getElem?_cons_zero, List.getElem?_cons_succ, List.all_cons, List.all_nil, List.replicate_succ, List.replicate_zero, List.set_cons_zero, List.set_cons_succ, eq_self, true_or, ne_eq, not_false_eq_true, Nat.reduceEqDiff, Int.reduceEq, Bool.not_true, Bool.not_false]
    refine vdraw TT_ok TT_mixed [0, 0, 0, 1, 0, 0, 0, 1, 0, 2] (by kernel_rfl) ?_
    simp only [decide_true, decide_false, gwL, gwB, gwD, gwE, gwS, gwTT, gwZ, initG, Nat.reduceEqDiff, ↓reduceIte, Nat.reduceAdd, Nat.reduceLT, Nat.reduceLeDiff, List.map_cons, List.map_nil, builtS, builtinV, pureR, binV, sliceV, pickV, evO, Env.look, find, V.ofConst, resV, resOne, tupV, loadV, fillV, buildV, mkIface, litM, litS, litR, litRows, List.reverse_cons, List.reverse_nil, Nat.reduceMul, appS, memA, appendV, rowsOf, V.cells, TI.sized, TI.known, TI.agg, anL, List.length_cons, List.length_nil, List.append_nil, List.cons_append, List.nil_append, List.drop_succ_cons, List.drop_zero, List.drop_nil, List.take_succ_cons, List.take_zero, List.take_nil, List.getElem?_cons_zero, List.getElem?_cons_succ, List.all_cons, List.all_nil, List.replicate_succ, List.replicate_zero, List.set_cons_zero, List.set_cons_succ, eq_self, true_or, ne_eq, not_false_eq_true, Nat.reduceEqDiff, Int.reduceEq, Bool.not_true, Bool.not_false]
    refine useQ (c_emitP _ b P es1 _ (hU1.app _) p hp1 { op := 13, lib := lb, own := ow } (Nat.le_trans (hereP_tot _ _) (by omega))) (wk_emit (wk_ins ..)) (by rintro v s' ⟨h, _⟩; cases h) ?_
    rintro X s4 hX ⟨hX', es4, hU4, hF4⟩
    cases hX'
    simp only [decide_true, decide_false, gwL, gwB, gwD, gwE, gwS, gwTT, gwZ, initG, Nat.reduceEqDiff, ↓reduceIte, Nat.reduceAdd, Nat.reduceLT, Nat.reduceLeDiff, List.map_cons, List.map_nil, builtS, builtinV, pureR, binV, sliceV, pickV, evO, Env.look, find, V.ofConst, resV, resOne, tupV, loadV, fillV, buildV, mkIface, litM, litS, litR, litRows, List.reverse_cons, List.reverse_nil, Nat.reduceMul, appS, memA, appendV, rowsOf, V.cells, TI.sized, TI.known, TI.agg, anL, List.length_cons, List.length_nil, List.append_nil, List.cons_append, List.nil_append, List.drop_succ_cons, List.drop_zero, List.drop_nil, List.take_succ_cons, List.take_zero, List.take_nil, List.getElem?_cons_zero, List.getElem?_cons_succ, List.all_cons, List.all_nil, List.replicate_succ, List.replicate_zero, List.set_cons_zero, List.set_cons_succ, eq_self, true_or, ne_eq, not_false_eq_true, Nat.reduceEqDiff]
    exact ⟨es4, hU4, hF1.app.trans hF4.app⟩

theorem seqP_snoc : ∀ (l : List Core) (c : Core) (p : Nat) (ps : List Pr), seqP (l ++ [c]) p ps = exprP c p (seqP l p ps)
  | [], c, p, ps => by simp only [List.nil_append, seqP]
  | d :: l, c, p, ps => by simp only [List.cons_append, seqP, seqP_snoc l c p]
theorem popsP_snoc : ∀ (l : List Core) (f : Bool) (c : Core) (p : Nat) (ps : List Pr), popsP (l ++ [c]) f p ps = exprP c p (bif f && l.isEmpty then popsP l f p ps else pushP p { op := 14 } (popsP l f p ps))
  | [], f, c, p, ps => by cases f <;> simp only [List.nil_append, popsP, List.isEmpty_nil, Bool.and_true, cond_true, cond_false]
  | d :: l, f, c, p, ps => by simp only [List.cons_append, popsP, popsP_snoc l false c p, Bool.false_and, List.isEmpty_cons, Bool.and_false, cond_false]
theorem nodesCs_app : ∀ (a b : List Core), nodesCs (a ++ b) = nodesCs a + nodesCs b
  | [], b => by simp [nodesCs]
  | x :: a, b => by simp only [List.cons_append, nodesCs, nodesCs_app a b]; omega
theorem nodesCs_take {l : List Core} {i : Nat} {a : Core} (h : l[i]? = some a) : nodesCs (l.take i) + nodesC a ≤ nodesCs l := by
  have h1 : l = l.take i ++ (a :: l.drop (i + 1)) := by
    have hi := (List.getElem?_eq_some_iff.1 h).1
    have e := (List.getElem?_eq_some_iff.1 h).2
    rw [← e, List.getElem_cons_drop, List.take_append_drop]
  have h2 := congrArg nodesCs h1
  rw [nodesCs_app, nodesCs] at h2
  omega
theorem exprP_call (ix n : Int) (lb ow : Str) (q : Datum) (kids : List Core) (p : Nat) (ps : List Pr) : exprP (.mk 9 ix n lb ow q kids) p ps = pushP p { op := 8, a := (kids.length : Int) - 1 } (seqP kids p ps) := by
  rw [exprP]; simp [oneI]
theorem exprP_seq (ix n : Int) (lb ow : Str) (q : Datum) (kids : List Core) (p : Nat) (ps : List Pr) : exprP (.mk 12 ix n lb ow q kids) p ps = popsP kids true p ps := by
  rw [exprP]; simp [oneI]

set_option maxRecDepth 20000 in
set_option maxHeartbeats 8000000 in
theorem c_expr_call (ix n : Int) (lb ow : Str) (q : Datum) (kids : List Core) (ih : ∀ d ∈ kids, Pexpr d) : Pexpr (.mk 9 ix n lb ow q kids) := by
  intro hok s b P es ps p hU hp ht hl
  rw [okC] at hok
  obtain ⟨-, -, -, hks⟩ := hok
  have hn : oneI (.mk 9 ix n lb ow q kids) = none := by simp [oneI]
  rw [exprP_call]
  simp only [nodesC] at ht hl
  have hkl := nodesCs_len kids
  refine vfunQ TT_ok (an := anL []) (L := [0, 1, 2, 6, 7, 8, 9, 10, 11, 12, 13, 27, 171, 172, 197, 198]) (rs := []) Try.func16 rfl (by kernel_rfl) rfl Try.ntmps16 rfl rfl fun hst ha hf => ?_
  simp only [decide_true, decide_false, gwL, gwB, gwD, gwE, gwS, gwTT, gwZ, initG, Nat.reduceEqDiff, ↓reduceIte, Nat.reduceAdd, Nat.reduceLT, Nat.reduceLeDiff, List.map_cons, List.map_nil, builtS, builtinV, pureR, binV, sliceV, pickV, evO, Env.look, find, V.ofConst, resV, resOne, tupV, loadV, fillV, buildV, mkIface, litM, litS, litR, litRows, List.reverse_cons, List.reverse_nil, Nat.reduceMul, appS, memA, appendV, rowsOf, V.cells, TI.sized, TI.known, TI.agg, anL, List.length_cons, List.length_nil, List.append_nil, List.cons_append, List.nil_append, List.drop_succ_cons, List.drop_zero, List.drop_nil, List.take_succ_cons, List.take_zero, List.take_nil, List.getElem?_cons_zero, List.getElem?_cons_succ, List.all_cons, List.all_nil, List.replicate_succ, List.replicate_zero, List.set_cons_zero, List.set_cons_succ, eq_self, true_or, ne_eq, not_false_eq_true, Nat.reduceEqDiff]
  refine (c_one (.mk 9 ix n lb ow q kids) (fun h => by omega) _).use (wkL_refl _) fun _ => ?_
  simp only [encC_mk]
  simp only [decide_true, decide_false, gwL, gwB, gwD, gwE, gwS, gwTT, gwZ, initG, Nat.reduceEqDiff, ↓reduceIte, Nat.reduceAdd, Nat.reduceLT, Nat.reduceLeDiff, List.map_cons, List.map_nil, builtS, builtinV, pureR, binV, sliceV, pickV, evO, Env.look, find, V.ofConst, resV, resOne, tupV, loadV, fillV, buildV, mkIface, litM, litS, litR, litRows, List.reverse_cons, List.reverse_nil, Nat.reduceMul, appS, memA, appendV, rowsOf, V.cells, TI.sized, TI.known, TI.agg, anL, List.length_cons, List.length_nil, List.append_nil, List.cons_append, List.nil_append, List.drop_succ_cons, List.drop_zero, List.drop_nil, List.take_succ_cons, List.take_zero, List.take_nil, List.getElem?_cons_zero, List.getElem?_cons_succ, List.all_cons, List.all_nil, List.replicate_succ, List.replicate_zero, List.set_cons_zero, List.set_cons_succ, eq_self, true_or, ne_eq, not_false_eq_true, Nat.reduceEqDiff, hn, Option.getD_none, Option.isSome_none, Int.reduceEq, encD_drop_app, encI_len, List.length_map]
  refine vfor (σ := Nat × St × List (Option Nat)) [0, 1, 2, 197, 198] (fun x => [(0, true, .ptr b 0), (1, true, .int .i64 p), (2, true, .ref (encC (.mk 9 ix n lb ow q kids))), (197, true, .int .i64 kids.length), (198, true, .int .i64 x.1)]) (fun x => x.2.1) (fun x => kids.length - x.1) (fun x => x.1 ≤ kids.length ∧ US x.2.1 b P x.2.2 (seqP (kids.take x.1) p ps) ∧ Fr (s ++ [Ent.box (encI noI)]) b P es x.2.1 x.2.2) (0, s ++ [Ent.box (encI noI)], es) rfl TT_ok ⟨Nat.zero_le _, hU.app _, Fr.refl ..⟩ (by simp only [encC_mk]; rfl) rfl ?_
  rintro ⟨i, s1, es1⟩ ⟨hi, hU1, hF1⟩
  simp only [encC_mk] at hi hU1 hF1 ⊢
  have ht1 := seqP_tot (kids.take i) p ps
  have hp1 := Nat.lt_of_lt_of_le hp (seqP_len (kids.take i) p ps)
  have hl1 := seqP_top (kids.take i) p ps
  rcases at_or_end kids i hi with ⟨rfl, hd⟩ | ⟨a, hlt, hget, hdr⟩
  · rw [List.take_length] at hU1 ht1 hp1 hl1
    simp only [decide_true, decide_false, gwL, gwB, gwD, gwE, gwS, gwTT, gwZ, initG, Nat.reduceEqDiff, ↓reduceIte, Nat.reduceAdd, Nat.reduceLT, Nat.reduceLeDiff, List.map_cons, List.map_nil, builtS, builtinV, pureR, binV, sliceV, pickV, evO, Env.look, find, V.ofConst, resV, resOne, tupV, loadV, fillV, buildV, mkIface, litM, litS, litR, litRows, List.reverse_cons, List.reverse_nil, Nat.reduceMul, appS, memA, appendV, rowsOf, V.cells, TI.sized, TI.known, TI.agg, anL, List.length_cons, List.length_nil, List.append_nil, List.cons_append, List.nil_append, List.drop_succ_cons, List.drop_zero, List.drop_nil, List.take_succ_cons, List.take_zero, List.take_nil, List.getElem?_cons_zero, List.getElem?_cons_succ, List.all_cons, List.all_nil, List.replicate_succ, List.replicate_zero, List.set_cons_zero, List.set_cons_succ, eq_self, true_or, ne_eq, not_false_eq_true, Nat.reduceEqDiff, lt_no, encD_drop_app, List.length_map, wrap_i64 (show -9223372036854775808 ≤ (kids.length : Int) - 1 by omega) (show (kids.length : Int) - 1 ≤ 9223372036854775807 by omega)]
    refine useQ (c_emitP _ b P es1 _ hU1 p hp1 { op := 8, a := (kids.length : Int) - 1 } (Nat.le_trans (hereP_tot _ _) (by omega))) (wk_emit (wk_ins ..)) (by rintro v s' ⟨h, _⟩; cases h) ?_
    rintro X s4 hX ⟨hX', es4, hU4, hF4⟩
    cases hX'
    simp only [decide_true, decide_false, gwL, gwB, gwD, gwE, gwS, gwTT, gwZ, initG, Nat.reduceEqDiff, ↓reduceIte, Nat.reduceAdd, Nat.reduceLT, Nat.reduceLeDiff, List.map_cons, List.map_nil, builtS, builtinV, pureR, binV, sliceV, pickV, evO, Env.look, find, V.ofConst, resV, resOne, tupV, loadV, fillV, buildV, mkIface, litM, litS, litR, litRows, List.reverse_cons, List.reverse_nil, Nat.reduceMul, appS, memA, appendV, rowsOf, V.cells, TI.sized, TI.known, TI.agg, anL, List.length_cons, List.length_nil, List.append_nil, List.cons_append, List.nil_append, List.drop_succ_cons, List.drop_zero, List.drop_nil, List.take_succ_cons, List.take_zero, List.take_nil, List.getElem?_cons_zero, List.getElem?_cons_succ, List.all_cons, List.all_nil, List.replicate_succ, List.replicate_zero, List.set_cons_zero, List.set_cons_succ, eq_self, true_or, ne_eq, not_false_eq_true, Nat.reduceEqDiff]
    exact ⟨es4, hU4, hF1.app.trans hF4⟩
  · have hnt := nodesCs_take hget
    simp only [decide_true, decide_false, gwL, gwB, gwD, gwE, gwS, gwTT, gwZ, initG, Nat.reduceEqDiff, ↓reduceIte, Nat.reduceAdd, Nat.reduceLT, Nat.reduceLeDiff, List.map_cons, List.map_nil, builtS, builtinV, pureR, binV, sliceV, pickV, evO, Env.look, find, V.ofConst, resV, resOne, tupV, loadV, fillV, buildV, mkIface, litM, litS, litR, litRows, List.reverse_cons, List.reverse_nil, Nat.reduceMul, appS, memA, appendV, rowsOf, V.cells, TI.sized, TI.known, TI.agg, anL, List.length_cons, List.length_nil, List.append_nil, List.cons_append, List.nil_append, List.drop_succ_cons, List.drop_zero, List.drop_nil, List.take_succ_cons, List.take_zero, List.take_nil, List.getElem?_cons_zero, List.getElem?_cons_succ, List.all_cons, List.all_nil, List.replicate_succ, List.replicate_zero, List.set_cons_zero, List.set_cons_succ, eq_self, true_or, ne_eq, not_false_eq_true, Nat.reduceEqDiff, lt_yes hlt, encD_drop_app, List.length_map, getD_map hget, Int.ofNat_lt.mpr hlt]
    refine useQ (ih a (List.mem_of_getElem? hget) (okCs_mem hks (List.mem_of_getElem? hget)) _ b P es1 _ p hU1 hp1 (by omega) (by omega)) (wkL_refl _) (by rintro v s' ⟨h, _⟩; cases h) ?_
    rintro X s2 hX ⟨hX', es2, hU2, hF2⟩
    cases hX'
    simp only [decide_true, decide_false, gwL, gwB, gwD, gwE, gwS, gwTT, gwZ, initG, Nat.reduceEqDiff, ↓reduceIte, Nat.reduceAdd, Nat.reduceLT, Nat.reduceLeDiff, List.map_cons, List.map_nil, builtS, builtinV, pureR, binV, sliceV, pickV, evO, Env.look, find, V.ofConst, resV, resOne, tupV, loadV, fillV, buildV, mkIface, litM, litS, litR, litRows, List.reverse_cons, List.reverse_nil, Nat.reduceMul, appS, memA, appendV, rowsOf, V.cells, TI.sized, TI.known, TI.agg, anL, List.length_cons, List.length_nil, List.append_nil, List.cons_append, List.nil_append, List.drop_succ_cons, List.drop_zero, List.drop_nil, List.take_succ_cons, List.take_zero, List.take_nil, List.getElem?_cons_zero, List.getElem?_cons_succ, List.all_cons, List.all_nil, List.replicate_succ, List.replicate_zero, List.set_cons_zero, List.set_cons_succ, eq_self, true_or, ne_eq, not_false_eq_true, Nat.reduceEqDiff]
    refine ⟨(i + 1, s2, es2), by simp only [next_i64 hlt (show kids.length ≤ 9223372036854775807 by omega)]; rfl, rfl, by simp only; omega, by simp only; omega, ?_, hF1.trans hF2⟩
    simp only
    rw [take_next hget, seqP_snoc]
    exact hU2

set_option maxRecDepth 20000 in
set_option maxHeartbeats 8000000 in
theorem c_expr_seq (ix n : Int) (lb ow : Str) (q : Datum) (kids : List Core) (ih : ∀ d ∈ kids, Pexpr d) : Pexpr (.mk 12 ix n lb ow q kids) := by
  intro hok s b P es ps p hU hp ht hl
  rw [okC] at hok
  obtain ⟨-, -, -, hks⟩ := hok
  have hn : oneI (.mk 12 ix n lb ow q kids) = none := by simp [oneI]
  rw [exprP_seq]
  simp only [nodesC] at ht hl
  have hkl := nodesCs_len kids
  refine vfunQ TT_ok (an := anL []) (L := [0, 1, 2, 6, 7, 8, 9, 10, 11, 12, 13, 27, 171, 172, 197, 198]) (rs := []) Try.func16 rfl (by kernel_rfl) rfl Try.ntmps16 rfl rfl fun hst ha hf => ?_
  simp only [decide_true, decide_false, gwL, gwB, gwD, gwE, gwS, gwTT, gwZ, initG, Nat.reduceEqDiff, ↓reduceIte, Nat.reduceAdd, Nat.reduceLT, Nat.reduceLeDiff, List.map_cons, List.map_nil, builtS, builtinV, pureR, binV, sliceV, pickV, evO, Env.look, find, V.ofConst, resV, resOne, tupV, loadV, fillV, buildV, mkIface, litM, litS, litR, litRows, List.reverse_cons, List.reverse_nil, Nat.reduceMul, appS, memA, appendV, rowsOf, V.cells, TI.sized, TI.known, TI.agg, anL, List.length_cons, List.length_nil, List.append_nil, List.cons_append, List.nil_append, List.drop_succ_cons, List.drop_zero, List.drop_nil, List.take_succ_cons, List.take_zero, List.take_nil, List.getElem?_cons_zero, List.getElem?_cons_succ, List.all_cons, List.all_nil, List.replicate_succ, List.replicate_zero, List.set_cons_zero, List.set_cons_succ, eq_self, true_or, ne_eq, not_false_eq_true, Nat.reduceEqDiff]
  refine (c_one (.mk 12 ix n lb ow q kids) (fun h => by omega) _).use (wkL_refl _) fun _ => ?_
  simp only [encC_mk]
  simp only [decide_true, decide_false, gwL, gwB, gwD, gwE, gwS, gwTT, gwZ, initG, Nat.reduceEqDiff, ↓reduceIte, Nat.reduceAdd, Nat.reduceLT, Nat.reduceLeDiff, List.map_cons, List.map_nil, builtS, builtinV, pureR, binV, sliceV, pickV, evO, Env.look, find, V.ofConst, resV, resOne, tupV, loadV, fillV, buildV, mkIface, litM, litS, litR, litRows, List.reverse_cons, List.reverse_nil, Nat.reduceMul, appS, memA, appendV, rowsOf, V.cells, TI.sized, TI.known, TI.agg, anL, List.length_cons, List.length_nil, List.append_nil, List.cons_append, List.nil_append, List.drop_succ_cons, List.drop_zero, List.drop_nil, List.take_succ_cons, List.take_zero, List.take_nil, List.getElem?_cons_zero, List.getElem?_cons_succ, List.all_cons, List.all_nil, List.replicate_succ, List.replicate_zero, List.set_cons_zero, List.set_cons_succ, eq_self, true_or, ne_eq, not_false_eq_true, Nat.reduceEqDiff, hn, Option.getD_none, Option.isSome_none, Int.reduceEq, encD_drop_app, encI_len, List.length_map]
  refine vfor (σ := Nat × St × List (Option Nat)) [0, 1, 2, 171, 172] (fun x => [(0, true, .ptr b 0), (1, true, .int .i64 p), (2, true, .ref (encC (.mk 12 ix n lb ow q kids))), (171, true, .int .i64 kids.length), (172, true, .int .i64 x.1)]) (fun x => x.2.1) (fun x => kids.length - x.1) (fun x => x.1 ≤ kids.length ∧ US x.2.1 b P x.2.2 (popsP (kids.take x.1) true p ps) ∧ Fr (s ++ [Ent.box (encI noI)]) b P es x.2.1 x.2.2) (0, s ++ [Ent.box (encI noI)], es) rfl TT_ok ⟨Nat.zero_le _, hU.app _, Fr.refl ..⟩ (by simp only [encC_mk]; rfl) rfl ?_
  rintro ⟨i, s1, es1⟩ ⟨hi, hU1, hF1⟩
  simp only [encC_mk] at hi hU1 hF1 ⊢
  have ht1 := popsP_tot (kids.take i) true p ps
  have hp1 := Nat.lt_of_lt_of_le hp (popsP_len (kids.take i) true p ps)
  have hl1 := popsP_top (kids.take i) true p ps
  rcases at_or_end kids i hi with ⟨rfl, hd⟩ | ⟨a, hlt, hget, hdr⟩
  · rw [List.take_length] at hU1 ht1 hp1 hl1
    simp only [decide_true, decide_false, gwL, gwB, gwD, gwE, gwS, gwTT, gwZ, initG, Nat.reduceEqDiff, ↓reduceIte, Nat.reduceAdd, Nat.reduceLT, Nat.reduceLeDiff, List.map_cons, List.map_nil, builtS, builtinV, pureR, binV, sliceV, pickV, evO, Env.look, find, V.ofConst, resV, resOne, tupV, loadV, fillV, buildV, mkIface, litM, litS, litR, litRows, List.reverse_cons, List.reverse_nil, Nat.reduceMul, appS, memA, appendV, rowsOf, V.cells, TI.sized, TI.known, TI.agg, anL, List.length_cons, List.length_nil, List.append_nil, List.cons_append, List.nil_append, List.drop_succ_cons, List.drop_zero, List.drop_nil, List.take_succ_cons, List.take_zero, List.take_nil, List.getElem?_cons_zero, List.getElem?_cons_succ, List.all_cons, List.all_nil, List.replicate_succ, List.replicate_zero, List.set_cons_zero, List.set_cons_succ, eq_self, true_or, ne_eq, not_false_eq_true, Nat.reduceEqDiff, lt_no, encD_drop_app, List.length_map]
    exact ⟨es1, hU1, hF1.app⟩
  · have hnt := nodesCs_take hget
    have hpos := nodesC_pos a
    simp only [decide_true, decide_false, gwL, gwB, gwD, gwE, gwS, gwTT, gwZ, initG, Nat.reduceEqDiff, ↓reduceIte, Nat.reduceAdd, Nat.reduceLT, Nat.reduceLeDiff, List.map_cons, List.map_nil, builtS, builtinV, pureR, binV, sliceV, pickV, evO, Env.look, find, V.ofConst, resV, resOne, tupV, loadV, fillV, buildV, mkIface, litM, litS, litR, litRows, List.reverse_cons, List.reverse_nil, Nat.reduceMul, appS, memA, appendV, rowsOf, V.cells, TI.sized, TI.known, TI.agg, anL, List.length_cons, List.length_nil, List.append_nil, List.cons_append, List.nil_append, List.drop_succ_cons, List.drop_zero, List.drop_nil, List.take_succ_cons, List.take_zero, List.take_nil, List.getElem?_cons_zero, List.getElem?_cons_succ, List.all_cons, List.all_nil, List.replicate_succ, List.replicate_zero, List.set_cons_zero, List.set_cons_succ, eq_self, true_or, ne_eq, not_false_eq_true, Nat.reduceEqDiff, lt_yes hlt, encD_drop_app, List.length_map, getD_map hget, Int.ofNat_lt.mpr hlt]
    refine iK_split (fun h => ?_) (fun h => ?_)
    · have h0 : 0 < i := by simpa using h
      have hem : (kids.take i).isEmpty = false := by
        cases e : kids.take i with
        | nil => have h3 : (kids.take i).length = i := by { rw [List.length_take]; omega }
                 rw [e] at h3; simp at h3; omega
        | cons x r => rfl
      simp only [decide_true, decide_false, gwL, gwB, gwD, gwE, gwS, gwTT, gwZ, initG, Nat.reduceEqDiff, ↓reduceIte, Nat.reduceAdd, Nat.reduceLT, Nat.reduceLeDiff, List.map_cons, List.map_nil, builtS, builtinV, pureR, binV, sliceV, pickV, evO, Env.look, find, V.ofConst, resV, resOne, tupV, loadV, fillV, buildV, mkIface, litM, litS, litR, litRows, List.reverse_cons, List.reverse_nil, Nat.reduceMul, appS, memA, appendV, rowsOf, V.cells, TI.sized, TI.known, TI.agg, anL, List.length_cons, List.length_nil, List.append_nil, List.cons_append, List.nil_append, List.drop_succ_cons, List.drop_zero, List.drop_nil, List.take_succ_cons, List.take_zero, List.take_nil, List.getElem?_cons_zero, List.getElem?_cons_succ, List.all_cons, List.all_nil, List.replicate_succ, List.replicate_zero, List.set_cons_zero, List.set_cons_succ, eq_self, true_or, ne_eq, not_false_eq_true, Nat.reduceEqDiff]
      refine useQ (c_emitP _ b P es1 _ hU1 p hp1 { op := 14 } (Nat.le_trans (hereP_tot _ _) (by omega))) (wk_emit (wk_ins ..)) (by rintro v s' ⟨h, _⟩; cases h) ?_
      rintro X s4 hX ⟨hX', es4, hU4, hF4⟩
      cases hX'
      have ht4 := pushP_tot (popsP (kids.take i) true p ps) p { op := 14 }
      simp only [decide_true, decide_false, gwL, gwB, gwD, gwE, gwS, gwTT, gwZ, initG, Nat.reduceEqDiff, ↓reduceIte, Nat.reduceAdd, Nat.reduceLT, Nat.reduceLeDiff, List.map_cons, List.map_nil, builtS, builtinV, pureR, binV, sliceV, pickV, evO, Env.look, find, V.ofConst, resV, resOne, tupV, loadV, fillV, buildV, mkIface, litM, litS, litR, litRows, List.reverse_cons, List.reverse_nil, Nat.reduceMul, appS, memA, appendV, rowsOf, V.cells, TI.sized, TI.known, TI.agg, anL, List.length_cons, List.length_nil, List.append_nil, List.cons_append, List.nil_append, List.drop_succ_cons, List.drop_zero, List.drop_nil, List.take_succ_cons, List.take_zero, List.take_nil, List.getElem?_cons_zero, List.getElem?_cons_succ, List.all_cons, List.all_nil, List.replicate_succ, List.replicate_zero, List.set_cons_zero, List.set_cons_succ, eq_self, true_or, ne_eq, not_false_eq_true, Nat.reduceEqDiff, lt_yes hlt, encD_drop_app, List.length_map, getD_map hget, Int.ofNat_lt.mpr hlt]
      refine useQ (ih a (List.mem_of_getElem? hget) (okCs_mem hks (List.mem_of_getElem? hget)) _ b P es4 _ p hU4 (by rw [pushP_len]; exact hp1) (by omega) (by rw [pushP_len]; omega)) (wkL_refl _) (by rintro v s' ⟨h, _⟩; cases h) ?_
      rintro X s2 hX ⟨hX', es2, hU2, hF2⟩
      cases hX'
      simp only [decide_true, decide_false, gwL, gwB, gwD, gwE, gwS, gwTT, gwZ, initG, Nat.reduceEqDiff, ↓reduceIte, Nat.reduceAdd, Nat.reduceLT, Nat.reduceLeDiff, List.map_cons, List.map_nil, builtS, builtinV, pureR, binV, sliceV, pickV, evO, Env.look, find, V.ofConst, resV, resOne, tupV, loadV, fillV, buildV, mkIface, litM, litS, litR, litRows, List.reverse_cons, List.reverse_nil, Nat.reduceMul, appS, memA, appendV, rowsOf, V.cells, TI.sized, TI.known, TI.agg, anL, List.length_cons, List.length_nil, List.append_nil, List.cons_append, List.nil_append, List.drop_succ_cons, List.drop_zero, List.drop_nil, List.take_succ_cons, List.take_zero, List.take_nil, List.getElem?_cons_zero, List.getElem?_cons_succ, List.all_cons, List.all_nil, List.replicate_succ, List.replicate_zero, List.set_cons_zero, List.set_cons_succ, eq_self, true_or, ne_eq, not_false_eq_true, Nat.reduceEqDiff]
      refine ⟨(i + 1, s2, es2), by simp only [next_i64 hlt (show kids.length ≤ 9223372036854775807 by omega)]; rfl, rfl, by simp only; omega, by simp only; omega, ?_, (hF1.trans hF4).trans hF2⟩
      simp only
      rw [take_next hget, popsP_snoc, hem]
      exact hU2
    · have h0 : i = 0 := by simpa using h
      subst h0
      simp only [decide_true, decide_false, gwL, gwB, gwD, gwE, gwS, gwTT, gwZ, initG, Nat.reduceEqDiff, ↓reduceIte, Nat.reduceAdd, Nat.reduceLT, Nat.reduceLeDiff, List.map_cons, List.map_nil, builtS, builtinV, pureR, binV, sliceV, pickV, evO, Env.look, find, V.ofConst, resV, resOne, tupV, loadV, fillV, buildV, mkIface, litM, litS, litR, litRows, List.reverse_cons, List.reverse_nil, Nat.reduceMul, appS, memA, appendV, rowsOf, V.cells, TI.sized, TI.known, TI.agg, anL, List.length_cons, List.length_nil, List.append_nil, List.cons_append, List.nil_append, List.drop_succ_cons, List.drop_zero, List.drop_nil, List.take_succ_cons, List.take_zero, List.take_nil, List.getElem?_cons_zero, List.getElem?_cons_succ, List.all_cons, List.all_nil, List.replicate_succ, List.replicate_zero, List.set_cons_zero, List.set_cons_succ, eq_self, true_or, ne_eq, not_false_eq_true, Nat.reduceEqDiff, lt_yes hlt, encD_drop_app, List.length_map, getD_map hget, Int.ofNat_lt.mpr hlt]
      refine useQ (ih a (List.mem_of_getElem? hget) (okCs_mem hks (List.mem_of_getElem? hget)) _ b P es1 _ p hU1 hp1 (by omega) (by omega)) (wkL_refl _) (by rintro v s' ⟨h, _⟩; cases h) ?_
      rintro X s2 hX ⟨hX', es2, hU2, hF2⟩
      cases hX'
      simp only [decide_true, decide_false, gwL, gwB, gwD, gwE, gwS, gwTT, gwZ, initG, Nat.reduceEqDiff, ↓reduceIte, Nat.reduceAdd, Nat.reduceLT, Nat.reduceLeDiff, List.map_cons, List.map_nil, builtS, builtinV, pureR, binV, sliceV, pickV, evO, Env.look, find, V.ofConst, resV, resOne, tupV, loadV, fillV, buildV, mkIface, litM, litS, litR, litRows, List.reverse_cons, List.reverse_nil, Nat.reduceMul, appS, memA, appendV, rowsOf, V.cells, TI.sized, TI.known, TI.agg, anL, List.length_cons, List.length_nil, List.append_nil, List.cons_append, List.nil_append, List.drop_succ_cons, List.drop_zero, List.drop_nil, List.take_succ_cons, List.take_zero, List.take_nil, List.getElem?_cons_zero, List.getElem?_cons_succ, List.all_cons, List.all_nil, List.replicate_succ, List.replicate_zero, List.set_cons_zero, List.set_cons_succ, eq_self, true_or, ne_eq, not_false_eq_true, Nat.reduceEqDiff]
      refine ⟨(0 + 1, s2, es2), by simp only [next_i64 hlt (show kids.length ≤ 9223372036854775807 by omega)]; rfl, rfl, by simp only; omega, by simp only; omega, ?_, hF1.trans hF2⟩
      simp only
      rw [take_next hget, popsP_snoc]
      exact hU2

theorem c_expr (c : Core) : Pexpr c := by
  refine Core.ind (p := Pexpr) ?_ c
  intro k ix n lb ow q kids ih hok
  have hok' := hok
  rw [okC] at hok'
  obtain ⟨hk, hl, hq, hks⟩ := hok'
  cases h1 : oneI (.mk k ix n lb ow q kids) with
  | some i =>
    intro s b P es ps p hU hp ht hln
    have e : exprP (.mk k ix n lb ow q kids) p ps = pushP p i ps := by
      have : oneI (.mk k ix n lb ow q []) = some i := h1
      rw [exprP, this]
    rw [e]
    exact c_expr_one k ix n lb ow q kids i h1 (fun h => goodD_small q (hq h)) s b P es ps p hU hp (by omega)
  | none =>
    have hne : ∀ j : Int, j = 1 ∨ j = 2 ∨ j = 3 ∨ j = 4 ∨ j = 5 ∨ j = 6 → k ≠ j := by
      rintro j hj rfl
      rcases hj with rfl | rfl | rfl | rfl | rfl | rfl <;> simp [oneI] at h1
    rcases kind_cases hk with rfl | rfl | rfl | rfl | rfl | rfl | rfl | rfl | rfl | rfl | rfl | rfl | rfl
    · exact absurd rfl (hne 1 (by simp))
    · exact absurd rfl (hne 2 (by simp))
    · exact absurd rfl (hne 3 (by simp))
    · exact absurd rfl (hne 4 (by simp))
    · exact absurd rfl (hne 5 (by simp))
    · exact absurd rfl (hne 6 (by simp))
    · obtain ⟨x, y, z, rfl⟩ := kids3 hl
      exact c_expr_if ix n lb ow q x y z ih hok
    · obtain ⟨x, rfl⟩ := kids1 hl (by simp)
      exact c_expr_lambda ix n lb ow q x (ih x (by simp)) hok
    · exact c_expr_call ix n lb ow q kids ih hok
    · obtain ⟨x, rfl⟩ := kids1 hl (by simp)
      exact c_expr_set 10 ix n lb ow q x (by simp) (ih x (by simp)) hok
    · obtain ⟨x, rfl⟩ := kids1 hl (by simp)
      exact c_expr_set 11 ix n lb ow q x (by simp) (ih x (by simp)) hok
    · exact c_expr_seq ix n lb ow q kids ih hok
    · obtain ⟨x, rfl⟩ := kids1 hl (by simp)
      exact c_expr_set 13 ix n lb ow q x (by simp) (ih x (by simp)) hok
end Go.Proofs.Ytpfdoffnpkokhaa.Gx

namespace Go.Proofs.Ytpfdoffnpkokhaa.Gx
open Go Go.Proofs.Ytpfdoffnpkokhaa.Gw
set_option linter.unusedSimpArgs false
set_option linter.unusedVariables false

def encPr (p : Pr) : List V := [.int .i64 p.args, lstI p.code]
def lstPr (l : List Pr) : V := .lst 2 none (l.map encPr)
theorem lstPr_lt (n : Nat) (l : List Pr) : (lstPr l).lt n := by
  simp only [lstPr, V.lt]
  exact ⟨fun e h => (by cases h), ltRows_map fun x _ => ⟨trivial, lstI_lt _ _, trivial⟩⟩
/-- The forms' code, one behind the other. -/
def formsP : List Core → List Pr → List Pr
  | [], ps => ps
  | c :: r, ps => formsP r (pushP 0 { op := 14 } (exprP c 0 ps))
def bodyP (l : List Core) : List Pr := pushP 0 { op := 15 } (formsP l [⟨0, []⟩])
def muchP (l : List Pr) : Bool := decide (500 < l.length) || l.any fun p => decide (6000 < p.code.length)
/-- A unit. -/
structure Unit' where
  name : Str
  protos : List Pr
def encU (u : Unit') : List V := [.str u.name, lstPr u.protos]
def compileC (p : Part) : Unit' × Int :=
  bif decide ((wrongPs [p]).1 = 0) then (bif muchP (bodyP p.body) then (⟨[], []⟩, 4) else (⟨p.name, bodyP p.body⟩, 0)) else (⟨[], []⟩, (wrongPs [p]).1)
def compV (r : Unit' × Int) : V := .tup [.agg (encU r.1), .int .i64 r.2]
theorem compV_lt (n : Nat) (r : Unit' × Int) : (compV r).lt n := by
  simp only [compV, V.lt, ltL, encU, and_true, true_and]
  exact lstPr_lt _ _
theorem formsP_snoc : ∀ (l : List Core) (c : Core) (ps : List Pr), formsP (l ++ [c]) ps = pushP 0 { op := 14 } (exprP c 0 (formsP l ps))
  | [], c, ps => by simp only [List.nil_append, formsP]
  | d :: l, c, ps => by simp only [List.cons_append, formsP, formsP_snoc l c]
theorem formsP_tot : ∀ (l : List Core) (ps : List Pr), tot (formsP l ps) ≤ tot ps + 3 * nodesCs l
  | [], ps => by simp [formsP, nodesCs]
  | c :: r, ps => by
    rw [formsP, nodesCs]
    have h1 := formsP_tot r (pushP 0 { op := 14 } (exprP c 0 ps))
    have h2 := pushP_tot (exprP c 0 ps) 0 { op := 14 }
    have h3 := exprP_tot c 0 ps
    omega
theorem formsP_len : ∀ (l : List Core) (ps : List Pr), ps.length ≤ (formsP l ps).length
  | [], ps => by rw [formsP]; exact Nat.le_refl _
  | c :: r, ps => by rw [formsP]; refine Nat.le_trans ?_ (formsP_len r _); rw [pushP_len]; exact exprP_len c 0 ps
theorem formsP_top : ∀ (l : List Core) (ps : List Pr), (formsP l ps).length ≤ ps.length + nodesCs l
  | [], ps => by rw [formsP, nodesCs]; omega
  | c :: r, ps => by
    rw [formsP, nodesCs]
    have h1 := formsP_top r (pushP 0 { op := 14 } (exprP c 0 ps))
    have h3 := exprP_top c 0 ps
    rw [pushP_len] at h1
    omega

/-- What comes to be frozen. -/
def Frz (X : V) (st : St) (r : VEnd) (st' : St) : Prop := ∃ v u ex, r = .ret v ∧ st' = st ++ ex ∧ Thaw st' st.length v u ∧ wk u X ∧ X.lt st.length
theorem frz_of {v X : V} {st ex : St} (h : wk v X) (hl : X.lt st.length) : Frz X st (.ret v) (st ++ ex) := ⟨v, v, ex, rfl, rfl, .same v, h, hl⟩
theorem frz_pre {v X : V} {st s' : St} (hp : ∀ j : Nat, j < st.length → s'[j]? = st[j]?) (_hl : st.length ≤ s'.length) (u : V) (ht : Thaw s' st.length v u) (hw : wk u X) (hx : X.lt st.length) : Frz X st (.ret v) s' := by
  refine ⟨v, u, s'.drop st.length, rfl, ?_, ht, hw, hx⟩
  apply List.ext_getElem?
  intro j
  rcases Nat.lt_or_ge j st.length with h | h
  · rw [hp j h, List.getElem?_append_left h]
  · rw [List.getElem?_append_right h, List.getElem?_drop]; congr 1; omega
theorem thaw_rows {st' : St} {m : Nat} : ∀ (es : List (Option Nat)) (ps : List Pr), es.length = ps.length → (∀ (k e : Nat) (p : Pr), es[k]? = some (some e) → ps[k]? = some p → m ≤ e ∧ st'[e]? = some (.arr 46 11 (p.code.map encI))) →
    (∀ (k : Nat) (p : Pr), es[k]? = some none → ps[k]? = some p → p.code = []) → ∃ rows, ThawR st' m (prRows es ps) rows ∧ wkRp NoTok rows (ps.map encPr)
  | [], [], _, _, _ => ⟨[], .nil, by simp [wkRp]⟩
  | e :: es, p :: ps, hl, h1, h2 => by
    obtain ⟨rows, r1, r2⟩ := thaw_rows es ps (by simpa using hl) (fun k o q a b => h1 (k + 1) o q (by simpa using a) (by simpa using b)) (fun k q a b => h2 (k + 1) q (by simpa using a) (by simpa using b))
    cases e with
    | none =>
      have hc := h2 0 p (by simp) (by simp)
      refine ⟨[.int .i64 p.args, .nils] :: rows, .cons (ThawL.refl _) r1, ?_⟩
      simp only [List.map_cons, wkRp]
      exact ⟨_, _, rfl, by rw [encPr, hc]; exact wkL_cons (wk_refl _) (wkL_cons (wk_nils _) wkL_nil), r2⟩
    | some o =>
      obtain ⟨g1, g2⟩ := h1 0 o p (by simp) (by simp)
      have rr : ∀ l : List (List V), ThawR st' m l l := by intro l; induction l with | nil => exact .nil | cons a l ih => exact .cons (ThawL.refl _) ih
      refine ⟨[.int .i64 p.args, lstI p.code] :: rows, .cons (.cons (.same _) (.cons (.arr g1 g2 (by simp) (rr _)) .nil)) r1, ?_⟩
      simp only [List.map_cons, wkRp]
      exact ⟨_, _, rfl, wkL_refl _, r2⟩
  | [], _ :: _, h, _, _ => by simp at h
  | _ :: _, [], h, _, _ => by simp at h

set_option maxRecDepth 20000 in
set_option maxHeartbeats 8000000 in
theorem c_Compile0 (p : Part) (st : St) : VCalls Try.prog TT 7 [.agg (encP p)] st (Frz (compV (compileC p)) st) := by
  refine vfunQ TT_ok (an := anL [(1, 1), (19, 2)]) (L := [0, 1, 2, 3, 4, 5, 6, 8, 24, 25, 51, 52, 53]) (rs := [.cell 2 27, .tmp 3]) Try.func7 rfl (by kernel_rfl) rfl Try.ntmps7 rfl rfl fun hst ha hf => ?_
  obtain ⟨nm, body⟩ := p
  simp only [encP, lstC]
  simp only [decide_true, decide_false, gwL, gwB, gwD, gwE, gwS, gwTT, gwZ, initG, Nat.reduceEqDiff, ↓reduceIte, Nat.reduceAdd, Nat.reduceLT, Nat.reduceLeDiff, List.map_cons, List.map_nil, builtS, builtinV, pureR, binV, sliceV, pickV, evO, Env.look, find, V.ofConst, resV, resOne, tupV, loadV, fillV, buildV, mkIface, litM, litS, litR, litRows, List.reverse_cons, List.reverse_nil, Nat.reduceMul, appS, memA, appendV, rowsOf, V.cells, TI.sized, TI.known, TI.agg, anL, List.length_cons, List.length_nil, List.append_nil, List.cons_append, List.nil_append, List.drop_succ_cons, List.drop_zero, List.drop_nil, List.take_succ_cons, List.take_zero, List.take_nil, List.getElem?_cons_zero, List.getElem?_cons_succ, List.all_cons, List.all_nil, List.replicate_succ, List.replicate_zero, List.set_cons_zero, List.set_cons_succ, eq_self, true_or, ne_eq, not_false_eq_true, Nat.reduceEqDiff]
  refine (c_model_Wrong _ [⟨nm, body⟩]).use (wkL_refl _) fun _ => ?_
  unfold compileC
  simp only [decide_true, decide_false, gwL, gwB, gwD, gwE, gwS, gwTT, gwZ, initG, Nat.reduceEqDiff, ↓reduceIte, Nat.reduceAdd, Nat.reduceLT, Nat.reduceLeDiff, List.map_cons, List.map_nil, builtS, builtinV, pureR, binV, sliceV, pickV, evO, Env.look, find, V.ofConst, resV, resOne, tupV, loadV, fillV, buildV, mkIface, litM, litS, litR, litRows, List.reverse_cons, List.reverse_nil, Nat.reduceMul, appS, memA, appendV, rowsOf, V.cells, TI.sized, TI.known, TI.agg, anL, List.length_cons, List.length_nil, List.append_nil, List.cons_append, List.nil_append, List.drop_succ_cons, List.drop_zero, List.drop_nil, List.take_succ_cons, List.take_zero, List.take_nil, List.getElem?_cons_zero, List.getElem?_cons_succ, List.all_cons, List.all_nil, List.replicate_succ, List.replicate_zero, List.set_cons_zero, List.set_cons_succ, eq_self, true_or, ne_eq, not_false_eq_true, Nat.reduceEqDiff, fltV]
  refine iK_split (fun h => ?_) (fun h => ?_)
  · rw [not_yes h]
    simp only [decide_true, decide_false, gwL, gwB, gwD, gwE, gwS, gwTT, gwZ, initG, Nat.reduceEqDiff, ↓reduceIte, Nat.reduceAdd, Nat.reduceLT, Nat.reduceLeDiff, List.map_cons, List.map_nil, builtS, builtinV, pureR, binV, sliceV, pickV, evO, Env.look, find, V.ofConst, resV, resOne, tupV, loadV, fillV, buildV, mkIface, litM, litS, litR, litRows, List.reverse_cons, List.reverse_nil, Nat.reduceMul, appS, memA, appendV, rowsOf, V.cells, TI.sized, TI.known, TI.agg, anL, List.length_cons, List.length_nil, List.append_nil, List.cons_append, List.nil_append, List.drop_succ_cons, List.drop_zero, List.drop_nil, List.take_succ_cons, List.take_zero, List.take_nil, List.getElem?_cons_zero, List.getElem?_cons_succ, List.all_cons, List.all_nil, List.replicate_succ, List.replicate_zero, List.set_cons_zero, List.set_cons_succ, eq_self, true_or, ne_eq, not_false_eq_true, Nat.reduceEqDiff]
    refine vmelt 4 (st.length + 1) _ rfl (by simp only [gwL]; rfl) ?_
    simp only [decide_true, decide_false, gwL, gwB, gwD, gwE, gwS, gwTT, gwZ, initG, Nat.reduceEqDiff, ↓reduceIte, Nat.reduceAdd, Nat.reduceLT, Nat.reduceLeDiff, List.map_cons, List.map_nil, builtS, builtinV, pureR, binV, sliceV, pickV, evO, Env.look, find, V.ofConst, resV, resOne, tupV, loadV, fillV, buildV, mkIface, litM, litS, litR, litRows, List.reverse_cons, List.reverse_nil, Nat.reduceMul, appS, memA, appendV, rowsOf, V.cells, TI.sized, TI.known, TI.agg, anL, List.length_cons, List.length_nil, List.append_nil, List.cons_append, List.nil_append, List.drop_succ_cons, List.drop_zero, List.drop_nil, List.take_succ_cons, List.take_zero, List.take_nil, List.getElem?_cons_zero, List.getElem?_cons_succ, List.all_cons, List.all_nil, List.replicate_succ, List.replicate_zero, List.set_cons_zero, List.set_cons_succ, eq_self, true_or, ne_eq, not_false_eq_true, Nat.reduceEqDiff, meltE]
    refine vdraw TT_ok TT_mixed [0, 0, 0, 2, 0] (by kernel_rfl) ?_
    simp only [decide_true, decide_false, gwL, gwB, gwD, gwE, gwS, gwTT, gwZ, initG, Nat.reduceEqDiff, ↓reduceIte, Nat.reduceAdd, Nat.reduceLT, Nat.reduceLeDiff, List.map_cons, List.map_nil, builtS, builtinV, pureR, binV, sliceV, pickV, evO, Env.look, find, V.ofConst, resV, resOne, tupV, loadV, fillV, buildV, mkIface, litM, litS, litR, litRows, List.reverse_cons, List.reverse_nil, Nat.reduceMul, appS, memA, appendV, rowsOf, V.cells, TI.sized, TI.known, TI.agg, anL, List.length_cons, List.length_nil, List.append_nil, List.cons_append, List.nil_append, List.drop_succ_cons, List.drop_zero, List.drop_nil, List.take_succ_cons, List.take_zero, List.take_nil, List.getElem?_cons_zero, List.getElem?_cons_succ, List.all_cons, List.all_nil, List.replicate_succ, List.replicate_zero, List.set_cons_zero, List.set_cons_succ, eq_self, true_or, ne_eq, not_false_eq_true, Nat.reduceEqDiff]
    exact frz_of (wk_tup (wkL_cons (wk_agg (wkL_cons (wk_refl _) (wkL_cons (wk_nils _) wkL_nil))) (wkL_refl _))) (compV_lt _ _)
  rw [not_no h]
  have hok := wrongPs_good (p := ⟨nm, body⟩) (of_decide_eq_true (not_no h))
  simp only at hok
  obtain ⟨hok1, hok2, hok3⟩ := hok
  have hnl := nodesCs_len body
  simp only [decide_true, decide_false, gwL, gwB, gwD, gwE, gwS, gwTT, gwZ, initG, Nat.reduceEqDiff, ↓reduceIte, Nat.reduceAdd, Nat.reduceLT, Nat.reduceLeDiff, List.map_cons, List.map_nil, builtS, builtinV, pureR, binV, sliceV, pickV, evO, Env.look, find, V.ofConst, resV, resOne, tupV, loadV, fillV, buildV, mkIface, litM, litS, litR, litRows, List.reverse_cons, List.reverse_nil, Nat.reduceMul, appS, memA, appendV, rowsOf, V.cells, TI.sized, TI.known, TI.agg, anL, List.length_cons, List.length_nil, List.append_nil, List.cons_append, List.nil_append, List.drop_succ_cons, List.drop_zero, List.drop_nil, List.take_succ_cons, List.take_zero, List.take_nil, List.getElem?_cons_zero, List.getElem?_cons_succ, List.all_cons, List.all_nil, List.replicate_succ, List.replicate_zero, List.set_cons_zero, List.set_cons_succ, eq_self, true_or, ne_eq, not_false_eq_true, Nat.reduceEqDiff, List.length_map]
  have hU0 : US (st ++ [Ent.box [V.str [], V.nils], Ent.box [V.int .i64 (wrongPs [{ name := nm, body := body }]).fst, V.int .i64 (wrongPs [{ name := nm, body := body }]).snd], Ent.arr 44 2 [[V.int .i64 0, V.nils]], Ent.box [V.arr (st.length + 2) 1]]) (st.length + 3) (st.length + 2) [none] [⟨0, []⟩] :=
    ⟨rfl, by simp only [gwL, List.length_cons, List.length_nil], by simp only [gwL]; rfl, fun k e p h1 _ => by cases k <;> simp at h1, fun k p h1 h2 => by cases k <;> simp at h2; subst h2; rfl, fun j k e h1 => by cases j <;> simp at h1⟩
  refine vfor (σ := Nat × St × List (Option Nat)) [1, 2, 3, 5, 24, 25] (fun x => [(1, true, .ref [.str nm, .lst 12 none (body.map encC)]), (2, true, .ptr st.length 0), (3, true, .int .i64 0), (5, true, .ptr (st.length + 3) 0), (24, true, .int .i64 body.length), (25, true, .int .i64 x.1)]) (fun x => x.2.1) (fun x => body.length - x.1) (fun x => x.1 ≤ body.length ∧ US x.2.1 (st.length + 3) (st.length + 2) x.2.2 (formsP (body.take x.1) [⟨0, []⟩]) ∧ Fr (st ++ [Ent.box [V.str [], V.nils], Ent.box [V.int .i64 (wrongPs [{ name := nm, body := body }]).fst, V.int .i64 (wrongPs [{ name := nm, body := body }]).snd], Ent.arr 44 2 [[V.int .i64 0, V.nils]], Ent.box [V.arr (st.length + 2) 1]]) (st.length + 3) (st.length + 2) [none] x.2.1 x.2.2) (0, _, [none]) rfl TT_ok ⟨Nat.zero_le _, hU0, Fr.refl ..⟩ rfl rfl ?_
  rintro ⟨i, s1, es1⟩ ⟨hi, hU1, hF1⟩
  simp only at hi hU1 hF1 ⊢
  have ht1 := formsP_tot (body.take i) [⟨0, []⟩]
  have hp1 : 0 < (formsP (body.take i) [⟨0, []⟩]).length := formsP_len (body.take i) [⟨0, []⟩]
  have hl1 := formsP_top (body.take i) [⟨0, []⟩]
  simp only [tot, List.length_nil, List.length_cons] at ht1 hl1
  rcases at_or_end body i hi with ⟨rfl, hd⟩ | ⟨a, hlt, hget, hdr⟩
  · rw [List.take_length] at hU1 ht1 hp1 hl1
    simp only [decide_true, decide_false, gwL, gwB, gwD, gwE, gwS, gwTT, gwZ, initG, Nat.reduceEqDiff, ↓reduceIte, Nat.reduceAdd, Nat.reduceLT, Nat.reduceLeDiff, List.map_cons, List.map_nil, builtS, builtinV, pureR, binV, sliceV, pickV, evO, Env.look, find, V.ofConst, resV, resOne, tupV, loadV, fillV, buildV, mkIface, litM, litS, litR, litRows, List.reverse_cons, List.reverse_nil, Nat.reduceMul, appS, memA, appendV, rowsOf, V.cells, TI.sized, TI.known, TI.agg, anL, List.length_cons, List.length_nil, List.append_nil, List.cons_append, List.nil_append, List.drop_succ_cons, List.drop_zero, List.drop_nil, List.take_succ_cons, List.take_zero, List.take_nil, List.getElem?_cons_zero, List.getElem?_cons_succ, List.all_cons, List.all_nil, List.replicate_succ, List.replicate_zero, List.set_cons_zero, List.set_cons_succ, eq_self, true_or, ne_eq, not_false_eq_true, Nat.reduceEqDiff, lt_no, List.length_map]
    refine useQ (c_emitP _ (st.length + 3) (st.length + 2) es1 _ hU1 0 hp1 { op := 15 } (Nat.le_trans (hereP_tot _ _) (by omega))) (wk_emit (wk_ins ..)) (by rintro v s' ⟨h, _⟩; cases h) ?_
    rintro X s2 hX ⟨hX', es2, hU2, hF2⟩
    cases hX'
    replace hU2 : US s2 (st.length + 3) (st.length + 2) es2 (bodyP body) := hU2
    have hFr := hF1.trans hF2
    have hes : ∀ (k j : Nat), ([none] : List (Option Nat))[k]? ≠ some (some j) := fun k j h => by cases k <;> simp at h
    have hlen : st.length + 4 ≤ s2.length := by have := hFr.len; simpa using this
    have hc : s2[st.length]? = some (.box [.str [], .nils]) := by
      rw [hFr.keep st.length (by simp) (by omega) (by omega) (fun k => hes k _)]
      simp only [gwL]
    have hpre : ∀ j : Nat, j < st.length → s2[j]? = st[j]? := fun j hj => by
      rw [hFr.keep j (by simp; omega) (by omega) (by omega) (fun k => hes k _), st_old hj]
    have hsl : ∀ X, (s2.set st.length X)[st.length]? = some X := fun X => List.getElem?_set_self (by omega)
    have hspre : ∀ (ex : St) X, ∀ j : Nat, j < st.length → ((s2 ++ ex).set st.length X)[j]? = st[j]? := fun ex X j hj => by rw [List.getElem?_set_ne (by omega), st_old (by omega), hpre j hj]
    have hnil : ∀ v, wk (.tup [.agg [.str [], .nils], .int .i64 v]) (compV (⟨[], []⟩, v)) := fun v => wk_tup (wkL_cons (wk_agg (wkL_cons (wk_refl _) (wkL_cons (wk_nils _) wkL_nil))) (wkL_refl _))
    have hbl : (bodyP body).length ≤ 1000000 := by rw [bodyP, pushP_len]; omega
    have hbt : tot (bodyP body) ≤ 10000000 := by have := pushP_tot (formsP body [⟨0, []⟩]) 0 { op := 15 }; rw [bodyP]; omega
    simp only [decide_true, decide_false, gwL, gwB, gwD, gwE, gwS, gwTT, gwZ, initG, Nat.reduceEqDiff, ↓reduceIte, Nat.reduceAdd, Nat.reduceLT, Nat.reduceLeDiff, List.map_cons, List.map_nil, builtS, builtinV, pureR, binV, sliceV, pickV, evO, Env.look, find, V.ofConst, resV, resOne, tupV, loadV, fillV, buildV, mkIface, litM, litS, litR, litRows, List.reverse_cons, List.reverse_nil, Nat.reduceMul, appS, memA, appendV, rowsOf, V.cells, TI.sized, TI.known, TI.agg, anL, List.length_cons, List.length_nil, List.append_nil, List.cons_append, List.nil_append, List.drop_succ_cons, List.drop_zero, List.drop_nil, List.take_succ_cons, List.take_zero, List.take_nil, List.getElem?_cons_zero, List.getElem?_cons_succ, List.all_cons, List.all_nil, List.replicate_succ, List.replicate_zero, List.set_cons_zero, List.set_cons_succ, eq_self, true_or, ne_eq, not_false_eq_true, Nat.reduceEqDiff, hU2.box]
    refine iK_split (fun h5 => ?_) (fun h5 => ?_)
    · have hm : muchP (bodyP body) = true := by
        have h6 := of_decide_eq_true h5
        simp only [muchP, Bool.or_eq_true, decide_eq_true_eq]
        exact .inl (by omega)
      rw [hm]
      simp only [decide_true, decide_false, gwL, gwB, gwD, gwE, gwS, gwTT, gwZ, initG, Nat.reduceEqDiff, ↓reduceIte, Nat.reduceAdd, Nat.reduceLT, Nat.reduceLeDiff, List.map_cons, List.map_nil, builtS, builtinV, pureR, binV, sliceV, pickV, evO, Env.look, find, V.ofConst, resV, resOne, tupV, loadV, fillV, buildV, mkIface, litM, litS, litR, litRows, List.reverse_cons, List.reverse_nil, Nat.reduceMul, appS, memA, appendV, rowsOf, V.cells, TI.sized, TI.known, TI.agg, anL, List.length_cons, List.length_nil, List.append_nil, List.cons_append, List.nil_append, List.drop_succ_cons, List.drop_zero, List.drop_nil, List.take_succ_cons, List.take_zero, List.take_nil, List.getElem?_cons_zero, List.getElem?_cons_succ, List.all_cons, List.all_nil, List.replicate_succ, List.replicate_zero, List.set_cons_zero, List.set_cons_succ, eq_self, true_or, ne_eq, not_false_eq_true, Nat.reduceEqDiff, hc, hsl]
      refine frz_pre (fun j hj => ?_) (by rw [List.length_set]; omega) _ (.same _) (hnil 4) (compV_lt _ _)
      have := hspre [] (.box [.str [], .nils]) j hj
      rwa [List.append_nil] at this
    simp only [decide_true, decide_false, gwL, gwB, gwD, gwE, gwS, gwTT, gwZ, initG, Nat.reduceEqDiff, ↓reduceIte, Nat.reduceAdd, Nat.reduceLT, Nat.reduceLeDiff, List.map_cons, List.map_nil, builtS, builtinV, pureR, binV, sliceV, pickV, evO, Env.look, find, V.ofConst, resV, resOne, tupV, loadV, fillV, buildV, mkIface, litM, litS, litR, litRows, List.reverse_cons, List.reverse_nil, Nat.reduceMul, appS, memA, appendV, rowsOf, V.cells, TI.sized, TI.known, TI.agg, anL, List.length_cons, List.length_nil, List.append_nil, List.cons_append, List.nil_append, List.drop_succ_cons, List.drop_zero, List.drop_nil, List.take_succ_cons, List.take_zero, List.take_nil, List.getElem?_cons_zero, List.getElem?_cons_succ, List.all_cons, List.all_nil, List.replicate_succ, List.replicate_zero, List.set_cons_zero, List.set_cons_succ, eq_self, true_or, ne_eq, not_false_eq_true, Nat.reduceEqDiff, hU2.box]
    refine vfor (σ := Nat × St) [1, 2, 3, 5, 51, 52, 53] (fun x => [(1, true, .ref [.str nm, .lst 12 none (body.map encC)]), (2, true, .ptr st.length 0), (3, true, .int .i64 0), (5, true, .ptr (st.length + 3) 0), (51, true, .arr (st.length + 2) (bodyP body).length), (52, true, .int .i64 (bodyP body).length), (53, true, .int .i64 x.1)]) (fun x => x.2) (fun x => (bodyP body).length - x.1) (fun x => x.1 ≤ (bodyP body).length ∧ (∃ ex, x.2 = s2 ++ ex) ∧ ∀ (j : Nat) (q : Pr), j < x.1 → (bodyP body)[j]? = some q → q.code.length ≤ 6000) (0, s2) rfl TT_ok ⟨Nat.zero_le _, ⟨[], by simp⟩, fun j q h => absurd h (Nat.not_lt_zero _)⟩ rfl rfl ?_
    rintro ⟨i, S⟩ ⟨hi2, ⟨ex, hS⟩, hall⟩
    simp only at hi2 hS hall ⊢
    have hU3 : US S (st.length + 3) (st.length + 2) es2 (bodyP body) := by rw [hS]; exact hU2.app ex
    have hSl : s2.length ≤ S.length := by rw [hS, List.length_append]; omega
    have hSc : S[st.length]? = some (.box [.str [], .nils]) := by rw [hS, st_old (by omega), hc]
    rcases at_or_end (bodyP body) i hi2 with ⟨rfl, hd2⟩ | ⟨a, hlt, hget, hdr⟩
    · have hm : muchP (bodyP body) = false := by
        have h6 := of_decide_eq_false h5
        simp only [muchP, Bool.or_eq_false_iff, decide_eq_false_iff_not]
        refine ⟨by omega, ?_⟩
        rw [List.any_eq_false]
        intro q hq
        obtain ⟨j, hj⟩ := List.getElem?_of_mem hq
        have := hall j q (List.getElem?_eq_some_iff.1 hj).1 hj
        simp; omega
      rw [hm]
      simp only [decide_true, decide_false, gwL, gwB, gwD, gwE, gwS, gwTT, gwZ, initG, Nat.reduceEqDiff, ↓reduceIte, Nat.reduceAdd, Nat.reduceLT, Nat.reduceLeDiff, List.map_cons, List.map_nil, builtS, builtinV, pureR, binV, sliceV, pickV, evO, Env.look, find, V.ofConst, resV, resOne, tupV, loadV, fillV, buildV, mkIface, litM, litS, litR, litRows, List.reverse_cons, List.reverse_nil, Nat.reduceMul, appS, memA, appendV, rowsOf, V.cells, TI.sized, TI.known, TI.agg, anL, List.length_cons, List.length_nil, List.append_nil, List.cons_append, List.nil_append, List.drop_succ_cons, List.drop_zero, List.drop_nil, List.take_succ_cons, List.take_zero, List.take_nil, List.getElem?_cons_zero, List.getElem?_cons_succ, List.all_cons, List.all_nil, List.replicate_succ, List.replicate_zero, List.set_cons_zero, List.set_cons_succ, eq_self, true_or, ne_eq, not_false_eq_true, Nat.reduceEqDiff, lt_no]
      refine vdraw TT_ok TT_mixed [0, 1, 0, 0, 0, 1, 0, 2, 0] (by kernel_rfl) ?_
      have hSs : ∀ X, (S.set st.length X)[st.length]? = some X := fun X => List.getElem?_set_self (by omega)
      simp only [decide_true, decide_false, gwL, gwB, gwD, gwE, gwS, gwTT, gwZ, initG, Nat.reduceEqDiff, ↓reduceIte, Nat.reduceAdd, Nat.reduceLT, Nat.reduceLeDiff, List.map_cons, List.map_nil, builtS, builtinV, pureR, binV, sliceV, pickV, evO, Env.look, find, V.ofConst, resV, resOne, tupV, loadV, fillV, buildV, mkIface, litM, litS, litR, litRows, List.reverse_cons, List.reverse_nil, Nat.reduceMul, appS, memA, appendV, rowsOf, V.cells, TI.sized, TI.known, TI.agg, anL, List.length_cons, List.length_nil, List.append_nil, List.cons_append, List.nil_append, List.drop_succ_cons, List.drop_zero, List.drop_nil, List.take_succ_cons, List.take_zero, List.take_nil, List.getElem?_cons_zero, List.getElem?_cons_succ, List.all_cons, List.all_nil, List.replicate_succ, List.replicate_zero, List.set_cons_zero, List.set_cons_succ, eq_self, true_or, ne_eq, not_false_eq_true, Nat.reduceEqDiff, hU3.box, hSc, hSs]
      have hfr : ∀ (k o : Nat), es2[k]? = some (some o) → st.length + 4 ≤ o := fun k o hk => by
        rcases hFr.fresh k o hk with h7 | h7
        · exact absurd h7 (hes k o)
        · simpa using h7
      have hpl : ∀ X, (S.set st.length X)[st.length + 2]? = some (.arr 44 2 (prRows es2 (bodyP body))) := fun X => by rw [List.getElem?_set_ne (by omega), hU3.arr]
      have hth := thaw_rows (st' := S.set st.length (.box [.str nm, .arr (st.length + 2) (bodyP body).length])) (m := st.length) es2 (bodyP body) hU3.len (fun k o q h1 h2 => ⟨by have := hfr k o h1; omega, by have := hfr k o h1; rw [List.getElem?_set_ne (by omega)]; exact hU3.code k o q h1 h2⟩) hU3.nil
      obtain ⟨rows, hr1, hr2⟩ := hth
      refine frz_pre (fun j hj => ?_) (by rw [List.length_set]; omega) (.tup [.agg [.str nm, .lst 2 none rows], .int .i64 0]) ?_ ?_ (compV_lt _ _)
      · rw [hS]; exact hspre ex _ j hj
      · exact .tup (.cons (.agg (.cons (.same _) (.cons (.arr (by omega) (hpl _) (prRows_len hU3.len) hr1) .nil))) (ThawL.refl _))
      · exact wk_tup (wkL_cons (wk_agg (wkL_cons (wk_refl _) (wkL_cons (wk_lst hr2) wkL_nil))) (wkL_refl _))
    · obtain ⟨e, he⟩ : ∃ e, es2[i]? = some e := ⟨es2[i]'(by rw [hU3.len]; exact hlt), List.getElem?_eq_getElem _⟩
      have hg : (prRows es2 (bodyP body)).getD i [] = prRow e a := getD_at (prRows_get he hget)
      have hlv : builtinV TT .len [codeV e a.code.length] [42] = some (.int .i64 a.code.length, True) := by
        cases e with
        | none => rw [hU3.nil i a he hget]; rfl
        | some o => rfl
      simp only [decide_true, decide_false, gwL, gwB, gwD, gwE, gwS, gwTT, gwZ, initG, Nat.reduceEqDiff, ↓reduceIte, Nat.reduceAdd, Nat.reduceLT, Nat.reduceLeDiff, List.map_cons, List.map_nil, builtS, pureR, binV, sliceV, pickV, evO, Env.look, find, V.ofConst, resV, resOne, tupV, loadV, fillV, buildV, mkIface, litM, litS, litR, litRows, List.reverse_cons, List.reverse_nil, Nat.reduceMul, appS, memA, appendV, rowsOf, V.cells, TI.sized, TI.known, TI.agg, anL, List.length_cons, List.length_nil, List.append_nil, List.cons_append, List.nil_append, List.drop_succ_cons, List.drop_zero, List.drop_nil, List.take_succ_cons, List.take_zero, List.take_nil, List.getElem?_cons_zero, List.getElem?_cons_succ, List.all_cons, List.all_nil, List.replicate_succ, List.replicate_zero, List.set_cons_zero, List.set_cons_succ, eq_self, true_or, ne_eq, not_false_eq_true, Nat.reduceEqDiff, lt_yes hlt, Int.ofNat_lt.mpr hlt, hU3.arr, hg, prRow, prRows_len hU3.len, hlv]
      refine ⟨hlt, iK_split (fun h7 => ?_) (fun h7 => ?_)⟩
      · have hm : muchP (bodyP body) = true := by
          have h6 := of_decide_eq_true h7
          simp only [muchP, Bool.or_eq_true, List.any_eq_true]
          exact .inr ⟨a, List.mem_of_getElem? hget, decide_eq_true (by omega)⟩
        rw [hm]
        have hc9 : (S ++ [Ent.box [V.int .i64 a.args, codeV e a.code.length]])[st.length]? = some (.box [.str [], .nils]) := by rw [st_old (by omega), hSc]
        have hs9 : ∀ X, ((S ++ [Ent.box [V.int .i64 a.args, codeV e a.code.length]]).set st.length X)[st.length]? = some X := fun X => List.getElem?_set_self (by simp; omega)
        simp only [decide_true, decide_false, gwL, gwB, gwD, gwE, gwS, gwTT, gwZ, initG, Nat.reduceEqDiff, ↓reduceIte, Nat.reduceAdd, Nat.reduceLT, Nat.reduceLeDiff, List.map_cons, List.map_nil, builtS, builtinV, pureR, binV, sliceV, pickV, evO, Env.look, find, V.ofConst, resV, resOne, tupV, loadV, fillV, buildV, mkIface, litM, litS, litR, litRows, List.reverse_cons, List.reverse_nil, Nat.reduceMul, appS, memA, appendV, rowsOf, V.cells, TI.sized, TI.known, TI.agg, anL, List.length_cons, List.length_nil, List.append_nil, List.cons_append, List.nil_append, List.drop_succ_cons, List.drop_zero, List.drop_nil, List.take_succ_cons, List.take_zero, List.take_nil, List.getElem?_cons_zero, List.getElem?_cons_succ, List.all_cons, List.all_nil, List.replicate_succ, List.replicate_zero, List.set_cons_zero, List.set_cons_succ, eq_self, true_or, ne_eq, not_false_eq_true, Nat.reduceEqDiff, hc9, hs9]
        refine frz_pre (fun j hj => ?_) (by rw [List.length_set, List.length_append]; omega) _ (.same _) (hnil 4) (compV_lt _ _)
        rw [hS, List.append_assoc]
        exact hspre (ex ++ [Ent.box [V.int .i64 a.args, codeV e a.code.length]]) _ j hj
      · simp only [decide_true, decide_false, gwL, gwB, gwD, gwE, gwS, gwTT, gwZ, initG, Nat.reduceEqDiff, ↓reduceIte, Nat.reduceAdd, Nat.reduceLT, Nat.reduceLeDiff, List.map_cons, List.map_nil, builtS, builtinV, pureR, binV, sliceV, pickV, evO, Env.look, find, V.ofConst, resV, resOne, tupV, loadV, fillV, buildV, mkIface, litM, litS, litR, litRows, List.reverse_cons, List.reverse_nil, Nat.reduceMul, appS, memA, appendV, rowsOf, V.cells, TI.sized, TI.known, TI.agg, anL, List.length_cons, List.length_nil, List.append_nil, List.cons_append, List.nil_append, List.drop_succ_cons, List.drop_zero, List.drop_nil, List.take_succ_cons, List.take_zero, List.take_nil, List.getElem?_cons_zero, List.getElem?_cons_succ, List.all_cons, List.all_nil, List.replicate_succ, List.replicate_zero, List.set_cons_zero, List.set_cons_succ, eq_self, true_or, ne_eq, not_false_eq_true, Nat.reduceEqDiff]
        refine ⟨(i + 1, S ++ [Ent.box [V.int .i64 a.args, codeV e a.code.length]]), by simp only [next_i64 hlt (show (bodyP body).length ≤ 9223372036854775807 by omega)]; rfl, rfl, by simp only; omega, by simp only; omega, ⟨ex ++ [Ent.box [V.int .i64 a.args, codeV e a.code.length]], by simp only [hS, List.append_assoc]⟩, fun j q hj hq => ?_⟩
        simp only at hj
        rcases Nat.lt_or_ge j i with h8 | h8
        · exact hall j q h8 hq
        · have : j = i := by omega
          subst this
          rw [hget] at hq
          cases hq
          have := of_decide_eq_false h7
          omega
  · have hnt := nodesCs_take hget
    simp only [decide_true, decide_false, gwL, gwB, gwD, gwE, gwS, gwTT, gwZ, initG, Nat.reduceEqDiff, ↓reduceIte, Nat.reduceAdd, Nat.reduceLT, Nat.reduceLeDiff, List.map_cons, List.map_nil, builtS, builtinV, pureR, binV, sliceV, pickV, evO, Env.look, find, V.ofConst, resV, resOne, tupV, loadV, fillV, buildV, mkIface, litM, litS, litR, litRows, List.reverse_cons, List.reverse_nil, Nat.reduceMul, appS, memA, appendV, rowsOf, V.cells, TI.sized, TI.known, TI.agg, anL, List.length_cons, List.length_nil, List.append_nil, List.cons_append, List.nil_append, List.drop_succ_cons, List.drop_zero, List.drop_nil, List.take_succ_cons, List.take_zero, List.take_nil, List.getElem?_cons_zero, List.getElem?_cons_succ, List.all_cons, List.all_nil, List.replicate_succ, List.replicate_zero, List.set_cons_zero, List.set_cons_succ, eq_self, true_or, ne_eq, not_false_eq_true, Nat.reduceEqDiff, lt_yes hlt, List.length_map, getD_map hget, Int.ofNat_lt.mpr hlt]
    refine useQ (c_expr a (okCs_mem hok1 (List.mem_of_getElem? hget)) _ (st.length + 3) (st.length + 2) es1 _ 0 hU1 hp1 (by omega) (by omega)) (wkL_refl _) (by rintro v s' ⟨h, _⟩; cases h) ?_
    rintro X s2 hX ⟨hX', es2, hU2, hF2⟩
    cases hX'
    simp only [decide_true, decide_false, gwL, gwB, gwD, gwE, gwS, gwTT, gwZ, initG, Nat.reduceEqDiff, ↓reduceIte, Nat.reduceAdd, Nat.reduceLT, Nat.reduceLeDiff, List.map_cons, List.map_nil, builtS, builtinV, pureR, binV, sliceV, pickV, evO, Env.look, find, V.ofConst, resV, resOne, tupV, loadV, fillV, buildV, mkIface, litM, litS, litR, litRows, List.reverse_cons, List.reverse_nil, Nat.reduceMul, appS, memA, appendV, rowsOf, V.cells, TI.sized, TI.known, TI.agg, anL, List.length_cons, List.length_nil, List.append_nil, List.cons_append, List.nil_append, List.drop_succ_cons, List.drop_zero, List.drop_nil, List.take_succ_cons, List.take_zero, List.take_nil, List.getElem?_cons_zero, List.getElem?_cons_succ, List.all_cons, List.all_nil, List.replicate_succ, List.replicate_zero, List.set_cons_zero, List.set_cons_succ, eq_self, true_or, ne_eq, not_false_eq_true, Nat.reduceEqDiff]
    have hp2 := Nat.lt_of_lt_of_le hp1 (exprP_len a 0 _)
    have ht2 := exprP_tot a 0 (formsP (body.take i) [⟨0, []⟩])
    refine useQ (c_emitP _ (st.length + 3) (st.length + 2) es2 _ hU2 0 hp2 { op := 14 } (Nat.le_trans (hereP_tot _ _) (by omega))) (wk_emit (wk_ins ..)) (by rintro v s' ⟨h, _⟩; cases h) ?_
    rintro X s4 hX ⟨hX', es4, hU4, hF4⟩
    cases hX'
    simp only [decide_true, decide_false, gwL, gwB, gwD, gwE, gwS, gwTT, gwZ, initG, Nat.reduceEqDiff, ↓reduceIte, Nat.reduceAdd, Nat.reduceLT, Nat.reduceLeDiff, List.map_cons, List.map_nil, builtS, builtinV, pureR, binV, sliceV, pickV, evO, Env.look, find, V.ofConst, resV, resOne, tupV, loadV, fillV, buildV, mkIface, litM, litS, litR, litRows, List.reverse_cons, List.reverse_nil, Nat.reduceMul, appS, memA, appendV, rowsOf, V.cells, TI.sized, TI.known, TI.agg, anL, List.length_cons, List.length_nil, List.append_nil, List.cons_append, List.nil_append, List.drop_succ_cons, List.drop_zero, List.drop_nil, List.take_succ_cons, List.take_zero, List.take_nil, List.getElem?_cons_zero, List.getElem?_cons_succ, List.all_cons, List.all_nil, List.replicate_succ, List.replicate_zero, List.set_cons_zero, List.set_cons_succ, eq_self, true_or, ne_eq, not_false_eq_true, Nat.reduceEqDiff]
    refine ⟨(i + 1, s4, es4), by simp only [next_i64 hlt (show body.length ≤ 9223372036854775807 by omega)]; rfl, rfl, by simp only; omega, by simp only; omega, ?_, (hF1.trans hF2).trans hF4⟩
    simp only
    rw [take_next hget, formsP_snoc]
    exact hU4

theorem c_Compile (p : Part) (st : St) : VCalls Try.prog TT 7 [.agg (encP p)] st fun r s => r = .ret (compV (compileC p)) ∧ s = st :=
  (c_Compile0 p st).freeze fun _ _ h => h
end Go.Proofs.Ytpfdoffnpkokhaa.Gx
