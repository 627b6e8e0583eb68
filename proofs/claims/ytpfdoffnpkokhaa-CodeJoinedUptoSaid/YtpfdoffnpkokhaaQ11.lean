/- The document's code of an expression; adding code to code. Contract: the document's code of an expression. Contract: the document's code of an expression that has kids. Contract: the document's code of an expression: what is set; one behind the other; calls. The document's code of a body, in plain terms. Contracts: when procedures, and units, are the same. -/
import Derived.Test.YtpfdoffnpkokhaaQ10

namespace Go.Proofs.Ytpfdoffnpkokhaa.Gx
open Go Go.Proofs.Ytpfdoffnpkokhaa.Gw
set_option linter.unusedSimpArgs false

/-- The instruction of what is one alone (the document's answer). -/
def oneR : Core → Option Ins
  | .mk k ix n lib own q _ =>
    bif decide (k = 1) then some { op := 1, n := n } else bif decide (k = 2) then some { op := 2, n := n } else bif decide (k = 3) then some { op := 3, quote := bareR q }
    else bif decide (k = 4) then some { op := 4, a := ix } else bif decide (k = 5) then some { op := 5, lib := lib, own := own } else bif decide (k = 6) then some { op := 6, own := own } else none
def addI (out l : List Ins) : List Ins := out ++ l.map (mvI out.length)
theorem addI_len (out l : List Ins) : (addI out l).length = out.length + l.length := by simp [addI]
def setI (k ix : Int) (lib own : Str) : Ins := bif decide (k = 10) then { op := 11, a := ix } else bif decide (k = 11) then { op := 12, lib := lib, own := own } else { op := 13, lib := lib, own := own }

mutual
def genC : Core → List Pr → List Ins × List Pr
  | .mk k ix n lib own q kids, g =>
    match oneR (.mk k ix n lib own q []) with
    | some i => ([i], g)
    | none =>
      bif decide (k = 7) then genIf kids g
      else bif decide (k = 8) then ([{ op := 7, a := g.length }], (genHead kids (g ++ [⟨ix, []⟩])).2.modify g.length fun p => ⟨p.args, (genHead kids (g ++ [⟨ix, []⟩])).1 ++ [{ op := 15 }]⟩)
      else bif decide (k = 12) then genSeq kids true [] g
      else bif decide (k = 9) then ((genCall kids [] g).1 ++ [{ op := 8, a := (kids.length : Int) - 1 }], (genCall kids [] g).2)
      else ((genHead kids g).1 ++ [setI k ix lib own], (genHead kids g).2)
def genHead : List Core → List Pr → List Ins × List Pr
  | [], g => ([], g)
  | c :: _, g => genC c g
def genSeq : List Core → Bool → List Ins → List Pr → List Ins × List Pr
  | [], _, out, g => (out, g)
  | c :: r, first, out, g => genSeq r false (addI (bif first then out else out ++ [{ op := 14 }]) (genC c g).1) (genC c g).2
def genCall : List Core → List Ins → List Pr → List Ins × List Pr
  | [], out, g => (out, g)
  | c :: r, out, g => genCall r (addI out (genC c g).1) (genC c g).2
def genIf : List Core → List Pr → List Ins × List Pr
  | [], g => ([], g)
  | a :: r, g => genThen r (genC a g).1 (genC a g).2
def genThen : List Core → List Ins → List Pr → List Ins × List Pr
  | [], _, g => ([], g)
  | b :: r, x, g => genElse r x (genC b g).1 (genC b g).2
def genElse : List Core → List Ins → List Ins → List Pr → List Ins × List Pr
  | [], _, _, g => ([], g)
  | d :: _, x, y, g =>
    (addI (addI (addI [] x ++ [{ op := 10, a := (x.length : Int) + 1 + y.length + 1 }]) y ++ [{ op := 9, a := (x.length : Int) + 1 + y.length + 1 + (genC d g).1.length }]) (genC d g).1, (genC d g).2)
end

mutual
theorem genC_size : ∀ (c : Core) (g : List Pr), (genC c g).1.length + 1 ≤ 3 * nodesC c ∧ (genC c g).2.length ≤ g.length + nodesC c ∧ g.length ≤ (genC c g).2.length
  | .mk k ix n lib own q kids, g => by
    rw [nodesC]
    unfold genC
    split
    · simp; omega
    · simp only [Bool.cond_eq_ite]
      repeat' split
      · have := genIf_size kids g; omega
      · have := genHead_size kids (g ++ [⟨ix, []⟩])
        simp only [List.length_append, List.length_cons, List.length_nil, List.length_modify] at this ⊢
        omega
      · have := genSeq_size kids true [] g
        simp only [List.length_nil] at this
        omega
      · have := genCall_size kids [] g
        simp only [List.length_append, List.length_cons, List.length_nil] at this ⊢
        omega
      · have := genHead_size kids g
        simp only [List.length_append, List.length_cons, List.length_nil] at this ⊢
        omega
theorem genHead_size : ∀ (l : List Core) (g : List Pr), (genHead l g).1.length ≤ 3 * nodesCs l ∧ (genHead l g).2.length ≤ g.length + nodesCs l ∧ g.length ≤ (genHead l g).2.length
  | [], g => by simp [genHead, nodesCs]
  | c :: r, g => by rw [genHead, nodesCs]; have := genC_size c g; omega
theorem genSeq_size : ∀ (l : List Core) (f : Bool) (out : List Ins) (g : List Pr), (genSeq l f out g).1.length ≤ out.length + 3 * nodesCs l ∧ (genSeq l f out g).2.length ≤ g.length + nodesCs l ∧ g.length ≤ (genSeq l f out g).2.length
  | [], f, out, g => by simp [genSeq, nodesCs]
  | c :: r, f, out, g => by
    rw [genSeq, nodesCs]
    have h1 := genC_size c g
    have h2 := genSeq_size r false (addI (bif f then out else out ++ [{ op := 14 }]) (genC c g).1) (genC c g).2
    rw [addI_len] at h2
    cases f <;> simp only [cond_true, cond_false, List.length_append, List.length_cons, List.length_nil] at h2 ⊢ <;> omega
theorem genCall_size : ∀ (l : List Core) (out : List Ins) (g : List Pr), (genCall l out g).1.length ≤ out.length + 3 * nodesCs l ∧ (genCall l out g).2.length ≤ g.length + nodesCs l ∧ g.length ≤ (genCall l out g).2.length
  | [], out, g => by simp [genCall, nodesCs]
  | c :: r, out, g => by
    rw [genCall, nodesCs]
    have h1 := genC_size c g
    have h2 := genCall_size r (addI out (genC c g).1) (genC c g).2
    rw [addI_len] at h2
    omega
theorem genIf_size : ∀ (l : List Core) (g : List Pr), (genIf l g).1.length ≤ 3 * nodesCs l ∧ (genIf l g).2.length ≤ g.length + nodesCs l ∧ g.length ≤ (genIf l g).2.length
  | [], g => by simp [genIf, nodesCs]
  | a :: r, g => by
    rw [genIf, nodesCs]
    have h1 := genC_size a g
    have h2 := genThen_size r (genC a g).1 (genC a g).2
    omega
theorem genThen_size : ∀ (l : List Core) (x : List Ins) (g : List Pr), (genThen l x g).1.length ≤ x.length + 1 + 3 * nodesCs l ∧ (genThen l x g).2.length ≤ g.length + nodesCs l ∧ g.length ≤ (genThen l x g).2.length
  | [], x, g => by simp [genThen, nodesCs]
  | a :: r, x, g => by
    rw [genThen, nodesCs]
    have h1 := genC_size a g
    have h2 := genElse_size r x (genC a g).1 (genC a g).2
    omega
theorem genElse_size : ∀ (l : List Core) (x y : List Ins) (g : List Pr), (genElse l x y g).1.length ≤ x.length + y.length + 2 + 3 * nodesCs l ∧ (genElse l x y g).2.length ≤ g.length + nodesCs l ∧ g.length ≤ (genElse l x y g).2.length
  | [], x, y, g => by simp [genElse, nodesCs]
  | a :: r, x, y, g => by
    rw [genElse, nodesCs]
    have h1 := genC_size a g
    simp only [addI_len, List.length_append, List.length_cons, List.length_nil]
    omega
end

theorem c_add_nil (s : St) (o : Nat) (l : List Ins) (ho : s[o]? = some (.box [.nils])) (hl : l.length ≤ 1000000000) :
    VCalls Try.prog TT 26 [lstI l, .ptr o 0] s fun r st' => r = .ret (.tup []) ∧ st' = (s ++ [Ent.tip 46 l.length]).set o (.box [.lst 11 (some s.length) ((l.map (mvI 0)).map encI)]) := by
  refine vfunQ TT_ok (an := anL []) (L := [0, 1]) (rs := []) Try.func26 rfl (by kernel_rfl) rfl Try.ntmps26 rfl rfl fun hst ha hf => ?_
  have hO : o < s.length := (List.getElem?_eq_some_iff.1 ho).1
  simp only [decide_true, decide_false, gwL, gwB, gwD, gwE, gwS, gwTT, gwZ, initG, Nat.reduceEqDiff, ↓reduceIte, Nat.reduceAdd, Nat.reduceLT, Nat.reduceLeDiff, List.map_cons, List.map_nil, builtS, builtinV, pureR, binV, sliceV, pickV, evO, Env.look, find, V.ofConst, resV, resOne, tupV, loadV, fillV, buildV, mkIface, litM, litS, litR, litRows, List.reverse_cons, List.reverse_nil, Nat.reduceMul, appS, memA, appendV, rowsOf, V.cells, TI.sized, TI.known, TI.agg, anL, List.length_cons, List.length_nil, List.append_nil, List.cons_append, List.nil_append, List.drop_succ_cons, List.drop_zero, List.drop_nil, List.take_succ_cons, List.take_zero, List.take_nil, List.getElem?_cons_zero, List.getElem?_cons_succ, List.all_cons, List.all_nil, List.replicate_succ, List.replicate_zero, List.set_cons_zero, List.set_cons_succ, eq_self, true_or, ne_eq, not_false_eq_true, Nat.reduceEqDiff]
  refine vdraw TT_ok TT_mixed [1, 0, 1, 0, 0, 2, 2] (by kernel_rfl) ?_
  simp only [decide_true, decide_false, gwL, gwB, gwD, gwE, gwS, gwTT, gwZ, initG, Nat.reduceEqDiff, ↓reduceIte, Nat.reduceAdd, Nat.reduceLT, Nat.reduceLeDiff, List.map_cons, List.map_nil, builtS, builtinV, pureR, binV, sliceV, pickV, evO, Env.look, find, V.ofConst, resV, resOne, tupV, loadV, fillV, buildV, mkIface, litM, litS, litR, litRows, List.reverse_cons, List.reverse_nil, Nat.reduceMul, appS, memA, appendV, rowsOf, V.cells, TI.sized, TI.known, TI.agg, anL, List.length_cons, List.length_nil, List.append_nil, List.cons_append, List.nil_append, List.drop_succ_cons, List.drop_zero, List.drop_nil, List.take_succ_cons, List.take_zero, List.take_nil, List.getElem?_cons_zero, List.getElem?_cons_succ, List.all_cons, List.all_nil, List.replicate_succ, List.replicate_zero, List.set_cons_zero, List.set_cons_succ, eq_self, true_or, ne_eq, not_false_eq_true, Nat.reduceEqDiff, ho, lstI]
  refine eK_free (fun s => c_moved s l 0 hl) (wkL_refl _) ?_
  simp only [decide_true, decide_false, gwL, gwB, gwD, gwE, gwS, gwTT, gwZ, initG, Nat.reduceEqDiff, ↓reduceIte, Nat.reduceAdd, Nat.reduceLT, Nat.reduceLeDiff, List.map_cons, List.map_nil, builtS, builtinV, pureR, binV, sliceV, pickV, evO, Env.look, find, V.ofConst, resV, resOne, tupV, loadV, fillV, buildV, mkIface, litM, litS, litR, litRows, List.reverse_cons, List.reverse_nil, Nat.reduceMul, appS, memA, appendV, rowsOf, V.cells, TI.sized, TI.known, TI.agg, anL, List.length_cons, List.length_nil, List.append_nil, List.cons_append, List.nil_append, List.drop_succ_cons, List.drop_zero, List.drop_nil, List.take_succ_cons, List.take_zero, List.take_nil, List.getElem?_cons_zero, List.getElem?_cons_succ, List.all_cons, List.all_nil, List.replicate_succ, List.replicate_zero, List.set_cons_zero, List.set_cons_succ, eq_self, true_or, ne_eq, not_false_eq_true, Nat.reduceEqDiff, ho, lstI, List.length_map, st_old hO]
  omega
theorem c_add_tip (s : St) (o k : Nat) (out l : List Ins) (ho : s[o]? = some (.box [.lst 11 (some k) (out.map encI)])) (hk : s[k]? = some (.tip 46 out.length)) (hl : l.length ≤ 500000000) (hl2 : out.length ≤ 500000000) :
    VCalls Try.prog TT 26 [lstI l, .ptr o 0] s fun r st' => r = .ret (.tup []) ∧ st' = (s.set k (.tip 46 (addI out l).length)).set o (.box [.lst 11 (some k) ((addI out l).map encI)]) := by
  refine vfunQ TT_ok (an := anL []) (L := [0, 1]) (rs := []) Try.func26 rfl (by kernel_rfl) rfl Try.ntmps26 rfl rfl fun hst ha hf => ?_
  have hO : o < s.length := (List.getElem?_eq_some_iff.1 ho).1
  have hko : k ≠ o := by intro e; subst e; rw [ho] at hk; cases hk
  have ho2 : ∀ X, (s.set k X)[o]? = some (.box [.lst 11 (some k) (out.map encI)]) := fun X => by rw [List.getElem?_set_ne hko, ho]
  simp only [decide_true, decide_false, gwL, gwB, gwD, gwE, gwS, gwTT, gwZ, initG, Nat.reduceEqDiff, ↓reduceIte, Nat.reduceAdd, Nat.reduceLT, Nat.reduceLeDiff, List.map_cons, List.map_nil, builtS, builtinV, pureR, binV, sliceV, pickV, evO, Env.look, find, V.ofConst, resV, resOne, tupV, loadV, fillV, buildV, mkIface, litM, litS, litR, litRows, List.reverse_cons, List.reverse_nil, Nat.reduceMul, appS, memA, appendV, rowsOf, V.cells, TI.sized, TI.known, TI.agg, anL, List.length_cons, List.length_nil, List.append_nil, List.cons_append, List.nil_append, List.drop_succ_cons, List.drop_zero, List.drop_nil, List.take_succ_cons, List.take_zero, List.take_nil, List.getElem?_cons_zero, List.getElem?_cons_succ, List.all_cons, List.all_nil, List.replicate_succ, List.replicate_zero, List.set_cons_zero, List.set_cons_succ, eq_self, true_or, ne_eq, not_false_eq_true, Nat.reduceEqDiff]
  refine vdraw TT_ok TT_mixed [1, 0, 1, 0, 0, 2, 2] (by kernel_rfl) ?_
  simp only [decide_true, decide_false, gwL, gwB, gwD, gwE, gwS, gwTT, gwZ, initG, Nat.reduceEqDiff, ↓reduceIte, Nat.reduceAdd, Nat.reduceLT, Nat.reduceLeDiff, List.map_cons, List.map_nil, builtS, builtinV, pureR, binV, sliceV, pickV, evO, Env.look, find, V.ofConst, resV, resOne, tupV, loadV, fillV, buildV, mkIface, litM, litS, litR, litRows, List.reverse_cons, List.reverse_nil, Nat.reduceMul, appS, memA, appendV, rowsOf, V.cells, TI.sized, TI.known, TI.agg, anL, List.length_cons, List.length_nil, List.append_nil, List.cons_append, List.nil_append, List.drop_succ_cons, List.drop_zero, List.drop_nil, List.take_succ_cons, List.take_zero, List.take_nil, List.getElem?_cons_zero, List.getElem?_cons_succ, List.all_cons, List.all_nil, List.replicate_succ, List.replicate_zero, List.set_cons_zero, List.set_cons_succ, eq_self, true_or, ne_eq, not_false_eq_true, Nat.reduceEqDiff, ho, hk, lstI, List.length_map]
  refine eK_free (fun s => c_moved s l out.length (by omega)) (wkL_refl _) ?_
  simp only [decide_true, decide_false, gwL, gwB, gwD, gwE, gwS, gwTT, gwZ, initG, Nat.reduceEqDiff, ↓reduceIte, Nat.reduceAdd, Nat.reduceLT, Nat.reduceLeDiff, List.map_cons, List.map_nil, builtS, builtinV, pureR, binV, sliceV, pickV, evO, Env.look, find, V.ofConst, resV, resOne, tupV, loadV, fillV, buildV, mkIface, litM, litS, litR, litRows, List.reverse_cons, List.reverse_nil, Nat.reduceMul, appS, memA, appendV, rowsOf, V.cells, TI.sized, TI.known, TI.agg, anL, List.length_cons, List.length_nil, List.append_nil, List.cons_append, List.nil_append, List.drop_succ_cons, List.drop_zero, List.drop_nil, List.take_succ_cons, List.take_zero, List.take_nil, List.getElem?_cons_zero, List.getElem?_cons_succ, List.all_cons, List.all_nil, List.replicate_succ, List.replicate_zero, List.set_cons_zero, List.set_cons_succ, eq_self, true_or, ne_eq, not_false_eq_true, Nat.reduceEqDiff, ho, ho2, hk, lstI, List.length_map]
  refine ⟨by omega, ?_⟩
  simp only [addI, List.map_append, List.length_append, List.length_map]
end Go.Proofs.Ytpfdoffnpkokhaa.Gx

namespace Go.Proofs.Ytpfdoffnpkokhaa.Gx
open Go Go.Proofs.Ytpfdoffnpkokhaa.Gw
set_option linter.unusedSimpArgs false

/-- The document's procedures so far, as they lie. -/
structure GS (s : St) (b P q : Nat) (ps : List Pr) : Prop where
  box : s[b]? = some (.box [.arr P ps.length, .lst 1 (some q) (ps.map fun p => [V.int .i64 p.args])])
  arr : s[P]? = some (.arr 42 1 (ps.map fun p => [lstI p.code]))
  tip : s[q]? = some (.tip 3 ps.length)
/-- What is left as it is. -/
def Kp (X : Nat → Prop) (s s' : St) : Prop := s.length ≤ s'.length ∧ ∀ j : Nat, j < s.length → ¬ X j → s'[j]? = s[j]?
theorem Kp.refl (X : Nat → Prop) (s : St) : Kp X s s := ⟨Nat.le_refl _, fun _ _ _ => rfl⟩
theorem Kp.trans {X : Nat → Prop} {s s' s'' : St} (h : Kp X s s') (k : Kp X s' s'') : Kp X s s'' := ⟨Nat.le_trans h.1 k.1, fun j h1 h2 => by rw [k.2 j (Nat.lt_of_lt_of_le h1 h.1) h2, h.2 j h1 h2]⟩
theorem Kp.app {X : Nat → Prop} {s s' ex : St} (h : Kp X (s ++ ex) s') : Kp X s s' := ⟨by have := h.1; rw [List.length_append] at this; omega, fun j h1 h2 => by rw [h.2 j (by rw [List.length_append]; omega) h2, st_old h1]⟩
theorem Kp.mono {X Y : Nat → Prop} {s s' : St} (h : Kp X s s') (hm : ∀ j, j < s.length → X j → Y j) : Kp Y s s' := ⟨h.1, fun j h1 h2 => h.2 j h1 fun h => h2 (hm j h1 h)⟩
theorem Kp.then {X Y : Nat → Prop} {s s' s'' : St} (h : Kp X s s') (k : Kp Y s' s'') (hy : ∀ j, j < s.length → Y j → X j) : Kp X s s'' :=
  ⟨Nat.le_trans h.1 k.1, fun j h1 h2 => by rw [k.2 j (Nat.lt_of_lt_of_le h1 h.1) (fun e => h2 (hy j h1 e)), h.2 j h1 h2]⟩
def isG (b P q : Nat) : Nat → Prop := fun j => j = b ∨ j = P ∨ j = q
theorem GS.app {s : St} {b P q : Nat} {ps : List Pr} (h : GS s b P q ps) (ex : St) : GS (s ++ ex) b P q ps := by
  have g : ∀ {j : Nat} {e : Ent}, s[j]? = some e → (s ++ ex)[j]? = some e := fun {j e} hj => by rw [st_old (List.getElem?_eq_some_iff.1 hj).1, hj]
  exact ⟨g h.box, g h.arr, g h.tip⟩
theorem GS.keep {s s' : St} {b P q : Nat} {ps : List Pr} {X : Nat → Prop} (h : GS s b P q ps) (k : Kp X s s') (hb : ¬ X b) (hP : ¬ X P) (hq : ¬ X q) : GS s' b P q ps := by
  have g : ∀ {j : Nat} {e : Ent}, ¬ X j → s[j]? = some e → s'[j]? = some e := fun {j e} hx hj => by rw [k.2 j (List.getElem?_eq_some_iff.1 hj).1 hx, hj]
  exact ⟨g hb h.box, g hP h.arr, g hq h.tip⟩
theorem GS.lt {s : St} {b P q : Nat} {ps : List Pr} (h : GS s b P q ps) : b < s.length ∧ P < s.length ∧ q < s.length :=
  ⟨(List.getElem?_eq_some_iff.1 h.box).1, (List.getElem?_eq_some_iff.1 h.arr).1, (List.getElem?_eq_some_iff.1 h.tip).1⟩
theorem GS.ne {s : St} {b P q : Nat} {ps : List Pr} (h : GS s b P q ps) : b ≠ P ∧ b ≠ q ∧ P ≠ q := by
  refine ⟨fun e => ?_, fun e => ?_, fun e => ?_⟩
  · subst e; have := h.box; rw [h.arr] at this; cases this
  · subst e; have := h.box; rw [h.tip] at this; cases this
  · subst e; have := h.arr; rw [h.tip] at this; cases this
/-- Code that grows, in a box. -/
structure OT (s : St) (o k : Nat) (out : List Ins) : Prop where
  box : s[o]? = some (.box [.lst 11 (some k) (out.map encI)])
  tip : s[k]? = some (.tip 46 out.length)
theorem OT.ne {s : St} {o k : Nat} {out : List Ins} (h : OT s o k out) : k ≠ o := by intro e; subst e; have := h.box; rw [h.tip] at this; cases this
theorem OT.keep {s s' : St} {o k : Nat} {out : List Ins} {X : Nat → Prop} (h : OT s o k out) (kp : Kp X s s') (ho : ¬ X o) (hk : ¬ X k) : OT s' o k out := by
  have g : ∀ {j : Nat} {e : Ent}, ¬ X j → s[j]? = some e → s'[j]? = some e := fun {j e} hx hj => by rw [kp.2 j (List.getElem?_eq_some_iff.1 hj).1 hx, hj]
  exact ⟨g ho h.box, g hk h.tip⟩
theorem OT.lt {s : St} {o k : Nat} {out : List Ins} (h : OT s o k out) : o < s.length ∧ k < s.length := ⟨(List.getElem?_eq_some_iff.1 h.box).1, (List.getElem?_eq_some_iff.1 h.tip).1⟩
/-- The code that grows is another one. -/
theorem OT.put {s : St} {o k : Nat} {out : List Ins} (h : OT s o k out) (out' : List Ins) :
    OT ((s.set k (.tip 46 out'.length)).set o (.box [.lst 11 (some k) (out'.map encI)])) o k out' ∧ Kp (fun j => j = o ∨ j = k) s ((s.set k (.tip 46 out'.length)).set o (.box [.lst 11 (some k) (out'.map encI)])) := by
  have hn := h.ne
  obtain ⟨l1, l2⟩ := h.lt
  refine ⟨⟨List.getElem?_set_self (by rw [List.length_set]; exact l1), ?_⟩, by simp, fun j _ hj => ?_⟩
  · rw [List.getElem?_set_ne (Ne.symm hn), List.getElem?_set_self l2]
  · rw [List.getElem?_set_ne (fun e => hj (.inl e.symm)), List.getElem?_set_ne (fun e => hj (.inr e.symm))]
theorem OT.push {s : St} {o k : Nat} {out : List Ins} (h : OT s o k out) (i : Ins) :
    OT ((s.set k (.tip 46 (out.length + 1))).set o (.box [.lst 11 (some k) ((out ++ [i]).map encI)])) o k (out ++ [i]) ∧ Kp (fun j => j = o ∨ j = k) s ((s.set k (.tip 46 (out.length + 1))).set o (.box [.lst 11 (some k) ((out ++ [i]).map encI)])) := by
  have := h.put (out ++ [i])
  simp only [List.length_append, List.length_cons, List.length_nil] at this
  exact this
theorem wkR_snoc {α : Type} {f : α → List V} {p : Nat → Prop} {l : List V} {a : α} (h : wkLp p l (f a)) : ∀ m : List α, wkRp p (m.map f ++ [l]) ((m ++ [a]).map f)
  | [] => by simp only [List.map_nil, List.nil_append, List.map_cons, wkRp]; exact ⟨_, _, rfl, h, rfl⟩
  | x :: m => by simp only [List.map_cons, List.cons_append, wkRp]; exact ⟨_, _, rfl, wkL_refl _, wkR_snoc h m⟩

theorem c_addN (s : St) (o : Nat) (ho : s[o]? = some (.box [.nils])) (l : List Ins) (hl : l.length ≤ 1000000000) :
    VCalls Try.prog TT 26 [lstI l, .ptr o 0] s fun r st' => r = .ret (.tup []) ∧ OT st' o s.length (addI [] l) ∧ Kp (fun j => j = o) s st' := by
  refine (c_add_nil s o l ho hl).mono fun r st' ⟨h1, h2⟩ => ⟨h1, ?_⟩
  have hO : o < s.length := (List.getElem?_eq_some_iff.1 ho).1
  subst h2
  refine ⟨⟨?_, ?_⟩, by simp, fun j h1 h2 => ?_⟩
  · rw [List.getElem?_set_self (by simp; omega)]; rfl
  · rw [List.getElem?_set_ne (by omega), List.getElem?_append_right (Nat.le_refl _), Nat.sub_self]; simp [addI]
  · rw [List.getElem?_set_ne (fun e => h2 e.symm), st_old h1]
theorem c_addT (s : St) (o k : Nat) (out l : List Ins) (h : OT s o k out) (hl : l.length ≤ 500000000) (hl2 : out.length ≤ 500000000) :
    VCalls Try.prog TT 26 [lstI l, .ptr o 0] s fun r st' => r = .ret (.tup []) ∧ OT st' o k (addI out l) ∧ Kp (fun j => j = o ∨ j = k) s st' := by
  refine (c_add_tip s o k out l h.box h.tip hl hl2).mono fun r st' ⟨h1, h2⟩ => ⟨h1, ?_⟩
  subst h2
  exact h.put (addI out l)

def PCode (c : Core) : Prop := okC c → ∀ (s : St) (b P q : Nat) (ps : List Pr), GS s b P q ps → nodesC c ≤ 1000000 → ps.length + nodesC c ≤ 1000000000 →
  VCalls Try.prog TT 19 [.ptr b 0, .agg (encC c)] s fun r st' => ∃ o, r = .ret (.lst 11 (some o) ((genC c ps).1.map encI)) ∧ s.length ≤ o ∧ st'[o]? = some (.tip 46 (genC c ps).1.length) ∧ GS st' b P q (genC c ps).2 ∧ Kp (isG b P q) s st'

set_option maxRecDepth 20000 in
set_option maxHeartbeats 8000000 in
theorem c_code_one (k ix n : Int) (lb ow : Str) (qd : Datum) (kids : List Core) (hk : k = 1 ∨ k = 2 ∨ k = 3 ∨ k = 4 ∨ k = 5 ∨ k = 6) : PCode (.mk k ix n lb ow qd kids) := by
  intro hok s b P q ps hG hn hp
  rw [okC] at hok
  obtain ⟨-, -, hq, -⟩ := hok
  refine VCalls.relax ?_
  have fin : ∀ (i : Ins) (row : List V), wkL row (encI i) → oneR (.mk k ix n lb ow qd []) = some i → ∃ v X s', VEnd.ret (.lst 11 (some (s.length + 1)) [row]) = .ret v ∧ wk v X ∧ wkSt (s ++ [Ent.box [.nils], Ent.tip 46 1]) s' ∧
      ∃ o, VEnd.ret X = .ret (.lst 11 (some o) ((genC (.mk k ix n lb ow qd kids) ps).1.map encI)) ∧ s.length ≤ o ∧ s'[o]? = some (.tip 46 (genC (.mk k ix n lb ow qd kids) ps).1.length) ∧ GS s' b P q (genC (.mk k ix n lb ow qd kids) ps).2 ∧ Kp (isG b P q) s s' := by
    intro i row hw hi
    have e : genC (.mk k ix n lb ow qd kids) ps = ([i], ps) := by rw [genC, hi]
    rw [e]
    refine ⟨_, .lst 11 (some (s.length + 1)) [encI i], _, rfl, wk_lst_same ?_, wkSt_refl _, s.length + 1, rfl, by omega, ?_, hG.app _, (Kp.refl _ _).app⟩
    · simp only [wkRp]; exact ⟨_, _, rfl, hw, rfl⟩
    · rw [List.getElem?_append_right (by omega)]; simp
  refine vfunQ TT_ok (an := anL [(3, 1), (24, 1), (30, 1), (37, 1), (43, 1), (51, 1), (57, 1), (158, 1)]) (L := [0, 1, 3, 4, 5, 6, 7, 8, 9, 10, 11, 12, 13, 15, 18, 162, 163, 164, 185, 186, 187, 212]) (rs := [.tmp 4]) Try.func19 rfl (by kernel_rfl) rfl Try.ntmps19 rfl rfl fun hst ha hf => ?_
  simp only [encC_mk]
  rcases hk with rfl | rfl | rfl | rfl | rfl | rfl
  · simp only [decide_true, decide_false, gwL, gwB, gwD, gwE, gwS, gwTT, gwZ, initG, Nat.reduceEqDiff, ↓reduceIte, Nat.reduceAdd, Nat.reduceLT, Nat.reduceLeDiff, List.map_cons, List.map_nil, builtS, builtinV, pureR, binV, sliceV, pickV, evO, Env.look, find, V.ofConst, resV, resOne, tupV, loadV, fillV, buildV, mkIface, litM, litS, litR, litRows, List.reverse_cons, List.reverse_nil, Nat.reduceMul, appS, memA, appendV, rowsOf, V.cells, TI.sized, TI.known, TI.agg, anL, List.length_cons, List.length_nil, List.append_nil, List.cons_append, List.nil_append, List.drop_succ_cons, List.drop_zero, List.drop_nil, List.take_succ_cons, List.take_zero, List.take_nil, List.getElem?_cons_zero, List.getElem?_cons_succ, List.all_cons, List.all_nil, List.replicate_succ, List.replicate_zero, List.set_cons_zero, List.set_cons_succ, eq_self, true_or, ne_eq, not_false_eq_true, Nat.reduceEqDiff, Int.reduceEq, encD_drop_app]
    exact fin _ _ (wk_ins ..) (by simp [oneR])
  · simp only [decide_true, decide_false, gwL, gwB, gwD, gwE, gwS, gwTT, gwZ, initG, Nat.reduceEqDiff, ↓reduceIte, Nat.reduceAdd, Nat.reduceLT, Nat.reduceLeDiff, List.map_cons, List.map_nil, builtS, builtinV, pureR, binV, sliceV, pickV, evO, Env.look, find, V.ofConst, resV, resOne, tupV, loadV, fillV, buildV, mkIface, litM, litS, litR, litRows, List.reverse_cons, List.reverse_nil, Nat.reduceMul, appS, memA, appendV, rowsOf, V.cells, TI.sized, TI.known, TI.agg, anL, List.length_cons, List.length_nil, List.append_nil, List.cons_append, List.nil_append, List.drop_succ_cons, List.drop_zero, List.drop_nil, List.take_succ_cons, List.take_zero, List.take_nil, List.getElem?_cons_zero, List.getElem?_cons_succ, List.all_cons, List.all_nil, List.replicate_succ, List.replicate_zero, List.set_cons_zero, List.set_cons_succ, eq_self, true_or, ne_eq, not_false_eq_true, Nat.reduceEqDiff, Int.reduceEq, encD_drop_app]
    exact fin _ _ (wk_ins ..) (by simp [oneR])
  · simp only [decide_true, decide_false, gwL, gwB, gwD, gwE, gwS, gwTT, gwZ, initG, Nat.reduceEqDiff, ↓reduceIte, Nat.reduceAdd, Nat.reduceLT, Nat.reduceLeDiff, List.map_cons, List.map_nil, builtS, builtinV, pureR, binV, sliceV, pickV, evO, Env.look, find, V.ofConst, resV, resOne, tupV, loadV, fillV, buildV, mkIface, litM, litS, litR, litRows, List.reverse_cons, List.reverse_nil, Nat.reduceMul, appS, memA, appendV, rowsOf, V.cells, TI.sized, TI.known, TI.agg, anL, List.length_cons, List.length_nil, List.append_nil, List.cons_append, List.nil_append, List.drop_succ_cons, List.drop_zero, List.drop_nil, List.take_succ_cons, List.take_zero, List.take_nil, List.getElem?_cons_zero, List.getElem?_cons_succ, List.all_cons, List.all_nil, List.replicate_succ, List.replicate_zero, List.set_cons_zero, List.set_cons_succ, eq_self, true_or, ne_eq, not_false_eq_true, Nat.reduceEqDiff, Int.reduceEq, encD_drop_app, encD_take_app, encD_len_app]
    refine (c_ref_Bare qd (goodD_small qd (hq rfl)) _).use (wkL_refl _) fun _ => ?_
    simp only [decide_true, decide_false, gwL, gwB, gwD, gwE, gwS, gwTT, gwZ, initG, Nat.reduceEqDiff, ↓reduceIte, Nat.reduceAdd, Nat.reduceLT, Nat.reduceLeDiff, List.map_cons, List.map_nil, builtS, builtinV, pureR, binV, sliceV, pickV, evO, Env.look, find, V.ofConst, resV, resOne, tupV, loadV, fillV, buildV, mkIface, litM, litS, litR, litRows, List.reverse_cons, List.reverse_nil, Nat.reduceMul, appS, memA, appendV, rowsOf, V.cells, TI.sized, TI.known, TI.agg, anL, List.length_cons, List.length_nil, List.append_nil, List.cons_append, List.nil_append, List.drop_succ_cons, List.drop_zero, List.drop_nil, List.take_succ_cons, List.take_zero, List.take_nil, List.getElem?_cons_zero, List.getElem?_cons_succ, List.all_cons, List.all_nil, List.replicate_succ, List.replicate_zero, List.set_cons_zero, List.set_cons_succ, eq_self, true_or, ne_eq, not_false_eq_true, Nat.reduceEqDiff, encD_take, encD_drop, encD_len]
    exact fin { op := 3, quote := bareR qd } _ (wkL_refl _) (by simp [oneR])
  · simp only [decide_true, decide_false, gwL, gwB, gwD, gwE, gwS, gwTT, gwZ, initG, Nat.reduceEqDiff, ↓reduceIte, Nat.reduceAdd, Nat.reduceLT, Nat.reduceLeDiff, List.map_cons, List.map_nil, builtS, builtinV, pureR, binV, sliceV, pickV, evO, Env.look, find, V.ofConst, resV, resOne, tupV, loadV, fillV, buildV, mkIface, litM, litS, litR, litRows, List.reverse_cons, List.reverse_nil, Nat.reduceMul, appS, memA, appendV, rowsOf, V.cells, TI.sized, TI.known, TI.agg, anL, List.length_cons, List.length_nil, List.append_nil, List.cons_append, List.nil_append, List.drop_succ_cons, List.drop_zero, List.drop_nil, List.take_succ_cons, List.take_zero, List.take_nil, List.getElem?_cons_zero, List.getElem?_cons_succ, List.all_cons, List.all_nil, List.replicate_succ, List.replicate_zero, List.set_cons_zero, List.set_cons_succ, eq_self, true_or, ne_eq, not_false_eq_true, Nat.reduceEqDiff, Int.reduceEq, encD_drop_app]
    exact fin _ _ (wk_ins ..) (by simp [oneR])
  · simp only [decide_true, decide_false, gwL, gwB, gwD, gwE, gwS, gwTT, gwZ, initG, Nat.reduceEqDiff, ↓reduceIte, Nat.reduceAdd, Nat.reduceLT, Nat.reduceLeDiff, List.map_cons, List.map_nil, builtS, builtinV, pureR, binV, sliceV, pickV, evO, Env.look, find, V.ofConst, resV, resOne, tupV, loadV, fillV, buildV, mkIface, litM, litS, litR, litRows, List.reverse_cons, List.reverse_nil, Nat.reduceMul, appS, memA, appendV, rowsOf, V.cells, TI.sized, TI.known, TI.agg, anL, List.length_cons, List.length_nil, List.append_nil, List.cons_append, List.nil_append, List.drop_succ_cons, List.drop_zero, List.drop_nil, List.take_succ_cons, List.take_zero, List.take_nil, List.getElem?_cons_zero, List.getElem?_cons_succ, List.all_cons, List.all_nil, List.replicate_succ, List.replicate_zero, List.set_cons_zero, List.set_cons_succ, eq_self, true_or, ne_eq, not_false_eq_true, Nat.reduceEqDiff, Int.reduceEq, encD_drop_app]
    exact fin _ _ (wk_ins ..) (by simp [oneR])
  · simp only [decide_true, decide_false, gwL, gwB, gwD, gwE, gwS, gwTT, gwZ, initG, Nat.reduceEqDiff, ↓reduceIte, Nat.reduceAdd, Nat.reduceLT, Nat.reduceLeDiff, List.map_cons, List.map_nil, builtS, builtinV, pureR, binV, sliceV, pickV, evO, Env.look, find, V.ofConst, resV, resOne, tupV, loadV, fillV, buildV, mkIface, litM, litS, litR, litRows, List.reverse_cons, List.reverse_nil, Nat.reduceMul, appS, memA, appendV, rowsOf, V.cells, TI.sized, TI.known, TI.agg, anL, List.length_cons, List.length_nil, List.append_nil, List.cons_append, List.nil_append, List.drop_succ_cons, List.drop_zero, List.drop_nil, List.take_succ_cons, List.take_zero, List.take_nil, List.getElem?_cons_zero, List.getElem?_cons_succ, List.all_cons, List.all_nil, List.replicate_succ, List.replicate_zero, List.set_cons_zero, List.set_cons_succ, eq_self, true_or, ne_eq, not_false_eq_true, Nat.reduceEqDiff, Int.reduceEq, encD_drop_app]
    exact fin _ _ (wk_ins ..) (by simp [oneR])
end Go.Proofs.Ytpfdoffnpkokhaa.Gx

namespace Go.Proofs.Ytpfdoffnpkokhaa.Gx
open Go Go.Proofs.Ytpfdoffnpkokhaa.Gw
set_option linter.unusedSimpArgs false

theorem genC_if (ix n : Int) (lb ow : Str) (qd : Datum) (kids : List Core) (ps : List Pr) : genC (.mk 7 ix n lb ow qd kids) ps = genIf kids ps := by
  rw [genC]; simp [oneR]
theorem wk_push {s : St} {o k n : Nat} {l : List V} {i : Ins} {out : List Ins} (h : wkL l (encI i)) :
    wkSt ((s.set k (.tip 46 n)).set o (.box [.lst 11 (some k) (out.map encI ++ [l])])) ((s.set k (.tip 46 n)).set o (.box [.lst 11 (some k) ((out ++ [i]).map encI)])) :=
  (wkSt_refl _).set (Ent.wk_box (wkL_cons (wk_lst_same (wkR_snoc h _)) wkL_nil))

set_option maxRecDepth 20000 in
set_option maxHeartbeats 8000000 in
theorem c_code_if (ix n : Int) (lb ow : Str) (qd : Datum) (x y z : Core) (ihx : PCode x) (ihy : PCode y) (ihz : PCode z) : PCode (.mk 7 ix n lb ow qd [x, y, z]) := by
  intro hok s b P q ps hG hn hp
  rw [okC, okCs, okCs, okCs] at hok
  obtain ⟨-, -, -, hx, hy, hz, -⟩ := hok
  rw [genC_if, genIf, genThen, genElse]
  simp only [nodesC, nodesCs] at hn hp
  obtain ⟨a1, a2, a3⟩ := genC_size x ps
  obtain ⟨b1, b2, b3⟩ := genC_size y (genC x ps).2
  obtain ⟨d1, d2, d3⟩ := genC_size z (genC y (genC x ps).2).2
  generalize hA : genC x ps = A at a1 a2 a3 b1 b2 b3 d1 d2 d3 ⊢
  generalize hB : genC y A.2 = B at b1 b2 b3 d1 d2 d3 ⊢
  generalize hD : genC z B.2 = D at d1 d2 d3 ⊢
  obtain ⟨hlb, hlP, hlq⟩ := hG.lt
  refine vfunQ TT_ok (an := anL [(3, 1), (24, 1), (30, 1), (37, 1), (43, 1), (51, 1), (57, 1), (158, 1)]) (L := [0, 1, 3, 4, 5, 6, 7, 8, 9, 10, 11, 12, 13, 15, 18, 162, 163, 164, 185, 186, 187, 212]) (rs := [.tmp 4]) Try.func19 rfl (by kernel_rfl) rfl Try.ntmps19 rfl rfl fun hst ha hf => ?_
  simp only [encC_mk]
  have g0 : [encC x, encC y, encC z].getD (Int.toNat 0) [] = encC x := rfl
  have g1 : [encC x, encC y, encC z].getD (Int.toNat 1) [] = encC y := rfl
  have g2 : [encC x, encC y, encC z].getD (Int.toNat 2) [] = encC z := rfl
  simp only [decide_true, decide_false, gwL, gwB, gwD, gwE, gwS, gwTT, gwZ, initG, Nat.reduceEqDiff, ↓reduceIte, Nat.reduceAdd, Nat.reduceLT, Nat.reduceLeDiff, List.map_cons, List.map_nil, builtS, builtinV, pureR, binV, sliceV, pickV, evO, Env.look, find, V.ofConst, resV, resOne, tupV, loadV, fillV, buildV, mkIface, litM, litS, litR, litRows, List.reverse_cons, List.reverse_nil, Nat.reduceMul, appS, memA, appendV, rowsOf, V.cells, TI.sized, TI.known, TI.agg, anL, List.length_cons, List.length_nil, List.append_nil, List.cons_append, List.nil_append, List.drop_succ_cons, List.drop_zero, List.drop_nil, List.take_succ_cons, List.take_zero, List.take_nil, List.getElem?_cons_zero, List.getElem?_cons_succ, List.all_cons, List.all_nil, List.replicate_succ, List.replicate_zero, List.set_cons_zero, List.set_cons_succ, eq_self, true_or, ne_eq, not_false_eq_true, Nat.reduceEqDiff, Int.reduceEq, encD_drop_app, g0, encC_take, encC_len]
  refine ⟨by decide, ?_⟩
  refine useQS (ihx hx _ b P q ps (hG.app _) (by omega) (by omega)) (wkL_refl _) (wkSt_refl _) (by rintro v s' ⟨o, h, _⟩; cases h) ?_
  rintro X s1 hX ⟨o1, hX', ho1, htip1, hG1, hK1⟩
  cases hX'
  rw [hA] at hG1 ⊢
  simp only [decide_true, decide_false, gwL, gwB, gwD, gwE, gwS, gwTT, gwZ, initG, Nat.reduceEqDiff, ↓reduceIte, Nat.reduceAdd, Nat.reduceLT, Nat.reduceLeDiff, List.map_cons, List.map_nil, builtS, builtinV, pureR, binV, sliceV, pickV, evO, Env.look, find, V.ofConst, resV, resOne, tupV, loadV, fillV, buildV, mkIface, litM, litS, litR, litRows, List.reverse_cons, List.reverse_nil, Nat.reduceMul, appS, memA, appendV, rowsOf, V.cells, TI.sized, TI.known, TI.agg, anL, List.length_cons, List.length_nil, List.append_nil, List.cons_append, List.nil_append, List.drop_succ_cons, List.drop_zero, List.drop_nil, List.take_succ_cons, List.take_zero, List.take_nil, List.getElem?_cons_zero, List.getElem?_cons_succ, List.all_cons, List.all_nil, List.replicate_succ, List.replicate_zero, List.set_cons_zero, List.set_cons_succ, eq_self, true_or, ne_eq, not_false_eq_true, Nat.reduceEqDiff, Int.reduceEq, encD_drop_app, g1, encC_take, encC_len]
  refine ⟨by decide, ?_⟩
  refine useQS (ihy hy _ b P q _ hG1 (by omega) (by omega)) (wkL_refl _) (wkSt_refl _) (by rintro v s' ⟨o, h, _⟩; cases h) ?_
  rintro X s2 hX ⟨o2, hX', ho2, htip2, hG2, hK2⟩
  cases hX'
  rw [hB] at hG2 ⊢
  simp only [decide_true, decide_false, gwL, gwB, gwD, gwE, gwS, gwTT, gwZ, initG, Nat.reduceEqDiff, ↓reduceIte, Nat.reduceAdd, Nat.reduceLT, Nat.reduceLeDiff, List.map_cons, List.map_nil, builtS, builtinV, pureR, binV, sliceV, pickV, evO, Env.look, find, V.ofConst, resV, resOne, tupV, loadV, fillV, buildV, mkIface, litM, litS, litR, litRows, List.reverse_cons, List.reverse_nil, Nat.reduceMul, appS, memA, appendV, rowsOf, V.cells, TI.sized, TI.known, TI.agg, anL, List.length_cons, List.length_nil, List.append_nil, List.cons_append, List.nil_append, List.drop_succ_cons, List.drop_zero, List.drop_nil, List.take_succ_cons, List.take_zero, List.take_nil, List.getElem?_cons_zero, List.getElem?_cons_succ, List.all_cons, List.all_nil, List.replicate_succ, List.replicate_zero, List.set_cons_zero, List.set_cons_succ, eq_self, true_or, ne_eq, not_false_eq_true, Nat.reduceEqDiff, Int.reduceEq, encD_drop_app, g2, encC_take, encC_len]
  refine ⟨by decide, ?_⟩
  refine useQS (ihz hz _ b P q _ hG2 (by omega) (by omega)) (wkL_refl _) (wkSt_refl _) (by rintro v s' ⟨o, h, _⟩; cases h) ?_
  rintro X s3 hX ⟨o3, hX', ho3, htip3, hG3, hK3⟩
  cases hX'
  rw [hD] at hG3 ⊢
  have hK := (hK1.trans hK2).trans hK3
  have hl3 := hK.1
  rw [List.length_append] at hl3
  simp only [List.length_cons, List.length_nil] at hl3
  have hob : s3[s.length]? = some (.box [.nils]) := by
    rw [hK.2 s.length (by simp) (by rintro (h | h | h) <;> omega)]
    simp only [gwL]
  simp only [decide_true, decide_false, gwL, gwB, gwD, gwE, gwS, gwTT, gwZ, initG, Nat.reduceEqDiff, ↓reduceIte, Nat.reduceAdd, Nat.reduceLT, Nat.reduceLeDiff, List.map_cons, List.map_nil, builtS, builtinV, pureR, binV, sliceV, pickV, evO, Env.look, find, V.ofConst, resV, resOne, tupV, loadV, fillV, buildV, mkIface, litM, litS, litR, litRows, List.reverse_cons, List.reverse_nil, Nat.reduceMul, appS, memA, appendV, rowsOf, V.cells, TI.sized, TI.known, TI.agg, anL, List.length_cons, List.length_nil, List.append_nil, List.cons_append, List.nil_append, List.drop_succ_cons, List.drop_zero, List.drop_nil, List.take_succ_cons, List.take_zero, List.take_nil, List.getElem?_cons_zero, List.getElem?_cons_succ, List.all_cons, List.all_nil, List.replicate_succ, List.replicate_zero, List.set_cons_zero, List.set_cons_succ, eq_self, true_or, ne_eq, not_false_eq_true, Nat.reduceEqDiff]
  refine useQS (c_addN s3 s.length hob A.1 (by omega)) (wkL_cons (wk_tok ..) (wkL_refl _)) (wkSt_refl _) (by rintro v s' ⟨h, _⟩; cases h) ?_
  rintro X s4 hX ⟨hX', hO4, hK4⟩
  cases hX'
  have hbx : ∀ X, (s4.set s3.length X)[s.length]? = some (.box [.lst 11 (some s3.length) ((addI [] A.1).map encI)]) := fun X => by rw [List.getElem?_set_ne hO4.ne, hO4.box]
  have hal := addI_len [] A.1
  simp only [List.length_nil] at hal
  have w1 := wrap_i64 (n := (A.1.length : Int) + 1) (by omega) (by omega)
  have w2 := wrap_i64 (n := (A.1.length : Int) + 1 + B.1.length) (by omega) (by omega)
  have w3 := wrap_i64 (n := (A.1.length : Int) + 1 + B.1.length + 1) (by omega) (by omega)
  have w4 := wrap_i64 (n := (A.1.length : Int) + 1 + B.1.length + 1 + D.1.length) (by omega) (by omega)
  simp only [decide_true, decide_false, gwL, gwB, gwD, gwE, gwS, gwTT, gwZ, initG, Nat.reduceEqDiff, ↓reduceIte, Nat.reduceAdd, Nat.reduceLT, Nat.reduceLeDiff, List.map_cons, List.map_nil, builtS, builtinV, pureR, binV, sliceV, pickV, evO, Env.look, find, V.ofConst, resV, resOne, tupV, loadV, fillV, buildV, mkIface, litM, litS, litR, litRows, List.reverse_cons, List.reverse_nil, Nat.reduceMul, appS, memA, appendV, rowsOf, V.cells, TI.sized, TI.known, TI.agg, anL, List.length_cons, List.length_nil, List.append_nil, List.cons_append, List.nil_append, List.drop_succ_cons, List.drop_zero, List.drop_nil, List.take_succ_cons, List.take_zero, List.take_nil, List.getElem?_cons_zero, List.getElem?_cons_succ, List.all_cons, List.all_nil, List.replicate_succ, List.replicate_zero, List.set_cons_zero, List.set_cons_succ, eq_self, true_or, ne_eq, not_false_eq_true, Nat.reduceEqDiff, hO4.box, hO4.tip, hbx, List.length_map, w1, w2, w3]
  obtain ⟨hO5, hK5⟩ := hO4.push { op := 10, a := (A.1.length : Int) + 1 + B.1.length + 1 }
  refine ⟨by omega, ?_⟩
  refine useQS (c_addT _ s.length s3.length _ B.1 hO5 (by omega) (by simp; omega)) (wkL_cons (wk_tok ..) (wkL_refl _)) (wk_push (wk_ins ..)) (by rintro v s' ⟨h, _⟩; cases h) ?_
  rintro X s6 hX ⟨hX', hO6, hK6⟩
  cases hX'
  have hbx6 : ∀ X, (s6.set s3.length X)[s.length]? = some (.box [.lst 11 (some s3.length) ((addI (addI [] A.1 ++ [{ op := 10, a := (A.1.length : Int) + 1 + B.1.length + 1 }]) B.1).map encI)]) := fun X => by rw [List.getElem?_set_ne hO6.ne, hO6.box]
  have hal6 := addI_len (addI [] A.1 ++ [{ op := 10, a := (A.1.length : Int) + 1 + B.1.length + 1 }]) B.1
  simp only [List.length_append, List.length_cons, List.length_nil] at hal6
  simp only [decide_true, decide_false, gwL, gwB, gwD, gwE, gwS, gwTT, gwZ, initG, Nat.reduceEqDiff, ↓reduceIte, Nat.reduceAdd, Nat.reduceLT, Nat.reduceLeDiff, List.map_cons, List.map_nil, builtS, builtinV, pureR, binV, sliceV, pickV, evO, Env.look, find, V.ofConst, resV, resOne, tupV, loadV, fillV, buildV, mkIface, litM, litS, litR, litRows, List.reverse_cons, List.reverse_nil, Nat.reduceMul, appS, memA, appendV, rowsOf, V.cells, TI.sized, TI.known, TI.agg, anL, List.length_cons, List.length_nil, List.append_nil, List.cons_append, List.nil_append, List.drop_succ_cons, List.drop_zero, List.drop_nil, List.take_succ_cons, List.take_zero, List.take_nil, List.getElem?_cons_zero, List.getElem?_cons_succ, List.all_cons, List.all_nil, List.replicate_succ, List.replicate_zero, List.set_cons_zero, List.set_cons_succ, eq_self, true_or, ne_eq, not_false_eq_true, Nat.reduceEqDiff, hO6.box, hO6.tip, hbx6, List.length_map, w1, w2, w3, w4]
  obtain ⟨hO7, hK7⟩ := hO6.push { op := 9, a := (A.1.length : Int) + 1 + B.1.length + 1 + D.1.length }
  refine ⟨by omega, ?_⟩
  refine useQS (c_addT _ s.length s3.length _ D.1 hO7 (by omega) (by simp; omega)) (wkL_cons (wk_tok ..) (wkL_refl _)) (wk_push (wk_ins ..)) (by rintro v s' ⟨h, _⟩; cases h) ?_
  rintro X s8 hX ⟨hX', hO8, hK8⟩
  cases hX'
  simp only [decide_true, decide_false, gwL, gwB, gwD, gwE, gwS, gwTT, gwZ, initG, Nat.reduceEqDiff, ↓reduceIte, Nat.reduceAdd, Nat.reduceLT, Nat.reduceLeDiff, List.map_cons, List.map_nil, builtS, builtinV, pureR, binV, sliceV, pickV, evO, Env.look, find, V.ofConst, resV, resOne, tupV, loadV, fillV, buildV, mkIface, litM, litS, litR, litRows, List.reverse_cons, List.reverse_nil, Nat.reduceMul, appS, memA, appendV, rowsOf, V.cells, TI.sized, TI.known, TI.agg, anL, List.length_cons, List.length_nil, List.append_nil, List.cons_append, List.nil_append, List.drop_succ_cons, List.drop_zero, List.drop_nil, List.take_succ_cons, List.take_zero, List.take_nil, List.getElem?_cons_zero, List.getElem?_cons_succ, List.all_cons, List.all_nil, List.replicate_succ, List.replicate_zero, List.set_cons_zero, List.set_cons_succ, eq_self, true_or, ne_eq, not_false_eq_true, Nat.reduceEqDiff, hO8.box]
  have hKx : Kp (fun j => j = s.length ∨ j = s3.length) s3 s8 := ((((hK4.mono fun j _ h => .inl h).trans hK5).trans hK6).trans hK7).trans hK8
  exact ⟨s3.length, rfl, by omega, hO8.tip, hG3.keep hKx (by omega) (by omega) (by omega), hK.app.then hKx fun j hj h => by omega⟩

theorem wk_arr {p : Nat → Prop} {e : TypeId} {sz : Nat} {r r' : List (List V)} (h : wkRp p r r') : (Ent.arr e sz r).wkp p (.arr e sz r') := .inr ⟨r', rfl, h⟩
/-- A procedure more. -/
theorem GS.more {s : St} {b P q : Nat} {ps : List Pr} (h : GS s b P q ps) (ix : Int) {s' : St} (hs : s' = (((s.set P (.arr 42 1 ((ps ++ [(⟨ix, []⟩ : Pr)]).map fun p => [lstI p.code]))).set b (.box [.arr P (ps.length + 1), .lst 1 (some q) (ps.map fun p => [V.int .i64 p.args])])).set q (.tip 3 (ps.length + 1))).set b (.box [.arr P (ps.length + 1), .lst 1 (some q) ((ps ++ [(⟨ix, []⟩ : Pr)]).map fun p => [V.int .i64 p.args])])) :
    GS s' b P q (ps ++ [⟨ix, []⟩]) ∧ Kp (isG b P q) s s' := by
  subst hs
  obtain ⟨n1, n2, n3⟩ := h.ne
  obtain ⟨l1, l2, l3⟩ := h.lt
  refine ⟨⟨?_, ?_, ?_⟩, by simp, fun j h1 h2 => ?_⟩
  · rw [List.getElem?_set_self (by simp; omega)]; simp
  · rw [List.getElem?_set_ne n1, List.getElem?_set_ne (Ne.symm n3), List.getElem?_set_ne n1, List.getElem?_set_self l2]
  · rw [List.getElem?_set_ne n2, List.getElem?_set_self (by simp; omega)]; simp
  · have hb : b ≠ j := fun e => h2 (.inl e.symm)
    have hP : P ≠ j := fun e => h2 (.inr (.inl e.symm))
    have hq : q ≠ j := fun e => h2 (.inr (.inr e.symm))
    rw [List.getElem?_set_ne hb, List.getElem?_set_ne hq, List.getElem?_set_ne hb, List.getElem?_set_ne hP]

theorem wkR_one {p : Nat → Prop} {l l' : List V} (h : wkLp p l l') : wkRp p [l] [l'] := by simp only [wkRp]; exact ⟨_, _, rfl, h, rfl⟩
theorem wkR_set {p : Nat → Prop} {r r' : List V} (h : wkLp p r r') : ∀ (l : List (List V)) (k : Nat), wkRp p (l.set k r) (l.set k r')
  | [], k => wkR_refl _
  | x :: l, 0 => by simp only [List.set_cons_zero, wkRp]; exact ⟨_, _, rfl, h, wkR_refl _⟩
  | x :: l, k + 1 => by simp only [List.set_cons_succ, wkRp]; exact ⟨_, _, rfl, wkL_refl _, wkR_set h l k⟩
theorem map_code {f : Pr → List V} {g : Pr → Pr} {r : List V} {ps : List Pr} {k : Nat} (h : ∀ p, f (g p) = r) : (ps.map f).set k r = (ps.modify k g).map f := by
  apply List.ext_getElem?
  intro j
  rw [List.getElem?_map, List.getElem?_modify]
  by_cases e : k = j
  · subst e
    cases hp : ps[k]? with
    | none => simp [List.getElem?_eq_none_iff.1 hp]
    | some p =>
      rw [List.getElem?_set_self (by rw [List.length_map]; exact (List.getElem?_eq_some_iff.1 hp).1)]
      simp [h]
  · rw [List.getElem?_set_ne e, List.getElem?_map]; simp [e]
/-- A procedure has its code. -/
theorem GS.code {s : St} {b P q : Nat} {ps : List Pr} (h : GS s b P q ps) (o : Nat) (h1 : o ≠ b) (h2 : o ≠ P) (h3 : o ≠ q) (X : Ent) (k : Nat) (c : List Ins) :
    GS ((s.set o X).set P (.arr 42 1 ((ps.map fun p => [lstI p.code]).set k [lstI c]))) b P q (ps.modify k fun p => ⟨p.args, c⟩) ∧
    Kp (fun j => isG b P q j ∨ j = o) s ((s.set o X).set P (.arr 42 1 ((ps.map fun p => [lstI p.code]).set k [lstI c]))) := by
  obtain ⟨n1, n2, n3⟩ := h.ne
  obtain ⟨l1, l2, l3⟩ := h.lt
  have hargs : (ps.modify k fun p => ⟨p.args, c⟩).map (fun p => [V.int .i64 p.args]) = ps.map fun p => [V.int .i64 p.args] := by
    apply List.ext_getElem?
    intro j
    rw [List.getElem?_map, List.getElem?_modify, List.getElem?_map]
    by_cases e : k = j
    · subst e; cases ps[k]? <;> simp
    · simp [e]
  refine ⟨⟨?_, ?_, ?_⟩, by simp, fun j hj hx => ?_⟩
  · rw [List.getElem?_set_ne (Ne.symm n1), List.getElem?_set_ne h1, h.box, hargs]; simp
  · rw [List.getElem?_set_self (by rw [List.length_set]; exact l2), map_code (g := fun p => ⟨p.args, c⟩) (fun _ => rfl)]
  · rw [List.getElem?_set_ne n3, List.getElem?_set_ne h3, h.tip]; simp
  · rw [List.getElem?_set_ne (fun e => hx (.inl (.inr (.inl e.symm)))), List.getElem?_set_ne (fun e => hx (.inr e.symm))]
theorem wk_lstI {t : Option Nat} {l : List V} {c : List Ins} {i : Ins} (h : wkL l (encI i)) : wk (.lst 11 t (c.map encI ++ [l])) (lstI (c ++ [i])) := wk_lst (wkR_snoc h c)

theorem genC_lambda (ix n : Int) (lb ow : Str) (qd : Datum) (x : Core) (g : List Pr) : genC (.mk 8 ix n lb ow qd [x]) g = ([{ op := 7, a := g.length }], (genC x (g ++ [⟨ix, []⟩])).2.modify g.length fun p => ⟨p.args, (genC x (g ++ [⟨ix, []⟩])).1 ++ [{ op := 15 }]⟩) := by
  rw [genC]; simp [oneR, genHead]

set_option maxRecDepth 20000 in
set_option maxHeartbeats 8000000 in
theorem c_code_lambda (ix n : Int) (lb ow : Str) (qd : Datum) (x : Core) (ih : PCode x) : PCode (.mk 8 ix n lb ow qd [x]) := by
  intro hok s b P q ps hG hn hp
  rw [okC, okCs] at hok
  obtain ⟨-, -, -, hx, -⟩ := hok
  rw [genC_lambda]
  simp only [nodesC, nodesCs] at hn hp
  obtain ⟨a1, a2, a3⟩ := genC_size x (ps ++ [⟨ix, []⟩])
  generalize hA : genC x (ps ++ [⟨ix, []⟩]) = A at a1 a2 a3 ⊢
  simp only [List.length_append, List.length_cons, List.length_nil] at a2 a3
  obtain ⟨hlb, hlP, hlq⟩ := hG.lt
  obtain ⟨n1, n2, n3⟩ := hG.ne
  refine VCalls.relax ?_
  refine vfunQ TT_ok (an := anL [(3, 1), (24, 1), (30, 1), (37, 1), (43, 1), (51, 1), (57, 1), (158, 1)]) (L := [0, 1, 3, 4, 5, 6, 7, 8, 9, 10, 11, 12, 13, 15, 18, 162, 163, 164, 185, 186, 187, 212]) (rs := [.tmp 4]) Try.func19 rfl (by kernel_rfl) rfl Try.ntmps19 rfl rfl fun hst ha hf => ?_
  simp only [encC_mk]
  have g0 : [encC x].getD (Int.toNat 0) [] = encC x := rfl
  have hG0 := hG.app [Ent.box [V.nils]]
  have hbP : ∀ X, ((s ++ [Ent.box [V.nils]]).set P X)[b]? = some (.box [.arr P ps.length, .lst 1 (some q) (ps.map fun p => [V.int .i64 p.args])]) := fun X => by rw [List.getElem?_set_ne (Ne.symm n1), hG0.box]
  have hbb : ∀ X Y, (((s ++ [Ent.box [V.nils]]).set P X).set b Y)[b]? = some Y := fun X Y => List.getElem?_set_self (by simp; omega)
  have hqq : ∀ X Y, (((s ++ [Ent.box [V.nils]]).set P X).set b Y)[q]? = some (.tip 3 ps.length) := fun X Y => by rw [List.getElem?_set_ne n2, List.getElem?_set_ne n3, hG0.tip]
  have hbq : ∀ X Y Z, ((((s ++ [Ent.box [V.nils]]).set P X).set b Y).set q Z)[b]? = some Y := fun X Y Z => by rw [List.getElem?_set_ne (Ne.symm n2), hbb]
  simp only [decide_true, decide_false, gwL, gwB, gwD, gwE, gwS, gwTT, gwZ, initG, Nat.reduceEqDiff, ↓reduceIte, Nat.reduceAdd, Nat.reduceLT, Nat.reduceLeDiff, List.map_cons, List.map_nil, builtS, builtinV, pureR, binV, sliceV, pickV, evO, Env.look, find, V.ofConst, resV, resOne, tupV, loadV, fillV, buildV, mkIface, litM, litS, litR, litRows, List.reverse_cons, List.reverse_nil, Nat.reduceMul, appS, memA, appendV, rowsOf, V.cells, TI.sized, TI.known, TI.agg, anL, List.length_cons, List.length_nil, List.append_nil, List.cons_append, List.nil_append, List.drop_succ_cons, List.drop_zero, List.drop_nil, List.take_succ_cons, List.take_zero, List.take_nil, List.getElem?_cons_zero, List.getElem?_cons_succ, List.all_cons, List.all_nil, List.replicate_succ, List.replicate_zero, List.set_cons_zero, List.set_cons_succ, eq_self, true_or, ne_eq, not_false_eq_true, Nat.reduceEqDiff, Int.reduceEq, encD_drop_app, g0, encC_take, encC_len, hG0.box, hG0.arr, hbP, List.length_map]
  refine ⟨by omega, ?_⟩
  refine vdraw TT_ok TT_mixed [0, 0, 0, 0, 1, 0, 1, 1, 2, 0, 0, 2] (by kernel_rfl) ?_
  simp only [decide_true, decide_false, gwL, gwB, gwD, gwE, gwS, gwTT, gwZ, initG, Nat.reduceEqDiff, ↓reduceIte, Nat.reduceAdd, Nat.reduceLT, Nat.reduceLeDiff, List.map_cons, List.map_nil, builtS, builtinV, pureR, binV, sliceV, pickV, evO, Env.look, find, V.ofConst, resV, resOne, tupV, loadV, fillV, buildV, mkIface, litM, litS, litR, litRows, List.reverse_cons, List.reverse_nil, Nat.reduceMul, appS, memA, appendV, rowsOf, V.cells, TI.sized, TI.known, TI.agg, anL, List.length_cons, List.length_nil, List.append_nil, List.cons_append, List.nil_append, List.drop_succ_cons, List.drop_zero, List.drop_nil, List.take_succ_cons, List.take_zero, List.take_nil, List.getElem?_cons_zero, List.getElem?_cons_succ, List.all_cons, List.all_nil, List.replicate_succ, List.replicate_zero, List.set_cons_zero, List.set_cons_succ, eq_self, true_or, ne_eq, not_false_eq_true, Nat.reduceEqDiff, hbb, hqq, hbq, g0, encD_drop_app, encC_take, encC_len, List.length_map]
  obtain ⟨hG1, hK1⟩ := hG0.more ix rfl
  refine ⟨by omega, by decide, ?_⟩
  refine useQS (ih hx _ b P q _ hG1 (by omega) (by simp; omega)) (wkL_refl _) (by rw [List.map_append (f := fun p : Pr => [V.int .i64 p.args])]; exact (((((wkSt_refl _).set (wk_arr (wkR_snoc (f := fun p : Pr => [lstI p.code]) (a := (⟨ix, []⟩ : Pr)) (wkL_cons (wk_nils _) wkL_nil) ps))).set (Ent.wkp_refl _)).set (Ent.wkp_refl _)).set (Ent.wkp_refl _))) (by rintro v s' ⟨o, h, _⟩; cases h) ?_
  rintro X s2 hX ⟨o2, hX', ho2, htip2, hG2, hK2⟩
  cases hX'
  rw [hA] at hG2 htip2 ⊢
  have hk : ps.length < A.2.length := by omega
  have ho2P : o2 ≠ P := by intro e; subst e; have := hG2.arr; rw [htip2] at this; cases this
  have ho2b : o2 ≠ b := by intro e; subst e; have := hG2.box; rw [htip2] at this; cases this
  have hPo : ∀ X, (s2.set o2 X)[P]? = some (.arr 42 1 (A.2.map fun p => [lstI p.code])) := fun X => by rw [List.getElem?_set_ne ho2P, hG2.arr]
  have hbo : ∀ X, (s2.set o2 X)[b]? = some (.box [.arr P A.2.length, .lst 1 (some q) (A.2.map fun p => [V.int .i64 p.args])]) := fun X => by rw [List.getElem?_set_ne ho2b, hG2.box]
  simp only [decide_true, decide_false, gwL, gwB, gwD, gwE, gwS, gwTT, gwZ, initG, Nat.reduceEqDiff, ↓reduceIte, Nat.reduceAdd, Nat.reduceLT, Nat.reduceLeDiff, List.map_cons, List.map_nil, builtS, builtinV, pureR, binV, sliceV, pickV, evO, Env.look, find, V.ofConst, resV, resOne, tupV, loadV, fillV, buildV, mkIface, litM, litS, litR, litRows, List.reverse_cons, List.reverse_nil, Nat.reduceMul, appS, memA, appendV, rowsOf, V.cells, TI.sized, TI.known, TI.agg, anL, List.length_cons, List.length_nil, List.append_nil, List.cons_append, List.nil_append, List.drop_succ_cons, List.drop_zero, List.drop_nil, List.take_succ_cons, List.take_zero, List.take_nil, List.getElem?_cons_zero, List.getElem?_cons_succ, List.all_cons, List.all_nil, List.replicate_succ, List.replicate_zero, List.set_cons_zero, List.set_cons_succ, eq_self, true_or, ne_eq, not_false_eq_true, Nat.reduceEqDiff]
  have hdr : List.drop 1 ((A.2.map fun p => [lstI p.code]).getD ps.length []) = [] := by
    rw [getD_map (List.getElem?_eq_getElem hk)]; rfl
  refine vdraw2 TT_ok TT_mixed (σ := Unit) [0, 0, 0, 1, 0, 0, 0, 1, 2, 1, 2] [0, 1, 2, 4, 5, 6, 7, 8, 3, 9, 10] 3 8 [10] (fun x => [(10, true, .int .i64 ps.length)]) (fun x => (s2.set o2 (.tip 46 (A.1.length + 1))).set P (.arr 42 1 ((A.2.map fun p => [lstI p.code]).set ps.length [.lst 11 (some o2) (A.1.map encI ++ [[.int .i64 15, .int .i64 0, .int .i64 0, .str [], .str [], .int .i64 0, .int .i64 0, .str [], .int .i64 0, .int .i64 0, .nils]])]))) (fun x => True) rfl (by kernel_rfl) ?_ ?_ ?_
  · simp only [decide_true, decide_false, gwL, gwB, gwD, gwE, gwS, gwTT, gwZ, initG, Nat.reduceEqDiff, ↓reduceIte, Nat.reduceAdd, Nat.reduceLT, Nat.reduceLeDiff, List.map_cons, List.map_nil, builtS, builtinV, pureR, binV, sliceV, pickV, evO, Env.look, find, V.ofConst, resV, resOne, tupV, loadV, fillV, buildV, mkIface, litM, litS, litR, litRows, List.reverse_cons, List.reverse_nil, Nat.reduceMul, appS, memA, appendV, rowsOf, V.cells, TI.sized, TI.known, TI.agg, anL, List.length_cons, List.length_nil, List.append_nil, List.cons_append, List.nil_append, List.drop_succ_cons, List.drop_zero, List.drop_nil, List.take_succ_cons, List.take_zero, List.take_nil, List.getElem?_cons_zero, List.getElem?_cons_succ, List.all_cons, List.all_nil, List.replicate_succ, List.replicate_zero, List.set_cons_zero, List.set_cons_succ, eq_self, true_or, ne_eq, not_false_eq_true, Nat.reduceEqDiff, hG2.box, hG2.arr, htip2, hPo, hbo, List.length_map, hdr]
    exact ⟨by omega, by omega, by omega, rfl, rfl, (), rfl, rfl, trivial⟩
  · simp only [pickO, pickC, List.map_cons, List.map_nil, List.getD_cons_zero, List.getD_cons_succ]
    simp only [decide_true, decide_false, gwL, gwB, gwD, gwE, gwS, gwTT, gwZ, initG, Nat.reduceEqDiff, ↓reduceIte, Nat.reduceAdd, Nat.reduceLT, Nat.reduceLeDiff, List.map_cons, List.map_nil, builtS, builtinV, pureR, binV, sliceV, pickV, evO, Env.look, find, V.ofConst, resV, resOne, tupV, loadV, fillV, buildV, mkIface, litM, litS, litR, litRows, List.reverse_cons, List.reverse_nil, Nat.reduceMul, appS, memA, appendV, rowsOf, V.cells, TI.sized, TI.known, TI.agg, anL, List.length_cons, List.length_nil, List.append_nil, List.cons_append, List.nil_append, List.drop_succ_cons, List.drop_zero, List.drop_nil, List.take_succ_cons, List.take_zero, List.take_nil, List.getElem?_cons_zero, List.getElem?_cons_succ, List.all_cons, List.all_nil, List.replicate_succ, List.replicate_zero, List.set_cons_zero, List.set_cons_succ, eq_self, true_or, ne_eq, not_false_eq_true, Nat.reduceEqDiff, hG2.box, hG2.arr, htip2, hPo, hbo, List.length_map, hdr]
    exact ⟨by omega, by omega, by omega, rfl, rfl, (), rfl, rfl, trivial⟩
  · intro _ _
    simp only [decide_true, decide_false, gwL, gwB, gwD, gwE, gwS, gwTT, gwZ, initG, Nat.reduceEqDiff, ↓reduceIte, Nat.reduceAdd, Nat.reduceLT, Nat.reduceLeDiff, List.map_cons, List.map_nil, builtS, builtinV, pureR, binV, sliceV, pickV, evO, Env.look, find, V.ofConst, resV, resOne, tupV, loadV, fillV, buildV, mkIface, litM, litS, litR, litRows, List.reverse_cons, List.reverse_nil, Nat.reduceMul, appS, memA, appendV, rowsOf, V.cells, TI.sized, TI.known, TI.agg, anL, List.length_cons, List.length_nil, List.append_nil, List.cons_append, List.nil_append, List.drop_succ_cons, List.drop_zero, List.drop_nil, List.take_succ_cons, List.take_zero, List.take_nil, List.getElem?_cons_zero, List.getElem?_cons_succ, List.all_cons, List.all_nil, List.replicate_succ, List.replicate_zero, List.set_cons_zero, List.set_cons_succ, eq_self, true_or, ne_eq, not_false_eq_true, Nat.reduceEqDiff, List.length_set]
    have ho2q : o2 ≠ q := by intro e; subst e; have := hG2.tip; rw [htip2] at this; cases this
    obtain ⟨hG3, hK3⟩ := hG2.code o2 ho2b ho2P ho2q (.tip 46 (A.1.length + 1)) ps.length (A.1 ++ [{ op := 15 }])
    have hl2 : s.length + 1 ≤ o2 := by simp only [List.length_set, List.length_append, List.length_cons, List.length_nil] at ho2; omega
    have hK : Kp (isG b P q) s _ := (hK1.app.trans hK2).then hK3 fun j hj h => h.elim id fun h => by omega
    refine ⟨_, .lst 11 (some s2.length) [encI { op := 7, a := ps.length }], _, rfl, wk_lst_same (wkR_one (wk_ins ..)), ((wkSt_refl _).set (wk_arr (wkR_set (wkL_cons (wk_lstI (wk_ins 15 0 0 [] [])) wkL_nil) _ _))).append (wkSt_refl _), s2.length, rfl, ?_, ?_, ?_, ?_⟩
    · have := (hK1.app.trans hK2).1; exact this
    · rw [List.getElem?_append_right (by simp)]; simp
    · exact hG3.app _
    · exact hK.then (X := isG b P q) (Y := fun _ => False) ⟨by simp, fun j hj _ => st_old hj⟩ fun _ _ h => h.elim
end Go.Proofs.Ytpfdoffnpkokhaa.Gx

namespace Go.Proofs.Ytpfdoffnpkokhaa.Gx
open Go Go.Proofs.Ytpfdoffnpkokhaa.Gw
set_option linter.unusedSimpArgs false

theorem genC_set (k ix n : Int) (lb ow : Str) (qd : Datum) (x : Core) (g : List Pr) (h : k = 10 ∨ k = 11 ∨ k = 13) : genC (.mk k ix n lb ow qd [x]) g = ((genC x g).1 ++ [setI k ix lb ow], (genC x g).2) := by
  rw [genC]
  rcases h with rfl | rfl | rfl <;> simp [oneR, genHead]

set_option maxRecDepth 20000 in
set_option maxHeartbeats 8000000 in
theorem c_code_set (k ix n : Int) (lb ow : Str) (qd : Datum) (x : Core) (hk : k = 10 ∨ k = 11 ∨ k = 13) (ih : PCode x) : PCode (.mk k ix n lb ow qd [x]) := by
  intro hok s b P q ps hG hn hp
  rw [okC, okCs] at hok
  obtain ⟨-, -, -, hx, -⟩ := hok
  rw [genC_set _ _ _ _ _ _ _ _ hk]
  simp only [nodesC, nodesCs] at hn hp
  obtain ⟨a1, a2, a3⟩ := genC_size x ps
  generalize hA : genC x ps = A at a1 a2 a3 ⊢
  obtain ⟨hlb, hlP, hlq⟩ := hG.lt
  refine VCalls.relax ?_
  refine vfunQ TT_ok (an := anL [(3, 1), (24, 1), (30, 1), (37, 1), (43, 1), (51, 1), (57, 1), (158, 1)]) (L := [0, 1, 3, 4, 5, 6, 7, 8, 9, 10, 11, 12, 13, 15, 18, 162, 163, 164, 185, 186, 187, 212]) (rs := [.tmp 4]) Try.func19 rfl (by kernel_rfl) rfl Try.ntmps19 rfl rfl fun hst ha hf => ?_
  simp only [encC_mk]
  have g0 : [encC x].getD (Int.toNat 0) [] = encC x := rfl
  have h1 : decide (k = 1) = false := decide_eq_false (by omega)
  have h2 : decide (k = 2) = false := decide_eq_false (by omega)
  have h3 : decide (k = 3) = false := decide_eq_false (by omega)
  have h4 : decide (k = 4) = false := decide_eq_false (by omega)
  have h5 : decide (k = 5) = false := decide_eq_false (by omega)
  have h6 : decide (k = 6) = false := decide_eq_false (by omega)
  have h7 : decide (k = 7) = false := decide_eq_false (by omega)
  have h8 : decide (k = 8) = false := decide_eq_false (by omega)
  have h9 : decide (k = 9) = false := decide_eq_false (by omega)
  have h12 : decide (k = 12) = false := decide_eq_false (by omega)
  simp only [decide_true, decide_false, gwL, gwB, gwD, gwE, gwS, gwTT, gwZ, initG, Nat.reduceEqDiff, ↓reduceIte, Nat.reduceAdd, Nat.reduceLT, Nat.reduceLeDiff, List.map_cons, List.map_nil, builtS, builtinV, pureR, binV, sliceV, pickV, evO, Env.look, find, V.ofConst, resV, resOne, tupV, loadV, fillV, buildV, mkIface, litM, litS, litR, litRows, List.reverse_cons, List.reverse_nil, Nat.reduceMul, appS, memA, appendV, rowsOf, V.cells, TI.sized, TI.known, TI.agg, anL, List.length_cons, List.length_nil, List.append_nil, List.cons_append, List.nil_append, List.drop_succ_cons, List.drop_zero, List.drop_nil, List.take_succ_cons, List.take_zero, List.take_nil, List.getElem?_cons_zero, List.getElem?_cons_succ, List.all_cons, List.all_nil, List.replicate_succ, List.replicate_zero, List.set_cons_zero, List.set_cons_succ, eq_self, true_or, ne_eq, not_false_eq_true, Nat.reduceEqDiff, h1, h2, h3, h4, h5, h6, h7, h8, h9, h12, encD_drop_app, g0, encC_take, encC_len]
  refine ⟨by decide, ?_⟩
  refine useQS (ih hx _ b P q ps (hG.app _) (by omega) (by omega)) (wkL_refl _) (wkSt_refl _) (by rintro v s' ⟨o, h, _⟩; cases h) ?_
  rintro X s1 hX ⟨o1, hX', ho1, htip1, hG1, hK1⟩
  cases hX'
  rw [hA] at htip1 hG1 ⊢
  have hob : s1[s.length]? = some (.box [.nils]) := by
    rw [hK1.2 s.length (by simp) (by rintro (h | h | h) <;> omega)]
    simp only [gwL]
  simp only [List.length_append, List.length_cons, List.length_nil] at ho1
  have hl1 := hK1.1
  rw [List.length_append] at hl1
  simp only [List.length_cons, List.length_nil] at hl1
  have hsl : ∀ X, (s1.set s.length X)[s.length]? = some X := fun X => List.getElem?_set_self (by omega)
  have hso : ∀ X, (s1.set s.length X)[o1]? = some (.tip 46 A.1.length) := fun X => by rw [List.getElem?_set_ne (by omega), htip1]
  have fin : ∀ (i : Ins) (row : List V), wkL row (encI i) → i = setI k ix lb ow → ∃ v X s', VEnd.ret (.lst 11 (some o1) (A.1.map encI ++ [row])) = .ret v ∧ wk v X ∧ wkSt ((s1.set s.length (.box [.lst 11 (some o1) (A.1.map encI)])).set o1 (.tip 46 (A.1.length + 1))) s' ∧
      ∃ o, VEnd.ret X = .ret (.lst 11 (some o) ((A.1 ++ [setI k ix lb ow]).map encI)) ∧ s.length ≤ o ∧ s'[o]? = some (.tip 46 (A.1 ++ [setI k ix lb ow]).length) ∧ GS s' b P q A.2 ∧ Kp (isG b P q) s s' := by
    intro i row hw hi
    subst hi
    have hk2 : Kp (fun j => j = s.length ∨ j = o1) s1 ((s1.set s.length (.box [.lst 11 (some o1) (A.1.map encI)])).set o1 (.tip 46 (A.1.length + 1))) :=
      ⟨by simp, fun j hj hx => by rw [List.getElem?_set_ne (fun e => hx (.inr e.symm)), List.getElem?_set_ne (fun e => hx (.inl e.symm))]⟩
    have hto : o1 < s1.length := (List.getElem?_eq_some_iff.1 htip1).1
    refine ⟨_, .lst 11 (some o1) ((A.1 ++ [setI k ix lb ow]).map encI), _, rfl, wk_lst_same (wkR_snoc hw A.1), wkSt_refl _, o1, rfl, by omega, ?_, hG1.keep hk2 (by omega) (by omega) (by omega), hK1.app.then hk2 fun j hj h => by omega⟩
    rw [List.getElem?_set_self (by rw [List.length_set]; exact hto)]
    simp
  rcases hk with rfl | rfl | rfl
  · simp only [decide_true, decide_false, gwL, gwB, gwD, gwE, gwS, gwTT, gwZ, initG, Nat.reduceEqDiff, ↓reduceIte, Nat.reduceAdd, Nat.reduceLT, Nat.reduceLeDiff, List.map_cons, List.map_nil, builtS, builtinV, pureR, binV, sliceV, pickV, evO, Env.look, find, V.ofConst, resV, resOne, tupV, loadV, fillV, buildV, mkIface, litM, litS, litR, litRows, List.reverse_cons, List.reverse_nil, Nat.reduceMul, appS, memA, appendV, rowsOf, V.cells, TI.sized, TI.known, TI.agg, anL, List.length_cons, List.length_nil, List.append_nil, List.cons_append, List.nil_append, List.drop_succ_cons, List.drop_zero, List.drop_nil, List.take_succ_cons, List.take_zero, List.take_nil, List.getElem?_cons_zero, List.getElem?_cons_succ, List.all_cons, List.all_nil, List.replicate_succ, List.replicate_zero, List.set_cons_zero, List.set_cons_succ, eq_self, true_or, ne_eq, not_false_eq_true, Nat.reduceEqDiff, Int.reduceEq, hob, hsl, hso, List.length_map, encD_drop_app]
    exact ⟨by omega, fin _ _ (wk_ins 11 ix 0 [] []) rfl⟩
  · simp only [decide_true, decide_false, gwL, gwB, gwD, gwE, gwS, gwTT, gwZ, initG, Nat.reduceEqDiff, ↓reduceIte, Nat.reduceAdd, Nat.reduceLT, Nat.reduceLeDiff, List.map_cons, List.map_nil, builtS, builtinV, pureR, binV, sliceV, pickV, evO, Env.look, find, V.ofConst, resV, resOne, tupV, loadV, fillV, buildV, mkIface, litM, litS, litR, litRows, List.reverse_cons, List.reverse_nil, Nat.reduceMul, appS, memA, appendV, rowsOf, V.cells, TI.sized, TI.known, TI.agg, anL, List.length_cons, List.length_nil, List.append_nil, List.cons_append, List.nil_append, List.drop_succ_cons, List.drop_zero, List.drop_nil, List.take_succ_cons, List.take_zero, List.take_nil, List.getElem?_cons_zero, List.getElem?_cons_succ, List.all_cons, List.all_nil, List.replicate_succ, List.replicate_zero, List.set_cons_zero, List.set_cons_succ, eq_self, true_or, ne_eq, not_false_eq_true, Nat.reduceEqDiff, Int.reduceEq, hob, hsl, hso, List.length_map, encD_drop_app]
    exact ⟨by omega, fin _ _ (wk_ins 12 0 0 lb ow) rfl⟩
  · simp only [decide_true, decide_false, gwL, gwB, gwD, gwE, gwS, gwTT, gwZ, initG, Nat.reduceEqDiff, ↓reduceIte, Nat.reduceAdd, Nat.reduceLT, Nat.reduceLeDiff, List.map_cons, List.map_nil, builtS, builtinV, pureR, binV, sliceV, pickV, evO, Env.look, find, V.ofConst, resV, resOne, tupV, loadV, fillV, buildV, mkIface, litM, litS, litR, litRows, List.reverse_cons, List.reverse_nil, Nat.reduceMul, appS, memA, appendV, rowsOf, V.cells, TI.sized, TI.known, TI.agg, anL, List.length_cons, List.length_nil, List.append_nil, List.cons_append, List.nil_append, List.drop_succ_cons, List.drop_zero, List.drop_nil, List.take_succ_cons, List.take_zero, List.take_nil, List.getElem?_cons_zero, List.getElem?_cons_succ, List.all_cons, List.all_nil, List.replicate_succ, List.replicate_zero, List.set_cons_zero, List.set_cons_succ, eq_self, true_or, ne_eq, not_false_eq_true, Nat.reduceEqDiff, Int.reduceEq, hob, hsl, hso, List.length_map, encD_drop_app]
    exact ⟨by omega, fin _ _ (wk_ins 13 0 0 lb ow) rfl⟩

theorem genC_call (ix n : Int) (lb ow : Str) (qd : Datum) (kids : List Core) (g : List Pr) : genC (.mk 9 ix n lb ow qd kids) g = ((genCall kids [] g).1 ++ [{ op := 8, a := (kids.length : Int) - 1 }], (genCall kids [] g).2) := by
  rw [genC]; simp [oneR]
theorem genC_seq (ix n : Int) (lb ow : Str) (qd : Datum) (kids : List Core) (g : List Pr) : genC (.mk 12 ix n lb ow qd kids) g = genSeq kids true [] g := by
  rw [genC]; simp [oneR]
theorem genCall_snoc : ∀ (l : List Core) (c : Core) (out : List Ins) (g : List Pr), genCall (l ++ [c]) out g = (addI (genCall l out g).1 (genC c (genCall l out g).2).1, (genC c (genCall l out g).2).2)
  | [], c, out, g => by simp only [List.nil_append, genCall]
  | d :: l, c, out, g => by simp only [List.cons_append, genCall, genCall_snoc l c]
theorem genSeq_snoc : ∀ (l : List Core) (f : Bool) (c : Core) (out : List Ins) (g : List Pr), genSeq (l ++ [c]) f out g = (addI (bif f && l.isEmpty then (genSeq l f out g).1 else (genSeq l f out g).1 ++ [{ op := 14 }]) (genC c (genSeq l f out g).2).1, (genC c (genSeq l f out g).2).2)
  | [], f, c, out, g => by cases f <;> simp only [List.nil_append, genSeq, List.isEmpty_nil, Bool.and_true, cond_true, cond_false]
  | d :: l, f, c, out, g => by simp only [List.cons_append, genSeq, genSeq_snoc l false c, Bool.false_and, List.isEmpty_cons, Bool.and_false, cond_false]

/-- Code that grows, where it may be none yet. -/
def OX (s : St) (o i : Nat) (out : List Ins) : Prop := (i = 0 ∧ out = [] ∧ s[o]? = some (.box [.nils])) ∨ (0 < i ∧ ∃ k, o < k ∧ OT s o k out)

theorem OX.keep {s s' : St} {o i : Nat} {out : List Ins} {X : Nat → Prop} (h : OX s o i out) (kp : Kp X s s') (hx : ∀ j, o ≤ j → ¬ X j) : OX s' o i out := by
  rcases h with ⟨h1, h2, h3⟩ | ⟨h1, k, h2, h3⟩
  · exact .inl ⟨h1, h2, by rw [kp.2 o (List.getElem?_eq_some_iff.1 h3).1 (hx o (Nat.le_refl _)), h3]⟩
  · exact .inr ⟨h1, k, h2, h3.keep kp (hx o (Nat.le_refl _)) (hx k (Nat.le_of_lt h2))⟩
theorem c_addX (s : St) (o i : Nat) (out l : List Ins) (h : OX s o i out) (hl : l.length ≤ 500000000) (hl2 : out.length ≤ 500000000) :
    VCalls Try.prog TT 26 [lstI l, .ptr o 0] s fun r st' => r = .ret (.tup []) ∧ OX st' o (i + 1) (addI out l) ∧ Kp (fun j => o ≤ j) s st' := by
  rcases h with ⟨h1, h2, h3⟩ | ⟨h1, k, h2, h3⟩
  · subst h2
    have hO : o < s.length := (List.getElem?_eq_some_iff.1 h3).1
    exact (c_addN s o h3 l (by omega)).mono fun r st' ⟨e1, e2, e3⟩ => ⟨e1, .inr ⟨by omega, s.length, hO, e2⟩, e3.mono fun j _ h => by omega⟩
  · exact (c_addT s o k out l h3 hl hl2).mono fun r st' ⟨e1, e2, e3⟩ => ⟨e1, .inr ⟨by omega, k, h2, e2⟩, e3.mono fun j _ h => by omega⟩

set_option maxRecDepth 20000 in
set_option maxHeartbeats 8000000 in
theorem c_code_call (ix n : Int) (lb ow : Str) (qd : Datum) (kids : List Core) (ih : ∀ d ∈ kids, PCode d) : PCode (.mk 9 ix n lb ow qd kids) := by
  intro hok s b P q ps hG hn hp
  rw [okC] at hok
  obtain ⟨-, hlb9, -, hks⟩ := hok
  have hkp : 0 < kids.length := by simpa [lenB] using hlb9
  rw [genC_call]
  simp only [nodesC] at hn hp
  have hnl := nodesCs_len kids
  obtain ⟨hlb, hlP, hlq⟩ := hG.lt
  refine VCalls.relax ?_
  refine vfunQ TT_ok (an := anL [(3, 1), (24, 1), (30, 1), (37, 1), (43, 1), (51, 1), (57, 1), (158, 1)]) (L := [0, 1, 3, 4, 5, 6, 7, 8, 9, 10, 11, 12, 13, 15, 18, 162, 163, 164, 185, 186, 187, 212]) (rs := [.tmp 4]) Try.func19 rfl (by kernel_rfl) rfl Try.ntmps19 rfl rfl fun hst ha hf => ?_
  simp only [encC_mk]
  simp only [decide_true, decide_false, gwL, gwB, gwD, gwE, gwS, gwTT, gwZ, initG, Nat.reduceEqDiff, ↓reduceIte, Nat.reduceAdd, Nat.reduceLT, Nat.reduceLeDiff, List.map_cons, List.map_nil, builtS, builtinV, pureR, binV, sliceV, pickV, evO, Env.look, find, V.ofConst, resV, resOne, tupV, loadV, fillV, buildV, mkIface, litM, litS, litR, litRows, List.reverse_cons, List.reverse_nil, Nat.reduceMul, appS, memA, appendV, rowsOf, V.cells, TI.sized, TI.known, TI.agg, anL, List.length_cons, List.length_nil, List.append_nil, List.cons_append, List.nil_append, List.drop_succ_cons, List.drop_zero, List.drop_nil, List.take_succ_cons, List.take_zero, List.take_nil, List.getElem?_cons_zero, List.getElem?_cons_succ, List.all_cons, List.all_nil, List.replicate_succ, List.replicate_zero, List.set_cons_zero, List.set_cons_succ, eq_self, true_or, ne_eq, not_false_eq_true, Nat.reduceEqDiff, Int.reduceEq, encD_drop_app, List.length_map]
  refine vfor (σ := Nat × St) [0, 3, 5, 6, 185, 186, 187] (fun x => [(0, true, .ptr b 0), (3, true, .ref (encC (.mk 9 ix n lb ow qd kids))), (5, true, .ptr s.length 0), (6, true, .fn (.func 26) [.ptr s.length 0]), (185, true, .lst 12 none (kids.map encC)), (186, true, .int .i64 kids.length), (187, true, .int .i64 x.1)]) (fun x => x.2) (fun x => kids.length - x.1) (fun x => x.1 ≤ kids.length ∧ GS x.2 b P q (genCall (kids.take x.1) [] ps).2 ∧ Kp (isG b P q) s x.2 ∧ s.length < x.2.length ∧ OX x.2 s.length x.1 (genCall (kids.take x.1) [] ps).1) (0, s ++ [Ent.box [.nils]]) rfl TT_ok ⟨Nat.zero_le _, hG.app _, (Kp.refl _ _).app, by simp, .inl ⟨rfl, rfl, by simp only [gwL]⟩⟩ (by simp only [encC_mk]; rfl) rfl ?_
  rintro ⟨i, S⟩ ⟨hi, hG1, hK1, hSl, hO1⟩
  simp only [encC_mk] at hi hG1 hK1 hSl hO1 ⊢
  obtain ⟨z1, z2, z3⟩ := genCall_size (kids.take i) [] ps
  simp only [List.length_nil] at z1
  rcases at_or_end kids i hi with ⟨rfl, hd⟩ | ⟨a, hlt, hget, hdr⟩
  · rw [List.take_length] at hG1 hO1 z1 z2 z3
    rcases hO1 with ⟨h0, _⟩ | ⟨_, k, hk, hO⟩
    · omega
    generalize hA : genCall kids [] ps = A at hG1 hO z1 z2 z3 ⊢
    simp only [decide_true, decide_false, gwL, gwB, gwD, gwE, gwS, gwTT, gwZ, initG, Nat.reduceEqDiff, ↓reduceIte, Nat.reduceAdd, Nat.reduceLT, Nat.reduceLeDiff, List.map_cons, List.map_nil, builtS, builtinV, pureR, binV, sliceV, pickV, evO, Env.look, find, V.ofConst, resV, resOne, tupV, loadV, fillV, buildV, mkIface, litM, litS, litR, litRows, List.reverse_cons, List.reverse_nil, Nat.reduceMul, appS, memA, appendV, rowsOf, V.cells, TI.sized, TI.known, TI.agg, anL, List.length_cons, List.length_nil, List.append_nil, List.cons_append, List.nil_append, List.drop_succ_cons, List.drop_zero, List.drop_nil, List.take_succ_cons, List.take_zero, List.take_nil, List.getElem?_cons_zero, List.getElem?_cons_succ, List.all_cons, List.all_nil, List.replicate_succ, List.replicate_zero, List.set_cons_zero, List.set_cons_succ, eq_self, true_or, ne_eq, not_false_eq_true, Nat.reduceEqDiff, lt_no, encD_drop_app, List.length_map, hO.box, hO.tip, wrap_i64 (show -9223372036854775808 ≤ (kids.length : Int) - 1 by omega) (show (kids.length : Int) - 1 ≤ 9223372036854775807 by omega)]
    refine ⟨by omega, _, .lst 11 (some k) ((A.1 ++ [({ op := 8, a := (kids.length : Int) - 1 } : Ins)]).map encI), _, rfl, wk_lst_same (wkR_snoc (f := encI) (a := ({ op := 8, a := (kids.length : Int) - 1 } : Ins)) (wk_ins ..) A.1), wkSt_refl _, k, rfl, by omega, ?_, ?_, ?_⟩
    · rw [List.getElem?_set_self hO.lt.2]; simp
    · refine hG1.keep (X := fun j => j = k) ⟨by simp, fun j _ hj => List.getElem?_set_ne (Ne.symm hj)⟩ (by omega) (by omega) (by omega)
    · refine hK1.then (Y := fun j => j = k) ⟨by simp, fun j _ hj => List.getElem?_set_ne (Ne.symm hj)⟩ fun j hj h => by omega
  · have hnt := nodesCs_take hget
    have hG2 := hG1.app [Ent.box (encC a)]
    simp only [decide_true, decide_false, gwL, gwB, gwD, gwE, gwS, gwTT, gwZ, initG, Nat.reduceEqDiff, ↓reduceIte, Nat.reduceAdd, Nat.reduceLT, Nat.reduceLeDiff, List.map_cons, List.map_nil, builtS, builtinV, pureR, binV, sliceV, pickV, evO, Env.look, find, V.ofConst, resV, resOne, tupV, loadV, fillV, buildV, mkIface, litM, litS, litR, litRows, List.reverse_cons, List.reverse_nil, Nat.reduceMul, appS, memA, appendV, rowsOf, V.cells, TI.sized, TI.known, TI.agg, anL, List.length_cons, List.length_nil, List.append_nil, List.cons_append, List.nil_append, List.drop_succ_cons, List.drop_zero, List.drop_nil, List.take_succ_cons, List.take_zero, List.take_nil, List.getElem?_cons_zero, List.getElem?_cons_succ, List.all_cons, List.all_nil, List.replicate_succ, List.replicate_zero, List.set_cons_zero, List.set_cons_succ, eq_self, true_or, ne_eq, not_false_eq_true, Nat.reduceEqDiff, lt_yes hlt, encD_drop_app, List.length_map, getD_map hget, Int.ofNat_lt.mpr hlt, encC_take, encC_len, encC_drop]
    obtain ⟨y1, y2, y3⟩ := genC_size a (genCall (kids.take i) [] ps).2
    refine useQS (ih a (List.mem_of_getElem? hget) (okCs_mem hks (List.mem_of_getElem? hget)) _ b P q _ hG2 (by omega) (by omega)) (wkL_refl _) (wkSt_refl _) (by rintro v s' ⟨o, h, _⟩; cases h) ?_
    rintro X s1 hX ⟨o1, hX', ho1, htip1, hG3, hK3⟩
    cases hX'
    have hK3' := hK3.app
    have hO3 := hO1.keep hK3' fun j hj h => by rcases h with h | h | h <;> omega
    simp only [decide_true, decide_false, gwL, gwB, gwD, gwE, gwS, gwTT, gwZ, initG, Nat.reduceEqDiff, ↓reduceIte, Nat.reduceAdd, Nat.reduceLT, Nat.reduceLeDiff, List.map_cons, List.map_nil, builtS, builtinV, pureR, binV, sliceV, pickV, evO, Env.look, find, V.ofConst, resV, resOne, tupV, loadV, fillV, buildV, mkIface, litM, litS, litR, litRows, List.reverse_cons, List.reverse_nil, Nat.reduceMul, appS, memA, appendV, rowsOf, V.cells, TI.sized, TI.known, TI.agg, anL, List.length_cons, List.length_nil, List.append_nil, List.cons_append, List.nil_append, List.drop_succ_cons, List.drop_zero, List.drop_nil, List.take_succ_cons, List.take_zero, List.take_nil, List.getElem?_cons_zero, List.getElem?_cons_succ, List.all_cons, List.all_nil, List.replicate_succ, List.replicate_zero, List.set_cons_zero, List.set_cons_succ, eq_self, true_or, ne_eq, not_false_eq_true, Nat.reduceEqDiff]
    refine useQS (c_addX s1 s.length i _ _ hO3 (by omega) (by omega)) (wkL_cons (wk_tok ..) (wkL_refl _)) (wkSt_refl _) (by rintro v s' ⟨h, _⟩; cases h) ?_
    rintro X s2 hX ⟨hX', hO4, hK4⟩
    cases hX'
    simp only [decide_true, decide_false, gwL, gwB, gwD, gwE, gwS, gwTT, gwZ, initG, Nat.reduceEqDiff, ↓reduceIte, Nat.reduceAdd, Nat.reduceLT, Nat.reduceLeDiff, List.map_cons, List.map_nil, builtS, builtinV, pureR, binV, sliceV, pickV, evO, Env.look, find, V.ofConst, resV, resOne, tupV, loadV, fillV, buildV, mkIface, litM, litS, litR, litRows, List.reverse_cons, List.reverse_nil, Nat.reduceMul, appS, memA, appendV, rowsOf, V.cells, TI.sized, TI.known, TI.agg, anL, List.length_cons, List.length_nil, List.append_nil, List.cons_append, List.nil_append, List.drop_succ_cons, List.drop_zero, List.drop_nil, List.take_succ_cons, List.take_zero, List.take_nil, List.getElem?_cons_zero, List.getElem?_cons_succ, List.all_cons, List.all_nil, List.replicate_succ, List.replicate_zero, List.set_cons_zero, List.set_cons_succ, eq_self, true_or, ne_eq, not_false_eq_true, Nat.reduceEqDiff]
    refine ⟨(i + 1, s2), by simp only [next_i64 hlt (show kids.length ≤ 9223372036854775807 by omega)]; rfl, rfl, by simp only; omega, by simp only; omega, ?_, ?_, ?_, ?_⟩
    · simp only; rw [take_next hget, genCall_snoc]; exact hG3.keep hK4 (by omega) (by omega) (by omega)
    · exact (hK1.trans hK3').then hK4 fun j hj h => by omega
    · have q1 := hK3'.1; have q2 := hK4.1; simp only; omega
    · simp only; rw [take_next hget, genCall_snoc]; exact hO4

set_option maxRecDepth 20000 in
set_option maxHeartbeats 8000000 in
theorem c_code_seq (ix n : Int) (lb ow : Str) (qd : Datum) (kids : List Core) (ih : ∀ d ∈ kids, PCode d) : PCode (.mk 12 ix n lb ow qd kids) := by
  intro hok s b P q ps hG hn hp
  rw [okC] at hok
  obtain ⟨-, hlb9, -, hks⟩ := hok
  have hkp : 0 < kids.length := by simpa [lenB] using hlb9
  rw [genC_seq]
  simp only [nodesC] at hn hp
  have hnl := nodesCs_len kids
  obtain ⟨hlb, hlP, hlq⟩ := hG.lt
  refine vfunQ TT_ok (an := anL [(3, 1), (24, 1), (30, 1), (37, 1), (43, 1), (51, 1), (57, 1), (158, 1)]) (L := [0, 1, 3, 4, 5, 6, 7, 8, 9, 10, 11, 12, 13, 15, 18, 162, 163, 164, 185, 186, 187, 212]) (rs := [.tmp 4]) Try.func19 rfl (by kernel_rfl) rfl Try.ntmps19 rfl rfl fun hst ha hf => ?_
  simp only [encC_mk]
  simp only [decide_true, decide_false, gwL, gwB, gwD, gwE, gwS, gwTT, gwZ, initG, Nat.reduceEqDiff, ↓reduceIte, Nat.reduceAdd, Nat.reduceLT, Nat.reduceLeDiff, List.map_cons, List.map_nil, builtS, builtinV, pureR, binV, sliceV, pickV, evO, Env.look, find, V.ofConst, resV, resOne, tupV, loadV, fillV, buildV, mkIface, litM, litS, litR, litRows, List.reverse_cons, List.reverse_nil, Nat.reduceMul, appS, memA, appendV, rowsOf, V.cells, TI.sized, TI.known, TI.agg, anL, List.length_cons, List.length_nil, List.append_nil, List.cons_append, List.nil_append, List.drop_succ_cons, List.drop_zero, List.drop_nil, List.take_succ_cons, List.take_zero, List.take_nil, List.getElem?_cons_zero, List.getElem?_cons_succ, List.all_cons, List.all_nil, List.replicate_succ, List.replicate_zero, List.set_cons_zero, List.set_cons_succ, eq_self, true_or, ne_eq, not_false_eq_true, Nat.reduceEqDiff, Int.reduceEq, encD_drop_app, List.length_map]
  refine vfor (σ := Nat × St) [0, 3, 5, 6, 162, 163, 164] (fun x => [(0, true, .ptr b 0), (3, true, .ref (encC (.mk 12 ix n lb ow qd kids))), (5, true, .ptr s.length 0), (6, true, .fn (.func 26) [.ptr s.length 0]), (162, true, .lst 12 none (kids.map encC)), (163, true, .int .i64 kids.length), (164, true, .int .i64 x.1)]) (fun x => x.2) (fun x => kids.length - x.1) (fun x => x.1 ≤ kids.length ∧ GS x.2 b P q (genSeq (kids.take x.1) true [] ps).2 ∧ Kp (isG b P q) s x.2 ∧ s.length < x.2.length ∧ OX x.2 s.length x.1 (genSeq (kids.take x.1) true [] ps).1) (0, s ++ [Ent.box [.nils]]) rfl TT_ok ⟨Nat.zero_le _, hG.app _, (Kp.refl _ _).app, by simp, .inl ⟨rfl, rfl, by simp only [gwL]⟩⟩ (by simp only [encC_mk]; rfl) rfl ?_
  rintro ⟨i, S⟩ ⟨hi, hG1, hK1, hSl, hO1⟩
  simp only [encC_mk] at hi hG1 hK1 hSl hO1 ⊢
  obtain ⟨z1, z2, z3⟩ := genSeq_size (kids.take i) true [] ps
  simp only [List.length_nil] at z1
  rcases at_or_end kids i hi with ⟨rfl, hd⟩ | ⟨a, hlt, hget, hdr⟩
  · rw [List.take_length] at hG1 hO1 z1 z2 z3
    rcases hO1 with ⟨h0, _⟩ | ⟨_, k, hk, hO⟩
    · omega
    simp only [decide_true, decide_false, gwL, gwB, gwD, gwE, gwS, gwTT, gwZ, initG, Nat.reduceEqDiff, ↓reduceIte, Nat.reduceAdd, Nat.reduceLT, Nat.reduceLeDiff, List.map_cons, List.map_nil, builtS, builtinV, pureR, binV, sliceV, pickV, evO, Env.look, find, V.ofConst, resV, resOne, tupV, loadV, fillV, buildV, mkIface, litM, litS, litR, litRows, List.reverse_cons, List.reverse_nil, Nat.reduceMul, appS, memA, appendV, rowsOf, V.cells, TI.sized, TI.known, TI.agg, anL, List.length_cons, List.length_nil, List.append_nil, List.cons_append, List.nil_append, List.drop_succ_cons, List.drop_zero, List.drop_nil, List.take_succ_cons, List.take_zero, List.take_nil, List.getElem?_cons_zero, List.getElem?_cons_succ, List.all_cons, List.all_nil, List.replicate_succ, List.replicate_zero, List.set_cons_zero, List.set_cons_succ, eq_self, true_or, ne_eq, not_false_eq_true, Nat.reduceEqDiff, lt_no, encD_drop_app, List.length_map, hO.box]
    exact ⟨k, rfl, by omega, hO.tip, hG1, hK1⟩
  · have hnt := nodesCs_take hget
    have hpos := nodesC_pos a
    have hG2 := hG1.app [Ent.box (encC a)]
    obtain ⟨y1, y2, y3⟩ := genC_size a (genSeq (kids.take i) true [] ps).2
    simp only [decide_true, decide_false, gwL, gwB, gwD, gwE, gwS, gwTT, gwZ, initG, Nat.reduceEqDiff, ↓reduceIte, Nat.reduceAdd, Nat.reduceLT, Nat.reduceLeDiff, List.map_cons, List.map_nil, builtS, builtinV, pureR, binV, sliceV, pickV, evO, Env.look, find, V.ofConst, resV, resOne, tupV, loadV, fillV, buildV, mkIface, litM, litS, litR, litRows, List.reverse_cons, List.reverse_nil, Nat.reduceMul, appS, memA, appendV, rowsOf, V.cells, TI.sized, TI.known, TI.agg, anL, List.length_cons, List.length_nil, List.append_nil, List.cons_append, List.nil_append, List.drop_succ_cons, List.drop_zero, List.drop_nil, List.take_succ_cons, List.take_zero, List.take_nil, List.getElem?_cons_zero, List.getElem?_cons_succ, List.all_cons, List.all_nil, List.replicate_succ, List.replicate_zero, List.set_cons_zero, List.set_cons_succ, eq_self, true_or, ne_eq, not_false_eq_true, Nat.reduceEqDiff, lt_yes hlt, encD_drop_app, List.length_map, getD_map hget, Int.ofNat_lt.mpr hlt, encC_take, encC_len, encC_drop]
    refine iK_split (fun h => ?_) (fun h => ?_)
    · have h0 : 0 < i := by simpa using h
      have hem : (kids.take i).isEmpty = false := by
        cases e : kids.take i with
        | nil => have h3 : (kids.take i).length = i := by { rw [List.length_take]; omega }
                 rw [e] at h3; simp at h3; omega
        | cons x r => rfl
      rcases hO1 with ⟨hz, _⟩ | ⟨_, k, hk, hO⟩
      · omega
      have hO2 : OT (S ++ [Ent.box (encC a)]) s.length k _ := hO.keep (X := fun _ => False) ⟨by simp, fun j hj _ => st_old hj⟩ (fun h => h) (fun h => h)
      have hbx : ∀ X, ((S ++ [Ent.box (encC a)]).set k X)[s.length]? = some (.box [.lst 11 (some k) ((genSeq (kids.take i) true [] ps).1.map encI)]) := fun X => by rw [List.getElem?_set_ne hO.ne, hO2.box]
      have hbS : ∀ X Y, (((S ++ [Ent.box (encC a)]).set k X).set s.length Y)[S.length]? = some (.box (encC a)) := fun X Y => by
        rw [List.getElem?_set_ne (by omega), List.getElem?_set_ne (by have := hO.lt.2; omega)]
        simp only [gwL]
      simp only [decide_true, decide_false, gwL, gwB, gwD, gwE, gwS, gwTT, gwZ, initG, Nat.reduceEqDiff, ↓reduceIte, Nat.reduceAdd, Nat.reduceLT, Nat.reduceLeDiff, List.map_cons, List.map_nil, builtS, builtinV, pureR, binV, sliceV, pickV, evO, Env.look, find, V.ofConst, resV, resOne, tupV, loadV, fillV, buildV, mkIface, litM, litS, litR, litRows, List.reverse_cons, List.reverse_nil, Nat.reduceMul, appS, memA, appendV, rowsOf, V.cells, TI.sized, TI.known, TI.agg, anL, List.length_cons, List.length_nil, List.append_nil, List.cons_append, List.nil_append, List.drop_succ_cons, List.drop_zero, List.drop_nil, List.take_succ_cons, List.take_zero, List.take_nil, List.getElem?_cons_zero, List.getElem?_cons_succ, List.all_cons, List.all_nil, List.replicate_succ, List.replicate_zero, List.set_cons_zero, List.set_cons_succ, eq_self, true_or, ne_eq, not_false_eq_true, Nat.reduceEqDiff, hO2.box, hO2.tip, hbx, hbS, List.length_map, encC_take, encC_len, encC_drop]
      obtain ⟨hO3, hK3⟩ := hO2.push { op := 14 }
      have hG3 := hG2.keep hK3 (by omega) (by omega) (by omega)
      refine ⟨by omega, ?_⟩
      refine useQS (ih a (List.mem_of_getElem? hget) (okCs_mem hks (List.mem_of_getElem? hget)) _ b P q _ hG3 (by omega) (by omega)) (wkL_refl _) (wk_push (wk_ins ..)) (by rintro v s' ⟨o, h, _⟩; cases h) ?_
      rintro X s1 hX ⟨o1, hX', ho1, htip1, hG4, hK4⟩
      cases hX'
      have hO4 := hO3.keep hK4 (by rintro (h | h | h) <;> omega) (by rintro (h | h | h) <;> omega)
      simp only [decide_true, decide_false, gwL, gwB, gwD, gwE, gwS, gwTT, gwZ, initG, Nat.reduceEqDiff, ↓reduceIte, Nat.reduceAdd, Nat.reduceLT, Nat.reduceLeDiff, List.map_cons, List.map_nil, builtS, builtinV, pureR, binV, sliceV, pickV, evO, Env.look, find, V.ofConst, resV, resOne, tupV, loadV, fillV, buildV, mkIface, litM, litS, litR, litRows, List.reverse_cons, List.reverse_nil, Nat.reduceMul, appS, memA, appendV, rowsOf, V.cells, TI.sized, TI.known, TI.agg, anL, List.length_cons, List.length_nil, List.append_nil, List.cons_append, List.nil_append, List.drop_succ_cons, List.drop_zero, List.drop_nil, List.take_succ_cons, List.take_zero, List.take_nil, List.getElem?_cons_zero, List.getElem?_cons_succ, List.all_cons, List.all_nil, List.replicate_succ, List.replicate_zero, List.set_cons_zero, List.set_cons_succ, eq_self, true_or, ne_eq, not_false_eq_true, Nat.reduceEqDiff]
      refine useQS (c_addX s1 s.length i _ _ (.inr ⟨h0, k, hk, hO4⟩) (by omega) (by simp; omega)) (wkL_cons (wk_tok ..) (wkL_refl _)) (wkSt_refl _) (by rintro v s' ⟨h, _⟩; cases h) ?_
      rintro X s2 hX ⟨hX', hO5, hK5⟩
      cases hX'
      simp only [decide_true, decide_false, gwL, gwB, gwD, gwE, gwS, gwTT, gwZ, initG, Nat.reduceEqDiff, ↓reduceIte, Nat.reduceAdd, Nat.reduceLT, Nat.reduceLeDiff, List.map_cons, List.map_nil, builtS, builtinV, pureR, binV, sliceV, pickV, evO, Env.look, find, V.ofConst, resV, resOne, tupV, loadV, fillV, buildV, mkIface, litM, litS, litR, litRows, List.reverse_cons, List.reverse_nil, Nat.reduceMul, appS, memA, appendV, rowsOf, V.cells, TI.sized, TI.known, TI.agg, anL, List.length_cons, List.length_nil, List.append_nil, List.cons_append, List.nil_append, List.drop_succ_cons, List.drop_zero, List.drop_nil, List.take_succ_cons, List.take_zero, List.take_nil, List.getElem?_cons_zero, List.getElem?_cons_succ, List.all_cons, List.all_nil, List.replicate_succ, List.replicate_zero, List.set_cons_zero, List.set_cons_succ, eq_self, true_or, ne_eq, not_false_eq_true, Nat.reduceEqDiff]
      have hKS : Kp (isG b P q) s s1 := (hK1.then (Y := fun j => j = s.length ∨ j = k) hK3.app fun j hj h => by omega).trans hK4
      refine ⟨(i + 1, s2), by simp only [next_i64 hlt (show kids.length ≤ 9223372036854775807 by omega)]; rfl, rfl, by simp only; omega, by simp only; omega, ?_, ?_, ?_, ?_⟩
      · simp only; rw [take_next hget, genSeq_snoc]; exact hG4.keep hK5 (by omega) (by omega) (by omega)
      · exact hKS.then hK5 fun j hj h => by omega
      · have q1 := hK5.1; have q2 := hK4.1; simp only [List.length_set, List.length_append] at q2 ⊢; omega
      · simp only; rw [take_next hget, genSeq_snoc, hem]; exact hO5
    · have h0 : i = 0 := by simpa using h
      subst h0
      simp only [List.take_zero] at hG1 hO1 z1 z2 z3 hnt hG2 y1 y2 y3
      simp only [decide_true, decide_false, gwL, gwB, gwD, gwE, gwS, gwTT, gwZ, initG, Nat.reduceEqDiff, ↓reduceIte, Nat.reduceAdd, Nat.reduceLT, Nat.reduceLeDiff, List.map_cons, List.map_nil, builtS, builtinV, pureR, binV, sliceV, pickV, evO, Env.look, find, V.ofConst, resV, resOne, tupV, loadV, fillV, buildV, mkIface, litM, litS, litR, litRows, List.reverse_cons, List.reverse_nil, Nat.reduceMul, appS, memA, appendV, rowsOf, V.cells, TI.sized, TI.known, TI.agg, anL, List.length_cons, List.length_nil, List.append_nil, List.cons_append, List.nil_append, List.drop_succ_cons, List.drop_zero, List.drop_nil, List.take_succ_cons, List.take_zero, List.take_nil, List.getElem?_cons_zero, List.getElem?_cons_succ, List.all_cons, List.all_nil, List.replicate_succ, List.replicate_zero, List.set_cons_zero, List.set_cons_succ, eq_self, true_or, ne_eq, not_false_eq_true, Nat.reduceEqDiff, encC_take, encC_len, encC_drop]
      refine useQS (ih a (List.mem_of_getElem? hget) (okCs_mem hks (List.mem_of_getElem? hget)) _ b P q _ hG2 (by omega) (by omega)) (wkL_refl _) (wkSt_refl _) (by rintro v s' ⟨o, h, _⟩; cases h) ?_
      rintro X s1 hX ⟨o1, hX', ho1, htip1, hG4, hK4⟩
      cases hX'
      have hO4 := hO1.keep hK4.app fun j hj h => by rcases h with h | h | h <;> omega
      simp only [decide_true, decide_false, gwL, gwB, gwD, gwE, gwS, gwTT, gwZ, initG, Nat.reduceEqDiff, ↓reduceIte, Nat.reduceAdd, Nat.reduceLT, Nat.reduceLeDiff, List.map_cons, List.map_nil, builtS, builtinV, pureR, binV, sliceV, pickV, evO, Env.look, find, V.ofConst, resV, resOne, tupV, loadV, fillV, buildV, mkIface, litM, litS, litR, litRows, List.reverse_cons, List.reverse_nil, Nat.reduceMul, appS, memA, appendV, rowsOf, V.cells, TI.sized, TI.known, TI.agg, anL, List.length_cons, List.length_nil, List.append_nil, List.cons_append, List.nil_append, List.drop_succ_cons, List.drop_zero, List.drop_nil, List.take_succ_cons, List.take_zero, List.take_nil, List.getElem?_cons_zero, List.getElem?_cons_succ, List.all_cons, List.all_nil, List.replicate_succ, List.replicate_zero, List.set_cons_zero, List.set_cons_succ, eq_self, true_or, ne_eq, not_false_eq_true, Nat.reduceEqDiff]
      refine useQS (c_addX s1 s.length 0 _ _ hO4 (by omega) (by omega)) (wkL_cons (wk_tok ..) (wkL_refl _)) (wkSt_refl _) (by rintro v s' ⟨h, _⟩; cases h) ?_
      rintro X s2 hX ⟨hX', hO5, hK5⟩
      cases hX'
      simp only [decide_true, decide_false, gwL, gwB, gwD, gwE, gwS, gwTT, gwZ, initG, Nat.reduceEqDiff, ↓reduceIte, Nat.reduceAdd, Nat.reduceLT, Nat.reduceLeDiff, List.map_cons, List.map_nil, builtS, builtinV, pureR, binV, sliceV, pickV, evO, Env.look, find, V.ofConst, resV, resOne, tupV, loadV, fillV, buildV, mkIface, litM, litS, litR, litRows, List.reverse_cons, List.reverse_nil, Nat.reduceMul, appS, memA, appendV, rowsOf, V.cells, TI.sized, TI.known, TI.agg, anL, List.length_cons, List.length_nil, List.append_nil, List.cons_append, List.nil_append, List.drop_succ_cons, List.drop_zero, List.drop_nil, List.take_succ_cons, List.take_zero, List.take_nil, List.getElem?_cons_zero, List.getElem?_cons_succ, List.all_cons, List.all_nil, List.replicate_succ, List.replicate_zero, List.set_cons_zero, List.set_cons_succ, eq_self, true_or, ne_eq, not_false_eq_true, Nat.reduceEqDiff]
      refine ⟨(0 + 1, s2), by simp only [next_i64 hlt (show kids.length ≤ 9223372036854775807 by omega)]; rfl, rfl, by simp only; omega, by simp only; omega, ?_, ?_, ?_, ?_⟩
      · simp only; rw [take_next hget, genSeq_snoc, List.take_zero]; exact hG4.keep hK5 (by omega) (by omega) (by omega)
      · exact (hK1.trans hK4.app).then hK5 fun j hj h => by omega
      · have q1 := hK5.1; have q2 := hK4.1; simp only [List.length_append] at q2 ⊢; omega
      · simp only; rw [take_next hget, genSeq_snoc, List.take_zero]; exact hO5

theorem c_Code (c : Core) : PCode c := by
  refine Core.ind (p := PCode) ?_ c
  intro k ix n lb ow q kids ih hok
  have hok' := hok
  rw [okC] at hok'
  obtain ⟨hk, hl, hq, hks⟩ := hok'
  rcases kind_cases hk with h | h | h | h | h | h | rfl | rfl | rfl | rfl | rfl | rfl | rfl
  · exact c_code_one k ix n lb ow q kids (by omega) hok
  · exact c_code_one k ix n lb ow q kids (by omega) hok
  · exact c_code_one k ix n lb ow q kids (by omega) hok
  · exact c_code_one k ix n lb ow q kids (by omega) hok
  · exact c_code_one k ix n lb ow q kids (by omega) hok
  · exact c_code_one k ix n lb ow q kids (by omega) hok
  · obtain ⟨x, y, z, rfl⟩ := kids3 hl
    exact c_code_if ix n lb ow q x y z (ih x (by simp)) (ih y (by simp)) (ih z (by simp)) hok
  · obtain ⟨x, rfl⟩ := kids1 hl (by simp)
    exact c_code_lambda ix n lb ow q x (ih x (by simp)) hok
  · exact c_code_call ix n lb ow q kids ih hok
  · obtain ⟨x, rfl⟩ := kids1 hl (by simp)
    exact c_code_set 10 ix n lb ow q x (by simp) (ih x (by simp)) hok
  · obtain ⟨x, rfl⟩ := kids1 hl (by simp)
    exact c_code_set 11 ix n lb ow q x (by simp) (ih x (by simp)) hok
  · exact c_code_seq ix n lb ow q kids ih hok
  · obtain ⟨x, rfl⟩ := kids1 hl (by simp)
    exact c_code_set 13 ix n lb ow q x (by simp) (ih x (by simp)) hok
end Go.Proofs.Ytpfdoffnpkokhaa.Gx

namespace Go.Proofs.Ytpfdoffnpkokhaa.Gx
open Go Go.Proofs.Ytpfdoffnpkokhaa.Gw
set_option linter.unusedSimpArgs false

def genBody : List Core → List Ins → List Pr → List Ins × List Pr
  | [], out, g => (out, g)
  | c :: r, out, g => genBody r (addI out (genC c g).1 ++ [{ op := 14 }]) (genC c g).2
theorem genBody_snoc : ∀ (l : List Core) (c : Core) (out : List Ins) (g : List Pr), genBody (l ++ [c]) out g = (addI (genBody l out g).1 (genC c (genBody l out g).2).1 ++ [{ op := 14 }], (genC c (genBody l out g).2).2)
  | [], c, out, g => by simp only [List.nil_append, genBody]
  | d :: l, c, out, g => by simp only [List.cons_append, genBody, genBody_snoc l c]
theorem genBody_size : ∀ (l : List Core) (out : List Ins) (g : List Pr), (genBody l out g).1.length ≤ out.length + 3 * nodesCs l ∧ (genBody l out g).2.length ≤ g.length + nodesCs l ∧ g.length ≤ (genBody l out g).2.length
  | [], out, g => by simp [genBody, nodesCs]
  | c :: r, out, g => by
    rw [genBody, nodesCs]
    have h1 := genC_size c g
    have h2 := genBody_size r (addI out (genC c g).1 ++ [{ op := 14 }]) (genC c g).2
    simp only [addI_len, List.length_append, List.length_cons, List.length_nil] at h2
    omega
def protosR (l : List Core) : List Pr := (genBody l [] [⟨0, []⟩]).2.modify 0 fun p => ⟨p.args, (genBody l [] [⟨0, []⟩]).1 ++ [{ op := 15 }]⟩
def compileR (p : Part) : Unit' × Int :=
  bif decide ((wrongPs [p]).1 = 0) then (bif muchP (protosR p.body) then (⟨[], []⟩, 4) else (⟨p.name, protosR p.body⟩, 0)) else (⟨[], []⟩, (wrongPs [p]).1)

/-- A list that grows, or what may be taken for it. -/
def BX (n0 : Nat) (S : St) (v : V) (body : List Ins) : Prop := ∃ k rows, v = .lst 11 (some k) rows ∧ wkRp NoTok rows (body.map encI) ∧ S[k]? = some (.tip 46 body.length) ∧ n0 ≤ k

theorem wkR_app {p : Nat → Prop} : ∀ {a a' b b' : List (List V)}, wkRp p a a' → wkRp p b b' → wkRp p (a ++ b) (a' ++ b')
  | [], _, b, b', h, k => by simp only [wkRp] at h; subst h; exact k
  | x :: xs, _, b, b', h, k => by
    simp only [wkRp] at h
    obtain ⟨z, zs, rfl, h1, h2⟩ := h
    simp only [List.cons_append, wkRp]
    exact ⟨z, _, rfl, h1, wkR_app h2 k⟩

theorem BX.keep {n0 : Nat} {S S' : St} {v : V} {body : List Ins} {b P q : Nat} {ps : List Pr} (h : BX n0 S v body) (hG : GS S b P q ps) (kp : Kp (isG b P q) S S') : BX n0 S' v body := by
  obtain ⟨k, rows, h1, h2, h3, h4⟩ := h
  refine ⟨k, rows, h1, h2, ?_, h4⟩
  rw [kp.2 k (List.getElem?_eq_some_iff.1 h3).1 ?_, h3]
  rintro (e | e | e)
  · subst e; have := hG.box; rw [h3] at this; cases this
  · subst e; have := hG.arr; rw [h3] at this; cases this
  · subst e; have := hG.tip; rw [h3] at this; cases this
end Go.Proofs.Ytpfdoffnpkokhaa.Gx

namespace Go.Proofs.Ytpfdoffnpkokhaa.Gx
open Go Go.Proofs.Ytpfdoffnpkokhaa.Gw
set_option linter.unusedSimpArgs false

def sameI (x y : Ins) : Bool := ((((decide (x.op = y.op) && decide (x.a = y.a)) && decide (x.n = y.n)) && decide (x.lib = y.lib)) && decide (x.own = y.own)) && eqD x.quote y.quote
def sameL : List Ins → List Ins → Bool
  | [], [] => true
  | x :: r, y :: s => sameI x y && sameL r s
  | [], _ :: _ => false
  | _ :: _, [] => false
def samePs : List Pr → List Pr → Bool
  | [], [] => true
  | p :: r, q :: s => (decide (p.args = q.args) && decide (p.code.length = q.code.length)) && (sameL p.code q.code && samePs r s)
  | [], _ :: _ => false
  | _ :: _, [] => false
theorem samePs_len : ∀ {l m : List Pr}, l.length ≠ m.length → samePs l m = false
  | [], [], h => absurd rfl h
  | [], _ :: _, _ => by simp only [samePs]
  | _ :: _, [], _ => by simp only [samePs]
  | a :: r, b :: r', h => by
    simp only [samePs, samePs_len (l := r) (m := r') (by simpa using h), Bool.and_false]

set_option maxRecDepth 20000 in
set_option maxHeartbeats 8000000 in
theorem c_SameProtos (l m : List Pr) (st : St) : VCalls Try.prog TT 13 [lstPr l, lstPr m] st fun r st' => r = .ret (.bool (samePs l m)) ∧ st' = st := by
  refine vfun TT_ok (an := anL []) (L := [0, 1, 4, 5, 6, 7, 8, 15, 16, 50, 51]) (rs := [.tmp 4]) Try.func13 rfl (by kernel_rfl) rfl Try.ntmps13 rfl rfl (Nat.le_refl _) fun hst ha hf => ?_
  simp only [lstPr, fitL, V.fit, List.length_map] at hf ⊢
  obtain ⟨⟨hkl, hfl⟩, ⟨hkm, hfm⟩, _⟩ := hf
  simp only [decide_true, decide_false, gwL, gwB, gwD, gwE, gwS, gwTT, gwZ, initG, Nat.reduceEqDiff, ↓reduceIte, Nat.reduceAdd, Nat.reduceLT, Nat.reduceLeDiff, List.map_cons, List.map_nil, builtS, builtinV, pureR, binV, sliceV, pickV, evO, Env.look, find, V.ofConst, resV, resOne, tupV, loadV, fillV, buildV, mkIface, litM, litS, litR, litRows, List.reverse_cons, List.reverse_nil, Nat.reduceMul, appS, memA, appendV, rowsOf, V.cells, TI.sized, TI.known, TI.agg, anL, List.length_cons, List.length_nil, List.append_nil, List.cons_append, List.nil_append, List.drop_succ_cons, List.drop_zero, List.drop_nil, List.take_succ_cons, List.take_zero, List.take_nil, List.getElem?_cons_zero, List.getElem?_cons_succ, List.all_cons, List.all_nil, List.replicate_succ, List.replicate_zero, List.set_cons_zero, List.set_cons_succ, eq_self, true_or, ne_eq, not_false_eq_true, Nat.reduceEqDiff, List.length_map]
  refine iK_split (fun h => ?_) (fun h => ?_)
  · simp only [decide_true, decide_false, gwL, gwB, gwD, gwE, gwS, gwTT, gwZ, initG, Nat.reduceEqDiff, ↓reduceIte, Nat.reduceAdd, Nat.reduceLT, Nat.reduceLeDiff, List.map_cons, List.map_nil, builtS, builtinV, pureR, binV, sliceV, pickV, evO, Env.look, find, V.ofConst, resV, resOne, tupV, loadV, fillV, buildV, mkIface, litM, litS, litR, litRows, List.reverse_cons, List.reverse_nil, Nat.reduceMul, appS, memA, appendV, rowsOf, V.cells, TI.sized, TI.known, TI.agg, anL, List.length_cons, List.length_nil, List.append_nil, List.cons_append, List.nil_append, List.drop_succ_cons, List.drop_zero, List.drop_nil, List.take_succ_cons, List.take_zero, List.take_nil, List.getElem?_cons_zero, List.getElem?_cons_succ, List.all_cons, List.all_nil, List.replicate_succ, List.replicate_zero, List.set_cons_zero, List.set_cons_succ, eq_self, true_or, ne_eq, not_false_eq_true, Nat.reduceEqDiff]
    refine gives_bool ?_ hst
    rw [samePs_len]
    simp at h
    omega
  have hlen : l.length = m.length := by simp at h; omega
  simp only [decide_true, decide_false, gwL, gwB, gwD, gwE, gwS, gwTT, gwZ, initG, Nat.reduceEqDiff, ↓reduceIte, Nat.reduceAdd, Nat.reduceLT, Nat.reduceLeDiff, List.map_cons, List.map_nil, builtS, builtinV, pureR, binV, sliceV, pickV, evO, Env.look, find, V.ofConst, resV, resOne, tupV, loadV, fillV, buildV, mkIface, litM, litS, litR, litRows, List.reverse_cons, List.reverse_nil, Nat.reduceMul, appS, memA, appendV, rowsOf, V.cells, TI.sized, TI.known, TI.agg, anL, List.length_cons, List.length_nil, List.append_nil, List.cons_append, List.nil_append, List.drop_succ_cons, List.drop_zero, List.drop_nil, List.take_succ_cons, List.take_zero, List.take_nil, List.getElem?_cons_zero, List.getElem?_cons_succ, List.all_cons, List.all_nil, List.replicate_succ, List.replicate_zero, List.set_cons_zero, List.set_cons_succ, eq_self, true_or, ne_eq, not_false_eq_true, Nat.reduceEqDiff, List.length_map]
  refine vfor (σ := Nat × St) [0, 1, 4, 15, 16] (fun x => [(0, true, lstPr l), (1, true, lstPr m), (4, true, .bool false), (15, true, .int .i64 l.length), (16, true, .int .i64 x.1)]) (fun x => st ++ x.2) (fun x => l.length - x.1) (fun x => x.1 ≤ l.length ∧ samePs l m = samePs (l.drop x.1) (m.drop x.1)) (0, []) rfl TT_ok ⟨Nat.zero_le _, rfl⟩ rfl (List.append_nil st).symm ?_
  rintro ⟨i, ex⟩ ⟨hi, hx⟩
  simp only at hi hx ⊢
  rw [hx]
  simp only [lstPr]
  rcases at_or_end l i hi with ⟨rfl, hd⟩ | ⟨a, hlt, hget, hdr⟩
  · have hd2 : m.drop l.length = [] := List.drop_of_length_le (by omega)
    simp only [decide_true, decide_false, gwL, gwB, gwD, gwE, gwS, gwTT, gwZ, initG, Nat.reduceEqDiff, ↓reduceIte, Nat.reduceAdd, Nat.reduceLT, Nat.reduceLeDiff, List.map_cons, List.map_nil, builtS, builtinV, pureR, binV, sliceV, pickV, evO, Env.look, find, V.ofConst, resV, resOne, tupV, loadV, fillV, buildV, mkIface, litM, litS, litR, litRows, List.reverse_cons, List.reverse_nil, Nat.reduceMul, appS, memA, appendV, rowsOf, V.cells, TI.sized, TI.known, TI.agg, anL, List.length_cons, List.length_nil, List.append_nil, List.cons_append, List.nil_append, List.drop_succ_cons, List.drop_zero, List.drop_nil, List.take_succ_cons, List.take_zero, List.take_nil, List.getElem?_cons_zero, List.getElem?_cons_succ, List.all_cons, List.all_nil, List.replicate_succ, List.replicate_zero, List.set_cons_zero, List.set_cons_succ, eq_self, true_or, ne_eq, not_false_eq_true, Nat.reduceEqDiff, lt_no, hd, hd2, samePs]
    exact gives_bool' rfl hst
  · rcases at_or_end m i (by omega) with ⟨e, hd⟩ | ⟨b, hlt2, hget2, hdr2⟩
    · omega
    simp only [decide_true, decide_false, gwL, gwB, gwD, gwE, gwS, gwTT, gwZ, initG, Nat.reduceEqDiff, ↓reduceIte, Nat.reduceAdd, Nat.reduceLT, Nat.reduceLeDiff, List.map_cons, List.map_nil, builtS, builtinV, pureR, binV, sliceV, pickV, evO, Env.look, find, V.ofConst, resV, resOne, tupV, loadV, fillV, buildV, mkIface, litM, litS, litR, litRows, List.reverse_cons, List.reverse_nil, Nat.reduceMul, appS, memA, appendV, rowsOf, V.cells, TI.sized, TI.known, TI.agg, anL, List.length_cons, List.length_nil, List.append_nil, List.cons_append, List.nil_append, List.drop_succ_cons, List.drop_zero, List.drop_nil, List.take_succ_cons, List.take_zero, List.take_nil, List.getElem?_cons_zero, List.getElem?_cons_succ, List.all_cons, List.all_nil, List.replicate_succ, List.replicate_zero, List.set_cons_zero, List.set_cons_succ, eq_self, true_or, ne_eq, not_false_eq_true, Nat.reduceEqDiff, lt_yes hlt, hdr, hdr2, samePs, List.length_map, Int.ofNat_lt.mpr hlt]
    refine vdraw TT_ok TT_mixed [0, 0, 0, 0, 1, 0, 0, 0, 0, 1, 0, 0, 0, 0, 0, 0, 1, 0, 0, 0, 0, 0, 1, 0, 0, 0] (by kernel_rfl) ?_
    simp only [decide_true, decide_false, gwL, gwB, gwD, gwE, gwS, gwTT, gwZ, initG, Nat.reduceEqDiff, ↓reduceIte, Nat.reduceAdd, Nat.reduceLT, Nat.reduceLeDiff, List.map_cons, List.map_nil, builtS, builtinV, pureR, binV, sliceV, pickV, evO, Env.look, find, V.ofConst, resV, resOne, tupV, loadV, fillV, buildV, mkIface, litM, litS, litR, litRows, List.reverse_cons, List.reverse_nil, Nat.reduceMul, appS, memA, appendV, rowsOf, V.cells, TI.sized, TI.known, TI.agg, anL, List.length_cons, List.length_nil, List.append_nil, List.cons_append, List.nil_append, List.drop_succ_cons, List.drop_zero, List.drop_nil, List.take_succ_cons, List.take_zero, List.take_nil, List.getElem?_cons_zero, List.getElem?_cons_succ, List.all_cons, List.all_nil, List.replicate_succ, List.replicate_zero, List.set_cons_zero, List.set_cons_succ, eq_self, true_or, ne_eq, not_false_eq_true, Nat.reduceEqDiff, List.length_map, getD_map hget, getD_map hget2, encPr, lstI, Int.ofNat_lt.mpr hlt, Int.ofNat_lt.mpr hlt2]
    have hfa := fit_rows hfl (List.mem_of_getElem? hget)
    simp only [encPr, lstI, fitL, V.fit, List.length_map] at hfa
    have hal : a.code.length ≤ 9223372036854775807 := hfa.2.1.1
    refine iK_split (fun h5 => ?_) (fun h5 => ?_)
    · have e5 : (decide (a.args = b.args) && decide (a.code.length = b.code.length)) = false := by
        revert h5
        cases decide (a.args = b.args) <;> simp
        omega
      simp only [decide_true, decide_false, gwL, gwB, gwD, gwE, gwS, gwTT, gwZ, initG, Nat.reduceEqDiff, ↓reduceIte, Nat.reduceAdd, Nat.reduceLT, Nat.reduceLeDiff, List.map_cons, List.map_nil, builtS, builtinV, pureR, binV, sliceV, pickV, evO, Env.look, find, V.ofConst, resV, resOne, tupV, loadV, fillV, buildV, mkIface, litM, litS, litR, litRows, List.reverse_cons, List.reverse_nil, Nat.reduceMul, appS, memA, appendV, rowsOf, V.cells, TI.sized, TI.known, TI.agg, anL, List.length_cons, List.length_nil, List.append_nil, List.cons_append, List.nil_append, List.drop_succ_cons, List.drop_zero, List.drop_nil, List.take_succ_cons, List.take_zero, List.take_nil, List.getElem?_cons_zero, List.getElem?_cons_succ, List.all_cons, List.all_nil, List.replicate_succ, List.replicate_zero, List.set_cons_zero, List.set_cons_succ, eq_self, true_or, ne_eq, not_false_eq_true, Nat.reduceEqDiff, e5]
      exact gives_bool' rfl hst
    have e5 : (decide (a.args = b.args) && decide (a.code.length = b.code.length)) = true := by
      revert h5
      cases decide (a.args = b.args) <;> simp
      omega
    have hcl : a.code.length = b.code.length := by simp at e5; exact e5.2
    rw [e5]
    simp only [decide_true, decide_false, gwL, gwB, gwD, gwE, gwS, gwTT, gwZ, initG, Nat.reduceEqDiff, ↓reduceIte, Nat.reduceAdd, Nat.reduceLT, Nat.reduceLeDiff, List.map_cons, List.map_nil, builtS, builtinV, pureR, binV, sliceV, pickV, evO, Env.look, find, V.ofConst, resV, resOne, tupV, loadV, fillV, buildV, mkIface, litM, litS, litR, litRows, List.reverse_cons, List.reverse_nil, Nat.reduceMul, appS, memA, appendV, rowsOf, V.cells, TI.sized, TI.known, TI.agg, anL, List.length_cons, List.length_nil, List.append_nil, List.cons_append, List.nil_append, List.drop_succ_cons, List.drop_zero, List.drop_nil, List.take_succ_cons, List.take_zero, List.take_nil, List.getElem?_cons_zero, List.getElem?_cons_succ, List.all_cons, List.all_nil, List.replicate_succ, List.replicate_zero, List.set_cons_zero, List.set_cons_succ, eq_self, true_or, ne_eq, not_false_eq_true, Nat.reduceEqDiff, List.length_map, getD_map hget, encPr, lstI, Int.ofNat_lt.mpr hlt]
    refine vfor (σ := Nat × St) [0, 1, 4, 5, 15, 16, 50, 51] (fun x => [(0, true, lstPr l), (1, true, lstPr m), (4, true, .bool false), (5, true, .int .i64 i), (15, true, .int .i64 l.length), (16, true, .int .i64 i), (50, true, .int .i64 a.code.length), (51, true, .int .i64 x.1)]) (fun x => st ++ x.2) (fun x => a.code.length - x.1) (fun x => x.1 ≤ a.code.length ∧ sameL a.code b.code = sameL (a.code.drop x.1) (b.code.drop x.1)) (0, ex) rfl TT_ok ⟨Nat.zero_le _, rfl⟩ rfl rfl ?_
    rintro ⟨j, ex2⟩ ⟨hj, hy⟩
    simp only at hj hy ⊢
    rw [hy]
    simp only [lstPr]
    rcases at_or_end a.code j hj with ⟨rfl, hd3⟩ | ⟨u, hltj, hgetj, hdrj⟩
    · have hd4 : b.code.drop a.code.length = [] := List.drop_of_length_le (by omega)
      simp only [decide_true, decide_false, gwL, gwB, gwD, gwE, gwS, gwTT, gwZ, initG, Nat.reduceEqDiff, ↓reduceIte, Nat.reduceAdd, Nat.reduceLT, Nat.reduceLeDiff, List.map_cons, List.map_nil, builtS, builtinV, pureR, binV, sliceV, pickV, evO, Env.look, find, V.ofConst, resV, resOne, tupV, loadV, fillV, buildV, mkIface, litM, litS, litR, litRows, List.reverse_cons, List.reverse_nil, Nat.reduceMul, appS, memA, appendV, rowsOf, V.cells, TI.sized, TI.known, TI.agg, anL, List.length_cons, List.length_nil, List.append_nil, List.cons_append, List.nil_append, List.drop_succ_cons, List.drop_zero, List.drop_nil, List.take_succ_cons, List.take_zero, List.take_nil, List.getElem?_cons_zero, List.getElem?_cons_succ, List.all_cons, List.all_nil, List.replicate_succ, List.replicate_zero, List.set_cons_zero, List.set_cons_succ, eq_self, true_or, ne_eq, not_false_eq_true, Nat.reduceEqDiff, lt_no, hd3, hd4, sameL]
      exact ⟨(i + 1, ex2), by simp only [next_i64 hlt hkl]; rfl, rfl, by simp only; omega, by simp only; omega, rfl⟩
    · rcases at_or_end b.code j (by omega) with ⟨e, hd⟩ | ⟨v, hltj2, hgetj2, hdrj2⟩
      · omega
      have encI_take : ∀ i : Ins, (encI i).take 11 = encI i := fun i => List.take_of_length_le (by rw [encI_len]; exact Nat.le_refl _)
      have encI_drop : ∀ i : Ins, (encI i).drop 11 = [] := fun i => List.drop_of_length_le (by rw [encI_len]; exact Nat.le_refl _)
      simp only [decide_true, decide_false, gwL, gwB, gwD, gwE, gwS, gwTT, gwZ, initG, Nat.reduceEqDiff, ↓reduceIte, Nat.reduceAdd, Nat.reduceLT, Nat.reduceLeDiff, List.map_cons, List.map_nil, builtS, builtinV, pureR, binV, sliceV, pickV, evO, Env.look, find, V.ofConst, resV, resOne, tupV, loadV, fillV, buildV, mkIface, litM, litS, litR, litRows, List.reverse_cons, List.reverse_nil, Nat.reduceMul, appS, memA, appendV, rowsOf, V.cells, TI.sized, TI.known, TI.agg, anL, List.length_cons, List.length_nil, List.append_nil, List.cons_append, List.nil_append, List.drop_succ_cons, List.drop_zero, List.drop_nil, List.take_succ_cons, List.take_zero, List.take_nil, List.getElem?_cons_zero, List.getElem?_cons_succ, List.all_cons, List.all_nil, List.replicate_succ, List.replicate_zero, List.set_cons_zero, List.set_cons_succ, eq_self, true_or, ne_eq, not_false_eq_true, Nat.reduceEqDiff, lt_yes hltj, hdrj, hdrj2, sameL, List.length_map, Int.ofNat_lt.mpr hltj]
      refine vdraw2 TT_ok TT_mixed (σ := Nat × Nat × St) [0, 0, 0, 0, 0, 0, 0, 0, 0, 0, 0, 0, 0, 0, 0, 0, 2, 2, 2, 2] [0, 1, 2, 3, 4, 5, 6, 7, 8, 9, 10, 11, 12, 13, 14, 15, 17, 16, 18, 19] 16 17 [0, 1, 4, 5, 7, 8, 15, 16, 50, 51] (fun x => [(0, true, lstPr l), (1, true, lstPr m), (4, true, .bool false), (5, true, .int .i64 i), (7, true, .ptr x.1 0), (8, true, .ptr x.2.1 0), (15, true, .int .i64 l.length), (16, true, .int .i64 i), (50, true, .int .i64 a.code.length), (51, true, .int .i64 j)]) (fun x => st ++ x.2.2) (fun x => (st ++ x.2.2)[x.1]? = some (.box (encI u)) ∧ (st ++ x.2.2)[x.2.1]? = some (.box (encI v))) rfl (by kernel_rfl) ?_ ?_ ?_
      · simp only [decide_true, decide_false, gwL, gwB, gwD, gwE, gwS, gwTT, gwZ, initG, Nat.reduceEqDiff, ↓reduceIte, Nat.reduceAdd, Nat.reduceLT, Nat.reduceLeDiff, List.map_cons, List.map_nil, builtS, builtinV, pureR, binV, sliceV, pickV, evO, Env.look, find, V.ofConst, resV, resOne, tupV, loadV, fillV, buildV, mkIface, litM, litS, litR, litRows, List.reverse_cons, List.reverse_nil, Nat.reduceMul, appS, memA, appendV, rowsOf, V.cells, TI.sized, TI.known, TI.agg, anL, List.length_cons, List.length_nil, List.append_nil, List.cons_append, List.nil_append, List.drop_succ_cons, List.drop_zero, List.drop_nil, List.take_succ_cons, List.take_zero, List.take_nil, List.getElem?_cons_zero, List.getElem?_cons_succ, List.all_cons, List.all_nil, List.replicate_succ, List.replicate_zero, List.set_cons_zero, List.set_cons_succ, eq_self, true_or, ne_eq, not_false_eq_true, Nat.reduceEqDiff, List.length_map, getD_map hget, getD_map hget2, getD_map hgetj, getD_map hgetj2, encPr, lstI, Int.ofNat_lt.mpr hlt, Int.ofNat_lt.mpr hlt2, Int.ofNat_lt.mpr hltj, Int.ofNat_lt.mpr hltj2, encI_take, encI_len, encI_drop]
        exact ⟨rfl, rfl, (st.length + ex2.length, st.length + (ex2.length + 1), ex2 ++ [Ent.box (encI u), Ent.box (encI v)]), rfl, rfl, by simp [List.getElem?_append_right], by simp [List.getElem?_append_right]⟩
      · simp only [pickO, pickC, List.map_cons, List.map_nil, List.getD_cons_zero, List.getD_cons_succ]
        simp only [decide_true, decide_false, gwL, gwB, gwD, gwE, gwS, gwTT, gwZ, initG, Nat.reduceEqDiff, ↓reduceIte, Nat.reduceAdd, Nat.reduceLT, Nat.reduceLeDiff, List.map_cons, List.map_nil, builtS, builtinV, pureR, binV, sliceV, pickV, evO, Env.look, find, V.ofConst, resV, resOne, tupV, loadV, fillV, buildV, mkIface, litM, litS, litR, litRows, List.reverse_cons, List.reverse_nil, Nat.reduceMul, appS, memA, appendV, rowsOf, V.cells, TI.sized, TI.known, TI.agg, anL, List.length_cons, List.length_nil, List.append_nil, List.cons_append, List.nil_append, List.drop_succ_cons, List.drop_zero, List.drop_nil, List.take_succ_cons, List.take_zero, List.take_nil, List.getElem?_cons_zero, List.getElem?_cons_succ, List.all_cons, List.all_nil, List.replicate_succ, List.replicate_zero, List.set_cons_zero, List.set_cons_succ, eq_self, true_or, ne_eq, not_false_eq_true, Nat.reduceEqDiff, List.length_map, getD_map hget, getD_map hget2, getD_map hgetj, getD_map hgetj2, encPr, lstI, Int.ofNat_lt.mpr hlt, Int.ofNat_lt.mpr hlt2, Int.ofNat_lt.mpr hltj, Int.ofNat_lt.mpr hltj2, encI_take, encI_len, encI_drop]
        exact ⟨rfl, rfl, (st.length + (ex2.length + 1), st.length + ex2.length, ex2 ++ [Ent.box (encI v), Ent.box (encI u)]), rfl, rfl, by simp [List.getElem?_append_right], by simp [List.getElem?_append_right]⟩
      · rintro ⟨n1, n2, ex3⟩ ⟨h1, h2⟩
        simp only at h1 h2 ⊢
        obtain ⟨uop, ua, un, ul, uo, uq⟩ := u
        obtain ⟨vop, va, vn, vl, vo, vq⟩ := v
        simp only [encI_mk] at h1 h2
        have ql : 6 ≤ (encD uq).length := by rw [encD_len]; exact Nat.le_refl _
        have ql2 : 6 ≤ (encD vq).length := by rw [encD_len]; exact Nat.le_refl _
        simp only [decide_true, decide_false, gwL, gwB, gwD, gwE, gwS, gwTT, gwZ, initG, Nat.reduceEqDiff, ↓reduceIte, Nat.reduceAdd, Nat.reduceLT, Nat.reduceLeDiff, List.map_cons, List.map_nil, builtS, builtinV, pureR, binV, sliceV, pickV, evO, Env.look, find, V.ofConst, resV, resOne, tupV, loadV, fillV, buildV, mkIface, litM, litS, litR, litRows, List.reverse_cons, List.reverse_nil, Nat.reduceMul, appS, memA, appendV, rowsOf, V.cells, TI.sized, TI.known, TI.agg, anL, List.length_cons, List.length_nil, List.append_nil, List.cons_append, List.nil_append, List.drop_succ_cons, List.drop_zero, List.drop_nil, List.take_succ_cons, List.take_zero, List.take_nil, List.getElem?_cons_zero, List.getElem?_cons_succ, List.all_cons, List.all_nil, List.replicate_succ, List.replicate_zero, List.set_cons_zero, List.set_cons_succ, eq_self, true_or, ne_eq, not_false_eq_true, Nat.reduceEqDiff, h1, h2, encD_take, encD_len, encD_drop]
        refine rK_guarded (.bool (eqD uq vq)) (fun _ => c_Equal uq vq _) ?_
        simp only [decide_true, decide_false, gwL, gwB, gwD, gwE, gwS, gwTT, gwZ, initG, Nat.reduceEqDiff, ↓reduceIte, Nat.reduceAdd, Nat.reduceLT, Nat.reduceLeDiff, List.map_cons, List.map_nil, builtS, builtinV, pureR, binV, sliceV, pickV, evO, Env.look, find, V.ofConst, resV, resOne, tupV, loadV, fillV, buildV, mkIface, litM, litS, litR, litRows, List.reverse_cons, List.reverse_nil, Nat.reduceMul, appS, memA, appendV, rowsOf, V.cells, TI.sized, TI.known, TI.agg, anL, List.length_cons, List.length_nil, List.append_nil, List.cons_append, List.nil_append, List.drop_succ_cons, List.drop_zero, List.drop_nil, List.take_succ_cons, List.take_zero, List.take_nil, List.getElem?_cons_zero, List.getElem?_cons_succ, List.all_cons, List.all_nil, List.replicate_succ, List.replicate_zero, List.set_cons_zero, List.set_cons_succ, eq_self, true_or, ne_eq, not_false_eq_true, Nat.reduceEqDiff]
        have es : sameI ⟨uop, ua, un, ul, uo, uq⟩ ⟨vop, va, vn, vl, vo, vq⟩ = !(!decide (uop = vop) || !decide (ua = va) || !decide (un = vn) || !decide (ul = vl) || !decide (uo = vo) || !eqD uq vq) := by
          simp only [sameI, Bool.not_or, Bool.not_not]
        refine iK_split (fun h7 => ?_) (fun h7 => ?_)
        · rw [h7] at es
          simp only [decide_true, decide_false, gwL, gwB, gwD, gwE, gwS, gwTT, gwZ, initG, Nat.reduceEqDiff, ↓reduceIte, Nat.reduceAdd, Nat.reduceLT, Nat.reduceLeDiff, List.map_cons, List.map_nil, builtS, builtinV, pureR, binV, sliceV, pickV, evO, Env.look, find, V.ofConst, resV, resOne, tupV, loadV, fillV, buildV, mkIface, litM, litS, litR, litRows, List.reverse_cons, List.reverse_nil, Nat.reduceMul, appS, memA, appendV, rowsOf, V.cells, TI.sized, TI.known, TI.agg, anL, List.length_cons, List.length_nil, List.append_nil, List.cons_append, List.nil_append, List.drop_succ_cons, List.drop_zero, List.drop_nil, List.take_succ_cons, List.take_zero, List.take_nil, List.getElem?_cons_zero, List.getElem?_cons_succ, List.all_cons, List.all_nil, List.replicate_succ, List.replicate_zero, List.set_cons_zero, List.set_cons_succ, eq_self, true_or, ne_eq, not_false_eq_true, Nat.reduceEqDiff, es]
          exact gives_bool' rfl hst
        · rw [h7] at es
          simp only [decide_true, decide_false, gwL, gwB, gwD, gwE, gwS, gwTT, gwZ, initG, Nat.reduceEqDiff, ↓reduceIte, Nat.reduceAdd, Nat.reduceLT, Nat.reduceLeDiff, List.map_cons, List.map_nil, builtS, builtinV, pureR, binV, sliceV, pickV, evO, Env.look, find, V.ofConst, resV, resOne, tupV, loadV, fillV, buildV, mkIface, litM, litS, litR, litRows, List.reverse_cons, List.reverse_nil, Nat.reduceMul, appS, memA, appendV, rowsOf, V.cells, TI.sized, TI.known, TI.agg, anL, List.length_cons, List.length_nil, List.append_nil, List.cons_append, List.nil_append, List.drop_succ_cons, List.drop_zero, List.drop_nil, List.take_succ_cons, List.take_zero, List.take_nil, List.getElem?_cons_zero, List.getElem?_cons_succ, List.all_cons, List.all_nil, List.replicate_succ, List.replicate_zero, List.set_cons_zero, List.set_cons_succ, eq_self, true_or, ne_eq, not_false_eq_true, Nat.reduceEqDiff, es]
          exact ⟨(j + 1, ex3), by simp only [next_i64 hltj hal]; rfl, rfl, by simp only; omega, by simp only; omega, rfl⟩

theorem c_SameUnit (u v : Unit') (st : St) : VCalls Try.prog TT 9 [.agg (encU u), .agg (encU v)] st fun r st' => r = .ret (.bool (decide (u.name = v.name) && samePs u.protos v.protos)) ∧ st' = st := by
  refine vfun TT_ok (an := anL [(2, 1), (3, 1)]) (L := [0, 1, 2, 3, 4]) (rs := [.tmp 4]) Try.func9 rfl (by kernel_rfl) rfl Try.ntmps9 rfl rfl (Nat.le_refl _) fun hst ha hf => ?_
  obtain ⟨un, up⟩ := u
  obtain ⟨vn, vp⟩ := v
  simp only [encU]
  simp only [decide_true, decide_false, gwL, gwB, gwD, gwE, gwS, gwTT, gwZ, initG, Nat.reduceEqDiff, ↓reduceIte, Nat.reduceAdd, Nat.reduceLT, Nat.reduceLeDiff, List.map_cons, List.map_nil, builtS, builtinV, pureR, binV, sliceV, pickV, evO, Env.look, find, V.ofConst, resV, resOne, tupV, loadV, fillV, buildV, mkIface, litM, litS, litR, litRows, List.reverse_cons, List.reverse_nil, Nat.reduceMul, appS, memA, appendV, rowsOf, V.cells, TI.sized, TI.known, TI.agg, anL, List.length_cons, List.length_nil, List.append_nil, List.cons_append, List.nil_append, List.drop_succ_cons, List.drop_zero, List.drop_nil, List.take_succ_cons, List.take_zero, List.take_nil, List.getElem?_cons_zero, List.getElem?_cons_succ, List.all_cons, List.all_nil, List.replicate_succ, List.replicate_zero, List.set_cons_zero, List.set_cons_succ, eq_self, true_or, ne_eq, not_false_eq_true, Nat.reduceEqDiff]
  refine rK_guarded (.bool (samePs up vp)) (fun _ => c_SameProtos up vp _) ?_
  simp only [decide_true, decide_false, gwL, gwB, gwD, gwE, gwS, gwTT, gwZ, initG, Nat.reduceEqDiff, ↓reduceIte, Nat.reduceAdd, Nat.reduceLT, Nat.reduceLeDiff, List.map_cons, List.map_nil, builtS, builtinV, pureR, binV, sliceV, pickV, evO, Env.look, find, V.ofConst, resV, resOne, tupV, loadV, fillV, buildV, mkIface, litM, litS, litR, litRows, List.reverse_cons, List.reverse_nil, Nat.reduceMul, appS, memA, appendV, rowsOf, V.cells, TI.sized, TI.known, TI.agg, anL, List.length_cons, List.length_nil, List.append_nil, List.cons_append, List.nil_append, List.drop_succ_cons, List.drop_zero, List.drop_nil, List.take_succ_cons, List.take_zero, List.take_nil, List.getElem?_cons_zero, List.getElem?_cons_succ, List.all_cons, List.all_nil, List.replicate_succ, List.replicate_zero, List.set_cons_zero, List.set_cons_succ, eq_self, true_or, ne_eq, not_false_eq_true, Nat.reduceEqDiff]
  exact gives_bool rfl hst
end Go.Proofs.Ytpfdoffnpkokhaa.Gx
