/- Contract: the compiler makes a unit of a part. The document's code of an expression; adding code to code. Contract: the document's code of an expression. -/
import Derived.Test.YtpfdoffnpkokhaaM11

namespace Go.Proofs.Ytpfdoffnpkokhaa.Gx
open Go Go.Proofs.Ytpfdoffnpkokhaa.Gw
set_option linter.unusedSimpArgs false

def encPr (p : Pr) : List V := [.int .i64 p.args, lstI p.code]
def lstPr (l : List Pr) : V := .lst 2 none (l.map encPr)
theorem lstPr_lt (n : Nat) (l : List Pr) : (lstPr l).lt n := by
  simp only [lstPr, V.lt]
  exact ⟨fun e h => (by cases h), ltRows_map fun x _ => ⟨trivial, lstI_lt _ _, trivial⟩⟩
/-- The forms' code, one behind the other. -/
def formsP : List Core → List Pr → List Pr
  | [], ps => ps
  | c :: r, ps => formsP r (pushP 0 { op := 14 } (exprP c 0 ps))
def bodyP (l : List Core) : List Pr := pushP 0 { op := 15 } (formsP l [⟨0, []⟩])
def muchP (l : List Pr) : Bool := decide (500 < l.length) || l.any fun p => decide (6000 < p.code.length)
/-- A unit. -/
structure Unit' where
  name : Str
  protos : List Pr
def encU (u : Unit') : List V := [.str u.name, lstPr u.protos]
def compileC (p : Part) : Unit' × Int :=
  bif decide ((wrongPs [p]).1 = 0) then (bif muchP (bodyP p.body) then (⟨[], []⟩, 4) else (⟨p.name, bodyP p.body⟩, 0)) else (⟨[], []⟩, (wrongPs [p]).1)
def compV (r : Unit' × Int) : V := .tup [.agg (encU r.1), .int .i64 r.2]
theorem compV_lt (n : Nat) (r : Unit' × Int) : (compV r).lt n := by
  simp only [compV, V.lt, ltL, encU, and_true, true_and]
  exact lstPr_lt _ _
theorem formsP_snoc : ∀ (l : List Core) (c : Core) (ps : List Pr), formsP (l ++ [c]) ps = pushP 0 { op := 14 } (exprP c 0 (formsP l ps))
  | [], c, ps => by simp only [List.nil_append, formsP]
  | d :: l, c, ps => by simp only [List.cons_append, formsP, formsP_snoc l c]
theorem formsP_tot : ∀ (l : List Core) (ps : List Pr), tot (formsP l ps) ≤ tot ps + 3 * nodesCs l
  | [], ps => by simp [formsP, nodesCs]
  | c :: r, ps => by
    rw [formsP, nodesCs]
    have h1 := formsP_tot r (pushP 0 { op := 14 } (exprP c 0 ps))
    have h2 := pushP_tot (exprP c 0 ps) 0 { op := 14 }
    have h3 := exprP_tot c 0 ps
    omega
theorem formsP_len : ∀ (l : List Core) (ps : List Pr), ps.length ≤ (formsP l ps).length
  | [], ps => by rw [formsP]; exact Nat.le_refl _
  | c :: r, ps => by rw [formsP]; refine Nat.le_trans ?_ (formsP_len r _); rw [pushP_len]; exact exprP_len c 0 ps
theorem formsP_top : ∀ (l : List Core) (ps : List Pr), (formsP l ps).length ≤ ps.length + nodesCs l
  | [], ps => by rw [formsP, nodesCs]; omega
  | c :: r, ps => by
    rw [formsP, nodesCs]
    have h1 := formsP_top r (pushP 0 { op := 14 } (exprP c 0 ps))
    have h3 := exprP_top c 0 ps
    rw [pushP_len] at h1
    omega

/-- What comes to be frozen. -/
def Frz (X : V) (st : St) (r : VEnd) (st' : St) : Prop := ∃ v u ex, r = .ret v ∧ st' = st ++ ex ∧ Thaw st' st.length v u ∧ wk u X ∧ X.lt st.length
theorem frz_of {v X : V} {st ex : St} (h : wk v X) (hl : X.lt st.length) : Frz X st (.ret v) (st ++ ex) := ⟨v, v, ex, rfl, rfl, .same v, h, hl⟩
theorem frz_pre {v X : V} {st s' : St} (hp : ∀ j : Nat, j < st.length → s'[j]? = st[j]?) (hl : st.length ≤ s'.length) (u : V) (ht : Thaw s' st.length v u) (hw : wk u X) (hx : X.lt st.length) : Frz X st (.ret v) s' := by
  refine ⟨v, u, s'.drop st.length, rfl, ?_, ht, hw, hx⟩
  apply List.ext_getElem?
  intro j
  rcases Nat.lt_or_ge j st.length with h | h
  · rw [hp j h, List.getElem?_append_left h]
  · rw [List.getElem?_append_right h, List.getElem?_drop]; congr 1; omega
theorem thaw_rows {st' : St} {m : Nat} : ∀ (es : List (Option Nat)) (ps : List Pr), es.length = ps.length → (∀ (k e : Nat) (p : Pr), es[k]? = some (some e) → ps[k]? = some p → m ≤ e ∧ st'[e]? = some (.arr 46 11 (p.code.map encI))) →
    (∀ (k : Nat) (p : Pr), es[k]? = some none → ps[k]? = some p → p.code = []) → ∃ rows, ThawR st' m (prRows es ps) rows ∧ wkRp NoTok rows (ps.map encPr)
  | [], [], _, _, _ => ⟨[], .nil, by simp [wkRp]⟩
  | e :: es, p :: ps, hl, h1, h2 => by
    obtain ⟨rows, r1, r2⟩ := thaw_rows es ps (by simpa using hl) (fun k o q a b => h1 (k + 1) o q (by simpa using a) (by simpa using b)) (fun k q a b => h2 (k + 1) q (by simpa using a) (by simpa using b))
    cases e with
    | none =>
      have hc := h2 0 p (by simp) (by simp)
      refine ⟨[.int .i64 p.args, .nils] :: rows, .cons (ThawL.refl _) r1, ?_⟩
      simp only [List.map_cons, wkRp]
      exact ⟨_, _, rfl, by rw [encPr, hc]; exact wkL_cons (wk_refl _) (wkL_cons (wk_nils _) wkL_nil), r2⟩
    | some o =>
      obtain ⟨g1, g2⟩ := h1 0 o p (by simp) (by simp)
      have rr : ∀ l : List (List V), ThawR st' m l l := by intro l; induction l with | nil => exact .nil | cons a l ih => exact .cons (ThawL.refl _) ih
      refine ⟨[.int .i64 p.args, lstI p.code] :: rows, .cons (.cons (.same _) (.cons (.arr g1 g2 (by simp) (rr _)) .nil)) r1, ?_⟩
      simp only [List.map_cons, wkRp]
      exact ⟨_, _, rfl, wkL_refl _, r2⟩
  | [], _ :: _, h, _, _ => by simp at h
  | _ :: _, [], h, _, _ => by simp at h

set_option maxRecDepth 20000 in
set_option maxHeartbeats 8000000 in
theorem c_Compile0 (p : Part) (st : St) : VCalls Try.prog TT 7 [.agg (encP p)] st (Frz (compV (compileC p)) st) := by
  refine vfunQ TT_ok (an := anL [(1, 1), (19, 2)]) (L := [0, 1, 2, 3, 4, 5, 6, 8, 24, 25, 51, 52, 53]) (rs := [.cell 2 27, .tmp 3]) Try.func7 rfl (by kernel_rfl) rfl Try.ntmps7 rfl rfl fun hst ha hf => ?_
  obtain ⟨nm, body⟩ := p
  simp only [encP, lstC]
  simp only [decide_true, decide_false, gwL, gwB, gwD, gwE, gwS, gwTT, gwZ, initG, Nat.reduceEqDiff, ↓reduceIte, Nat.reduceAdd, Nat.reduceLT, Nat.reduceLeDiff, List.map_cons, List.map_nil, builtS, builtinV, pureR, binV, sliceV, pickV, evO, Env.look, find, V.ofConst, resV, resOne, tupV, loadV, fillV, buildV, mkIface, litM, litS, litR, litRows, List.reverse_cons, List.reverse_nil, Nat.reduceMul, appS, memA, appendV, rowsOf, V.cells, TI.sized, TI.known, TI.agg, anL, List.length_cons, List.length_nil, List.append_nil, List.cons_append, List.nil_append, List.drop_succ_cons, List.drop_zero, List.drop_nil, List.take_succ_cons, List.take_zero, List.take_nil, List.getElem?_cons_zero, List.getElem?_cons_succ, List.all_cons, List.all_nil, List.replicate_succ, List.replicate_zero, List.set_cons_zero, List.set_cons_succ, eq_self, true_or, ne_eq, not_false_eq_true, Nat.reduceEqDiff]
  refine (c_model_Wrong _ [⟨nm, body⟩]).use (wkL_refl _) fun _ => ?_
  unfold compileC
  simp only [decide_true, decide_false, gwL, gwB, gwD, gwE, gwS, gwTT, gwZ, initG, Nat.reduceEqDiff, ↓reduceIte, Nat.reduceAdd, Nat.reduceLT, Nat.reduceLeDiff, List.map_cons, List.map_nil, builtS, builtinV, pureR, binV, sliceV, pickV, evO, Env.look, find, V.ofConst, resV, resOne, tupV, loadV, fillV, buildV, mkIface, litM, litS, litR, litRows, List.reverse_cons, List.reverse_nil, Nat.reduceMul, appS, memA, appendV, rowsOf, V.cells, TI.sized, TI.known, TI.agg, anL, List.length_cons, List.length_nil, List.append_nil, List.cons_append, List.nil_append, List.drop_succ_cons, List.drop_zero, List.drop_nil, List.take_succ_cons, List.take_zero, List.take_nil, List.getElem?_cons_zero, List.getElem?_cons_succ, List.all_cons, List.all_nil, List.replicate_succ, List.replicate_zero, List.set_cons_zero, List.set_cons_succ, eq_self, true_or, ne_eq, not_false_eq_true, Nat.reduceEqDiff, fltV]
  refine iK_split (fun h => ?_) (fun h => ?_)
  · rw [not_yes h]
    simp only [decide_true, decide_false, gwL, gwB, gwD, gwE, gwS, gwTT, gwZ, initG, Nat.reduceEqDiff, ↓reduceIte, Nat.reduceAdd, Nat.reduceLT, Nat.reduceLeDiff, List.map_cons, List.map_nil, builtS, builtinV, pureR, binV, sliceV, pickV, evO, Env.look, find, V.ofConst, resV, resOne, tupV, loadV, fillV, buildV, mkIface, litM, litS, litR, litRows, List.reverse_cons, List.reverse_nil, Nat.reduceMul, appS, memA, appendV, rowsOf, V.cells, TI.sized, TI.known, TI.agg, anL, List.length_cons, List.length_nil, List.append_nil, List.cons_append, List.nil_append, List.drop_succ_cons, List.drop_zero, List.drop_nil, List.take_succ_cons, List.take_zero, List.take_nil, List.getElem?_cons_zero, List.getElem?_cons_succ, List.all_cons, List.all_nil, List.replicate_succ, List.replicate_zero, List.set_cons_zero, List.set_cons_succ, eq_self, true_or, ne_eq, not_false_eq_true, Nat.reduceEqDiff]
    refine vmelt 4 (st.length + 1) _ rfl (by simp only [gwL]; rfl) ?_
    simp only [decide_true, decide_false, gwL, gwB, gwD, gwE, gwS, gwTT, gwZ, initG, Nat.reduceEqDiff, ↓reduceIte, Nat.reduceAdd, Nat.reduceLT, Nat.reduceLeDiff, List.map_cons, List.map_nil, builtS, builtinV, pureR, binV, sliceV, pickV, evO, Env.look, find, V.ofConst, resV, resOne, tupV, loadV, fillV, buildV, mkIface, litM, litS, litR, litRows, List.reverse_cons, List.reverse_nil, Nat.reduceMul, appS, memA, appendV, rowsOf, V.cells, TI.sized, TI.known, TI.agg, anL, List.length_cons, List.length_nil, List.append_nil, List.cons_append, List.nil_append, List.drop_succ_cons, List.drop_zero, List.drop_nil, List.take_succ_cons, List.take_zero, List.take_nil, List.getElem?_cons_zero, List.getElem?_cons_succ, List.all_cons, List.all_nil, List.replicate_succ, List.replicate_zero, List.set_cons_zero, List.set_cons_succ, eq_self, true_or, ne_eq, not_false_eq_true, Nat.reduceEqDiff, meltE]
    refine vdraw TT_ok TT_mixed [0, 0, 0, 2, 0] (by kernel_rfl) ?_
    simp only [decide_true, decide_false, gwL, gwB, gwD, gwE, gwS, gwTT, gwZ, initG, Nat.reduceEqDiff, ↓reduceIte, Nat.reduceAdd, Nat.reduceLT, Nat.reduceLeDiff, List.map_cons, List.map_nil, builtS, builtinV, pureR, binV, sliceV, pickV, evO, Env.look, find, V.ofConst, resV, resOne, tupV, loadV, fillV, buildV, mkIface, litM, litS, litR, litRows, List.reverse_cons, List.reverse_nil, Nat.reduceMul, appS, memA, appendV, rowsOf, V.cells, TI.sized, TI.known, TI.agg, anL, List.length_cons, List.length_nil, List.append_nil, List.cons_append, List.nil_append, List.drop_succ_cons, List.drop_zero, List.drop_nil, List.take_succ_cons, List.take_zero, List.take_nil, List.getElem?_cons_zero, List.getElem?_cons_succ, List.all_cons, List.all_nil, List.replicate_succ, List.replicate_zero, List.set_cons_zero, List.set_cons_succ, eq_self, true_or, ne_eq, not_false_eq_true, Nat.reduceEqDiff]
    exact frz_of (wk_tup (wkL_cons (wk_agg (wkL_cons (wk_refl _) (wkL_cons (wk_nils _) wkL_nil))) (wkL_refl _))) (compV_lt _ _)
  rw [not_no h]
  have hok := wrongPs_good (p := ⟨nm, body⟩) (of_decide_eq_true (not_no h))
  simp only at hok
  obtain ⟨hok1, hok2, hok3⟩ := hok
  have hnl := nodesCs_len body
  simp only [decide_true, decide_false, gwL, gwB, gwD, gwE, gwS, gwTT, gwZ, initG, Nat.reduceEqDiff, ↓reduceIte, Nat.reduceAdd, Nat.reduceLT, Nat.reduceLeDiff, List.map_cons, List.map_nil, builtS, builtinV, pureR, binV, sliceV, pickV, evO, Env.look, find, V.ofConst, resV, resOne, tupV, loadV, fillV, buildV, mkIface, litM, litS, litR, litRows, List.reverse_cons, List.reverse_nil, Nat.reduceMul, appS, memA, appendV, rowsOf, V.cells, TI.sized, TI.known, TI.agg, anL, List.length_cons, List.length_nil, List.append_nil, List.cons_append, List.nil_append, List.drop_succ_cons, List.drop_zero, List.drop_nil, List.take_succ_cons, List.take_zero, List.take_nil, List.getElem?_cons_zero, List.getElem?_cons_succ, List.all_cons, List.all_nil, List.replicate_succ, List.replicate_zero, List.set_cons_zero, List.set_cons_succ, eq_self, true_or, ne_eq, not_false_eq_true, Nat.reduceEqDiff, List.length_map]
  have hU0 : US (st ++ [Ent.box [V.str [], V.nils], Ent.box [V.int .i64 (wrongPs [{ name := nm, body := body }]).fst, V.int .i64 (wrongPs [{ name := nm, body := body }]).snd], Ent.arr 44 2 [[V.int .i64 0, V.nils]], Ent.box [V.arr (st.length + 2) 1]]) (st.length + 3) (st.length + 2) [none] [⟨0, []⟩] :=
    ⟨rfl, by simp only [gwL, List.length_cons, List.length_nil], by simp only [gwL]; rfl, fun k e p h1 _ => by cases k <;> simp at h1, fun k p h1 h2 => by cases k <;> simp at h2; subst h2; rfl, fun j k e h1 => by cases j <;> simp at h1⟩
  refine vfor (σ := Nat × St × List (Option Nat)) [1, 2, 3, 5, 24, 25] (fun x => [(1, true, .ref [.str nm, .lst 12 none (body.map encC)]), (2, true, .ptr st.length 0), (3, true, .int .i64 0), (5, true, .ptr (st.length + 3) 0), (24, true, .int .i64 body.length), (25, true, .int .i64 x.1)]) (fun x => x.2.1) (fun x => body.length - x.1) (fun x => x.1 ≤ body.length ∧ US x.2.1 (st.length + 3) (st.length + 2) x.2.2 (formsP (body.take x.1) [⟨0, []⟩]) ∧ Fr (st ++ [Ent.box [V.str [], V.nils], Ent.box [V.int .i64 (wrongPs [{ name := nm, body := body }]).fst, V.int .i64 (wrongPs [{ name := nm, body := body }]).snd], Ent.arr 44 2 [[V.int .i64 0, V.nils]], Ent.box [V.arr (st.length + 2) 1]]) (st.length + 3) (st.length + 2) [none] x.2.1 x.2.2) (0, _, [none]) rfl TT_ok ⟨Nat.zero_le _, hU0, Fr.refl ..⟩ rfl rfl ?_
  rintro ⟨i, s1, es1⟩ ⟨hi, hU1, hF1⟩
  simp only at hi hU1 hF1 ⊢
  have ht1 := formsP_tot (body.take i) [⟨0, []⟩]
  have hp1 : 0 < (formsP (body.take i) [⟨0, []⟩]).length := formsP_len (body.take i) [⟨0, []⟩]
  have hl1 := formsP_top (body.take i) [⟨0, []⟩]
  simp only [tot, List.length_nil, List.length_cons] at ht1 hl1
  rcases at_or_end body i hi with ⟨rfl, hd⟩ | ⟨a, hlt, hget, hdr⟩
  · rw [List.take_length] at hU1 ht1 hp1 hl1
    simp only [decide_true, decide_false, gwL, gwB, gwD, gwE, gwS, gwTT, gwZ, initG, Nat.reduceEqDiff, ↓reduceIte, Nat.reduceAdd, Nat.reduceLT, Nat.reduceLeDiff, List.map_cons, List.map_nil, builtS, builtinV, pureR, binV, sliceV, pickV, evO, Env.look, find, V.ofConst, resV, resOne, tupV, loadV, fillV, buildV, mkIface, litM, litS, litR, litRows, List.reverse_cons, List.reverse_nil, Nat.reduceMul, appS, memA, appendV, rowsOf, V.cells, TI.sized, TI.known, TI.agg, anL, List.length_cons, List.length_nil, List.append_nil, List.cons_append, List.nil_append, List.drop_succ_cons, List.drop_zero, List.drop_nil, List.take_succ_cons, List.take_zero, List.take_nil, List.getElem?_cons_zero, List.getElem?_cons_succ, List.all_cons, List.all_nil, List.replicate_succ, List.replicate_zero, List.set_cons_zero, List.set_cons_succ, eq_self, true_or, ne_eq, not_false_eq_true, Nat.reduceEqDiff, lt_no, List.length_map]
    refine useQ (c_emitP _ (st.length + 3) (st.length + 2) es1 _ hU1 0 hp1 { op := 15 } (Nat.le_trans (hereP_tot _ _) (by omega))) (wk_emit (wk_ins ..)) (by rintro v s' ⟨h, _⟩; cases h) ?_
    rintro X s2 hX ⟨hX', es2, hU2, hF2⟩
    cases hX'
    replace hU2 : US s2 (st.length + 3) (st.length + 2) es2 (bodyP body) := hU2
    have hFr := hF1.trans hF2
    have hes : ∀ (k j : Nat), ([none] : List (Option Nat))[k]? ≠ some (some j) := fun k j h => by cases k <;> simp at h
    have hlen : st.length + 4 ≤ s2.length := by have := hFr.len; simpa using this
    have hc : s2[st.length]? = some (.box [.str [], .nils]) := by
      rw [hFr.keep st.length (by simp) (by omega) (by omega) (fun k => hes k _)]
      simp only [gwL]
    have hpre : ∀ j : Nat, j < st.length → s2[j]? = st[j]? := fun j hj => by
      rw [hFr.keep j (by simp; omega) (by omega) (by omega) (fun k => hes k _), st_old hj]
    have hsl : ∀ X, (s2.set st.length X)[st.length]? = some X := fun X => List.getElem?_set_self (by omega)
    have hspre : ∀ (ex : St) X, ∀ j : Nat, j < st.length → ((s2 ++ ex).set st.length X)[j]? = st[j]? := fun ex X j hj => by rw [List.getElem?_set_ne (by omega), st_old (by omega), hpre j hj]
    have hnil : ∀ v, wk (.tup [.agg [.str [], .nils], .int .i64 v]) (compV (⟨[], []⟩, v)) := fun v => wk_tup (wkL_cons (wk_agg (wkL_cons (wk_refl _) (wkL_cons (wk_nils _) wkL_nil))) (wkL_refl _))
    have hbl : (bodyP body).length ≤ 1000000 := by rw [bodyP, pushP_len]; omega
    have hbt : tot (bodyP body) ≤ 10000000 := by have := pushP_tot (formsP body [⟨0, []⟩]) 0 { op := 15 }; rw [bodyP]; omega
    simp only [decide_true, decide_false, gwL, gwB, gwD, gwE, gwS, gwTT, gwZ, initG, Nat.reduceEqDiff, ↓reduceIte, Nat.reduceAdd, Nat.reduceLT, Nat.reduceLeDiff, List.map_cons, List.map_nil, builtS, builtinV, pureR, binV, sliceV, pickV, evO, Env.look, find, V.ofConst, resV, resOne, tupV, loadV, fillV, buildV, mkIface, litM, litS, litR, litRows, List.reverse_cons, List.reverse_nil, Nat.reduceMul, appS, memA, appendV, rowsOf, V.cells, TI.sized, TI.known, TI.agg, anL, List.length_cons, List.length_nil, List.append_nil, List.cons_append, List.nil_append, List.drop_succ_cons, List.drop_zero, List.drop_nil, List.take_succ_cons, List.take_zero, List.take_nil, List.getElem?_cons_zero, List.getElem?_cons_succ, List.all_cons, List.all_nil, List.replicate_succ, List.replicate_zero, List.set_cons_zero, List.set_cons_succ, eq_self, true_or, ne_eq, not_false_eq_true, Nat.reduceEqDiff, hU2.box]
    refine iK_split (fun h5 => ?_) (fun h5 => ?_)
    · have hm : muchP (bodyP body) = true := by
        have h6 := of_decide_eq_true h5
        simp only [muchP, Bool.or_eq_true, decide_eq_true_eq]
        exact .inl (by omega)
      rw [hm]
      simp only [decide_true, decide_false, gwL, gwB, gwD, gwE, gwS, gwTT, gwZ, initG, Nat.reduceEqDiff, ↓reduceIte, Nat.reduceAdd, Nat.reduceLT, Nat.reduceLeDiff, List.map_cons, List.map_nil, builtS, builtinV, pureR, binV, sliceV, pickV, evO, Env.look, find, V.ofConst, resV, resOne, tupV, loadV, fillV, buildV, mkIface, litM, litS, litR, litRows, List.reverse_cons, List.reverse_nil, Nat.reduceMul, appS, memA, appendV, rowsOf, V.cells, TI.sized, TI.known, TI.agg, anL, List.length_cons, List.length_nil, List.append_nil, List.cons_append, List.nil_append, List.drop_succ_cons, List.drop_zero, List.drop_nil, List.take_succ_cons, List.take_zero, List.take_nil, List.getElem?_cons_zero, List.getElem?_cons_succ, List.all_cons, List.all_nil, List.replicate_succ, List.replicate_zero, List.set_cons_zero, List.set_cons_succ, eq_self, true_or, ne_eq, not_false_eq_true, Nat.reduceEqDiff, hc, hsl]
      refine frz_pre (fun j hj => ?_) (by rw [List.length_set]; omega) _ (.same _) (hnil 4) (compV_lt _ _)
      have := hspre [] (.box [.str [], .nils]) j hj
      rwa [List.append_nil] at this
    simp only [decide_true, decide_false, gwL, gwB, gwD, gwE, gwS, gwTT, gwZ, initG, Nat.reduceEqDiff, ↓reduceIte, Nat.reduceAdd, Nat.reduceLT, Nat.reduceLeDiff, List.map_cons, List.map_nil, builtS, builtinV, pureR, binV, sliceV, pickV, evO, Env.look, find, V.ofConst, resV, resOne, tupV, loadV, fillV, buildV, mkIface, litM, litS, litR, litRows, List.reverse_cons, List.reverse_nil, Nat.reduceMul, appS, memA, appendV, rowsOf, V.cells, TI.sized, TI.known, TI.agg, anL, List.length_cons, List.length_nil, List.append_nil, List.cons_append, List.nil_append, List.drop_succ_cons, List.drop_zero, List.drop_nil, List.take_succ_cons, List.take_zero, List.take_nil, List.getElem?_cons_zero, List.getElem?_cons_succ, List.all_cons, List.all_nil, List.replicate_succ, List.replicate_zero, List.set_cons_zero, List.set_cons_succ, eq_self, true_or, ne_eq, not_false_eq_true, Nat.reduceEqDiff, hU2.box]
    refine vfor (σ := Nat × St) [1, 2, 3, 5, 51, 52, 53] (fun x => [(1, true, .ref [.str nm, .lst 12 none (body.map encC)]), (2, true, .ptr st.length 0), (3, true, .int .i64 0), (5, true, .ptr (st.length + 3) 0), (51, true, .arr (st.length + 2) (bodyP body).length), (52, true, .int .i64 (bodyP body).length), (53, true, .int .i64 x.1)]) (fun x => x.2) (fun x => (bodyP body).length - x.1) (fun x => x.1 ≤ (bodyP body).length ∧ (∃ ex, x.2 = s2 ++ ex) ∧ ∀ (j : Nat) (q : Pr), j < x.1 → (bodyP body)[j]? = some q → q.code.length ≤ 6000) (0, s2) rfl TT_ok ⟨Nat.zero_le _, ⟨[], by simp⟩, fun j q h => absurd h (Nat.not_lt_zero _)⟩ rfl rfl ?_
    rintro ⟨i, S⟩ ⟨hi2, ⟨ex, hS⟩, hall⟩
    simp only at hi2 hS hall ⊢
    have hU3 : US S (st.length + 3) (st.length + 2) es2 (bodyP body) := by rw [hS]; exact hU2.app ex
    have hSl : s2.length ≤ S.length := by rw [hS, List.length_append]; omega
    have hSc : S[st.length]? = some (.box [.str [], .nils]) := by rw [hS, st_old (by omega), hc]
    rcases at_or_end (bodyP body) i hi2 with ⟨rfl, hd2⟩ | ⟨a, hlt, hget, hdr⟩
    · have hm : muchP (bodyP body) = false := by
        have h6 := of_decide_eq_false h5
        simp only [muchP, Bool.or_eq_false_iff, decide_eq_false_iff_not]
        refine ⟨by omega, ?_⟩
        rw [List.any_eq_false]
        intro q hq
        obtain ⟨j, hj⟩ := List.getElem?_of_mem hq
        have := hall j q (List.getElem?_eq_some_iff.1 hj).1 hj
        simp; omega
      rw [hm]
      simp only [decide_true, decide_false, gwL, gwB, gwD, gwE, gwS, gwTT, gwZ, initG, Nat.reduceEqDiff, ↓reduceIte, Nat.reduceAdd, Nat.reduceLT, Nat.reduceLeDiff, List.map_cons, List.map_nil, builtS, builtinV, pureR, binV, sliceV, pickV, evO, Env.look, find, V.ofConst, resV, resOne, tupV, loadV, fillV, buildV, mkIface, litM, litS, litR, litRows, List.reverse_cons, List.reverse_nil, Nat.reduceMul, appS, memA, appendV, rowsOf, V.cells, TI.sized, TI.known, TI.agg, anL, List.length_cons, List.length_nil, List.append_nil, List.cons_append, List.nil_append, List.drop_succ_cons, List.drop_zero, List.drop_nil, List.take_succ_cons, List.take_zero, List.take_nil, List.getElem?_cons_zero, List.getElem?_cons_succ, List.all_cons, List.all_nil, List.replicate_succ, List.replicate_zero, List.set_cons_zero, List.set_cons_succ, eq_self, true_or, ne_eq, not_false_eq_true, Nat.reduceEqDiff, lt_no]
      refine vdraw TT_ok TT_mixed [0, 1, 0, 0, 0, 1, 0, 2, 0] (by kernel_rfl) ?_
      have hSs : ∀ X, (S.set st.length X)[st.length]? = some X := fun X => List.getElem?_set_self (by omega)
      simp only [decide_true, decide_false, gwL, gwB, gwD, gwE, gwS, gwTT, gwZ, initG, Nat.reduceEqDiff, ↓reduceIte, Nat.reduceAdd, Nat.reduceLT, Nat.reduceLeDiff, List.map_cons, List.map_nil, builtS, builtinV, pureR, binV, sliceV, pickV, evO, Env.look, find, V.ofConst, resV, resOne, tupV, loadV, fillV, buildV, mkIface, litM, litS, litR, litRows, List.reverse_cons, List.reverse_nil, Nat.reduceMul, appS, memA, appendV, rowsOf, V.cells, TI.sized, TI.known, TI.agg, anL, List.length_cons, List.length_nil, List.append_nil, List.cons_append, List.nil_append, List.drop_succ_cons, List.drop_zero, List.drop_nil, List.take_succ_cons, List.take_zero, List.take_nil, List.getElem?_cons_zero, List.getElem?_cons_succ, List.all_cons, List.all_nil, List.replicate_succ, List.replicate_zero, List.set_cons_zero, List.set_cons_succ, eq_self, true_or, ne_eq, not_false_eq_true, Nat.reduceEqDiff, hU3.box, hSc, hSs]
      have hfr : ∀ (k o : Nat), es2[k]? = some (some o) → st.length + 4 ≤ o := fun k o hk => by
        rcases hFr.fresh k o hk with h7 | h7
        · exact absurd h7 (hes k o)
        · simpa using h7
      have hpl : ∀ X, (S.set st.length X)[st.length + 2]? = some (.arr 44 2 (prRows es2 (bodyP body))) := fun X => by rw [List.getElem?_set_ne (by omega), hU3.arr]
      have hth := thaw_rows (st' := S.set st.length (.box [.str nm, .arr (st.length + 2) (bodyP body).length])) (m := st.length) es2 (bodyP body) hU3.len (fun k o q h1 h2 => ⟨by have := hfr k o h1; omega, by have := hfr k o h1; rw [List.getElem?_set_ne (by omega)]; exact hU3.code k o q h1 h2⟩) hU3.nil
      obtain ⟨rows, hr1, hr2⟩ := hth
      refine frz_pre (fun j hj => ?_) (by rw [List.length_set]; omega) (.tup [.agg [.str nm, .lst 2 none rows], .int .i64 0]) ?_ ?_ (compV_lt _ _)
      · rw [hS]; exact hspre ex _ j hj
      · exact .tup (.cons (.agg (.cons (.same _) (.cons (.arr (by omega) (hpl _) (prRows_len hU3.len) hr1) .nil))) (ThawL.refl _))
      · exact wk_tup (wkL_cons (wk_agg (wkL_cons (wk_refl _) (wkL_cons (wk_lst hr2) wkL_nil))) (wkL_refl _))
    · obtain ⟨e, he⟩ : ∃ e, es2[i]? = some e := ⟨es2[i]'(by rw [hU3.len]; exact hlt), List.getElem?_eq_getElem _⟩
      have hg : (prRows es2 (bodyP body)).getD i [] = prRow e a := getD_at (prRows_get he hget)
      have hlv : builtinV TT .len [codeV e a.code.length] [42] = some (.int .i64 a.code.length, True) := by
        cases e with
        | none => rw [hU3.nil i a he hget]; rfl
        | some o => rfl
      simp only [decide_true, decide_false, gwL, gwB, gwD, gwE, gwS, gwTT, gwZ, initG, Nat.reduceEqDiff, ↓reduceIte, Nat.reduceAdd, Nat.reduceLT, Nat.reduceLeDiff, List.map_cons, List.map_nil, builtS, pureR, binV, sliceV, pickV, evO, Env.look, find, V.ofConst, resV, resOne, tupV, loadV, fillV, buildV, mkIface, litM, litS, litR, litRows, List.reverse_cons, List.reverse_nil, Nat.reduceMul, appS, memA, appendV, rowsOf, V.cells, TI.sized, TI.known, TI.agg, anL, List.length_cons, List.length_nil, List.append_nil, List.cons_append, List.nil_append, List.drop_succ_cons, List.drop_zero, List.drop_nil, List.take_succ_cons, List.take_zero, List.take_nil, List.getElem?_cons_zero, List.getElem?_cons_succ, List.all_cons, List.all_nil, List.replicate_succ, List.replicate_zero, List.set_cons_zero, List.set_cons_succ, eq_self, true_or, ne_eq, not_false_eq_true, Nat.reduceEqDiff, lt_yes hlt, Int.ofNat_lt.mpr hlt, hU3.arr, hg, prRow, prRows_len hU3.len, hlv]
      refine ⟨hlt, iK_split (fun h7 => ?_) (fun h7 => ?_)⟩
      · have hm : muchP (bodyP body) = true := by
          have h6 := of_decide_eq_true h7
          simp only [muchP, Bool.or_eq_true, List.any_eq_true]
          exact .inr ⟨a, List.mem_of_getElem? hget, decide_eq_true (by omega)⟩
        rw [hm]
        have hc9 : (S ++ [Ent.box [V.int .i64 a.args, codeV e a.code.length]])[st.length]? = some (.box [.str [], .nils]) := by rw [st_old (by omega), hSc]
        have hs9 : ∀ X, ((S ++ [Ent.box [V.int .i64 a.args, codeV e a.code.length]]).set st.length X)[st.length]? = some X := fun X => List.getElem?_set_self (by simp; omega)
        simp only [decide_true, decide_false, gwL, gwB, gwD, gwE, gwS, gwTT, gwZ, initG, Nat.reduceEqDiff, ↓reduceIte, Nat.reduceAdd, Nat.reduceLT, Nat.reduceLeDiff, List.map_cons, List.map_nil, builtS, builtinV, pureR, binV, sliceV, pickV, evO, Env.look, find, V.ofConst, resV, resOne, tupV, loadV, fillV, buildV, mkIface, litM, litS, litR, litRows, List.reverse_cons, List.reverse_nil, Nat.reduceMul, appS, memA, appendV, rowsOf, V.cells, TI.sized, TI.known, TI.agg, anL, List.length_cons, List.length_nil, List.append_nil, List.cons_append, List.nil_append, List.drop_succ_cons, List.drop_zero, List.drop_nil, List.take_succ_cons, List.take_zero, List.take_nil, List.getElem?_cons_zero, List.getElem?_cons_succ, List.all_cons, List.all_nil, List.replicate_succ, List.replicate_zero, List.set_cons_zero, List.set_cons_succ, eq_self, true_or, ne_eq, not_false_eq_true, Nat.reduceEqDiff, hc9, hs9]
        refine frz_pre (fun j hj => ?_) (by rw [List.length_set, List.length_append]; omega) _ (.same _) (hnil 4) (compV_lt _ _)
        rw [hS, List.append_assoc]
        exact hspre (ex ++ [Ent.box [V.int .i64 a.args, codeV e a.code.length]]) _ j hj
      · simp only [decide_true, decide_false, gwL, gwB, gwD, gwE, gwS, gwTT, gwZ, initG, Nat.reduceEqDiff, ↓reduceIte, Nat.reduceAdd, Nat.reduceLT, Nat.reduceLeDiff, List.map_cons, List.map_nil, builtS, builtinV, pureR, binV, sliceV, pickV, evO, Env.look, find, V.ofConst, resV, resOne, tupV, loadV, fillV, buildV, mkIface, litM, litS, litR, litRows, List.reverse_cons, List.reverse_nil, Nat.reduceMul, appS, memA, appendV, rowsOf, V.cells, TI.sized, TI.known, TI.agg, anL, List.length_cons, List.length_nil, List.append_nil, List.cons_append, List.nil_append, List.drop_succ_cons, List.drop_zero, List.drop_nil, List.take_succ_cons, List.take_zero, List.take_nil, List.getElem?_cons_zero, List.getElem?_cons_succ, List.all_cons, List.all_nil, List.replicate_succ, List.replicate_zero, List.set_cons_zero, List.set_cons_succ, eq_self, true_or, ne_eq, not_false_eq_true, Nat.reduceEqDiff]
        refine ⟨(i + 1, S ++ [Ent.box [V.int .i64 a.args, codeV e a.code.length]]), by simp only [next_i64 hlt (show (bodyP body).length ≤ 9223372036854775807 by omega)]; rfl, rfl, by simp only; omega, by simp only; omega, ⟨ex ++ [Ent.box [V.int .i64 a.args, codeV e a.code.length]], by simp only [hS, List.append_assoc]⟩, fun j q hj hq => ?_⟩
        simp only at hj
        rcases Nat.lt_or_ge j i with h8 | h8
        · exact hall j q h8 hq
        · have : j = i := by omega
          subst this
          rw [hget] at hq
          cases hq
          have := of_decide_eq_false h7
          omega
  · have hnt := nodesCs_take hget
    simp only [decide_true, decide_false, gwL, gwB, gwD, gwE, gwS, gwTT, gwZ, initG, Nat.reduceEqDiff, ↓reduceIte, Nat.reduceAdd, Nat.reduceLT, Nat.reduceLeDiff, List.map_cons, List.map_nil, builtS, builtinV, pureR, binV, sliceV, pickV, evO, Env.look, find, V.ofConst, resV, resOne, tupV, loadV, fillV, buildV, mkIface, litM, litS, litR, litRows, List.reverse_cons, List.reverse_nil, Nat.reduceMul, appS, memA, appendV, rowsOf, V.cells, TI.sized, TI.known, TI.agg, anL, List.length_cons, List.length_nil, List.append_nil, List.cons_append, List.nil_append, List.drop_succ_cons, List.drop_zero, List.drop_nil, List.take_succ_cons, List.take_zero, List.take_nil, List.getElem?_cons_zero, List.getElem?_cons_succ, List.all_cons, List.all_nil, List.replicate_succ, List.replicate_zero, List.set_cons_zero, List.set_cons_succ, eq_self, true_or, ne_eq, not_false_eq_true, Nat.reduceEqDiff, lt_yes hlt, List.length_map, getD_map hget, Int.ofNat_lt.mpr hlt]
    refine useQ (c_expr a (okCs_mem hok1 (List.mem_of_getElem? hget)) _ (st.length + 3) (st.length + 2) es1 _ 0 hU1 hp1 (by omega) (by omega)) (wkL_refl _) (by rintro v s' ⟨h, _⟩; cases h) ?_
    rintro X s2 hX ⟨hX', es2, hU2, hF2⟩
    cases hX'
    simp only [decide_true, decide_false, gwL, gwB, gwD, gwE, gwS, gwTT, gwZ, initG, Nat.reduceEqDiff, ↓reduceIte, Nat.reduceAdd, Nat.reduceLT, Nat.reduceLeDiff, List.map_cons, List.map_nil, builtS, builtinV, pureR, binV, sliceV, pickV, evO, Env.look, find, V.ofConst, resV, resOne, tupV, loadV, fillV, buildV, mkIface, litM, litS, litR, litRows, List.reverse_cons, List.reverse_nil, Nat.reduceMul, appS, memA, appendV, rowsOf, V.cells, TI.sized, TI.known, TI.agg, anL, List.length_cons, List.length_nil, List.append_nil, List.cons_append, List.nil_append, List.drop_succ_cons, List.drop_zero, List.drop_nil, List.take_succ_cons, List.take_zero, List.take_nil, List.getElem?_cons_zero, List.getElem?_cons_succ, List.all_cons, List.all_nil, List.replicate_succ, List.replicate_zero, List.set_cons_zero, List.set_cons_succ, eq_self, true_or, ne_eq, not_false_eq_true, Nat.reduceEqDiff]
    have hp2 := Nat.lt_of_lt_of_le hp1 (exprP_len a 0 _)
    have ht2 := exprP_tot a 0 (formsP (body.take i) [⟨0, []⟩])
    refine useQ (c_emitP _ (st.length + 3) (st.length + 2) es2 _ hU2 0 hp2 { op := 14 } (Nat.le_trans (hereP_tot _ _) (by omega))) (wk_emit (wk_ins ..)) (by rintro v s' ⟨h, _⟩; cases h) ?_
    rintro X s4 hX ⟨hX', es4, hU4, hF4⟩
    cases hX'
    simp only [decide_true, decide_false, gwL, gwB, gwD, gwE, gwS, gwTT, gwZ, initG, Nat.reduceEqDiff, ↓reduceIte, Nat.reduceAdd, Nat.reduceLT, Nat.reduceLeDiff, List.map_cons, List.map_nil, builtS, builtinV, pureR, binV, sliceV, pickV, evO, Env.look, find, V.ofConst, resV, resOne, tupV, loadV, fillV, buildV, mkIface, litM, litS, litR, litRows, List.reverse_cons, List.reverse_nil, Nat.reduceMul, appS, memA, appendV, rowsOf, V.cells, TI.sized, TI.known, TI.agg, anL, List.length_cons, List.length_nil, List.append_nil, List.cons_append, List.nil_append, List.drop_succ_cons, List.drop_zero, List.drop_nil, List.take_succ_cons, List.take_zero, List.take_nil, List.getElem?_cons_zero, List.getElem?_cons_succ, List.all_cons, List.all_nil, List.replicate_succ, List.replicate_zero, List.set_cons_zero, List.set_cons_succ, eq_self, true_or, ne_eq, not_false_eq_true, Nat.reduceEqDiff]
    refine ⟨(i + 1, s4, es4), by simp only [next_i64 hlt (show body.length ≤ 9223372036854775807 by omega)]; rfl, rfl, by simp only; omega, by simp only; omega, ?_, (hF1.trans hF2).trans hF4⟩
    simp only
    rw [take_next hget, formsP_snoc]
    exact hU4

theorem c_Compile (p : Part) (st : St) : VCalls Try.prog TT 7 [.agg (encP p)] st fun r s => r = .ret (compV (compileC p)) ∧ s = st :=
  (c_Compile0 p st).freeze fun _ _ h => h
end Go.Proofs.Ytpfdoffnpkokhaa.Gx

namespace Go.Proofs.Ytpfdoffnpkokhaa.Gx
open Go Go.Proofs.Ytpfdoffnpkokhaa.Gw
set_option linter.unusedSimpArgs false

/-- The instruction of what is one alone (the document's answer). -/
def oneR : Core → Option Ins
  | .mk k ix n lib own q _ =>
    bif decide (k = 1) then some { op := 1, n := n } else bif decide (k = 2) then some { op := 2, n := n } else bif decide (k = 3) then some { op := 3, quote := bareR q }
    else bif decide (k = 4) then some { op := 4, a := ix } else bif decide (k = 5) then some { op := 5, lib := lib, own := own } else bif decide (k = 6) then some { op := 6, own := own } else none
def addI (out l : List Ins) : List Ins := out ++ l.map (mvI out.length)
theorem addI_len (out l : List Ins) : (addI out l).length = out.length + l.length := by simp [addI]
def setI (k ix : Int) (lib own : Str) : Ins := bif decide (k = 10) then { op := 11, a := ix } else bif decide (k = 11) then { op := 12, lib := lib, own := own } else { op := 13, lib := lib, own := own }

mutual
def genC : Core → List Pr → List Ins × List Pr
  | .mk k ix n lib own q kids, g =>
    match oneR (.mk k ix n lib own q []) with
    | some i => ([i], g)
    | none =>
      bif decide (k = 7) then genIf kids g
      else bif decide (k = 8) then ([{ op := 7, a := g.length }], (genHead kids (g ++ [⟨ix, []⟩])).2.modify g.length fun p => ⟨p.args, (genHead kids (g ++ [⟨ix, []⟩])).1 ++ [{ op := 15 }]⟩)
      else bif decide (k = 12) then genSeq kids true [] g
      else bif decide (k = 9) then ((genCall kids [] g).1 ++ [{ op := 8, a := (kids.length : Int) - 1 }], (genCall kids [] g).2)
      else ((genHead kids g).1 ++ [setI k ix lib own], (genHead kids g).2)
def genHead : List Core → List Pr → List Ins × List Pr
  | [], g => ([], g)
  | c :: _, g => genC c g
def genSeq : List Core → Bool → List Ins → List Pr → List Ins × List Pr
  | [], _, out, g => (out, g)
  | c :: r, first, out, g => genSeq r false (addI (bif first then out else out ++ [{ op := 14 }]) (genC c g).1) (genC c g).2
def genCall : List Core → List Ins → List Pr → List Ins × List Pr
  | [], out, g => (out, g)
  | c :: r, out, g => genCall r (addI out (genC c g).1) (genC c g).2
def genIf : List Core → List Pr → List Ins × List Pr
  | [], g => ([], g)
  | a :: r, g => genThen r (genC a g).1 (genC a g).2
def genThen : List Core → List Ins → List Pr → List Ins × List Pr
  | [], _, g => ([], g)
  | b :: r, x, g => genElse r x (genC b g).1 (genC b g).2
def genElse : List Core → List Ins → List Ins → List Pr → List Ins × List Pr
  | [], _, _, g => ([], g)
  | d :: _, x, y, g =>
    (addI (addI (addI [] x ++ [{ op := 10, a := (x.length : Int) + 1 + y.length + 1 }]) y ++ [{ op := 9, a := (x.length : Int) + 1 + y.length + 1 + (genC d g).1.length }]) (genC d g).1, (genC d g).2)
end

mutual
theorem genC_size : ∀ (c : Core) (g : List Pr), (genC c g).1.length + 1 ≤ 3 * nodesC c ∧ (genC c g).2.length ≤ g.length + nodesC c ∧ g.length ≤ (genC c g).2.length
  | .mk k ix n lib own q kids, g => by
    rw [nodesC]
    unfold genC
    split
    · simp; omega
    · simp only [Bool.cond_eq_ite]
      repeat' split
      · have := genIf_size kids g; omega
      · have := genHead_size kids (g ++ [⟨ix, []⟩])
        simp only [List.length_append, List.length_cons, List.length_nil, List.length_modify] at this ⊢
        omega
      · have := genSeq_size kids true [] g
        simp only [List.length_nil] at this
        omega
      · have := genCall_size kids [] g
        simp only [List.length_append, List.length_cons, List.length_nil] at this ⊢
        omega
      · have := genHead_size kids g
        simp only [List.length_append, List.length_cons, List.length_nil] at this ⊢
        omega
theorem genHead_size : ∀ (l : List Core) (g : List Pr), (genHead l g).1.length ≤ 3 * nodesCs l ∧ (genHead l g).2.length ≤ g.length + nodesCs l ∧ g.length ≤ (genHead l g).2.length
  | [], g => by simp [genHead, nodesCs]
  | c :: r, g => by rw [genHead, nodesCs]; have := genC_size c g; omega
theorem genSeq_size : ∀ (l : List Core) (f : Bool) (out : List Ins) (g : List Pr), (genSeq l f out g).1.length ≤ out.length + 3 * nodesCs l ∧ (genSeq l f out g).2.length ≤ g.length + nodesCs l ∧ g.length ≤ (genSeq l f out g).2.length
  | [], f, out, g => by simp [genSeq, nodesCs]
  | c :: r, f, out, g => by
    rw [genSeq, nodesCs]
    have h1 := genC_size c g
    have h2 := genSeq_size r false (addI (bif f then out else out ++ [{ op := 14 }]) (genC c g).1) (genC c g).2
    rw [addI_len] at h2
    cases f <;> simp only [cond_true, cond_false, List.length_append, List.length_cons, List.length_nil] at h2 ⊢ <;> omega
theorem genCall_size : ∀ (l : List Core) (out : List Ins) (g : List Pr), (genCall l out g).1.length ≤ out.length + 3 * nodesCs l ∧ (genCall l out g).2.length ≤ g.length + nodesCs l ∧ g.length ≤ (genCall l out g).2.length
  | [], out, g => by simp [genCall, nodesCs]
  | c :: r, out, g => by
    rw [genCall, nodesCs]
    have h1 := genC_size c g
    have h2 := genCall_size r (addI out (genC c g).1) (genC c g).2
    rw [addI_len] at h2
    omega
theorem genIf_size : ∀ (l : List Core) (g : List Pr), (genIf l g).1.length ≤ 3 * nodesCs l ∧ (genIf l g).2.length ≤ g.length + nodesCs l ∧ g.length ≤ (genIf l g).2.length
  | [], g => by simp [genIf, nodesCs]
  | a :: r, g => by
    rw [genIf, nodesCs]
    have h1 := genC_size a g
    have h2 := genThen_size r (genC a g).1 (genC a g).2
    omega
theorem genThen_size : ∀ (l : List Core) (x : List Ins) (g : List Pr), (genThen l x g).1.length ≤ x.length + 1 + 3 * nodesCs l ∧ (genThen l x g).2.length ≤ g.length + nodesCs l ∧ g.length ≤ (genThen l x g).2.length
  | [], x, g => by simp [genThen, nodesCs]
  | a :: r, x, g => by
    rw [genThen, nodesCs]
    have h1 := genC_size a g
    have h2 := genElse_size r x (genC a g).1 (genC a g).2
    omega
theorem genElse_size : ∀ (l : List Core) (x y : List Ins) (g : List Pr), (genElse l x y g).1.length ≤ x.length + y.length + 2 + 3 * nodesCs l ∧ (genElse l x y g).2.length ≤ g.length + nodesCs l ∧ g.length ≤ (genElse l x y g).2.length
  | [], x, y, g => by simp [genElse, nodesCs]
  | a :: r, x, y, g => by
    rw [genElse, nodesCs]
    have h1 := genC_size a g
    simp only [addI_len, List.length_append, List.length_cons, List.length_nil]
    omega
end

theorem c_add_nil (s : St) (o : Nat) (l : List Ins) (ho : s[o]? = some (.box [.nils])) (hl : l.length ≤ 1000000000) :
    VCalls Try.prog TT 26 [lstI l, .ptr o 0] s fun r st' => r = .ret (.tup []) ∧ st' = (s ++ [Ent.tip 46 l.length]).set o (.box [.lst 11 (some s.length) ((l.map (mvI 0)).map encI)]) := by
  refine vfunQ TT_ok (an := anL []) (L := [0, 1]) (rs := []) Try.func26 rfl (by kernel_rfl) rfl Try.ntmps26 rfl rfl fun hst ha hf => ?_
  have hO : o < s.length := (List.getElem?_eq_some_iff.1 ho).1
  simp only [decide_true, decide_false, gwL, gwB, gwD, gwE, gwS, gwTT, gwZ, initG, Nat.reduceEqDiff, ↓reduceIte, Nat.reduceAdd, Nat.reduceLT, Nat.reduceLeDiff, List.map_cons, List.map_nil, builtS, builtinV, pureR, binV, sliceV, pickV, evO, Env.look, find, V.ofConst, resV, resOne, tupV, loadV, fillV, buildV, mkIface, litM, litS, litR, litRows, List.reverse_cons, List.reverse_nil, Nat.reduceMul, appS, memA, appendV, rowsOf, V.cells, TI.sized, TI.known, TI.agg, anL, List.length_cons, List.length_nil, List.append_nil, List.cons_append, List.nil_append, List.drop_succ_cons, List.drop_zero, List.drop_nil, List.take_succ_cons, List.take_zero, List.take_nil, List.getElem?_cons_zero, List.getElem?_cons_succ, List.all_cons, List.all_nil, List.replicate_succ, List.replicate_zero, List.set_cons_zero, List.set_cons_succ, eq_self, true_or, ne_eq, not_false_eq_true, Nat.reduceEqDiff]
  refine vdraw TT_ok TT_mixed [1, 0, 1, 0, 0, 2, 2] (by kernel_rfl) ?_
  simp only [decide_true, decide_false, gwL, gwB, gwD, gwE, gwS, gwTT, gwZ, initG, Nat.reduceEqDiff, ↓reduceIte, Nat.reduceAdd, Nat.reduceLT, Nat.reduceLeDiff, List.map_cons, List.map_nil, builtS, builtinV, pureR, binV, sliceV, pickV, evO, Env.look, find, V.ofConst, resV, resOne, tupV, loadV, fillV, buildV, mkIface, litM, litS, litR, litRows, List.reverse_cons, List.reverse_nil, Nat.reduceMul, appS, memA, appendV, rowsOf, V.cells, TI.sized, TI.known, TI.agg, anL, List.length_cons, List.length_nil, List.append_nil, List.cons_append, List.nil_append, List.drop_succ_cons, List.drop_zero, List.drop_nil, List.take_succ_cons, List.take_zero, List.take_nil, List.getElem?_cons_zero, List.getElem?_cons_succ, List.all_cons, List.all_nil, List.replicate_succ, List.replicate_zero, List.set_cons_zero, List.set_cons_succ, eq_self, true_or, ne_eq, not_false_eq_true, Nat.reduceEqDiff, ho, lstI]
  refine eK_free (fun s => c_moved s l 0 hl) (wkL_refl _) ?_
  simp only [decide_true, decide_false, gwL, gwB, gwD, gwE, gwS, gwTT, gwZ, initG, Nat.reduceEqDiff, ↓reduceIte, Nat.reduceAdd, Nat.reduceLT, Nat.reduceLeDiff, List.map_cons, List.map_nil, builtS, builtinV, pureR, binV, sliceV, pickV, evO, Env.look, find, V.ofConst, resV, resOne, tupV, loadV, fillV, buildV, mkIface, litM, litS, litR, litRows, List.reverse_cons, List.reverse_nil, Nat.reduceMul, appS, memA, appendV, rowsOf, V.cells, TI.sized, TI.known, TI.agg, anL, List.length_cons, List.length_nil, List.append_nil, List.cons_append, List.nil_append, List.drop_succ_cons, List.drop_zero, List.drop_nil, List.take_succ_cons, List.take_zero, List.take_nil, List.getElem?_cons_zero, List.getElem?_cons_succ, List.all_cons, List.all_nil, List.replicate_succ, List.replicate_zero, List.set_cons_zero, List.set_cons_succ, eq_self, true_or, ne_eq, not_false_eq_true, Nat.reduceEqDiff, ho, lstI, List.length_map, st_old hO]
  omega
theorem c_add_tip (s : St) (o k : Nat) (out l : List Ins) (ho : s[o]? = some (.box [.lst 11 (some k) (out.map encI)])) (hk : s[k]? = some (.tip 46 out.length)) (hl : l.length ≤ 500000000) (hl2 : out.length ≤ 500000000) :
    VCalls Try.prog TT 26 [lstI l, .ptr o 0] s fun r st' => r = .ret (.tup []) ∧ st' = (s.set k (.tip 46 (addI out l).length)).set o (.box [.lst 11 (some k) ((addI out l).map encI)]) := by
  refine vfunQ TT_ok (an := anL []) (L := [0, 1]) (rs := []) Try.func26 rfl (by kernel_rfl) rfl Try.ntmps26 rfl rfl fun hst ha hf => ?_
  have hO : o < s.length := (List.getElem?_eq_some_iff.1 ho).1
  have hko : k ≠ o := by intro e; subst e; rw [ho] at hk; cases hk
  have ho2 : ∀ X, (s.set k X)[o]? = some (.box [.lst 11 (some k) (out.map encI)]) := fun X => by rw [List.getElem?_set_ne hko, ho]
  simp only [decide_true, decide_false, gwL, gwB, gwD, gwE, gwS, gwTT, gwZ, initG, Nat.reduceEqDiff, ↓reduceIte, Nat.reduceAdd, Nat.reduceLT, Nat.reduceLeDiff, List.map_cons, List.map_nil, builtS, builtinV, pureR, binV, sliceV, pickV, evO, Env.look, find, V.ofConst, resV, resOne, tupV, loadV, fillV, buildV, mkIface, litM, litS, litR, litRows, List.reverse_cons, List.reverse_nil, Nat.reduceMul, appS, memA, appendV, rowsOf, V.cells, TI.sized, TI.known, TI.agg, anL, List.length_cons, List.length_nil, List.append_nil, List.cons_append, List.nil_append, List.drop_succ_cons, List.drop_zero, List.drop_nil, List.take_succ_cons, List.take_zero, List.take_nil, List.getElem?_cons_zero, List.getElem?_cons_succ, List.all_cons, List.all_nil, List.replicate_succ, List.replicate_zero, List.set_cons_zero, List.set_cons_succ, eq_self, true_or, ne_eq, not_false_eq_true, Nat.reduceEqDiff]
  refine vdraw TT_ok TT_mixed [1, 0, 1, 0, 0, 2, 2] (by kernel_rfl) ?_
  simp only [decide_true, decide_false, gwL, gwB, gwD, gwE, gwS, gwTT, gwZ, initG, Nat.reduceEqDiff, ↓reduceIte, Nat.reduceAdd, Nat.reduceLT, Nat.reduceLeDiff, List.map_cons, List.map_nil, builtS, builtinV, pureR, binV, sliceV, pickV, evO, Env.look, find, V.ofConst, resV, resOne, tupV, loadV, fillV, buildV, mkIface, litM, litS, litR, litRows, List.reverse_cons, List.reverse_nil, Nat.reduceMul, appS, memA, appendV, rowsOf, V.cells, TI.sized, TI.known, TI.agg, anL, List.length_cons, List.length_nil, List.append_nil, List.cons_append, List.nil_append, List.drop_succ_cons, List.drop_zero, List.drop_nil, List.take_succ_cons, List.take_zero, List.take_nil, List.getElem?_cons_zero, List.getElem?_cons_succ, List.all_cons, List.all_nil, List.replicate_succ, List.replicate_zero, List.set_cons_zero, List.set_cons_succ, eq_self, true_or, ne_eq, not_false_eq_true, Nat.reduceEqDiff, ho, hk, lstI, List.length_map]
  refine eK_free (fun s => c_moved s l out.length (by omega)) (wkL_refl _) ?_
  simp only [decide_true, decide_false, gwL, gwB, gwD, gwE, gwS, gwTT, gwZ, initG, Nat.reduceEqDiff, ↓reduceIte, Nat.reduceAdd, Nat.reduceLT, Nat.reduceLeDiff, List.map_cons, List.map_nil, builtS, builtinV, pureR, binV, sliceV, pickV, evO, Env.look, find, V.ofConst, resV, resOne, tupV, loadV, fillV, buildV, mkIface, litM, litS, litR, litRows, List.reverse_cons, List.reverse_nil, Nat.reduceMul, appS, memA, appendV, rowsOf, V.cells, TI.sized, TI.known, TI.agg, anL, List.length_cons, List.length_nil, List.append_nil, List.cons_append, List.nil_append, List.drop_succ_cons, List.drop_zero, List.drop_nil, List.take_succ_cons, List.take_zero, List.take_nil, List.getElem?_cons_zero, List.getElem?_cons_succ, List.all_cons, List.all_nil, List.replicate_succ, List.replicate_zero, List.set_cons_zero, List.set_cons_succ, eq_self, true_or, ne_eq, not_false_eq_true, Nat.reduceEqDiff, ho, ho2, hk, lstI, List.length_map]
  refine ⟨by omega, ?_⟩
  simp only [addI, List.map_append, List.length_append, List.length_map]
end Go.Proofs.Ytpfdoffnpkokhaa.Gx

namespace Go.Proofs.Ytpfdoffnpkokhaa.Gx
open Go Go.Proofs.Ytpfdoffnpkokhaa.Gw
set_option linter.unusedSimpArgs false

/-- The document's procedures so far, as they lie. -/
structure GS (s : St) (b P q : Nat) (ps : List Pr) : Prop where
  box : s[b]? = some (.box [.arr P ps.length, .lst 1 (some q) (ps.map fun p => [V.int .i64 p.args])])
  arr : s[P]? = some (.arr 42 1 (ps.map fun p => [lstI p.code]))
  tip : s[q]? = some (.tip 3 ps.length)
/-- What is left as it is. -/
def Kp (X : Nat → Prop) (s s' : St) : Prop := s.length ≤ s'.length ∧ ∀ j : Nat, j < s.length → ¬ X j → s'[j]? = s[j]?
theorem Kp.refl (X : Nat → Prop) (s : St) : Kp X s s := ⟨Nat.le_refl _, fun _ _ _ => rfl⟩
theorem Kp.trans {X : Nat → Prop} {s s' s'' : St} (h : Kp X s s') (k : Kp X s' s'') : Kp X s s'' := ⟨Nat.le_trans h.1 k.1, fun j h1 h2 => by rw [k.2 j (Nat.lt_of_lt_of_le h1 h.1) h2, h.2 j h1 h2]⟩
theorem Kp.app {X : Nat → Prop} {s s' ex : St} (h : Kp X (s ++ ex) s') : Kp X s s' := ⟨by have := h.1; rw [List.length_append] at this; omega, fun j h1 h2 => by rw [h.2 j (by rw [List.length_append]; omega) h2, st_old h1]⟩
theorem Kp.mono {X Y : Nat → Prop} {s s' : St} (h : Kp X s s') (hm : ∀ j, j < s.length → X j → Y j) : Kp Y s s' := ⟨h.1, fun j h1 h2 => h.2 j h1 fun h => h2 (hm j h1 h)⟩
theorem Kp.then {X Y : Nat → Prop} {s s' s'' : St} (h : Kp X s s') (k : Kp Y s' s'') (hy : ∀ j, j < s.length → Y j → X j) : Kp X s s'' :=
  ⟨Nat.le_trans h.1 k.1, fun j h1 h2 => by rw [k.2 j (Nat.lt_of_lt_of_le h1 h.1) (fun e => h2 (hy j h1 e)), h.2 j h1 h2]⟩
def isG (b P q : Nat) : Nat → Prop := fun j => j = b ∨ j = P ∨ j = q
theorem GS.app {s : St} {b P q : Nat} {ps : List Pr} (h : GS s b P q ps) (ex : St) : GS (s ++ ex) b P q ps := by
  have g : ∀ {j : Nat} {e : Ent}, s[j]? = some e → (s ++ ex)[j]? = some e := fun {j e} hj => by rw [st_old (List.getElem?_eq_some_iff.1 hj).1, hj]
  exact ⟨g h.box, g h.arr, g h.tip⟩
theorem GS.keep {s s' : St} {b P q : Nat} {ps : List Pr} {X : Nat → Prop} (h : GS s b P q ps) (k : Kp X s s') (hb : ¬ X b) (hP : ¬ X P) (hq : ¬ X q) : GS s' b P q ps := by
  have g : ∀ {j : Nat} {e : Ent}, ¬ X j → s[j]? = some e → s'[j]? = some e := fun {j e} hx hj => by rw [k.2 j (List.getElem?_eq_some_iff.1 hj).1 hx, hj]
  exact ⟨g hb h.box, g hP h.arr, g hq h.tip⟩
theorem GS.lt {s : St} {b P q : Nat} {ps : List Pr} (h : GS s b P q ps) : b < s.length ∧ P < s.length ∧ q < s.length :=
  ⟨(List.getElem?_eq_some_iff.1 h.box).1, (List.getElem?_eq_some_iff.1 h.arr).1, (List.getElem?_eq_some_iff.1 h.tip).1⟩
theorem GS.ne {s : St} {b P q : Nat} {ps : List Pr} (h : GS s b P q ps) : b ≠ P ∧ b ≠ q ∧ P ≠ q := by
  refine ⟨fun e => ?_, fun e => ?_, fun e => ?_⟩
  · subst e; have := h.box; rw [h.arr] at this; cases this
  · subst e; have := h.box; rw [h.tip] at this; cases this
  · subst e; have := h.arr; rw [h.tip] at this; cases this
/-- Code that grows, in a box. -/
structure OT (s : St) (o k : Nat) (out : List Ins) : Prop where
  box : s[o]? = some (.box [.lst 11 (some k) (out.map encI)])
  tip : s[k]? = some (.tip 46 out.length)
theorem OT.ne {s : St} {o k : Nat} {out : List Ins} (h : OT s o k out) : k ≠ o := by intro e; subst e; have := h.box; rw [h.tip] at this; cases this
theorem OT.keep {s s' : St} {o k : Nat} {out : List Ins} {X : Nat → Prop} (h : OT s o k out) (kp : Kp X s s') (ho : ¬ X o) (hk : ¬ X k) : OT s' o k out := by
  have g : ∀ {j : Nat} {e : Ent}, ¬ X j → s[j]? = some e → s'[j]? = some e := fun {j e} hx hj => by rw [kp.2 j (List.getElem?_eq_some_iff.1 hj).1 hx, hj]
  exact ⟨g ho h.box, g hk h.tip⟩
theorem OT.lt {s : St} {o k : Nat} {out : List Ins} (h : OT s o k out) : o < s.length ∧ k < s.length := ⟨(List.getElem?_eq_some_iff.1 h.box).1, (List.getElem?_eq_some_iff.1 h.tip).1⟩
/-- The code that grows is another one. -/
theorem OT.put {s : St} {o k : Nat} {out : List Ins} (h : OT s o k out) (out' : List Ins) :
    OT ((s.set k (.tip 46 out'.length)).set o (.box [.lst 11 (some k) (out'.map encI)])) o k out' ∧ Kp (fun j => j = o ∨ j = k) s ((s.set k (.tip 46 out'.length)).set o (.box [.lst 11 (some k) (out'.map encI)])) := by
  have hn := h.ne
  obtain ⟨l1, l2⟩ := h.lt
  refine ⟨⟨List.getElem?_set_self (by rw [List.length_set]; exact l1), ?_⟩, by simp, fun j _ hj => ?_⟩
  · rw [List.getElem?_set_ne (Ne.symm hn), List.getElem?_set_self l2]
  · rw [List.getElem?_set_ne (fun e => hj (.inl e.symm)), List.getElem?_set_ne (fun e => hj (.inr e.symm))]
theorem OT.push {s : St} {o k : Nat} {out : List Ins} (h : OT s o k out) (i : Ins) :
    OT ((s.set k (.tip 46 (out.length + 1))).set o (.box [.lst 11 (some k) ((out ++ [i]).map encI)])) o k (out ++ [i]) ∧ Kp (fun j => j = o ∨ j = k) s ((s.set k (.tip 46 (out.length + 1))).set o (.box [.lst 11 (some k) ((out ++ [i]).map encI)])) := by
  have := h.put (out ++ [i])
  simp only [List.length_append, List.length_cons, List.length_nil] at this
  exact this
theorem wkR_snoc {α : Type} {f : α → List V} {p : Nat → Prop} {l : List V} {a : α} (h : wkLp p l (f a)) : ∀ m : List α, wkRp p (m.map f ++ [l]) ((m ++ [a]).map f)
  | [] => by simp only [List.map_nil, List.nil_append, List.map_cons, wkRp]; exact ⟨_, _, rfl, h, rfl⟩
  | x :: m => by simp only [List.map_cons, List.cons_append, wkRp]; exact ⟨_, _, rfl, wkL_refl _, wkR_snoc h m⟩

theorem c_addN (s : St) (o : Nat) (ho : s[o]? = some (.box [.nils])) (l : List Ins) (hl : l.length ≤ 1000000000) :
    VCalls Try.prog TT 26 [lstI l, .ptr o 0] s fun r st' => r = .ret (.tup []) ∧ OT st' o s.length (addI [] l) ∧ Kp (fun j => j = o) s st' := by
  refine (c_add_nil s o l ho hl).mono fun r st' ⟨h1, h2⟩ => ⟨h1, ?_⟩
  have hO : o < s.length := (List.getElem?_eq_some_iff.1 ho).1
  subst h2
  refine ⟨⟨?_, ?_⟩, by simp, fun j h1 h2 => ?_⟩
  · rw [List.getElem?_set_self (by simp; omega)]; rfl
  · rw [List.getElem?_set_ne (by omega), List.getElem?_append_right (Nat.le_refl _), Nat.sub_self]; simp [addI]
  · rw [List.getElem?_set_ne (fun e => h2 e.symm), st_old h1]
theorem c_addT (s : St) (o k : Nat) (out l : List Ins) (h : OT s o k out) (hl : l.length ≤ 500000000) (hl2 : out.length ≤ 500000000) :
    VCalls Try.prog TT 26 [lstI l, .ptr o 0] s fun r st' => r = .ret (.tup []) ∧ OT st' o k (addI out l) ∧ Kp (fun j => j = o ∨ j = k) s st' := by
  refine (c_add_tip s o k out l h.box h.tip hl hl2).mono fun r st' ⟨h1, h2⟩ => ⟨h1, ?_⟩
  subst h2
  exact h.put (addI out l)

def PCode (c : Core) : Prop := okC c → ∀ (s : St) (b P q : Nat) (ps : List Pr), GS s b P q ps → nodesC c ≤ 1000000 → ps.length + nodesC c ≤ 1000000000 →
  VCalls Try.prog TT 19 [.ptr b 0, .agg (encC c)] s fun r st' => ∃ o, r = .ret (.lst 11 (some o) ((genC c ps).1.map encI)) ∧ s.length ≤ o ∧ st'[o]? = some (.tip 46 (genC c ps).1.length) ∧ GS st' b P q (genC c ps).2 ∧ Kp (isG b P q) s st'

set_option maxRecDepth 20000 in
set_option maxHeartbeats 8000000 in
theorem c_code_one (k ix n : Int) (lb ow : Str) (qd : Datum) (kids : List Core) (hk : k = 1 ∨ k = 2 ∨ k = 3 ∨ k = 4 ∨ k = 5 ∨ k = 6) : PCode (.mk k ix n lb ow qd kids) := by
  intro hok s b P q ps hG hn hp
  rw [okC] at hok
  obtain ⟨-, -, hq, -⟩ := hok
  refine VCalls.relax ?_
  have fin : ∀ (i : Ins) (row : List V), wkL row (encI i) → oneR (.mk k ix n lb ow qd []) = some i → ∃ v X s', VEnd.ret (.lst 11 (some (s.length + 1)) [row]) = .ret v ∧ wk v X ∧ wkSt (s ++ [Ent.box [.nils], Ent.tip 46 1]) s' ∧
      ∃ o, VEnd.ret X = .ret (.lst 11 (some o) ((genC (.mk k ix n lb ow qd kids) ps).1.map encI)) ∧ s.length ≤ o ∧ s'[o]? = some (.tip 46 (genC (.mk k ix n lb ow qd kids) ps).1.length) ∧ GS s' b P q (genC (.mk k ix n lb ow qd kids) ps).2 ∧ Kp (isG b P q) s s' := by
    intro i row hw hi
    have e : genC (.mk k ix n lb ow qd kids) ps = ([i], ps) := by rw [genC, hi]
    rw [e]
    refine ⟨_, .lst 11 (some (s.length + 1)) [encI i], _, rfl, wk_lst_same ?_, wkSt_refl _, s.length + 1, rfl, by omega, ?_, hG.app _, (Kp.refl _ _).app⟩
    · simp only [wkRp]; exact ⟨_, _, rfl, hw, rfl⟩
    · rw [List.getElem?_append_right (by omega)]; simp
  refine vfunQ TT_ok (an := anL [(3, 1), (24, 1), (30, 1), (37, 1), (43, 1), (51, 1), (57, 1), (158, 1)]) (L := [0, 1, 3, 4, 5, 6, 7, 8, 9, 10, 11, 12, 13, 15, 18, 162, 163, 164, 185, 186, 187, 212]) (rs := [.tmp 4]) Try.func19 rfl (by kernel_rfl) rfl Try.ntmps19 rfl rfl fun hst ha hf => ?_
  simp only [encC_mk]
  rcases hk with rfl | rfl | rfl | rfl | rfl | rfl
  · simp only [decide_true, decide_false, gwL, gwB, gwD, gwE, gwS, gwTT, gwZ, initG, Nat.reduceEqDiff, ↓reduceIte, Nat.reduceAdd, Nat.reduceLT, Nat.reduceLeDiff, List.map_cons, List.map_nil, builtS, builtinV, pureR, binV, sliceV, pickV, evO, Env.look, find, V.ofConst, resV, resOne, tupV, loadV, fillV, buildV, mkIface, litM, litS, litR, litRows, List.reverse_cons, List.reverse_nil, Nat.reduceMul, appS, memA, appendV, rowsOf, V.cells, TI.sized, TI.known, TI.agg, anL, List.length_cons, List.length_nil, List.append_nil, List.cons_append, List.nil_append, List.drop_succ_cons, List.drop_zero, List.drop_nil, List.take_succ_cons, List.take_zero, List.take_nil, List.getElem?_cons_zero, List.getElem?_cons_succ, List.all_cons, List.all_nil, List.replicate_succ, List.replicate_zero, List.set_cons_zero, List.set_cons_succ, eq_self, true_or, ne_eq, not_false_eq_true, Nat.reduceEqDiff, Int.reduceEq, encD_drop_app]
    exact fin _ _ (wk_ins ..) (by simp [oneR])
  · simp only [decide_true, decide_false, gwL, gwB, gwD, gwE, gwS, gwTT, gwZ, initG, Nat.reduceEqDiff, ↓reduceIte, Nat.reduceAdd, Nat.reduceLT, Nat.reduceLeDiff, List.map_cons, List.map_nil, builtS, builtinV, pureR, binV, sliceV, pickV, evO, Env.look, find, V.ofConst, resV, resOne, tupV, loadV, fillV, buildV, mkIface, litM, litS, litR, litRows, List.reverse_cons, List.reverse_nil, Nat.reduceMul, appS, memA, appendV, rowsOf, V.cells, TI.sized, TI.known, TI.agg, anL, List.length_cons, List.length_nil, List.append_nil, List.cons_append, List.nil_append, List.drop_succ_cons, List.drop_zero, List.drop_nil, List.take_succ_cons, List.take_zero, List.take_nil, List.getElem?_cons_zero, List.getElem?_cons_succ, List.all_cons, List.all_nil, List.replicate_succ, List.replicate_zero, List.set_cons_zero, List.set_cons_succ, eq_self, true_or, ne_eq, not_false_eq_true, Nat.reduceEqDiff, Int.reduceEq, encD_drop_app]
    exact fin _ _ (wk_ins ..) (by simp [oneR])
  · simp only [decide_true, decide_false, gwL, gwB, gwD, gwE, gwS, gwTT, gwZ, initG, Nat.reduceEqDiff, ↓reduceIte, Nat.reduceAdd, Nat.reduceLT, Nat.reduceLeDiff, List.map_cons, List.map_nil, builtS, builtinV, pureR, binV, sliceV, pickV, evO, Env.look, find, V.ofConst, resV, resOne, tupV, loadV, fillV, buildV, mkIface, litM, litS, litR, litRows, List.reverse_cons, List.reverse_nil, Nat.reduceMul, appS, memA, appendV, rowsOf, V.cells, TI.sized, TI.known, TI.agg, anL, List.length_cons, List.length_nil, List.append_nil, List.cons_append, List.nil_append, List.drop_succ_cons, List.drop_zero, List.drop_nil, List.take_succ_cons, List.take_zero, List.take_nil, List.getElem?_cons_zero, List.getElem?_cons_succ, List.all_cons, List.all_nil, List.replicate_succ, List.replicate_zero, List.set_cons_zero, List.set_cons_succ, eq_self, true_or, ne_eq, not_false_eq_true, Nat.reduceEqDiff, Int.reduceEq, encD_drop_app, encD_take_app, encD_len_app]
    refine (c_ref_Bare qd (goodD_small qd (hq rfl)) _).use (wkL_refl _) fun _ => ?_
    simp only [decide_true, decide_false, gwL, gwB, gwD, gwE, gwS, gwTT, gwZ, initG, Nat.reduceEqDiff, ↓reduceIte, Nat.reduceAdd, Nat.reduceLT, Nat.reduceLeDiff, List.map_cons, List.map_nil, builtS, builtinV, pureR, binV, sliceV, pickV, evO, Env.look, find, V.ofConst, resV, resOne, tupV, loadV, fillV, buildV, mkIface, litM, litS, litR, litRows, List.reverse_cons, List.reverse_nil, Nat.reduceMul, appS, memA, appendV, rowsOf, V.cells, TI.sized, TI.known, TI.agg, anL, List.length_cons, List.length_nil, List.append_nil, List.cons_append, List.nil_append, List.drop_succ_cons, List.drop_zero, List.drop_nil, List.take_succ_cons, List.take_zero, List.take_nil, List.getElem?_cons_zero, List.getElem?_cons_succ, List.all_cons, List.all_nil, List.replicate_succ, List.replicate_zero, List.set_cons_zero, List.set_cons_succ, eq_self, true_or, ne_eq, not_false_eq_true, Nat.reduceEqDiff, encD_take, encD_drop, encD_len]
    exact fin { op := 3, quote := bareR qd } _ (wkL_refl _) (by simp [oneR])
  · simp only [decide_true, decide_false, gwL, gwB, gwD, gwE, gwS, gwTT, gwZ, initG, Nat.reduceEqDiff, ↓reduceIte, Nat.reduceAdd, Nat.reduceLT, Nat.reduceLeDiff, List.map_cons, List.map_nil, builtS, builtinV, pureR, binV, sliceV, pickV, evO, Env.look, find, V.ofConst, resV, resOne, tupV, loadV, fillV, buildV, mkIface, litM, litS, litR, litRows, List.reverse_cons, List.reverse_nil, Nat.reduceMul, appS, memA, appendV, rowsOf, V.cells, TI.sized, TI.known, TI.agg, anL, List.length_cons, List.length_nil, List.append_nil, List.cons_append, List.nil_append, List.drop_succ_cons, List.drop_zero, List.drop_nil, List.take_succ_cons, List.take_zero, List.take_nil, List.getElem?_cons_zero, List.getElem?_cons_succ, List.all_cons, List.all_nil, List.replicate_succ, List.replicate_zero, List.set_cons_zero, List.set_cons_succ, eq_self, true_or, ne_eq, not_false_eq_true, Nat.reduceEqDiff, Int.reduceEq, encD_drop_app]
    exact fin _ _ (wk_ins ..) (by simp [oneR])
  · simp only [decide_true, decide_false, gwL, gwB, gwD, gwE, gwS, gwTT, gwZ, initG, Nat.reduceEqDiff, ↓reduceIte, Nat.reduceAdd, Nat.reduceLT, Nat.reduceLeDiff, List.map_cons, List.map_nil, builtS, builtinV, pureR, binV, sliceV, pickV, evO, Env.look, find, V.ofConst, resV, resOne, tupV, loadV, fillV, buildV, mkIface, litM, litS, litR, litRows, List.reverse_cons, List.reverse_nil, Nat.reduceMul, appS, memA, appendV, rowsOf, V.cells, TI.sized, TI.known, TI.agg, anL, List.length_cons, List.length_nil, List.append_nil, List.cons_append, List.nil_append, List.drop_succ_cons, List.drop_zero, List.drop_nil, List.take_succ_cons, List.take_zero, List.take_nil, List.getElem?_cons_zero, List.getElem?_cons_succ, List.all_cons, List.all_nil, List.replicate_succ, List.replicate_zero, List.set_cons_zero, List.set_cons_succ, eq_self, true_or, ne_eq, not_false_eq_true, Nat.reduceEqDiff, Int.reduceEq, encD_drop_app]
    exact fin _ _ (wk_ins ..) (by simp [oneR])
  · simp only [decide_true, decide_false, gwL, gwB, gwD, gwE, gwS, gwTT, gwZ, initG, Nat.reduceEqDiff, ↓reduceIte, Nat.reduceAdd, Nat.reduceLT, Nat.reduceLeDiff, List.map_cons, List.map_nil, builtS, builtinV, pureR, binV, sliceV, pickV, evO, Env.look, find, V.ofConst, resV, resOne, tupV, loadV, fillV, buildV, mkIface, litM, litS, litR, litRows, List.reverse_cons, List.reverse_nil, Nat.reduceMul, appS, memA, appendV, rowsOf, V.cells, TI.sized, TI.known, TI.agg, anL, List.length_cons, List.length_nil, List.append_nil, List.cons_append, List.nil_append, List.drop_succ_cons, List.drop_zero, List.drop_nil, List.take_succ_cons, List.take_zero, List.take_nil, List.getElem?_cons_zero, List.getElem?_cons_succ, List.all_cons, List.all_nil, List.replicate_succ, List.replicate_zero, List.set_cons_zero, List.set_cons_succ, eq_self, true_or, ne_eq, not_false_eq_true, Nat.reduceEqDiff, Int.reduceEq, encD_drop_app]
    exact fin _ _ (wk_ins ..) (by simp [oneR])
end Go.Proofs.Ytpfdoffnpkokhaa.Gx
