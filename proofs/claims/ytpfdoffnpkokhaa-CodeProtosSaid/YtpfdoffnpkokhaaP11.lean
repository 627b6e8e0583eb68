/- Contract: the compiler makes a unit of a part. Contracts: a closed fact; how many lambdas, and nodes, there are. A procedure for each lambda; how much code there is: in plain terms. Contract: the closure that gathers what lambdas take. The law CodeProtos answers true. -/
import Derived.Test.YtpfdoffnpkokhaaP10

namespace Go.Proofs.Ytpfdoffnpkokhaa.Gx
open Go Go.Proofs.Ytpfdoffnpkokhaa.Gw
set_option linter.unusedSimpArgs false
set_option linter.unusedVariables false

def encPr (p : Pr) : List V := [.int .i64 p.args, lstI p.code]
def lstPr (l : List Pr) : V := .lst 2 none (l.map encPr)
theorem lstPr_lt (n : Nat) (l : List Pr) : (lstPr l).lt n := by
  simp only [lstPr, V.lt]
  exact ⟨fun e h => (by cases h), ltRows_map fun x _ => ⟨trivial, lstI_lt _ _, trivial⟩⟩
/-- The forms' code, one behind the other. -/
def formsP : List Core → List Pr → List Pr
  | [], ps => ps
  | c :: r, ps => formsP r (pushP 0 { op := 14 } (exprP c 0 ps))
def bodyP (l : List Core) : List Pr := pushP 0 { op := 15 } (formsP l [⟨0, []⟩])
def muchP (l : List Pr) : Bool := decide (500 < l.length) || l.any fun p => decide (6000 < p.code.length)
/-- A unit. -/
structure Unit' where
  name : Str
  protos : List Pr
def encU (u : Unit') : List V := [.str u.name, lstPr u.protos]
def compileC (p : Part) : Unit' × Int :=
  bif decide ((wrongPs [p]).1 = 0) then (bif muchP (bodyP p.body) then (⟨[], []⟩, 4) else (⟨p.name, bodyP p.body⟩, 0)) else (⟨[], []⟩, (wrongPs [p]).1)
def compV (r : Unit' × Int) : V := .tup [.agg (encU r.1), .int .i64 r.2]
theorem compV_lt (n : Nat) (r : Unit' × Int) : (compV r).lt n := by
  simp only [compV, V.lt, ltL, encU, and_true, true_and]
  exact lstPr_lt _ _
theorem formsP_snoc : ∀ (l : List Core) (c : Core) (ps : List Pr), formsP (l ++ [c]) ps = pushP 0 { op := 14 } (exprP c 0 (formsP l ps))
  | [], c, ps => by simp only [List.nil_append, formsP]
  | d :: l, c, ps => by simp only [List.cons_append, formsP, formsP_snoc l c]
theorem formsP_tot : ∀ (l : List Core) (ps : List Pr), tot (formsP l ps) ≤ tot ps + 3 * nodesCs l
  | [], ps => by simp [formsP, nodesCs]
  | c :: r, ps => by
    rw [formsP, nodesCs]
    have h1 := formsP_tot r (pushP 0 { op := 14 } (exprP c 0 ps))
    have h2 := pushP_tot (exprP c 0 ps) 0 { op := 14 }
    have h3 := exprP_tot c 0 ps
    omega
theorem formsP_len : ∀ (l : List Core) (ps : List Pr), ps.length ≤ (formsP l ps).length
  | [], ps => by rw [formsP]; exact Nat.le_refl _
  | c :: r, ps => by rw [formsP]; refine Nat.le_trans ?_ (formsP_len r _); rw [pushP_len]; exact exprP_len c 0 ps
theorem formsP_top : ∀ (l : List Core) (ps : List Pr), (formsP l ps).length ≤ ps.length + nodesCs l
  | [], ps => by rw [formsP, nodesCs]; omega
  | c :: r, ps => by
    rw [formsP, nodesCs]
    have h1 := formsP_top r (pushP 0 { op := 14 } (exprP c 0 ps))
    have h3 := exprP_top c 0 ps
    rw [pushP_len] at h1
    omega

/-- What comes to be frozen. -/
def Frz (X : V) (st : St) (r : VEnd) (st' : St) : Prop := ∃ v u ex, r = .ret v ∧ st' = st ++ ex ∧ Thaw st' st.length v u ∧ wk u X ∧ X.lt st.length
theorem frz_of {v X : V} {st ex : St} (h : wk v X) (hl : X.lt st.length) : Frz X st (.ret v) (st ++ ex) := ⟨v, v, ex, rfl, rfl, .same v, h, hl⟩
theorem frz_pre {v X : V} {st s' : St} (hp : ∀ j : Nat, j < st.length → s'[j]? = st[j]?) (_hl : st.length ≤ s'.length) (u : V) (ht : Thaw s' st.length v u) (hw : wk u X) (hx : X.lt st.length) : Frz X st (.ret v) s' := by
  refine ⟨v, u, s'.drop st.length, rfl, ?_, ht, hw, hx⟩
  apply List.ext_getElem?
  intro j
  rcases Nat.lt_or_ge j st.length with h | h
  · rw [hp j h, List.getElem?_append_left h]
  · rw [List.getElem?_append_right h, List.getElem?_drop]; congr 1; omega
theorem thaw_rows {st' : St} {m : Nat} : ∀ (es : List (Option Nat)) (ps : List Pr), es.length = ps.length → (∀ (k e : Nat) (p : Pr), es[k]? = some (some e) → ps[k]? = some p → m ≤ e ∧ st'[e]? = some (.arr 46 11 (p.code.map encI))) →
    (∀ (k : Nat) (p : Pr), es[k]? = some none → ps[k]? = some p → p.code = []) → ∃ rows, ThawR st' m (prRows es ps) rows ∧ wkRp NoTok rows (ps.map encPr)
  | [], [], _, _, _ => ⟨[], .nil, by simp [wkRp]⟩
  | e :: es, p :: ps, hl, h1, h2 => by
    obtain ⟨rows, r1, r2⟩ := thaw_rows es ps (by simpa using hl) (fun k o q a b => h1 (k + 1) o q (by simpa using a) (by simpa using b)) (fun k q a b => h2 (k + 1) q (by simpa using a) (by simpa using b))
    cases e with
    | none =>
      have hc := h2 0 p (by simp) (by simp)
      refine ⟨[.int .i64 p.args, .nils] :: rows, .cons (ThawL.refl _) r1, ?_⟩
      simp only [List.map_cons, wkRp]
      exact ⟨_, _, rfl, by rw [encPr, hc]; exact wkL_cons (wk_refl _) (wkL_cons (wk_nils _) wkL_nil), r2⟩
    | some o =>
      obtain ⟨g1, g2⟩ := h1 0 o p (by simp) (by simp)
      have rr : ∀ l : List (List V), ThawR st' m l l := by intro l; induction l with | nil => exact .nil | cons a l ih => exact .cons (ThawL.refl _) ih
      refine ⟨[.int .i64 p.args, lstI p.code] :: rows, .cons (.cons (.same _) (.cons (.arr g1 g2 (by simp) (rr _)) .nil)) r1, ?_⟩
      simp only [List.map_cons, wkRp]
      exact ⟨_, _, rfl, wkL_refl _, r2⟩
  | [], _ :: _, h, _, _ => by simp at h
  | _ :: _, [], h, _, _ => by simp at h

set_option maxRecDepth 20000 in
set_option maxHeartbeats 8000000 in
theorem c_Compile0 (p : Part) (st : St) : VCalls Try.prog TT 7 [.agg (encP p)] st (Frz (compV (compileC p)) st) := by
  refine vfunQ TT_ok (an := anL [(1, 1), (19, 2)]) (L := [0, 1, 2, 3, 4, 5, 6, 8, 24, 25, 51, 52, 53]) (rs := [.cell 2 27, .tmp 3]) Try.func7 rfl (by kernel_rfl) rfl Try.ntmps7 rfl rfl fun hst ha hf => ?_
  obtain ⟨nm, body⟩ := p
  simp only [encP, lstC]
  simp only [decide_true, decide_false, gwL, gwB, gwD, gwE, gwS, gwTT, gwZ, initG, Nat.reduceEqDiff, ↓reduceIte, Nat.reduceAdd, Nat.reduceLT, Nat.reduceLeDiff, List.map_cons, List.map_nil, builtS, builtinV, pureR, binV, sliceV, pickV, evO, Env.look, find, V.ofConst, resV, resOne, tupV, loadV, fillV, buildV, mkIface, litM, litS, litR, litRows, List.reverse_cons, List.reverse_nil, Nat.reduceMul, appS, memA, appendV, rowsOf, V.cells, TI.sized, TI.known, TI.agg, anL, List.length_cons, List.length_nil, List.append_nil, List.cons_append, List.nil_append, List.drop_succ_cons, List.drop_zero, List.drop_nil, List.take_succ_cons, List.take_zero, List.take_nil, List.getElem?_cons_zero, List.getElem?_cons_succ, List.all_cons, List.all_nil, List.replicate_succ, List.replicate_zero, List.set_cons_zero, List.set_cons_succ, eq_self, true_or, ne_eq, not_false_eq_true, Nat.reduceEqDiff]
  refine (c_model_Wrong _ [⟨nm, body⟩]).use (wkL_refl _) fun _ => ?_
  unfold compileC
  simp only [decide_true, decide_false, gwL, gwB, gwD, gwE, gwS, gwTT, gwZ, initG, Nat.reduceEqDiff, ↓reduceIte, Nat.reduceAdd, Nat.reduceLT, Nat.reduceLeDiff, List.map_cons, List.map_nil, builtS, builtinV, pureR, binV, sliceV, pickV, evO, Env.look, find, V.ofConst, resV, resOne, tupV, loadV, fillV, buildV, mkIface, litM, litS, litR, litRows, List.reverse_cons, List.reverse_nil, Nat.reduceMul, appS, memA, appendV, rowsOf, V.cells, TI.sized, TI.known, TI.agg, anL, List.length_cons, List.length_nil, List.append_nil, List.cons_append, List.nil_append, List.drop_succ_cons, List.drop_zero, List.drop_nil, List.take_succ_cons, List.take_zero, List.take_nil, List.getElem?_cons_zero, List.getElem?_cons_succ, List.all_cons, List.all_nil, List.replicate_succ, List.replicate_zero, List.set_cons_zero, List.set_cons_succ, eq_self, true_or, ne_eq, not_false_eq_true, Nat.reduceEqDiff, fltV]
  refine iK_split (fun h => ?_) (fun h => ?_)
  · rw [not_yes h]
    simp only [decide_true, decide_false, gwL, gwB, gwD, gwE, gwS, gwTT, gwZ, initG, Nat.reduceEqDiff, ↓reduceIte, Nat.reduceAdd, Nat.reduceLT, Nat.reduceLeDiff, List.map_cons, List.map_nil, builtS, builtinV, pureR, binV, sliceV, pickV, evO, Env.look, find, V.ofConst, resV, resOne, tupV, loadV, fillV, buildV, mkIface, litM, litS, litR, litRows, List.reverse_cons, List.reverse_nil, Nat.reduceMul, appS, memA, appendV, rowsOf, V.cells, TI.sized, TI.known, TI.agg, anL, List.length_cons, List.length_nil, List.append_nil, List.cons_append, List.nil_append, List.drop_succ_cons, List.drop_zero, List.drop_nil, List.take_succ_cons, List.take_zero, List.take_nil, List.getElem?_cons_zero, List.getElem?_cons_succ, List.all_cons, List.all_nil, List.replicate_succ, List.replicate_zero, List.set_cons_zero, List.set_cons_succ, eq_self, true_or, ne_eq, not_false_eq_true, Nat.reduceEqDiff]
    refine vmelt 4 (st.length + 1) _ rfl (by simp only [gwL]; rfl) ?_
    simp only [decide_true, decide_false, gwL, gwB, gwD, gwE, gwS, gwTT, gwZ, initG, Nat.reduceEqDiff, ↓reduceIte, Nat.reduceAdd, Nat.reduceLT, Nat.reduceLeDiff, List.map_cons, List.map_nil, builtS, builtinV, pureR, binV, sliceV, pickV, evO, Env.look, find, V.ofConst, resV, resOne, tupV, loadV, fillV, buildV, mkIface, litM, litS, litR, litRows, List.reverse_cons, List.reverse_nil, Nat.reduceMul, appS, memA, appendV, rowsOf, V.cells, TI.sized, TI.known, TI.agg, anL, List.length_cons, List.length_nil, List.append_nil, List.cons_append, List.nil_append, List.drop_succ_cons, List.drop_zero, List.drop_nil, List.take_succ_cons, List.take_zero, List.take_nil, List.getElem?_cons_zero, List.getElem?_cons_succ, List.all_cons, List.all_nil, List.replicate_succ, List.replicate_zero, List.set_cons_zero, List.set_cons_succ, eq_self, true_or, ne_eq, not_false_eq_true, Nat.reduceEqDiff, meltE]
    refine vdraw TT_ok TT_mixed [0, 0, 0, 2, 0] (by kernel_rfl) ?_
    simp only [decide_true, decide_false, gwL, gwB, gwD, gwE, gwS, gwTT, gwZ, initG, Nat.reduceEqDiff, ↓reduceIte, Nat.reduceAdd, Nat.reduceLT, Nat.reduceLeDiff, List.map_cons, List.map_nil, builtS, builtinV, pureR, binV, sliceV, pickV, evO, Env.look, find, V.ofConst, resV, resOne, tupV, loadV, fillV, buildV, mkIface, litM, litS, litR, litRows, List.reverse_cons, List.reverse_nil, Nat.reduceMul, appS, memA, appendV, rowsOf, V.cells, TI.sized, TI.known, TI.agg, anL, List.length_cons, List.length_nil, List.append_nil, List.cons_append, List.nil_append, List.drop_succ_cons, List.drop_zero, List.drop_nil, List.take_succ_cons, List.take_zero, List.take_nil, List.getElem?_cons_zero, List.getElem?_cons_succ, List.all_cons, List.all_nil, List.replicate_succ, List.replicate_zero, List.set_cons_zero, List.set_cons_succ, eq_self, true_or, ne_eq, not_false_eq_true, Nat.reduceEqDiff]
    exact frz_of (wk_tup (wkL_cons (wk_agg (wkL_cons (wk_refl _) (wkL_cons (wk_nils _) wkL_nil))) (wkL_refl _))) (compV_lt _ _)
  rw [not_no h]
  have hok := wrongPs_good (p := ⟨nm, body⟩) (of_decide_eq_true (not_no h))
  simp only at hok
  obtain ⟨hok1, hok2, hok3⟩ := hok
  have hnl := nodesCs_len body
  simp only [decide_true, decide_false, gwL, gwB, gwD, gwE, gwS, gwTT, gwZ, initG, Nat.reduceEqDiff, ↓reduceIte, Nat.reduceAdd, Nat.reduceLT, Nat.reduceLeDiff, List.map_cons, List.map_nil, builtS, builtinV, pureR, binV, sliceV, pickV, evO, Env.look, find, V.ofConst, resV, resOne, tupV, loadV, fillV, buildV, mkIface, litM, litS, litR, litRows, List.reverse_cons, List.reverse_nil, Nat.reduceMul, appS, memA, appendV, rowsOf, V.cells, TI.sized, TI.known, TI.agg, anL, List.length_cons, List.length_nil, List.append_nil, List.cons_append, List.nil_append, List.drop_succ_cons, List.drop_zero, List.drop_nil, List.take_succ_cons, List.take_zero, List.take_nil, List.getElem?_cons_zero, List.getElem?_cons_succ, List.all_cons, List.all_nil, List.replicate_succ, List.replicate_zero, List.set_cons_zero, List.set_cons_succ, eq_self, true_or, ne_eq, not_false_eq_true, Nat.reduceEqDiff, List.length_map]
  have hU0 : US (st ++ [Ent.box [V.str [], V.nils], Ent.box [V.int .i64 (wrongPs [{ name := nm, body := body }]).fst, V.int .i64 (wrongPs [{ name := nm, body := body }]).snd], Ent.arr 44 2 [[V.int .i64 0, V.nils]], Ent.box [V.arr (st.length + 2) 1]]) (st.length + 3) (st.length + 2) [none] [⟨0, []⟩] :=
    ⟨rfl, by simp only [gwL, List.length_cons, List.length_nil], by simp only [gwL]; rfl, fun k e p h1 _ => by cases k <;> simp at h1, fun k p h1 h2 => by cases k <;> simp at h2; subst h2; rfl, fun j k e h1 => by cases j <;> simp at h1⟩
  refine vfor (σ := Nat × St × List (Option Nat)) [1, 2, 3, 5, 24, 25] (fun x => [(1, true, .ref [.str nm, .lst 12 none (body.map encC)]), (2, true, .ptr st.length 0), (3, true, .int .i64 0), (5, true, .ptr (st.length + 3) 0), (24, true, .int .i64 body.length), (25, true, .int .i64 x.1)]) (fun x => x.2.1) (fun x => body.length - x.1) (fun x => x.1 ≤ body.length ∧ US x.2.1 (st.length + 3) (st.length + 2) x.2.2 (formsP (body.take x.1) [⟨0, []⟩]) ∧ Fr (st ++ [Ent.box [V.str [], V.nils], Ent.box [V.int .i64 (wrongPs [{ name := nm, body := body }]).fst, V.int .i64 (wrongPs [{ name := nm, body := body }]).snd], Ent.arr 44 2 [[V.int .i64 0, V.nils]], Ent.box [V.arr (st.length + 2) 1]]) (st.length + 3) (st.length + 2) [none] x.2.1 x.2.2) (0, _, [none]) rfl TT_ok ⟨Nat.zero_le _, hU0, Fr.refl ..⟩ rfl rfl ?_
  rintro ⟨i, s1, es1⟩ ⟨hi, hU1, hF1⟩
  simp only at hi hU1 hF1 ⊢
  have ht1 := formsP_tot (body.take i) [⟨0, []⟩]
  have hp1 : 0 < (formsP (body.take i) [⟨0, []⟩]).length := formsP_len (body.take i) [⟨0, []⟩]
  have hl1 := formsP_top (body.take i) [⟨0, []⟩]
  simp only [tot, List.length_nil, List.length_cons] at ht1 hl1
  rcases at_or_end body i hi with ⟨rfl, hd⟩ | ⟨a, hlt, hget, hdr⟩
  · rw [List.take_length] at hU1 ht1 hp1 hl1
    simp only [decide_true, decide_false, gwL, gwB, gwD, gwE, gwS, gwTT, gwZ, initG, Nat.reduceEqDiff, ↓reduceIte, Nat.reduceAdd, Nat.reduceLT, Nat.reduceLeDiff, List.map_cons, List.map_nil, builtS, builtinV, pureR, binV, sliceV, pickV, evO, Env.look, find, V.ofConst, resV, resOne, tupV, loadV, fillV, buildV, mkIface, litM, litS, litR, litRows, List.reverse_cons, List.reverse_nil, Nat.reduceMul, appS, memA, appendV, rowsOf, V.cells, TI.sized, TI.known, TI.agg, anL, List.length_cons, List.length_nil, List.append_nil, List.cons_append, List.nil_append, List.drop_succ_cons, List.drop_zero, List.drop_nil, List.take_succ_cons, List.take_zero, List.take_nil, List.getElem?_cons_zero, List.getElem?_cons_succ, List.all_cons, List.all_nil, List.replicate_succ, List.replicate_zero, List.set_cons_zero, List.set_cons_succ, eq_self, true_or, ne_eq, not_false_eq_true, Nat.reduceEqDiff, lt_no, List.length_map]
    refine useQ (c_emitP _ (st.length + 3) (st.length + 2) es1 _ hU1 0 hp1 { op := 15 } (Nat.le_trans (hereP_tot _ _) (by omega))) (wk_emit (wk_ins ..)) (by rintro v s' ⟨h, _⟩; cases h) ?_
    rintro X s2 hX ⟨hX', es2, hU2, hF2⟩
    cases hX'
    replace hU2 : US s2 (st.length + 3) (st.length + 2) es2 (bodyP body) := hU2
    have hFr := hF1.trans hF2
    have hes : ∀ (k j : Nat), ([none] : List (Option Nat))[k]? ≠ some (some j) := fun k j h => by cases k <;> simp at h
    have hlen : st.length + 4 ≤ s2.length := by have := hFr.len; simpa using this
    have hc : s2[st.length]? = some (.box [.str [], .nils]) := by
      rw [hFr.keep st.length (by simp) (by omega) (by omega) (fun k => hes k _)]
      simp only [gwL]
    have hpre : ∀ j : Nat, j < st.length → s2[j]? = st[j]? := fun j hj => by
      rw [hFr.keep j (by simp; omega) (by omega) (by omega) (fun k => hes k _), st_old hj]
    have hsl : ∀ X, (s2.set st.length X)[st.length]? = some X := fun X => List.getElem?_set_self (by omega)
    have hspre : ∀ (ex : St) X, ∀ j : Nat, j < st.length → ((s2 ++ ex).set st.length X)[j]? = st[j]? := fun ex X j hj => by rw [List.getElem?_set_ne (by omega), st_old (by omega), hpre j hj]
    have hnil : ∀ v, wk (.tup [.agg [.str [], .nils], .int .i64 v]) (compV (⟨[], []⟩, v)) := fun v => wk_tup (wkL_cons (wk_agg (wkL_cons (wk_refl _) (wkL_cons (wk_nils _) wkL_nil))) (wkL_refl _))
    have hbl : (bodyP body).length ≤ 1000000 := by rw [bodyP, pushP_len]; omega
    have hbt : tot (bodyP body) ≤ 10000000 := by have := pushP_tot (formsP body [⟨0, []⟩]) 0 { op := 15 }; rw [bodyP]; omega
    simp only [decide_true, decide_false, gwL, gwB, gwD, gwE, gwS, gwTT, gwZ, initG, Nat.reduceEqDiff, ↓reduceIte, Nat.reduceAdd, Nat.reduceLT, Nat.reduceLeDiff, List.map_cons, List.map_nil, builtS, builtinV, pureR, binV, sliceV, pickV, evO, Env.look, find, V.ofConst, resV, resOne, tupV, loadV, fillV, buildV, mkIface, litM, litS, litR, litRows, List.reverse_cons, List.reverse_nil, Nat.reduceMul, appS, memA, appendV, rowsOf, V.cells, TI.sized, TI.known, TI.agg, anL, List.length_cons, List.length_nil, List.append_nil, List.cons_append, List.nil_append, List.drop_succ_cons, List.drop_zero, List.drop_nil, List.take_succ_cons, List.take_zero, List.take_nil, List.getElem?_cons_zero, List.getElem?_cons_succ, List.all_cons, List.all_nil, List.replicate_succ, List.replicate_zero, List.set_cons_zero, List.set_cons_succ, eq_self, true_or, ne_eq, not_false_eq_true, Nat.reduceEqDiff, hU2.box]
    refine iK_split (fun h5 => ?_) (fun h5 => ?_)
    · have hm : muchP (bodyP body) = true := by
        have h6 := of_decide_eq_true h5
        simp only [muchP, Bool.or_eq_true, decide_eq_true_eq]
        exact .inl (by omega)
      rw [hm]
      simp only [decide_true, decide_false, gwL, gwB, gwD, gwE, gwS, gwTT, gwZ, initG, Nat.reduceEqDiff, ↓reduceIte, Nat.reduceAdd, Nat.reduceLT, Nat.reduceLeDiff, List.map_cons, List.map_nil, builtS, builtinV, pureR, binV, sliceV, pickV, evO, Env.look, find, V.ofConst, resV, resOne, tupV, loadV, fillV, buildV, mkIface, litM, litS, litR, litRows, List.reverse_cons, List.reverse_nil, Nat.reduceMul, appS, memA, appendV, rowsOf, V.cells, TI.sized, TI.known, TI.agg, anL, List.length_cons, List.length_nil, List.append_nil, List.cons_append, List.nil_append, List.drop_succ_cons, List.drop_zero, List.drop_nil, List.take_succ_cons, List.take_zero, List.take_nil, List.getElem?_cons_zero, List.getElem?_cons_succ, List.all_cons, List.all_nil, List.replicate_succ, List.replicate_zero, List.set_cons_zero, List.set_cons_succ, eq_self, true_or, ne_eq, not_false_eq_true, Nat.reduceEqDiff, hc, hsl]
      refine frz_pre (fun j hj => ?_) (by rw [List.length_set]; omega) _ (.same _) (hnil 4) (compV_lt _ _)
      have := hspre [] (.box [.str [], .nils]) j hj
      rwa [List.append_nil] at this
    simp only [decide_true, decide_false, gwL, gwB, gwD, gwE, gwS, gwTT, gwZ, initG, Nat.reduceEqDiff, ↓reduceIte, Nat.reduceAdd, Nat.reduceLT, Nat.reduceLeDiff, List.map_cons, List.map_nil, builtS, builtinV, pureR, binV, sliceV, pickV, evO, Env.look, find, V.ofConst, resV, resOne, tupV, loadV, fillV, buildV, mkIface, litM, litS, litR, litRows, List.reverse_cons, List.reverse_nil, Nat.reduceMul, appS, memA, appendV, rowsOf, V.cells, TI.sized, TI.known, TI.agg, anL, List.length_cons, List.length_nil, List.append_nil, List.cons_append, List.nil_append, List.drop_succ_cons, List.drop_zero, List.drop_nil, List.take_succ_cons, List.take_zero, List.take_nil, List.getElem?_cons_zero, List.getElem?_cons_succ, List.all_cons, List.all_nil, List.replicate_succ, List.replicate_zero, List.set_cons_zero, List.set_cons_succ, eq_self, true_or, ne_eq, not_false_eq_true, Nat.reduceEqDiff, hU2.box]
    refine vfor (σ := Nat × St) [1, 2, 3, 5, 51, 52, 53] (fun x => [(1, true, .ref [.str nm, .lst 12 none (body.map encC)]), (2, true, .ptr st.length 0), (3, true, .int .i64 0), (5, true, .ptr (st.length + 3) 0), (51, true, .arr (st.length + 2) (bodyP body).length), (52, true, .int .i64 (bodyP body).length), (53, true, .int .i64 x.1)]) (fun x => x.2) (fun x => (bodyP body).length - x.1) (fun x => x.1 ≤ (bodyP body).length ∧ (∃ ex, x.2 = s2 ++ ex) ∧ ∀ (j : Nat) (q : Pr), j < x.1 → (bodyP body)[j]? = some q → q.code.length ≤ 6000) (0, s2) rfl TT_ok ⟨Nat.zero_le _, ⟨[], by simp⟩, fun j q h => absurd h (Nat.not_lt_zero _)⟩ rfl rfl ?_
    rintro ⟨i, S⟩ ⟨hi2, ⟨ex, hS⟩, hall⟩
    simp only at hi2 hS hall ⊢
    have hU3 : US S (st.length + 3) (st.length + 2) es2 (bodyP body) := by rw [hS]; exact hU2.app ex
    have hSl : s2.length ≤ S.length := by rw [hS, List.length_append]; omega
    have hSc : S[st.length]? = some (.box [.str [], .nils]) := by rw [hS, st_old (by omega), hc]
    rcases at_or_end (bodyP body) i hi2 with ⟨rfl, hd2⟩ | ⟨a, hlt, hget, hdr⟩
    · have hm : muchP (bodyP body) = false := by
        have h6 := of_decide_eq_false h5
        simp only [muchP, Bool.or_eq_false_iff, decide_eq_false_iff_not]
        refine ⟨by omega, ?_⟩
        rw [List.any_eq_false]
        intro q hq
        obtain ⟨j, hj⟩ := List.getElem?_of_mem hq
        have := hall j q (List.getElem?_eq_some_iff.1 hj).1 hj
        simp; omega
      rw [hm]
      simp only [decide_true, decide_false, gwL, gwB, gwD, gwE, gwS, gwTT, gwZ, initG, Nat.reduceEqDiff, ↓reduceIte, Nat.reduceAdd, Nat.reduceLT, Nat.reduceLeDiff, List.map_cons, List.map_nil, builtS, builtinV, pureR, binV, sliceV, pickV, evO, Env.look, find, V.ofConst, resV, resOne, tupV, loadV, fillV, buildV, mkIface, litM, litS, litR, litRows, List.reverse_cons, List.reverse_nil, Nat.reduceMul, appS, memA, appendV, rowsOf, V.cells, TI.sized, TI.known, TI.agg, anL, List.length_cons, List.length_nil, List.append_nil, List.cons_append, List.nil_append, List.drop_succ_cons, List.drop_zero, List.drop_nil, List.take_succ_cons, List.take_zero, List.take_nil, List.getElem?_cons_zero, List.getElem?_cons_succ, List.all_cons, List.all_nil, List.replicate_succ, List.replicate_zero, List.set_cons_zero, List.set_cons_succ, eq_self, true_or, ne_eq, not_false_eq_true, Nat.reduceEqDiff, lt_no]
      refine vdraw TT_ok TT_mixed [0, 1, 0, 0, 0, 1, 0, 2, 0] (by kernel_rfl) ?_
      have hSs : ∀ X, (S.set st.length X)[st.length]? = some X := fun X => List.getElem?_set_self (by omega)
      simp only [decide_true, decide_false, gwL, gwB, gwD, gwE, gwS, gwTT, gwZ, initG, Nat.reduceEqDiff, ↓reduceIte, Nat.reduceAdd, Nat.reduceLT, Nat.reduceLeDiff, List.map_cons, List.map_nil, builtS, builtinV, pureR, binV, sliceV, pickV, evO, Env.look, find, V.ofConst, resV, resOne, tupV, loadV, fillV, buildV, mkIface, litM, litS, litR, litRows, List.reverse_cons, List.reverse_nil, Nat.reduceMul, appS, memA, appendV, rowsOf, V.cells, TI.sized, TI.known, TI.agg, anL, List.length_cons, List.length_nil, List.append_nil, List.cons_append, List.nil_append, List.drop_succ_cons, List.drop_zero, List.drop_nil, List.take_succ_cons, List.take_zero, List.take_nil, List.getElem?_cons_zero, List.getElem?_cons_succ, List.all_cons, List.all_nil, List.replicate_succ, List.replicate_zero, List.set_cons_zero, List.set_cons_succ, eq_self, true_or, ne_eq, not_false_eq_true, Nat.reduceEqDiff, hU3.box, hSc, hSs]
      have hfr : ∀ (k o : Nat), es2[k]? = some (some o) → st.length + 4 ≤ o := fun k o hk => by
        rcases hFr.fresh k o hk with h7 | h7
        · exact absurd h7 (hes k o)
        · simpa using h7
      have hpl : ∀ X, (S.set st.length X)[st.length + 2]? = some (.arr 44 2 (prRows es2 (bodyP body))) := fun X => by rw [List.getElem?_set_ne (by omega), hU3.arr]
      have hth := thaw_rows (st' := S.set st.length (.box [.str nm, .arr (st.length + 2) (bodyP body).length])) (m := st.length) es2 (bodyP body) hU3.len (fun k o q h1 h2 => ⟨by have := hfr k o h1; omega, by have := hfr k o h1; rw [List.getElem?_set_ne (by omega)]; exact hU3.code k o q h1 h2⟩) hU3.nil
      obtain ⟨rows, hr1, hr2⟩ := hth
      refine frz_pre (fun j hj => ?_) (by rw [List.length_set]; omega) (.tup [.agg [.str nm, .lst 2 none rows], .int .i64 0]) ?_ ?_ (compV_lt _ _)
      · rw [hS]; exact hspre ex _ j hj
      · exact .tup (.cons (.agg (.cons (.same _) (.cons (.arr (by omega) (hpl _) (prRows_len hU3.len) hr1) .nil))) (ThawL.refl _))
      · exact wk_tup (wkL_cons (wk_agg (wkL_cons (wk_refl _) (wkL_cons (wk_lst hr2) wkL_nil))) (wkL_refl _))
    · obtain ⟨e, he⟩ : ∃ e, es2[i]? = some e := ⟨es2[i]'(by rw [hU3.len]; exact hlt), List.getElem?_eq_getElem _⟩
      have hg : (prRows es2 (bodyP body)).getD i [] = prRow e a := getD_at (prRows_get he hget)
      have hlv : builtinV TT .len [codeV e a.code.length] [42] = some (.int .i64 a.code.length, True) := by
        cases e with
        | none => rw [hU3.nil i a he hget]; rfl
        | some o => rfl
      simp only [decide_true, decide_false, gwL, gwB, gwD, gwE, gwS, gwTT, gwZ, initG, Nat.reduceEqDiff, ↓reduceIte, Nat.reduceAdd, Nat.reduceLT, Nat.reduceLeDiff, List.map_cons, List.map_nil, builtS, pureR, binV, sliceV, pickV, evO, Env.look, find, V.ofConst, resV, resOne, tupV, loadV, fillV, buildV, mkIface, litM, litS, litR, litRows, List.reverse_cons, List.reverse_nil, Nat.reduceMul, appS, memA, appendV, rowsOf, V.cells, TI.sized, TI.known, TI.agg, anL, List.length_cons, List.length_nil, List.append_nil, List.cons_append, List.nil_append, List.drop_succ_cons, List.drop_zero, List.drop_nil, List.take_succ_cons, List.take_zero, List.take_nil, List.getElem?_cons_zero, List.getElem?_cons_succ, List.all_cons, List.all_nil, List.replicate_succ, List.replicate_zero, List.set_cons_zero, List.set_cons_succ, eq_self, true_or, ne_eq, not_false_eq_true, Nat.reduceEqDiff, lt_yes hlt, Int.ofNat_lt.mpr hlt, hU3.arr, hg, prRow, prRows_len hU3.len, hlv]
      refine ⟨hlt, iK_split (fun h7 => ?_) (fun h7 => ?_)⟩
      · have hm : muchP (bodyP body) = true := by
          have h6 := of_decide_eq_true h7
          simp only [muchP, Bool.or_eq_true, List.any_eq_true]
          exact .inr ⟨a, List.mem_of_getElem? hget, decide_eq_true (by omega)⟩
        rw [hm]
        have hc9 : (S ++ [Ent.box [V.int .i64 a.args, codeV e a.code.length]])[st.length]? = some (.box [.str [], .nils]) := by rw [st_old (by omega), hSc]
        have hs9 : ∀ X, ((S ++ [Ent.box [V.int .i64 a.args, codeV e a.code.length]]).set st.length X)[st.length]? = some X := fun X => List.getElem?_set_self (by simp; omega)
        simp only [decide_true, decide_false, gwL, gwB, gwD, gwE, gwS, gwTT, gwZ, initG, Nat.reduceEqDiff, ↓reduceIte, Nat.reduceAdd, Nat.reduceLT, Nat.reduceLeDiff, List.map_cons, List.map_nil, builtS, builtinV, pureR, binV, sliceV, pickV, evO, Env.look, find, V.ofConst, resV, resOne, tupV, loadV, fillV, buildV, mkIface, litM, litS, litR, litRows, List.reverse_cons, List.reverse_nil, Nat.reduceMul, appS, memA, appendV, rowsOf, V.cells, TI.sized, TI.known, TI.agg, anL, List.length_cons, List.length_nil, List.append_nil, List.cons_append, List.nil_append, List.drop_succ_cons, List.drop_zero, List.drop_nil, List.take_succ_cons, List.take_zero, List.take_nil, List.getElem?_cons_zero, List.getElem?_cons_succ, List.all_cons, List.all_nil, List.replicate_succ, List.replicate_zero, List.set_cons_zero, List.set_cons_succ, eq_self, true_or, ne_eq, not_false_eq_true, Nat.reduceEqDiff, hc9, hs9]
        refine frz_pre (fun j hj => ?_) (by rw [List.length_set, List.length_append]; omega) _ (.same _) (hnil 4) (compV_lt _ _)
        rw [hS, List.append_assoc]
        exact hspre (ex ++ [Ent.box [V.int .i64 a.args, codeV e a.code.length]]) _ j hj
      · simp only [decide_true, decide_false, gwL, gwB, gwD, gwE, gwS, gwTT, gwZ, initG, Nat.reduceEqDiff, ↓reduceIte, Nat.reduceAdd, Nat.reduceLT, Nat.reduceLeDiff, List.map_cons, List.map_nil, builtS, builtinV, pureR, binV, sliceV, pickV, evO, Env.look, find, V.ofConst, resV, resOne, tupV, loadV, fillV, buildV, mkIface, litM, litS, litR, litRows, List.reverse_cons, List.reverse_nil, Nat.reduceMul, appS, memA, appendV, rowsOf, V.cells, TI.sized, TI.known, TI.agg, anL, List.length_cons, List.length_nil, List.append_nil, List.cons_append, List.nil_append, List.drop_succ_cons, List.drop_zero, List.drop_nil, List.take_succ_cons, List.take_zero, List.take_nil, List.getElem?_cons_zero, List.getElem?_cons_succ, List.all_cons, List.all_nil, List.replicate_succ, List.replicate_zero, List.set_cons_zero, List.set_cons_succ, eq_self, true_or, ne_eq, not_false_eq_true, Nat.reduceEqDiff]
        refine ⟨(i + 1, S ++ [Ent.box [V.int .i64 a.args, codeV e a.code.length]]), by simp only [next_i64 hlt (show (bodyP body).length ≤ 9223372036854775807 by omega)]; rfl, rfl, by simp only; omega, by simp only; omega, ⟨ex ++ [Ent.box [V.int .i64 a.args, codeV e a.code.length]], by simp only [hS, List.append_assoc]⟩, fun j q hj hq => ?_⟩
        simp only at hj
        rcases Nat.lt_or_ge j i with h8 | h8
        · exact hall j q h8 hq
        · have : j = i := by omega
          subst this
          rw [hget] at hq
          cases hq
          have := of_decide_eq_false h7
          omega
  · have hnt := nodesCs_take hget
    simp only [decide_true, decide_false, gwL, gwB, gwD, gwE, gwS, gwTT, gwZ, initG, Nat.reduceEqDiff, ↓reduceIte, Nat.reduceAdd, Nat.reduceLT, Nat.reduceLeDiff, List.map_cons, List.map_nil, builtS, builtinV, pureR, binV, sliceV, pickV, evO, Env.look, find, V.ofConst, resV, resOne, tupV, loadV, fillV, buildV, mkIface, litM, litS, litR, litRows, List.reverse_cons, List.reverse_nil, Nat.reduceMul, appS, memA, appendV, rowsOf, V.cells, TI.sized, TI.known, TI.agg, anL, List.length_cons, List.length_nil, List.append_nil, List.cons_append, List.nil_append, List.drop_succ_cons, List.drop_zero, List.drop_nil, List.take_succ_cons, List.take_zero, List.take_nil, List.getElem?_cons_zero, List.getElem?_cons_succ, List.all_cons, List.all_nil, List.replicate_succ, List.replicate_zero, List.set_cons_zero, List.set_cons_succ, eq_self, true_or, ne_eq, not_false_eq_true, Nat.reduceEqDiff, lt_yes hlt, List.length_map, getD_map hget, Int.ofNat_lt.mpr hlt]
    refine useQ (c_expr a (okCs_mem hok1 (List.mem_of_getElem? hget)) _ (st.length + 3) (st.length + 2) es1 _ 0 hU1 hp1 (by omega) (by omega)) (wkL_refl _) (by rintro v s' ⟨h, _⟩; cases h) ?_
    rintro X s2 hX ⟨hX', es2, hU2, hF2⟩
    cases hX'
    simp only [decide_true, decide_false, gwL, gwB, gwD, gwE, gwS, gwTT, gwZ, initG, Nat.reduceEqDiff, ↓reduceIte, Nat.reduceAdd, Nat.reduceLT, Nat.reduceLeDiff, List.map_cons, List.map_nil, builtS, builtinV, pureR, binV, sliceV, pickV, evO, Env.look, find, V.ofConst, resV, resOne, tupV, loadV, fillV, buildV, mkIface, litM, litS, litR, litRows, List.reverse_cons, List.reverse_nil, Nat.reduceMul, appS, memA, appendV, rowsOf, V.cells, TI.sized, TI.known, TI.agg, anL, List.length_cons, List.length_nil, List.append_nil, List.cons_append, List.nil_append, List.drop_succ_cons, List.drop_zero, List.drop_nil, List.take_succ_cons, List.take_zero, List.take_nil, List.getElem?_cons_zero, List.getElem?_cons_succ, List.all_cons, List.all_nil, List.replicate_succ, List.replicate_zero, List.set_cons_zero, List.set_cons_succ, eq_self, true_or, ne_eq, not_false_eq_true, Nat.reduceEqDiff]
    have hp2 := Nat.lt_of_lt_of_le hp1 (exprP_len a 0 _)
    have ht2 := exprP_tot a 0 (formsP (body.take i) [⟨0, []⟩])
    refine useQ (c_emitP _ (st.length + 3) (st.length + 2) es2 _ hU2 0 hp2 { op := 14 } (Nat.le_trans (hereP_tot _ _) (by omega))) (wk_emit (wk_ins ..)) (by rintro v s' ⟨h, _⟩; cases h) ?_
    rintro X s4 hX ⟨hX', es4, hU4, hF4⟩
    cases hX'
    simp only [decide_true, decide_false, gwL, gwB, gwD, gwE, gwS, gwTT, gwZ, initG, Nat.reduceEqDiff, ↓reduceIte, Nat.reduceAdd, Nat.reduceLT, Nat.reduceLeDiff, List.map_cons, List.map_nil, builtS, builtinV, pureR, binV, sliceV, pickV, evO, Env.look, find, V.ofConst, resV, resOne, tupV, loadV, fillV, buildV, mkIface, litM, litS, litR, litRows, List.reverse_cons, List.reverse_nil, Nat.reduceMul, appS, memA, appendV, rowsOf, V.cells, TI.sized, TI.known, TI.agg, anL, List.length_cons, List.length_nil, List.append_nil, List.cons_append, List.nil_append, List.drop_succ_cons, List.drop_zero, List.drop_nil, List.take_succ_cons, List.take_zero, List.take_nil, List.getElem?_cons_zero, List.getElem?_cons_succ, List.all_cons, List.all_nil, List.replicate_succ, List.replicate_zero, List.set_cons_zero, List.set_cons_succ, eq_self, true_or, ne_eq, not_false_eq_true, Nat.reduceEqDiff]
    refine ⟨(i + 1, s4, es4), by simp only [next_i64 hlt (show body.length ≤ 9223372036854775807 by omega)]; rfl, rfl, by simp only; omega, by simp only; omega, ?_, (hF1.trans hF2).trans hF4⟩
    simp only
    rw [take_next hget, formsP_snoc]
    exact hU4

theorem c_Compile (p : Part) (st : St) : VCalls Try.prog TT 7 [.agg (encP p)] st fun r s => r = .ret (compV (compileC p)) ∧ s = st :=
  (c_Compile0 p st).freeze fun _ _ h => h
end Go.Proofs.Ytpfdoffnpkokhaa.Gx

namespace Go.Proofs.Ytpfdoffnpkokhaa.Gx
open Go Go.Proofs.Ytpfdoffnpkokhaa.Gw
set_option linter.unusedSimpArgs false
set_option linter.unusedVariables false

def alivePart : Part := ⟨[109], [.mk 1 0 7 [] [] (.mk 0 0 [] 0 0 []) []]⟩
theorem alive_is : compileC alivePart = (⟨[109], [⟨0, [{ op := 1, n := 7 }, { op := 14 }, { op := 15 }]⟩]⟩, 0) := by
  rfl
set_option maxHeartbeats 2000000 in
theorem c_alive (st : St) : VCalls Try.prog TT 10 [] st fun r st' => r = .ret (.bool true) ∧ st' = st := by
  refine vfun TT_ok (an := anL []) (L := [0, 1, 2]) (rs := [.tmp 0]) Try.func10 rfl (by kernel_rfl) rfl Try.ntmps10 rfl rfl (Nat.le_refl _) fun hst ha hf => ?_
  simp only [decide_true, decide_false, gwL, gwB, gwD, gwE, gwS, gwTT, gwZ, initG, Nat.reduceEqDiff, ↓reduceIte, Nat.reduceAdd, Nat.reduceLT, Nat.reduceLeDiff, List.map_cons, List.map_nil, builtS, builtinV, pureR, binV, sliceV, pickV, evO, Env.look, find, V.ofConst, resV, resOne, tupV, loadV, fillV, buildV, mkIface, litM, litS, litR, litRows, List.reverse_cons, List.reverse_nil, Nat.reduceMul, appS, memA, appendV, rowsOf, V.cells, TI.sized, TI.known, TI.agg, anL, List.length_cons, List.length_nil, List.append_nil, List.cons_append, List.nil_append, List.drop_succ_cons, List.drop_zero, List.drop_nil, List.take_succ_cons, List.take_zero, List.take_nil, List.getElem?_cons_zero, List.getElem?_cons_succ, List.all_cons, List.all_nil, List.replicate_succ, List.replicate_zero, List.set_cons_zero, List.set_cons_succ, eq_self, true_or, ne_eq, not_false_eq_true, Nat.reduceEqDiff]
  have hw : wkL [V.agg [.str [109], .lst 12 none [[.int .i64 1, .int .i64 0, .int .i64 7, .str [], .str [], .int .i64 0, .int .i64 0, .str [], .int .i64 0, .int .i64 0, .nils, .nils]]]] [.agg (encP alivePart)] := by
    refine wkL_cons (wk_agg (wkL_cons (wk_refl _) (wkL_cons (wk_lst ?_) wkL_nil))) wkL_nil
    simp only [alivePart, List.map_cons, List.map_nil, encC_mk, encD_mk, List.cons_append, List.nil_append, wkRp]
    exact ⟨_, _, rfl, wkL_cons (wk_refl _) (wkL_cons (wk_refl _) (wkL_cons (wk_refl _) (wkL_cons (wk_refl _) (wkL_cons (wk_refl _) (wkL_cons (wk_refl _) (wkL_cons (wk_refl _) (wkL_cons (wk_refl _) (wkL_cons (wk_refl _) (wkL_cons (wk_refl _) (wkL_cons (wk_nils _) (wkL_cons (wk_nils _) wkL_nil))))))))))), rfl⟩
  refine (c_Compile alivePart _).use hw fun _ => ?_
  rw [alive_is]
  have g0 : ∀ (x : List V) (l : List (List V)), (x :: l).getD (Int.toNat 0) [] = x := fun _ _ => rfl
  simp only [decide_true, decide_false, gwL, gwB, gwD, gwE, gwS, gwTT, gwZ, initG, Nat.reduceEqDiff, ↓reduceIte, Nat.reduceAdd, Nat.reduceLT, Nat.reduceLeDiff, List.map_cons, List.map_nil, builtS, builtinV, pureR, binV, sliceV, pickV, evO, Env.look, find, V.ofConst, resV, resOne, tupV, loadV, fillV, buildV, mkIface, litM, litS, litR, litRows, List.reverse_cons, List.reverse_nil, Nat.reduceMul, appS, memA, appendV, rowsOf, V.cells, TI.sized, TI.known, TI.agg, anL, List.length_cons, List.length_nil, List.append_nil, List.cons_append, List.nil_append, List.drop_succ_cons, List.drop_zero, List.drop_nil, List.take_succ_cons, List.take_zero, List.take_nil, List.getElem?_cons_zero, List.getElem?_cons_succ, List.all_cons, List.all_nil, List.replicate_succ, List.replicate_zero, List.set_cons_zero, List.set_cons_succ, eq_self, true_or, ne_eq, not_false_eq_true, Nat.reduceEqDiff, compV, encU, lstPr, encPr, lstI, encI, g0, Int.reduceEq, Int.reduceLT, Int.reduceLE]
  exact ⟨fun _ => by decide, fun _ => by decide, fun _ => by decide, gives_bool' (by decide) hst⟩

mutual
def lamC : Core → Nat
  | .mk k _ _ _ _ _ kids => (bif decide (k = 8) then 1 else 0) + lamCs kids
def lamCs : List Core → Nat
  | [] => 0
  | c :: r => lamC c + lamCs r
end
mutual
theorem lamC_nodes : ∀ c : Core, lamC c ≤ nodesC c
  | .mk k _ _ _ _ _ kids => by rw [lamC, nodesC]; have := lamCs_nodes kids; cases decide (k = 8) <;> simp <;> omega
theorem lamCs_nodes : ∀ l : List Core, lamCs l ≤ nodesCs l
  | [] => by simp [lamCs, nodesCs]
  | c :: r => by rw [lamCs, nodesCs]; have := lamC_nodes c; have := lamCs_nodes r; omega
end
theorem lamCs_snoc : ∀ (l : List Core) (c : Core), lamCs (l ++ [c]) = lamCs l + lamC c
  | [], c => by simp [lamCs]
  | d :: l, c => by simp only [List.cons_append, lamCs, lamCs_snoc l c]; omega
theorem nodesCs_snoc (l : List Core) (c : Core) : nodesCs (l ++ [c]) = nodesCs l + nodesC c := by rw [nodesCs_app]; simp [nodesCs]
def kidsOf : Core → List Core
  | .mk _ _ _ _ _ _ kids => kids
theorem fit_of_nodes {l : List Core} (h : nodesCs l ≤ 1000000000) : l.length ≤ 1000000000 := Nat.le_trans (nodesCs_len l) h

set_option maxHeartbeats 2000000 in
theorem c_lambdas_of (l : List Core) (ih : ∀ d ∈ l, ∀ st : St, nodesCs (kidsOf d) ≤ 1000000000 → VCalls Try.prog TT 12 [lstC (kidsOf d)] st fun r st' => r = .ret (.int .i64 (lamCs (kidsOf d))) ∧ st' = st) (st : St) (hn : nodesCs l ≤ 1000000000) :
    VCalls Try.prog TT 12 [lstC l] st fun r st' => r = .ret (.int .i64 (lamCs l)) ∧ st' = st := by
  refine vfun TT_ok (an := anL []) (L := [0, 2, 3, 5, 6, 7, 8]) (rs := [.tmp 2]) Try.func12 rfl (by kernel_rfl) rfl Try.ntmps12 rfl rfl (Nat.le_refl _) fun hst ha hf => ?_
  have hkl := fit_of_nodes hn
  simp only [lstC]
  simp only [decide_true, decide_false, gwL, gwB, gwD, gwE, gwS, gwTT, gwZ, initG, Nat.reduceEqDiff, ↓reduceIte, Nat.reduceAdd, Nat.reduceLT, Nat.reduceLeDiff, List.map_cons, List.map_nil, builtS, builtinV, pureR, binV, sliceV, pickV, evO, Env.look, find, V.ofConst, resV, resOne, tupV, loadV, fillV, buildV, mkIface, litM, litS, litR, litRows, List.reverse_cons, List.reverse_nil, Nat.reduceMul, appS, memA, appendV, rowsOf, V.cells, TI.sized, TI.known, TI.agg, anL, List.length_cons, List.length_nil, List.append_nil, List.cons_append, List.nil_append, List.drop_succ_cons, List.drop_zero, List.drop_nil, List.take_succ_cons, List.take_zero, List.take_nil, List.getElem?_cons_zero, List.getElem?_cons_succ, List.all_cons, List.all_nil, List.replicate_succ, List.replicate_zero, List.set_cons_zero, List.set_cons_succ, eq_self, true_or, ne_eq, not_false_eq_true, Nat.reduceEqDiff, List.length_map]
  refine vforD (σ := Nat) [3, 6, 7, 8] (fun i => [(3, true, .int .i64 (lamCs (l.take i))), (6, true, lstC l), (7, true, .int .i64 l.length), (8, true, .int .i64 i)]) (fun i => st) (fun i => l.length - i) (fun i => i ≤ l.length) 0 rfl TT_ok (Nat.zero_le _) (wkE_refl _) rfl ?_
  rintro i hi
  simp only [lstC]
  rcases at_or_end l i hi with ⟨rfl, hd⟩ | ⟨a, hlt, hget, hdr⟩
  · rw [List.take_length]
    simp only [decide_true, decide_false, gwL, gwB, gwD, gwE, gwS, gwTT, gwZ, initG, Nat.reduceEqDiff, ↓reduceIte, Nat.reduceAdd, Nat.reduceLT, Nat.reduceLeDiff, List.map_cons, List.map_nil, builtS, builtinV, pureR, binV, sliceV, pickV, evO, Env.look, find, V.ofConst, resV, resOne, tupV, loadV, fillV, buildV, mkIface, litM, litS, litR, litRows, List.reverse_cons, List.reverse_nil, Nat.reduceMul, appS, memA, appendV, rowsOf, V.cells, TI.sized, TI.known, TI.agg, anL, List.length_cons, List.length_nil, List.append_nil, List.cons_append, List.nil_append, List.drop_succ_cons, List.drop_zero, List.drop_nil, List.take_succ_cons, List.take_zero, List.take_nil, List.getElem?_cons_zero, List.getElem?_cons_succ, List.all_cons, List.all_nil, List.replicate_succ, List.replicate_zero, List.set_cons_zero, List.set_cons_succ, eq_self, true_or, ne_eq, not_false_eq_true, Nat.reduceEqDiff, lt_no]
    exact gives_int rfl hst
  · have hnt := nodesCs_take hget
    have hl1 := lamCs_nodes (l.take i)
    have hih := ih a (List.mem_of_getElem? hget)
    have hsn : lamCs (l.take (i + 1)) = lamCs (l.take i) + lamC a := by rw [take_next hget, lamCs_snoc]
    have hla := lamC_nodes a
    simp only [decide_true, decide_false, gwL, gwB, gwD, gwE, gwS, gwTT, gwZ, initG, Nat.reduceEqDiff, ↓reduceIte, Nat.reduceAdd, Nat.reduceLT, Nat.reduceLeDiff, List.map_cons, List.map_nil, builtS, builtinV, pureR, binV, sliceV, pickV, evO, Env.look, find, V.ofConst, resV, resOne, tupV, loadV, fillV, buildV, mkIface, litM, litS, litR, litRows, List.reverse_cons, List.reverse_nil, Nat.reduceMul, appS, memA, appendV, rowsOf, V.cells, TI.sized, TI.known, TI.agg, anL, List.length_cons, List.length_nil, List.append_nil, List.cons_append, List.nil_append, List.drop_succ_cons, List.drop_zero, List.drop_nil, List.take_succ_cons, List.take_zero, List.take_nil, List.getElem?_cons_zero, List.getElem?_cons_succ, List.all_cons, List.all_nil, List.replicate_succ, List.replicate_zero, List.set_cons_zero, List.set_cons_succ, eq_self, true_or, ne_eq, not_false_eq_true, Nat.reduceEqDiff, lt_yes hlt, List.length_map, getD_map hget, Int.ofNat_lt.mpr hlt, encC_take, encC_len, encC_drop]
    obtain ⟨k, ix, n, lb, ow, q, kids⟩ := a
    simp only [kidsOf] at hih
    rw [nodesC] at hnt
    rw [lamC] at hsn hla
    rw [nodesC] at hla
    simp only [encC_mk]
    have hb : ∀ m : Nat, m ≤ 2000000000 → IntKind.i64.wrap (m : Int) = m := fun m hm => wrap_i64 (by omega) (by omega)
    simp only [decide_true, decide_false, gwL, gwB, gwD, gwE, gwS, gwTT, gwZ, initG, Nat.reduceEqDiff, ↓reduceIte, Nat.reduceAdd, Nat.reduceLT, Nat.reduceLeDiff, List.map_cons, List.map_nil, builtS, builtinV, pureR, binV, sliceV, pickV, evO, Env.look, find, V.ofConst, resV, resOne, tupV, loadV, fillV, buildV, mkIface, litM, litS, litR, litRows, List.reverse_cons, List.reverse_nil, Nat.reduceMul, appS, memA, appendV, rowsOf, V.cells, TI.sized, TI.known, TI.agg, anL, List.length_cons, List.length_nil, List.append_nil, List.cons_append, List.nil_append, List.drop_succ_cons, List.drop_zero, List.drop_nil, List.take_succ_cons, List.take_zero, List.take_nil, List.getElem?_cons_zero, List.getElem?_cons_succ, List.all_cons, List.all_nil, List.replicate_succ, List.replicate_zero, List.set_cons_zero, List.set_cons_succ, eq_self, true_or, ne_eq, not_false_eq_true, Nat.reduceEqDiff]
    refine iK_split (fun h8 => ?_) (fun h8 => ?_)
    · rw [h8] at hsn hla
      simp only [decide_true, decide_false, gwL, gwB, gwD, gwE, gwS, gwTT, gwZ, initG, Nat.reduceEqDiff, ↓reduceIte, Nat.reduceAdd, Nat.reduceLT, Nat.reduceLeDiff, List.map_cons, List.map_nil, builtS, builtinV, pureR, binV, sliceV, pickV, evO, Env.look, find, V.ofConst, resV, resOne, tupV, loadV, fillV, buildV, mkIface, litM, litS, litR, litRows, List.reverse_cons, List.reverse_nil, Nat.reduceMul, appS, memA, appendV, rowsOf, V.cells, TI.sized, TI.known, TI.agg, anL, List.length_cons, List.length_nil, List.append_nil, List.cons_append, List.nil_append, List.drop_succ_cons, List.drop_zero, List.drop_nil, List.take_succ_cons, List.take_zero, List.take_nil, List.getElem?_cons_zero, List.getElem?_cons_succ, List.all_cons, List.all_nil, List.replicate_succ, List.replicate_zero, List.set_cons_zero, List.set_cons_succ, eq_self, true_or, ne_eq, not_false_eq_true, Nat.reduceEqDiff, wrap_i64 (show -9223372036854775808 ≤ ((lamCs (l.take i) : Nat) : Int) + 1 by omega) (show ((lamCs (l.take i) : Nat) : Int) + 1 ≤ 9223372036854775807 by omega), encD_drop_app]
      refine (hih _ (by omega)).use (wkL_refl _) fun _ => ?_
      simp only [decide_true, decide_false, gwL, gwB, gwD, gwE, gwS, gwTT, gwZ, initG, Nat.reduceEqDiff, ↓reduceIte, Nat.reduceAdd, Nat.reduceLT, Nat.reduceLeDiff, List.map_cons, List.map_nil, builtS, builtinV, pureR, binV, sliceV, pickV, evO, Env.look, find, V.ofConst, resV, resOne, tupV, loadV, fillV, buildV, mkIface, litM, litS, litR, litRows, List.reverse_cons, List.reverse_nil, Nat.reduceMul, appS, memA, appendV, rowsOf, V.cells, TI.sized, TI.known, TI.agg, anL, List.length_cons, List.length_nil, List.append_nil, List.cons_append, List.nil_append, List.drop_succ_cons, List.drop_zero, List.drop_nil, List.take_succ_cons, List.take_zero, List.take_nil, List.getElem?_cons_zero, List.getElem?_cons_succ, List.all_cons, List.all_nil, List.replicate_succ, List.replicate_zero, List.set_cons_zero, List.set_cons_succ, eq_self, true_or, ne_eq, not_false_eq_true, Nat.reduceEqDiff]
      have e : IntKind.i64.wrap (((lamCs (l.take i) : Nat) : Int) + 1 + lamCs kids) = ((lamCs (l.take (i + 1)) : Nat) : Int) := by
        rw [hsn, wrap_i64 (by omega) (by simp at hla; omega)]; simp; omega
      refine ⟨i + 1, ⟨?_, st, _, rfl, wkSt_refl _, ?_, hst, Nat.le_refl _⟩, by omega, hlt⟩
      · simp only [decide_true, decide_false, gwL, gwB, gwD, gwE, gwS, gwTT, gwZ, initG, Nat.reduceEqDiff, ↓reduceIte, Nat.reduceAdd, Nat.reduceLT, Nat.reduceLeDiff, List.map_cons, List.map_nil, builtS, builtinV, pureR, binV, sliceV, pickV, evO, Env.look, find, V.ofConst, resV, resOne, tupV, loadV, fillV, buildV, mkIface, litM, litS, litR, litRows, List.reverse_cons, List.reverse_nil, Nat.reduceMul, appS, memA, appendV, rowsOf, V.cells, TI.sized, TI.known, TI.agg, anL, List.length_cons, List.length_nil, List.append_nil, List.cons_append, List.nil_append, List.drop_succ_cons, List.drop_zero, List.drop_nil, List.take_succ_cons, List.take_zero, List.take_nil, List.getElem?_cons_zero, List.getElem?_cons_succ, List.all_cons, List.all_nil, List.replicate_succ, List.replicate_zero, List.set_cons_zero, List.set_cons_succ, eq_self, true_or, ne_eq, not_false_eq_true, Nat.reduceEqDiff, Env.keep, next_i64 hlt (show l.length ≤ 9223372036854775807 by omega), e]
        exact wkE_refl _
      · simp only [ltE, V.lt]
        exact ⟨trivial, lstC_lt _ _, trivial, trivial, trivial⟩
    · rw [h8] at hsn hla
      simp only [decide_true, decide_false, gwL, gwB, gwD, gwE, gwS, gwTT, gwZ, initG, Nat.reduceEqDiff, ↓reduceIte, Nat.reduceAdd, Nat.reduceLT, Nat.reduceLeDiff, List.map_cons, List.map_nil, builtS, builtinV, pureR, binV, sliceV, pickV, evO, Env.look, find, V.ofConst, resV, resOne, tupV, loadV, fillV, buildV, mkIface, litM, litS, litR, litRows, List.reverse_cons, List.reverse_nil, Nat.reduceMul, appS, memA, appendV, rowsOf, V.cells, TI.sized, TI.known, TI.agg, anL, List.length_cons, List.length_nil, List.append_nil, List.cons_append, List.nil_append, List.drop_succ_cons, List.drop_zero, List.drop_nil, List.take_succ_cons, List.take_zero, List.take_nil, List.getElem?_cons_zero, List.getElem?_cons_succ, List.all_cons, List.all_nil, List.replicate_succ, List.replicate_zero, List.set_cons_zero, List.set_cons_succ, eq_self, true_or, ne_eq, not_false_eq_true, Nat.reduceEqDiff, encD_drop_app]
      refine (hih _ (by omega)).use (wkL_refl _) fun _ => ?_
      simp only [decide_true, decide_false, gwL, gwB, gwD, gwE, gwS, gwTT, gwZ, initG, Nat.reduceEqDiff, ↓reduceIte, Nat.reduceAdd, Nat.reduceLT, Nat.reduceLeDiff, List.map_cons, List.map_nil, builtS, builtinV, pureR, binV, sliceV, pickV, evO, Env.look, find, V.ofConst, resV, resOne, tupV, loadV, fillV, buildV, mkIface, litM, litS, litR, litRows, List.reverse_cons, List.reverse_nil, Nat.reduceMul, appS, memA, appendV, rowsOf, V.cells, TI.sized, TI.known, TI.agg, anL, List.length_cons, List.length_nil, List.append_nil, List.cons_append, List.nil_append, List.drop_succ_cons, List.drop_zero, List.drop_nil, List.take_succ_cons, List.take_zero, List.take_nil, List.getElem?_cons_zero, List.getElem?_cons_succ, List.all_cons, List.all_nil, List.replicate_succ, List.replicate_zero, List.set_cons_zero, List.set_cons_succ, eq_self, true_or, ne_eq, not_false_eq_true, Nat.reduceEqDiff]
      have e : IntKind.i64.wrap (((lamCs (l.take i) : Nat) : Int) + lamCs kids) = ((lamCs (l.take (i + 1)) : Nat) : Int) := by
        rw [hsn, wrap_i64 (by omega) (by simp at hla; omega)]; simp
      refine ⟨i + 1, ⟨?_, st, _, rfl, wkSt_refl _, ?_, hst, Nat.le_refl _⟩, by omega, hlt⟩
      · simp only [decide_true, decide_false, gwL, gwB, gwD, gwE, gwS, gwTT, gwZ, initG, Nat.reduceEqDiff, ↓reduceIte, Nat.reduceAdd, Nat.reduceLT, Nat.reduceLeDiff, List.map_cons, List.map_nil, builtS, builtinV, pureR, binV, sliceV, pickV, evO, Env.look, find, V.ofConst, resV, resOne, tupV, loadV, fillV, buildV, mkIface, litM, litS, litR, litRows, List.reverse_cons, List.reverse_nil, Nat.reduceMul, appS, memA, appendV, rowsOf, V.cells, TI.sized, TI.known, TI.agg, anL, List.length_cons, List.length_nil, List.append_nil, List.cons_append, List.nil_append, List.drop_succ_cons, List.drop_zero, List.drop_nil, List.take_succ_cons, List.take_zero, List.take_nil, List.getElem?_cons_zero, List.getElem?_cons_succ, List.all_cons, List.all_nil, List.replicate_succ, List.replicate_zero, List.set_cons_zero, List.set_cons_succ, eq_self, true_or, ne_eq, not_false_eq_true, Nat.reduceEqDiff, Env.keep, next_i64 hlt (show l.length ≤ 9223372036854775807 by omega), e]
        exact wkE_refl _
      · simp only [ltE, V.lt]
        exact ⟨trivial, lstC_lt _ _, trivial, trivial, trivial⟩
theorem c_lambdas (l : List Core) (st : St) (hn : nodesCs l ≤ 1000000000) : VCalls Try.prog TT 12 [lstC l] st fun r st' => r = .ret (.int .i64 (lamCs l)) ∧ st' = st := by
  have key : ∀ c : Core, ∀ st : St, nodesCs (kidsOf c) ≤ 1000000000 → VCalls Try.prog TT 12 [lstC (kidsOf c)] st fun r st' => r = .ret (.int .i64 (lamCs (kidsOf c))) ∧ st' = st := by
    intro c
    refine Core.ind (p := fun c => ∀ st : St, nodesCs (kidsOf c) ≤ 1000000000 → VCalls Try.prog TT 12 [lstC (kidsOf c)] st fun r st' => r = .ret (.int .i64 (lamCs (kidsOf c))) ∧ st' = st) ?_ c
    intro k ix n lb ow q kids ih st hn
    exact c_lambdas_of kids ih st hn
  exact c_lambdas_of l (fun d _ => key d) st hn
end Go.Proofs.Ytpfdoffnpkokhaa.Gx

namespace Go.Proofs.Ytpfdoffnpkokhaa.Gx
open Go Go.Proofs.Ytpfdoffnpkokhaa.Gw
set_option linter.unusedSimpArgs false

mutual
def lamA : Core → List Int
  | .mk k ix _ _ _ _ kids => (bif decide (k = 8) then [ix] else []) ++ lamAs kids
def lamAs : List Core → List Int
  | [] => []
  | c :: r => lamA c ++ lamAs r
end
mutual
theorem lamA_len : ∀ c : Core, (lamA c).length = lamC c
  | .mk k _ _ _ _ _ kids => by rw [lamA, lamC, List.length_append, lamAs_len kids]; cases decide (k = 8) <;> rfl
theorem lamAs_len : ∀ l : List Core, (lamAs l).length = lamCs l
  | [] => rfl
  | c :: r => by rw [lamAs, lamCs, List.length_append, lamA_len c, lamAs_len r]
end
theorem lamAs_snoc : ∀ (l : List Core) (c : Core), lamAs (l ++ [c]) = lamAs l ++ lamA c
  | [], c => by simp [lamAs]
  | d :: l, c => by simp only [List.cons_append, lamAs, lamAs_snoc l c, List.append_assoc]
def argsOf (ps : List Pr) : List Int := ps.map fun p => p.args
theorem push_args (p : Nat) (i : Ins) (ps : List Pr) : argsOf (pushP p i ps) = argsOf ps := by
  unfold argsOf pushP
  apply List.ext_getElem?; intro j
  rw [List.getElem?_map, List.getElem?_modify, List.getElem?_map]
  by_cases e : p = j
  · subst e; cases ps[p]? <;> simp
  · simp [e]
theorem patch_args (p n : Nat) (a : Int) (ps : List Pr) : argsOf (patchP p n a ps) = argsOf ps := by
  unfold argsOf patchP
  apply List.ext_getElem?; intro j
  rw [List.getElem?_map, List.getElem?_modify, List.getElem?_map]
  by_cases e : p = j
  · subst e; cases ps[p]? <;> simp
  · simp [e]
theorem kindsI {k : Int} (hk : kindB k = true) {ix n : Int} {lb ow : Str} {q : Datum} {kids : List Core} (hl : lenB k kids.length = true) :
    (k ≠ 8 ∧ kids = [] ∧ ∃ i, oneI (.mk k ix n lb ow q kids) = some i) ∨ (k = 7 ∧ ∃ x y z, kids = [x, y, z]) ∨ (k = 8 ∧ ∃ x, kids = [x]) ∨ (k = 9) ∨ ((k = 10 ∨ k = 11 ∨ k = 13) ∧ ∃ x, kids = [x]) ∨ k = 12 := by
  have nil : ∀ (_ : k ≤ 6), kids = [] := fun h => by
    have e : decide (k ≤ 6) = true := decide_eq_true h
    rw [lenB, e] at hl
    simpa using hl
  rcases kind_cases hk with rfl | rfl | rfl | rfl | rfl | rfl | rfl | rfl | rfl | rfl | rfl | rfl | rfl
  · exact .inl ⟨by decide, nil (by decide), _, rfl⟩
  · exact .inl ⟨by decide, nil (by decide), _, rfl⟩
  · exact .inl ⟨by decide, nil (by decide), _, rfl⟩
  · exact .inl ⟨by decide, nil (by decide), _, rfl⟩
  · exact .inl ⟨by decide, nil (by decide), _, rfl⟩
  · exact .inl ⟨by decide, nil (by decide), _, rfl⟩
  · exact .inr (.inl ⟨rfl, kids3 hl⟩)
  · exact .inr (.inr (.inl ⟨rfl, kids1 hl (by simp)⟩))
  · exact .inr (.inr (.inr (.inl rfl)))
  · exact .inr (.inr (.inr (.inr (.inl ⟨by simp, kids1 hl (by simp)⟩))))
  · exact .inr (.inr (.inr (.inr (.inl ⟨by simp, kids1 hl (by simp)⟩))))
  · exact .inr (.inr (.inr (.inr (.inr rfl))))
  · exact .inr (.inr (.inr (.inr (.inl ⟨by simp, kids1 hl (by simp)⟩))))

def PArg (c : Core) : Prop := okC c → ∀ (p : Nat) (ps : List Pr), argsOf (exprP c p ps) = argsOf ps ++ lamA c
theorem seq_args : ∀ (l : List Core) (_ : ∀ d ∈ l, PArg d) (_ : okCs l) (p : Nat) (ps : List Pr), argsOf (seqP l p ps) = argsOf ps ++ lamAs l
  | [], _, _, p, ps => by simp [seqP, lamAs]
  | c :: r, h, ho, p, ps => by
    rw [okCs] at ho
    rw [seqP, seq_args r (fun d hd => h d (by simp [hd])) ho.2, h c (by simp) ho.1, lamAs, List.append_assoc]
theorem pops_args : ∀ (l : List Core) (_ : ∀ d ∈ l, PArg d) (_ : okCs l) (f : Bool) (p : Nat) (ps : List Pr), argsOf (popsP l f p ps) = argsOf ps ++ lamAs l
  | [], _, _, f, p, ps => by simp [popsP, lamAs]
  | c :: r, h, ho, f, p, ps => by
    rw [okCs] at ho
    rw [popsP, pops_args r (fun d hd => h d (by simp [hd])) ho.2, h c (by simp) ho.1, lamAs, List.append_assoc]
    cases f <;> simp only [cond_true, cond_false, push_args]
theorem expr_args (c : Core) : PArg c := by
  refine Core.ind (p := PArg) ?_ c
  intro k ix n lb ow q kids ih hok p ps
  rw [okC] at hok
  obtain ⟨hk, hl, _, hks⟩ := hok
  rcases kindsI (ix := ix) (n := n) (lb := lb) (ow := ow) (q := q) hk hl with ⟨h8, rfl, i, hi⟩ | ⟨rfl, x, y, z, rfl⟩ | ⟨rfl, x, rfl⟩ | rfl | ⟨hk3, x, rfl⟩ | rfl
  · rw [exprP, hi]
    simp only
    rw [push_args, lamA, decide_eq_false h8]
    simp [lamAs]
  · simp only [okCs] at hks
    rw [exprP_if, ifP, thenP, elseP, patch_args, ih z (by simp) hks.2.2.1, patch_args, push_args, ih y (by simp) hks.2.1, push_args, ih x (by simp) hks.1, lamA]
    simp [lamAs]
  · simp only [okCs] at hks
    rw [exprP_lambda, seqP, seqP, push_args, ih x (by simp) hks.1, push_args, lamA]
    simp [lamAs, argsOf]
  · rw [exprP_call, push_args, seq_args kids ih hks, lamA]; simp
  · simp only [okCs] at hks
    rw [exprP_set _ _ _ _ _ _ _ _ _ hk3, push_args, seqP, seqP, ih x (by simp) hks.1, lamA]
    have h8 : decide (k = 8) = false := decide_eq_false (by omega)
    rw [h8]
    simp [lamAs]
  · rw [exprP_seq, pops_args kids ih hks, lamA]; simp
theorem forms_args : ∀ (l : List Core) (_ : okCs l) (ps : List Pr), argsOf (formsP l ps) = argsOf ps ++ lamAs l
  | [], _, ps => by simp [formsP, lamAs]
  | c :: r, ho, ps => by
    rw [okCs] at ho
    rw [formsP, forms_args r ho.2, push_args, expr_args c ho.1, lamAs, List.append_assoc]
theorem body_args {l : List Core} (h : okCs l) : argsOf (bodyP l) = 0 :: lamAs l := by
  rw [bodyP, push_args, forms_args l h]; rfl
theorem body_len {l : List Core} (h : okCs l) : (bodyP l).length = lamCs l + 1 := by
  have := congrArg List.length (body_args h)
  rw [argsOf, List.length_map, List.length_cons, lamAs_len] at this
  exact this
theorem body_arg {l : List Core} (h : okCs l) {i : Nat} {a : Int} (hi : (lamAs l)[i]? = some a) : ∃ q, (bodyP l)[i + 1]? = some q ∧ q.args = a := by
  have := congrArg (fun m : List Int => m[i + 1]?) (body_args h)
  simp only [argsOf, List.getElem?_map, List.getElem?_cons_succ, hi] at this
  cases hq : (bodyP l)[i + 1]? with
  | none => rw [hq] at this; simp at this
  | some q => rw [hq] at this; exact ⟨q, rfl, by simpa using this⟩
theorem body_tot (l : List Core) : tot (bodyP l) ≤ 3 * nodesCs l + (bodyP l).length ∧ 0 < (bodyP l).length := by
  have h1 := pushP_tot (formsP l [⟨0, []⟩]) 0 { op := 15 }
  have h2 := formsP_tot l [⟨0, []⟩]
  have h3 := formsP_len l [⟨0, []⟩]
  simp only [tot, List.length_nil, List.length_cons] at h2 h3
  have h4 : (bodyP l).length = (formsP l [⟨0, []⟩]).length := by rw [bodyP, pushP_len]
  rw [bodyP] at *
  omega
end Go.Proofs.Ytpfdoffnpkokhaa.Gx

namespace Go.Proofs.Ytpfdoffnpkokhaa.Gx
open Go Go.Proofs.Ytpfdoffnpkokhaa.Gw
set_option linter.unusedSimpArgs false
set_option linter.unusedVariables false

def Kw (X : Nat → Prop) (s s' : St) : Prop := s.length ≤ s'.length ∧ ∀ j : Nat, j < s.length → ¬ X j → s'[j]? = s[j]?
theorem Kw.refl (X : Nat → Prop) (s : St) : Kw X s s := ⟨Nat.le_refl _, fun _ _ _ => rfl⟩
theorem Kw.trans {X : Nat → Prop} {s s' s'' : St} (h : Kw X s s') (k : Kw X s' s'') : Kw X s s'' := ⟨Nat.le_trans h.1 k.1, fun j h1 h2 => by rw [k.2 j (Nat.lt_of_lt_of_le h1 h.1) h2, h.2 j h1 h2]⟩
theorem Kw.app {X : Nat → Prop} {s s' ex : St} (h : Kw X (s ++ ex) s') : Kw X s s' := ⟨by have := h.1; rw [List.length_append] at this; omega, fun j h1 h2 => by rw [h.2 j (by rw [List.length_append]; omega) h2, st_old h1]⟩
def rowsN (l : List Int) : List (List V) := l.map fun n => [V.int .i64 n]
/-- Numbers that grow, in a box. -/
structure AT (s : St) (o k : Nat) (out : List Int) : Prop where
  box : s[o]? = some (.box [.lst 1 (some k) (rowsN out)])
  tip : s[k]? = some (.tip 3 out.length)
theorem AT.ne {s : St} {o k : Nat} {out : List Int} (h : AT s o k out) : k ≠ o := by intro e; subst e; have := h.box; rw [h.tip] at this; cases this
theorem AT.lt {s : St} {o k : Nat} {out : List Int} (h : AT s o k out) : o < s.length ∧ k < s.length := ⟨(List.getElem?_eq_some_iff.1 h.box).1, (List.getElem?_eq_some_iff.1 h.tip).1⟩
theorem AT.app {s : St} {o k : Nat} {out : List Int} (h : AT s o k out) (ex : St) : AT (s ++ ex) o k out := ⟨by rw [st_old h.lt.1, h.box], by rw [st_old h.lt.2, h.tip]⟩
theorem AT.push {s : St} {o k : Nat} {out : List Int} (h : AT s o k out) (i : Int) :
    AT ((s.set k (.tip 3 (out.length + 1))).set o (.box [.lst 1 (some k) (rowsN out ++ [[.int .i64 i]])])) o k (out ++ [i]) ∧ Kw (fun j => j = o ∨ j = k) s ((s.set k (.tip 3 (out.length + 1))).set o (.box [.lst 1 (some k) (rowsN out ++ [[.int .i64 i]])])) := by
  have hn := h.ne
  obtain ⟨l1, l2⟩ := h.lt
  refine ⟨⟨?_, ?_⟩, by simp, fun j _ hj => ?_⟩
  · rw [List.getElem?_set_self (by rw [List.length_set]; exact l1)]; simp [rowsN]
  · rw [List.getElem?_set_ne (Ne.symm hn), List.getElem?_set_self l2]; simp
  · rw [List.getElem?_set_ne (fun e => hj (.inl e.symm)), List.getElem?_set_ne (fun e => hj (.inr e.symm))]
def walkFn (oa ow : Nat) : V := .fn (.func 11) [.ptr oa 0, .ptr ow 0]
def PW (l : List Core) : Prop := ∀ (s : St) (oa ow k : Nat) (out : List Int), AT s oa k out → s[ow]? = some (.box [walkFn oa ow]) → out.length + nodesCs l ≤ 1000000000 →
  VCalls Try.prog TT 11 [lstC l, .ptr oa 0, .ptr ow 0] s fun r st' => r = .ret (.tup []) ∧ AT st' oa k (out ++ lamAs l) ∧ Kw (fun j => j = oa ∨ j = k) s st'

set_option maxRecDepth 20000 in
set_option maxHeartbeats 4000000 in
theorem c_walk_of (l : List Core) (ih : ∀ d ∈ l, PW (kidsOf d)) : PW l := by
  intro s oa ow k out hA hw hn
  refine vfunQ TT_ok (an := anL []) (L := [0, 1, 2, 5, 6, 7, 8]) (rs := []) Try.func11 rfl (by kernel_rfl) rfl Try.ntmps11 rfl rfl fun hst ha hf => ?_
  have hkl : l.length ≤ 1000000000 := by have := nodesCs_len l; omega
  simp only [lstC]
  simp only [decide_true, decide_false, gwL, gwB, gwD, gwE, gwS, gwTT, gwZ, initG, Nat.reduceEqDiff, ↓reduceIte, Nat.reduceAdd, Nat.reduceLT, Nat.reduceLeDiff, List.map_cons, List.map_nil, builtS, builtinV, pureR, binV, sliceV, pickV, evO, Env.look, find, V.ofConst, resV, resOne, tupV, loadV, fillV, buildV, mkIface, litM, litS, litR, litRows, List.reverse_cons, List.reverse_nil, Nat.reduceMul, appS, memA, appendV, rowsOf, V.cells, TI.sized, TI.known, TI.agg, anL, List.length_cons, List.length_nil, List.append_nil, List.cons_append, List.nil_append, List.drop_succ_cons, List.drop_zero, List.drop_nil, List.take_succ_cons, List.take_zero, List.take_nil, List.getElem?_cons_zero, List.getElem?_cons_succ, List.all_cons, List.all_nil, List.replicate_succ, List.replicate_zero, List.set_cons_zero, List.set_cons_succ, eq_self, true_or, ne_eq, not_false_eq_true, Nat.reduceEqDiff, List.length_map]
  refine vfor (σ := Nat × St) [1, 2, 6, 7, 8] (fun x => [(1, true, .ptr oa 0), (2, true, .ptr ow 0), (6, true, lstC l), (7, true, .int .i64 l.length), (8, true, .int .i64 x.1)]) (fun x => x.2) (fun x => l.length - x.1) (fun x => x.1 ≤ l.length ∧ AT x.2 oa k (out ++ lamAs (l.take x.1)) ∧ Kw (fun j => j = oa ∨ j = k) s x.2) (0, s) rfl TT_ok ⟨Nat.zero_le _, by simpa [lamAs] using hA, Kw.refl _ _⟩ rfl rfl ?_
  rintro ⟨i, S⟩ ⟨hi, hA1, hK1⟩
  simp only [lstC] at hi hA1 hK1 ⊢
  rcases at_or_end l i hi with ⟨rfl, hd⟩ | ⟨a, hlt, hget, hdr⟩
  · rw [List.take_length] at hA1
    simp only [decide_true, decide_false, gwL, gwB, gwD, gwE, gwS, gwTT, gwZ, initG, Nat.reduceEqDiff, ↓reduceIte, Nat.reduceAdd, Nat.reduceLT, Nat.reduceLeDiff, List.map_cons, List.map_nil, builtS, builtinV, pureR, binV, sliceV, pickV, evO, Env.look, find, V.ofConst, resV, resOne, tupV, loadV, fillV, buildV, mkIface, litM, litS, litR, litRows, List.reverse_cons, List.reverse_nil, Nat.reduceMul, appS, memA, appendV, rowsOf, V.cells, TI.sized, TI.known, TI.agg, anL, List.length_cons, List.length_nil, List.append_nil, List.cons_append, List.nil_append, List.drop_succ_cons, List.drop_zero, List.drop_nil, List.take_succ_cons, List.take_zero, List.take_nil, List.getElem?_cons_zero, List.getElem?_cons_succ, List.all_cons, List.all_nil, List.replicate_succ, List.replicate_zero, List.set_cons_zero, List.set_cons_succ, eq_self, true_or, ne_eq, not_false_eq_true, Nat.reduceEqDiff, lt_no]
    exact ⟨hA1, hK1⟩
  · have hnt := nodesCs_take hget
    have hll : (lamAs (l.take i)).length ≤ nodesCs (l.take i) := by rw [lamAs_len]; exact lamCs_nodes _
    have hih := ih a (List.mem_of_getElem? hget)
    have hsn : lamAs (l.take (i + 1)) = lamAs (l.take i) ++ lamA a := by rw [take_next hget, lamAs_snoc]
    have how : ow < S.length := Nat.lt_of_lt_of_le (List.getElem?_eq_some_iff.1 hw).1 hK1.1
    have hwa : ow ≠ oa := by intro e; subst e; have := hA.box; rw [hw] at this; cases this
    have hwk : ow ≠ k := by intro e; subst e; have := hA.tip; rw [hw] at this; cases this
    have hwS : S[ow]? = some (.box [walkFn oa ow]) := by rw [hK1.2 ow (List.getElem?_eq_some_iff.1 hw).1 (by omega), hw]
    obtain ⟨lo, lk⟩ := hA1.lt
    simp only [decide_true, decide_false, gwL, gwB, gwD, gwE, gwS, gwTT, gwZ, initG, Nat.reduceEqDiff, ↓reduceIte, Nat.reduceAdd, Nat.reduceLT, Nat.reduceLeDiff, List.map_cons, List.map_nil, builtS, builtinV, pureR, binV, sliceV, pickV, evO, Env.look, find, V.ofConst, resV, resOne, tupV, loadV, fillV, buildV, mkIface, litM, litS, litR, litRows, List.reverse_cons, List.reverse_nil, Nat.reduceMul, appS, memA, appendV, rowsOf, V.cells, TI.sized, TI.known, TI.agg, anL, List.length_cons, List.length_nil, List.append_nil, List.cons_append, List.nil_append, List.drop_succ_cons, List.drop_zero, List.drop_nil, List.take_succ_cons, List.take_zero, List.take_nil, List.getElem?_cons_zero, List.getElem?_cons_succ, List.all_cons, List.all_nil, List.replicate_succ, List.replicate_zero, List.set_cons_zero, List.set_cons_succ, eq_self, true_or, ne_eq, not_false_eq_true, Nat.reduceEqDiff, lt_yes hlt, List.length_map, getD_map hget, Int.ofNat_lt.mpr hlt, encC_take, encC_len, encC_drop]
    obtain ⟨kd, ix, n, lb, ow', q, kids⟩ := a
    simp only [kidsOf] at hih
    rw [nodesC] at hnt
    rw [lamA] at hsn
    simp only [encC_mk]
    simp only [decide_true, decide_false, gwL, gwB, gwD, gwE, gwS, gwTT, gwZ, initG, Nat.reduceEqDiff, ↓reduceIte, Nat.reduceAdd, Nat.reduceLT, Nat.reduceLeDiff, List.map_cons, List.map_nil, builtS, builtinV, pureR, binV, sliceV, pickV, evO, Env.look, find, V.ofConst, resV, resOne, tupV, loadV, fillV, buildV, mkIface, litM, litS, litR, litRows, List.reverse_cons, List.reverse_nil, Nat.reduceMul, appS, memA, appendV, rowsOf, V.cells, TI.sized, TI.known, TI.agg, anL, List.length_cons, List.length_nil, List.append_nil, List.cons_append, List.nil_append, List.drop_succ_cons, List.drop_zero, List.drop_nil, List.take_succ_cons, List.take_zero, List.take_nil, List.getElem?_cons_zero, List.getElem?_cons_succ, List.all_cons, List.all_nil, List.replicate_succ, List.replicate_zero, List.set_cons_zero, List.set_cons_succ, eq_self, true_or, ne_eq, not_false_eq_true, Nat.reduceEqDiff]
    generalize hB : Ent.box (.int .i64 kd :: .int .i64 ix :: .int .i64 n :: .str lb :: .str ow' :: (encD q ++ [.lst 12 none (kids.map encC)])) = B
    have hB0 : (S ++ [B])[S.length]? = some (.box (.int .i64 kd :: .int .i64 ix :: .int .i64 n :: .str lb :: .str ow' :: (encD q ++ [.lst 12 none (kids.map encC)]))) := by rw [← hB]; simp only [gwL]
    have hA2 := hA1.app [B]
    have hw2 : (S ++ [B])[ow]? = some (.box [walkFn oa ow]) := by rw [st_old how, hwS]
    refine iK_split (fun h8 => ?_) (fun h8 => ?_)
    · rw [h8] at hsn
      have ho1 : ∀ X, ((S ++ [B]).set k X)[oa]? = some (.box [.lst 1 (some k) (rowsN (out ++ lamAs (l.take i)))]) := fun X => by rw [List.getElem?_set_ne hA2.ne, hA2.box]
      have hw3 : ∀ X Y, (((S ++ [B]).set k X).set oa Y)[ow]? = some (.box [walkFn oa ow]) := fun X Y => by rw [List.getElem?_set_ne (Ne.symm hwa), List.getElem?_set_ne (Ne.symm hwk), hw2]
      have hB3 : ∀ X Y, (((S ++ [B]).set k X).set oa Y)[S.length]? = some (.box (.int .i64 kd :: .int .i64 ix :: .int .i64 n :: .str lb :: .str ow' :: (encD q ++ [.lst 12 none (kids.map encC)]))) := fun X Y => by rw [List.getElem?_set_ne (by omega), List.getElem?_set_ne (by omega), hB0]
      obtain ⟨hA3, hK3⟩ := hA2.push ix
      have hrl : (rowsN (out ++ lamAs (l.take i))).length = (out ++ lamAs (l.take i)).length := by simp [rowsN]
      simp only [decide_true, decide_false, gwL, gwB, gwD, gwE, gwS, gwTT, gwZ, initG, Nat.reduceEqDiff, ↓reduceIte, Nat.reduceAdd, Nat.reduceLT, Nat.reduceLeDiff, List.map_cons, List.map_nil, builtS, builtinV, pureR, binV, sliceV, pickV, evO, Env.look, find, V.ofConst, resV, resOne, tupV, loadV, fillV, buildV, mkIface, litM, litS, litR, litRows, List.reverse_cons, List.reverse_nil, Nat.reduceMul, appS, memA, appendV, rowsOf, V.cells, TI.sized, TI.known, TI.agg, anL, List.length_cons, List.length_nil, List.append_nil, List.cons_append, List.nil_append, List.drop_succ_cons, List.drop_zero, List.drop_nil, List.take_succ_cons, List.take_zero, List.take_nil, List.getElem?_cons_zero, List.getElem?_cons_succ, List.all_cons, List.all_nil, List.replicate_succ, List.replicate_zero, List.set_cons_zero, List.set_cons_succ, eq_self, true_or, ne_eq, not_false_eq_true, Nat.reduceEqDiff, hB0, hA2.box, hA2.tip, ho1, hw3, hB3, hrl, walkFn, encD_drop_app]
      refine ⟨by simp; omega, ?_⟩
      refine useQ (hih _ oa ow k _ hA3 (by simpa [walkFn] using hw3 _ _) (by simp; omega)) (wkL_refl _) (by rintro v s' ⟨h, _⟩; cases h) ?_
      rintro X S2 hX ⟨hX', hA4, hK4⟩
      cases hX'
      simp only [decide_true, decide_false, gwL, gwB, gwD, gwE, gwS, gwTT, gwZ, initG, Nat.reduceEqDiff, ↓reduceIte, Nat.reduceAdd, Nat.reduceLT, Nat.reduceLeDiff, List.map_cons, List.map_nil, builtS, builtinV, pureR, binV, sliceV, pickV, evO, Env.look, find, V.ofConst, resV, resOne, tupV, loadV, fillV, buildV, mkIface, litM, litS, litR, litRows, List.reverse_cons, List.reverse_nil, Nat.reduceMul, appS, memA, appendV, rowsOf, V.cells, TI.sized, TI.known, TI.agg, anL, List.length_cons, List.length_nil, List.append_nil, List.cons_append, List.nil_append, List.drop_succ_cons, List.drop_zero, List.drop_nil, List.take_succ_cons, List.take_zero, List.take_nil, List.getElem?_cons_zero, List.getElem?_cons_succ, List.all_cons, List.all_nil, List.replicate_succ, List.replicate_zero, List.set_cons_zero, List.set_cons_succ, eq_self, true_or, ne_eq, not_false_eq_true, Nat.reduceEqDiff]
      refine ⟨(i + 1, S2), by simp only [next_i64 hlt (show l.length ≤ 9223372036854775807 by omega)]; rfl, rfl, by simp only; omega, by simp only; omega, ?_, hK1.trans (Kw.app (hK3.trans hK4))⟩
      simp only
      rw [hsn]
      simpa [List.append_assoc] using hA4
    · rw [h8] at hsn
      simp only [decide_true, decide_false, gwL, gwB, gwD, gwE, gwS, gwTT, gwZ, initG, Nat.reduceEqDiff, ↓reduceIte, Nat.reduceAdd, Nat.reduceLT, Nat.reduceLeDiff, List.map_cons, List.map_nil, builtS, builtinV, pureR, binV, sliceV, pickV, evO, Env.look, find, V.ofConst, resV, resOne, tupV, loadV, fillV, buildV, mkIface, litM, litS, litR, litRows, List.reverse_cons, List.reverse_nil, Nat.reduceMul, appS, memA, appendV, rowsOf, V.cells, TI.sized, TI.known, TI.agg, anL, List.length_cons, List.length_nil, List.append_nil, List.cons_append, List.nil_append, List.drop_succ_cons, List.drop_zero, List.drop_nil, List.take_succ_cons, List.take_zero, List.take_nil, List.getElem?_cons_zero, List.getElem?_cons_succ, List.all_cons, List.all_nil, List.replicate_succ, List.replicate_zero, List.set_cons_zero, List.set_cons_succ, eq_self, true_or, ne_eq, not_false_eq_true, Nat.reduceEqDiff, hB0, hw2, walkFn, encD_drop_app]
      refine useQ (hih _ oa ow k _ hA2 hw2 (by simp; omega)) (wkL_refl _) (by rintro v s' ⟨h, _⟩; cases h) ?_
      rintro X S2 hX ⟨hX', hA4, hK4⟩
      cases hX'
      simp only [decide_true, decide_false, gwL, gwB, gwD, gwE, gwS, gwTT, gwZ, initG, Nat.reduceEqDiff, ↓reduceIte, Nat.reduceAdd, Nat.reduceLT, Nat.reduceLeDiff, List.map_cons, List.map_nil, builtS, builtinV, pureR, binV, sliceV, pickV, evO, Env.look, find, V.ofConst, resV, resOne, tupV, loadV, fillV, buildV, mkIface, litM, litS, litR, litRows, List.reverse_cons, List.reverse_nil, Nat.reduceMul, appS, memA, appendV, rowsOf, V.cells, TI.sized, TI.known, TI.agg, anL, List.length_cons, List.length_nil, List.append_nil, List.cons_append, List.nil_append, List.drop_succ_cons, List.drop_zero, List.drop_nil, List.take_succ_cons, List.take_zero, List.take_nil, List.getElem?_cons_zero, List.getElem?_cons_succ, List.all_cons, List.all_nil, List.replicate_succ, List.replicate_zero, List.set_cons_zero, List.set_cons_succ, eq_self, true_or, ne_eq, not_false_eq_true, Nat.reduceEqDiff]
      refine ⟨(i + 1, S2), by simp only [next_i64 hlt (show l.length ≤ 9223372036854775807 by omega)]; rfl, rfl, by simp only; omega, by simp only; omega, ?_, hK1.trans (Kw.app hK4)⟩
      simp only
      rw [hsn]
      simpa [List.append_assoc] using hA4
theorem c_walk (l : List Core) : PW l := by
  have key : ∀ c : Core, PW (kidsOf c) := by
    intro c
    refine Core.ind (p := fun c => PW (kidsOf c)) ?_ c
    intro k ix n lb ow q kids ih
    exact c_walk_of kids ih
  exact c_walk_of l fun d _ => key d
end Go.Proofs.Ytpfdoffnpkokhaa.Gx

namespace Go.Proofs.Ytpfdoffnpkokhaa.Gx
open Go Go.Proofs.Ytpfdoffnpkokhaa.Gw
set_option linter.unusedSimpArgs false
set_option linter.unusedVariables false

theorem compile_cases (p : Part) : ((compileC p).2 ≠ 0 ∧ (compileC p).1 = ⟨[], []⟩) ∨ (compileC p = (⟨p.name, bodyP p.body⟩, 0) ∧ okCs p.body ∧ nodesCs p.body ≤ 600000 ∧ p.body.length ≤ 200 ∧ (bodyP p.body).length ≤ 500 ∧ ∀ q ∈ bodyP p.body, q.code.length ≤ 6000) := by
  unfold compileC
  cases he : decide ((wrongPs [p]).1 = 0) with
  | false => exact .inl ⟨by simpa using he, rfl⟩
  | true =>
    obtain ⟨h1, h2, h3⟩ := wrongPs_good (of_decide_eq_true he)
    cases hm : muchP (bodyP p.body) with
    | true => exact .inl ⟨by simp, rfl⟩
    | false =>
      simp only [muchP, Bool.or_eq_false_iff, decide_eq_false_iff_not, List.any_eq_false] at hm
      refine .inr ⟨rfl, h1, h2, h3, by omega, fun q hq => ?_⟩
      have := hm.2 q hq
      simp at this
      omega
set_option maxRecDepth 20000 in
set_option maxHeartbeats 4000000 in
theorem c_CodeProtos (p : Part) (st : St) : VCalls Try.prog TT 4 [.agg (encP p)] st fun r st' => r = .ret (.bool true) ∧ st' = st := by
  refine vfun TT_ok (an := anL [(1, 1)]) (L := [0, 1, 2, 3, 4, 5, 6, 7, 8, 42, 43, 44]) (rs := [.tmp 2]) Try.func4 rfl (by kernel_rfl) rfl Try.ntmps4 rfl rfl (Nat.le_refl _) fun hst ha hf => ?_
  obtain ⟨nm, body⟩ := p
  simp only [decide_true, decide_false, gwL, gwB, gwD, gwE, gwS, gwTT, gwZ, initG, Nat.reduceEqDiff, ↓reduceIte, Nat.reduceAdd, Nat.reduceLT, Nat.reduceLeDiff, List.map_cons, List.map_nil, builtS, builtinV, pureR, binV, sliceV, pickV, evO, Env.look, find, V.ofConst, resV, resOne, tupV, loadV, fillV, buildV, mkIface, litM, litS, litR, litRows, List.reverse_cons, List.reverse_nil, Nat.reduceMul, appS, memA, appendV, rowsOf, V.cells, TI.sized, TI.known, TI.agg, anL, List.length_cons, List.length_nil, List.append_nil, List.cons_append, List.nil_append, List.drop_succ_cons, List.drop_zero, List.drop_nil, List.take_succ_cons, List.take_zero, List.take_nil, List.getElem?_cons_zero, List.getElem?_cons_succ, List.all_cons, List.all_nil, List.replicate_succ, List.replicate_zero, List.set_cons_zero, List.set_cons_succ, eq_self, true_or, ne_eq, not_false_eq_true, Nat.reduceEqDiff, encP]
  refine (c_alive _).use (wkL_refl _) fun _ => ?_
  simp only [decide_true, decide_false, gwL, gwB, gwD, gwE, gwS, gwTT, gwZ, initG, Nat.reduceEqDiff, ↓reduceIte, Nat.reduceAdd, Nat.reduceLT, Nat.reduceLeDiff, List.map_cons, List.map_nil, builtS, builtinV, pureR, binV, sliceV, pickV, evO, Env.look, find, V.ofConst, resV, resOne, tupV, loadV, fillV, buildV, mkIface, litM, litS, litR, litRows, List.reverse_cons, List.reverse_nil, Nat.reduceMul, appS, memA, appendV, rowsOf, V.cells, TI.sized, TI.known, TI.agg, anL, List.length_cons, List.length_nil, List.append_nil, List.cons_append, List.nil_append, List.drop_succ_cons, List.drop_zero, List.drop_nil, List.take_succ_cons, List.take_zero, List.take_nil, List.getElem?_cons_zero, List.getElem?_cons_succ, List.all_cons, List.all_nil, List.replicate_succ, List.replicate_zero, List.set_cons_zero, List.set_cons_succ, eq_self, true_or, ne_eq, not_false_eq_true, Nat.reduceEqDiff]
  refine (c_Compile ⟨nm, body⟩ _).use (wkL_refl _) fun _ => ?_
  rcases compile_cases ⟨nm, body⟩ with ⟨h1, h2⟩ | ⟨hc, hok, hn, hl, hp, hq⟩
  · generalize compileC ⟨nm, body⟩ = rc at h1 h2
    obtain ⟨u, e⟩ := rc
    simp only at h1 h2
    subst h2
    have he : decide (e = 0) = false := decide_eq_false h1
    simp only [decide_true, decide_false, gwL, gwB, gwD, gwE, gwS, gwTT, gwZ, initG, Nat.reduceEqDiff, ↓reduceIte, Nat.reduceAdd, Nat.reduceLT, Nat.reduceLeDiff, List.map_cons, List.map_nil, builtS, builtinV, pureR, binV, sliceV, pickV, evO, Env.look, find, V.ofConst, resV, resOne, tupV, loadV, fillV, buildV, mkIface, litM, litS, litR, litRows, List.reverse_cons, List.reverse_nil, Nat.reduceMul, appS, memA, appendV, rowsOf, V.cells, TI.sized, TI.known, TI.agg, anL, List.length_cons, List.length_nil, List.append_nil, List.cons_append, List.nil_append, List.drop_succ_cons, List.drop_zero, List.drop_nil, List.take_succ_cons, List.take_zero, List.take_nil, List.getElem?_cons_zero, List.getElem?_cons_succ, List.all_cons, List.all_nil, List.replicate_succ, List.replicate_zero, List.set_cons_zero, List.set_cons_succ, eq_self, true_or, ne_eq, not_false_eq_true, Nat.reduceEqDiff, compV, encU, lstPr, he, Bool.not_false, Int.reduceEq]
    exact gives_bool' rfl hst
  · simp only at hok hn hl hp hq
    rw [hc]
    have hlen := body_len hok
    simp only [decide_true, decide_false, gwL, gwB, gwD, gwE, gwS, gwTT, gwZ, initG, Nat.reduceEqDiff, ↓reduceIte, Nat.reduceAdd, Nat.reduceLT, Nat.reduceLeDiff, List.map_cons, List.map_nil, builtS, builtinV, pureR, binV, sliceV, pickV, evO, Env.look, find, V.ofConst, resV, resOne, tupV, loadV, fillV, buildV, mkIface, litM, litS, litR, litRows, List.reverse_cons, List.reverse_nil, Nat.reduceMul, appS, memA, appendV, rowsOf, V.cells, TI.sized, TI.known, TI.agg, anL, List.length_cons, List.length_nil, List.append_nil, List.cons_append, List.nil_append, List.drop_succ_cons, List.drop_zero, List.drop_nil, List.take_succ_cons, List.take_zero, List.take_nil, List.getElem?_cons_zero, List.getElem?_cons_succ, List.all_cons, List.all_nil, List.replicate_succ, List.replicate_zero, List.set_cons_zero, List.set_cons_succ, eq_self, true_or, ne_eq, not_false_eq_true, Nat.reduceEqDiff, compV, encU, lstPr, Bool.not_true, List.length_map, Int.reduceEq]
    have hA0 : AT ((st ++ [Ent.box [V.str nm, .lst 2 none ((bodyP body).map encPr)], Ent.box [.lst 1 (some (st.length + 3)) []], Ent.box [walkFn (st.length + 1) (st.length + 2)]]) ++ tips [3]) (st.length + 1) (st.length + 3) [] :=
      ⟨by rw [List.append_assoc, List.getElem?_append_right (by omega)]; simp [rowsN], by rw [List.append_assoc, List.getElem?_append_right (by omega)]; simp [tips]⟩
    have hw0 : ((st ++ [Ent.box [V.str nm, .lst 2 none ((bodyP body).map encPr)], Ent.box [.lst 1 (some (st.length + 3)) []], Ent.box [walkFn (st.length + 1) (st.length + 2)]]) ++ tips [3])[st.length + 2]? = some (.box [walkFn (st.length + 1) (st.length + 2)]) := by
      rw [List.append_assoc, List.getElem?_append_right (by omega)]; simp
    refine useTips [3] (c_walk body _ _ _ _ _ hA0 hw0 (by simp; omega)) (wkL_refl _) ((wkSt_refl _).append (wkSt_cons (Ent.wkp_refl _) (wkSt_cons (Ent.wk_box (wkL_cons (wk_tip _ (by simp [Tips])) wkL_nil)) (wkSt_cons (Ent.wkp_refl _) wkSt_nil)))) (by rintro v s' ⟨h, _⟩; cases h) ?_
    rintro X S hX ⟨hX', hA1, hK1⟩
    cases hX'
    rw [List.nil_append] at hA1
    have hSl : st.length + 4 ≤ S.length := by have := hK1.1; simpa [tips] using this
    have h3 : S[st.length]? = some (.box [V.str nm, .lst 2 none ((bodyP body).map encPr)]) := by
      rw [hK1.2 _ (by simp [tips]) (by omega), List.append_assoc, List.getElem?_append_right (Nat.le_refl _)]; simp
    have hpre : S = st ++ S.drop st.length := by
      apply List.ext_getElem?; intro j
      rcases Nat.lt_or_ge j st.length with hj | hj
      · rw [List.getElem?_append_left hj, hK1.2 j (by simp [tips]; omega) (by omega), List.append_assoc, st_old hj]
      · rw [List.getElem?_append_right hj, List.getElem?_drop]; congr 1; omega
    have hcn : lamCs body ≤ nodesCs body := lamCs_nodes body
    simp only [decide_true, decide_false, gwL, gwB, gwD, gwE, gwS, gwTT, gwZ, initG, Nat.reduceEqDiff, ↓reduceIte, Nat.reduceAdd, Nat.reduceLT, Nat.reduceLeDiff, List.map_cons, List.map_nil, builtS, builtinV, pureR, binV, sliceV, pickV, evO, Env.look, find, V.ofConst, resV, resOne, tupV, loadV, fillV, buildV, mkIface, litM, litS, litR, litRows, List.reverse_cons, List.reverse_nil, Nat.reduceMul, appS, memA, appendV, rowsOf, V.cells, TI.sized, TI.known, TI.agg, anL, List.length_cons, List.length_nil, List.append_nil, List.cons_append, List.nil_append, List.drop_succ_cons, List.drop_zero, List.drop_nil, List.take_succ_cons, List.take_zero, List.take_nil, List.getElem?_cons_zero, List.getElem?_cons_succ, List.all_cons, List.all_nil, List.replicate_succ, List.replicate_zero, List.set_cons_zero, List.set_cons_succ, eq_self, true_or, ne_eq, not_false_eq_true, Nat.reduceEqDiff]
    refine vdraw TT_ok TT_mixed [0, 1, 0, 0, 1, 0, 0, 0, 0, 0, 1, 0, 1, 0, 0] (by kernel_rfl) ?_
    simp only [decide_true, decide_false, gwL, gwB, gwD, gwE, gwS, gwTT, gwZ, initG, Nat.reduceEqDiff, ↓reduceIte, Nat.reduceAdd, Nat.reduceLT, Nat.reduceLeDiff, List.map_cons, List.map_nil, builtS, builtinV, pureR, binV, sliceV, pickV, evO, Env.look, find, V.ofConst, resV, resOne, tupV, loadV, fillV, buildV, mkIface, litM, litS, litR, litRows, List.reverse_cons, List.reverse_nil, Nat.reduceMul, appS, memA, appendV, rowsOf, V.cells, TI.sized, TI.known, TI.agg, anL, List.length_cons, List.length_nil, List.append_nil, List.cons_append, List.nil_append, List.drop_succ_cons, List.drop_zero, List.drop_nil, List.take_succ_cons, List.take_zero, List.take_nil, List.getElem?_cons_zero, List.getElem?_cons_succ, List.all_cons, List.all_nil, List.replicate_succ, List.replicate_zero, List.set_cons_zero, List.set_cons_succ, eq_self, true_or, ne_eq, not_false_eq_true, Nat.reduceEqDiff, h3, List.length_map]
    refine eK_free (fun s => c_lambdas body s (by omega)) (wkL_refl _) ?_
    have w1 := wrap_i64 (n := (lamCs body : Int) + 1) (by omega) (by omega)
    have e1 : decide (((bodyP body).length : Int) = (lamCs body : Int) + 1) = true := decide_eq_true (by omega)
    simp only [decide_true, decide_false, gwL, gwB, gwD, gwE, gwS, gwTT, gwZ, initG, Nat.reduceEqDiff, ↓reduceIte, Nat.reduceAdd, Nat.reduceLT, Nat.reduceLeDiff, List.map_cons, List.map_nil, builtS, builtinV, pureR, binV, sliceV, pickV, evO, Env.look, find, V.ofConst, resV, resOne, tupV, loadV, fillV, buildV, mkIface, litM, litS, litR, litRows, List.reverse_cons, List.reverse_nil, Nat.reduceMul, appS, memA, appendV, rowsOf, V.cells, TI.sized, TI.known, TI.agg, anL, List.length_cons, List.length_nil, List.append_nil, List.cons_append, List.nil_append, List.drop_succ_cons, List.drop_zero, List.drop_nil, List.take_succ_cons, List.take_zero, List.take_nil, List.getElem?_cons_zero, List.getElem?_cons_succ, List.all_cons, List.all_nil, List.replicate_succ, List.replicate_zero, List.set_cons_zero, List.set_cons_succ, eq_self, true_or, ne_eq, not_false_eq_true, Nat.reduceEqDiff, h3, List.length_map, w1, e1, Bool.not_true, Bool.or_self, Bool.not_false, Bool.or_false]
    have hrl : (rowsN (lamAs body)).length = lamCs body := by rw [rowsN, List.length_map, lamAs_len]
    simp only [decide_true, decide_false, gwL, gwB, gwD, gwE, gwS, gwTT, gwZ, initG, Nat.reduceEqDiff, ↓reduceIte, Nat.reduceAdd, Nat.reduceLT, Nat.reduceLeDiff, List.map_cons, List.map_nil, builtS, builtinV, pureR, binV, sliceV, pickV, evO, Env.look, find, V.ofConst, resV, resOne, tupV, loadV, fillV, buildV, mkIface, litM, litS, litR, litRows, List.reverse_cons, List.reverse_nil, Nat.reduceMul, appS, memA, appendV, rowsOf, V.cells, TI.sized, TI.known, TI.agg, anL, List.length_cons, List.length_nil, List.append_nil, List.cons_append, List.nil_append, List.drop_succ_cons, List.drop_zero, List.drop_nil, List.take_succ_cons, List.take_zero, List.take_nil, List.getElem?_cons_zero, List.getElem?_cons_succ, List.all_cons, List.all_nil, List.replicate_succ, List.replicate_zero, List.set_cons_zero, List.set_cons_succ, eq_self, true_or, ne_eq, not_false_eq_true, Nat.reduceEqDiff, hA1.box, hrl]
    refine vfor (σ := Nat) [3, 42, 43, 44] (fun i => [(3, true, .ptr st.length 0), (42, true, .lst 1 (some (st.length + 3)) (rowsN (lamAs body))), (43, true, .int .i64 (lamCs body)), (44, true, .int .i64 i)]) (fun i => S) (fun i => lamCs body - i) (fun i => i ≤ lamCs body) 0 rfl TT_ok (Nat.zero_le _) rfl rfl ?_
    intro i hi
    have hll := lamAs_len body
    rcases at_or_end (lamAs body) i (by omega) with ⟨he, hd⟩ | ⟨a, hlt, hget, hdr⟩
    · have hi2 : i = lamCs body := by omega
      subst hi2
      simp only [decide_true, decide_false, gwL, gwB, gwD, gwE, gwS, gwTT, gwZ, initG, Nat.reduceEqDiff, ↓reduceIte, Nat.reduceAdd, Nat.reduceLT, Nat.reduceLeDiff, List.map_cons, List.map_nil, builtS, builtinV, pureR, binV, sliceV, pickV, evO, Env.look, find, V.ofConst, resV, resOne, tupV, loadV, fillV, buildV, mkIface, litM, litS, litR, litRows, List.reverse_cons, List.reverse_nil, Nat.reduceMul, appS, memA, appendV, rowsOf, V.cells, TI.sized, TI.known, TI.agg, anL, List.length_cons, List.length_nil, List.append_nil, List.cons_append, List.nil_append, List.drop_succ_cons, List.drop_zero, List.drop_nil, List.take_succ_cons, List.take_zero, List.take_nil, List.getElem?_cons_zero, List.getElem?_cons_succ, List.all_cons, List.all_nil, List.replicate_succ, List.replicate_zero, List.set_cons_zero, List.set_cons_succ, eq_self, true_or, ne_eq, not_false_eq_true, Nat.reduceEqDiff, lt_no]
      rw [hpre]
      exact gives_bool' rfl hst
    · obtain ⟨q, hq1, hq2⟩ := body_arg hok hget
      have hlt2 : i < lamCs body := by omega
      have w2 : IntKind.i64.wrap ((i : Int) + 1) = ((i + 1 : Nat) : Int) := next_i64 hlt2 (by omega)
      have hgr : (rowsN (lamAs body)).getD i [] = [.int .i64 a] := getD_map hget
      have hgp : ((bodyP body).map encPr).getD (i + 1) [] = encPr q := getD_map hq1
      have hil : i + 1 < (bodyP body).length := by omega
      simp only [decide_true, decide_false, gwL, gwB, gwD, gwE, gwS, gwTT, gwZ, initG, Nat.reduceEqDiff, ↓reduceIte, Nat.reduceAdd, Nat.reduceLT, Nat.reduceLeDiff, List.map_cons, List.map_nil, builtS, builtinV, pureR, binV, sliceV, pickV, evO, Env.look, find, V.ofConst, resV, resOne, tupV, loadV, fillV, buildV, mkIface, litM, litS, litR, litRows, List.reverse_cons, List.reverse_nil, Nat.reduceMul, appS, memA, appendV, rowsOf, V.cells, TI.sized, TI.known, TI.agg, anL, List.length_cons, List.length_nil, List.append_nil, List.cons_append, List.nil_append, List.drop_succ_cons, List.drop_zero, List.drop_nil, List.take_succ_cons, List.take_zero, List.take_nil, List.getElem?_cons_zero, List.getElem?_cons_succ, List.all_cons, List.all_nil, List.replicate_succ, List.replicate_zero, List.set_cons_zero, List.set_cons_succ, eq_self, true_or, ne_eq, not_false_eq_true, Nat.reduceEqDiff, lt_yes hlt2, Int.ofNat_lt.mpr hlt2, hgr, hrl, h3, w2, List.length_map, hgp, encPr, hq2, Int.ofNat_lt.mpr hil, Bool.not_true]
      exact ⟨i + 1, rfl, by omega, by omega⟩
end Go.Proofs.Ytpfdoffnpkokhaa.Gx
