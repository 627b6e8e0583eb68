/- Contract: the document's unit of a part. Contracts: when procedures, and units, are the same. -/
import Derived.Test.YtpfdoffnpkokhaaM13

namespace Go.Proofs.Ytpfdoffnpkokhaa.Gx
open Go Go.Proofs.Ytpfdoffnpkokhaa.Gw
set_option linter.unusedSimpArgs false

def genBody : List Core → List Ins → List Pr → List Ins × List Pr
  | [], out, g => (out, g)
  | c :: r, out, g => genBody r (addI out (genC c g).1 ++ [{ op := 14 }]) (genC c g).2
theorem genBody_snoc : ∀ (l : List Core) (c : Core) (out : List Ins) (g : List Pr), genBody (l ++ [c]) out g = (addI (genBody l out g).1 (genC c (genBody l out g).2).1 ++ [{ op := 14 }], (genC c (genBody l out g).2).2)
  | [], c, out, g => by simp only [List.nil_append, genBody]
  | d :: l, c, out, g => by simp only [List.cons_append, genBody, genBody_snoc l c]
theorem genBody_size : ∀ (l : List Core) (out : List Ins) (g : List Pr), (genBody l out g).1.length ≤ out.length + 3 * nodesCs l ∧ (genBody l out g).2.length ≤ g.length + nodesCs l ∧ g.length ≤ (genBody l out g).2.length
  | [], out, g => by simp [genBody, nodesCs]
  | c :: r, out, g => by
    rw [genBody, nodesCs]
    have h1 := genC_size c g
    have h2 := genBody_size r (addI out (genC c g).1 ++ [{ op := 14 }]) (genC c g).2
    simp only [addI_len, List.length_append, List.length_cons, List.length_nil] at h2
    omega
def protosR (l : List Core) : List Pr := (genBody l [] [⟨0, []⟩]).2.modify 0 fun p => ⟨p.args, (genBody l [] [⟨0, []⟩]).1 ++ [{ op := 15 }]⟩
def compileR (p : Part) : Unit' × Int :=
  bif decide ((wrongPs [p]).1 = 0) then (bif muchP (protosR p.body) then (⟨[], []⟩, 4) else (⟨p.name, protosR p.body⟩, 0)) else (⟨[], []⟩, (wrongPs [p]).1)

/-- A list that grows, or what may be taken for it. -/
def BX (n0 : Nat) (S : St) (v : V) (body : List Ins) : Prop := ∃ k rows, v = .lst 11 (some k) rows ∧ wkRp NoTok rows (body.map encI) ∧ S[k]? = some (.tip 46 body.length) ∧ n0 ≤ k

theorem wkR_app {p : Nat → Prop} : ∀ {a a' b b' : List (List V)}, wkRp p a a' → wkRp p b b' → wkRp p (a ++ b) (a' ++ b')
  | [], _, b, b', h, k => by simp only [wkRp] at h; subst h; exact k
  | x :: xs, _, b, b', h, k => by
    simp only [wkRp] at h
    obtain ⟨z, zs, rfl, h1, h2⟩ := h
    simp only [List.cons_append, wkRp]
    exact ⟨z, _, rfl, h1, wkR_app h2 k⟩

theorem BX.keep {n0 : Nat} {S S' : St} {v : V} {body : List Ins} {b P q : Nat} {ps : List Pr} (h : BX n0 S v body) (hG : GS S b P q ps) (kp : Kp (isG b P q) S S') : BX n0 S' v body := by
  obtain ⟨k, rows, h1, h2, h3, h4⟩ := h
  refine ⟨k, rows, h1, h2, ?_, h4⟩
  rw [kp.2 k (List.getElem?_eq_some_iff.1 h3).1 ?_, h3]
  rintro (e | e | e)
  · subst e; have := hG.box; rw [h3] at this; cases this
  · subst e; have := hG.arr; rw [h3] at this; cases this
  · subst e; have := hG.tip; rw [h3] at this; cases this

set_option maxRecDepth 20000 in
set_option maxHeartbeats 8000000 in
theorem c_refCompile0 (p : Part) (st : St) : VCalls Try.prog TT 8 [.agg (encP p)] st (Frz (compV (compileR p)) st) := by
  refine vfunQ TT_ok (an := anL [(1, 1), (22, 2), (23, 1)]) (L := [0, 1, 2, 3, 4, 5, 6, 8, 9, 10, 11, 12, 27, 28, 29, 61, 62, 63]) (rs := [.cell 2 27, .tmp 3]) Try.func8 rfl (by kernel_rfl) rfl Try.ntmps8 rfl rfl fun hst ha hf => ?_
  obtain ⟨nm, body⟩ := p
  simp only [encP, lstC]
  simp only [decide_true, decide_false, gwL, gwB, gwD, gwE, gwS, gwTT, gwZ, initG, Nat.reduceEqDiff, ↓reduceIte, Nat.reduceAdd, Nat.reduceLT, Nat.reduceLeDiff, List.map_cons, List.map_nil, builtS, builtinV, pureR, binV, sliceV, pickV, evO, Env.look, find, V.ofConst, resV, resOne, tupV, loadV, fillV, buildV, mkIface, litM, litS, litR, litRows, List.reverse_cons, List.reverse_nil, Nat.reduceMul, appS, memA, appendV, rowsOf, V.cells, TI.sized, TI.known, TI.agg, anL, List.length_cons, List.length_nil, List.append_nil, List.cons_append, List.nil_append, List.drop_succ_cons, List.drop_zero, List.drop_nil, List.take_succ_cons, List.take_zero, List.take_nil, List.getElem?_cons_zero, List.getElem?_cons_succ, List.all_cons, List.all_nil, List.replicate_succ, List.replicate_zero, List.set_cons_zero, List.set_cons_succ, eq_self, true_or, ne_eq, not_false_eq_true, Nat.reduceEqDiff]
  refine (c_ref7_Wrong _ [⟨nm, body⟩]).use (wkL_refl _) fun _ => ?_
  unfold compileR
  simp only [decide_true, decide_false, gwL, gwB, gwD, gwE, gwS, gwTT, gwZ, initG, Nat.reduceEqDiff, ↓reduceIte, Nat.reduceAdd, Nat.reduceLT, Nat.reduceLeDiff, List.map_cons, List.map_nil, builtS, builtinV, pureR, binV, sliceV, pickV, evO, Env.look, find, V.ofConst, resV, resOne, tupV, loadV, fillV, buildV, mkIface, litM, litS, litR, litRows, List.reverse_cons, List.reverse_nil, Nat.reduceMul, appS, memA, appendV, rowsOf, V.cells, TI.sized, TI.known, TI.agg, anL, List.length_cons, List.length_nil, List.append_nil, List.cons_append, List.nil_append, List.drop_succ_cons, List.drop_zero, List.drop_nil, List.take_succ_cons, List.take_zero, List.take_nil, List.getElem?_cons_zero, List.getElem?_cons_succ, List.all_cons, List.all_nil, List.replicate_succ, List.replicate_zero, List.set_cons_zero, List.set_cons_succ, eq_self, true_or, ne_eq, not_false_eq_true, Nat.reduceEqDiff, fltV]
  refine iK_split (fun h => ?_) (fun h => ?_)
  · rw [not_yes h]
    simp only [decide_true, decide_false, gwL, gwB, gwD, gwE, gwS, gwTT, gwZ, initG, Nat.reduceEqDiff, ↓reduceIte, Nat.reduceAdd, Nat.reduceLT, Nat.reduceLeDiff, List.map_cons, List.map_nil, builtS, builtinV, pureR, binV, sliceV, pickV, evO, Env.look, find, V.ofConst, resV, resOne, tupV, loadV, fillV, buildV, mkIface, litM, litS, litR, litRows, List.reverse_cons, List.reverse_nil, Nat.reduceMul, appS, memA, appendV, rowsOf, V.cells, TI.sized, TI.known, TI.agg, anL, List.length_cons, List.length_nil, List.append_nil, List.cons_append, List.nil_append, List.drop_succ_cons, List.drop_zero, List.drop_nil, List.take_succ_cons, List.take_zero, List.take_nil, List.getElem?_cons_zero, List.getElem?_cons_succ, List.all_cons, List.all_nil, List.replicate_succ, List.replicate_zero, List.set_cons_zero, List.set_cons_succ, eq_self, true_or, ne_eq, not_false_eq_true, Nat.reduceEqDiff]
    refine vmelt 4 (st.length + 1) _ rfl (by simp only [gwL]; rfl) ?_
    simp only [decide_true, decide_false, gwL, gwB, gwD, gwE, gwS, gwTT, gwZ, initG, Nat.reduceEqDiff, ↓reduceIte, Nat.reduceAdd, Nat.reduceLT, Nat.reduceLeDiff, List.map_cons, List.map_nil, builtS, builtinV, pureR, binV, sliceV, pickV, evO, Env.look, find, V.ofConst, resV, resOne, tupV, loadV, fillV, buildV, mkIface, litM, litS, litR, litRows, List.reverse_cons, List.reverse_nil, Nat.reduceMul, appS, memA, appendV, rowsOf, V.cells, TI.sized, TI.known, TI.agg, anL, List.length_cons, List.length_nil, List.append_nil, List.cons_append, List.nil_append, List.drop_succ_cons, List.drop_zero, List.drop_nil, List.take_succ_cons, List.take_zero, List.take_nil, List.getElem?_cons_zero, List.getElem?_cons_succ, List.all_cons, List.all_nil, List.replicate_succ, List.replicate_zero, List.set_cons_zero, List.set_cons_succ, eq_self, true_or, ne_eq, not_false_eq_true, Nat.reduceEqDiff, meltE]
    refine vdraw TT_ok TT_mixed [0, 0, 0, 2, 0] (by kernel_rfl) ?_
    simp only [decide_true, decide_false, gwL, gwB, gwD, gwE, gwS, gwTT, gwZ, initG, Nat.reduceEqDiff, ↓reduceIte, Nat.reduceAdd, Nat.reduceLT, Nat.reduceLeDiff, List.map_cons, List.map_nil, builtS, builtinV, pureR, binV, sliceV, pickV, evO, Env.look, find, V.ofConst, resV, resOne, tupV, loadV, fillV, buildV, mkIface, litM, litS, litR, litRows, List.reverse_cons, List.reverse_nil, Nat.reduceMul, appS, memA, appendV, rowsOf, V.cells, TI.sized, TI.known, TI.agg, anL, List.length_cons, List.length_nil, List.append_nil, List.cons_append, List.nil_append, List.drop_succ_cons, List.drop_zero, List.drop_nil, List.take_succ_cons, List.take_zero, List.take_nil, List.getElem?_cons_zero, List.getElem?_cons_succ, List.all_cons, List.all_nil, List.replicate_succ, List.replicate_zero, List.set_cons_zero, List.set_cons_succ, eq_self, true_or, ne_eq, not_false_eq_true, Nat.reduceEqDiff]
    exact frz_of (wk_tup (wkL_cons (wk_agg (wkL_cons (wk_refl _) (wkL_cons (wk_nils _) wkL_nil))) (wkL_refl _))) (compV_lt _ _)
  rw [not_no h]
  have hok := wrongPs_good (p := ⟨nm, body⟩) (of_decide_eq_true (not_no h))
  simp only at hok
  obtain ⟨hok1, hok2, hok3⟩ := hok
  have hnl := nodesCs_len body
  simp only [decide_true, decide_false, gwL, gwB, gwD, gwE, gwS, gwTT, gwZ, initG, Nat.reduceEqDiff, ↓reduceIte, Nat.reduceAdd, Nat.reduceLT, Nat.reduceLeDiff, List.map_cons, List.map_nil, builtS, builtinV, pureR, binV, sliceV, pickV, evO, Env.look, find, V.ofConst, resV, resOne, tupV, loadV, fillV, buildV, mkIface, litM, litS, litR, litRows, List.reverse_cons, List.reverse_nil, Nat.reduceMul, appS, memA, appendV, rowsOf, V.cells, TI.sized, TI.known, TI.agg, anL, List.length_cons, List.length_nil, List.append_nil, List.cons_append, List.nil_append, List.drop_succ_cons, List.drop_zero, List.drop_nil, List.take_succ_cons, List.take_zero, List.take_nil, List.getElem?_cons_zero, List.getElem?_cons_succ, List.all_cons, List.all_nil, List.replicate_succ, List.replicate_zero, List.set_cons_zero, List.set_cons_succ, eq_self, true_or, ne_eq, not_false_eq_true, Nat.reduceEqDiff, List.length_map]
  have hG0 : GS (st ++ [Ent.box [V.str [], V.nils], Ent.box [V.int .i64 (wrongPs [{ name := nm, body := body }]).fst, V.int .i64 (wrongPs [{ name := nm, body := body }]).snd], Ent.arr 42 1 [[lstI []]], Ent.tip 3 1, Ent.box [V.arr (st.length + 2) 1, V.lst 1 (some (st.length + 3)) [[V.int .i64 0]]]]) (st.length + 4) (st.length + 2) (st.length + 3) [⟨0, []⟩] :=
    ⟨by simp only [gwL, List.length_cons, List.length_nil]; rfl, by simp only [gwL]; rfl, by simp only [gwL]; rfl⟩
  refine vmore [46] [1, 2, 3, 5, 6, 27, 28, 29] [(1, true, .ref [.str nm, .lst 12 none (body.map encC)]), (2, true, .ptr st.length 0), (3, true, .int .i64 0), (5, true, .ptr (st.length + 4) 0), (6, true, .lst 11 (some (st.length + 5)) []), (27, true, .lst 12 none (body.map encC)), (28, true, .int .i64 body.length), (29, true, .int .i64 0)] ((st ++ [Ent.box [V.str [], V.nils], Ent.box [V.int .i64 (wrongPs [{ name := nm, body := body }]).fst, V.int .i64 (wrongPs [{ name := nm, body := body }]).snd], Ent.arr 42 1 [[lstI []]], Ent.tip 3 1, Ent.box [V.arr (st.length + 2) 1, V.lst 1 (some (st.length + 3)) [[V.int .i64 0]]]]) ++ [Ent.tip 46 0]) rfl ?_ ?_ ?_
  · exact wkE_cons (wk_refl _) (wkE_cons (wk_refl _) (wkE_cons (wk_refl _) (wkE_cons (wk_refl _) (wkE_cons (wk_tip _ (by simp [Tips])) (wkE_refl _)))))
  · exact ⟨_, (wkSt_refl _).append (wkSt_cons (Ent.wkp_refl _) (wkSt_cons (Ent.wkp_refl _) (wkSt_cons (wk_arr (wkR_one (wkL_cons (wk_nils _) wkL_nil))) (wkSt_cons (Ent.wkp_refl _) (wkSt_cons (Ent.wkp_refl _) wkSt_nil))))), rfl⟩
  have hG0' := hG0.app [Ent.tip 46 0]
  have hl0 : (st ++ [Ent.box [V.str [], V.nils], Ent.box [V.int .i64 (wrongPs [{ name := nm, body := body }]).fst, V.int .i64 (wrongPs [{ name := nm, body := body }]).snd], Ent.arr 42 1 [[lstI []]], Ent.tip 3 1, Ent.box [V.arr (st.length + 2) 1, V.lst 1 (some (st.length + 3)) [[V.int .i64 0]]]]).length = st.length + 5 := by simp
  generalize hS0 : st ++ [Ent.box [V.str [], V.nils], Ent.box [V.int .i64 (wrongPs [{ name := nm, body := body }]).fst, V.int .i64 (wrongPs [{ name := nm, body := body }]).snd], Ent.arr 42 1 [[lstI []]], Ent.tip 3 1, Ent.box [V.arr (st.length + 2) 1, V.lst 1 (some (st.length + 3)) [[V.int .i64 0]]]] = S0 at hG0 hG0' hl0 ⊢
  refine vfor (σ := Nat × St × V) [1, 2, 3, 5, 6, 27, 28, 29] (fun x => [(1, true, .ref [.str nm, .lst 12 none (body.map encC)]), (2, true, .ptr st.length 0), (3, true, .int .i64 0), (5, true, .ptr (st.length + 4) 0), (6, true, x.2.2), (27, true, .lst 12 none (body.map encC)), (28, true, .int .i64 body.length), (29, true, .int .i64 x.1)]) (fun x => x.2.1) (fun x => body.length - x.1) (fun x => x.1 ≤ body.length ∧ GS x.2.1 (st.length + 4) (st.length + 2) (st.length + 3) (genBody (body.take x.1) [] [⟨0, []⟩]).2 ∧ Kp (isG (st.length + 4) (st.length + 2) (st.length + 3)) S0 x.2.1 ∧ BX (st.length + 5) x.2.1 x.2.2 (genBody (body.take x.1) [] [⟨0, []⟩]).1) (0, S0 ++ [Ent.tip 46 0], .lst 11 (some (st.length + 5)) []) rfl TT_ok ⟨Nat.zero_le _, hG0', (Kp.refl _ _).app, _, _, rfl, rfl, by rw [List.getElem?_append_right (by omega), hl0, Nat.sub_self]; rfl, Nat.le_refl _⟩ rfl rfl ?_
  rintro ⟨i, S, v⟩ ⟨hi, hG1, hK1, hB1⟩
  simp only at hi hG1 hK1 hB1 ⊢
  obtain ⟨z1, z2, z3⟩ := genBody_size (body.take i) [] [⟨0, []⟩]
  simp only [List.length_nil, List.length_cons] at z1 z2 z3
  rcases at_or_end body i hi with ⟨rfl, hd⟩ | ⟨a, hlt, hget, hdr⟩
  · rw [List.take_length] at hG1 hB1 z1 z2 z3
    have hPS : protosR body = (genBody body [] [⟨0, []⟩]).2.modify 0 fun p => ⟨p.args, (genBody body [] [⟨0, []⟩]).1 ++ [{ op := 15 }]⟩ := rfl
    generalize hM : genBody body [] [⟨0, []⟩] = M at *
    obtain ⟨k, rows, rfl, hw, hk, hkn⟩ := hB1
    have hrl : rows.length = M.1.length := by have := hw.length; rw [List.length_map] at this; omega
    have hkb : k ≠ st.length + 4 := by intro e; subst e; have := hG1.box; rw [hk] at this; cases this
    have hkP : k ≠ st.length + 2 := by intro e; subst e; have := hG1.arr; rw [hk] at this; cases this
    have hkq : k ≠ st.length + 3 := by intro e; subst e; have := hG1.tip; rw [hk] at this; cases this
    have hPk : ∀ X, (S.set k X)[st.length + 2]? = some (.arr 42 1 (M.2.map fun p => [lstI p.code])) := fun X => by rw [List.getElem?_set_ne hkP, hG1.arr]
    have hbk : ∀ X, (S.set k X)[st.length + 4]? = some (.box [.arr (st.length + 2) M.2.length, .lst 1 (some (st.length + 3)) (M.2.map fun p => [V.int .i64 p.args])]) := fun X => by rw [List.getElem?_set_ne hkb, hG1.box]
    have hm0 : (0 : Nat) < M.2.length := by omega
    have hdr : List.drop 1 ((M.2.map fun p => [lstI p.code]).getD (Int.toNat 0) []) = [] := by
      show List.drop 1 ((M.2.map fun p => [lstI p.code]).getD 0 []) = []
      rw [getD_map (List.getElem?_eq_getElem hm0)]; rfl
    simp only [decide_true, decide_false, gwL, gwB, gwD, gwE, gwS, gwTT, gwZ, initG, Nat.reduceEqDiff, ↓reduceIte, Nat.reduceAdd, Nat.reduceLT, Nat.reduceLeDiff, List.map_cons, List.map_nil, builtS, builtinV, pureR, binV, sliceV, pickV, evO, Env.look, find, V.ofConst, resV, resOne, tupV, loadV, fillV, buildV, mkIface, litM, litS, litR, litRows, List.reverse_cons, List.reverse_nil, Nat.reduceMul, appS, memA, appendV, rowsOf, V.cells, TI.sized, TI.known, TI.agg, anL, List.length_cons, List.length_nil, List.append_nil, List.cons_append, List.nil_append, List.drop_succ_cons, List.drop_zero, List.drop_nil, List.take_succ_cons, List.take_zero, List.take_nil, List.getElem?_cons_zero, List.getElem?_cons_succ, List.all_cons, List.all_nil, List.replicate_succ, List.replicate_zero, List.set_cons_zero, List.set_cons_succ, eq_self, true_or, ne_eq, not_false_eq_true, Nat.reduceEqDiff, lt_no]
    refine vdraw2 TT_ok TT_mixed (σ := St) [0, 0, 0, 1, 0, 0, 1, 2, 1, 2] [0, 1, 2, 4, 5, 6, 7, 3, 8, 9] 3 7 [1, 2, 3, 5] (fun S2 => [(1, true, .ref [.str nm, .lst 12 none (body.map encC)]), (2, true, .ptr st.length 0), (3, true, .int .i64 0), (5, true, .ptr (st.length + 4) 0)]) (fun S2 => S2) (fun S2 => S2 = (S.set k (.tip 46 (M.1.length + 1))).set (st.length + 2) (.arr 42 1 ((M.2.map fun p => [lstI p.code]).set 0 [.lst 11 (some k) (rows ++ [[.int .i64 15, .int .i64 0, .int .i64 0, .str [], .str [], .int .i64 0, .int .i64 0, .str [], .int .i64 0, .int .i64 0, .nils]])]))) rfl (by kernel_rfl) ?_ ?_ ?_
    · simp only [decide_true, decide_false, gwL, gwB, gwD, gwE, gwS, gwTT, gwZ, initG, Nat.reduceEqDiff, ↓reduceIte, Nat.reduceAdd, Nat.reduceLT, Nat.reduceLeDiff, List.map_cons, List.map_nil, builtS, builtinV, pureR, binV, sliceV, pickV, evO, Env.look, find, V.ofConst, resV, resOne, tupV, loadV, fillV, buildV, mkIface, litM, litS, litR, litRows, List.reverse_cons, List.reverse_nil, Nat.reduceMul, appS, memA, appendV, rowsOf, V.cells, TI.sized, TI.known, TI.agg, anL, List.length_cons, List.length_nil, List.append_nil, List.cons_append, List.nil_append, List.drop_succ_cons, List.drop_zero, List.drop_nil, List.take_succ_cons, List.take_zero, List.take_nil, List.getElem?_cons_zero, List.getElem?_cons_succ, List.all_cons, List.all_nil, List.replicate_succ, List.replicate_zero, List.set_cons_zero, List.set_cons_succ, eq_self, true_or, ne_eq, not_false_eq_true, Nat.reduceEqDiff, hG1.box, hG1.arr, hk, hPk, hbk, List.length_map, hdr, hrl]
      exact ⟨by omega, by omega, hm0, rfl, rfl, _, rfl, rfl, rfl⟩
    · simp only [pickO, pickC, List.map_cons, List.map_nil, List.getD_cons_zero, List.getD_cons_succ]
      simp only [decide_true, decide_false, gwL, gwB, gwD, gwE, gwS, gwTT, gwZ, initG, Nat.reduceEqDiff, ↓reduceIte, Nat.reduceAdd, Nat.reduceLT, Nat.reduceLeDiff, List.map_cons, List.map_nil, builtS, builtinV, pureR, binV, sliceV, pickV, evO, Env.look, find, V.ofConst, resV, resOne, tupV, loadV, fillV, buildV, mkIface, litM, litS, litR, litRows, List.reverse_cons, List.reverse_nil, Nat.reduceMul, appS, memA, appendV, rowsOf, V.cells, TI.sized, TI.known, TI.agg, anL, List.length_cons, List.length_nil, List.append_nil, List.cons_append, List.nil_append, List.drop_succ_cons, List.drop_zero, List.drop_nil, List.take_succ_cons, List.take_zero, List.take_nil, List.getElem?_cons_zero, List.getElem?_cons_succ, List.all_cons, List.all_nil, List.replicate_succ, List.replicate_zero, List.set_cons_zero, List.set_cons_succ, eq_self, true_or, ne_eq, not_false_eq_true, Nat.reduceEqDiff, hG1.box, hG1.arr, hk, hPk, hbk, List.length_map, hdr, hrl]
      exact ⟨by omega, by omega, hm0, rfl, rfl, _, rfl, rfl, rfl⟩
    · intro S2 hS2
      obtain ⟨hG3, hK3⟩ := hG1.code k hkb hkP hkq (.tip 46 (M.1.length + 1)) 0 (M.1 ++ [{ op := 15 }])
      generalize hS3 : (S.set k (.tip 46 (M.1.length + 1))).set (st.length + 2) (.arr 42 1 ((M.2.map fun p => [lstI p.code]).set 0 [lstI (M.1 ++ [{ op := 15 }])])) = S3 at hG3 hK3
      have hw3 : wkSt S2 S3 := by
        rw [hS2, ← hS3]
        exact (wkSt_refl _).set (wk_arr (wkR_set (wkL_cons (wk_lst (by rw [List.map_append]; exact wkR_app hw (wkR_one (wk_ins 15 0 0 [] [])))) wkL_nil) _ _))
      rw [← hPS] at hG3
      have hl23 := hw3.length
      have hb2 : S2[st.length + 4]? = some (.box [.arr (st.length + 2) M.2.length, .lst 1 (some (st.length + 3)) (M.2.map fun p => [V.int .i64 p.args])]) := by
        rw [hS2, List.getElem?_set_ne (by omega), hbk]
      have hpl : (protosR body).length = M.2.length := by rw [hPS]; simp
      simp only [decide_true, decide_false, gwL, gwB, gwD, gwE, gwS, gwTT, gwZ, initG, Nat.reduceEqDiff, ↓reduceIte, Nat.reduceAdd, Nat.reduceLT, Nat.reduceLeDiff, List.map_cons, List.map_nil, builtS, builtinV, pureR, binV, sliceV, pickV, evO, Env.look, find, V.ofConst, resV, resOne, tupV, loadV, fillV, buildV, mkIface, litM, litS, litR, litRows, List.reverse_cons, List.reverse_nil, Nat.reduceMul, appS, memA, appendV, rowsOf, V.cells, TI.sized, TI.known, TI.agg, anL, List.length_cons, List.length_nil, List.append_nil, List.cons_append, List.nil_append, List.drop_succ_cons, List.drop_zero, List.drop_nil, List.take_succ_cons, List.take_zero, List.take_nil, List.getElem?_cons_zero, List.getElem?_cons_succ, List.all_cons, List.all_nil, List.replicate_succ, List.replicate_zero, List.set_cons_zero, List.set_cons_succ, eq_self, true_or, ne_eq, not_false_eq_true, Nat.reduceEqDiff, st_old (List.getElem?_eq_some_iff.1 hb2).1, hb2]
      refine VC.wkst (st' := S3 ++ [Ent.box [V.str nm, V.nils]]) ?_ (hw3.append (wkSt_refl _))
      rw [← hl23, ← hpl]
      refine vmore [44] [1, 2, 3, 5, 10, 61, 62, 63] [(1, true, .ref [.str nm, .lst 12 none (body.map encC)]), (2, true, .ptr st.length 0), (3, true, .int .i64 0), (5, true, .ptr (st.length + 4) 0), (10, true, .ptr S3.length 0), (61, true, .arr (st.length + 2) (protosR body).length), (62, true, .int .i64 (protosR body).length), (63, true, .int .i64 0)] ((S3 ++ [Ent.box [V.str nm, .lst 2 (some (S3.length + 1)) []]]) ++ [Ent.tip 44 0]) rfl ?_ ?_ ?_
      · exact wkE_refl _
      · exact ⟨_, (wkSt_refl _).append (wkSt_cons (Ent.wk_box (wkL_cons (wk_refl _) (wkL_cons (wk_tip _ (by simp [Tips])) wkL_nil))) wkSt_nil), rfl⟩
      have hpl2 : (protosR body).length ≤ 1000000 := by omega
      have hpl3 : 0 < (protosR body).length := by omega
      have hl30 := hK3.1
      have hl10 := hK1.1
      refine vmelt 5 (st.length + 4) [.arr (st.length + 2) (protosR body).length, .lst 1 (some (st.length + 3)) ((protosR body).map fun p => [V.int .i64 p.args])] rfl (((hG3.app _).app _).box) ?_
      simp only [meltE, ↓reduceIte, Nat.reduceEqDiff]
      have hK40 : Kp (fun j => j = st.length + 4 ∨ S3.length ≤ j) S3 (((S3 ++ [Ent.box [V.str nm, .lst 2 (some (S3.length + 1)) []]]) ++ [Ent.tip 44 0]).set (st.length + 4) .gone) :=
        ⟨by simp, fun j hj hx => by rw [List.getElem?_set_ne (fun e => hx (.inl e.symm)), List.append_assoc, st_old hj]⟩
      refine vfor (σ := Nat × St) [1, 2, 3, 5, 10, 61, 62, 63] (fun x => [(1, true, .ref [.str nm, .lst 12 none (body.map encC)]), (2, true, .ptr st.length 0), (3, true, .int .i64 0), (5, true, .ref [.arr (st.length + 2) (protosR body).length, .lst 1 (some (st.length + 3)) ((protosR body).map fun p => [V.int .i64 p.args])]), (10, true, .ptr S3.length 0), (61, true, .arr (st.length + 2) (protosR body).length), (62, true, .int .i64 (protosR body).length), (63, true, .int .i64 x.1)]) (fun x => x.2) (fun x => (protosR body).length - x.1) (fun x => x.1 ≤ (protosR body).length ∧ x.2[st.length + 2]? = some (.arr 42 1 ((protosR body).map fun p => [lstI p.code])) ∧ Kp (fun j => j = st.length + 4 ∨ S3.length ≤ j) S3 x.2 ∧ x.2[S3.length]? = some (.box [.str nm, .lst 2 (some (S3.length + 1)) (((protosR body).take x.1).map encPr)]) ∧ x.2[S3.length + 1]? = some (.tip 44 x.1) ∧ (∀ (j : Nat) (q : Pr), j < x.1 → (protosR body)[j]? = some q → q.code.length ≤ 6000) ∧ (0 < x.1 → (protosR body).length ≤ 500)) (0, ((S3 ++ [Ent.box [V.str nm, .lst 2 (some (S3.length + 1)) []]]) ++ [Ent.tip 44 0]).set (st.length + 4) .gone) rfl TT_ok ⟨Nat.zero_le _, by rw [hK40.2 _ hG3.lt.2.1 (by omega), hG3.arr], hK40, by rw [List.getElem?_set_ne (by omega)]; simp, by rw [List.getElem?_set_ne (by omega)]; simp, fun j q h => absurd h (Nat.not_lt_zero _), fun h => absurd h (Nat.lt_irrefl _)⟩ rfl rfl ?_
      rintro ⟨i, S4⟩ ⟨hi4, hG4, hK4, hu, hK, hall, h500⟩
      simp only at hi4 hG4 hK4 hu hK hall h500 ⊢
      have hl1 := hK1.1
      have hl3 := hK3.1
      have hl4 := hK4.1
      have hpre : ∀ j : Nat, j ≤ st.length → S4[j]? = S0[j]? := fun j hj => by
        rw [hK4.2 j (by omega) (by omega), hK3.2 j (by omega) (by rintro ((h | h | h) | h) <;> omega), hK1.2 j (by omega) (by rintro (h | h | h) <;> omega)]
      have hst0 : ∀ j : Nat, j < st.length → S4[j]? = st[j]? := fun j hj => by rw [hpre j (by omega), ← hS0, st_old hj]
      have hc : S4[st.length]? = some (.box [.str [], .nils]) := by rw [hpre _ (Nat.le_refl _), ← hS0]; simp only [gwL]
      have hcs : ∀ X, (S4.set st.length X)[st.length]? = some X := fun X => List.getElem?_set_self (by omega)
      have hsp : ∀ X, ∀ j : Nat, j < st.length → (S4.set st.length X)[j]? = st[j]? := fun X j hj => by rw [List.getElem?_set_ne (by omega), hst0 j hj]
      rcases at_or_end (protosR body) i hi4 with ⟨rfl, hd4⟩ | ⟨a, hlt, hget, hdr4⟩
      · have hm : muchP (protosR body) = false := by
          simp only [muchP, Bool.or_eq_false_iff, decide_eq_false_iff_not]
          have := h500 hpl3
          refine ⟨by omega, ?_⟩
          rw [List.any_eq_false]
          intro q hq
          obtain ⟨j, hj⟩ := List.getElem?_of_mem hq
          have := hall j q (List.getElem?_eq_some_iff.1 hj).1 hj
          simp; omega
        rw [hm]
        rw [List.take_length] at hu
        simp only [decide_true, decide_false, gwL, gwB, gwD, gwE, gwS, gwTT, gwZ, initG, Nat.reduceEqDiff, ↓reduceIte, Nat.reduceAdd, Nat.reduceLT, Nat.reduceLeDiff, List.map_cons, List.map_nil, builtS, builtinV, pureR, binV, sliceV, pickV, evO, Env.look, find, V.ofConst, resV, resOne, tupV, loadV, fillV, buildV, mkIface, litM, litS, litR, litRows, List.reverse_cons, List.reverse_nil, Nat.reduceMul, appS, memA, appendV, rowsOf, V.cells, TI.sized, TI.known, TI.agg, anL, List.length_cons, List.length_nil, List.append_nil, List.cons_append, List.nil_append, List.drop_succ_cons, List.drop_zero, List.drop_nil, List.take_succ_cons, List.take_zero, List.take_nil, List.getElem?_cons_zero, List.getElem?_cons_succ, List.all_cons, List.all_nil, List.replicate_succ, List.replicate_zero, List.set_cons_zero, List.set_cons_succ, eq_self, true_or, ne_eq, not_false_eq_true, Nat.reduceEqDiff, lt_no, hu, hc, hcs]
        exact frz_pre (hsp _) (by rw [List.length_set]; omega) _ (.same _) (wk_tup (wkL_cons (wk_agg (wkL_cons (wk_refl _) (wkL_cons (wk_tok ..) wkL_nil))) (wkL_refl _))) (compV_lt _ _)
      · simp only [decide_true, decide_false, gwL, gwB, gwD, gwE, gwS, gwTT, gwZ, initG, Nat.reduceEqDiff, ↓reduceIte, Nat.reduceAdd, Nat.reduceLT, Nat.reduceLeDiff, List.map_cons, List.map_nil, builtS, builtinV, pureR, binV, sliceV, pickV, evO, Env.look, find, V.ofConst, resV, resOne, tupV, loadV, fillV, buildV, mkIface, litM, litS, litR, litRows, List.reverse_cons, List.reverse_nil, Nat.reduceMul, appS, memA, appendV, rowsOf, V.cells, TI.sized, TI.known, TI.agg, anL, List.length_cons, List.length_nil, List.append_nil, List.cons_append, List.nil_append, List.drop_succ_cons, List.drop_zero, List.drop_nil, List.take_succ_cons, List.take_zero, List.take_nil, List.getElem?_cons_zero, List.getElem?_cons_succ, List.all_cons, List.all_nil, List.replicate_succ, List.replicate_zero, List.set_cons_zero, List.set_cons_succ, eq_self, true_or, ne_eq, not_false_eq_true, Nat.reduceEqDiff, lt_yes hlt, Int.ofNat_lt.mpr hlt, hG4, getD_map hget, lstI, List.length_map]
        refine ⟨hlt, iK_split (fun h7 => ?_) (fun h7 => ?_)⟩
        · have hm : muchP (protosR body) = true := by
            simp only [Bool.or_eq_true, decide_eq_true_eq] at h7
            simp only [muchP, Bool.or_eq_true, List.any_eq_true, decide_eq_true_eq]
            rcases h7 with h7 | h7
            · exact .inr ⟨a, List.mem_of_getElem? hget, by omega⟩
            · exact .inl (by omega)
          rw [hm]
          simp only [decide_true, decide_false, gwL, gwB, gwD, gwE, gwS, gwTT, gwZ, initG, Nat.reduceEqDiff, ↓reduceIte, Nat.reduceAdd, Nat.reduceLT, Nat.reduceLeDiff, List.map_cons, List.map_nil, builtS, builtinV, pureR, binV, sliceV, pickV, evO, Env.look, find, V.ofConst, resV, resOne, tupV, loadV, fillV, buildV, mkIface, litM, litS, litR, litRows, List.reverse_cons, List.reverse_nil, Nat.reduceMul, appS, memA, appendV, rowsOf, V.cells, TI.sized, TI.known, TI.agg, anL, List.length_cons, List.length_nil, List.append_nil, List.cons_append, List.nil_append, List.drop_succ_cons, List.drop_zero, List.drop_nil, List.take_succ_cons, List.take_zero, List.take_nil, List.getElem?_cons_zero, List.getElem?_cons_succ, List.all_cons, List.all_nil, List.replicate_succ, List.replicate_zero, List.set_cons_zero, List.set_cons_succ, eq_self, true_or, ne_eq, not_false_eq_true, Nat.reduceEqDiff, hc, hcs]
          exact frz_pre (hsp _) (by rw [List.length_set]; omega) _ (.same _) (wk_tup (wkL_cons (wk_agg (wkL_cons (wk_refl _) (wkL_cons (wk_nils _) wkL_nil))) (wkL_refl _))) (compV_lt _ _)
        · have h8 : a.code.length ≤ 6000 ∧ (protosR body).length ≤ 500 := by
            simp only [Bool.or_eq_false_iff, decide_eq_false_iff_not] at h7
            omega
          simp only [decide_true, decide_false, gwL, gwB, gwD, gwE, gwS, gwTT, gwZ, initG, Nat.reduceEqDiff, ↓reduceIte, Nat.reduceAdd, Nat.reduceLT, Nat.reduceLeDiff, List.map_cons, List.map_nil, builtS, builtinV, pureR, binV, sliceV, pickV, evO, Env.look, find, V.ofConst, resV, resOne, tupV, loadV, fillV, buildV, mkIface, litM, litS, litR, litRows, List.reverse_cons, List.reverse_nil, Nat.reduceMul, appS, memA, appendV, rowsOf, V.cells, TI.sized, TI.known, TI.agg, anL, List.length_cons, List.length_nil, List.append_nil, List.cons_append, List.nil_append, List.drop_succ_cons, List.drop_zero, List.drop_nil, List.take_succ_cons, List.take_zero, List.take_nil, List.getElem?_cons_zero, List.getElem?_cons_succ, List.all_cons, List.all_nil, List.replicate_succ, List.replicate_zero, List.set_cons_zero, List.set_cons_succ, eq_self, true_or, ne_eq, not_false_eq_true, Nat.reduceEqDiff]
          refine vdraw TT_ok TT_mixed [0, 1, 0, 0, 0, 0, 0, 0, 0, 0, 0, 1, 2, 0, 2] (by kernel_rfl) ?_
          have hmin : min i (protosR body).length = i := Nat.min_eq_left (Nat.le_of_lt hlt)
          have hKu : ∀ X, (S4.set (S3.length + 1) X)[S3.length]? = some (.box [.str nm, .lst 2 (some (S3.length + 1)) (((protosR body).take i).map encPr)]) := fun X => by rw [List.getElem?_set_ne (by omega), hu]
          simp only [decide_true, decide_false, gwL, gwB, gwD, gwE, gwS, gwTT, gwZ, initG, Nat.reduceEqDiff, ↓reduceIte, Nat.reduceAdd, Nat.reduceLT, Nat.reduceLeDiff, List.map_cons, List.map_nil, builtS, builtinV, pureR, binV, sliceV, pickV, evO, Env.look, find, V.ofConst, resV, resOne, tupV, loadV, fillV, buildV, mkIface, litM, litS, litR, litRows, List.reverse_cons, List.reverse_nil, Nat.reduceMul, appS, memA, appendV, rowsOf, V.cells, TI.sized, TI.known, TI.agg, anL, List.length_cons, List.length_nil, List.append_nil, List.cons_append, List.nil_append, List.drop_succ_cons, List.drop_zero, List.drop_nil, List.take_succ_cons, List.take_zero, List.take_nil, List.getElem?_cons_zero, List.getElem?_cons_succ, List.all_cons, List.all_nil, List.replicate_succ, List.replicate_zero, List.set_cons_zero, List.set_cons_succ, eq_self, true_or, ne_eq, not_false_eq_true, Nat.reduceEqDiff, hu, hK, hKu, getD_map hget, List.length_map, List.length_take, hmin]
          have hul : S3.length < S4.length := (List.getElem?_eq_some_iff.1 hu).1
          have hKl : S3.length + 1 < S4.length := (List.getElem?_eq_some_iff.1 hK).1
          refine ⟨by omega, by omega, (i + 1, (S4.set (S3.length + 1) (.tip 44 (i + 1))).set S3.length (.box [.str nm, .lst 2 (some (S3.length + 1)) (((protosR body).take i).map encPr ++ [[.int .i64 a.args, .lst 11 none (a.code.map encI)]])])), by simp only [next_i64 hlt (show (protosR body).length ≤ 9223372036854775807 by omega)]; rfl, rfl, by simp only; omega, by simp only; omega, ?_, ?_, ?_, ?_, ?_, fun _ => h8.2⟩
          · simp only; rw [List.getElem?_set_ne (by omega), List.getElem?_set_ne (by omega)]; exact hG4
          · exact hK4.then (Y := fun j => S3.length ≤ j) ⟨by simp, fun j hj hx => by rw [List.getElem?_set_ne (by omega), List.getElem?_set_ne (by omega)]⟩ fun j _ h => .inr h
          · simp only; rw [List.getElem?_set_self (by rw [List.length_set]; exact hul), take_next hget, List.map_append]; rfl
          · simp only; rw [List.getElem?_set_ne (by omega), List.getElem?_set_self hKl]
          · intro j q hj hq
            simp only at hj
            rcases Nat.lt_or_ge j i with h9 | h9
            · exact hall j q h9 hq
            · have : j = i := by omega
              subst this
              rw [hget] at hq
              cases hq
              exact h8.1
  · have hnt := nodesCs_take hget
    have hG2 := hG1.app [Ent.box (encC a)]
    simp only [decide_true, decide_false, gwL, gwB, gwD, gwE, gwS, gwTT, gwZ, initG, Nat.reduceEqDiff, ↓reduceIte, Nat.reduceAdd, Nat.reduceLT, Nat.reduceLeDiff, List.map_cons, List.map_nil, builtS, builtinV, pureR, binV, sliceV, pickV, evO, Env.look, find, V.ofConst, resV, resOne, tupV, loadV, fillV, buildV, mkIface, litM, litS, litR, litRows, List.reverse_cons, List.reverse_nil, Nat.reduceMul, appS, memA, appendV, rowsOf, V.cells, TI.sized, TI.known, TI.agg, anL, List.length_cons, List.length_nil, List.append_nil, List.cons_append, List.nil_append, List.drop_succ_cons, List.drop_zero, List.drop_nil, List.take_succ_cons, List.take_zero, List.take_nil, List.getElem?_cons_zero, List.getElem?_cons_succ, List.all_cons, List.all_nil, List.replicate_succ, List.replicate_zero, List.set_cons_zero, List.set_cons_succ, eq_self, true_or, ne_eq, not_false_eq_true, Nat.reduceEqDiff, lt_yes hlt, List.length_map, getD_map hget, Int.ofNat_lt.mpr hlt, encC_take, encC_len, encC_drop]
    obtain ⟨y1, y2, y3⟩ := genC_size a (genBody (body.take i) [] [⟨0, []⟩]).2
    refine useQS (c_Code a (okCs_mem hok1 (List.mem_of_getElem? hget)) _ _ _ _ _ hG2 (by omega) (by omega)) (wkL_refl _) (wkSt_refl _) (by rintro v s' ⟨o, h, _⟩; cases h) ?_
    rintro X s1 hX ⟨o1, hX', ho1, htip1, hG3, hK3⟩
    cases hX'
    have hB3 := hB1.keep hG1 hK3.app
    obtain ⟨k, rows, rfl, hw, hk, hkn⟩ := hB3
    have hrl : rows.length = (genBody (body.take i) [] [⟨0, []⟩]).1.length := by have := hw.length; rw [List.length_map] at this; omega
    have hsk : ∀ X, (s1.set k X)[k]? = some X := fun X => List.getElem?_set_self (List.getElem?_eq_some_iff.1 hk).1
    simp only [decide_true, decide_false, gwL, gwB, gwD, gwE, gwS, gwTT, gwZ, initG, Nat.reduceEqDiff, ↓reduceIte, Nat.reduceAdd, Nat.reduceLT, Nat.reduceLeDiff, List.map_cons, List.map_nil, builtS, builtinV, pureR, binV, sliceV, pickV, evO, Env.look, find, V.ofConst, resV, resOne, tupV, loadV, fillV, buildV, mkIface, litM, litS, litR, litRows, List.reverse_cons, List.reverse_nil, Nat.reduceMul, appS, memA, appendV, rowsOf, V.cells, TI.sized, TI.known, TI.agg, anL, List.length_cons, List.length_nil, List.append_nil, List.cons_append, List.nil_append, List.drop_succ_cons, List.drop_zero, List.drop_nil, List.take_succ_cons, List.take_zero, List.take_nil, List.getElem?_cons_zero, List.getElem?_cons_succ, List.all_cons, List.all_nil, List.replicate_succ, List.replicate_zero, List.set_cons_zero, List.set_cons_succ, eq_self, true_or, ne_eq, not_false_eq_true, Nat.reduceEqDiff, hrl]
    refine (c_moved _ _ (genBody (body.take i) [] [⟨0, []⟩]).1.length (by omega)).use (wkL_cons (wk_tok ..) (wkL_refl _)) fun _ => ?_
    simp only [decide_true, decide_false, gwL, gwB, gwD, gwE, gwS, gwTT, gwZ, initG, Nat.reduceEqDiff, ↓reduceIte, Nat.reduceAdd, Nat.reduceLT, Nat.reduceLeDiff, List.map_cons, List.map_nil, builtS, builtinV, pureR, binV, sliceV, pickV, evO, Env.look, find, V.ofConst, resV, resOne, tupV, loadV, fillV, buildV, mkIface, litM, litS, litR, litRows, List.reverse_cons, List.reverse_nil, Nat.reduceMul, appS, memA, appendV, rowsOf, V.cells, TI.sized, TI.known, TI.agg, anL, List.length_cons, List.length_nil, List.append_nil, List.cons_append, List.nil_append, List.drop_succ_cons, List.drop_zero, List.drop_nil, List.take_succ_cons, List.take_zero, List.take_nil, List.getElem?_cons_zero, List.getElem?_cons_succ, List.all_cons, List.all_nil, List.replicate_succ, List.replicate_zero, List.set_cons_zero, List.set_cons_succ, eq_self, true_or, ne_eq, not_false_eq_true, Nat.reduceEqDiff, lstI, List.length_map, hk, hsk, hrl, List.length_append, List.set_set]
    generalize hM : genBody (body.take i) [] [⟨0, []⟩] = M at *
    generalize hA : genC a M.2 = A at *
    have hnx : genBody (body.take (i + 1)) [] [⟨0, []⟩] = (addI M.1 A.1 ++ [{ op := 14 }], A.2) := by rw [take_next hget, genBody_snoc, hM, hA]
    have hkb : k ≠ st.length + 4 := by intro e; subst e; have := hG3.box; rw [hk] at this; cases this
    have hkP : k ≠ st.length + 2 := by intro e; subst e; have := hG3.arr; rw [hk] at this; cases this
    have hkq : k ≠ st.length + 3 := by intro e; subst e; have := hG3.tip; rw [hk] at this; cases this
    refine ⟨by omega, by omega, (i + 1, s1.set k (.tip 46 (M.1.length + (A.1.length + 1))), .lst 11 (some k) (rows ++ (A.1.map (mvI M.1.length)).map encI ++ [[.int .i64 14, .int .i64 0, .int .i64 0, .str [], .str [], .int .i64 0, .int .i64 0, .str [], .int .i64 0, .int .i64 0, .nils]])), by simp only [next_i64 hlt (show body.length ≤ 9223372036854775807 by omega)]; rfl, rfl, by simp only; omega, by simp only; omega, ?_, ?_, ?_⟩
    · simp only; rw [hnx]; exact hG3.keep (X := fun j => j = k) ⟨by simp, fun j _ hj => List.getElem?_set_ne (Ne.symm hj)⟩ (Ne.symm hkb) (Ne.symm hkP) (Ne.symm hkq)
    · exact (hK1.trans hK3.app).then (Y := fun j => j = k) ⟨by simp, fun j _ hj => List.getElem?_set_ne (Ne.symm hj)⟩ fun j hj h => by omega
    · simp only; rw [hnx]
      refine ⟨_, _, rfl, ?_, ?_, hkn⟩
      · rw [addI, List.map_append, List.map_append]; exact wkR_app (wkR_app hw (wkR_refl _)) (wkR_one (wk_ins ..))
      · rw [hsk]; simp [addI]

theorem c_refCompile (p : Part) (st : St) : VCalls Try.prog TT 8 [.agg (encP p)] st fun r s => r = .ret (compV (compileR p)) ∧ s = st :=
  (c_refCompile0 p st).freeze fun _ _ h => h
end Go.Proofs.Ytpfdoffnpkokhaa.Gx

namespace Go.Proofs.Ytpfdoffnpkokhaa.Gx
open Go Go.Proofs.Ytpfdoffnpkokhaa.Gw
set_option linter.unusedSimpArgs false

def sameI (x y : Ins) : Bool := ((((decide (x.op = y.op) && decide (x.a = y.a)) && decide (x.n = y.n)) && decide (x.lib = y.lib)) && decide (x.own = y.own)) && eqD x.quote y.quote
def sameL : List Ins → List Ins → Bool
  | [], [] => true
  | x :: r, y :: s => sameI x y && sameL r s
  | [], _ :: _ => false
  | _ :: _, [] => false
def samePs : List Pr → List Pr → Bool
  | [], [] => true
  | p :: r, q :: s => (decide (p.args = q.args) && decide (p.code.length = q.code.length)) && (sameL p.code q.code && samePs r s)
  | [], _ :: _ => false
  | _ :: _, [] => false
theorem samePs_len : ∀ {l m : List Pr}, l.length ≠ m.length → samePs l m = false
  | [], [], h => absurd rfl h
  | [], _ :: _, _ => by simp only [samePs]
  | _ :: _, [], _ => by simp only [samePs]
  | a :: r, b :: r', h => by
    simp only [samePs, samePs_len (l := r) (m := r') (by simpa using h), Bool.and_false]

set_option maxRecDepth 20000 in
set_option maxHeartbeats 8000000 in
theorem c_SameProtos (l m : List Pr) (st : St) : VCalls Try.prog TT 13 [lstPr l, lstPr m] st fun r st' => r = .ret (.bool (samePs l m)) ∧ st' = st := by
  refine vfun TT_ok (an := anL []) (L := [0, 1, 4, 5, 6, 7, 8, 15, 16, 50, 51]) (rs := [.tmp 4]) Try.func13 rfl (by kernel_rfl) rfl Try.ntmps13 rfl rfl (Nat.le_refl _) fun hst ha hf => ?_
  simp only [lstPr, fitL, V.fit, List.length_map] at hf ⊢
  obtain ⟨⟨hkl, hfl⟩, ⟨hkm, hfm⟩, _⟩ := hf
  simp only [decide_true, decide_false, gwL, gwB, gwD, gwE, gwS, gwTT, gwZ, initG, Nat.reduceEqDiff, ↓reduceIte, Nat.reduceAdd, Nat.reduceLT, Nat.reduceLeDiff, List.map_cons, List.map_nil, builtS, builtinV, pureR, binV, sliceV, pickV, evO, Env.look, find, V.ofConst, resV, resOne, tupV, loadV, fillV, buildV, mkIface, litM, litS, litR, litRows, List.reverse_cons, List.reverse_nil, Nat.reduceMul, appS, memA, appendV, rowsOf, V.cells, TI.sized, TI.known, TI.agg, anL, List.length_cons, List.length_nil, List.append_nil, List.cons_append, List.nil_append, List.drop_succ_cons, List.drop_zero, List.drop_nil, List.take_succ_cons, List.take_zero, List.take_nil, List.getElem?_cons_zero, List.getElem?_cons_succ, List.all_cons, List.all_nil, List.replicate_succ, List.replicate_zero, List.set_cons_zero, List.set_cons_succ, eq_self, true_or, ne_eq, not_false_eq_true, Nat.reduceEqDiff, List.length_map]
  refine iK_split (fun h => ?_) (fun h => ?_)
  · simp only [decide_true, decide_false, gwL, gwB, gwD, gwE, gwS, gwTT, gwZ, initG, Nat.reduceEqDiff, ↓reduceIte, Nat.reduceAdd, Nat.reduceLT, Nat.reduceLeDiff, List.map_cons, List.map_nil, builtS, builtinV, pureR, binV, sliceV, pickV, evO, Env.look, find, V.ofConst, resV, resOne, tupV, loadV, fillV, buildV, mkIface, litM, litS, litR, litRows, List.reverse_cons, List.reverse_nil, Nat.reduceMul, appS, memA, appendV, rowsOf, V.cells, TI.sized, TI.known, TI.agg, anL, List.length_cons, List.length_nil, List.append_nil, List.cons_append, List.nil_append, List.drop_succ_cons, List.drop_zero, List.drop_nil, List.take_succ_cons, List.take_zero, List.take_nil, List.getElem?_cons_zero, List.getElem?_cons_succ, List.all_cons, List.all_nil, List.replicate_succ, List.replicate_zero, List.set_cons_zero, List.set_cons_succ, eq_self, true_or, ne_eq, not_false_eq_true, Nat.reduceEqDiff]
    refine gives_bool ?_ hst
    rw [samePs_len]
    simp at h
    omega
  have hlen : l.length = m.length := by simp at h; omega
  simp only [decide_true, decide_false, gwL, gwB, gwD, gwE, gwS, gwTT, gwZ, initG, Nat.reduceEqDiff, ↓reduceIte, Nat.reduceAdd, Nat.reduceLT, Nat.reduceLeDiff, List.map_cons, List.map_nil, builtS, builtinV, pureR, binV, sliceV, pickV, evO, Env.look, find, V.ofConst, resV, resOne, tupV, loadV, fillV, buildV, mkIface, litM, litS, litR, litRows, List.reverse_cons, List.reverse_nil, Nat.reduceMul, appS, memA, appendV, rowsOf, V.cells, TI.sized, TI.known, TI.agg, anL, List.length_cons, List.length_nil, List.append_nil, List.cons_append, List.nil_append, List.drop_succ_cons, List.drop_zero, List.drop_nil, List.take_succ_cons, List.take_zero, List.take_nil, List.getElem?_cons_zero, List.getElem?_cons_succ, List.all_cons, List.all_nil, List.replicate_succ, List.replicate_zero, List.set_cons_zero, List.set_cons_succ, eq_self, true_or, ne_eq, not_false_eq_true, Nat.reduceEqDiff, List.length_map]
  refine vfor (σ := Nat × St) [0, 1, 4, 15, 16] (fun x => [(0, true, lstPr l), (1, true, lstPr m), (4, true, .bool false), (15, true, .int .i64 l.length), (16, true, .int .i64 x.1)]) (fun x => st ++ x.2) (fun x => l.length - x.1) (fun x => x.1 ≤ l.length ∧ samePs l m = samePs (l.drop x.1) (m.drop x.1)) (0, []) rfl TT_ok ⟨Nat.zero_le _, rfl⟩ rfl (List.append_nil st).symm ?_
  rintro ⟨i, ex⟩ ⟨hi, hx⟩
  simp only at hi hx ⊢
  rw [hx]
  simp only [lstPr]
  rcases at_or_end l i hi with ⟨rfl, hd⟩ | ⟨a, hlt, hget, hdr⟩
  · have hd2 : m.drop l.length = [] := List.drop_of_length_le (by omega)
    simp only [decide_true, decide_false, gwL, gwB, gwD, gwE, gwS, gwTT, gwZ, initG, Nat.reduceEqDiff, ↓reduceIte, Nat.reduceAdd, Nat.reduceLT, Nat.reduceLeDiff, List.map_cons, List.map_nil, builtS, builtinV, pureR, binV, sliceV, pickV, evO, Env.look, find, V.ofConst, resV, resOne, tupV, loadV, fillV, buildV, mkIface, litM, litS, litR, litRows, List.reverse_cons, List.reverse_nil, Nat.reduceMul, appS, memA, appendV, rowsOf, V.cells, TI.sized, TI.known, TI.agg, anL, List.length_cons, List.length_nil, List.append_nil, List.cons_append, List.nil_append, List.drop_succ_cons, List.drop_zero, List.drop_nil, List.take_succ_cons, List.take_zero, List.take_nil, List.getElem?_cons_zero, List.getElem?_cons_succ, List.all_cons, List.all_nil, List.replicate_succ, List.replicate_zero, List.set_cons_zero, List.set_cons_succ, eq_self, true_or, ne_eq, not_false_eq_true, Nat.reduceEqDiff, lt_no, hd, hd2, samePs]
    exact gives_bool' rfl hst
  · rcases at_or_end m i (by omega) with ⟨e, hd⟩ | ⟨b, hlt2, hget2, hdr2⟩
    · omega
    simp only [decide_true, decide_false, gwL, gwB, gwD, gwE, gwS, gwTT, gwZ, initG, Nat.reduceEqDiff, ↓reduceIte, Nat.reduceAdd, Nat.reduceLT, Nat.reduceLeDiff, List.map_cons, List.map_nil, builtS, builtinV, pureR, binV, sliceV, pickV, evO, Env.look, find, V.ofConst, resV, resOne, tupV, loadV, fillV, buildV, mkIface, litM, litS, litR, litRows, List.reverse_cons, List.reverse_nil, Nat.reduceMul, appS, memA, appendV, rowsOf, V.cells, TI.sized, TI.known, TI.agg, anL, List.length_cons, List.length_nil, List.append_nil, List.cons_append, List.nil_append, List.drop_succ_cons, List.drop_zero, List.drop_nil, List.take_succ_cons, List.take_zero, List.take_nil, List.getElem?_cons_zero, List.getElem?_cons_succ, List.all_cons, List.all_nil, List.replicate_succ, List.replicate_zero, List.set_cons_zero, List.set_cons_succ, eq_self, true_or, ne_eq, not_false_eq_true, Nat.reduceEqDiff, lt_yes hlt, hdr, hdr2, samePs, List.length_map, Int.ofNat_lt.mpr hlt]
    refine vdraw TT_ok TT_mixed [0, 0, 0, 0, 1, 0, 0, 0, 0, 1, 0, 0, 0, 0, 0, 0, 1, 0, 0, 0, 0, 0, 1, 0, 0, 0] (by kernel_rfl) ?_
    simp only [decide_true, decide_false, gwL, gwB, gwD, gwE, gwS, gwTT, gwZ, initG, Nat.reduceEqDiff, ↓reduceIte, Nat.reduceAdd, Nat.reduceLT, Nat.reduceLeDiff, List.map_cons, List.map_nil, builtS, builtinV, pureR, binV, sliceV, pickV, evO, Env.look, find, V.ofConst, resV, resOne, tupV, loadV, fillV, buildV, mkIface, litM, litS, litR, litRows, List.reverse_cons, List.reverse_nil, Nat.reduceMul, appS, memA, appendV, rowsOf, V.cells, TI.sized, TI.known, TI.agg, anL, List.length_cons, List.length_nil, List.append_nil, List.cons_append, List.nil_append, List.drop_succ_cons, List.drop_zero, List.drop_nil, List.take_succ_cons, List.take_zero, List.take_nil, List.getElem?_cons_zero, List.getElem?_cons_succ, List.all_cons, List.all_nil, List.replicate_succ, List.replicate_zero, List.set_cons_zero, List.set_cons_succ, eq_self, true_or, ne_eq, not_false_eq_true, Nat.reduceEqDiff, List.length_map, getD_map hget, getD_map hget2, encPr, lstI, Int.ofNat_lt.mpr hlt, Int.ofNat_lt.mpr hlt2]
    have hfa := fit_rows hfl (List.mem_of_getElem? hget)
    simp only [encPr, lstI, fitL, V.fit, List.length_map] at hfa
    have hal : a.code.length ≤ 9223372036854775807 := hfa.2.1.1
    refine iK_split (fun h5 => ?_) (fun h5 => ?_)
    · have e5 : (decide (a.args = b.args) && decide (a.code.length = b.code.length)) = false := by
        revert h5
        cases decide (a.args = b.args) <;> simp
        omega
      simp only [decide_true, decide_false, gwL, gwB, gwD, gwE, gwS, gwTT, gwZ, initG, Nat.reduceEqDiff, ↓reduceIte, Nat.reduceAdd, Nat.reduceLT, Nat.reduceLeDiff, List.map_cons, List.map_nil, builtS, builtinV, pureR, binV, sliceV, pickV, evO, Env.look, find, V.ofConst, resV, resOne, tupV, loadV, fillV, buildV, mkIface, litM, litS, litR, litRows, List.reverse_cons, List.reverse_nil, Nat.reduceMul, appS, memA, appendV, rowsOf, V.cells, TI.sized, TI.known, TI.agg, anL, List.length_cons, List.length_nil, List.append_nil, List.cons_append, List.nil_append, List.drop_succ_cons, List.drop_zero, List.drop_nil, List.take_succ_cons, List.take_zero, List.take_nil, List.getElem?_cons_zero, List.getElem?_cons_succ, List.all_cons, List.all_nil, List.replicate_succ, List.replicate_zero, List.set_cons_zero, List.set_cons_succ, eq_self, true_or, ne_eq, not_false_eq_true, Nat.reduceEqDiff, e5]
      exact gives_bool' rfl hst
    have e5 : (decide (a.args = b.args) && decide (a.code.length = b.code.length)) = true := by
      revert h5
      cases decide (a.args = b.args) <;> simp
      omega
    have hcl : a.code.length = b.code.length := by simp at e5; exact e5.2
    rw [e5]
    simp only [decide_true, decide_false, gwL, gwB, gwD, gwE, gwS, gwTT, gwZ, initG, Nat.reduceEqDiff, ↓reduceIte, Nat.reduceAdd, Nat.reduceLT, Nat.reduceLeDiff, List.map_cons, List.map_nil, builtS, builtinV, pureR, binV, sliceV, pickV, evO, Env.look, find, V.ofConst, resV, resOne, tupV, loadV, fillV, buildV, mkIface, litM, litS, litR, litRows, List.reverse_cons, List.reverse_nil, Nat.reduceMul, appS, memA, appendV, rowsOf, V.cells, TI.sized, TI.known, TI.agg, anL, List.length_cons, List.length_nil, List.append_nil, List.cons_append, List.nil_append, List.drop_succ_cons, List.drop_zero, List.drop_nil, List.take_succ_cons, List.take_zero, List.take_nil, List.getElem?_cons_zero, List.getElem?_cons_succ, List.all_cons, List.all_nil, List.replicate_succ, List.replicate_zero, List.set_cons_zero, List.set_cons_succ, eq_self, true_or, ne_eq, not_false_eq_true, Nat.reduceEqDiff, List.length_map, getD_map hget, encPr, lstI, Int.ofNat_lt.mpr hlt]
    refine vfor (σ := Nat × St) [0, 1, 4, 5, 15, 16, 50, 51] (fun x => [(0, true, lstPr l), (1, true, lstPr m), (4, true, .bool false), (5, true, .int .i64 i), (15, true, .int .i64 l.length), (16, true, .int .i64 i), (50, true, .int .i64 a.code.length), (51, true, .int .i64 x.1)]) (fun x => st ++ x.2) (fun x => a.code.length - x.1) (fun x => x.1 ≤ a.code.length ∧ sameL a.code b.code = sameL (a.code.drop x.1) (b.code.drop x.1)) (0, ex) rfl TT_ok ⟨Nat.zero_le _, rfl⟩ rfl rfl ?_
    rintro ⟨j, ex2⟩ ⟨hj, hy⟩
    simp only at hj hy ⊢
    rw [hy]
    simp only [lstPr]
    rcases at_or_end a.code j hj with ⟨rfl, hd3⟩ | ⟨u, hltj, hgetj, hdrj⟩
    · have hd4 : b.code.drop a.code.length = [] := List.drop_of_length_le (by omega)
      simp only [decide_true, decide_false, gwL, gwB, gwD, gwE, gwS, gwTT, gwZ, initG, Nat.reduceEqDiff, ↓reduceIte, Nat.reduceAdd, Nat.reduceLT, Nat.reduceLeDiff, List.map_cons, List.map_nil, builtS, builtinV, pureR, binV, sliceV, pickV, evO, Env.look, find, V.ofConst, resV, resOne, tupV, loadV, fillV, buildV, mkIface, litM, litS, litR, litRows, List.reverse_cons, List.reverse_nil, Nat.reduceMul, appS, memA, appendV, rowsOf, V.cells, TI.sized, TI.known, TI.agg, anL, List.length_cons, List.length_nil, List.append_nil, List.cons_append, List.nil_append, List.drop_succ_cons, List.drop_zero, List.drop_nil, List.take_succ_cons, List.take_zero, List.take_nil, List.getElem?_cons_zero, List.getElem?_cons_succ, List.all_cons, List.all_nil, List.replicate_succ, List.replicate_zero, List.set_cons_zero, List.set_cons_succ, eq_self, true_or, ne_eq, not_false_eq_true, Nat.reduceEqDiff, lt_no, hd3, hd4, sameL]
      exact ⟨(i + 1, ex2), by simp only [next_i64 hlt hkl]; rfl, rfl, by simp only; omega, by simp only; omega, rfl⟩
    · rcases at_or_end b.code j (by omega) with ⟨e, hd⟩ | ⟨v, hltj2, hgetj2, hdrj2⟩
      · omega
      have encI_take : ∀ i : Ins, (encI i).take 11 = encI i := fun i => List.take_of_length_le (by rw [encI_len]; exact Nat.le_refl _)
      have encI_drop : ∀ i : Ins, (encI i).drop 11 = [] := fun i => List.drop_of_length_le (by rw [encI_len]; exact Nat.le_refl _)
      simp only [decide_true, decide_false, gwL, gwB, gwD, gwE, gwS, gwTT, gwZ, initG, Nat.reduceEqDiff, ↓reduceIte, Nat.reduceAdd, Nat.reduceLT, Nat.reduceLeDiff, List.map_cons, List.map_nil, builtS, builtinV, pureR, binV, sliceV, pickV, evO, Env.look, find, V.ofConst, resV, resOne, tupV, loadV, fillV, buildV, mkIface, litM, litS, litR, litRows, List.reverse_cons, List.reverse_nil, Nat.reduceMul, appS, memA, appendV, rowsOf, V.cells, TI.sized, TI.known, TI.agg, anL, List.length_cons, List.length_nil, List.append_nil, List.cons_append, List.nil_append, List.drop_succ_cons, List.drop_zero, List.drop_nil, List.take_succ_cons, List.take_zero, List.take_nil, List.getElem?_cons_zero, List.getElem?_cons_succ, List.all_cons, List.all_nil, List.replicate_succ, List.replicate_zero, List.set_cons_zero, List.set_cons_succ, eq_self, true_or, ne_eq, not_false_eq_true, Nat.reduceEqDiff, lt_yes hltj, hdrj, hdrj2, sameL, List.length_map, Int.ofNat_lt.mpr hltj]
      refine vdraw2 TT_ok TT_mixed (σ := Nat × Nat × St) [0, 0, 0, 0, 0, 0, 0, 0, 0, 0, 0, 0, 0, 0, 0, 0, 2, 2, 2, 2] [0, 1, 2, 3, 4, 5, 6, 7, 8, 9, 10, 11, 12, 13, 14, 15, 17, 16, 18, 19] 16 17 [0, 1, 4, 5, 7, 8, 15, 16, 50, 51] (fun x => [(0, true, lstPr l), (1, true, lstPr m), (4, true, .bool false), (5, true, .int .i64 i), (7, true, .ptr x.1 0), (8, true, .ptr x.2.1 0), (15, true, .int .i64 l.length), (16, true, .int .i64 i), (50, true, .int .i64 a.code.length), (51, true, .int .i64 j)]) (fun x => st ++ x.2.2) (fun x => (st ++ x.2.2)[x.1]? = some (.box (encI u)) ∧ (st ++ x.2.2)[x.2.1]? = some (.box (encI v))) rfl (by kernel_rfl) ?_ ?_ ?_
      · simp only [decide_true, decide_false, gwL, gwB, gwD, gwE, gwS, gwTT, gwZ, initG, Nat.reduceEqDiff, ↓reduceIte, Nat.reduceAdd, Nat.reduceLT, Nat.reduceLeDiff, List.map_cons, List.map_nil, builtS, builtinV, pureR, binV, sliceV, pickV, evO, Env.look, find, V.ofConst, resV, resOne, tupV, loadV, fillV, buildV, mkIface, litM, litS, litR, litRows, List.reverse_cons, List.reverse_nil, Nat.reduceMul, appS, memA, appendV, rowsOf, V.cells, TI.sized, TI.known, TI.agg, anL, List.length_cons, List.length_nil, List.append_nil, List.cons_append, List.nil_append, List.drop_succ_cons, List.drop_zero, List.drop_nil, List.take_succ_cons, List.take_zero, List.take_nil, List.getElem?_cons_zero, List.getElem?_cons_succ, List.all_cons, List.all_nil, List.replicate_succ, List.replicate_zero, List.set_cons_zero, List.set_cons_succ, eq_self, true_or, ne_eq, not_false_eq_true, Nat.reduceEqDiff, List.length_map, getD_map hget, getD_map hget2, getD_map hgetj, getD_map hgetj2, encPr, lstI, Int.ofNat_lt.mpr hlt, Int.ofNat_lt.mpr hlt2, Int.ofNat_lt.mpr hltj, Int.ofNat_lt.mpr hltj2, encI_take, encI_len, encI_drop]
        exact ⟨rfl, rfl, (st.length + ex2.length, st.length + (ex2.length + 1), ex2 ++ [Ent.box (encI u), Ent.box (encI v)]), rfl, rfl, by simp [List.getElem?_append_right], by simp [List.getElem?_append_right]⟩
      · simp only [pickO, pickC, List.map_cons, List.map_nil, List.getD_cons_zero, List.getD_cons_succ]
        simp only [decide_true, decide_false, gwL, gwB, gwD, gwE, gwS, gwTT, gwZ, initG, Nat.reduceEqDiff, ↓reduceIte, Nat.reduceAdd, Nat.reduceLT, Nat.reduceLeDiff, List.map_cons, List.map_nil, builtS, builtinV, pureR, binV, sliceV, pickV, evO, Env.look, find, V.ofConst, resV, resOne, tupV, loadV, fillV, buildV, mkIface, litM, litS, litR, litRows, List.reverse_cons, List.reverse_nil, Nat.reduceMul, appS, memA, appendV, rowsOf, V.cells, TI.sized, TI.known, TI.agg, anL, List.length_cons, List.length_nil, List.append_nil, List.cons_append, List.nil_append, List.drop_succ_cons, List.drop_zero, List.drop_nil, List.take_succ_cons, List.take_zero, List.take_nil, List.getElem?_cons_zero, List.getElem?_cons_succ, List.all_cons, List.all_nil, List.replicate_succ, List.replicate_zero, List.set_cons_zero, List.set_cons_succ, eq_self, true_or, ne_eq, not_false_eq_true, Nat.reduceEqDiff, List.length_map, getD_map hget, getD_map hget2, getD_map hgetj, getD_map hgetj2, encPr, lstI, Int.ofNat_lt.mpr hlt, Int.ofNat_lt.mpr hlt2, Int.ofNat_lt.mpr hltj, Int.ofNat_lt.mpr hltj2, encI_take, encI_len, encI_drop]
        exact ⟨rfl, rfl, (st.length + (ex2.length + 1), st.length + ex2.length, ex2 ++ [Ent.box (encI v), Ent.box (encI u)]), rfl, rfl, by simp [List.getElem?_append_right], by simp [List.getElem?_append_right]⟩
      · rintro ⟨n1, n2, ex3⟩ ⟨h1, h2⟩
        simp only at h1 h2 ⊢
        obtain ⟨uop, ua, un, ul, uo, uq⟩ := u
        obtain ⟨vop, va, vn, vl, vo, vq⟩ := v
        simp only [encI_mk] at h1 h2
        have ql : 6 ≤ (encD uq).length := by rw [encD_len]; exact Nat.le_refl _
        have ql2 : 6 ≤ (encD vq).length := by rw [encD_len]; exact Nat.le_refl _
        simp only [decide_true, decide_false, gwL, gwB, gwD, gwE, gwS, gwTT, gwZ, initG, Nat.reduceEqDiff, ↓reduceIte, Nat.reduceAdd, Nat.reduceLT, Nat.reduceLeDiff, List.map_cons, List.map_nil, builtS, builtinV, pureR, binV, sliceV, pickV, evO, Env.look, find, V.ofConst, resV, resOne, tupV, loadV, fillV, buildV, mkIface, litM, litS, litR, litRows, List.reverse_cons, List.reverse_nil, Nat.reduceMul, appS, memA, appendV, rowsOf, V.cells, TI.sized, TI.known, TI.agg, anL, List.length_cons, List.length_nil, List.append_nil, List.cons_append, List.nil_append, List.drop_succ_cons, List.drop_zero, List.drop_nil, List.take_succ_cons, List.take_zero, List.take_nil, List.getElem?_cons_zero, List.getElem?_cons_succ, List.all_cons, List.all_nil, List.replicate_succ, List.replicate_zero, List.set_cons_zero, List.set_cons_succ, eq_self, true_or, ne_eq, not_false_eq_true, Nat.reduceEqDiff, h1, h2, encD_take, encD_len, encD_drop]
        refine rK_guarded (.bool (eqD uq vq)) (fun _ => c_Equal uq vq _) ?_
        simp only [decide_true, decide_false, gwL, gwB, gwD, gwE, gwS, gwTT, gwZ, initG, Nat.reduceEqDiff, ↓reduceIte, Nat.reduceAdd, Nat.reduceLT, Nat.reduceLeDiff, List.map_cons, List.map_nil, builtS, builtinV, pureR, binV, sliceV, pickV, evO, Env.look, find, V.ofConst, resV, resOne, tupV, loadV, fillV, buildV, mkIface, litM, litS, litR, litRows, List.reverse_cons, List.reverse_nil, Nat.reduceMul, appS, memA, appendV, rowsOf, V.cells, TI.sized, TI.known, TI.agg, anL, List.length_cons, List.length_nil, List.append_nil, List.cons_append, List.nil_append, List.drop_succ_cons, List.drop_zero, List.drop_nil, List.take_succ_cons, List.take_zero, List.take_nil, List.getElem?_cons_zero, List.getElem?_cons_succ, List.all_cons, List.all_nil, List.replicate_succ, List.replicate_zero, List.set_cons_zero, List.set_cons_succ, eq_self, true_or, ne_eq, not_false_eq_true, Nat.reduceEqDiff]
        have es : sameI ⟨uop, ua, un, ul, uo, uq⟩ ⟨vop, va, vn, vl, vo, vq⟩ = !(!decide (uop = vop) || !decide (ua = va) || !decide (un = vn) || !decide (ul = vl) || !decide (uo = vo) || !eqD uq vq) := by
          simp only [sameI, Bool.not_or, Bool.not_not]
        refine iK_split (fun h7 => ?_) (fun h7 => ?_)
        · rw [h7] at es
          simp only [decide_true, decide_false, gwL, gwB, gwD, gwE, gwS, gwTT, gwZ, initG, Nat.reduceEqDiff, ↓reduceIte, Nat.reduceAdd, Nat.reduceLT, Nat.reduceLeDiff, List.map_cons, List.map_nil, builtS, builtinV, pureR, binV, sliceV, pickV, evO, Env.look, find, V.ofConst, resV, resOne, tupV, loadV, fillV, buildV, mkIface, litM, litS, litR, litRows, List.reverse_cons, List.reverse_nil, Nat.reduceMul, appS, memA, appendV, rowsOf, V.cells, TI.sized, TI.known, TI.agg, anL, List.length_cons, List.length_nil, List.append_nil, List.cons_append, List.nil_append, List.drop_succ_cons, List.drop_zero, List.drop_nil, List.take_succ_cons, List.take_zero, List.take_nil, List.getElem?_cons_zero, List.getElem?_cons_succ, List.all_cons, List.all_nil, List.replicate_succ, List.replicate_zero, List.set_cons_zero, List.set_cons_succ, eq_self, true_or, ne_eq, not_false_eq_true, Nat.reduceEqDiff, es]
          exact gives_bool' rfl hst
        · rw [h7] at es
          simp only [decide_true, decide_false, gwL, gwB, gwD, gwE, gwS, gwTT, gwZ, initG, Nat.reduceEqDiff, ↓reduceIte, Nat.reduceAdd, Nat.reduceLT, Nat.reduceLeDiff, List.map_cons, List.map_nil, builtS, builtinV, pureR, binV, sliceV, pickV, evO, Env.look, find, V.ofConst, resV, resOne, tupV, loadV, fillV, buildV, mkIface, litM, litS, litR, litRows, List.reverse_cons, List.reverse_nil, Nat.reduceMul, appS, memA, appendV, rowsOf, V.cells, TI.sized, TI.known, TI.agg, anL, List.length_cons, List.length_nil, List.append_nil, List.cons_append, List.nil_append, List.drop_succ_cons, List.drop_zero, List.drop_nil, List.take_succ_cons, List.take_zero, List.take_nil, List.getElem?_cons_zero, List.getElem?_cons_succ, List.all_cons, List.all_nil, List.replicate_succ, List.replicate_zero, List.set_cons_zero, List.set_cons_succ, eq_self, true_or, ne_eq, not_false_eq_true, Nat.reduceEqDiff, es]
          exact ⟨(j + 1, ex3), by simp only [next_i64 hltj hal]; rfl, rfl, by simp only; omega, by simp only; omega, rfl⟩

theorem c_SameUnit (u v : Unit') (st : St) : VCalls Try.prog TT 9 [.agg (encU u), .agg (encU v)] st fun r st' => r = .ret (.bool (decide (u.name = v.name) && samePs u.protos v.protos)) ∧ st' = st := by
  refine vfun TT_ok (an := anL [(2, 1), (3, 1)]) (L := [0, 1, 2, 3, 4]) (rs := [.tmp 4]) Try.func9 rfl (by kernel_rfl) rfl Try.ntmps9 rfl rfl (Nat.le_refl _) fun hst ha hf => ?_
  obtain ⟨un, up⟩ := u
  obtain ⟨vn, vp⟩ := v
  simp only [encU]
  simp only [decide_true, decide_false, gwL, gwB, gwD, gwE, gwS, gwTT, gwZ, initG, Nat.reduceEqDiff, ↓reduceIte, Nat.reduceAdd, Nat.reduceLT, Nat.reduceLeDiff, List.map_cons, List.map_nil, builtS, builtinV, pureR, binV, sliceV, pickV, evO, Env.look, find, V.ofConst, resV, resOne, tupV, loadV, fillV, buildV, mkIface, litM, litS, litR, litRows, List.reverse_cons, List.reverse_nil, Nat.reduceMul, appS, memA, appendV, rowsOf, V.cells, TI.sized, TI.known, TI.agg, anL, List.length_cons, List.length_nil, List.append_nil, List.cons_append, List.nil_append, List.drop_succ_cons, List.drop_zero, List.drop_nil, List.take_succ_cons, List.take_zero, List.take_nil, List.getElem?_cons_zero, List.getElem?_cons_succ, List.all_cons, List.all_nil, List.replicate_succ, List.replicate_zero, List.set_cons_zero, List.set_cons_succ, eq_self, true_or, ne_eq, not_false_eq_true, Nat.reduceEqDiff]
  refine rK_guarded (.bool (samePs up vp)) (fun _ => c_SameProtos up vp _) ?_
  simp only [decide_true, decide_false, gwL, gwB, gwD, gwE, gwS, gwTT, gwZ, initG, Nat.reduceEqDiff, ↓reduceIte, Nat.reduceAdd, Nat.reduceLT, Nat.reduceLeDiff, List.map_cons, List.map_nil, builtS, builtinV, pureR, binV, sliceV, pickV, evO, Env.look, find, V.ofConst, resV, resOne, tupV, loadV, fillV, buildV, mkIface, litM, litS, litR, litRows, List.reverse_cons, List.reverse_nil, Nat.reduceMul, appS, memA, appendV, rowsOf, V.cells, TI.sized, TI.known, TI.agg, anL, List.length_cons, List.length_nil, List.append_nil, List.cons_append, List.nil_append, List.drop_succ_cons, List.drop_zero, List.drop_nil, List.take_succ_cons, List.take_zero, List.take_nil, List.getElem?_cons_zero, List.getElem?_cons_succ, List.all_cons, List.all_nil, List.replicate_succ, List.replicate_zero, List.set_cons_zero, List.set_cons_succ, eq_self, true_or, ne_eq, not_false_eq_true, Nat.reduceEqDiff]
  exact gives_bool rfl hst
end Go.Proofs.Ytpfdoffnpkokhaa.Gx
