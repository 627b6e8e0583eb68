/- Contracts: what is wrong with procedures, and with a unit. What a right unit has. Reading data: blanks, nodes, faults. Calls of the library that leave what there was. Reading data: numbers; faults; atoms. Reading data: what a text's data are; the walk over one. Reading data: the walk over a list. Reading data: the walk over a datum. Reading data: the whole. -/
import Derived.Test.YtcdnooalfkbmgaaDoorZS8
import Derived.Shelf.Strconv.ParseIntPublic10
import Derived.Shelf.Lay
import Derived.Lib.AtoiErrMem
import Derived.Ground.NamesProg

namespace Go.Proofs.YtcdnooalfkbmgaaDoor.Gx
open Go Go.Proofs.YtcdnooalfkbmgaaDoor.Gw
set_option linter.unusedSimpArgs false
set_option linter.unusedVariables false

/-- What is left as it is. -/
def Ks (X : Nat → Prop) (s s' : St) : Prop := s.length ≤ s'.length ∧ ∀ j : Nat, j < s.length → ¬ X j → s'[j]? = s[j]?
theorem Ks.refl (X : Nat → Prop) (s : St) : Ks X s s := ⟨Nat.le_refl _, fun _ _ _ => rfl⟩
theorem Ks.pre {st ex s' : St} {X : Nat → Prop} (h : Ks X (st ++ ex) s') (hX : ∀ j, X j → st.length ≤ j) : s' = st ++ s'.drop st.length := by
  apply List.ext_getElem?; intro j
  rcases Nat.lt_or_ge j st.length with hj | hj
  · rw [List.getElem?_append_left hj, h.2 j (by rw [List.length_append]; omega) (fun hx => by have := hX j hx; omega), st_old hj]
  · rw [List.getElem?_append_right hj, List.getElem?_drop]; congr 1; omega

def formE : List Pr → Int
  | [] => 0
  | p :: r => bif decide ((p.code.length : Int) < 1) || decide (6000 < (p.code.length : Int)) then 5 else bif decide (p.args < 0) || decide (2000 < p.args) then 3 else formE r
theorem c_Form (st : St) (l : List Pr) (hl : l.length ≤ 1000000000) : VCalls Tryd.prog TT 26 [lstPr l] st fun r st' => r = .ret (.int .i64 (formE l)) ∧ st' = st := by
  refine vfun TT_ok (an := anL []) (L := [0, 2, 4, 5, 6, 7]) (rs := [.tmp 2]) Tryd.func26 rfl (by kernel_rfl) rfl Tryd.ntmps26 rfl rfl (Nat.le_refl _) fun hst ha hf => ?_
  simp only [lstPr]
  simp only [gwL, gwB, gwD, gwE, gwS, gwTT, gwZ, gwN, gwC, Nat.reduceEqDiff, ↓reduceIte, Nat.reduceAdd, Nat.reduceLT, Nat.reduceLeDiff, Nat.reduceMul, List.length_map]
  refine vforD (σ := Nat) [5, 6, 7] (fun i => [(5, true, lstPr l), (6, true, .int .i64 l.length), (7, true, .int .i64 i)]) (fun i => st) (fun i => l.length - i) (fun i => i ≤ l.length ∧ formE l = formE (l.drop i)) 0 rfl TT_ok ⟨Nat.zero_le _, rfl⟩ (wkE_refl _) rfl ?_
  rintro i ⟨hi, hx⟩
  rw [hx]
  simp only [lstPr]
  rcases at_or_end l i hi with ⟨rfl, hd⟩ | ⟨q, hlt, hget, hdr⟩
  · simp only [gwL, gwB, gwD, gwE, gwS, gwTT, gwZ, gwN, gwC, Nat.reduceEqDiff, ↓reduceIte, Nat.reduceAdd, Nat.reduceLT, Nat.reduceLeDiff, Nat.reduceMul, lt_no, hd, formE]
    exact gives_int rfl hst
  · rw [hdr, formE]
    obtain ⟨qa, qc⟩ := q
    have hg : (l.map encPr).getD i [] = encPr ⟨qa, qc⟩ := getD_map hget
    simp only [gwL, gwB, gwD, gwE, gwS, gwTT, gwZ, gwN, gwC, Nat.reduceEqDiff, ↓reduceIte, Nat.reduceAdd, Nat.reduceLT, Nat.reduceLeDiff, Nat.reduceMul, lt_yes hlt, hg, encPr, lstI, List.length_map, Int.ofNat_lt.mpr hlt]
    refine iK_split (fun h1 => ?_) (fun h1 => ?_)
    · simp only [gwL, gwB, gwD, gwE, gwS, gwTT, gwZ, gwN, gwC, Nat.reduceEqDiff, ↓reduceIte, Nat.reduceAdd, Nat.reduceLT, Nat.reduceLeDiff, Nat.reduceMul, h1, cond_true]
      exact gives_int' rfl hst
    simp only [gwL, gwB, gwD, gwE, gwS, gwTT, gwZ, gwN, gwC, Nat.reduceEqDiff, ↓reduceIte, Nat.reduceAdd, Nat.reduceLT, Nat.reduceLeDiff, Nat.reduceMul, h1, cond_false]
    refine iK_split (fun h2 => ?_) (fun h2 => ?_)
    · simp only [gwL, gwB, gwD, gwE, gwS, gwTT, gwZ, gwN, gwC, Nat.reduceEqDiff, ↓reduceIte, Nat.reduceAdd, Nat.reduceLT, Nat.reduceLeDiff, Nat.reduceMul, h2, cond_true]
      exact gives_int' rfl hst
    simp only [gwL, gwB, gwD, gwE, gwS, gwTT, gwZ, gwN, gwC, Nat.reduceEqDiff, ↓reduceIte, Nat.reduceAdd, Nat.reduceLT, Nat.reduceLeDiff, Nat.reduceMul, h2, cond_false, Env.keep]
    refine ⟨i + 1, ⟨?_, st, [.box [.int .i64 qa, .lst 11 none (qc.map encI)]], rfl, wkSt_refl _, ?_, hst, Nat.le_refl _⟩, by omega, hlt, rfl⟩
    · simp only [gwL, gwB, gwD, gwE, gwS, gwTT, gwZ, gwN, gwC, Nat.reduceEqDiff, ↓reduceIte, Nat.reduceAdd, Nat.reduceLT, Nat.reduceLeDiff, Nat.reduceMul, Env.keep, next_i64 hlt (show l.length ≤ 9223372036854775807 by omega)]
      exact wkE_refl _
    · simp only [ltE, V.lt]
      exact ⟨lstPr_lt _ _, trivial, trivial, trivial⟩

def fillM (n i : Nat) : List Int := (List.range n).map fun j => bif decide (j < i) then -1 else 0
theorem fillM_len (n i : Nat) : (fillM n i).length = n := by simp [fillM]
theorem fillM_zero (n : Nat) : List.replicate n [V.int .i64 0] = rowsI (fillM n 0) := by
  apply List.ext_getElem
  · simp [rowsI, fillM]
  · intro j h1 h2
    simp [rowsI, fillM]
theorem fillM_set (n i : Nat) (h : i < n) : (fillM n i).set i (-1) = fillM n (i + 1) := by
  apply List.ext_getElem
  · simp [fillM]
  · intro j h1 h2
    rw [List.getElem_set]
    simp only [fillM, List.getElem_map, List.getElem_range]
    by_cases e : i = j
    · subst e; simp
    · have e1 : decide (j < i + 1) = decide (j < i) := by by_cases h : j < i <;> simp [h] <;> omega
      simp [e, e1]
theorem fillM_all (n : Nat) : fillM n n = List.replicate n (-1) := by
  apply List.ext_getElem
  · simp [fillM]
  · intro j h1 h2
    have : j < n := by simpa [fillM] using h1
    simp [fillM, this]
/-- Bodies are procedures without parameters; around them is nothing. -/
def bodiesG (ps : List Pr) : List Int → List Int → Option (List Int)
  | [], ar => some ar
  | b :: r, ar => bif !decide ((ps.getD b.toNat ⟨0, []⟩).args = 0) then none else bodiesG ps r (ar.set b.toNat 0)
def insG (ps : List Pr) (G : Int) (p : Nat) : List Ins → List Int → Int × List Int
  | [], ar => (0, ar)
  | x :: r, ar => bif !decide ((insE ps G p x ar).1 = 0) then insE ps G p x ar else insG ps G p r (insE ps G p x ar).2
theorem insG_len (ps : List Pr) (G : Int) (p : Nat) : ∀ (l : List Ins) (ar : List Int), (insG ps G p l ar).2.length = ar.length
  | [], ar => rfl
  | x :: r, ar => by
    rw [insG]
    have h1 := insE_len ps G p x ar
    have h2 := insG_len ps G p r (insE ps G p x ar).2
    cases decide ((insE ps G p x ar).1 = 0)
    · exact h1
    · simpa using h2.trans h1
def protoG (ps : List Pr) (G : Int) (bs : List Int) : List Pr → Nat → List Int → Int
  | [], _, _ => 0
  | q :: r, p, ar =>
    bif decide (ar.getD p 0 < 0) then 8
    else bif !decide ((insG ps G p q.code ar).1 = 0) then (insG ps G p q.code ar).1
    else bif !decide (stackE q.code (decide ((p : Int) ∈ bs)) = 0) then stackE q.code (decide ((p : Int) ∈ bs))
    else protoG ps G bs r (p + 1) (insG ps G p q.code ar).2
def shapeE (ps : List Pr) (G : Int) (bs : List Int) : Int :=
  match bodiesG ps bs (List.replicate ps.length (-1)) with
  | none => 3
  | some ar => protoG ps G bs ps 0 ar

set_option maxRecDepth 20000 in
set_option maxHeartbeats 8000000 in
theorem c_Shape_Wrong (s : St) (b : Nat) (ps : List Pr) (av : V) (G : Int) (bs : List Int) (hb : s[b]? = some (.box [lstPr ps, av, .int .i64 G])) (hl : ps.length ≤ 1000000) (hc : ∀ q ∈ ps, q.code.length ≤ 6000) (hbs : ∀ x ∈ bs, 0 ≤ x ∧ x < ps.length) (hbl : bs.length ≤ 1000000000) :
    VCalls Tryd.prog TT 27 [.ptr b 0, .lst 1 none (rowsI bs)] s fun r s' => r = .ret (.int .i64 (shapeE ps G bs)) ∧ Ks (fun j => j = b) s s' := by
  have hblt : b < s.length := (List.getElem?_eq_some_iff.1 hb).1
  refine vfunQ TT_ok (an := anL []) (L := [0, 1, 4, 5, 7, 8, 9, 10, 11, 25, 26, 36, 37, 38, 62, 63, 82, 83]) (rs := [.tmp 4]) Tryd.func27 rfl (by kernel_rfl) rfl Tryd.ntmps27 rfl rfl fun hst ha hf => ?_
  simp only [gwL, gwB, gwD, gwE, gwS, gwTT, gwZ, gwN, gwC, Nat.reduceEqDiff, ↓reduceIte, Nat.reduceAdd, Nat.reduceLT, Nat.reduceLeDiff, Nat.reduceMul, hb, lstPr, List.length_map]
  refine ⟨⟨by omega, by omega⟩, ?_⟩
  have hb1 : ∀ ex : St, (s ++ ex)[b]? = some (.box [.lst 2 none (ps.map encPr), av, .int .i64 G]) := fun ex => by rw [st_old hblt, hb]; rfl
  obtain ⟨S0, hS0⟩ : ∃ S0 : St, S0 = s.set b (.box [.lst 2 none (ps.map encPr), .arr s.length ps.length, .int .i64 G]) := ⟨_, rfl⟩
  have hS0l : S0.length = s.length := by rw [hS0]; simp
  have hset : ∀ ex : St, (s ++ ex).set b (.box [.lst 2 none (ps.map encPr), .arr s.length ps.length, .int .i64 G]) = S0 ++ ex := fun ex => by rw [hS0, List.set_append_left _ _ hblt]
  have hb2 : ∀ ex : St, (S0 ++ ex)[b]? = some (.box [.lst 2 none (ps.map encPr), .arr s.length ps.length, .int .i64 G]) := fun ex => by rw [st_old (by omega), hS0, List.getElem?_set_self hblt]
  have hA2 : ∀ l : List Int, (S0 ++ [Ent.arr 3 1 (rowsI l)])[s.length]? = some (.arr 3 1 (rowsI l)) := fun l => by rw [List.getElem?_append_right (by omega)]; simp [hS0l]
  have hAs : ∀ (l m : List Int), (S0 ++ [Ent.arr 3 1 (rowsI l)]).set s.length (.arr 3 1 (rowsI m)) = S0 ++ [Ent.arr 3 1 (rowsI m)] := fun l m => by rw [List.set_append_right _ _ (by omega)]; simp [hS0l]
  have hKs : ∀ l : List Int, Ks (fun j => j = b) s (S0 ++ [Ent.arr 3 1 (rowsI l)]) := fun l =>
    ⟨by simp [hS0l], fun j h1 h2 => by rw [st_old (by omega), hS0, List.getElem?_set_ne (fun e => h2 e.symm)]⟩
  simp only [gwL, gwB, gwD, gwE, gwS, gwTT, gwZ, gwN, gwC, Nat.reduceEqDiff, ↓reduceIte, Nat.reduceAdd, Nat.reduceLT, Nat.reduceLeDiff, Nat.reduceMul, hb1, hset, hb2]
  rw [fillM_zero]
  refine vfor (σ := Nat) [0, 1, 25, 26] (fun i => [(0, true, .ptr b 0), (1, true, .lst 1 none (rowsI bs)), (25, true, .int .i64 ps.length), (26, true, .int .i64 i)]) (fun i => S0 ++ [Ent.arr 3 1 (rowsI (fillM ps.length i))]) (fun i => ps.length - i) (fun i => i ≤ ps.length) 0 rfl TT_ok (Nat.zero_le _) rfl rfl ?_
  intro i hi
  have hil : (rowsI (fillM ps.length i)).length = ps.length := by rw [rowsI_len, fillM_len]
  rcases Nat.lt_or_ge i ps.length with hlt | hge
  · have hgi := rowsI_get (l := fillM ps.length i) (by rw [fillM_len]; exact hlt)
    have w : IntKind.i64.wrap ((i : Int) + 1) = ((i + 1 : Nat) : Int) := next_i64 hlt (by omega)
    simp only [gwL, gwB, gwD, gwE, gwS, gwTT, gwZ, gwN, gwC, Nat.reduceEqDiff, ↓reduceIte, Nat.reduceAdd, Nat.reduceLT, Nat.reduceLeDiff, Nat.reduceMul, lt_yes hlt, hb2, hA2, hil, hgi, Int.toNat_natCast, Int.ofNat_lt.mpr hlt, w, rowsI_set, hAs, Env.keep]
    refine ⟨hlt, i + 1, rfl, ?_, by omega, hlt⟩
    rw [fillM_set _ _ hlt]
  have hie : i = ps.length := by omega
  subst hie
  rw [fillM_all]
  simp only [gwL, gwB, gwD, gwE, gwS, gwTT, gwZ, gwN, gwC, Nat.reduceEqDiff, ↓reduceIte, Nat.reduceAdd, Nat.reduceLT, Nat.reduceLeDiff, Nat.reduceMul, lt_no, rowsI_len]
  refine vfor (σ := Nat × List Int) [0, 1, 36, 37, 38] (fun x => [(0, true, .ptr b 0), (1, true, .lst 1 none (rowsI bs)), (36, true, .lst 1 none (rowsI bs)), (37, true, .int .i64 bs.length), (38, true, .int .i64 x.1)]) (fun x => S0 ++ [Ent.arr 3 1 (rowsI x.2)]) (fun x => bs.length - x.1) (fun x => x.1 ≤ bs.length ∧ x.2.length = ps.length ∧ bodiesG ps bs (List.replicate ps.length (-1)) = bodiesG ps (bs.drop x.1) x.2) (0, List.replicate ps.length (-1)) rfl TT_ok ⟨Nat.zero_le _, by simp, rfl⟩ rfl rfl ?_
  rintro ⟨i, ar⟩ ⟨hi, hal, hx⟩
  simp only at hi hal hx ⊢
  have hrl : (rowsI ar).length = ps.length := by rw [rowsI_len, hal]
  rcases at_or_end bs i hi with ⟨hie, hd⟩ | ⟨u, hlt, hget, hdr⟩
  · have hie2 : i = bs.length := hie
    subst hie2
    rw [hd, bodiesG] at hx
    have hE : shapeE ps G bs = protoG ps G bs ps 0 ar := by rw [shapeE, hx]
    rw [hE]
    simp only [gwL, gwB, gwD, gwE, gwS, gwTT, gwZ, gwN, gwC, Nat.reduceEqDiff, ↓reduceIte, Nat.reduceAdd, Nat.reduceLT, Nat.reduceLeDiff, Nat.reduceMul, lt_no, hb2, List.length_map]
    refine vfor (σ := Nat × List Int) [0, 1, 62, 63] (fun x => [(0, true, .ptr b 0), (1, true, .lst 1 none (rowsI bs)), (62, true, .int .i64 ps.length), (63, true, .int .i64 x.1)]) (fun x => S0 ++ [Ent.arr 3 1 (rowsI x.2)]) (fun x => ps.length - x.1) (fun x => x.1 ≤ ps.length ∧ x.2.length = ps.length ∧ protoG ps G bs ps 0 ar = protoG ps G bs (ps.drop x.1) x.1 x.2) (0, ar) rfl TT_ok ⟨Nat.zero_le _, hal, rfl⟩ rfl rfl ?_
    clear hal hrl hx hE
    rintro ⟨p, ar1⟩ ⟨hp, hal, hx⟩
    simp only at hp hal hx ⊢
    rw [hx]
    rcases at_or_end ps p hp with ⟨hpe, hpd⟩ | ⟨q, hpt, hpq, hpr⟩
    · have hpe2 : p = ps.length := hpe
      subst hpe2
      rw [hpd, protoG]
      simp only [gwL, gwB, gwD, gwE, gwS, gwTT, gwZ, gwN, gwC, Nat.reduceEqDiff, ↓reduceIte, Nat.reduceAdd, Nat.reduceLT, Nat.reduceLeDiff, Nat.reduceMul, lt_no]
      exact hKs _
    · have hgi := rowsI_get (l := ar1) (k := p) (by omega)
      have hgp : (ps.map encPr).getD p [] = encPr q := getD_map hpq
      have w : IntKind.i64.wrap ((p : Int) + 1) = ((p + 1 : Nat) : Int) := next_i64 hpt (by omega)
      rw [hpr, protoG] at hx ⊢
      have hSH : ∀ ar2 : List Int, ar2.length = ps.length → SH (S0 ++ [Ent.arr 3 1 (rowsI ar2)]) b s.length ps ar2 G := fun ar2 h2 => ⟨by rw [hb2, h2]; rfl, hA2 _⟩
      have hcl := hc q (List.mem_of_getElem? hpq)
      obtain ⟨qa, code⟩ := q
      simp only at hx hcl ⊢
      generalize hgx : ar1.getD p 0 = av1 at *
      simp only [gwL, gwB, gwD, gwE, gwS, gwTT, gwZ, gwN, gwC, Nat.reduceEqDiff, ↓reduceIte, Nat.reduceAdd, Nat.reduceLT, Nat.reduceLeDiff, Nat.reduceMul, lt_yes hpt, hb2, hA2, hgi, hgp, encPr, lstI, rowsI_len, hal, Int.toNat_natCast, Int.ofNat_lt.mpr hpt, List.length_map]
      refine ⟨hpt, iK_split (fun h1 => ?_) (fun h1 => ?_)⟩
      · simp only [gwL, gwB, gwD, gwE, gwS, gwTT, gwZ, gwN, gwC, Nat.reduceEqDiff, ↓reduceIte, Nat.reduceAdd, Nat.reduceLT, Nat.reduceLeDiff, Nat.reduceMul, h1, cond_true]
        exact hKs _
      simp only [h1, cond_false] at hx
      simp only [h1, cond_false]
      simp only [gwL, gwB, gwD, gwE, gwS, gwTT, gwZ, gwN, gwC, Nat.reduceEqDiff, ↓reduceIte, Nat.reduceAdd, Nat.reduceLT, Nat.reduceLeDiff, Nat.reduceMul, hb2, hgp, encPr, lstI, Int.toNat_natCast, Int.ofNat_lt.mpr hpt, List.length_map]
      refine vfor (σ := Nat × List Int) [0, 1, 8, 62, 63, 82, 83] (fun x => [(0, true, .ptr b 0), (1, true, .lst 1 none (rowsI bs)), (8, true, .int .i64 p), (62, true, .int .i64 ps.length), (63, true, .int .i64 p), (82, true, .int .i64 code.length), (83, true, .int .i64 x.1)]) (fun x => S0 ++ [Ent.arr 3 1 (rowsI x.2)]) (fun x => code.length - x.1) (fun x => x.1 ≤ code.length ∧ x.2.length = ps.length ∧ insG ps G p code ar1 = insG ps G p (code.drop x.1) x.2) (0, ar1) rfl TT_ok ⟨Nat.zero_le _, hal, rfl⟩ rfl rfl ?_
      rintro ⟨j, ar2⟩ ⟨hj, hal2, hy⟩
      simp only at hj hal2 hy ⊢
      rcases at_or_end code j hj with ⟨hje, hjd⟩ | ⟨u, hjt, hju, hjr⟩
      · have hje2 : j = code.length := hje
        subst hje2
        rw [hjd, insG] at hy
        rw [hy] at hx ⊢
        simp only [decide_true, Bool.not_true, cond_false] at hx ⊢
        simp only [gwL, gwB, gwD, gwE, gwS, gwTT, gwZ, gwN, gwC, Nat.reduceEqDiff, ↓reduceIte, Nat.reduceAdd, Nat.reduceLT, Nat.reduceLeDiff, Nat.reduceMul, lt_no]
        refine (c_ContainsI _ bs p).use (wkL_refl _) fun _ => ?_
        simp only [gwL, gwB, gwD, gwE, gwS, gwTT, gwZ, gwN, gwC, Nat.reduceEqDiff, ↓reduceIte, Nat.reduceAdd, Nat.reduceLT, Nat.reduceLeDiff, Nat.reduceMul]
        refine (c_stack _ b s.length ps ar2 G p ⟨qa, code⟩ (decide ((p : Int) ∈ bs)) (hSH ar2 hal2) hpq hcl).use (wkL_refl _) fun _ => ?_
        simp only
        simp only [gwL, gwB, gwD, gwE, gwS, gwTT, gwZ, gwN, gwC, Nat.reduceEqDiff, ↓reduceIte, Nat.reduceAdd, Nat.reduceLT, Nat.reduceLeDiff, Nat.reduceMul]
        refine iK_split (fun h2 => ?_) (fun h2 => ?_)
        · simp only [gwL, gwB, gwD, gwE, gwS, gwTT, gwZ, gwN, gwC, Nat.reduceEqDiff, ↓reduceIte, Nat.reduceAdd, Nat.reduceLT, Nat.reduceLeDiff, Nat.reduceMul, h2, cond_true]
          exact hKs _
        · simp only [h2, cond_false] at hx
          simp only [gwL, gwB, gwD, gwE, gwS, gwTT, gwZ, gwN, gwC, Nat.reduceEqDiff, ↓reduceIte, Nat.reduceAdd, Nat.reduceLT, Nat.reduceLeDiff, Nat.reduceMul, h2, cond_false, w, Env.keep]
          exact ⟨(p + 1, ar2), rfl, rfl, by simp only; omega, by simp only; omega, hal2, rfl⟩
      · have hgu : (code.map encI).getD j [] = encI u := getD_map hju
        have w2 : IntKind.i64.wrap ((j : Int) + 1) = ((j + 1 : Nat) : Int) := next_i64 hjt (by omega)
        rw [hjr, insG] at hy
        simp only [gwL, gwB, gwD, gwE, gwS, gwTT, gwZ, gwN, gwC, Nat.reduceEqDiff, ↓reduceIte, Nat.reduceAdd, Nat.reduceLT, Nat.reduceLeDiff, Nat.reduceMul, lt_yes hjt, hb2, hgp, hgu, encPr, lstI, Int.toNat_natCast, Int.ofNat_lt.mpr hjt, Int.ofNat_lt.mpr hpt, List.length_map]
        have hci := c_ins _ b s.length ps ar2 G p u (hSH ar2 hal2) (by omega) (by omega) (by omega)
        have hil := insE_len ps G p u ar2
        rw [hAs] at hci
        refine hci.use (wkL_refl _) fun _ => ?_
        simp only [gwL, gwB, gwD, gwE, gwS, gwTT, gwZ, gwN, gwC, Nat.reduceEqDiff, ↓reduceIte, Nat.reduceAdd, Nat.reduceLT, Nat.reduceLeDiff, Nat.reduceMul]
        refine iK_split (fun h2 => ?_) (fun h2 => ?_)
        · simp only [h2, cond_true] at hy
          rw [hy] at hx ⊢
          simp only [gwL, gwB, gwD, gwE, gwS, gwTT, gwZ, gwN, gwC, Nat.reduceEqDiff, ↓reduceIte, Nat.reduceAdd, Nat.reduceLT, Nat.reduceLeDiff, Nat.reduceMul, h2, cond_true]
          exact hKs _
        · simp only [h2, cond_false] at hy
          simp only [gwL, gwB, gwD, gwE, gwS, gwTT, gwZ, gwN, gwC, Nat.reduceEqDiff, ↓reduceIte, Nat.reduceAdd, Nat.reduceLT, Nat.reduceLeDiff, Nat.reduceMul, w2, Env.keep]
          exact ⟨(j + 1, (insE ps G p u ar2).2), rfl, rfl, by simp only; omega, by simp only; omega, by simp only; omega, hy⟩
  · obtain ⟨hu1, hu2⟩ := hbs u (List.mem_of_getElem? hget)
    obtain ⟨u', rfl⟩ : ∃ u' : Nat, u = u' := ⟨u.toNat, by omega⟩
    have hu3 : u' < ps.length := by omega
    have hgi := rowsI_get (l := ar) (k := u') (by omega)
    have hgb : (rowsI bs).getD i [] = [.int .i64 u'] := getD_map (f := fun n => [V.int .i64 n]) hget
    have hgp : (ps.map encPr).getD u' [] = encPr (ps.getD u' ⟨0, []⟩) := by
      have e : ps[u']? = some (ps.getD u' ⟨0, []⟩) := by rw [List.getD_eq_getElem?_getD, List.getElem?_eq_getElem hu3]; rfl
      exact getD_map e
    have w : IntKind.i64.wrap ((i : Int) + 1) = ((i + 1 : Nat) : Int) := next_i64 hlt (by omega)
    rw [hdr, bodiesG, Int.toNat_natCast] at hx
    simp only [gwL, gwB, gwD, gwE, gwS, gwTT, gwZ, gwN, gwC, Nat.reduceEqDiff, ↓reduceIte, Nat.reduceAdd, Nat.reduceLT, Nat.reduceLeDiff, Nat.reduceMul, lt_yes hlt, hb2, hA2, hgb, hgp, encPr, rowsI_len, hal, Int.toNat_natCast, Int.ofNat_lt.mpr hlt, List.length_map]
    refine ⟨hu2, iK_split (fun h1 => ?_) (fun h1 => ?_)⟩
    · have hE : shapeE ps G bs = 3 := by rw [shapeE, hx, h1]; rfl
      rw [hE]
      simp only [gwL, gwB, gwD, gwE, gwS, gwTT, gwZ, gwN, gwC, Nat.reduceEqDiff, ↓reduceIte, Nat.reduceAdd, Nat.reduceLT, Nat.reduceLeDiff, Nat.reduceMul]
      exact hKs _
    simp only [h1, cond_false] at hx
    simp only [gwL, gwB, gwD, gwE, gwS, gwTT, gwZ, gwN, gwC, Nat.reduceEqDiff, ↓reduceIte, Nat.reduceAdd, Nat.reduceLT, Nat.reduceLeDiff, Nat.reduceMul, hb2, hA2, rowsI_len, hal, hgi, Int.toNat_natCast, rowsI_set, hAs, w, Env.keep]
    exact ⟨by omega, hu3, (i + 1, ar.set u' 0), rfl, rfl, by simp only; omega, by simp only; omega, by simp [hal], hx⟩

def unitE (u : Unit') : Int :=
  bif !plainB u.name then 7 else bif decide ((u.protos.length : Int) < 1) || decide (500 < (u.protos.length : Int)) then 5
  else bif !decide (formE u.protos = 0) then formE u.protos else shapeE u.protos (-1) [0]
theorem formE_code : ∀ {l : List Pr}, formE l = 0 → ∀ q ∈ l, 1 ≤ q.code.length ∧ q.code.length ≤ 6000 ∧ 0 ≤ q.args ∧ q.args ≤ 2000
  | [], _, q, h => by simp at h
  | p :: r, h, q, hq => by
    rw [formE] at h
    cases h1 : decide ((p.code.length : Int) < 1) || decide (6000 < (p.code.length : Int)) with
    | true => rw [h1] at h; simp at h
    | false =>
      rw [h1] at h
      cases h2 : decide (p.args < 0) || decide (2000 < p.args) with
      | true => rw [h2] at h; simp at h
      | false =>
        rw [h2] at h
        simp only [cond_false] at h
        simp only [Bool.or_eq_false_iff, decide_eq_false_iff_not] at h1 h2
        rcases List.mem_cons.1 hq with rfl | hq
        · omega
        · exact formE_code h q hq
set_option maxRecDepth 20000 in
set_option maxHeartbeats 4000000 in
theorem c_object_Wrong (u : Unit') (st : St) : VCalls Tryd.prog TT 10 [.agg (encU u)] st fun r st' => r = .ret (.int .i64 (unitE u)) ∧ st' = st := by
  refine vfun TT_ok (an := anL [(1, 1)]) (L := [0, 1, 2, 3]) (rs := [.tmp 2]) Tryd.func10 rfl (by kernel_rfl) rfl Tryd.ntmps10 rfl rfl (Nat.le_refl _) fun hst ha hf => ?_
  obtain ⟨nm, ps⟩ := u
  simp only [gwL, gwB, gwD, gwE, gwS, gwTT, gwZ, gwN, gwC, Nat.reduceEqDiff, ↓reduceIte, Nat.reduceAdd, Nat.reduceLT, Nat.reduceLeDiff, Nat.reduceMul, encU]
  refine (c_plain _ nm).use (wkL_refl _) fun _ => ?_
  simp only [gwL, gwB, gwD, gwE, gwS, gwTT, gwZ, gwN, gwC, Nat.reduceEqDiff, ↓reduceIte, Nat.reduceAdd, Nat.reduceLT, Nat.reduceLeDiff, Nat.reduceMul]
  refine iK_split (fun h1 => ?_) (fun h1 => ?_)
  · simp only [gwL, gwB, gwD, gwE, gwS, gwTT, gwZ, gwN, gwC, Nat.reduceEqDiff, ↓reduceIte, Nat.reduceAdd, Nat.reduceLT, Nat.reduceLeDiff, Nat.reduceMul]
    exact gives_int (by simp only [unitE, h1, cond_true]) hst
  simp only [gwL, gwB, gwD, gwE, gwS, gwTT, gwZ, gwN, gwC, Nat.reduceEqDiff, ↓reduceIte, Nat.reduceAdd, Nat.reduceLT, Nat.reduceLeDiff, Nat.reduceMul, lstPr, List.length_map]
  refine iK_split (fun h2 => ?_) (fun h2 => ?_)
  · simp only [gwL, gwB, gwD, gwE, gwS, gwTT, gwZ, gwN, gwC, Nat.reduceEqDiff, ↓reduceIte, Nat.reduceAdd, Nat.reduceLT, Nat.reduceLeDiff, Nat.reduceMul]
    exact gives_int (by simp only [unitE, h1, h2, cond_true, cond_false]) hst
  have h2' := h2
  simp only [Bool.or_eq_false_iff, decide_eq_false_iff_not] at h2'
  simp only [gwL, gwB, gwD, gwE, gwS, gwTT, gwZ, gwN, gwC, Nat.reduceEqDiff, ↓reduceIte, Nat.reduceAdd, Nat.reduceLT, Nat.reduceLeDiff, Nat.reduceMul]
  refine (c_Form _ ps (by omega)).use (wkL_refl _) fun _ => ?_
  simp only [gwL, gwB, gwD, gwE, gwS, gwTT, gwZ, gwN, gwC, Nat.reduceEqDiff, ↓reduceIte, Nat.reduceAdd, Nat.reduceLT, Nat.reduceLeDiff, Nat.reduceMul]
  refine iK_split (fun h3 => ?_) (fun h3 => ?_)
  · simp only [gwL, gwB, gwD, gwE, gwS, gwTT, gwZ, gwN, gwC, Nat.reduceEqDiff, ↓reduceIte, Nat.reduceAdd, Nat.reduceLT, Nat.reduceLeDiff, Nat.reduceMul]
    exact gives_int (by simp only [unitE, h1, h2, h3, cond_true, cond_false]) hst
  have hf0 : formE ps = 0 := by simpa using h3
  simp only [gwL, gwB, gwD, gwE, gwS, gwTT, gwZ, gwN, gwC, Nat.reduceEqDiff, ↓reduceIte, Nat.reduceAdd, Nat.reduceLT, Nat.reduceLeDiff, Nat.reduceMul]
  have hfc := formE_code hf0
  have hW := c_Shape_Wrong (st ++ [Ent.box [.lst 2 none (ps.map encPr), .nils, .int .i64 (-1)]]) st.length ps .nils (-1) [0] (by rw [List.getElem?_append_right (Nat.le_refl _)]; simp [lstPr]) (by omega) (fun q hq => (hfc q hq).2.1) (fun x hx => by simp at hx; subst hx; omega) (by simp)
  refine useQ hW (wkL_refl _) (by rintro v s' ⟨h, _⟩; cases h) ?_
  rintro X S hX ⟨hX', hK⟩
  cases hX'
  simp only [gwL, gwB, gwD, gwE, gwS, gwTT, gwZ, gwN, gwC, Nat.reduceEqDiff, ↓reduceIte, Nat.reduceAdd, Nat.reduceLT, Nat.reduceLeDiff, Nat.reduceMul]
  rw [hK.pre (st := st) (fun j hj => by omega)]
  exact gives_int' (by simp only [unitE, h1, h2, h3, cond_false]) hst
end Go.Proofs.YtcdnooalfkbmgaaDoor.Gx

namespace Go.Proofs.YtcdnooalfkbmgaaDoor.Gx
open Go Go.Proofs.YtcdnooalfkbmgaaDoor.Gw
set_option linter.unusedSimpArgs false
set_option linter.unusedVariables false

theorem insG_zero {ps : List Pr} {G : Int} {p : Nat} : ∀ {l : List Ins} {ar : List Int}, (insG ps G p l ar).1 = 0 → ∀ x ∈ l, ∃ ar', (insE ps G p x ar').1 = 0
  | [], _, _, x, h => by simp at h
  | y :: r, ar, h, x, hx => by
    rw [insG] at h
    cases h1 : decide ((insE ps G p y ar).1 = 0) with
    | false => rw [h1] at h; simp only [Bool.not_false, cond_true] at h; exact absurd h (of_decide_eq_false h1)
    | true =>
      rw [h1] at h
      simp only [Bool.not_true, cond_false] at h
      rcases List.mem_cons.1 hx with rfl | hx
      · exact ⟨ar, of_decide_eq_true h1⟩
      · exact insG_zero h x hx
theorem protoG_zero {ps : List Pr} {G : Int} {bs : List Int} : ∀ {l : List Pr} {p : Nat} {ar : List Int}, protoG ps G bs l p ar = 0 → ∀ q ∈ l, ∃ p' ar', (insG ps G p' q.code ar').1 = 0
  | [], _, _, _, q, h => by simp at h
  | y :: r, p, ar, h, q, hq => by
    rw [protoG] at h
    cases h1 : decide (ar.getD p 0 < 0) with
    | true => rw [h1] at h; simp at h
    | false =>
      rw [h1] at h
      cases h2 : decide ((insG ps G p y.code ar).1 = 0) with
      | false => rw [h2] at h; simp only [Bool.not_false, cond_true, cond_false] at h; exact absurd h (of_decide_eq_false h2)
      | true =>
        rw [h2] at h
        cases h3 : decide (stackE y.code (decide ((p : Int) ∈ bs)) = 0) with
        | false => rw [h3] at h; simp only [Bool.not_false, Bool.not_true, cond_true, cond_false] at h; exact absurd h (of_decide_eq_false h3)
        | true =>
          rw [h3] at h
          simp only [Bool.not_true, cond_false] at h
          rcases List.mem_cons.1 hq with rfl | hq
          · exact ⟨p, ar, of_decide_eq_true h2⟩
          · exact protoG_zero h q hq
structure UnitOk (u : Unit') : Prop where
  plain : plainB u.name = true
  few : 1 ≤ u.protos.length ∧ u.protos.length ≤ 500
  form : ∀ q ∈ u.protos, 1 ≤ q.code.length ∧ q.code.length ≤ 6000 ∧ 0 ≤ q.args ∧ q.args ≤ 2000
  shape : shapeE u.protos (-1) [0] = 0
theorem unit_ok {u : Unit'} (h : unitE u = 0) : UnitOk u := by
  unfold unitE at h
  cases h1 : plainB u.name with
  | false => rw [h1] at h; simp at h
  | true =>
    rw [h1] at h
    cases h2 : decide ((u.protos.length : Int) < 1) || decide (500 < (u.protos.length : Int)) with
    | true => rw [h2] at h; simp at h
    | false =>
      rw [h2] at h
      simp only [Bool.or_eq_false_iff, decide_eq_false_iff_not] at h2
      cases h3 : decide (formE u.protos = 0) with
      | false => rw [h3] at h; simp only [Bool.not_false, Bool.not_true, cond_true, cond_false] at h; exact absurd h (of_decide_eq_false h3)
      | true =>
        rw [h3] at h
        simp only [Bool.not_true, cond_false] at h
        exact ⟨h1, by omega, formE_code (of_decide_eq_true h3), h⟩
theorem UnitOk.ins {u : Unit'} (h : UnitOk u) : ∀ q ∈ u.protos, ∀ x ∈ q.code, ∃ p ar, (insE u.protos (-1) p x ar).1 = 0 := by
  intro q hq x hx
  have hs := h.shape
  unfold shapeE at hs
  cases hb : bodiesG u.protos [0] (List.replicate u.protos.length (-1)) with
  | none => rw [hb] at hs; simp at hs
  | some ar =>
    rw [hb] at hs
    obtain ⟨p, ar', h1⟩ := protoG_zero hs q hq
    obtain ⟨ar2, h2⟩ := insG_zero h1 x hx
    exact ⟨p, ar2, h2⟩
theorem UnitOk.quote {u : Unit'} (h : UnitOk u) : ∀ q ∈ u.protos, ∀ x ∈ q.code, x.op = 3 → goodD x.quote := by
  intro q hq x hx h3
  obtain ⟨p, ar, h1⟩ := h.ins q hq x hx
  refine wrongL_good ?_
  simpa [insE, h3] using h1

end Go.Proofs.YtcdnooalfkbmgaaDoor.Gx

namespace Go.Proofs.YtcdnooalfkbmgaaDoor.Gx
open Go Go.Proofs.YtcdnooalfkbmgaaDoor.Gw
set_option linter.unusedSimpArgs false
set_option linter.unusedVariables false

/-- The reader: its text, where it is, how many nodes there were. -/
def rdE (s : Str) (p n : Nat) : Ent := .box [.str s, .int .i64 p, .int .i64 n]
theorem rd_ok {st : St} {b p n : Nat} {s : Str} (h : St.ok st) : St.ok (st.set b (rdE s p n)) := by
  intro e he
  rw [List.length_set]
  rcases List.mem_or_eq_of_mem_set he with h' | rfl
  · exact h e h'
  · simp [rdE, Ent.lt, ltL, V.lt]
def isBlank (c : UInt8) : Bool := decide (c = 32) || decide (c = 9) || decide (c = 10)
/-- What is left behind blanks and notes. -/
def blk : Bool → Str → Str
  | _, [] => []
  | false, c :: r => bif isBlank c then blk false r else bif decide (c = 59) then blk true r else c :: r
  | true, c :: r => bif decide (c = 10) then blk false r else blk true r
theorem blk_le : ∀ (l : Str) (b : Bool), (blk b l).length ≤ l.length
  | [], b => by cases b <;> simp [blk]
  | c :: r, false => by
    simp only [blk]
    have := blk_le r false
    have := blk_le r true
    cases isBlank c <;> cases decide (c = 59) <;> simp <;> omega
  | c :: r, true => by
    simp only [blk]
    have := blk_le r false
    have := blk_le r true
    cases decide (c = 10) <;> simp <;> omega
theorem blk_drop : ∀ (l : Str) (b : Bool), blk b l = l.drop (l.length - (blk b l).length)
  | [], b => by cases b <;> simp [blk]
  | c :: r, false => by
    simp only [blk]
    have h1 := blk_drop r false
    have h2 := blk_drop r true
    have k1 := blk_le r false
    have k2 := blk_le r true
    cases isBlank c <;> cases decide (c = 59) <;> simp only [cond_true, cond_false, List.length_cons]
    · simp
    · rw [show r.length + 1 - (blk true r).length = (r.length - (blk true r).length) + 1 by omega, List.drop_succ_cons]; exact h2
    · rw [show r.length + 1 - (blk false r).length = (r.length - (blk false r).length) + 1 by omega, List.drop_succ_cons]; exact h1
    · rw [show r.length + 1 - (blk false r).length = (r.length - (blk false r).length) + 1 by omega, List.drop_succ_cons]; exact h1
  | c :: r, true => by
    simp only [blk]
    have h1 := blk_drop r false
    have h2 := blk_drop r true
    have k1 := blk_le r false
    have k2 := blk_le r true
    cases decide (c = 10) <;> simp only [cond_true, cond_false, List.length_cons]
    · rw [show r.length + 1 - (blk true r).length = (r.length - (blk true r).length) + 1 by omega, List.drop_succ_cons]; exact h2
    · rw [show r.length + 1 - (blk false r).length = (r.length - (blk false r).length) + 1 by omega, List.drop_succ_cons]; exact h1

theorem isBlank_int (c : UInt8) : (decide ((c.toNat : Int) = 32) || decide ((c.toNat : Int) = 9) || decide ((c.toNat : Int) = 10)) = isBlank c :=
  of_decide_eq_true (all_bytes (p := fun c => decide ((decide ((c.toNat : Int) = 32) || decide ((c.toNat : Int) = 9) || decide ((c.toNat : Int) = 10)) = isBlank c)) (by decide +kernel) c)
theorem byte_eq (c d : UInt8) : decide ((c.toNat : Int) = (d.toNat : Int)) = decide (c = d) := by
  by_cases h : c = d
  · simp [h]
  · have : ¬ (c.toNat : Int) = (d.toNat : Int) := fun e => h (UInt8.toNat_inj.1 (by omega))
    simp [h, this]

theorem c_blank (s : Str) (st : St) (b p n : Nat) (hb : st[b]? = some (rdE s p n)) (hp : p ≤ s.length) (hs : s.length ≤ 6000) :
    VCalls Tryd.prog TT 52 [.ptr b 0] st fun r st' => r = .ret (.tup []) ∧ st' = st.set b (rdE s (s.length - (blk false (s.drop p)).length) n) := by
  refine vfun TT_ok (an := anL []) (L := [0, 2]) (rs := []) Tryd.func52 rfl (by kernel_rfl) rfl Tryd.ntmps52 rfl rfl (Nat.le_of_eq (List.length_set ..).symm) fun hst ha hf => ?_
  have hlt : b < st.length := (List.getElem?_eq_some_iff.1 hb).1
  have hset : ∀ x, (st.set b (rdE s x n))[b]? = some (.box [.str s, .int .i64 x, .int .i64 n]) := fun c' => List.getElem?_set_self hlt
  have hend : ∀ x, x ≤ s.length → blk false (s.drop p) = s.drop x → Gives (.tup []) (st.set b (rdE s (s.length - (blk false (s.drop p)).length) n)) (.ret (.tup [])) (st.set b (rdE s x n)) := by
    intro x hx h
    rw [h, List.length_drop, show s.length - (s.length - x) = x by omega]
    exact gives_self (by simp [V.lt, ltL]) (rd_ok hst)
  simp only [gwL, gwB, gwD, gwE, gwS, gwTT, gwZ, gwN, gwC, Nat.reduceEqDiff, ↓reduceIte, Nat.reduceAdd, Nat.reduceLT, Nat.reduceLeDiff, Nat.reduceMul]
  refine vfor (σ := Nat) [0] (fun x => [(0, true, .ptr b 0)]) (fun x => st.set b (rdE s x n)) (fun x => s.length - x) (fun x => x ≤ s.length ∧ blk false (s.drop p) = blk false (s.drop x)) p rfl TT_ok ⟨hp, rfl⟩ rfl (set_self hb).symm ?_
  rintro x ⟨hx, hI⟩
  simp only [gwL, gwB, gwD, gwE, gwS, gwTT, gwZ, gwN, gwC, Nat.reduceEqDiff, ↓reduceIte, Nat.reduceAdd, Nat.reduceLT, Nat.reduceLeDiff, Nat.reduceMul]
  refine vdraw TT_ok TT_mixed [0, 0, 0, 1, 0, 0, 0, 1, 0, 0] (by kernel_rfl) ?_
  rcases at_or_end s x hx with ⟨rfl, hd⟩ | ⟨c, hltx, hget, hdr⟩
  · simp only [gwL, gwB, gwD, gwE, gwS, gwTT, gwZ, gwN, gwC, Nat.reduceEqDiff, ↓reduceIte, Nat.reduceAdd, Nat.reduceLT, Nat.reduceLeDiff, Nat.reduceMul, hset, lt_no]
    exact hend _ (Nat.le_refl _) (by rw [hI, hd]; rfl)
  have h63 : s.length ≤ 9223372036854775807 := by omega
  simp only [gwL, gwB, gwD, gwE, gwS, gwTT, gwZ, gwN, gwC, Nat.reduceEqDiff, ↓reduceIte, Nat.reduceAdd, Nat.reduceLT, Nat.reduceLeDiff, Nat.reduceMul, hset, lt_yes hltx]
  refine vdraw TT_ok TT_mixed [0, 0, 0, 1, 0, 0, 0, 1, 0, 0] (by kernel_rfl) ?_
  simp only [gwL, gwB, gwD, gwE, gwS, gwTT, gwZ, gwN, gwC, Nat.reduceEqDiff, ↓reduceIte, Nat.reduceAdd, Nat.reduceLT, Nat.reduceLeDiff, Nat.reduceMul, hset, getD_at hget, Int.ofNat_lt.mpr hltx]
  rw [isBlank_int]
  have hstep : ∀ y, y < s.length → (Tryd.prog = Tryd.prog) → IntKind.i64.wrap ((y : Int) + 1) = ((y + 1 : Nat) : Int) := fun y hy _ => next_i64 hy h63
  have hblk : blk false (s.drop x) = bif isBlank c then blk false (s.drop (x + 1)) else bif decide (c = 59) then blk true (s.drop (x + 1)) else s.drop x := by
    rw [hdr]; simp only [blk]
  refine iK_split (fun h => ?_) (fun h => ?_)
  · simp only [gwL, gwB, gwD, gwE, gwS, gwTT, gwZ, gwN, gwC, Nat.reduceEqDiff, ↓reduceIte, Nat.reduceAdd, Nat.reduceLT, Nat.reduceLeDiff, Nat.reduceMul, hset, hstep x hltx rfl]
    simp only [gwL, gwB, gwD, gwE, gwS, gwTT, gwZ, gwN, gwC, Nat.reduceEqDiff, ↓reduceIte, Nat.reduceAdd, Nat.reduceLT, Nat.reduceLeDiff, Nat.reduceMul, Env.keep]
    exact ⟨x + 1, by rw [List.set_set]; rfl, by omega, by omega, by rw [hI, hblk, h]; rfl⟩
  · have h59 : decide ((c.toNat : Int) = 59) = decide (c = 59) := byte_eq c 59
    simp only [gwL, gwB, gwD, gwE, gwS, gwTT, gwZ, gwN, gwC, Nat.reduceEqDiff, ↓reduceIte, Nat.reduceAdd, Nat.reduceLT, Nat.reduceLeDiff, Nat.reduceMul]
    rw [h59]
    refine iK_split (fun h2 => ?_) (fun h2 => ?_)
    · simp only [gwL, gwB, gwD, gwE, gwS, gwTT, gwZ, gwN, gwC, Nat.reduceEqDiff, ↓reduceIte, Nat.reduceAdd, Nat.reduceLT, Nat.reduceLeDiff, Nat.reduceMul]
      have h2' := of_decide_eq_true h2
      subst h2'
      refine vfor (σ := Nat) [0] (fun y => [(0, true, .ptr b 0)]) (fun y => st.set b (rdE s y n)) (fun y => s.length - y) (fun y => x ≤ y ∧ y ≤ s.length ∧ blk false (s.drop p) = blk true (s.drop y)) x rfl TT_ok ⟨Nat.le_refl _, hx, by rw [hI, hdr]; simp [blk, isBlank]⟩ rfl rfl ?_
      rintro y ⟨hxy, hy, hJ⟩
      simp only [gwL, gwB, gwD, gwE, gwS, gwTT, gwZ, gwN, gwC, Nat.reduceEqDiff, ↓reduceIte, Nat.reduceAdd, Nat.reduceLT, Nat.reduceLeDiff, Nat.reduceMul]
      refine vdraw TT_ok TT_mixed [0, 0, 0, 1, 0, 0, 0, 1, 0, 0, 0, 0, 0, 0, 1, 0, 0, 0, 1, 0, 0, 0] (by kernel_rfl) ?_
      rcases at_or_end s y hy with ⟨rfl, hd⟩ | ⟨e, hlty, hgety, hdry⟩
      · simp only [gwL, gwB, gwD, gwE, gwS, gwTT, gwZ, gwN, gwC, Nat.reduceEqDiff, ↓reduceIte, Nat.reduceAdd, Nat.reduceLT, Nat.reduceLeDiff, Nat.reduceMul, hset, lt_no]
        simp only [gwL, gwB, gwD, gwE, gwS, gwTT, gwZ, gwN, gwC, Nat.reduceEqDiff, ↓reduceIte, Nat.reduceAdd, Nat.reduceLT, Nat.reduceLeDiff, Nat.reduceMul, Env.keep]
        exact ⟨s.length, rfl, by omega, Nat.le_refl _, by rw [hJ, hd]; rfl⟩
      · have h10 : decide ((e.toNat : Int) = 10) = decide (e = 10) := byte_eq e 10
        simp only [gwL, gwB, gwD, gwE, gwS, gwTT, gwZ, gwN, gwC, Nat.reduceEqDiff, ↓reduceIte, Nat.reduceAdd, Nat.reduceLT, Nat.reduceLeDiff, Nat.reduceMul, hset, lt_yes hlty, getD_at hgety, Int.ofNat_lt.mpr hlty]
        rw [h10]
        refine iK_split (fun h3 => ?_) (fun h3 => ?_)
        · simp only [gwL, gwB, gwD, gwE, gwS, gwTT, gwZ, gwN, gwC, Nat.reduceEqDiff, ↓reduceIte, Nat.reduceAdd, Nat.reduceLT, Nat.reduceLeDiff, Nat.reduceMul, hset, hstep y hlty rfl]
          simp only [gwL, gwB, gwD, gwE, gwS, gwTT, gwZ, gwN, gwC, Nat.reduceEqDiff, ↓reduceIte, Nat.reduceAdd, Nat.reduceLT, Nat.reduceLeDiff, Nat.reduceMul, Env.keep]
          have h3' : ¬ e = 10 := by simpa using h3
          exact ⟨y + 1, by rw [List.set_set]; rfl, by omega, by omega, by omega, by rw [hJ, hdry]; simp [blk, h3']⟩
        · simp only [gwL, gwB, gwD, gwE, gwS, gwTT, gwZ, gwN, gwC, Nat.reduceEqDiff, ↓reduceIte, Nat.reduceAdd, Nat.reduceLT, Nat.reduceLeDiff, Nat.reduceMul, Env.keep]
          have h3' : e = 10 := by simpa using h3
          subst h3'
          have hne : x ≠ y := by rintro rfl; rw [hget] at hgety; cases hgety
          exact ⟨y, rfl, by omega, hy, by rw [hJ, hdry]; simp [blk, isBlank]⟩
    · simp only [gwL, gwB, gwD, gwE, gwS, gwTT, gwZ, gwN, gwC, Nat.reduceEqDiff, ↓reduceIte, Nat.reduceAdd, Nat.reduceLT, Nat.reduceLeDiff, Nat.reduceMul]
      exact hend x hx (by rw [hI, hblk, h, h2]; rfl)
end Go.Proofs.YtcdnooalfkbmgaaDoor.Gx

namespace Go.Proofs.YtcdnooalfkbmgaaDoor.Gx
open Go Go.Proofs.YtcdnooalfkbmgaaDoor.Gw
set_option linter.unusedSimpArgs false
set_option linter.unusedVariables false

theorem Ext.below {g : G} {w w' : World} (hb : Go.RowKit.Below w.heap.size w w') : Ext g w g w' :=
  ⟨hb.os, hb.tape, hb.output, hb.size, Nat.le_refl _, fun _ _ => rfl, fun _ _ => Nat.le_refl _, fun _ _ _ => rfl, fun b h1 h2 => ⟨hb.block b h1, h2⟩, fun b k h1 h2 => ⟨fun off _ => cell_of_block (hb.block b h1), fun k' h3 => by rw [h2] at h3; cases h3; exact Nat.le_refl _⟩, fun b h1 => shape_of_block (hb.block b h1)⟩
/-- A call of the library that leaves what there was, and makes perhaps something; it may look at the tables. -/
theorem VCalls.ofBelowA {P : Program} {T : Nat → TI} {f : FuncId} {args : List V} {st : St} {X : V} (he : Gw.Enters P f)
    (h : ∀ (g : G) (w : World) (vals : List Value), Amb g w → SimVs g w args vals → ∃ val, (∀ g' w', SimV g' w' X val) ∧ Calls P f vals.toArray w fun e w' => e = .returned val ∧ Go.RowKit.Below w.heap.size w w') : VCalls P T f args st fun r s => r = .ret X ∧ s = st :=
  ⟨he, fun g w vals h1 h2 => by
    obtain ⟨val, h3, h4⟩ := h g w vals h1.amb h2
    refine h4.mono ?_
    rintro e w' ⟨rfl, hb⟩
    exact ⟨.ret X, st, g, ⟨rfl, rfl⟩, ⟨val, rfl, h3 _ _⟩, h1.keep (Ext.below hb) rfl (fun _ _ => rfl) (fun b h5 _ => ⟨hb.block b h5, rfl⟩), Ext.below hb⟩⟩

/-- Where the tables are nothing to it. -/
theorem VCalls.ofBelow {P : Program} {T : Nat → TI} {f : FuncId} {args : List V} {st : St} {X : V} (he : Gw.Enters P f)
    (h : ∀ (g : G) (w : World) (vals : List Value), SimVs g w args vals → ∃ val, (∀ g' w', SimV g' w' X val) ∧ Calls P f vals.toArray w fun e w' => e = .returned val ∧ Go.RowKit.Below w.heap.size w w') : VCalls P T f args st fun r s => r = .ret X ∧ s = st :=
  VCalls.ofBelowA he fun g w vals _ hv => h g w vals hv
end Go.Proofs.YtcdnooalfkbmgaaDoor.Gx

namespace Go.Proofs.YtcdnooalfkbmgaaDoor.Gx
open Go Go.Proofs.YtcdnooalfkbmgaaDoor.Gw
set_option linter.unusedSimpArgs false
set_option linter.unusedVariables false

open Go.Proofs Go.Shelf in
shelf_lay LaysC.n174 Nm 174 at Tryd as YtcdnooalfkbmgaaDoor.laysPI

theorem c_ParseInt (st : St) (s : Str) (v : Int) (h : Lib.parseIntB 64 s = .ok v) (hs : s.length ≤ 6000) :
    VCalls Tryd.prog TT 68 [.str s, .int .i64 10, .int .i64 64] st fun r st' => r = .ret (.tup [.int .i64 v, .nili]) ∧ st' = st := by
  refine VCalls.ofBelow ⟨_, Tryd.func68, by kernel_rfl, by kernel_rfl⟩ fun g w vals hv => ?_
  simp only [SimVs, SimV] at hv
  obtain ⟨_, _, rfl, ⟨rfl, _⟩, _, _, rfl, rfl, _, _, rfl, rfl, rfl⟩ := hv
  refine ⟨.tuple #[.int .i64 v, .nilIface], fun g' w' => by simp only [SimV, SimVs]; exact ⟨[.int .i64 v, .nilIface], rfl, _, _, rfl, rfl, _, _, rfl, rfl, rfl⟩, ?_⟩
  refine (Go.Proofs.Any.strconv_ParseInt_10_at64_ok YtcdnooalfkbmgaaDoor.laysPI ⟨s.toArray⟩ (by simp [ByteArray.size]; omega) v (by simpa using h) w).mono ?_
  rintro e w' ⟨rfl, hw⟩
  refine ⟨rfl, ?_⟩
  rcases hw with rfl | ⟨t, rfl⟩
  · exact Go.RowKit.Below.refl _ _
  · exact Go.Lib.bytesWorld_below w _ t

/-- The number that digits spell. -/
def numN (r : Str) : Nat := r.foldl (fun a c => a * 10 + (c.toNat - 48)) 0
def numV : Str → Int
  | 45 :: r => -(numN r : Int)
  | r => numN r
theorem parse_digits : ∀ (r : Str) (k acc : Nat), digits r = true → acc < 10 ^ k → k + r.length ≤ 17 → Lib.parseUintM (2 ^ 64 - 1) acc r = .ok (r.foldl (fun a c => a * 10 + (c.toNat - 48)) acc) ∧ r.foldl (fun a c => a * 10 + (c.toNat - 48)) acc < 10 ^ (k + r.length)
  | [], k, acc, _, h, _ => by simpa [Lib.parseUintM] using h
  | c :: r, k, acc, hd, h, hl => by
    simp only [digits, List.all_cons, Bool.and_eq_true, decide_eq_true_eq] at hd
    obtain ⟨⟨h1, h2⟩, hd⟩ := hd
    simp only [List.length_cons] at hl
    have hacc : acc * 10 + (c.toNat - 48) < 10 ^ (k + 1) := by rw [Nat.pow_succ]; omega
    have hp : 10 ^ (k + 1) ≤ 10 ^ 17 := Nat.pow_le_pow_right (by decide) (by omega)
    have ih := parse_digits r (k + 1) (acc * 10 + (c.toNat - 48)) hd hacc (by omega)
    simp only [List.foldl_cons, List.length_cons]
    rw [show k + (r.length + 1) = k + 1 + r.length by omega]
    refine ⟨?_, ih.2⟩
    rw [← ih.1]
    conv => lhs; unfold Lib.parseUintM
    rw [if_pos ⟨h1, h2⟩, if_neg (by omega), if_neg (by omega)]
theorem looks_inv {s : Str} (h : looksB s = true) : (∃ r, s = 45 :: r ∧ digits r = true ∧ r ≠ []) ∨ ((∀ r, s ≠ 45 :: r) ∧ digits s = true ∧ s ≠ []) := by
  unfold looksB at h
  split at h
  · rename_i r
    simp only [Bool.and_eq_true, Bool.not_eq_true', List.isEmpty_eq_false_iff] at h
    exact .inl ⟨r, rfl, h.1, h.2⟩
  · rename_i hno
    simp only [Bool.and_eq_true, Bool.not_eq_true', List.isEmpty_eq_false_iff] at h
    exact .inr ⟨hno, h.1, h.2⟩
theorem parse_ok {s : Str} (h : looksB s = true) (hl : s.length ≤ 17) : Lib.parseIntB 64 s = .ok (numV s) ∧ -100000000000000000 ≤ numV s ∧ numV s ≤ 100000000000000000 := by
  rcases looks_inv h with ⟨r, rfl, hd, hne⟩ | ⟨hno, hd, hne⟩
  · have hp := parse_digits r 0 0 hd (by decide) (by simp at hl; omega)
    have hb : (10 : Nat) ^ (0 + r.length) ≤ 10 ^ 17 := Nat.pow_le_pow_right (by decide) (by simp at hl; omega)
    have hlt := hp.2
    have hu : Lib.parseUintB 64 r = .ok (numN r) := by unfold Lib.parseUintB; rw [if_neg hne]; exact hp.1
    refine ⟨?_, ?_⟩
    · unfold Lib.parseIntB
      have hn : ¬ 2 ^ (64 - 1) < numN r := by unfold numN; omega
      simp only [show (45 : UInt8).toNat = 45 from rfl, or_true, if_true]
      rw [hu]
      simp only [not_true_eq_false, false_and, if_false, true_and, if_neg hn]
      simp [numV]
    · simp only [numV, numN]; omega
  · cases s with
    | nil => exact absurd rfl hne
    | cons c r =>
      have hp := parse_digits (c :: r) 0 0 hd (by decide) (by simp at hl ⊢; omega)
      have hb : (10 : Nat) ^ (0 + (c :: r).length) ≤ 10 ^ 17 := Nat.pow_le_pow_right (by decide) (by simp at hl ⊢; omega)
      have hlt := hp.2
      have hu : Lib.parseUintB 64 (c :: r) = .ok (numN (c :: r)) := by unfold Lib.parseUintB; rw [if_neg hne]; exact hp.1
      have hd' := hd
      simp only [digits, List.all_cons, Bool.and_eq_true, decide_eq_true_eq] at hd'
      have hnv : numV (c :: r) = numN (c :: r) := by
        unfold numV
        split
        · rename_i r' e; exact absurd e (hno r')
        · rfl
      refine ⟨?_, ?_⟩
      · unfold Lib.parseIntB
        have h1 : ¬ (c.toNat = 43 ∨ c.toNat = 45) := by omega
        have h2 : ¬ c.toNat = 45 := by omega
        have hn : ¬ 2 ^ (64 - 1) ≤ numN (c :: r) := by unfold numN; omega
        simp only [if_neg h1]
        rw [hu]
        simp only [h2, not_false_eq_true, true_and, if_neg hn, false_and, if_false]
        rw [hnv]
      · rw [hnv]; simp only [numN]; omega

def faultV (e p : Int) : V := .iface 112 (.agg [.int .i64 e, .int .i64 p])
theorem c_fail (st : St) (e p : Int) : VCalls Tryd.prog TT 58 [.int .i64 e, .int .i64 p] st fun r st' => r = .panic (faultV e p) ∧ st' = st := by
  refine vfunP TT_ok (an := anL []) (L := [0, 1]) (rs := []) Tryd.func58 rfl (by kernel_rfl) rfl Tryd.ntmps58 rfl rfl (Nat.le_refl _) fun hst ha hf => ?_
  simp only [gwL, gwB, gwD, gwE, gwS, gwTT, gwZ, gwN, gwC, Nat.reduceEqDiff, ↓reduceIte, Nat.reduceAdd, Nat.reduceLT, Nat.reduceLeDiff, Nat.reduceMul]
  exact givesP_self (by simp [faultV, V.lt, ltL]) hst

theorem c_node_ok (s : Str) (st : St) (b p n : Nat) (deep q : Int) (hb : st[b]? = some (rdE s p n)) (h : ¬ 2000 < n + 1 ∧ ¬ 40 < deep) :
    VCalls Tryd.prog TT 57 [.ptr b 0, .int .i64 deep, .int .i64 q] st fun r st' => r = .ret (.tup []) ∧ st' = st.set b (rdE s p (n + 1)) := by
  refine vfun TT_ok (an := anL []) (L := [0, 1, 2]) (rs := []) Tryd.func57 rfl (by kernel_rfl) rfl Tryd.ntmps57 rfl rfl (Nat.le_of_eq (List.length_set ..).symm) fun hst ha hf => ?_
  have hlt : b < st.length := (List.getElem?_eq_some_iff.1 hb).1
  have hset : (st.set b (.box [.str s, .int .i64 p, .int .i64 (n + 1)]))[b]? = some (.box [.str s, .int .i64 p, .int .i64 (n + 1)]) := List.getElem?_set_self hlt
  simp only [rdE] at hb
  simp only [gwL, gwB, gwD, gwE, gwS, gwTT, gwZ, gwN, gwC, Nat.reduceEqDiff, ↓reduceIte, Nat.reduceAdd, Nat.reduceLT, Nat.reduceLeDiff, Nat.reduceMul, hb, wrap_i64 (show -9223372036854775808 ≤ (n : Int) + 1 by omega) (show (n : Int) + 1 ≤ 9223372036854775807 by omega), hset]
  refine iK_split (fun h2 => ?_) (fun h2 => ?_)
  · exfalso
    simp at h2
    omega
  · simp only [gwL, gwB, gwD, gwE, gwS, gwTT, gwZ, gwN, gwC, Nat.reduceEqDiff, ↓reduceIte, Nat.reduceAdd, Nat.reduceLT, Nat.reduceLeDiff, Nat.reduceMul]
    exact gives_self (by simp [V.lt, ltL]) (rd_ok hst)
theorem c_node_err (s : Str) (st : St) (b p n : Nat) (deep q : Int) (hb : st[b]? = some (rdE s p n)) (hn : n ≤ 2000) (h : 2000 < n + 1 ∨ 40 < deep) :
    VCalls Tryd.prog TT 57 [.ptr b 0, .int .i64 deep, .int .i64 q] st fun r st' => r = .panic (faultV 4 q) ∧ st' = st.set b (rdE s p (n + 1)) := by
  refine vfunP TT_ok (an := anL []) (L := [0, 1, 2]) (rs := []) Tryd.func57 rfl (by kernel_rfl) rfl Tryd.ntmps57 rfl rfl (Nat.le_of_eq (List.length_set ..).symm) fun hst ha hf => ?_
  have hlt : b < st.length := (List.getElem?_eq_some_iff.1 hb).1
  have hset : (st.set b (.box [.str s, .int .i64 p, .int .i64 (n + 1)]))[b]? = some (.box [.str s, .int .i64 p, .int .i64 (n + 1)]) := List.getElem?_set_self hlt
  simp only [rdE] at hb
  simp only [gwL, gwB, gwD, gwE, gwS, gwTT, gwZ, gwN, gwC, Nat.reduceEqDiff, ↓reduceIte, Nat.reduceAdd, Nat.reduceLT, Nat.reduceLeDiff, Nat.reduceMul, hb, wrap_i64 (show -9223372036854775808 ≤ (n : Int) + 1 by omega) (show (n : Int) + 1 ≤ 9223372036854775807 by omega), hset]
  refine iK_split (fun h2 => ?_) (fun h2 => ?_)
  · simp only [gwL, gwB, gwD, gwE, gwS, gwTT, gwZ, gwN, gwC, Nat.reduceEqDiff, ↓reduceIte, Nat.reduceAdd, Nat.reduceLT, Nat.reduceLeDiff, Nat.reduceMul]
    refine (c_fail _ 4 q).useP (wkL_refl _) ?_
    simp only [gwL, gwB, gwD, gwE, gwS, gwTT, gwZ, gwN, gwC, Nat.reduceEqDiff, ↓reduceIte, Nat.reduceAdd, Nat.reduceLT, Nat.reduceLeDiff, Nat.reduceMul]
    exact givesP_self (by simp [faultV, V.lt, ltL]) (rd_ok hst)
  · exfalso
    simp at h2
    omega

/-- What an atom is; or what is wrong with it. -/
def atomR (s : Str) : Sum Int Datum :=
  bif looksB s then (bif decide ((17 : Int) < s.length) then .inl 3 else bif decide (1000000000000000 < numV s) || decide (numV s < -1000000000000000) then .inl 3 else .inr (.mk 1 (numV s) [] 0 0 []))
  else bif decide ((20 : Int) < s.length) then .inl 7 else .inr (.mk 3 0 s 0 0 [])
theorem wk6 (a b c d e : V) : wkL [a, b, c, d, e, .nils] [a, b, c, d, e, .lst 6 none []] :=
  wkL_cons (wk_refl _) (wkL_cons (wk_refl _) (wkL_cons (wk_refl _) (wkL_cons (wk_refl _) (wkL_cons (wk_refl _) (wkL_cons (wk_nils _) wkL_nil)))))
theorem c_atom_ok (s : Str) (st : St) (q : Int) (d : Datum) (hs : s.length ≤ 6000) (h : atomR s = .inr d) :
    VCalls Tryd.prog TT 61 [.str s, .int .i64 q] st fun r st' => r = .ret (.agg (encD d)) ∧ st' = st := by
  refine vfun TT_ok (an := anL []) (L := [0, 1, 4, 5]) (rs := [.cell 4 53]) Tryd.func61 rfl (by kernel_rfl) rfl Tryd.ntmps61 rfl rfl (Nat.le_refl _) fun hst ha hf => ?_
  simp only [gwL, gwB, gwD, gwE, gwS, gwTT, gwZ, gwN, gwC, Nat.reduceEqDiff, ↓reduceIte, Nat.reduceAdd, Nat.reduceLT, Nat.reduceLeDiff, Nat.reduceMul]
  refine (c_number _ s).use (wkL_refl _) fun _ => ?_
  simp only [gwL, gwB, gwD, gwE, gwS, gwTT, gwZ, gwN, gwC, Nat.reduceEqDiff, ↓reduceIte, Nat.reduceAdd, Nat.reduceLT, Nat.reduceLeDiff, Nat.reduceMul]
  unfold atomR at h
  refine iK_split (fun hl => ?_) (fun hl => ?_)
  · rw [hl] at h
    simp only [cond_true] at h
    simp only [gwL, gwB, gwD, gwE, gwS, gwTT, gwZ, gwN, gwC, Nat.reduceEqDiff, ↓reduceIte, Nat.reduceAdd, Nat.reduceLT, Nat.reduceLeDiff, Nat.reduceMul]
    refine iK_split (fun h17 => ?_) (fun h17 => ?_)
    · exfalso
      rw [h17] at h
      cases h
    · have h17' : s.length ≤ 17 := by simp at h17; omega
      rw [h17] at h
      simp only [cond_false] at h
      obtain ⟨p1, p2, p3⟩ := parse_ok hl h17'
      simp only [gwL, gwB, gwD, gwE, gwS, gwTT, gwZ, gwN, gwC, Nat.reduceEqDiff, ↓reduceIte, Nat.reduceAdd, Nat.reduceLT, Nat.reduceLeDiff, Nat.reduceMul]
      refine (c_ParseInt _ s (numV s) p1 hs).use (wkL_refl _) fun _ => ?_
      simp only [gwL, gwB, gwD, gwE, gwS, gwTT, gwZ, gwN, gwC, Nat.reduceEqDiff, ↓reduceIte, Nat.reduceAdd, Nat.reduceLT, Nat.reduceLeDiff, Nat.reduceMul]
      refine iK_split (fun h1 => ?_) (fun h1 => ?_)
      · exfalso
        rw [h1] at h
        cases h
      · rw [h1] at h
        simp only [cond_false, Sum.inr.injEq] at h
        subst h
        simp only [gwL, gwB, gwD, gwE, gwS, gwTT, gwZ, gwN, gwC, Nat.reduceEqDiff, ↓reduceIte, Nat.reduceAdd, Nat.reduceLT, Nat.reduceLeDiff, Nat.reduceMul, encD_mk]
        exact gives_of (wk_agg (wk6 ..)) (wkSt_refl _) (by simp only [V.lt]; exact encD_lt _ (.mk 1 (numV s) [] 0 0 [])) hst
  · rw [hl] at h
    simp only [cond_false] at h
    simp only [gwL, gwB, gwD, gwE, gwS, gwTT, gwZ, gwN, gwC, Nat.reduceEqDiff, ↓reduceIte, Nat.reduceAdd, Nat.reduceLT, Nat.reduceLeDiff, Nat.reduceMul]
    refine iK_split (fun h20 => ?_) (fun h20 => ?_)
    · exfalso
      rw [h20] at h
      cases h
    · rw [h20] at h
      simp only [cond_false, Sum.inr.injEq] at h
      subst h
      simp only [gwL, gwB, gwD, gwE, gwS, gwTT, gwZ, gwN, gwC, Nat.reduceEqDiff, ↓reduceIte, Nat.reduceAdd, Nat.reduceLT, Nat.reduceLeDiff, Nat.reduceMul, encD_mk]
      exact gives_of (wk_agg (wk6 ..)) (wkSt_refl _) (by simp only [V.lt]; exact encD_lt _ (.mk 3 0 s 0 0 [])) hst
theorem c_atom_err (s : Str) (st : St) (q : Int) (e : Int) (hs : s.length ≤ 6000) (h : atomR s = .inl e) :
    VCalls Tryd.prog TT 61 [.str s, .int .i64 q] st fun r st' => r = .panic (faultV e q) ∧ st' = st := by
  refine vfunP TT_ok (an := anL []) (L := [0, 1, 4, 5]) (rs := [.cell 4 53]) Tryd.func61 rfl (by kernel_rfl) rfl Tryd.ntmps61 rfl rfl (Nat.le_refl _) fun hst ha hf => ?_
  simp only [gwL, gwB, gwD, gwE, gwS, gwTT, gwZ, gwN, gwC, Nat.reduceEqDiff, ↓reduceIte, Nat.reduceAdd, Nat.reduceLT, Nat.reduceLeDiff, Nat.reduceMul]
  refine (c_number _ s).use (wkL_refl _) fun _ => ?_
  simp only [gwL, gwB, gwD, gwE, gwS, gwTT, gwZ, gwN, gwC, Nat.reduceEqDiff, ↓reduceIte, Nat.reduceAdd, Nat.reduceLT, Nat.reduceLeDiff, Nat.reduceMul]
  unfold atomR at h
  have fin : ∀ ex, GivesP (faultV e q) st (.panic (faultV e q)) (st ++ ex) := fun ex => givesP_of (wk_refl _) (wkSt_refl _) (by simp [faultV, V.lt, ltL]) hst
  refine iK_split (fun hl => ?_) (fun hl => ?_)
  · rw [hl] at h
    simp only [cond_true] at h
    simp only [gwL, gwB, gwD, gwE, gwS, gwTT, gwZ, gwN, gwC, Nat.reduceEqDiff, ↓reduceIte, Nat.reduceAdd, Nat.reduceLT, Nat.reduceLeDiff, Nat.reduceMul]
    refine iK_split (fun h17 => ?_) (fun h17 => ?_)
    · rw [h17] at h
      simp only [cond_true, Sum.inl.injEq] at h
      subst h
      simp only [gwL, gwB, gwD, gwE, gwS, gwTT, gwZ, gwN, gwC, Nat.reduceEqDiff, ↓reduceIte, Nat.reduceAdd, Nat.reduceLT, Nat.reduceLeDiff, Nat.reduceMul]
      refine (c_fail _ 3 q).useP (wkL_refl _) ?_
      simp only [gwL, gwB, gwD, gwE, gwS, gwTT, gwZ, gwN, gwC, Nat.reduceEqDiff, ↓reduceIte, Nat.reduceAdd, Nat.reduceLT, Nat.reduceLeDiff, Nat.reduceMul]
      exact fin _
    · have h17' : s.length ≤ 17 := by simp at h17; omega
      rw [h17] at h
      simp only [cond_false] at h
      obtain ⟨p1, p2, p3⟩ := parse_ok hl h17'
      simp only [gwL, gwB, gwD, gwE, gwS, gwTT, gwZ, gwN, gwC, Nat.reduceEqDiff, ↓reduceIte, Nat.reduceAdd, Nat.reduceLT, Nat.reduceLeDiff, Nat.reduceMul]
      refine (c_ParseInt _ s (numV s) p1 hs).use (wkL_refl _) fun _ => ?_
      simp only [gwL, gwB, gwD, gwE, gwS, gwTT, gwZ, gwN, gwC, Nat.reduceEqDiff, ↓reduceIte, Nat.reduceAdd, Nat.reduceLT, Nat.reduceLeDiff, Nat.reduceMul]
      refine iK_split (fun h1 => ?_) (fun h1 => ?_)
      · rw [h1] at h
        simp only [cond_true, Sum.inl.injEq] at h
        subst h
        simp only [gwL, gwB, gwD, gwE, gwS, gwTT, gwZ, gwN, gwC, Nat.reduceEqDiff, ↓reduceIte, Nat.reduceAdd, Nat.reduceLT, Nat.reduceLeDiff, Nat.reduceMul]
        refine (c_fail _ 3 q).useP (wkL_refl _) ?_
        simp only [gwL, gwB, gwD, gwE, gwS, gwTT, gwZ, gwN, gwC, Nat.reduceEqDiff, ↓reduceIte, Nat.reduceAdd, Nat.reduceLT, Nat.reduceLeDiff, Nat.reduceMul]
        exact fin _
      · exfalso
        rw [h1] at h
        cases h
  · rw [hl] at h
    simp only [cond_false] at h
    simp only [gwL, gwB, gwD, gwE, gwS, gwTT, gwZ, gwN, gwC, Nat.reduceEqDiff, ↓reduceIte, Nat.reduceAdd, Nat.reduceLT, Nat.reduceLeDiff, Nat.reduceMul]
    refine iK_split (fun h20 => ?_) (fun h20 => ?_)
    · rw [h20] at h
      simp only [cond_true, Sum.inl.injEq] at h
      subst h
      simp only [gwL, gwB, gwD, gwE, gwS, gwTT, gwZ, gwN, gwC, Nat.reduceEqDiff, ↓reduceIte, Nat.reduceAdd, Nat.reduceLT, Nat.reduceLeDiff, Nat.reduceMul]
      refine (c_fail _ 7 q).useP (wkL_refl _) ?_
      simp only [gwL, gwB, gwD, gwE, gwS, gwTT, gwZ, gwN, gwC, Nat.reduceEqDiff, ↓reduceIte, Nat.reduceAdd, Nat.reduceLT, Nat.reduceLeDiff, Nat.reduceMul]
      exact fin _
    · exfalso
      rw [h20] at h
      cases h
end Go.Proofs.YtcdnooalfkbmgaaDoor.Gx

namespace Go.Proofs.YtcdnooalfkbmgaaDoor.Gx
open Go Go.Proofs.YtcdnooalfkbmgaaDoor.Gw
set_option linter.unusedSimpArgs false
set_option linter.unusedVariables false

/-- A datum, and where its reader is, and how many nodes there were; or what is wrong, and where, and so on. -/
inductive RR where
  | ok (d : Datum) (p n : Nat)
  | err (e q : Int) (p n : Nat)
def quoteS : Str := [113, 117, 111, 116, 101]
def quoteD (x : Datum) : Datum := .mk 4 0 [] 0 0 [.mk 3 0 quoteS 0 0 [], x]
def RR.quote : RR → RR
  | .ok x p n => .ok (quoteD x) p n
  | .err e q p n => .err e q p n
def RR.bind (r : RR) (k : Datum → Nat → Nat → RR) : RR := match r with
  | .ok x p n => k x p n
  | .err e q p n => .err e q p n
/-- Behind '#'. -/
def rdB (q p n : Nat) : Str → RR
  | [] => .err 2 q p n
  | t :: r => bif decide (t = 116) || decide (t = 102) then
      (match r with
      | [] => .ok (.mk 2 (bif decide (t = 116) then 1 else 0) [] 0 0 []) (p + 1) n
      | u :: _ => bif letterB u then .err 2 q (p + 1) n else .ok (.mk 2 (bif decide (t = 116) then 1 else 0) [] 0 0 []) (p + 1) n)
    else .err 2 q p n
def rdA (s : Str) (q p n : Nat) (c : UInt8) (r : Str) : RR := match atomR (c :: r.takeWhile letterB) with
  | .inl e => .err e q (p + (r.takeWhile letterB).length) n
  | .inr d => .ok d (p + (r.takeWhile letterB).length) n
mutual
def rdD (s : Str) : Nat → Int → Nat → Nat → RR
  | 0, _, p, n => .err 0 0 p n
  | f + 1, deep, p, n => bif decide (2000 < n + 1) || decide (40 < deep) then .err 4 p p (n + 1)
    else match s.drop p with
      | [] => .err 2 p p (n + 1)
      | c :: r => bif decide (c = 40) then rdL s f deep [] (p + 1) (n + 1)
        else bif decide (c = 39) then (bif decide (2000 < n + 2) || decide (40 < deep + 1) then .err 4 p (p + 1) (n + 2) else (rdD s f (deep + 1) (s.length - (blk false r).length) (n + 2)).quote)
        else bif decide (c = 35) then rdB p (p + 1) (n + 1) r
        else bif letterB c then rdA s p (p + 1) (n + 1) c r
        else .err 2 p (p + 1) (n + 1)
def rdL (s : Str) : Nat → Int → List Datum → Nat → Nat → RR
  | 0, _, _, p, n => .err 0 0 p n
  | f + 1, deep, acc, p, n => match blk false (s.drop p) with
    | [] => .err 2 s.length s.length n
    | c :: r => bif decide (c = 41) then .ok (.mk 4 0 [] 0 0 acc) (s.length - r.length) n
      else (rdD s f (deep + 1) (s.length - (r.length + 1)) n).bind fun x p' n' => rdL s f deep (acc ++ [x]) p' n'
end

/-- How far a datum goes. -/
def RR.far (s : Str) (p : Nat) : RR → Prop
  | .ok _ p' n' => p < p' ∧ p' ≤ s.length ∧ n' ≤ 2000
  | .err _ _ _ _ => True
theorem takeWhile_le {l : Str} : (l.takeWhile letterB).length ≤ l.length := by
  have := (List.takeWhile_prefix (l := l) letterB).length_le
  exact this
theorem drop_len {s : Str} {p : Nat} {c : UInt8} {r : Str} (h : s.drop p = c :: r) : p + r.length + 1 = s.length := by
  have := congrArg List.length h
  simp at this
  omega
theorem rd_far (s : Str) : ∀ f : Nat, (∀ (deep : Int) (p n : Nat), n ≤ 2000 → (rdD s f deep p n).far s p) ∧ (∀ (deep : Int) (acc : List Datum) (p n : Nat), p ≤ s.length → n ≤ 2000 → (rdL s f deep acc p n).far s p)
  | 0 => ⟨fun _ _ _ _ => by simp [rdD, RR.far], fun _ _ _ _ _ _ => by simp [rdL, RR.far]⟩
  | f + 1 => by
    obtain ⟨ih1, ih2⟩ := rd_far s f
    refine ⟨fun deep p n hn => ?_, fun deep acc p n hp hn => ?_⟩
    · simp only [rdD]
      cases h0 : (decide (2000 < n + 1) || decide (40 < deep)) with
      | true => simp [RR.far]
      | false =>
        have hn1 : n + 1 ≤ 2000 := by simp at h0; omega
        simp only [cond_false]
        split
        · simp [RR.far]
        · rename_i c r hd
          have hl := drop_len hd
          cases decide (c = 40) with
          | true =>
            simp only [cond_true]
            have := ih2 deep [] (p + 1) (n + 1) (by omega) hn1
            generalize rdL s f deep [] (p + 1) (n + 1) = rr at this ⊢
            cases rr with
            | ok x p' n' => simp only [RR.far] at this ⊢; omega
            | err _ _ _ _ => trivial
          | false =>
            simp only [cond_false]
            cases decide (c = 39) with
            | true =>
              simp only [cond_true]
              cases h1 : (decide (2000 < n + 2) || decide (40 < deep + 1)) with
              | true => simp [RR.far]
              | false =>
                have hn2 : n + 2 ≤ 2000 := by simp at h1; omega
                simp only [cond_false]
                have hb := blk_le r false
                have := ih1 (deep + 1) (s.length - (blk false r).length) (n + 2) hn2
                generalize rdD s f (deep + 1) (s.length - (blk false r).length) (n + 2) = rr at this ⊢
                cases rr with
                | ok x p' n' => simp only [RR.quote, RR.far] at this ⊢; omega
                | err _ _ _ _ => trivial
            | false =>
              simp only [cond_false]
              cases decide (c = 35) with
              | true =>
                simp only [cond_true]
                cases r with
                | nil => simp [rdB, RR.far]
                | cons t r =>
                  simp only [rdB]
                  simp only [List.length_cons] at hl
                  cases (decide (t = 116) || decide (t = 102)) with
                  | false => simp [RR.far]
                  | true =>
                    simp only [cond_true]
                    cases r with
                    | nil => dsimp only; simp only [RR.far, List.length_nil] at hl ⊢; omega
                    | cons u r =>
                      simp only [List.length_cons] at hl
                      dsimp only
                      cases letterB u with
                      | true => simp [RR.far]
                      | false => simp only [cond_false, RR.far]; omega
              | false =>
                simp only [cond_false]
                cases letterB c with
                | true =>
                  simp only [cond_true, rdA]
                  have := takeWhile_le (l := r)
                  split
                  · trivial
                  · simp only [RR.far]; omega
                | false => simp [RR.far]
    · simp only [rdL]
      have hb := blk_le (s.drop p) false
      simp only [List.length_drop] at hb
      split
      · trivial
      · rename_i c r hd
        rw [hd] at hb
        simp only [List.length_cons] at hb
        cases decide (c = 41) with
        | true => simp only [cond_true, RR.far]; omega
        | false =>
          simp only [cond_false]
          have h1 := ih1 (deep + 1) (s.length - (r.length + 1)) n hn
          generalize rdD s f (deep + 1) (s.length - (r.length + 1)) n = rr at h1 ⊢
          cases rr with
          | err _ _ _ _ => trivial
          | ok x p' n' =>
            simp only [RR.far] at h1
            simp only [RR.bind]
            have h2 := ih2 deep (acc ++ [x]) p' n' h1.2.1 h1.2.2
            generalize rdL s f deep (acc ++ [x]) p' n' = rr at h2 ⊢
            cases rr with
            | ok x p' n' => simp only [RR.far] at h2 ⊢; omega
            | err _ _ _ _ => trivial

theorem set_app {st ex : St} {b : Nat} {e : Ent} (h : b < st.length) : (st ++ ex).set b e = st.set b e ++ ex := List.set_append_left _ _ h
section
variable {st : St} {b : Nat} {s : Str} (h : b < st.length)
include h
theorem at_b (p n : Nat) (l : St) : (st.set b (rdE s p n) ++ l)[b]? = some (.box [.str s, .int .i64 p, .int .i64 n]) := by
  rw [List.getElem?_append_left (by simpa using h), List.getElem?_set_self h]; rfl
theorem at_b0 (p n : Nat) : (st.set b (rdE s p n))[b]? = some (.box [.str s, .int .i64 p, .int .i64 n]) := by
  rw [List.getElem?_set_self h]; rfl
theorem set_b (e e' : Ent) (l : St) : (st.set b e ++ l).set b e' = st.set b e' ++ l := by
  rw [set_app (by simpa using h), List.set_set]
end
theorem at_k (st : St) (b : Nat) (e : Ent) (l : St) (k : Nat) : (st.set b e ++ l)[st.length + k]? = l[k]? := by
  rw [List.getElem?_append_right (by simp)]; simp
theorem at_k0 (st : St) (b : Nat) (e : Ent) (l : St) : (st.set b e ++ l)[st.length]? = l[0]? := at_k st b e l 0
theorem set_k (st : St) (b : Nat) (e : Ent) (l : St) (k : Nat) (x : Ent) : (st.set b e ++ l).set (st.length + k) x = st.set b e ++ l.set k x := by
  rw [List.set_append_right _ _ (by simp)]; simp
theorem set_k0 (st : St) (b : Nat) (e : Ent) (l : St) (x : Ent) : (st.set b e ++ l).set st.length x = st.set b e ++ l.set 0 x := set_k st b e l 0 x

/-- What a call of a reader comes to. -/
def outR (s : Str) (b : Nat) (st : St) : RR → VEnd → St → Prop
  | .ok x p n => Gives (.agg (encD x)) (st.set b (rdE s p n))
  | .err e q p n => GivesP (faultV e q) (st.set b (rdE s p n))
def OutC (s : Str) (b : Nat) (st st0 : St) (f : FuncId) (args : List V) : RR → Prop
  | .ok x p n => VCalls Tryd.prog TT f args st0 fun r st' => r = .ret (.agg (encD x)) ∧ st' = st.set b (rdE s p n)
  | .err e q p n => VCalls Tryd.prog TT f args st0 fun r st' => r = .panic (faultV e q) ∧ st' = st.set b (rdE s p n)
theorem OutC_of {s : Str} {b : Nat} {st st0 : St} {f : FuncId} {args : List V} {rr : RR} (hl : st0.length = st.length) (h : VCalls Tryd.prog TT f args st0 (outR s b st rr)) : OutC s b st st0 f args rr := by
  cases rr with
  | ok x p n => exact VCalls.give h (by simp [hl])
  | err e q p n => exact VCalls.giveP h (by simp [hl])

theorem back_b {st ex : St} {b : Nat} {e : Ent} (h : b < st.length) : st.set b e ++ ex = (st ++ ex).set b e := (set_app h).symm
theorem get_b {st ex : St} {b : Nat} {e : Ent} (h : b < st.length) : (st.set b e ++ ex)[b]? = some e := by rw [back_b h]; exact List.getElem?_set_self (by simp; omega)
theorem x_blank (s : Str) (st ex : St) (b p n : Nat) (h : b < st.length) (hp : p ≤ s.length) (hs : s.length ≤ 6000) :
    VCalls Tryd.prog TT 52 [.ptr b 0] (st.set b (rdE s p n) ++ ex) fun r st' => r = .ret (.tup []) ∧ st' = st.set b (rdE s (s.length - (blk false (s.drop p)).length) n) ++ ex := by
  have := c_blank s (st.set b (rdE s p n) ++ ex) b p n (get_b h) hp hs
  rw [set_b h] at this; exact this
theorem x_node_ok (s : Str) (st ex : St) (b p n : Nat) (deep q : Int) (hb : b < st.length) (h : ¬ 2000 < n + 1 ∧ ¬ 40 < deep) :
    VCalls Tryd.prog TT 57 [.ptr b 0, .int .i64 deep, .int .i64 q] (st.set b (rdE s p n) ++ ex) fun r st' => r = .ret (.tup []) ∧ st' = st.set b (rdE s p (n + 1)) ++ ex := by
  have := c_node_ok s (st.set b (rdE s p n) ++ ex) b p n deep q (get_b hb) h
  rw [set_b hb] at this; exact this
theorem x_node_err (s : Str) (st ex : St) (b p n : Nat) (deep q : Int) (hb : b < st.length) (hn : n ≤ 2000) (h : 2000 < n + 1 ∨ 40 < deep) :
    VCalls Tryd.prog TT 57 [.ptr b 0, .int .i64 deep, .int .i64 q] (st.set b (rdE s p n) ++ ex) fun r st' => r = .panic (faultV 4 q) ∧ st' = st.set b (rdE s p (n + 1)) ++ ex := by
  have := c_node_err s (st.set b (rdE s p n) ++ ex) b p n deep q (get_b hb) hn h
  rw [set_b hb] at this; exact this
/-- .. with more behind. -/
def OutX (s : Str) (b : Nat) (st ex st0 : St) (f : FuncId) (args : List V) : RR → Prop
  | .ok x p n => VCalls Tryd.prog TT f args st0 fun r st' => r = .ret (.agg (encD x)) ∧ st' = st.set b (rdE s p n) ++ ex
  | .err e q p n => VCalls Tryd.prog TT f args st0 fun r st' => r = .panic (faultV e q) ∧ st' = st.set b (rdE s p n) ++ ex
theorem OutC.x {s : Str} {b p n : Nat} {st ex : St} {f : FuncId} {args : List V} {rr : RR} (hb : b < st.length) (h : OutC s b (st ++ ex) ((st ++ ex).set b (rdE s p n)) f args rr) : OutX s b st ex (st.set b (rdE s p n) ++ ex) f args rr := by
  rw [back_b hb]
  cases rr with
  | ok x p' n' => simp only [OutX, OutC, back_b hb] at h ⊢; exact h
  | err e q p' n' => simp only [OutX, OutC, back_b hb] at h ⊢; exact h
end Go.Proofs.YtcdnooalfkbmgaaDoor.Gx

namespace Go.Proofs.YtcdnooalfkbmgaaDoor.Gx
open Go Go.Proofs.YtcdnooalfkbmgaaDoor.Gw
set_option linter.unusedSimpArgs false
set_option linter.unusedVariables false

def zeroD : List V := [.int .i64 0, .int .i64 0, .str [], .int .i64 0, .int .i64 0, .nils]
def IHD (s : Str) (F : Nat) : Prop := ∀ f, f < F → ∀ (deep : Int) (p n : Nat) (st : St) (b : Nat), b < st.length → p ≤ s.length → n ≤ 2000 → 0 ≤ deep → deep ≤ 41 → 2 * (s.length - p) < f →
  OutC s b st (st.set b (rdE s p n)) 53 [.ptr b 0, .int .i64 deep] (rdD s f deep p n)

set_option maxHeartbeats 4000000 in
theorem c_list_of (s : Str) (hs : s.length ≤ 6000) (F : Nat) (ih : IHD s F) (deep : Int) (p n : Nat) (st : St) (b : Nat) (hlt : b < st.length) (hp : p ≤ s.length) (hn : n ≤ 2000) (hd0 : 0 ≤ deep) (hd1 : deep ≤ 40) (hF : 2 * (s.length - p) + 1 < F) :
    OutC s b st (st.set b (rdE s p n)) 59 [.ptr b 0, .int .i64 deep] (rdL s F deep [] p n) := by
  refine OutC_of (by simp) ?_
  refine vfunQ TT_ok (an := anL []) (L := [0, 1, 4, 5]) (rs := [.cell 4 53]) Tryd.func59 rfl (by kernel_rfl) rfl Tryd.ntmps59 rfl rfl fun hst ha hf => ?_
  have h63 : s.length ≤ 9223372036854775807 := by omega
  have hok : ∀ p n, St.ok (st.set b (rdE s p n)) := fun p n => by have := rd_ok (s := s) (b := b) (p := p) (n := n) hst; rw [List.set_set] at this; exact this
  simp only [gwL, gwB, gwD, gwE, gwS, gwTT, gwZ, gwN, gwC, Nat.reduceEqDiff, ↓reduceIte, Nat.reduceAdd, Nat.reduceLT, Nat.reduceLeDiff, Nat.reduceMul, List.length_set, at_k, at_k0, set_k, set_k0]
  refine vforT (σ := Nat × List Datum × Nat × Nat) [53] [0, 1, 4, 5] (fun x => [(0, true, .ptr b 0), (1, true, .int .i64 deep), (4, true, .ptr st.length 0), (5, true, .ptr (st.length + 1) 0)]) (fun x => st.set b (rdE s x.2.2.1 x.2.2.2) ++ [.box zeroD, .box [.int .i64 4, .int .i64 0, .str [], .int .i64 0, .int .i64 0, .lst 6 (some (st.length + 2)) (x.2.1.map encD)], .tip 53 x.2.1.length]) (fun x => s.length - x.2.2.1) (fun x => x.2.1.length ≤ x.2.2.1 ∧ x.2.2.1 ≤ s.length ∧ x.2.2.2 ≤ 2000 ∧ 2 * (s.length - x.2.2.1) + 1 < x.1 ∧ x.1 ≤ F ∧ rdL s F deep [] p n = rdL s x.1 deep x.2.1 x.2.2.1 x.2.2.2) (F, [], p, n) rfl TT_ok ⟨Nat.zero_le _, hp, hn, hF, Nat.le_refl _, rfl⟩ ?_ ?_ ?_
  · exact wkE_refl _
  · refine ⟨st.set b (rdE s p n) ++ [.box zeroD, .box [.int .i64 4, .int .i64 0, .str [], .int .i64 0, .int .i64 0, .lst 6 (some (st.length + 2)) []]], ?_, by simp only [gwL, tips, List.map_cons, List.map_nil, List.length_nil]⟩
    refine (wkSt_refl _).append (wkSt_cons (Ent.wkp_refl _) (wkSt_cons (Ent.wk_box ?_) wkSt_nil))
    exact wkL_cons (wk_refl _) (wkL_cons (wk_refl _) (wkL_cons (wk_refl _) (wkL_cons (wk_refl _) (wkL_cons (wk_refl _) (wkL_cons (wk_tip _ (by simp [Tips])) wkL_nil)))))
  rintro ⟨f, acc, p, n⟩ ⟨hacc, hp, hn, hf2, hfF, hI⟩
  simp only at hacc hp hn hf2 hfF hI ⊢
  rw [hI]
  cases f with
  | zero => omega
  | succ f =>
  simp only [gwL, gwB, gwD, gwE, gwS, gwTT, gwZ, gwN, gwC, Nat.reduceEqDiff, ↓reduceIte, Nat.reduceAdd, Nat.reduceLT, Nat.reduceLeDiff, Nat.reduceMul]
  refine (x_blank s st _ b p n hlt hp hs).use (wkL_refl _) fun _ => ?_
  have hble := blk_le (s.drop p) false
  have hbd := blk_drop (s.drop p) false
  simp only [rdL]
  simp only [List.length_drop] at hble hbd
  rw [List.drop_drop] at hbd
  generalize hl : blk false (s.drop p) = l at hble hbd ⊢
  simp only [gwL, gwB, gwD, gwE, gwS, gwTT, gwZ, gwN, gwC, Nat.reduceEqDiff, ↓reduceIte, Nat.reduceAdd, Nat.reduceLT, Nat.reduceLeDiff, Nat.reduceMul]
  refine vdraw TT_ok TT_mixed [0, 0, 0, 1, 0, 0, 0, 1, 0, 0] (by kernel_rfl) ?_
  simp only [gwL, gwB, gwD, gwE, gwS, gwTT, gwZ, gwN, gwC, Nat.reduceEqDiff, ↓reduceIte, Nat.reduceAdd, Nat.reduceLT, Nat.reduceLeDiff, Nat.reduceMul, at_b hlt]
  cases l with
  | nil =>
    simp only [List.length_nil, Nat.sub_zero, decide_true]
    simp only [gwL, gwB, gwD, gwE, gwS, gwTT, gwZ, gwN, gwC, Nat.reduceEqDiff, ↓reduceIte, Nat.reduceAdd, Nat.reduceLT, Nat.reduceLeDiff, Nat.reduceMul, at_b hlt]
    refine (c_fail _ 2 s.length).useP (wkL_refl _) ?_
    simp only [gwL, gwB, gwD, gwE, gwS, gwTT, gwZ, gwN, gwC, Nat.reduceEqDiff, ↓reduceIte, Nat.reduceAdd, Nat.reduceLT, Nat.reduceLeDiff, Nat.reduceMul]
    exact givesP_of (wk_refl _) (wkSt_refl _) (by simp [faultV, V.lt, ltL]) (hok _ _)
  | cons c r =>
    simp only [List.length_cons] at hble hbd ⊢
    have hlen : s.length - (r.length + 1) < s.length := by omega
    have hne : decide (((s.length - (r.length + 1) : Nat) : Int) = (s.length : Int)) = false := decide_eq_false (by omega)
    have hdr : s.drop (s.length - (r.length + 1)) = c :: r := by rw [hbd]; congr 1; omega
    generalize hp1 : s.length - (r.length + 1) = p1 at hlen hne hdr ⊢
    have hget : s[p1]? = some c := by
      have := congrArg (fun l => l[0]?) hdr
      simpa using this
    rw [hne]
    simp only [gwL, gwB, gwD, gwE, gwS, gwTT, gwZ, gwN, gwC, Nat.reduceEqDiff, ↓reduceIte, Nat.reduceAdd, Nat.reduceLT, Nat.reduceLeDiff, Nat.reduceMul]
    refine vdraw TT_ok TT_mixed [0, 0, 0, 1, 0, 0, 0, 1, 0, 0] (by kernel_rfl) ?_
    have h41 : decide ((c.toNat : Int) = 41) = decide (c = 41) := byte_eq c 41
    simp only [gwL, gwB, gwD, gwE, gwS, gwTT, gwZ, gwN, gwC, Nat.reduceEqDiff, ↓reduceIte, Nat.reduceAdd, Nat.reduceLT, Nat.reduceLeDiff, Nat.reduceMul, at_b hlt, getD_at hget, Int.ofNat_lt.mpr hlen]
    rw [h41]
    refine iK_split (fun h => ?_) (fun h => ?_)
    · rw [h]
      simp only [gwL, gwB, gwD, gwE, gwS, gwTT, gwZ, gwN, gwC, Nat.reduceEqDiff, ↓reduceIte, Nat.reduceAdd, Nat.reduceLT, Nat.reduceLeDiff, Nat.reduceMul, at_b hlt, next_i64 hlen h63, set_b hlt, at_k, at_k0, set_k, set_k0, List.length_set]
      refine ⟨by decide, ?_⟩
      simp only [cond_true, outR]
      have hp2 : s.length - r.length = p1 + 1 := by omega
      rw [hp2]
      refine gives_of (wk_agg ?_) (wkSt_refl _) (by simp only [V.lt]; exact encD_lt _ (.mk 4 0 [] 0 0 acc)) (hok _ _)
      rw [encD_mk]
      exact wkL_cons (wk_refl _) (wkL_cons (wk_refl _) (wkL_cons (wk_refl _) (wkL_cons (wk_refl _) (wkL_cons (wk_refl _) (wkL_cons (wk_tok _ _ _) wkL_nil)))))
    · rw [h]
      simp only [cond_false]
      have hc := OutC.x (ex := [.box zeroD, .box [.int .i64 4, .int .i64 0, .str [], .int .i64 0, .int .i64 0, .lst 6 (some (st.length + 2)) (acc.map encD)], .tip 53 acc.length]) hlt (ih f (by omega) (deep + 1) p1 n (st ++ [.box zeroD, .box [.int .i64 4, .int .i64 0, .str [], .int .i64 0, .int .i64 0, .lst 6 (some (st.length + 2)) (acc.map encD)], .tip 53 acc.length]) b (by simp; omega) (by omega) hn (by omega) (by omega) (by omega))
      have hfar := (rd_far s f).1 (deep + 1) p1 n hn
      have hwr : IntKind.i64.wrap (deep + 1) = deep + 1 := wrap_i64 (by omega) (by omega)
      cases hrr : rdD s f (deep + 1) p1 n with
      | err e q p' n' =>
        rw [hrr] at hc
        simp only [OutX] at hc
        simp only [RR.bind]
        simp only [gwL, gwB, gwD, gwE, gwS, gwTT, gwZ, gwN, gwC, Nat.reduceEqDiff, ↓reduceIte, Nat.reduceAdd, Nat.reduceLT, Nat.reduceLeDiff, Nat.reduceMul]
        refine vpanic TT_ok TT_mixed [0, 1, 0, 0, 0, 0, 0, 2, 0, 2] [0, 1, 2, 3, 4] 5 [6, 7, 8, 9] [0, 1, 4, 5] rfl (by kernel_rfl) ?_
        simp only [gwL, gwB, gwD, gwE, gwS, gwTT, gwZ, gwN, gwC, Nat.reduceEqDiff, ↓reduceIte, Nat.reduceAdd, Nat.reduceLT, Nat.reduceLeDiff, Nat.reduceMul, gwD3, gwDT, pureR_none, ite_self, nilR, nilB, bitF, bitV, nilC, nilCmp, eqb, assertV, assertW, zeroV, wQ_normal, wQ_ret, wQ_panic, pickO, pickC, List.map_cons, List.map_nil, List.getD_cons_zero, List.getD_cons_succ, Env.keep, beq_self_eq_true, cond_true, cond_false, at_k, at_k0, hwr, List.length_set]
        refine pK_of hc (wkL_refl _) ?_
        exact givesP_of (wk_refl _) (wkSt_refl _) (by simp [faultV, V.lt, ltL]) (hok _ _)
      | ok x p' n' =>
        rw [hrr] at hc hfar
        simp only [OutX] at hc
        simp only [RR.far] at hfar
        simp only [RR.bind]
        simp only [gwL, gwB, gwD, gwE, gwS, gwTT, gwZ, gwN, gwC, Nat.reduceEqDiff, ↓reduceIte, Nat.reduceAdd, Nat.reduceLT, Nat.reduceLeDiff, Nat.reduceMul]
        refine vstage TT_ok TT_mixed (σ := Unit) [st.set b (rdE s p1 n) ++ [.box zeroD, .box [.int .i64 4, .int .i64 0, .str [], .int .i64 0, .int .i64 0, .lst 6 (some (st.length + 2)) (acc.map encD)], .tip 53 acc.length], st.set b (rdE s p' n') ++ [.box zeroD, .box [.int .i64 4, .int .i64 0, .str [], .int .i64 0, .int .i64 0, .lst 6 (some (st.length + 2)) (acc.map encD)], .tip 53 acc.length]] [0, 3, 0, 0, 0, 4, 0, 2, 0, 2] [0,1,2,3,4,5,6,7,8,9] [] [] 1000 1001 [0, 1, 4, 5] (fun _x => [(0, true, .ptr b 0), (1, true, .int .i64 deep), (4, true, .ptr st.length 0), (5, true, .ptr (st.length + 1) 0)]) (fun _x => st.set b (rdE s p' n') ++ [.box zeroD, .box [.int .i64 4, .int .i64 0, .str [], .int .i64 0, .int .i64 0, .lst 6 (some (st.length + 2)) (acc.map encD ++ [encD x])], .tip 53 (acc.length + 1)]) (fun _x => True) rfl (by kernel_rfl) ?_ ?_
        · simp only [gwL, gwB, gwD, gwE, gwS, gwTT, gwZ, gwN, gwC, Nat.reduceEqDiff, ↓reduceIte, Nat.reduceAdd, Nat.reduceLT, Nat.reduceLeDiff, Nat.reduceMul, gwD3, gwDT, pureR_none, ite_self, nilR, nilB, bitF, bitV, nilC, nilCmp, eqb, assertV, assertW, zeroV, wQ_normal, wQ_ret, wQ_panic, pickO, pickC, List.map_cons, List.map_nil, List.getD_cons_zero, List.getD_cons_succ, Env.keep, beq_self_eq_true, cond_true, cond_false, at_k, at_k0, hwr, List.length_set]
          refine eK3_loud hc (wkL_refl _) (by simp) (by simp) ?_
          simp only [gwL, gwB, gwD, gwE, gwS, gwTT, gwZ, gwN, gwC, Nat.reduceEqDiff, ↓reduceIte, Nat.reduceAdd, Nat.reduceLT, Nat.reduceLeDiff, Nat.reduceMul, gwD3, gwDT, pureR_none, ite_self, nilR, nilB, bitF, bitV, nilC, nilCmp, eqb, assertV, assertW, zeroV, wQ_normal, wQ_ret, wQ_panic, pickO, pickC, List.map_cons, List.map_nil, List.getD_cons_zero, List.getD_cons_succ, Env.keep, beq_self_eq_true, cond_true, cond_false, at_k, at_k0, set_k, set_k0, encD_take, encD_len, encD_drop, Nat.le_refl, List.length_map, List.length_set]
          refine ⟨by omega, stage2_of ?_ ?_⟩
          · simp only [gwL, gwB, gwD, gwE, gwS, gwTT, gwZ, gwN, gwC, Nat.reduceEqDiff, ↓reduceIte, Nat.reduceAdd, Nat.reduceLT, Nat.reduceLeDiff, Nat.reduceMul, gwD3, gwDT, pureR_none, ite_self, nilR, nilB, bitF, bitV, nilC, nilCmp, eqb, assertV, assertW, zeroV, wQ_normal, wQ_ret, wQ_panic, pickO, pickC, List.map_cons, List.map_nil, List.getD_cons_zero, List.getD_cons_succ, Env.keep, beq_self_eq_true, cond_true, cond_false]
            exact ⟨rfl, rfl, (), rfl, rfl, trivial⟩
          · simp only [gwL, gwB, gwD, gwE, gwS, gwTT, gwZ, gwN, gwC, Nat.reduceEqDiff, ↓reduceIte, Nat.reduceAdd, Nat.reduceLT, Nat.reduceLeDiff, Nat.reduceMul, gwD3, gwDT, pureR_none, ite_self, nilR, nilB, bitF, bitV, nilC, nilCmp, eqb, assertV, assertW, zeroV, wQ_normal, wQ_ret, wQ_panic, pickO, pickC, List.map_cons, List.map_nil, List.getD_cons_zero, List.getD_cons_succ, Env.keep, beq_self_eq_true, cond_true, cond_false]
            exact ⟨rfl, rfl, (), rfl, rfl, trivial⟩
        · rintro - -
          simp only [gwL, gwB, gwD, gwE, gwS, gwTT, gwZ, gwN, gwC, Nat.reduceEqDiff, ↓reduceIte, Nat.reduceAdd, Nat.reduceLT, Nat.reduceLeDiff, Nat.reduceMul, Env.keep]
          have hsz : (List.set st b (rdE s p n)).length = st.length := by simp
          refine ⟨(f, acc ++ [x], p', n'), ⟨wkE_refl _, st.set b (rdE s p' n') ++ [.box zeroD, .box [.int .i64 4, .int .i64 0, .str [], .int .i64 0, .int .i64 0, .lst 6 (some (st.length + 2)) ((acc ++ [x]).map encD)], .tip 53 (acc ++ [x]).length], [], ?_, wkSt_refl _, ?_, ?_, ?_⟩, ?_, ?_, ?_, ?_, ?_, ?_, rfl⟩
          · simp
          · simp only [ltE, V.lt, gwL, List.length_set]
            exact ⟨by omega, by trivial, by omega, by omega, trivial⟩
          · refine ok_app (hok p' n') ⟨by simp [Ent.lt, ltL, V.lt, zeroD], ⟨?_, trivial, trivial⟩⟩
            simp only [Ent.lt, ltL, V.lt, true_and, and_true]
            exact ⟨fun e he => by cases he; simp, ltRows_map fun d _ => encD_lt _ _⟩
          · simp
          · dsimp only; omega
          · simp; omega
          · exact hfar.2.1
          · exact hfar.2.2
          · dsimp only; omega
          · dsimp only; omega
end Go.Proofs.YtcdnooalfkbmgaaDoor.Gx

namespace Go.Proofs.YtcdnooalfkbmgaaDoor.Gx
open Go Go.Proofs.YtcdnooalfkbmgaaDoor.Gw
set_option linter.unusedSimpArgs false
set_option linter.unusedVariables false

theorem wkR_cons {p : Nat → Prop} {x y : List V} {xs ys : List (List V)} (h : wkLp p x y) (k : wkRp p xs ys) : wkRp p (x :: xs) (y :: ys) := by simp only [wkRp]; exact ⟨y, ys, rfl, h, k⟩
theorem wkR_nil {p : Nat → Prop} : wkRp p [] [] := by simp [wkRp]
theorem word_slice {s : Str} {p : Nat} {c : UInt8} {r : Str} (h : s.drop p = c :: r) : (s.take (p + 1 + (r.takeWhile letterB).length)).drop p = c :: r.takeWhile letterB := by
  rw [List.drop_take, h, show p + 1 + (r.takeWhile letterB).length - p = (r.takeWhile letterB).length + 1 by omega, List.take_succ_cons]
  congr 1
  exact (List.prefix_iff_eq_take.1 (List.takeWhile_prefix letterB)).symm
set_option maxHeartbeats 4000000 in
theorem c_datum_of (s : Str) (hs : s.length ≤ 6000) (f : Nat) (ih : IHD s (f + 1)) (deep : Int) (p n : Nat) (st : St) (b : Nat) (hlt : b < st.length) (hp : p ≤ s.length) (hn : n ≤ 2000) (hd0 : 0 ≤ deep) (hd1 : deep ≤ 41) (hF : 2 * (s.length - p) < f + 1) :
    OutC s b st (st.set b (rdE s p n)) 53 [.ptr b 0, .int .i64 deep] (rdD s (f + 1) deep p n) := by
  refine OutC_of (by simp) ?_
  refine vfunQ TT_ok (an := anL []) (L := [0, 1, 4, 5, 6, 7, 8]) (rs := [.cell 4 53]) Tryd.func53 rfl (by kernel_rfl) rfl Tryd.ntmps53 rfl rfl fun hst ha hf => ?_
  have h63 : s.length ≤ 9223372036854775807 := by omega
  have hok : ∀ p n, St.ok (st.set b (rdE s p n)) := fun p n => by have := rd_ok (s := s) (b := b) (p := p) (n := n) hst; rw [List.set_set] at this; exact this
  have hfin : ∀ e q p' n' ex, outR s b st (.err e q p' n') (.panic (faultV e q)) (st.set b (rdE s p' n') ++ ex) := fun e q p' n' ex => givesP_of (wk_refl _) (wkSt_refl _) (by simp [faultV, V.lt, ltL]) (hok _ _)
  have hret : ∀ (d : Datum) v p' n' ex, wk v (.agg (encD d)) → outR s b st (.ok d p' n') (.ret v) (st.set b (rdE s p' n') ++ ex) := fun d v p' n' ex hw => gives_of hw (wkSt_refl _) (by simp only [V.lt]; exact encD_lt _ d) (hok _ _)
  simp only [gwL, gwB, gwD, gwE, gwS, gwTT, gwZ, gwN, gwC, Nat.reduceEqDiff, ↓reduceIte, Nat.reduceAdd, Nat.reduceLT, Nat.reduceLeDiff, Nat.reduceMul, List.length_set, at_k, at_k0, set_k, set_k0, at_b hlt, at_b0 hlt, set_b hlt]
  simp only [rdD]
  cases h0 : (decide (2000 < n + 1) || decide (40 < deep)) with
  | true =>
    refine (x_node_err s st _ b p n deep p hlt hn (by simpa using h0)).useP (wkL_refl _) ?_
    simp only [gwL, gwB, gwD, gwE, gwS, gwTT, gwZ, gwN, gwC, Nat.reduceEqDiff, ↓reduceIte, Nat.reduceAdd, Nat.reduceLT, Nat.reduceLeDiff, Nat.reduceMul]
    exact hfin _ _ _ _ _
  | false =>
  have hn1 : n + 1 ≤ 2000 := by simp at h0; omega
  have hdeep : deep ≤ 40 := by simp at h0; omega
  refine (x_node_ok s st _ b p n deep p hlt (by simp at h0; omega)).use (wkL_refl _) fun _ => ?_
  simp only [gwL, gwB, gwD, gwE, gwS, gwTT, gwZ, gwN, gwC, Nat.reduceEqDiff, ↓reduceIte, Nat.reduceAdd, Nat.reduceLT, Nat.reduceLeDiff, Nat.reduceMul, List.length_set, at_k, at_k0, set_k, set_k0, at_b hlt, at_b0 hlt, set_b hlt]
  try simp only [cond_false]
  rcases at_or_end s p hp with ⟨rfl, hdr⟩ | ⟨c, hltp, hget, hdr⟩
  · rw [hdr]
    simp only [gwL, gwB, gwD, gwE, gwS, gwTT, gwZ, gwN, gwC, Nat.reduceEqDiff, ↓reduceIte, Nat.reduceAdd, Nat.reduceLT, Nat.reduceLeDiff, Nat.reduceMul, decide_true]
    refine (c_fail _ 2 s.length).useP (wkL_refl _) ?_
    simp only [gwL, gwB, gwD, gwE, gwS, gwTT, gwZ, gwN, gwC, Nat.reduceEqDiff, ↓reduceIte, Nat.reduceAdd, Nat.reduceLT, Nat.reduceLeDiff, Nat.reduceMul]
    exact hfin _ _ _ _ _
  have hne : decide ((p : Int) = (s.length : Int)) = false := decide_eq_false (by omega)
  rw [hne, hdr]
  have hlen : p + (s.drop (p + 1)).length + 1 = s.length := by simp; omega
  have h40 : decide ((c.toNat : Int) = 40) = decide (c = 40) := byte_eq c 40
  simp only [gwL, gwB, gwD, gwE, gwS, gwTT, gwZ, gwN, gwC, Nat.reduceEqDiff, ↓reduceIte, Nat.reduceAdd, Nat.reduceLT, Nat.reduceLeDiff, Nat.reduceMul, List.length_set, at_k, at_k0, set_k, set_k0, at_b hlt, at_b0 hlt, set_b hlt, getD_at hget, Int.ofNat_lt.mpr hltp, next_i64 hltp h63, h40]
  have hE : ∀ x n, Ent.box [V.str s, V.int .i64 (x : Nat), V.int .i64 (n : Nat)] = rdE s x n := fun _ _ => rfl
  simp only [hE]
  have ihf : IHD s f := fun f' h => ih f' (by omega)
  refine iK_split (fun h => ?_) (fun h => ?_)
  · rw [h]
    have hc := OutC.x (ex := [.box zeroD]) hlt (c_list_of s hs f ihf deep (p + 1) (n + 1) (st ++ [.box zeroD]) b (by simp; omega) (by omega) hn1 hd0 hdeep (by omega))
    try simp only [cond_true]
    simp only [gwL, gwB, gwD, gwE, gwS, gwTT, gwZ, gwN, gwC, Nat.reduceEqDiff, ↓reduceIte, Nat.reduceAdd, Nat.reduceLT, Nat.reduceLeDiff, Nat.reduceMul]
    cases hrr : rdL s f deep [] (p + 1) (n + 1) with
    | err e q p' n' =>
      rw [hrr] at hc
      refine hc.useP (wkL_refl _) ?_
      simp only [gwL, gwB, gwD, gwE, gwS, gwTT, gwZ, gwN, gwC, Nat.reduceEqDiff, ↓reduceIte, Nat.reduceAdd, Nat.reduceLT, Nat.reduceLeDiff, Nat.reduceMul]
      exact hfin _ _ _ _ _
    | ok x p' n' =>
      rw [hrr] at hc
      refine hc.use (wkL_refl _) fun _ => ?_
      simp only [gwL, gwB, gwD, gwE, gwS, gwTT, gwZ, gwN, gwC, Nat.reduceEqDiff, ↓reduceIte, Nat.reduceAdd, Nat.reduceLT, Nat.reduceLeDiff, Nat.reduceMul, List.length_set, at_k, at_k0, set_k, set_k0, zeroD, encD_take, encD_len, encD_drop, Nat.le_refl]
      exact hret _ _ _ _ _ (wk_refl _)
  have h39 : decide ((c.toNat : Int) = 39) = decide (c = 39) := byte_eq c 39
  rw [h]
  simp only [gwL, gwB, gwD, gwE, gwS, gwTT, gwZ, gwN, gwC, Nat.reduceEqDiff, ↓reduceIte, Nat.reduceAdd, Nat.reduceLT, Nat.reduceLeDiff, Nat.reduceMul, h39]
  try simp only [cond_false]
  clear h
  refine iK_split (fun h => ?_) (fun h => ?_)
  · rw [h]
    try simp only [cond_true]
    have hwr : IntKind.i64.wrap (deep + 1) = deep + 1 := wrap_i64 (by omega) (by omega)
    simp only [gwL, gwB, gwD, gwE, gwS, gwTT, gwZ, gwN, gwC, Nat.reduceEqDiff, ↓reduceIte, Nat.reduceAdd, Nat.reduceLT, Nat.reduceLeDiff, Nat.reduceMul, hwr]
    cases h1 : (decide (2000 < n + 2) || decide (40 < deep + 1)) with
    | true =>
      refine (x_node_err s st _ b (p + 1) (n + 1) (deep + 1) p hlt hn1 (by simpa using h1)).useP (wkL_refl _) ?_
      simp only [gwL, gwB, gwD, gwE, gwS, gwTT, gwZ, gwN, gwC, Nat.reduceEqDiff, ↓reduceIte, Nat.reduceAdd, Nat.reduceLT, Nat.reduceLeDiff, Nat.reduceMul]
      try simp only [cond_true]
      exact hfin _ _ _ _ _
    | false =>
      have hn2 : n + 2 ≤ 2000 := by simp at h1; omega
      refine (x_node_ok s st _ b (p + 1) (n + 1) (deep + 1) p hlt (by simp at h1; omega)).use (wkL_refl _) fun _ => ?_
      simp only [gwL, gwB, gwD, gwE, gwS, gwTT, gwZ, gwN, gwC, Nat.reduceEqDiff, ↓reduceIte, Nat.reduceAdd, Nat.reduceLT, Nat.reduceLeDiff, Nat.reduceMul]
      refine (x_blank s st _ b (p + 1) (n + 2) hlt (by omega) hs).use (wkL_refl _) fun _ => ?_
      have hbl := blk_le (s.drop (p + 1)) false
      simp only [List.length_drop] at hbl
      generalize hq : s.length - (blk false (s.drop (p + 1))).length = p2
      have hc := OutC.x (ex := [.box zeroD]) hlt (ih f (by omega) (deep + 1) p2 (n + 2) (st ++ [.box zeroD]) b (by simp; omega) (by omega) hn2 (by omega) (by omega) (by omega))
      try simp only [cond_false]
      simp only [gwL, gwB, gwD, gwE, gwS, gwTT, gwZ, gwN, gwC, Nat.reduceEqDiff, ↓reduceIte, Nat.reduceAdd, Nat.reduceLT, Nat.reduceLeDiff, Nat.reduceMul, hwr]
      cases hrr : rdD s f (deep + 1) p2 (n + 2) with
      | err e q p' n' =>
        rw [hrr] at hc
        refine hc.useP (wkL_refl _) ?_
        simp only [gwL, gwB, gwD, gwE, gwS, gwTT, gwZ, gwN, gwC, Nat.reduceEqDiff, ↓reduceIte, Nat.reduceAdd, Nat.reduceLT, Nat.reduceLeDiff, Nat.reduceMul]
        exact hfin _ _ _ _ _
      | ok x p' n' =>
        rw [hrr] at hc
        refine hc.use (wkL_refl _) fun _ => ?_
        simp only [gwL, gwB, gwD, gwE, gwS, gwTT, gwZ, gwN, gwC, Nat.reduceEqDiff, ↓reduceIte, Nat.reduceAdd, Nat.reduceLT, Nat.reduceLeDiff, Nat.reduceMul, List.length_set, at_k, at_k0, set_k, set_k0, zeroD, encD_take, encD_len, encD_drop, Nat.le_refl]
        refine hret (quoteD x) _ _ _ _ (wk_agg ?_)
        simp only [quoteD, encD_mk, List.map_cons, List.map_nil]
        exact wkL_cons (wk_refl _) (wkL_cons (wk_refl _) (wkL_cons (wk_refl _) (wkL_cons (wk_refl _) (wkL_cons (wk_refl _) (wkL_cons (wk_lst (wkR_cons (wk6 ..) (wkR_cons (wkL_refl _) wkR_nil))) wkL_nil)))))
  rw [h]
  have h35 : decide ((c.toNat : Int) = 35) = decide (c = 35) := byte_eq c 35
  simp only [gwL, gwB, gwD, gwE, gwS, gwTT, gwZ, gwN, gwC, Nat.reduceEqDiff, ↓reduceIte, Nat.reduceAdd, Nat.reduceLT, Nat.reduceLeDiff, Nat.reduceMul, h35]
  try simp only [cond_false]
  clear h
  refine iK_split (fun h => ?_) (fun h => ?_)
  · rw [h]
    try simp only [cond_true]
    simp only [gwL, gwB, gwD, gwE, gwS, gwTT, gwZ, gwN, gwC, Nat.reduceEqDiff, ↓reduceIte, Nat.reduceAdd, Nat.reduceLT, Nat.reduceLeDiff, Nat.reduceMul]
    refine vdraw TT_ok TT_mixed [0, 0, 0, 1, 0, 0, 0, 1, 0, 0, 0, 0, 0, 0, 1, 0, 0, 0, 1, 0, 0, 0, 0, 0, 0, 1, 0, 0, 0, 1, 0, 0, 0, 0] (by kernel_rfl) ?_
    rcases at_or_end s (p + 1) (by omega) with ⟨hpe, hdr2⟩ | ⟨t, hltt, hgett, hdr2⟩
    · have hlt1 : decide (((p + 1 : Nat) : Int) < (s.length : Int)) = false := decide_eq_false (by omega)
      simp only [gwL, gwB, gwD, gwE, gwS, gwTT, gwZ, gwN, gwC, Nat.reduceEqDiff, ↓reduceIte, Nat.reduceAdd, Nat.reduceLT, Nat.reduceLeDiff, Nat.reduceMul, at_b hlt, hlt1]
      rw [hdr2]
      refine (c_fail _ 2 p).useP (wkL_refl _) ?_
      simp only [gwL, gwB, gwD, gwE, gwS, gwTT, gwZ, gwN, gwC, Nat.reduceEqDiff, ↓reduceIte, Nat.reduceAdd, Nat.reduceLT, Nat.reduceLeDiff, Nat.reduceMul]
      exact hfin _ _ _ _ _
    · have e1 : decide ((t.toNat : Int) = 116) = decide (t = 116) := byte_eq t 116
      have e2 : decide ((t.toNat : Int) = 102) = decide (t = 102) := byte_eq t 102
      simp only [gwL, gwB, gwD, gwE, gwS, gwTT, gwZ, gwN, gwC, Nat.reduceEqDiff, ↓reduceIte, Nat.reduceAdd, Nat.reduceLT, Nat.reduceLeDiff, Nat.reduceMul, at_b hlt, lt_yes hltt, getD_at hgett, Int.ofNat_lt.mpr hltt, e1, e2]
      rw [hdr2]
      simp only [rdB]
      refine iK_split (fun h2 => ?_) (fun h2 => ?_)
      · rw [h2]
        try simp only [cond_true]
        simp only [gwL, gwB, gwD, gwE, gwS, gwTT, gwZ, gwN, gwC, Nat.reduceEqDiff, ↓reduceIte, Nat.reduceAdd, Nat.reduceLT, Nat.reduceLeDiff, Nat.reduceMul]
        refine vdraw TT_ok TT_mixed [0, 0, 0, 1, 0, 0, 0, 1, 0, 0] (by kernel_rfl) ?_
        simp only [gwL, gwB, gwD, gwE, gwS, gwTT, gwZ, gwN, gwC, Nat.reduceEqDiff, ↓reduceIte, Nat.reduceAdd, Nat.reduceLT, Nat.reduceLeDiff, Nat.reduceMul, at_b hlt, getD_at hgett, Int.ofNat_lt.mpr hltt, e1]
        have hend : ∀ k : Int, k = (bif decide (t = 116) then 1 else 0) → True := fun _ _ => trivial
        refine iK_split (fun h3 => ?_) (fun h3 => ?_)
        · rw [h3]
          simp only [gwL, gwB, gwD, gwE, gwS, gwTT, gwZ, gwN, gwC, Nat.reduceEqDiff, ↓reduceIte, Nat.reduceAdd, Nat.reduceLT, Nat.reduceLeDiff, Nat.reduceMul, at_b hlt, set_b hlt, next_i64 hltt h63]
          simp only [hE]
          refine vdraw TT_ok TT_mixed [0, 0, 0, 1, 0, 0, 0, 1, 0, 0, 0, 0, 0, 0, 1, 0, 0, 0, 1, 0, 0, 0, 0] (by kernel_rfl) ?_
          rcases at_or_end s (p + 2) (by omega) with ⟨hpe, hdr3⟩ | ⟨u, hltu, hgetu, hdr3⟩
          · have heq : decide (((p + 2 : Nat) : Int) = (s.length : Int)) = true := decide_eq_true (by omega)
            simp only [gwL, gwB, gwD, gwE, gwS, gwTT, gwZ, gwN, gwC, Nat.reduceEqDiff, ↓reduceIte, Nat.reduceAdd, Nat.reduceLT, Nat.reduceLeDiff, Nat.reduceMul, at_b hlt, heq]
            rw [hdr3]
            refine eK_free (fun st => c_letter st (s.getD (p + 2) 0)) (wkL_refl _) ?_
            simp only [gwL, gwB, gwD, gwE, gwS, gwTT, gwZ, gwN, gwC, Nat.reduceEqDiff, ↓reduceIte, Nat.reduceAdd, Nat.reduceLT, Nat.reduceLeDiff, Nat.reduceMul, at_k, at_k0, set_k, set_k0, List.length_set]
            exact hret (.mk 2 _ [] 0 0 []) _ _ _ _ (wk_agg (by rw [encD_mk]; exact wk6 ..))
          · have heq : decide (((p + 2 : Nat) : Int) = (s.length : Int)) = false := decide_eq_false (by omega)
            simp only [gwL, gwB, gwD, gwE, gwS, gwTT, gwZ, gwN, gwC, Nat.reduceEqDiff, ↓reduceIte, Nat.reduceAdd, Nat.reduceLT, Nat.reduceLeDiff, Nat.reduceMul, at_b hlt, heq, getD_at hgetu, Int.ofNat_lt.mpr hltu]
            rw [hdr3]
            refine eK_free (fun st => c_letter st u) (wkL_refl _) ?_
            simp only [gwL, gwB, gwD, gwE, gwS, gwTT, gwZ, gwN, gwC, Nat.reduceEqDiff, ↓reduceIte, Nat.reduceAdd, Nat.reduceLT, Nat.reduceLeDiff, Nat.reduceMul, at_k, at_k0, set_k, set_k0, List.length_set]
            refine iK_split (fun h4 => ?_) (fun h4 => ?_)
            · have h4' : letterB u = false := by simpa using h4
              rw [h4']
              simp only [gwL, gwB, gwD, gwE, gwS, gwTT, gwZ, gwN, gwC, Nat.reduceEqDiff, ↓reduceIte, Nat.reduceAdd, Nat.reduceLT, Nat.reduceLeDiff, Nat.reduceMul, at_k, at_k0, set_k, set_k0, List.length_set]
              exact hret (.mk 2 _ [] 0 0 []) _ _ _ _ (wk_agg (by rw [encD_mk]; exact wk6 ..))
            · have h4' : letterB u = true := by simpa using h4
              rw [h4']
              simp only [gwL, gwB, gwD, gwE, gwS, gwTT, gwZ, gwN, gwC, Nat.reduceEqDiff, ↓reduceIte, Nat.reduceAdd, Nat.reduceLT, Nat.reduceLeDiff, Nat.reduceMul]
              refine (c_fail _ 2 p).useP (wkL_refl _) ?_
              simp only [gwL, gwB, gwD, gwE, gwS, gwTT, gwZ, gwN, gwC, Nat.reduceEqDiff, ↓reduceIte, Nat.reduceAdd, Nat.reduceLT, Nat.reduceLeDiff, Nat.reduceMul]
              exact hfin _ _ _ _ _
        · rw [h3]
          simp only [gwL, gwB, gwD, gwE, gwS, gwTT, gwZ, gwN, gwC, Nat.reduceEqDiff, ↓reduceIte, Nat.reduceAdd, Nat.reduceLT, Nat.reduceLeDiff, Nat.reduceMul, at_b hlt, set_b hlt, next_i64 hltt h63]
          simp only [hE]
          refine vdraw TT_ok TT_mixed [0, 0, 0, 1, 0, 0, 0, 1, 0, 0, 0, 0, 0, 0, 1, 0, 0, 0, 1, 0, 0, 0, 0] (by kernel_rfl) ?_
          rcases at_or_end s (p + 2) (by omega) with ⟨hpe, hdr3⟩ | ⟨u, hltu, hgetu, hdr3⟩
          · have heq : decide (((p + 2 : Nat) : Int) = (s.length : Int)) = true := decide_eq_true (by omega)
            simp only [gwL, gwB, gwD, gwE, gwS, gwTT, gwZ, gwN, gwC, Nat.reduceEqDiff, ↓reduceIte, Nat.reduceAdd, Nat.reduceLT, Nat.reduceLeDiff, Nat.reduceMul, at_b hlt, heq]
            rw [hdr3]
            refine eK_free (fun st => c_letter st (s.getD (p + 2) 0)) (wkL_refl _) ?_
            simp only [gwL, gwB, gwD, gwE, gwS, gwTT, gwZ, gwN, gwC, Nat.reduceEqDiff, ↓reduceIte, Nat.reduceAdd, Nat.reduceLT, Nat.reduceLeDiff, Nat.reduceMul, at_k, at_k0, set_k, set_k0, List.length_set]
            exact hret (.mk 2 _ [] 0 0 []) _ _ _ _ (wk_agg (by rw [encD_mk]; exact wk6 ..))
          · have heq : decide (((p + 2 : Nat) : Int) = (s.length : Int)) = false := decide_eq_false (by omega)
            simp only [gwL, gwB, gwD, gwE, gwS, gwTT, gwZ, gwN, gwC, Nat.reduceEqDiff, ↓reduceIte, Nat.reduceAdd, Nat.reduceLT, Nat.reduceLeDiff, Nat.reduceMul, at_b hlt, heq, getD_at hgetu, Int.ofNat_lt.mpr hltu]
            rw [hdr3]
            refine eK_free (fun st => c_letter st u) (wkL_refl _) ?_
            simp only [gwL, gwB, gwD, gwE, gwS, gwTT, gwZ, gwN, gwC, Nat.reduceEqDiff, ↓reduceIte, Nat.reduceAdd, Nat.reduceLT, Nat.reduceLeDiff, Nat.reduceMul, at_k, at_k0, set_k, set_k0, List.length_set]
            refine iK_split (fun h4 => ?_) (fun h4 => ?_)
            · have h4' : letterB u = false := by simpa using h4
              rw [h4']
              simp only [gwL, gwB, gwD, gwE, gwS, gwTT, gwZ, gwN, gwC, Nat.reduceEqDiff, ↓reduceIte, Nat.reduceAdd, Nat.reduceLT, Nat.reduceLeDiff, Nat.reduceMul, at_k, at_k0, set_k, set_k0, List.length_set]
              exact hret (.mk 2 _ [] 0 0 []) _ _ _ _ (wk_agg (by rw [encD_mk]; exact wk6 ..))
            · have h4' : letterB u = true := by simpa using h4
              rw [h4']
              simp only [gwL, gwB, gwD, gwE, gwS, gwTT, gwZ, gwN, gwC, Nat.reduceEqDiff, ↓reduceIte, Nat.reduceAdd, Nat.reduceLT, Nat.reduceLeDiff, Nat.reduceMul]
              refine (c_fail _ 2 p).useP (wkL_refl _) ?_
              simp only [gwL, gwB, gwD, gwE, gwS, gwTT, gwZ, gwN, gwC, Nat.reduceEqDiff, ↓reduceIte, Nat.reduceAdd, Nat.reduceLT, Nat.reduceLeDiff, Nat.reduceMul]
              exact hfin _ _ _ _ _
      · rw [h2]
        simp only [gwL, gwB, gwD, gwE, gwS, gwTT, gwZ, gwN, gwC, Nat.reduceEqDiff, ↓reduceIte, Nat.reduceAdd, Nat.reduceLT, Nat.reduceLeDiff, Nat.reduceMul]
        refine (c_fail _ 2 p).useP (wkL_refl _) ?_
        simp only [gwL, gwB, gwD, gwE, gwS, gwTT, gwZ, gwN, gwC, Nat.reduceEqDiff, ↓reduceIte, Nat.reduceAdd, Nat.reduceLT, Nat.reduceLeDiff, Nat.reduceMul]
        exact hfin _ _ _ _ _
  rw [h]
  simp only [gwL, gwB, gwD, gwE, gwS, gwTT, gwZ, gwN, gwC, Nat.reduceEqDiff, ↓reduceIte, Nat.reduceAdd, Nat.reduceLT, Nat.reduceLeDiff, Nat.reduceMul]
  try simp only [cond_false]
  clear h
  refine (c_letter _ c).use (wkL_refl _) fun _ => ?_
  simp only [gwL, gwB, gwD, gwE, gwS, gwTT, gwZ, gwN, gwC, Nat.reduceEqDiff, ↓reduceIte, Nat.reduceAdd, Nat.reduceLT, Nat.reduceLeDiff, Nat.reduceMul]
  refine iK_split (fun h => ?_) (fun h => ?_)
  · rw [h]
    try simp only [cond_true]
    simp only [gwL, gwB, gwD, gwE, gwS, gwTT, gwZ, gwN, gwC, Nat.reduceEqDiff, ↓reduceIte, Nat.reduceAdd, Nat.reduceLT, Nat.reduceLeDiff, Nat.reduceMul]
    have hbox : [Ent.box [V.int .i64 0, V.int .i64 0, V.str [], V.int .i64 0, V.int .i64 0, V.nils]] = [Ent.box zeroD] := rfl
    have hrl : (s.drop (p + 1)).length = s.length - (p + 1) := by simp
    refine vfor (σ := Nat) [0, 1, 4, 5] (fun y => [(0, true, .ptr b 0), (1, true, .int .i64 deep), (4, true, .ptr st.length 0), (5, true, .int .i64 p)]) (fun y => st.set b (rdE s y (n + 1)) ++ [.box zeroD]) (fun y => s.length - y) (fun y => p + 1 ≤ y ∧ y ≤ s.length ∧ y + ((s.drop y).takeWhile letterB).length = p + 1 + ((s.drop (p + 1)).takeWhile letterB).length) (p + 1) rfl TT_ok ⟨Nat.le_refl _, by omega, rfl⟩ rfl rfl ?_
    rintro y ⟨hy1, hy2, hy3⟩
    simp only [gwL, gwB, gwD, gwE, gwS, gwTT, gwZ, gwN, gwC, Nat.reduceEqDiff, ↓reduceIte, Nat.reduceAdd, Nat.reduceLT, Nat.reduceLeDiff, Nat.reduceMul]
    refine vdraw TT_ok TT_mixed [0, 0, 0, 1, 0, 0, 0, 1, 0, 0, 0, 0, 0, 0, 1, 0, 0, 0, 1, 0, 0, 0] (by kernel_rfl) ?_
    have hafter : ∀ y, y = p + 1 + ((s.drop (p + 1)).takeWhile letterB).length → y ≤ s.length → True := fun _ _ _ => trivial
    rcases at_or_end s y hy2 with ⟨hye, hdry⟩ | ⟨u, hlty, hgety, hdry⟩
    · have hlt1 : decide ((y : Int) < (s.length : Int)) = false := decide_eq_false (by omega)
      simp only [gwL, gwB, gwD, gwE, gwS, gwTT, gwZ, gwN, gwC, Nat.reduceEqDiff, ↓reduceIte, Nat.reduceAdd, Nat.reduceLT, Nat.reduceLeDiff, Nat.reduceMul, at_b hlt, hlt1]
      refine eK_free (fun st => c_letter st (s.getD y 0)) (wkL_refl _) ?_
      simp only [gwL, gwB, gwD, gwE, gwS, gwTT, gwZ, gwN, gwC, Nat.reduceEqDiff, ↓reduceIte, Nat.reduceAdd, Nat.reduceLT, Nat.reduceLeDiff, Nat.reduceMul]
      have hyE : y = p + 1 + ((s.drop (p + 1)).takeWhile letterB).length := by rw [hdry] at hy3; simpa using hy3
      have hsl := word_slice hdr
      rw [← hyE] at hsl
      have hwl : (c :: (s.drop (p + 1)).takeWhile letterB).length ≤ 6000 := by have := takeWhile_le (l := s.drop (p + 1)); simp only [List.length_cons]; omega
      have hle1 : decide ((p : Int) ≤ (y : Int)) = true := decide_eq_true (by omega)
      simp only [rdA]
      rw [← hyE]
      cases har : atomR (c :: (s.drop (p + 1)).takeWhile letterB) with
      | inl e =>
        refine vpanic TT_ok TT_mixed [0, 0, 0, 1, 0, 0, 0, 0, 1, 0, 0, 0, 2] [0, 1, 2, 3, 4, 5, 6, 7, 8, 9, 10] 11 [12] [0, 1, 4, 5, 6, 7, 8] rfl (by kernel_rfl) ?_
        simp only [gwL, gwB, gwD, gwE, gwS, gwTT, gwZ, gwN, gwC, Nat.reduceEqDiff, ↓reduceIte, Nat.reduceAdd, Nat.reduceLT, Nat.reduceLeDiff, Nat.reduceMul, gwD3, gwDT, pureR_none, ite_self, nilR, nilB, bitF, bitV, nilC, nilCmp, eqb, assertV, assertW, zeroV, wQ_normal, wQ_ret, wQ_panic, pickO, pickC, List.map_cons, List.map_nil, List.getD_cons_zero, List.getD_cons_succ, Env.keep, beq_self_eq_true, cond_true, cond_false, at_b hlt, Int.toNat_natCast, hsl]
        refine ⟨by omega, ?_⟩
        refine pK_of (c_atom_err _ _ p e hwl har) (wkL_refl _) ?_
        exact hfin _ _ _ _ _
      | inr d =>
        refine vdraw TT_ok TT_mixed [0, 0, 0, 1, 0, 0, 0, 0, 1, 0, 0, 0, 2] (by kernel_rfl) ?_
        simp only [gwL, gwB, gwD, gwE, gwS, gwTT, gwZ, gwN, gwC, Nat.reduceEqDiff, ↓reduceIte, Nat.reduceAdd, Nat.reduceLT, Nat.reduceLeDiff, Nat.reduceMul, at_b hlt, Int.toNat_natCast, hsl]
        refine ⟨by omega, ?_⟩
        refine eK_free (fun st => c_atom_ok _ st p d hwl har) (wkL_refl _) ?_
        simp only [gwL, gwB, gwD, gwE, gwS, gwTT, gwZ, gwN, gwC, Nat.reduceEqDiff, ↓reduceIte, Nat.reduceAdd, Nat.reduceLT, Nat.reduceLeDiff, Nat.reduceMul, at_k, at_k0, set_k, set_k0, List.length_set, zeroD, encD_take, encD_len, encD_drop, Nat.le_refl]
        exact hret _ _ _ _ _ (wk_refl _)
    · simp only [gwL, gwB, gwD, gwE, gwS, gwTT, gwZ, gwN, gwC, Nat.reduceEqDiff, ↓reduceIte, Nat.reduceAdd, Nat.reduceLT, Nat.reduceLeDiff, Nat.reduceMul, at_b hlt, lt_yes hlty, getD_at hgety, Int.ofNat_lt.mpr hlty]
      refine eK_free (fun st => c_letter st u) (wkL_refl _) ?_
      simp only [gwL, gwB, gwD, gwE, gwS, gwTT, gwZ, gwN, gwC, Nat.reduceEqDiff, ↓reduceIte, Nat.reduceAdd, Nat.reduceLT, Nat.reduceLeDiff, Nat.reduceMul]
      refine iK_split (fun h4 => ?_) (fun h4 => ?_)
      · simp only [gwL, gwB, gwD, gwE, gwS, gwTT, gwZ, gwN, gwC, Nat.reduceEqDiff, ↓reduceIte, Nat.reduceAdd, Nat.reduceLT, Nat.reduceLeDiff, Nat.reduceMul, at_b hlt, set_b hlt, next_i64 hlty h63]
        simp only [gwL, gwB, gwD, gwE, gwS, gwTT, gwZ, gwN, gwC, Nat.reduceEqDiff, ↓reduceIte, Nat.reduceAdd, Nat.reduceLT, Nat.reduceLeDiff, Nat.reduceMul, Env.keep]
        rw [hdry, List.takeWhile_cons_of_pos h4, List.length_cons] at hy3
        exact ⟨y + 1, rfl, by omega, by omega, by omega, by omega⟩
      · simp only [gwL, gwB, gwD, gwE, gwS, gwTT, gwZ, gwN, gwC, Nat.reduceEqDiff, ↓reduceIte, Nat.reduceAdd, Nat.reduceLT, Nat.reduceLeDiff, Nat.reduceMul]
        have hyE : y = p + 1 + ((s.drop (p + 1)).takeWhile letterB).length := by rw [hdry, List.takeWhile_cons_of_neg (by simp [h4]), List.length_nil] at hy3; simpa using hy3
        have hsl := word_slice hdr
        rw [← hyE] at hsl
        have hwl : (c :: (s.drop (p + 1)).takeWhile letterB).length ≤ 6000 := by have := takeWhile_le (l := s.drop (p + 1)); simp only [List.length_cons]; omega
        have hle1 : decide ((p : Int) ≤ (y : Int)) = true := decide_eq_true (by omega)
        simp only [rdA]
        rw [← hyE]
        cases har : atomR (c :: (s.drop (p + 1)).takeWhile letterB) with
        | inl e =>
          refine vpanic TT_ok TT_mixed [0, 0, 0, 1, 0, 0, 0, 0, 1, 0, 0, 0, 2] [0, 1, 2, 3, 4, 5, 6, 7, 8, 9, 10] 11 [12] [0, 1, 4, 5, 6, 7, 8] rfl (by kernel_rfl) ?_
          simp only [gwL, gwB, gwD, gwE, gwS, gwTT, gwZ, gwN, gwC, Nat.reduceEqDiff, ↓reduceIte, Nat.reduceAdd, Nat.reduceLT, Nat.reduceLeDiff, Nat.reduceMul, gwD3, gwDT, pureR_none, ite_self, nilR, nilB, bitF, bitV, nilC, nilCmp, eqb, assertV, assertW, zeroV, wQ_normal, wQ_ret, wQ_panic, pickO, pickC, List.map_cons, List.map_nil, List.getD_cons_zero, List.getD_cons_succ, Env.keep, beq_self_eq_true, cond_true, cond_false, at_b hlt, Int.toNat_natCast, hsl]
          refine ⟨by omega, ?_⟩
          refine pK_of (c_atom_err _ _ p e hwl har) (wkL_refl _) ?_
          exact hfin _ _ _ _ _
        | inr d =>
          refine vdraw TT_ok TT_mixed [0, 0, 0, 1, 0, 0, 0, 0, 1, 0, 0, 0, 2] (by kernel_rfl) ?_
          simp only [gwL, gwB, gwD, gwE, gwS, gwTT, gwZ, gwN, gwC, Nat.reduceEqDiff, ↓reduceIte, Nat.reduceAdd, Nat.reduceLT, Nat.reduceLeDiff, Nat.reduceMul, at_b hlt, Int.toNat_natCast, hsl]
          refine ⟨by omega, ?_⟩
          refine eK_free (fun st => c_atom_ok _ st p d hwl har) (wkL_refl _) ?_
          simp only [gwL, gwB, gwD, gwE, gwS, gwTT, gwZ, gwN, gwC, Nat.reduceEqDiff, ↓reduceIte, Nat.reduceAdd, Nat.reduceLT, Nat.reduceLeDiff, Nat.reduceMul, at_k, at_k0, set_k, set_k0, List.length_set, zeroD, encD_take, encD_len, encD_drop, Nat.le_refl]
          exact hret _ _ _ _ _ (wk_refl _)
  · rw [h]
    simp only [gwL, gwB, gwD, gwE, gwS, gwTT, gwZ, gwN, gwC, Nat.reduceEqDiff, ↓reduceIte, Nat.reduceAdd, Nat.reduceLT, Nat.reduceLeDiff, Nat.reduceMul]
    refine (c_fail _ 2 p).useP (wkL_refl _) ?_
    simp only [gwL, gwB, gwD, gwE, gwS, gwTT, gwZ, gwN, gwC, Nat.reduceEqDiff, ↓reduceIte, Nat.reduceAdd, Nat.reduceLT, Nat.reduceLeDiff, Nat.reduceMul]
    exact hfin _ _ _ _ _
end Go.Proofs.YtcdnooalfkbmgaaDoor.Gx

namespace Go.Proofs.YtcdnooalfkbmgaaDoor.Gx
open Go Go.Proofs.YtcdnooalfkbmgaaDoor.Gw
set_option linter.unusedSimpArgs false
set_option linter.unusedVariables false

theorem c_datum (s : Str) (hs : s.length ≤ 6000) : ∀ F, IHD s F
  | 0 => fun f h => by omega
  | F + 1 => fun f h deep p n st b h1 h2 h3 h4 h5 h6 => by
    rcases Nat.lt_or_ge f F with hl | hl
    · exact c_datum s hs F f hl deep p n st b h1 h2 h3 h4 h5 h6
    · have : f = F := by omega
      subst this
      cases f with
      | zero => omega
      | succ f => exact c_datum_of s hs f (c_datum s hs (f + 1)) deep p n st b h1 h2 h3 h4 h5 h6

/-- What is deferred, where nothing was thrown. -/
theorem d_idle (st : St) (a c : Nat) : VDefers Tryd.prog TT 51 [.ptr a 0, .ptr c 0] none st st := by
  refine vdefers TT_ok (an := anL []) (L := [0, 1, 3, 4, 5, 10]) Tryd.func51 rfl (by kernel_rfl) rfl Tryd.ntmps51 rfl rfl (by decide) (Nat.le_refl _) fun hst ha hf => ?_
  simp only [gwL, gwB, gwD, gwE, gwS, gwTT, gwZ, gwN, gwC, Nat.reduceEqDiff, ↓reduceIte, Nat.reduceAdd, Nat.reduceLT, Nat.reduceLeDiff, Nat.reduceMul, gwD3, gwDT, pureR_none, ite_self, nilR, nilB, bitF, bitV, nilC, nilCmp, eqb, assertV, assertW, zeroV, wQ_normal, wQ_ret, wQ_panic, pickO, pickC, List.map_cons, List.map_nil, List.getD_cons_zero, List.getD_cons_succ, Env.keep, beq_self_eq_true, cond_true, cond_false, Option.getD_none]
  exact ⟨[], st, by simp, wkSt_refl _, hst⟩
/-- .. where a fault was. -/
theorem d_caught (st : St) (a c : Nat) (e q : Int) (o : V) (x y : Int) (hao : st[a]? = some (.box [o])) (hc : st[c]? = some (.box [.int .i64 x, .int .i64 y])) (hne : a ≠ c) (hst2 : St.ok ((st.set a (.box [.nils])).set c (.box [.int .i64 e, .int .i64 q]))) :
    VDefers Tryd.prog TT 51 [.ptr a 0, .ptr c 0] (some (faultV e q)) st ((st.set a (.box [.nils])).set c (.box [.int .i64 e, .int .i64 q])) := by
  have hal := (List.getElem?_eq_some_iff.1 hao).1
  have hcl := (List.getElem?_eq_some_iff.1 hc).1
  refine vdefers TT_ok (an := anL []) (L := [0, 1, 3, 4, 5, 10]) Tryd.func51 rfl (by kernel_rfl) rfl Tryd.ntmps51 rfl rfl (by decide) (by simp) fun hst ha hf => ?_
  simp only [faultV]
  simp only [gwL, gwB, gwD, gwE, gwS, gwTT, gwZ, gwN, gwC, Nat.reduceEqDiff, ↓reduceIte, Nat.reduceAdd, Nat.reduceLT, Nat.reduceLeDiff, Nat.reduceMul, gwD3, gwDT, pureR_none, ite_self, nilR, nilB, bitF, bitV, nilC, nilCmp, eqb, assertV, assertW, zeroV, wQ_normal, wQ_ret, wQ_panic, pickO, pickC, List.map_cons, List.map_nil, List.getD_cons_zero, List.getD_cons_succ, Env.keep, beq_self_eq_true, cond_true, cond_false, Option.getD_some]
  have hA : ∀ l : St, (st ++ l)[a]? = some (.box [o]) := fun l => by rw [List.getElem?_append_left hal]; exact hao
  have hA2 : ∀ (l : St) (x : Ent), (st ++ l).set a x = st.set a x ++ l := fun l x => set_app hal
  have hC : ∀ (l : St) (x2 : Ent), (st.set a x2 ++ l)[c]? = some (.box [.int .i64 x, .int .i64 y]) := fun l x2 => by rw [List.getElem?_append_left (by simpa using hcl), List.getElem?_set_ne hne]; exact hc
  have hC2 : ∀ (l : St) (x x2 : Ent), (st.set a x ++ l).set c x2 = (st.set a x).set c x2 ++ l := fun l x x2 => set_app (by simpa using hcl)
  refine vdraw2 TT_ok TT_mixed (σ := Unit) [0, 1, 2, 2] [0, 2, 1, 3] 1 2 [0] (fun _x => [(0, true, .ptr a 0)]) (fun _x => (st.set a (.box [.nils])).set c (.box [.int .i64 e, .int .i64 q]) ++ [.box [.int .i64 e, .int .i64 q]]) (fun _x => True) rfl (by kernel_rfl) ?_ ?_ ?_
  · simp only [gwL, gwB, gwD, gwE, gwS, gwTT, gwZ, gwN, gwC, Nat.reduceEqDiff, ↓reduceIte, Nat.reduceAdd, Nat.reduceLT, Nat.reduceLeDiff, Nat.reduceMul, gwD3, gwDT, pureR_none, ite_self, nilR, nilB, bitF, bitV, nilC, nilCmp, eqb, assertV, assertW, zeroV, wQ_normal, wQ_ret, wQ_panic, pickO, pickC, List.map_cons, List.map_nil, List.getD_cons_zero, List.getD_cons_succ, Env.keep, beq_self_eq_true, cond_true, cond_false, hA, hA2, hC, hC2, at_k, at_k0]
    exact ⟨rfl, rfl, (), rfl, rfl, trivial⟩
  · simp only [gwL, gwB, gwD, gwE, gwS, gwTT, gwZ, gwN, gwC, Nat.reduceEqDiff, ↓reduceIte, Nat.reduceAdd, Nat.reduceLT, Nat.reduceLeDiff, Nat.reduceMul, gwD3, gwDT, pureR_none, ite_self, nilR, nilB, bitF, bitV, nilC, nilCmp, eqb, assertV, assertW, zeroV, wQ_normal, wQ_ret, wQ_panic, pickO, pickC, List.map_cons, List.map_nil, List.getD_cons_zero, List.getD_cons_succ, Env.keep, beq_self_eq_true, cond_true, cond_false, hA, hA2, hC, hC2, at_k, at_k0]
    exact ⟨rfl, rfl, (), rfl, rfl, trivial⟩
  · rintro - -
    simp only [gwL, gwB, gwD, gwE, gwS, gwTT, gwZ, gwN, gwC, Nat.reduceEqDiff, ↓reduceIte, Nat.reduceAdd, Nat.reduceLT, Nat.reduceLeDiff, Nat.reduceMul, gwD3, gwDT, pureR_none, ite_self, nilR, nilB, bitF, bitV, nilC, nilCmp, eqb, assertV, assertW, zeroV, wQ_normal, wQ_ret, wQ_panic, pickO, pickC, List.map_cons, List.map_nil, List.getD_cons_zero, List.getD_cons_succ, Env.keep, beq_self_eq_true, cond_true, cond_false, hA]
    exact ⟨[.box [.int .i64 e, .int .i64 q]], _, rfl, wkSt_refl _, hst2⟩
end Go.Proofs.YtcdnooalfkbmgaaDoor.Gx
