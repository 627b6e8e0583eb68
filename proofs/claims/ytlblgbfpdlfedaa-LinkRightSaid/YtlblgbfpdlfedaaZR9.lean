/- Contracts of the document's answer: what is wrong with a unit; what its linker has. Contract of the document's linker. Contract: the linker. An image is the same as itself; the law LinkTells answers true. Contracts: a closed fact of the linker. The law LinkAhead answers true, of lists that are not too long. One unit alone: in plain terms; and the law LinkOne answers true. -/
import Derived.Test.YtlblgbfpdlfedaaZR8

namespace Go.Proofs.Ytlblgbfpdlfedaa.Gx
open Go Go.Proofs.Ytlblgbfpdlfedaa.Gw
set_option linter.unusedSimpArgs false
set_option linter.unusedVariables false

set_option maxRecDepth 20000 in
set_option maxHeartbeats 4000000 in
theorem c_ref8_Wrong (u : Unit') (st : St) : VCalls Try.prog TT 19 [.agg (encU u)] st fun r st' => r = .ret (.int .i64 (unitE u)) ∧ st' = st := by
  refine vfun TT_ok (an := anL [(1, 1)]) (L := [0, 1, 2]) (rs := [.tmp 2]) Try.func19 rfl (by kernel_rfl) rfl Try.ntmps19 rfl rfl (Nat.le_refl _) fun hst ha hf => ?_
  obtain ⟨nm, ps⟩ := u
  simp only [gwL, gwB, gwD, gwE, gwS, gwTT, gwZ, gwN, gwC, Nat.reduceEqDiff, ↓reduceIte, Nat.reduceAdd, Nat.reduceLT, Nat.reduceLeDiff, Nat.reduceMul, encU]
  refine (c_ref_Plain _ nm).use (wkL_refl _) fun _ => ?_
  simp only [gwL, gwB, gwD, gwE, gwS, gwTT, gwZ, gwN, gwC, Nat.reduceEqDiff, ↓reduceIte, Nat.reduceAdd, Nat.reduceLT, Nat.reduceLeDiff, Nat.reduceMul]
  refine iK_split (fun h1 => ?_) (fun h1 => ?_)
  · simp only [gwL, gwB, gwD, gwE, gwS, gwTT, gwZ, gwN, gwC, Nat.reduceEqDiff, ↓reduceIte, Nat.reduceAdd, Nat.reduceLT, Nat.reduceLeDiff, Nat.reduceMul]
    exact gives_int (by simp only [unitE, h1, cond_true]) hst
  have hz : decide ((ps.length : Int) < 1) = decide ((ps.length : Int) = 0) := by rw [decide_eq_decide]; omega
  simp only [gwL, gwB, gwD, gwE, gwS, gwTT, gwZ, gwN, gwC, Nat.reduceEqDiff, ↓reduceIte, Nat.reduceAdd, Nat.reduceLT, Nat.reduceLeDiff, Nat.reduceMul, lstPr, List.length_map]
  refine iK_split (fun h2 => ?_) (fun h2 => ?_)
  · simp only [gwL, gwB, gwD, gwE, gwS, gwTT, gwZ, gwN, gwC, Nat.reduceEqDiff, ↓reduceIte, Nat.reduceAdd, Nat.reduceLT, Nat.reduceLeDiff, Nat.reduceMul]
    exact gives_int (by simp only [unitE, h1, hz, h2, cond_true, cond_false]) hst
  have h2' := h2
  simp only [Bool.or_eq_false_iff, decide_eq_false_iff_not] at h2'
  simp only [gwL, gwB, gwD, gwE, gwS, gwTT, gwZ, gwN, gwC, Nat.reduceEqDiff, ↓reduceIte, Nat.reduceAdd, Nat.reduceLT, Nat.reduceLeDiff, Nat.reduceMul]
  refine (c_ref8_Protos ps [0] (-1) _ (by omega) (fun x hx => by simp at hx; subst hx; omega) (by simp)).use (wkL_refl _) fun _ => ?_
  simp only [gwL, gwB, gwD, gwE, gwS, gwTT, gwZ, gwN, gwC, Nat.reduceEqDiff, ↓reduceIte, Nat.reduceAdd, Nat.reduceLT, Nat.reduceLeDiff, Nat.reduceMul]
  exact gives_int (by simp only [unitE, protosR, h1, hz, h2, cond_false]) hst
theorem c_ref8_bad (e i : Int) (st : St) : VCalls Try.prog TT 18 [.int .i64 e, .int .i64 i] st fun r st' => r = .ret (.tup [.agg [.nils, .nils, .nils], .agg [.int .i64 e, .int .i64 i]]) ∧ st' = st := by
  refine vfun TT_ok (an := anL []) (L := [0, 1, 4, 5]) (rs := [.cell 4 27, .cell 5 30]) Try.func18 rfl (by kernel_rfl) rfl Try.ntmps18 rfl rfl (Nat.le_refl _) fun hst ha hf => ?_
  simp only [gwL, gwB, gwD, gwE, gwS, gwTT, gwZ, gwN, gwC, Nat.reduceEqDiff, ↓reduceIte, Nat.reduceAdd, Nat.reduceLT, Nat.reduceLeDiff, Nat.reduceMul]
  exact gives_of (wk_refl _) (wkSt_refl _) (by simp [V.lt, ltL]) hst

def ekB (b : Bind') : V := .agg (encB b)
theorem keyP_B : KeyP TT (TT 40).kind ekB := by
  rintro ⟨xh, xl, xo⟩ ⟨yh, yl, yo⟩
  simp only [ekB, encB, gwTT, keyEq, List.length_cons, List.length_nil, if_true, eqFs, List.getElem?_cons_zero, List.getElem?_cons_succ, eqCell, Option.bind_some, Option.map_some, Bind'.mk.injEq]
  by_cases h1 : xh = yh <;> by_cases h2 : xl = yl <;> by_cases h3 : xo = yo <;> simp [h1, h2, h3]
/-- Globals, and the map of their numbers. -/
def MR (gl : List Bind') (M : List (Bind' × Int)) : Prop := ∀ b, asc b M = if b ∈ gl then some (idxB b 0 gl) else none
theorem MR.init : MR [] [] := fun b => by simp [asc]
theorem MR.push {gl : List Bind'} {M : List (Bind' × Int)} (h : MR gl M) {b : Bind'} (hb : b ∉ gl) : MR (gl ++ [b]) (ups b (gl.length : Int) M) := by
  intro c
  rw [asc_ups]
  by_cases e : c = b
  · subst e
    rw [if_pos rfl, if_pos (by simp)]
    have := idxB_new c [] gl 0 hb
    rw [this]; simp
  · rw [if_neg e, h c]
    by_cases hc : c ∈ gl
    · obtain ⟨j, h1, h2, h3⟩ := idxB_at c gl 0 hc
      rw [if_pos hc, if_pos (by simp [hc]), idxB_app _ _ _ _ (by omega)]
    · rw [if_neg hc, if_neg (by simp [hc, e])]
structure RS (n : Nat) (S0 S : St) (gl : List Bind') (M : List (Bind' × Int)) (rows : List (List V)) (ps : List Pr) (sts : List Int) : Prop where
  lk : LK S (n + 2) (n + 4) (n + 5) (n + 6) gl rows ps sts
  map : S[n + 3]? = some (mapE ekB (V.int .i64) M)
  ks : Ks (fun j => n + 2 ≤ j) S0 S
  mr : MR gl M
theorem RS.keep {n : Nat} {S0 S S' : St} {gl : List Bind'} {M : List (Bind' × Int)} {rows : List (List V)} {ps : List Pr} {sts : List Int} {X : Nat → Prop} (h : RS n S0 S gl M rows ps sts) (k : Ks X S S') (hX : ∀ j, X j → n + 7 ≤ j) : RS n S0 S' gl M rows ps sts :=
  ⟨h.lk.keep k fun j hj => by have := hX j hj; omega, by rw [k.2 _ (List.getElem?_eq_some_iff.1 h.map).1 (fun e => by have := hX _ e; omega), h.map], h.ks.trans (k.mono fun j hj => by have := hX j hj; omega), h.mr⟩
theorem RS.app {n : Nat} {S0 S : St} {gl : List Bind'} {M : List (Bind' × Int)} {rows : List (List V)} {ps : List Pr} {sts : List Int} (h : RS n S0 S gl M rows ps sts) (ex : St) : RS n S0 (S ++ ex) gl M rows ps sts :=
  h.keep (X := fun _ => False) ⟨by simp, fun j hj _ => st_old hj⟩ fun j e => e.elim
theorem RS.old {n : Nat} {S0 S : St} {gl : List Bind'} {M : List (Bind' × Int)} {rows : List (List V)} {ps : List Pr} {sts : List Int} (h : RS n S0 S gl M rows ps sts) {j : Nat} (hj : j < n + 2) (hl : n + 2 ≤ S0.length) : S[j]? = S0[j]? := h.ks.2 j (by omega) (by omega)
theorem RS.lt {n : Nat} {S0 S : St} {gl : List Bind'} {M : List (Bind' × Int)} {rows : List (List V)} {ps : List Pr} {sts : List Int} (h : RS n S0 S gl M rows ps sts) : n + 6 < S.length := h.lk.lt.2.2.2
theorem RS.push {n : Nat} {S0 S : St} {gl : List Bind'} {M : List (Bind' × Int)} {rows : List (List V)} {ps : List Pr} {sts : List Int} (h : RS n S0 S gl M rows ps sts) {x : Bind'} (hx : x ∉ gl) :
    RS n S0 (((S.set (n + 3) (mapE ekB (V.int .i64) (ups x (gl.length : Int) M))).set (n + 4) (.tip 40 (gl.length + 1))).set (n + 2) (.box [.lst 3 (some (n + 4)) (rowsB gl ++ [encB x]), .lst 2 (some (n + 5)) rows, .lst 1 (some (n + 6)) (rowsI sts)])) (gl ++ [x]) (ups x (gl.length : Int) M) rows ps sts ∧
    Ks (fun j => j = n + 2 ∨ j = n + 3 ∨ j = n + 4) S (((S.set (n + 3) (mapE ekB (V.int .i64) (ups x (gl.length : Int) M))).set (n + 4) (.tip 40 (gl.length + 1))).set (n + 2) (.box [.lst 3 (some (n + 4)) (rowsB gl ++ [encB x]), .lst 2 (some (n + 5)) rows, .lst 1 (some (n + 6)) (rowsI sts)])) := by
  have hl := h.lt
  have k1 : Ks (fun j => j = n + 3) S (S.set (n + 3) (mapE ekB (V.int .i64) (ups x (gl.length : Int) M))) := ⟨by simp, fun j _ hj => by rw [List.getElem?_set_ne (fun e => hj e.symm)]⟩
  have hL1 := h.lk.keep k1 (fun j hj => by subst hj; omega)
  obtain ⟨hL2, k2⟩ := hL1.push x
  have k3 := (k1.mono (Y := fun j => j = n + 2 ∨ j = n + 3 ∨ j = n + 4) fun j hj => .inr (.inl hj)).trans (k2.mono fun j hj => hj.elim .inl (fun e => .inr (.inr e)))
  exact ⟨⟨hL2, by rw [k2.2 _ (by simp; omega) (by omega), List.getElem?_set_self (by omega)], h.ks.trans (k3.mono fun j hj => by omega), h.mr.push hx⟩, k3⟩
theorem RS.upd {n : Nat} {S0 S S' : St} {gl : List Bind'} {M : List (Bind' × Int)} {rows rows' : List (List V)} {ps ps' : List Pr} {sts sts' : List Int} {X : Nat → Prop} (h : RS n S0 S gl M rows ps sts) (hl : LK S' (n + 2) (n + 4) (n + 5) (n + 6) gl rows' ps' sts') (k : Ks X S S') (hX : ∀ j, X j → n + 2 ≤ j ∧ j ≠ n + 3) : RS n S0 S' gl M rows' ps' sts' :=
  ⟨hl, by rw [k.2 _ (List.getElem?_eq_some_iff.1 h.map).1 (fun e => (hX _ e).2 rfl), h.map], h.ks.trans (k.mono fun j hj => (hX j hj).1), h.mr⟩
/-- A procedure that is made, in a box; its code as it lies. -/
structure QW (s : St) (o k : Nat) (a : Int) (rows : List (List V)) (out : List Ins) : Prop where
  box : s[o]? = some (.box [.int .i64 a, .lst 11 (some k) rows])
  tip : s[k]? = some (.tip 51 out.length)
  rows : wkRp NoTok rows (out.map encI)
theorem QW.lt {s : St} {o k : Nat} {a : Int} {rows : List (List V)} {out : List Ins} (h : QW s o k a rows out) : o < s.length ∧ k < s.length := ⟨(List.getElem?_eq_some_iff.1 h.box).1, (List.getElem?_eq_some_iff.1 h.tip).1⟩
theorem QW.ne {s : St} {o k : Nat} {a : Int} {rows : List (List V)} {out : List Ins} (h : QW s o k a rows out) : k ≠ o := by intro e; subst e; have := h.box; rw [h.tip] at this; cases this
theorem QW.app {s : St} {o k : Nat} {a : Int} {rows : List (List V)} {out : List Ins} (h : QW s o k a rows out) (ex : St) : QW (s ++ ex) o k a rows out :=
  ⟨by rw [st_old h.lt.1, h.box], by rw [st_old h.lt.2, h.tip], h.rows⟩
theorem QW.push {s : St} {o k : Nat} {a : Int} {rows : List (List V)} {out : List Ins} (h : QW s o k a rows out) {c : List V} {x : Ins} (hc : wkL c (encI x)) :
    QW ((s.set k (.tip 51 (out.length + 1))).set o (.box [.int .i64 a, .lst 11 (some k) (rows ++ [c])])) o k a (rows ++ [c]) (out ++ [x]) ∧
    Ks (fun j => j = o ∨ j = k) s ((s.set k (.tip 51 (out.length + 1))).set o (.box [.int .i64 a, .lst 11 (some k) (rows ++ [c])])) := by
  obtain ⟨l1, l2⟩ := h.lt
  have n := h.ne
  refine ⟨⟨?_, ?_, ?_⟩, by simp, fun j _ hj => ?_⟩
  · rw [List.getElem?_set_self (by rw [List.length_set]; exact l1)]
  · rw [List.getElem?_set_ne (Ne.symm n), List.getElem?_set_self l2]; simp
  · rw [List.map_append]
    refine wkRp_app h.rows ?_
    simp only [List.map_cons, List.map_nil, wkRp]
    exact ⟨_, _, rfl, hc, rfl⟩
  · rw [List.getElem?_set_ne (fun e => hj (.inl e.symm)), List.getElem?_set_ne (fun e => hj (.inr e.symm))]
theorem LK.pushW {s : St} {b kg kp ks : Nat} {gl : List Bind'} {rows : List (List V)} {ps : List Pr} {sts : List Int} (h : LK s b kg kp ks gl rows ps sts) (a : Int) (t : Option Nat) {cr : List (List V)} {out : List Ins} (hc : wkRp NoTok cr (out.map encI)) :
    LK ((s.set kp (.tip 46 (ps.length + 1))).set b (.box [.lst 3 (some kg) (rowsB gl), .lst 2 (some kp) (rows ++ [[.int .i64 a, .lst 11 t cr]]), .lst 1 (some ks) (rowsI sts)])) b kg kp ks gl (rows ++ [[.int .i64 a, .lst 11 t cr]]) (ps ++ [⟨a, out⟩]) sts ∧
    Ks (fun j => j = b ∨ j = kp) s ((s.set kp (.tip 46 (ps.length + 1))).set b (.box [.lst 3 (some kg) (rowsB gl), .lst 2 (some kp) (rows ++ [[.int .i64 a, .lst 11 t cr]]), .lst 1 (some ks) (rowsI sts)])) := by
  obtain ⟨l1, l2, l3, l4⟩ := h.lt
  obtain ⟨n1, n2, n3⟩ := h.ne
  obtain ⟨o1, o2, o3⟩ := h.one
  refine ⟨⟨?_, ?_, ?_, ?_, ?_, h.one⟩, by simp, fun j _ hj => ?_⟩
  · rw [List.getElem?_set_self (by rw [List.length_set]; exact l1)]
  · rw [List.getElem?_set_ne n1, List.getElem?_set_ne (Ne.symm o1), h.tg]
  · rw [List.getElem?_set_ne n2, List.getElem?_set_self l3]; simp
  · rw [List.getElem?_set_ne n3, List.getElem?_set_ne o3, h.ts]
  · rw [List.map_append]
    refine wkRp_app h.rows ?_
    simp only [List.map_cons, List.map_nil, wkRp, encPr, lstI]
    exact ⟨_, _, rfl, wkL_cons (wk_refl _) (wkL_cons (wk_lst hc) wkL_nil), rfl⟩
  · rw [List.getElem?_set_ne (fun e => hj (.inl e.symm)), List.getElem?_set_ne (fun e => hj (.inr e.symm))]

/-- An instruction in an image, by its kind. -/
def insR (k : Int) (gl : List Bind') (nm : Str) (base : Int) (x : Ins) : Ins × Int :=
  bif decide (k = 110) then ({ op := x.op, n := x.n }, 0)
  else bif decide (k = 113) then ({ op := x.op, quote := bareR x.quote }, 0)
  else bif decide (k = 112) then ({ op := x.op, own := x.own }, 0)
  else bif decide (k = 103) then (bif !decide ((⟨[], x.lib, x.own⟩ : Bind') ∈ gl) then ({ op := x.op }, 7) else bif decide (x.op = 12) && !decide (x.lib = nm) then ({ op := x.op }, 10) else ({ op := x.op, a := idxB ⟨[], x.lib, x.own⟩ 0 gl }, 0))
  else bif decide (k = 99) then ({ op := x.op, a := IntKind.i64.wrap (base + x.a) }, 0)
  else bif decide (k = 108) || decide (k = 97) || decide (k = 106) then ({ op := x.op, a := x.a }, 0)
  else ({ op := x.op }, 0)
theorem ins_valid {ps : List Pr} {G : Int} {p : Nat} {x : Ins} {ar : List Int} (h : (insE ps G p x ar).1 = 0) : 1 ≤ x.op ∧ x.op ≤ 15 := by
  obtain ⟨op, a, n, lb, ow, q⟩ := x
  by_cases hr : op < 1 ∨ 15 < op
  · have e : ∀ k : Int, 1 ≤ k → k ≤ 15 → decide (op = k) = false := fun k h1 h2 => decide_eq_false (by omega)
    simp [insE, e] at h
  · simp only; omega
theorem insR_insL (gl : List Bind') (nm : Str) (base : Int) (x : Ins) (hv : 1 ≤ x.op ∧ x.op ≤ 15) (hq : x.op = 3 → goodD x.quote) : (insR (kindR x.op) gl nm base x).2 = (insL gl nm base x).2 ∧ ((insL gl nm base x).2 = 0 → (insR (kindR x.op) gl nm base x).1 = (insL gl nm base x).1) := by
  obtain ⟨op, a, n, lb, ow, q⟩ := x
  simp only at hv hq
  have hg : decide (idxB (⟨[], lb, ow⟩ : Bind') 0 gl < 0) = !decide ((⟨[], lb, ow⟩ : Bind') ∈ gl) := by
    rw [← idxB_ge (⟨[], lb, ow⟩ : Bind') gl 0]
    by_cases h : idxB (⟨[], lb, ow⟩ : Bind') 0 gl < 0 <;> simp [h] <;> omega
  have : op = 1 ∨ op = 2 ∨ op = 3 ∨ op = 4 ∨ op = 5 ∨ op = 6 ∨ op = 7 ∨ op = 8 ∨ op = 9 ∨ op = 10 ∨ op = 11 ∨ op = 12 ∨ op = 13 ∨ op = 14 ∨ op = 15 := by omega
  rcases this with rfl | rfl | rfl | rfl | rfl | rfl | rfl | rfl | rfl | rfl | rfl | rfl | rfl | rfl | rfl
  · simp [insR, insL, show kindR 1 = 110 from rfl]
  · simp [insR, insL, show kindR 2 = 110 from rfl]
  · simp [insR, insL, show kindR 3 = 113 from rfl, bare_same q (hq rfl)]
  · simp [insR, insL, show kindR 4 = 108 from rfl]
  · simp only [insR, insL, show kindR 5 = 103 from rfl, hg]
    cases decide ((⟨[], lb, ow⟩ : Bind') ∈ gl) <;> simp
  · simp [insR, insL, show kindR 6 = 112 from rfl]
  · simp [insR, insL, show kindR 7 = 99 from rfl]
  · simp [insR, insL, show kindR 8 = 97 from rfl]
  · simp [insR, insL, show kindR 9 = 106 from rfl]
  · simp [insR, insL, show kindR 10 = 106 from rfl]
  · simp [insR, insL, show kindR 11 = 108 from rfl]
  · simp only [insR, insL, show kindR 12 = 103 from rfl, hg]
    cases decide ((⟨[], lb, ow⟩ : Bind') ∈ gl) <;> cases decide (lb = nm) <;> simp
  · simp only [insR, insL, show kindR 13 = 103 from rfl, hg]
    cases decide ((⟨[], lb, ow⟩ : Bind') ∈ gl) <;> simp
  · simp [insR, insL, show kindR 14 = 45 from rfl]
  · simp [insR, insL, show kindR 15 = 45 from rfl]
theorem kind_q {op : Int} (hv : 1 ≤ op ∧ op ≤ 15) (h : kindR op = 113) : op = 3 := by
  have : op = 1 ∨ op = 2 ∨ op = 3 ∨ op = 4 ∨ op = 5 ∨ op = 6 ∨ op = 7 ∨ op = 8 ∨ op = 9 ∨ op = 10 ∨ op = 11 ∨ op = 12 ∨ op = 13 ∨ op = 14 ∨ op = 15 := by omega
  rcases this with rfl | rfl | rfl | rfl | rfl | rfl | rfl | rfl | rfl | rfl | rfl | rfl | rfl | rfl | rfl <;> first | rfl | (exfalso; revert h; decide)
end Go.Proofs.Ytlblgbfpdlfedaa.Gx

namespace Go.Proofs.Ytlblgbfpdlfedaa.Gx
open Go Go.Proofs.Ytlblgbfpdlfedaa.Gw
set_option linter.unusedSimpArgs false
set_option linter.unusedVariables false

set_option maxRecDepth 20000 in
set_option maxHeartbeats 32000000 in
theorem c_ref8_Link (l : List Unit') (st : St) : VCalls Try.prog TT 8 [lstU l] st fun r st' => r = .ret (linkV (linkL l)) ∧ st' = st := by
  refine vfun TT_ok (an := anL []) (L := [0, 2, 3, 4, 5, 6, 7, 8, 9, 11, 13, 15, 16, 18, 19, 20, 21, 23, 24, 26, 27, 28, 29, 38, 39, 40, 57, 58, 59, 75, 76, 77, 82, 83, 84, 136, 137, 138, 153, 154, 155, 163, 164, 165, 174, 234]) (rs := [.cell 2 27, .cell 3 30]) Try.func8 rfl (by kernel_rfl) rfl Try.ntmps8 rfl rfl (Nat.le_refl _) fun hst ha hf => ?_
  simp only [lstU]
  generalize hr : linkL l = r
  have give : ∀ (a b c : V) (e i : Int) (im : Im) (ex : St), r = (im, e, i) → wkL [a, b, c] (encIm im) → Gives (linkV r) st (.ret (.tup [.agg [a, b, c], .agg [.int .i64 e, .int .i64 i]])) (st ++ ex) := by
    intro a b c e i im ex he hw
    rw [he]
    refine gives_of (wk_tup (wkL_cons (wk_agg hw) (wkL_refl _))) (wkSt_refl _) ?_ hst
    simp only [linkV, fltV, encIm, V.lt, ltL, and_true, true_and]
    exact ⟨⟨fun e h => (by cases h), ltRows_map fun x _ => ⟨trivial, trivial, trivial, trivial⟩⟩, lstPr_lt _ _, ⟨fun e h => (by cases h), ltRows_map fun x _ => ⟨trivial, trivial⟩⟩⟩
  have bad : ∀ (e i : Int) (ex : St), r = (noIm, e, i) → Gives (linkV r) st (.ret (.tup [.agg [.nils, .nils, .nils], .agg [.int .i64 e, .int .i64 i]])) (st ++ ex) := fun e i ex he =>
    give _ _ _ _ _ noIm ex he (wkL_cons (wk_nils _) (wkL_cons (wk_nils _) (wkL_cons (wk_nils _) wkL_nil)))
  simp only [gwL, gwB, gwD, gwE, gwS, gwTT, gwZ, gwN, gwC, Nat.reduceEqDiff, ↓reduceIte, Nat.reduceAdd, Nat.reduceLT, Nat.reduceLeDiff, Nat.reduceMul, List.length_map]
  refine iK_split (fun h1 => ?_) (fun h1 => ?_)
  · simp only [gwL, gwB, gwD, gwE, gwS, gwTT, gwZ, gwN, gwC, Nat.reduceEqDiff, ↓reduceIte, Nat.reduceAdd, Nat.reduceLT, Nat.reduceLeDiff, Nat.reduceMul]
    refine (c_ref8_bad 5 0 _).use (wkL_refl _) fun _ => ?_
    simp only [gwL, gwB, gwD, gwE, gwS, gwTT, gwZ, gwN, gwC, Nat.reduceEqDiff, ↓reduceIte, Nat.reduceAdd, Nat.reduceLT, Nat.reduceLeDiff, Nat.reduceMul]
    exact bad _ _ _ (by rw [← hr]; simp only [linkL, h1, cond_true])
  have h1' := of_decide_eq_false h1
  simp only [gwL, gwB, gwD, gwE, gwS, gwTT, gwZ, gwN, gwC, Nat.reduceEqDiff, ↓reduceIte, Nat.reduceAdd, Nat.reduceLT, Nat.reduceLeDiff, Nat.reduceMul, mapLook, mapPut, mapRange, mapLen, makeMapE, keyOk, keyKind, keyGood, lookR, zeroV, entV, entS, nextV, nextS, beq_self_eq_true, cond_true, cond_false, List.length_map]
  refine vmore [40, 46, 3] [0, 2, 3, 4, 5, 6, 38, 39, 40] [(0, true, .lst 2 none (l.map encU)), (2, true, .ptr st.length 0), (3, true, .ptr (st.length + 1) 0), (4, true, .fn (.func 18) []), (5, true, .ptr (st.length + 2) 0), (6, true, .map (st.length + 3)), (38, true, .lst 2 none (l.map encU)), (39, true, .int .i64 l.length), (40, true, .int .i64 0)] ((st ++ [Ent.box [.nils, .nils, .nils], Ent.box [.int .i64 0, .int .i64 0], Ent.box [.lst 3 (some (st.length + 4)) [], .lst 2 (some (st.length + 5)) [], .lst 1 (some (st.length + 6)) []], mapE ekB (V.int .i64) []]) ++ [Ent.tip 40 0, Ent.tip 46 0, Ent.tip 3 0]) rfl ?_ ?_ ?_
  · simp only [gwL, gwB, gwD, gwE, gwS, gwTT, gwZ, gwN, gwC, Nat.reduceEqDiff, ↓reduceIte, Nat.reduceAdd, Nat.reduceLT, Nat.reduceLeDiff, Nat.reduceMul, Env.keep]
    exact wkE_refl _
  · exact ⟨_, (wkSt_refl _).append (wkSt_cons (Ent.wkp_refl _) (wkSt_cons (Ent.wkp_refl _) (wkSt_cons (Ent.wk_box (wkL_cons (wk_tip _ (by simp [Tips])) (wkL_cons (wk_tip _ (by simp [Tips])) (wkL_cons (wk_tip _ (by simp [Tips])) wkL_nil)))) (wkSt_cons (Ent.wkp_refl _) wkSt_nil)))), rfl⟩
  obtain ⟨S0, hS0⟩ : ∃ S0 : St, S0 = (st ++ [Ent.box [.nils, .nils, .nils], Ent.box [.int .i64 0, .int .i64 0], Ent.box [.lst 3 (some (st.length + 4)) [], .lst 2 (some (st.length + 5)) [], .lst 1 (some (st.length + 6)) []], mapE ekB (V.int .i64) []]) ++ [Ent.tip 40 0, Ent.tip 46 0, Ent.tip 3 0] := ⟨_, rfl⟩
  rw [← hS0]
  rw [List.append_assoc] at hS0
  have hS0l : S0.length = st.length + 7 := by rw [hS0]; simp
  have hR0 : RS st.length S0 S0 [] [] [] [] [] :=
    ⟨⟨by rw [hS0, List.getElem?_append_right (by omega)]; simp [rowsB, rowsI], by rw [hS0, List.getElem?_append_right (by omega)]; simp, by rw [hS0, List.getElem?_append_right (by omega)]; simp, by rw [hS0, List.getElem?_append_right (by omega)]; simp, by simp only [wkRp, List.map_nil], by omega⟩,
      by rw [hS0, List.getElem?_append_right (by omega)]; simp, Ks.refl _ _, MR.init⟩
  have hB0 : S0[st.length]? = some (.box [.nils, .nils, .nils]) := by rw [hS0, List.getElem?_append_right (by omega)]; simp
  have hC0 : S0[st.length + 1]? = some (.box [.int .i64 0, .int .i64 0]) := by rw [hS0, List.getElem?_append_right (by omega)]; simp
  have pre : ∀ S : St, Ks (fun j => st.length + 2 ≤ j) S0 S → S = st ++ S.drop st.length := fun S hK => by rw [hS0] at hK; exact hK.pre fun j hj => by omega
  have hB : ∀ S : St, Ks (fun j => st.length + 2 ≤ j) S0 S → S[st.length]? = some (.box [.nils, .nils, .nils]) := fun S hK => by rw [hK.2 _ (by omega) (by omega), hB0]
  have hC : ∀ S : St, Ks (fun j => st.length + 2 ≤ j) S0 S → S[st.length + 1]? = some (.box [.int .i64 0, .int .i64 0]) := fun S hK => by rw [hK.2 _ (by omega) (by omega), hC0]
  have hr1 : ∀ (S : St) (X Y : Ent), st.length + 2 ≤ S.length → ((S.set st.length X).set (st.length + 1) Y)[st.length]? = some X := fun S X Y h => by rw [List.getElem?_set_ne (by omega), List.getElem?_set_self (by omega)]
  have hr2 : ∀ (S : St) (X Y : Ent), st.length + 2 ≤ S.length → ((S.set st.length X).set (st.length + 1) Y)[st.length + 1]? = some Y := fun S X Y h => by rw [List.getElem?_set_self (by rw [List.length_set]; omega)]
  have hpr : ∀ (S : St) (X Y : Ent), S = st ++ S.drop st.length → (S.set st.length X).set (st.length + 1) Y = st ++ ((S.drop st.length).set 0 X).set 1 Y := fun S X Y h => by
    rw [h, List.set_append_right _ _ (by omega), List.set_append_right _ _ (by omega)]
    simp
  have enc2 : ∀ u : Unit', (encU u).take 2 = encU u := fun _ => rfl
  refine vfor (σ := Nat × St × List Bind' × List (Bind' × Int)) [0, 2, 3, 4, 5, 6, 38, 39, 40] (fun x => [(0, true, .lst 2 none (l.map encU)), (2, true, .ptr st.length 0), (3, true, .ptr (st.length + 1) 0), (4, true, .fn (.func 18) []), (5, true, .ptr (st.length + 2) 0), (6, true, .map (st.length + 3)), (38, true, .lst 2 none (l.map encU)), (39, true, .int .i64 l.length), (40, true, .int .i64 x.1)]) (fun x => x.2.1) (fun x => l.length - x.1) (fun x => x.1 ≤ l.length ∧ RS st.length S0 x.2.1 x.2.2.1 x.2.2.2 [] [] [] ∧ checkL l l 0 [] = checkL l (l.drop x.1) x.1 x.2.2.1 ∧ x.2.2.1.length ≤ 3000000 * x.1) (0, S0, [], []) rfl TT_ok ⟨Nat.zero_le _, hR0, rfl, by simp⟩ rfl rfl ?_
  rintro ⟨i, S, gl, M⟩ ⟨hi, hR, hx, hn⟩
  simp only at hi hR hx hn ⊢
  have hK := hR.ks
  have hSl := hK.1
  rcases at_or_end l i hi with ⟨hie, hd⟩ | ⟨u, hlt, hget, hdr⟩
  · have hie2 : i = l.length := hie
    subst hie2
    rw [hd, checkL] at hx
    have hrb : (rowsB gl).length = gl.length := by simp [rowsB]
    have hall : ∀ u ∈ l, UnitOk u := fun u hu => unit_ok (checkL_zero (by rw [hx]) u hu)
    simp only [gwL, gwB, gwD, gwE, gwS, gwTT, gwZ, gwN, gwC, Nat.reduceEqDiff, ↓reduceIte, Nat.reduceAdd, Nat.reduceLT, Nat.reduceLeDiff, Nat.reduceMul, lt_no, hR.lk.box, hrb]
    refine iK_split (fun h5 => ?_) (fun h5 => ?_)
    · simp only [gwL, gwB, gwD, gwE, gwS, gwTT, gwZ, gwN, gwC, Nat.reduceEqDiff, ↓reduceIte, Nat.reduceAdd, Nat.reduceLT, Nat.reduceLeDiff, Nat.reduceMul]

      refine (c_ref8_bad 4 0 _).use (wkL_refl _) fun _ => ?_
      have hs2 : ∀ X, (S.set st.length X)[st.length + 1]? = some (.box [.int .i64 0, .int .i64 0]) := fun X => by rw [List.getElem?_set_ne (by omega), hC S hK]
      have hq1 := fun X Y => hr1 S X Y (by have := hK.1; omega)
      have hq2 := fun X Y => hr2 S X Y (by have := hK.1; omega)
      simp only [gwL, gwB, gwD, gwE, gwS, gwTT, gwZ, gwN, gwC, Nat.reduceEqDiff, ↓reduceIte, Nat.reduceAdd, Nat.reduceLT, Nat.reduceLeDiff, Nat.reduceMul, hB S hK, hs2, hq1, hq2]
      rw [hpr S _ _ (pre S hK)]
      exact bad _ _ _ (by rw [← hr]; simp only [linkL, h1, hx, h5, cond_true, cond_false, decide_true, Bool.not_true])
    simp only [gwL, gwB, gwD, gwE, gwS, gwTT, gwZ, gwN, gwC, Nat.reduceEqDiff, ↓reduceIte, Nat.reduceAdd, Nat.reduceLT, Nat.reduceLeDiff, Nat.reduceMul, List.length_map]
    refine vfor (σ := Nat × St × List (List V) × List Pr × List Int) [0, 2, 3, 4, 5, 6, 136, 137, 138] (fun x => [(0, true, .lst 2 none (l.map encU)), (2, true, .ptr st.length 0), (3, true, .ptr (st.length + 1) 0), (4, true, .fn (.func 18) []), (5, true, .ptr (st.length + 2) 0), (6, true, .map (st.length + 3)), (136, true, .lst 2 none (l.map encU)), (137, true, .int .i64 l.length), (138, true, .int .i64 x.1)]) (fun x => x.2.1) (fun x => l.length - x.1) (fun x => x.1 ≤ l.length ∧ RS st.length S0 x.2.1 gl M x.2.2.1 x.2.2.2.1 x.2.2.2.2 ∧ unitsL gl l 0 [] [] = unitsL gl (l.drop x.1) x.1 x.2.2.2.1 x.2.2.2.2 ∧ x.2.2.2.1.length ≤ 500 * x.1 ∧ x.2.2.2.2.length = x.1) (0, S, [], [], []) rfl TT_ok ⟨Nat.zero_le _, hR, rfl, by simp, rfl⟩ rfl rfl ?_
    clear hR hSl hK
    rintro ⟨i, S, rows, ps, sts⟩ ⟨hi, hR, hy, hn, hsn⟩
    simp only at hi hR hy hn hsn ⊢
    have hK := hR.ks
    have hSl := hK.1
    rcases at_or_end l i hi with ⟨hie, hd⟩ | ⟨u, hlt, hget, hdr⟩
    · have hie2 : i = l.length := hie
      subst hie2
      rw [hd, unitsL] at hy
      have hs2 : ∀ X, (S.set st.length X)[st.length + 1]? = some (.box [.int .i64 0, .int .i64 0]) := fun X => by rw [List.getElem?_set_ne (by omega), hC S hK]
      have hq1 := fun X Y => hr1 S X Y (by have := hK.1; omega)
      have hq2 := fun X Y => hr2 S X Y (by have := hK.1; omega)
      simp only [gwL, gwB, gwD, gwE, gwS, gwTT, gwZ, gwN, gwC, Nat.reduceEqDiff, ↓reduceIte, Nat.reduceAdd, Nat.reduceLT, Nat.reduceLeDiff, Nat.reduceMul, lt_no, hR.lk.box, hB S hK, hs2, hq1, hq2]
      rw [hpr S _ _ (pre S hK)]
      refine give _ _ _ _ _ ⟨gl, ps, sts⟩ _ (by rw [← hr]; simp only [linkL, h1, hx, h5, hy, cond_false, decide_true, Bool.not_true]) (wkL_cons (wk_tok _ _ _) (wkL_cons (wk_lst hR.lk.rows) (wkL_cons (wk_tok _ _ _) wkL_nil)))
    have hgu : (l.map encU).getD i [] = encU u := getD_map hget
    have w : IntKind.i64.wrap ((i : Int) + 1) = ((i + 1 : Nat) : Int) := next_i64 hlt (by omega)
    have hil : (i : Int) < (l.length : Int) := Int.ofNat_lt.mpr hlt
    rw [hdr, unitsL] at hy
    have hok := hall u (List.mem_of_getElem? hget)
    have hfew := hok.few
    have hfm := hok.form
    have hin := hok.ins
    have hqu := hok.quote
    obtain ⟨nm, us⟩ := u
    simp only at hfew hfm hin hqu hy
    have hSn : st.length + 7 ≤ S.length := by omega
    have hrl := wkRp_len hR.lk.rows
    rw [List.length_map] at hrl
    have hgu' : ∀ ex : St, (S ++ ex)[st.length + 2]? = some (.box [.lst 3 (some (st.length + 4)) (rowsB gl), .lst 2 (some (st.length + 5)) rows, .lst 1 (some (st.length + 6)) (rowsI sts)]) := fun ex => by rw [st_old (by omega), hR.lk.box]
    have hgt : ∀ ex : St, (S ++ ex)[st.length + 6]? = some (.tip 3 sts.length) := fun ex => by rw [st_old (by omega), hR.lk.ts]
    have hst6 : ∀ (ex : St) (X : Ent), (S ++ ex).set (st.length + 6) X = S.set (st.length + 6) X ++ ex := fun ex X => st_oldset (by omega)
    have hgu2 : ∀ (ex : St) (X : Ent), (S.set (st.length + 6) X ++ ex)[st.length + 2]? = some (.box [.lst 3 (some (st.length + 4)) (rowsB gl), .lst 2 (some (st.length + 5)) rows, .lst 1 (some (st.length + 6)) (rowsI sts)]) := fun ex X => by rw [st_old (by rw [List.length_set]; omega), List.getElem?_set_ne (by omega), hR.lk.box]
    have hst2 : ∀ (ex : St) (X Y : Ent), (S.set (st.length + 6) X ++ ex).set (st.length + 2) Y = (S.set (st.length + 6) X).set (st.length + 2) Y ++ ex := fun ex X Y => st_oldset (by rw [List.length_set]; omega)
    have hk20 : ∀ (X Y : Ent) (e : Ent), ((S.set (st.length + 6) X).set (st.length + 2) Y ++ [e])[S.length]? = some e := fun X Y e => by rw [List.getElem?_append_right (by simp)]; simp
    obtain ⟨hL1, hK1⟩ := hR.lk.pushS ps.length
    have hR1 := hR.upd hL1 hK1 (fun j hj => by omega)
    simp only [gwL, gwB, gwD, gwE, gwS, gwTT, gwZ, gwN, gwC, Nat.reduceEqDiff, ↓reduceIte, Nat.reduceAdd, Nat.reduceLT, Nat.reduceLeDiff, Nat.reduceMul, lt_yes hlt, hgu, hil, encU, lstPr, hgu', hgt, hst6, hgu2, hst2, hk20, hrl, rowsI_len, Int.toNat_natCast, List.length_map]
    obtain ⟨S2, hS2⟩ : ∃ S2 : St, S2 = (S.set (st.length + 6) (.tip 3 (sts.length + 1))).set (st.length + 2) (.box [.lst 3 (some (st.length + 4)) (rowsB gl), .lst 2 (some (st.length + 5)) rows, .lst 1 (some (st.length + 6)) (rowsI sts ++ [[.int .i64 ps.length]])]) ++ [Ent.box [.str nm, .lst 2 none (us.map encPr)]] := ⟨_, rfl⟩
    rw [← hS2]
    have hR2 : RS st.length S0 S2 gl M rows ps (sts ++ [(ps.length : Int)]) := by rw [hS2]; exact hR1.app _
    have h20 : S2[S.length]? = some (.box [.str nm, .lst 2 none (us.map encPr)]) := by rw [hS2]; exact hk20 _ _ _
    clear hS2 hR1 hL1 hK1 hk20 hst2 hgu2 hst6 hgt hgu' hR hK
    refine ⟨by omega, ?_⟩
    refine vfor (σ := Nat × St × List (List V) × List Pr) [0, 2, 3, 4, 5, 6, 136, 137, 138, 19, 20, 21, 153, 154, 155] (fun x => [(0, true, .lst 2 none (l.map encU)), (2, true, .ptr st.length 0), (3, true, .ptr (st.length + 1) 0), (4, true, .fn (.func 18) []), (5, true, .ptr (st.length + 2) 0), (6, true, .map (st.length + 3)), (136, true, .lst 2 none (l.map encU)), (137, true, .int .i64 l.length), (138, true, .int .i64 i), (19, true, .int .i64 i), (20, true, .ptr S.length 0), (21, true, .int .i64 ps.length), (153, true, .lst 2 none (us.map encPr)), (154, true, .int .i64 us.length), (155, true, .int .i64 x.1)]) (fun x => x.2.1) (fun x => us.length - x.1) (fun x => x.1 ≤ us.length ∧ RS st.length S0 x.2.1 gl M x.2.2.1 x.2.2.2 (sts ++ [(ps.length : Int)]) ∧ x.2.1[S.length]? = some (.box [.str nm, .lst 2 none (us.map encPr)]) ∧ protosL gl nm ps.length us ps = protosL gl nm ps.length (us.drop x.1) x.2.2.2 ∧ x.2.2.2.length ≤ ps.length + x.1) (0, S2, rows, ps) rfl TT_ok ⟨Nat.zero_le _, hR2, h20, rfl, by simp⟩ rfl rfl ?_
    clear hR2 h20
    rintro ⟨p, S3, r3, p3⟩ ⟨hp, hR3, h203, hz, hn3⟩
    simp only at hp hR3 h203 hz hn3 ⊢
    have hS3l := hR3.ks.1
    rcases at_or_end us p hp with ⟨hpe, hpd⟩ | ⟨q, hpt, hpq, hpr2⟩
    · have hpe2 : p = us.length := hpe
      subst hpe2
      rw [hpd, protosL] at hz
      rw [hz] at hy
      simp only [decide_true, Bool.not_true, cond_false] at hy
      simp only [gwL, gwB, gwD, gwE, gwS, gwTT, gwZ, gwN, gwC, Nat.reduceEqDiff, ↓reduceIte, Nat.reduceAdd, Nat.reduceLT, Nat.reduceLeDiff, Nat.reduceMul, lt_no, w, Env.keep]
      exact ⟨(i + 1, S3, r3, p3, sts ++ [(ps.length : Int)]), rfl, rfl, by simp only; omega, by simp only; omega, hR3, hy, by simp only; omega, by simp [hsn]⟩
    have hgq : (us.map encPr).getD p [] = encPr q := getD_map hpq
    have hqm := List.mem_of_getElem? hpq
    have hqf := hfm q hqm
    have hqi := hin q hqm
    have hqq := hqu q hqm
    have wp : IntKind.i64.wrap ((p : Int) + 1) = ((p + 1 : Nat) : Int) := next_i64 hpt (by omega)
    have hpl : (p : Int) < (us.length : Int) := Int.ofNat_lt.mpr hpt
    rw [hpr2, protosL] at hz
    obtain ⟨qa, code⟩ := q
    simp only at hz hqf hqi hqq
    simp only [gwL, gwB, gwD, gwE, gwS, gwTT, gwZ, gwN, gwC, Nat.reduceEqDiff, ↓reduceIte, Nat.reduceAdd, Nat.reduceLT, Nat.reduceLeDiff, Nat.reduceMul, lt_yes hpt, hgq, encPr, lstI, hpl, Int.toNat_natCast, List.length_map]
    refine vmore [51] [0, 2, 3, 4, 5, 6, 136, 137, 138, 19, 20, 21, 153, 154, 155, 23, 24, 163, 164, 165] [(0, true, .lst 2 none (l.map encU)), (2, true, .ptr st.length 0), (3, true, .ptr (st.length + 1) 0), (4, true, .fn (.func 18) []), (5, true, .ptr (st.length + 2) 0), (6, true, .map (st.length + 3)), (136, true, .lst 2 none (l.map encU)), (137, true, .int .i64 l.length), (138, true, .int .i64 i), (19, true, .int .i64 i), (20, true, .ptr S.length 0), (21, true, .int .i64 ps.length), (153, true, .lst 2 none (us.map encPr)), (154, true, .int .i64 us.length), (155, true, .int .i64 p), (23, true, .ptr S3.length 0), (24, true, .ptr (S3.length + 1) 0), (163, true, .lst 11 none (code.map encI)), (164, true, .int .i64 code.length), (165, true, .int .i64 0)] ((S3 ++ [Ent.box [.int .i64 qa, .lst 11 none (code.map encI)], Ent.box [.int .i64 qa, .lst 11 (some (S3.length + 2)) []]]) ++ [Ent.tip 51 0]) rfl ?_ ?_ ?_
    · simp only [gwL, gwB, gwD, gwE, gwS, gwTT, gwZ, gwN, gwC, Nat.reduceEqDiff, ↓reduceIte, Nat.reduceAdd, Nat.reduceLT, Nat.reduceLeDiff, Nat.reduceMul, Env.keep]
      exact wkE_refl _
    · exact ⟨_, (wkSt_refl _).append (wkSt_cons (Ent.wkp_refl _) (wkSt_cons (Ent.wk_box (wkL_cons (wk_refl _) (wkL_cons (wk_tip _ (by simp [Tips])) wkL_nil))) wkSt_nil)), rfl⟩
    obtain ⟨S4, hS4⟩ : ∃ S4 : St, S4 = (S3 ++ [Ent.box [.int .i64 qa, .lst 11 none (code.map encI)], Ent.box [.int .i64 qa, .lst 11 (some (S3.length + 2)) []]]) ++ [Ent.tip 51 0] := ⟨_, rfl⟩
    rw [← hS4]
    have hQ4 : QW S4 (S3.length + 1) (S3.length + 2) qa [] [] := ⟨by rw [hS4]; simp, by rw [hS4]; simp, by simp only [wkRp, List.map_nil]⟩
    have hR4 : RS st.length S0 S4 gl M r3 p3 (sts ++ [(ps.length : Int)]) := by rw [hS4, List.append_assoc]; exact hR3.app _
    have hl20 := (List.getElem?_eq_some_iff.1 h203).1
    have h204 : S4[S.length]? = some (.box [.str nm, .lst 2 none (us.map encPr)]) := by rw [hS4, List.append_assoc, st_old hl20, h203]
    clear hS4
    refine vfor (σ := Nat × St × List (List V) × List Ins) [0, 2, 3, 4, 5, 6, 136, 137, 138, 19, 20, 21, 153, 154, 155, 23, 24, 163, 164, 165] (fun x => [(0, true, .lst 2 none (l.map encU)), (2, true, .ptr st.length 0), (3, true, .ptr (st.length + 1) 0), (4, true, .fn (.func 18) []), (5, true, .ptr (st.length + 2) 0), (6, true, .map (st.length + 3)), (136, true, .lst 2 none (l.map encU)), (137, true, .int .i64 l.length), (138, true, .int .i64 i), (19, true, .int .i64 i), (20, true, .ptr S.length 0), (21, true, .int .i64 ps.length), (153, true, .lst 2 none (us.map encPr)), (154, true, .int .i64 us.length), (155, true, .int .i64 p), (23, true, .ptr S3.length 0), (24, true, .ptr (S3.length + 1) 0), (163, true, .lst 11 none (code.map encI)), (164, true, .int .i64 code.length), (165, true, .int .i64 x.1)]) (fun x => x.2.1) (fun x => code.length - x.1) (fun x => x.1 ≤ code.length ∧ RS st.length S0 x.2.1 gl M r3 p3 (sts ++ [(ps.length : Int)]) ∧ x.2.1[S.length]? = some (.box [.str nm, .lst 2 none (us.map encPr)]) ∧ QW x.2.1 (S3.length + 1) (S3.length + 2) qa x.2.2.1 x.2.2.2 ∧ codeL gl nm ps.length code [] = codeL gl nm ps.length (code.drop x.1) x.2.2.2 ∧ x.2.2.2.length = x.1) (0, S4, [], []) rfl TT_ok ⟨Nat.zero_le _, hR4, h204, hQ4, rfl, rfl⟩ rfl rfl ?_
    clear hR4 h204 hQ4
    rintro ⟨j, S5, cr, out⟩ ⟨hj, hR5, h205, hQ5, hv, hol⟩
    simp only at hj hR5 h205 hQ5 hv hol ⊢
    obtain ⟨lo, lk⟩ := hQ5.lt
    have hl5 := hR5.lt
    rcases at_or_end code j hj with ⟨hje, hjd⟩ | ⟨v, hjt, hju, hjr⟩
    · have hje2 : j = code.length := hje
      subst hje2
      rw [hjd, codeL] at hv
      rw [hv] at hz
      simp only [decide_true, Bool.not_true, cond_false] at hz
      obtain ⟨hL6, hK6⟩ := hR5.lk.pushW qa (some (S3.length + 2)) hQ5.rows
      have hR6 := hR5.upd hL6 hK6 (fun j hj => by omega)
      have hrl3 := wkRp_len hR5.lk.rows
      rw [List.length_map] at hrl3
      have h206 := hK6.2 S.length (List.getElem?_eq_some_iff.1 h205).1 (by omega)
      rw [h205] at h206
      have f1 : ∀ X, (S5.set (st.length + 5) X)[st.length + 2]? = some (.box [.lst 3 (some (st.length + 4)) (rowsB gl), .lst 2 (some (st.length + 5)) r3, .lst 1 (some (st.length + 6)) (rowsI (sts ++ [(ps.length : Int)]))]) := fun X => by rw [List.getElem?_set_ne (by omega), hR5.lk.box]
      simp only [gwL, gwB, gwD, gwE, gwS, gwTT, gwZ, gwN, gwC, Nat.reduceEqDiff, ↓reduceIte, Nat.reduceAdd, Nat.reduceLT, Nat.reduceLeDiff, Nat.reduceMul, lt_no, hR5.lk.box, hR5.lk.tp, hQ5.box, f1, hrl3, wp, Env.keep]
      exact ⟨by omega, (p + 1, _, _, p3 ++ [(⟨qa, out⟩ : Pr)]), rfl, rfl, by simp only; omega, by simp only; omega, hR6, h206, hz, by simp only [List.length_append, List.length_cons, List.length_nil]; omega⟩
    have hgv : (code.map encI).getD j [] = encI v := getD_map hju
    have hvm := List.mem_of_getElem? hju
    have wj : IntKind.i64.wrap ((j : Int) + 1) = ((j + 1 : Nat) : Int) := next_i64 hjt (by omega)
    have hjl : (j : Int) < (code.length : Int) := Int.ofNat_lt.mpr hjt
    obtain ⟨p', ar', hi0⟩ := hqi v hvm
    obtain ⟨hRL1, hRL2⟩ := insR_insL gl nm ps.length v (ins_valid hi0) (hqq v hvm)
    have hgood := hqq v hvm
    rw [hjr, codeL, ← hRL1] at hv
    obtain ⟨op, a, n, lb, ow, qd⟩ := v
    simp only at hgood
    simp only [gwL, gwB, gwD, gwE, gwS, gwTT, gwZ, gwN, gwC, Nat.reduceEqDiff, ↓reduceIte, Nat.reduceAdd, Nat.reduceLT, Nat.reduceLeDiff, Nat.reduceMul, lt_yes hjt, hgv, hjl, encI_mk, encD_take, encD_len, encD_drop, Nat.le_refl, Int.toNat_natCast, List.length_map]
    refine (c_Kind op _).use (wkL_refl _) fun _ => ?_
    have hvv := ins_valid hi0
    have hsm : kindR op = 113 → smallD qd := fun h => goodD_small _ (hgood (kind_q hvv h))
    simp only at hRL1 hRL2 hv
    generalize kindR op = k at hRL1 hRL2 hv hsm ⊢
    have hv0 : ∀ y, insR k gl nm ps.length ⟨op, a, n, lb, ow, qd⟩ = (y, 0) → codeL gl nm ps.length code [] = codeL gl nm ps.length (code.drop (j + 1)) (out ++ [y]) := fun y h0 => by
      rw [h0] at hv hRL1 hRL2
      simp only at hRL1 hRL2
      simp only [decide_true, Bool.not_true, cond_false] at hv
      rw [hv, hRL2 hRL1.symm]
    have hv1 : ∀ y e, insR k gl nm ps.length ⟨op, a, n, lb, ow, qd⟩ = (y, e) → decide (e = 0) = false → codeL gl nm ps.length code [] = (out, e) := fun y e h0 h1 => by
      rw [h0] at hv
      simp only [h1, Bool.not_false, cond_true] at hv
      exact hv
    have crl := wkRp_len hQ5.rows
    rw [List.length_map] at crl
    have hl20 := (List.getElem?_eq_some_iff.1 h205).1
    have hne := hQ5.ne
    have g1 : ∀ ex : St, (S5 ++ ex)[S3.length + 1]? = some (.box [.int .i64 qa, .lst 11 (some (S3.length + 2)) cr]) := fun ex => by rw [st_old lo, hQ5.box]
    have g2 : ∀ ex : St, (S5 ++ ex)[S3.length + 2]? = some (.tip 51 out.length) := fun ex => by rw [st_old lk, hQ5.tip]
    have g3 : ∀ (ex : St) (X : Ent), (S5 ++ ex).set (S3.length + 2) X = S5.set (S3.length + 2) X ++ ex := fun ex X => st_oldset lk
    have g4 : ∀ (ex : St) (X : Ent), (S5.set (S3.length + 2) X ++ ex)[S3.length + 1]? = some (.box [.int .i64 qa, .lst 11 (some (S3.length + 2)) cr]) := fun ex X => by rw [st_old (by rw [List.length_set]; exact lo), List.getElem?_set_ne (by omega), hQ5.box]
    have g5 : ∀ (ex : St) (X Y : Ent), (S5.set (S3.length + 2) X ++ ex).set (S3.length + 1) Y = (S5.set (S3.length + 2) X).set (S3.length + 1) Y ++ ex := fun ex X Y => st_oldset (by rw [List.length_set]; exact lo)
    have g6 : ∀ ex : St, (S5 ++ ex)[st.length + 3]? = some (mapE ekB (V.int .i64) M) := fun ex => by rw [st_old (by omega), hR5.map]
    have g7 : ∀ ex : St, (S5 ++ ex)[S.length]? = some (.box [.str nm, .lst 2 none (us.map encPr)]) := fun ex => by rw [st_old hl20, h205]
    have fin : ∀ (c : List V) (y : Ins) (ex : St), insR k gl nm ps.length ⟨op, a, n, lb, ow, qd⟩ = (y, 0) → wkL c (encI y) →
        RS st.length S0 ((S5.set (S3.length + 2) (.tip 51 (out.length + 1))).set (S3.length + 1) (.box [.int .i64 qa, .lst 11 (some (S3.length + 2)) (cr ++ [c])]) ++ ex) gl M r3 p3 (sts ++ [(ps.length : Int)]) ∧
        ((S5.set (S3.length + 2) (.tip 51 (out.length + 1))).set (S3.length + 1) (.box [.int .i64 qa, .lst 11 (some (S3.length + 2)) (cr ++ [c])]) ++ ex)[S.length]? = some (.box [.str nm, .lst 2 none (us.map encPr)]) ∧
        QW ((S5.set (S3.length + 2) (.tip 51 (out.length + 1))).set (S3.length + 1) (.box [.int .i64 qa, .lst 11 (some (S3.length + 2)) (cr ++ [c])]) ++ ex) (S3.length + 1) (S3.length + 2) qa (cr ++ [c]) (out ++ [y]) ∧
        codeL gl nm ps.length code [] = codeL gl nm ps.length (code.drop (j + 1)) (out ++ [y]) ∧ (out ++ [y]).length = j + 1 := fun c y ex h0 hw => by
      obtain ⟨hQ6, hK6⟩ := hQ5.push hw
      have hR6 := hR5.keep hK6 (fun j hj => by omega)
      refine ⟨hR6.app ex, ?_, hQ6.app ex, hv0 y h0, by simp [hol]⟩
      rw [st_old (by simp; exact hl20), hK6.2 S.length hl20 (by omega), h205]
    have hlk := fun (i : TI) (ok : Bool) (st : St) (M : List (Bind' × Int)) => look_mapE (ev := V.int .i64) keyP_B i ok ⟨[], lb, ow⟩ st M
    simp only [gwTT, ekB, encB] at hlk
    have hmr := hR5.mr ⟨[], lb, ow⟩
    simp only [gwL, gwB, gwD, gwE, gwS, gwTT, gwZ, gwN, gwC, Nat.reduceEqDiff, ↓reduceIte, Nat.reduceAdd, Nat.reduceLT, Nat.reduceLeDiff, Nat.reduceMul]
    refine iK_split (fun k1 => ?_) (fun k1 => ?_)
    · simp only [gwL, gwB, gwD, gwE, gwS, gwTT, gwZ, gwN, gwC, Nat.reduceEqDiff, ↓reduceIte, Nat.reduceAdd, Nat.reduceLT, Nat.reduceLeDiff, Nat.reduceMul]
      simp only [gwL, gwB, gwD, gwE, gwS, gwTT, gwZ, gwN, gwC, Nat.reduceEqDiff, ↓reduceIte, Nat.reduceAdd, Nat.reduceLT, Nat.reduceLeDiff, Nat.reduceMul, g1, g2, g3, g4, g5, crl, List.length_map, encD_take, encD_len, encD_drop, List.append_nil, wj, Env.keep]
      exact ⟨by omega, (j + 1, _, cr ++ [_], out ++ [_]), rfl, rfl, by simp only; omega, by simp only; omega, fin _ _ _ (by simp only [insR, k1, cond_true, cond_false]) (wk_ins ..)⟩
    simp only [gwL, gwB, gwD, gwE, gwS, gwTT, gwZ, gwN, gwC, Nat.reduceEqDiff, ↓reduceIte, Nat.reduceAdd, Nat.reduceLT, Nat.reduceLeDiff, Nat.reduceMul]
    refine iK_split (fun k2 => ?_) (fun k2 => ?_)
    · simp only [gwL, gwB, gwD, gwE, gwS, gwTT, gwZ, gwN, gwC, Nat.reduceEqDiff, ↓reduceIte, Nat.reduceAdd, Nat.reduceLT, Nat.reduceLeDiff, Nat.reduceMul, encD_take, encD_len, encD_drop, List.length_map]
      refine (c_ref_Bare qd (hsm (of_decide_eq_true k2)) _).use (wkL_refl _) fun _ => ?_
      simp only [gwL, gwB, gwD, gwE, gwS, gwTT, gwZ, gwN, gwC, Nat.reduceEqDiff, ↓reduceIte, Nat.reduceAdd, Nat.reduceLT, Nat.reduceLeDiff, Nat.reduceMul, g1, g2, g3, g4, g5, crl, List.length_map, encD_take, encD_len, encD_drop, List.append_nil, wj, Env.keep]
      exact ⟨by omega, (j + 1, _, cr ++ [_], out ++ [_]), rfl, rfl, by simp only; omega, by simp only; omega, fin _ { op := op, quote := bareR qd } _ (by simp only [insR, k1, k2, cond_true, cond_false]) (by rw [encI_mk]; exact wkL_refl _)⟩
    simp only [gwL, gwB, gwD, gwE, gwS, gwTT, gwZ, gwN, gwC, Nat.reduceEqDiff, ↓reduceIte, Nat.reduceAdd, Nat.reduceLT, Nat.reduceLeDiff, Nat.reduceMul]
    refine iK_split (fun k3 => ?_) (fun k3 => ?_)
    · simp only [gwL, gwB, gwD, gwE, gwS, gwTT, gwZ, gwN, gwC, Nat.reduceEqDiff, ↓reduceIte, Nat.reduceAdd, Nat.reduceLT, Nat.reduceLeDiff, Nat.reduceMul]
      simp only [gwL, gwB, gwD, gwE, gwS, gwTT, gwZ, gwN, gwC, Nat.reduceEqDiff, ↓reduceIte, Nat.reduceAdd, Nat.reduceLT, Nat.reduceLeDiff, Nat.reduceMul, g1, g2, g3, g4, g5, crl, List.length_map, encD_take, encD_len, encD_drop, List.append_nil, wj, Env.keep]
      exact ⟨by omega, (j + 1, _, cr ++ [_], out ++ [_]), rfl, rfl, by simp only; omega, by simp only; omega, fin _ _ _ (by simp only [insR, k1, k2, k3, cond_true, cond_false]) (wk_ins ..)⟩
    simp only [gwL, gwB, gwD, gwE, gwS, gwTT, gwZ, gwN, gwC, Nat.reduceEqDiff, ↓reduceIte, Nat.reduceAdd, Nat.reduceLT, Nat.reduceLeDiff, Nat.reduceMul]
    refine iK_split (fun k4 => ?_) (fun k4 => ?_)
    · simp only [gwL, gwB, gwD, gwE, gwS, gwTT, gwZ, gwN, gwC, Nat.reduceEqDiff, ↓reduceIte, Nat.reduceAdd, Nat.reduceLT, Nat.reduceLeDiff, Nat.reduceMul, mapLook, mapPut, mapRange, mapLen, makeMapE, keyOk, keyKind, keyGood, lookR, zeroV, entV, entS, nextV, nextS, beq_self_eq_true, cond_true, cond_false, g6, upFrom, hlk]
      by_cases hm : (⟨[], lb, ow⟩ : Bind') ∈ gl
      · rw [if_pos hm] at hmr
        rw [hmr]
        have hdm : decide ((⟨[], lb, ow⟩ : Bind') ∈ gl) = true := decide_eq_true hm
        simp only [gwL, gwB, gwD, gwE, gwS, gwTT, gwZ, gwN, gwC, Nat.reduceEqDiff, ↓reduceIte, Nat.reduceAdd, Nat.reduceLT, Nat.reduceLeDiff, Nat.reduceMul, Option.map_some, Option.getD_some, Option.isSome_some, Bool.not_true, g7]
        refine iK_split (fun k5 => ?_) (fun k5 => ?_)
        · have hc := hv1 { op := op } 10 (by simp only [insR, k1, k2, k3, k4, k5, hdm, cond_true, cond_false, Bool.not_true]) (by decide)
          rw [hc] at hz
          simp only [Int.reduceEq, decide_false, Bool.not_false, cond_true] at hz
          rw [hz] at hy
          simp only [Int.reduceEq, decide_false, Bool.not_false, cond_true] at hy
          obtain ⟨S7, hS7⟩ : ∃ S7 : St, S7 = S5 ++ [Ent.box (.int .i64 op :: .int .i64 a :: .int .i64 n :: .str lb :: .str ow :: encD qd), Ent.box [.int .i64 op, .int .i64 0, .int .i64 0, .str [], .str [], .int .i64 0, .int .i64 0, .str [], .int .i64 0, .int .i64 0, .nils]] := ⟨_, rfl⟩
          rw [← hS7]
          have hK7 : Ks (fun j => st.length + 2 ≤ j) S0 S7 := by rw [hS7]; exact (hR5.app _).ks
          simp only [gwL, gwB, gwD, gwE, gwS, gwTT, gwZ, gwN, gwC, Nat.reduceEqDiff, ↓reduceIte, Nat.reduceAdd, Nat.reduceLT, Nat.reduceLeDiff, Nat.reduceMul]

          refine (c_ref8_bad 10 i _).use (wkL_refl _) fun _ => ?_
          have hs2 : ∀ X, (S7.set st.length X)[st.length + 1]? = some (.box [.int .i64 0, .int .i64 0]) := fun X => by rw [List.getElem?_set_ne (by omega), hC S7 hK7]
          have hq1 := fun X Y => hr1 S7 X Y (by have := hK7.1; omega)
          have hq2 := fun X Y => hr2 S7 X Y (by have := hK7.1; omega)
          simp only [gwL, gwB, gwD, gwE, gwS, gwTT, gwZ, gwN, gwC, Nat.reduceEqDiff, ↓reduceIte, Nat.reduceAdd, Nat.reduceLT, Nat.reduceLeDiff, Nat.reduceMul, hB S7 hK7, hs2, hq1, hq2]
          rw [hpr S7 _ _ (pre S7 hK7)]
          exact bad _ _ _ (by rw [← hr]; simp only [linkL, h1, hx, h5, hy, cond_true, cond_false, Int.reduceEq, decide_true, decide_false, Bool.not_true, Bool.not_false])

        · simp only [gwL, gwB, gwD, gwE, gwS, gwTT, gwZ, gwN, gwC, Nat.reduceEqDiff, ↓reduceIte, Nat.reduceAdd, Nat.reduceLT, Nat.reduceLeDiff, Nat.reduceMul]
          simp only [gwL, gwB, gwD, gwE, gwS, gwTT, gwZ, gwN, gwC, Nat.reduceEqDiff, ↓reduceIte, Nat.reduceAdd, Nat.reduceLT, Nat.reduceLeDiff, Nat.reduceMul, g1, g2, g3, g4, g5, crl, List.length_map, encD_take, encD_len, encD_drop, List.append_nil, wj, Env.keep]
          exact ⟨by omega, (j + 1, _, cr ++ [_], out ++ [_]), rfl, rfl, by simp only; omega, by simp only; omega, fin _ _ _ (by simp only [insR, k1, k2, k3, k4, k5, hdm, Bool.not_true, cond_true, cond_false]) (wk_ins ..)⟩
      · rw [if_neg hm] at hmr
        rw [hmr]
        have hdm : decide ((⟨[], lb, ow⟩ : Bind') ∈ gl) = false := decide_eq_false hm
        simp only [gwL, gwB, gwD, gwE, gwS, gwTT, gwZ, gwN, gwC, Nat.reduceEqDiff, ↓reduceIte, Nat.reduceAdd, Nat.reduceLT, Nat.reduceLeDiff, Nat.reduceMul, Option.map_none, Option.getD_none, Option.isSome_none, Bool.not_false]
        have hc := hv1 { op := op } 7 (by simp only [insR, k1, k2, k3, k4, hdm, cond_true, cond_false, Bool.not_false]) (by decide)
        rw [hc] at hz
        simp only [Int.reduceEq, decide_false, Bool.not_false, cond_true] at hz
        rw [hz] at hy
        simp only [Int.reduceEq, decide_false, Bool.not_false, cond_true] at hy
        obtain ⟨S7, hS7⟩ : ∃ S7 : St, S7 = S5 ++ [Ent.box (.int .i64 op :: .int .i64 a :: .int .i64 n :: .str lb :: .str ow :: encD qd), Ent.box [.int .i64 op, .int .i64 0, .int .i64 0, .str [], .str [], .int .i64 0, .int .i64 0, .str [], .int .i64 0, .int .i64 0, .nils]] := ⟨_, rfl⟩
        rw [← hS7]
        have hK7 : Ks (fun j => st.length + 2 ≤ j) S0 S7 := by rw [hS7]; exact (hR5.app _).ks

        refine (c_ref8_bad 7 i _).use (wkL_refl _) fun _ => ?_
        have hs2 : ∀ X, (S7.set st.length X)[st.length + 1]? = some (.box [.int .i64 0, .int .i64 0]) := fun X => by rw [List.getElem?_set_ne (by omega), hC S7 hK7]
        have hq1 := fun X Y => hr1 S7 X Y (by have := hK7.1; omega)
        have hq2 := fun X Y => hr2 S7 X Y (by have := hK7.1; omega)
        simp only [gwL, gwB, gwD, gwE, gwS, gwTT, gwZ, gwN, gwC, Nat.reduceEqDiff, ↓reduceIte, Nat.reduceAdd, Nat.reduceLT, Nat.reduceLeDiff, Nat.reduceMul, hB S7 hK7, hs2, hq1, hq2]
        rw [hpr S7 _ _ (pre S7 hK7)]
        exact bad _ _ _ (by rw [← hr]; simp only [linkL, h1, hx, h5, hy, cond_true, cond_false, Int.reduceEq, decide_true, decide_false, Bool.not_true, Bool.not_false])
    simp only [gwL, gwB, gwD, gwE, gwS, gwTT, gwZ, gwN, gwC, Nat.reduceEqDiff, ↓reduceIte, Nat.reduceAdd, Nat.reduceLT, Nat.reduceLeDiff, Nat.reduceMul]
    refine iK_split (fun k5 => ?_) (fun k5 => ?_)
    · simp only [gwL, gwB, gwD, gwE, gwS, gwTT, gwZ, gwN, gwC, Nat.reduceEqDiff, ↓reduceIte, Nat.reduceAdd, Nat.reduceLT, Nat.reduceLeDiff, Nat.reduceMul]
      simp only [gwL, gwB, gwD, gwE, gwS, gwTT, gwZ, gwN, gwC, Nat.reduceEqDiff, ↓reduceIte, Nat.reduceAdd, Nat.reduceLT, Nat.reduceLeDiff, Nat.reduceMul, g1, g2, g3, g4, g5, crl, List.length_map, encD_take, encD_len, encD_drop, List.append_nil, wj, Env.keep]
      exact ⟨by omega, (j + 1, _, cr ++ [_], out ++ [_]), rfl, rfl, by simp only; omega, by simp only; omega, fin _ _ _ (by simp only [insR, k1, k2, k3, k4, k5, cond_true, cond_false]) (wk_ins ..)⟩
    simp only [gwL, gwB, gwD, gwE, gwS, gwTT, gwZ, gwN, gwC, Nat.reduceEqDiff, ↓reduceIte, Nat.reduceAdd, Nat.reduceLT, Nat.reduceLeDiff, Nat.reduceMul]
    refine iK_split (fun k6 => ?_) (fun k6 => ?_)
    · simp only [gwL, gwB, gwD, gwE, gwS, gwTT, gwZ, gwN, gwC, Nat.reduceEqDiff, ↓reduceIte, Nat.reduceAdd, Nat.reduceLT, Nat.reduceLeDiff, Nat.reduceMul, k6]
      simp only [gwL, gwB, gwD, gwE, gwS, gwTT, gwZ, gwN, gwC, Nat.reduceEqDiff, ↓reduceIte, Nat.reduceAdd, Nat.reduceLT, Nat.reduceLeDiff, Nat.reduceMul, g1, g2, g3, g4, g5, crl, List.length_map, encD_take, encD_len, encD_drop, List.append_nil, wj, Env.keep]
      exact ⟨by omega, (j + 1, _, cr ++ [_], out ++ [_]), rfl, rfl, by simp only; omega, by simp only; omega, fin _ _ _ (by simp only [insR, k1, k2, k3, k4, k5, k6, Bool.true_or, cond_true, cond_false]) (wk_ins ..)⟩
    simp only [gwL, gwB, gwD, gwE, gwS, gwTT, gwZ, gwN, gwC, Nat.reduceEqDiff, ↓reduceIte, Nat.reduceAdd, Nat.reduceLT, Nat.reduceLeDiff, Nat.reduceMul, k6]
    refine iK_split (fun k7 => ?_) (fun k7 => ?_)
    · simp only [gwL, gwB, gwD, gwE, gwS, gwTT, gwZ, gwN, gwC, Nat.reduceEqDiff, ↓reduceIte, Nat.reduceAdd, Nat.reduceLT, Nat.reduceLeDiff, Nat.reduceMul, k7]
      simp only [gwL, gwB, gwD, gwE, gwS, gwTT, gwZ, gwN, gwC, Nat.reduceEqDiff, ↓reduceIte, Nat.reduceAdd, Nat.reduceLT, Nat.reduceLeDiff, Nat.reduceMul, g1, g2, g3, g4, g5, crl, List.length_map, encD_take, encD_len, encD_drop, List.append_nil, wj, Env.keep]
      exact ⟨by omega, (j + 1, _, cr ++ [_], out ++ [_]), rfl, rfl, by simp only; omega, by simp only; omega, fin _ _ _ (by simp only [insR, k1, k2, k3, k4, k5, k6, k7, Bool.true_or, Bool.or_true, Bool.false_or, cond_true, cond_false]) (wk_ins ..)⟩
    simp only [gwL, gwB, gwD, gwE, gwS, gwTT, gwZ, gwN, gwC, Nat.reduceEqDiff, ↓reduceIte, Nat.reduceAdd, Nat.reduceLT, Nat.reduceLeDiff, Nat.reduceMul, k7]
    refine iK_split (fun k8 => ?_) (fun k8 => ?_)
    · simp only [gwL, gwB, gwD, gwE, gwS, gwTT, gwZ, gwN, gwC, Nat.reduceEqDiff, ↓reduceIte, Nat.reduceAdd, Nat.reduceLT, Nat.reduceLeDiff, Nat.reduceMul, k8]
      simp only [gwL, gwB, gwD, gwE, gwS, gwTT, gwZ, gwN, gwC, Nat.reduceEqDiff, ↓reduceIte, Nat.reduceAdd, Nat.reduceLT, Nat.reduceLeDiff, Nat.reduceMul, g1, g2, g3, g4, g5, crl, List.length_map, encD_take, encD_len, encD_drop, List.append_nil, wj, Env.keep]
      exact ⟨by omega, (j + 1, _, cr ++ [_], out ++ [_]), rfl, rfl, by simp only; omega, by simp only; omega, fin _ _ _ (by simp only [insR, k1, k2, k3, k4, k5, k6, k7, k8, Bool.true_or, Bool.or_true, Bool.false_or, cond_true, cond_false]) (wk_ins ..)⟩
    simp only [gwL, gwB, gwD, gwE, gwS, gwTT, gwZ, gwN, gwC, Nat.reduceEqDiff, ↓reduceIte, Nat.reduceAdd, Nat.reduceLT, Nat.reduceLeDiff, Nat.reduceMul, k8]
    simp only [gwL, gwB, gwD, gwE, gwS, gwTT, gwZ, gwN, gwC, Nat.reduceEqDiff, ↓reduceIte, Nat.reduceAdd, Nat.reduceLT, Nat.reduceLeDiff, Nat.reduceMul, g1, g2, g3, g4, g5, crl, List.length_map, encD_take, encD_len, encD_drop, List.append_nil, wj, Env.keep]
    exact ⟨by omega, (j + 1, _, cr ++ [_], out ++ [_]), rfl, rfl, by simp only; omega, by simp only; omega, fin _ _ _ (by simp only [insR, k1, k2, k3, k4, k5, k6, k7, k8, Bool.or_self, cond_true, cond_false]) (wk_ins ..)⟩

  · have hgu : (l.map encU).getD i [] = encU u := getD_map hget
    have w : IntKind.i64.wrap ((i : Int) + 1) = ((i + 1 : Nat) : Int) := next_i64 hlt (by omega)
    have hil : (i : Int) < (l.length : Int) := Int.ofNat_lt.mpr hlt
    rw [hdr, checkL] at hx
    simp only [gwL, gwB, gwD, gwE, gwS, gwTT, gwZ, gwN, gwC, Nat.reduceEqDiff, ↓reduceIte, Nat.reduceAdd, Nat.reduceLT, Nat.reduceLeDiff, Nat.reduceMul, lt_yes hlt, hgu, hil, Int.toNat_natCast, List.length_map, encU_len, enc2, Nat.le_refl]
    refine (c_ref8_Wrong u _).use (wkL_refl _) fun _ => ?_
    obtain ⟨S1, hS1⟩ : ∃ S1 : St, S1 = S ++ [Ent.box (encU u)] := ⟨_, rfl⟩
    rw [← hS1]
    have hR1 : RS st.length S0 S1 gl M [] [] [] := by rw [hS1]; exact hR.app _
    have h8 : S1[S.length]? = some (.box (encU u)) := by rw [hS1]; simp
    have hK1 := hR1.ks
    simp only [gwL, gwB, gwD, gwE, gwS, gwTT, gwZ, gwN, gwC, Nat.reduceEqDiff, ↓reduceIte, Nat.reduceAdd, Nat.reduceLT, Nat.reduceLeDiff, Nat.reduceMul]
    refine iK_split (fun h2 => ?_) (fun h2 => ?_)
    · have he : errL l i u = unitE u := by
        have : decide (unitE u = 0) = false := by simpa using h2
        simp only [errL, this, Bool.false_and, cond_false]
      rw [he] at hx
      have : decide (unitE u = 0) = false := by simpa using h2
      rw [this] at hx
      simp only [cond_false] at hx
      simp only [gwL, gwB, gwD, gwE, gwS, gwTT, gwZ, gwN, gwC, Nat.reduceEqDiff, ↓reduceIte, Nat.reduceAdd, Nat.reduceLT, Nat.reduceLeDiff, Nat.reduceMul]

      refine (c_ref8_bad (unitE u) i _).use (wkL_refl _) fun _ => ?_
      have hs2 : ∀ X, (S1.set st.length X)[st.length + 1]? = some (.box [.int .i64 0, .int .i64 0]) := fun X => by rw [List.getElem?_set_ne (by omega), hC S1 hK1]
      have hq1 := fun X Y => hr1 S1 X Y (by have := hK1.1; omega)
      have hq2 := fun X Y => hr2 S1 X Y (by have := hK1.1; omega)
      simp only [gwL, gwB, gwD, gwE, gwS, gwTT, gwZ, gwN, gwC, Nat.reduceEqDiff, ↓reduceIte, Nat.reduceAdd, Nat.reduceLT, Nat.reduceLeDiff, Nat.reduceMul, hB S1 hK1, hs2, hq1, hq2]
      rw [hpr S1 _ _ (pre S1 hK1)]
      exact bad _ _ _ (by rw [← hr]; simp only [linkL, h1, hx, cond_true, cond_false, this, Bool.not_false])
    have hu0 : unitE u = 0 := by simpa using h2
    have hok := unit_ok hu0
    have htk : List.take i (l.map encU) = (l.take i).map encU := by rw [List.map_take]
    have htl : ((l.take i).map encU).length = i := by rw [List.length_map, List.length_take]; omega
    have hSl1 : S1.length = S.length + 1 := by rw [hS1]; simp
    simp only [gwL, gwB, gwD, gwE, gwS, gwTT, gwZ, gwN, gwC, Nat.reduceEqDiff, ↓reduceIte, Nat.reduceAdd, Nat.reduceLT, Nat.reduceLeDiff, Nat.reduceMul, Int.toNat_natCast, List.length_map, htk, htl]
    refine ⟨by omega, ?_⟩
    refine vfor (σ := Nat × St) [0, 2, 3, 4, 5, 6, 38, 39, 40, 7, 8, 57, 58, 59] (fun x => [(0, true, .lst 2 none (l.map encU)), (2, true, .ptr st.length 0), (3, true, .ptr (st.length + 1) 0), (4, true, .fn (.func 18) []), (5, true, .ptr (st.length + 2) 0), (6, true, .map (st.length + 3)), (38, true, .lst 2 none (l.map encU)), (39, true, .int .i64 l.length), (40, true, .int .i64 i), (7, true, .int .i64 i), (8, true, .ptr S.length 0), (57, true, .lst 2 none ((l.take i).map encU)), (58, true, .int .i64 i), (59, true, .int .i64 x.1)]) (fun x => x.2) (fun x => i - x.1) (fun x => x.1 ≤ i ∧ RS st.length S0 x.2 gl M [] [] [] ∧ x.2[S.length]? = some (.box (encU u)) ∧ (l.take i).any (fun o => decide (o.name = u.name)) = ((l.take i).drop x.1).any (fun o => decide (o.name = u.name))) (0, S1) rfl TT_ok ⟨Nat.zero_le _, hR1, h8, rfl⟩ rfl rfl ?_
    rintro ⟨j, S2⟩ ⟨hj, hR2, h82, hy⟩
    simp only at hj hR2 h82 hy ⊢
    have htl2 : (l.take i).length = i := by rw [List.length_take]; omega
    have hK2 := hR2.ks
    rcases at_or_end (l.take i) j (by omega) with ⟨hje, hjd⟩ | ⟨o, hjt, hju, hjr⟩
    · have hje2 : i = j := by omega
      subst hje2
      rw [hjd, List.any_nil] at hy
      have he : errL l i u = 0 := by simp only [errL, hy, Bool.and_false, cond_false, hu0]
      rw [he] at hx
      simp only [decide_true, cond_true] at hx
      clear hy hR1 h8 hK1 hje hjd
      have hSn : st.length + 7 ≤ S.length := by omega
      clear hK hR hSl
      simp only [gwL, gwB, gwD, gwE, gwS, gwTT, gwZ, gwN, gwC, Nat.reduceEqDiff, ↓reduceIte, Nat.reduceAdd, Nat.reduceLT, Nat.reduceLeDiff, Nat.reduceMul, lt_no, h82, encU, lstPr, List.length_map]
      obtain ⟨nm, us⟩ := u
      simp only at hx
      have hfew := hok.few
      simp only at hfew
      have hfm := hok.form
      simp only at hfm
      refine vfor (σ := Nat × St × List Bind' × List (Bind' × Int)) [0, 2, 3, 4, 5, 6, 38, 39, 40, 7, 8, 75, 76, 77] (fun x => [(0, true, .lst 2 none (l.map encU)), (2, true, .ptr st.length 0), (3, true, .ptr (st.length + 1) 0), (4, true, .fn (.func 18) []), (5, true, .ptr (st.length + 2) 0), (6, true, .map (st.length + 3)), (38, true, .lst 2 none (l.map encU)), (39, true, .int .i64 l.length), (40, true, .int .i64 i), (7, true, .int .i64 i), (8, true, .ptr S.length 0), (75, true, .lst 2 none (us.map encPr)), (76, true, .int .i64 us.length), (77, true, .int .i64 x.1)]) (fun x => x.2.1) (fun x => us.length - x.1) (fun x => x.1 ≤ us.length ∧ RS st.length S0 x.2.1 x.2.2.1 x.2.2.2 [] [] [] ∧ x.2.1[S.length]? = some (.box (encU ⟨nm, us⟩)) ∧ globP nm us gl = globP nm (us.drop x.1) x.2.2.1 ∧ x.2.2.1.length ≤ gl.length + 6000 * x.1) (0, S2, gl, M) rfl TT_ok ⟨Nat.zero_le _, hR2, h82, rfl, by simp⟩ rfl rfl ?_
      clear hR2 h82 hK2
      rintro ⟨p, S4, g2, M2⟩ ⟨hp, hR4, h84, hz, hn2⟩
      simp only at hp hR4 h84 hz hn2 ⊢
      have hK4 := hR4.ks
      rcases at_or_end us p hp with ⟨hpe, hpd⟩ | ⟨q, hpt, hpq, hpr2⟩
      · have hpe2 : p = us.length := hpe
        subst hpe2
        rw [hpd, globP] at hz
        rw [hz] at hx
        simp only [decide_true, Bool.not_true, cond_false] at hx
        simp only [gwL, gwB, gwD, gwE, gwS, gwTT, gwZ, gwN, gwC, Nat.reduceEqDiff, ↓reduceIte, Nat.reduceAdd, Nat.reduceLT, Nat.reduceLeDiff, Nat.reduceMul, lt_no, w, Env.keep]
        exact ⟨(i + 1, S4, g2, M2), rfl, rfl, by simp only; omega, by simp only; omega, hR4, hx, by simp only; omega⟩
      have hgq : (us.map encPr).getD p [] = encPr q := getD_map hpq
      have hqf := hfm q (List.mem_of_getElem? hpq)
      have wp : IntKind.i64.wrap ((p : Int) + 1) = ((p + 1 : Nat) : Int) := next_i64 hpt (by omega)
      have hpl : (p : Int) < (us.length : Int) := Int.ofNat_lt.mpr hpt
      rw [hpr2, globP] at hz
      obtain ⟨qa, code⟩ := q
      simp only at hz hqf
      simp only [gwL, gwB, gwD, gwE, gwS, gwTT, gwZ, gwN, gwC, Nat.reduceEqDiff, ↓reduceIte, Nat.reduceAdd, Nat.reduceLT, Nat.reduceLeDiff, Nat.reduceMul, lt_yes hpt, hgq, encPr, lstI, hpl, Int.toNat_natCast, List.length_map]
      obtain ⟨S5, hS5⟩ : ∃ S5 : St, S5 = S4 ++ [Ent.box [.int .i64 qa, .lst 11 none (code.map encI)]] := ⟨_, rfl⟩
      rw [← hS5]
      have hR5 : RS st.length S0 S5 g2 M2 [] [] [] := by rw [hS5]; exact hR4.app _
      have h85 : S5[S.length]? = some (.box (encU ⟨nm, us⟩)) := by rw [hS5, st_old (List.getElem?_eq_some_iff.1 h84).1, h84]
      refine vfor (σ := Nat × St × List Bind' × List (Bind' × Int)) [0, 2, 3, 4, 5, 6, 38, 39, 40, 7, 8, 75, 76, 77, 82, 83, 84] (fun x => [(0, true, .lst 2 none (l.map encU)), (2, true, .ptr st.length 0), (3, true, .ptr (st.length + 1) 0), (4, true, .fn (.func 18) []), (5, true, .ptr (st.length + 2) 0), (6, true, .map (st.length + 3)), (38, true, .lst 2 none (l.map encU)), (39, true, .int .i64 l.length), (40, true, .int .i64 i), (7, true, .int .i64 i), (8, true, .ptr S.length 0), (75, true, .lst 2 none (us.map encPr)), (76, true, .int .i64 us.length), (77, true, .int .i64 p), (82, true, .lst 11 none (code.map encI)), (83, true, .int .i64 code.length), (84, true, .int .i64 x.1)]) (fun x => x.2.1) (fun x => code.length - x.1) (fun x => x.1 ≤ code.length ∧ RS st.length S0 x.2.1 x.2.2.1 x.2.2.2 [] [] [] ∧ x.2.1[S.length]? = some (.box (encU ⟨nm, us⟩)) ∧ globI nm code g2 = globI nm (code.drop x.1) x.2.2.1 ∧ x.2.2.1.length ≤ g2.length + x.1) (0, S5, g2, M2) rfl TT_ok ⟨Nat.zero_le _, hR5, h85, rfl, by simp⟩ rfl rfl ?_
      clear hR5 h85 hR4 h84 hK4 hS5
      rintro ⟨j, S6, g3, M3⟩ ⟨hj, hR6, h86, hv, hn3⟩
      simp only at hj hR6 h86 hv hn3 ⊢
      rcases at_or_end code j hj with ⟨hje, hjd⟩ | ⟨v, hjt, hju, hjr⟩
      · have hje2 : j = code.length := hje
        subst hje2
        rw [hjd, globI] at hv
        rw [hv] at hz
        simp only [decide_true, Bool.not_true, cond_false] at hz
        simp only [gwL, gwB, gwD, gwE, gwS, gwTT, gwZ, gwN, gwC, Nat.reduceEqDiff, ↓reduceIte, Nat.reduceAdd, Nat.reduceLT, Nat.reduceLeDiff, Nat.reduceMul, lt_no, wp, Env.keep]
        exact ⟨(p + 1, S6, g3, M3), rfl, rfl, by simp only; omega, by simp only; omega, hR6, h86, hz, by simp only; omega⟩
      have hgv : (code.map encI).getD j [] = encI v := getD_map hju
      have wj : IntKind.i64.wrap ((j : Int) + 1) = ((j + 1 : Nat) : Int) := next_i64 hjt (by omega)
      have hjl : (j : Int) < (code.length : Int) := Int.ofNat_lt.mpr hjt
      rw [hjr, globI] at hv
      obtain ⟨op, a, n, lb, ow, qd⟩ := v
      simp only at hv
      simp only [gwL, gwB, gwD, gwE, gwS, gwTT, gwZ, gwN, gwC, Nat.reduceEqDiff, ↓reduceIte, Nat.reduceAdd, Nat.reduceLT, Nat.reduceLeDiff, Nat.reduceMul, lt_yes hjt, hgv, hjl, encI_mk, encD_take, encD_len, encD_drop, Nat.le_refl, Int.toNat_natCast, List.length_map]
      obtain ⟨S7, hS7⟩ : ∃ S7 : St, S7 = S6 ++ [Ent.box (.int .i64 op :: .int .i64 a :: .int .i64 n :: .str lb :: .str ow :: encD qd)] := ⟨_, rfl⟩
      rw [← hS7]
      have hR7 : RS st.length S0 S7 g3 M3 [] [] [] := by rw [hS7]; exact hR6.app _
      have h87 : S7[S.length]? = some (.box (encU ⟨nm, us⟩)) := by rw [hS7, st_old (List.getElem?_eq_some_iff.1 h86).1, h86]
      have h15 : S7[S6.length]? = some (.box (.int .i64 op :: .int .i64 a :: .int .i64 n :: .str lb :: .str ow :: encD qd)) := by rw [hS7]; simp
      have hSl6 := (List.getElem?_eq_some_iff.1 h86).1
      have hSl7 : S7.length = S6.length + 1 := by rw [hS7]; simp
      have hK7 := hR7.ks
      refine iK_split (fun h13 => ?_) (fun h13 => ?_)
      · rw [h13] at hv
        simp only [cond_true] at hv
        simp only [gwL, gwB, gwD, gwE, gwS, gwTT, gwZ, gwN, gwC, Nat.reduceEqDiff, ↓reduceIte, Nat.reduceAdd, Nat.reduceLT, Nat.reduceLeDiff, Nat.reduceMul, wj, Env.keep]
        exact ⟨(j + 1, S7, g3, M3), rfl, rfl, by simp only; omega, by simp only; omega, hR7, h87, hv, by simp only; omega⟩
      rw [h13] at hv
      simp only [cond_false] at hv
      simp only [gwL, gwB, gwD, gwE, gwS, gwTT, gwZ, gwN, gwC, Nat.reduceEqDiff, ↓reduceIte, Nat.reduceAdd, Nat.reduceLT, Nat.reduceLeDiff, Nat.reduceMul, h15, h87, encU]
      refine iK_split (fun hl => ?_) (fun hl => ?_)
      · rw [hl] at hv
        simp only [cond_true] at hv
        rw [hv] at hz
        have hz' : globP nm us gl = (10, g3) := hz
        rw [hz'] at hx
        simp only [Int.reduceEq, decide_false, Bool.not_false, cond_true] at hx
        simp only [gwL, gwB, gwD, gwE, gwS, gwTT, gwZ, gwN, gwC, Nat.reduceEqDiff, ↓reduceIte, Nat.reduceAdd, Nat.reduceLT, Nat.reduceLeDiff, Nat.reduceMul]

        refine (c_ref8_bad 10 i _).use (wkL_refl _) fun _ => ?_
        have hs2 : ∀ X, (S7.set st.length X)[st.length + 1]? = some (.box [.int .i64 0, .int .i64 0]) := fun X => by rw [List.getElem?_set_ne (by omega), hC S7 hK7]
        have hq1 := fun X Y => hr1 S7 X Y (by have := hK7.1; omega)
        have hq2 := fun X Y => hr2 S7 X Y (by have := hK7.1; omega)
        simp only [gwL, gwB, gwD, gwE, gwS, gwTT, gwZ, gwN, gwC, Nat.reduceEqDiff, ↓reduceIte, Nat.reduceAdd, Nat.reduceLT, Nat.reduceLeDiff, Nat.reduceMul, hB S7 hK7, hs2, hq1, hq2]
        rw [hpr S7 _ _ (pre S7 hK7)]
        exact bad _ _ _ (by rw [← hr]; simp only [linkL, h1, hx, cond_true, cond_false, Int.reduceEq, decide_false, Bool.not_false])

      rw [hl] at hv
      simp only [cond_false] at hv
      have hlk := fun (i : TI) (ok : Bool) (st : St) (M : List (Bind' × Int)) => look_mapE (ev := V.int .i64) keyP_B i ok ⟨[], lb, ow⟩ st M
      have hpt2 := fun (o : Nat) (a : Int) (st : St) (M : List (Bind' × Int)) => put_mapE (ev := V.int .i64) keyP_B o ⟨[], lb, ow⟩ a st M
      simp only [gwTT, ekB, encB] at hlk hpt2
      simp only [gwL, gwB, gwD, gwE, gwS, gwTT, gwZ, gwN, gwC, Nat.reduceEqDiff, ↓reduceIte, Nat.reduceAdd, Nat.reduceLT, Nat.reduceLeDiff, Nat.reduceMul, h15]
      obtain ⟨S8, hS8⟩ : ∃ S8 : St, S8 = S7 ++ [Ent.box [.str [], .str lb, .str ow]] := ⟨_, rfl⟩
      have hR8 : RS st.length S0 S8 g3 M3 [] [] [] := by rw [hS8]; exact hR7.app _
      have h88 : S8[S.length]? = some (.box (encU ⟨nm, us⟩)) := by rw [hS8, st_old (by omega), h87]
      have h16 : S8[S7.length]? = some (.box [.str [], .str lb, .str ow]) := by rw [hS8]; simp
      simp only [gwL, gwB, gwD, gwE, gwS, gwTT, gwZ, gwN, gwC, Nat.reduceEqDiff, ↓reduceIte, Nat.reduceAdd, Nat.reduceLT, Nat.reduceLeDiff, Nat.reduceMul, mapLook, mapPut, mapRange, mapLen, makeMapE, keyOk, keyKind, keyGood, lookR, zeroV, entV, entS, nextV, nextS, beq_self_eq_true, cond_true, cond_false, ← hS8, h16, hR8.map, upFrom, hlk]
      have hmem : (asc (⟨[], lb, ow⟩ : Bind') M3).isSome = decide ((⟨[], lb, ow⟩ : Bind') ∈ g3) := by
        rw [hR8.mr]; by_cases hm : (⟨[], lb, ow⟩ : Bind') ∈ g3 <;> simp [hm]
      rw [hmem]
      have hSl8 : S8.length = S7.length + 1 := by rw [hS8]; simp
      have hlt8 := hR8.lt
      refine iK_split (fun hc => ?_) (fun hc => ?_)
      · rw [hc] at hv
        simp only [cond_true] at hv
        have hni : (⟨[], lb, ow⟩ : Bind') ∉ g3 := by simpa using hc
        obtain ⟨hR9, hK9⟩ := hR8.push hni
        have hrb : (rowsB g3).length = g3.length := by simp [rowsB]
        have f1 : ∀ X, (S8.set (st.length + 3) X)[st.length + 2]? = some (.box [.lst 3 (some (st.length + 4)) (rowsB g3), .lst 2 (some (st.length + 5)) [], .lst 1 (some (st.length + 6)) (rowsI [])]) := fun X => by rw [List.getElem?_set_ne (by omega), hR8.lk.box]
        have f2 : ∀ X, (S8.set (st.length + 3) X)[st.length + 4]? = some (.tip 40 g3.length) := fun X => by rw [List.getElem?_set_ne (by omega), hR8.lk.tg]
        have f3 : ∀ X, (S8.set (st.length + 3) X)[S7.length]? = some (.box [.str [], .str lb, .str ow]) := fun X => by rw [List.getElem?_set_ne (by omega), h16]
        have f4 : ∀ X Y, ((S8.set (st.length + 3) X).set (st.length + 4) Y)[st.length + 2]? = some (.box [.lst 3 (some (st.length + 4)) (rowsB g3), .lst 2 (some (st.length + 5)) [], .lst 1 (some (st.length + 6)) (rowsI [])]) := fun X Y => by rw [List.getElem?_set_ne (by omega), f1]
        have h89 := hK9.2 S.length (List.getElem?_eq_some_iff.1 h88).1 (by omega)
        rw [h88] at h89
        simp only [gwL, gwB, gwD, gwE, gwS, gwTT, gwZ, gwN, gwC, Nat.reduceEqDiff, ↓reduceIte, Nat.reduceAdd, Nat.reduceLT, Nat.reduceLeDiff, Nat.reduceMul, mapLook, mapPut, mapRange, mapLen, makeMapE, keyOk, keyKind, keyGood, lookR, zeroV, entV, entS, nextV, nextS, beq_self_eq_true, cond_true, cond_false, h16, hR8.map, hR8.lk.box, upFrom, hrb, hpt2, f1, f2, f3, f4, wj, Env.keep]
        exact ⟨by omega, (j + 1, _, g3 ++ [(⟨[], lb, ow⟩ : Bind')], _), rfl, rfl, by simp only; omega, by simp only; omega, hR9, h89, hv, by simp only [List.length_append, List.length_cons, List.length_nil]; omega⟩
      · rw [hc] at hv
        simp only [cond_false] at hv
        simp only [gwL, gwB, gwD, gwE, gwS, gwTT, gwZ, gwN, gwC, Nat.reduceEqDiff, ↓reduceIte, Nat.reduceAdd, Nat.reduceLT, Nat.reduceLeDiff, Nat.reduceMul, wj, Env.keep]
        exact ⟨(j + 1, S8, g3, M3), rfl, rfl, by simp only; omega, by simp only; omega, hR8, h88, hv, by simp only; omega⟩
    · rw [htl2] at hjt
      have hgo : ((l.take i).map encU).getD j [] = encU o := getD_map hju
      have w2 : IntKind.i64.wrap ((j : Int) + 1) = ((j + 1 : Nat) : Int) := next_i64 hjt (by omega)
      have hjl : (j : Int) < (i : Int) := Int.ofNat_lt.mpr hjt
      obtain ⟨S3, hS3⟩ : ∃ S3 : St, S3 = S2 ++ [Ent.box (encU o)] := ⟨_, rfl⟩
      have hR3 : RS st.length S0 S3 gl M [] [] [] := by rw [hS3]; exact hR2.app _
      have h83 : S3[S.length]? = some (.box (encU u)) := by rw [hS3, st_old (List.getElem?_eq_some_iff.1 h82).1, h82]
      have h11 : S3[S2.length]? = some (.box (encU o)) := by rw [hS3]; simp
      have hK3 := hR3.ks
      rw [hjr, List.any_cons] at hy
      simp only [gwL, gwB, gwD, gwE, gwS, gwTT, gwZ, gwN, gwC, Nat.reduceEqDiff, ↓reduceIte, Nat.reduceAdd, Nat.reduceLT, Nat.reduceLeDiff, Nat.reduceMul, lt_yes hjt, hgo, hjl, htl, Int.toNat_natCast, List.length_map, encU_len, enc2, Nat.le_refl, ← hS3]
      simp only [gwL, gwB, gwD, gwE, gwS, gwTT, gwZ, gwN, gwC, Nat.reduceEqDiff, ↓reduceIte, Nat.reduceAdd, Nat.reduceLT, Nat.reduceLeDiff, Nat.reduceMul, h11, h83, encU]
      refine iK_split (fun h3 => ?_) (fun h3 => ?_)
      · rw [h3, Bool.true_or] at hy
        have he : errL l i u = 7 := by simp only [errL, hy, hu0, decide_true, Bool.true_and, cond_true]
        rw [he] at hx
        simp only [Int.reduceEq, decide_false, cond_false] at hx
        simp only [gwL, gwB, gwD, gwE, gwS, gwTT, gwZ, gwN, gwC, Nat.reduceEqDiff, ↓reduceIte, Nat.reduceAdd, Nat.reduceLT, Nat.reduceLeDiff, Nat.reduceMul]

        refine (c_ref8_bad 7 i _).use (wkL_refl _) fun _ => ?_
        have hs2 : ∀ X, (S3.set st.length X)[st.length + 1]? = some (.box [.int .i64 0, .int .i64 0]) := fun X => by rw [List.getElem?_set_ne (by omega), hC S3 hK3]
        have hq1 := fun X Y => hr1 S3 X Y (by have := hK3.1; omega)
        have hq2 := fun X Y => hr2 S3 X Y (by have := hK3.1; omega)
        simp only [gwL, gwB, gwD, gwE, gwS, gwTT, gwZ, gwN, gwC, Nat.reduceEqDiff, ↓reduceIte, Nat.reduceAdd, Nat.reduceLT, Nat.reduceLeDiff, Nat.reduceMul, hB S3 hK3, hs2, hq1, hq2]
        rw [hpr S3 _ _ (pre S3 hK3)]
        exact bad _ _ _ (by rw [← hr]; simp only [linkL, h1, hx, cond_true, cond_false, Int.reduceEq, decide_false, Bool.not_false])

      · rw [h3, Bool.false_or] at hy
        simp only [gwL, gwB, gwD, gwE, gwS, gwTT, gwZ, gwN, gwC, Nat.reduceEqDiff, ↓reduceIte, Nat.reduceAdd, Nat.reduceLT, Nat.reduceLeDiff, Nat.reduceMul, w2, Env.keep]
        exact ⟨(j + 1, S3), rfl, rfl, by simp only; omega, by simp only; omega, hR3, h83, hy⟩
end Go.Proofs.Ytlblgbfpdlfedaa.Gx

namespace Go.Proofs.Ytlblgbfpdlfedaa.Gx
open Go Go.Proofs.Ytlblgbfpdlfedaa.Gw
set_option linter.unusedSimpArgs false
set_option linter.unusedVariables false

set_option maxRecDepth 20000 in
set_option maxHeartbeats 16000000 in
theorem c_Link (l : List Unit') (st : St) : VCalls Try.prog TT 7 [lstU l] st fun r st' => r = .ret (linkV (linkL l)) ∧ st' = st := by
  refine vfun TT_ok (an := anL []) (L := [0, 1, 2, 3, 4, 5, 6, 7, 8, 17, 18, 59, 60]) (rs := [.cell 2 27, .cell 3 30]) Try.func7 rfl (by kernel_rfl) rfl Try.ntmps7 rfl rfl (Nat.le_refl _) fun hst ha hf => ?_
  simp only [lstU]
  generalize hr : linkL l = r
  have give : ∀ (a b c : V) (e i : Int) (im : Im) (ex : St), r = (im, e, i) → wkL [a, b, c] (encIm im) → Gives (linkV r) st (.ret (.tup [.agg [a, b, c], .agg [.int .i64 e, .int .i64 i]])) (st ++ ex) := by
    intro a b c e i im ex he hw
    rw [he]
    refine gives_of (wk_tup (wkL_cons (wk_agg hw) (wkL_refl _))) (wkSt_refl _) ?_ hst
    simp only [linkV, fltV, encIm, V.lt, ltL, and_true, true_and]
    exact ⟨⟨fun e h => (by cases h), ltRows_map fun x _ => ⟨trivial, trivial, trivial, trivial⟩⟩, lstPr_lt _ _, ⟨fun e h => (by cases h), ltRows_map fun x _ => ⟨trivial, trivial⟩⟩⟩
  have bad : ∀ (e i : Int) (ex : St), r = (noIm, e, i) → Gives (linkV r) st (.ret (.tup [.agg [.nils, .nils, .nils], .agg [.int .i64 e, .int .i64 i]])) (st ++ ex) := fun e i ex he =>
    give _ _ _ _ _ noIm ex he (wkL_cons (wk_nils _) (wkL_cons (wk_nils _) (wkL_cons (wk_nils _) wkL_nil)))
  simp only [gwL, gwB, gwD, gwE, gwS, gwTT, gwZ, gwN, gwC, Nat.reduceEqDiff, ↓reduceIte, Nat.reduceAdd, Nat.reduceLT, Nat.reduceLeDiff, Nat.reduceMul, List.length_map]
  refine iK_split (fun h1 => ?_) (fun h1 => ?_)
  · simp only [gwL, gwB, gwD, gwE, gwS, gwTT, gwZ, gwN, gwC, Nat.reduceEqDiff, ↓reduceIte, Nat.reduceAdd, Nat.reduceLT, Nat.reduceLeDiff, Nat.reduceMul]
    exact bad _ _ _ (by rw [← hr]; simp only [linkL, h1, cond_true])
  have h1' := of_decide_eq_false h1
  simp only [gwL, gwB, gwD, gwE, gwS, gwTT, gwZ, gwN, gwC, Nat.reduceEqDiff, ↓reduceIte, Nat.reduceAdd, Nat.reduceLT, Nat.reduceLeDiff, Nat.reduceMul, List.length_map]
  refine vmore [40, 46, 3] [1, 2, 3, 4, 17, 18] [(1, true, .ptr st.length 0), (2, true, .ptr (st.length + 1) 0), (3, true, .ptr (st.length + 2) 0), (4, true, .ptr (st.length + 3) 0), (17, true, .int .i64 l.length), (18, true, .int .i64 0)] ((st ++ [Ent.box [.lst 2 none (l.map encU)], Ent.box [.nils, .nils, .nils], Ent.box [.int .i64 0, .int .i64 0], Ent.box [.lst 3 (some (st.length + 4)) [], .lst 2 (some (st.length + 5)) [], .lst 1 (some (st.length + 6)) []]]) ++ [Ent.tip 40 0, Ent.tip 46 0, Ent.tip 3 0]) rfl ?_ ?_ ?_
  · simp only [gwL, gwB, gwD, gwE, gwS, gwTT, gwZ, gwN, gwC, Nat.reduceEqDiff, ↓reduceIte, Nat.reduceAdd, Nat.reduceLT, Nat.reduceLeDiff, Nat.reduceMul, Env.keep]
    exact wkE_refl _
  · exact ⟨_, (wkSt_refl _).append (wkSt_cons (Ent.wkp_refl _) (wkSt_cons (Ent.wkp_refl _) (wkSt_cons (Ent.wkp_refl _) (wkSt_cons (Ent.wk_box (wkL_cons (wk_tip _ (by simp [Tips])) (wkL_cons (wk_tip _ (by simp [Tips])) (wkL_cons (wk_tip _ (by simp [Tips])) wkL_nil)))) wkSt_nil)))), rfl⟩
  obtain ⟨S0, hS0⟩ : ∃ S0 : St, S0 = (st ++ [Ent.box [.lst 2 none (l.map encU)], Ent.box [.nils, .nils, .nils], Ent.box [.int .i64 0, .int .i64 0], Ent.box [.lst 3 (some (st.length + 4)) [], .lst 2 (some (st.length + 5)) [], .lst 1 (some (st.length + 6)) []]]) ++ [Ent.tip 40 0, Ent.tip 46 0, Ent.tip 3 0] := ⟨_, rfl⟩
  rw [← hS0]
  rw [List.append_assoc] at hS0
  have hS0l : S0.length = st.length + 7 := by rw [hS0]; simp
  have hL0 : LK S0 (st.length + 3) (st.length + 4) (st.length + 5) (st.length + 6) [] [] [] [] :=
    ⟨by rw [hS0, List.getElem?_append_right (by omega)]; simp [rowsB, rowsI], by rw [hS0, List.getElem?_append_right (by omega)]; simp, by rw [hS0, List.getElem?_append_right (by omega)]; simp, by rw [hS0, List.getElem?_append_right (by omega)]; simp, by simp only [wkRp, List.map_nil], by omega⟩
  have hA0 : S0[st.length]? = some (.box [lstU l]) := by rw [hS0, List.getElem?_append_right (Nat.le_refl _)]; simp [lstU]
  have hB0 : S0[st.length + 1]? = some (.box [.nils, .nils, .nils]) := by rw [hS0, List.getElem?_append_right (by omega)]; simp
  have hC0 : S0[st.length + 2]? = some (.box [.int .i64 0, .int .i64 0]) := by rw [hS0, List.getElem?_append_right (by omega)]; simp
  have pre : ∀ S : St, Ks (fun j => st.length + 3 ≤ j) S0 S → S = st ++ S.drop st.length := fun S hK => by rw [hS0] at hK; exact hK.pre fun j hj => by omega
  have hA : ∀ S : St, Ks (fun j => st.length + 3 ≤ j) S0 S → S[st.length]? = some (.box [lstU l]) := fun S hK => by rw [hK.2 _ (by omega) (by omega), hA0]
  have hB : ∀ S : St, Ks (fun j => st.length + 3 ≤ j) S0 S → S[st.length + 1]? = some (.box [.nils, .nils, .nils]) := fun S hK => by rw [hK.2 _ (by omega) (by omega), hB0]
  have hC : ∀ S : St, Ks (fun j => st.length + 3 ≤ j) S0 S → S[st.length + 2]? = some (.box [.int .i64 0, .int .i64 0]) := fun S hK => by rw [hK.2 _ (by omega) (by omega), hC0]
  have hr1 : ∀ (S : St) (X Y : Ent), st.length + 3 ≤ S.length → ((S.set (st.length + 1) X).set (st.length + 2) Y)[st.length + 1]? = some X := fun S X Y h => by rw [List.getElem?_set_ne (by omega), List.getElem?_set_self (by omega)]
  have hr2 : ∀ (S : St) (X Y : Ent), st.length + 3 ≤ S.length → ((S.set (st.length + 1) X).set (st.length + 2) Y)[st.length + 2]? = some Y := fun S X Y h => by rw [List.getElem?_set_self (by rw [List.length_set]; omega)]
  have hpr : ∀ (S : St) (X Y : Ent), S = st ++ S.drop st.length → (S.set (st.length + 1) X).set (st.length + 2) Y = st ++ ((S.drop st.length).set 1 X).set 2 Y := fun S X Y h => by
    rw [h, List.set_append_right _ _ (by omega), List.set_append_right _ _ (by omega)]
    simp
  refine vfor (σ := Nat × St × List Bind') [1, 2, 3, 4, 17, 18] (fun x => [(1, true, .ptr st.length 0), (2, true, .ptr (st.length + 1) 0), (3, true, .ptr (st.length + 2) 0), (4, true, .ptr (st.length + 3) 0), (17, true, .int .i64 l.length), (18, true, .int .i64 x.1)]) (fun x => x.2.1) (fun x => l.length - x.1) (fun x => x.1 ≤ l.length ∧ LK x.2.1 (st.length + 3) (st.length + 4) (st.length + 5) (st.length + 6) x.2.2 [] [] [] ∧ Ks (fun j => st.length + 3 ≤ j) S0 x.2.1 ∧ checkL l l 0 [] = checkL l (l.drop x.1) x.1 x.2.2 ∧ x.2.2.length ≤ 3000000 * x.1) (0, S0, []) rfl TT_ok ⟨Nat.zero_le _, hL0, Ks.refl _ _, rfl, by simp⟩ rfl rfl ?_
  rintro ⟨i, S, gl⟩ ⟨hi, hL, hK, hx, hn⟩
  simp only at hi hL hK hx hn ⊢
  have hSl := hK.1
  rcases at_or_end l i hi with ⟨hie, hd⟩ | ⟨u, hlt, hget, hdr⟩
  · have hie2 : i = l.length := hie
    subst hie2
    rw [hd, checkL] at hx
    have hrb : (rowsB gl).length = gl.length := by simp [rowsB]
    have hall : ∀ u ∈ l, UnitOk u := fun u hu => unit_ok (checkL_zero (by rw [hx]) u hu)
    have hSA := hA S hK
    simp only [gwL, gwB, gwD, gwE, gwS, gwTT, gwZ, gwN, gwC, Nat.reduceEqDiff, ↓reduceIte, Nat.reduceAdd, Nat.reduceLT, Nat.reduceLeDiff, Nat.reduceMul, lt_no, hL.box, hrb]
    refine iK_split (fun h5 => ?_) (fun h5 => ?_)
    · have hs2 : ∀ X, (S.set (st.length + 1) X)[st.length + 2]? = some (.box [.int .i64 0, .int .i64 0]) := fun X => by rw [List.getElem?_set_ne (by omega), hC S hK]
      have hq1 := fun X Y => hr1 S X Y (by have := hK.1; omega)
      have hq2 := fun X Y => hr2 S X Y (by have := hK.1; omega)
      simp only [gwL, gwB, gwD, gwE, gwS, gwTT, gwZ, gwN, gwC, Nat.reduceEqDiff, ↓reduceIte, Nat.reduceAdd, Nat.reduceLT, Nat.reduceLeDiff, Nat.reduceMul, hB S hK, hs2, hq1, hq2]
      rw [hpr S _ _ (pre S hK)]
      exact bad _ _ _ (by rw [← hr]; simp only [linkL, h1, hx, h5, cond_true, cond_false, decide_true, Bool.not_true])
    simp only [gwL, gwB, gwD, gwE, gwS, gwTT, gwZ, gwN, gwC, Nat.reduceEqDiff, ↓reduceIte, Nat.reduceAdd, Nat.reduceLT, Nat.reduceLeDiff, Nat.reduceMul, hSA, lstU, List.length_map]
    refine vfor (σ := Nat × St × List (List V) × List Pr × List Int) [1, 2, 3, 4, 59, 60] (fun x => [(1, true, .ptr st.length 0), (2, true, .ptr (st.length + 1) 0), (3, true, .ptr (st.length + 2) 0), (4, true, .ptr (st.length + 3) 0), (59, true, .int .i64 l.length), (60, true, .int .i64 x.1)]) (fun x => x.2.1) (fun x => l.length - x.1) (fun x => x.1 ≤ l.length ∧ LK x.2.1 (st.length + 3) (st.length + 4) (st.length + 5) (st.length + 6) gl x.2.2.1 x.2.2.2.1 x.2.2.2.2 ∧ Ks (fun j => st.length + 3 ≤ j) S0 x.2.1 ∧ unitsL gl l 0 [] [] = unitsL gl (l.drop x.1) x.1 x.2.2.2.1 x.2.2.2.2 ∧ x.2.2.2.1.length ≤ 500 * x.1 ∧ x.2.2.2.2.length = x.1) (0, S, [], [], []) rfl TT_ok ⟨Nat.zero_le _, hL, hK, rfl, by simp, rfl⟩ rfl rfl ?_
    clear hL hSl hSA hK
    rintro ⟨i, S, rows, ps, sts⟩ ⟨hi, hL, hK, hy, hn, hsn⟩
    simp only at hi hL hK hy hn hsn ⊢
    have hSl := hK.1
    rcases at_or_end l i hi with ⟨hie, hd⟩ | ⟨u, hlt, hget, hdr⟩
    · have hie2 : i = l.length := hie
      subst hie2
      rw [hd, unitsL] at hy
      simp only [gwL, gwB, gwD, gwE, gwS, gwTT, gwZ, gwN, gwC, Nat.reduceEqDiff, ↓reduceIte, Nat.reduceAdd, Nat.reduceLT, Nat.reduceLeDiff, Nat.reduceMul, lt_no, hL.box]
      have hs2 : ∀ X, (S.set (st.length + 1) X)[st.length + 2]? = some (.box [.int .i64 0, .int .i64 0]) := fun X => by rw [List.getElem?_set_ne (by omega), hC S hK]
      have hq1 := fun X Y => hr1 S X Y (by have := hK.1; omega)
      have hq2 := fun X Y => hr2 S X Y (by have := hK.1; omega)
      simp only [gwL, gwB, gwD, gwE, gwS, gwTT, gwZ, gwN, gwC, Nat.reduceEqDiff, ↓reduceIte, Nat.reduceAdd, Nat.reduceLT, Nat.reduceLeDiff, Nat.reduceMul, hB S hK, hs2, hq1, hq2, hL.box]
      rw [hpr S _ _ (pre S hK)]
      refine give _ _ _ _ _ ⟨gl, ps, sts⟩ _ (by rw [← hr]; simp only [linkL, h1, hx, h5, hy, cond_false, decide_true, Bool.not_true]) (wkL_cons (wk_tok _ _ _) (wkL_cons (wk_lst hL.rows) (wkL_cons (wk_tok _ _ _) wkL_nil)))
    · have hgu : (l.map encU).getD i [] = encU u := getD_map hget
      have w : IntKind.i64.wrap ((i : Int) + 1) = ((i + 1 : Nat) : Int) := next_i64 hlt (by omega)
      rw [hdr, unitsL] at hy
      have hok := hall u (List.mem_of_getElem? hget)
      have hSA := hA S hK
      simp only [gwL, gwB, gwD, gwE, gwS, gwTT, gwZ, gwN, gwC, Nat.reduceEqDiff, ↓reduceIte, Nat.reduceAdd, Nat.reduceLT, Nat.reduceLeDiff, Nat.reduceMul, lt_yes hlt, hSA, lstU, hgu, Int.toNat_natCast, Int.ofNat_lt.mpr hlt, List.length_map]
      refine useQ (c_unit S (st.length + 3) (st.length + 4) (st.length + 5) (st.length + 6) gl rows ps sts u hL hok.few.2 (fun q hq => (hok.form q hq).2.1) (fun q hq x hx h3 => goodD_small _ (hok.quote q hq x hx h3)) (by omega) (by omega)) (wkL_refl _) (by rintro v s' ⟨h, _⟩; cases h) ?_
      rintro X S2 hX ⟨hX', ⟨rows2, h2L⟩, h2K'⟩
      cases hX'
      have hpl := protosL_len gl u.name ps.length u.protos ps
      have hfew := hok.few
      generalize protosL gl u.name ps.length u.protos ps = gg at hy h2L hpl ⊢
      obtain ⟨p2, ge⟩ := gg
      simp only at hy h2L hpl ⊢
      have h2K : Ks (fun j => st.length + 3 ≤ j) S0 S2 := hK.trans (h2K'.mono fun j hj => by rcases hj with h | h | h <;> omega)
      simp only [gwL, gwB, gwD, gwE, gwS, gwTT, gwZ, gwN, gwC, Nat.reduceEqDiff, ↓reduceIte, Nat.reduceAdd, Nat.reduceLT, Nat.reduceLeDiff, Nat.reduceMul]
      refine iK_split (fun h4 => ?_) (fun h4 => ?_)
      · rw [h4] at hy
        simp only [cond_true] at hy
        have hs2 : ∀ X, (S2.set (st.length + 1) X)[st.length + 2]? = some (.box [.int .i64 0, .int .i64 0]) := fun X => by rw [List.getElem?_set_ne (by omega), hC S2 h2K]
        have hq1 := fun X Y => hr1 S2 X Y (by have := h2K.1; omega)
        have hq2 := fun X Y => hr2 S2 X Y (by have := h2K.1; omega)
        simp only [gwL, gwB, gwD, gwE, gwS, gwTT, gwZ, gwN, gwC, Nat.reduceEqDiff, ↓reduceIte, Nat.reduceAdd, Nat.reduceLT, Nat.reduceLeDiff, Nat.reduceMul, hB S2 h2K, hs2, hq1, hq2]
        rw [hpr S2 _ _ (pre S2 h2K)]
        exact bad _ _ _ (by rw [← hr]; simp only [linkL, h1, hx, h5, hy, h4, cond_true, cond_false, decide_true, Bool.not_true])
      · rw [h4] at hy
        simp only [cond_false] at hy
        simp only [gwL, gwB, gwD, gwE, gwS, gwTT, gwZ, gwN, gwC, Nat.reduceEqDiff, ↓reduceIte, Nat.reduceAdd, Nat.reduceLT, Nat.reduceLeDiff, Nat.reduceMul, w, Env.keep]
        exact ⟨(i + 1, S2, rows2, p2, sts ++ [(ps.length : Int)]), rfl, rfl, by simp only; omega, by simp only; omega, h2L, h2K, hy, by simp only; omega, by simp [hsn]⟩
  · have hgu : (l.map encU).getD i [] = encU u := getD_map hget
    have w : IntKind.i64.wrap ((i : Int) + 1) = ((i + 1 : Nat) : Int) := next_i64 hlt (by omega)
    rw [hdr, checkL] at hx
    have hSA := hA S hK
    obtain ⟨S1, hS1⟩ : ∃ S1 : St, S1 = S ++ [Ent.box [.int .i64 i]] := ⟨_, rfl⟩
    have h1K : Ks (fun j => st.length + 3 ≤ j) S0 S1 := by rw [hS1]; exact hK.trans ⟨by simp, fun j hj _ => st_old hj⟩
    have h1A := hA S1 h1K
    have h15 : S1[S.length]? = some (.box [.int .i64 i]) := by rw [hS1]; simp
    have h1L : LK S1 (st.length + 3) (st.length + 4) (st.length + 5) (st.length + 6) gl [] [] [] := by rw [hS1]; exact hL.app _
    simp only [gwL, gwB, gwD, gwE, gwS, gwTT, gwZ, gwN, gwC, Nat.reduceEqDiff, ↓reduceIte, Nat.reduceAdd, Nat.reduceLT, Nat.reduceLeDiff, Nat.reduceMul, lt_yes hlt, ← hS1]
    simp only [gwL, gwB, gwD, gwE, gwS, gwTT, gwZ, gwN, gwC, Nat.reduceEqDiff, ↓reduceIte, Nat.reduceAdd, Nat.reduceLT, Nat.reduceLeDiff, Nat.reduceMul, h1A, h15, lstU, hgu, Int.toNat_natCast, Int.ofNat_lt.mpr hlt, List.length_map, encU_len, encU_take, Nat.le_refl]
    refine (c_object_Wrong u _).use (wkL_refl _) fun _ => ?_
    have hcf := c_ContainsFunc S1 (l.take i) 15 [.ptr st.length 0, .ptr S.length 0] (fun o => decide (o.name = u.name)) (fun a _ => c_nameIs S1 st.length S.length l i a u h1A h15 hget)
    simp only [lstU, List.map_take] at hcf
    simp only [gwL, gwB, gwD, gwE, gwS, gwTT, gwZ, gwN, gwC, Nat.reduceEqDiff, ↓reduceIte, Nat.reduceAdd, Nat.reduceLT, Nat.reduceLeDiff, Nat.reduceMul, h1A, h15, lstU, Int.toNat_natCast, List.length_map]
    refine ⟨fun _ => by omega, ?_⟩
    refine rK_guarded (.bool ((l.take i).any fun o => decide (o.name = u.name))) (fun _ => hcf) ?_
    simp only [gwL, gwB, gwD, gwE, gwS, gwTT, gwZ, gwN, gwC, Nat.reduceEqDiff, ↓reduceIte, Nat.reduceAdd, Nat.reduceLT, Nat.reduceLeDiff, Nat.reduceMul]
    refine iK_split (fun h2 => ?_) (fun h2 => ?_)
    · have he : errL l i u = 7 := by simp only [errL, h2, cond_true]
      rw [he] at hx
      simp only [Int.reduceEq, decide_false, cond_false] at hx
      simp only [gwL, gwB, gwD, gwE, gwS, gwTT, gwZ, gwN, gwC, Nat.reduceEqDiff, ↓reduceIte, Nat.reduceAdd, Nat.reduceLT, Nat.reduceLeDiff, Nat.reduceMul, Int.reduceEq, Bool.not_false]
      try simp only [gwL, gwB, gwD, gwE, gwS, gwTT, gwZ, gwN, gwC, Nat.reduceEqDiff, ↓reduceIte, Nat.reduceAdd, Nat.reduceLT, Nat.reduceLeDiff, Nat.reduceMul]
      have hKm : Ks (fun j => st.length + 3 ≤ j) S0 (S1.set S.length .gone) := h1K.trans ⟨by simp, fun j hj hx => by rw [List.getElem?_set_ne (by omega)]⟩
      generalize hSm : S1.set S.length .gone = Sm at hKm
      refine vmelt 5 S.length _ rfl h15 ?_
      rw [hSm]
      simp only [gwL, gwB, gwD, gwE, gwS, gwTT, gwZ, gwN, gwC, Nat.reduceEqDiff, ↓reduceIte, Nat.reduceAdd, Nat.reduceLT, Nat.reduceLeDiff, Nat.reduceMul, meltE]
      refine vdraw TT_ok TT_mixed [0, 0, 0, 0, 2, 2] (by kernel_rfl) ?_
      have hs2 : ∀ X, (Sm.set (st.length + 1) X)[st.length + 2]? = some (.box [.int .i64 0, .int .i64 0]) := fun X => by rw [List.getElem?_set_ne (by omega), hC Sm hKm]
      have hq1 := fun X Y => hr1 Sm X Y (by have := hKm.1; omega)
      have hq2 := fun X Y => hr2 Sm X Y (by have := hKm.1; omega)
      simp only [gwL, gwB, gwD, gwE, gwS, gwTT, gwZ, gwN, gwC, Nat.reduceEqDiff, ↓reduceIte, Nat.reduceAdd, Nat.reduceLT, Nat.reduceLeDiff, Nat.reduceMul, hB Sm hKm, hs2, hq1, hq2]
      rw [hpr Sm _ _ (pre Sm hKm)]
      exact bad _ _ _ (by rw [← hr]; simp only [linkL, h1, hx, cond_true, cond_false, Int.reduceEq, decide_false, Bool.not_false])
    have he : errL l i u = unitE u := by simp only [errL, h2, cond_false]
    rw [he] at hx
    simp only [gwL, gwB, gwD, gwE, gwS, gwTT, gwZ, gwN, gwC, Nat.reduceEqDiff, ↓reduceIte, Nat.reduceAdd, Nat.reduceLT, Nat.reduceLeDiff, Nat.reduceMul]
    refine iK_split (fun h3 => ?_) (fun h3 => ?_)
    · have hok := unit_ok (of_decide_eq_true h3)
      rw [h3] at hx
      simp only [cond_true] at hx
      simp only [gwL, gwB, gwD, gwE, gwS, gwTT, gwZ, gwN, gwC, Nat.reduceEqDiff, ↓reduceIte, Nat.reduceAdd, Nat.reduceLT, Nat.reduceLeDiff, Nat.reduceMul, h1A, h15, lstU, hgu, Int.toNat_natCast, Int.ofNat_lt.mpr hlt, List.length_map]
      refine useQ (c_globals S1 (st.length + 3) (st.length + 4) (st.length + 5) (st.length + 6) gl [] [] [] u h1L hok.few.2 (fun q hq => (hok.form q hq).2.1) (by omega)) (wkL_refl _) (by rintro v s' ⟨h, _⟩; cases h) ?_
      rintro X S2 hX ⟨hX', h2L, h2K'⟩
      cases hX'
      have hgl := globP_len u.name u.protos gl (fun q hq => (hok.form q hq).2.1)
      have hfew := hok.few
      generalize globP u.name u.protos gl = gg at hx h2L hgl ⊢
      obtain ⟨ge, g2⟩ := gg
      simp only at hx h2L hgl ⊢
      have h2K : Ks (fun j => st.length + 3 ≤ j) S0 S2 := h1K.trans (h2K'.mono fun j hj => by omega)
      have hS1l : S1.length = S.length + 1 := by rw [hS1]; simp
      have h25 : S2[S.length]? = some (.box [.int .i64 i]) := by rw [h2K'.2 _ (by omega) (by omega), h15]
      simp only [gwL, gwB, gwD, gwE, gwS, gwTT, gwZ, gwN, gwC, Nat.reduceEqDiff, ↓reduceIte, Nat.reduceAdd, Nat.reduceLT, Nat.reduceLeDiff, Nat.reduceMul]
      refine iK_split (fun h4 => ?_) (fun h4 => ?_)
      · rw [h4] at hx
        simp only [cond_true] at hx
        try simp only [gwL, gwB, gwD, gwE, gwS, gwTT, gwZ, gwN, gwC, Nat.reduceEqDiff, ↓reduceIte, Nat.reduceAdd, Nat.reduceLT, Nat.reduceLeDiff, Nat.reduceMul]
        have hKm : Ks (fun j => st.length + 3 ≤ j) S0 (S2.set S.length .gone) := h2K.trans ⟨by simp, fun j hj hx => by rw [List.getElem?_set_ne (by omega)]⟩
        generalize hSm : S2.set S.length .gone = Sm at hKm
        refine vmelt 5 S.length _ rfl h25 ?_
        rw [hSm]
        simp only [gwL, gwB, gwD, gwE, gwS, gwTT, gwZ, gwN, gwC, Nat.reduceEqDiff, ↓reduceIte, Nat.reduceAdd, Nat.reduceLT, Nat.reduceLeDiff, Nat.reduceMul, meltE]
        refine vdraw TT_ok TT_mixed [0, 0, 0, 0, 2, 2] (by kernel_rfl) ?_
        have hs2 : ∀ X, (Sm.set (st.length + 1) X)[st.length + 2]? = some (.box [.int .i64 0, .int .i64 0]) := fun X => by rw [List.getElem?_set_ne (by omega), hC Sm hKm]
        have hq1 := fun X Y => hr1 Sm X Y (by have := hKm.1; omega)
        have hq2 := fun X Y => hr2 Sm X Y (by have := hKm.1; omega)
        simp only [gwL, gwB, gwD, gwE, gwS, gwTT, gwZ, gwN, gwC, Nat.reduceEqDiff, ↓reduceIte, Nat.reduceAdd, Nat.reduceLT, Nat.reduceLeDiff, Nat.reduceMul, hB Sm hKm, hs2, hq1, hq2]
        rw [hpr Sm _ _ (pre Sm hKm)]
        exact bad _ _ _ (by rw [← hr]; simp only [linkL, h1, hx, h4, cond_true, cond_false])
      · rw [h4] at hx
        simp only [cond_false] at hx
        simp only [gwL, gwB, gwD, gwE, gwS, gwTT, gwZ, gwN, gwC, Nat.reduceEqDiff, ↓reduceIte, Nat.reduceAdd, Nat.reduceLT, Nat.reduceLeDiff, Nat.reduceMul, w, Env.keep]
        exact ⟨(i + 1, S2, g2), rfl, rfl, by simp only; omega, by simp only; omega, h2L, h2K, hx, by simp only; omega⟩
    · rw [h3] at hx
      simp only [cond_false] at hx
      simp only [gwL, gwB, gwD, gwE, gwS, gwTT, gwZ, gwN, gwC, Nat.reduceEqDiff, ↓reduceIte, Nat.reduceAdd, Nat.reduceLT, Nat.reduceLeDiff, Nat.reduceMul, h3, Bool.not_false]
      try simp only [gwL, gwB, gwD, gwE, gwS, gwTT, gwZ, gwN, gwC, Nat.reduceEqDiff, ↓reduceIte, Nat.reduceAdd, Nat.reduceLT, Nat.reduceLeDiff, Nat.reduceMul]
      have hKm : Ks (fun j => st.length + 3 ≤ j) S0 (S1.set S.length .gone) := h1K.trans ⟨by simp, fun j hj hx => by rw [List.getElem?_set_ne (by omega)]⟩
      generalize hSm : S1.set S.length .gone = Sm at hKm
      refine vmelt 5 S.length _ rfl h15 ?_
      rw [hSm]
      simp only [gwL, gwB, gwD, gwE, gwS, gwTT, gwZ, gwN, gwC, Nat.reduceEqDiff, ↓reduceIte, Nat.reduceAdd, Nat.reduceLT, Nat.reduceLeDiff, Nat.reduceMul, meltE]
      refine vdraw TT_ok TT_mixed [0, 0, 0, 0, 2, 2] (by kernel_rfl) ?_
      have hs2 : ∀ X, (Sm.set (st.length + 1) X)[st.length + 2]? = some (.box [.int .i64 0, .int .i64 0]) := fun X => by rw [List.getElem?_set_ne (by omega), hC Sm hKm]
      have hq1 := fun X Y => hr1 Sm X Y (by have := hKm.1; omega)
      have hq2 := fun X Y => hr2 Sm X Y (by have := hKm.1; omega)
      simp only [gwL, gwB, gwD, gwE, gwS, gwTT, gwZ, gwN, gwC, Nat.reduceEqDiff, ↓reduceIte, Nat.reduceAdd, Nat.reduceLT, Nat.reduceLeDiff, Nat.reduceMul, hB Sm hKm, hs2, hq1, hq2]
      rw [hpr Sm _ _ (pre Sm hKm)]
      exact bad _ _ _ (by rw [← hr]; simp only [linkL, h1, hx, h3, cond_true, cond_false, Bool.not_false])
end Go.Proofs.Ytlblgbfpdlfedaa.Gx

namespace Go.Proofs.Ytlblgbfpdlfedaa.Gx
open Go Go.Proofs.Ytlblgbfpdlfedaa.Gw
set_option linter.unusedSimpArgs false
set_option linter.unusedVariables false

set_option maxRecDepth 20000 in
set_option maxHeartbeats 4000000 in
theorem c_SameImage (x : Im) (st : St) : VCalls Try.prog TT 9 [.agg (encIm x), .agg (encIm x)] st fun r st' => r = .ret (.bool true) ∧ st' = st := by
  refine vfun TT_ok (an := anL [(2, 1), (3, 1)]) (L := [0, 1, 2, 3, 4, 5, 6, 33, 34, 51, 52]) (rs := [.tmp 4]) Try.func9 rfl (by kernel_rfl) rfl Try.ntmps9 rfl rfl (Nat.le_refl _) fun hst ha hf => ?_
  obtain ⟨gl, ps, sts⟩ := x
  simp only [encIm, fitL, V.fit, rowsB, rowsI, List.length_map] at hf ⊢
  have d1 : decide ((gl.length : Int) = (gl.length : Int)) = true := by simp
  have d2 : decide ((sts.length : Int) = (sts.length : Int)) = true := by simp
  simp only [gwL, gwB, gwD, gwE, gwS, gwTT, gwZ, gwN, gwC, Nat.reduceEqDiff, ↓reduceIte, Nat.reduceAdd, Nat.reduceLT, Nat.reduceLeDiff, Nat.reduceMul, List.length_map, d1, d2, Bool.not_true, Bool.not_false, Bool.or_self]
  refine rK_made (c_SameProtos ps ps _) (wkL_refl _) ?_
  rw [samePs_self]
  simp only [gwL, gwB, gwD, gwE, gwS, gwTT, gwZ, gwN, gwC, Nat.reduceEqDiff, ↓reduceIte, Nat.reduceAdd, Nat.reduceLT, Nat.reduceLeDiff, Nat.reduceMul, Bool.not_true, Bool.or_self, List.length_map]
  refine vfor (σ := Nat) [2, 3, 4, 33, 34] (fun i => [(2, true, .ref [.lst 3 none (gl.map encB), lstPr ps, .lst 1 none (sts.map fun n => [V.int .i64 n])]), (3, true, .ref [.lst 3 none (gl.map encB), lstPr ps, .lst 1 none (sts.map fun n => [V.int .i64 n])]), (4, true, .bool false), (33, true, .int .i64 gl.length), (34, true, .int .i64 i)]) (fun i => st) (fun i => gl.length - i) (fun i => i ≤ gl.length) 0 rfl TT_ok (Nat.zero_le _) rfl rfl ?_
  intro i hi
  rcases at_or_end gl i hi with ⟨hie, hd⟩ | ⟨u, hlt, hget, hdr⟩
  · have hie2 : i = gl.length := hie
    subst hie2
    simp only [gwL, gwB, gwD, gwE, gwS, gwTT, gwZ, gwN, gwC, Nat.reduceEqDiff, ↓reduceIte, Nat.reduceAdd, Nat.reduceLT, Nat.reduceLeDiff, Nat.reduceMul, lt_no, List.length_map]
    refine vfor (σ := Nat) [2, 3, 4, 51, 52] (fun i => [(2, true, .ref [.lst 3 none (gl.map encB), lstPr ps, .lst 1 none (sts.map fun n => [V.int .i64 n])]), (3, true, .ref [.lst 3 none (gl.map encB), lstPr ps, .lst 1 none (sts.map fun n => [V.int .i64 n])]), (4, true, .bool false), (51, true, .int .i64 sts.length), (52, true, .int .i64 i)]) (fun i => st) (fun i => sts.length - i) (fun i => i ≤ sts.length) 0 rfl TT_ok (Nat.zero_le _) rfl rfl ?_
    intro i hi
    rcases at_or_end sts i hi with ⟨hie, hd⟩ | ⟨u, hlt, hget, hdr⟩
    · have hie2 : i = sts.length := hie
      subst hie2
      simp only [gwL, gwB, gwD, gwE, gwS, gwTT, gwZ, gwN, gwC, Nat.reduceEqDiff, ↓reduceIte, Nat.reduceAdd, Nat.reduceLT, Nat.reduceLeDiff, Nat.reduceMul, lt_no]
      exact gives_bool rfl hst
    · have hg : (sts.map fun n => [V.int .i64 n]).getD i [] = [V.int .i64 u] := getD_map (f := fun n => [V.int .i64 n]) hget
      have w : IntKind.i64.wrap ((i : Int) + 1) = ((i + 1 : Nat) : Int) := next_i64 hlt (by omega)
      have du : decide (u = u) = true := by simp
      simp only [gwL, gwB, gwD, gwE, gwS, gwTT, gwZ, gwN, gwC, Nat.reduceEqDiff, ↓reduceIte, Nat.reduceAdd, Nat.reduceLT, Nat.reduceLeDiff, Nat.reduceMul, lt_yes hlt]
      refine vdraw TT_ok TT_mixed [0, 1, 0, 0, 1, 0, 1, 0, 0, 1, 0] (by kernel_rfl) ?_
      simp only [gwL, gwB, gwD, gwE, gwS, gwTT, gwZ, gwN, gwC, Nat.reduceEqDiff, ↓reduceIte, Nat.reduceAdd, Nat.reduceLT, Nat.reduceLeDiff, Nat.reduceMul, hg, List.length_map, Int.ofNat_lt.mpr hlt, Int.toNat_natCast, du, Bool.not_true, w, Env.keep]
      exact ⟨i + 1, rfl, by omega, hlt⟩
  · have hg : (gl.map encB).getD i [] = encB u := getD_map hget
    have w : IntKind.i64.wrap ((i : Int) + 1) = ((i + 1 : Nat) : Int) := next_i64 hlt (by omega)
    obtain ⟨uh, ul, uo⟩ := u
    have du : ∀ s : Str, decide (s = s) = true := fun s => by simp
    simp only [gwL, gwB, gwD, gwE, gwS, gwTT, gwZ, gwN, gwC, Nat.reduceEqDiff, ↓reduceIte, Nat.reduceAdd, Nat.reduceLT, Nat.reduceLeDiff, Nat.reduceMul, lt_yes hlt]
    refine vdraw TT_ok TT_mixed [0, 1, 0, 0, 1, 0, 1, 0, 0, 1, 0] (by kernel_rfl) ?_
    simp only [gwL, gwB, gwD, gwE, gwS, gwTT, gwZ, gwN, gwC, Nat.reduceEqDiff, ↓reduceIte, Nat.reduceAdd, Nat.reduceLT, Nat.reduceLeDiff, Nat.reduceMul, hg, encB, List.length_map, Int.ofNat_lt.mpr hlt, Int.toNat_natCast, du, Bool.and_self, Bool.not_true, w, Env.keep]
    exact ⟨i + 1, rfl, by omega, hlt⟩
set_option maxRecDepth 20000 in
set_option maxHeartbeats 4000000 in
theorem c_LinkTells (l : List Unit') (st : St) : VCalls Try.prog TT 3 [lstU l] st fun r st' => r = .ret (.bool true) ∧ st' = st := by
  refine vfun TT_ok (an := anL []) (L := [0, 2, 3, 4, 5, 6]) (rs := [.tmp 2]) Try.func3 rfl (by kernel_rfl) rfl Try.ntmps3 rfl rfl (Nat.le_refl _) fun hst ha hf => ?_
  simp only [gwL, gwB, gwD, gwE, gwS, gwTT, gwZ, gwN, gwC, Nat.reduceEqDiff, ↓reduceIte, Nat.reduceAdd, Nat.reduceLT, Nat.reduceLeDiff, Nat.reduceMul]
  refine (c_Link l _).use (wkL_refl _) fun _ => ?_
  generalize hr : linkL l = r
  obtain ⟨im, e, i⟩ := r
  have hel : (encIm im).length = 3 := rfl
  have het : (encIm im).take 3 = encIm im := rfl
  have hed : (encIm im).drop 3 = [] := rfl
  simp only [gwL, gwB, gwD, gwE, gwS, gwTT, gwZ, gwN, gwC, Nat.reduceEqDiff, ↓reduceIte, Nat.reduceAdd, Nat.reduceLT, Nat.reduceLeDiff, Nat.reduceMul, linkV, fltV, hel, het, hed, Nat.le_refl]
  refine (c_ref8_Link l _).use (wkL_refl _) fun _ => ?_
  rw [hr]
  have d1 : ∀ n : Int, decide (n = n) = true := fun n => by simp
  simp only [gwL, gwB, gwD, gwE, gwS, gwTT, gwZ, gwN, gwC, Nat.reduceEqDiff, ↓reduceIte, Nat.reduceAdd, Nat.reduceLT, Nat.reduceLeDiff, Nat.reduceMul, linkV, fltV, hel, het, hed, Nat.le_refl, d1, Bool.and_self]
  refine rK_made (c_SameImage im _) (wkL_refl _) ?_
  simp only [gwL, gwB, gwD, gwE, gwS, gwTT, gwZ, gwN, gwC, Nat.reduceEqDiff, ↓reduceIte, Nat.reduceAdd, Nat.reduceLT, Nat.reduceLeDiff, Nat.reduceMul, Bool.and_self]
  exact gives_bool' rfl hst
end Go.Proofs.Ytlblgbfpdlfedaa.Gx

namespace Go.Proofs.Ytlblgbfpdlfedaa.Gx
open Go Go.Proofs.Ytlblgbfpdlfedaa.Gw
set_option linter.unusedSimpArgs false
set_option linter.unusedVariables false

def unitN (nm : Str) : Unit' := ⟨nm, [⟨0, [{ op := 1, n := 5 }, { op := 13, lib := nm, own := [120] }, { op := 14 }, { op := 15 }]⟩]⟩
theorem encU_lt (n : Nat) (u : Unit') : ltL n (encU u) := ⟨trivial, lstPr_lt _ _, trivial⟩
set_option maxHeartbeats 2000000 in
theorem c_unitN (nm : Str) (st : St) : VCalls Try.prog TT 22 [.str nm] st fun r st' => r = .ret (.agg (encU (unitN nm))) ∧ st' = st := by
  refine vfun TT_ok (an := anL []) (L := [0, 2]) (rs := [.cell 2 37]) Try.func22 rfl (by kernel_rfl) rfl Try.ntmps22 rfl rfl (Nat.le_refl _) fun hst ha hf => ?_
  simp only [gwL, gwB, gwD, gwE, gwS, gwTT, gwZ, gwN, gwC, Nat.reduceEqDiff, ↓reduceIte, Nat.reduceAdd, Nat.reduceLT, Nat.reduceLeDiff, Nat.reduceMul]
  refine gives_of (wk_agg ?_) (wkSt_refl _) (by simp only [V.lt]; exact encU_lt _ _) hst
  simp only [encU, unitN, lstPr, List.map_cons, List.map_nil, encPr, lstI]
  refine wkL_cons (wk_refl _) (wkL_cons (wk_lst ?_) wkL_nil)
  simp only [wkRp]
  refine ⟨_, _, rfl, wkL_cons (wk_refl _) (wkL_cons (wk_lst ?_) wkL_nil), rfl⟩
  simp only [wkRp]
  exact ⟨_, _, rfl, wk_ins .., _, _, rfl, wk_ins .., _, _, rfl, wk_ins .., _, _, rfl, wk_ins .., rfl⟩
def aliveIm : Im := ⟨[⟨[], [109], [120]⟩, ⟨[], [110], [120]⟩], [⟨0, [{ op := 1, n := 5 }, { op := 13, a := 0 }, { op := 14 }, { op := 15 }]⟩, ⟨0, [{ op := 1, n := 5 }, { op := 13, a := 1 }, { op := 14 }, { op := 15 }]⟩], [0, 1]⟩
theorem alive_im : linkL [unitN [109], unitN [110]] = (aliveIm, 0, 0) := by
  rfl
set_option maxHeartbeats 4000000 in
theorem c_linkAlive (st : St) : VCalls Try.prog TT 10 [] st fun r st' => r = .ret (.bool true) ∧ st' = st := by
  refine vfun TT_ok (an := anL []) (L := [0, 1, 2]) (rs := [.tmp 0]) Try.func10 rfl (by kernel_rfl) rfl Try.ntmps10 rfl rfl (Nat.le_refl _) fun hst ha hf => ?_
  simp only [gwL, gwB, gwD, gwE, gwS, gwTT, gwZ, gwN, gwC, Nat.reduceEqDiff, ↓reduceIte, Nat.reduceAdd, Nat.reduceLT, Nat.reduceLeDiff, Nat.reduceMul]
  refine (c_unitN [109] _).use (wkL_refl _) fun _ => ?_
  simp only [gwL, gwB, gwD, gwE, gwS, gwTT, gwZ, gwN, gwC, Nat.reduceEqDiff, ↓reduceIte, Nat.reduceAdd, Nat.reduceLT, Nat.reduceLeDiff, Nat.reduceMul]
  refine (c_unitN [110] _).use (wkL_refl _) fun _ => ?_
  simp only [gwL, gwB, gwD, gwE, gwS, gwTT, gwZ, gwN, gwC, Nat.reduceEqDiff, ↓reduceIte, Nat.reduceAdd, Nat.reduceLT, Nat.reduceLeDiff, Nat.reduceMul, encU_len, encU_take]
  refine (c_Link [unitN [109], unitN [110]] _).use (wkL_refl _) fun _ => ?_
  rw [alive_im]
  have g0 : ∀ {α : Type} (x y : α) (l : List α) (d : α), (x :: y :: l).getD (Int.toNat 1) d = y := fun _ _ _ _ => rfl
  simp only [gwL, gwB, gwD, gwE, gwS, gwTT, gwZ, gwN, gwC, Nat.reduceEqDiff, ↓reduceIte, Nat.reduceAdd, Nat.reduceLT, Nat.reduceLeDiff, Nat.reduceMul, linkV, encIm, fltV, aliveIm, rowsB, rowsI, lstPr, encPr, lstI, encI, g0, Int.reduceEq, Int.reduceLT, Int.reduceLE]
  exact ⟨fun _ => by decide, fun _ => by decide, fun _ => by decide, gives_bool' (by decide) hst⟩
end Go.Proofs.Ytlblgbfpdlfedaa.Gx

namespace Go.Proofs.Ytlblgbfpdlfedaa.Gx
open Go Go.Proofs.Ytlblgbfpdlfedaa.Gw
set_option linter.unusedSimpArgs false
set_option linter.unusedVariables false

theorem linkV_lt (n : Nat) (r : Im × Int × Int) : (linkV r).lt n := by
  simp only [linkV, fltV, encIm, V.lt, ltL, and_true, true_and]
  exact ⟨⟨fun e h => (by cases h), ltRows_map fun x _ => ⟨trivial, trivial, trivial, trivial⟩⟩, lstPr_lt _ _, ⟨fun e h => (by cases h), ltRows_map fun x _ => ⟨trivial, trivial⟩⟩⟩
set_option maxRecDepth 20000 in
set_option maxHeartbeats 8000000 in
theorem c_LinkAhead (l m : List Unit') (st : St) (hl9 : l.length ≤ 100000000) (hm9 : m.length ≤ 100000000) : VCalls Try.prog TT 5 [lstU l, lstU m] st fun r st' => r = .ret (.bool true) ∧ st' = st := by
  refine vfun TT_ok (an := anL [(19, 1)]) (L := [0, 1, 4, 5, 6, 7, 8, 9, 10, 64, 65]) (rs := [.tmp 4]) Try.func5 rfl (by kernel_rfl) rfl Try.ntmps5 rfl rfl (Nat.le_refl _) fun hst ha hf => ?_
  simp only [lstU]
  simp only [gwL, gwB, gwD, gwE, gwS, gwTT, gwZ, gwN, gwC, Nat.reduceEqDiff, ↓reduceIte, Nat.reduceAdd, Nat.reduceLT, Nat.reduceLeDiff, Nat.reduceMul]
  refine (c_linkAlive _).use (wkL_refl _) fun _ => ?_
  simp only [gwL, gwB, gwD, gwE, gwS, gwTT, gwZ, gwN, gwC, Nat.reduceEqDiff, ↓reduceIte, Nat.reduceAdd, Nat.reduceLT, Nat.reduceLeDiff, Nat.reduceMul]
  refine (c_Link l _).use (wkL_refl _) fun _ => ?_
  simp only [gwL, gwB, gwD, gwE, gwS, gwTT, gwZ, gwN, gwC, Nat.reduceEqDiff, ↓reduceIte, Nat.reduceAdd, Nat.reduceLT, Nat.reduceLeDiff, Nat.reduceMul, linkV, encIm, fltV, List.length_map]
  refine ⟨by omega, by omega, ?_⟩
  refine (c_Link (l ++ m) _).use (wkL_cons (by rw [← List.map_append]; exact wk_tok ..) wkL_nil) fun _ => ?_
  have hLaw := @link_ahead l m
  have hLaw2 := @link_gl l
  generalize linkL l = ra at *
  generalize linkL (l ++ m) = rb at *
  obtain ⟨⟨ga, pa, sa⟩, ea, ia⟩ := ra
  obtain ⟨⟨gb, pb, sb⟩, eb, ib⟩ := rb
  simp only at hLaw hLaw2 ⊢
  simp only [gwL, gwB, gwD, gwE, gwS, gwTT, gwZ, gwN, gwC, Nat.reduceEqDiff, ↓reduceIte, Nat.reduceAdd, Nat.reduceLT, Nat.reduceLeDiff, Nat.reduceMul, linkV, encIm, fltV]
  refine iK_split (fun h1 => ?_) (fun h1 => ?_)
  · simp only [gwL, gwB, gwD, gwE, gwS, gwTT, gwZ, gwN, gwC, Nat.reduceEqDiff, ↓reduceIte, Nat.reduceAdd, Nat.reduceLT, Nat.reduceLeDiff, Nat.reduceMul]
    exact gives_bool' rfl hst
  simp only [Bool.or_eq_false_iff, Bool.not_eq_false', decide_eq_true_eq] at h1
  have hga := hLaw2 h1.1
  obtain ⟨e1, e2, rfl, rfl⟩ := hLaw h1.1 h1.2
  have d1 : decide (((pa ++ e2).length : Int) < (pa.length : Int)) = false := decide_eq_false (by rw [List.length_append]; omega)
  have d2 : decide (((rowsB (ga ++ e1)).length : Int) < ((rowsB ga).length : Int)) = false := decide_eq_false (by simp [rowsB]; omega)
  have htk : List.take pa.length ((pa ++ e2).map encPr) = pa.map encPr := by rw [← List.map_take]; simp
  simp only [gwL, gwB, gwD, gwE, gwS, gwTT, gwZ, gwN, gwC, Nat.reduceEqDiff, ↓reduceIte, Nat.reduceAdd, Nat.reduceLT, Nat.reduceLeDiff, Nat.reduceMul, lstPr, List.length_map]
  refine vdraw TT_ok TT_mixed [0, 1, 0, 0, 0, 0, 0, 1, 0, 0, 1, 0, 0, 0, 0, 0, 1, 0, 1, 0, 0, 0, 0, 0] (by kernel_rfl) ?_
  simp only [gwL, gwB, gwD, gwE, gwS, gwTT, gwZ, gwN, gwC, Nat.reduceEqDiff, ↓reduceIte, Nat.reduceAdd, Nat.reduceLT, Nat.reduceLeDiff, Nat.reduceMul, lstPr, List.length_map, d1, d2, htk, Bool.not_false, Bool.or_self, Bool.false_or, Int.toNat_natCast]
  refine ⟨by rw [List.length_append]; omega, eK_free (fun s => c_SameProtos pa pa s) (wkL_refl _) ?_⟩
  rw [samePs_self]
  simp only [gwL, gwB, gwD, gwE, gwS, gwTT, gwZ, gwN, gwC, Nat.reduceEqDiff, ↓reduceIte, Nat.reduceAdd, Nat.reduceLT, Nat.reduceLeDiff, Nat.reduceMul, Bool.not_true]
  obtain ⟨S0, hS0⟩ : ∃ S0 : St, S0 = st ++ [Ent.box [.lst 3 none (rowsB ga), .lst 2 none (pa.map encPr), .lst 1 none (rowsI sa)], Ent.box [.int .i64 ea, .int .i64 ia], Ent.tip 37 (l.length + m.length), Ent.box [.lst 3 none (rowsB (ga ++ e1)), .lst 2 none ((pa ++ e2).map encPr), .lst 1 none (rowsI sb)], Ent.box [.int .i64 eb, .int .i64 ib]] := ⟨_, rfl⟩
  rw [← hS0]
  have h5 : S0[st.length]? = some (.box [.lst 3 none (rowsB ga), .lst 2 none (pa.map encPr), .lst 1 none (rowsI sa)]) := by rw [hS0]; simp
  have h7 : S0[st.length + 3]? = some (.box [.lst 3 none (rowsB (ga ++ e1)), .lst 2 none ((pa ++ e2).map encPr), .lst 1 none (rowsI sb)]) := by rw [hS0]; simp
  have hgl : (rowsB ga).length = ga.length := by simp [rowsB]
  have hgl2 : (rowsB (ga ++ e1)).length = ga.length + e1.length := by simp [rowsB]
  simp only [gwL, gwB, gwD, gwE, gwS, gwTT, gwZ, gwN, gwC, Nat.reduceEqDiff, ↓reduceIte, Nat.reduceAdd, Nat.reduceLT, Nat.reduceLeDiff, Nat.reduceMul, hgl]
  refine vfor (σ := Nat) [5, 7, 64, 65] (fun i => [(5, true, .ptr st.length 0), (7, true, .ptr (st.length + 3) 0), (64, true, .int .i64 ga.length), (65, true, .int .i64 i)]) (fun i => S0) (fun i => ga.length - i) (fun i => i ≤ ga.length) 0 rfl TT_ok (Nat.zero_le _) rfl rfl ?_
  intro i hi
  rcases at_or_end ga i hi with ⟨hie, hd⟩ | ⟨u, hlt, hget, hdr⟩
  · have hie2 : i = ga.length := hie
    subst hie2
    simp only [gwL, gwB, gwD, gwE, gwS, gwTT, gwZ, gwN, gwC, Nat.reduceEqDiff, ↓reduceIte, Nat.reduceAdd, Nat.reduceLT, Nat.reduceLeDiff, Nat.reduceMul, lt_no]
    rw [hS0]
    exact gives_bool' rfl hst
  · have g1 : (rowsB ga).getD i [] = encB u := getD_map hget
    have g2 : (rowsB (ga ++ e1)).getD i [] = encB u := getD_map (by rw [List.getElem?_append_left hlt]; exact hget)
    have w : IntKind.i64.wrap ((i : Int) + 1) = ((i + 1 : Nat) : Int) := next_i64 hlt (by omega)
    obtain ⟨uh, ul, uo⟩ := u
    simp only [gwL, gwB, gwD, gwE, gwS, gwTT, gwZ, gwN, gwC, Nat.reduceEqDiff, ↓reduceIte, Nat.reduceAdd, Nat.reduceLT, Nat.reduceLeDiff, Nat.reduceMul, lt_yes hlt]
    refine vdraw TT_ok TT_mixed [0, 1, 0, 0, 1, 0, 1, 0, 0, 1, 0] (by kernel_rfl) ?_
    simp only [gwL, gwB, gwD, gwE, gwS, gwTT, gwZ, gwN, gwC, Nat.reduceEqDiff, ↓reduceIte, Nat.reduceAdd, Nat.reduceLT, Nat.reduceLeDiff, Nat.reduceMul, h5, h7, g1, g2, encB, hgl, hgl2, Int.toNat_natCast, Int.ofNat_lt.mpr hlt, w, Env.keep]
    exact ⟨by omega, i + 1, rfl, by omega, hlt⟩
end Go.Proofs.Ytlblgbfpdlfedaa.Gx

namespace Go.Proofs.Ytlblgbfpdlfedaa.Gx
open Go Go.Proofs.Ytlblgbfpdlfedaa.Gw
set_option linter.unusedSimpArgs false
set_option linter.unusedVariables false

theorem idxB_in (x : Bind') (g ex : List Bind') (h : x ∈ g) : ∃ j : Nat, idxB x 0 (g ++ ex) = (j : Int) ∧ (g ++ ex)[j]? = some x ∧ j < g.length := by
  obtain ⟨j, h1, h2, h3⟩ := idxB_at x g 0 h
  rw [Nat.zero_add] at h1
  exact ⟨j, by rw [idxB_app _ _ _ _ (by omega), h1], by rw [List.getElem?_append_left h3]; exact h2, h3⟩
theorem insL_op (gl : List Bind') (nm : Str) (base : Int) (x : Ins) : (insL gl nm base x).1.op = x.op ∧ (insL gl nm base x).1.lib = [] ∧ ((insL gl nm base x).1.own = [] ∨ x.op = 6) ∧ (x.op = 13 → (insL gl nm base x).1.a = idxB ⟨[], x.lib, x.own⟩ 0 gl) := by
  obtain ⟨op, a, n, lb, ow, q⟩ := x
  unfold insL
  simp only
  by_cases h13 : op = 13
  · subst h13
    simp only [decide_true, Bool.or_true, cond_true]
    cases decide (idxB ⟨[], lb, ow⟩ 0 gl < 0) <;> simp
  · by_cases h5 : op = 5
    · subst h5; simp; cases decide (idxB ⟨[], lb, ow⟩ 0 gl < 0) <;> simp
    · by_cases h12 : op = 12
      · subst h12
        simp
        cases decide (idxB ⟨[], lb, ow⟩ 0 gl < 0) <;> simp
        cases decide (lb = nm) <;> simp
      · by_cases h7 : op = 7
        · subst h7; simp
        · by_cases h1 : op = 1
          · subst h1; simp
          · by_cases h2 : op = 2
            · subst h2; simp
            · by_cases h3 : op = 3
              · subst h3; simp
              · by_cases h6 : op = 6
                · subst h6; simp
                · simp [h13, h5, h12, h7, h1, h2, h3, h6]
                  cases (decide (op = 14) || decide (op = 15)) <;> simp
theorem codeL_map {gl : List Bind'} {nm : Str} {base : Int} : ∀ {l out : List Ins}, (codeL gl nm base l out).2 = 0 → (codeL gl nm base l out).1 = out ++ l.map fun x => (insL gl nm base x).1
  | [], out, _ => by simp [codeL]
  | x :: r, out, h => by
    rw [codeL] at h ⊢
    cases h1 : decide ((insL gl nm base x).2 = 0) with
    | false => rw [h1] at h; simp only [Bool.not_false, cond_true] at h; exact absurd h (of_decide_eq_false h1)
    | true =>
      rw [h1] at h
      simp only [Bool.not_true, cond_false] at h ⊢
      rw [codeL_map h]; simp
theorem protosL_map {gl : List Bind'} {nm : Str} {base : Int} : ∀ {l ps : List Pr}, (protosL gl nm base l ps).2 = 0 → (protosL gl nm base l ps).1 = ps ++ l.map fun q => ⟨q.args, q.code.map fun x => (insL gl nm base x).1⟩
  | [], ps, _ => by simp [protosL]
  | q :: r, ps, h => by
    rw [protosL] at h ⊢
    cases h1 : decide ((codeL gl nm base q.code []).2 = 0) with
    | false => rw [h1] at h; simp only [Bool.not_false, cond_true] at h; exact absurd h (of_decide_eq_false h1)
    | true =>
      rw [h1] at h
      simp only [Bool.not_true, cond_false] at h ⊢
      rw [protosL_map h, codeL_map (of_decide_eq_true h1)]; simp
/-- The image of one unit. -/
theorem link_one {u : Unit'} (h : (linkL [u]).2.1 = 0) : UnitOk u ∧ ∃ gl, globP u.name u.protos [] = (0, gl) ∧ gl.length ≤ 500 ∧
    linkL [u] = (⟨gl, u.protos.map fun q => ⟨q.args, q.code.map fun x => (insL gl u.name 0 x).1⟩, [0]⟩, 0, 0) := by
  rcases link_split [u] with h' | ⟨-, a1, a0, a2, a3⟩
  · exact absurd h h'
  have hu := checkL_zero a1 u (by simp)
  have hc : (globP u.name u.protos []).1 = 0 ∧ (checkL [u] [u] 0 []).2.2 = (globP u.name u.protos []).2 := by
    rw [checkL] at a1 ⊢
    have e : errL [u] 0 u = 0 := by simp [errL, hu]
    rw [e] at a1 ⊢
    simp only [decide_true, cond_true] at a1 ⊢
    cases h1 : decide ((globP u.name u.protos []).1 = 0) with
    | false => rw [h1] at a1; simp only [Bool.not_false, cond_true] at a1; exact absurd a1 (of_decide_eq_false h1)
    | true => exact ⟨of_decide_eq_true h1, by simp [checkL]⟩
  refine ⟨unit_ok hu, (globP u.name u.protos []).2, by rw [← hc.1], by rw [← hc.2]; exact a0, ?_⟩
  rw [a3, hc.2]
  rw [hc.2] at a2
  rw [unitsL] at a2 ⊢
  cases h1 : decide ((protosL (globP u.name u.protos []).2 u.name (([] : List Pr).length) u.protos []).2 = 0) with
  | false => rw [h1] at a2; simp only [Bool.not_false, cond_true] at a2; exact absurd a2 (of_decide_eq_false h1)
  | true =>
    simp only [Bool.not_true, cond_false, unitsL, protosL_map (of_decide_eq_true h1)]
    simp
/-- A definition, where so many globals are there. -/
theorem one_def {nm : Str} {r : List Ins} {g gl : List Bind'} {rest : List Pr} {x : Ins} (h13 : x.op = 13) (h1 : (globI nm (x :: r) g).1 = 0) (h2 : globP nm rest (globI nm (x :: r) g).2 = (0, gl)) :
    ∃ (j : Nat) (g' : List Bind'), idxB ⟨[], x.lib, x.own⟩ 0 gl = j ∧ j ≤ g.length ∧ j < gl.length ∧ gl[j]? = some ⟨[], nm, x.own⟩ ∧ g'.length = (if j = g.length then g.length + 1 else g.length) ∧
      (globI nm r g').1 = 0 ∧ globP nm rest (globI nm r g').2 = (0, gl) := by
  rw [globI, h13] at h1 h2
  simp only [decide_true, Bool.not_true, cond_false] at h1 h2
  cases hl : decide (x.lib = nm) with
  | false => rw [hl] at h1; simp at h1
  | true =>
    have hlb := of_decide_eq_true hl
    rw [hl] at h1 h2
    simp only [Bool.not_true, cond_false] at h1 h2
    obtain ⟨e1, he1⟩ := globI_ext nm r (bif !decide ((⟨[], x.lib, x.own⟩ : Bind') ∈ g) then g ++ [⟨[], x.lib, x.own⟩] else g)
    obtain ⟨e2, he2⟩ := globP_ext nm rest (globI nm r (bif !decide ((⟨[], x.lib, x.own⟩ : Bind') ∈ g) then g ++ [⟨[], x.lib, x.own⟩] else g)).2
    have hgl : gl = (bif !decide ((⟨[], x.lib, x.own⟩ : Bind') ∈ g) then g ++ [⟨[], x.lib, x.own⟩] else g) ++ (e1 ++ e2) := by
      have := he2
      rw [h2, he1, List.append_assoc] at this
      exact this
    cases hm : decide ((⟨[], x.lib, x.own⟩ : Bind') ∈ g) with
    | true =>
      rw [hm] at h1 h2 hgl
      simp only [Bool.not_true, cond_false] at h1 h2 hgl
      obtain ⟨j, k1, k2, k3⟩ := idxB_in _ g (e1 ++ e2) (of_decide_eq_true hm)
      refine ⟨j, g, by rw [hgl]; exact k1, by omega, by rw [hgl, List.length_append]; omega, by rw [hgl, k2, hlb], by rw [if_neg (by omega)], h1, h2⟩
    | false =>
      rw [hm] at h1 h2 hgl
      simp only [Bool.not_false, cond_true] at h1 h2 hgl
      rw [List.append_assoc, List.singleton_append] at hgl
      refine ⟨g.length, g ++ [⟨[], x.lib, x.own⟩], by rw [hgl, idxB_new _ _ _ _ (of_decide_eq_false hm)]; simp, Nat.le_refl _, by rw [hgl]; simp, by rw [hgl, hlb]; simp, by simp, h1, h2⟩
theorem one_skip {nm : Str} {r : List Ins} {g : List Bind'} {x : Ins} (h13 : x.op ≠ 13) : globI nm (x :: r) g = globI nm r g := by
  rw [globI]; simp [h13]
end Go.Proofs.Ytlblgbfpdlfedaa.Gx
