/- Contracts: the linker's globals. Contracts: the linker's instruction. Contracts: the linker adds a unit. What a right unit has; and what the linker makes, in plain terms. Plain law: heights are told alike; what an instruction has, too. Contract of the document's answer: what is wrong with procedures, whose bodies stand at places. What stands ahead stays: in plain terms. -/
import Derived.Test.YtlblgbfpdlfedaaZR7

namespace Go.Proofs.Ytlblgbfpdlfedaa.Gx
open Go Go.Proofs.Ytlblgbfpdlfedaa.Gw
set_option linter.unusedSimpArgs false
set_option linter.unusedVariables false

theorem Ks.trans {X : Nat → Prop} {s s' s'' : St} (h : Ks X s s') (k : Ks X s' s'') : Ks X s s'' := ⟨Nat.le_trans h.1 k.1, fun j h1 h2 => by rw [k.2 j (Nat.lt_of_lt_of_le h1 h.1) h2, h.2 j h1 h2]⟩
theorem Ks.app {X : Nat → Prop} {s s' ex : St} (h : Ks X (s ++ ex) s') : Ks X s s' := ⟨by have := h.1; rw [List.length_append] at this; omega, fun j h1 h2 => by rw [h.2 j (by rw [List.length_append]; omega) h2, st_old h1]⟩
theorem Ks.mono {X Y : Nat → Prop} {s s' : St} (h : Ks X s s') (hm : ∀ j, X j → Y j) : Ks Y s s' := ⟨h.1, fun j h1 h2 => h.2 j h1 fun h => h2 (hm j h)⟩
/-- An image in the making: as it lies. -/
structure LK (s : St) (b kg kp ks : Nat) (gl : List Bind') (rows : List (List V)) (ps : List Pr) (sts : List Int) : Prop where
  box : s[b]? = some (.box [.lst 3 (some kg) (rowsB gl), .lst 2 (some kp) rows, .lst 1 (some ks) (rowsI sts)])
  tg : s[kg]? = some (.tip 40 gl.length)
  tp : s[kp]? = some (.tip 46 ps.length)
  ts : s[ks]? = some (.tip 3 sts.length)
  rows : wkRp NoTok rows (ps.map encPr)
  one : kg ≠ kp ∧ kg ≠ ks ∧ kp ≠ ks
theorem LK.lt {s : St} {b kg kp ks : Nat} {gl : List Bind'} {rows : List (List V)} {ps : List Pr} {sts : List Int} (h : LK s b kg kp ks gl rows ps sts) : b < s.length ∧ kg < s.length ∧ kp < s.length ∧ ks < s.length :=
  ⟨(List.getElem?_eq_some_iff.1 h.box).1, (List.getElem?_eq_some_iff.1 h.tg).1, (List.getElem?_eq_some_iff.1 h.tp).1, (List.getElem?_eq_some_iff.1 h.ts).1⟩
theorem LK.ne {s : St} {b kg kp ks : Nat} {gl : List Bind'} {rows : List (List V)} {ps : List Pr} {sts : List Int} (h : LK s b kg kp ks gl rows ps sts) : b ≠ kg ∧ b ≠ kp ∧ b ≠ ks :=
  ⟨fun e => (by subst e; have := h.box; rw [h.tg] at this; cases this), fun e => (by subst e; have := h.box; rw [h.tp] at this; cases this), fun e => (by subst e; have := h.box; rw [h.ts] at this; cases this)⟩
theorem LK.keep {s s' : St} {b kg kp ks : Nat} {gl : List Bind'} {rows : List (List V)} {ps : List Pr} {sts : List Int} {X : Nat → Prop} (h : LK s b kg kp ks gl rows ps sts) (k : Ks X s s') (hX : ∀ j, X j → j ≠ b ∧ j ≠ kg ∧ j ≠ kp ∧ j ≠ ks) : LK s' b kg kp ks gl rows ps sts := by
  obtain ⟨l1, l2, l3, l4⟩ := h.lt
  exact ⟨by rw [k.2 b l1 (fun e => (hX _ e).1 rfl), h.box], by rw [k.2 kg l2 (fun e => (hX _ e).2.1 rfl), h.tg], by rw [k.2 kp l3 (fun e => (hX _ e).2.2.1 rfl), h.tp], by rw [k.2 ks l4 (fun e => (hX _ e).2.2.2 rfl), h.ts], h.rows, h.one⟩
theorem LK.app {s : St} {b kg kp ks : Nat} {gl : List Bind'} {rows : List (List V)} {ps : List Pr} {sts : List Int} (h : LK s b kg kp ks gl rows ps sts) (ex : St) : LK (s ++ ex) b kg kp ks gl rows ps sts :=
  h.keep (X := fun _ => False) ⟨by simp, fun j hj _ => st_old hj⟩ (fun _ e => e.elim)

/-- What a unit defines. -/
def globI (nm : Str) : List Ins → List Bind' → Int × List Bind'
  | [], gl => (0, gl)
  | x :: r, gl =>
    bif !decide (x.op = 13) then globI nm r gl else bif !decide (x.lib = nm) then (10, gl)
    else globI nm r (bif !decide ((⟨[], x.lib, x.own⟩ : Bind') ∈ gl) then gl ++ [⟨[], x.lib, x.own⟩] else gl)
def globP (nm : Str) : List Pr → List Bind' → Int × List Bind'
  | [], gl => (0, gl)
  | p :: r, gl => bif !decide ((globI nm p.code gl).1 = 0) then globI nm p.code gl else globP nm r (globI nm p.code gl).2
theorem globI_len (nm : Str) : ∀ (l : List Ins) (gl : List Bind'), (globI nm l gl).2.length ≤ gl.length + l.length
  | [], gl => by simp [globI]
  | x :: r, gl => by
    rw [globI]
    cases decide (x.op = 13)
    · have := globI_len nm r gl; simp; omega
    · cases decide (x.lib = nm)
      · simp
      · have h1 := globI_len nm r (bif !decide ((⟨[], x.lib, x.own⟩ : Bind') ∈ gl) then gl ++ [⟨[], x.lib, x.own⟩] else gl)
        have h2 : (bif !decide ((⟨[], x.lib, x.own⟩ : Bind') ∈ gl) then gl ++ [⟨[], x.lib, x.own⟩] else gl).length ≤ gl.length + 1 := by
          cases decide ((⟨[], x.lib, x.own⟩ : Bind') ∈ gl) <;> simp
        simp only [Bool.not_true, cond_false, List.length_cons]; omega
theorem LK.push {s : St} {b kg kp ks : Nat} {gl : List Bind'} {rows : List (List V)} {ps : List Pr} {sts : List Int} (h : LK s b kg kp ks gl rows ps sts) (x : Bind') :
    LK ((s.set kg (.tip 40 (gl.length + 1))).set b (.box [.lst 3 (some kg) (rowsB gl ++ [encB x]), .lst 2 (some kp) rows, .lst 1 (some ks) (rowsI sts)])) b kg kp ks (gl ++ [x]) rows ps sts ∧
    Ks (fun j => j = b ∨ j = kg) s ((s.set kg (.tip 40 (gl.length + 1))).set b (.box [.lst 3 (some kg) (rowsB gl ++ [encB x]), .lst 2 (some kp) rows, .lst 1 (some ks) (rowsI sts)])) := by
  obtain ⟨l1, l2, l3, l4⟩ := h.lt
  obtain ⟨n1, n2, n3⟩ := h.ne
  obtain ⟨o1, o2, o3⟩ := h.one
  refine ⟨⟨?_, ?_, ?_, ?_, h.rows, h.one⟩, by simp, fun j _ hj => ?_⟩
  · rw [List.getElem?_set_self (by rw [List.length_set]; exact l1)]; simp [rowsB]
  · rw [List.getElem?_set_ne n1, List.getElem?_set_self l2]; simp
  · rw [List.getElem?_set_ne n2, List.getElem?_set_ne o1, h.tp]
  · rw [List.getElem?_set_ne n3, List.getElem?_set_ne o2, h.ts]
  · rw [List.getElem?_set_ne (fun e => hj (.inl e.symm)), List.getElem?_set_ne (fun e => hj (.inr e.symm))]

set_option maxRecDepth 20000 in
set_option maxHeartbeats 8000000 in
theorem c_globals (s : St) (b kg kp ks : Nat) (gl : List Bind') (rows : List (List V)) (ps : List Pr) (sts : List Int) (u : Unit') (h : LK s b kg kp ks gl rows ps sts) (hu : u.protos.length ≤ 500) (hc : ∀ q ∈ u.protos, q.code.length ≤ 6000) (hgl : gl.length ≤ 1000000000) :
    VCalls Try.prog TT 16 [.ptr b 0, .ref (encU u)] s fun r s' => r = .ret (.int .i64 (globP u.name u.protos gl).1) ∧ LK s' b kg kp ks (globP u.name u.protos gl).2 rows ps sts ∧ Ks (fun j => j = b ∨ j = kg) s s' := by
  refine vfunQ TT_ok (an := anL []) (L := [0, 1, 4, 6, 8, 9, 13, 14, 15, 20, 21, 22]) (rs := [.tmp 4]) Try.func16 rfl (by kernel_rfl) rfl Try.ntmps16 rfl rfl fun hst ha hf => ?_
  obtain ⟨nm, us⟩ := u
  simp only at hu hc ⊢
  simp only [gwL, gwB, gwD, gwE, gwS, gwTT, gwZ, gwN, gwC, Nat.reduceEqDiff, ↓reduceIte, Nat.reduceAdd, Nat.reduceLT, Nat.reduceLeDiff, Nat.reduceMul, encU, lstPr, List.length_map]
  refine vfor (σ := Nat × St × List Bind') [0, 1, 13, 14, 15] (fun x => [(0, true, .ptr b 0), (1, true, .ref (encU ⟨nm, us⟩)), (13, true, lstPr us), (14, true, .int .i64 us.length), (15, true, .int .i64 x.1)]) (fun x => x.2.1) (fun x => us.length - x.1) (fun x => x.1 ≤ us.length ∧ LK x.2.1 b kg kp ks x.2.2 rows ps sts ∧ Ks (fun j => j = b ∨ j = kg) s x.2.1 ∧ globP nm us gl = globP nm (us.drop x.1) x.2.2 ∧ x.2.2.length ≤ gl.length + 6000 * x.1) (0, s, gl) rfl TT_ok ⟨Nat.zero_le _, h, Ks.refl _ _, rfl, by simp⟩ rfl rfl ?_
  rintro ⟨i, S, g1⟩ ⟨hi, hL, hK, hx, hn⟩
  simp only at hi hL hK hx hn ⊢
  rcases at_or_end us i hi with ⟨hie, hd⟩ | ⟨q, hlt, hget, hdr⟩
  · have hie2 : i = us.length := hie
    subst hie2
    rw [hd, globP] at hx
    rw [hx]
    simp only [gwL, gwB, gwD, gwE, gwS, gwTT, gwZ, gwN, gwC, Nat.reduceEqDiff, ↓reduceIte, Nat.reduceAdd, Nat.reduceLT, Nat.reduceLeDiff, Nat.reduceMul, lt_no]
    exact ⟨hL, hK⟩
  · have hg : (us.map encPr).getD i [] = encPr q := getD_map hget
    have hcl := hc q (List.mem_of_getElem? hget)
    have w : IntKind.i64.wrap ((i : Int) + 1) = ((i + 1 : Nat) : Int) := next_i64 hlt (by omega)
    rw [hdr, globP] at hx
    obtain ⟨qa, code⟩ := q
    simp only at hx hcl
    simp only [lstPr]
    simp only [gwL, gwB, gwD, gwE, gwS, gwTT, gwZ, gwN, gwC, Nat.reduceEqDiff, ↓reduceIte, Nat.reduceAdd, Nat.reduceLT, Nat.reduceLeDiff, Nat.reduceMul, lt_yes hlt, hg, encPr, lstI, List.length_map, Int.ofNat_lt.mpr hlt]
    have hL0 := hL.app [Ent.box [.int .i64 qa, .lst 11 none (code.map encI)]]
    have hK0 : Ks (fun j => j = b ∨ j = kg) s (S ++ [Ent.box [.int .i64 qa, .lst 11 none (code.map encI)]]) := hK.trans ⟨by simp, fun j hj _ => st_old hj⟩
    refine vfor (σ := Nat × St × List Bind') [0, 1, 13, 14, 15, 20, 21, 22] (fun y => [(0, true, .ptr b 0), (1, true, .ref (encU ⟨nm, us⟩)), (13, true, lstPr us), (14, true, .int .i64 us.length), (15, true, .int .i64 i), (20, true, .lst 11 none (code.map encI)), (21, true, .int .i64 code.length), (22, true, .int .i64 y.1)]) (fun y => y.2.1) (fun y => code.length - y.1) (fun y => y.1 ≤ code.length ∧ LK y.2.1 b kg kp ks y.2.2 rows ps sts ∧ Ks (fun j => j = b ∨ j = kg) s y.2.1 ∧ globI nm code g1 = globI nm (code.drop y.1) y.2.2 ∧ y.2.2.length ≤ g1.length + y.1) (0, S ++ [Ent.box [.int .i64 qa, .lst 11 none (code.map encI)]], g1) rfl TT_ok ⟨Nat.zero_le _, hL0, hK0, rfl, by simp⟩ rfl rfl ?_
    rintro ⟨j, S2, g2⟩ ⟨hj, hL2, hK2, hy, hn2⟩
    simp only at hj hL2 hK2 hy hn2 ⊢
    rcases at_or_end code j hj with ⟨hje, hjd⟩ | ⟨v, hjt, hju, hjr⟩
    · have hje2 : j = code.length := hje
      subst hje2
      rw [hjd, globI] at hy
      rw [hy] at hx
      simp only [decide_true, Bool.not_true, cond_false] at hx
      simp only [gwL, gwB, gwD, gwE, gwS, gwTT, gwZ, gwN, gwC, Nat.reduceEqDiff, ↓reduceIte, Nat.reduceAdd, Nat.reduceLT, Nat.reduceLeDiff, Nat.reduceMul, lt_no, w, Env.keep]
      exact ⟨(i + 1, S2, g2), rfl, rfl, by simp only; omega, by simp only; omega, hL2, hK2, hx, by simp only; omega⟩
    · have hgv : (code.map encI).getD j [] = encI v := getD_map hju
      have w2 : IntKind.i64.wrap ((j : Int) + 1) = ((j + 1 : Nat) : Int) := next_i64 hjt (by omega)
      rw [hjr, globI] at hy
      obtain ⟨op, a, n, lb, ow, qd⟩ := v
      simp only at hy
      obtain ⟨lb1, lk1, lp1, ls1⟩ := hL2.lt
      simp only [gwL, gwB, gwD, gwE, gwS, gwTT, gwZ, gwN, gwC, Nat.reduceEqDiff, ↓reduceIte, Nat.reduceAdd, Nat.reduceLT, Nat.reduceLeDiff, Nat.reduceMul, lt_yes hjt, hgv, encI_mk, encD_take, encD_len, encD_drop, Nat.le_refl, Int.ofNat_lt.mpr hjt, List.length_map]
      obtain ⟨S3, hS3⟩ : ∃ S3 : St, S3 = S2 ++ [Ent.box (.int .i64 op :: .int .i64 a :: .int .i64 n :: .str lb :: .str ow :: encD qd), Ent.box [.str [], .str lb, .str ow]] := ⟨_, rfl⟩
      rw [← hS3]
      have h8 : S3[S2.length]? = some (.box (.int .i64 op :: .int .i64 a :: .int .i64 n :: .str lb :: .str ow :: encD qd)) := by rw [hS3]; simp
      have h9 : S3[S2.length + 1]? = some (.box [.str [], .str lb, .str ow]) := by rw [hS3]; simp
      have hL3 : LK S3 b kg kp ks g2 rows ps sts := by rw [hS3]; exact hL2.app _
      have hK3 : Ks (fun j => j = b ∨ j = kg) s S3 := by rw [hS3]; exact hK2.trans ⟨by simp, fun j hj _ => st_old hj⟩
      refine iK_split (fun h13 => ?_) (fun h13 => ?_)
      · rw [h13] at hy
        simp only [cond_true] at hy
        simp only [gwL, gwB, gwD, gwE, gwS, gwTT, gwZ, gwN, gwC, Nat.reduceEqDiff, ↓reduceIte, Nat.reduceAdd, Nat.reduceLT, Nat.reduceLeDiff, Nat.reduceMul, w2, Env.keep]
        exact ⟨(j + 1, S3, g2), rfl, rfl, by simp only; omega, by simp only; omega, hL3, hK3, hy, by simp only; omega⟩
      rw [h13] at hy
      simp only [cond_false] at hy
      simp only [gwL, gwB, gwD, gwE, gwS, gwTT, gwZ, gwN, gwC, Nat.reduceEqDiff, ↓reduceIte, Nat.reduceAdd, Nat.reduceLT, Nat.reduceLeDiff, Nat.reduceMul]
      refine vdraw TT_ok TT_mixed [0, 1, 0, 0, 0, 1, 0] (by kernel_rfl) ?_
      simp only [gwL, gwB, gwD, gwE, gwS, gwTT, gwZ, gwN, gwC, Nat.reduceEqDiff, ↓reduceIte, Nat.reduceAdd, Nat.reduceLT, Nat.reduceLeDiff, Nat.reduceMul, h8, encU]
      refine iK_split (fun hl => ?_) (fun hl => ?_)
      · rw [hl] at hy
        simp only [cond_true] at hy
        rw [hy] at hx
        have hx' : globP nm us gl = (10, g2) := hx
        rw [hx']
        simp only [gwL, gwB, gwD, gwE, gwS, gwTT, gwZ, gwN, gwC, Nat.reduceEqDiff, ↓reduceIte, Nat.reduceAdd, Nat.reduceLT, Nat.reduceLeDiff, Nat.reduceMul]
        exact ⟨hL3, hK3⟩
      rw [hl] at hy
      simp only [cond_false] at hy
      simp only [gwL, gwB, gwD, gwE, gwS, gwTT, gwZ, gwN, gwC, Nat.reduceEqDiff, ↓reduceIte, Nat.reduceAdd, Nat.reduceLT, Nat.reduceLeDiff, Nat.reduceMul]
      refine vdraw TT_ok TT_mixed [0, 0, 0, 0, 1, 1, 0, 0] (by kernel_rfl) ?_
      simp only [gwL, gwB, gwD, gwE, gwS, gwTT, gwZ, gwN, gwC, Nat.reduceEqDiff, ↓reduceIte, Nat.reduceAdd, Nat.reduceLT, Nat.reduceLeDiff, Nat.reduceMul, hL3.box, h9]
      refine eK_free (fun s => c_ContainsB s g2 ⟨[], lb, ow⟩) (wkL_cons (wk_tok _ _ _) (wkL_refl _)) ?_
      simp only [gwL, gwB, gwD, gwE, gwS, gwTT, gwZ, gwN, gwC, Nat.reduceEqDiff, ↓reduceIte, Nat.reduceAdd, Nat.reduceLT, Nat.reduceLeDiff, Nat.reduceMul]
      refine iK_split (fun hc1 => ?_) (fun hc1 => ?_)
      · rw [hc1] at hy
        simp only [cond_true] at hy
        obtain ⟨hL4, hK4⟩ := hL3.push ⟨[], lb, ow⟩
        have hbk : ∀ X, (S3.set kg X)[b]? = some (.box [.lst 3 (some kg) (rowsB g2), .lst 2 (some kp) rows, .lst 1 (some ks) (rowsI sts)]) := fun X => by rw [List.getElem?_set_ne (Ne.symm hL3.ne.1), hL3.box]
        have hrb : (rowsB g2).length = g2.length := by simp [rowsB]
        simp only [gwL, gwB, gwD, gwE, gwS, gwTT, gwZ, gwN, gwC, Nat.reduceEqDiff, ↓reduceIte, Nat.reduceAdd, Nat.reduceLT, Nat.reduceLeDiff, Nat.reduceMul]
        refine vdraw TT_ok TT_mixed [0, 0, 0, 0, 0, 1, 1, 1, 2, 0, 0, 0, 2] (by kernel_rfl) ?_
        simp only [gwL, gwB, gwD, gwE, gwS, gwTT, gwZ, gwN, gwC, Nat.reduceEqDiff, ↓reduceIte, Nat.reduceAdd, Nat.reduceLT, Nat.reduceLeDiff, Nat.reduceMul, hL3.box, hL3.tg, h9, hbk, hrb, w2, Env.keep]
        exact ⟨by omega, (j + 1, _, g2 ++ [(⟨[], lb, ow⟩ : Bind')]), rfl, rfl, by simp only; omega, by simp only; omega, hL4, hK3.trans hK4, hy, by simp only [List.length_append, List.length_cons, List.length_nil]; omega⟩
      · rw [hc1] at hy
        simp only [cond_false] at hy
        simp only [gwL, gwB, gwD, gwE, gwS, gwTT, gwZ, gwN, gwC, Nat.reduceEqDiff, ↓reduceIte, Nat.reduceAdd, Nat.reduceLT, Nat.reduceLeDiff, Nat.reduceMul, w2, Env.keep]
        exact ⟨(j + 1, S3, g2), rfl, rfl, by simp only; omega, by simp only; omega, hL3, hK3, hy, by simp only; omega⟩
end Go.Proofs.Ytlblgbfpdlfedaa.Gx

namespace Go.Proofs.Ytlblgbfpdlfedaa.Gx
open Go Go.Proofs.Ytlblgbfpdlfedaa.Gw
set_option linter.unusedSimpArgs false
set_option linter.unusedVariables false

/-- An instruction in an image; and what is wrong. -/
def insL (gl : List Bind') (nm : Str) (base : Int) (x : Ins) : Ins × Int :=
  bif decide (x.op = 5) || decide (x.op = 12) || decide (x.op = 13) then
    (bif decide (idxB ⟨[], x.lib, x.own⟩ 0 gl < 0) then ({ op := x.op, a := idxB ⟨[], x.lib, x.own⟩ 0 gl }, 7)
     else bif decide (x.op = 12) && !decide (x.lib = nm) then ({ op := x.op, a := idxB ⟨[], x.lib, x.own⟩ 0 gl }, 10)
     else ({ op := x.op, a := idxB ⟨[], x.lib, x.own⟩ 0 gl }, 0))
  else bif decide (x.op = 7) then ({ op := x.op, a := IntKind.i64.wrap (base + x.a) }, 0)
  else bif decide (x.op = 1) || decide (x.op = 2) then ({ op := x.op, n := x.n }, 0)
  else bif decide (x.op = 3) then ({ op := x.op, quote := bareD x.quote }, 0)
  else bif decide (x.op = 6) then ({ op := x.op, own := x.own }, 0)
  else bif decide (x.op = 14) || decide (x.op = 15) then ({ op := x.op }, 0)
  else ({ op := x.op, a := x.a }, 0)

set_option maxRecDepth 20000 in
set_option maxHeartbeats 8000000 in
theorem c_link_ins (s : St) (b : Nat) (kg : Option Nat) (gl : List Bind') (r1 r2 : V) (u : Unit') (base : Int) (x : Ins) (h : s[b]? = some (.box [.lst 3 kg (rowsB gl), r1, r2])) (hq : x.op = 3 → smallD x.quote) :
    VCalls Try.prog TT 30 [.ptr b 0, .ref (encU u), .int .i64 base, .ref (encI x)] s fun r s' => r = .ret (.tup [.agg (encI (insL gl u.name base x).1), .int .i64 (insL gl u.name base x).2]) ∧ s' = s := by
  refine vfun TT_ok (an := anL []) (L := [0, 1, 2, 3, 8, 9, 10, 19, 25, 75, 98]) (rs := [.cell 8 51, .tmp 9]) Try.func30 rfl (by kernel_rfl) rfl Try.ntmps30 rfl rfl (Nat.le_refl _) fun hst ha hf => ?_
  obtain ⟨nm, us⟩ := u
  obtain ⟨op, a, n, lb, ow, qd⟩ := x
  generalize hr : insL gl nm base ⟨op, a, n, lb, ow, qd⟩ = r
  simp only at hq
  have fin : ∀ (l : List V) (i : Ins) (e : Int) (ex : St), insL gl nm base ⟨op, a, n, lb, ow, qd⟩ = (i, e) → wkL l (encI i) → Gives (.tup [.agg (encI r.1), .int .i64 r.2]) s (.ret (.tup [.agg l, .int .i64 e])) (s ++ ex) := by
    intro l i e ex he hw
    rw [← hr, he]
    refine gives_of (wk_tup (wkL_cons (wk_agg hw) (wkL_refl _))) (wkSt_refl _) ?_ hst
    simp only [V.lt, ltL, and_true]
    exact encI_lt _ _
  simp only [encI_mk, encU]
  have hblt : b < s.length := (List.getElem?_eq_some_iff.1 h).1
  have hbx : ∀ ex : St, (s ++ ex)[b]? = some (.box [.lst 3 kg (rowsB gl), r1, r2]) := fun ex => by rw [st_old hblt, h]
  simp only [gwL, gwB, gwD, gwE, gwS, gwTT, gwZ, gwN, gwC, Nat.reduceEqDiff, ↓reduceIte, Nat.reduceAdd, Nat.reduceLT, Nat.reduceLeDiff, Nat.reduceMul]
  refine iK_split (fun h1 => ?_) (fun h1 => ?_)
  · simp only [gwL, gwB, gwD, gwE, gwS, gwTT, gwZ, gwN, gwC, Nat.reduceEqDiff, ↓reduceIte, Nat.reduceAdd, Nat.reduceLT, Nat.reduceLeDiff, Nat.reduceMul, h1]
    refine vdraw TT_ok TT_mixed [0, 0, 0, 0, 1, 0, 0, 0, 1, 0, 0, 0, 1, 0, 0, 0, 2] (by kernel_rfl) ?_
    simp only [gwL, gwB, gwD, gwE, gwS, gwTT, gwZ, gwN, gwC, Nat.reduceEqDiff, ↓reduceIte, Nat.reduceAdd, Nat.reduceLT, Nat.reduceLeDiff, Nat.reduceMul, hbx]
    refine eK_free (fun s => c_IndexB s gl ⟨[], lb, ow⟩) (wkL_cons (wk_tok _ _ _) (wkL_refl _)) ?_
    simp only [gwL, gwB, gwD, gwE, gwS, gwTT, gwZ, gwN, gwC, Nat.reduceEqDiff, ↓reduceIte, Nat.reduceAdd, Nat.reduceLT, Nat.reduceLeDiff, Nat.reduceMul]
    refine iK_split (fun k1 => ?_) (fun k1 => ?_)
    · simp only [gwL, gwB, gwD, gwE, gwS, gwTT, gwZ, gwN, gwC, Nat.reduceEqDiff, ↓reduceIte, Nat.reduceAdd, Nat.reduceLT, Nat.reduceLeDiff, Nat.reduceMul]
      exact fin _ _ _ _ (by simp only [insL, h1, k1, Bool.true_or, Bool.or_true, Bool.false_or, Bool.or_false, Bool.or_self, Bool.true_and, Bool.and_true, Bool.false_and, cond_true, cond_false]) (wk_ins ..)
    simp only [gwL, gwB, gwD, gwE, gwS, gwTT, gwZ, gwN, gwC, Nat.reduceEqDiff, ↓reduceIte, Nat.reduceAdd, Nat.reduceLT, Nat.reduceLeDiff, Nat.reduceMul]
    refine vdraw TT_ok TT_mixed [0, 0, 0, 1, 0, 0, 0, 0, 0, 1, 0, 0, 0, 1, 0, 0] (by kernel_rfl) ?_
    simp only [gwL, gwB, gwD, gwE, gwS, gwTT, gwZ, gwN, gwC, Nat.reduceEqDiff, ↓reduceIte, Nat.reduceAdd, Nat.reduceLT, Nat.reduceLeDiff, Nat.reduceMul]
    refine iK_split (fun k2 => ?_) (fun k2 => ?_)
    · simp only [gwL, gwB, gwD, gwE, gwS, gwTT, gwZ, gwN, gwC, Nat.reduceEqDiff, ↓reduceIte, Nat.reduceAdd, Nat.reduceLT, Nat.reduceLeDiff, Nat.reduceMul]
      exact fin _ _ _ _ (by simp only [insL, h1, k1, k2, Bool.true_or, Bool.or_true, Bool.false_or, Bool.or_false, Bool.or_self, Bool.true_and, Bool.and_true, Bool.false_and, cond_true, cond_false]) (wk_ins ..)
    · simp only [gwL, gwB, gwD, gwE, gwS, gwTT, gwZ, gwN, gwC, Nat.reduceEqDiff, ↓reduceIte, Nat.reduceAdd, Nat.reduceLT, Nat.reduceLeDiff, Nat.reduceMul]
      exact fin _ _ _ _ (by simp only [insL, h1, k1, k2, Bool.true_or, Bool.or_true, Bool.false_or, Bool.or_false, Bool.or_self, Bool.true_and, Bool.and_true, Bool.false_and, cond_true, cond_false]) (wk_ins ..)
  simp only [gwL, gwB, gwD, gwE, gwS, gwTT, gwZ, gwN, gwC, Nat.reduceEqDiff, ↓reduceIte, Nat.reduceAdd, Nat.reduceLT, Nat.reduceLeDiff, Nat.reduceMul, h1]
  refine iK_split (fun h2 => ?_) (fun h2 => ?_)
  · simp only [gwL, gwB, gwD, gwE, gwS, gwTT, gwZ, gwN, gwC, Nat.reduceEqDiff, ↓reduceIte, Nat.reduceAdd, Nat.reduceLT, Nat.reduceLeDiff, Nat.reduceMul, h2]
    refine vdraw TT_ok TT_mixed [0, 0, 0, 0, 1, 0, 0, 0, 1, 0, 0, 0, 1, 0, 0, 0, 2] (by kernel_rfl) ?_
    simp only [gwL, gwB, gwD, gwE, gwS, gwTT, gwZ, gwN, gwC, Nat.reduceEqDiff, ↓reduceIte, Nat.reduceAdd, Nat.reduceLT, Nat.reduceLeDiff, Nat.reduceMul, hbx]
    refine eK_free (fun s => c_IndexB s gl ⟨[], lb, ow⟩) (wkL_cons (wk_tok _ _ _) (wkL_refl _)) ?_
    simp only [gwL, gwB, gwD, gwE, gwS, gwTT, gwZ, gwN, gwC, Nat.reduceEqDiff, ↓reduceIte, Nat.reduceAdd, Nat.reduceLT, Nat.reduceLeDiff, Nat.reduceMul]
    refine iK_split (fun k1 => ?_) (fun k1 => ?_)
    · simp only [gwL, gwB, gwD, gwE, gwS, gwTT, gwZ, gwN, gwC, Nat.reduceEqDiff, ↓reduceIte, Nat.reduceAdd, Nat.reduceLT, Nat.reduceLeDiff, Nat.reduceMul]
      exact fin _ _ _ _ (by simp only [insL, h1, h2, k1, Bool.true_or, Bool.or_true, Bool.false_or, Bool.or_false, Bool.or_self, Bool.true_and, Bool.and_true, Bool.false_and, cond_true, cond_false]) (wk_ins ..)
    simp only [gwL, gwB, gwD, gwE, gwS, gwTT, gwZ, gwN, gwC, Nat.reduceEqDiff, ↓reduceIte, Nat.reduceAdd, Nat.reduceLT, Nat.reduceLeDiff, Nat.reduceMul]
    refine vdraw TT_ok TT_mixed [0, 0, 0, 1, 0, 0, 0, 0, 0, 1, 0, 0, 0, 1, 0, 0] (by kernel_rfl) ?_
    simp only [gwL, gwB, gwD, gwE, gwS, gwTT, gwZ, gwN, gwC, Nat.reduceEqDiff, ↓reduceIte, Nat.reduceAdd, Nat.reduceLT, Nat.reduceLeDiff, Nat.reduceMul]
    refine iK_split (fun k2 => ?_) (fun k2 => ?_)
    · simp only [gwL, gwB, gwD, gwE, gwS, gwTT, gwZ, gwN, gwC, Nat.reduceEqDiff, ↓reduceIte, Nat.reduceAdd, Nat.reduceLT, Nat.reduceLeDiff, Nat.reduceMul]
      have k3 : (!decide (lb = nm)) = true := by simpa [h2] using k2
      exact fin _ _ _ _ (by simp only [insL, h1, h2, k1, k3, Bool.true_or, Bool.or_true, Bool.false_or, Bool.or_false, Bool.or_self, Bool.true_and, Bool.and_true, Bool.false_and, cond_true, cond_false]) (wk_ins ..)
    · simp only [gwL, gwB, gwD, gwE, gwS, gwTT, gwZ, gwN, gwC, Nat.reduceEqDiff, ↓reduceIte, Nat.reduceAdd, Nat.reduceLT, Nat.reduceLeDiff, Nat.reduceMul]
      have k3 : (!decide (lb = nm)) = false := by simpa [h2] using k2
      exact fin _ _ _ _ (by simp only [insL, h1, h2, k1, k3, Bool.true_or, Bool.or_true, Bool.false_or, Bool.or_false, Bool.or_self, Bool.true_and, Bool.and_true, Bool.false_and, cond_true, cond_false]) (wk_ins ..)
  simp only [gwL, gwB, gwD, gwE, gwS, gwTT, gwZ, gwN, gwC, Nat.reduceEqDiff, ↓reduceIte, Nat.reduceAdd, Nat.reduceLT, Nat.reduceLeDiff, Nat.reduceMul, h2]
  refine iK_split (fun h3 => ?_) (fun h3 => ?_)
  · simp only [gwL, gwB, gwD, gwE, gwS, gwTT, gwZ, gwN, gwC, Nat.reduceEqDiff, ↓reduceIte, Nat.reduceAdd, Nat.reduceLT, Nat.reduceLeDiff, Nat.reduceMul, h3]
    refine vdraw TT_ok TT_mixed [0, 0, 0, 0, 1, 0, 0, 0, 1, 0, 0, 0, 1, 0, 0, 0, 2] (by kernel_rfl) ?_
    simp only [gwL, gwB, gwD, gwE, gwS, gwTT, gwZ, gwN, gwC, Nat.reduceEqDiff, ↓reduceIte, Nat.reduceAdd, Nat.reduceLT, Nat.reduceLeDiff, Nat.reduceMul, hbx]
    refine eK_free (fun s => c_IndexB s gl ⟨[], lb, ow⟩) (wkL_cons (wk_tok _ _ _) (wkL_refl _)) ?_
    simp only [gwL, gwB, gwD, gwE, gwS, gwTT, gwZ, gwN, gwC, Nat.reduceEqDiff, ↓reduceIte, Nat.reduceAdd, Nat.reduceLT, Nat.reduceLeDiff, Nat.reduceMul]
    refine iK_split (fun k1 => ?_) (fun k1 => ?_)
    · simp only [gwL, gwB, gwD, gwE, gwS, gwTT, gwZ, gwN, gwC, Nat.reduceEqDiff, ↓reduceIte, Nat.reduceAdd, Nat.reduceLT, Nat.reduceLeDiff, Nat.reduceMul]
      exact fin _ _ _ _ (by simp only [insL, h1, h2, h3, k1, Bool.true_or, Bool.or_true, Bool.false_or, Bool.or_false, Bool.or_self, Bool.true_and, Bool.and_true, Bool.false_and, cond_true, cond_false]) (wk_ins ..)
    simp only [gwL, gwB, gwD, gwE, gwS, gwTT, gwZ, gwN, gwC, Nat.reduceEqDiff, ↓reduceIte, Nat.reduceAdd, Nat.reduceLT, Nat.reduceLeDiff, Nat.reduceMul]
    refine vdraw TT_ok TT_mixed [0, 0, 0, 1, 0, 0, 0, 0, 0, 1, 0, 0, 0, 1, 0, 0] (by kernel_rfl) ?_
    simp only [gwL, gwB, gwD, gwE, gwS, gwTT, gwZ, gwN, gwC, Nat.reduceEqDiff, ↓reduceIte, Nat.reduceAdd, Nat.reduceLT, Nat.reduceLeDiff, Nat.reduceMul]
    refine iK_split (fun k2 => ?_) (fun k2 => ?_)
    · simp [h2] at k2
    · simp only [gwL, gwB, gwD, gwE, gwS, gwTT, gwZ, gwN, gwC, Nat.reduceEqDiff, ↓reduceIte, Nat.reduceAdd, Nat.reduceLT, Nat.reduceLeDiff, Nat.reduceMul]
      exact fin _ _ _ _ (by simp only [insL, h1, h2, h3, k1, Bool.true_or, Bool.or_true, Bool.false_or, Bool.or_false, Bool.or_self, Bool.true_and, Bool.and_true, Bool.false_and, cond_true, cond_false]) (wk_ins ..)
  simp only [gwL, gwB, gwD, gwE, gwS, gwTT, gwZ, gwN, gwC, Nat.reduceEqDiff, ↓reduceIte, Nat.reduceAdd, Nat.reduceLT, Nat.reduceLeDiff, Nat.reduceMul, h3]
  refine iK_split (fun h4 => ?_) (fun h4 => ?_)
  · simp only [gwL, gwB, gwD, gwE, gwS, gwTT, gwZ, gwN, gwC, Nat.reduceEqDiff, ↓reduceIte, Nat.reduceAdd, Nat.reduceLT, Nat.reduceLeDiff, Nat.reduceMul]
    exact fin _ _ _ _ (by simp only [insL, h1, h2, h3, h4, Bool.true_or, Bool.or_true, Bool.false_or, Bool.or_false, Bool.or_self, Bool.true_and, Bool.and_true, Bool.false_and, cond_true, cond_false]) (wk_ins ..)
  simp only [gwL, gwB, gwD, gwE, gwS, gwTT, gwZ, gwN, gwC, Nat.reduceEqDiff, ↓reduceIte, Nat.reduceAdd, Nat.reduceLT, Nat.reduceLeDiff, Nat.reduceMul]
  refine iK_split (fun h5 => ?_) (fun h5 => ?_)
  · simp only [gwL, gwB, gwD, gwE, gwS, gwTT, gwZ, gwN, gwC, Nat.reduceEqDiff, ↓reduceIte, Nat.reduceAdd, Nat.reduceLT, Nat.reduceLeDiff, Nat.reduceMul, h5]
    exact fin _ _ _ _ (by simp only [insL, h1, h2, h3, h4, h5, Bool.true_or, Bool.or_true, Bool.false_or, Bool.or_false, Bool.or_self, Bool.true_and, Bool.and_true, Bool.false_and, cond_true, cond_false]) (wk_ins ..)
  simp only [gwL, gwB, gwD, gwE, gwS, gwTT, gwZ, gwN, gwC, Nat.reduceEqDiff, ↓reduceIte, Nat.reduceAdd, Nat.reduceLT, Nat.reduceLeDiff, Nat.reduceMul, h5]
  refine iK_split (fun h6 => ?_) (fun h6 => ?_)
  · simp only [gwL, gwB, gwD, gwE, gwS, gwTT, gwZ, gwN, gwC, Nat.reduceEqDiff, ↓reduceIte, Nat.reduceAdd, Nat.reduceLT, Nat.reduceLeDiff, Nat.reduceMul, h6]
    exact fin _ _ _ _ (by simp only [insL, h1, h2, h3, h4, h5, h6, Bool.true_or, Bool.or_true, Bool.false_or, Bool.or_false, Bool.or_self, Bool.true_and, Bool.and_true, Bool.false_and, cond_true, cond_false]) (wk_ins ..)
  simp only [gwL, gwB, gwD, gwE, gwS, gwTT, gwZ, gwN, gwC, Nat.reduceEqDiff, ↓reduceIte, Nat.reduceAdd, Nat.reduceLT, Nat.reduceLeDiff, Nat.reduceMul, h6]
  refine iK_split (fun h7 => ?_) (fun h7 => ?_)
  · simp only [gwL, gwB, gwD, gwE, gwS, gwTT, gwZ, gwN, gwC, Nat.reduceEqDiff, ↓reduceIte, Nat.reduceAdd, Nat.reduceLT, Nat.reduceLeDiff, Nat.reduceMul, encD_take, encD_len]
    refine (c_Bare qd (hq (of_decide_eq_true h7)) _).use (wkL_refl _) fun _ => ?_
    simp only [gwL, gwB, gwD, gwE, gwS, gwTT, gwZ, gwN, gwC, Nat.reduceEqDiff, ↓reduceIte, Nat.reduceAdd, Nat.reduceLT, Nat.reduceLeDiff, Nat.reduceMul, encD_take, encD_len, encD_drop]
    exact fin _ { op := op, quote := bareD qd } _ _ (by simp only [insL, h1, h2, h3, h4, h5, h6, h7, Bool.true_or, Bool.or_true, Bool.false_or, Bool.or_false, Bool.or_self, Bool.true_and, Bool.and_true, Bool.false_and, cond_true, cond_false]) (wkL_refl _)
  simp only [gwL, gwB, gwD, gwE, gwS, gwTT, gwZ, gwN, gwC, Nat.reduceEqDiff, ↓reduceIte, Nat.reduceAdd, Nat.reduceLT, Nat.reduceLeDiff, Nat.reduceMul]
  refine iK_split (fun h8 => ?_) (fun h8 => ?_)
  · simp only [gwL, gwB, gwD, gwE, gwS, gwTT, gwZ, gwN, gwC, Nat.reduceEqDiff, ↓reduceIte, Nat.reduceAdd, Nat.reduceLT, Nat.reduceLeDiff, Nat.reduceMul]
    exact fin _ _ _ _ (by simp only [insL, h1, h2, h3, h4, h5, h6, h7, h8, Bool.true_or, Bool.or_true, Bool.false_or, Bool.or_false, Bool.or_self, Bool.true_and, Bool.and_true, Bool.false_and, cond_true, cond_false]) (wk_ins ..)
  simp only [gwL, gwB, gwD, gwE, gwS, gwTT, gwZ, gwN, gwC, Nat.reduceEqDiff, ↓reduceIte, Nat.reduceAdd, Nat.reduceLT, Nat.reduceLeDiff, Nat.reduceMul]
  refine iK_split (fun h9 => ?_) (fun h9 => ?_)
  · simp only [gwL, gwB, gwD, gwE, gwS, gwTT, gwZ, gwN, gwC, Nat.reduceEqDiff, ↓reduceIte, Nat.reduceAdd, Nat.reduceLT, Nat.reduceLeDiff, Nat.reduceMul, h9]
    exact fin _ _ _ _ (by simp only [insL, h1, h2, h3, h4, h5, h6, h7, h8, h9, Bool.true_or, Bool.or_true, Bool.false_or, Bool.or_false, Bool.or_self, Bool.true_and, Bool.and_true, Bool.false_and, cond_true, cond_false]) (wk_ins ..)
  simp only [gwL, gwB, gwD, gwE, gwS, gwTT, gwZ, gwN, gwC, Nat.reduceEqDiff, ↓reduceIte, Nat.reduceAdd, Nat.reduceLT, Nat.reduceLeDiff, Nat.reduceMul, h9]
  refine iK_split (fun h10 => ?_) (fun h10 => ?_)
  · simp only [gwL, gwB, gwD, gwE, gwS, gwTT, gwZ, gwN, gwC, Nat.reduceEqDiff, ↓reduceIte, Nat.reduceAdd, Nat.reduceLT, Nat.reduceLeDiff, Nat.reduceMul, h10]
    exact fin _ _ _ _ (by simp only [insL, h1, h2, h3, h4, h5, h6, h7, h8, h9, h10, Bool.true_or, Bool.or_true, Bool.false_or, Bool.or_false, Bool.or_self, Bool.true_and, Bool.and_true, Bool.false_and, cond_true, cond_false]) (wk_ins ..)
  simp only [gwL, gwB, gwD, gwE, gwS, gwTT, gwZ, gwN, gwC, Nat.reduceEqDiff, ↓reduceIte, Nat.reduceAdd, Nat.reduceLT, Nat.reduceLeDiff, Nat.reduceMul, h10]
  exact fin _ _ _ _ (by simp only [insL, h1, h2, h3, h4, h5, h6, h7, h8, h9, h10, Bool.true_or, Bool.or_true, Bool.false_or, Bool.or_false, Bool.or_self, Bool.true_and, Bool.and_true, Bool.false_and, cond_true, cond_false]) (wk_ins ..)
end Go.Proofs.Ytlblgbfpdlfedaa.Gx

namespace Go.Proofs.Ytlblgbfpdlfedaa.Gx
open Go Go.Proofs.Ytlblgbfpdlfedaa.Gw
set_option linter.unusedSimpArgs false
set_option linter.unusedVariables false

def codeL (gl : List Bind') (nm : Str) (base : Int) : List Ins → List Ins → List Ins × Int
  | [], out => (out, 0)
  | x :: r, out => bif !decide ((insL gl nm base x).2 = 0) then (out, (insL gl nm base x).2) else codeL gl nm base r (out ++ [(insL gl nm base x).1])
def protosL (gl : List Bind') (nm : Str) (base : Int) : List Pr → List Pr → List Pr × Int
  | [], ps => (ps, 0)
  | q :: r, ps => bif !decide ((codeL gl nm base q.code []).2 = 0) then (ps, (codeL gl nm base q.code []).2) else protosL gl nm base r (ps ++ [⟨q.args, (codeL gl nm base q.code []).1⟩])
/-- A procedure that is made, in a box. -/
structure QT (s : St) (o k : Nat) (a : Int) (out : List Ins) : Prop where
  box : s[o]? = some (.box [.int .i64 a, .lst 11 (some k) (out.map encI)])
  tip : s[k]? = some (.tip 51 out.length)
theorem QT.keep {s s' : St} {o k : Nat} {a : Int} {out : List Ins} {X : Nat → Prop} (h : QT s o k a out) (kp : Ks X s s') (ho : ¬ X o) (hk : ¬ X k) : QT s' o k a out :=
  ⟨by rw [kp.2 o (List.getElem?_eq_some_iff.1 h.box).1 ho, h.box], by rw [kp.2 k (List.getElem?_eq_some_iff.1 h.tip).1 hk, h.tip]⟩
theorem QT.ne {s : St} {o k : Nat} {a : Int} {out : List Ins} (h : QT s o k a out) : k ≠ o := by intro e; subst e; have := h.box; rw [h.tip] at this; cases this
theorem QT.lt {s : St} {o k : Nat} {a : Int} {out : List Ins} (h : QT s o k a out) : o < s.length ∧ k < s.length := ⟨(List.getElem?_eq_some_iff.1 h.box).1, (List.getElem?_eq_some_iff.1 h.tip).1⟩
theorem QT.push {s : St} {o k : Nat} {a : Int} {out : List Ins} (h : QT s o k a out) (x : Ins) :
    QT ((s.set k (.tip 51 (out.length + 1))).set o (.box [.int .i64 a, .lst 11 (some k) (out.map encI ++ [encI x])])) o k a (out ++ [x]) ∧
    Ks (fun j => j = o ∨ j = k) s ((s.set k (.tip 51 (out.length + 1))).set o (.box [.int .i64 a, .lst 11 (some k) (out.map encI ++ [encI x])])) := by
  obtain ⟨l1, l2⟩ := h.lt
  have n := h.ne
  refine ⟨⟨?_, ?_⟩, by simp, fun j _ hj => ?_⟩
  · rw [List.getElem?_set_self (by rw [List.length_set]; exact l1)]; simp
  · rw [List.getElem?_set_ne (Ne.symm n), List.getElem?_set_self l2]; simp
  · rw [List.getElem?_set_ne (fun e => hj (.inl e.symm)), List.getElem?_set_ne (fun e => hj (.inr e.symm))]
theorem wkRp_len {p : Nat → Prop} : ∀ {a b : List (List V)}, wkRp p a b → a.length = b.length
  | [], _, h => by simp only [wkRp] at h; subst h; rfl
  | x :: xs, _, h => by simp only [wkRp] at h; obtain ⟨z, zs, rfl, h1, h2⟩ := h; simp [wkRp_len h2]
theorem wkRp_app {p : Nat → Prop} : ∀ {a a' b b' : List (List V)}, wkRp p a a' → wkRp p b b' → wkRp p (a ++ b) (a' ++ b')
  | [], _, b, b', h, k => by simp only [wkRp] at h; subst h; exact k
  | x :: xs, _, b, b', h, k => by
    simp only [wkRp] at h
    obtain ⟨z, zs, rfl, h1, h2⟩ := h
    simp only [List.cons_append, wkRp]
    exact ⟨z, _, rfl, h1, wkRp_app h2 k⟩
theorem LK.pushP {s : St} {b kg kp ks : Nat} {gl : List Bind'} {rows : List (List V)} {ps : List Pr} {sts : List Int} (h : LK s b kg kp ks gl rows ps sts) (a : Int) (t : Option Nat) (out : List Ins) :
    LK ((s.set kp (.tip 46 (ps.length + 1))).set b (.box [.lst 3 (some kg) (rowsB gl), .lst 2 (some kp) (rows ++ [[.int .i64 a, .lst 11 t (out.map encI)]]), .lst 1 (some ks) (rowsI sts)])) b kg kp ks gl (rows ++ [[.int .i64 a, .lst 11 t (out.map encI)]]) (ps ++ [⟨a, out⟩]) sts ∧
    Ks (fun j => j = b ∨ j = kp) s ((s.set kp (.tip 46 (ps.length + 1))).set b (.box [.lst 3 (some kg) (rowsB gl), .lst 2 (some kp) (rows ++ [[.int .i64 a, .lst 11 t (out.map encI)]]), .lst 1 (some ks) (rowsI sts)])) := by
  obtain ⟨l1, l2, l3, l4⟩ := h.lt
  obtain ⟨n1, n2, n3⟩ := h.ne
  obtain ⟨o1, o2, o3⟩ := h.one
  refine ⟨⟨?_, ?_, ?_, ?_, ?_, h.one⟩, by simp, fun j _ hj => ?_⟩
  · rw [List.getElem?_set_self (by rw [List.length_set]; exact l1)]
  · rw [List.getElem?_set_ne n1, List.getElem?_set_ne (Ne.symm o1), h.tg]
  · rw [List.getElem?_set_ne n2, List.getElem?_set_self l3]; simp
  · rw [List.getElem?_set_ne n3, List.getElem?_set_ne o3, h.ts]
  · rw [List.map_append]
    refine wkRp_app h.rows ?_
    simp only [List.map_cons, List.map_nil, wkRp, encPr, lstI]
    exact ⟨_, _, rfl, wkL_cons (wk_refl _) (wkL_cons (wk_tok _ _ _) wkL_nil), rfl⟩
  · rw [List.getElem?_set_ne (fun e => hj (.inl e.symm)), List.getElem?_set_ne (fun e => hj (.inr e.symm))]
theorem LK.pushS {s : St} {b kg kp ks : Nat} {gl : List Bind'} {rows : List (List V)} {ps : List Pr} {sts : List Int} (h : LK s b kg kp ks gl rows ps sts) (x : Int) :
    LK ((s.set ks (.tip 3 (sts.length + 1))).set b (.box [.lst 3 (some kg) (rowsB gl), .lst 2 (some kp) rows, .lst 1 (some ks) (rowsI sts ++ [[.int .i64 x]])])) b kg kp ks gl rows ps (sts ++ [x]) ∧
    Ks (fun j => j = b ∨ j = ks) s ((s.set ks (.tip 3 (sts.length + 1))).set b (.box [.lst 3 (some kg) (rowsB gl), .lst 2 (some kp) rows, .lst 1 (some ks) (rowsI sts ++ [[.int .i64 x]])])) := by
  obtain ⟨l1, l2, l3, l4⟩ := h.lt
  obtain ⟨n1, n2, n3⟩ := h.ne
  obtain ⟨o1, o2, o3⟩ := h.one
  refine ⟨⟨?_, ?_, ?_, ?_, h.rows, h.one⟩, by simp, fun j _ hj => ?_⟩
  · rw [List.getElem?_set_self (by rw [List.length_set]; exact l1)]; simp [rowsI]
  · rw [List.getElem?_set_ne n1, List.getElem?_set_ne (Ne.symm o2), h.tg]
  · rw [List.getElem?_set_ne n2, List.getElem?_set_ne (Ne.symm o3), h.tp]
  · rw [List.getElem?_set_ne n3, List.getElem?_set_self l4]; simp
  · rw [List.getElem?_set_ne (fun e => hj (.inl e.symm)), List.getElem?_set_ne (fun e => hj (.inr e.symm))]

def isL (b kp ks : Nat) : Nat → Prop := fun j => j = b ∨ j = kp ∨ j = ks
set_option maxRecDepth 20000 in
set_option maxHeartbeats 16000000 in
theorem c_unit (s : St) (b kg kp ks : Nat) (gl : List Bind') (rows : List (List V)) (ps : List Pr) (sts : List Int) (u : Unit') (h : LK s b kg kp ks gl rows ps sts) (hu : u.protos.length ≤ 500) (hc : ∀ q ∈ u.protos, q.code.length ≤ 6000)
    (hq : ∀ q ∈ u.protos, ∀ x ∈ q.code, x.op = 3 → smallD x.quote) (hps : ps.length ≤ 1000000000) (hss : sts.length ≤ 1000000000) :
    VCalls Try.prog TT 17 [.ptr b 0, .ref (encU u)] s fun r s' => r = .ret (.int .i64 (protosL gl u.name ps.length u.protos ps).2) ∧ (∃ rows', LK s' b kg kp ks gl rows' (protosL gl u.name ps.length u.protos ps).1 (sts ++ [(ps.length : Int)])) ∧ Ks (isL b kp ks) s s' := by
  obtain ⟨lb0, lg0, lp0, ls0⟩ := h.lt
  refine vfunQ TT_ok (an := anL []) (L := [0, 1, 4, 5, 7, 8, 9, 10, 11, 33, 34, 35, 44, 45]) (rs := [.tmp 4]) Try.func17 rfl (by kernel_rfl) rfl Try.ntmps17 rfl rfl fun hst ha hf => ?_
  obtain ⟨nm, us⟩ := u
  simp only at hu hc hq ⊢
  have hrl := wkRp_len h.rows
  rw [List.length_map] at hrl
  have hsb : ∀ X, (s.set ks X)[b]? = some (.box [.lst 3 (some kg) (rowsB gl), .lst 2 (some kp) rows, .lst 1 (some ks) (rowsI sts)]) := fun X => by rw [List.getElem?_set_ne (Ne.symm h.ne.2.2), h.box]
  obtain ⟨hL1, hK1⟩ := h.pushS ps.length
  simp only [gwL, gwB, gwD, gwE, gwS, gwTT, gwZ, gwN, gwC, Nat.reduceEqDiff, ↓reduceIte, Nat.reduceAdd, Nat.reduceLT, Nat.reduceLeDiff, Nat.reduceMul, encU, lstPr, h.box, h.ts, hsb, hrl, rowsI_len, List.length_map]
  have hset : ((s.set ks (.tip 3 (sts.length + 1))).set b (.box [.lst 3 (some kg) (rowsB gl), .lst 2 (some kp) rows, .lst 1 (some ks) (rowsI sts ++ [[.int .i64 ps.length]])])) = ((s.set ks (.tip 3 (sts.length + 1))).set b (.box [.lst 3 (some kg) (rowsB gl), .lst 2 (some kp) rows, .lst 1 (some ks) (rowsI sts ++ [[.int .i64 ps.length]])])) := rfl
  generalize hS1 : ((s.set ks (.tip 3 (sts.length + 1))).set b (.box [.lst 3 (some kg) (rowsB gl), .lst 2 (some kp) rows, .lst 1 (some ks) (rowsI sts ++ [[.int .i64 ps.length]])])) = S1 at hL1 hK1 ⊢
  clear hset
  refine ⟨by omega, ?_⟩
  refine vfor (σ := Nat × St × List (List V) × List Pr) [0, 1, 5, 33, 34, 35] (fun x => [(0, true, .ptr b 0), (1, true, .ref (encU ⟨nm, us⟩)), (5, true, .int .i64 ps.length), (33, true, lstPr us), (34, true, .int .i64 us.length), (35, true, .int .i64 x.1)]) (fun x => x.2.1) (fun x => us.length - x.1) (fun x => x.1 ≤ us.length ∧ LK x.2.1 b kg kp ks gl x.2.2.1 x.2.2.2 (sts ++ [(ps.length : Int)]) ∧ Ks (isL b kp ks) s x.2.1 ∧ protosL gl nm ps.length us ps = protosL gl nm ps.length (us.drop x.1) x.2.2.2 ∧ x.2.2.2.length ≤ ps.length + x.1) (0, S1, rows, ps) rfl TT_ok ⟨Nat.zero_le _, hL1, hK1.mono fun j hj => hj.elim .inl (fun e => .inr (.inr e)), rfl, by simp⟩ rfl rfl ?_
  rintro ⟨i, S, r1, p1⟩ ⟨hi, hL, hK, hx, hn⟩
  simp only at hi hL hK hx hn ⊢
  have hsl := hK.1
  rcases at_or_end us i hi with ⟨hie, hd⟩ | ⟨q, hlt, hget, hdr⟩
  · have hie2 : i = us.length := hie
    subst hie2
    rw [hd, protosL] at hx
    rw [hx]
    simp only [gwL, gwB, gwD, gwE, gwS, gwTT, gwZ, gwN, gwC, Nat.reduceEqDiff, ↓reduceIte, Nat.reduceAdd, Nat.reduceLT, Nat.reduceLeDiff, Nat.reduceMul, lt_no]
    exact ⟨⟨r1, hL⟩, hK⟩
  · have hg : (us.map encPr).getD i [] = encPr q := getD_map hget
    have hcl := hc q (List.mem_of_getElem? hget)
    have hql := hq q (List.mem_of_getElem? hget)
    have w : IntKind.i64.wrap ((i : Int) + 1) = ((i + 1 : Nat) : Int) := next_i64 hlt (by omega)
    rw [hdr, protosL] at hx
    obtain ⟨qa, code⟩ := q
    simp only at hx hcl hql
    simp only [lstPr]
    simp only [gwL, gwB, gwD, gwE, gwS, gwTT, gwZ, gwN, gwC, Nat.reduceEqDiff, ↓reduceIte, Nat.reduceAdd, Nat.reduceLT, Nat.reduceLeDiff, Nat.reduceMul, lt_yes hlt, hg, encPr, lstI, List.length_map, Int.ofNat_lt.mpr hlt]
    refine vmore [51] [0, 1, 5, 7, 8, 33, 34, 35, 44, 45] [(0, true, .ptr b 0), (1, true, .ref (encU ⟨nm, us⟩)), (5, true, .int .i64 ps.length), (7, true, .ptr S.length 0), (8, true, .ptr (S.length + 1) 0), (33, true, lstPr us), (34, true, .int .i64 us.length), (35, true, .int .i64 i), (44, true, .int .i64 code.length), (45, true, .int .i64 0)] ((S ++ [Ent.box [.int .i64 qa, .lst 11 none (code.map encI)], Ent.box [.int .i64 qa, .lst 11 (some (S.length + 2)) []]]) ++ [Ent.tip 51 0]) rfl ?_ ?_ ?_
    · simp only [gwL, gwB, gwD, gwE, gwS, gwTT, gwZ, gwN, gwC, Nat.reduceEqDiff, ↓reduceIte, Nat.reduceAdd, Nat.reduceLT, Nat.reduceLeDiff, Nat.reduceMul, Env.keep]
      exact wkE_refl _
    · exact ⟨_, (wkSt_refl _).append (wkSt_cons (Ent.wkp_refl _) (wkSt_cons (Ent.wk_box (wkL_cons (wk_refl _) (wkL_cons (wk_tip _ (by simp [Tips])) wkL_nil))) wkSt_nil)), rfl⟩
    obtain ⟨S2, hS2⟩ : ∃ S2 : St, S2 = (S ++ [Ent.box [.int .i64 qa, .lst 11 none (code.map encI)], Ent.box [.int .i64 qa, .lst 11 (some (S.length + 2)) []]]) ++ [Ent.tip 51 0] := ⟨_, rfl⟩
    rw [← hS2]
    have hQ2 : QT S2 (S.length + 1) (S.length + 2) qa [] := ⟨by rw [hS2]; simp, by rw [hS2]; simp⟩
    have h7 : S2[S.length]? = some (.box [.int .i64 qa, .lst 11 none (code.map encI)]) := by rw [hS2]; simp
    have hL2 : LK S2 b kg kp ks gl r1 p1 (sts ++ [(ps.length : Int)]) := by rw [hS2, List.append_assoc]; exact hL.app _
    have hK2 : Ks (isL b kp ks) s S2 := by rw [hS2, List.append_assoc]; exact hK.trans ⟨by simp, fun j hj _ => st_old hj⟩
    have hl2 : S.length + 3 = S2.length := by rw [hS2]; simp
    refine vfor (σ := Nat × St × List Ins) [0, 1, 5, 7, 8, 33, 34, 35, 44, 45] (fun y => [(0, true, .ptr b 0), (1, true, .ref (encU ⟨nm, us⟩)), (5, true, .int .i64 ps.length), (7, true, .ptr S.length 0), (8, true, .ptr (S.length + 1) 0), (33, true, lstPr us), (34, true, .int .i64 us.length), (35, true, .int .i64 i), (44, true, .int .i64 code.length), (45, true, .int .i64 y.1)]) (fun y => y.2.1) (fun y => code.length - y.1) (fun y => y.1 ≤ code.length ∧ LK y.2.1 b kg kp ks gl r1 p1 (sts ++ [(ps.length : Int)]) ∧ QT y.2.1 (S.length + 1) (S.length + 2) qa y.2.2 ∧ y.2.1[S.length]? = some (.box [.int .i64 qa, .lst 11 none (code.map encI)]) ∧ Ks (isL b kp ks) s y.2.1 ∧ codeL gl nm ps.length code [] = codeL gl nm ps.length (code.drop y.1) y.2.2 ∧ y.2.2.length = y.1) (0, S2, []) rfl TT_ok ⟨Nat.zero_le _, hL2, hQ2, h7, hK2, rfl, rfl⟩ rfl rfl ?_
    rintro ⟨j, S3, out⟩ ⟨hj, hL3, hQ3, h73, hK3, hy, hol⟩
    simp only at hj hL3 hQ3 h73 hK3 hy hol ⊢
    obtain ⟨lo, lk⟩ := hQ3.lt
    rcases at_or_end code j hj with ⟨hje, hjd⟩ | ⟨v, hjt, hju, hjr⟩
    · have hje2 : j = code.length := hje
      subst hje2
      rw [hjd, codeL] at hy
      rw [hy] at hx
      simp only [decide_true, Bool.not_true, cond_false] at hx
      obtain ⟨hL4, hK4⟩ := hL3.pushP qa (some (S.length + 2)) out
      have hbk : ∀ X, (S3.set kp X)[b]? = some (.box [.lst 3 (some kg) (rowsB gl), .lst 2 (some kp) r1, .lst 1 (some ks) (rowsI (sts ++ [(ps.length : Int)]))]) := fun X => by rw [List.getElem?_set_ne (Ne.symm hL3.ne.2.1), hL3.box]
      have hrl1 := wkRp_len hL3.rows
      rw [List.length_map] at hrl1
      simp only [gwL, gwB, gwD, gwE, gwS, gwTT, gwZ, gwN, gwC, Nat.reduceEqDiff, ↓reduceIte, Nat.reduceAdd, Nat.reduceLT, Nat.reduceLeDiff, Nat.reduceMul, lt_no]
      refine vdraw TT_ok TT_mixed [0, 0, 0, 0, 0, 1, 1, 1, 2, 0, 0, 0, 2] (by kernel_rfl) ?_
      simp only [gwL, gwB, gwD, gwE, gwS, gwTT, gwZ, gwN, gwC, Nat.reduceEqDiff, ↓reduceIte, Nat.reduceAdd, Nat.reduceLT, Nat.reduceLeDiff, Nat.reduceMul, hL3.box, hL3.tp, hQ3.box, hbk, hrl1, w, Env.keep]
      exact ⟨by omega, (i + 1, _, _, p1 ++ [(⟨qa, out⟩ : Pr)]), rfl, rfl, by simp only; omega, by simp only; omega, hL4, hK3.trans (hK4.mono fun j hj => hj.elim .inl (fun e => .inr (.inl e))), hx, by simp only [List.length_append, List.length_cons, List.length_nil]; omega⟩
    · have hgv : (code.map encI).getD j [] = encI v := getD_map hju
      have w2 : IntKind.i64.wrap ((j : Int) + 1) = ((j + 1 : Nat) : Int) := next_i64 hjt (by omega)
      rw [hjr, codeL] at hy
      simp only [gwL, gwB, gwD, gwE, gwS, gwTT, gwZ, gwN, gwC, Nat.reduceEqDiff, ↓reduceIte, Nat.reduceAdd, Nat.reduceLT, Nat.reduceLeDiff, Nat.reduceMul, lt_yes hjt, h73, hgv, Int.toNat_natCast, Int.ofNat_lt.mpr hjt, List.length_map]
      refine (c_link_ins S3 b (some kg) gl _ _ ⟨nm, us⟩ ps.length v hL3.box (hql v (List.mem_of_getElem? hju))).use (wkL_refl _) fun _ => ?_
      simp only
      generalize hrr : insL gl nm ps.length v = rr at hy ⊢
      obtain ⟨y, e⟩ := rr
      simp only at hy ⊢
      have hyl := encI_len y
      have hyt : (encI y).take 11 = encI y := List.take_of_length_le (by omega)
      have hyd : (encI y).drop 11 = [] := List.drop_of_length_le (by omega)
      simp only [gwL, gwB, gwD, gwE, gwS, gwTT, gwZ, gwN, gwC, Nat.reduceEqDiff, ↓reduceIte, Nat.reduceAdd, Nat.reduceLT, Nat.reduceLeDiff, Nat.reduceMul, hyl, hyt, hyd, Nat.le_refl]
      obtain ⟨S4, hS4⟩ : ∃ S4 : St, S4 = S3 ++ [Ent.box (encI y)] := ⟨_, rfl⟩
      rw [← hS4]
      have hk34 : ∀ X : Nat → Prop, Ks X S3 S4 := fun X => by rw [hS4]; exact ⟨by simp, fun j hj _ => st_old hj⟩
      have h10 : S4[S3.length]? = some (.box (encI y)) := by rw [hS4]; simp
      have hL4 : LK S4 b kg kp ks gl r1 p1 (sts ++ [(ps.length : Int)]) := hL3.keep (hk34 fun _ => False) (fun _ e => e.elim)
      have hQ4 : QT S4 (S.length + 1) (S.length + 2) qa out := hQ3.keep (hk34 fun _ => False) id id
      have h74 : S4[S.length]? = some (.box [.int .i64 qa, .lst 11 none (code.map encI)]) := by rw [(hk34 fun _ => False).2 _ (by omega) id, h73]
      have hK4 : Ks (isL b kp ks) s S4 := hK3.trans (hk34 _)
      refine iK_split (fun h1 => ?_) (fun h1 => ?_)
      · rw [h1] at hy
        simp only [cond_true] at hy
        rw [hy] at hx
        simp only [h1, cond_true] at hx
        rw [hx]
        simp only [gwL, gwB, gwD, gwE, gwS, gwTT, gwZ, gwN, gwC, Nat.reduceEqDiff, ↓reduceIte, Nat.reduceAdd, Nat.reduceLT, Nat.reduceLeDiff, Nat.reduceMul]
        exact ⟨⟨r1, hL4⟩, hK4⟩
      · rw [h1] at hy
        simp only [cond_false] at hy
        obtain ⟨hQ5, hK5⟩ := hQ4.push y
        have hok : ∀ X, (S4.set (S.length + 2) X)[S.length + 1]? = some (.box [.int .i64 qa, .lst 11 (some (S.length + 2)) (out.map encI)]) := fun X => by rw [List.getElem?_set_ne (by omega), hQ4.box]
        have hnL : ∀ j, j = S.length + 1 ∨ j = S.length + 2 → j ≠ b ∧ j ≠ kg ∧ j ≠ kp ∧ j ≠ ks := fun j hj => by omega
        simp only [gwL, gwB, gwD, gwE, gwS, gwTT, gwZ, gwN, gwC, Nat.reduceEqDiff, ↓reduceIte, Nat.reduceAdd, Nat.reduceLT, Nat.reduceLeDiff, Nat.reduceMul, hQ4.box, hQ4.tip, h10, hok, hyl, hyt, List.length_map, w2, Env.keep, Nat.le_refl]
        refine ⟨by omega, (j + 1, _, out ++ [y]), rfl, rfl, by simp only; omega, by simp only; omega, hL4.keep hK5 hnL, hQ5, ?_, ⟨Nat.le_trans hK4.1 hK5.1, fun j hj hx => ?_⟩, hy, by simp only [List.length_append, List.length_cons, List.length_nil]; omega⟩
        · exact (hK5.2 _ (by have := hQ4.lt; omega) (by omega)).trans h74
        · exact (hK5.2 j (by have := hK4.1; omega) (by omega)).trans (hK4.2 j hj hx)
end Go.Proofs.Ytlblgbfpdlfedaa.Gx

namespace Go.Proofs.Ytlblgbfpdlfedaa.Gx
open Go Go.Proofs.Ytlblgbfpdlfedaa.Gw
set_option linter.unusedSimpArgs false
set_option linter.unusedVariables false

theorem insG_zero {ps : List Pr} {G : Int} {p : Nat} : ∀ {l : List Ins} {ar : List Int}, (insG ps G p l ar).1 = 0 → ∀ x ∈ l, ∃ ar', (insE ps G p x ar').1 = 0
  | [], _, _, x, h => by simp at h
  | y :: r, ar, h, x, hx => by
    rw [insG] at h
    cases h1 : decide ((insE ps G p y ar).1 = 0) with
    | false => rw [h1] at h; simp only [Bool.not_false, cond_true] at h; exact absurd h (of_decide_eq_false h1)
    | true =>
      rw [h1] at h
      simp only [Bool.not_true, cond_false] at h
      rcases List.mem_cons.1 hx with rfl | hx
      · exact ⟨ar, of_decide_eq_true h1⟩
      · exact insG_zero h x hx
theorem protoG_zero {ps : List Pr} {G : Int} {bs : List Int} : ∀ {l : List Pr} {p : Nat} {ar : List Int}, protoG ps G bs l p ar = 0 → ∀ q ∈ l, ∃ p' ar', (insG ps G p' q.code ar').1 = 0
  | [], _, _, _, q, h => by simp at h
  | y :: r, p, ar, h, q, hq => by
    rw [protoG] at h
    cases h1 : decide (ar.getD p 0 < 0) with
    | true => rw [h1] at h; simp at h
    | false =>
      rw [h1] at h
      cases h2 : decide ((insG ps G p y.code ar).1 = 0) with
      | false => rw [h2] at h; simp only [Bool.not_false, cond_true, cond_false] at h; exact absurd h (of_decide_eq_false h2)
      | true =>
        rw [h2] at h
        cases h3 : decide (stackE y.code (decide ((p : Int) ∈ bs)) = 0) with
        | false => rw [h3] at h; simp only [Bool.not_false, Bool.not_true, cond_true, cond_false] at h; exact absurd h (of_decide_eq_false h3)
        | true =>
          rw [h3] at h
          simp only [Bool.not_true, cond_false] at h
          rcases List.mem_cons.1 hq with rfl | hq
          · exact ⟨p, ar, of_decide_eq_true h2⟩
          · exact protoG_zero h q hq
structure UnitOk (u : Unit') : Prop where
  plain : plainB u.name = true
  few : 1 ≤ u.protos.length ∧ u.protos.length ≤ 500
  form : ∀ q ∈ u.protos, 1 ≤ q.code.length ∧ q.code.length ≤ 6000 ∧ 0 ≤ q.args ∧ q.args ≤ 2000
  shape : shapeE u.protos (-1) [0] = 0
theorem unit_ok {u : Unit'} (h : unitE u = 0) : UnitOk u := by
  unfold unitE at h
  cases h1 : plainB u.name with
  | false => rw [h1] at h; simp at h
  | true =>
    rw [h1] at h
    cases h2 : decide ((u.protos.length : Int) < 1) || decide (500 < (u.protos.length : Int)) with
    | true => rw [h2] at h; simp at h
    | false =>
      rw [h2] at h
      simp only [Bool.or_eq_false_iff, decide_eq_false_iff_not] at h2
      cases h3 : decide (formE u.protos = 0) with
      | false => rw [h3] at h; simp only [Bool.not_false, Bool.not_true, cond_true, cond_false] at h; exact absurd h (of_decide_eq_false h3)
      | true =>
        rw [h3] at h
        simp only [Bool.not_true, cond_false] at h
        exact ⟨h1, by omega, formE_code (of_decide_eq_true h3), h⟩
theorem UnitOk.ins {u : Unit'} (h : UnitOk u) : ∀ q ∈ u.protos, ∀ x ∈ q.code, ∃ p ar, (insE u.protos (-1) p x ar).1 = 0 := by
  intro q hq x hx
  have hs := h.shape
  unfold shapeE at hs
  cases hb : bodiesG u.protos [0] (List.replicate u.protos.length (-1)) with
  | none => rw [hb] at hs; simp at hs
  | some ar =>
    rw [hb] at hs
    obtain ⟨p, ar', h1⟩ := protoG_zero hs q hq
    obtain ⟨ar2, h2⟩ := insG_zero h1 x hx
    exact ⟨p, ar2, h2⟩
theorem UnitOk.quote {u : Unit'} (h : UnitOk u) : ∀ q ∈ u.protos, ∀ x ∈ q.code, x.op = 3 → goodD x.quote := by
  intro q hq x hx h3
  obtain ⟨p, ar, h1⟩ := h.ins q hq x hx
  refine wrongL_good ?_
  simpa [insE, h3] using h1

/-- An image. -/
structure Im where
  gl : List Bind'
  ps : List Pr
  sts : List Int
def noIm : Im := ⟨[], [], []⟩
def encIm (im : Im) : List V := [.lst 3 none (rowsB im.gl), lstPr im.ps, .lst 1 none (rowsI im.sts)]
def linkV (r : Im × Int × Int) : V := .tup [.agg (encIm r.1), fltV r.2]
def errL (l : List Unit') (i : Nat) (u : Unit') : Int := bif decide (unitE u = 0) && (l.take i).any (fun o => decide (o.name = u.name)) then 7 else unitE u
def checkL (l : List Unit') : List Unit' → Nat → List Bind' → Int × Nat × List Bind'
  | [], _, gl => (0, 0, gl)
  | u :: r, i, gl =>
    bif decide (errL l i u = 0) then
      (bif !decide ((globP u.name u.protos gl).1 = 0) then ((globP u.name u.protos gl).1, i, (globP u.name u.protos gl).2) else checkL l r (i + 1) (globP u.name u.protos gl).2)
    else (errL l i u, i, gl)
def unitsL (gl : List Bind') : List Unit' → Nat → List Pr → List Int → Int × Nat × List Pr × List Int
  | [], _, ps, sts => (0, 0, ps, sts)
  | u :: r, i, ps, sts =>
    bif !decide ((protosL gl u.name ps.length u.protos ps).2 = 0) then ((protosL gl u.name ps.length u.protos ps).2, i, ps, sts)
    else unitsL gl r (i + 1) (protosL gl u.name ps.length u.protos ps).1 (sts ++ [(ps.length : Int)])
def linkL (l : List Unit') : Im × Int × Int :=
  bif decide (40 < (l.length : Int)) then (noIm, 5, 0) else
  bif !decide ((checkL l l 0 []).1 = 0) then (noIm, (checkL l l 0 []).1, ((checkL l l 0 []).2.1 : Nat)) else
  bif decide (500 < ((checkL l l 0 []).2.2.length : Int)) then (noIm, 4, 0) else
  bif !decide ((unitsL (checkL l l 0 []).2.2 l 0 [] []).1 = 0) then (noIm, (unitsL (checkL l l 0 []).2.2 l 0 [] []).1, ((unitsL (checkL l l 0 []).2.2 l 0 [] []).2.1 : Nat)) else
  (⟨(checkL l l 0 []).2.2, (unitsL (checkL l l 0 []).2.2 l 0 [] []).2.2.1, (unitsL (checkL l l 0 []).2.2 l 0 [] []).2.2.2⟩, 0, 0)
theorem errL_zero {l : List Unit'} {i : Nat} {u : Unit'} (h : errL l i u = 0) : unitE u = 0 := by
  unfold errL at h
  cases h1 : decide (unitE u = 0) && (l.take i).any (fun o => decide (o.name = u.name)) with
  | true => rw [h1] at h; simp at h
  | false => rw [h1] at h; simpa using h
theorem checkL_zero {l : List Unit'} : ∀ {r : List Unit'} {i : Nat} {gl : List Bind'}, (checkL l r i gl).1 = 0 → ∀ u ∈ r, unitE u = 0
  | [], _, _, _, u, h => by simp at h
  | v :: r, i, gl, h, u, hu => by
    rw [checkL] at h
    cases h1 : decide (errL l i v = 0) with
    | false => rw [h1] at h; simp only [cond_false] at h; exact absurd h (of_decide_eq_false h1)
    | true =>
      rw [h1] at h
      cases h2 : decide ((globP v.name v.protos gl).1 = 0) with
      | false => rw [h2] at h; simp only [Bool.not_false, cond_true] at h; exact absurd h (of_decide_eq_false h2)
      | true =>
        rw [h2] at h
        simp only [Bool.not_true, cond_true, cond_false] at h
        rcases List.mem_cons.1 hu with rfl | hu
        · exact errL_zero (of_decide_eq_true h1)
        · exact checkL_zero h u hu
theorem globP_len (nm : Str) : ∀ (l : List Pr) (gl : List Bind'), (∀ q ∈ l, q.code.length ≤ 6000) → (globP nm l gl).2.length ≤ gl.length + 6000 * l.length
  | [], gl, _ => by simp [globP]
  | p :: r, gl, h => by
    rw [globP]
    have h1 := globI_len nm p.code gl
    have h2 := h p (by simp)
    cases decide ((globI nm p.code gl).1 = 0)
    · simp only [Bool.not_false, cond_true, List.length_cons]; omega
    · have h3 := globP_len nm r (globI nm p.code gl).2 (fun q hq => h q (by simp [hq]))
      simp only [Bool.not_true, cond_false, List.length_cons]; omega
theorem protosL_len (gl : List Bind') (nm : Str) (base : Int) : ∀ (l ps : List Pr), (protosL gl nm base l ps).1.length ≤ ps.length + l.length
  | [], ps => by simp [protosL]
  | q :: r, ps => by
    rw [protosL]
    cases decide ((codeL gl nm base q.code []).2 = 0)
    · simp
    · have := protosL_len gl nm base r (ps ++ [⟨q.args, (codeL gl nm base q.code []).1⟩])
      simp only [List.length_append, List.length_cons, List.length_nil] at this
      simp only [Bool.not_true, cond_false, List.length_cons]; omega
end Go.Proofs.Ytlblgbfpdlfedaa.Gx

namespace Go.Proofs.Ytlblgbfpdlfedaa.Gx
open Go Go.Proofs.Ytlblgbfpdlfedaa.Gw
set_option linter.unusedSimpArgs false
set_option linter.unusedVariables false

theorem comeIn_all {p : Int} : ∀ {l : List (Int × Int)} {c h : Int}, comeIn p l c = some h → 0 ≤ c → ∀ e ∈ l, e.1 = p → e.2 = c
  | [], _, _, _, _, e, he => by simp at he
  | (a, x) :: r, c, h, hc, h0, e, he => by
    rw [comeIn] at hc
    intro hp
    by_cases ha : a = p
    · simp only [ha, decide_true, Bool.not_true, cond_false] at hc
      cases h1 : decide (0 ≤ c) && !decide (c = x) with
      | true => rw [h1] at hc; simp at hc
      | false =>
        rw [h1] at hc
        simp only [cond_false] at hc
        have hcx : c = x := by simpa [h0] using h1
        rcases List.mem_cons.1 he with rfl | he
        · exact hcx.symm
        · rw [hcx]; exact comeIn_all hc (by omega) e he hp
    · simp only [ha, decide_false, Bool.not_false, cond_true] at hc
      rcases List.mem_cons.1 he with rfl | he
      · exact absurd hp ha
      · exact comeIn_all hc h0 e he hp
theorem comeIn_eq {p : Int} : ∀ {l : List (Int × Int)} {c h : Int}, comeIn p l c = some h → ∀ e ∈ l, ∀ f ∈ l, e.1 = p → f.1 = p → 0 ≤ e.2 → 0 ≤ f.2 → e.2 = f.2
  | [], _, _, _, e, he => by simp at he
  | (a, x) :: r, c, h, hc, e, he => by
    rw [comeIn] at hc
    intro f hf h1 h2 h3 h4
    by_cases ha : a = p
    · simp only [ha, decide_true, Bool.not_true, cond_false] at hc
      cases hb : decide (0 ≤ c) && !decide (c = x) with
      | true => rw [hb] at hc; simp at hc
      | false =>
        rw [hb] at hc
        simp only [cond_false] at hc
        rcases List.mem_cons.1 he with rfl | he <;> rcases List.mem_cons.1 hf with rfl | hf
        · rfl
        · exact (comeIn_all hc h3 f hf h2).symm
        · exact comeIn_all hc h4 e he h1
        · exact comeIn_eq hc e he f hf h1 h2 h3 h4
    · simp only [ha, decide_false, Bool.not_false, cond_true] at hc
      rcases List.mem_cons.1 he with rfl | he
      · exact absurd h1 ha
      rcases List.mem_cons.1 hf with rfl | hf
      · exact absurd h2 ha
      exact comeIn_eq hc e he f hf h1 h2 h3 h4
theorem comeIn_none {p : Int} : ∀ {l : List (Int × Int)} {c : Int}, (∀ e ∈ l, e.1 ≠ p) → comeIn p l c = some c
  | [], _, _ => rfl
  | (a, x) :: r, c, h => by
    have := h (a, x) (by simp)
    simp only at this
    rw [comeIn]
    simp only [this, decide_false, Bool.not_false, cond_true]
    exact comeIn_none fun e he => h e (by simp [he])
theorem comeIn_some {p h : Int} (h0 : 0 ≤ h) : ∀ {l : List (Int × Int)} {c : Int}, (∀ e ∈ l, e.1 = p → e.2 = h) → (c = -1 ∨ c = h) → (∃ e ∈ l, e.1 = p) ∨ c = h → comeIn p l c = some h
  | [], c, _, _, hx => by
    rcases hx with ⟨e, he, _⟩ | rfl
    · simp at he
    · rfl
  | (a, x) :: r, c, hl, hc, hx => by
    rw [comeIn]
    by_cases ha : a = p
    · have hxh := hl (a, x) (by simp) ha
      simp only at hxh
      subst hxh
      have hb : (decide (0 ≤ c) && !decide (c = x)) = false := by rcases hc with rfl | rfl <;> simp
      simp only [ha, decide_true, Bool.not_true, cond_false, hb]
      exact comeIn_some h0 (fun e he => hl e (by simp [he])) (.inr rfl) (.inr rfl)
    · simp only [ha, decide_false, Bool.not_false, cond_true]
      refine comeIn_some h0 (fun e he => hl e (by simp [he])) hc ?_
      rcases hx with ⟨e, he, hp⟩ | hx
      · rcases List.mem_cons.1 he with rfl | he
        · exact absurd hp ha
        · exact .inl ⟨e, he, hp⟩
      · exact .inr hx

/-- Where two come to a place with unlike heights. -/
theorem heights_bad {n : Nat} {body : Bool} {j : Int} {x y : Int} (hxy : x ≠ y) (hx : 0 ≤ x) (hy : 0 ≤ y) : ∀ {r : List Ins} {i : Nat} {next : List (Int × Int)}, (j, x) ∈ next → (j, y) ∈ next → (i : Int) ≤ j → j < n → i + r.length = n → heightsG n body r i next = false
  | [], i, next, _, _, h1, h2, h3 => by simp only [List.length_nil] at h3; omega
  | u :: r, i, next, m1, m2, h1, h2, h3 => by
    rw [List.length_cons] at h3
    rw [heightsG]
    cases hc : comeIn i next (-1) with
    | none => rfl
    | some h =>
      by_cases hij : (i : Int) = j
      · exact absurd (comeIn_eq hc _ m1 _ m2 hij.symm hij.symm hx hy) hxy
      · have ih : ∀ ex, heightsG n body r (i + 1) (next ++ ex) = false := fun ex => heights_bad hxy hx hy (List.mem_append_left _ m1) (List.mem_append_left _ m2) (by omega) h2 (by omega)
        have ih0 := ih []
        rw [List.append_nil] at ih0
        simp only [ih, ih0]
        cases decide (h < 0) <;> cases decide (u.op = 15) <;> cases decide (h < (movesI u.op u.a).1) <;> cases decide (u.op = 9) <;> cases decide (u.op = 10) <;> cases decide (u.a ≤ (i : Int)) <;> cases decide (((i + 1 : Nat) : Int) = n) <;> simp

/-- What is known of an instruction, its own being right. -/
def OpsOk (n : Nat) (x : Ins) : Prop := (x.op = 8 → 0 ≤ x.a ∧ x.a ≤ 2000) ∧ (x.op = 9 ∨ x.op = 10 → 0 ≤ x.a ∧ x.a < n)
theorem moves_ok {n : Nat} {x : Ins} (h : OpsOk n x) : 0 ≤ (movesI x.op x.a).1 ∧ (movesI x.op x.a).1 ≤ 2001 ∧ 0 ≤ (movesI x.op x.a).2 ∧ (movesI x.op x.a).2 ≤ 1 := by
  unfold movesI
  by_cases h8 : x.op = 8
  · have := h.1 h8
    simp only [h8, decide_true, cond_true]
    rw [wrap_i64 (by omega) (by omega)]
    omega
  · simp only [h8, decide_false, cond_false]
    cases decide (x.op = 9) <;> cases (decide (x.op = 10) || decide (x.op = 14)) <;> cases (decide (x.op = 11) || decide (x.op = 12) || decide (x.op = 13)) <;> simp
structure CH (i n : Nat) (high : List Int) (next : List (Int × Int)) : Prop where
  ent : ∀ e ∈ next, (i : Int) ≤ e.1 → 0 ≤ e.2 ∧ high.getD e.1.toNat 0 = e.2
  hi : ∀ j : Nat, i ≤ j → j < n → high.getD j 0 = -1 ∨ (0 ≤ high.getD j 0 ∧ ∃ e ∈ next, e.1 = j)
  top : ∀ e ∈ next, e.1 < n ∧ e.2 ≤ i
theorem CH.come {i n : Nat} {high : List Int} {next : List (Int × Int)} (h : CH i n high next) (hi : i < n) : comeIn i next (-1) = some (high.getD i 0) := by
  rcases h.hi i (Nat.le_refl _) hi with h1 | ⟨h1, e, he, h2⟩
  · rw [h1]
    refine comeIn_none fun e he hp => ?_
    have := h.ent e he (by omega)
    rw [hp, Int.toNat_natCast, h1] at this
    omega
  · refine comeIn_some h1 (fun f hf hp => ?_) (.inl rfl) (.inl ⟨e, he, h2⟩)
    have := h.ent f hf (by omega)
    rw [hp, Int.toNat_natCast] at this
    exact this.2.symm
theorem CH.next {i n : Nat} {high : List Int} {next : List (Int × Int)} (h : CH i n high next) : CH (i + 1) n high next :=
  ⟨fun e he h1 => h.ent e he (by omega), fun j h1 h2 => h.hi j (by omega) h2, fun e he => ⟨(h.top e he).1, by have := (h.top e he).2; omega⟩⟩
theorem getD_set_eq {l : List Int} {k : Nat} {x : Int} (h : k < l.length) : (l.set k x).getD k 0 = x := by
  rw [List.getD_eq_getElem?_getD, List.getElem?_set_self h]; rfl
theorem getD_set_ne {l : List Int} {k j : Nat} {x : Int} (h : k ≠ j) : (l.set k x).getD j 0 = l.getD j 0 := by
  rw [List.getD_eq_getElem?_getD, List.getElem?_set_ne h, ← List.getD_eq_getElem?_getD]
/-- A place that is come to: either all comes to nothing, or it is as it should be. -/
theorem CH.meet {i n : Nat} {high : List Int} {next : List (Int × Int)} (h : CH i n high next) (hl : high.length = n) {a x : Int} (ha : (i : Int) ≤ a) (hn : a < n) (hx : 0 ≤ x) (hxi : x ≤ i) :
    ((meetP n high a x).1 = false ∧ ∃ y, y ≠ x ∧ 0 ≤ y ∧ (a, y) ∈ next) ∨ ((meetP n high a x).1 = true ∧ CH i n (meetP n high a x).2 (next ++ [(a, x)])) := by
  obtain ⟨k, rfl⟩ : ∃ k : Nat, a = k := ⟨a.toNat, by omega⟩
  unfold meetP
  have e1 : decide ((n : Int) ≤ (k : Int)) = false := decide_eq_false (by omega)
  simp only [e1, Bool.false_or, Int.toNat_natCast]
  cases hb : decide (0 ≤ high.getD k 0) && !decide (high.getD k 0 = x) with
  | true =>
    left
    simp only [Bool.and_eq_true, decide_eq_true_eq, Bool.not_eq_true', decide_eq_false_iff_not] at hb
    refine ⟨rfl, high.getD k 0, hb.2, hb.1, ?_⟩
    rcases h.hi k (by omega) (by omega) with h1 | ⟨h1, e, he, h2⟩
    · omega
    · have := (h.ent e he (by omega)).2
      rw [h2, Int.toNat_natCast] at this
      rw [this]
      obtain ⟨e1, e2⟩ := e
      simp only at h2 ⊢
      rw [← h2]; exact he
  | false =>
    right
    refine ⟨rfl, ⟨fun e he h1 => ?_, fun j h1 h2 => ?_, fun e he => ?_⟩⟩
    · simp only [cond_false]
      rcases List.mem_append.1 he with he | he
      · obtain ⟨q1, q2⟩ := h.ent e he h1
        refine ⟨q1, ?_⟩
        by_cases e' : e.1 = k
        · rw [e', Int.toNat_natCast, getD_set_eq (by omega)]
          rw [e', Int.toNat_natCast] at q2
          have : high.getD k 0 = x := by
            rw [q2] at hb ⊢
            simpa [q1] using hb
          omega
        · have := (h.top e he).1
          rw [getD_set_ne (by omega)]; exact q2
      · simp only [List.mem_singleton] at he
        subst he
        exact ⟨hx, by simp only [Int.toNat_natCast]; exact getD_set_eq (by omega)⟩
    · simp only [cond_false]
      by_cases e' : k = j
      · subst e'
        rw [getD_set_eq (by omega)]
        exact .inr ⟨hx, (k, x), by simp, rfl⟩
      · rw [getD_set_ne e']
        rcases h.hi j h1 h2 with h3 | ⟨h3, e, he, h4⟩
        · exact .inl h3
        · exact .inr ⟨h3, e, by simp [he], h4⟩
    · rcases List.mem_append.1 he with he | he
      · exact h.top e he
      · simp only [List.mem_singleton] at he
        subst he
        exact ⟨by simp only; omega, hxi⟩

theorem heights_stack {n : Nat} {body : Bool} (hn : n ≤ 1000000) : ∀ (r : List Ins) (i : Nat) (high : List Int) (next : List (Int × Int)), (∀ x ∈ r, OpsOk n x) → i + r.length = n → high.length = n → CH i n high next →
    heightsG n body r i next = decide (stackG n body r i high = 0) ∧ (stackG n body r i high = 0 ∨ stackG n body r i high = 8)
  | [], i, high, next, _, _, _, _ => by simp [heightsG, stackG]
  | u :: r, i, high, next, hok, hil, hl, hC => by
    rw [List.length_cons] at hil
    have hi : i < n := by omega
    have hr : ∀ x ∈ r, OpsOk n x := fun x hx => hok x (by simp [hx])
    have hu := hok u (by simp)
    obtain ⟨d1, d2, d3, d4⟩ := moves_ok hu
    have hcome := hC.come hi
    have hhi : high.getD i 0 ≤ i := by
      rcases hC.hi i (Nat.le_refl _) hi with h1 | ⟨h1, e, he, h2⟩
      · omega
      · have q1 := hC.ent e he (by omega)
        have q2 := (hC.top e he).2
        rw [h2, Int.toNat_natCast] at q1
        omega
    rw [heightsG, hcome, stackG]
    simp only
    generalize high.getD i 0 = h at *
    generalize (movesI u.op u.a).1 = dn at *
    generalize (movesI u.op u.a).2 = up at *
    by_cases h0 : h < 0
    · simp [h0]
    have e0 : decide (h < 0) = false := decide_eq_false h0
    simp only [e0, cond_false, Bool.false_or]
    by_cases h15 : u.op = 15
    · have hh : (decide (u.op = 15) && (decide (1 < h) || !(decide (h = 0) == body))) = ((body && !decide (h = 0)) || (!body && !decide (h = 1))) := by
        simp only [h15, decide_true, Bool.true_and]
        by_cases q0 : h = 0
        · subst q0; cases body <;> rfl
        · by_cases q1 : h = 1
          · subst q1; cases body <;> rfl
          · have : decide (1 < h) = true := decide_eq_true (by omega)
            cases body <;> simp [q0, q1, this]
      rw [hh]
      simp only [h15, decide_true, cond_true]
      cases (body && !decide (h = 0)) || (!body && !decide (h = 1)) with
      | true => simp
      | false => exact heights_stack hn r (i + 1) high next hr (by omega) hl hC.next
    simp only [h15, decide_false, Bool.false_and, cond_false]
    have w1 : IntKind.i64.wrap (h - dn) = h - dn := wrap_i64 (by omega) (by omega)
    rw [w1]
    have ed : decide (h - dn < 0) = decide (h < dn) := by
      by_cases q : h < dn
      · rw [decide_eq_true q, decide_eq_true (by omega)]
      · rw [decide_eq_false q, decide_eq_false (by omega)]
    rw [ed]
    by_cases hd : h < dn
    · simp [hd]
    have w2 : IntKind.i64.wrap (h - dn + up) = h - dn + up := wrap_i64 (by omega) (by omega)
    rw [w2]
    obtain ⟨hh, hhe⟩ : ∃ hh : Int, hh = h - dn + up := ⟨_, rfl⟩
    rw [← hhe]
    have hh0 : 0 ≤ hh := by omega
    have hhi2 : hh ≤ ((i + 1 : Nat) : Int) := by omega
    simp only [hd, decide_false, cond_false]
    have C1 := hC.next
    have bad : ∀ {a y : Int} {ex : List (Int × Int)}, (((i + 1 : Nat) : Int)) ≤ a → a < n → y ≠ hh → 0 ≤ y → (a, y) ∈ next ++ ex → (a, hh) ∈ next ++ ex → heightsG n body r (i + 1) (next ++ ex) = false := fun q1 q2 q3 q4 q5 q6 => heights_bad q3 q4 hh0 q5 q6 q1 q2 (by omega)
    by_cases h9 : u.op = 9
    · simp only [h9, decide_true, cond_true]
      have ha := hu.2 (.inl h9)
      by_cases ga : u.a ≤ (i : Int)
      · simp [ga]
      simp only [ga, decide_false, cond_false]
      rcases C1.meet hl (a := u.a) (by omega) ha.2 hh0 hhi2 with ⟨m1, y, m2, m3, m4⟩ | ⟨m1, m2⟩
      · rw [m1, bad (by omega) ha.2 m2 m3 (List.mem_append_left _ m4) (by simp)]
        simp
      · rw [m1]
        simp only [Bool.not_true, cond_false]
        exact heights_stack hn r (i + 1) _ _ hr (by omega) (by rw [meetP_len]; exact hl) m2
    simp only [h9, decide_false, cond_false]
    by_cases h10 : u.op = 10
    · simp only [h10, decide_true, cond_true]
      have ha := hu.2 (.inr h10)
      by_cases ga : u.a ≤ (i : Int)
      · simp [ga]
      simp only [ga, decide_false, cond_false]
      have hin : ¬ (((i + 1 : Nat) : Int) = n) := by omega
      simp only [hin, decide_false, cond_false]
      rcases C1.meet hl (a := u.a) (by omega) ha.2 hh0 hhi2 with ⟨m1, y, m2, m3, m4⟩ | ⟨m1, m2⟩
      · rw [m1, bad (by omega) ha.2 m2 m3 (List.mem_append_left _ m4) (by simp)]
        simp
      · rw [m1]
        simp only [Bool.not_true, cond_false]
        rcases m2.meet (by rw [meetP_len]; exact hl) (a := ((i + 1 : Nat) : Int)) (Int.le_refl _) (by omega) hh0 hhi2 with ⟨k1, y, k2, k3, k4⟩ | ⟨k1, k2⟩
        · rw [k1, bad (a := ((i + 1 : Nat) : Int)) (Int.le_refl _) (by omega) k2 k3 (by
            rcases List.mem_append.1 k4 with k4 | k4
            · exact List.mem_append_left _ k4
            · refine List.mem_append_right _ ?_
              simp only [List.mem_singleton] at k4
              rw [k4]; simp) (by simp)]
          simp
        · rw [k1]
          simp only [Bool.not_true, cond_false]
          rw [List.append_assoc] at k2
          exact heights_stack hn r (i + 1) _ _ hr (by omega) (by rw [meetP_len, meetP_len]; exact hl) k2
    simp only [h10, decide_false, cond_false]
    by_cases hin : ((i + 1 : Nat) : Int) = n
    · have : (meetP n high ((i + 1 : Nat) : Int) hh).1 = false := by
        unfold meetP
        have : decide ((n : Int) ≤ ((i + 1 : Nat) : Int)) = true := decide_eq_true (by omega)
        simp only [this, Bool.true_or, cond_true]
      rw [this, decide_eq_true hin]
      simp
    · simp only [hin, decide_false, cond_false]
      rcases C1.meet hl (a := ((i + 1 : Nat) : Int)) (Int.le_refl _) (by omega) hh0 hhi2 with ⟨m1, y, m2, m3, m4⟩ | ⟨m1, m2⟩
      · rw [m1, bad (a := ((i + 1 : Nat) : Int)) (Int.le_refl _) (by omega) m2 m3 (List.mem_append_left _ m4) (by simp)]
        simp
      · rw [m1]
        simp only [Bool.not_true, cond_false]
        exact heights_stack hn r (i + 1) _ _ hr (by omega) (by rw [meetP_len]; exact hl) m2
theorem heights_eq {code : List Ins} {body : Bool} (hn : code.length ≤ 1000000) (hok : ∀ x ∈ code, OpsOk code.length x) : heightsG code.length body code 0 [(0, 0)] = decide (stackE code body = 0) ∧ (stackE code body = 0 ∨ stackE code body = 8) := by
  unfold stackE
  cases code with
  | nil => simp [heightsG, stackG]
  | cons x r =>
    refine heights_stack hn (x :: r) 0 _ _ hok (by simp) (initHt_len _ _) ⟨fun e he _ => ?_, fun j _ hj => ?_, fun e he => ?_⟩
    · simp only [List.mem_singleton] at he
      subst he
      exact ⟨Int.le_refl _, by simp [initHt]⟩
    · by_cases hj0 : j = 0
      · subst hj0
        right
        refine ⟨by simp [initHt], (0, 0), by simp, rfl⟩
      · left
        have hlen : j < (initHt (x :: r).length (x :: r).length).length := by rw [initHt_len]; exact hj
        rw [List.getD_eq_getElem?_getD, List.getElem?_eq_getElem hlen, Option.getD_some]
        simp only [initHt, List.getElem_map, List.getElem_range, hj, decide_true, cond_true, hj0, decide_false, cond_false]
    · simp only [List.mem_singleton] at he
      subst he
      simp

theorem inE_among (a n : Int) : inE (decide (0 ≤ a) && decide (a < n)) 3 = amongE a n := by
  unfold inE amongE
  by_cases h1 : a < 0
  · have : ¬ 0 ≤ a := by omega
    simp [h1, this]
  · by_cases h2 : n ≤ a
    · have : ¬ a < n := by omega
      simp [h2, this]
    · have e1 : 0 ≤ a := by omega
      have e2 : a < n := by omega
      simp [h1, h2, e1, e2]
theorem own_ins (ps : List Pr) (G : Int) (p : Nat) (x : Ins) (ar : List Int) (h7 : x.op ≠ 7) : ownK (kindR x.op) x (ar.getD p 0) ((ps.getD p ⟨0, []⟩).code.length) G = (insE ps G p x ar).1 ∧ (insE ps G p x ar).2 = ar := by
  obtain ⟨op, a, n, lb, ow, q⟩ := x
  simp only at h7 ⊢
  by_cases hr : op < 1 ∨ 15 < op
  · have hk : kindR op = 0 := by
      unfold kindR
      have : (decide (op < 1) || decide (15 < op)) = true := by simpa using hr
      rw [this]; rfl
    rw [hk]
    have e : ∀ k : Int, 1 ≤ k → k ≤ 15 → decide (op = k) = false := fun k h1 h2 => decide_eq_false (by omega)
    simp [ownK, insE, e]
  · have h1 : 1 ≤ op ∧ op ≤ 15 := by omega
    have : op = 1 ∨ op = 2 ∨ op = 3 ∨ op = 4 ∨ op = 5 ∨ op = 6 ∨ op = 8 ∨ op = 9 ∨ op = 10 ∨ op = 11 ∨ op = 12 ∨ op = 13 ∨ op = 14 ∨ op = 15 := by omega
    rcases this with rfl | rfl | rfl | rfl | rfl | rfl | rfl | rfl | rfl | rfl | rfl | rfl | rfl | rfl
    · simp only [ownK, insE, show kindR 1 = 110 from rfl, decide_true, cond_true, Int.reduceEq, decide_false, cond_false]
      have e1 : decide (-1000000000000000 ≤ n) = !decide (n < -1000000000000000) := by by_cases q : n < -1000000000000000 <;> simp [q] <;> omega
      have e2 : decide (n ≤ 1000000000000000) = !decide (1000000000000000 < n) := by by_cases q : 1000000000000000 < n <;> simp [q] <;> omega
      rw [e1, e2]
      cases decide (n < -1000000000000000) <;> cases decide (1000000000000000 < n) <;> simp [inE]
    · simp only [ownK, insE, show kindR 2 = 110 from rfl, decide_true, cond_true, Int.reduceEq, decide_false, cond_false, inE]
      by_cases q1 : n = 0 <;> by_cases q2 : n = 1 <;> simp [q1, q2]
    · simp [ownK, insE, show kindR 3 = 113 from rfl]
    · simp [ownK, insE, show kindR 4 = 108 from rfl, inE_among]
    · simp only [ownK, insE, show kindR 5 = 103 from rfl, inE_among, globalE]
      cases decide (0 ≤ G) <;> cases plainB lb <;> cases namedB ow <;> simp [inE]
    · simp only [ownK, insE, show kindR 6 = 112 from rfl, inE]
      cases decide (ow ∈ prims) <;> simp
    · have := inE_among a 2001
      have e : decide (a < 2001) = decide (a ≤ 2000) := by by_cases q : a < 2001 <;> simp [q] <;> omega
      rw [e] at this
      simp [ownK, insE, show kindR 8 = 97 from rfl, this]
    · simp [ownK, insE, show kindR 9 = 106 from rfl, inE_among]
    · simp [ownK, insE, show kindR 10 = 106 from rfl, inE_among]
    · simp [ownK, insE, show kindR 11 = 108 from rfl, inE_among]
    · simp only [ownK, insE, show kindR 12 = 103 from rfl, inE_among, globalE]
      cases decide (0 ≤ G) <;> cases plainB lb <;> cases namedB ow <;> simp [inE]
    · simp only [ownK, insE, show kindR 13 = 103 from rfl, inE_among, globalE]
      cases decide (0 ≤ G) <;> cases plainB lb <;> cases namedB ow <;> simp [inE]
    · simp [ownK, insE, show kindR 14 = 45 from rfl]
    · simp [ownK, insE, show kindR 15 = 45 from rfl]
theorem amongE_zero {a n : Int} (h : amongE a n = 0) : 0 ≤ a ∧ a < n := by
  unfold amongE at h
  cases h1 : decide (a < 0) || decide (n ≤ a) with
  | true => rw [h1] at h; simp at h
  | false => simp only [Bool.or_eq_false_iff, decide_eq_false_iff_not] at h1; omega
theorem ins_ops {ps : List Pr} {G : Int} {p : Nat} {x : Ins} {ar : List Int} (h : (insE ps G p x ar).1 = 0) : OpsOk ((ps.getD p ⟨0, []⟩).code.length) x := by
  obtain ⟨op, a, n, lb, ow, q⟩ := x
  refine ⟨fun h8 => ?_, fun h9 => ?_⟩
  · simp only at h8
    subst h8
    have : amongE a 2001 = 0 := by simpa [insE] using h
    have := amongE_zero this
    simp only; omega
  · simp only at h9
    rcases h9 with rfl | rfl <;> exact amongE_zero (by simpa [insE] using h)
end Go.Proofs.Ytlblgbfpdlfedaa.Gx

namespace Go.Proofs.Ytlblgbfpdlfedaa.Gx
open Go Go.Proofs.Ytlblgbfpdlfedaa.Gw
set_option linter.unusedSimpArgs false
set_option linter.unusedVariables false

/-- How many are around each: as a list, and as a map. -/
structure AR (n : Nat) (ar : List Int) (M : List (Int × Int)) : Prop where
  len : ar.length = n
  eq : ∀ j : Nat, j < n → asc (j : Int) M = (if ar.getD j 0 < 0 then none else some (ar.getD j 0))
  lo : ∀ j : Nat, j < n → -1 ≤ ar.getD j 0
  hi : ∀ j : Nat, j < n → ar.getD j 0 ≤ 2000 * j
theorem asc_ups {κ α : Type} [DecidableEq κ] (s t : κ) (a : α) : ∀ l : List (κ × α), asc t (ups s a l) = if t = s then some a else asc t l
  | [] => by simp only [ups, asc]
  | (k, b) :: r => by
    simp only [ups]
    by_cases h : s = k
    · subst h
      simp only [if_true, asc]
      by_cases h2 : t = s <;> simp [h2]
    · simp only [h, if_false, asc, asc_ups s t a r]
      by_cases h2 : t = k
      · subst h2; simp [Ne.symm h]
      · simp [h2]
theorem AR.set {n : Nat} {ar : List Int} {M : List (Int × Int)} (h : AR n ar M) {k : Nat} {x : Int} (hk : k < n) (h0 : 0 ≤ x) (h1 : x ≤ 2000 * k) : AR n (ar.set k x) (ups (k : Int) x M) := by
  have hl := h.len
  refine ⟨by simp [hl], fun j hj => ?_, fun j hj => ?_, fun j hj => ?_⟩
  · rw [asc_ups]
    by_cases e : j = k
    · subst e
      rw [getD_set_eq (by omega), if_pos rfl, if_neg (by omega)]
    · rw [getD_set_ne (Ne.symm e), if_neg (by omega)]; exact h.eq j hj
  · by_cases e : j = k
    · subst e; rw [getD_set_eq (by omega)]; omega
    · rw [getD_set_ne (Ne.symm e)]; exact h.lo j hj
  · by_cases e : j = k
    · subst e; rw [getD_set_eq (by omega)]; omega
    · rw [getD_set_ne (Ne.symm e)]; exact h.hi j hj
theorem AR.init (n : Nat) : AR n (List.replicate n (-1)) [] := by
  have e : ∀ j, j < n → (List.replicate n (-1 : Int)).getD j 0 = -1 := fun j hj => by rw [List.getD_eq_getElem?_getD, List.getElem?_replicate_of_lt hj]; rfl
  exact ⟨by simp, fun j hj => by rw [e j hj]; rfl, fun j hj => by rw [e j hj]; omega, fun j hj => by rw [e j hj]; omega⟩
theorem formE_cons {p : Pr} {r : List Pr} (h : formE (p :: r) = 0) : formE r = 0 := by
  rw [formE] at h
  cases h1 : decide ((p.code.length : Int) < 1) || decide (6000 < (p.code.length : Int)) with
  | true => rw [h1] at h; simp at h
  | false =>
    rw [h1] at h
    cases h2 : decide (p.args < 0) || decide (2000 < p.args) with
    | true => rw [h2] at h; simp at h
    | false => rw [h2] at h; simpa using h
def protosR (l : List Pr) (bs : List Int) (G : Int) : Int := bif !decide (formE l = 0) then formE l else shapeE l G bs

set_option maxRecDepth 20000 in
set_option maxHeartbeats 16000000 in
theorem c_ref8_Protos (l : List Pr) (bs : List Int) (G : Int) (st : St) (hl : l.length ≤ 1000000) (hbs : ∀ x ∈ bs, 0 ≤ x ∧ x < l.length) (hbl : bs.length ≤ 1000000000) :
    VCalls Try.prog TT 23 [lstPr l, .lst 1 none (rowsI bs), .int .i64 G] st fun r st' => r = .ret (.int .i64 (protosR l bs G)) ∧ st' = st := by
  refine vfun TT_ok (an := anL []) (L := [0, 1, 2, 6, 8, 9, 10, 12, 13, 14, 15, 17, 19, 20, 21, 22, 23, 48, 49, 50, 66, 67, 82, 83, 84]) (rs := [.tmp 6]) Try.func23 rfl (by kernel_rfl) rfl Try.ntmps23 rfl rfl (Nat.le_refl _) fun hst ha hf => ?_
  simp only [gwL, gwB, gwD, gwE, gwS, gwTT, gwZ, gwN, gwC, Nat.reduceEqDiff, ↓reduceIte, Nat.reduceAdd, Nat.reduceLT, Nat.reduceLeDiff, Nat.reduceMul, lstPr, List.length_map]
  refine vforD (σ := Nat) [0, 1, 2, 21, 22, 23] (fun i => [(0, true, lstPr l), (1, true, .lst 1 none (rowsI bs)), (2, true, .int .i64 G), (21, true, lstPr l), (22, true, .int .i64 l.length), (23, true, .int .i64 i)]) (fun i => st) (fun i => l.length - i) (fun i => i ≤ l.length ∧ formE l = formE (l.drop i)) 0 rfl TT_ok ⟨Nat.zero_le _, rfl⟩ (wkE_refl _) rfl ?_
  rintro i ⟨hi, hx⟩
  rcases at_or_end l i hi with ⟨hie, hd⟩ | ⟨q, hlt, hget, hdr⟩
  · have hie2 : i = l.length := hie
    subst hie2
    rw [hd, formE] at hx
    have hfc := formE_code hx
    have hP : protosR l bs G = shapeE l G bs := by simp [protosR, hx]
    rw [hP]
    simp only [gwL, gwB, gwD, gwE, gwS, gwTT, gwZ, gwN, gwC, Nat.reduceEqDiff, ↓reduceIte, Nat.reduceAdd, Nat.reduceLT, Nat.reduceLeDiff, Nat.reduceMul, mapLook, mapPut, mapRange, mapLen, makeMapE, keyOk, keyKind, keyGood, lookR, zeroV, entV, entS, nextV, nextS, beq_self_eq_true, cond_true, cond_false, lt_no, rowsI_len]
    refine vfor (σ := Nat × List (Int × Int) × List (Int × Bool) × List Int) [0, 1, 2, 9, 10, 48, 49, 50] (fun x => [(0, true, lstPr l), (1, true, .lst 1 none (rowsI bs)), (2, true, .int .i64 G), (9, true, .map st.length), (10, true, .map (st.length + 1)), (48, true, .lst 1 none (rowsI bs)), (49, true, .int .i64 bs.length), (50, true, .int .i64 x.1)]) (fun x => st ++ [mapE (V.int .i64) (V.int .i64) x.2.1, mapE (V.int .i64) V.bool x.2.2.1]) (fun x => bs.length - x.1) (fun x => x.1 ≤ bs.length ∧ AR l.length x.2.2.2 x.2.1 ∧ (∀ j : Int, asc j x.2.2.1 = if j ∈ bs.take x.1 then some true else none) ∧ bodiesG l bs (List.replicate l.length (-1)) = bodiesG l (bs.drop x.1) x.2.2.2) (0, [], [], List.replicate l.length (-1)) rfl TT_ok ⟨Nat.zero_le _, AR.init _, by intro j; simp [asc], rfl⟩ rfl rfl ?_
    rintro ⟨i, M, B, ar⟩ ⟨hi, hA, hB, hx2⟩
    simp only at hi hA hB hx2 ⊢
    rcases at_or_end bs i hi with ⟨hie, hd⟩ | ⟨u, hlt, hget, hdr⟩
    · have hie2 : i = bs.length := hie
      subst hie2
      rw [hd, bodiesG] at hx2
      rw [List.take_length] at hB
      have hE : shapeE l G bs = protoG l G bs l 0 ar := by rw [shapeE, hx2]
      rw [hE]
      simp only [gwL, gwB, gwD, gwE, gwS, gwTT, gwZ, gwN, gwC, Nat.reduceEqDiff, ↓reduceIte, Nat.reduceAdd, Nat.reduceLT, Nat.reduceLeDiff, Nat.reduceMul, lt_no, lstPr, List.length_map]
      refine vfor (σ := Nat × List (Int × Int) × List Int × St) [0, 1, 2, 9, 10, 66, 67] (fun x => [(0, true, .lst 2 none (l.map encPr)), (1, true, .lst 1 none (rowsI bs)), (2, true, .int .i64 G), (9, true, .map st.length), (10, true, .map (st.length + 1)), (66, true, .int .i64 l.length), (67, true, .int .i64 x.1)]) (fun x => st ++ (mapE (V.int .i64) (V.int .i64) x.2.1 :: mapE (V.int .i64) V.bool B :: x.2.2.2)) (fun x => l.length - x.1) (fun x => x.1 ≤ l.length ∧ AR l.length x.2.2.1 x.2.1 ∧ protoG l G bs l 0 ar = protoG l G bs (l.drop x.1) x.1 x.2.2.1) (0, M, ar, []) rfl TT_ok ⟨Nat.zero_le _, hA, rfl⟩ rfl rfl ?_
      clear hA hE hx2
      rintro ⟨p, M, ar1, ex⟩ ⟨hp, hA, hy⟩
      simp only at hp hA hy ⊢
      rw [hy]
      rcases at_or_end l p hp with ⟨hpe, hpd⟩ | ⟨q, hpt, hpq, hpr⟩
      · have hpe2 : p = l.length := hpe
        subst hpe2
        rw [hpd, protoG]
        simp only [gwL, gwB, gwD, gwE, gwS, gwTT, gwZ, gwN, gwC, Nat.reduceEqDiff, ↓reduceIte, Nat.reduceAdd, Nat.reduceLT, Nat.reduceLeDiff, Nat.reduceMul, lt_no]
        exact gives_int' rfl hst
      have hgp : (l.map encPr).getD p [] = encPr q := getD_map hpq
      have hlq : l.getD p ⟨0, []⟩ = q := getD_at hpq
      have w : IntKind.i64.wrap ((p : Int) + 1) = ((p + 1 : Nat) : Int) := next_i64 hpt (by omega)
      have hpl : (p : Int) < (l.length : Int) := Int.ofNat_lt.mpr hpt
      have hqf := hfc q (List.mem_of_getElem? hpq)
      rw [hpr, protoG] at hy ⊢
      obtain ⟨qa, code⟩ := q
      simp only at hqf
      have hBp : asc (p : Int) B = if (p : Int) ∈ bs then some true else none := hB p
      have hAp := hA.eq p hpt
      have hAlo := hA.lo p hpt
      have hAhi := hA.hi p hpt
      generalize hgx : ar1.getD p 0 = av1 at *
      cases h1 : decide (av1 < 0) with
      | true =>
        rw [if_pos (of_decide_eq_true h1)] at hAp
        simp only [gwL, gwB, gwD, gwE, gwS, gwTT, gwZ, gwN, gwC, Nat.reduceEqDiff, ↓reduceIte, Nat.reduceAdd, Nat.reduceLT, Nat.reduceLeDiff, Nat.reduceMul, mapLook, mapPut, mapRange, mapLen, makeMapE, keyOk, keyKind, keyGood, lookR, zeroV, entV, entS, nextV, nextS, beq_self_eq_true, cond_true, cond_false, lt_yes hpt, look_mapE (ev := V.int .i64) (keyP_i64 TT), hAp, Option.map_none, Option.getD_none, Option.isSome_none, Bool.not_false]
        exact gives_int' rfl hst
      | false =>
      have hav := of_decide_eq_false h1
      rw [if_neg hav] at hAp
      simp only [h1, cond_false] at hy
      simp only [cond_false]
      simp only [gwL, gwB, gwD, gwE, gwS, gwTT, gwZ, gwN, gwC, Nat.reduceEqDiff, ↓reduceIte, Nat.reduceAdd, Nat.reduceLT, Nat.reduceLeDiff, Nat.reduceMul, mapLook, mapPut, mapRange, mapLen, makeMapE, keyOk, keyKind, keyGood, lookR, zeroV, entV, entS, nextV, nextS, beq_self_eq_true, cond_true, cond_false, lt_yes hpt, look_mapE (ev := V.int .i64) (keyP_i64 TT), hAp, Option.map_some, Option.getD_some, Option.isSome_some, Bool.not_true, hgp, encPr, lstI, hpl, Int.toNat_natCast, List.length_map]
      refine vfor (σ := Nat × List (Int × Int) × List Int × St) [0, 1, 2, 9, 10, 13, 14, 66, 67, 82, 83, 84] (fun x => [(0, true, .lst 2 none (l.map encPr)), (1, true, .lst 1 none (rowsI bs)), (2, true, .int .i64 G), (9, true, .map st.length), (10, true, .map (st.length + 1)), (13, true, .int .i64 p), (14, true, .int .i64 av1), (66, true, .int .i64 l.length), (67, true, .int .i64 p), (82, true, .lst 11 none (code.map encI)), (83, true, .int .i64 code.length), (84, true, .int .i64 x.1)]) (fun x => st ++ (mapE (V.int .i64) (V.int .i64) x.2.1 :: mapE (V.int .i64) V.bool B :: x.2.2.2)) (fun x => code.length - x.1) (fun x => x.1 ≤ code.length ∧ AR l.length x.2.2.1 x.2.1 ∧ x.2.2.1.getD p 0 = av1 ∧ insG l G p code ar1 = insG l G p (code.drop x.1) x.2.2.1) (0, M, ar1, ex) rfl TT_ok ⟨Nat.zero_le _, hA, hgx, rfl⟩ rfl rfl ?_
      clear hA hAp
      rintro ⟨j, M, ar2, ex⟩ ⟨hj, hA, hg2, hz⟩
      simp only at hj hA hg2 hz ⊢
      rcases at_or_end code j hj with ⟨hje, hjd⟩ | ⟨u, hjt, hju, hjr⟩
      · have hje2 : j = code.length := hje
        subst hje2
        rw [hjd, insG] at hz
        simp only [hz, decide_true, Bool.not_true, cond_false] at hy ⊢
        have hok : ∀ x ∈ code, OpsOk code.length x := fun x hx => by
          obtain ⟨ar', h⟩ := insG_zero (by rw [hz] : (insG l G p code ar1).1 = 0) x hx
          have := ins_ops h
          rwa [hlq] at this
        have hBv : ((asc (p : Int) B).map V.bool).getD (V.bool false) = V.bool (decide ((p : Int) ∈ bs)) := by
          rw [hBp]; by_cases h : (p : Int) ∈ bs <;> simp [h]
        obtain ⟨hH1, hH2⟩ := heights_eq (body := decide ((p : Int) ∈ bs)) (by omega) hok
        simp only [gwL, gwB, gwD, gwE, gwS, gwTT, gwZ, gwN, gwC, Nat.reduceEqDiff, ↓reduceIte, Nat.reduceAdd, Nat.reduceLT, Nat.reduceLeDiff, Nat.reduceMul, lt_no]
        refine vdraw TT_ok TT_mixed [0, 0, 0, 0, 1, 0, 0, 1, 0, 0] (by kernel_rfl) ?_
        simp only [gwL, gwB, gwD, gwE, gwS, gwTT, gwZ, gwN, gwC, Nat.reduceEqDiff, ↓reduceIte, Nat.reduceAdd, Nat.reduceLT, Nat.reduceLeDiff, Nat.reduceMul, mapLook, mapPut, mapRange, mapLen, makeMapE, keyOk, keyKind, keyGood, lookR, zeroV, entV, entS, nextV, nextS, beq_self_eq_true, cond_true, cond_false, hgp, encPr, lstI, hpl, look_mapE (ev := V.bool) (keyP_i64 TT), hBv, Int.toNat_natCast, List.length_map]
        refine eK_free (fun s => c_Heights code _ s (by omega)) (wkL_refl _) ?_
        rw [hH1]
        simp only [gwL, gwB, gwD, gwE, gwS, gwTT, gwZ, gwN, gwC, Nat.reduceEqDiff, ↓reduceIte, Nat.reduceAdd, Nat.reduceLT, Nat.reduceLeDiff, Nat.reduceMul]
        refine iK_split (fun h2 => ?_) (fun h2 => ?_)
        · simp only [gwL, gwB, gwD, gwE, gwS, gwTT, gwZ, gwN, gwC, Nat.reduceEqDiff, ↓reduceIte, Nat.reduceAdd, Nat.reduceLT, Nat.reduceLeDiff, Nat.reduceMul, h2, cond_true]
          exact gives_int' (by rcases hH2 with h | h; simp [h] at h2; exact h.symm) hst
        · simp only [h2, cond_false] at hy
          simp only [gwL, gwB, gwD, gwE, gwS, gwTT, gwZ, gwN, gwC, Nat.reduceEqDiff, ↓reduceIte, Nat.reduceAdd, Nat.reduceLT, Nat.reduceLeDiff, Nat.reduceMul, h2, cond_false, w, Env.keep]
          exact ⟨(p + 1, M, ar2, ex), rfl, rfl, by simp only; omega, by simp only; omega, hA, rfl⟩
      · have hgu : (code.map encI).getD j [] = encI u := getD_map hju
        have w2 : IntKind.i64.wrap ((j : Int) + 1) = ((j + 1 : Nat) : Int) := next_i64 hjt (by omega)
        have hjl : (j : Int) < (code.length : Int) := Int.ofNat_lt.mpr hjt
        rw [hjr, insG] at hz
        by_cases h7 : u.op = 7
        · obtain ⟨op, a, n, lb, ow, qd⟩ := u
          simp only at h7
          subst h7
          simp only [encI_mk] at hgu
          have hI : insE l G p ⟨7, a, n, lb, ow, qd⟩ ar2 = (bif decide (a ≤ (p : Int)) || decide ((l.length : Int) ≤ a) then (3, ar2) else bif decide (0 ≤ ar2.getD a.toNat 0) then (8, ar2) else (0, ar2.set a.toNat (IntKind.i64.wrap (ar2.getD p 0 + (l.getD a.toNat ⟨0, []⟩).args)))) := by simp [insE]
          rw [hI] at hz
          simp only [gwL, gwB, gwD, gwE, gwS, gwTT, gwZ, gwN, gwC, Nat.reduceEqDiff, ↓reduceIte, Nat.reduceAdd, Nat.reduceLT, Nat.reduceLeDiff, Nat.reduceMul, lt_yes hjt, hgu, hjl, encD_take, encD_len, Int.toNat_natCast, List.length_map, Int.reduceEq]
          refine iK_split (fun h2 => ?_) (fun h2 => ?_)
          · simp only [h2, cond_true, Int.reduceEq, decide_false, Bool.not_false] at hz
            simp only [hz, Int.reduceEq, decide_false, Bool.not_false, cond_true]
            simp only [gwL, gwB, gwD, gwE, gwS, gwTT, gwZ, gwN, gwC, Nat.reduceEqDiff, ↓reduceIte, Nat.reduceAdd, Nat.reduceLT, Nat.reduceLeDiff, Nat.reduceMul]
            exact gives_int' rfl hst
          simp only [h2, cond_false] at hz
          simp only [Bool.or_eq_false_iff, decide_eq_false_iff_not] at h2
          obtain ⟨k, rfl⟩ : ∃ k : Nat, a = k := ⟨a.toNat, by omega⟩
          have hk : k < l.length := by omega
          have hAk := hA.eq k hk
          have hlk : l[k]? = some (l.getD k ⟨0, []⟩) := by rw [List.getD_eq_getElem?_getD, List.getElem?_eq_getElem hk]; rfl
          have hgk : (l.map encPr).getD k [] = encPr (l.getD k ⟨0, []⟩) := getD_map hlk
          have hfk := hfc _ (List.mem_of_getElem? hlk)
          have hkl : (k : Int) < (l.length : Int) := Int.ofNat_lt.mpr hk
          rw [Int.toNat_natCast] at hz
          generalize l.getD k ⟨0, []⟩ = qk at *
          obtain ⟨ka, kc⟩ := qk
          simp only at hfk hz
          cases h3 : decide (0 ≤ ar2.getD k 0) with
          | true =>
            rw [if_neg (by have := of_decide_eq_true h3; omega)] at hAk
            simp only [h3, cond_true, Int.reduceEq, decide_false, Bool.not_false] at hz
            simp only [hz, Int.reduceEq, decide_false, Bool.not_false, cond_true]
            simp only [gwL, gwB, gwD, gwE, gwS, gwTT, gwZ, gwN, gwC, Nat.reduceEqDiff, ↓reduceIte, Nat.reduceAdd, Nat.reduceLT, Nat.reduceLeDiff, Nat.reduceMul, mapLook, mapPut, mapRange, mapLen, makeMapE, keyOk, keyKind, keyGood, lookR, zeroV, entV, entS, nextV, nextS, beq_self_eq_true, cond_true, cond_false, look_mapE (ev := V.int .i64) (keyP_i64 TT), hAk, Option.map_some, Option.getD_some, Option.isSome_some]
            exact gives_int' rfl hst
          | false =>
            rw [if_pos (by have := of_decide_eq_false h3; omega)] at hAk
            rw [hg2] at hz
            simp only [h3, cond_false, decide_true, Bool.not_true] at hz
            have wv : IntKind.i64.wrap (av1 + ka) = av1 + ka := wrap_i64 (by omega) (by omega)
            rw [wv] at hz
            simp only [gwL, gwB, gwD, gwE, gwS, gwTT, gwZ, gwN, gwC, Nat.reduceEqDiff, ↓reduceIte, Nat.reduceAdd, Nat.reduceLT, Nat.reduceLeDiff, Nat.reduceMul, mapLook, mapPut, mapRange, mapLen, makeMapE, keyOk, keyKind, keyGood, lookR, zeroV, entV, entS, nextV, nextS, beq_self_eq_true, cond_true, cond_false, look_mapE (ev := V.int .i64) (keyP_i64 TT), hAk, Option.map_none, Option.getD_none, Option.isSome_none]
            refine vdraw TT_ok TT_mixed [0, 0, 1, 0, 0, 0, 1, 0, 0, 1, 0, 2] (by kernel_rfl) ?_
            simp only [gwL, gwB, gwD, gwE, gwS, gwTT, gwZ, gwN, gwC, Nat.reduceEqDiff, ↓reduceIte, Nat.reduceAdd, Nat.reduceLT, Nat.reduceLeDiff, Nat.reduceMul, mapLook, mapPut, mapRange, mapLen, makeMapE, keyOk, keyKind, keyGood, lookR, zeroV, entV, entS, nextV, nextS, beq_self_eq_true, cond_true, cond_false, put_mapE (ev := V.int .i64) (keyP_i64 TT), hgk, encPr, hkl, Int.toNat_natCast, List.length_map, wv, w2, Env.keep]
            exact ⟨(j + 1, ups (k : Int) (av1 + ka) M, ar2.set k (av1 + ka), ex ++ [Ent.box (V.int .i64 7 :: V.int .i64 (k : Int) :: V.int .i64 n :: V.str lb :: V.str ow :: encD qd)]), rfl, rfl, by simp only; omega, by simp only; omega, hA.set hk (by omega) (by omega), by simp only; rw [getD_set_ne (by omega)]; exact hg2, hz⟩
        · have ho := own_ins l G p u ar2 h7
          rw [hg2, hlq] at ho
          obtain ⟨ho1, ho2⟩ := ho
          have hco := fun s => c_Own u av1 code.length G s
          simp only at ho1
          rw [ho1] at hco
          obtain ⟨op, a, n, lb, ow, qd⟩ := u
          simp only at h7
          have e7 : decide (op = 7) = false := decide_eq_false h7
          simp only [encI_mk] at hgu hco
          simp only [gwL, gwB, gwD, gwE, gwS, gwTT, gwZ, gwN, gwC, Nat.reduceEqDiff, ↓reduceIte, Nat.reduceAdd, Nat.reduceLT, Nat.reduceLeDiff, Nat.reduceMul, lt_yes hjt, hgu, hjl, e7, encD_take, encD_len, Int.toNat_natCast, List.length_map]
          refine vdraw TT_ok TT_mixed [1, 0, 0, 0, 0, 0, 1, 0, 0, 0, 0] (by kernel_rfl) ?_
          simp only [gwL, gwB, gwD, gwE, gwS, gwTT, gwZ, gwN, gwC, Nat.reduceEqDiff, ↓reduceIte, Nat.reduceAdd, Nat.reduceLT, Nat.reduceLeDiff, Nat.reduceMul, hgp, encPr, lstI, hpl, encD_take, encD_len, Int.toNat_natCast, List.length_map]
          refine eK_free hco (wkL_refl _) ?_
          simp only [gwL, gwB, gwD, gwE, gwS, gwTT, gwZ, gwN, gwC, Nat.reduceEqDiff, ↓reduceIte, Nat.reduceAdd, Nat.reduceLT, Nat.reduceLeDiff, Nat.reduceMul]
          refine iK_split (fun h2 => ?_) (fun h2 => ?_)
          · simp only [h2, cond_true] at hz
            simp only [hz, h2, cond_true]
            simp only [gwL, gwB, gwD, gwE, gwS, gwTT, gwZ, gwN, gwC, Nat.reduceEqDiff, ↓reduceIte, Nat.reduceAdd, Nat.reduceLT, Nat.reduceLeDiff, Nat.reduceMul]
            exact gives_int' rfl hst
          · simp only [h2, cond_false, ho2] at hz
            simp only [gwL, gwB, gwD, gwE, gwS, gwTT, gwZ, gwN, gwC, Nat.reduceEqDiff, ↓reduceIte, Nat.reduceAdd, Nat.reduceLT, Nat.reduceLeDiff, Nat.reduceMul, w2, Env.keep]
            exact ⟨(j + 1, M, ar2, ex ++ [Ent.box (V.int .i64 op :: V.int .i64 a :: V.int .i64 n :: V.str lb :: V.str ow :: encD qd)]), rfl, rfl, by simp only; omega, by simp only; omega, hA, hg2, hz⟩
    · obtain ⟨hu1, hu2⟩ := hbs u (List.mem_of_getElem? hget)
      obtain ⟨u', rfl⟩ : ∃ u' : Nat, u = u' := ⟨u.toNat, by omega⟩
      have hu3 : u' < l.length := by omega
      have hgb : (rowsI bs).getD i [] = [.int .i64 u'] := getD_map (f := fun n => [V.int .i64 n]) hget
      have hlu : l[u']? = some (l.getD u' ⟨0, []⟩) := by rw [List.getD_eq_getElem?_getD, List.getElem?_eq_getElem hu3]; rfl
      have hgp : (l.map encPr).getD u' [] = encPr (l.getD u' ⟨0, []⟩) := getD_map hlu
      have hau := hfc _ (List.mem_of_getElem? hlu)
      have w : IntKind.i64.wrap ((i : Int) + 1) = ((i + 1 : Nat) : Int) := next_i64 hlt (by omega)
      have hib : (i : Int) < (bs.length : Int) := Int.ofNat_lt.mpr hlt
      have huu : (u' : Int) < (l.length : Int) := Int.ofNat_lt.mpr hu3
      rw [hdr, bodiesG, Int.toNat_natCast] at hx2
      generalize l.getD u' ⟨0, []⟩ = q at *
      obtain ⟨qa, qc⟩ := q
      simp only at hau hx2
      simp only [gwL, gwB, gwD, gwE, gwS, gwTT, gwZ, gwN, gwC, Nat.reduceEqDiff, ↓reduceIte, Nat.reduceAdd, Nat.reduceLT, Nat.reduceLeDiff, Nat.reduceMul, lt_yes hlt, hgb, hgp, encPr, lstPr, rowsI_len, Int.toNat_natCast, hib, huu, List.length_map]
      refine iK_split (fun h1 => ?_) (fun h1 => ?_)
      · have hqa : ¬ qa = 0 := by have := of_decide_eq_true h1; omega
        have hE : shapeE l G bs = 3 := by rw [shapeE, hx2]; simp [hqa]
        simp only [gwL, gwB, gwD, gwE, gwS, gwTT, gwZ, gwN, gwC, Nat.reduceEqDiff, ↓reduceIte, Nat.reduceAdd, Nat.reduceLT, Nat.reduceLeDiff, Nat.reduceMul]
        exact gives_int' hE.symm hst
      have hqa : qa = 0 := by have := of_decide_eq_false h1; omega
      simp only [hqa, decide_true, Bool.not_true, cond_false] at hx2
      simp only [gwL, gwB, gwD, gwE, gwS, gwTT, gwZ, gwN, gwC, Nat.reduceEqDiff, ↓reduceIte, Nat.reduceAdd, Nat.reduceLT, Nat.reduceLeDiff, Nat.reduceMul, mapLook, mapPut, mapRange, mapLen, makeMapE, keyOk, keyKind, keyGood, lookR, zeroV, entV, entS, nextV, nextS, beq_self_eq_true, cond_true, cond_false, put_mapE (ev := V.int .i64) (keyP_i64 TT), put_mapE (ev := V.bool) (keyP_i64 TT), w, Env.keep]
      refine ⟨(i + 1, ups (u' : Int) 0 M, ups (u' : Int) true B, ar.set u' 0), rfl, rfl, by simp only; omega, by simp only; omega, hA.set hu3 (by omega) (by omega), fun j => ?_, hx2⟩
      simp only
      rw [asc_ups, hB, List.take_add_one, hget]
      by_cases h : j = (u' : Int)
      · simp [h]
      · simp [h]
  · rw [hdr] at hx
    obtain ⟨qa, qc⟩ := q
    have hg : (l.map encPr).getD i [] = encPr ⟨qa, qc⟩ := getD_map hget
    have hfe : formE l ≠ 0 → protosR l bs G = formE l := fun h => by simp [protosR, h]
    rw [formE] at hx
    simp only at hx
    have hz : decide ((qc.length : Int) < 1) = decide ((qc.length : Int) = 0) := by rw [decide_eq_decide]; omega
    rw [hz] at hx
    simp only [gwL, gwB, gwD, gwE, gwS, gwTT, gwZ, gwN, gwC, Nat.reduceEqDiff, ↓reduceIte, Nat.reduceAdd, Nat.reduceLT, Nat.reduceLeDiff, Nat.reduceMul, lt_yes hlt, lstPr, hg, encPr, lstI, List.length_map, Int.ofNat_lt.mpr hlt]
    refine iK_split (fun h1 => ?_) (fun h1 => ?_)
    · simp only [h1, cond_true] at hx
      simp only [gwL, gwB, gwD, gwE, gwS, gwTT, gwZ, gwN, gwC, Nat.reduceEqDiff, ↓reduceIte, Nat.reduceAdd, Nat.reduceLT, Nat.reduceLeDiff, Nat.reduceMul]
      exact gives_int' (by rw [hfe (by rw [hx]; decide), hx]) hst
    simp only [h1, cond_false] at hx
    simp only [gwL, gwB, gwD, gwE, gwS, gwTT, gwZ, gwN, gwC, Nat.reduceEqDiff, ↓reduceIte, Nat.reduceAdd, Nat.reduceLT, Nat.reduceLeDiff, Nat.reduceMul]
    refine iK_split (fun h2 => ?_) (fun h2 => ?_)
    · simp only [h2, cond_true] at hx
      simp only [gwL, gwB, gwD, gwE, gwS, gwTT, gwZ, gwN, gwC, Nat.reduceEqDiff, ↓reduceIte, Nat.reduceAdd, Nat.reduceLT, Nat.reduceLeDiff, Nat.reduceMul]
      exact gives_int' (by rw [hfe (by rw [hx]; decide), hx]) hst
    simp only [h2, cond_false] at hx
    simp only [gwL, gwB, gwD, gwE, gwS, gwTT, gwZ, gwN, gwC, Nat.reduceEqDiff, ↓reduceIte, Nat.reduceAdd, Nat.reduceLT, Nat.reduceLeDiff, Nat.reduceMul, Env.keep]
    refine ⟨i + 1, ⟨?_, st, [.box [.int .i64 qa, .lst 11 none (qc.map encI)]], rfl, wkSt_refl _, ?_, hst, Nat.le_refl _⟩, by omega, hlt, hx⟩
    · simp only [gwL, gwB, gwD, gwE, gwS, gwTT, gwZ, gwN, gwC, Nat.reduceEqDiff, ↓reduceIte, Nat.reduceAdd, Nat.reduceLT, Nat.reduceLeDiff, Nat.reduceMul, Env.keep, next_i64 hlt (show l.length ≤ 9223372036854775807 by omega), lstPr]
      exact wkE_refl _
    · simp only [ltE, V.lt]
      exact ⟨lstPr_lt _ _, ⟨fun e h => (by cases h), ltRows_map fun x _ => ⟨trivial, trivial⟩⟩, trivial, lstPr_lt _ _, trivial, trivial, trivial⟩
end Go.Proofs.Ytlblgbfpdlfedaa.Gx

namespace Go.Proofs.Ytlblgbfpdlfedaa.Gx
open Go Go.Proofs.Ytlblgbfpdlfedaa.Gw
set_option linter.unusedSimpArgs false
set_option linter.unusedVariables false

theorem globI_ext (nm : Str) : ∀ (l : List Ins) (gl : List Bind'), ∃ ex, (globI nm l gl).2 = gl ++ ex
  | [], gl => ⟨[], by simp [globI]⟩
  | x :: r, gl => by
    rw [globI]
    cases decide (x.op = 13)
    · simpa using globI_ext nm r gl
    · cases decide (x.lib = nm)
      · exact ⟨[], by simp⟩
      · simp only [Bool.not_true, cond_false]
        obtain ⟨ex, h⟩ := globI_ext nm r (bif !decide ((⟨[], x.lib, x.own⟩ : Bind') ∈ gl) then gl ++ [⟨[], x.lib, x.own⟩] else gl)
        rw [h]
        cases decide ((⟨[], x.lib, x.own⟩ : Bind') ∈ gl)
        · exact ⟨[⟨[], x.lib, x.own⟩] ++ ex, by simp⟩
        · exact ⟨ex, by simp⟩
theorem globP_ext (nm : Str) : ∀ (l : List Pr) (gl : List Bind'), ∃ ex, (globP nm l gl).2 = gl ++ ex
  | [], gl => ⟨[], by simp [globP]⟩
  | p :: r, gl => by
    rw [globP]
    obtain ⟨e1, h1⟩ := globI_ext nm p.code gl
    cases decide ((globI nm p.code gl).1 = 0)
    · exact ⟨e1, h1⟩
    · simp only [Bool.not_true, cond_false]
      obtain ⟨e2, h2⟩ := globP_ext nm r (globI nm p.code gl).2
      exact ⟨e1 ++ e2, by rw [h2, h1, List.append_assoc]⟩
theorem checkL_ext (L : List Unit') : ∀ (r : List Unit') (i : Nat) (gl : List Bind'), ∃ ex, (checkL L r i gl).2.2 = gl ++ ex
  | [], i, gl => ⟨[], by simp [checkL]⟩
  | u :: r, i, gl => by
    rw [checkL]
    obtain ⟨e1, h1⟩ := globP_ext u.name u.protos gl
    cases decide (errL L i u = 0)
    · exact ⟨[], by simp⟩
    · cases decide ((globP u.name u.protos gl).1 = 0)
      · exact ⟨e1, h1⟩
      · simp only [Bool.not_true, cond_false, cond_true]
        obtain ⟨e2, h2⟩ := checkL_ext L r (i + 1) (globP u.name u.protos gl).2
        exact ⟨e1 ++ e2, by rw [h2, h1, List.append_assoc]⟩
theorem errL_app (l m : List Unit') {i : Nat} (hi : i ≤ l.length) (u : Unit') : errL (l ++ m) i u = errL l i u := by
  unfold errL
  rw [List.take_append_of_le_length hi]
theorem checkL_app {l m : List Unit'} : ∀ {r : List Unit'} {i : Nat} {gl : List Bind'}, i + r.length = l.length → (checkL l r i gl).1 = 0 → checkL (l ++ m) (r ++ m) i gl = checkL (l ++ m) m l.length (checkL l r i gl).2.2
  | [], i, gl, hi, h => by
    simp only [List.length_nil, Nat.add_zero] at hi
    subst hi
    simp [checkL]
  | u :: r, i, gl, hi, h => by
    rw [List.length_cons] at hi
    rw [checkL] at h ⊢
    rw [List.cons_append, checkL, errL_app l m (by omega)]
    cases h1 : decide (errL l i u = 0) with
    | false => rw [h1] at h; simp only [cond_false] at h; exact absurd h (of_decide_eq_false h1)
    | true =>
      rw [h1] at h
      cases h2 : decide ((globP u.name u.protos gl).1 = 0) with
      | false => rw [h2] at h; simp only [Bool.not_false, cond_true] at h; exact absurd h (of_decide_eq_false h2)
      | true =>
        rw [h2] at h
        simp only [Bool.not_true, cond_true, cond_false] at h ⊢
        exact checkL_app (by omega) h
theorem idxB_app (x : Bind') : ∀ (l m : List Bind') (i : Nat), 0 ≤ idxB x i l → idxB x i (l ++ m) = idxB x i l
  | [], m, i, h => by simp [idxB] at h
  | a :: r, m, i, h => by
    rw [List.cons_append, idxB, idxB]
    cases h1 : eqB x a with
    | true => rfl
    | false =>
      simp only [idxB, h1, cond_false] at h
      simpa using idxB_app x r m (i + 1) h
theorem insL_app {gl ex : List Bind'} {nm : Str} {base : Int} {x : Ins} (h : (insL gl nm base x).2 = 0) : insL (gl ++ ex) nm base x = insL gl nm base x := by
  unfold insL at h ⊢
  cases h1 : (decide (x.op = 5) || decide (x.op = 12) || decide (x.op = 13)) with
  | false => rfl
  | true =>
    rw [h1] at h
    simp only [cond_true] at h ⊢
    cases h2 : decide (idxB ⟨[], x.lib, x.own⟩ 0 gl < 0) with
    | true => rw [h2] at h; simp at h
    | false =>
      have h3 := of_decide_eq_false h2
      rw [idxB_app _ gl ex 0 (by omega), h2]
theorem codeL_app {gl ex : List Bind'} {nm : Str} {base : Int} : ∀ {l out : List Ins}, (codeL gl nm base l out).2 = 0 → codeL (gl ++ ex) nm base l out = codeL gl nm base l out
  | [], out, _ => rfl
  | x :: r, out, h => by
    rw [codeL] at h ⊢
    cases h1 : decide ((insL gl nm base x).2 = 0) with
    | false => rw [h1] at h; simp only [Bool.not_false, cond_true] at h; exact absurd h (of_decide_eq_false h1)
    | true =>
      rw [h1] at h
      simp only [Bool.not_true, cond_false] at h
      rw [codeL, insL_app (of_decide_eq_true h1), h1]
      simp only [Bool.not_true, cond_false]
      exact codeL_app h
theorem protosL_app {gl ex : List Bind'} {nm : Str} {base : Int} : ∀ {l ps : List Pr}, (protosL gl nm base l ps).2 = 0 → protosL (gl ++ ex) nm base l ps = protosL gl nm base l ps
  | [], ps, _ => rfl
  | q :: r, ps, h => by
    rw [protosL] at h ⊢
    cases h1 : decide ((codeL gl nm base q.code []).2 = 0) with
    | false => rw [h1] at h; simp only [Bool.not_false, cond_true] at h; exact absurd h (of_decide_eq_false h1)
    | true =>
      rw [h1] at h
      simp only [Bool.not_true, cond_false] at h
      rw [protosL, codeL_app (of_decide_eq_true h1), h1]
      simp only [Bool.not_true, cond_false]
      exact protosL_app h
theorem protosL_ext (gl : List Bind') (nm : Str) (base : Int) : ∀ (l ps : List Pr), ∃ ex, (protosL gl nm base l ps).1 = ps ++ ex
  | [], ps => ⟨[], by simp [protosL]⟩
  | q :: r, ps => by
    rw [protosL]
    cases decide ((codeL gl nm base q.code []).2 = 0)
    · exact ⟨[], by simp⟩
    · obtain ⟨ex, h⟩ := protosL_ext gl nm base r (ps ++ [⟨q.args, (codeL gl nm base q.code []).1⟩])
      exact ⟨[⟨q.args, (codeL gl nm base q.code []).1⟩] ++ ex, by simp [h]⟩
theorem unitsL_ext (gl : List Bind') : ∀ (r : List Unit') (i : Nat) (ps : List Pr) (sts : List Int), ∃ ex, (unitsL gl r i ps sts).2.2.1 = ps ++ ex
  | [], i, ps, sts => ⟨[], by simp [unitsL]⟩
  | u :: r, i, ps, sts => by
    rw [unitsL]
    obtain ⟨e1, h1⟩ := protosL_ext gl u.name ps.length u.protos ps
    cases decide ((protosL gl u.name ps.length u.protos ps).2 = 0)
    · exact ⟨[], by simp⟩
    · simp only [Bool.not_true, cond_false]
      obtain ⟨e2, h2⟩ := unitsL_ext gl r (i + 1) (protosL gl u.name ps.length u.protos ps).1 (sts ++ [(ps.length : Int)])
      exact ⟨e1 ++ e2, by rw [h2, h1, List.append_assoc]⟩
theorem unitsL_app {gl ex : List Bind'} {m : List Unit'} : ∀ {r : List Unit'} {i : Nat} {ps : List Pr} {sts : List Int}, (unitsL gl r i ps sts).1 = 0 →
    unitsL (gl ++ ex) (r ++ m) i ps sts = unitsL (gl ++ ex) m (i + r.length) (unitsL gl r i ps sts).2.2.1 (unitsL gl r i ps sts).2.2.2
  | [], i, ps, sts, h => by simp [unitsL]
  | u :: r, i, ps, sts, h => by
    rw [unitsL] at h ⊢
    cases h1 : decide ((protosL gl u.name ps.length u.protos ps).2 = 0) with
    | false => rw [h1] at h; simp only [Bool.not_false, cond_true] at h; exact absurd h (of_decide_eq_false h1)
    | true =>
      rw [h1] at h
      simp only [Bool.not_true, cond_false] at h
      rw [List.cons_append, unitsL, protosL_app (of_decide_eq_true h1), h1]
      simp only [Bool.not_true, cond_false]
      rw [unitsL_app h, List.length_cons]
      congr 1
      omega
theorem link_split (l : List Unit') : (linkL l).2.1 ≠ 0 ∨ (l.length ≤ 40 ∧ (checkL l l 0 []).1 = 0 ∧ (checkL l l 0 []).2.2.length ≤ 500 ∧ (unitsL (checkL l l 0 []).2.2 l 0 [] []).1 = 0 ∧
    linkL l = (⟨(checkL l l 0 []).2.2, (unitsL (checkL l l 0 []).2.2 l 0 [] []).2.2.1, (unitsL (checkL l l 0 []).2.2 l 0 [] []).2.2.2⟩, 0, 0)) := by
  unfold linkL
  cases h1 : decide (40 < (l.length : Int)) with
  | true => exact .inl (by simp)
  | false =>
    cases h2 : decide ((checkL l l 0 []).1 = 0) with
    | false => exact .inl (by simpa using of_decide_eq_false h2)
    | true =>
      cases h3 : decide (500 < ((checkL l l 0 []).2.2.length : Int)) with
      | true => exact .inl (by simp)
      | false =>
        cases h4 : decide ((unitsL (checkL l l 0 []).2.2 l 0 [] []).1 = 0) with
        | false => exact .inl (by simpa using of_decide_eq_false h4)
        | true =>
          have := of_decide_eq_false h1
          have := of_decide_eq_false h3
          exact .inr ⟨by omega, of_decide_eq_true h2, by omega, of_decide_eq_true h4, by simp⟩
theorem link_ahead {l m : List Unit'} (ha : (linkL l).2.1 = 0) (hb : (linkL (l ++ m)).2.1 = 0) : ∃ e1 e2, (linkL (l ++ m)).1.gl = (linkL l).1.gl ++ e1 ∧ (linkL (l ++ m)).1.ps = (linkL l).1.ps ++ e2 := by
  rcases link_split l with h | ⟨-, a1, -, a2, a3⟩
  · exact absurd ha h
  rcases link_split (l ++ m) with h | ⟨-, b1, -, b2, b3⟩
  · exact absurd hb h
  rw [a3, b3]
  simp only
  have hc := checkL_app (l := l) (m := m) (r := l) (i := 0) (gl := []) (by omega) a1
  obtain ⟨e1, h1⟩ := checkL_ext (l ++ m) m l.length (checkL l l 0 []).2.2
  rw [← hc] at h1
  rw [h1]
  have hu := unitsL_app (gl := (checkL l l 0 []).2.2) (ex := e1) (m := m) a2
  obtain ⟨e2, h2⟩ := unitsL_ext ((checkL l l 0 []).2.2 ++ e1) m (0 + l.length) (unitsL (checkL l l 0 []).2.2 l 0 [] []).2.2.1 (unitsL (checkL l l 0 []).2.2 l 0 [] []).2.2.2
  rw [hu, h2]
  exact ⟨e1, e2, rfl, rfl⟩
theorem link_gl {l : List Unit'} (ha : (linkL l).2.1 = 0) : (linkL l).1.gl.length ≤ 500 := by
  rcases link_split l with h | ⟨-, -, a1, -, a3⟩
  · exact absurd ha h
  · rw [a3]; exact a1
theorem idxB_at (x : Bind') : ∀ (l : List Bind') (i : Nat), x ∈ l → ∃ j : Nat, idxB x i l = ((i + j : Nat) : Int) ∧ l[j]? = some x ∧ j < l.length
  | [], i, h => by simp at h
  | a :: r, i, h => by
    rw [idxB, eqB_iff]
    by_cases e : x = a
    · subst e; exact ⟨0, by simp, by simp, by simp⟩
    · rcases List.mem_cons.1 h with h | h
      · exact absurd h e
      · obtain ⟨j, h1, h2, h3⟩ := idxB_at x r (i + 1) h
        refine ⟨j + 1, by simp only [e, decide_false, cond_false, h1]; congr 1; omega, by simpa using h2, by simp; omega⟩
theorem idxB_new (x : Bind') (ex : List Bind') : ∀ (l : List Bind') (i : Nat), x ∉ l → idxB x i (l ++ x :: ex) = ((i + l.length : Nat) : Int)
  | [], i, _ => by simp [idxB, eqB_iff]
  | a :: r, i, h => by
    simp only [List.mem_cons, not_or] at h
    rw [List.cons_append, idxB, eqB_iff]
    simp only [h.1, decide_false, cond_false, idxB_new x ex r (i + 1) h.2, List.length_cons]
    congr 1; omega
end Go.Proofs.Ytlblgbfpdlfedaa.Gx
