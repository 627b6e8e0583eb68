/- What comes in, as it is read: data, expressions, parts. The row of the law CodeJoined, where what comes in is not too much: it answers true, and what came in reads as it did. -/
import Derived.Test.YtpfdoffnpkokhaaQ12
import Derived.Test.YtpfdoffnpkokhaaRows
import Derived.WalkKit
import Derived.ProofKit
import Derived.OpenShut
import Derived.ShutString
import Derived.ChangeOld
import Derived.Below
import Derived.SizedLaws
import Derived.Carry
import Derived.JoinedCond

namespace Go.Proofs.Ytpfdoffnpkokhaa.Gx
open Go Go.Proofs.Ytpfdoffnpkokhaa.Gw
set_option linter.unusedSimpArgs false

theorem cells2 : Try.prog.cellsOf 2 = 1 := by kernel_rfl
theorem cells3 : Try.prog.cellsOf 3 = 1 := by kernel_rfl
theorem cells9 : Try.prog.cellsOf 9 = 1 := by kernel_rfl
theorem cells22 : Try.prog.cellsOf 22 = 1 := by kernel_rfl
theorem cells36 : Try.prog.cellsOf 36 = 1 := by kernel_rfl
theorem cells24 : Try.prog.cellsOf 24 = 2 := by kernel_rfl
theorem cells38 : Try.prog.cellsOf 38 = 6 := by kernel_rfl
theorem cells40 : Try.prog.cellsOf 40 = 12 := by kernel_rfl

section
variable {H : Type} {enc : TypeId × Value → H} {W : World} {spare : Nat → Bool} {held : Bool}
theorem dec_D : ∀ (n : Nat) (cs : List Value) (r : DataW H × List MemPlace), DataW.trod enc Try.prog W 0 spare held n 38 cs = some r → ∃ x : Datum, SimVs g00 W (encD x) cs ∧ ∀ u ∈ cs, u.oneCell' = true := by
  intro n
  induction n using Nat.strongRecOn with
  | _ n ih =>
    intro cs r h
    obtain ⟨m, rfl, hl, hf⟩ := dec_struct Try.underlying38 h
    rw [cells38] at hl
    match cs, hl with
    | [c0, c1, c2, c3, c4, c5], _ =>
      simp only [List.forall_mem_cons, cells2, cells3, cells9, cells36, List.drop_zero, List.drop_succ_cons, List.take_succ_cons, List.take_zero] at hf
      obtain ⟨⟨y0, h0⟩, ⟨y1, h1⟩, ⟨y2, h2⟩, ⟨y3, h3⟩, ⟨y4, h4⟩, ⟨y5, h5⟩, _⟩ := hf
      obtain ⟨k, e0⟩ := dec_int Try.underlying3 h0
      obtain ⟨n1, e1⟩ := dec_int Try.underlying2 h1
      obtain ⟨s, e2, hs⟩ := dec_str Try.underlying9 h2
      obtain ⟨st, e3⟩ := dec_int Try.underlying3 h3
      obtain ⟨lb, e4⟩ := dec_int Try.underlying3 h4
      obtain ⟨l, v, e5, h6, h7⟩ := dec_slice encD Try.underlying36 cells38 (by decide) (fun m' hm' cs r hr => ih m' (by omega) cs r hr) h5
      simp only [List.cons.injEq, and_true] at e0 e1 e2 e3 e4 e5
      subst e0 e1 e2 e3 e4 e5
      refine ⟨.mk k n1 s st lb l, ?_, ?_⟩
      · rw [encD_mk]
        exact ⟨_, _, rfl, rfl, _, _, rfl, rfl, _, _, rfl, ⟨rfl, hs⟩, _, _, rfl, rfl, _, _, rfl, rfl, _, _, rfl, h6, rfl⟩
      · intro u hu
        simp only [List.mem_cons, List.not_mem_nil, or_false] at hu
        rcases hu with rfl | rfl | rfl | rfl | rfl | rfl <;> first | rfl | exact h7
theorem dec_C : ∀ (n : Nat) (cs : List Value) (r : DataW H × List MemPlace), DataW.trod enc Try.prog W 0 spare held n 40 cs = some r → ∃ x : Core, SimVs g00 W (encC x) cs ∧ ∀ u ∈ cs, u.oneCell' = true := by
  intro n
  induction n using Nat.strongRecOn with
  | _ n ih =>
    intro cs r h
    obtain ⟨m, rfl, hl, hf⟩ := dec_struct Try.underlying40 h
    rw [cells40] at hl
    match cs, hl with
    | [c0, c1, c2, c3, c4, q0, q1, q2, q3, q4, q5, c5], _ =>
      simp only [List.forall_mem_cons, cells2, cells3, cells9, cells22, cells38, List.drop_zero, List.drop_succ_cons, List.take_succ_cons, List.take_zero] at hf
      obtain ⟨⟨y0, h0⟩, ⟨y1, h1⟩, ⟨y2, h2⟩, ⟨y3, h3⟩, ⟨y4, h4⟩, ⟨y5, h5⟩, ⟨y6, h6⟩, _⟩ := hf
      obtain ⟨k, e0⟩ := dec_int Try.underlying3 h0
      obtain ⟨ix, e1⟩ := dec_int Try.underlying3 h1
      obtain ⟨n1, e2⟩ := dec_int Try.underlying2 h2
      obtain ⟨lb, e3, hlb⟩ := dec_str Try.underlying9 h3
      obtain ⟨ow, e4, how⟩ := dec_str Try.underlying9 h4
      obtain ⟨q, hq, hq2⟩ := dec_D m _ _ h5
      obtain ⟨l, v, e5, h7, h8⟩ := dec_slice encC Try.underlying22 cells40 (by decide) (fun m' hm' cs r hr => ih m' (by omega) cs r hr) h6
      simp only [List.cons.injEq, and_true] at e0 e1 e2 e3 e4 e5
      subst e0 e1 e2 e3 e4 e5
      refine ⟨.mk k ix n1 lb ow q l, ?_, ?_⟩
      · rw [encC_mk]
        refine ⟨_, _, rfl, rfl, _, _, rfl, rfl, _, _, rfl, rfl, _, _, rfl, ⟨rfl, hlb⟩, _, _, rfl, ⟨rfl, how⟩, ?_⟩
        have := hq.append (y := [.lst 12 none (l.map encC)]) (u := [c5]) ⟨_, _, rfl, h7, rfl⟩
        exact this
      · intro u hu
        simp only [List.mem_cons, List.not_mem_nil, or_false] at hu hq2
        rcases hu with rfl | rfl | rfl | rfl | rfl | rfl | rfl | rfl | rfl | rfl | rfl | rfl <;> first | rfl | exact h8 | exact hq2 _ (by simp)
/-- A list of expressions that comes in. -/
theorem dec_Cs {n : Nat} {cs : List Value} {r : DataW H × List MemPlace} (h : DataW.trod enc Try.prog W 0 spare held n 22 cs = some r) : ∃ (l : List Core) (v : Value), cs = [v] ∧ SimV g00 W (lstC l) v ∧ v.oneCell' = true :=
  dec_slice encC Try.underlying22 cells40 (by decide) (fun m _ cs r hr => dec_C m cs r hr) h
/-- A part that comes in. -/
theorem dec_P {n : Nat} {cs : List Value} {r : DataW H × List MemPlace} (h : DataW.trod enc Try.prog W 0 spare held n 24 cs = some r) : ∃ p : Part, SimVs g00 W (encP p) cs ∧ ∀ u ∈ cs, u.oneCell' = true := by
  obtain ⟨m, rfl, hl, hf⟩ := dec_struct Try.underlying24 h
  rw [cells24] at hl
  match cs, hl with
  | [c0, c1], _ =>
    simp only [List.forall_mem_cons, cells9, cells22, List.drop_zero, List.drop_succ_cons, List.take_succ_cons, List.take_zero] at hf
    obtain ⟨⟨y0, h0⟩, ⟨y1, h1⟩, _⟩ := hf
    obtain ⟨s, e0, hs⟩ := dec_str Try.underlying9 h0
    obtain ⟨l, v, e1, h2, h3⟩ := dec_Cs h1
    simp only [List.cons.injEq, and_true] at e0 e1
    subst e0 e1
    refine ⟨⟨s, l⟩, ⟨_, _, rfl, ⟨rfl, hs⟩, _, _, rfl, h2, rfl⟩, ?_⟩
    intro u hu
    simp only [List.mem_cons, List.not_mem_nil, or_false] at hu
    rcases hu with rfl | rfl <;> first | rfl | exact h3
end

open Go.ChangeShapes Go.WideShapes Go.ChangeAt Go.RowKit
theorem own : ownKnob Try.prog.godebug = none := by kernel_rfl
theorem laidOut : laidOutB Try.prog = true := by kernel_rfl
theorem below_of {W W' : World} {g' : G} (h : Ext g00 W g' W') : Below W.heap.size W W' := ⟨h.os, h.tape, h.output, h.size, fun k hk => (h.free k hk rfl).1⟩
end Go.Proofs.Ytpfdoffnpkokhaa.Gx

namespace Go.Proofs.Ytpfdoffnpkokhaa.Gx
open Go Go.Proofs.Ytpfdoffnpkokhaa.Gw
open Go.ChangeShapes Go.WideShapes Go.ChangeAt Go.RowKit
set_option linter.unusedVariables false
set_option linter.unusedSimpArgs false

theorem bulk_one {H : Type} (d : DataW H) : 1 ≤ Rows.uptoBulk d := by
  cases d with
  | lit l => cases l <;> simp [Rows.uptoBulk]
  | nil => simp [Rows.uptoBulk]
  | ptr d => simp [Rows.uptoBulk]
  | slice elems spare => simp [Rows.uptoBulk]
  | agg parts => simp [Rows.uptoBulk]
  | iface t d => simp [Rows.uptoBulk]
  | map entries => simp [Rows.uptoBulk]
  | held h => simp [Rows.uptoBulk]
theorem bulk_len {H : Type} : ∀ l : List (DataW H), l.length ≤ Rows.uptoBulkAll l
  | [] => by simp [Rows.uptoBulkAll]
  | x :: r => by have := bulk_one x; have := bulk_len r; simp only [Rows.uptoBulkAll, List.length_cons]; omega
/-- A slice that is read has no more elements than its bulk. -/
theorem bulk_slice {H : Type} {enc : TypeId × Value → H} {P : Program} {W : World} {spare : Nat → Bool} {held : Bool} {n : Nat} {t e : TypeId} {v : Value} {r : DataW H × List MemPlace} (ht : P.underlying t = some (.slice e)) {sz : Nat} {tp : Option Nat} {rows : List (List V)}
    (h : DataW.trod enc P W 0 spare held n t [v] = some r) (hs : SimV g00 W (.lst sz tp rows) v) : rows.length ≤ Rows.uptoBulk r.1 := by
  simp only [SimV] at hs
  obtain ⟨a, cap, rfl, -⟩ := hs
  cases n with
  | zero => simp [DataW.trod] at h
  | succ n =>
    unfold DataW.trod at h
    rw [ht] at h
    split at h <;> first | (cases h; done) | skip
    all_goals rename_i e'; first | (injection e' with e'; cases e'; done) | skip
    · simp only [List.cons.injEq, Value.slice.injEq, and_true] at e'
      obtain ⟨_, e', _⟩ := e'
      omega
    · simp only [List.cons.injEq, Value.slice.injEq, and_true] at e'
      obtain ⟨_, e', _⟩ := e'
      simp only at h
      split at h
      case isFalse => cases h
      rw [e']
      generalize hm : List.mapM (m := Option) _ _ = o at h
      cases o with
      | none => simp at h
      | some ys =>
        obtain ⟨hl, -⟩ := mapM_some hm
        simp only [Option.bind_some, Option.map_eq_some_iff] at h
        obtain ⟨zs, -, rfl⟩ := h
        have := bulk_len (ys.map (·.1))
        rw [List.length_map, hl, List.length_range] at this
        simp only [Rows.uptoBulk]
        omega

theorem okWide_slice {P : Program} {W : World} {r : Reach} {b : Nat} {t e : TypeId} {v : Value} (ht : P.underlying t = some (.slice e)) (h : Value.okWide P W r b t v) : v.cells.toList = [v] := by
  unfold Value.okWide at h
  rw [ht] at h
  simp only [Cell.okWide, ht] at h
  cases v <;> first | rfl | (simp [Cell.ok, ht] at h)
set_option maxRecDepth 100000 in
theorem joined_lifted (os : Os) (started : os.Started) (H : Type) (enc : TypeId × Value → H) (F : Stop.Interp) :
    ReturnsInHanded {} Try.checked os 5 .any ((Rows.OpenSpec.upto Rows.codeJoinedSpec).pre6 enc Try.prog Try.f5 Rows.codeJoinedUptoRow.domain false) (((Rows.OpenSpec.upto Rows.codeJoinedSpec).at F).post enc Try.prog Try.f5 false true false false) := by
  refine returnsInHanded_of_cond (C := Try.checked) (s := Rows.OpenSpec.upto Rows.codeJoinedSpec) (k := Rows.uptoSmall) rfl own started (by kernel_rfl) Try.func5
    (OpenSpec.witness (enc := enc) (C := Try.checked) (s := Rows.OpenSpec.upto Rows.codeJoinedSpec) (k := Rows.uptoSmall) rfl false ⟨#[], #[.slice none 0 0, .slice none 0 0], []⟩ 8 (by kernel_rfl) (by kernel_rfl) (by kernel_rfl)
      (x := ([.nil, .nil], [], [])) (by kernel_rfl) rfl (by kernel_rfl)) ?_
  intro W base args ds gs before hval0 hW _ hk _
  have hval : ∀ (j : Nat) t v, Try.f5.params[j]? = some t → args[j]? = some v → Value.okWide Try.prog W .any base t v := hval0
  have hW' := hW
  obtain ⟨p, q, hA0, hV, rfl, hfz, hnd⟩ := hW
  have hA : DataW.TrodAll enc Try.prog W 0 (fun _ => true) true Try.f5.params.toList args.toList ds p := hA0
  rw [Try.params5] at hA hval
  obtain ⟨v0, vs0, d0, ds0, p0, q0, hargs, rfl, rfl, h0, r0⟩ := trodAll_cons hA
  obtain ⟨v1, vs1, d1, ds1, p1, q1, hargs1, rfl, rfl, h1, r1⟩ := trodAll_cons r0
  obtain ⟨rfl, rfl, rfl⟩ := trodAll_nil r1
  obtain rfl : args = #[v0, v1] := by cases args; simp_all
  obtain ⟨rfl, rfl⟩ := trodVars_none hV
  have k0 := h0
  have k1 := h1
  have lt0 : ∀ x ∈ p0, x.block < W.heap.size := by obtain ⟨m, hm⟩ := k0; exact DataW.trod_lt m _ _ _ hm
  have lt1 : ∀ x ∈ p1, x.block < W.heap.size := by obtain ⟨m, hm⟩ := k1; exact DataW.trod_lt m _ _ _ hm
  obtain ⟨m0, hm0⟩ := h0
  obtain ⟨m1, hm1⟩ := h1
  rw [okWide_slice Try.underlying22 (hval 0 22 v0 rfl rfl)] at hm0
  rw [okWide_slice Try.underlying22 (hval 1 22 v1 rfl rfl)] at hm1
  obtain ⟨a, x0, e0, s0, o0⟩ := dec_Cs hm0
  obtain ⟨b, x1, e1, s1, o1⟩ := dec_Cs hm1
  simp only [List.cons.injEq, and_true] at e0 e1
  subst e0 e1
  have b0 : (a.map encC).length ≤ Rows.uptoBulk d0 := bulk_slice Try.underlying22 hm0 s0
  have b1 : (b.map encC).length ≤ Rows.uptoBulk d1 := bulk_slice Try.underlying22 hm1 s1
  rw [List.length_map] at b0 b1
  have hk2 : Rows.uptoBulkAll ([d0, d1] ++ []) ≤ 1048576 := of_decide_eq_true hk
  simp only [List.append_nil, Rows.uptoBulkAll] at hk2
  clear hA0 hval0
  refine ((c_CodeJoined a b [] (by omega) (by omega)).2 g00 W [v0, v1] (sim00 _ W) ⟨_, _, rfl, s0, _, _, rfl, s1, rfl⟩).mono fun e W' ⟨r, st', g', ⟨h1, h2⟩, hend, _, hext⟩ => ?_
  subst h1
  obtain ⟨val, rfl, hb⟩ := hend
  simp only [SimV] at hb
  subst hb
  have bel := below_of hext
  exact ⟨_, rfl, _, _, _, [], _, [], hW', trodAll_mk1 (shut_bool Try.underlying4 _), trodAll_cons_mk (Below.trod laidOut (by kernel_rfl) (of_decide_eq_true (by kernel_rfl)) k0 bel lt0) (trodAll_cons_mk (Below.trod laidOut (by kernel_rfl) (of_decide_eq_true (by kernel_rfl)) k1 bel lt1) trodAll_mk0), rfl, bel.frame _, fun h => by cases h⟩
theorem joined_over : Rows.codeJoinedUptoRow.holds Try.pinned (Rows.OpenSpec.upto Rows.codeJoinedSpec) :=
  OpenClaim.holds_of_cond 5 Try.f5 rfl rfl rfl rfl rfl rfl rfl ⟨rfl, rfl, rfl, rfl, rfl⟩ rfl rfl rfl rfl rfl (by kernel_rfl) Try.func5 (by kernel_rfl)
    (of_decide_eq_true (by kernel_rfl)) (by unfold Func.isWrapper; first | (rw [if_pos (by decide +kernel)]; kernel_rfl) | (rw [if_neg (by decide +kernel)]; exact ⟨rfl, rfl⟩))
    (fun os started H enc _ F => joined_lifted os started H enc F)
end Go.Proofs.Ytpfdoffnpkokhaa.Gx
namespace Go.Proofs.Ytpfdoffnpkokhaa
/-- The row, under a short name, for the claim. -/
theorem codeJoined_holds : Rows.CodeJoinedUptoSaid := Gx.joined_over
#print axioms codeJoined_holds
end Go.Proofs.Ytpfdoffnpkokhaa
