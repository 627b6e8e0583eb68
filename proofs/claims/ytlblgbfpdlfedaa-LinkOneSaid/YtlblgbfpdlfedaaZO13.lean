/- What a row needs: how what comes in is read. How what comes in for LinkOne is read. The row of the law LinkOne, whatever comes in: it answers true, and what came in reads as it did. -/
import Derived.Test.YtlblgbfpdlfedaaZO12
import Derived.WalkKit
import Derived.ProofKit
import Derived.OpenShut
import Derived.ShutString
import Derived.ChangeOld
import Derived.Below
import Derived.SizedLaws
import Derived.Carry
import Derived.JoinedCond
import Derived.Test.YtlblgbfpdlfedaaRows

namespace Go.Proofs.Ytlblgbfpdlfedaa.Gx
open Go Go.Proofs.Ytlblgbfpdlfedaa.Gw
set_option linter.unusedSimpArgs false
set_option linter.unusedVariables false
def encI1 (n : Int) : List V := [.int .i64 n]
def encS1 (s : Str) : List V := [.str s]

theorem len_succ {α : Type} {cs : List α} {n : Nat} (h : cs.length = n + 1) : ∃ c r, cs = c :: r ∧ r.length = n := by
  cases cs with
  | nil => simp at h
  | cons c r => exact ⟨c, r, rfl, by simpa using h⟩
open Go.ChangeShapes Go.WideShapes Go.ChangeAt Go.RowKit
theorem own : ownKnob Try.prog.godebug = none := by kernel_rfl
theorem laidOut : laidOutB Try.prog = true := by kernel_rfl
theorem below_of {W W' : World} {g' : G} (h : Ext g00 W g' W') : Below W.heap.size W W' := ⟨h.os, h.tape, h.output, h.size, fun k hk => (h.free k hk rfl).1⟩
theorem bulk_one {H : Type} (d : DataW H) : 1 ≤ Rows.uptoBulk d := by
  cases d with
  | lit l => cases l <;> simp [Rows.uptoBulk]
  | nil => simp [Rows.uptoBulk]
  | ptr d => simp [Rows.uptoBulk]
  | slice elems spare => simp [Rows.uptoBulk]
  | agg parts => simp [Rows.uptoBulk]
  | iface t d => simp [Rows.uptoBulk]
  | map entries => simp [Rows.uptoBulk]
  | held h => simp [Rows.uptoBulk]
theorem bulk_len {H : Type} : ∀ l : List (DataW H), l.length ≤ Rows.uptoBulkAll l
  | [] => by simp [Rows.uptoBulkAll]
  | x :: r => by have := bulk_one x; have := bulk_len r; simp only [Rows.uptoBulkAll, List.length_cons]; omega
/-- A slice that is read has no more elements than its bulk. -/
theorem bulk_slice {H : Type} {enc : TypeId × Value → H} {P : Program} {W : World} {spare : Nat → Bool} {held : Bool} {n : Nat} {t e : TypeId} {v : Value} {r : DataW H × List MemPlace} (ht : P.underlying t = some (.slice e)) {sz : Nat} {tp : Option Nat} {rows : List (List V)}
    (h : DataW.trod enc P W 0 spare held n t [v] = some r) (hs : SimV g00 W (.lst sz tp rows) v) : rows.length ≤ Rows.uptoBulk r.1 := by
  simp only [SimV] at hs
  obtain ⟨a, cap, rfl, -⟩ := hs
  cases n with
  | zero => simp [DataW.trod] at h
  | succ n =>
    unfold DataW.trod at h
    rw [ht] at h
    split at h <;> first | (cases h; done) | skip
    all_goals rename_i e'; first | (injection e' with e'; cases e'; done) | skip
    · simp only [List.cons.injEq, Value.slice.injEq, and_true] at e'
      obtain ⟨_, e', _⟩ := e'
      omega
    · simp only [List.cons.injEq, Value.slice.injEq, and_true] at e'
      obtain ⟨_, e', _⟩ := e'
      simp only at h
      split at h
      case isFalse => cases h
      rw [e']
      generalize hm : List.mapM (m := Option) _ _ = o at h
      cases o with
      | none => simp at h
      | some ys =>
        obtain ⟨hl, -⟩ := mapM_some hm
        simp only [Option.bind_some, Option.map_eq_some_iff] at h
        obtain ⟨zs, -, rfl⟩ := h
        have := bulk_len (ys.map (·.1))
        rw [List.length_map, hl, List.length_range] at this
        simp only [Rows.uptoBulk]
        omega
/-- A string that is read is no longer than its bulk. -/
theorem bulk_str {H : Type} {enc : TypeId × Value → H} {P : Program} {W : World} {spare : Nat → Bool} {held : Bool} {n : Nat} {t : TypeId} {s : List UInt8} {r : DataW H × List MemPlace} (ht : P.underlying t = some .string)
    (h : DataW.trod enc P W 0 spare held n t [.string ⟨s.toArray⟩] = some r) : s.length ≤ Rows.uptoBulk r.1 := by
  cases n with
  | zero => simp [DataW.trod] at h
  | succ n =>
    unfold DataW.trod at h
    rw [ht] at h
    split at h <;> first | (cases h; done) | skip
    all_goals rename_i e'; first | (injection e' with e'; cases e'; done) | skip
    · simp only [List.cons.injEq, Value.string.injEq, and_true] at e'
      subst e'
      split at h
      · simp only [Option.some.injEq] at h
        subst h
        simp [Rows.uptoBulk, ByteArray.size]
      · cases h
    · exact ((‹∀ s_1 : ByteArray, some TypeDesc.string = some TypeDesc.string → [Value.string ⟨s.toArray⟩] = [Value.string s_1] → False›) _ rfl rfl).elim
theorem okWide_slice {P : Program} {W : World} {r : Reach} {b : Nat} {t e : TypeId} {v : Value} (ht : P.underlying t = some (.slice e)) (h : Value.okWide P W r b t v) : v.cells.toList = [v] := by
  unfold Value.okWide at h
  rw [ht] at h
  simp only [Cell.okWide, ht] at h
  cases v <;> first | rfl | (simp [Cell.ok, ht] at h)
theorem okWide_str {P : Program} {W : World} {r : Reach} {b : Nat} {t : TypeId} {v : Value} (ht : P.underlying t = some .string) (h : Value.okWide P W r b t v) : v.cells.toList = [v] := by
  unfold Value.okWide at h
  rw [ht] at h
  simp only [Cell.okWide, ht] at h
  cases v <;> first | rfl | (simp [Cell.ok, ht] at h)
theorem okWide_int {P : Program} {W : World} {r : Reach} {b : Nat} {t : TypeId} {k : IntKind} {v : Value} (ht : P.underlying t = some (.int k)) (h : Value.okWide P W r b t v) : v.cells.toList = [v] := by
  unfold Value.okWide at h
  rw [ht] at h
  simp only [Cell.okWide, ht] at h
  cases v <;> first | rfl | (simp [Cell.ok, ht] at h)
theorem dec_int1 {H : Type} {enc : TypeId × Value → H} {P : Program} {W : World} {spare : Nat → Bool} {held : Bool} {t : TypeId} (ht : P.underlying t = some (.int .i64)) {n : Nat} {cs : List Value} {r : DataW H × List MemPlace} (h : DataW.trod enc P W 0 spare held n t cs = some r) : ∃ x : Int, SimVs g00 W (encI1 x) cs ∧ ∀ u ∈ cs, u.oneCell' = true := by
  obtain ⟨m, rfl⟩ := dec_int ht h
  exact ⟨m, ⟨_, _, rfl, rfl, rfl⟩, by simp [Value.oneCell']⟩
theorem dec_str1 {H : Type} {enc : TypeId × Value → H} {P : Program} {W : World} {spare : Nat → Bool} {held : Bool} {t : TypeId} (ht : P.underlying t = some .string) {n : Nat} {cs : List Value} {r : DataW H × List MemPlace} (h : DataW.trod enc P W 0 spare held n t cs = some r) : ∃ x : Str, SimVs g00 W (encS1 x) cs ∧ ∀ u ∈ cs, u.oneCell' = true := by
  obtain ⟨m, rfl, hm⟩ := dec_str ht h
  exact ⟨m, ⟨_, _, rfl, ⟨rfl, hm⟩, rfl⟩, by simp [Value.oneCell']⟩
end Go.Proofs.Ytlblgbfpdlfedaa.Gx

namespace Go.Proofs.Ytlblgbfpdlfedaa.Gx
open Go Go.Proofs.Ytlblgbfpdlfedaa.Gw
set_option linter.unusedSimpArgs false
set_option linter.unusedVariables false
theorem cells49 : Try.prog.cellsOf 49 = 6 := by kernel_rfl
theorem cells3 : Try.prog.cellsOf 3 = 1 := by kernel_rfl
theorem cells2 : Try.prog.cellsOf 2 = 1 := by kernel_rfl
theorem cells9 : Try.prog.cellsOf 9 = 1 := by kernel_rfl
theorem cells47 : Try.prog.cellsOf 47 = 1 := by kernel_rfl
theorem dec_Datum {H : Type} {enc : TypeId × Value → H} {W : World} {spare : Nat → Bool} {held : Bool} : ∀ (n : Nat) (cs : List Value) (r : DataW H × List MemPlace), DataW.trod enc Try.prog W 0 spare held n 49 cs = some r → ∃ x : Datum, SimVs g00 W (encD x) cs ∧ ∀ u ∈ cs, u.oneCell' = true := by
  intro n
  induction n using Nat.strongRecOn with
  | _ n ih =>
    intro cs r h
    obtain ⟨m, rfl, hl, hf⟩ := dec_struct Try.underlying49 h
    rw [cells49] at hl
    obtain ⟨c0, t0, rfl, l0⟩ := len_succ hl
    obtain ⟨c1, t1, rfl, l1⟩ := len_succ l0
    obtain ⟨c2, t2, rfl, l2⟩ := len_succ l1
    obtain ⟨c3, t3, rfl, l3⟩ := len_succ l2
    obtain ⟨c4, t4, rfl, l4⟩ := len_succ l3
    obtain ⟨c5, t5, rfl, l5⟩ := len_succ l4
    obtain rfl := List.eq_nil_of_length_eq_zero l5
    simp only [List.forall_mem_cons, cells2, cells3, cells47, cells9, List.drop_zero, List.drop_succ_cons, List.take_succ_cons, List.take_zero] at hf
    obtain ⟨⟨y0, h0⟩, ⟨y1, h1⟩, ⟨y2, h2⟩, ⟨y3, h3⟩, ⟨y4, h4⟩, ⟨y5, h5⟩, _⟩ := hf
    obtain ⟨x0, e0⟩ := dec_int Try.underlying3 h0
    obtain ⟨x1, e1⟩ := dec_int Try.underlying2 h1
    obtain ⟨x2, e2, k2⟩ := dec_str Try.underlying9 h2
    obtain ⟨x3, e3⟩ := dec_int Try.underlying3 h3
    obtain ⟨x4, e4⟩ := dec_int Try.underlying3 h4
    obtain ⟨x5, v5, e5, k5, j5⟩ := dec_slice encD Try.underlying47 cells49 (by decide) (fun m' hm' cs r hr => ih m' (by omega) cs r hr) h5
    simp only [List.cons.injEq, and_true] at e0 e1 e2 e3 e4 e5
    subst e0 e1 e2 e3 e4 e5
    refine ⟨Datum.mk x0 x1 x2 x3 x4 x5, ?_, ?_⟩
    · rw [encD_mk]
      exact ⟨_, _, rfl, rfl, ⟨_, _, rfl, rfl, ⟨_, _, rfl, ⟨rfl, k2⟩, ⟨_, _, rfl, rfl, ⟨_, _, rfl, rfl, ⟨_, _, rfl, k5, rfl⟩⟩⟩⟩⟩⟩
    · intro u hu
      simp only [List.mem_cons, List.not_mem_nil, or_false] at hu 
      rcases hu with rfl | rfl | rfl | rfl | rfl | rfl <;> first | rfl | exact j5
theorem cells51 : Try.prog.cellsOf 51 = 11 := by kernel_rfl
theorem dec_Ins {H : Type} {enc : TypeId × Value → H} {W : World} {spare : Nat → Bool} {held : Bool} : ∀ (n : Nat) (cs : List Value) (r : DataW H × List MemPlace), DataW.trod enc Try.prog W 0 spare held n 51 cs = some r → ∃ x : Ins, SimVs g00 W (encI x) cs ∧ ∀ u ∈ cs, u.oneCell' = true := by
  intro n cs r h
  obtain ⟨m, rfl, hl, hf⟩ := dec_struct Try.underlying51 h
  rw [cells51] at hl
  obtain ⟨c0, t0, rfl, l0⟩ := len_succ hl
  obtain ⟨c1, t1, rfl, l1⟩ := len_succ l0
  obtain ⟨c2, t2, rfl, l2⟩ := len_succ l1
  obtain ⟨c3, t3, rfl, l3⟩ := len_succ l2
  obtain ⟨c4, t4, rfl, l4⟩ := len_succ l3
  obtain ⟨c5, t5, rfl, l5⟩ := len_succ l4
  obtain ⟨c6, t6, rfl, l6⟩ := len_succ l5
  obtain ⟨c7, t7, rfl, l7⟩ := len_succ l6
  obtain ⟨c8, t8, rfl, l8⟩ := len_succ l7
  obtain ⟨c9, t9, rfl, l9⟩ := len_succ l8
  obtain ⟨c10, t10, rfl, l10⟩ := len_succ l9
  obtain rfl := List.eq_nil_of_length_eq_zero l10
  simp only [List.forall_mem_cons, cells2, cells3, cells49, cells9, List.drop_zero, List.drop_succ_cons, List.take_succ_cons, List.take_zero] at hf
  obtain ⟨⟨y0, h0⟩, ⟨y1, h1⟩, ⟨y2, h2⟩, ⟨y3, h3⟩, ⟨y4, h4⟩, ⟨y5, h5⟩, _⟩ := hf
  obtain ⟨x0, e0⟩ := dec_int Try.underlying3 h0
  obtain ⟨x1, e1⟩ := dec_int Try.underlying3 h1
  obtain ⟨x2, e2⟩ := dec_int Try.underlying2 h2
  obtain ⟨x3, e3, k3⟩ := dec_str Try.underlying9 h3
  obtain ⟨x4, e4, k4⟩ := dec_str Try.underlying9 h4
  obtain ⟨x5, k5, j5⟩ := dec_Datum m _ _ h5
  simp only [List.cons.injEq, and_true] at e0 e1 e2 e3 e4
  subst e0 e1 e2 e3 e4
  refine ⟨Ins.mk x0 x1 x2 x3 x4 x5, ?_, ?_⟩
  · rw [encI_mk]
    exact ⟨_, _, rfl, rfl, ⟨_, _, rfl, rfl, ⟨_, _, rfl, rfl, ⟨_, _, rfl, ⟨rfl, k3⟩, ⟨_, _, rfl, ⟨rfl, k4⟩, k5⟩⟩⟩⟩⟩
  · intro u hu
    simp only [List.mem_cons, List.not_mem_nil, or_false] at hu j5
    rcases hu with rfl | rfl | rfl | rfl | rfl | rfl | rfl | rfl | rfl | rfl | rfl <;> first | rfl | exact j5 _ (by simp)
theorem dec_LIns {H : Type} {enc : TypeId × Value → H} {W : World} {spare : Nat → Bool} {held : Bool} {n : Nat} {cs : List Value} {r : DataW H × List MemPlace} (h : DataW.trod enc Try.prog W 0 spare held n 44 cs = some r) : ∃ (l : List (Ins)) (v : Value), cs = [v] ∧ SimV g00 W (.lst 11 none (l.map encI)) v ∧ v.oneCell' = true :=
  dec_slice encI Try.underlying44 cells51 (by decide) (fun m _ cs r hr => dec_Ins m cs r hr) h
theorem cells44 : Try.prog.cellsOf 44 = 1 := by kernel_rfl
theorem cells46 : Try.prog.cellsOf 46 = 2 := by kernel_rfl
theorem dec_Proto {H : Type} {enc : TypeId × Value → H} {W : World} {spare : Nat → Bool} {held : Bool} : ∀ (n : Nat) (cs : List Value) (r : DataW H × List MemPlace), DataW.trod enc Try.prog W 0 spare held n 46 cs = some r → ∃ x : Pr, SimVs g00 W (encPr x) cs ∧ ∀ u ∈ cs, u.oneCell' = true := by
  intro n cs r h
  obtain ⟨m, rfl, hl, hf⟩ := dec_struct Try.underlying46 h
  rw [cells46] at hl
  obtain ⟨c0, t0, rfl, l0⟩ := len_succ hl
  obtain ⟨c1, t1, rfl, l1⟩ := len_succ l0
  obtain rfl := List.eq_nil_of_length_eq_zero l1
  simp only [List.forall_mem_cons, cells3, cells44, List.drop_zero, List.drop_succ_cons, List.take_succ_cons, List.take_zero] at hf
  obtain ⟨⟨y0, h0⟩, ⟨y1, h1⟩, _⟩ := hf
  obtain ⟨x0, e0⟩ := dec_int Try.underlying3 h0
  obtain ⟨x1, v1, e1, k1, j1⟩ := dec_LIns h1
  simp only [List.cons.injEq, and_true] at e0 e1
  subst e0 e1
  refine ⟨Pr.mk x0 x1, ?_, ?_⟩
  · exact ⟨_, _, rfl, rfl, ⟨_, _, rfl, k1, rfl⟩⟩
  · intro u hu
    simp only [List.mem_cons, List.not_mem_nil, or_false] at hu 
    rcases hu with rfl | rfl <;> first | rfl | exact j1
theorem dec_LProto {H : Type} {enc : TypeId × Value → H} {W : World} {spare : Nat → Bool} {held : Bool} {n : Nat} {cs : List Value} {r : DataW H × List MemPlace} (h : DataW.trod enc Try.prog W 0 spare held n 24 cs = some r) : ∃ (l : List (Pr)) (v : Value), cs = [v] ∧ SimV g00 W (.lst 2 none (l.map encPr)) v ∧ v.oneCell' = true :=
  dec_slice encPr Try.underlying24 cells46 (by decide) (fun m _ cs r hr => dec_Proto m cs r hr) h
theorem cells24 : Try.prog.cellsOf 24 = 1 := by kernel_rfl
theorem cells37 : Try.prog.cellsOf 37 = 2 := by kernel_rfl
theorem dec_Unit {H : Type} {enc : TypeId × Value → H} {W : World} {spare : Nat → Bool} {held : Bool} : ∀ (n : Nat) (cs : List Value) (r : DataW H × List MemPlace), DataW.trod enc Try.prog W 0 spare held n 37 cs = some r → ∃ x : Unit', SimVs g00 W (encU x) cs ∧ ∀ u ∈ cs, u.oneCell' = true := by
  intro n cs r h
  obtain ⟨m, rfl, hl, hf⟩ := dec_struct Try.underlying37 h
  rw [cells37] at hl
  obtain ⟨c0, t0, rfl, l0⟩ := len_succ hl
  obtain ⟨c1, t1, rfl, l1⟩ := len_succ l0
  obtain rfl := List.eq_nil_of_length_eq_zero l1
  simp only [List.forall_mem_cons, cells24, cells9, List.drop_zero, List.drop_succ_cons, List.take_succ_cons, List.take_zero] at hf
  obtain ⟨⟨y0, h0⟩, ⟨y1, h1⟩, _⟩ := hf
  obtain ⟨x0, e0, k0⟩ := dec_str Try.underlying9 h0
  obtain ⟨x1, v1, e1, k1, j1⟩ := dec_LProto h1
  simp only [List.cons.injEq, and_true] at e0 e1
  subst e0 e1
  refine ⟨Unit'.mk x0 x1, ?_, ?_⟩
  · exact ⟨_, _, rfl, ⟨rfl, k0⟩, ⟨_, _, rfl, k1, rfl⟩⟩
  · intro u hu
    simp only [List.mem_cons, List.not_mem_nil, or_false] at hu 
    rcases hu with rfl | rfl <;> first | rfl | exact j1
end Go.Proofs.Ytlblgbfpdlfedaa.Gx

namespace Go.Proofs.Ytlblgbfpdlfedaa.Gx
open Go Go.Proofs.Ytlblgbfpdlfedaa.Gw
set_option linter.unusedSimpArgs false
set_option linter.unusedVariables false
open Go.ChangeShapes Go.WideShapes Go.ChangeAt Go.RowKit
set_option maxRecDepth 100000 in
theorem lifted (os : Os) (started : os.Started) (H : Type) (enc : TypeId × Value → H) :
    ReturnsInHanded {} Try.checked os 6 .any (Rows.linkOneSpec.pre6 enc Try.prog Try.f6 Rows.linkOneRow.domain false) (Rows.linkOneSpec.post enc Try.prog Try.f6 false true false false) := by
  refine returnsInHanded_of_change_sized (C := Try.checked) own started (by kernel_rfl) Try.func6
    (ChangeSpec.witness6 (enc := enc) (C := Try.checked) false ⟨#[], #[.agg #[.string ByteArray.empty, .slice none 0 0]], []⟩ 8 (by kernel_rfl) (by kernel_rfl) (by kernel_rfl) (by kernel_rfl)) ?_
  intro W base args ds gs before hval0 hW hcnd hsz0 _
  have hval : ∀ (j : Nat) t v, Try.f6.params[j]? = some t → args[j]? = some v → Value.okWide Try.prog W .any base t v := hval0
  have hW' := hW
  obtain ⟨p, q, hA0, hV, rfl, hfz, hnd⟩ := hW
  have hA : DataW.TrodAll enc Try.prog W 0 (fun _ => true) true Try.f6.params.toList args.toList ds p := hA0
  rw [Try.params6] at hA hval
  obtain ⟨v0, vs0, d0, ds0, p0, q0, hargs0, rfl, rfl, h0, r0⟩ := trodAll_cons hA
  obtain ⟨rfl, rfl, rfl⟩ := trodAll_nil r0
  obtain rfl : args = #[v0] := by cases args; simp_all
  obtain ⟨rfl, rfl⟩ := trodVars_none hV
  have w0 := hval 0 37 v0 rfl rfl
  unfold Value.okWide at w0
  rw [Try.underlying37] at w0
  obtain ⟨cs0, rfl, _, _⟩ := w0
  have k0 := h0
  have lt0 : ∀ x ∈ p0, x.block < W.heap.size := by obtain ⟨m, hm⟩ := k0; exact DataW.trod_lt m _ _ _ hm
  obtain ⟨m0, hm0⟩ := h0
  obtain ⟨u, s0, o0⟩ := dec_Unit _ _ _ hm0
  clear hA0 hval0 hsz0
  refine ((c_LinkOne u []).2 g00 W [.agg cs0] (sim00 _ W) ⟨_, _, rfl, ⟨cs0.toList, rfl, s0, o0⟩, rfl⟩).mono fun e W' ⟨r, st', g', ⟨h1, h2⟩, hend, _, hext⟩ => ?_
  subst h1
  obtain ⟨val, rfl, hb⟩ := hend
  simp only [SimV] at hb
  subst hb
  have bel := below_of hext
  exact ⟨_, rfl, _, _, _, [], _, [], hW', trodAll_mk1 (shut_bool Try.underlying4 _), (trodAll_cons_mk (Below.trod laidOut (by kernel_rfl) (of_decide_eq_true (by kernel_rfl)) k0 bel lt0) trodAll_mk0), rfl, bel.frame _, fun h => by cases h⟩
theorem over : Rows.linkOneRow.holds Try.pinned (OpenSpec.ofChange Rows.linkOneSpec) :=
  OpenClaim.holds_of_wide 6 Try.f6 rfl rfl rfl rfl rfl rfl rfl ⟨rfl, rfl, rfl, rfl, rfl⟩ rfl rfl rfl rfl rfl (by kernel_rfl) Try.func6 (by kernel_rfl)
    (of_decide_eq_true (by kernel_rfl)) (by unfold Func.isWrapper; first | (rw [if_pos (by decide +kernel)]; kernel_rfl) | (rw [if_neg (by decide +kernel)]; exact ⟨rfl, rfl⟩))
    (fun os started H enc _ => lifted os started H enc)
end Go.Proofs.Ytlblgbfpdlfedaa.Gx
namespace Go.Proofs.Ytlblgbfpdlfedaa
/-- The row, under a short name, for the claim. -/
theorem linkOne_holds : Rows.LinkOneSaid := Gx.over
#print axioms linkOne_holds
end Go.Proofs.Ytlblgbfpdlfedaa
