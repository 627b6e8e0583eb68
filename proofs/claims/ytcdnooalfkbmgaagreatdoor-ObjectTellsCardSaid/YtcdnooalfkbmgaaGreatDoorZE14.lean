/- How what comes in for ObjectTells is read. The row of the law ObjectTells, whatever comes in: it answers true, and what came in reads as it did. -/
import Derived.Test.YtcdnooalfkbmgaaGreatDoorZE13
import Derived.Test.YtcdnooalfkbmgaaGreatDoorCards
import Derived.Test.YtcdnooalfkbmgaaGreatDoorTie
import Derived.Deep.DeepHandedRow
import Derived.Lib.LaidTab
import Derived.ProofKit
import Derived.OpenShut
import Derived.Stop.LaidErr
namespace Go.Proofs.YtcdnooalfkbmgaaGreatDoor.Gx
open Go Go.Proofs.YtcdnooalfkbmgaaGreatDoor.Gw
open Nat (reduceEqDiff reduceAdd reduceLT reduceLeDiff reduceMul)
set_option linter.unusedSimpArgs false
set_option linter.unusedVariables false
theorem cells49 : Tryz.prog.cellsOf 49 = 6 := by kernel_rfl
theorem cells3 : Tryz.prog.cellsOf 3 = 1 := by kernel_rfl
theorem cells2 : Tryz.prog.cellsOf 2 = 1 := by kernel_rfl
theorem cells9 : Tryz.prog.cellsOf 9 = 1 := by kernel_rfl
theorem cells47 : Tryz.prog.cellsOf 47 = 1 := by kernel_rfl
theorem dec_Datum {H : Type} {enc : TypeId × Value → H} {W : World} {spare : Nat → Bool} {held : Bool} : ∀ (n : Nat) (cs : List Value) (r : DataW H × List MemPlace), DataW.trod enc Tryz.prog W 0 spare held n 49 cs = some r → ∃ x : Datum, SimVs g00 W (encD x) cs ∧ ∀ u ∈ cs, u.oneCell' = true := by
 intro n
 induction n using Nat.strongRecOn with
 | _ n ih =>
  intro cs r h
  obtain ⟨m, rfl, hl, hf⟩ := dec_struct Tryz.underlying49 h
  rw [cells49] at hl
  obtain ⟨c0, t0, rfl, l0⟩ := len_succ hl
  obtain ⟨c1, t1, rfl, l1⟩ := len_succ l0
  obtain ⟨c2, t2, rfl, l2⟩ := len_succ l1
  obtain ⟨c3, t3, rfl, l3⟩ := len_succ l2
  obtain ⟨c4, t4, rfl, l4⟩ := len_succ l3
  obtain ⟨c5, t5, rfl, l5⟩ := len_succ l4
  obtain rfl := List.eq_nil_of_length_eq_zero l5
  simp only [List.forall_mem_cons, cells2, cells3, cells47, cells9, List.drop_zero, List.drop_succ_cons, List.take_succ_cons, List.take_zero] at hf
  obtain ⟨⟨y0, h0⟩, ⟨y1, h1⟩, ⟨y2, h2⟩, ⟨y3, h3⟩, ⟨y4, h4⟩, ⟨y5, h5⟩, _⟩ := hf
  obtain ⟨x0, e0⟩ := dec_int Tryz.underlying3 h0
  obtain ⟨x1, e1⟩ := dec_int Tryz.underlying2 h1
  obtain ⟨x2, e2, k2⟩ := dec_str Tryz.underlying9 h2
  obtain ⟨x3, e3⟩ := dec_int Tryz.underlying3 h3
  obtain ⟨x4, e4⟩ := dec_int Tryz.underlying3 h4
  obtain ⟨x5, v5, e5, k5, j5⟩ := dec_slice encD Tryz.underlying47 cells49 (by decide) (fun m' hm' cs r hr => ih m' (by omega) cs r hr) h5
  simp only [List.cons.injEq, and_true] at e0 e1 e2 e3 e4 e5
  subst e0 e1 e2 e3 e4 e5
  refine ⟨Datum.mk x0 x1 x2 x3 x4 x5, ?_, ?_⟩
  ·rw [encD_mk]
   exact ⟨_, _, rfl, rfl, ⟨_, _, rfl, rfl, ⟨_, _, rfl, ⟨rfl, k2⟩, ⟨_, _, rfl, rfl, ⟨_, _, rfl, rfl, ⟨_, _, rfl, k5, rfl⟩⟩⟩⟩⟩⟩
  ·intro u hu
   simp only [List.mem_cons, List.not_mem_nil, or_false] at hu
   rcases hu with rfl | rfl | rfl | rfl | rfl | rfl <;> first | rfl | exact j5
theorem cells51 : Tryz.prog.cellsOf 51 = 11 := by kernel_rfl
theorem dec_Ins {H : Type} {enc : TypeId × Value → H} {W : World} {spare : Nat → Bool} {held : Bool} : ∀ (n : Nat) (cs : List Value) (r : DataW H × List MemPlace), DataW.trod enc Tryz.prog W 0 spare held n 51 cs = some r → ∃ x : Ins, SimVs g00 W (encI x) cs ∧ ∀ u ∈ cs, u.oneCell' = true := by
 intro n cs r h
 obtain ⟨m, rfl, hl, hf⟩ := dec_struct Tryz.underlying51 h
 rw [cells51] at hl
 obtain ⟨c0, t0, rfl, l0⟩ := len_succ hl
 obtain ⟨c1, t1, rfl, l1⟩ := len_succ l0
 obtain ⟨c2, t2, rfl, l2⟩ := len_succ l1
 obtain ⟨c3, t3, rfl, l3⟩ := len_succ l2
 obtain ⟨c4, t4, rfl, l4⟩ := len_succ l3
 obtain ⟨c5, t5, rfl, l5⟩ := len_succ l4
 obtain ⟨c6, t6, rfl, l6⟩ := len_succ l5
 obtain ⟨c7, t7, rfl, l7⟩ := len_succ l6
 obtain ⟨c8, t8, rfl, l8⟩ := len_succ l7
 obtain ⟨c9, t9, rfl, l9⟩ := len_succ l8
 obtain ⟨c10, t10, rfl, l10⟩ := len_succ l9
 obtain rfl := List.eq_nil_of_length_eq_zero l10
 simp only [List.forall_mem_cons, cells2, cells3, cells49, cells9, List.drop_zero, List.drop_succ_cons, List.take_succ_cons, List.take_zero] at hf
 obtain ⟨⟨y0, h0⟩, ⟨y1, h1⟩, ⟨y2, h2⟩, ⟨y3, h3⟩, ⟨y4, h4⟩, ⟨y5, h5⟩, _⟩ := hf
 obtain ⟨x0, e0⟩ := dec_int Tryz.underlying3 h0
 obtain ⟨x1, e1⟩ := dec_int Tryz.underlying3 h1
 obtain ⟨x2, e2⟩ := dec_int Tryz.underlying2 h2
 obtain ⟨x3, e3, k3⟩ := dec_str Tryz.underlying9 h3
 obtain ⟨x4, e4, k4⟩ := dec_str Tryz.underlying9 h4
 obtain ⟨x5, k5, j5⟩ := dec_Datum m _ _ h5
 simp only [List.cons.injEq, and_true] at e0 e1 e2 e3 e4
 subst e0 e1 e2 e3 e4
 refine ⟨Ins.mk x0 x1 x2 x3 x4 x5, ?_, ?_⟩
 ·rw [encI_mk]
  exact ⟨_, _, rfl, rfl, ⟨_, _, rfl, rfl, ⟨_, _, rfl, rfl, ⟨_, _, rfl, ⟨rfl, k3⟩, ⟨_, _, rfl, ⟨rfl, k4⟩, k5⟩⟩⟩⟩⟩
 ·intro u hu
  simp only [List.mem_cons, List.not_mem_nil, or_false] at hu j5
  rcases hu with rfl | rfl | rfl | rfl | rfl | rfl | rfl | rfl | rfl | rfl | rfl <;> first | rfl | exact j5 _ (by simp)
theorem dec_LIns {H : Type} {enc : TypeId × Value → H} {W : World} {spare : Nat → Bool} {held : Bool} {n : Nat} {cs : List Value} {r : DataW H × List MemPlace} (h : DataW.trod enc Tryz.prog W 0 spare held n 44 cs = some r) : ∃ (l : List (Ins)) (v : Value), cs = [v] ∧ SimV g00 W (.lst 11 none (l.map encI)) v ∧ v.oneCell' = true :=
 dec_slice encI Tryz.underlying44 cells51 (by decide) (fun m _ cs r hr => dec_Ins m cs r hr) h
theorem cells44 : Tryz.prog.cellsOf 44 = 1 := by kernel_rfl
theorem cells46 : Tryz.prog.cellsOf 46 = 2 := by kernel_rfl
theorem dec_Proto {H : Type} {enc : TypeId × Value → H} {W : World} {spare : Nat → Bool} {held : Bool} : ∀ (n : Nat) (cs : List Value) (r : DataW H × List MemPlace), DataW.trod enc Tryz.prog W 0 spare held n 46 cs = some r → ∃ x : Pr, SimVs g00 W (encPr x) cs ∧ ∀ u ∈ cs, u.oneCell' = true := by
 intro n cs r h
 obtain ⟨m, rfl, hl, hf⟩ := dec_struct Tryz.underlying46 h
 rw [cells46] at hl
 obtain ⟨c0, t0, rfl, l0⟩ := len_succ hl
 obtain ⟨c1, t1, rfl, l1⟩ := len_succ l0
 obtain rfl := List.eq_nil_of_length_eq_zero l1
 simp only [List.forall_mem_cons, cells3, cells44, List.drop_zero, List.drop_succ_cons, List.take_succ_cons, List.take_zero] at hf
 obtain ⟨⟨y0, h0⟩, ⟨y1, h1⟩, _⟩ := hf
 obtain ⟨x0, e0⟩ := dec_int Tryz.underlying3 h0
 obtain ⟨x1, v1, e1, k1, j1⟩ := dec_LIns h1
 simp only [List.cons.injEq, and_true] at e0 e1
 subst e0 e1
 refine ⟨Pr.mk x0 x1, ?_, ?_⟩
 ·exact ⟨_, _, rfl, rfl, ⟨_, _, rfl, k1, rfl⟩⟩
 ·intro u hu
  simp only [List.mem_cons, List.not_mem_nil, or_false] at hu
  rcases hu with rfl | rfl <;> first | rfl | exact j1
theorem dec_LProto {H : Type} {enc : TypeId × Value → H} {W : World} {spare : Nat → Bool} {held : Bool} {n : Nat} {cs : List Value} {r : DataW H × List MemPlace} (h : DataW.trod enc Tryz.prog W 0 spare held n 22 cs = some r) : ∃ (l : List (Pr)) (v : Value), cs = [v] ∧ SimV g00 W (.lst 2 none (l.map encPr)) v ∧ v.oneCell' = true :=
 dec_slice encPr Tryz.underlying22 cells46 (by decide) (fun m _ cs r hr => dec_Proto m cs r hr) h
theorem cells22 : Tryz.prog.cellsOf 22 = 1 := by kernel_rfl
theorem cells24 : Tryz.prog.cellsOf 24 = 2 := by kernel_rfl
theorem dec_Unit {H : Type} {enc : TypeId × Value → H} {W : World} {spare : Nat → Bool} {held : Bool} : ∀ (n : Nat) (cs : List Value) (r : DataW H × List MemPlace), DataW.trod enc Tryz.prog W 0 spare held n 24 cs = some r → ∃ x : Unit', SimVs g00 W (encU x) cs ∧ ∀ u ∈ cs, u.oneCell' = true := by
 intro n cs r h
 obtain ⟨m, rfl, hl, hf⟩ := dec_struct Tryz.underlying24 h
 rw [cells24] at hl
 obtain ⟨c0, t0, rfl, l0⟩ := len_succ hl
 obtain ⟨c1, t1, rfl, l1⟩ := len_succ l0
 obtain rfl := List.eq_nil_of_length_eq_zero l1
 simp only [List.forall_mem_cons, cells22, cells9, List.drop_zero, List.drop_succ_cons, List.take_succ_cons, List.take_zero] at hf
 obtain ⟨⟨y0, h0⟩, ⟨y1, h1⟩, _⟩ := hf
 obtain ⟨x0, e0, k0⟩ := dec_str Tryz.underlying9 h0
 obtain ⟨x1, v1, e1, k1, j1⟩ := dec_LProto h1
 simp only [List.cons.injEq, and_true] at e0 e1
 subst e0 e1
 refine ⟨Unit'.mk x0 x1, ?_, ?_⟩
 ·exact ⟨_, _, rfl, ⟨rfl, k0⟩, ⟨_, _, rfl, k1, rfl⟩⟩
 ·intro u hu
  simp only [List.mem_cons, List.not_mem_nil, or_false] at hu
  rcases hu with rfl | rfl <;> first | rfl | exact j1
theorem cells5 : Tryz.prog.cellsOf 5 = 1 := by kernel_rfl
theorem dec_Lbyte {H : Type} {enc : TypeId × Value → H} {W : World} {spare : Nat → Bool} {held : Bool} {n : Nat} {cs : List Value} {r : DataW H × List MemPlace} (h : DataW.trod enc Tryz.prog W 0 spare held n 25 cs = some r) : ∃ (l : List (UInt8)) (v : Value), cs = [v] ∧ SimV g00 W (.lst 1 none (l.map encY1)) v ∧ v.oneCell' = true :=
 dec_slice (X := UInt8) encY1 Tryz.underlying25 cells5 (by decide) (fun m _ cs r hr => dec_byte1 Tryz.underlying5 hr) h
end Go.Proofs.YtcdnooalfkbmgaaGreatDoor.Gx
namespace Go.Proofs.YtcdnooalfkbmgaaGreatDoor.Gx
open Go Go.Proofs.YtcdnooalfkbmgaaGreatDoor.Gw
set_option linter.unusedSimpArgs false
set_option linter.unusedVariables false
open Go.ChangeShapes Go.WideShapes Go.ChangeAt Go.RowKit
noncomputable def low0 : Nat := (World.holding Tryz.prog default ⟨#[], #[], []⟩).heap.size
/-- A world that meets what is laid. -/
noncomputable def laidWorld (os : Os) : World :=
 { World.holding Tryz.prog os ⟨#[.cells #[.string ⟨#[105, 110, 118, 97, 108, 105, 100, 32, 115, 121, 110, 116, 97, 120]⟩] 199, .cells #[.string ⟨#[118, 97, 108, 117, 101, 32, 111, 117, 116, 32, 111, 102, 32, 114, 97, 110, 103, 101]⟩] 199], #[], []⟩ with heap := ((((((World.holding Tryz.prog os ⟨#[.cells #[.string ⟨#[105, 110, 118, 97, 108, 105, 100, 32, 115, 121, 110, 116, 97, 120]⟩] 199, .cells #[.string ⟨#[118, 97, 108, 117, 101, 32, 111, 117, 116, 32, 111, 102, 32, 114, 97, 110, 103, 101]⟩] 199], #[], []⟩).heap.modify 0 (fun | .cells _ t frozen => .cells #[.int .u64 1, .int .u64 10, .int .u64 100, .int .u64 1000, .int .u64 10000, .int .u64 100000, .int .u64 1000000, .int .u64 10000000, .int .u64 100000000, .int .u64 1000000000, .int .u64 10000000000, .int .u64 100000000000, .int .u64 1000000000000, .int .u64 10000000000000, .int .u64 100000000000000, .int .u64 1000000000000000, .int .u64 10000000000000000, .int .u64 100000000000000000, .int .u64 1000000000000000000, .int .u64 10000000000000000000] t frozen | o => o)).modify 1 (fun | .cells _ t frozen => .cells #[.int .u8 0, .int .u8 1, .int .u8 28, .int .u8 2, .int .u8 29, .int .u8 14, .int .u8 24, .int .u8 3, .int .u8 30, .int .u8 22, .int .u8 20, .int .u8 15, .int .u8 25, .int .u8 17, .int .u8 4, .int .u8 8, .int .u8 31, .int .u8 27, .int .u8 13, .int .u8 23, .int .u8 21, .int .u8 19, .int .u8 16, .int .u8 7, .int .u8 26, .int .u8 12, .int .u8 18, .int .u8 6, .int .u8 11, .int .u8 5, .int .u8 10, .int .u8 9] t frozen | o => o)).modify 2 (fun | .cells _ t frozen => .cells #[.int .u8 0, .int .u8 1, .int .u8 56, .int .u8 2, .int .u8 57, .int .u8 49, .int .u8 28, .int .u8 3, .int .u8 61, .int .u8 58, .int .u8 42, .int .u8 50, .int .u8 38, .int .u8 29, .int .u8 17, .int .u8 4, .int .u8 62, .int .u8 47, .int .u8 59, .int .u8 36, .int .u8 45, .int .u8 43, .int .u8 51, .int .u8 22, .int .u8 53, .int .u8 39, .int .u8 33, .int .u8 30, .int .u8 24, .int .u8 18, .int .u8 12, .int .u8 5, .int .u8 63, .int .u8 55, .int .u8 48, .int .u8 27, .int .u8 60, .int .u8 41, .int .u8 37, .int .u8 16, .int .u8 46, .int .u8 35, .int .u8 44, .int .u8 21, .int .u8 52, .int .u8 32, .int .u8 23, .int .u8 11, .int .u8 54, .int .u8 26, .int .u8 40, .int .u8 15, .int .u8 34, .int .u8 20, .int .u8 31, .int .u8 10, .int .u8 25, .int .u8 14, .int .u8 19, .int .u8 9, .int .u8 13, .int .u8 8, .int .u8 7, .int .u8 6] t frozen | o => o)).modify 4 (fun | .cells _ t frozen => .cells #[.iface 197 (.pointer (some ⟨low0 + 0, 0, none⟩))] t frozen | o => o)).modify 5 (fun | .cells _ t frozen => .cells #[.iface 197 (.pointer (some ⟨low0 + 1, 0, none⟩))] t frozen | o => o)) }
theorem laid_met (os : Os) : laidMet Tryz.prog Rows.objectTellsRow.laid ((laidWorld os).forCall (fun _ _ => 0) ⟨#[], #[.agg #[.string ByteArray.empty, .slice none 0 0], .slice none 0 0], []⟩).memory :=
 laidMet_of_run' 8 (by kernel_rfl) (by kernel_rfl)
theorem reads (os : Os) {H : Type} (enc : TypeId × Value → H) : ∃ places, DataW.whole enc Tryz.prog ((laidWorld os).forCall (fun _ _ => 0) ⟨#[], #[.agg #[.string ByteArray.empty, .slice none 0 0], .slice none 0 0], []⟩).memory Tryz.f3.params.toList Rows.objectTellsSpec.vars false #[.agg #[.string ByteArray.empty, .slice none 0 0], .slice none 0 0].toList 8 = some ([.agg [.lit (.string []), .nil], .nil], [], places) :=
 ⟨[], by kernel_rfl⟩
theorem amb_of_laid {W : World} (hL : laidMet Tryz.prog Rows.objectTellsRow.laid W) : Amb g00 W := by
 intro p hp
 obtain rfl : p = (0, (Go.Lib.pow10Tab.map fun z => Value.int .u64 z).toArray) := List.mem_singleton.1 hp
 have h : laidMet Tryz.prog (("internal/strconv.uint64pow10", Go.Lib.tabData .u64 Go.Lib.pow10Tab) :: [("strconv.ErrRange", Rows.laid_strconv_ErrRange), ("strconv.ErrSyntax", Rows.laid_strconv_ErrSyntax)]) W := hL.tail.tail
 have ht := Go.Lib.tabIs_of_head (g := 0) (t := 174) (e := 113) (n := 20) (by kernel_rfl) (by kernel_rfl) (by kernel_rfl) (by kernel_rfl) (by kernel_rfl) (by kernel_rfl) h
 refine ⟨rfl, ?_⟩
 unfold Go.Lib.TabIs World.var? at ht
 rw [show Tryz.prog.globalNamed "internal/strconv.uint64pow10" = some 0 by kernel_rfl, Option.bind_some] at ht
 split at ht
 ·rename_i cs t x hx
  simp only [Option.some.injEq] at ht
  subst ht
  exact ⟨t, x, hx⟩
 ·cases ht
set_option maxRecDepth 100000 in
theorem contract (H : Type) (enc : TypeId × Value → H) (W : World) (base : Nat) (args : Array Value) (ds gs : List (DataW H)) (before : List MemPlace) (hL : laidMet Tryz.prog Rows.objectTellsRow.laid W)
  (hval : ∀ (j : Nat) t v, Tryz.f3.params[j]? = some t → args[j]? = some v → Value.okWide Tryz.prog W .any base t v)
  (hW : DataW.Whole enc Tryz.prog Tryz.f3.params.toList Rows.objectTellsSpec.vars false W args.toList ds gs before) :
  Calls Tryz.prog 3 args W fun e W' => ∃ v, e = .returned v ∧ Rows.objectTellsSpec.post enc Tryz.prog Tryz.f3 false true false false W args v W' := by
 have hamb := amb_of_laid hL
 have hW' := hW
 obtain ⟨p, q, hA0, hV, rfl, hfz, hnd⟩ := hW
 have hA : DataW.TrodAll enc Tryz.prog W 0 (fun _ => true) true Tryz.f3.params.toList args.toList ds p := hA0
 rw [Tryz.params3] at hA hval
 obtain ⟨v0, vs0, d0, ds0, p0, q0, hargs0, rfl, rfl, h0, r0⟩ := trodAll_cons hA
 obtain ⟨v1, vs1, d1, ds1, p1, q1, hargs1, rfl, rfl, h1, r1⟩ := trodAll_cons r0
 obtain ⟨rfl, rfl, rfl⟩ := trodAll_nil r1
 obtain rfl : args = #[v0, v1] := by cases args; simp_all
 obtain ⟨rfl, rfl⟩ := trodVars_none hV
 have w0 := hval 0 24 v0 rfl rfl
 unfold Value.okWide at w0
 rw [Tryz.underlying24] at w0
 obtain ⟨cs0, rfl, _, _⟩ := w0
 have w1 := hval 1 25 v1 rfl rfl
 have k0 := h0
 have lt0 : ∀ x ∈ p0, x.block < W.heap.size := by obtain ⟨m, hm⟩ := k0; exact DataW.trod_lt m _ _ _ hm
 obtain ⟨m0, hm0⟩ := h0
 obtain ⟨u, s0, o0⟩ := dec_Unit _ _ _ hm0
 have k1 := h1
 have lt1 : ∀ x ∈ p1, x.block < W.heap.size := by obtain ⟨m, hm⟩ := k1; exact DataW.trod_lt m _ _ _ hm
 obtain ⟨m1, hm1⟩ := h1
 rw [okWide_slice Tryz.underlying25 w1] at hm1
 obtain ⟨b, x1, e1, s1, o1⟩ := dec_Lbyte hm1
 simp only [List.cons.injEq, and_true] at e1
 subst e1
 refine ((c_Tells u b []).2 g00 W [.agg cs0, v1] (sim00 _ W) ⟨_, _, rfl, ⟨cs0.toList, rfl, s0, o0⟩, ⟨_, _, rfl, s1, rfl⟩⟩).mono fun e W' ⟨r, st', g', ⟨h1, h2⟩, hend, _, hext⟩ => ?_
 subst h1
 obtain ⟨val, rfl, hb⟩ := hend
 simp only [SimV] at hb
 subst hb
 have bel := below_of hext
 exact ⟨_, rfl, _, _, _, [], _, [], hW', trodAll_mk1 (shut_bool Tryz.underlying4 _), (trodAll_cons_mk (Below.trod laidOut (by kernel_rfl) (of_decide_eq_true (by kernel_rfl)) k0 bel lt0) (trodAll_cons_mk (Below.trod laidOut (by kernel_rfl) (of_decide_eq_true (by kernel_rfl)) k1 bel lt1) trodAll_mk0)), rfl, bel.frame _, fun h => by cases h⟩
set_option maxRecDepth 100000 in
theorem lifted (os : Os) (started : os.Started) (H : Type) (enc : TypeId × Value → H) (F : Stop.Interp) :
  ReturnsInHanded {} Tryz.checked os 3 .any ((OpenSpec.ofChange Rows.objectTellsSpec).preRow enc Tryz.prog Tryz.f3 Rows.objectTellsRow.domain false Rows.objectTellsRow.laid) (((OpenSpec.ofChange Rows.objectTellsSpec).at F).post enc Tryz.prog Tryz.f3 false true false false) := by
 obtain ⟨places, hx⟩ := reads os enc
 refine returnsInHanded_of_row (C := Tryz.checked) (s := OpenSpec.ofChange Rows.objectTellsSpec) own started (by kernel_rfl) Tryz.func3
  (witness_row_at (enc := enc) (C := Tryz.checked) false (laidWorld os) #[.agg #[.string ByteArray.empty, .slice none 0 0], .slice none 0 0] rfl (by kernel_rfl) (by kernel_rfl) (by kernel_rfl)
   (OpenSpec.preRow_of_cond 8 hx (by kernel_rfl) (fun k hk => by cases hk) (by kernel_rfl) (laid_met os))) ?_
 intro W base args ds gs before hval hW _ hk _ hL _ _
 exact contract H enc W base args ds gs before hL hval hW
theorem said : Rows.ObjectTellsSaid :=
 OpenClaim.holds_of_cond 3 Tryz.f3 rfl rfl rfl rfl rfl rfl rfl ⟨rfl, rfl, rfl, rfl, rfl⟩ rfl rfl rfl rfl rfl (by kernel_rfl) Tryz.func3 (by kernel_rfl)
  (of_decide_eq_true (by kernel_rfl)) (by unfold Func.isWrapper; first | (rw [if_pos (by decide +kernel)]; kernel_rfl) | (rw [if_neg (by decide +kernel)]; exact ⟨rfl, rfl⟩))
  (fun os started H enc _ F => by rw [OpenClaim.pre_eq_preRow]; exact lifted os started H enc F)
theorem plain (f : FuncId) (fn : Func) (hf : Tryz.pinned.checked.prog.funcNamed "graftwood/graftlaw9.ObjectTells" = some f) (hfn : Tryz.pinned.checked.prog.funcs[f]? = some fn) :
  true = Tryz.pinned.checked.prog.looks [] ∧ ∀ (j : Nat) t, fn.params[j]? = some t → Tryz.pinned.checked.prog.wantsStandIn t = false := by
 obtain rfl : f = 3 := Option.some.inj ((show Tryz.prog.funcNamed "graftwood/graftlaw9.ObjectTells" = some 3 by kernel_rfl).symm.trans hf) |>.symm
 obtain rfl : fn = Tryz.f3 := (Option.some.inj (Tryz.func3.symm.trans hfn)).symm
 refine ⟨by kernel_rfl, fun j t ht => ?_⟩
 rw [Tryz.params3] at ht
 have hm := Array.mem_of_getElem? ht
 simp at hm
 rcases hm with rfl | rfl
 ·exact (show Tryz.prog.wantsStandIn 24 = false by kernel_rfl)
 ·exact (show Tryz.prog.wantsStandIn 25 = false by kernel_rfl)
end Go.Proofs.YtcdnooalfkbmgaaGreatDoor.Gx
namespace Go.Proofs.YtcdnooalfkbmgaaGreatDoor
theorem objectTellsCard_holds : Rows.ObjectTellsCardSaid :=
 Claim7.holds_tied_plain_at .later [] _ _ _ _ Gx.said (fun _ h => by cases h) (by kernel_rfl) (fun _ h => by cases h) objectTells_row_tie rfl ⟨rfl, rfl⟩ (by kernel_rfl) rfl Gx.plain (by kernel_rfl)
#print axioms objectTellsCard_holds
end Go.Proofs.YtcdnooalfkbmgaaGreatDoor
