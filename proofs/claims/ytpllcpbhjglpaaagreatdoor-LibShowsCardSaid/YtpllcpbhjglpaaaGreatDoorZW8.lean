/- Libraries taken apart: what is told, in plain terms. strings.Join: by the shelf. lib: names, lists, walked. lib: what is looked for in lists, walked. lib: import sets, walked. lib: how a library that is made lies; bodies, walked. lib: what is brought out, walked. Reading, by what is left of the text, not by where it is; with more fuel, behind more nodes, with more text behind. Reading, by what is left of the text: with more fuel, behind more nodes, with more text behind. strings.Builder: what its methods do. Writing data: numbers; a datum; data on lines. Writing data, walked. Printing data, walked. -/
import Derived.Test.YtpllcpbhjglpaaaGreatDoorZW7
import Derived.Shelf.Lay
import Derived.Shelf.LaySoft
import Derived.Shelf.Strings.OnBuilder
import Derived.Lib.Builder
import Derived.Lib.UnsafeStr
import Derived.Shelf.Strconv.Itoa4
import Derived.Lib.ItoaLen
import Derived.Ground.NamesProg
namespace Go.Proofs.YtpllcpbhjglpaaaGreatDoor.Gx
open Go Go.Proofs.YtpllcpbhjglpaaaGreatDoor.Gw
open Nat renaming reduceEqDiff → qqE, reduceAdd → qqA, reduceLT → qqL, reduceLeDiff → qqD, reduceMul → qqM
set_option linter.unusedSimpArgs false
set_option linter.unusedVariables false
abbrev Prs := List (Str × Str)
/-- A library that was taken apart. -/
structure Lib' where
 name : Str
 exps : Prs
 imps : List Set'
 body : List Datum
/-- What may be looked at. -/
structure Wd where
 files : Prs
 feats : List Str
 libs : List Str
def noLib : Lib' := ⟨[], [], [], []⟩
/-- One behind the other, where nothing is wrong. -/
def thenE {α β : Type} (x : α × Int) (z : β) (f : α → β × Int) : β × Int := bif decide (x.2 = 0) then f x.1 else (z, x.2)
def symP : Datum → Str × Int
 | .mk k _ nm _ _ _ => bif decide (k = 3) then (nm, 0) else ([], 2)
def symsP : List Datum → List Str → List Str × Int
 | [], acc => (acc, 0)
 | d :: r, acc => bif decide ((symP d).2 = 0) then symsP r (acc ++ [(symP d).1]) else ([], (symP d).2)
def listP (least : Nat) : Datum → List Datum × Int
 | .mk k _ _ _ _ kids => bif !decide (k = 4) || decide (kids.length < least) then ([], 2) else (kids, 0)
def joinP : List Str → Str
 | [] => []
 | [s] => s
 | s :: r => s ++ 32 :: joinP r
def calledP (d : Datum) : Str × Int :=
 thenE (listP 1 d) [] fun l => thenE (symsP l []) [] fun s => bif decide (60 < (joinP s).length) then ([], 4) else (joinP s, 0)
def kindOf : Datum → Int
 | .mk k _ _ _ _ _ => k
def nameOf : Datum → Str
 | .mk _ _ nm _ _ _ => nm
def wOnly : Str := [111, 110, 108, 121]
def wExcept : Str := [101, 120, 99, 101, 112, 116]
def wPrefix : Str := [112, 114, 101, 102, 105, 120]
def wRename : Str := [114, 101, 110, 97, 109, 101]
def setKind (l : List Datum) : Int := match l with
 | a :: b :: _ => bif decide (kindOf b = 4) && decide (kindOf a = 3) then idxOf (nameOf a) 0 [wOnly, wExcept, wPrefix, wRename] + 2 else 0
 | _ => 0
def noSet : Set' := .mk 0 [] [] [] [] []
def renP : List Datum → List Str → List Str → (List Str × List Str) × Int
 | [], ns, az => ((ns, az), 0)
 | p :: r, ns, az => thenE (listP 2 p) ([], []) fun k => thenE (symsP k []) ([], []) fun two => match two with
  | [x, y] => renP r (ns ++ [x]) (az ++ [y])
  | _ => (([], []), 2)
/-- An import set; so many may yet be around one. -/
def setP : Nat → Datum → Set' × Int
 | 0, _ => (noSet, 4)
 | f + 1, d => thenE (listP 1 d) noSet fun l =>
  bif decide (setKind l < 2) then thenE (calledP d) noSet fun s => (.mk 1 s [] [] [] [], 0)
  else thenE (setP f (l.getD 1 (.mk 0 0 [] 0 0 []))) noSet fun k =>
   bif decide (setKind l = 4) then (bif !decide (l.length = 3) then (noSet, 2) else thenE (symP (l.getD 2 (.mk 0 0 [] 0 0 []))) noSet fun p => (.mk (setKind l) [] [] [] p [k], 0))
   else bif decide (setKind l = 5) then thenE (renP (l.drop 2) [] []) noSet fun r => (.mk (setKind l) [] r.1 r.2 [] [k], 0)
   else thenE (symsP (l.drop 2) []) noSet fun ns => (.mk (setKind l) [] ns [] [] [k], 0)
def exportOne (d : Datum) : (Str × Str) × Int :=
 bif decide (kindOf d = 4) then thenE (listP 3 d) ([], []) fun k => thenE (symsP k []) ([], []) fun three => match three with
  | [a, b, c] => bif decide (a = wRename) then ((c, b), 0) else (([], []), 2)
  | _ => (([], []), 2)
 else thenE (symP d) ([], []) fun n => ((n, n), 0)
def exportP : List Datum → Lib' → Lib' × Int
 | [], o => (o, 0)
 | d :: r, o => bif decide ((exportOne d).2 = 0) then
   (bif o.exps.any (fun p => decide (p.1 = (exportOne d).1.1)) then (o, 8) else bif decide (o.exps.length = 200) then (o, 5) else exportP r { o with exps := o.exps ++ [(exportOne d).1] })
  else (o, (exportOne d).2)
def bodyL (l : List Datum) (o : Lib') : Lib' × Int := bif decide (200 < o.body.length + l.length) then (o, 5) else ({ o with body := o.body ++ l }, 0)
def fileOf (n : Str) : Prs → Option Str
 | [] => none
 | f :: r => bif decide (f.1 = n) then some f.2 else fileOf n r
def includeP (w : Wd) : List Datum → Lib' → Lib' × Int
 | [], o => (o, 0)
 | d :: r, o => bif decide ((symP d).2 = 0) then
   (match fileOf (symP d).1 w.files with
   | none => (o, 6)
   | some t => match readR t with
    | .inl f => (o, f.1)
    | .inr k => bif decide ((bodyL k o).2 = 0) then includeP w r (bodyL k o).1 else bodyL k o)
  else (o, (symP d).2)
def importP : List Datum → Lib' → Lib' × Int
 | [], o => (o, 0)
 | d :: r, o => bif decide (o.imps.length = 20) then (o, 5) else bif decide ((setP 12 d).2 = 0) then importP r { o with imps := o.imps ++ [(setP 12 d).1] } else (o, (setP 12 d).2)
def wLibrary : Str := [108, 105, 98, 114, 97, 114, 121]
def wAnd : Str := [97, 110, 100]
def wOr : Str := [111, 114]
def wNot : Str := [110, 111, 116]
mutual
/-- Whether a requirement holds. -/
def holdsD (w : Wd) : Datum → Bool × Int
 | .mk k _ nm _ _ kids => bif decide (k = 3) then (decide (nm ∈ w.feats), 0)
  else bif !decide (k = 4) then (false, 2)
  else match kids with
   | [] => (false, 2)
   | h :: t => bif !decide ((symP h).2 = 0) then (false, (symP h).2)
    else bif decide ((symP h).1 = wLibrary) then (match t with
     | [x] => thenE (calledP x) false fun s => (decide (s ∈ w.libs), 0)
     | _ => (false, 2))
    else bif decide ((symP h).1 = wAnd) || decide ((symP h).1 = wOr) then holdsL w (decide ((symP h).1 = wOr)) t
    else bif decide ((symP h).1 = wNot) then (match t with
     | [x] => (!(holdsD w x).1, (holdsD w x).2)
     | _ => (false, 2))
    else (false, 2)
def holdsL (w : Wd) (some : Bool) : List Datum → Bool × Int
 | [] => (!some, 0)
 | d :: r => bif !decide ((holdsD w d).2 = 0) then (false, (holdsD w d).2) else bif decide ((holdsD w d).1 = some) then (some, 0) else holdsL w some r
end
def wElse : Str := [101, 108, 115, 101]
def wExport : Str := [101, 120, 112, 111, 114, 116]
def wImport : Str := [105, 109, 112, 111, 114, 116]
def wBegin : Str := [98, 101, 103, 105, 110]
def wInclude : Str := [105, 110, 99, 108, 117, 100, 101]
def wCond : Str := [99, 111, 110, 100, 45, 101, 120, 112, 97, 110, 100]
def isElse (d : Datum) : Bool := decide (kindOf d = 3) && decide (nameOf d = wElse)
mutual
def declD (w : Wd) : Datum → Lib' → Lib' × Int
 | .mk k _ _ _ _ kids, o => bif !decide (k = 4) then (o, 2) else match kids with
  | [] => (o, 2)
  | h :: t => bif !decide ((symP h).2 = 0) then (o, (symP h).2)
   else bif decide ((symP h).1 = wExport) then (bif decide (o.name = []) then (o, 2) else exportP t o)
   else bif decide ((symP h).1 = wImport) then importP t o
   else bif decide ((symP h).1 = wBegin) then bodyL t o
   else bif decide ((symP h).1 = wInclude) then includeP w t o
   else bif decide ((symP h).1 = wCond) then condL w t o
   else (o, 2)
def declsL (w : Wd) : List Datum → Lib' → Lib' × Int
 | [], o => (o, 0)
 | d :: r, o => bif decide ((declD w d o).2 = 0) then declsL w r (declD w d o).1 else declD w d o
def condL (w : Wd) : List Datum → Lib' → Lib' × Int
 | [], o => (o, 0)
 | .mk k _ _ _ _ kids :: r, o => bif !decide (k = 4) then (o, 2) else match kids with
  | [] => (o, 2)
  | h :: t => bif isElse h then declsL w t o
   else bif !decide ((holdsD w h).2 = 0) then (o, (holdsD w h).2)
   else bif (holdsD w h).1 then declsL w t o else condL w r o
end
def wProgram : Str := [112, 114, 111, 103, 114, 97, 109]
/-- A library, or a program. -/
def topP (w : Wd) (d : Datum) : Lib' × Int :=
 thenE (listP 1 d) noLib fun k => thenE (symP (k.getD 0 (.mk 0 0 [] 0 0 []))) noLib fun s =>
  bif decide (s = wLibrary) then thenE (listP 2 d) noLib fun k2 => thenE (calledP (k2.getD 1 (.mk 0 0 [] 0 0 []))) noLib fun nm => declsL w (k.drop 2) { noLib with name := nm }
  else bif decide (s = wProgram) then declsL w (k.drop 1) noLib
  else (noLib, 2)
def parseP (w : Wd) (d : Datum) : Lib' × Int :=
 bif !decide ((wrongL [d] 0 0).1 = 0) then (noLib, (wrongL [d] 0 0).1)
 else bif decide ((30 : Int) < w.files.length) then (noLib, 5)
 else bif decide ((topP w d).2 = 0) then topP w d else (noLib, (topP w d).2)
mutual
/-- Names are short, lists are not long. -/
def okM : Datum → Prop
 | .mk k _ nm _ _ kids => (k = 3 → nm.length ≤ 20) ∧ (k = 4 → kids.length ≤ 2000 ∧ okMs kids)
def okMs : List Datum → Prop
 | [] => True
 | d :: r => okM d ∧ okMs r
end
theorem okMs_mem : ∀ {l : List Datum} {d : Datum}, okMs l → d ∈ l → okM d
 | x :: r, d, h, hd => by
  rw [okMs] at h
  rcases List.mem_cons.1 hd with rfl | hd
  ·exact h.1
  ·exact okMs_mem h.2 hd
mutual
theorem shapeD_okM : ∀ (d : Datum) (deep c : Int), 0 ≤ c → (shapeD d deep c).1 = 0 → okM d ∧ c + 1 ≤ (shapeD d deep c).2
 | .mk k n nm s l kids, deep, c, h0, h => by
  rw [okM]
  unfold shapeD at h ⊢
  cases h1 : (decide (2000 < c + 1) || decide (40 < deep)) with
  | true => rw [h1] at h; simp at h
  | false =>
   have hc : c + 1 ≤ 2000 := by simp at h1; omega
   rw [h1] at h
   simp only [cond_false] at h ⊢
   cases h2 : decide (k = 1) <;> rw [h2] at h <;> simp only [cond_false, cond_true] at h ⊢
   ·have k1 := of_decide_eq_false h2
    cases h3 : decide (k = 2) <;> rw [h3] at h <;> simp only [cond_false, cond_true] at h ⊢
    ·have k2 := of_decide_eq_false h3
     cases h4 : decide (k = 3) <;> rw [h4] at h <;> simp only [cond_false, cond_true] at h ⊢
     ·cases h5 : decide (k = 4) <;> rw [h5] at h <;> simp only [cond_false, cond_true] at h ⊢
      ·simp at h
      ·have k4 := of_decide_eq_true h5
       have g := shapeDs_okM kids (deep + 1) (c + 1) (by omega) hc h
       have t := shapeDs_ok kids (deep + 1) (c + 1) (by omega) hc h
       exact ⟨⟨by omega, fun _ => ⟨by omega, g.1⟩⟩, by omega⟩
     ·have k3 := of_decide_eq_true h4
      cases hn : namedB nm with
      | false => rw [hn] at h; simp at h
      | true =>
       refine ⟨⟨fun _ => ?_, fun h => by omega⟩, ?_⟩
       ·simp only [namedB, Bool.and_eq_true, decide_eq_true_eq] at hn
        exact hn.2.1.2
       ·cases (decide (s = 0) && decide (l = 0)) <;> simp
    ·have k2 := of_decide_eq_true h3
     refine ⟨⟨fun h => by omega, fun h => by omega⟩, ?_⟩
     cases (decide (n = 0) || decide (n = 1)) <;> simp
   ·have k1 := of_decide_eq_true h2
    refine ⟨⟨fun h => by omega, fun h => by omega⟩, ?_⟩
    cases (decide (1000000000000000 < n) || decide (n < -1000000000000000)) <;> simp
theorem shapeDs_okM : ∀ (l : List Datum) (deep c : Int), 0 ≤ c → c ≤ 2000 → (shapeDs l deep c).1 = 0 → okMs l ∧ c + l.length ≤ (shapeDs l deep c).2
 | [], deep, c, h0, h1, h => by simp only [okMs, shapeDs, List.length_nil, true_and]; omega
 | d :: r, deep, c, h0, h1, h => by
  simp only [shapeDs] at h ⊢
  cases h2 : decide ((shapeD d deep c).1 = 0) with
  | true =>
   rw [h2] at h
   simp only [cond_true] at h ⊢
   have k1 := shapeD_okM d deep c h0 (of_decide_eq_true h2)
   have k3 := shapeD_ok d deep c h0 (of_decide_eq_true h2)
   have k2 := shapeDs_okM r deep _ (by omega) k3.2 h
   rw [okMs, List.length_cons]
   exact ⟨⟨k1.1, k2.1⟩, by omega⟩
  | false =>
   rw [h2] at h
   simp only [cond_false] at h
   exact absurd h (of_decide_eq_false h2)
end
theorem wrongL_okM {q : Datum} (h : (wrongL [q] 0 0).1 = 0) : okM q := by
 simp only [wrongL] at h
 cases h2 : decide ((shapeD q 1 0).1 = 0) with
 | true => exact (shapeD_okM q 1 0 (by omega) (of_decide_eq_true h2)).1
 | false => rw [h2] at h; simp only [cond_false] at h; exact absurd h (of_decide_eq_false h2)
open Go.Proofs Go.Shelf in
shelf_lay Lays.n156 Nm 156 at Tryz as YtpllcpbhjglpaaaGreatDoor.laysJ
theorem extraJ : Go.Proofs.Builder.Extra Tryz.prog YtpllcpbhjglpaaaGreatDoor.laysJ_ren where
 sizeBuilder := by kernel_rfl
 liesBuilder := by kernel_rfl
 t5 := Tryz.underlying5
 a5 := Tryz.isAgg5
 z5 := Tryz.sizeOf5
 v5 := Tryz.zeroValue5
 infoByte := by kernel_rfl
 cellsByte := by kernel_rfl
 sizeByte := by kernel_rfl
 neB5 := by decide
theorem joinP_eq : ∀ l : List Str, joinP l = Lib.join l [32]
 | [] => rfl
 | [s] => by rw [joinP, Lib.join_one]
 | s :: t :: r => by
  have h := joinP_eq (t :: r)
  rw [Lib.join_cons] at h ⊢
  simp only [joinP, h, Lib.joinTail, List.map_cons, List.flatten_cons, List.cons_append, List.nil_append]
theorem row_cells {g : G} {w : World} (b : Nat) : ∀ (l : List Str) (o : Nat), SimRows g w ⟨b, o, none⟩ 1 (l.map fun s => [V.str s]) → ∀ (j : Nat) s, l[j]? = some s → w.cell? ⟨b, o + j, none⟩ = some (.string ⟨s.toArray⟩)
 | [], _, _, j, s, h => by simp at h
 | t :: r, o, hs, j, s, h => by
  simp only [List.map_cons, SimRows, SimAt, SimV, Addr.add_lit] at hs
  obtain ⟨_, ⟨⟨v, _, h2, _, h3⟩, _⟩, h4⟩ := hs
  cases j with
  | zero => simp at h; subst h; rw [Nat.add_zero, h2, h3.1]
  | succ j =>
   have := row_cells b r (o + 1) h4 j s (by simpa using h)
   rw [← this, Nat.add_assoc, Nat.add_comm 1 j]
theorem c_Join (l : List Str) (hl : (joinP l).length ≤ 140737488355328) (hn : l.length ≤ 1000000000) (st : St) : VCalls Tryz.prog TT 41 [encS l, .str [32]] st fun r st' => r = .ret (.str (joinP l)) ∧ st' = st := by
 refine VCalls.ofBelow ⟨_, Tryz.func41, by kernel_rfl, by kernel_rfl⟩ fun g w vals hv => ?_
 simp only [SimVs, encS, SimV] at hv
 obtain ⟨_, _, rfl, ⟨a, cap, rfl, h1, _, h2, h3, _, h4⟩, _, _, rfl, ⟨rfl, _⟩, rfl⟩ := hv
 simp only [List.length_map] at h1
 refine ⟨.string ⟨(joinP l).toArray⟩, fun g' w' => by simp only [SimV, true_and]; omega, ?_⟩
 have hm : (l.map fun s => (⟨s.toArray⟩ : ByteArray)).map (·.data.toList) = l := by simp [List.map_map, Function.comp_def]
 cases l with
 | nil =>
  have h := Go.Proofs.Any.strings_Join_none YtpllcpbhjglpaaaGreatDoor.laysJ extraJ a cap ⟨#[32]⟩ w
  refine h.mono fun e w' ⟨he, hw⟩ => ⟨?_, hw ▸ Go.RowKit.Below.refl _ _⟩
  exact he
 | cons s r =>
  cases a with
  | none => have := h2 rfl; simp only [List.length_cons] at h1; omega
  | some a =>
   obtain ⟨bk, o, sp⟩ := a
   have hsp : sp = none := by simpa using h3
   subst hsp
   have hc := row_cells bk (s :: r) o h4
   have h := Go.Proofs.Any.strings_Join YtpllcpbhjglpaaaGreatDoor.laysJ extraJ bk o cap ((s :: r).map fun s => (⟨s.toArray⟩ : ByteArray)) ⟨#[32]⟩ w
    (fun j x hj => by
     rw [List.getElem?_map] at hj
     cases hs : (s :: r)[j]? with
     | none => rw [hs] at hj; cases hj
     | some t => rw [hs] at hj; cases hj; exact hc j t hs)
    (World.block_lt_of_cell? _ _ (hc 0 s rfl)) (by simp at hn ⊢; omega) (by simpa using h1) (by rw [hm, ← joinP_eq]; exact hl)
   rw [List.length_map] at h
   rw [List.length_map]
   refine h.mono fun e w' ⟨he, hw⟩ => ⟨?_, hw⟩
   rw [he, hm]
   rw [joinP_eq]
def oopsV (e : Int) : V := .iface 43 (.agg [.int .i64 e])
theorem c_libfail (st : St) (e : Int) : VCalls Tryz.prog TT 19 [.int .i64 e] st fun r st' => r = .panic (oopsV e) ∧ st' = st := by
 refine vfunP TT_ok (an := anL []) (L := [0]) (rs := []) Tryz.func19 rfl (by kernel_rfl) rfl Tryz.ntmps19 rfl rfl (Nat.le_refl _) fun hst ha hf => ?_
 simp only [gw0, qqE, ↓reduceIte, qqA, qqL, qqD, qqM]
 exact givesP_self (by simp [oopsV, V.lt, ltL]) hst
/-- What is given, or thrown. -/
def outS (X : V) (e : Int) (st : St) : VEnd → St → Prop := bif decide (e = 0) then Gives X st else GivesP (oopsV e) st
def OutS (f : FuncId) (args : List V) (st0 : St) (X : V) (e : Int) (st : St) : Prop := bif decide (e = 0) then VCalls Tryz.prog TT f args st0 (fun r s => r = .ret X ∧ s = st) else VCalls Tryz.prog TT f args st0 (fun r s => r = .panic (oopsV e) ∧ s = st)
theorem OutS_of {f : FuncId} {args : List V} {st0 st : St} {X : V} {e : Int} (hl : st0.length ≤ st.length) (h : VCalls Tryz.prog TT f args st0 (outS X e st)) : OutS f args st0 X e st := by
 unfold outS at h
 unfold OutS
 cases hd : decide (e = 0) with
 | true => rw [hd] at h; exact VCalls.give h hl
 | false => rw [hd] at h; exact VCalls.giveP h hl
theorem OutS.cases {f : FuncId} {args : List V} {st0 st : St} {X : V} {e : Int} (h : OutS f args st0 X e st) :
  (e = 0 ∧ VCalls Tryz.prog TT f args st0 (fun r s => r = .ret X ∧ s = st)) ∨ (e ≠ 0 ∧ VCalls Tryz.prog TT f args st0 (fun r s => r = .panic (oopsV e) ∧ s = st)) := by
 unfold OutS at h
 cases hd : decide (e = 0) with
 | true => rw [hd] at h; exact .inl ⟨of_decide_eq_true hd, h⟩
 | false => rw [hd] at h; exact .inr ⟨of_decide_eq_false hd, h⟩
theorem outS_g {X : V} {e : Int} {st s : St} {r : VEnd} (he : e = 0) (h : Gives X st r s) : outS X e st r s := by subst he; exact h
theorem outS_p {X : V} {e : Int} {st s : St} {r : VEnd} (he : e ≠ 0) (h : GivesP (oopsV e) st r s) : outS X e st r s := by unfold outS; rw [decide_eq_false he]; exact h
theorem oops_lt (n : Nat) (e : Int) : (oopsV e).lt n := by simp [oopsV, V.lt, ltL]
theorem c_libsym (d : Datum) (st : St) : OutS 16 [.agg (encD d)] st (.str (symP d).1) (symP d).2 st := by
 refine OutS_of (Nat.le_refl _) ?_
 obtain ⟨k, n, nm, s, l, kids⟩ := d
 refine vfunQ TT_ok (an := anL [(1, 1)]) (L := [0, 1, 2]) (rs := [.tmp 2]) Tryz.func16 rfl (by kernel_rfl) rfl Tryz.ntmps16 rfl rfl fun hst ha hf => ?_
 simp only [encD_mk, symP]
 simp only [gw2, qqE, ↓reduceIte, qqA, qqL, qqD, qqM, ite_self]
 refine iK_split (fun h => ?_) (fun h => ?_)
 ·rw [not_yes h, cond_false]
  simp only [gw2, qqE, ↓reduceIte, qqA, qqL, qqD, qqM, ite_self]
  refine (c_libfail _ 2).useP (wkL_refl _) ?_
  simp only [gw2, qqE, ↓reduceIte, qqA, qqL, qqD, qqM, ite_self]
  exact outS_p (by decide) (givesP_self (oops_lt _ _) hst)
 ·rw [not_no h, cond_true]
  simp only [gw2, qqE, ↓reduceIte, qqA, qqL, qqD, qqM, ite_self]
  exact outS_g rfl (gives_self trivial hst)
theorem c_liblist (d : Datum) (least : Nat) (st : St) : OutS 15 [.agg (encD d), .int .i64 least] st (lstD (listP least d).1) (listP least d).2 st := by
 refine OutS_of (Nat.le_refl _) ?_
 obtain ⟨k, n, nm, s, l, kids⟩ := d
 refine vfunQ TT_ok (an := anL [(2, 1)]) (L := [0, 1, 2, 4]) (rs := [.tmp 4]) Tryz.func15 rfl (by kernel_rfl) rfl Tryz.ntmps15 rfl rfl fun hst ha hf => ?_
 simp only [encD_mk, listP]
 have e1 : decide ((kids.length : Int) < (least : Int)) = decide (kids.length < least) := by by_cases h : kids.length < least <;> simp [h] <;> omega
 simp only [gw2, qqE, ↓reduceIte, qqA, qqL, qqD, qqM, ite_self, List.length_map, e1]
 refine iK_split (fun h => ?_) (fun h => ?_)
 ·rw [h, cond_true]
  simp only [gw2, qqE, ↓reduceIte, qqA, qqL, qqD, qqM, ite_self]
  refine (c_libfail _ 2).useP (wkL_refl _) ?_
  simp only [gw2, qqE, ↓reduceIte, qqA, qqL, qqD, qqM, ite_self]
  exact outS_p (by decide) (givesP_self (oops_lt _ _) hst)
 ·rw [h, cond_false]
  simp only [gw2, qqE, ↓reduceIte, qqA, qqL, qqD, qqM, ite_self]
  exact outS_g rfl (gives_self (lstD_lt _ _) hst)
theorem encS_snoc (acc : List Str) (x : Str) : (acc.map fun s => [V.str s]) ++ [[V.str x]] = (acc ++ [x]).map fun s => [V.str s] := by simp
theorem c_libsyms (l : List Datum) (hl6 : l.length ≤ 1000000) (st : St) : OutS 42 [lstD l] st (encS (symsP l []).1) (symsP l []).2 st := by
 refine OutS_of (Nat.le_refl _) ?_
 refine vfunQ TT_ok (an := anL []) (L := [0, 2, 3, 5, 6, 7, 8]) (rs := [.tmp 2]) Tryz.func42 rfl (by kernel_rfl) rfl Tryz.ntmps42 rfl rfl fun hst ha hf => ?_
 have hll : l.length ≤ 9223372036854775807 := by
  simp only [fitL, V.fit, lstD, List.length_map] at hf; omega
 simp only [gw2, qqE, ↓reduceIte, qqA, qqL, qqD, qqM, ite_self, lstD, List.length_map]
 refine vforT (σ := Nat × List Str) [9] [0, 2, 3, 6, 7, 8] (fun x => [(0, true, lstD l), (2, true, .nils), (3, true, .lst 1 (some st.length) (x.2.map fun s => [V.str s])), (6, true, lstD l), (7, true, .int .i64 l.length), (8, true, .int .i64 x.1)]) (fun x => st ++ [.tip 9 x.2.length]) (fun x => l.length - x.1) (fun x => x.1 ≤ l.length ∧ x.2.length = x.1 ∧ symsP l [] = symsP (l.drop x.1) x.2) (0, []) rfl TT_ok ⟨Nat.zero_le _, rfl, rfl⟩ ?_ ?_ ?_
 ·simp only [gw0, qqE, ↓reduceIte, qqA, qqL, qqD, qqM, Env.keep]
  exact ⟨_, _, rfl, wk_refl _, _, _, rfl, wk_refl _, _, _, rfl, wk_tip _ (by simp [Tips]), _, _, rfl, wk_refl _, _, _, rfl, wk_refl _, _, _, rfl, wk_refl _, rfl⟩
 ·exact ⟨st, wkSt_refl _, by simp only [bz35, gwL, tips]⟩
 rintro ⟨i, acc⟩ ⟨hi, hacc, hI⟩
 simp only at hi hacc hI ⊢
 rw [hI]
 rcases at_or_end l i hi with ⟨rfl, hd⟩ | ⟨a, hlt, hget, hdr⟩
 ·rw [hd]
  simp only [gw2, qqE, ↓reduceIte, qqA, qqL, qqD, qqM, ite_self, lt_no, lstD]
  simp only [symsP]
  exact outS_g rfl (gives_of (wk_tok _ _ _) (wkSt_refl _) (encS_lt _ _) hst)
 ·rw [hdr]
  simp only [bz25, gw2, qqE, ↓reduceIte, qqA, qqL, qqD, qqM, ite_self, lt_yes hlt, lstD, getD_map hget, Int.ofNat_lt.mpr hlt]
  rcases (c_libsym a (st ++ [.tip 9 acc.length, .box (encD a)])).cases with ⟨he, hc⟩ | ⟨he, hc⟩
  ·refine hc.use (wkL_refl _) fun _ => ?_
   have hs : symsP (a :: l.drop (i + 1)) acc = symsP (l.drop (i + 1)) (acc ++ [(symP a).1]) := by simp [symsP, he]
   rw [hs]
   simp only [gw2, qqE, ↓reduceIte, qqA, qqL, qqD, qqM, ite_self, List.length_map, Env.keep, next_i64 hlt hll, Nat.le_refl]
   refine ⟨by omega, (i + 1, acc ++ [(symP a).1]), ⟨?_, st ++ [.tip 9 (acc.length + 1)], [.box (encD a)], by simp, by simp only [bz33]; exact wkSt_refl _, ?_, ok_app hst ⟨trivial, trivial⟩, by simp⟩, by dsimp only; omega, hlt, by simp; omega, rfl⟩
   ·rw [encS_snoc]
    simp only [gw0, qqE, ↓reduceIte, qqA, qqL, qqD, qqM, Env.keep]
    exact wkE_refl _
   simp only [ltE, V.lt, gwL]
   have hl := lstD_lt (st.length + 1) l
   simp only [lstD, V.lt] at hl
   exact ⟨hl, trivial, ⟨fun e h => by cases h; omega, ltRows_map fun x _ => ⟨trivial, trivial⟩⟩, hl, trivial, trivial, trivial⟩
  ·refine hc.useP (wkL_refl _) ?_
   have hs : symsP (a :: l.drop (i + 1)) acc = ([], (symP a).2) := by simp [symsP, he]
   rw [hs]
   simp only [gw2, qqE, ↓reduceIte, qqA, qqL, qqD, qqM, ite_self]
   exact outS_p he (givesP_of (wk_refl _) (wkSt_refl _) (oops_lt _ _) hst)
theorem thenE_ok {α β : Type} {x : α × Int} {z : β} {f : α → β × Int} (h : x.2 = 0) : thenE x z f = f x.1 := by unfold thenE; rw [decide_eq_true h]; rfl
theorem thenE_bad {α β : Type} {x : α × Int} {z : β} {f : α → β × Int} (h : x.2 ≠ 0) : thenE x z f = (z, x.2) := by unfold thenE; rw [decide_eq_false h]; rfl
theorem symsP_len : ∀ (l : List Datum) (acc : List Str), (symsP l acc).2 = 0 → (symsP l acc).1.length = acc.length + l.length
 | [], acc, _ => rfl
 | d :: r, acc, h => by
  simp only [symsP] at h ⊢
  cases e : decide ((symP d).2 = 0) with
  | true =>
   rw [e] at h
   simp only [cond_true] at h ⊢
   rw [symsP_len r _ h]; simp; omega
  | false => rw [e] at h; simp only [cond_false] at h; exact absurd h (of_decide_eq_false e)
theorem symP_short {d : Datum} (h : okM d) (he : (symP d).2 = 0) : (symP d).1.length ≤ 20 := by
 obtain ⟨k, n, nm, s, l, kids⟩ := d
 rw [okM] at h
 simp only [symP] at he ⊢
 cases e : decide (k = 3) with
 | true => exact h.1 (of_decide_eq_true e)
 | false => rw [e] at he; simp at he
theorem symsP_short : ∀ (l : List Datum) (acc : List Str), okMs l → (∀ s ∈ acc, s.length ≤ 20) → (symsP l acc).2 = 0 → ∀ s ∈ (symsP l acc).1, s.length ≤ 20
 | [], acc, _, ha, _ => ha
 | d :: r, acc, hm, ha, h => by
  simp only [symsP] at h ⊢
  rw [okMs] at hm
  cases e : decide ((symP d).2 = 0) with
  | true =>
   rw [e] at h
   simp only [cond_true] at h ⊢
   refine symsP_short r _ hm.2 (fun s hs => ?_) h
   rcases List.mem_append.1 hs with hs | hs
   ·exact ha s hs
   ·simp at hs; subst hs; exact symP_short hm.1 (of_decide_eq_true e)
  | false => rw [e] at h; simp only [cond_false] at h; exact absurd h (of_decide_eq_false e)
theorem joinP_len : ∀ l : List Str, (∀ s ∈ l, s.length ≤ 20) → (joinP l).length ≤ 21 * l.length
 | [], _ => by simp [joinP]
 | [s], h => by have := h s (by simp); simp only [joinP, List.length_cons, List.length_nil]; omega
 | s :: t :: r, h => by
  have h1 := h s (by simp)
  have h2 := joinP_len (t :: r) fun x hx => h x (by simp at hx ⊢; right; exact hx)
  simp only [joinP, List.length_append, List.length_cons] at h2 ⊢
  omega
theorem listP_okM {d : Datum} {n : Nat} (h : okM d) (he : (listP n d).2 = 0) : okMs (listP n d).1 ∧ (listP n d).1.length ≤ 2000 ∧ n ≤ (listP n d).1.length := by
 obtain ⟨k, m, nm, s, l, kids⟩ := d
 rw [okM] at h
 simp only [listP] at he ⊢
 cases e : !decide (k = 4) || decide (kids.length < n) with
 | true => rw [e] at he; simp at he
 | false =>
  simp only [Bool.or_eq_false_iff, Bool.not_eq_false', decide_eq_true_eq, decide_eq_false_iff_not] at e
  have := h.2 e.1
  exact ⟨this.2, this.1, by simp only [cond_false]; omega⟩
theorem bz24 : type_of% @Nat.le_refl ∧ type_of% @encD_drop ∧ type_of% @encD_len ∧ type_of% @encD_take := ⟨@Nat.le_refl, @encD_drop, @encD_len, @encD_take⟩
theorem c_libcalled (d : Datum) (hd : okM d) (st : St) : OutS 17 [.agg (encD d)] st (.str (calledP d).1) (calledP d).2 st := by
 refine OutS_of (Nat.le_refl _) ?_
 refine vfunQ TT_ok (an := anL [(1, 1)]) (L := [0, 1, 2, 3]) (rs := [.tmp 2]) Tryz.func17 rfl (by kernel_rfl) rfl Tryz.ntmps17 rfl rfl fun hst ha hf => ?_
 simp only [bz24, gw2, qqE, ↓reduceIte, qqA, qqL, qqD, qqM, ite_self]
 unfold calledP
 rcases (c_liblist d 1 st).cases with ⟨he, hc⟩ | ⟨he, hc⟩
 ·refine hc.use (wkL_refl _) fun _ => ?_
  rw [thenE_ok he]
  have hm := listP_okM hd he
  generalize (listP 1 d).1 = l at hm
  simp only [gw2, qqE, ↓reduceIte, qqA, qqL, qqD, qqM, ite_self]
  rcases (c_libsyms l (by omega) st).cases with ⟨he2, hc2⟩ | ⟨he2, hc2⟩
  ·refine hc2.use (wkL_refl _) fun _ => ?_
   rw [thenE_ok he2]
   have hl := symsP_len l [] he2
   have hj := joinP_len _ (symsP_short l [] hm.1 (by simp) he2)
   simp only [List.length_nil, Nat.zero_add] at hl
   generalize (symsP l []).1 = w at hl hj
   simp only [gw2, qqE, ↓reduceIte, qqA, qqL, qqD, qqM, ite_self]
   refine (c_Join w (by omega) (by omega) _).use (wkL_refl _) fun _ => ?_
   have e1 : decide ((60 : Int) < ((joinP w).length : Int)) = decide (60 < (joinP w).length) := by by_cases h : 60 < (joinP w).length <;> simp [h] <;> omega
   simp only [gw2, qqE, ↓reduceIte, qqA, qqL, qqD, qqM, ite_self, e1]
   refine iK_split (fun h => ?_) (fun h => ?_)
   ·rw [h, cond_true]
    simp only [gw2, qqE, ↓reduceIte, qqA, qqL, qqD, qqM, ite_self]
    refine (c_libfail _ 4).useP (wkL_refl _) ?_
    simp only [gw2, qqE, ↓reduceIte, qqA, qqL, qqD, qqM, ite_self]
    exact outS_p (by decide) (givesP_self (oops_lt _ _) hst)
   ·rw [h, cond_false]
    simp only [gw2, qqE, ↓reduceIte, qqA, qqL, qqD, qqM, ite_self]
    exact outS_g rfl (gives_self trivial hst)
  ·refine hc2.useP (wkL_refl _) ?_
   rw [thenE_bad he2]
   simp only [gw2, qqE, ↓reduceIte, qqA, qqL, qqD, qqM, ite_self]
   exact outS_p he2 (givesP_self (oops_lt _ _) hst)
 ·refine hc.useP (wkL_refl _) ?_
  rw [thenE_bad he]
  simp only [gw2, qqE, ↓reduceIte, qqA, qqL, qqD, qqM, ite_self]
  exact outS_p he (givesP_self (oops_lt _ _) hst)
def encF2 (p : Str × Str) : List V := [.str p.1, .str p.2]
def rows2 (l : Prs) : List (List V) := l.map encF2
theorem rows2_lt (n : Nat) (l : Prs) : ltRows n (rows2 l) := ltRows_map fun x _ => ⟨trivial, trivial, trivial⟩
theorem rows2_len (l : Prs) : (rows2 l).length = l.length := by simp [rows2]
/-- The first of which it holds. -/
def idxG (p : Str × Str → Bool) : Nat → Prs → Int
 | _, [] => -1
 | i, a :: r => bif p a then (i : Int) else idxG p (i + 1) r
theorem idxG_ge (p : Str × Str → Bool) : ∀ (l : Prs) (i : Nat), decide (0 ≤ idxG p i l) = l.any p
 | [], i => by simp [idxG]
 | a :: r, i => by
  have := idxG_ge p r (i + 1)
  cases h : p a
  ·simp only [idxG, h, cond_false, this, List.any_cons, Bool.false_or]
  ·simp [idxG, h]
theorem idxG_file (n : Str) : ∀ (l : Prs) (i : Nat), (fileOf n l = none ∧ idxG (fun f => decide (f.1 = n)) i l = -1) ∨ (∃ j f, l[j]? = some f ∧ fileOf n l = some f.2 ∧ idxG (fun f => decide (f.1 = n)) i l = ((i + j : Nat) : Int))
 | [], i => .inl ⟨rfl, rfl⟩
 | f :: r, i => by
  cases h : decide (f.1 = n) with
  | true => exact .inr ⟨0, f, rfl, by simp [fileOf, h], by simp [idxG, h]⟩
  | false =>
   rcases idxG_file n r (i + 1) with ⟨h1, h2⟩ | ⟨j, g, h1, h2, h3⟩
   ·exact .inl ⟨by simp [fileOf, h, h1], by simp only [idxG, h, cond_false, h2]⟩
   ·exact .inr ⟨j + 1, g, by simpa using h1, by simp [fileOf, h, h2], by simp only [idxG, h, cond_false, h3]; omega⟩
theorem c_IdxPair (st : St) (l : Prs) (k : FuncId) (cap : List V) (p : Str × Str → Bool) (h : ∀ a ∈ l, VCalls Tryz.prog TT k (.agg (encF2 a) :: cap) st fun r st' => r = .ret (.bool (p a)) ∧ st' = st) :
  VCalls Tryz.prog TT 82 [.lst 2 none (rows2 l), .fn (.func k) cap] st fun r st' => r = .ret (.int .i64 (idxG p 0 l)) ∧ st' = st := by
 refine vfun TT_ok (an := anL []) (L := [0, 1, 4, 5, 7, 8]) (rs := [.tmp 4]) Tryz.func82 rfl (by kernel_rfl) rfl Tryz.ntmps82 rfl rfl (Nat.le_refl _) fun hst ha hf => ?_
 have hll : l.length ≤ 9223372036854775807 := by simp only [fitL, V.fit, rows2, List.length_map] at hf; omega
 simp only [rows2]
 simp only [gw0, qqE, ↓reduceIte, qqA, qqL, qqD, qqM, List.length_map]
 refine vfor (σ := Nat) [0, 1, 4, 7, 8] (fun i => [(0, true, .lst 2 none (l.map encF2)), (1, true, .fn (.func k) cap), (4, true, .int .i64 0), (7, true, .int .i64 l.length), (8, true, .int .i64 i)]) (fun i => st) (fun i => l.length - i) (fun i => i ≤ l.length ∧ idxG p 0 l = idxG p i (l.drop i)) 0 rfl TT_ok ⟨Nat.zero_le _, rfl⟩ rfl rfl ?_
 rintro i ⟨hi, hx⟩
 rw [hx]
 rcases at_or_end l i hi with ⟨rfl, hd⟩ | ⟨a, hlt, hget, hdr⟩
 ·simp only [gw0, qqE, ↓reduceIte, qqA, qqL, qqD, qqM, lt_no, hd, idxG]
  exact gives_int rfl hst
 ·have he : (encF2 a).length = 2 := rfl
  simp only [gw0, qqE, ↓reduceIte, qqA, qqL, qqD, qqM, lt_yes hlt, hdr, idxG, List.length_map, getD_map hget, Int.ofNat_lt.mpr hlt, Nat.le_refl, he]
  refine (h a (List.mem_of_getElem? hget)).use (wkL_refl _) fun _ => ?_
  simp only [gw0, qqE, ↓reduceIte, qqA, qqL, qqD, qqM]
  refine iK_split (fun h1 => ?_) (fun h1 => ?_)
  ·simp only [gw0, qqE, ↓reduceIte, qqA, qqL, qqD, qqM, h1, cond_true]
   exact gives_int rfl hst
  ·simp only [gw0, qqE, ↓reduceIte, qqA, qqL, qqD, qqM, h1, cond_false, Env.keep]
   exact ⟨i + 1, by rw [next_i64 hlt hll], by omega, hlt, rfl⟩
theorem c_IdxFile (st : St) (l : Prs) (k : FuncId) (cap : List V) (p : Str × Str → Bool) (h : ∀ a ∈ l, VCalls Tryz.prog TT k (.agg (encF2 a) :: cap) st fun r st' => r = .ret (.bool (p a)) ∧ st' = st) :
  VCalls Tryz.prog TT 64 [.lst 2 none (rows2 l), .fn (.func k) cap] st fun r st' => r = .ret (.int .i64 (idxG p 0 l)) ∧ st' = st := by
 refine vfun TT_ok (an := anL []) (L := [0, 1, 4, 5, 7, 8]) (rs := [.tmp 4]) Tryz.func64 rfl (by kernel_rfl) rfl Tryz.ntmps64 rfl rfl (Nat.le_refl _) fun hst ha hf => ?_
 have hll : l.length ≤ 9223372036854775807 := by simp only [fitL, V.fit, rows2, List.length_map] at hf; omega
 simp only [rows2]
 simp only [gw0, qqE, ↓reduceIte, qqA, qqL, qqD, qqM, List.length_map]
 refine vfor (σ := Nat) [0, 1, 4, 7, 8] (fun i => [(0, true, .lst 2 none (l.map encF2)), (1, true, .fn (.func k) cap), (4, true, .int .i64 0), (7, true, .int .i64 l.length), (8, true, .int .i64 i)]) (fun i => st) (fun i => l.length - i) (fun i => i ≤ l.length ∧ idxG p 0 l = idxG p i (l.drop i)) 0 rfl TT_ok ⟨Nat.zero_le _, rfl⟩ rfl rfl ?_
 rintro i ⟨hi, hx⟩
 rw [hx]
 rcases at_or_end l i hi with ⟨rfl, hd⟩ | ⟨a, hlt, hget, hdr⟩
 ·simp only [gw0, qqE, ↓reduceIte, qqA, qqL, qqD, qqM, lt_no, hd, idxG]
  exact gives_int rfl hst
 ·have he : (encF2 a).length = 2 := rfl
  simp only [gw0, qqE, ↓reduceIte, qqA, qqL, qqD, qqM, lt_yes hlt, hdr, idxG, List.length_map, getD_map hget, Int.ofNat_lt.mpr hlt, Nat.le_refl, he]
  refine (h a (List.mem_of_getElem? hget)).use (wkL_refl _) fun _ => ?_
  simp only [gw0, qqE, ↓reduceIte, qqA, qqL, qqD, qqM]
  refine iK_split (fun h1 => ?_) (fun h1 => ?_)
  ·simp only [gw0, qqE, ↓reduceIte, qqA, qqL, qqD, qqM, h1, cond_true]
   exact gives_int rfl hst
  ·simp only [gw0, qqE, ↓reduceIte, qqA, qqL, qqD, qqM, h1, cond_false, Env.keep]
   exact ⟨i + 1, by rw [next_i64 hlt hll], by omega, hlt, rfl⟩
theorem c_HasPair (st : St) (l : Prs) (k : FuncId) (cap : List V) (p : Str × Str → Bool) (h : ∀ a ∈ l, VCalls Tryz.prog TT k (.agg (encF2 a) :: cap) st fun r st' => r = .ret (.bool (p a)) ∧ st' = st) :
  VCalls Tryz.prog TT 61 [.lst 2 none (rows2 l), .fn (.func k) cap] st fun r st' => r = .ret (.bool (l.any p)) ∧ st' = st := by
 refine vfun TT_ok (an := anL []) (L := [0, 1, 4]) (rs := [.tmp 4]) Tryz.func61 rfl (by kernel_rfl) rfl Tryz.ntmps61 rfl rfl (Nat.le_refl _) fun hst ha hf => ?_
 simp only [gw0, qqE, ↓reduceIte, qqA, qqL, qqD, qqM]
 refine (c_IdxPair st l k cap p h).use (wkL_refl _) fun _ => ?_
 simp only [gw0, qqE, ↓reduceIte, qqA, qqL, qqD, qqM]
 exact gives_bool (idxG_ge p l 0) hst
theorem c_sameHere (o q : Str × Str) (x : Nat) (st : St) (hx : st[x]? = some (.box (encF2 q))) : VCalls Tryz.prog TT 62 [.agg (encF2 o), .ptr x 0] st fun r st' => r = .ret (.bool (decide (o.1 = q.1))) ∧ st' = st := by
 refine vfun TT_ok (an := anL [(2, 1)]) (L := [0, 1, 2, 3]) (rs := [.tmp 3]) Tryz.func62 rfl (by kernel_rfl) rfl Tryz.ntmps62 rfl rfl (Nat.le_refl _) fun hst ha hf => ?_
 simp only [encF2] at hx ⊢
 simp only [gw2, qqE, ↓reduceIte, qqA, qqL, qqD, qqM, ite_self, hx]
 exact gives_bool rfl hst
theorem c_sameFile (o : Str × Str) (n : Str) (x : Nat) (st : St) (hx : st[x]? = some (.box [.str n])) : VCalls Tryz.prog TT 65 [.agg (encF2 o), .ptr x 0] st fun r st' => r = .ret (.bool (decide (o.1 = n))) ∧ st' = st := by
 refine vfun TT_ok (an := anL [(2, 1)]) (L := [0, 1, 2, 3]) (rs := [.tmp 3]) Tryz.func65 rfl (by kernel_rfl) rfl Tryz.ntmps65 rfl rfl (Nat.le_refl _) fun hst ha hf => ?_
 simp only [encF2]
 simp only [gw2, qqE, ↓reduceIte, qqA, qqL, qqD, qqM, ite_self, hx]
 exact gives_bool rfl hst
theorem encSet_lt (n : Nat) (s : Set') : ltL n (encSet s) := by
 obtain ⟨k, nm, ns, az, p, kids⟩ := s
 rw [encSet_mk]
 refine ⟨trivial, trivial, encS_lt _ _, encS_lt _ _, trivial, ?_, trivial⟩
 simp only [V.lt]
 refine ⟨fun e h => (by cases h), ltRows_map fun x _ => ?_⟩
 exact encSet_lt n x
theorem encSet_len (s : Set') : (encSet s).length = 6 := by cases s; rw [encSet_mk]; rfl
theorem encSet_take (s : Set') : (encSet s).take 6 = encSet s := List.take_of_length_le (by rw [encSet_len]; exact Nat.le_refl _)
theorem idxOf_rng (s : Str) : ∀ (l : List Str) (i : Nat), -1 ≤ idxOf s i l ∧ idxOf s i l < i + l.length
 | [], i => by simp [idxOf]; omega
 | a :: r, i => by
  have := idxOf_rng s r (i + 1)
  simp only [idxOf, List.length_cons]
  cases decide (s = a) <;> simp only [cond_true, cond_false] <;> omega
theorem bz21 : type_of% @List.drop_succ_cons.{0} ∧ type_of% @List.drop_zero.{0} ∧ type_of% @List.getD_cons_succ.{0} ∧ type_of% @List.getD_cons_zero.{0} ∧ type_of% @List.getD_nil.{0} ∧ type_of% @List.length_cons.{0} ∧ type_of% @List.length_map.{0,0} ∧ type_of% @List.length_nil.{0} ∧ type_of% @List.map_cons.{0,0} ∧ type_of% @List.map_nil.{0,0} ∧ type_of% @Nat.le_refl ∧ type_of% @encD_drop ∧ type_of% @encD_len ∧ type_of% @encD_take ∧ (Int.toNat 0 = 0) ∧ (Int.toNat 1 = 1) ∧ (Int.toNat 2 = 2) := ⟨@List.drop_succ_cons.{0}, @List.drop_zero.{0}, @List.getD_cons_succ.{0}, @List.getD_cons_zero.{0}, @List.getD_nil.{0}, @List.length_cons.{0}, @List.length_map.{0,0}, @List.length_nil.{0}, @List.map_cons.{0,0}, @List.map_nil.{0,0}, @Nat.le_refl, @encD_drop, @encD_len, @encD_take, rfl, rfl, rfl⟩
theorem bz29 : type_of% @List.getD_cons_succ.{0} ∧ type_of% @List.getD_cons_zero.{0} := ⟨@List.getD_cons_succ.{0}, @List.getD_cons_zero.{0}⟩
set_option maxHeartbeats 4000000 in
theorem c_libset : ∀ (f : Nat) (d : Datum) (dp : Int), f ≤ 12 → dp = 13 - f → okM d → ∀ st, OutS 44 [.agg (encD d), .int .i64 dp] st (.agg (encSet (setP f d).1)) (setP f d).2 st
 | 0, d, dp, hf, hdp, hd, st => by
  refine OutS_of (Nat.le_refl _) ?_
  refine vfunQ TT_ok (an := anL [(2, 1)]) (L := [0, 1, 2, 4, 5, 6, 7, 9, 10, 54, 73, 74, 75]) (rs := [.cell 4 69]) Tryz.func44 rfl (by kernel_rfl) rfl Tryz.ntmps44 rfl rfl fun hst ha hf => ?_
  have e1 : decide ((12 : Int) < dp) = true := decide_eq_true (by omega)
  simp only [gw2, qqE, ↓reduceIte, qqA, qqL, qqD, qqM, ite_self, e1]
  refine (c_libfail _ 4).useP (wkL_refl _) ?_
  simp only [gw2, qqE, ↓reduceIte, qqA, qqL, qqD, qqM, ite_self]
  exact outS_p (show (4 : Int) ≠ 0 by decide) (givesP_of (wk_refl _) (wkSt_refl _) (oops_lt _ _) hst)
 | f + 1, d, dp, hf, hdp, hd, st => by
  refine OutS_of (Nat.le_refl _) ?_
  refine vfunQ TT_ok (an := anL [(2, 1)]) (L := [0, 1, 2, 4, 5, 6, 7, 9, 10, 54, 73, 74, 75]) (rs := [.cell 4 69]) Tryz.func44 rfl (by kernel_rfl) rfl Tryz.ntmps44 rfl rfl fun hst ha hf => ?_
  have e1 : decide ((12 : Int) < dp) = false := decide_eq_false (by omega)
  simp only [bz24, gw2, qqE, ↓reduceIte, qqA, qqL, qqD, qqM, ite_self, e1]
  have hs0 : setP (f + 1) d = thenE (listP 1 d) noSet fun l =>
   bif decide (setKind l < 2) then thenE (calledP d) noSet fun s => (.mk 1 s [] [] [] [], 0)
   else thenE (setP f (l.getD 1 (.mk 0 0 [] 0 0 []))) noSet fun k =>
    bif decide (setKind l = 4) then (bif !decide (l.length = 3) then (noSet, 2) else thenE (symP (l.getD 2 (.mk 0 0 [] 0 0 []))) noSet fun p => (.mk (setKind l) [] [] [] p [k], 0))
    else bif decide (setKind l = 5) then thenE (renP (l.drop 2) [] []) noSet fun r => (.mk (setKind l) [] r.1 r.2 [] [k], 0)
    else thenE (symsP (l.drop 2) []) noSet fun ns => (.mk (setKind l) [] ns [] [] [k], 0) := rfl
  generalize hG : setP (f + 1) d = G at hs0 ⊢
  rcases (c_liblist d 1 _).cases with ⟨he, hc⟩ | ⟨he, hc⟩
  ·refine hc.use (wkL_refl _) fun _ => ?_
   have hm := listP_okM hd he
   obtain ⟨l, hle⟩ : ∃ l, (listP 1 d).1 = l := ⟨_, rfl⟩
   rw [hle] at hm ⊢
   have fin1 : ∀ (s : Set') (X : List V) (ex : List Ent), wkL X (encSet s) → Gives (.agg (encSet s)) st (.ret (.agg X)) (st ++ ex) := fun s X ex hw =>
    gives_of (wk_agg hw) (wkSt_refl _) (by simp only [V.lt]; exact encSet_lt _ _) hst
   have w1 : ∀ s : Str, wkL [.int .i64 1, .str s, .nils, .nils, .str [], .nils] (encSet (.mk 1 s [] [] [] [])) := fun s => by
    rw [encSet_mk]
    exact wkL_cons (wk_refl _) (wkL_cons (wk_refl _) (wkL_cons (wk_nils _) (wkL_cons (wk_nils _) (wkL_cons (wk_refl _) (wkL_cons (wk_nils _) wkL_nil)))))
   have callD : ∀ (ex : St), OutS 17 [.agg (encD d)] (st ++ ex) (.str (calledP d).1) (calledP d).2 (st ++ ex) := fun ex => c_libcalled d hd _
   cases l with
   | nil => have := hm.2.2; simp at this
   | cons a r =>
    obtain ⟨ka, na, nma, sa, la, kidsa⟩ := a
    cases r with
    | nil =>
     simp only [bz25, bz35, bz29, gw2, qqE, ↓reduceIte, qqA, qqL, qqD, qqM, ite_self, lstD, List.length_cons, show decide ((1 : Int) < ((0 + 1 : Nat) : Int)) = false from rfl, show Int.toNat 1 = 1 from rfl, show Int.toNat 0 = 0 from rfl, show Int.toNat 2 = 2 from rfl, List.getD_nil, encD_mk, show decide ((0 : Int) < 2) = true from rfl]
     have hv : G = thenE (calledP d) noSet fun s => (.mk 1 s [] [] [] [], 0) := by rw [hs0, thenE_ok he, hle]; simp only [show decide (setKind [.mk ka na nma sa la kidsa] < 2) = true from rfl, cond_true]
     rcases (callD [_]).cases with ⟨he2, hc2⟩ | ⟨he2, hc2⟩
     ·refine hc2.use (wkL_refl _) fun _ => ?_
      rw [hv, thenE_ok he2]
      simp only [gw2, qqE, ↓reduceIte, qqA, qqL, qqD, qqM, ite_self]
      exact outS_g rfl (fin1 _ _ _ (w1 _))
     ·refine hc2.useP (wkL_refl _) ?_
      rw [hv, thenE_bad he2]
      simp only [gw2, qqE, ↓reduceIte, qqA, qqL, qqD, qqM, ite_self]
      exact outS_p he2 (givesP_of (wk_refl _) (wkSt_refl _) (oops_lt _ _) hst)
    | cons b r =>
     obtain ⟨kb, nb, nmb, sb, lb, kidsb⟩ := b
     have e2 : decide ((1 : Int) < ((r.length + 2 : Nat) : Int)) = true := decide_eq_true (by omega)
     simp only [bz25, bz29, gw2, qqE, ↓reduceIte, qqA, qqL, qqD, qqM, ite_self, lstD, List.length_cons, List.map_cons, e2, show Int.toNat 1 = 1 from rfl, show Int.toNat 0 = 0 from rfl, show Int.toNat 2 = 2 from rfl, List.getD_nil, encD_mk]
     refine ⟨⟨by omega, by omega⟩, fun _ => ⟨by omega, by omega⟩, iK_split (fun h => ?_) (fun h => ?_)⟩
     ·have hk0 : setKind (.mk ka na nma sa la kidsa :: .mk kb nb nmb sb lb kidsb :: r) = idxOf nma 0 [wOnly, wExcept, wPrefix, wRename] + 2 := by
       show (bif (decide (kb = 4) && decide (ka = 3)) then idxOf nma 0 [wOnly, wExcept, wPrefix, wRename] + 2 else 0) = _
       rw [h]; rfl
      have hrg := idxOf_rng nma [wOnly, wExcept, wPrefix, wRename] 0
      simp only [List.length_cons, List.length_nil] at hrg
      simp only [bz25, bz29, gw2, qqE, ↓reduceIte, qqA, qqL, qqD, qqM, ite_self, show Int.toNat 1 = 1 from rfl, show Int.toNat 0 = 0 from rfl, show Int.toNat 2 = 2 from rfl, List.getD_nil]
      refine ⟨⟨by omega, by omega⟩, ?_⟩
      refine (c_Index _ [wOnly, wExcept, wPrefix, wRename] nma).use (wkL_refl _) fun _ => ?_
      have e3 : IntKind.i64.wrap (idxOf nma 0 [wOnly, wExcept, wPrefix, wRename] + 2) = idxOf nma 0 [wOnly, wExcept, wPrefix, wRename] + 2 := wrap_i64 (by omega) (by omega)
      generalize hK : idxOf nma 0 [wOnly, wExcept, wPrefix, wRename] = K0 at *
      obtain ⟨K, hKK⟩ : ∃ K, K0 + 2 = K := ⟨_, rfl⟩
      rw [hKK] at hk0
      replace e3 : IntKind.i64.wrap (K0 + 2) = K := by rw [e3, hKK]
      simp only [bz24, gw2, qqE, ↓reduceIte, qqA, qqL, qqD, qqM, ite_self, e3]
      refine iK_split (fun h2 => ?_) (fun h2 => ?_)
      ·simp only [bz24, gw2, qqE, ↓reduceIte, qqA, qqL, qqD, qqM, ite_self]
       have hv : G = thenE (calledP d) noSet fun s => (.mk 1 s [] [] [] [], 0) := by rw [hs0, thenE_ok he, hle]; simp only [hk0, h2, cond_true]
       rcases (callD [_]).cases with ⟨he2, hc2⟩ | ⟨he2, hc2⟩
       ·refine hc2.use (wkL_refl _) fun _ => ?_
        rw [hv, thenE_ok he2]
        simp only [gw2, qqE, ↓reduceIte, qqA, qqL, qqD, qqM, ite_self]
        exact outS_g rfl (fin1 _ _ _ (w1 _))
       ·refine hc2.useP (wkL_refl _) ?_
        rw [hv, thenE_bad he2]
        simp only [gw2, qqE, ↓reduceIte, qqA, qqL, qqD, qqM, ite_self]
        exact outS_p he2 (givesP_of (wk_refl _) (wkSt_refl _) (oops_lt _ _) hst)
      ·have hv0 : G = thenE (setP f (.mk kb nb nmb sb lb kidsb)) noSet fun k =>
         bif decide (K = 4) then (bif !decide (r.length = 1) then (noSet, 2) else thenE (symP (r.getD 0 (.mk 0 0 [] 0 0 []))) noSet fun p => (.mk K [] [] [] p [k], 0))
         else bif decide (K = 5) then thenE (renP r [] []) noSet fun r => (.mk K [] r.1 r.2 [] [k], 0)
         else thenE (symsP r []) noSet fun ns => (.mk K [] ns [] [] [k], 0) := by
        rw [hs0, thenE_ok he, hle]
        simp only [bz29, hk0, h2, cond_false, List.length_cons, List.drop_succ_cons, List.drop_zero, Nat.reduceEqDiff]
       have hmb : okM (.mk kb nb nmb sb lb kidsb) := okMs_mem hm.1 (by simp)
       have e4 : IntKind.i64.wrap (dp + 1) = dp + 1 := wrap_i64 (by omega) (by omega)
       simp only [bz25, bz29, gw2, qqE, ↓reduceIte, qqA, qqL, qqD, qqM, ite_self, e4, show Int.toNat 1 = 1 from rfl, show Int.toNat 0 = 0 from rfl, show Int.toNat 2 = 2 from rfl, List.getD_nil]
       refine ⟨⟨by omega, by omega⟩, ?_⟩
       rcases (c_libset f (.mk kb nb nmb sb lb kidsb) (dp + 1) (by omega) (by omega) hmb (st ++ [.box [.int .i64 0, .str [], .nils, .nils, .str [], .nils]])).cases with ⟨he2, hc2⟩ | ⟨he2, hc2⟩
       ·refine hc2.use (by rw [encD_mk]; exact wkL_refl _) fun _ => ?_
        rw [thenE_ok he2] at hv0
        generalize (setP f (.mk kb nb nmb sb lb kidsb)).1 = k at hv0
        simp only [gw2, qqE, ↓reduceIte, qqA, qqL, qqD, qqM, ite_self, encSet_len, encSet_take, Nat.le_refl, e3]
        have wk3 : ∀ (ns az : List Str) (p : Str) (vn va : V), wk vn (encS ns) → wk va (encS az) → wkL [.int .i64 K, .str [], vn, va, .str p, .lst 6 none [encSet k]] (encSet (.mk K [] ns az p [k])) := fun ns az p vn va h1 h2 => by
         rw [encSet_mk]
         exact wkL_cons (wk_refl _) (wkL_cons (wk_refl _) (wkL_cons h1 (wkL_cons h2 (wkL_cons (wk_refl _) (wkL_cons (wk_refl _) wkL_nil)))))
        refine iK_split (fun h3 => ?_) (fun h3 => ?_)
        ·rw [h3, cond_true] at hv0
         have e5 : decide (((r.length + 2 : Nat) : Int) = 3) = decide (r.length = 1) := by by_cases h : r.length = 1 <;> simp [h] <;> omega
         simp only [bz21, gw2, qqE, ↓reduceIte, qqA, qqL, qqD, qqM, ite_self, e5]
         refine iK_split (fun h4 => ?_) (fun h4 => ?_)
         ·rw [h4, cond_true] at hv0
          simp only [gw2, qqE, ↓reduceIte, qqA, qqL, qqD, qqM, ite_self]
          refine (c_libfail _ 2).useP (wkL_refl _) ?_
          rw [hv0]
          simp only [gw2, qqE, ↓reduceIte, qqA, qqL, qqD, qqM, ite_self]
          exact outS_p (show (2 : Int) ≠ 0 by decide) (givesP_of (wk_refl _) (wkSt_refl _) (oops_lt _ _) hst)
         ·rw [h4, cond_false] at hv0
          obtain ⟨c, rfl⟩ : ∃ c, r = [c] := by
           cases r with
           | nil => simp at h4
           | cons c t =>
            cases t with
            | nil => exact ⟨c, rfl⟩
            | cons y z => simp at h4
          simp only [bz21, gw2, qqE, ↓reduceIte, qqA, qqL, qqD, qqM, ite_self]
          refine ⟨⟨by omega, by omega⟩, ?_⟩
          rcases (c_libsym c (st ++ [.box [.int .i64 0, .str [], .nils, .nils, .str [], .nils], .box [.int .i64 K, .str [], .nils, .nils, .str [], .lst 6 none [encSet k]]])).cases with ⟨he3, hc3⟩ | ⟨he3, hc3⟩
          ·refine hc3.use (wkL_refl _) fun _ => ?_
           rw [hv0, thenE_ok (by exact he3)]
           simp only [gw2, qqE, ↓reduceIte, qqA, qqL, qqD, qqM, ite_self, encSet_len, encSet_take]
           exact outS_g rfl (fin1 _ _ _ (wk3 [] [] _ _ _ (wk_nils _) (wk_nils _)))
          ·refine hc3.useP (wkL_refl _) ?_
           rw [hv0, thenE_bad (by exact he3)]
           simp only [gw2, qqE, ↓reduceIte, qqA, qqL, qqD, qqM, ite_self]
           exact outS_p he3 (givesP_of (wk_refl _) (wkSt_refl _) (oops_lt _ _) hst)
        ·rw [h3, cond_false] at hv0
         simp only [gw2, qqE, ↓reduceIte, qqA, qqL, qqD, qqM, ite_self]
         refine iK_split (fun h4 => ?_) (fun h4 => ?_)
         ·rw [h4, cond_true] at hv0
          simp only [bz21, gw2, qqE, ↓reduceIte, qqA, qqL, qqD, qqM, ite_self]
          refine ⟨⟨by omega, by omega⟩, ?_⟩
          have hrl : r.length ≤ 2000 := by simp only [List.length_cons] at hm; omega
          refine vforT (σ := Nat × List Str × List Str) [9, 9] [0, 1, 2, 4, 5, 6, 7, 54, 73, 74, 75] (fun x => [(0, true, .agg (encD d)), (1, true, .int .i64 dp), (2, true, .ref (encD d)), (4, true, .ptr st.length 0), (5, true, (.lst 6 none ([V.int .i64 ka, V.int .i64 na, V.str nma, V.int .i64 sa, V.int .i64 la, V.lst 6 none (kidsa.map encD)] :: [V.int .i64 kb, V.int .i64 nb, V.str nmb, V.int .i64 sb, V.int .i64 lb, V.lst 6 none (kidsb.map encD)] :: r.map encD))), (6, true, .int .i64 K), (7, true, .ptr (st.length + 1) 0), (54, true, .int .i64 K), (73, true, .lst 6 none (r.map encD)), (74, true, .int .i64 r.length), (75, true, .int .i64 x.1)]) (fun x => st ++ [.box [.int .i64 0, .str [], .nils, .nils, .str [], .nils], .box [.int .i64 K, .str [], .lst 1 (some (st.length + 2)) (x.2.1.map fun s => [V.str s]), .lst 1 (some (st.length + 3)) (x.2.2.map fun s => [V.str s]), .str [], .lst 6 none [encSet k]], .tip 9 x.2.1.length, .tip 9 x.2.2.length]) (fun x => r.length - x.1) (fun x => x.1 ≤ r.length ∧ x.2.1.length = x.1 ∧ x.2.2.length = x.1 ∧ renP r [] [] = renP (r.drop x.1) x.2.1 x.2.2) (0, [], []) rfl TT_ok ⟨Nat.zero_le _, rfl, rfl, rfl⟩ ?_ ?_ ?_
          ·exact wkE_refl _
          ·refine ⟨st ++ [.box [.int .i64 0, .str [], .nils, .nils, .str [], .nils], .box [.int .i64 K, .str [], .lst 1 (some (st.length + 2)) [], .lst 1 (some (st.length + 3)) [], .str [], .lst 6 none [encSet k]]], ?_, by simp only [bz30, bz35, gwL, tips]⟩
           refine (wkSt_refl _).append (wkSt_cons (Ent.wkp_refl _) (wkSt_cons (Ent.wk_box ?_) wkSt_nil))
           exact wkL_cons (wk_refl _) (wkL_cons (wk_refl _) (wkL_cons (wk_tip _ (by simp [Tips])) (wkL_cons (wk_tip _ (by simp [Tips])) (wkL_cons (wk_refl _) (wkL_cons (wk_refl _) wkL_nil)))))
          rintro ⟨i, ns, az⟩ ⟨hi, hns, haz, hI⟩
          simp only at hi hns haz hI ⊢
          rw [hI] at hv0
          rcases at_or_end r i hi with ⟨rfl, hdd⟩ | ⟨p, hlt, hget, hdr⟩
          ·rw [hdd, renP, thenE_ok rfl] at hv0
           rw [hv0]
           simp only [gw2, qqE, ↓reduceIte, qqA, qqL, qqD, qqM, ite_self, lt_no, encSet_len, encSet_take]
           exact outS_g rfl (fin1 _ _ _ (wk3 ns az [] _ _ (wk_tok _ _ _) (wk_tok _ _ _)))
          ·rw [hdr, renP] at hv0
           have hmp : okM p := okMs_mem hm.1 (by have := List.mem_of_getElem? hget; simp [this])
           simp only [bz25, gw2, qqE, ↓reduceIte, qqA, qqL, qqD, qqM, ite_self, lt_yes hlt, getD_map hget, Int.ofNat_lt.mpr hlt]
           rcases (c_liblist p 2 (st ++ [.box [.int .i64 0, .str [], .nils, .nils, .str [], .nils], .box [.int .i64 K, .str [], .lst 1 (some (st.length + 2)) (ns.map fun s => [V.str s]), .lst 1 (some (st.length + 3)) (az.map fun s => [V.str s]), .str [], .lst 6 none [encSet k]], .tip 9 ns.length, .tip 9 az.length] ++ [.box (encD p)])).cases with ⟨he3, hc3⟩ | ⟨he3, hc3⟩
           ·simp only [bz30] at hc3
            refine hc3.use (wkL_refl _) fun _ => ?_
            rw [thenE_ok he3] at hv0
            have hm3 := listP_okM hmp he3
            obtain ⟨k3, hk3⟩ : ∃ k3, (listP 2 p).1 = k3 := ⟨_, rfl⟩
            rw [hk3] at hv0 hm3 ⊢
            simp only [gw2, qqE, ↓reduceIte, qqA, qqL, qqD, qqM, ite_self]
            rcases (c_libsyms k3 (by omega) (st ++ [.box [.int .i64 0, .str [], .nils, .nils, .str [], .nils], .box [.int .i64 K, .str [], .lst 1 (some (st.length + 2)) (ns.map fun s => [V.str s]), .lst 1 (some (st.length + 3)) (az.map fun s => [V.str s]), .str [], .lst 6 none [encSet k]], .tip 9 ns.length, .tip 9 az.length] ++ [.box (encD p)])).cases with ⟨he4, hc4⟩ | ⟨he4, hc4⟩
            ·simp only [bz30] at hc4
             refine hc4.use (wkL_refl _) fun _ => ?_
             rw [thenE_ok he4] at hv0
             obtain ⟨two, htwo⟩ : ∃ two, (symsP k3 []).1 = two := ⟨_, rfl⟩
             rw [htwo] at hv0 ⊢
             have e6 : decide ((two.length : Int) = 2) = decide (two.length = 2) := by by_cases h : two.length = 2 <;> simp [h] <;> omega
             simp only [gw2, qqE, ↓reduceIte, qqA, qqL, qqD, qqM, ite_self, encS, List.length_map, e6]
             refine iK_split (fun h6 => ?_) (fun h6 => ?_)
             ·have hv1 : G = (noSet, 2) := by
               rw [hv0]
               cases two with
               | nil => rfl
               | cons x t =>
                cases t with
                | nil => rfl
                | cons y z =>
                 cases z with
                 | nil => simp at h6
                 | cons u v => rfl
              simp only [gw2, qqE, ↓reduceIte, qqA, qqL, qqD, qqM, ite_self]
              refine (c_libfail _ 2).useP (wkL_refl _) ?_
              rw [hv1]
              simp only [gw2, qqE, ↓reduceIte, qqA, qqL, qqD, qqM, ite_self]
              exact outS_p (show (2 : Int) ≠ 0 by decide) (givesP_of (wk_refl _) (wkSt_refl _) (oops_lt _ _) hst)
             ·obtain ⟨x, y, rfl⟩ : ∃ x y, two = [x, y] := by
               cases two with
               | nil => simp at h6
               | cons x t =>
                cases t with
                | nil => simp at h6
                | cons y z =>
                 cases z with
                 | nil => exact ⟨x, y, rfl⟩
                 | cons u v => simp at h6
              simp only at hv0
              simp only [gw2, qqE, ↓reduceIte, qqA, qqL, qqD, qqM, ite_self]
              refine vdraw2 TT_ok TT_mixed (σ := Unit) [0, 1, 0, 0, 0, 0, 2, 0, 1, 0, 0, 0, 0, 2, 0, 2, 0, 2] [0, 1, 2, 3, 4, 5, 7, 8, 6, 9, 10, 11, 12, 13, 14, 15, 16, 17] 6 8 [0, 1, 2, 4, 5, 6, 7, 54, 73, 74, 75, 9] (fun _x => [(0, true, .agg (encD d)), (1, true, .int .i64 dp), (2, true, .ref (encD d)), (4, true, .ptr st.length 0), (5, true, (.lst 6 none ([V.int .i64 ka, V.int .i64 na, V.str nma, V.int .i64 sa, V.int .i64 la, V.lst 6 none (kidsa.map encD)] :: [V.int .i64 kb, V.int .i64 nb, V.str nmb, V.int .i64 sb, V.int .i64 lb, V.lst 6 none (kidsb.map encD)] :: r.map encD))), (6, true, .int .i64 K), (7, true, .ptr (st.length + 1) 0), (54, true, .int .i64 K), (73, true, .lst 6 none (r.map encD)), (74, true, .int .i64 r.length), (75, true, .int .i64 i), (9, true, .ptr (st.length + 4) 0)]) (fun _x => st ++ [.box [.int .i64 0, .str [], .nils, .nils, .str [], .nils], .box [.int .i64 K, .str [], .lst 1 (some (st.length + 2)) ((ns.map fun s => [V.str s]) ++ [[V.str x]]), .lst 1 (some (st.length + 3)) ((az.map fun s => [V.str s]) ++ [[V.str y]]), .str [], .lst 6 none [encSet k]], .tip 9 (ns.length + 1), .tip 9 (az.length + 1)] ++ [.box (encD p)]) (fun _x => True) rfl (by kernel_rfl) ?_ ?_ ?_
              ·simp only [bz21, bz30, gw2, qqE, ↓reduceIte, qqA, qqL, qqD, qqM, ite_self]
               exact ⟨⟨by omega, by omega⟩, by omega, ⟨by omega, by omega⟩, by omega, rfl, rfl, (), rfl, rfl, trivial⟩
              ·simp only [bz21, bz30, gw2, qqE, ↓reduceIte, qqA, qqL, qqD, qqM, ite_self]
               exact ⟨⟨by omega, by omega⟩, by omega, ⟨by omega, by omega⟩, by omega, rfl, rfl, (), rfl, rfl, trivial⟩
              ·rintro - -
               simp only [bz30, gw2, qqE, ↓reduceIte, qqA, qqL, qqD, qqM, ite_self, Env.keep, next_i64 hlt (by omega)]
               refine ⟨(i + 1, ns ++ [x], az ++ [y]), ⟨wkE_refl _, st ++ [.box [.int .i64 0, .str [], .nils, .nils, .str [], .nils], .box [.int .i64 K, .str [], .lst 1 (some (st.length + 2)) (((ns ++ [x]).map fun s => [V.str s])), .lst 1 (some (st.length + 3)) (((az ++ [y]).map fun s => [V.str s])), .str [], .lst 6 none [encSet k]], .tip 9 (ns ++ [x]).length, .tip 9 (az ++ [y]).length], [.box (encD p)], by simp, wkSt_refl _, ?_, ?_, by simp⟩, by dsimp only; omega, hlt, by simp; omega, by simp; omega, by rw [hI, hdr, renP, thenE_ok he3, hk3, thenE_ok he4, htwo]⟩
               ·have hlb : (V.lst 6 none ([V.int .i64 ka, V.int .i64 na, V.str nma, V.int .i64 sa, V.int .i64 la, V.lst 6 none (kidsa.map encD)] :: [V.int .i64 kb, V.int .i64 nb, V.str nmb, V.int .i64 sb, V.int .i64 lb, V.lst 6 none (kidsb.map encD)] :: r.map encD)).lt (st.length + (1 + (1 + (1 + 1)))) := by
                 have := lstD_lt (st.length + (1 + (1 + (1 + 1)))) (.mk ka na nma sa la kidsa :: .mk kb nb nmb sb lb kidsb :: r)
                 simpa only [lstD, List.map_cons, encD_mk] using this
                have hlr := lstD_lt (st.length + (1 + (1 + (1 + 1)))) r
                have hld := encD_lt (st.length + (1 + (1 + (1 + 1)))) d
                simp only [lstD, V.lt] at hlb hlr
                simp only [ltE, V.lt, gwL]
                exact ⟨hld, trivial, hld, by omega, hlb, trivial, by omega, trivial, hlr, trivial, trivial, trivial⟩
               ·refine ok_app hst ⟨by simp [Ent.lt, ltL, V.lt], ?_, trivial, trivial, trivial⟩
                simp only [Ent.lt, ltL, V.lt, true_and, and_true]
                refine ⟨⟨fun e h => (by cases h; simp), ltRows_map fun x _ => ⟨trivial, trivial⟩⟩, ⟨fun e h => (by cases h; simp), ltRows_map fun x _ => ⟨trivial, trivial⟩⟩, fun e h => (by cases h), ?_⟩
                exact ⟨encSet_lt _ _, trivial⟩
            ·simp only [bz30] at hc4
             refine hc4.useP (wkL_refl _) ?_
             rw [hv0, thenE_bad he4, thenE_bad (by exact he4)]
             simp only [gw2, qqE, ↓reduceIte, qqA, qqL, qqD, qqM, ite_self]
             exact outS_p he4 (givesP_of (wk_refl _) (wkSt_refl _) (oops_lt _ _) hst)
           ·simp only [bz30] at hc3
            refine hc3.useP (by exact wkL_refl _) ?_
            rw [hv0, thenE_bad he3, thenE_bad (by exact he3)]
            simp only [gw2, qqE, ↓reduceIte, qqA, qqL, qqD, qqM, ite_self]
            exact outS_p he3 (givesP_of (wk_refl _) (wkSt_refl _) (oops_lt _ _) hst)
         ·rw [h4, cond_false] at hv0
          simp only [bz21, gw2, qqE, ↓reduceIte, qqA, qqL, qqD, qqM, ite_self]
          refine ⟨⟨by omega, by omega⟩, ?_⟩
          rcases (c_libsyms r (by simp only [List.length_cons] at hm; omega) (st ++ [.box [.int .i64 0, .str [], .nils, .nils, .str [], .nils], .box [.int .i64 K, .str [], .nils, .nils, .str [], .lst 6 none [encSet k]]])).cases with ⟨he3, hc3⟩ | ⟨he3, hc3⟩
          ·refine hc3.use (wkL_refl _) fun _ => ?_
           rw [hv0, thenE_ok (by exact he3)]
           simp only [gw2, qqE, ↓reduceIte, qqA, qqL, qqD, qqM, ite_self, encSet_len, encSet_take, encS]
           exact outS_g rfl (fin1 _ _ _ (wk3 _ [] [] _ _ (wk_refl _) (wk_nils _)))
          ·refine hc3.useP (wkL_refl _) ?_
           rw [hv0, thenE_bad (by exact he3)]
           simp only [gw2, qqE, ↓reduceIte, qqA, qqL, qqD, qqM, ite_self]
           exact outS_p he3 (givesP_of (wk_refl _) (wkSt_refl _) (oops_lt _ _) hst)
       ·refine hc2.useP (by rw [encD_mk]; exact wkL_refl _) ?_
        rw [hv0, thenE_bad he2]
        simp only [gw2, qqE, ↓reduceIte, qqA, qqL, qqD, qqM, ite_self]
        exact outS_p he2 (givesP_of (wk_refl _) (wkSt_refl _) (oops_lt _ _) hst)
     ·simp only [bz24, gw2, qqE, ↓reduceIte, qqA, qqL, qqD, qqM, ite_self, show decide ((0 : Int) < 2) = true from rfl]
      have hv : G = thenE (calledP d) noSet fun s => (.mk 1 s [] [] [] [], 0) := by rw [hs0, thenE_ok he, hle]; rw [show setKind (.mk ka na nma sa la kidsa :: .mk kb nb nmb sb lb kidsb :: r) = (bif (decide (kb = 4) && decide (ka = 3)) then idxOf nma 0 [wOnly, wExcept, wPrefix, wRename] + 2 else 0) from rfl, h]; rfl
      rcases (callD [_]).cases with ⟨he2, hc2⟩ | ⟨he2, hc2⟩
      ·refine hc2.use (wkL_refl _) fun _ => ?_
       rw [hv, thenE_ok he2]
       simp only [gw2, qqE, ↓reduceIte, qqA, qqL, qqD, qqM, ite_self]
       exact outS_g rfl (fin1 _ _ _ (w1 _))
      ·refine hc2.useP (wkL_refl _) ?_
       rw [hv, thenE_bad he2]
       simp only [gw2, qqE, ↓reduceIte, qqA, qqL, qqD, qqM, ite_self]
       exact outS_p he2 (givesP_of (wk_refl _) (wkSt_refl _) (oops_lt _ _) hst)
  ·refine hc.useP (wkL_refl _) ?_
   rw [hs0, thenE_bad he]
   simp only [gw2, qqE, ↓reduceIte, qqA, qqL, qqD, qqM, ite_self]
   exact outS_p he (givesP_of (wk_refl _) (wkSt_refl _) (oops_lt _ _) hst)
end Go.Proofs.YtpllcpbhjglpaaaGreatDoor.Gx
open Nat renaming reduceEqDiff → qqE, reduceAdd → qqA, reduceLT → qqL, reduceLeDiff → qqD, reduceMul → qqM
namespace Go.Proofs.YtpllcpbhjglpaaaGreatDoor.Gx
open Go Go.Proofs.YtpllcpbhjglpaaaGreatDoor.Gw
set_option linter.unusedSimpArgs false
set_option linter.unusedVariables false
/-- The state with a box, and three rows behind it. -/
def wR (st : St) (b : Nat) (c : List V) (nE : Nat) (rI : List (List V)) (nB : Nat) : St := (((st.set b (.box c)).set (b + 1) (.tip 65 nE)).set (b + 2) (.arr 69 6 rI)).set (b + 3) (.tip 26 nB)
section
variable {st : St} {b : Nat} (h : b + 3 < st.length) (c c' : List V) (nE nE' : Nat) (rI rI' : List (List V)) (nB nB' : Nat) (ex : St)
theorem wR_len : (wR st b c nE rI nB).length = st.length := by simp [wR]
theorem wR_at {st : St} {b : Nat} (h : b + 3 < st.length) (c : List V) (nE : Nat) (rI : List (List V)) (nB : Nat) : (wR st b c nE rI nB)[b]? = some (.box c) ∧ (wR st b c nE rI nB)[b + 1]? = some (.tip 65 nE) ∧ (wR st b c nE rI nB)[b + 2]? = some (.arr 69 6 rI) ∧ (wR st b c nE rI nB)[b + 3]? = some (.tip 26 nB) := by
 unfold wR
 refine ⟨?_, ?_, ?_, ?_⟩
 ·rw [List.getElem?_set_ne (by omega), List.getElem?_set_ne (by omega), List.getElem?_set_ne (by omega), List.getElem?_set_self (by omega)]
 ·rw [List.getElem?_set_ne (by omega), List.getElem?_set_ne (by omega), List.getElem?_set_self (by simp; omega)]
 ·rw [List.getElem?_set_ne (by omega), List.getElem?_set_self (by simp; omega)]
 ·rw [List.getElem?_set_self (by simp; omega)]
theorem left_at {s ex : St} {j : Nat} {e : Ent} (h : s[j]? = some e) : (s ++ ex)[j]? = some e := by
 rw [List.getElem?_append_left (List.getElem?_eq_some_iff.1 h).1]; exact h
include h in
theorem wR_b : (wR st b c nE rI nB ++ ex)[b]? = some (.box c) := left_at (wR_at h ..).1
include h in
theorem wR_1 : (wR st b c nE rI nB ++ ex)[b + 1]? = some (.tip 65 nE) := left_at (wR_at h ..).2.1
include h in
theorem wR_2 : (wR st b c nE rI nB ++ ex)[b + 2]? = some (.arr 69 6 rI) := left_at (wR_at h ..).2.2.1
include h in
theorem wR_3 : (wR st b c nE rI nB ++ ex)[b + 3]? = some (.tip 26 nB) := left_at (wR_at h ..).2.2.2
include h in
theorem wR_b0 : (wR st b c nE rI nB)[b]? = some (.box c) := (wR_at h ..).1
include h in
theorem wR_30 : (wR st b c nE rI nB)[b + 3]? = some (.tip 26 nB) := (wR_at h ..).2.2.2
theorem set_sw (l : St) (i j : Nat) (x y : Ent) (h : i ≠ j) : (l.set i x).set j y = (l.set j y).set i x := List.set_comm _ _ h
theorem wR_s0 : (wR st b c nE rI nB).set b (.box c') = wR st b c' nE rI nB := by
 unfold wR
 rw [set_sw _ (b + 3) b _ _ (by omega), set_sw _ (b + 2) b _ _ (by omega), set_sw _ (b + 1) b _ _ (by omega), List.set_set]
theorem wR_s1 : (wR st b c nE rI nB).set (b + 1) (.tip 65 nE') = wR st b c nE' rI nB := by
 unfold wR
 rw [set_sw _ (b + 3) (b + 1) _ _ (by omega), set_sw _ (b + 2) (b + 1) _ _ (by omega), List.set_set]
theorem wR_s2 : (wR st b c nE rI nB).set (b + 2) (.arr 69 6 rI') = wR st b c nE rI' nB := by
 unfold wR
 rw [set_sw _ (b + 3) (b + 2) _ _ (by omega), List.set_set]
theorem wR_s3 : (wR st b c nE rI nB).set (b + 3) (.tip 26 nB') = wR st b c nE rI nB' := by
 unfold wR
 rw [List.set_set]
theorem wR_wR (c0 : List V) (n0 : Nat) (r0 : List (List V)) (m0 : Nat) : wR (wR st b c0 n0 r0 m0) b c nE rI nB = wR st b c nE rI nB := by
 show ((((wR st b c0 n0 r0 m0).set b (.box c)).set (b + 1) (.tip _ nE)).set (b + 2) (.arr _ 6 rI)).set (b + 3) (.tip _ nB) = _
 rw [wR_s0, wR_s1, wR_s2, wR_s3]
include h in
theorem wR_set (j : Nat) (e : Ent) (hj : j ≤ b + 3) : (wR st b c nE rI nB ++ ex).set j e = (wR st b c nE rI nB).set j e ++ ex := List.set_append_left _ _ (by rw [wR_len]; omega)
include h in
theorem wR_sb : (wR st b c nE rI nB ++ ex).set b (.box c') = wR st b c' nE rI nB ++ ex := by rw [wR_set h _ _ _ _ _ _ _ (by omega), wR_s0]
include h in
theorem wR_sE : (wR st b c nE rI nB ++ ex).set (b + 1) (.tip 65 nE') = wR st b c nE' rI nB ++ ex := by rw [wR_set h _ _ _ _ _ _ _ (by omega), wR_s1]
include h in
theorem wR_sI : (wR st b c nE rI nB ++ ex).set (b + 2) (.arr 69 6 rI') = wR st b c nE rI' nB ++ ex := by rw [wR_set h _ _ _ _ _ _ _ (by omega), wR_s2]
include h in
theorem wR_sB : (wR st b c nE rI nB ++ ex).set (b + 3) (.tip 26 nB') = wR st b c nE rI nB' ++ ex := by rw [wR_set h _ _ _ _ _ _ _ (by omega), wR_s3]
theorem wR_k (k : Nat) : (wR st b c nE rI nB ++ ex)[st.length + k]? = ex[k]? := by
 rw [List.getElem?_append_right (by rw [wR_len]; omega), wR_len]; simp
theorem wR_k0 : (wR st b c nE rI nB ++ ex)[st.length]? = ex[0]? := wR_k c nE rI nB ex 0
theorem wR_sk (k : Nat) (x : Ent) : (wR st b c nE rI nB ++ ex).set (st.length + k) x = wR st b c nE rI nB ++ ex.set k x := by
 rw [List.set_append_right _ _ (by rw [wR_len]; omega), wR_len]; simp
theorem wR_sk0 (x : Ent) : (wR st b c nE rI nB ++ ex).set st.length x = wR st b c nE rI nB ++ ex.set 0 x := wR_sk c nE rI nB ex 0 x
include h in
theorem wR_app : wR (st ++ ex) b c nE rI nB = wR st b c nE rI nB ++ ex := by
 unfold wR
 rw [List.set_append_left _ _ (by omega), List.set_append_left _ _ (by simp; omega), List.set_append_left _ _ (by simp; omega), List.set_append_left _ _ (by simp; omega)]
end
def cellsW (w : Wd) (b : Nat) (nm : Str) (E : List (List V)) (nI : Nat) (B : List (List V)) : List V := [.lst 2 none (rows2 w.files), encS w.feats, encS w.libs, .str nm, .lst 2 (some (b + 1)) E, .arr (b + 2) nI, .lst 6 (some (b + 3)) B, .int .i64 0]
/-- The state with a library as far as it is made. -/
def wS (st : St) (w : Wd) (b : Nat) (o : Lib') : St := wR st b (cellsW w b o.name (rows2 o.exps) o.imps.length (o.body.map encD)) o.exps.length (o.imps.map encSet) o.body.length
theorem wS_len (st : St) (w : Wd) (b : Nat) (o : Lib') : (wS st w b o).length = st.length := wR_len ..
theorem wS_app {st : St} {b : Nat} (h : b + 3 < st.length) (w : Wd) (o : Lib') (ex : St) : wS (st ++ ex) w b o = wS st w b o ++ ex := wR_app h ..
theorem wS_ok {st : St} {w : Wd} {b : Nat} {o : Lib'} (h : b + 3 < st.length) (o' : Lib') (hs : St.ok (wS st w b o)) : St.ok (wS st w b o') := by
 have e : wS st w b o' = wR (wS st w b o) b (cellsW w b o'.name (rows2 o'.exps) o'.imps.length (o'.body.map encD)) o'.exps.length (o'.imps.map encSet) o'.body.length := by
  simp only [wS]
  exact (wR_wR ..).symm
 rw [e]
 have hl := wS_len st w b o
 have hb : ∀ s : St, s.length = st.length → St.ok s → ∀ (j : Nat) (x : Ent), x.lt st.length → St.ok (s.set j x) := fun s hs1 hs2 j x hx y hy => by
  rw [List.length_set]
  rcases List.mem_or_eq_of_mem_set hy with h' | rfl
  ·exact hs2 y h'
  ·rw [hs1]; exact hx
 unfold wR
 refine hb _ (by simp [hl]) (hb _ (by simp [hl]) (hb _ (by simp [hl]) (hb _ hl hs _ _ ?_) _ _ ?_) _ _ ?_) _ _ ?_
 ·have h2 : (V.lst 2 none (rows2 w.files)).lt st.length := by simp only [V.lt]; exact ⟨fun e h => (by cases h), rows2_lt _ _⟩
  have h3 : (V.lst 2 (some (b + 1)) (rows2 o'.exps)).lt st.length := by simp only [V.lt]; exact ⟨fun e h => (by cases h; omega), rows2_lt _ _⟩
  have h4 : (V.lst 6 (some (b + 3)) (o'.body.map encD)).lt st.length := by simp only [V.lt]; exact ⟨fun e h => (by cases h; omega), ltRows_map fun d _ => encD_lt _ _⟩
  exact ⟨h2, encS_lt _ _, encS_lt _ _, trivial, h3, (by simp only [V.lt]; omega), h4, trivial, trivial⟩
 ·exact trivial
 ·exact ltRows_map fun s _ => encSet_lt _ _
 ·exact trivial
/-- No more than may be. -/
def okO (o : Lib') : Prop := o.exps.length ≤ 200 ∧ o.imps.length ≤ 20 ∧ o.body.length ≤ 200
theorem c_libbody (w : Wd) (l : List Datum) (o : Lib') (ho : okO o) (hl : l.length ≤ 1000000) (st : St) (b : Nat) (hb : b + 3 < st.length) :
  OutS 45 [.ptr b 0, lstD l] (wS st w b o) (.tup []) (bodyL l o).2 (wS st w b (bodyL l o).1) := by
 refine OutS_of (by rw [wS_len, wS_len]; exact Nat.le_refl _) ?_
 refine vfunQ TT_ok (an := anL []) (L := [0, 1]) (rs := []) Tryz.func45 rfl (by kernel_rfl) rfl Tryz.ntmps45 rfl rfl fun hst ha hf => ?_
 obtain ⟨h1, h2, h3⟩ := ho
 have hw := fun o' => wS_ok hb o' hst
 simp only [bodyL]
 simp only [wS, cellsW]
 have e1 : IntKind.i64.wrap ((o.body.length : Int) + (l.length : Int)) = ((o.body.length + l.length : Nat) : Int) := by rw [wrap_i64 (by omega) (by omega)]; omega
 have e2 : decide ((200 : Int) < ((o.body.length + l.length : Nat) : Int)) = decide (200 < o.body.length + l.length) := by by_cases h : 200 < o.body.length + l.length <;> simp [h] <;> omega
 simp only [gw2, qqE, ↓reduceIte, qqA, qqL, qqD, qqM, ite_self, lstD, wR_b0 hb, wR_30 hb, List.length_map, e1, e2]
 refine iK_split (fun h => ?_) (fun h => ?_)
 ·rw [h, cond_true]
  simp only [gw2, qqE, ↓reduceIte, qqA, qqL, qqD, qqM, ite_self]
  refine (c_libfail _ 5).useP (wkL_refl _) ?_
  simp only [gw2, qqE, ↓reduceIte, qqA, qqL, qqD, qqM, ite_self]
  exact outS_p (show (5 : Int) ≠ 0 by decide) (givesP_self (oops_lt _ _) (hw o))
 ·rw [h, cond_false]
  simp only [gw2, qqE, ↓reduceIte, qqA, qqL, qqD, qqM, ite_self, lstD, wR_b0 hb, wR_30 hb, wR_s0, wR_s3, List.length_map]
  rw [← List.map_append, ← List.length_append]
  exact ⟨by rw [List.length_append]; omega, outS_g rfl (gives_self trivial (hw { o with body := o.body ++ l }))⟩
end Go.Proofs.YtpllcpbhjglpaaaGreatDoor.Gx
namespace Go.Proofs.YtpllcpbhjglpaaaGreatDoor.Gx
open Go Go.Proofs.YtpllcpbhjglpaaaGreatDoor.Gw
open Nat renaming reduceEqDiff → qqE, reduceAdd → qqA, reduceLT → qqL, reduceLeDiff → qqD, reduceMul → qqM
set_option linter.unusedSimpArgs false
set_option linter.unusedVariables false
theorem okO_exp {o : Lib'} (h : okO o) (q : Str × Str) (hl : o.exps.length ≠ 200) : okO { o with exps := o.exps ++ [q] } := ⟨by have := h.1; simp; omega, h.2.1, h.2.2⟩
theorem bz32 : type_of% @List.length_map.{0,0} ∧ type_of% @rows2_len ∧ type_of% @wR_k ∧ type_of% @wR_k0 ∧ type_of% @wR_len ∧ type_of% @wR_sk ∧ type_of% @wR_sk0 := ⟨@List.length_map.{0,0}, @rows2_len, @wR_k, @wR_k0, @wR_len, @wR_sk, @wR_sk0⟩
theorem bz27 : type_of% @wR_k ∧ type_of% @wR_k0 ∧ type_of% @wR_len ∧ type_of% @wR_sk ∧ type_of% @wR_sk0 := ⟨@wR_k, @wR_k0, @wR_len, @wR_sk, @wR_sk0⟩
set_option maxHeartbeats 4000000 in
theorem c_libexport (w : Wd) (l : List Datum) (hm : okMs l) (o : Lib') (ho : okO o) (hl : l.length ≤ 1000000) (st : St) (b : Nat) (hb : b + 3 < st.length) :
  OutS 43 [.ptr b 0, lstD l] (wS st w b o) (.tup []) (exportP l o).2 (wS st w b (exportP l o).1) := by
 refine OutS_of (by rw [wS_len, wS_len]; exact Nat.le_refl _) ?_
 refine vfunQ TT_ok (an := anL []) (L := [0, 1, 5, 6, 7, 8, 9, 10]) (rs := []) Tryz.func43 rfl (by kernel_rfl) rfl Tryz.ntmps43 rfl rfl fun hst ha hf => ?_
 have hw := fun o' => wS_ok hb o' hst
 simp only [gw2, qqE, ↓reduceIte, qqA, qqL, qqD, qqM, ite_self, lstD, List.length_map]
 refine vforD (σ := Nat × Lib') [0, 1, 8, 9, 10] (fun x => [(0, true, .ptr b 0), (1, true, lstD l), (8, true, lstD l), (9, true, .int .i64 l.length), (10, true, .int .i64 x.1)]) (fun x => wS st w b x.2) (fun x => l.length - x.1) (fun x => x.1 ≤ l.length ∧ okO x.2 ∧ exportP l o = exportP (l.drop x.1) x.2) (0, o) rfl TT_ok ⟨Nat.zero_le _, ho, rfl⟩ (wkE_refl _) rfl ?_
 rintro ⟨i, o1⟩ ⟨hi, ho1, hI⟩
 simp only at hi ho1 hI ⊢
 rw [hI]
 rcases at_or_end l i hi with ⟨rfl, hd⟩ | ⟨a, hlt, hget, hdr⟩
 ·rw [hd]
  simp only [gw2, qqE, ↓reduceIte, qqA, qqL, qqD, qqM, ite_self, lt_no, lstD]
  exact outS_g rfl (gives_self trivial (hw o1))
 ·rw [hdr]
  have hma : okM a := okMs_mem hm (List.mem_of_getElem? hget)
  have hE : exportP (a :: l.drop (i + 1)) o1 = bif decide ((exportOne a).2 = 0) then
   (bif o1.exps.any (fun p => decide (p.1 = (exportOne a).1.1)) then (o1, 8) else bif decide (o1.exps.length = 200) then (o1, 5) else exportP (l.drop (i + 1)) { o1 with exps := o1.exps ++ [(exportOne a).1] })
  else (o1, (exportOne a).2) := rfl
  generalize hG : exportP (a :: l.drop (i + 1)) o1 = G at hE
  obtain ⟨ka, na, nma, sa, la, kidsa⟩ := a
  simp only [wS, cellsW]
  have hone : exportOne (.mk ka na nma sa la kidsa) = bif decide (ka = 4) then thenE (listP 3 (.mk ka na nma sa la kidsa)) ([], []) fun k => thenE (symsP k []) ([], []) fun three => match three with
    | [a, b, c] => bif decide (a = wRename) then ((c, b), 0) else (([], []), 2)
    | _ => (([], []), 2)
   else thenE (symP (.mk ka na nma sa la kidsa)) ([], []) fun n => ((n, n), 0) := rfl
  simp only [bz25, bz27, gw2, qqE, ↓reduceIte, qqA, qqL, qqD, qqM, ite_self, lt_yes hlt, lstD, getD_map hget, Int.ofNat_lt.mpr hlt, wR_b hb, wR_1 hb, wR_2 hb, wR_3 hb, wR_sb hb, wR_sE hb, wR_sI hb, wR_sB hb, encD_mk]
  refine iK_split (fun h => ?_) (fun h => ?_)
  ·rw [h, cond_true] at hone
   simp only [bz27, gw2, qqE, ↓reduceIte, qqA, qqL, qqD, qqM, ite_self, wR_b hb, wR_1 hb, wR_2 hb, wR_3 hb, wR_sb hb, wR_sE hb, wR_sI hb, wR_sB hb]
   rcases (c_liblist (.mk ka na nma sa la kidsa) 3 (wR st b [.lst 2 none (rows2 w.files), encS w.feats, encS w.libs, .str o1.name, .lst 2 (some (b + 1)) (rows2 o1.exps), .arr (b + 2) o1.imps.length, .lst 6 (some (b + 3)) (o1.body.map encD), .int .i64 0] o1.exps.length (o1.imps.map encSet) o1.body.length ++ [.box [V.int .i64 ka, V.int .i64 na, V.str nma, V.int .i64 sa, V.int .i64 la, V.lst 6 none (kidsa.map encD)], .box [.str [], .str []]])).cases with ⟨he, hc⟩ | ⟨he, hc⟩
   ·refine hc.use (by rw [encD_mk]; exact wkL_refl _) fun _ => ?_
    rw [thenE_ok he] at hone
    have hm3 := listP_okM hma he
    obtain ⟨k3, hk3⟩ : ∃ k3, (listP 3 (.mk ka na nma sa la kidsa)).1 = k3 := ⟨_, rfl⟩
    rw [hk3] at hone hm3 ⊢
    simp only [gw2, qqE, ↓reduceIte, qqA, qqL, qqD, qqM, ite_self]
    rcases (c_libsyms k3 (by omega) (wR st b [.lst 2 none (rows2 w.files), encS w.feats, encS w.libs, .str o1.name, .lst 2 (some (b + 1)) (rows2 o1.exps), .arr (b + 2) o1.imps.length, .lst 6 (some (b + 3)) (o1.body.map encD), .int .i64 0] o1.exps.length (o1.imps.map encSet) o1.body.length ++ [.box [V.int .i64 ka, V.int .i64 na, V.str nma, V.int .i64 sa, V.int .i64 la, V.lst 6 none (kidsa.map encD)], .box [.str [], .str []]])).cases with ⟨he4, hc4⟩ | ⟨he4, hc4⟩
    ·refine hc4.use (wkL_refl _) fun _ => ?_
     rw [thenE_ok he4] at hone
     obtain ⟨three, h3⟩ : ∃ three, (symsP k3 []).1 = three := ⟨_, rfl⟩
     rw [h3] at hone ⊢
     have e6 : decide ((three.length : Int) = 3) = decide (three.length = 3) := by by_cases h : three.length = 3 <;> simp [h] <;> omega
     have bad2 : exportOne (.mk ka na nma sa la kidsa) = (([], []), 2) → G = (o1, 2) := fun e => by rw [hE, e]; rfl
     cases hlen : decide (three.length = 3) with
     | false =>
      have hv : exportOne (.mk ka na nma sa la kidsa) = (([], []), 2) := by
       rw [hone]
       cases three with
       | nil => rfl
       | cons x t => cases t with
        | nil => rfl
        | cons y z => cases z with
         | nil => rfl
         | cons u v => cases v with
          | nil => simp at hlen
          | cons p q => rfl
      cases three with
      | nil =>
       simp only [bz27, gw2, qqE, ↓reduceIte, qqA, qqL, qqD, qqM, ite_self, show encS [] = .lst 1 none [] from rfl, List.length_nil, show decide (((0 : Nat) : Int) = 3) = false from rfl, Bool.not_false, Bool.not_true, show Int.toNat 0 = 0 from rfl, List.getD_nil, wR_b hb, wR_1 hb, wR_2 hb, wR_3 hb, wR_sb hb, wR_sE hb, wR_sI hb, wR_sB hb]
       refine (c_libfail _ 2).useP (wkL_refl _) ?_
       rw [bad2 hv]
       simp only [gw2, qqE, ↓reduceIte, qqA, qqL, qqD, qqM, ite_self]
       exact outS_p (show (2 : Int) ≠ 0 by decide) (givesP_of (wk_refl _) (wkSt_refl _) (oops_lt _ _) (hw o1))
      | cons x t =>
       have e8 : decide (((t.length + 1 : Nat) : Int) = 3) = false := by rw [List.length_cons] at e6 hlen; rw [e6, hlen]
       simp only [bz27, gw2, qqE, ↓reduceIte, qqA, qqL, qqD, qqM, ite_self, show encS (x :: t) = .lst 1 none ([.str x] :: t.map fun s => [.str s]) from rfl, List.length_cons, List.length_map, e8, Bool.not_false, Bool.not_true, show Int.toNat 0 = 0 from rfl, wR_b hb, wR_1 hb, wR_2 hb, wR_3 hb, wR_sb hb, wR_sE hb, wR_sI hb, wR_sB hb]
       refine (c_libfail _ 2).useP (wkL_refl _) ?_
       rw [bad2 hv]
       simp only [gw2, qqE, ↓reduceIte, qqA, qqL, qqD, qqM, ite_self]
       exact outS_p (show (2 : Int) ≠ 0 by decide) (givesP_of (wk_refl _) (wkSt_refl _) (oops_lt _ _) (hw o1))
     | true =>
      obtain ⟨x, y, z, rfl⟩ : ∃ x y z, three = [x, y, z] := by
       cases three with
       | nil => simp at hlen
       | cons x t => cases t with
        | nil => simp at hlen
        | cons y z => cases z with
         | nil => simp at hlen
         | cons u v => cases v with
          | nil => exact ⟨x, y, u, rfl⟩
          | cons p q => simp at hlen
      simp only at hone
      simp only [bz27, gw2, qqE, ↓reduceIte, qqA, qqL, qqD, qqM, ite_self, show encS [x, y, z] = .lst 1 none [[.str x], [.str y], [.str z]] from rfl, List.length_map, List.length_cons, List.length_nil, Bool.not_false, Bool.not_true, show decide (((0 + 1 + 1 + 1 : Nat) : Int) = 3) = true from rfl, show Int.toNat 0 = 0 from rfl, show Int.toNat 1 = 1 from rfl, show Int.toNat 2 = 2 from rfl, wR_b hb, wR_1 hb, wR_2 hb, wR_3 hb, wR_sb hb, wR_sE hb, wR_sI hb, wR_sB hb]
      refine ⟨⟨by omega, by omega⟩, iK_split (fun h5 => ?_) (fun h5 => ?_)⟩
      ·have hv : exportOne (.mk ka na nma sa la kidsa) = (([], []), 2) := by
        rw [hone, show decide (x = wRename) = false from not_yes h5]; rfl
       simp only [gw2, qqE, ↓reduceIte, qqA, qqL, qqD, qqM, ite_self]
       refine (c_libfail _ 2).useP (wkL_refl _) ?_
       rw [bad2 hv]
       simp only [gw2, qqE, ↓reduceIte, qqA, qqL, qqD, qqM, ite_self]
       exact outS_p (show (2 : Int) ≠ 0 by decide) (givesP_of (wk_refl _) (wkSt_refl _) (oops_lt _ _) (hw o1))
      ·have hv : exportOne (.mk ka na nma sa la kidsa) = ((z, y), 0) := by
        rw [hone, show decide (x = wRename) = true from not_no h5]; rfl
       rw [hv] at hE
       simp only [show decide ((0 : Int) = 0) = true from rfl, cond_true] at hE
       simp only [bz27, gw2, qqE, ↓reduceIte, qqA, qqL, qqD, qqM, ite_self, wR_b hb, wR_1 hb, wR_2 hb, wR_3 hb, wR_sb hb, wR_sE hb, wR_sI hb, wR_sB hb]
       refine vdraw TT_ok TT_mixed [0, 0, 0, 0, 0, 0, 0, 2] (by kernel_rfl) ?_
       simp only [bz27, gw2, qqE, ↓reduceIte, qqA, qqL, qqD, qqM, ite_self, wR_b hb, wR_1 hb, wR_2 hb, wR_3 hb, wR_sb hb, wR_sE hb, wR_sI hb, wR_sB hb, show Int.toNat 0 = 0 from rfl, show Int.toNat 1 = 1 from rfl, show Int.toNat 2 = 2 from rfl, List.length_cons, List.length_nil]
       refine ⟨⟨by omega, by omega⟩, ⟨by omega, by omega⟩, ?_⟩
       have hx : (wR st b [.lst 2 none (rows2 w.files), encS w.feats, encS w.libs, .str o1.name, .lst 2 (some (b + 1)) (rows2 o1.exps), .arr (b + 2) o1.imps.length, .lst 6 (some (b + 3)) (o1.body.map encD), .int .i64 0] o1.exps.length (o1.imps.map encSet) o1.body.length ++ [.box [V.int .i64 ka, V.int .i64 na, V.str nma, V.int .i64 sa, V.int .i64 la, V.lst 6 none (kidsa.map encD)], .box (encF2 (z, y))])[st.length + 1]? = some (.box (encF2 (z, y))) := wR_k _ _ _ _ _ 1
       refine (c_HasPair _ o1.exps 62 [.ptr (st.length + 1) 0] (fun p => decide (p.1 = (z, y).1)) (fun a _ => c_sameHere a (z, y) _ _ hx)).use (wkL_cons (wk_tok _ _ _) (wkL_cons (wk_refl _) wkL_nil)) fun _ => ?_
       simp only [bz27, gw2, qqE, ↓reduceIte, qqA, qqL, qqD, qqM, ite_self, wR_b hb, wR_1 hb, wR_2 hb, wR_3 hb, wR_sb hb, wR_sE hb, wR_sI hb, wR_sB hb, List.length_map]
       refine iK_split (fun h6 => ?_) (fun h6 => ?_)
       ·rw [h6, cond_true] at hE
        simp only [gw2, qqE, ↓reduceIte, qqA, qqL, qqD, qqM, ite_self]
        refine (c_libfail _ 8).useP (wkL_refl _) ?_
        rw [hE]
        simp only [gw2, qqE, ↓reduceIte, qqA, qqL, qqD, qqM, ite_self]
        exact outS_p (show (8 : Int) ≠ 0 by decide) (givesP_of (wk_refl _) (wkSt_refl _) (oops_lt _ _) (hw o1))
       ·rw [h6, cond_false] at hE
        have e7 : decide ((o1.exps.length : Int) = 200) = decide (o1.exps.length = 200) := by by_cases h : o1.exps.length = 200 <;> simp [h] <;> omega
        simp only [bz32, gw2, qqE, ↓reduceIte, qqA, qqL, qqD, qqM, ite_self, wR_b hb, wR_1 hb, wR_2 hb, wR_3 hb, wR_sb hb, wR_sE hb, wR_sI hb, wR_sB hb, e7]
        refine iK_split (fun h7 => ?_) (fun h7 => ?_)
        ·rw [h7, cond_true] at hE
         simp only [gw2, qqE, ↓reduceIte, qqA, qqL, qqD, qqM, ite_self]
         refine (c_libfail _ 5).useP (wkL_refl _) ?_
         rw [hE]
         simp only [gw2, qqE, ↓reduceIte, qqA, qqL, qqD, qqM, ite_self]
         exact outS_p (show (5 : Int) ≠ 0 by decide) (givesP_of (wk_refl _) (wkSt_refl _) (oops_lt _ _) (hw o1))
        ·rw [h7, cond_false] at hE
         simp only [bz32, gw2, qqE, ↓reduceIte, qqA, qqL, qqD, qqM, ite_self, wR_b hb, wR_1 hb, wR_2 hb, wR_3 hb, wR_sb hb, wR_sE hb, wR_sI hb, wR_sB hb]
         refine vdraw TT_ok TT_mixed [0, 0, 0, 0, 0, 1, 1, 0, 2, 0, 0, 0, 2] (by kernel_rfl) ?_
         simp only [bz32, gw2, qqE, ↓reduceIte, qqA, qqL, qqD, qqM, ite_self, wR_b hb, wR_1 hb, wR_2 hb, wR_3 hb, wR_sb hb, wR_sE hb, wR_sI hb, wR_sB hb, encF2, Env.keep, next_i64 hlt (by omega)]
         refine ⟨by have := ho1.1; omega, (i + 1, { o1 with exps := o1.exps ++ [(z, y)] }), ⟨wkE_refl _, wS st w b { o1 with exps := o1.exps ++ [(z, y)] }, [.box [V.int .i64 ka, V.int .i64 na, V.str nma, V.int .i64 sa, V.int .i64 la, V.lst 6 none (kidsa.map encD)], .box [.str (z, y).1, .str (z, y).2]], by simp [wS, cellsW, rows2, encF2], wkSt_refl _, ?_, hw _, by rw [wR_len]; exact Nat.le_refl _⟩, by dsimp only; omega, hlt, okO_exp ho1 _ (of_decide_eq_false h7), hE⟩
         simp only [ltE, V.lt]
         have hll := lstD_lt (wS st w b { o1 with exps := o1.exps ++ [(z, y)] }).length l
         simp only [lstD, V.lt] at hll
         exact ⟨by rw [wR_len]; omega, hll, hll, trivial, trivial, trivial⟩
    ·refine hc4.useP (wkL_refl _) ?_
     rw [thenE_bad he4] at hone
     rw [hE, hone, decide_eq_false he4, cond_false]
     simp only [gw2, qqE, ↓reduceIte, qqA, qqL, qqD, qqM, ite_self]
     exact outS_p he4 (givesP_of (wk_refl _) (wkSt_refl _) (oops_lt _ _) (hw o1))
   ·refine hc.useP (by rw [encD_mk]; exact wkL_refl _) ?_
    rw [thenE_bad he] at hone
    rw [hE, hone, decide_eq_false he, cond_false]
    simp only [gw2, qqE, ↓reduceIte, qqA, qqL, qqD, qqM, ite_self]
    exact outS_p he (givesP_of (wk_refl _) (wkSt_refl _) (oops_lt _ _) (hw o1))
  ·rw [h, cond_false] at hone
   simp only [bz27, gw2, qqE, ↓reduceIte, qqA, qqL, qqD, qqM, ite_self, wR_b hb, wR_1 hb, wR_2 hb, wR_3 hb, wR_sb hb, wR_sE hb, wR_sI hb, wR_sB hb]
   refine vmelt 5 st.length _ rfl (by rw [wR_k0]; rfl) ?_
   simp only [bz27, gw2, qqE, ↓reduceIte, qqA, qqL, qqD, qqM, ite_self, meltE, wR_b hb, wR_1 hb, wR_2 hb, wR_3 hb, wR_sb hb, wR_sE hb, wR_sI hb, wR_sB hb, List.set_cons_zero]
   rcases (c_libsym (.mk ka na nma sa la kidsa) (wR st b [.lst 2 none (rows2 w.files), encS w.feats, encS w.libs, .str o1.name, .lst 2 (some (b + 1)) (rows2 o1.exps), .arr (b + 2) o1.imps.length, .lst 6 (some (b + 3)) (o1.body.map encD), .int .i64 0] o1.exps.length (o1.imps.map encSet) o1.body.length ++ [.gone, .box [.str [], .str []]])).cases with ⟨he, hc⟩ | ⟨he, hc⟩
   ·rw [thenE_ok he] at hone
    rw [hone] at hE
    simp only [show decide ((0 : Int) = 0) = true from rfl, cond_true] at hE
    refine vdraw TT_ok TT_mixed [0, 0, 0, 0, 0, 2] (by kernel_rfl) ?_
    simp only [bz27, gw2, qqE, ↓reduceIte, qqA, qqL, qqD, qqM, ite_self, wR_b hb, wR_1 hb, wR_2 hb, wR_3 hb, wR_sb hb, wR_sE hb, wR_sI hb, wR_sB hb]
    have hfree : ∀ s0 : St, VCalls Tryz.prog TT 16 [.agg [V.int .i64 ka, V.int .i64 na, V.str nma, V.int .i64 sa, V.int .i64 la, V.lst 6 none (kidsa.map encD)]] s0 fun r s' => r = .ret (.str (symP (.mk ka na nma sa la kidsa)).1) ∧ s' = s0 := fun s0 => by
     rcases (c_libsym (.mk ka na nma sa la kidsa) s0).cases with ⟨_, h⟩ | ⟨h, _⟩
     ·rw [encD_mk] at h; exact h
     ·exact absurd he h
    refine eK_free hfree (wkL_refl _) ?_
    simp only [bz27, gw2, qqE, ↓reduceIte, qqA, qqL, qqD, qqM, ite_self, wR_b hb, wR_1 hb, wR_2 hb, wR_3 hb, wR_sb hb, wR_sE hb, wR_sI hb, wR_sB hb]
    refine eK_free hfree (wkL_refl _) ?_
    simp only [bz27, gw2, qqE, ↓reduceIte, qqA, qqL, qqD, qqM, ite_self, wR_b hb, wR_1 hb, wR_2 hb, wR_3 hb, wR_sb hb, wR_sE hb, wR_sI hb, wR_sB hb]
    generalize (symP (.mk ka na nma sa la kidsa)).1 = nq at hE hone ⊢
    have hx : (wR st b [.lst 2 none (rows2 w.files), encS w.feats, encS w.libs, .str o1.name, .lst 2 (some (b + 1)) (rows2 o1.exps), .arr (b + 2) o1.imps.length, .lst 6 (some (b + 3)) (o1.body.map encD), .int .i64 0] o1.exps.length (o1.imps.map encSet) o1.body.length ++ [.gone, .box (encF2 (nq, nq))])[st.length + 1]? = some (.box (encF2 (nq, nq))) := wR_k _ _ _ _ _ 1
    refine (c_HasPair _ o1.exps 62 [.ptr (st.length + 1) 0] (fun p => decide (p.1 = (nq, nq).1)) (fun a _ => c_sameHere a (nq, nq) _ _ hx)).use (wkL_cons (wk_tok _ _ _) (wkL_cons (wk_refl _) wkL_nil)) fun _ => ?_
    simp only [bz27, gw2, qqE, ↓reduceIte, qqA, qqL, qqD, qqM, ite_self, wR_b hb, wR_1 hb, wR_2 hb, wR_3 hb, wR_sb hb, wR_sE hb, wR_sI hb, wR_sB hb, List.length_map]
    refine iK_split (fun h6 => ?_) (fun h6 => ?_)
    ·rw [h6, cond_true] at hE
     simp only [gw2, qqE, ↓reduceIte, qqA, qqL, qqD, qqM, ite_self]
     refine (c_libfail _ 8).useP (wkL_refl _) ?_
     rw [hE]
     simp only [gw2, qqE, ↓reduceIte, qqA, qqL, qqD, qqM, ite_self]
     exact outS_p (show (8 : Int) ≠ 0 by decide) (givesP_of (wk_refl _) (wkSt_refl _) (oops_lt _ _) (hw o1))
    ·rw [h6, cond_false] at hE
     have e7 : decide ((o1.exps.length : Int) = 200) = decide (o1.exps.length = 200) := by by_cases h : o1.exps.length = 200 <;> simp [h] <;> omega
     simp only [bz32, gw2, qqE, ↓reduceIte, qqA, qqL, qqD, qqM, ite_self, wR_b hb, wR_1 hb, wR_2 hb, wR_3 hb, wR_sb hb, wR_sE hb, wR_sI hb, wR_sB hb, e7]
     refine iK_split (fun h7 => ?_) (fun h7 => ?_)
     ·rw [h7, cond_true] at hE
      simp only [gw2, qqE, ↓reduceIte, qqA, qqL, qqD, qqM, ite_self]
      refine (c_libfail _ 5).useP (wkL_refl _) ?_
      rw [hE]
      simp only [gw2, qqE, ↓reduceIte, qqA, qqL, qqD, qqM, ite_self]
      exact outS_p (show (5 : Int) ≠ 0 by decide) (givesP_of (wk_refl _) (wkSt_refl _) (oops_lt _ _) (hw o1))
     ·rw [h7, cond_false] at hE
      simp only [bz32, gw2, qqE, ↓reduceIte, qqA, qqL, qqD, qqM, ite_self, wR_b hb, wR_1 hb, wR_2 hb, wR_3 hb, wR_sb hb, wR_sE hb, wR_sI hb, wR_sB hb]
      refine vdraw TT_ok TT_mixed [0, 0, 0, 0, 0, 1, 1, 0, 2, 0, 0, 0, 2] (by kernel_rfl) ?_
      simp only [bz32, gw2, qqE, ↓reduceIte, qqA, qqL, qqD, qqM, ite_self, wR_b hb, wR_1 hb, wR_2 hb, wR_3 hb, wR_sb hb, wR_sE hb, wR_sI hb, wR_sB hb, encF2, Env.keep, next_i64 hlt (by omega)]
      refine ⟨by have := ho1.1; omega, (i + 1, { o1 with exps := o1.exps ++ [(nq, nq)] }), ⟨wkE_refl _, wS st w b { o1 with exps := o1.exps ++ [(nq, nq)] }, [.gone, .box [.str (nq, nq).1, .str (nq, nq).2]], by simp [wS, cellsW, rows2, encF2], wkSt_refl _, ?_, hw _, by rw [wR_len]; exact Nat.le_refl _⟩, by dsimp only; omega, hlt, okO_exp ho1 _ (of_decide_eq_false h7), hE⟩
      simp only [ltE, V.lt]
      have hll := lstD_lt (wS st w b { o1 with exps := o1.exps ++ [(nq, nq)] }).length l
      simp only [lstD, V.lt] at hll
      exact ⟨by rw [wR_len]; omega, hll, hll, trivial, trivial, trivial⟩
   ·rw [thenE_bad he] at hone
    refine vpanic TT_ok TT_mixed [0, 0, 0, 0, 0, 2] [0, 2] 1 [3, 4, 5] [0, 1, 5, 6, 7, 8, 9, 10] rfl (by kernel_rfl) ?_
    simp only [bz27, gw2, qqE, ↓reduceIte, qqA, qqL, qqD, qqM, ite_self, wR_b hb, wR_1 hb, wR_2 hb, wR_3 hb, wR_sb hb, wR_sE hb, wR_sI hb, wR_sB hb]
    refine pK_of hc (by rw [encD_mk]; exact wkL_refl _) ?_
    rw [hE, hone, decide_eq_false he, cond_false]
    exact outS_p he (givesP_of (wk_refl _) (wkSt_refl _) (oops_lt _ _) (hw o1))
abbrev PR := Sum Int (Datum × Str × Nat)
def pQ : PR → PR
 | .inl e => .inl e
 | .inr (x, r, n) => .inr (quoteD x, r, n)
def pB (n : Nat) : Str → PR
 | [] => .inl 2
 | t :: r => bif decide (t = 116) || decide (t = 102) then
   (match r with
   | [] => .inr (.mk 2 (bif decide (t = 116) then 1 else 0) [] 0 0 [], [], n)
   | u :: q => bif letterB u then .inl 2 else .inr (.mk 2 (bif decide (t = 116) then 1 else 0) [] 0 0 [], u :: q, n))
  else .inl 2
def pA (n : Nat) (c : UInt8) (r : Str) : PR := match atomR (c :: r.takeWhile letterB) with
 | .inl e => .inl e
 | .inr d => .inr (d, r.dropWhile letterB, n)
mutual
def pD : Nat → Int → Str → Nat → PR
 | 0, _, _, _ => .inl 0
 | f + 1, deep, r, n => bif decide (2000 < n + 1) || decide (40 < deep) then .inl 4
  else match r with
   | [] => .inl 2
   | c :: r => bif decide (c = 40) then pL f deep [] r (n + 1)
    else bif decide (c = 39) then (bif decide (2000 < n + 2) || decide (40 < deep + 1) then .inl 4 else pQ (pD f (deep + 1) (blk false r) (n + 2)))
    else bif decide (c = 35) then pB (n + 1) r
    else bif letterB c then pA (n + 1) c r
    else .inl 2
def pL : Nat → Int → List Datum → Str → Nat → PR
 | 0, _, _, _, _ => .inl 0
 | f + 1, deep, acc, r, n => match blk false r with
  | [] => .inl 2
  | c :: r => bif decide (c = 41) then .inr (.mk 4 0 [] 0 0 acc, r, n)
   else match pD f (deep + 1) (c :: r) n with
    | .inl e => .inl e
    | .inr (x, r', n') => pL f deep (acc ++ [x]) r' n'
end
def pT : Nat → List Datum → Str → Nat → Sum Int (List Datum × Nat)
 | 0, _, _, _ => .inl 0
 | f + 1, acc, r, n => match blk false r with
  | [] => .inr (acc, n)
  | c :: q => match pD f 1 (c :: q) n with
   | .inl e => .inl e
   | .inr (x, r', n') => pT f (acc ++ [x]) r' n'
/-- What one gives, and the other. -/
def Agr (s : Str) (p : Nat) : PR → RR → Prop
 | .inl e, r => ∃ q p' n', r = .err e q p' n'
 | .inr (d, x, n), r => ∃ p', p ≤ p' ∧ p' ≤ s.length ∧ x = s.drop p' ∧ r = .ok d p' n
theorem agrB (s : Str) (q p n : Nat) (r : Str) (h : r = s.drop p) (hp : p ≤ s.length) : Agr s p (pB n r) (rdB q p n r) := by
 cases r with
 | nil => exact ⟨_, _, _, rfl⟩
 | cons t r =>
  have hl := drop_len h.symm
  have h1 : s.drop (p + 1) = r := by rw [← List.drop_drop, ← h]; rfl
  simp only [pB, rdB]
  cases decide (t = 116) || decide (t = 102) with
  | false => exact ⟨_, _, _, rfl⟩
  | true =>
   simp only [cond_true]
   cases r with
   | nil => exact ⟨p + 1, by omega, by omega, h1.symm, rfl⟩
   | cons u w =>
    simp only
    cases letterB u with
    | true => exact ⟨_, _, _, rfl⟩
    | false => exact ⟨p + 1, by omega, by omega, h1.symm, rfl⟩
theorem take_drop_while (l : Str) : l.drop (l.takeWhile letterB).length = l.dropWhile letterB := by
 have := List.takeWhile_append_dropWhile (p := letterB) (l := l)
 conv => lhs; arg 2; rw [← this]
 rw [List.drop_left]
theorem agrA (s : Str) (q p n : Nat) (c : UInt8) (r : Str) (h : r = s.drop p) (hp : p ≤ s.length) : Agr s p (pA n c r) (rdA s q p n c r) := by
 have hl : r.length = s.length - p := by rw [h]; simp
 have htw := takeWhile_le (l := r)
 unfold pA rdA
 cases atomR (c :: r.takeWhile letterB) with
 | inl e => exact ⟨_, _, _, rfl⟩
 | inr d => exact ⟨p + (r.takeWhile letterB).length, by omega, by omega, by rw [← List.drop_drop, ← h, take_drop_while], rfl⟩
theorem agr_up {s : Str} {p q : Nat} {a : PR} {b : RR} (h : Agr s q a b) (hp : p ≤ q) : Agr s p a b := by
 cases a with
 | inl e => exact h
 | inr x =>
  obtain ⟨d, r, n⟩ := x
  obtain ⟨p', h1, h2, h3, h4⟩ := h
  exact ⟨p', by omega, h2, h3, h4⟩
theorem blk_at (s : Str) (p : Nat) : blk false (s.drop p) = s.drop (s.length - (blk false (s.drop p)).length) := by
 have h1 := blk_drop (s.drop p) false
 have h2 := blk_le (s.drop p) false
 rw [List.length_drop] at h1 h2
 conv => lhs; rw [h1, List.drop_drop]
 by_cases hp : p ≤ s.length
 ·congr 1; omega
 ·have e1 : (blk false (s.drop p)).length = 0 := by omega
  rw [e1, List.drop_of_length_le (by omega), List.drop_of_length_le (by omega)]
theorem rd_agr (s : Str) : ∀ f : Nat, (∀ (deep : Int) (p n : Nat), p ≤ s.length → Agr s p (pD f deep (s.drop p) n) (rdD s f deep p n)) ∧
  (∀ (deep : Int) (acc : List Datum) (p n : Nat), p ≤ s.length → Agr s p (pL f deep acc (s.drop p) n) (rdL s f deep acc p n))
 | 0 => ⟨fun _ _ _ _ => ⟨_, _, _, rfl⟩, fun _ _ _ _ _ => ⟨_, _, _, rfl⟩⟩
 | f + 1 => by
  obtain ⟨ihD, ihL⟩ := rd_agr s f
  constructor
  ·intro deep p n hp
   simp only [pD, rdD]
   cases decide (2000 < n + 1) || decide (40 < deep) with
   | true => exact ⟨_, _, _, rfl⟩
   | false =>
    simp only [cond_false]
    cases hd : s.drop p with
    | nil => exact ⟨_, _, _, rfl⟩
    | cons c r =>
     have hl := drop_len hd
     have h1 : s.drop (p + 1) = r := by rw [← List.drop_drop, hd]; rfl
     simp only
     cases decide (c = 40) with
     | true => simp only [cond_true]; rw [← h1]; exact agr_up (ihL deep [] (p + 1) (n + 1) (by omega)) (by omega)
     | false =>
      simp only [cond_false]
      cases decide (c = 39) with
      | true =>
       simp only [cond_true]
       cases decide (2000 < n + 2) || decide (40 < deep + 1) with
       | true => exact ⟨_, _, _, rfl⟩
       | false =>
        simp only [cond_false]
        have hb := blk_at s (p + 1)
        rw [h1] at hb
        have hle := blk_le r false
        have := ihD (deep + 1) (s.length - (blk false r).length) (n + 2) (by omega)
        rw [← hb] at this
        generalize pD f (deep + 1) (blk false r) (n + 2) = a at this ⊢
        cases a with
        | inl e => obtain ⟨q, p', n', e1⟩ := this; rw [e1]; exact ⟨_, _, _, rfl⟩
        | inr x =>
         obtain ⟨d, r', n'⟩ := x
         obtain ⟨p', k1, k2, k3, k4⟩ := this
         rw [k4]
         exact ⟨p', by omega, k2, k3, rfl⟩
      | false =>
       simp only [cond_false]
       cases decide (c = 35) with
       | true => simp only [cond_true]; exact agr_up (agrB s p (p + 1) (n + 1) r h1.symm (by omega)) (by omega)
       | false =>
        simp only [cond_false]
        cases letterB c with
        | true => simp only [cond_true]; exact agr_up (agrA s p (p + 1) (n + 1) c r h1.symm (by omega)) (by omega)
        | false => exact ⟨_, _, _, rfl⟩
  ·intro deep acc p n hp
   simp only [pL, rdL]
   have hb := blk_at s p
   have hle := blk_le (s.drop p) false
   rw [List.length_drop] at hle
   cases hk : blk false (s.drop p) with
   | nil => exact ⟨_, _, _, rfl⟩
   | cons c r =>
    rw [hk] at hb hle
    simp only [List.length_cons] at hb hle
    have hr : s.drop (s.length - r.length) = r := by
     have : s.length - r.length = (s.length - (r.length + 1)) + 1 := by omega
     rw [this, ← List.drop_drop, ← hb]; rfl
    simp only
    cases decide (c = 41) with
    | true => exact ⟨s.length - r.length, by omega, by omega, hr.symm, rfl⟩
    | false =>
     simp only [cond_false]
     have := ihD (deep + 1) (s.length - (r.length + 1)) n (by omega)
     rw [← hb] at this
     generalize pD f (deep + 1) (c :: r) n = a at this ⊢
     cases a with
     | inl e => obtain ⟨q, p', n', e1⟩ := this; rw [e1]; exact ⟨_, _, _, rfl⟩
     | inr x =>
      obtain ⟨d, r', n'⟩ := x
      obtain ⟨p', k1, k2, k3, k4⟩ := this
      rw [k4]
      simp only [RR.bind]
      rw [k3]
      exact agr_up (ihL deep (acc ++ [d]) p' n' k2) (by omega)
theorem top_agr (s : Str) : ∀ (f : Nat) (acc : List Datum) (p n : Nat), p ≤ s.length →
  (match pT f acc (s.drop p) n with
   | .inl e => ∃ q, rdTop s f acc (s.length - (blk false (s.drop p)).length) n = .inl (e, q)
   | .inr (l, _) => rdTop s f acc (s.length - (blk false (s.drop p)).length) n = .inr l)
 | 0, acc, p, n, hp => ⟨_, rfl⟩
 | f + 1, acc, p, n, hp => by
  simp only [pT, rdTop]
  have hb := blk_at s p
  have hle := blk_le (s.drop p) false
  rw [List.length_drop] at hle
  cases hk : blk false (s.drop p) with
  | nil =>
   rw [hk] at hb
   rw [← hb]
  | cons c r =>
   rw [hk] at hb hle
   simp only [List.length_cons] at hb hle
   simp only [List.length_cons]
   rw [← hb]
   simp only
   have := (rd_agr s f).1 1 (s.length - (r.length + 1)) n (by omega)
   rw [← hb] at this
   generalize pD f 1 (c :: r) n = a at this ⊢
   cases a with
   | inl e => obtain ⟨q, p', n', e1⟩ := this; rw [e1]; exact ⟨_, rfl⟩
   | inr x =>
    obtain ⟨d, r', n'⟩ := x
    obtain ⟨p', k1, k2, k3, k4⟩ := this
    rw [k4]
    simp only
    rw [k3]
    exact top_agr s f (acc ++ [d]) p' n' k2
/-- Reading, without places. -/
theorem read_ok {s : Str} {l : List Datum} : readR s = .inr l ↔ s.length ≤ 6000 ∧ ∃ n, pT (2 * s.length + 3) [] s 0 = .inr (l, n) := by
 have h := top_agr s (2 * s.length + 3) [] 0 0 (Nat.zero_le _)
 rw [List.drop_zero] at h
 unfold readR
 by_cases hs : (6000 : Int) < s.length
 ·simp only [hs, decide_true, cond_true]
  exact ⟨fun h => (by cases h), fun h => (by omega)⟩
 ·simp only [hs, decide_false, cond_false]
  cases hp : pT (2 * s.length + 3) [] s 0 with
  | inl e =>
   rw [hp] at h
   obtain ⟨q, h⟩ := h
   rw [h]
   exact ⟨fun h => (by cases h), fun ⟨_, n, h⟩ => (by cases h)⟩
  | inr x =>
   obtain ⟨m, n⟩ := x
   rw [hp] at h
   simp only at h
   rw [h]
   exact ⟨fun h => (by cases h; exact ⟨by omega, n, rfl⟩), fun ⟨_, n', h⟩ => (by cases h; rfl)⟩
theorem read_err {s : Str} {e : Int} (hs : s.length ≤ 6000) (h : pT (2 * s.length + 3) [] s 0 = .inl e) : ∃ q, readR s = .inl (e, q) := by
 have k := top_agr s (2 * s.length + 3) [] 0 0 (Nat.zero_le _)
 rw [List.drop_zero, h] at k
 obtain ⟨q, k⟩ := k
 refine ⟨q, ?_⟩
 unfold readR
 rw [show decide ((6000 : Int) < s.length) = false by simp; omega, cond_false]
 exact k
/-- More text behind, that no word goes on in. -/
def Brk : Str → Prop
 | [] => True
 | c :: _ => letterB c = false
theorem blk_ext : ∀ (r x : Str) (b : Bool) {c : UInt8} {q : Str}, blk b r = c :: q → blk b (r ++ x) = c :: (q ++ x)
 | [], x, b, c, q, h => by cases b <;> simp [blk] at h
 | d :: r, x, false, c, q, h => by
  simp only [blk, List.cons_append] at h ⊢
  cases h1 : isBlank d with
  | true => rw [h1] at h; simp only [cond_true] at h ⊢; exact blk_ext r x false h
  | false =>
   rw [h1] at h
   simp only [cond_false] at h ⊢
   cases h2 : decide (d = 59) with
   | true => rw [h2] at h; simp only [cond_true] at h ⊢; exact blk_ext r x true h
   | false => rw [h2] at h; simp only [cond_false] at h ⊢; cases h; rfl
 | d :: r, x, true, c, q, h => by
  simp only [blk, List.cons_append] at h ⊢
  cases h1 : decide (d = 10) with
  | true => rw [h1] at h; simp only [cond_true] at h ⊢; exact blk_ext r x false h
  | false => rw [h1] at h; simp only [cond_false] at h ⊢; exact blk_ext r x true h
/-- Where nothing is left, a line behind is looked at anew. -/
theorem blk_line : ∀ (r t : Str) (b : Bool), blk b r = [] → blk b (r ++ 10 :: t) = blk false t
 | [], t, false, _ => by simp [blk, isBlank]
 | [], t, true, _ => by simp [blk]
 | d :: r, t, false, h => by
  simp only [blk, List.cons_append] at h ⊢
  cases h1 : isBlank d with
  | true => rw [h1] at h; simp only [cond_true] at h ⊢; exact blk_line r t false h
  | false =>
   rw [h1] at h
   simp only [cond_false] at h ⊢
   cases h2 : decide (d = 59) with
   | true => rw [h2] at h; simp only [cond_true] at h ⊢; exact blk_line r t true h
   | false => rw [h2] at h; simp at h
 | d :: r, t, true, h => by
  simp only [blk, List.cons_append] at h ⊢
  cases h1 : decide (d = 10) with
  | true => rw [h1] at h; simp only [cond_true] at h ⊢; exact blk_line r t false h
  | false => rw [h1] at h; simp only [cond_false] at h ⊢; exact blk_line r t true h
theorem tw_ext {r x : Str} (hx : Brk x) : (r ++ x).takeWhile letterB = r.takeWhile letterB ∧ (r ++ x).dropWhile letterB = r.dropWhile letterB ++ x := by
 induction r with
 | nil =>
  cases x with
  | nil => simp
  | cons c x => simp only [Brk] at hx; simp [hx]
 | cons d r ih =>
  simp only [List.cons_append, List.takeWhile_cons, List.dropWhile_cons]
  cases letterB d <;> simp [ih]
/-- With more fuel, more text behind, and so many nodes more: the same, or too much. -/
def More (x : Str) (m : Nat) (a : Datum × Str × Nat) (b : PR) : Prop := b = .inr (a.1, a.2.1 ++ x, a.2.2 + m) ∨ (b = .inl 4 ∧ m ≠ 0)
theorem moreB {n m : Nat} {r x : Str} {a : Datum × Str × Nat} (hx : Brk x) (h : pB n r = .inr a) : More x m a (pB (n + m) (r ++ x)) := by
 cases r with
 | nil => cases h
 | cons t r =>
  simp only [pB, List.cons_append] at h ⊢
  cases h1 : decide (t = 116) || decide (t = 102) with
  | false => rw [h1] at h; cases h
  | true =>
   rw [h1] at h
   simp only [cond_true] at h ⊢
   cases r with
   | nil =>
    simp only at h
    cases h
    cases x with
    | nil => exact .inl rfl
    | cons c x => simp only [Brk] at hx; simp only [List.nil_append, hx, cond_false]; exact .inl rfl
   | cons u w =>
    simp only [List.cons_append] at h ⊢
    cases hu : letterB u with
    | true => rw [hu] at h; cases h
    | false => rw [hu] at h; simp only [cond_false] at h ⊢; cases h; exact .inl rfl
theorem moreA {n m : Nat} {c : UInt8} {r x : Str} {a : Datum × Str × Nat} (hx : Brk x) (h : pA n c r = .inr a) : More x m a (pA (n + m) c (r ++ x)) := by
 unfold pA at h ⊢
 obtain ⟨e1, e2⟩ := tw_ext (r := r) hx
 rw [e1, e2]
 cases hq : atomR (c :: r.takeWhile letterB) with
 | inl e => rw [hq] at h; cases h
 | inr d => rw [hq] at h; cases h; exact .inl rfl
theorem p_more (x : Str) (m : Nat) (hx : Brk x) : ∀ f : Nat, (∀ (F : Nat) (deep : Int) (r : Str) (n : Nat) (a : Datum × Str × Nat), f ≤ F → pD f deep r n = .inr a → More x m a (pD F deep (r ++ x) (n + m))) ∧
  (∀ (F : Nat) (deep : Int) (acc : List Datum) (r : Str) (n : Nat) (a : Datum × Str × Nat), f ≤ F → pL f deep acc r n = .inr a → More x m a (pL F deep acc (r ++ x) (n + m)))
 | 0 => ⟨fun F deep r n a _ h => (by cases h), fun F deep acc r n a _ h => (by cases h)⟩
 | f + 1 => by
  obtain ⟨ihD, ihL⟩ := p_more x m hx f
  constructor
  ·intro F deep r n a hF h
   obtain ⟨F, rfl⟩ : ∃ G, F = G + 1 := ⟨F - 1, by omega⟩
   have hF' : f ≤ F := by omega
   simp only [pD] at h ⊢
   cases h1 : (decide (2000 < n + 1) || decide (40 < deep)) with
   | true => rw [h1] at h; cases h
   | false =>
    rw [h1] at h
    simp only [cond_false] at h
    cases h2 : (decide (2000 < n + m + 1) || decide (40 < deep)) with
    | true =>
     simp only [cond_true]
     simp only [Bool.or_eq_true, Bool.or_eq_false_iff, decide_eq_true_eq, decide_eq_false_iff_not] at h1 h2
     exact .inr ⟨rfl, by omega⟩
    | false =>
     simp only [cond_false]
     cases r with
     | nil => cases h
     | cons c r =>
      simp only [List.cons_append] at h ⊢
      have e1 : n + m + 1 = n + 1 + m := by omega
      have e2 : n + m + 2 = n + 2 + m := by omega
      rw [e1]
      cases h3 : decide (c = 40) with
      | true => rw [h3] at h; simp only [cond_true] at h ⊢; exact ihL F deep [] r (n + 1) a hF' h
      | false =>
       rw [h3] at h
       simp only [cond_false] at h ⊢
       cases h4 : decide (c = 39) with
       | true =>
        rw [h4] at h
        simp only [cond_true] at h ⊢
        cases h5 : (decide (2000 < n + 2) || decide (40 < deep + 1)) with
        | true => rw [h5] at h; cases h
        | false =>
         rw [h5] at h
         simp only [cond_false] at h
         cases h6 : (decide (2000 < n + m + 2) || decide (40 < deep + 1)) with
         | true =>
          simp only [Bool.or_eq_true, Bool.or_eq_false_iff, decide_eq_true_eq, decide_eq_false_iff_not] at h5 h6
          exact .inr ⟨rfl, by omega⟩
         | false =>
          simp only [cond_false]
          cases hq : pD f (deep + 1) (blk false r) (n + 2) with
          | inl e => rw [hq] at h; cases h
          | inr y =>
           rw [hq] at h
           have hb : blk false (r ++ x) = blk false r ++ x := by
            cases hk : blk false r with
            | nil =>
             rw [hk] at hq
             cases f with
             | zero => cases hq
             | succ f =>
              simp only [pD] at hq
              cases h7 : (decide (2000 < n + 2 + 1) || decide (40 < deep + 1)) <;> rw [h7] at hq <;> cases hq
            | cons e q => rw [blk_ext r x false hk]; rfl
           have := ihD F (deep + 1) (blk false r) (n + 2) y hF' hq
           rw [hb, e2]
           rcases this with h8 | ⟨h8, h9⟩
           ·rw [h8]; cases h; exact .inl rfl
           ·rw [h8]; exact .inr ⟨rfl, h9⟩
       | false =>
        rw [h4] at h
        simp only [cond_false] at h ⊢
        cases h5 : decide (c = 35) with
        | true => rw [h5] at h; simp only [cond_true] at h ⊢; exact moreB hx h
        | false =>
         rw [h5] at h
         simp only [cond_false] at h ⊢
         cases h6 : letterB c with
         | true => rw [h6] at h; simp only [cond_true] at h ⊢; exact moreA hx h
         | false => rw [h6] at h; cases h
  ·intro F deep acc r n a hF h
   obtain ⟨F, rfl⟩ : ∃ G, F = G + 1 := ⟨F - 1, by omega⟩
   have hF' : f ≤ F := by omega
   simp only [pL] at h ⊢
   cases hk : blk false r with
   | nil => rw [hk] at h; cases h
   | cons c q =>
    rw [hk] at h
    rw [blk_ext r x false hk]
    simp only at h ⊢
    cases h1 : decide (c = 41) with
    | true => rw [h1] at h; simp only [cond_true] at h ⊢; cases h; exact .inl rfl
    | false =>
     rw [h1] at h
     simp only [cond_false] at h ⊢
     cases hq : pD f (deep + 1) (c :: q) n with
     | inl e => rw [hq] at h; cases h
     | inr y =>
      obtain ⟨d, r', n'⟩ := y
      rw [hq] at h
      simp only at h
      have := ihD F (deep + 1) (c :: q) n _ hF' hq
      rw [List.cons_append] at this
      rcases this with h8 | ⟨h8, h9⟩
      ·rw [h8]; simp only; exact ihL F deep (acc ++ [d]) r' n' a hF' h
      ·rw [h8]; exact .inr ⟨rfl, h9⟩
/-- Data on lines, and more lines behind. -/
theorem t_line (t : Str) : ∀ (f F : Nat) (acc : List Datum) (r : Str) (n : Nat) (l : List Datum) (n' : Nat), pT f acc r n = .inr (l, n') → f ≤ F → ∃ G, F + 1 ≤ G + f ∧ pT F acc (r ++ 10 :: t) n = pT G l t n'
 | 0, F, acc, r, n, l, n', h, _ => by cases h
 | f + 1, F, acc, r, n, l, n', h, hF => by
  obtain ⟨F, rfl⟩ : ∃ G, F = G + 1 := ⟨F - 1, by omega⟩
  simp only [pT] at h
  cases hk : blk false r with
  | nil =>
   rw [hk] at h
   simp only at h
   cases h
   refine ⟨F + 1, by omega, ?_⟩
   simp only [pT]
   rw [blk_line r t false hk]
  | cons c q =>
   rw [hk] at h
   simp only at h
   cases hq : pD f 1 (c :: q) n with
   | inl e => rw [hq] at h; cases h
   | inr y =>
    obtain ⟨d, r', n2⟩ := y
    rw [hq] at h
    simp only at h
    have hb : Brk (10 :: t) := by show letterB 10 = false; decide
    have := (p_more (10 :: t) 0 hb f).1 F 1 (c :: q) n _ (by omega) hq
    rw [List.cons_append] at this
    obtain ⟨G, g1, g2⟩ := t_line t f F (acc ++ [d]) r' n2 l n' h (by omega)
    refine ⟨G, by omega, ?_⟩
    rw [← g2]
    conv => lhs; unfold pT
    rw [blk_ext r (10 :: t) false hk]
    simp only
    rcases this with h8 | ⟨_, h9⟩
    ·rw [Nat.add_zero] at h8; rw [h8]; rfl
    ·exact absurd rfl h9
/-- A note goes on to its line's end. -/
theorem blk_note : ∀ (note t : Str), (10 : UInt8) ∉ note → blk true (note ++ 10 :: t) = blk false t
 | [], t, _ => by simp [blk]
 | c :: r, t, h => by
  simp only [List.mem_cons, not_or] at h
  simp only [List.cons_append, blk]
  rw [show decide (c = 10) = false by simp; exact fun e => h.1 e.symm, cond_false]
  exact blk_note r t h.2
theorem blk_note_end : ∀ (note : Str), (10 : UInt8) ∉ note → blk true note = []
 | [], _ => by simp [blk]
 | c :: r, h => by
  simp only [List.mem_cons, not_or] at h
  simp only [blk]
  rw [show decide (c = 10) = false by simp; exact fun e => h.1 e.symm, cond_false]
  exact blk_note_end r h.2
/-- BLANKS AND NOTES SAY NOTHING. -/
theorem blanks {s note : Str} {a : List Datum} (ha : readR s = .inr a) (hn : (10 : UInt8) ∉ note) (hl : s.length + 2 * note.length + 6 ≤ 6000) :
  readR ([59] ++ note ++ [10, 32, 9] ++ s ++ [10, 59] ++ note) = .inr a := by
 obtain ⟨h1, n1, ha⟩ := read_ok.1 ha
 have e : [59] ++ note ++ [10, 32, 9] ++ s ++ [10, 59] ++ note = 59 :: (note ++ 10 :: (32 :: 9 :: (s ++ 10 :: (59 :: note)))) := by simp
 rw [e]
 generalize hz : (59 : UInt8) :: (note ++ 10 :: (32 :: 9 :: (s ++ 10 :: (59 :: note)))) = z
 have hlen : z.length = s.length + 2 * note.length + 6 := by rw [← hz]; simp; omega
 obtain ⟨G, g1, g2⟩ := t_line (59 :: note) _ (2 * z.length + 3) [] s 0 a n1 ha (by omega)
 refine read_ok.2 ⟨by omega, n1, ?_⟩
 have hb : blk false z = blk false (s ++ 10 :: (59 :: note)) := by
  rw [← hz]
  have i1 : isBlank 59 = false := by decide
  have i2 : isBlank 32 = true := by decide
  have i3 : isBlank 9 = true := by decide
  conv => lhs; unfold blk
  rw [i1, cond_false, show decide ((59 : UInt8) = 59) = true by decide, cond_true, blk_note note _ hn]
  simp only [blk, i2, i3, cond_true]
 have h3 : pT (2 * z.length + 3) [] z 0 = pT (2 * z.length + 3) [] (s ++ 10 :: (59 :: note)) 0 := by
  simp only [pT]; rw [hb]
 rw [h3, g2]
 obtain ⟨G, rfl⟩ : ∃ G', G = G' + 1 := ⟨G - 1, by omega⟩
 simp only [pT]
 have : blk false (59 :: note) = [] := by
  have i1 : isBlank 59 = false := by decide
  conv => lhs; unfold blk
  rw [i1, cond_false, show decide ((59 : UInt8) = 59) = true by decide, cond_true, blk_note_end note hn]
 rw [this]
end Go.Proofs.YtpllcpbhjglpaaaGreatDoor.Gx
namespace Go.Proofs.YtpllcpbhjglpaaaGreatDoor.Gx
open Go Go.Proofs.YtpllcpbhjglpaaaGreatDoor.Gw
set_option linter.unusedSimpArgs false
set_option linter.unusedVariables false
/-- A text's bytes as rows. -/
def bytesV (s : Str) : List (List V) := s.map fun c => [V.int .u8 c.toNat]
/-- A builder that holds a text: its box, its bytes. -/
structure IsB (st : St) (b t T k : Nat) (s : Str) (r : List V) : Prop where
 box : st[b]? = some (.box (.addr b T k :: .arr t s.length :: r))
 arr : st[t]? = some (.arr 5 1 (bytesV s))
 lies : liesAt Tryz.prog Tryz.prog.depth T (k / Tryz.prog.cellsOf T) 0 91 1 = true
def bput (st : St) (b t T k : Nat) (s : Str) (r : List V) : St := (st.set t (.arr 5 1 (bytesV s))).set b (.box (.addr b T k :: .arr t s.length :: r))
section
variable {st : St} {b t T k : Nat} {s : Str} {r : List V}
theorem IsB.ne (h : IsB st b t T k s r) : b ≠ t := fun e => by
 have h1 := h.box
 rw [e, h.arr] at h1
 cases h1
theorem IsB.put (h : IsB st b t T k s r) (s' : Str) : IsB (bput st b t T k s' r) b t T k s' r where
 box := by
  simp only [bput]
  rw [List.getElem?_set_self (by rw [List.length_set]; exact (List.getElem?_eq_some_iff.1 h.box).1)]
 arr := by
  simp only [bput]
  rw [List.getElem?_set_ne h.ne, List.getElem?_set_self (List.getElem?_eq_some_iff.1 h.arr).1]
 lies := h.lies
theorem IsB.same (h : IsB st b t T k s r) : bput st b t T k s r = st := by
 simp only [bput]
 obtain ⟨h1, h2⟩ := List.getElem?_eq_some_iff.1 h.arr
 obtain ⟨h3, h4⟩ := List.getElem?_eq_some_iff.1 h.box
 rw [← h2, List.set_getElem_self, ← h4, List.set_getElem_self]
end
end Go.Proofs.YtpllcpbhjglpaaaGreatDoor.Gx
namespace Go.Proofs.YtpllcpbhjglpaaaGreatDoor.Gx
open Go Go.Proofs.YtpllcpbhjglpaaaGreatDoor.Gw
open Nat renaming reduceEqDiff → qqE, reduceAdd → qqA, reduceLT → qqL, reduceLeDiff → qqD, reduceMul → qqM
set_option linter.unusedSimpArgs false
set_option linter.unusedVariables false
mutual
/-- A datum's text. -/
def textD : Datum → Str
 | .mk k n nm s l kids => bif decide (k = 1) then Lib.itoa n else bif decide (k = 2) then (bif decide (n = 1) then [35, 116] else [35, 102]) else bif decide (k = 3) then nm else 40 :: ((spaced kids).drop 1 ++ [41])
/-- Each with a blank ahead. -/
def spaced : List Datum → Str
 | [] => []
 | d :: r => 32 :: (textD d ++ spaced r)
end
mutual
/-- Kinds, and what there is of numbers, are right. -/
def okD : Datum → Prop
 | .mk k n nm s l kids => (k = 1 ∧ -1000000000000000 ≤ n ∧ n ≤ 1000000000000000) ∨ (k = 2 ∧ (n = 0 ∨ n = 1)) ∨ (k = 3 ∧ namedB nm = true ∧ s = 0 ∧ l = 0) ∨ (k = 4 ∧ okDs kids)
def okDs : List Datum → Prop
 | [] => True
 | d :: r => okD d ∧ okDs r
end
mutual
/-- How many nodes. -/
def cntD : Datum → Nat
 | .mk k _ _ _ _ kids => 1 + bif decide (k = 4) then cntDs kids else 0
def cntDs : List Datum → Nat
 | [] => 0
 | d :: r => cntD d + cntDs r
end
mutual
theorem shape_okD : ∀ (d : Datum) (deep c : Int), (shapeD d deep c).1 = 0 → okD d ∧ (shapeD d deep c).2 = c + cntD d
 | .mk k n nm s l kids, deep, c, h => by
  unfold shapeD at h ⊢
  simp only [okD, cntD]
  cases h1 : (decide (2000 < c + 1) || decide (40 < deep)) with
  | true => rw [h1] at h; simp at h
  | false =>
   rw [h1] at h
   simp only [cond_false] at h ⊢
   by_cases k1 : k = 1
   ·subst k1
    cases h2 : (decide (1000000000000000 < n) || decide (n < -1000000000000000)) with
    | true => simp [h2] at h
    | false =>
     simp only [Bool.or_eq_false_iff, decide_eq_false_iff_not] at h2
     exact ⟨.inl ⟨rfl, by omega, by omega⟩, by simp [h2]⟩
   by_cases k2 : k = 2
   ·subst k2
    cases h2 : (decide (n = 0) || decide (n = 1)) with
    | false => simp [h2] at h
    | true =>
     have h3 := h2
     simp only [Bool.or_eq_true, decide_eq_true_eq] at h3
     exact ⟨.inr (.inl ⟨rfl, h3⟩), by simp [h2]⟩
   by_cases k3 : k = 3
   ·subst k3
    cases h2 : namedB nm with
    | false => simp [h2] at h
    | true =>
     cases h3 : (decide (s = 0) && decide (l = 0)) with
     | false => simp [h2, h3] at h
     | true =>
      have h4 := h3
      simp only [Bool.and_eq_true, decide_eq_true_eq] at h4
      exact ⟨.inr (.inr (.inl ⟨rfl, rfl, h4⟩)), by simp [h2, h3]⟩
   by_cases k4 : k = 4
   ·subst k4
    have h' : (shapeDs kids (deep + 1) (c + 1)).1 = 0 := by simpa using h
    have := shape_okDs kids _ _ h'
    refine ⟨.inr (.inr (.inr ⟨rfl, this.1⟩)), ?_⟩
    simp [this.2]; omega
   ·simp [k1, k2, k3, k4] at h
theorem shape_okDs : ∀ (l : List Datum) (deep c : Int), (shapeDs l deep c).1 = 0 → okDs l ∧ (shapeDs l deep c).2 = c + cntDs l
 | [], _, c, _ => by simp [okDs, cntDs, shapeDs]
 | d :: r, deep, c, h => by
  simp only [shapeDs] at h ⊢
  by_cases h1 : (shapeD d deep c).1 = 0
  ·have i1 := shape_okD d deep c h1
   simp only [h1, decide_true, cond_true] at h ⊢
   have i2 := shape_okDs r deep _ h
   refine ⟨⟨i1.1, i2.1⟩, ?_⟩
   rw [i2.2, i1.2]; simp only [cntDs]; omega
  ·simp [h1] at h
end
theorem dk4 : (decide ((2 : Int) = 1) = false) ∧ (decide ((3 : Int) = 1) = false) ∧ (decide ((3 : Int) = 2) = false) ∧ (decide ((4 : Int) = 1) = false) ∧ (decide ((4 : Int) = 2) = false) ∧ (decide ((4 : Int) = 3) = false) ∧ (decide ((2 : Int) = 2) = true) ∧ (decide ((3 : Int) = 3) = true) ∧ (decide ((4 : Int) = 4) = true) ∧ (decide ((1 : Int) = 1) = true) := by decide
/-- Data, each on a line. -/
def textL : List Datum → Str
 | [] => []
 | d :: r => textD d ++ 10 :: textL r
theorem wrong_ok : ∀ (l : List Datum) (i : Nat) (c : Int), 0 ≤ c → c ≤ 2000 → (wrongL l i c).1 = 0 → okDs l ∧ c + cntDs l ≤ 2000
 | [], i, c, h0, h1, _ => by simp [okDs, cntDs, h1]
 | d :: r, i, c, h0, h1, h => by
  simp only [wrongL] at h
  by_cases e : (shapeD d 1 c).1 = 0
  ·simp only [e, decide_true, cond_true] at h
   have k1 := shape_okD d 1 c e
   have k2 := shapeD_ok d 1 c h0 e
   have k3 := wrong_ok r (i + 1) _ (by omega) k2.2 h
   refine ⟨⟨k1.1, k3.1⟩, ?_⟩
   simp only [cntDs]; omega
  ·simp [e] at h
/-- What is printed, or what is wrong. -/
def printL (l : List Datum) : Str × (Int × Int) := bif decide ((wrongL l 0 0).1 = 0) then (bif decide (6000 < (textL l).length) then ([], (4, 0)) else (textL l, (0, 0))) else ([], wrongL l 0 0)
end Go.Proofs.YtpllcpbhjglpaaaGreatDoor.Gx
