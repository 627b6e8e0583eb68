/- The document's libraries: declarations, in plain terms. The document's reading: blanks, counts, stops. The document's reading: what it comes to, whatever it is; beside what a text's data are. What a fold over a number's letters gives. The document's reading: the walk over a datum. The document's Read. The document's Read. -/
import Derived.Test.YtpllcpbhjglpaaaGreatDoorZW10
namespace Go.Proofs.YtpllcpbhjglpaaaGreatDoor.Gx
open Go Go.Proofs.YtpllcpbhjglpaaaGreatDoor.Gw
open Nat renaming reduceEqDiff → qqE, reduceAdd → qqA, reduceLT → qqL, reduceLeDiff → qqD, reduceMul → qqM
set_option linter.unusedSimpArgs false
set_option linter.unusedVariables false
/-- The same is wrong; and where nothing is, the same is told. -/
def AgrE {α : Type} (x y : α × Int) : Prop := x.2 = y.2 ∧ (y.2 = 0 → x.1 = y.1)
theorem AgrE.refl {α : Type} (x : α × Int) : AgrE x x := ⟨rfl, fun _ => rfl⟩
theorem AgrE.bad {α : Type} {a b : α} {e : Int} (h : e ≠ 0) : AgrE (a, e) (b, e) := ⟨rfl, fun h2 => absurd h2 h⟩
theorem AgrE.eq {α : Type} {x y : α × Int} (h : AgrE x y) (h0 : y.2 = 0) : x = y := Prod.ext (h.2 h0) h.1
def pairW (x : Datum) : Option (Str × Str) × Int :=
 bif decide (kindOf x = 4) then (match wordsW (needW 3 x 0).1 (needW 3 x 0).2 [] with
  | ([a, b, c], e) => bif decide (a = wRename) then (some (c, b), e) else (none, stp e 2)
  | (_, e) => (none, stp e 2))
 else (some ((wordW x 0).1, (wordW x 0).1), (wordW x 0).2)
def putW (q : Str × Str) (e : Int) (o : Lib') : Lib' × Int :=
 ({ o with exps := o.exps ++ [q] }, bif decide (200 ≤ o.exps.length) then stp (bif decide (e = 0) && o.exps.any (fun p => decide (p.1 = q.1)) then stp e 8 else e) 5 else (bif decide (e = 0) && o.exps.any (fun p => decide (p.1 = q.1)) then stp e 8 else e))
def exportW : List Datum → Lib' → Int → Lib' × Int
 | [], o, e => (o, e)
 | x :: r, o, e => bif !decide (e = 0) then (o, e) else match pairW x with
  | (none, e2) => (o, e2)
  | (some q, e2) => exportW r (putW q e2 o).1 (putW q e2 o).2
def importW : List Datum → Lib' → Int → Lib' × Int
 | [], o, e => (o, e)
 | x :: r, o, e => bif decide ((bif decide (20 ≤ o.imps.length) then stp e 5 else e) = 0) then importW r { o with imps := o.imps ++ [(setW 12 x).1] } (setW 12 x).2
  else importW r o (bif decide (20 ≤ o.imps.length) then stp e 5 else e)
def includeW (w : Wd) : List Datum → Lib' → Int → Lib' × Int
 | [], o, e => (o, e)
 | x :: r, o, e => bif !decide ((wordW x e).2 = 0) then (o, (wordW x e).2) else match fileOf (wordW x e).1 w.files with
  | none => includeW w r o 6
  | some t => match readR t with
   | .inl f => includeW w r (bodyW [] o f.1).1 (bodyW [] o f.1).2
   | .inr k => includeW w r (bodyW k o 0).1 (bodyW k o 0).2
mutual
def declW (w : Wd) : Datum → Lib' → Lib' × Int
 | .mk k _ _ _ _ kids, o => bif !decide (k = 4) then (o, 2) else match kids with
  | [] => (o, 2)
  | h :: t => bif !decide ((symP h).2 = 0) then (o, (symP h).2)
   else bif decide ((symP h).1 = wExport) then exportW t o (bif decide (o.name = []) then 2 else 0)
   else bif decide ((symP h).1 = wImport) then importW t o 0
   else bif decide ((symP h).1 = wBegin) then bodyW t o 0
   else bif decide ((symP h).1 = wInclude) then includeW w t o 0
   else bif decide ((symP h).1 = wCond) then condW w t o
   else (o, 2)
def declsW (w : Wd) : List Datum → Lib' → Lib' × Int
 | [], o => (o, 0)
 | d :: r, o => bif decide ((declW w d o).2 = 0) then declsW w r (declW w d o).1 else declW w d o
def condW (w : Wd) : List Datum → Lib' → Lib' × Int
 | [], o => (o, 0)
 | .mk k _ _ _ _ kids :: r, o => bif !decide (k = 4) then (o, 2) else match kids with
  | [] => (o, 2)
  | h :: t => bif isElse h then declsW w t o
   else bif !decide ((holdsW w h).2 = 0) then (o, (holdsW w h).2)
   else bif (holdsW w h).1 then declsW w t o else condW w r o
end
theorem declW_eq (w : Wd) (k n : Int) (nm : Str) (s l : Int) (kids : List Datum) (o : Lib') : declW w (.mk k n nm s l kids) o = bif !decide (k = 4) then (o, 2) else match kids with
  | [] => (o, 2)
  | h :: t => bif !decide ((symP h).2 = 0) then (o, (symP h).2)
   else bif decide ((symP h).1 = wExport) then exportW t o (bif decide (o.name = []) then 2 else 0)
   else bif decide ((symP h).1 = wImport) then importW t o 0
   else bif decide ((symP h).1 = wBegin) then bodyW t o 0
   else bif decide ((symP h).1 = wInclude) then includeW w t o 0
   else bif decide ((symP h).1 = wCond) then condW w t o
   else (o, 2) := by
 cases kids <;> rfl
theorem declsW_cons (w : Wd) (d : Datum) (r : List Datum) (o : Lib') : declsW w (d :: r) o = bif decide ((declW w d o).2 = 0) then declsW w r (declW w d o).1 else declW w d o := rfl
theorem condW_cons (w : Wd) (k n : Int) (nm : Str) (s l : Int) (kids r : List Datum) (o : Lib') : condW w (.mk k n nm s l kids :: r) o = bif !decide (k = 4) then (o, 2) else match kids with
  | [] => (o, 2)
  | h :: t => bif isElse h then declsW w t o
   else bif !decide ((holdsW w h).2 = 0) then (o, (holdsW w h).2)
   else bif (holdsW w h).1 then declsW w t o else condW w r o := by
 cases kids <;> rfl
theorem exportW_no {e : Int} (h : e ≠ 0) (l : List Datum) (o : Lib') : exportW l o e = (o, e) := by
 cases l with
 | nil => rfl
 | cons x r => rw [exportW, decide_eq_false h]; rfl
theorem importW_no {e : Int} (h : e ≠ 0) : ∀ (l : List Datum) (o : Lib'), importW l o e = (o, e)
 | [], o => rfl
 | x :: r, o => by
  rw [importW, stp_no h, Bool.cond_self, decide_eq_false h, cond_false]
  exact importW_no h r o
theorem includeW_no {e : Int} (h : e ≠ 0) (w : Wd) (l : List Datum) (o : Lib') : includeW w l o e = (o, e) := by
 cases l with
 | nil => rfl
 | cons x r => rw [includeW, wordW_no h, decide_eq_false h]; rfl
theorem bodyW_0 (l : List Datum) (o : Lib') : AgrE (bodyW l o 0) (bodyL l o) := by
 unfold bodyW bodyL
 rw [show decide (200 < o.body.length + l.length) = decide (200 < l.length + o.body.length) by rw [Nat.add_comm]]
 cases decide (200 < l.length + o.body.length) with
 | true => exact AgrE.bad (show (5 : Int) ≠ 0 by decide)
 | false => exact AgrE.refl _
theorem bodyW_no {e : Int} (h : e ≠ 0) (l : List Datum) (o : Lib') : bodyW l o e = (o, e) := by
 unfold bodyW
 rw [stp_no h, Bool.cond_self, decide_eq_false h]; rfl
theorem pairW_0 (x : Datum) : (pairW x).2 = (exportOne x).2 ∧ ((exportOne x).2 = 0 → (pairW x).1 = some (exportOne x).1) := by
 unfold pairW exportOne
 cases decide (kindOf x = 4) with
 | false =>
  simp only [cond_false, wordW_0]
  by_cases h : (symP x).2 = 0
  ·rw [thenE_ok h]; exact ⟨h, fun _ => rfl⟩
  ·rw [thenE_bad h]; exact ⟨rfl, fun h2 => absurd h2 h⟩
 | true =>
  simp only [cond_true]
  obtain ⟨h1, h2⟩ := needW_0 3 x
  by_cases h3 : (listP 3 x).2 = 0
  ·rw [thenE_ok h3, h1, h3, h2 h3]
   obtain ⟨k1, k2⟩ := wordsW_0 (listP 3 x).1 []
   by_cases h4 : (symsP (listP 3 x).1 []).2 = 0
   ·rw [thenE_ok h4, show wordsW (listP 3 x).1 0 [] = ((symsP (listP 3 x).1 []).1, 0) from Prod.ext (k2 h4) (k1.trans h4)]
    rcases (symsP (listP 3 x).1 []).1 with _ | ⟨a, _ | ⟨b, _ | ⟨c, _ | ⟨d, t⟩⟩⟩⟩
    ·exact ⟨rfl, fun h => absurd h (show (2 : Int) ≠ 0 by decide)⟩
    ·exact ⟨rfl, fun h => absurd h (show (2 : Int) ≠ 0 by decide)⟩
    ·exact ⟨rfl, fun h => absurd h (show (2 : Int) ≠ 0 by decide)⟩
    ·simp only
     cases decide (a = wRename) with
     | true => exact ⟨rfl, fun _ => rfl⟩
     | false => exact ⟨rfl, fun h => absurd h (show (2 : Int) ≠ 0 by decide)⟩
    ·exact ⟨rfl, fun h => absurd h (show (2 : Int) ≠ 0 by decide)⟩
   ·rw [thenE_bad h4, show wordsW (listP 3 x).1 0 [] = ((wordsW (listP 3 x).1 0 []).1, (symsP (listP 3 x).1 []).2) from Prod.ext rfl k1]
    rcases (wordsW (listP 3 x).1 0 []).1 with _ | ⟨a, _ | ⟨b, _ | ⟨c, _ | ⟨d, t⟩⟩⟩⟩ <;> simp only [stp_no h4] <;> first | exact ⟨trivial, fun h => absurd h h4⟩ | (cases decide (a = wRename) <;> exact ⟨rfl, fun h => absurd h h4⟩)
  ·rw [thenE_bad h3, h1, show wordsW (needW 3 x 0).1 (listP 3 x).2 [] = ((wordsW (needW 3 x 0).1 (listP 3 x).2 []).1, (listP 3 x).2) from Prod.ext rfl (wordsW_no h3 _ _)]
   rcases (wordsW (needW 3 x 0).1 (listP 3 x).2 []).1 with _ | ⟨a, _ | ⟨b, _ | ⟨c, _ | ⟨d, t⟩⟩⟩⟩ <;> simp only [stp_no h3] <;> first | exact ⟨trivial, fun h => absurd h h3⟩ | (cases decide (a = wRename) <;> exact ⟨rfl, fun h => absurd h h3⟩)
theorem putW_no {e : Int} (h : e ≠ 0) (q : Str × Str) (o : Lib') : (putW q e o).2 = e := by
 simp only [putW, stp_no h, Bool.cond_self]
theorem exportW_0 : ∀ (l : List Datum) (o : Lib'), o.exps.length ≤ 200 → AgrE (exportW l o 0) (exportP l o)
 | [], o, ho => AgrE.refl _
 | x :: r, o, ho => by
  rw [exportW, exportP, show (!decide ((0 : Int) = 0)) = false from rfl, cond_false]
  obtain ⟨h1, h2⟩ := pairW_0 x
  by_cases h : (exportOne x).2 = 0
  ·rw [decide_eq_true h, cond_true, show pairW x = (some (exportOne x).1, 0) from Prod.ext (h2 h) (h1.trans h)]
   simp only
   cases ha : o.exps.any (fun p => decide (p.1 = (exportOne x).1.1)) with
   | true =>
    simp only [cond_true]
    have : (putW (exportOne x).1 0 o).2 = 8 := by
     simp only [putW, ha]
     cases decide (200 ≤ o.exps.length) <;> rfl
    rw [this, exportW_no (show (8 : Int) ≠ 0 by decide)]
    exact AgrE.bad (show (8 : Int) ≠ 0 by decide)
   | false =>
    simp only [cond_false]
    by_cases hl : o.exps.length = 200
    ·have : (putW (exportOne x).1 0 o).2 = 5 := by
      simp only [putW, ha, hl]; rfl
     rw [decide_eq_true hl, cond_true, this, exportW_no (show (5 : Int) ≠ 0 by decide)]
     exact AgrE.bad (show (5 : Int) ≠ 0 by decide)
    ·have : putW (exportOne x).1 0 o = ({ o with exps := o.exps ++ [(exportOne x).1] }, 0) := by
      simp only [putW, ha, show decide (200 ≤ o.exps.length) = false from decide_eq_false (by omega)]; rfl
     rw [decide_eq_false hl, cond_false, this]
     exact exportW_0 r _ (by simp; omega)
  ·rw [decide_eq_false h, cond_false]
   generalize pairW x = pw at h1
   obtain ⟨q, e⟩ := pw
   simp only at h1
   subst h1
   cases q with
   | none => exact AgrE.bad h
   | some q => simp only; rw [putW_no h, exportW_no h]; exact AgrE.bad h
theorem importW_0 : ∀ (l : List Datum) (o : Lib'), o.imps.length ≤ 20 → AgrE (importW l o 0) (importP l o)
 | [], o, ho => AgrE.refl _
 | x :: r, o, ho => by
  rw [importW, importP]
  by_cases hl : o.imps.length = 20
  ·rw [decide_eq_true hl, show decide (20 ≤ o.imps.length) = true from decide_eq_true (by omega)]
   simp only [cond_true]
   rw [show decide (stp 0 5 = 0) = false from rfl, cond_false, importW_no (show stp 0 5 ≠ 0 by decide)]
   exact AgrE.bad (show (5 : Int) ≠ 0 by decide)
  ·rw [decide_eq_false hl, show decide (20 ≤ o.imps.length) = false from decide_eq_false (by omega)]
   simp only [cond_false, show decide ((0 : Int) = 0) = true from rfl, cond_true]
   obtain ⟨h1, h2⟩ := setW_0 12 x
   by_cases h : (setP 12 x).2 = 0
   ·rw [decide_eq_true h, h1, h, h2 h, cond_true]
    exact importW_0 r _ (by simp; omega)
   ·rw [decide_eq_false h, h1, cond_false, importW_no h]
    exact AgrE.bad h
theorem includeW_0 (w : Wd) : ∀ (l : List Datum) (o : Lib'), AgrE (includeW w l o 0) (includeP w l o)
 | [], o => AgrE.refl _
 | x :: r, o => by
  rw [includeW, includeP, wordW_0]
  by_cases h : (symP x).2 = 0
  ·rw [decide_eq_true h, Bool.not_true, cond_false, cond_true]
   cases fileOf (symP x).1 w.files with
   | none => simp only; rw [includeW_no (show (6 : Int) ≠ 0 by decide)]; exact AgrE.bad (show (6 : Int) ≠ 0 by decide)
   | some t =>
    simp only
    cases hr : readR t with
    | inl f =>
     have hf := read_bad hr
     simp only
     rw [bodyW_no hf, includeW_no hf]; exact AgrE.bad hf
    | inr k =>
     simp only
     have hb := bodyW_0 k o
     by_cases h2 : (bodyL k o).2 = 0
     ·rw [decide_eq_true h2, hb.1, h2, hb.2 h2, cond_true]; exact includeW_0 w r _
     ·rw [decide_eq_false h2, hb.1, includeW_no h2, cond_false]; exact ⟨rfl, fun h3 => absurd h3 h2⟩
  ·rw [decide_eq_false h, Bool.not_false, cond_true, cond_false]; exact AgrE.bad h
mutual
theorem declW_0 (w : Wd) : ∀ (d : Datum) (o : Lib'), okO o → AgrE (declW w d o) (declD w d o)
 | .mk k n nm s l [], o, ho => by rw [declW_eq, declD_eq]; exact AgrE.refl _
 | .mk k n nm s l (h :: t), o, ho => by
  rw [declW_eq, declD_eq]
  cases !decide (k = 4) with
  | true => exact AgrE.refl _
  | false =>
   simp only [cond_false]
   cases !decide ((symP h).2 = 0) with
   | true => exact AgrE.refl _
   | false =>
    simp only [cond_false]
    cases decide ((symP h).1 = wExport) with
    | true =>
     simp only [cond_true]
     cases decide (o.name = []) with
     | true => simp only [cond_true]; rw [exportW_no (show (2 : Int) ≠ 0 by decide)]; exact AgrE.refl _
     | false => exact exportW_0 t o ho.1
    | false =>
     simp only [cond_false]
     cases decide ((symP h).1 = wImport) with
     | true => exact importW_0 t o ho.2.1
     | false =>
      simp only [cond_false]
      cases decide ((symP h).1 = wBegin) with
      | true => exact bodyW_0 t o
      | false =>
       simp only [cond_false]
       cases decide ((symP h).1 = wInclude) with
       | true => exact includeW_0 w t o
       | false =>
        simp only [cond_false]
        cases decide ((symP h).1 = wCond) with
        | true => exact condW_0 w t o ho
        | false => exact AgrE.refl _
theorem declsW_0 (w : Wd) : ∀ (l : List Datum) (o : Lib'), okO o → AgrE (declsW w l o) (declsL w l o)
 | [], o, ho => AgrE.refl _
 | d :: r, o, ho => by
  rw [declsW_cons, declsL_cons]
  have hd := declW_0 w d o ho
  by_cases h : (declD w d o).2 = 0
  ·rw [decide_eq_true h, hd.1, h, hd.2 h]
   exact declsW_0 w r _ (declD_ok w d o ho)
  ·rw [decide_eq_false h, hd.1, decide_eq_false h]; exact hd
theorem condW_0 (w : Wd) : ∀ (l : List Datum) (o : Lib'), okO o → AgrE (condW w l o) (condL w l o)
 | [], o, ho => AgrE.refl _
 | .mk k n nm s l [] :: r, o, ho => by rw [condW_cons, condL_cons]; exact AgrE.refl _
 | .mk k n nm s l (h :: t) :: r, o, ho => by
  rw [condW_cons, condL_cons]
  cases !decide (k = 4) with
  | true => exact AgrE.refl _
  | false =>
   simp only [cond_false]
   cases isElse h with
   | true => exact declsW_0 w t o ho
   | false =>
    simp only [cond_false]
    obtain ⟨h1, h2⟩ := holdsW_0 w h
    rw [h1]
    by_cases h3 : (holdsD w h).2 = 0
    ·rw [decide_eq_true h3, h2 h3]
     simp only [Bool.not_true, cond_false]
     cases (holdsD w h).1 with
     | true => exact declsW_0 w t o ho
     | false => exact condW_0 w r o ho
    ·rw [decide_eq_false h3]; exact AgrE.refl _
end
theorem c_ref2Has (l : Prs) (s : Str) (st : St) : VCalls Tryz.prog TT 50 [.lst 2 none (rows2 l), .str s] st fun r st' => r = .ret (.bool (l.any fun p => decide (p.1 = s))) ∧ st' = st := by
 refine vfun TT_ok (an := anL []) (L := [0, 1, 4, 6, 7, 8, 9]) (rs := [.tmp 4]) Tryz.func50 rfl (by kernel_rfl) rfl Tryz.ntmps50 rfl rfl (Nat.le_refl _) fun hst ha hf => ?_
 have hkl : l.length ≤ 9223372036854775807 := by
  simp only [fitL, V.fit, rows2_len] at hf; omega
 simp only [gw0, qqE, ↓reduceIte, qqA, qqL, qqD, qqM, rows2_len]
 refine vforD (σ := Nat) [0, 1, 4, 7, 8, 9] (fun x => [(0, true, .lst 2 none (rows2 l)), (1, true, .str s), (4, true, .bool false), (7, true, .lst 2 none (rows2 l)), (8, true, .int .i64 l.length), (9, true, .int .i64 x)]) (fun x => st) (fun x => l.length - x) (fun x => x ≤ l.length ∧ (l.any fun p => decide (p.1 = s)) = ((l.drop x).any fun p => decide (p.1 = s))) 0 rfl TT_ok ⟨Nat.zero_le _, rfl⟩ (wkE_refl _) rfl ?_
 rintro i ⟨hi, hI⟩
 rw [hI]
 rcases at_or_end l i hi with ⟨rfl, hd⟩ | ⟨a, hlt, hget, hdr⟩
 ·rw [hd]
  simp only [gw0, qqE, ↓reduceIte, qqA, qqL, qqD, qqM, lt_no]
  exact gives_bool rfl hst
 ·rw [hdr]
  have hg : (rows2 l).getD i [] = encF2 a := getD_map (f := encF2) hget
  simp only [gw0, qqE, ↓reduceIte, qqA, qqL, qqD, qqM, lt_yes hlt, rows2_len, hg, encF2, Int.ofNat_lt.mpr hlt, Int.toNat_natCast]
  refine iK_split (fun h => ?_) (fun h => ?_)
  ·simp only [gw0, qqE, ↓reduceIte, qqA, qqL, qqD, qqM, List.any_cons, h]
   exact gives_of (wk_refl _) (wkSt_refl _) trivial hst
  ·simp only [gw0, qqE, ↓reduceIte, qqA, qqL, qqD, qqM, Env.keep, next_i64 hlt hkl]
   refine ⟨i + 1, ⟨wkE_refl _, st, [.box [.str a.1, .str a.2]], rfl, wkSt_refl _, ?_, hst, Nat.le_refl _⟩, by omega, hlt, by rw [List.any_cons, h, Bool.false_or]⟩
   have := rows2_lt st.length l
   simp only [ltE, V.lt]
   exact ⟨⟨fun e h => (by cases h), this⟩, trivial, trivial, ⟨fun e h => (by cases h), this⟩, trivial, trivial, trivial⟩
/-- The document's walk: its text, where it is, how many nodes there were, what was wrong first. -/
def wkN (s : Str) (p n : Nat) (f : Int × Int) : Ent := .box [.str s, .int .i64 p, .int .i64 n, .int .i64 f.1, .int .i64 f.2]
theorem wkN_ok {st : St} {b p n : Nat} {s : Str} {f : Int × Int} (h : St.ok st) : St.ok (st.set b (wkN s p n f)) := by
 intro e he
 rw [List.length_set]
 rcases List.mem_or_eq_of_mem_set he with h' | rfl
 ·exact h e h'
 ·simp [wkN, Ent.lt, ltL, V.lt]
theorem at_w {st : St} {b : Nat} {s : Str} (h : b < st.length) (p n : Nat) (f : Int × Int) (l : St) : (st.set b (wkN s p n f) ++ l)[b]? = some (.box [.str s, .int .i64 p, .int .i64 n, .int .i64 f.1, .int .i64 f.2]) := get_b h
theorem at_w0 {st : St} {b : Nat} {s : Str} (h : b < st.length) (p n : Nat) (f : Int × Int) : (st.set b (wkN s p n f))[b]? = some (.box [.str s, .int .i64 p, .int .i64 n, .int .i64 f.1, .int .i64 f.2]) := List.getElem?_set_self h
theorem c_skip (s : Str) (st : St) (b p n : Nat) (f : Int × Int) (hlt : b < st.length) (hp : p ≤ s.length) (hs : s.length ≤ 6000) :
  VCalls Tryz.prog TT 68 [.ptr b 0] (st.set b (wkN s p n f)) fun r st' => r = .ret (.tup []) ∧ st' = st.set b (wkN s (s.length - (blk false (s.drop p)).length) n f) := by
 refine vfun TT_ok (an := anL []) (L := [0, 2, 3]) (rs := []) Tryz.func68 rfl (by kernel_rfl) rfl Tryz.ntmps68 rfl rfl (by simp) fun hst ha hf => ?_
 have hok : ∀ p n, St.ok (st.set b (wkN s p n f)) := fun p n => by have := wkN_ok (s := s) (b := b) (p := p) (n := n) (f := f) hst; rw [List.set_set] at this; exact this
 have h63 : s.length ≤ 9223372036854775807 := by omega
 have hend : ∀ x, x ≤ s.length → blk false (s.drop p) = s.drop x → Gives (.tup []) (st.set b (wkN s (s.length - (blk false (s.drop p)).length) n f)) (.ret (.tup [])) (st.set b (wkN s x n f)) := by
  intro x hx h
  rw [h, List.length_drop, show s.length - (s.length - x) = x by omega]
  exact gives_self (by simp [V.lt, ltL]) (hok _ _)
 simp only [gw0, qqE, ↓reduceIte, qqA, qqL, qqD, qqM]
 refine vfor (σ := Nat × Bool) [0, 2] (fun x => [(0, true, .ptr b 0), (2, true, .bool x.2)]) (fun x => st.set b (wkN s x.1 n f)) (fun x => s.length - x.1) (fun x => x.1 ≤ s.length ∧ blk false (s.drop p) = blk x.2 (s.drop x.1)) (p, false) rfl TT_ok ⟨hp, rfl⟩ rfl rfl ?_
 rintro ⟨x, note⟩ ⟨hx, hI⟩
 simp only at hx hI ⊢
 simp only [gw0, qqE, ↓reduceIte, qqA, qqL, qqD, qqM]
 refine vdraw TT_ok TT_mixed [0, 0, 0, 1, 0, 0, 0, 1, 0, 0] (by kernel_rfl) ?_
 rcases at_or_end s x hx with ⟨rfl, hd⟩ | ⟨c, hltx, hget, hdr⟩
 ·simp only [gw0, qqE, ↓reduceIte, qqA, qqL, qqD, qqM, at_w0 hlt, lt_no]
  exact hend _ (Nat.le_refl _) (by rw [hI, hd]; cases note <;> rfl)
 simp only [gw0, qqE, ↓reduceIte, qqA, qqL, qqD, qqM, at_w0 hlt, lt_yes hltx]
 refine vdraw TT_ok TT_mixed [0, 0, 0, 1, 0, 0, 0, 1, 0, 0] (by kernel_rfl) ?_
 have h10 : decide ((c.toNat : Int) = 10) = decide (c = 10) := byte_eq c 10
 have h59 : decide ((c.toNat : Int) = 59) = decide (c = 59) := byte_eq c 59
 have h32 : decide ((c.toNat : Int) = 32) = decide (c = 32) := byte_eq c 32
 have h9 : decide ((c.toNat : Int) = 9) = decide (c = 9) := byte_eq c 9
 simp only [gw0, qqE, ↓reduceIte, qqA, qqL, qqD, qqM, at_w0 hlt, getD_at hget, Int.ofNat_lt.mpr hltx, h10, h59, h32, h9]
 rw [hdr] at hI
 have hbk : ∀ b' : Bool, blk b' (c :: s.drop (x + 1)) = (match b' with | true => bif decide (c = 10) then blk false (s.drop (x + 1)) else blk true (s.drop (x + 1)) | false => bif isBlank c then blk false (s.drop (x + 1)) else bif decide (c = 59) then blk true (s.drop (x + 1)) else c :: s.drop (x + 1)) := fun b' => by cases b' <;> simp only [blk]
 rw [hbk] at hI
 refine iK_split (fun h => ?_) (fun h => ?_)
 ·have hc := of_decide_eq_true h
  have k59 : decide ((c.toNat : Int) = 59) = false := by rw [hc]; rfl
  have k10 : decide ((c.toNat : Int) = 10) = true := by rw [hc]; rfl
  have hI' : blk false (s.drop p) = blk false (s.drop (x + 1)) := by rw [hI]; subst hc; cases note <;> rfl
  simp only [gw0, qqE, ↓reduceIte, qqA, qqL, qqD, qqM, k59, at_w0 hlt, next_i64 hltx h63, k10]
  simp only [gw0, qqE, ↓reduceIte, qqA, qqL, qqD, qqM, Env.keep]
  exact ⟨(x + 1, false), rfl, by rw [List.set_set]; rfl, by dsimp only; omega, by dsimp only; omega, hI'⟩
 ·simp only [gw0, qqE, ↓reduceIte, qqA, qqL, qqD, qqM, h59]
  refine iK_split (fun h2 => ?_) (fun h2 => ?_)
  ·have hc := of_decide_eq_true h2
   have hI' : blk false (s.drop p) = blk true (s.drop (x + 1)) := by rw [hI]; subst hc; cases note <;> rfl
   simp only [gw0, qqE, ↓reduceIte, qqA, qqL, qqD, qqM, at_w0 hlt, next_i64 hltx h63]
   simp only [gw0, qqE, ↓reduceIte, qqA, qqL, qqD, qqM, Env.keep]
   exact ⟨(x + 1, true), rfl, by rw [List.set_set]; rfl, by dsimp only; omega, by dsimp only; omega, hI'⟩
  ·simp only [gw0, qqE, ↓reduceIte, qqA, qqL, qqD, qqM, h32, h9, h10, h]
   refine iK_split (fun h3 => ?_) (fun h3 => ?_)
   ·simp only [gw0, qqE, ↓reduceIte, qqA, qqL, qqD, qqM]
    refine hend x hx ?_
    rw [hI, hdr]
    revert h3
    simp only [isBlank, h, h2]
    cases note <;> cases decide (c = 32) <;> cases decide (c = 9) <;> simp
   ·simp only [gw0, qqE, ↓reduceIte, qqA, qqL, qqD, qqM, at_w0 hlt, next_i64 hltx h63]
    simp only [gw0, qqE, ↓reduceIte, qqA, qqL, qqD, qqM, Env.keep]
    refine ⟨(x + 1, note), rfl, by rw [List.set_set]; rfl, by dsimp only; omega, by dsimp only; omega, ?_⟩
    rw [hI]
    revert h3
    simp only [isBlank, h, h2]
    cases note <;> cases decide (c = 32) <;> cases decide (c = 9) <;> simp
theorem c_good (s : Str) (st : St) (b p n : Nat) (f : Int × Int) (hb : st[b]? = some (wkN s p n f)) :
  VCalls Tryz.prog TT 69 [.ptr b 0] st fun r st' => r = .ret (.bool (decide (f.1 = 0))) ∧ st' = st := by
 refine vfun TT_ok (an := anL []) (L := [0, 2]) (rs := [.tmp 2]) Tryz.func69 rfl (by kernel_rfl) rfl Tryz.ntmps69 rfl rfl (Nat.le_refl _) fun hst ha hf => ?_
 simp only [wkN] at hb
 simp only [gw0, qqE, ↓reduceIte, qqA, qqL, qqD, qqM, hb]
 exact gives_bool rfl hst
/-- The first fault is kept. -/
def keepF (f g : Int × Int) : Int × Int := if f.1 = 0 then g else f
theorem c_stop (s : Str) (st : St) (b p n : Nat) (f : Int × Int) (e q : Int) (hlt : b < st.length) :
  VCalls Tryz.prog TT 87 [.ptr b 0, .int .i64 e, .int .i64 q] (st.set b (wkN s p n f)) fun r st' => r = .ret (.tup []) ∧ st' = st.set b (wkN s p n (keepF f (e, q))) := by
 refine vfun TT_ok (an := anL []) (L := [0, 1, 2]) (rs := []) Tryz.func87 rfl (by kernel_rfl) rfl Tryz.ntmps87 rfl rfl (by simp) fun hst ha hf => ?_
 have hok : ∀ f, St.ok (st.set b (wkN s p n f)) := fun f => by have := wkN_ok (s := s) (b := b) (p := p) (n := n) (f := f) hst; rw [List.set_set] at this; exact this
 simp only [gw0, qqE, ↓reduceIte, qqA, qqL, qqD, qqM, at_w0 hlt]
 refine iK_split (fun h => ?_) (fun h => ?_)
 ·have h' := of_decide_eq_true h
  simp only [gw0, qqE, ↓reduceIte, qqA, qqL, qqD, qqM, at_w0 hlt]
  rw [List.set_set]
  simp only [keepF, if_pos h']
  exact gives_self (by simp [V.lt, ltL]) (hok (e, q))
 ·have h' := of_decide_eq_false h
  simp only [gw0, qqE, ↓reduceIte, qqA, qqL, qqD, qqM]
  simp only [keepF, if_neg h']
  exact gives_self (by simp [V.lt, ltL]) (hok f)
theorem c_count (s : Str) (st : St) (b p n : Nat) (f : Int × Int) (deep q : Int) (hlt : b < st.length) (hn : n ≤ 100000) :
  VCalls Tryz.prog TT 86 [.ptr b 0, .int .i64 deep, .int .i64 q] (st.set b (wkN s p n f)) fun r st' => r = .ret (.tup []) ∧ st' = st.set b (wkN s p (n + 1) (bif decide (2000 < n + 1) || decide (40 < deep) then keepF f (4, q) else f)) := by
 refine vfun TT_ok (an := anL []) (L := [0, 1, 2]) (rs := []) Tryz.func86 rfl (by kernel_rfl) rfl Tryz.ntmps86 rfl rfl (by simp) fun hst ha hf => ?_
 have hok : ∀ n f, St.ok (st.set b (wkN s p n f)) := fun n f => by have := wkN_ok (s := s) (b := b) (p := p) (n := n) (f := f) hst; rw [List.set_set] at this; exact this
 have hwr : IntKind.i64.wrap ((n : Int) + 1) = ((n + 1 : Nat) : Int) := by rw [wrap_i64 (by omega) (by omega)]; omega
 have hd : decide ((2000 : Int) < ((n + 1 : Nat) : Int)) = decide (2000 < n + 1) := by rw [decide_eq_decide]; omega
 have hE : (st.set b (.box [.str s, .int .i64 p, .int .i64 ((n + 1 : Nat) : Int), .int .i64 f.1, .int .i64 f.2]))[b]? = some (.box [.str s, .int .i64 p, .int .i64 ((n + 1 : Nat) : Int), .int .i64 f.1, .int .i64 f.2]) := List.getElem?_set_self hlt
 simp only [gw0, qqE, ↓reduceIte, qqA, qqL, qqD, qqM, at_w0 hlt, hwr, List.set_set, hE, hd]
 refine iK_split (fun h => ?_) (fun h => ?_)
 ·rw [h]
  simp only [gw0, qqE, ↓reduceIte, qqA, qqL, qqD, qqM]
  refine (c_stop s st b p (n + 1) f 4 q hlt).use (wkL_refl _) fun _ => ?_
  simp only [gw0, qqE, ↓reduceIte, qqA, qqL, qqD, qqM]
  exact gives_self (by simp [V.lt, ltL]) (hok _ _)
 ·rw [h]
  simp only [gw0, qqE, ↓reduceIte, qqA, qqL, qqD, qqM]
  exact gives_self (by simp [V.lt, ltL]) (hok _ _)
structure WR where
 d : Datum
 p : Nat
 n : Nat
 f : Int × Int
def zeroDt : Datum := .mk 0 0 [] 0 0 []
def wdB (q p n : Nat) : Str → WR
 | [] => ⟨zeroDt, p, n, (2, q)⟩
 | t :: r => bif decide (t = 116) || decide (t = 102) then
   (match r with
   | [] => ⟨.mk 2 (bif decide (t = 116) then 1 else 0) [] 0 0 [], p + 1, n, (0, 0)⟩
   | u :: _ => bif letterB u then ⟨zeroDt, p, n, (2, q)⟩ else ⟨.mk 2 (bif decide (t = 116) then 1 else 0) [] 0 0 [], p + 1, n, (0, 0)⟩)
  else ⟨zeroDt, p, n, (2, q)⟩
def wdA (q p n : Nat) (w : Str) : WR :=
 bif looksB w then (bif decide ((17 : Int) < w.length) then ⟨zeroDt, p, n, (3, q)⟩ else ⟨.mk 1 (numV w) [] 0 0 [], p, n, bif decide (1000000000000000 < numV w) || decide (numV w < -1000000000000000) then (3, q) else (0, 0)⟩)
 else ⟨.mk 3 0 w 0 0 [], p, n, bif decide ((20 : Int) < w.length) then (7, q) else (0, 0)⟩
mutual
def wdD (s : Str) : Nat → Int → Nat → Nat → WR
 | 0, _, p, n => ⟨zeroDt, p, n, (0, 0)⟩
 | F + 1, deep, p, n => bif decide (2000 < n + 1) || decide (40 < deep) then ⟨zeroDt, p, n + 1, (4, p)⟩
  else match s.drop p with
   | [] => ⟨zeroDt, p, n + 1, (2, p)⟩
   | c :: r => bif decide (c = 40) then wdL s F deep [] (p + 1) (n + 1)
    else bif decide (c = 39) then (bif decide (2000 < n + 2) || decide (40 < deep + 1) then ⟨zeroDt, p + 1, n + 2, (4, p)⟩
     else ⟨quoteD (wdD s F (deep + 1) (s.length - (blk false r).length) (n + 2)).d, (wdD s F (deep + 1) (s.length - (blk false r).length) (n + 2)).p, (wdD s F (deep + 1) (s.length - (blk false r).length) (n + 2)).n, (wdD s F (deep + 1) (s.length - (blk false r).length) (n + 2)).f⟩)
    else bif decide (c = 35) then wdB p (p + 1) (n + 1) r
    else bif letterB c then wdA p (p + 1 + (r.takeWhile letterB).length) (n + 1) (c :: r.takeWhile letterB)
    else ⟨zeroDt, p + 1, n + 1, (2, p)⟩
def wdL (s : Str) : Nat → Int → List Datum → Nat → Nat → WR
 | 0, _, acc, p, n => ⟨.mk 4 0 [] 0 0 acc, p, n, (0, 0)⟩
 | F + 1, deep, acc, p, n => match blk false (s.drop p) with
  | [] => ⟨.mk 4 0 [] 0 0 acc, s.length, n, (2, s.length)⟩
  | c :: r => bif decide (c = 41) then ⟨.mk 4 0 [] 0 0 acc, s.length - r.length, n, (0, 0)⟩
   else bif decide ((wdD s F (deep + 1) (s.length - (r.length + 1)) n).f.1 = 0) then
    wdL s F deep (acc ++ [(wdD s F (deep + 1) (s.length - (r.length + 1)) n).d]) (wdD s F (deep + 1) (s.length - (r.length + 1)) n).p (wdD s F (deep + 1) (s.length - (r.length + 1)) n).n
   else ⟨.mk 4 0 [] 0 0 (acc ++ [(wdD s F (deep + 1) (s.length - (r.length + 1)) n).d]), (wdD s F (deep + 1) (s.length - (r.length + 1)) n).p, (wdD s F (deep + 1) (s.length - (r.length + 1)) n).n, (wdD s F (deep + 1) (s.length - (r.length + 1)) n).f⟩
end
/-- Both tell the same. -/
def Agree (w : WR) : RR → Prop
 | .ok x p n => w = ⟨x, p, n, (0, 0)⟩
 | .err e q _ _ => w.f = (e, q) ∧ e ≠ 0
theorem agreeB (q p n : Nat) (r : Str) : Agree (wdB q p n r) (rdB q p n r) := by
 cases r with
 | nil => exact ⟨rfl, by decide⟩
 | cons t r =>
  simp only [wdB, rdB]
  cases (decide (t = 116) || decide (t = 102)) with
  | false => exact ⟨rfl, by decide⟩
  | true =>
   cases r with
   | nil => rfl
   | cons u r =>
    dsimp only
    cases letterB u with
    | true => exact ⟨rfl, by decide⟩
    | false => rfl
theorem agreeA (s : Str) (q p n : Nat) (c : UInt8) (r : Str) : Agree (wdA q (p + (r.takeWhile letterB).length) n (c :: r.takeWhile letterB)) (rdA s q p n c r) := by
 simp only [wdA, rdA, atomR]
 generalize (c :: r.takeWhile letterB) = w
 cases looksB w with
 | true =>
  simp only [cond_true]
  cases decide ((17 : Int) < w.length) with
  | true => exact ⟨rfl, by decide⟩
  | false =>
   simp only [cond_false]
   cases (decide (1000000000000000 < numV w) || decide (numV w < -1000000000000000)) with
   | true => exact ⟨rfl, by decide⟩
   | false => rfl
 | false =>
  simp only [cond_false]
  cases decide ((20 : Int) < w.length) with
  | true => exact ⟨rfl, by decide⟩
  | false => rfl
theorem agree (s : Str) : ∀ F : Nat, (∀ (deep : Int) (p n : Nat), p ≤ s.length → n ≤ 2000 → 2 * (s.length - p) < F → Agree (wdD s F deep p n) (rdD s F deep p n)) ∧ (∀ (deep : Int) (acc : List Datum) (p n : Nat), p ≤ s.length → n ≤ 2000 → 2 * (s.length - p) + 1 < F → Agree (wdL s F deep acc p n) (rdL s F deep acc p n))
 | 0 => ⟨fun _ _ _ _ _ h => by omega, fun _ _ _ _ _ _ h => by omega⟩
 | F + 1 => by
  obtain ⟨ih1, ih2⟩ := agree s F
  refine ⟨fun deep p n hp hn hF => ?_, fun deep acc p n hp hn hF => ?_⟩
  ·simp only [wdD, rdD]
   cases h0 : (decide (2000 < n + 1) || decide (40 < deep)) with
   | true => exact ⟨rfl, by decide⟩
   | false =>
    have hn1 : n + 1 ≤ 2000 := by simp at h0; omega
    simp only [cond_false]
    cases hd : s.drop p with
    | nil => exact ⟨rfl, by decide⟩
    | cons c r =>
     dsimp only
     have hl := drop_len hd
     cases decide (c = 40) with
     | true => exact ih2 deep [] (p + 1) (n + 1) (by omega) hn1 (by omega)
     | false =>
      simp only [cond_false]
      cases decide (c = 39) with
      | true =>
       simp only [cond_true]
       cases h1 : (decide (2000 < n + 2) || decide (40 < deep + 1)) with
       | true => exact ⟨rfl, by decide⟩
       | false =>
        have hn2 : n + 2 ≤ 2000 := by simp at h1; omega
        simp only [cond_false]
        have hb := blk_le r false
        have := ih1 (deep + 1) (s.length - (blk false r).length) (n + 2) (by omega) hn2 (by omega)
        generalize rdD s F (deep + 1) (s.length - (blk false r).length) (n + 2) = rr at this ⊢
        generalize wdD s F (deep + 1) (s.length - (blk false r).length) (n + 2) = w at this ⊢
        cases rr with
        | ok x p' n' => simp only [Agree, RR.quote] at this ⊢; rw [this]
        | err e q p' n' => exact this
      | false =>
       simp only [cond_false]
       cases decide (c = 35) with
       | true => exact agreeB _ _ _ _
       | false =>
        simp only [cond_false]
        cases letterB c with
        | true => exact agreeA s p (p + 1) (n + 1) c r
        | false => exact ⟨rfl, by decide⟩
  ·simp only [wdL, rdL]
   have hb := blk_le (s.drop p) false
   simp only [List.length_drop] at hb
   cases hd : blk false (s.drop p) with
   | nil => exact ⟨rfl, by decide⟩
   | cons c r =>
    dsimp only
    rw [hd] at hb
    simp only [List.length_cons] at hb
    cases decide (c = 41) with
    | true => rfl
    | false =>
     simp only [cond_false]
     have h1 := ih1 (deep + 1) (s.length - (r.length + 1)) n (by omega) hn (by omega)
     have hfar := (rd_far s F).1 (deep + 1) (s.length - (r.length + 1)) n hn
     generalize rdD s F (deep + 1) (s.length - (r.length + 1)) n = rr at h1 hfar ⊢
     generalize wdD s F (deep + 1) (s.length - (r.length + 1)) n = w at h1 ⊢
     cases rr with
     | err e q p' n' =>
      simp only [Agree] at h1
      simp only [RR.bind, Agree]
      rw [h1.1]
      simp only [decide_eq_false h1.2, cond_false]
      exact ⟨trivial, h1.2⟩
     | ok x p' n' =>
      simp only [Agree] at h1
      subst h1
      simp only [RR.far] at hfar
      simp only [RR.bind, decide_true, cond_true]
      exact ih2 deep (acc ++ [x]) p' n' hfar.2.1 hfar.2.2 (by omega)
def valW (l : Str) : Nat := numN (l.filter fun a => !decide (a = 45))
theorem looks_mem {w : Str} (h : looksB w = true) {a : UInt8} (ha : a ∈ w) : a = 45 ∨ (48 ≤ a.toNat ∧ a.toNat ≤ 57) := by
 rcases looks_inv h with ⟨r, rfl, hd, _⟩ | ⟨_, hd, _⟩
 ·rcases List.mem_cons.1 ha with rfl | ha
  ·exact .inl rfl
  ·right
   have := List.all_eq_true.1 hd a ha
   simpa using this
 ·right
  have := List.all_eq_true.1 hd a ha
  simpa using this
theorem val_next {w : Str} {i : Nat} {a : UInt8} (hget : w[i]? = some a) : valW (w.take (i + 1)) = if a = 45 then valW (w.take i) else valW (w.take i) * 10 + (a.toNat - 48) := by
 rw [take_next hget]
 unfold valW
 rw [List.filter_append]
 by_cases h : a = 45
 ·simp [h]
 ·simp [h, numN, List.foldl_append]
theorem val_lt {w : Str} (h : looksB w = true) (hl : w.length ≤ 17) (i : Nat) : valW (w.take i) < 100000000000000000 := by
 have hd : digits ((w.take i).filter fun a => !decide (a = 45)) = true := by
  unfold digits
  rw [List.all_eq_true]
  intro a ha
  obtain ⟨h1, h2⟩ := List.mem_filter.1 ha
  have := looks_mem h (List.mem_of_mem_take h1)
  simp at h2 ⊢
  rcases this with h3 | h3
  ·exact absurd h3 h2
  ·exact h3
 have hlen : ((w.take i).filter fun a => !decide (a = 45)).length ≤ 17 := by
  have h1 := List.length_filter_le (fun a => !decide (a = (45 : UInt8))) (w.take i)
  have h2 : (w.take i).length ≤ w.length := by simp; omega
  omega
 have := (parse_digits _ 0 0 hd (by decide) (by omega)).2
 have hb : (10 : Nat) ^ (0 + ((w.take i).filter fun a => !decide (a = 45)).length) ≤ 10 ^ 17 := Nat.pow_le_pow_right (by decide) (by omega)
 unfold valW numN
 omega
theorem val_end {w : Str} (h : looksB w = true) : ∃ a, w[0]? = some a ∧ numV w = if a = 45 then -(valW w : Int) else valW w := by
 rcases looks_inv h with ⟨r, rfl, hd, _⟩ | ⟨hno, hd, hne⟩
 ·refine ⟨45, rfl, ?_⟩
  have : r.filter (fun a => !decide (a = 45)) = r := List.filter_eq_self.2 fun a ha => by
   have := List.all_eq_true.1 hd a ha
   simp at this ⊢
   rintro rfl
   exact absurd this.1 (by decide)
  simp only [numV, if_true, valW]
  rw [List.filter_cons]
  simp [this]
 ·cases w with
  | nil => exact absurd rfl hne
  | cons a r =>
   have ha : ¬ a = 45 := fun e => hno r (by rw [e])
   refine ⟨a, rfl, ?_⟩
   have : (a :: r).filter (fun a => !decide (a = 45)) = a :: r := List.filter_eq_self.2 fun b hb => by
    have := List.all_eq_true.1 hd b hb
    simp at this ⊢
    rintro rfl
    exact absurd this.1 (by decide)
   rw [if_neg ha, valW, this]
   unfold numV
   split
   ·rename_i r' e; exact absurd e (hno r')
   ·rfl
end Go.Proofs.YtpllcpbhjglpaaaGreatDoor.Gx
open Nat renaming reduceEqDiff → qqE, reduceAdd → qqA, reduceLT → qqL, reduceLeDiff → qqD, reduceMul → qqM
namespace Go.Proofs.YtpllcpbhjglpaaaGreatDoor.Gx
open Go Go.Proofs.YtpllcpbhjglpaaaGreatDoor.Gw
set_option linter.unusedSimpArgs false
set_option linter.unusedVariables false
theorem c_Sym (st : St) (s : Str) : VCalls Tryz.prog TT 36 [.str s] st fun r st' => r = .ret (.agg (encD (.mk 3 0 s 0 0 []))) ∧ st' = st := by
 refine vfun TT_ok (an := anL []) (L := [0, 2]) (rs := [.cell 2 26]) Tryz.func36 rfl (by kernel_rfl) rfl Tryz.ntmps36 rfl rfl (Nat.le_refl _) fun hst ha hf => ?_
 simp only [gw0, qqE, ↓reduceIte, qqA, qqL, qqD, qqM, encD_mk]
 exact gives_of (wk_agg (wk6 ..)) (wkSt_refl _) (by simp only [V.lt]; exact encD_lt _ (.mk 3 0 s 0 0 [])) hst
theorem c_Num (st : St) (n : Int) : VCalls Tryz.prog TT 88 [.int .i64 n] st fun r st' => r = .ret (.agg (encD (.mk 1 n [] 0 0 []))) ∧ st' = st := by
 refine vfun TT_ok (an := anL []) (L := [0, 2]) (rs := [.cell 2 26]) Tryz.func88 rfl (by kernel_rfl) rfl Tryz.ntmps88 rfl rfl (Nat.le_refl _) fun hst ha hf => ?_
 simp only [gw0, qqE, ↓reduceIte, qqA, qqL, qqD, qqM, encD_mk]
 exact gives_of (wk_agg (wk6 ..)) (wkSt_refl _) (by simp only [V.lt]; exact encD_lt _ (.mk 1 n [] 0 0 [])) hst
theorem c_List (st : St) (l : List Datum) : VCalls Tryz.prog TT 37 [lstD l] st fun r st' => r = .ret (.agg (encD (.mk 4 0 [] 0 0 l))) ∧ st' = st := by
 refine vfun TT_ok (an := anL []) (L := [0, 2]) (rs := [.cell 2 26]) Tryz.func37 rfl (by kernel_rfl) rfl Tryz.ntmps37 rfl rfl (Nat.le_refl _) fun hst ha hf => ?_
 simp only [lstD]
 simp only [gw0, qqE, ↓reduceIte, qqA, qqL, qqD, qqM, encD_mk]
 have := encD_lt st.length (.mk 4 0 [] 0 0 l)
 rw [encD_mk] at this
 exact gives_of (wk_refl _) (wkSt_refl _) (by simp only [V.lt]; exact this) hst
section
variable (s : Str) (st ex : St) (b p n : Nat) (f : Int × Int) (hb : b < st.length)
include hb
theorem x_skip (hp : p ≤ s.length) (hs : s.length ≤ 6000) : VCalls Tryz.prog TT 68 [.ptr b 0] (st.set b (wkN s p n f) ++ ex) fun r st' => r = .ret (.tup []) ∧ st' = st.set b (wkN s (s.length - (blk false (s.drop p)).length) n f) ++ ex := by
 have := c_skip s (st ++ ex) b p n f (by simp; omega) hp hs
 rw [set_app hb, set_app hb] at this; exact this
theorem x_good : VCalls Tryz.prog TT 69 [.ptr b 0] (st.set b (wkN s p n f) ++ ex) fun r st' => r = .ret (.bool (decide (f.1 = 0))) ∧ st' = st.set b (wkN s p n f) ++ ex := c_good s _ b p n f (get_b hb)
theorem x_good_no (hf : f.1 ≠ 0) : VCalls Tryz.prog TT 69 [.ptr b 0] (st.set b (wkN s p n f) ++ ex) fun r st' => r = .ret (.bool false) ∧ st' = st.set b (wkN s p n f) ++ ex := by
 have := c_good s _ b p n f (get_b (ex := ex) hb)
 rw [decide_eq_false hf] at this; exact this
theorem x_good_yes (hf : f.1 = 0) : VCalls Tryz.prog TT 69 [.ptr b 0] (st.set b (wkN s p n f) ++ ex) fun r st' => r = .ret (.bool true) ∧ st' = st.set b (wkN s p n f) ++ ex := by
 have := c_good s _ b p n f (get_b (ex := ex) hb)
 rw [decide_eq_true hf] at this; exact this
theorem x_stop (e q : Int) : VCalls Tryz.prog TT 87 [.ptr b 0, .int .i64 e, .int .i64 q] (st.set b (wkN s p n f) ++ ex) fun r st' => r = .ret (.tup []) ∧ st' = st.set b (wkN s p n (keepF f (e, q))) ++ ex := by
 have := c_stop s (st ++ ex) b p n f e q (by simp; omega)
 rw [set_app hb, set_app hb] at this; exact this
theorem x_count (deep q : Int) (hn : n ≤ 100000) : VCalls Tryz.prog TT 86 [.ptr b 0, .int .i64 deep, .int .i64 q] (st.set b (wkN s p n f) ++ ex) fun r st' => r = .ret (.tup []) ∧ st' = st.set b (wkN s p (n + 1) (bif decide (2000 < n + 1) || decide (40 < deep) then keepF f (4, q) else f)) ++ ex := by
 have := c_count s (st ++ ex) b p n f deep q (by simp; omega) hn
 rw [set_app hb, set_app hb] at this; exact this
end
theorem keep0 (e q : Int) : keepF (0, 0) (e, q) = (e, q) := rfl
def IHW (s : Str) (F : Nat) : Prop := ∀ f, f < F → ∀ (deep : Int) (p n : Nat) (st ex : St) (b : Nat), b < st.length → p ≤ s.length → n ≤ 2000 → 0 ≤ deep → deep ≤ 41 → 2 * (s.length - p) < f →
 VCalls Tryz.prog TT 70 [.ptr b 0, .int .i64 deep] (st.set b (wkN s p n (0, 0)) ++ ex) fun r st' => r = .ret (.agg (encD (wdD s f deep p n).d)) ∧ st' = st.set b (wkN s (wdD s f deep p n).p (wdD s f deep p n).n (wdD s f deep p n).f) ++ ex
set_option maxHeartbeats 4000000 in
theorem c_One_of (s : Str) (hs : s.length ≤ 6000) (F : Nat) (ih : IHW s (F + 1)) (deep : Int) (p n : Nat) (st : St) (b : Nat) (hlt : b < st.length) (hp : p ≤ s.length) (hn : n ≤ 2000) (hd0 : 0 ≤ deep) (hd1 : deep ≤ 41) (hF : 2 * (s.length - p) < F + 1) :
  VCalls Tryz.prog TT 70 [.ptr b 0, .int .i64 deep] (st.set b (wkN s p n (0, 0))) fun r st' => r = .ret (.agg (encD (wdD s (F + 1) deep p n).d)) ∧ st' = st.set b (wkN s (wdD s (F + 1) deep p n).p (wdD s (F + 1) deep p n).n (wdD s (F + 1) deep p n).f) := by
 refine vfun TT_ok (an := anL []) (L := [0, 1, 4, 5, 6, 7, 8, 9, 10, 12, 260, 261, 262]) (rs := [.cell 4 26]) Tryz.func70 rfl (by kernel_rfl) rfl Tryz.ntmps70 rfl rfl (by simp) fun hst ha hf => ?_
 have h63 : s.length ≤ 9223372036854775807 := by omega
 have hok : ∀ p n f, St.ok (st.set b (wkN s p n f)) := fun p n f => by have := wkN_ok (s := s) (b := b) (p := p) (n := n) (f := f) hst; rw [List.set_set] at this; exact this
 have hret : ∀ (w : WR) v ex, wk v (.agg (encD w.d)) → Gives (.agg (encD w.d)) (st.set b (wkN s w.p w.n w.f)) (.ret v) (st.set b (wkN s w.p w.n w.f) ++ ex) := fun w v ex hw => gives_of hw (wkSt_refl _) (by simp only [V.lt]; exact encD_lt _ w.d) (hok _ _ _)
 have hz : wk (.agg zeroD) (.agg (encD zeroDt)) := wk_agg (by rw [zeroDt, encD_mk]; exact wk6 ..)
 simp only [bz22, gw0, qqE, ↓reduceIte, qqA, qqL, qqD, qqM, at_w hlt, at_w0 hlt, set_b hlt]
 refine (x_count s st _ b p n (0, 0) hlt deep p (by omega)).use (wkL_refl _) fun _ => ?_
 simp only [wdD]
 simp only [gw0, qqE, ↓reduceIte, qqA, qqL, qqD, qqM]
 cases h0 : (decide (2000 < n + 1) || decide (40 < deep)) with
 | true =>
  simp only [cond_true, keep0]
  refine (x_good_no s st _ b p (n + 1) (4, p) hlt (by simp)).use (wkL_refl _) fun _ => ?_
  simp only [bz22, gw0, qqE, ↓reduceIte, qqA, qqL, qqD, qqM, Bool.not_false]
  exact hret ⟨zeroDt, p, n + 1, (4, p)⟩ _ _ hz
 | false =>
 have hn1 : n + 1 ≤ 2000 := by simp at h0; omega
 have hdeep : deep ≤ 40 := by simp at h0; omega
 simp only [cond_false]
 refine (x_good_yes s st _ b p (n + 1) (0, 0) hlt rfl).use (wkL_refl _) fun _ => ?_
 simp only [gw0, qqE, ↓reduceIte, qqA, qqL, qqD, qqM, at_w hlt, Bool.not_true]
 rcases at_or_end s p hp with ⟨hpe, hdr⟩ | ⟨c, hltp, hget, hdr⟩
 ·have hge : decide ((s.length : Int) ≤ (p : Int)) = true := decide_eq_true (by omega)
  rw [hdr]
  simp only [gw0, qqE, ↓reduceIte, qqA, qqL, qqD, qqM, hge]
  refine (x_stop s st _ b p (n + 1) (0, 0) hlt 2 p).use (wkL_refl _) fun _ => ?_
  simp only [keep0]
  simp only [bz22, gw0, qqE, ↓reduceIte, qqA, qqL, qqD, qqM]
  exact hret ⟨zeroDt, p, n + 1, (2, p)⟩ _ _ hz
 have hge : decide ((s.length : Int) ≤ (p : Int)) = false := decide_eq_false (by omega)
 rw [hdr]
 have hlen : p + (s.drop (p + 1)).length + 1 = s.length := by simp; omega
 have h40 : decide ((c.toNat : Int) = 40) = decide (c = 40) := byte_eq c 40
 have hE : ∀ x n f, Ent.box [V.str s, V.int .i64 (x : Nat), V.int .i64 (n : Nat), V.int .i64 (Prod.fst f), V.int .i64 (Prod.snd f)] = wkN s x n f := fun _ _ _ => rfl
 simp only [gw0, qqE, ↓reduceIte, qqA, qqL, qqD, qqM, hge, at_w hlt, set_b hlt, getD_at hget, Int.ofNat_lt.mpr hltp, next_i64 hltp h63, h40]
 have hE0 : ∀ x n : Nat, Ent.box [V.str s, V.int .i64 x, V.int .i64 n, V.int .i64 0, V.int .i64 0] = wkN s x n (0, 0) := fun _ _ => rfl
 simp only [hE0]
 have ihf : IHW s F := fun f' h => ih f' (by omega)
 refine iK_split (fun h => ?_) (fun h => ?_)
 ·rw [h]
  simp only [cond_true]
  simp only [bz22, gw0, qqE, ↓reduceIte, qqA, qqL, qqD, qqM]
  refine vforT (σ := Nat × List Datum × Nat × Nat × (Int × Int)) [26] [0, 1, 4, 7] (fun x => [(0, true, .ptr b 0), (1, true, .int .i64 deep), (4, true, .ptr st.length 0), (7, true, .ptr (st.length + 1) 0)]) (fun x => st.set b (wkN s x.2.2.1 x.2.2.2.1 x.2.2.2.2) ++ [.box zeroD, .box [.int .i64 4, .int .i64 0, .str [], .int .i64 0, .int .i64 0, .lst 6 (some (st.length + 2)) (x.2.1.map encD)], .tip 26 x.2.1.length]) (fun x => x.1) (fun x => (x.2.2.2.2 = (0, 0) ∧ x.2.1.length ≤ x.2.2.1 ∧ x.2.2.1 ≤ s.length ∧ x.2.2.2.1 ≤ 2000 ∧ 2 * (s.length - x.2.2.1) + 1 < x.1 ∧ x.1 ≤ F ∧ wdL s F deep [] (p + 1) (n + 1) = wdL s x.1 deep x.2.1 x.2.2.1 x.2.2.2.1) ∨ (x.2.2.2.2.1 ≠ 0 ∧ wdL s F deep [] (p + 1) (n + 1) = ⟨.mk 4 0 [] 0 0 x.2.1, x.2.2.1, x.2.2.2.1, x.2.2.2.2⟩)) (F, [], p + 1, n + 1, (0, 0)) rfl TT_ok (.inl ⟨rfl, Nat.zero_le _, by dsimp only; omega, by dsimp only; omega, by dsimp only; omega, Nat.le_refl _, rfl⟩) ?_ ?_ ?_
  ·exact wkE_refl _
  ·refine ⟨st.set b (wkN s (p + 1) (n + 1) (0, 0)) ++ [.box zeroD, .box [.int .i64 4, .int .i64 0, .str [], .int .i64 0, .int .i64 0, .lst 6 (some (st.length + 2)) []]], ?_, by simp only [bz35, gwL, tips]⟩
   refine (wkSt_refl _).append (wkSt_cons (Ent.wkp_refl _) (wkSt_cons (Ent.wk_box ?_) wkSt_nil))
   exact wkL_cons (wk_refl _) (wkL_cons (wk_refl _) (wkL_cons (wk_refl _) (wkL_cons (wk_refl _) (wkL_cons (wk_refl _) (wkL_cons (wk_tip _ (by simp [Tips])) wkL_nil)))))
  rintro ⟨f, acc, p1, n1, flt⟩ hI
  simp only at hI ⊢
  simp only [gw0, qqE, ↓reduceIte, qqA, qqL, qqD, qqM]
  have hd : ∀ (w : WR), wdL s F deep [] (p + 1) (n + 1) = w → w.d = .mk 4 0 [] 0 0 acc → Gives (.agg (encD (wdL s F deep [] (p + 1) (n + 1)).d)) (st.set b (wkN s (wdL s F deep [] (p + 1) (n + 1)).p (wdL s F deep [] (p + 1) (n + 1)).n (wdL s F deep [] (p + 1) (n + 1)).f)) (.ret (.agg [.int .i64 4, .int .i64 0, .str [], .int .i64 0, .int .i64 0, .lst 6 (some (st.length + 2)) (acc.map encD)])) (st.set b (wkN s w.p w.n w.f) ++ [.box [.int .i64 4, .int .i64 0, .str [], .int .i64 0, .int .i64 0, .lst 6 (some (st.length + 2)) (acc.map encD)], .box [.int .i64 4, .int .i64 0, .str [], .int .i64 0, .int .i64 0, .lst 6 (some (st.length + 2)) (acc.map encD)], .tip 26 acc.length]) := by
   rintro w rfl hw
   refine hret _ _ _ (wk_agg ?_)
   rw [hw, encD_mk]
   exact wkL_cons (wk_refl _) (wkL_cons (wk_refl _) (wkL_cons (wk_refl _) (wkL_cons (wk_refl _) (wkL_cons (wk_refl _) (wkL_cons (wk_tok _ _ _) wkL_nil)))))
  rcases hI with ⟨rfl, hacc, hp1, hn1', hf2, hfF, hI⟩ | ⟨hbad, hI⟩
  ·refine (x_good_yes s st _ b p1 n1 (0, 0) hlt rfl).use (wkL_refl _) fun _ => ?_
   simp only [gw0, qqE, ↓reduceIte, qqA, qqL, qqD, qqM]
   refine (x_skip s st _ b p1 n1 (0, 0) hlt hp1 hs).use (wkL_refl _) fun _ => ?_
   cases f with
   | zero => omega
   | succ f =>
   simp only [wdL] at hI
   have hble := blk_le (s.drop p1) false
   have hbd := blk_drop (s.drop p1) false
   simp only [List.length_drop] at hble hbd
   rw [List.drop_drop] at hbd
   generalize hl : blk false (s.drop p1) = l at hble hbd hI ⊢
   simp only [gw0, qqE, ↓reduceIte, qqA, qqL, qqD, qqM]
   refine vdraw TT_ok TT_mixed [0, 0, 0, 1, 0, 0, 0, 1, 0, 0] (by kernel_rfl) ?_
   cases l with
   | nil =>
    have hge2 : decide ((s.length : Int) ≤ ((s.length - 0 : Nat) : Int)) = true := decide_eq_true (by omega)
    simp only [List.length_nil]
    simp only [gw0, qqE, ↓reduceIte, qqA, qqL, qqD, qqM, at_w hlt, hge2]
    refine (x_stop s st _ b (s.length - 0) n1 (0, 0) hlt 2 ((s.length - 0 : Nat) : Int)).use (wkL_refl _) fun _ => ?_
    simp only [keep0, Nat.sub_zero]
    simp only [gw0, qqE, ↓reduceIte, qqA, qqL, qqD, qqM, Env.keep]
    refine ⟨(f, acc, s.length, n1, (2, (s.length : Int))), ⟨wkE_refl _, st.set b (wkN s s.length n1 (2, (s.length : Int))) ++ [.box zeroD, .box [.int .i64 4, .int .i64 0, .str [], .int .i64 0, .int .i64 0, .lst 6 (some (st.length + 2)) (acc.map encD)], .tip 26 acc.length], [], by simp, wkSt_refl _, ?_, ?_, by simp⟩, by dsimp only; omega, .inr ⟨by simp, hI⟩⟩
    ·simp only [ltE, V.lt, gwL, List.length_set]
     exact ⟨by omega, by trivial, by omega, by omega, trivial⟩
    ·refine ok_app (hok _ _ _) ⟨by simp [Ent.lt, ltL, V.lt, zeroD], ⟨?_, trivial, trivial⟩⟩
     simp only [Ent.lt, ltL, V.lt, true_and, and_true]
     exact ⟨fun e he => by cases he; simp, ltRows_map fun d _ => encD_lt _ _⟩
   | cons c1 r =>
    simp only [List.length_cons] at hble hbd hI ⊢
    have hlen1 : s.length - (r.length + 1) < s.length := by omega
    have hge2 : decide ((s.length : Int) ≤ ((s.length - (r.length + 1) : Nat) : Int)) = false := decide_eq_false (by omega)
    have hdr1 : s.drop (s.length - (r.length + 1)) = c1 :: r := by rw [hbd]; congr 1; omega
    generalize hq1 : s.length - (r.length + 1) = q1 at hlen1 hge2 hdr1 hI ⊢
    have hget1 : s[q1]? = some c1 := by
     have := congrArg (fun l => l[0]?) hdr1
     simpa using this
    simp only [gw0, qqE, ↓reduceIte, qqA, qqL, qqD, qqM, at_w hlt, hge2]
    refine vdraw TT_ok TT_mixed [0, 0, 0, 1, 0, 0, 0, 1, 0, 0] (by kernel_rfl) ?_
    have h41 : decide ((c1.toNat : Int) = 41) = decide (c1 = 41) := byte_eq c1 41
    simp only [gw0, qqE, ↓reduceIte, qqA, qqL, qqD, qqM, at_w hlt, getD_at hget1, Int.ofNat_lt.mpr hlen1, h41]
    refine iK_split (fun h2 => ?_) (fun h2 => ?_)
    ·rw [h2] at hI
     simp only [cond_true] at hI
     simp only [bz22, gw0, qqE, ↓reduceIte, qqA, qqL, qqD, qqM, at_w hlt, next_i64 hlen1 h63, set_b hlt, zeroD]
     simp only [hE0]
     have hq2 : s.length - r.length = q1 + 1 := by omega
     rw [hq2] at hI
     exact hd _ hI rfl
    ·rw [h2] at hI
     simp only [cond_false] at hI
     have hwr : IntKind.i64.wrap (deep + 1) = deep + 1 := wrap_i64 (by omega) (by omega)
     have hc := ihf f (by omega) (deep + 1) q1 n1 st [.box zeroD, .box [.int .i64 4, .int .i64 0, .str [], .int .i64 0, .int .i64 0, .lst 6 (some (st.length + 2)) (acc.map encD)], .tip 26 acc.length] b hlt (by omega) hn1' (by omega) (by omega) (by omega)
     have hag := (agree s f).1 (deep + 1) q1 n1 (by omega) hn1' (by omega)
     have hfar := (rd_far s f).1 (deep + 1) q1 n1 hn1'
     generalize wdD s f (deep + 1) q1 n1 = w at hc hI hag
     obtain ⟨wd, wp, wn, wf⟩ := w
     simp only at hc hI hag
     simp only [gw0, qqE, ↓reduceIte, qqA, qqL, qqD, qqM]
     refine vstageT TT_ok TT_mixed (σ := Unit) [st.set b (wkN s q1 n1 (0, 0)) ++ [.box zeroD, .box [.int .i64 4, .int .i64 0, .str [], .int .i64 0, .int .i64 0, .lst 6 (some (st.length + 2)) (acc.map encD)], .tip 26 acc.length], st.set b (wkN s wp wn wf) ++ [.box zeroD, .box [.int .i64 4, .int .i64 0, .str [], .int .i64 0, .int .i64 0, .lst 6 (some (st.length + 2)) (acc.map encD)], .tip 26 acc.length]] [0, 3, 0, 0, 0, 4, 0, 2, 0, 2] [0, 1, 2, 3, 4, 5, 6, 7, 8, 9] [] [] [0, 1, 4, 7] (fun _x => [(0, true, .ptr b 0), (1, true, .int .i64 deep), (4, true, .ptr st.length 0), (7, true, .ptr (st.length + 1) 0)]) (fun _x => st.set b (wkN s wp wn wf) ++ [.box zeroD, .box [.int .i64 4, .int .i64 0, .str [], .int .i64 0, .int .i64 0, .lst 6 (some (st.length + 2)) (acc.map encD ++ [encD wd])], .tip 26 (acc.length + 1)]) (fun _x => True) rfl (by kernel_rfl) ?_ ?_
     ·simp only [gw2, qqE, ↓reduceIte, qqA, qqL, qqD, qqM, ite_self, at_k, at_k0, hwr, List.length_set]
      refine eK3_loud hc (wkL_refl _) (by simp) (by simp) ?_
      simp only [bz18, gw2, qqE, ↓reduceIte, qqA, qqL, qqD, qqM, ite_self, List.length_map]
      exact ⟨by omega, rfl, rfl, (), rfl, rfl, trivial⟩
     ·rintro - -
      simp only [gw0, qqE, ↓reduceIte, qqA, qqL, qqD, qqM, Env.keep]
      refine ⟨(f, acc ++ [wd], wp, wn, wf), ⟨wkE_refl _, st.set b (wkN s wp wn wf) ++ [.box zeroD, .box [.int .i64 4, .int .i64 0, .str [], .int .i64 0, .int .i64 0, .lst 6 (some (st.length + 2)) ((acc ++ [wd]).map encD)], .tip 26 (acc ++ [wd]).length], [], by simp, wkSt_refl _, ?_, ?_, by simp⟩, by dsimp only; omega, ?_⟩
      ·simp only [ltE, V.lt, gwL, List.length_set]
       exact ⟨by omega, by trivial, by omega, by omega, trivial⟩
      ·refine ok_app (hok _ _ _) ⟨by simp [Ent.lt, ltL, V.lt, zeroD], ⟨?_, trivial, trivial⟩⟩
       simp only [Ent.lt, ltL, V.lt, true_and, and_true]
       exact ⟨fun e he => by cases he; simp, ltRows_map fun d _ => encD_lt _ _⟩
      ·by_cases hw0 : wf.1 = 0
       ·rw [hw0] at hI
        simp only [decide_true, cond_true] at hI
        left
        cases hrr : rdD s f (deep + 1) q1 n1 with
        | err e q _ _ =>
         rw [hrr] at hag
         simp only [Agree] at hag
         exact absurd (by rw [hag.1] at hw0; exact hw0) hag.2
        | ok x p' n' =>
         rw [hrr] at hag hfar
         simp only [Agree, WR.mk.injEq] at hag
         simp only [RR.far] at hfar
         obtain ⟨rfl, rfl, rfl, rfl⟩ := hag
         exact ⟨rfl, by simp; omega, hfar.2.1, hfar.2.2, by dsimp only; omega, by dsimp only; omega, hI⟩
       ·rw [decide_eq_false hw0] at hI
        exact .inr ⟨hw0, hI⟩
  ·refine (x_good_no s st _ b p1 n1 flt hlt hbad).use (wkL_refl _) fun _ => ?_
   simp only [bz22, gw0, qqE, ↓reduceIte, qqA, qqL, qqD, qqM, zeroD]
   exact hd _ hI rfl
 rw [h]
 have h39 : decide ((c.toNat : Int) = 39) = decide (c = 39) := byte_eq c 39
 simp only [gw0, qqE, ↓reduceIte, qqA, qqL, qqD, qqM, h39]
 try simp only [cond_false]
 clear h
 refine iK_split (fun h => ?_) (fun h => ?_)
 ·rw [h]
  try simp only [cond_true]
  have hwr : IntKind.i64.wrap (deep + 1) = deep + 1 := wrap_i64 (by omega) (by omega)
  simp only [gw0, qqE, ↓reduceIte, qqA, qqL, qqD, qqM, hwr]
  refine (x_count s st _ b (p + 1) (n + 1) (0, 0) hlt (deep + 1) p (by omega)).use (wkL_refl _) fun _ => ?_
  simp only [gw0, qqE, ↓reduceIte, qqA, qqL, qqD, qqM]
  cases h1 : (decide (2000 < n + 2) || decide (40 < deep + 1)) with
  | true =>
   simp only [cond_true, keep0]
   refine (x_good_no s st _ b (p + 1) (n + 2) (4, p) hlt (by simp)).use (wkL_refl _) fun _ => ?_
   simp only [bz22, gw0, qqE, ↓reduceIte, qqA, qqL, qqD, qqM, Bool.not_false]
   exact hret ⟨zeroDt, p + 1, n + 2, (4, p)⟩ _ _ hz
  | false =>
   have hn2 : n + 2 ≤ 2000 := by simp at h1; omega
   simp only [cond_false]
   refine (x_good_yes s st _ b (p + 1) (n + 2) (0, 0) hlt rfl).use (wkL_refl _) fun _ => ?_
   simp only [gw0, qqE, ↓reduceIte, qqA, qqL, qqD, qqM, Bool.not_true]
   refine (x_skip s st _ b (p + 1) (n + 2) (0, 0) hlt (by omega) hs).use (wkL_refl _) fun _ => ?_
   have hbl := blk_le (s.drop (p + 1)) false
   simp only [List.length_drop] at hbl
   generalize hq : s.length - (blk false (s.drop (p + 1))).length = p2
   simp only [gw0, qqE, ↓reduceIte, qqA, qqL, qqD, qqM]
   refine (c_Sym _ [113, 117, 111, 116, 101]).use (wkL_refl _) fun _ => ?_
   simp only [gw0, qqE, ↓reduceIte, qqA, qqL, qqD, qqM, hwr]
   refine (ih F (by omega) (deep + 1) p2 (n + 2) st _ b hlt (by omega) hn2 (by omega) (by omega) (by omega)).use (wkL_refl _) fun _ => ?_
   generalize wdD s F (deep + 1) p2 (n + 2) = w
   simp only [bz24, gw0, qqE, ↓reduceIte, qqA, qqL, qqD, qqM]
   refine (c_List _ [.mk 3 0 quoteS 0 0 [], w.d]).use (wkL_refl _) fun _ => ?_
   simp only [bz18, gw0, qqE, ↓reduceIte, qqA, qqL, qqD, qqM]
   exact hret ⟨quoteD w.d, w.p, w.n, w.f⟩ _ _ (wk_refl _)
 rw [h]
 have h35 : decide ((c.toNat : Int) = 35) = decide (c = 35) := byte_eq c 35
 simp only [gw0, qqE, ↓reduceIte, qqA, qqL, qqD, qqM, h35]
 try simp only [cond_false]
 clear h
 refine iK_split (fun h => ?_) (fun h => ?_)
 ·rw [h]
  try simp only [cond_true]
  simp only [gw0, qqE, ↓reduceIte, qqA, qqL, qqD, qqM, at_w hlt, next_i64 (show p + 1 < s.length + 1 by omega) (show s.length + 1 ≤ 9223372036854775807 by omega)]
  refine vdraw TT_ok TT_mixed [0, 0, 0, 0, 1, 0, 0, 0, 0, 0, 0, 1, 0, 0, 0, 1, 0, 0, 0, 0, 0, 0, 1, 0, 0, 0, 1, 0, 0, 0, 0, 0, 0, 0, 0, 0, 1, 0, 0, 0, 0, 0, 0, 1, 0, 0, 0, 0, 0, 0] (by kernel_rfl) ?_
  rcases at_or_end s (p + 1) (by omega) with ⟨hpe, hdr2⟩ | ⟨t, hltt, hgett, hdr2⟩
  ·have hle : decide (((p + 2 : Nat) : Int) ≤ (s.length : Int)) = false := decide_eq_false (by omega)
   rw [hdr2]
   simp only [wdB]
   simp only [gw0, qqE, ↓reduceIte, qqA, qqL, qqD, qqM, at_w hlt, hle, Bool.false_and]
   refine eK_free (fun st => c_Letter st (s.getD (p + 2) 0)) (wkL_refl _) ?_
   simp only [gw0, qqE, ↓reduceIte, qqA, qqL, qqD, qqM]
   refine (x_stop s st _ b (p + 1) (n + 1) (0, 0) hlt 2 p).use (wkL_refl _) fun _ => ?_
   simp only [keep0]
   simp only [bz22, gw0, qqE, ↓reduceIte, qqA, qqL, qqD, qqM]
   exact hret ⟨zeroDt, p + 1, n + 1, (2, p)⟩ _ _ hz
  ·have e1 : decide ((t.toNat : Int) = 116) = decide (t = 116) := byte_eq t 116
   have e2 : decide ((t.toNat : Int) = 102) = decide (t = 102) := byte_eq t 102
   have hle : decide (((p + 2 : Nat) : Int) ≤ (s.length : Int)) = true := decide_eq_true (by omega)
   have hsub : IntKind.i64.wrap (((p + 2 : Nat) : Int) - 1) = ((p + 1 : Nat) : Int) := by rw [wrap_i64 (by omega) (by omega)]; omega
   rw [hdr2]
   simp only [wdB]
   simp only [gw0, qqE, ↓reduceIte, qqA, qqL, qqD, qqM, at_w hlt, hle, getD_at hgett, Int.ofNat_lt.mpr hltt, e1, e2]
   refine ⟨fun hg => ?_, ?_⟩
   ·simp only [Bool.and_eq_true, Bool.not_eq_true', decide_eq_false_iff_not] at hg
    omega
   refine eK_free (fun st => c_Letter st (s.getD (p + 2) 0)) (wkL_refl _) ?_
   simp only [gw0, qqE, ↓reduceIte, qqA, qqL, qqD, qqM]
   cases h2 : (decide (t = 116) || decide (t = 102)) with
   | false =>
    simp only [gw0, qqE, ↓reduceIte, qqA, qqL, qqD, qqM, Bool.false_and]
    refine (x_stop s st _ b (p + 1) (n + 1) (0, 0) hlt 2 p).use (wkL_refl _) fun _ => ?_
    simp only [keep0]
    simp only [bz22, gw0, qqE, ↓reduceIte, qqA, qqL, qqD, qqM]
    exact hret ⟨zeroDt, p + 1, n + 1, (2, p)⟩ _ _ hz
   | true =>
    simp only [cond_true]
    rcases at_or_end s (p + 2) (by omega) with ⟨hpe, hdr3⟩ | ⟨u, hltu, hgetu, hdr3⟩
    ·have heq : decide (((p + 2 : Nat) : Int) = (s.length : Int)) = true := decide_eq_true (by omega)
     rw [heq, hdr3]
     simp only [gw0, qqE, ↓reduceIte, qqA, qqL, qqD, qqM, Bool.true_and, Bool.true_or]
     simp only [gw0, qqE, ↓reduceIte, qqA, qqL, qqD, qqM, at_w hlt, set_b hlt]
     simp only [hE0]
     simp only [gw0, qqE, ↓reduceIte, qqA, qqL, qqD, qqM, at_w hlt, hsub, getD_at hgett, Int.ofNat_lt.mpr hltt, e1]
     refine iK_split (fun h5 => ?_) (fun h5 => ?_)
     ·rw [h5]
      simp only [bz22, gw0, qqE, ↓reduceIte, qqA, qqL, qqD, qqM]
      exact hret ⟨.mk 2 1 [] 0 0 [], p + 1 + 1, n + 1, (0, 0)⟩ _ _ (wk_agg (by rw [encD_mk]; exact wk6 ..))
     ·rw [h5]
      simp only [bz22, gw0, qqE, ↓reduceIte, qqA, qqL, qqD, qqM]
      exact hret ⟨.mk 2 0 [] 0 0 [], p + 1 + 1, n + 1, (0, 0)⟩ _ _ (wk_agg (by rw [encD_mk]; exact wk6 ..))
    ·have heq : decide (((p + 2 : Nat) : Int) = (s.length : Int)) = false := decide_eq_false (by omega)
     rw [heq, hdr3, getD_at hgetu]
     dsimp only
     cases h4 : letterB u with
     | true =>
      simp only [gw0, qqE, ↓reduceIte, qqA, qqL, qqD, qqM, Bool.true_and, Bool.false_or, Bool.not_true]
      refine (x_stop s st _ b (p + 1) (n + 1) (0, 0) hlt 2 p).use (wkL_refl _) fun _ => ?_
      simp only [keep0]
      simp only [bz22, gw0, qqE, ↓reduceIte, qqA, qqL, qqD, qqM]
      exact hret ⟨zeroDt, p + 1, n + 1, (2, p)⟩ _ _ hz
     | false =>
      simp only [gw0, qqE, ↓reduceIte, qqA, qqL, qqD, qqM, Bool.true_and, Bool.false_or, Bool.not_false]
      simp only [gw0, qqE, ↓reduceIte, qqA, qqL, qqD, qqM, at_w hlt, set_b hlt]
      simp only [hE0]
      simp only [gw0, qqE, ↓reduceIte, qqA, qqL, qqD, qqM, at_w hlt, hsub, getD_at hgett, Int.ofNat_lt.mpr hltt, e1]
      refine iK_split (fun h5 => ?_) (fun h5 => ?_)
      ·rw [h5]
       simp only [bz22, gw0, qqE, ↓reduceIte, qqA, qqL, qqD, qqM]
       exact hret ⟨.mk 2 1 [] 0 0 [], p + 1 + 1, n + 1, (0, 0)⟩ _ _ (wk_agg (by rw [encD_mk]; exact wk6 ..))
      ·rw [h5]
       simp only [bz22, gw0, qqE, ↓reduceIte, qqA, qqL, qqD, qqM]
       exact hret ⟨.mk 2 0 [] 0 0 [], p + 1 + 1, n + 1, (0, 0)⟩ _ _ (wk_agg (by rw [encD_mk]; exact wk6 ..))
 rw [h]
 simp only [gw0, qqE, ↓reduceIte, qqA, qqL, qqD, qqM]
 try simp only [cond_false]
 clear h
 refine (c_Letter _ c).use (wkL_refl _) fun _ => ?_
 simp only [gw0, qqE, ↓reduceIte, qqA, qqL, qqD, qqM]
 cases hlc : letterB c with
 | false =>
  simp only [gw0, qqE, ↓reduceIte, qqA, qqL, qqD, qqM, Bool.not_false]
  try simp only [cond_false]
  refine (x_stop s st _ b (p + 1) (n + 1) (0, 0) hlt 2 p).use (wkL_refl _) fun _ => ?_
  simp only [keep0]
  simp only [bz22, gw0, qqE, ↓reduceIte, qqA, qqL, qqD, qqM]
  exact hret ⟨zeroDt, p + 1, n + 1, (2, p)⟩ _ _ hz
 | true =>
  simp only [gw0, qqE, ↓reduceIte, qqA, qqL, qqD, qqM, Bool.not_true]
  try simp only [cond_true]
  refine vfor (σ := Nat) [0, 1, 4, 5] (fun y => [(0, true, .ptr b 0), (1, true, .int .i64 deep), (4, true, .ptr st.length 0), (5, true, .int .i64 p)]) (fun y => st.set b (wkN s y (n + 1) (0, 0)) ++ [.box zeroD]) (fun y => s.length - y) (fun y => p + 1 ≤ y ∧ y ≤ s.length ∧ y + ((s.drop y).takeWhile letterB).length = p + 1 + ((s.drop (p + 1)).takeWhile letterB).length) (p + 1) rfl TT_ok ⟨Nat.le_refl _, by omega, rfl⟩ rfl rfl ?_
  rintro y ⟨hy1, hy2, hy3⟩
  simp only [gw0, qqE, ↓reduceIte, qqA, qqL, qqD, qqM]
  refine vdraw TT_ok TT_mixed [0, 0, 0, 1, 0, 0, 0, 1, 0, 0, 0, 0, 0, 0, 1, 0, 0, 0, 1, 0, 0, 0] (by kernel_rfl) ?_
  rcases at_or_end s y hy2 with ⟨hye, hdry⟩ | ⟨u, hlty, hgety, hdry⟩
  ·have hlt1 : decide ((y : Int) < (s.length : Int)) = false := decide_eq_false (by omega)
   simp only [gw0, qqE, ↓reduceIte, qqA, qqL, qqD, qqM, at_w hlt, hlt1]
   refine eK_free (fun st => c_Letter st (s.getD y 0)) (wkL_refl _) ?_
   simp only [gw0, qqE, ↓reduceIte, qqA, qqL, qqD, qqM]
   have hyE : y = p + 1 + ((s.drop (p + 1)).takeWhile letterB).length := by rw [hdry] at hy3; simpa using hy3
   refine vdraw TT_ok TT_mixed [0, 0, 0, 1, 0, 0, 0, 0, 1, 0, 0] (by kernel_rfl) ?_
   have hsl := word_slice hdr
   rw [← hyE] at hsl
   have hwl : (c :: (s.drop (p + 1)).takeWhile letterB).length ≤ 6000 := by have := takeWhile_le (l := s.drop (p + 1)); simp only [List.length_cons]; omega
   have hyE2 : p + (1 + ((s.drop (p + 1)).takeWhile letterB).length) = y := by omega
   rw [hyE2]
   simp only [gw0, qqE, ↓reduceIte, qqA, qqL, qqD, qqM, at_w hlt, Int.toNat_natCast, hsl]
   refine ⟨by omega, ?_⟩
   generalize hw : c :: (s.drop (p + 1)).takeWhile letterB = w at hwl
   refine (c_Looks _ w).use (wkL_refl _) fun _ => ?_
   simp only [wdA]
   simp only [gw0, qqE, ↓reduceIte, qqA, qqL, qqD, qqM]
   cases hlo : looksB w with
   | false =>
    simp only [gw0, qqE, ↓reduceIte, qqA, qqL, qqD, qqM, Bool.not_false]
    try simp only [cond_false]
    refine iK_split (fun h5 => ?_) (fun h5 => ?_)
    ·rw [h5]
     simp only [gw0, qqE, ↓reduceIte, qqA, qqL, qqD, qqM]
     refine (x_stop s st _ b y (n + 1) (0, 0) hlt 7 p).use (wkL_refl _) fun _ => ?_
     simp only [keep0, cond_true]
     simp only [gw0, qqE, ↓reduceIte, qqA, qqL, qqD, qqM]
     refine (c_Sym _ w).use (wkL_refl _) fun _ => ?_
     simp only [bz18, gw0, qqE, ↓reduceIte, qqA, qqL, qqD, qqM, zeroD]
     exact hret ⟨.mk 3 0 w 0 0 [], y, n + 1, (7, p)⟩ _ _ (wk_refl _)
    ·rw [h5]
     simp only [gw0, qqE, ↓reduceIte, qqA, qqL, qqD, qqM]
     refine (c_Sym _ w).use (wkL_refl _) fun _ => ?_
     try simp only [cond_false]
     simp only [bz18, gw0, qqE, ↓reduceIte, qqA, qqL, qqD, qqM, zeroD]
     exact hret ⟨.mk 3 0 w 0 0 [], y, n + 1, (0, 0)⟩ _ _ (wk_refl _)
   | true =>
    simp only [gw0, qqE, ↓reduceIte, qqA, qqL, qqD, qqM, Bool.not_true]
    try simp only [cond_true]
    refine iK_split (fun h5 => ?_) (fun h5 => ?_)
    ·rw [h5]
     simp only [gw0, qqE, ↓reduceIte, qqA, qqL, qqD, qqM]
     refine (x_stop s st _ b y (n + 1) (0, 0) hlt 3 p).use (wkL_refl _) fun _ => ?_
     simp only [keep0, cond_true]
     simp only [bz22, gw0, qqE, ↓reduceIte, qqA, qqL, qqD, qqM, zeroD]
     exact hret ⟨zeroDt, y, n + 1, (3, p)⟩ _ _ hz
    ·rw [h5]
     simp only [gw0, qqE, ↓reduceIte, qqA, qqL, qqD, qqM, convV, Nat.lt_irrefl]
     have h17 : w.length ≤ 17 := by simp at h5; omega
     have hbl : (byteRows w).length = w.length := by simp [byteRows]
     obtain ⟨a0, ha0, hnv⟩ := val_end hlo
     have hlw := val_lt hlo h17
     refine vfor (σ := Nat) [0, 4, 5, 9, 10, 260, 261, 262] (fun i => [(0, true, .ptr b 0), (4, true, .ptr st.length 0), (5, true, .int .i64 p), (9, true, .str w), (10, true, .int .i64 (valW (w.take i))), (260, true, .lst 1 none (byteRows w)), (261, true, .int .i64 (byteRows w).length), (262, true, .int .i64 i)]) (fun i => st.set b (wkN s y (n + 1) (0, 0)) ++ [.box zeroD]) (fun i => w.length - i) (fun i => i ≤ w.length) 0 rfl TT_ok (Nat.zero_le _) rfl rfl ?_
     rintro i hi
     rcases at_or_end w i hi with ⟨rfl, hdw⟩ | ⟨a, hlti, hgeti, hdw⟩
     ·rw [hbl]
      simp only [gw0, qqE, ↓reduceIte, qqA, qqL, qqD, qqM, lt_no]
      have hpos : (0 : Int) < (w.length : Int) := by have := (List.getElem?_eq_some_iff.1 ha0).1; omega
      have hvl := hlw w.length
      rw [List.take_length] at hvl ⊢
      have a45 : decide ((a0.toNat : Int) = 45) = decide (a0 = 45) := byte_eq a0 45
      have hb : decide ((1000000000000000 : Int) < (valW w : Int)) = (decide (1000000000000000 < numV w) || decide (numV w < -1000000000000000)) := by
       rw [hnv]
       by_cases h45 : a0 = 45
       ·simp only [h45, if_true]
        by_cases hv : (1000000000000000 : Int) < (valW w : Int)
        ·simp [hv]
        ·simp only [decide_eq_false hv]
         first | (simp; done) | (simp; omega)
       ·simp only [h45, if_false]
        by_cases hv : (1000000000000000 : Int) < (valW w : Int)
        ·simp [hv]
        ·simp only [decide_eq_false hv]
         first | (simp; done) | (simp; omega)
      have hneg : IntKind.i64.wrap (0 - (valW w : Int)) = -(valW w : Int) := by rw [wrap_i64 (by omega) (by omega)]; omega
      rw [hb]
      refine iK_split (fun h6 => ?_) (fun h6 => ?_)
      ·rw [h6]
       simp only [gw0, qqE, ↓reduceIte, qqA, qqL, qqD, qqM]
       refine (x_stop s st _ b y (n + 1) (0, 0) hlt 3 p).use (wkL_refl _) fun _ => ?_
       simp only [keep0, cond_true]
       simp only [gw0, qqE, ↓reduceIte, qqA, qqL, qqD, qqM, getD_at ha0, Int.toNat_zero, hpos, a45, Int.le_refl]
       refine iK_split (fun h7 => ?_) (fun h7 => ?_)
       ·simp only [gw0, qqE, ↓reduceIte, qqA, qqL, qqD, qqM, hneg]
        refine (c_Num _ (-(valW w : Int))).use (wkL_refl _) fun _ => ?_
        simp only [bz18, gw0, qqE, ↓reduceIte, qqA, qqL, qqD, qqM, zeroD]
        rw [if_pos (of_decide_eq_true h7)] at hnv
        rw [hnv]
        exact hret ⟨.mk 1 (-(valW w : Int)) [] 0 0 [], y, n + 1, (3, p)⟩ _ _ (wk_refl _)
       ·simp only [gw0, qqE, ↓reduceIte, qqA, qqL, qqD, qqM]
        refine (c_Num _ (valW w : Int)).use (wkL_refl _) fun _ => ?_
        simp only [bz18, gw0, qqE, ↓reduceIte, qqA, qqL, qqD, qqM, zeroD]
        rw [if_neg (of_decide_eq_false h7)] at hnv
        rw [hnv]
        exact hret ⟨.mk 1 (valW w : Int) [] 0 0 [], y, n + 1, (3, p)⟩ _ _ (wk_refl _)
      ·rw [h6]
       try simp only [cond_false]
       simp only [gw0, qqE, ↓reduceIte, qqA, qqL, qqD, qqM, getD_at ha0, Int.toNat_zero, hpos, a45, Int.le_refl]
       refine iK_split (fun h7 => ?_) (fun h7 => ?_)
       ·simp only [gw0, qqE, ↓reduceIte, qqA, qqL, qqD, qqM, hneg]
        refine (c_Num _ (-(valW w : Int))).use (wkL_refl _) fun _ => ?_
        simp only [bz18, gw0, qqE, ↓reduceIte, qqA, qqL, qqD, qqM, zeroD]
        rw [if_pos (of_decide_eq_true h7)] at hnv
        rw [hnv]
        exact hret ⟨.mk 1 (-(valW w : Int)) [] 0 0 [], y, n + 1, (0, 0)⟩ _ _ (wk_refl _)
       ·simp only [gw0, qqE, ↓reduceIte, qqA, qqL, qqD, qqM]
        refine (c_Num _ (valW w : Int)).use (wkL_refl _) fun _ => ?_
        simp only [bz18, gw0, qqE, ↓reduceIte, qqA, qqL, qqD, qqM, zeroD]
        rw [if_neg (of_decide_eq_false h7)] at hnv
        rw [hnv]
        exact hret ⟨.mk 1 (valW w : Int) [] 0 0 [], y, n + 1, (0, 0)⟩ _ _ (wk_refl _)
     ·rw [hbl]
      have hg : (byteRows w).getD i [] = [V.int .u8 a.toNat] := getD_map hgeti
      simp only [gw0, qqE, ↓reduceIte, qqA, qqL, qqD, qqM, lt_yes hlti, hbl, hg, Int.ofNat_lt.mpr hlti]
      have a45 : decide ((a.toNat : Int) = 45) = decide (a = 45) := byte_eq a 45
      rw [a45]
      have hvn := val_next hgeti
      have hvi := hlw i
      refine iK_split (fun h6 => ?_) (fun h6 => ?_)
      ·have hne : ¬ a = 45 := by simpa using h6
       rw [if_neg hne] at hvn
       have hdg := (looks_mem hlo (List.mem_of_getElem? hgeti)).resolve_left hne
       have hm : IntKind.i64.wrap (10 * (valW (w.take i) : Int)) = 10 * (valW (w.take i) : Int) := wrap_i64 (by omega) (by omega)
       have hs8 : IntKind.u8.wrap ((a.toNat : Int) - 48) = ((a.toNat - 48 : Nat) : Int) := by simp only [IntKind.wrap, IntKind.bits, IntKind.signed]; simp; omega
       have hcv : IntKind.i64.wrap ((a.toNat - 48 : Nat) : Int) = ((a.toNat - 48 : Nat) : Int) := wrap_i64 (by omega) (by omega)
       have hadd : IntKind.i64.wrap (10 * (valW (w.take i) : Int) + ((a.toNat - 48 : Nat) : Int)) = (valW (w.take (i + 1)) : Int) := by rw [wrap_i64 (by omega) (by omega), hvn]; omega
       simp only [gw0, qqE, ↓reduceIte, qqA, qqL, qqD, qqM, hm, hs8, convV, hcv, hadd]
       simp only [gw0, qqE, ↓reduceIte, qqA, qqL, qqD, qqM, Env.keep]
       rw [next_i64 hlti (by omega)]
       exact ⟨i + 1, rfl, by omega, by omega⟩
      ·have hne : a = 45 := by simpa using h6
       rw [if_pos hne] at hvn
       simp only [gw0, qqE, ↓reduceIte, qqA, qqL, qqD, qqM]
       simp only [gw0, qqE, ↓reduceIte, qqA, qqL, qqD, qqM, Env.keep]
       rw [hvn.symm, next_i64 hlti (by omega)]
       exact ⟨i + 1, rfl, by omega, by omega⟩
  ·simp only [gw0, qqE, ↓reduceIte, qqA, qqL, qqD, qqM, at_w hlt, lt_yes hlty, getD_at hgety, Int.ofNat_lt.mpr hlty]
   refine eK_free (fun st => c_Letter st u) (wkL_refl _) ?_
   simp only [gw0, qqE, ↓reduceIte, qqA, qqL, qqD, qqM]
   refine iK_split (fun h4 => ?_) (fun h4 => ?_)
   ·simp only [gw0, qqE, ↓reduceIte, qqA, qqL, qqD, qqM, at_w hlt, set_b hlt, next_i64 hlty h63]
    simp only [gw0, qqE, ↓reduceIte, qqA, qqL, qqD, qqM, Env.keep]
    simp only [hE0]
    rw [hdry, List.takeWhile_cons_of_pos h4, List.length_cons] at hy3
    exact ⟨y + 1, rfl, by omega, by omega, by omega, by omega⟩
   ·simp only [gw0, qqE, ↓reduceIte, qqA, qqL, qqD, qqM]
    have hyE : y = p + 1 + ((s.drop (p + 1)).takeWhile letterB).length := by rw [hdry, List.takeWhile_cons_of_neg (by simp [h4]), List.length_nil] at hy3; simpa using hy3
    refine vdraw TT_ok TT_mixed [0, 0, 0, 1, 0, 0, 0, 0, 1, 0, 0] (by kernel_rfl) ?_
    have hsl := word_slice hdr
    rw [← hyE] at hsl
    have hwl : (c :: (s.drop (p + 1)).takeWhile letterB).length ≤ 6000 := by have := takeWhile_le (l := s.drop (p + 1)); simp only [List.length_cons]; omega
    have hyE2 : p + (1 + ((s.drop (p + 1)).takeWhile letterB).length) = y := by omega
    rw [hyE2]
    simp only [gw0, qqE, ↓reduceIte, qqA, qqL, qqD, qqM, at_w hlt, Int.toNat_natCast, hsl]
    refine ⟨by omega, ?_⟩
    generalize hw : c :: (s.drop (p + 1)).takeWhile letterB = w at hwl
    refine (c_Looks _ w).use (wkL_refl _) fun _ => ?_
    simp only [wdA]
    simp only [gw0, qqE, ↓reduceIte, qqA, qqL, qqD, qqM]
    cases hlo : looksB w with
    | false =>
     simp only [gw0, qqE, ↓reduceIte, qqA, qqL, qqD, qqM, Bool.not_false]
     try simp only [cond_false]
     refine iK_split (fun h5 => ?_) (fun h5 => ?_)
     ·rw [h5]
      simp only [gw0, qqE, ↓reduceIte, qqA, qqL, qqD, qqM]
      refine (x_stop s st _ b y (n + 1) (0, 0) hlt 7 p).use (wkL_refl _) fun _ => ?_
      simp only [keep0, cond_true]
      simp only [gw0, qqE, ↓reduceIte, qqA, qqL, qqD, qqM]
      refine (c_Sym _ w).use (wkL_refl _) fun _ => ?_
      simp only [bz18, gw0, qqE, ↓reduceIte, qqA, qqL, qqD, qqM, zeroD]
      exact hret ⟨.mk 3 0 w 0 0 [], y, n + 1, (7, p)⟩ _ _ (wk_refl _)
     ·rw [h5]
      simp only [gw0, qqE, ↓reduceIte, qqA, qqL, qqD, qqM]
      refine (c_Sym _ w).use (wkL_refl _) fun _ => ?_
      try simp only [cond_false]
      simp only [bz18, gw0, qqE, ↓reduceIte, qqA, qqL, qqD, qqM, zeroD]
      exact hret ⟨.mk 3 0 w 0 0 [], y, n + 1, (0, 0)⟩ _ _ (wk_refl _)
    | true =>
     simp only [gw0, qqE, ↓reduceIte, qqA, qqL, qqD, qqM, Bool.not_true]
     try simp only [cond_true]
     refine iK_split (fun h5 => ?_) (fun h5 => ?_)
     ·rw [h5]
      simp only [gw0, qqE, ↓reduceIte, qqA, qqL, qqD, qqM]
      refine (x_stop s st _ b y (n + 1) (0, 0) hlt 3 p).use (wkL_refl _) fun _ => ?_
      simp only [keep0, cond_true]
      simp only [bz22, gw0, qqE, ↓reduceIte, qqA, qqL, qqD, qqM, zeroD]
      exact hret ⟨zeroDt, y, n + 1, (3, p)⟩ _ _ hz
     ·rw [h5]
      simp only [gw0, qqE, ↓reduceIte, qqA, qqL, qqD, qqM, convV, Nat.lt_irrefl]
      have h17 : w.length ≤ 17 := by simp at h5; omega
      have hbl : (byteRows w).length = w.length := by simp [byteRows]
      obtain ⟨a0, ha0, hnv⟩ := val_end hlo
      have hlw := val_lt hlo h17
      refine vfor (σ := Nat) [0, 4, 5, 9, 10, 260, 261, 262] (fun i => [(0, true, .ptr b 0), (4, true, .ptr st.length 0), (5, true, .int .i64 p), (9, true, .str w), (10, true, .int .i64 (valW (w.take i))), (260, true, .lst 1 none (byteRows w)), (261, true, .int .i64 (byteRows w).length), (262, true, .int .i64 i)]) (fun i => st.set b (wkN s y (n + 1) (0, 0)) ++ [.box zeroD]) (fun i => w.length - i) (fun i => i ≤ w.length) 0 rfl TT_ok (Nat.zero_le _) rfl rfl ?_
      rintro i hi
      rcases at_or_end w i hi with ⟨rfl, hdw⟩ | ⟨a, hlti, hgeti, hdw⟩
      ·rw [hbl]
       simp only [gw0, qqE, ↓reduceIte, qqA, qqL, qqD, qqM, lt_no]
       have hpos : (0 : Int) < (w.length : Int) := by have := (List.getElem?_eq_some_iff.1 ha0).1; omega
       have hvl := hlw w.length
       rw [List.take_length] at hvl ⊢
       have a45 : decide ((a0.toNat : Int) = 45) = decide (a0 = 45) := byte_eq a0 45
       have hb : decide ((1000000000000000 : Int) < (valW w : Int)) = (decide (1000000000000000 < numV w) || decide (numV w < -1000000000000000)) := by
        rw [hnv]
        by_cases h45 : a0 = 45
        ·simp only [h45, if_true]
         by_cases hv : (1000000000000000 : Int) < (valW w : Int)
         ·simp [hv]
         ·simp only [decide_eq_false hv]
          first | (simp; done) | (simp; omega)
        ·simp only [h45, if_false]
         by_cases hv : (1000000000000000 : Int) < (valW w : Int)
         ·simp [hv]
         ·simp only [decide_eq_false hv]
          first | (simp; done) | (simp; omega)
       have hneg : IntKind.i64.wrap (0 - (valW w : Int)) = -(valW w : Int) := by rw [wrap_i64 (by omega) (by omega)]; omega
       rw [hb]
       refine iK_split (fun h6 => ?_) (fun h6 => ?_)
       ·rw [h6]
        simp only [gw0, qqE, ↓reduceIte, qqA, qqL, qqD, qqM]
        refine (x_stop s st _ b y (n + 1) (0, 0) hlt 3 p).use (wkL_refl _) fun _ => ?_
        simp only [keep0, cond_true]
        simp only [gw0, qqE, ↓reduceIte, qqA, qqL, qqD, qqM, getD_at ha0, Int.toNat_zero, hpos, a45, Int.le_refl]
        refine iK_split (fun h7 => ?_) (fun h7 => ?_)
        ·simp only [gw0, qqE, ↓reduceIte, qqA, qqL, qqD, qqM, hneg]
         refine (c_Num _ (-(valW w : Int))).use (wkL_refl _) fun _ => ?_
         simp only [bz18, gw0, qqE, ↓reduceIte, qqA, qqL, qqD, qqM, zeroD]
         rw [if_pos (of_decide_eq_true h7)] at hnv
         rw [hnv]
         exact hret ⟨.mk 1 (-(valW w : Int)) [] 0 0 [], y, n + 1, (3, p)⟩ _ _ (wk_refl _)
        ·simp only [gw0, qqE, ↓reduceIte, qqA, qqL, qqD, qqM]
         refine (c_Num _ (valW w : Int)).use (wkL_refl _) fun _ => ?_
         simp only [bz18, gw0, qqE, ↓reduceIte, qqA, qqL, qqD, qqM, zeroD]
         rw [if_neg (of_decide_eq_false h7)] at hnv
         rw [hnv]
         exact hret ⟨.mk 1 (valW w : Int) [] 0 0 [], y, n + 1, (3, p)⟩ _ _ (wk_refl _)
       ·rw [h6]
        try simp only [cond_false]
        simp only [gw0, qqE, ↓reduceIte, qqA, qqL, qqD, qqM, getD_at ha0, Int.toNat_zero, hpos, a45, Int.le_refl]
        refine iK_split (fun h7 => ?_) (fun h7 => ?_)
        ·simp only [gw0, qqE, ↓reduceIte, qqA, qqL, qqD, qqM, hneg]
         refine (c_Num _ (-(valW w : Int))).use (wkL_refl _) fun _ => ?_
         simp only [bz18, gw0, qqE, ↓reduceIte, qqA, qqL, qqD, qqM, zeroD]
         rw [if_pos (of_decide_eq_true h7)] at hnv
         rw [hnv]
         exact hret ⟨.mk 1 (-(valW w : Int)) [] 0 0 [], y, n + 1, (0, 0)⟩ _ _ (wk_refl _)
        ·simp only [gw0, qqE, ↓reduceIte, qqA, qqL, qqD, qqM]
         refine (c_Num _ (valW w : Int)).use (wkL_refl _) fun _ => ?_
         simp only [bz18, gw0, qqE, ↓reduceIte, qqA, qqL, qqD, qqM, zeroD]
         rw [if_neg (of_decide_eq_false h7)] at hnv
         rw [hnv]
         exact hret ⟨.mk 1 (valW w : Int) [] 0 0 [], y, n + 1, (0, 0)⟩ _ _ (wk_refl _)
      ·rw [hbl]
       have hg : (byteRows w).getD i [] = [V.int .u8 a.toNat] := getD_map hgeti
       simp only [gw0, qqE, ↓reduceIte, qqA, qqL, qqD, qqM, lt_yes hlti, hbl, hg, Int.ofNat_lt.mpr hlti]
       have a45 : decide ((a.toNat : Int) = 45) = decide (a = 45) := byte_eq a 45
       rw [a45]
       have hvn := val_next hgeti
       have hvi := hlw i
       refine iK_split (fun h6 => ?_) (fun h6 => ?_)
       ·have hne : ¬ a = 45 := by simpa using h6
        rw [if_neg hne] at hvn
        have hdg := (looks_mem hlo (List.mem_of_getElem? hgeti)).resolve_left hne
        have hm : IntKind.i64.wrap (10 * (valW (w.take i) : Int)) = 10 * (valW (w.take i) : Int) := wrap_i64 (by omega) (by omega)
        have hs8 : IntKind.u8.wrap ((a.toNat : Int) - 48) = ((a.toNat - 48 : Nat) : Int) := by simp only [IntKind.wrap, IntKind.bits, IntKind.signed]; simp; omega
        have hcv : IntKind.i64.wrap ((a.toNat - 48 : Nat) : Int) = ((a.toNat - 48 : Nat) : Int) := wrap_i64 (by omega) (by omega)
        have hadd : IntKind.i64.wrap (10 * (valW (w.take i) : Int) + ((a.toNat - 48 : Nat) : Int)) = (valW (w.take (i + 1)) : Int) := by rw [wrap_i64 (by omega) (by omega), hvn]; omega
        simp only [gw0, qqE, ↓reduceIte, qqA, qqL, qqD, qqM, hm, hs8, convV, hcv, hadd]
        simp only [gw0, qqE, ↓reduceIte, qqA, qqL, qqD, qqM, Env.keep]
        rw [next_i64 hlti (by omega)]
        exact ⟨i + 1, rfl, by omega, by omega⟩
       ·have hne : a = 45 := by simpa using h6
        rw [if_pos hne] at hvn
        simp only [gw0, qqE, ↓reduceIte, qqA, qqL, qqD, qqM]
        simp only [gw0, qqE, ↓reduceIte, qqA, qqL, qqD, qqM, Env.keep]
        rw [hvn.symm, next_i64 hlti (by omega)]
        exact ⟨i + 1, rfl, by omega, by omega⟩
end Go.Proofs.YtpllcpbhjglpaaaGreatDoor.Gx
namespace Go.Proofs.YtpllcpbhjglpaaaGreatDoor.Gx
open Go Go.Proofs.YtpllcpbhjglpaaaGreatDoor.Gw
set_option linter.unusedSimpArgs false
set_option linter.unusedVariables false
theorem c_One (s : Str) (hs : s.length ≤ 6000) : ∀ F, IHW s F
 | 0 => fun f h => by omega
 | F + 1 => fun f h deep p n st ex b h1 h2 h3 h4 h5 h6 => by
  rcases Nat.lt_or_ge f F with hl | hl
  ·exact c_One s hs F f hl deep p n st ex b h1 h2 h3 h4 h5 h6
  ·have : f = F := by omega
   subst this
   cases f with
   | zero => omega
   | succ f =>
    have := c_One_of s hs f (c_One s hs (f + 1)) deep p n (st ++ ex) b (by simp; omega) h2 h3 h4 h5 h6
    rw [set_app h1, set_app h1] at this
    exact this
theorem wd_le (s : Str) : ∀ F : Nat, (∀ (deep : Int) (p n : Nat), p ≤ s.length → (wdD s F deep p n).p ≤ s.length) ∧ (∀ (deep : Int) (acc : List Datum) (p n : Nat), p ≤ s.length → (wdL s F deep acc p n).p ≤ s.length)
 | 0 => ⟨fun _ _ _ h => h, fun _ _ _ _ h => h⟩
 | F + 1 => by
  obtain ⟨ih1, ih2⟩ := wd_le s F
  refine ⟨fun deep p n hp => ?_, fun deep acc p n hp => ?_⟩
  ·simp only [wdD]
   cases (decide (2000 < n + 1) || decide (40 < deep)) with
   | true => exact hp
   | false =>
    simp only [cond_false]
    cases hd : s.drop p with
    | nil => exact hp
    | cons c r =>
     dsimp only
     have hl := drop_len hd
     cases decide (c = 40) with
     | true => exact ih2 deep [] (p + 1) (n + 1) (by omega)
     | false =>
      simp only [cond_false]
      cases decide (c = 39) with
      | true =>
       simp only [cond_true]
       cases (decide (2000 < n + 2) || decide (40 < deep + 1)) with
       | true => show p + 1 ≤ s.length; omega
       | false => exact ih1 (deep + 1) _ (n + 2) (by omega)
      | false =>
       simp only [cond_false]
       cases decide (c = 35) with
       | true =>
        simp only [cond_true]
        cases r with
        | nil => show p + 1 ≤ s.length; omega
        | cons t r =>
         simp only [List.length_cons] at hl
         simp only [wdB]
         cases (decide (t = 116) || decide (t = 102)) with
         | false => show p + 1 ≤ s.length; omega
         | true =>
          simp only [cond_true]
          cases r with
          | nil => show p + 1 + 1 ≤ s.length; omega
          | cons u r =>
           dsimp only
           cases letterB u with
           | true => show p + 1 ≤ s.length; omega
           | false => show p + 1 + 1 ≤ s.length; omega
       | false =>
        simp only [cond_false]
        cases letterB c with
        | false => show p + 1 ≤ s.length; omega
        | true =>
         simp only [cond_true]
         have := takeWhile_le (l := r)
         have hw : (wdA p (p + 1 + (r.takeWhile letterB).length) (n + 1) (c :: r.takeWhile letterB)).p = p + 1 + (r.takeWhile letterB).length := by
          unfold wdA
          cases looksB (c :: r.takeWhile letterB) with
          | false => rfl
          | true =>
           simp only [cond_true]
           cases decide ((17 : Int) < (c :: r.takeWhile letterB).length) <;> rfl
         rw [hw]
         omega
  ·simp only [wdL]
   have hb := blk_le (s.drop p) false
   simp only [List.length_drop] at hb
   cases hd : blk false (s.drop p) with
   | nil => exact Nat.le_refl _
   | cons c r =>
    dsimp only
    rw [hd] at hb
    simp only [List.length_cons] at hb
    cases decide (c = 41) with
    | true => show s.length - r.length ≤ s.length; omega
    | false =>
     simp only [cond_false]
     have h1 := ih1 (deep + 1) (s.length - (r.length + 1)) n (by omega)
     cases decide ((wdD s F (deep + 1) (s.length - (r.length + 1)) n).f.1 = 0) with
     | true => exact ih2 deep _ _ _ h1
     | false => exact h1
section
variable (s : Str) (st ex : St) (A : Ent) (p n : Nat) (f : Int × Int)
theorem conv_1 (X e : Ent) : (st ++ [A, X]).set (st.length + 1) e ++ ex = st ++ (A :: e :: ex) := by
 rw [List.set_append_right _ _ (by omega)]; simp
theorem z_skip (hp : p ≤ s.length) (hs : s.length ≤ 6000) : VCalls Tryz.prog TT 68 [.ptr (st.length + 1) 0] (st ++ (A :: wkN s p n f :: ex)) fun r st' => r = .ret (.tup []) ∧ st' = st ++ (A :: wkN s (s.length - (blk false (s.drop p)).length) n f :: ex) := by
 have := x_skip s (st ++ [A, A]) ex (st.length + 1) p n f (by simp) hp hs
 rw [conv_1, conv_1] at this; exact this
theorem z_good : VCalls Tryz.prog TT 69 [.ptr (st.length + 1) 0] (st ++ (A :: wkN s p n f :: ex)) fun r st' => r = .ret (.bool (decide (f.1 = 0))) ∧ st' = st ++ (A :: wkN s p n f :: ex) := by
 have := x_good s (st ++ [A, A]) ex (st.length + 1) p n f (by simp)
 rw [conv_1] at this; exact this
theorem z_One (hs : s.length ≤ 6000) (F : Nat) (hp : p ≤ s.length) (hn : n ≤ 2000) (hF : 2 * (s.length - p) < F) : VCalls Tryz.prog TT 70 [.ptr (st.length + 1) 0, .int .i64 1] (st ++ (A :: wkN s p n (0, 0) :: ex)) fun r st' => r = .ret (.agg (encD (wdD s F 1 p n).d)) ∧ st' = st ++ (A :: wkN s (wdD s F 1 p n).p (wdD s F 1 p n).n (wdD s F 1 p n).f :: ex) := by
 have := c_One s hs (F + 1) F (by omega) 1 p n (st ++ [A, A]) ex (st.length + 1) (by simp) hp hn (by omega) (by omega) hF
 rw [conv_1, conv_1] at this; exact this
end
end Go.Proofs.YtpllcpbhjglpaaaGreatDoor.Gx
namespace Go.Proofs.YtpllcpbhjglpaaaGreatDoor.Gx
open Go Go.Proofs.YtpllcpbhjglpaaaGreatDoor.Gw
open Nat renaming reduceEqDiff → qqE, reduceAdd → qqA, reduceLT → qqL, reduceLeDiff → qqD, reduceMul → qqM
set_option linter.unusedSimpArgs false
set_option linter.unusedVariables false
theorem z_yes (s : Str) (st ex : St) (A : Ent) (p n : Nat) (f : Int × Int) (hf : f.1 = 0) : VCalls Tryz.prog TT 69 [.ptr (st.length + 1) 0] (st ++ (A :: wkN s p n f :: ex)) fun r st' => r = .ret (.bool true) ∧ st' = st ++ (A :: wkN s p n f :: ex) := by
 have := z_good s st ex A p n f
 rw [decide_eq_true hf] at this; exact this
theorem z_no (s : Str) (st ex : St) (A : Ent) (p n : Nat) (f : Int × Int) (hf : f.1 ≠ 0) : VCalls Tryz.prog TT 69 [.ptr (st.length + 1) 0] (st ++ (A :: wkN s p n f :: ex)) fun r st' => r = .ret (.bool false) ∧ st' = st ++ (A :: wkN s p n f :: ex) := by
 have := z_good s st ex A p n f
 rw [decide_eq_false hf] at this; exact this
theorem bz34 : type_of% @List.map_append.{0,0} ∧ type_of% @List.map_cons.{0,0} ∧ type_of% @List.map_nil.{0,0} := ⟨@List.map_append.{0,0}, @List.map_cons.{0,0}, @List.map_nil.{0,0}⟩
set_option maxHeartbeats 4000000 in
theorem c_refRead (s : Str) (st : St) : VCalls Tryz.prog TT 53 [.str s] st fun r st' => r = .ret (readV (readR s)) ∧ st' = st := by
 refine vfun TT_ok (an := anL []) (L := [0, 2, 3, 4, 5]) (rs := [.tmp 2, .cell 3 40]) Tryz.func53 rfl (by kernel_rfl) rfl Tryz.ntmps53 rfl rfl (Nat.le_refl _) fun hst ha hf => ?_
 simp only [gw0, qqE, ↓reduceIte, qqA, qqL, qqD, qqM]
 refine iK_split (fun h => ?_) (fun h => ?_)
 ·simp only [gw0, qqE, ↓reduceIte, qqA, qqL, qqD, qqM]
  simp only [readR, h, cond_true, readV, fltV]
  refine gives_of (wk_tup (wkL_cons (wk_nils _) (wkL_cons (wk_refl _) wkL_nil))) (wkSt_refl _) ?_ hst
  exact readV_lt _ (.inl (4, 0))
 have hs : s.length ≤ 6000 := by simp at h; omega
 have h63 : s.length ≤ 9223372036854775807 := by omega
 simp only [gw0, qqE, ↓reduceIte, qqA, qqL, qqD, qqM]
 refine (z_skip s st [] _ 0 0 (0, 0) (Nat.zero_le _) hs).use (wkL_refl _) fun _ => ?_
 have hr0 : readR s = rdTop s (2 * s.length + 3) [] (s.length - (blk false s).length) 0 := by simp only [readR, h, cond_false]
 rw [hr0]
 simp only [List.drop_zero]
 have hb0 := blk_le s false
 generalize hp0 : s.length - (blk false s).length = p0
 have hp0' : p0 ≤ s.length := by omega
 generalize hR : rdTop s (2 * s.length + 3) [] p0 0 = R
 simp only [gw0, qqE, ↓reduceIte, qqA, qqL, qqD, qqM]
 refine vforT (σ := Nat × List Datum × Nat × Nat × (Int × Int)) [26] [0, 3, 4, 5] (fun x => [(0, true, .str s), (3, true, .ptr st.length 0), (4, true, .ptr (st.length + 1) 0), (5, true, .lst 6 (some (st.length + 2)) (x.2.1.map encD))]) (fun x => st ++ [.box [.int .i64 0, .int .i64 0], wkN s x.2.2.1 x.2.2.2.1 x.2.2.2.2, .tip 26 x.2.1.length]) (fun x => x.1) (fun x => (x.2.2.2.2 = (0, 0) ∧ x.2.1.length ≤ x.2.2.1 ∧ x.2.2.1 ≤ s.length ∧ x.2.2.2.1 ≤ 2000 ∧ 2 * (s.length - x.2.2.1) + 1 < x.1 ∧ R = rdTop s x.1 x.2.1 x.2.2.1 x.2.2.2.1) ∨ (x.2.2.2.2.1 ≠ 0 ∧ x.2.2.1 ≤ s.length ∧ R = .inl x.2.2.2.2)) (2 * s.length + 3, [], p0, 0, (0, 0)) rfl TT_ok (.inl ⟨rfl, Nat.zero_le _, hp0', Nat.zero_le _, by dsimp only; omega, hR.symm⟩) ?_ ?_ ?_
 ·exact wkE_cons (wk_refl _) (wkE_cons (wk_refl _) (wkE_cons (wk_refl _) (wkE_cons (wk_tip _ (by simp [Tips])) wkE_nil)))
 ·exact ⟨st ++ [.box [.int .i64 0, .int .i64 0], wkN s p0 0 (0, 0)], wkSt_refl _, by simp only [bz35, gwL, tips]⟩
 rintro ⟨f, acc, p, n, flt⟩ hI
 simp only at hI ⊢
 simp only [gw0, qqE, ↓reduceIte, qqA, qqL, qqD, qqM]
 rcases hI with ⟨rfl, hacc, hp, hn, hf2, hI⟩ | ⟨hbad, hp, hI⟩
 ·refine (z_yes s st _ _ p n (0, 0) rfl).use (wkL_refl _) fun _ => ?_
  simp only [gw0, qqE, ↓reduceIte, qqA, qqL, qqD, qqM, wkN]
  cases f with
  | zero => omega
  | succ f =>
  simp only [rdTop] at hI
  rcases at_or_end s p hp with ⟨rfl, hdr⟩ | ⟨c, hltp, hget, hdr⟩
  ·rw [hdr] at hI
   simp only [gw0, qqE, ↓reduceIte, qqA, qqL, qqD, qqM, lt_no]
   refine (z_yes s st _ _ s.length n (0, 0) rfl).use (wkL_refl _) fun _ => ?_
   simp only [gw0, qqE, ↓reduceIte, qqA, qqL, qqD, qqM, Bool.not_true]
   rw [hI]
   have := readV_lt st.length (.inr acc)
   refine gives_of (wk_tup (wkL_cons (wk_tok _ _ _) (wkL_cons (wk_refl _) wkL_nil))) (wkSt_refl _) this hst
  ·rw [hdr] at hI
   dsimp only at hI
   simp only [gw0, qqE, ↓reduceIte, qqA, qqL, qqD, qqM, lt_yes hltp]
   have hag := (agree s f).1 1 p n hp hn (by omega)
   have hfar := (rd_far s f).1 1 p n hn
   have hwl := (wd_le s f).1 1 p n hp
   refine (z_One s st _ _ p n hs f hp hn (by omega)).use (wkL_refl _) fun _ => ?_
   generalize wdD s f 1 p n = w at hag hwl
   obtain ⟨wd, wp, wn, wf⟩ := w
   simp only at hag hwl ⊢
   simp only [bz25, gw0, qqE, ↓reduceIte, qqA, qqL, qqD, qqM, wkN]
   refine ⟨by omega, ?_⟩
   refine (z_skip s st _ _ wp wn wf hwl hs).use (wkL_refl _) fun _ => ?_
   have hb2 := blk_le (s.drop wp) false
   simp only [List.length_drop] at hb2
   generalize hq : s.length - (blk false (s.drop wp)).length = q
   simp only [gw0, qqE, ↓reduceIte, qqA, qqL, qqD, qqM, Env.keep]
   refine ⟨(f, acc ++ [wd], q, wn, wf), ⟨?_, st ++ [.box [.int .i64 0, .int .i64 0], wkN s q wn wf, .tip 26 (acc ++ [wd]).length], [], ?_, wkSt_refl _, ?_, ?_, by simp⟩, by dsimp only; omega, ?_⟩
   ·simp only [bz34]
    exact wkE_refl _
   ·simp
   ·simp only [ltE, V.lt, gwL]
    exact ⟨trivial, by omega, by omega, ⟨fun e he => by cases he; omega, ltRows_map fun d _ => encD_lt _ _⟩, trivial⟩
   ·refine ok_app hst ⟨by simp [Ent.lt, ltL, V.lt], ⟨by simp [wkN, Ent.lt, ltL, V.lt], trivial, trivial⟩⟩
   ·by_cases hw0 : wf.1 = 0
    ·left
     cases hrr : rdD s f 1 p n with
     | err e q _ _ =>
      rw [hrr] at hag
      simp only [Agree] at hag
      exact absurd (by rw [hag.1] at hw0; exact hw0) hag.2
     | ok x p' n' =>
      rw [hrr] at hag hfar hI
      simp only [Agree, WR.mk.injEq] at hag
      simp only [RR.far] at hfar
      obtain ⟨rfl, rfl, rfl, rfl⟩ := hag
      dsimp only at hI
      rw [hq] at hI
      exact ⟨rfl, by simp; omega, by dsimp only; omega, hfar.2.2, by dsimp only; omega, hI⟩
    ·right
     cases hrr : rdD s f 1 p n with
     | err e q _ _ =>
      rw [hrr] at hag hI
      simp only [Agree] at hag
      refine ⟨hw0, ?_, ?_⟩
      ·dsimp only; omega
      ·rw [hI]; dsimp only; rw [hag.1]
     | ok x p' n' =>
      rw [hrr] at hag
      simp only [Agree, WR.mk.injEq] at hag
      exact absurd (by rw [hag.2.2.2]) hw0
 ·refine (z_no s st _ _ p n flt hbad).use (wkL_refl _) fun _ => ?_
  simp only [gw0, qqE, ↓reduceIte, qqA, qqL, qqD, qqM, wkN]
  refine (z_no s st _ _ p n flt hbad).use (wkL_refl _) fun _ => ?_
  simp only [gw0, qqE, ↓reduceIte, qqA, qqL, qqD, qqM, Bool.not_false, wkN]
  refine vdraw TT_ok TT_mixed [0, 0, 0, 1, 0, 2] (by kernel_rfl) ?_
  simp only [gw0, qqE, ↓reduceIte, qqA, qqL, qqD, qqM, wkN]
  rw [hI]
  have := readV_lt st.length (.inl flt)
  exact gives_of (wk_tup (wkL_cons (wk_nils _) (wkL_cons (wk_refl _) wkL_nil))) (wkSt_refl _) this hst
end Go.Proofs.YtpllcpbhjglpaaaGreatDoor.Gx
