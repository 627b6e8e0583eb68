/- The document's reading: blanks, counts, stops. The document's reading: what it comes to, whatever it is; beside what a text's data are. What a fold over a number's letters gives. The document's reading: the walk over a datum. The document's Read. The document's Read. TextReads. What a row needs: how what comes in is read. How what comes in for TextReads is read. The row of the law TextReads, whatever comes in: it answers true, and what came in reads as it did. -/
import Derived.Test.YtbnkfcjmcjiahaaDoorZR8
import Derived.WalkKit
import Derived.ProofKit
import Derived.OpenShut
import Derived.ShutString
import Derived.ChangeOld
import Derived.Below
import Derived.SizedLaws
import Derived.Carry
import Derived.JoinedCond
import Derived.Test.YtbnkfcjmcjiahaaDoorRows
import Derived.Test.YtbnkfcjmcjiahaaDoorCards
import Derived.Test.YtbnkfcjmcjiahaaDoorTie
import Derived.Deep.DeepHandedRow
import Derived.Lib.LaidTab

namespace Go.Proofs.YtbnkfcjmcjiahaaDoor.Gx
open Go Go.Proofs.YtbnkfcjmcjiahaaDoor.Gw
set_option linter.unusedSimpArgs false
set_option linter.unusedVariables false

/-- The document's walk: its text, where it is, how many nodes there were, what was wrong first. -/
def wkN (s : Str) (p n : Nat) (f : Int × Int) : Ent := .box [.str s, .int .i64 p, .int .i64 n, .int .i64 f.1, .int .i64 f.2]
theorem wkN_ok {st : St} {b p n : Nat} {s : Str} {f : Int × Int} (h : St.ok st) : St.ok (st.set b (wkN s p n f)) := by
  intro e he
  rw [List.length_set]
  rcases List.mem_or_eq_of_mem_set he with h' | rfl
  · exact h e h'
  · simp [wkN, Ent.lt, ltL, V.lt]
theorem at_w {st : St} {b : Nat} {s : Str} (h : b < st.length) (p n : Nat) (f : Int × Int) (l : St) : (st.set b (wkN s p n f) ++ l)[b]? = some (.box [.str s, .int .i64 p, .int .i64 n, .int .i64 f.1, .int .i64 f.2]) := get_b h
theorem at_w0 {st : St} {b : Nat} {s : Str} (h : b < st.length) (p n : Nat) (f : Int × Int) : (st.set b (wkN s p n f))[b]? = some (.box [.str s, .int .i64 p, .int .i64 n, .int .i64 f.1, .int .i64 f.2]) := List.getElem?_set_self h

theorem c_skip (s : Str) (st : St) (b p n : Nat) (f : Int × Int) (hlt : b < st.length) (hp : p ≤ s.length) (hs : s.length ≤ 6000) :
    VCalls Tryd.prog TT 28 [.ptr b 0] (st.set b (wkN s p n f)) fun r st' => r = .ret (.tup []) ∧ st' = st.set b (wkN s (s.length - (blk false (s.drop p)).length) n f) := by
  refine vfun TT_ok (an := anL []) (L := [0, 2, 3]) (rs := []) Tryd.func28 rfl (by kernel_rfl) rfl Tryd.ntmps28 rfl rfl (by simp) fun hst ha hf => ?_
  have hok : ∀ p n, St.ok (st.set b (wkN s p n f)) := fun p n => by have := wkN_ok (s := s) (b := b) (p := p) (n := n) (f := f) hst; rw [List.set_set] at this; exact this
  have h63 : s.length ≤ 9223372036854775807 := by omega
  have hend : ∀ x, x ≤ s.length → blk false (s.drop p) = s.drop x → Gives (.tup []) (st.set b (wkN s (s.length - (blk false (s.drop p)).length) n f)) (.ret (.tup [])) (st.set b (wkN s x n f)) := by
    intro x hx h
    rw [h, List.length_drop, show s.length - (s.length - x) = x by omega]
    exact gives_self (by simp [V.lt, ltL]) (hok _ _)
  simp only [gwL, gwB, gwD, gwE, gwS, gwTT, gwZ, gwN, gwC, Nat.reduceEqDiff, ↓reduceIte, Nat.reduceAdd, Nat.reduceLT, Nat.reduceLeDiff, Nat.reduceMul]
  refine vfor (σ := Nat × Bool) [0, 2] (fun x => [(0, true, .ptr b 0), (2, true, .bool x.2)]) (fun x => st.set b (wkN s x.1 n f)) (fun x => s.length - x.1) (fun x => x.1 ≤ s.length ∧ blk false (s.drop p) = blk x.2 (s.drop x.1)) (p, false) rfl TT_ok ⟨hp, rfl⟩ rfl rfl ?_
  rintro ⟨x, note⟩ ⟨hx, hI⟩
  simp only at hx hI ⊢
  simp only [gwL, gwB, gwD, gwE, gwS, gwTT, gwZ, gwN, gwC, Nat.reduceEqDiff, ↓reduceIte, Nat.reduceAdd, Nat.reduceLT, Nat.reduceLeDiff, Nat.reduceMul]
  refine vdraw TT_ok TT_mixed [0, 0, 0, 1, 0, 0, 0, 1, 0, 0] (by kernel_rfl) ?_
  rcases at_or_end s x hx with ⟨rfl, hd⟩ | ⟨c, hltx, hget, hdr⟩
  · simp only [gwL, gwB, gwD, gwE, gwS, gwTT, gwZ, gwN, gwC, Nat.reduceEqDiff, ↓reduceIte, Nat.reduceAdd, Nat.reduceLT, Nat.reduceLeDiff, Nat.reduceMul, at_w0 hlt, lt_no]
    exact hend _ (Nat.le_refl _) (by rw [hI, hd]; cases note <;> rfl)
  simp only [gwL, gwB, gwD, gwE, gwS, gwTT, gwZ, gwN, gwC, Nat.reduceEqDiff, ↓reduceIte, Nat.reduceAdd, Nat.reduceLT, Nat.reduceLeDiff, Nat.reduceMul, at_w0 hlt, lt_yes hltx]
  refine vdraw TT_ok TT_mixed [0, 0, 0, 1, 0, 0, 0, 1, 0, 0] (by kernel_rfl) ?_
  have h10 : decide ((c.toNat : Int) = 10) = decide (c = 10) := byte_eq c 10
  have h59 : decide ((c.toNat : Int) = 59) = decide (c = 59) := byte_eq c 59
  have h32 : decide ((c.toNat : Int) = 32) = decide (c = 32) := byte_eq c 32
  have h9 : decide ((c.toNat : Int) = 9) = decide (c = 9) := byte_eq c 9
  simp only [gwL, gwB, gwD, gwE, gwS, gwTT, gwZ, gwN, gwC, Nat.reduceEqDiff, ↓reduceIte, Nat.reduceAdd, Nat.reduceLT, Nat.reduceLeDiff, Nat.reduceMul, at_w0 hlt, getD_at hget, Int.ofNat_lt.mpr hltx, h10, h59, h32, h9]
  rw [hdr] at hI
  have hbk : ∀ b' : Bool, blk b' (c :: s.drop (x + 1)) = (match b' with | true => bif decide (c = 10) then blk false (s.drop (x + 1)) else blk true (s.drop (x + 1)) | false => bif isBlank c then blk false (s.drop (x + 1)) else bif decide (c = 59) then blk true (s.drop (x + 1)) else c :: s.drop (x + 1)) := fun b' => by cases b' <;> simp only [blk]
  rw [hbk] at hI
  refine iK_split (fun h => ?_) (fun h => ?_)
  · have hc := of_decide_eq_true h
    have k59 : decide ((c.toNat : Int) = 59) = false := by rw [hc]; rfl
    have k10 : decide ((c.toNat : Int) = 10) = true := by rw [hc]; rfl
    have hI' : blk false (s.drop p) = blk false (s.drop (x + 1)) := by rw [hI]; subst hc; cases note <;> rfl
    simp only [gwL, gwB, gwD, gwE, gwS, gwTT, gwZ, gwN, gwC, Nat.reduceEqDiff, ↓reduceIte, Nat.reduceAdd, Nat.reduceLT, Nat.reduceLeDiff, Nat.reduceMul, k59, at_w0 hlt, next_i64 hltx h63, k10]
    simp only [gwL, gwB, gwD, gwE, gwS, gwTT, gwZ, gwN, gwC, Nat.reduceEqDiff, ↓reduceIte, Nat.reduceAdd, Nat.reduceLT, Nat.reduceLeDiff, Nat.reduceMul, Env.keep]
    exact ⟨(x + 1, false), rfl, by rw [List.set_set]; rfl, by dsimp only; omega, by dsimp only; omega, hI'⟩
  · simp only [gwL, gwB, gwD, gwE, gwS, gwTT, gwZ, gwN, gwC, Nat.reduceEqDiff, ↓reduceIte, Nat.reduceAdd, Nat.reduceLT, Nat.reduceLeDiff, Nat.reduceMul, h59]
    refine iK_split (fun h2 => ?_) (fun h2 => ?_)
    · have hc := of_decide_eq_true h2
      have hI' : blk false (s.drop p) = blk true (s.drop (x + 1)) := by rw [hI]; subst hc; cases note <;> rfl
      simp only [gwL, gwB, gwD, gwE, gwS, gwTT, gwZ, gwN, gwC, Nat.reduceEqDiff, ↓reduceIte, Nat.reduceAdd, Nat.reduceLT, Nat.reduceLeDiff, Nat.reduceMul, at_w0 hlt, next_i64 hltx h63]
      simp only [gwL, gwB, gwD, gwE, gwS, gwTT, gwZ, gwN, gwC, Nat.reduceEqDiff, ↓reduceIte, Nat.reduceAdd, Nat.reduceLT, Nat.reduceLeDiff, Nat.reduceMul, Env.keep]
      exact ⟨(x + 1, true), rfl, by rw [List.set_set]; rfl, by dsimp only; omega, by dsimp only; omega, hI'⟩
    · simp only [gwL, gwB, gwD, gwE, gwS, gwTT, gwZ, gwN, gwC, Nat.reduceEqDiff, ↓reduceIte, Nat.reduceAdd, Nat.reduceLT, Nat.reduceLeDiff, Nat.reduceMul, h32, h9, h10, h]
      refine iK_split (fun h3 => ?_) (fun h3 => ?_)
      · simp only [gwL, gwB, gwD, gwE, gwS, gwTT, gwZ, gwN, gwC, Nat.reduceEqDiff, ↓reduceIte, Nat.reduceAdd, Nat.reduceLT, Nat.reduceLeDiff, Nat.reduceMul]
        refine hend x hx ?_
        rw [hI, hdr]
        revert h3
        simp only [isBlank, h, h2]
        cases note <;> cases decide (c = 32) <;> cases decide (c = 9) <;> simp
      · simp only [gwL, gwB, gwD, gwE, gwS, gwTT, gwZ, gwN, gwC, Nat.reduceEqDiff, ↓reduceIte, Nat.reduceAdd, Nat.reduceLT, Nat.reduceLeDiff, Nat.reduceMul, at_w0 hlt, next_i64 hltx h63]
        simp only [gwL, gwB, gwD, gwE, gwS, gwTT, gwZ, gwN, gwC, Nat.reduceEqDiff, ↓reduceIte, Nat.reduceAdd, Nat.reduceLT, Nat.reduceLeDiff, Nat.reduceMul, Env.keep]
        refine ⟨(x + 1, note), rfl, by rw [List.set_set]; rfl, by dsimp only; omega, by dsimp only; omega, ?_⟩
        rw [hI]
        revert h3
        simp only [isBlank, h, h2]
        cases note <;> cases decide (c = 32) <;> cases decide (c = 9) <;> simp

theorem c_good (s : Str) (st : St) (b p n : Nat) (f : Int × Int) (hb : st[b]? = some (wkN s p n f)) :
    VCalls Tryd.prog TT 29 [.ptr b 0] st fun r st' => r = .ret (.bool (decide (f.1 = 0))) ∧ st' = st := by
  refine vfun TT_ok (an := anL []) (L := [0, 2]) (rs := [.tmp 2]) Tryd.func29 rfl (by kernel_rfl) rfl Tryd.ntmps29 rfl rfl (Nat.le_refl _) fun hst ha hf => ?_
  simp only [wkN] at hb
  simp only [gwL, gwB, gwD, gwE, gwS, gwTT, gwZ, gwN, gwC, Nat.reduceEqDiff, ↓reduceIte, Nat.reduceAdd, Nat.reduceLT, Nat.reduceLeDiff, Nat.reduceMul, hb]
  exact gives_bool rfl hst
/-- The first fault is kept. -/
def keepF (f g : Int × Int) : Int × Int := if f.1 = 0 then g else f
theorem c_stop (s : Str) (st : St) (b p n : Nat) (f : Int × Int) (e q : Int) (hlt : b < st.length) :
    VCalls Tryd.prog TT 44 [.ptr b 0, .int .i64 e, .int .i64 q] (st.set b (wkN s p n f)) fun r st' => r = .ret (.tup []) ∧ st' = st.set b (wkN s p n (keepF f (e, q))) := by
  refine vfun TT_ok (an := anL []) (L := [0, 1, 2]) (rs := []) Tryd.func44 rfl (by kernel_rfl) rfl Tryd.ntmps44 rfl rfl (by simp) fun hst ha hf => ?_
  have hok : ∀ f, St.ok (st.set b (wkN s p n f)) := fun f => by have := wkN_ok (s := s) (b := b) (p := p) (n := n) (f := f) hst; rw [List.set_set] at this; exact this
  simp only [gwL, gwB, gwD, gwE, gwS, gwTT, gwZ, gwN, gwC, Nat.reduceEqDiff, ↓reduceIte, Nat.reduceAdd, Nat.reduceLT, Nat.reduceLeDiff, Nat.reduceMul, at_w0 hlt]
  refine iK_split (fun h => ?_) (fun h => ?_)
  · have h' := of_decide_eq_true h
    simp only [gwL, gwB, gwD, gwE, gwS, gwTT, gwZ, gwN, gwC, Nat.reduceEqDiff, ↓reduceIte, Nat.reduceAdd, Nat.reduceLT, Nat.reduceLeDiff, Nat.reduceMul, at_w0 hlt]
    rw [List.set_set]
    simp only [keepF, if_pos h']
    exact gives_self (by simp [V.lt, ltL]) (hok (e, q))
  · have h' := of_decide_eq_false h
    simp only [gwL, gwB, gwD, gwE, gwS, gwTT, gwZ, gwN, gwC, Nat.reduceEqDiff, ↓reduceIte, Nat.reduceAdd, Nat.reduceLT, Nat.reduceLeDiff, Nat.reduceMul]
    simp only [keepF, if_neg h']
    exact gives_self (by simp [V.lt, ltL]) (hok f)
theorem c_count (s : Str) (st : St) (b p n : Nat) (f : Int × Int) (deep q : Int) (hlt : b < st.length) (hn : n ≤ 100000) :
    VCalls Tryd.prog TT 43 [.ptr b 0, .int .i64 deep, .int .i64 q] (st.set b (wkN s p n f)) fun r st' => r = .ret (.tup []) ∧ st' = st.set b (wkN s p (n + 1) (bif decide (2000 < n + 1) || decide (40 < deep) then keepF f (4, q) else f)) := by
  refine vfun TT_ok (an := anL []) (L := [0, 1, 2]) (rs := []) Tryd.func43 rfl (by kernel_rfl) rfl Tryd.ntmps43 rfl rfl (by simp) fun hst ha hf => ?_
  have hok : ∀ n f, St.ok (st.set b (wkN s p n f)) := fun n f => by have := wkN_ok (s := s) (b := b) (p := p) (n := n) (f := f) hst; rw [List.set_set] at this; exact this
  have hwr : IntKind.i64.wrap ((n : Int) + 1) = ((n + 1 : Nat) : Int) := by rw [wrap_i64 (by omega) (by omega)]; omega
  have hd : decide ((2000 : Int) < ((n + 1 : Nat) : Int)) = decide (2000 < n + 1) := by rw [decide_eq_decide]; omega
  have hE : (st.set b (.box [.str s, .int .i64 p, .int .i64 ((n + 1 : Nat) : Int), .int .i64 f.1, .int .i64 f.2]))[b]? = some (.box [.str s, .int .i64 p, .int .i64 ((n + 1 : Nat) : Int), .int .i64 f.1, .int .i64 f.2]) := List.getElem?_set_self hlt
  simp only [gwL, gwB, gwD, gwE, gwS, gwTT, gwZ, gwN, gwC, Nat.reduceEqDiff, ↓reduceIte, Nat.reduceAdd, Nat.reduceLT, Nat.reduceLeDiff, Nat.reduceMul, at_w0 hlt, hwr, List.set_set, hE, hd]
  refine iK_split (fun h => ?_) (fun h => ?_)
  · rw [h]
    simp only [gwL, gwB, gwD, gwE, gwS, gwTT, gwZ, gwN, gwC, Nat.reduceEqDiff, ↓reduceIte, Nat.reduceAdd, Nat.reduceLT, Nat.reduceLeDiff, Nat.reduceMul]
    refine (c_stop s st b p (n + 1) f 4 q hlt).use (wkL_refl _) fun _ => ?_
    simp only [gwL, gwB, gwD, gwE, gwS, gwTT, gwZ, gwN, gwC, Nat.reduceEqDiff, ↓reduceIte, Nat.reduceAdd, Nat.reduceLT, Nat.reduceLeDiff, Nat.reduceMul]
    exact gives_self (by simp [V.lt, ltL]) (hok _ _)
  · rw [h]
    simp only [gwL, gwB, gwD, gwE, gwS, gwTT, gwZ, gwN, gwC, Nat.reduceEqDiff, ↓reduceIte, Nat.reduceAdd, Nat.reduceLT, Nat.reduceLeDiff, Nat.reduceMul]
    exact gives_self (by simp [V.lt, ltL]) (hok _ _)
end Go.Proofs.YtbnkfcjmcjiahaaDoor.Gx

namespace Go.Proofs.YtbnkfcjmcjiahaaDoor.Gx
open Go Go.Proofs.YtbnkfcjmcjiahaaDoor.Gw
set_option linter.unusedSimpArgs false
set_option linter.unusedVariables false

structure WR where
  d : Datum
  p : Nat
  n : Nat
  f : Int × Int
def zeroDt : Datum := .mk 0 0 [] 0 0 []
def wdB (q p n : Nat) : Str → WR
  | [] => ⟨zeroDt, p, n, (2, q)⟩
  | t :: r => bif decide (t = 116) || decide (t = 102) then
      (match r with
      | [] => ⟨.mk 2 (bif decide (t = 116) then 1 else 0) [] 0 0 [], p + 1, n, (0, 0)⟩
      | u :: _ => bif letterB u then ⟨zeroDt, p, n, (2, q)⟩ else ⟨.mk 2 (bif decide (t = 116) then 1 else 0) [] 0 0 [], p + 1, n, (0, 0)⟩)
    else ⟨zeroDt, p, n, (2, q)⟩
def wdA (q p n : Nat) (w : Str) : WR :=
  bif looksB w then (bif decide ((17 : Int) < w.length) then ⟨zeroDt, p, n, (3, q)⟩ else ⟨.mk 1 (numV w) [] 0 0 [], p, n, bif decide (1000000000000000 < numV w) || decide (numV w < -1000000000000000) then (3, q) else (0, 0)⟩)
  else ⟨.mk 3 0 w 0 0 [], p, n, bif decide ((20 : Int) < w.length) then (7, q) else (0, 0)⟩
mutual
def wdD (s : Str) : Nat → Int → Nat → Nat → WR
  | 0, _, p, n => ⟨zeroDt, p, n, (0, 0)⟩
  | F + 1, deep, p, n => bif decide (2000 < n + 1) || decide (40 < deep) then ⟨zeroDt, p, n + 1, (4, p)⟩
    else match s.drop p with
      | [] => ⟨zeroDt, p, n + 1, (2, p)⟩
      | c :: r => bif decide (c = 40) then wdL s F deep [] (p + 1) (n + 1)
        else bif decide (c = 39) then (bif decide (2000 < n + 2) || decide (40 < deep + 1) then ⟨zeroDt, p + 1, n + 2, (4, p)⟩
          else ⟨quoteD (wdD s F (deep + 1) (s.length - (blk false r).length) (n + 2)).d, (wdD s F (deep + 1) (s.length - (blk false r).length) (n + 2)).p, (wdD s F (deep + 1) (s.length - (blk false r).length) (n + 2)).n, (wdD s F (deep + 1) (s.length - (blk false r).length) (n + 2)).f⟩)
        else bif decide (c = 35) then wdB p (p + 1) (n + 1) r
        else bif letterB c then wdA p (p + 1 + (r.takeWhile letterB).length) (n + 1) (c :: r.takeWhile letterB)
        else ⟨zeroDt, p + 1, n + 1, (2, p)⟩
def wdL (s : Str) : Nat → Int → List Datum → Nat → Nat → WR
  | 0, _, acc, p, n => ⟨.mk 4 0 [] 0 0 acc, p, n, (0, 0)⟩
  | F + 1, deep, acc, p, n => match blk false (s.drop p) with
    | [] => ⟨.mk 4 0 [] 0 0 acc, s.length, n, (2, s.length)⟩
    | c :: r => bif decide (c = 41) then ⟨.mk 4 0 [] 0 0 acc, s.length - r.length, n, (0, 0)⟩
      else bif decide ((wdD s F (deep + 1) (s.length - (r.length + 1)) n).f.1 = 0) then
        wdL s F deep (acc ++ [(wdD s F (deep + 1) (s.length - (r.length + 1)) n).d]) (wdD s F (deep + 1) (s.length - (r.length + 1)) n).p (wdD s F (deep + 1) (s.length - (r.length + 1)) n).n
      else ⟨.mk 4 0 [] 0 0 (acc ++ [(wdD s F (deep + 1) (s.length - (r.length + 1)) n).d]), (wdD s F (deep + 1) (s.length - (r.length + 1)) n).p, (wdD s F (deep + 1) (s.length - (r.length + 1)) n).n, (wdD s F (deep + 1) (s.length - (r.length + 1)) n).f⟩
end

/-- Both tell the same. -/
def Agree (w : WR) : RR → Prop
  | .ok x p n => w = ⟨x, p, n, (0, 0)⟩
  | .err e q _ _ => w.f = (e, q) ∧ e ≠ 0
theorem agreeB (q p n : Nat) (r : Str) : Agree (wdB q p n r) (rdB q p n r) := by
  cases r with
  | nil => exact ⟨rfl, by decide⟩
  | cons t r =>
    simp only [wdB, rdB]
    cases (decide (t = 116) || decide (t = 102)) with
    | false => exact ⟨rfl, by decide⟩
    | true =>
      cases r with
      | nil => rfl
      | cons u r =>
        dsimp only
        cases letterB u with
        | true => exact ⟨rfl, by decide⟩
        | false => rfl
theorem agreeA (s : Str) (q p n : Nat) (c : UInt8) (r : Str) : Agree (wdA q (p + (r.takeWhile letterB).length) n (c :: r.takeWhile letterB)) (rdA s q p n c r) := by
  simp only [wdA, rdA, atomR]
  generalize (c :: r.takeWhile letterB) = w
  cases looksB w with
  | true =>
    simp only [cond_true]
    cases decide ((17 : Int) < w.length) with
    | true => exact ⟨rfl, by decide⟩
    | false =>
      simp only [cond_false]
      cases (decide (1000000000000000 < numV w) || decide (numV w < -1000000000000000)) with
      | true => exact ⟨rfl, by decide⟩
      | false => rfl
  | false =>
    simp only [cond_false]
    cases decide ((20 : Int) < w.length) with
    | true => exact ⟨rfl, by decide⟩
    | false => rfl

theorem agree (s : Str) : ∀ F : Nat, (∀ (deep : Int) (p n : Nat), p ≤ s.length → n ≤ 2000 → 2 * (s.length - p) < F → Agree (wdD s F deep p n) (rdD s F deep p n)) ∧ (∀ (deep : Int) (acc : List Datum) (p n : Nat), p ≤ s.length → n ≤ 2000 → 2 * (s.length - p) + 1 < F → Agree (wdL s F deep acc p n) (rdL s F deep acc p n))
  | 0 => ⟨fun _ _ _ _ _ h => by omega, fun _ _ _ _ _ _ h => by omega⟩
  | F + 1 => by
    obtain ⟨ih1, ih2⟩ := agree s F
    refine ⟨fun deep p n hp hn hF => ?_, fun deep acc p n hp hn hF => ?_⟩
    · simp only [wdD, rdD]
      cases h0 : (decide (2000 < n + 1) || decide (40 < deep)) with
      | true => exact ⟨rfl, by decide⟩
      | false =>
        have hn1 : n + 1 ≤ 2000 := by simp at h0; omega
        simp only [cond_false]
        cases hd : s.drop p with
        | nil => exact ⟨rfl, by decide⟩
        | cons c r =>
          dsimp only
          have hl := drop_len hd
          cases decide (c = 40) with
          | true => exact ih2 deep [] (p + 1) (n + 1) (by omega) hn1 (by omega)
          | false =>
            simp only [cond_false]
            cases decide (c = 39) with
            | true =>
              simp only [cond_true]
              cases h1 : (decide (2000 < n + 2) || decide (40 < deep + 1)) with
              | true => exact ⟨rfl, by decide⟩
              | false =>
                have hn2 : n + 2 ≤ 2000 := by simp at h1; omega
                simp only [cond_false]
                have hb := blk_le r false
                have := ih1 (deep + 1) (s.length - (blk false r).length) (n + 2) (by omega) hn2 (by omega)
                generalize rdD s F (deep + 1) (s.length - (blk false r).length) (n + 2) = rr at this ⊢
                generalize wdD s F (deep + 1) (s.length - (blk false r).length) (n + 2) = w at this ⊢
                cases rr with
                | ok x p' n' => simp only [Agree, RR.quote] at this ⊢; rw [this]
                | err e q p' n' => exact this
            | false =>
              simp only [cond_false]
              cases decide (c = 35) with
              | true => exact agreeB _ _ _ _
              | false =>
                simp only [cond_false]
                cases letterB c with
                | true => exact agreeA s p (p + 1) (n + 1) c r
                | false => exact ⟨rfl, by decide⟩
    · simp only [wdL, rdL]
      have hb := blk_le (s.drop p) false
      simp only [List.length_drop] at hb
      cases hd : blk false (s.drop p) with
      | nil => exact ⟨rfl, by decide⟩
      | cons c r =>
        dsimp only
        rw [hd] at hb
        simp only [List.length_cons] at hb
        cases decide (c = 41) with
        | true => rfl
        | false =>
          simp only [cond_false]
          have h1 := ih1 (deep + 1) (s.length - (r.length + 1)) n (by omega) hn (by omega)
          have hfar := (rd_far s F).1 (deep + 1) (s.length - (r.length + 1)) n hn
          generalize rdD s F (deep + 1) (s.length - (r.length + 1)) n = rr at h1 hfar ⊢
          generalize wdD s F (deep + 1) (s.length - (r.length + 1)) n = w at h1 ⊢
          cases rr with
          | err e q p' n' =>
            simp only [Agree] at h1
            simp only [RR.bind, Agree]
            rw [h1.1]
            simp only [decide_eq_false h1.2, cond_false]
            exact ⟨trivial, h1.2⟩
          | ok x p' n' =>
            simp only [Agree] at h1
            subst h1
            simp only [RR.far] at hfar
            simp only [RR.bind, decide_true, cond_true]
            exact ih2 deep (acc ++ [x]) p' n' hfar.2.1 hfar.2.2 (by omega)
end Go.Proofs.YtbnkfcjmcjiahaaDoor.Gx

namespace Go.Proofs.YtbnkfcjmcjiahaaDoor.Gx
open Go Go.Proofs.YtbnkfcjmcjiahaaDoor.Gw
set_option linter.unusedSimpArgs false
set_option linter.unusedVariables false
def valW (l : Str) : Nat := numN (l.filter fun a => !decide (a = 45))
theorem looks_mem {w : Str} (h : looksB w = true) {a : UInt8} (ha : a ∈ w) : a = 45 ∨ (48 ≤ a.toNat ∧ a.toNat ≤ 57) := by
  rcases looks_inv h with ⟨r, rfl, hd, _⟩ | ⟨_, hd, _⟩
  · rcases List.mem_cons.1 ha with rfl | ha
    · exact .inl rfl
    · right
      have := List.all_eq_true.1 hd a ha
      simpa using this
  · right
    have := List.all_eq_true.1 hd a ha
    simpa using this
theorem val_next {w : Str} {i : Nat} {a : UInt8} (hget : w[i]? = some a) : valW (w.take (i + 1)) = if a = 45 then valW (w.take i) else valW (w.take i) * 10 + (a.toNat - 48) := by
  rw [take_next hget]
  unfold valW
  rw [List.filter_append]
  by_cases h : a = 45
  · simp [h]
  · simp [h, numN, List.foldl_append]
theorem val_lt {w : Str} (h : looksB w = true) (hl : w.length ≤ 17) (i : Nat) : valW (w.take i) < 100000000000000000 := by
  have hd : digits ((w.take i).filter fun a => !decide (a = 45)) = true := by
    unfold digits
    rw [List.all_eq_true]
    intro a ha
    obtain ⟨h1, h2⟩ := List.mem_filter.1 ha
    have := looks_mem h (List.mem_of_mem_take h1)
    simp at h2 ⊢
    rcases this with h3 | h3
    · exact absurd h3 h2
    · exact h3
  have hlen : ((w.take i).filter fun a => !decide (a = 45)).length ≤ 17 := by
    have h1 := List.length_filter_le (fun a => !decide (a = (45 : UInt8))) (w.take i)
    have h2 : (w.take i).length ≤ w.length := by simp; omega
    omega
  have := (parse_digits _ 0 0 hd (by decide) (by omega)).2
  have hb : (10 : Nat) ^ (0 + ((w.take i).filter fun a => !decide (a = 45)).length) ≤ 10 ^ 17 := Nat.pow_le_pow_right (by decide) (by omega)
  unfold valW numN
  omega
theorem val_end {w : Str} (h : looksB w = true) : ∃ a, w[0]? = some a ∧ numV w = if a = 45 then -(valW w : Int) else valW w := by
  rcases looks_inv h with ⟨r, rfl, hd, _⟩ | ⟨hno, hd, hne⟩
  · refine ⟨45, rfl, ?_⟩
    have : r.filter (fun a => !decide (a = 45)) = r := List.filter_eq_self.2 fun a ha => by
      have := List.all_eq_true.1 hd a ha
      simp at this ⊢
      rintro rfl
      exact absurd this.1 (by decide)
    simp only [numV, if_true, valW]
    rw [List.filter_cons]
    simp [this]
  · cases w with
    | nil => exact absurd rfl hne
    | cons a r =>
      have ha : ¬ a = 45 := fun e => hno r (by rw [e])
      refine ⟨a, rfl, ?_⟩
      have : (a :: r).filter (fun a => !decide (a = 45)) = a :: r := List.filter_eq_self.2 fun b hb => by
        have := List.all_eq_true.1 hd b hb
        simp at this ⊢
        rintro rfl
        exact absurd this.1 (by decide)
      rw [if_neg ha, valW, this]
      unfold numV
      split
      · rename_i r' e; exact absurd e (hno r')
      · rfl
end Go.Proofs.YtbnkfcjmcjiahaaDoor.Gx

namespace Go.Proofs.YtbnkfcjmcjiahaaDoor.Gx
open Go Go.Proofs.YtbnkfcjmcjiahaaDoor.Gw
set_option linter.unusedSimpArgs false
set_option linter.unusedVariables false

theorem c_Sym (st : St) (s : Str) : VCalls Tryd.prog TT 46 [.str s] st fun r st' => r = .ret (.agg (encD (.mk 3 0 s 0 0 []))) ∧ st' = st := by
  refine vfun TT_ok (an := anL []) (L := [0, 2]) (rs := [.cell 2 44]) Tryd.func46 rfl (by kernel_rfl) rfl Tryd.ntmps46 rfl rfl (Nat.le_refl _) fun hst ha hf => ?_
  simp only [gwL, gwB, gwD, gwE, gwS, gwTT, gwZ, gwN, gwC, Nat.reduceEqDiff, ↓reduceIte, Nat.reduceAdd, Nat.reduceLT, Nat.reduceLeDiff, Nat.reduceMul, encD_mk]
  exact gives_of (wk_agg (wk6 ..)) (wkSt_refl _) (by simp only [V.lt]; exact encD_lt _ (.mk 3 0 s 0 0 [])) hst
theorem c_Num (st : St) (n : Int) : VCalls Tryd.prog TT 47 [.int .i64 n] st fun r st' => r = .ret (.agg (encD (.mk 1 n [] 0 0 []))) ∧ st' = st := by
  refine vfun TT_ok (an := anL []) (L := [0, 2]) (rs := [.cell 2 44]) Tryd.func47 rfl (by kernel_rfl) rfl Tryd.ntmps47 rfl rfl (Nat.le_refl _) fun hst ha hf => ?_
  simp only [gwL, gwB, gwD, gwE, gwS, gwTT, gwZ, gwN, gwC, Nat.reduceEqDiff, ↓reduceIte, Nat.reduceAdd, Nat.reduceLT, Nat.reduceLeDiff, Nat.reduceMul, encD_mk]
  exact gives_of (wk_agg (wk6 ..)) (wkSt_refl _) (by simp only [V.lt]; exact encD_lt _ (.mk 1 n [] 0 0 [])) hst
theorem c_List (st : St) (l : List Datum) : VCalls Tryd.prog TT 45 [lstD l] st fun r st' => r = .ret (.agg (encD (.mk 4 0 [] 0 0 l))) ∧ st' = st := by
  refine vfun TT_ok (an := anL []) (L := [0, 2]) (rs := [.cell 2 44]) Tryd.func45 rfl (by kernel_rfl) rfl Tryd.ntmps45 rfl rfl (Nat.le_refl _) fun hst ha hf => ?_
  simp only [lstD]
  simp only [gwL, gwB, gwD, gwE, gwS, gwTT, gwZ, gwN, gwC, Nat.reduceEqDiff, ↓reduceIte, Nat.reduceAdd, Nat.reduceLT, Nat.reduceLeDiff, Nat.reduceMul, encD_mk]
  have := encD_lt st.length (.mk 4 0 [] 0 0 l)
  rw [encD_mk] at this
  exact gives_of (wk_refl _) (wkSt_refl _) (by simp only [V.lt]; exact this) hst

section
variable (s : Str) (st ex : St) (b p n : Nat) (f : Int × Int) (hb : b < st.length)
include hb
theorem x_skip (hp : p ≤ s.length) (hs : s.length ≤ 6000) : VCalls Tryd.prog TT 28 [.ptr b 0] (st.set b (wkN s p n f) ++ ex) fun r st' => r = .ret (.tup []) ∧ st' = st.set b (wkN s (s.length - (blk false (s.drop p)).length) n f) ++ ex := by
  have := c_skip s (st ++ ex) b p n f (by simp; omega) hp hs
  rw [set_app hb, set_app hb] at this; exact this
theorem x_good : VCalls Tryd.prog TT 29 [.ptr b 0] (st.set b (wkN s p n f) ++ ex) fun r st' => r = .ret (.bool (decide (f.1 = 0))) ∧ st' = st.set b (wkN s p n f) ++ ex := c_good s _ b p n f (get_b hb)
theorem x_good_no (hf : f.1 ≠ 0) : VCalls Tryd.prog TT 29 [.ptr b 0] (st.set b (wkN s p n f) ++ ex) fun r st' => r = .ret (.bool false) ∧ st' = st.set b (wkN s p n f) ++ ex := by
  have := c_good s _ b p n f (get_b (ex := ex) hb)
  rw [decide_eq_false hf] at this; exact this
theorem x_good_yes (hf : f.1 = 0) : VCalls Tryd.prog TT 29 [.ptr b 0] (st.set b (wkN s p n f) ++ ex) fun r st' => r = .ret (.bool true) ∧ st' = st.set b (wkN s p n f) ++ ex := by
  have := c_good s _ b p n f (get_b (ex := ex) hb)
  rw [decide_eq_true hf] at this; exact this
theorem x_stop (e q : Int) : VCalls Tryd.prog TT 44 [.ptr b 0, .int .i64 e, .int .i64 q] (st.set b (wkN s p n f) ++ ex) fun r st' => r = .ret (.tup []) ∧ st' = st.set b (wkN s p n (keepF f (e, q))) ++ ex := by
  have := c_stop s (st ++ ex) b p n f e q (by simp; omega)
  rw [set_app hb, set_app hb] at this; exact this
theorem x_count (deep q : Int) (hn : n ≤ 100000) : VCalls Tryd.prog TT 43 [.ptr b 0, .int .i64 deep, .int .i64 q] (st.set b (wkN s p n f) ++ ex) fun r st' => r = .ret (.tup []) ∧ st' = st.set b (wkN s p (n + 1) (bif decide (2000 < n + 1) || decide (40 < deep) then keepF f (4, q) else f)) ++ ex := by
  have := c_count s (st ++ ex) b p n f deep q (by simp; omega) hn
  rw [set_app hb, set_app hb] at this; exact this
end
theorem d40 : decide ((4 : Int) = 0) = false := rfl
theorem d20 : decide ((2 : Int) = 0) = false := rfl
theorem d00 : decide ((0 : Int) = 0) = true := rfl
theorem keep0 (e q : Int) : keepF (0, 0) (e, q) = (e, q) := rfl

def IHW (s : Str) (F : Nat) : Prop := ∀ f, f < F → ∀ (deep : Int) (p n : Nat) (st ex : St) (b : Nat), b < st.length → p ≤ s.length → n ≤ 2000 → 0 ≤ deep → deep ≤ 41 → 2 * (s.length - p) < f →
  VCalls Tryd.prog TT 30 [.ptr b 0, .int .i64 deep] (st.set b (wkN s p n (0, 0)) ++ ex) fun r st' => r = .ret (.agg (encD (wdD s f deep p n).d)) ∧ st' = st.set b (wkN s (wdD s f deep p n).p (wdD s f deep p n).n (wdD s f deep p n).f) ++ ex

set_option maxHeartbeats 4000000 in
theorem c_One_of (s : Str) (hs : s.length ≤ 6000) (F : Nat) (ih : IHW s (F + 1)) (deep : Int) (p n : Nat) (st : St) (b : Nat) (hlt : b < st.length) (hp : p ≤ s.length) (hn : n ≤ 2000) (hd0 : 0 ≤ deep) (hd1 : deep ≤ 41) (hF : 2 * (s.length - p) < F + 1) :
    VCalls Tryd.prog TT 30 [.ptr b 0, .int .i64 deep] (st.set b (wkN s p n (0, 0))) fun r st' => r = .ret (.agg (encD (wdD s (F + 1) deep p n).d)) ∧ st' = st.set b (wkN s (wdD s (F + 1) deep p n).p (wdD s (F + 1) deep p n).n (wdD s (F + 1) deep p n).f) := by
  refine vfun TT_ok (an := anL []) (L := [0, 1, 4, 5, 6, 7, 8, 9, 10, 12, 260, 261, 262]) (rs := [.cell 4 44]) Tryd.func30 rfl (by kernel_rfl) rfl Tryd.ntmps30 rfl rfl (by simp) fun hst ha hf => ?_
  have h63 : s.length ≤ 9223372036854775807 := by omega
  have hok : ∀ p n f, St.ok (st.set b (wkN s p n f)) := fun p n f => by have := wkN_ok (s := s) (b := b) (p := p) (n := n) (f := f) hst; rw [List.set_set] at this; exact this
  have hret : ∀ (w : WR) v ex, wk v (.agg (encD w.d)) → Gives (.agg (encD w.d)) (st.set b (wkN s w.p w.n w.f)) (.ret v) (st.set b (wkN s w.p w.n w.f) ++ ex) := fun w v ex hw => gives_of hw (wkSt_refl _) (by simp only [V.lt]; exact encD_lt _ w.d) (hok _ _ _)
  have hz : wk (.agg zeroD) (.agg (encD zeroDt)) := wk_agg (by rw [zeroDt, encD_mk]; exact wk6 ..)
  simp only [gwL, gwB, gwD, gwE, gwS, gwTT, gwZ, gwN, gwC, Nat.reduceEqDiff, ↓reduceIte, Nat.reduceAdd, Nat.reduceLT, Nat.reduceLeDiff, Nat.reduceMul, List.length_set, at_k, at_k0, set_k, set_k0, at_w hlt, at_w0 hlt, set_b hlt]
  refine (x_count s st _ b p n (0, 0) hlt deep p (by omega)).use (wkL_refl _) fun _ => ?_
  simp only [wdD]
  simp only [gwL, gwB, gwD, gwE, gwS, gwTT, gwZ, gwN, gwC, Nat.reduceEqDiff, ↓reduceIte, Nat.reduceAdd, Nat.reduceLT, Nat.reduceLeDiff, Nat.reduceMul]
  cases h0 : (decide (2000 < n + 1) || decide (40 < deep)) with
  | true =>
    simp only [cond_true, keep0]
    refine (x_good_no s st _ b p (n + 1) (4, p) hlt (by simp)).use (wkL_refl _) fun _ => ?_
    simp only [gwL, gwB, gwD, gwE, gwS, gwTT, gwZ, gwN, gwC, Nat.reduceEqDiff, ↓reduceIte, Nat.reduceAdd, Nat.reduceLT, Nat.reduceLeDiff, Nat.reduceMul, at_k, at_k0, set_k, set_k0, List.length_set, Bool.not_false]
    exact hret ⟨zeroDt, p, n + 1, (4, p)⟩ _ _ hz
  | false =>
  have hn1 : n + 1 ≤ 2000 := by simp at h0; omega
  have hdeep : deep ≤ 40 := by simp at h0; omega
  simp only [cond_false]
  refine (x_good_yes s st _ b p (n + 1) (0, 0) hlt rfl).use (wkL_refl _) fun _ => ?_
  simp only [gwL, gwB, gwD, gwE, gwS, gwTT, gwZ, gwN, gwC, Nat.reduceEqDiff, ↓reduceIte, Nat.reduceAdd, Nat.reduceLT, Nat.reduceLeDiff, Nat.reduceMul, at_w hlt, Bool.not_true]
  rcases at_or_end s p hp with ⟨hpe, hdr⟩ | ⟨c, hltp, hget, hdr⟩
  · have hge : decide ((s.length : Int) ≤ (p : Int)) = true := decide_eq_true (by omega)
    rw [hdr]
    simp only [gwL, gwB, gwD, gwE, gwS, gwTT, gwZ, gwN, gwC, Nat.reduceEqDiff, ↓reduceIte, Nat.reduceAdd, Nat.reduceLT, Nat.reduceLeDiff, Nat.reduceMul, hge]
    refine (x_stop s st _ b p (n + 1) (0, 0) hlt 2 p).use (wkL_refl _) fun _ => ?_
    simp only [keep0]
    simp only [gwL, gwB, gwD, gwE, gwS, gwTT, gwZ, gwN, gwC, Nat.reduceEqDiff, ↓reduceIte, Nat.reduceAdd, Nat.reduceLT, Nat.reduceLeDiff, Nat.reduceMul, at_k, at_k0, set_k, set_k0, List.length_set]
    exact hret ⟨zeroDt, p, n + 1, (2, p)⟩ _ _ hz
  have hge : decide ((s.length : Int) ≤ (p : Int)) = false := decide_eq_false (by omega)
  rw [hdr]
  have hlen : p + (s.drop (p + 1)).length + 1 = s.length := by simp; omega
  have h40 : decide ((c.toNat : Int) = 40) = decide (c = 40) := byte_eq c 40
  have hE : ∀ x n f, Ent.box [V.str s, V.int .i64 (x : Nat), V.int .i64 (n : Nat), V.int .i64 (Prod.fst f), V.int .i64 (Prod.snd f)] = wkN s x n f := fun _ _ _ => rfl
  simp only [gwL, gwB, gwD, gwE, gwS, gwTT, gwZ, gwN, gwC, Nat.reduceEqDiff, ↓reduceIte, Nat.reduceAdd, Nat.reduceLT, Nat.reduceLeDiff, Nat.reduceMul, hge, at_w hlt, set_b hlt, getD_at hget, Int.ofNat_lt.mpr hltp, next_i64 hltp h63, h40]
  have hE0 : ∀ x n : Nat, Ent.box [V.str s, V.int .i64 x, V.int .i64 n, V.int .i64 0, V.int .i64 0] = wkN s x n (0, 0) := fun _ _ => rfl
  simp only [hE0]
  have ihf : IHW s F := fun f' h => ih f' (by omega)
  refine iK_split (fun h => ?_) (fun h => ?_)
  · rw [h]
    simp only [cond_true]
    simp only [gwL, gwB, gwD, gwE, gwS, gwTT, gwZ, gwN, gwC, Nat.reduceEqDiff, ↓reduceIte, Nat.reduceAdd, Nat.reduceLT, Nat.reduceLeDiff, Nat.reduceMul, at_k, at_k0, set_k, set_k0, List.length_set]
    refine vforT (σ := Nat × List Datum × Nat × Nat × (Int × Int)) [44] [0, 1, 4, 7] (fun x => [(0, true, .ptr b 0), (1, true, .int .i64 deep), (4, true, .ptr st.length 0), (7, true, .ptr (st.length + 1) 0)]) (fun x => st.set b (wkN s x.2.2.1 x.2.2.2.1 x.2.2.2.2) ++ [.box zeroD, .box [.int .i64 4, .int .i64 0, .str [], .int .i64 0, .int .i64 0, .lst 6 (some (st.length + 2)) (x.2.1.map encD)], .tip 44 x.2.1.length]) (fun x => x.1) (fun x => (x.2.2.2.2 = (0, 0) ∧ x.2.1.length ≤ x.2.2.1 ∧ x.2.2.1 ≤ s.length ∧ x.2.2.2.1 ≤ 2000 ∧ 2 * (s.length - x.2.2.1) + 1 < x.1 ∧ x.1 ≤ F ∧ wdL s F deep [] (p + 1) (n + 1) = wdL s x.1 deep x.2.1 x.2.2.1 x.2.2.2.1) ∨ (x.2.2.2.2.1 ≠ 0 ∧ wdL s F deep [] (p + 1) (n + 1) = ⟨.mk 4 0 [] 0 0 x.2.1, x.2.2.1, x.2.2.2.1, x.2.2.2.2⟩)) (F, [], p + 1, n + 1, (0, 0)) rfl TT_ok (.inl ⟨rfl, Nat.zero_le _, by dsimp only; omega, by dsimp only; omega, by dsimp only; omega, Nat.le_refl _, rfl⟩) ?_ ?_ ?_
    · exact wkE_refl _
    · refine ⟨st.set b (wkN s (p + 1) (n + 1) (0, 0)) ++ [.box zeroD, .box [.int .i64 4, .int .i64 0, .str [], .int .i64 0, .int .i64 0, .lst 6 (some (st.length + 2)) []]], ?_, by simp only [gwL, tips, List.map_cons, List.map_nil, List.length_nil]⟩
      refine (wkSt_refl _).append (wkSt_cons (Ent.wkp_refl _) (wkSt_cons (Ent.wk_box ?_) wkSt_nil))
      exact wkL_cons (wk_refl _) (wkL_cons (wk_refl _) (wkL_cons (wk_refl _) (wkL_cons (wk_refl _) (wkL_cons (wk_refl _) (wkL_cons (wk_tip _ (by simp [Tips])) wkL_nil)))))
    rintro ⟨f, acc, p1, n1, flt⟩ hI
    simp only at hI ⊢
    simp only [gwL, gwB, gwD, gwE, gwS, gwTT, gwZ, gwN, gwC, Nat.reduceEqDiff, ↓reduceIte, Nat.reduceAdd, Nat.reduceLT, Nat.reduceLeDiff, Nat.reduceMul]
    have hd : ∀ (w : WR), wdL s F deep [] (p + 1) (n + 1) = w → w.d = .mk 4 0 [] 0 0 acc → Gives (.agg (encD (wdL s F deep [] (p + 1) (n + 1)).d)) (st.set b (wkN s (wdL s F deep [] (p + 1) (n + 1)).p (wdL s F deep [] (p + 1) (n + 1)).n (wdL s F deep [] (p + 1) (n + 1)).f)) (.ret (.agg [.int .i64 4, .int .i64 0, .str [], .int .i64 0, .int .i64 0, .lst 6 (some (st.length + 2)) (acc.map encD)])) (st.set b (wkN s w.p w.n w.f) ++ [.box [.int .i64 4, .int .i64 0, .str [], .int .i64 0, .int .i64 0, .lst 6 (some (st.length + 2)) (acc.map encD)], .box [.int .i64 4, .int .i64 0, .str [], .int .i64 0, .int .i64 0, .lst 6 (some (st.length + 2)) (acc.map encD)], .tip 44 acc.length]) := by
      rintro w rfl hw
      refine hret _ _ _ (wk_agg ?_)
      rw [hw, encD_mk]
      exact wkL_cons (wk_refl _) (wkL_cons (wk_refl _) (wkL_cons (wk_refl _) (wkL_cons (wk_refl _) (wkL_cons (wk_refl _) (wkL_cons (wk_tok _ _ _) wkL_nil)))))
    rcases hI with ⟨rfl, hacc, hp1, hn1', hf2, hfF, hI⟩ | ⟨hbad, hI⟩
    · refine (x_good_yes s st _ b p1 n1 (0, 0) hlt rfl).use (wkL_refl _) fun _ => ?_
      simp only [gwL, gwB, gwD, gwE, gwS, gwTT, gwZ, gwN, gwC, Nat.reduceEqDiff, ↓reduceIte, Nat.reduceAdd, Nat.reduceLT, Nat.reduceLeDiff, Nat.reduceMul]
      refine (x_skip s st _ b p1 n1 (0, 0) hlt hp1 hs).use (wkL_refl _) fun _ => ?_
      cases f with
      | zero => omega
      | succ f =>
      simp only [wdL] at hI
      have hble := blk_le (s.drop p1) false
      have hbd := blk_drop (s.drop p1) false
      simp only [List.length_drop] at hble hbd
      rw [List.drop_drop] at hbd
      generalize hl : blk false (s.drop p1) = l at hble hbd hI ⊢
      simp only [gwL, gwB, gwD, gwE, gwS, gwTT, gwZ, gwN, gwC, Nat.reduceEqDiff, ↓reduceIte, Nat.reduceAdd, Nat.reduceLT, Nat.reduceLeDiff, Nat.reduceMul]
      refine vdraw TT_ok TT_mixed [0, 0, 0, 1, 0, 0, 0, 1, 0, 0] (by kernel_rfl) ?_
      cases l with
      | nil =>
        have hge2 : decide ((s.length : Int) ≤ ((s.length - 0 : Nat) : Int)) = true := decide_eq_true (by omega)
        simp only [List.length_nil]
        simp only [gwL, gwB, gwD, gwE, gwS, gwTT, gwZ, gwN, gwC, Nat.reduceEqDiff, ↓reduceIte, Nat.reduceAdd, Nat.reduceLT, Nat.reduceLeDiff, Nat.reduceMul, at_w hlt, hge2]
        refine (x_stop s st _ b (s.length - 0) n1 (0, 0) hlt 2 ((s.length - 0 : Nat) : Int)).use (wkL_refl _) fun _ => ?_
        simp only [keep0, Nat.sub_zero]
        simp only [gwL, gwB, gwD, gwE, gwS, gwTT, gwZ, gwN, gwC, Nat.reduceEqDiff, ↓reduceIte, Nat.reduceAdd, Nat.reduceLT, Nat.reduceLeDiff, Nat.reduceMul, Env.keep]
        refine ⟨(f, acc, s.length, n1, (2, (s.length : Int))), ⟨wkE_refl _, st.set b (wkN s s.length n1 (2, (s.length : Int))) ++ [.box zeroD, .box [.int .i64 4, .int .i64 0, .str [], .int .i64 0, .int .i64 0, .lst 6 (some (st.length + 2)) (acc.map encD)], .tip 44 acc.length], [], by simp, wkSt_refl _, ?_, ?_, by simp⟩, by dsimp only; omega, .inr ⟨by simp, hI⟩⟩
        · simp only [ltE, V.lt, gwL, List.length_set]
          exact ⟨by omega, by trivial, by omega, by omega, trivial⟩
        · refine ok_app (hok _ _ _) ⟨by simp [Ent.lt, ltL, V.lt, zeroD], ⟨?_, trivial, trivial⟩⟩
          simp only [Ent.lt, ltL, V.lt, true_and, and_true]
          exact ⟨fun e he => by cases he; simp, ltRows_map fun d _ => encD_lt _ _⟩
      | cons c1 r =>
        simp only [List.length_cons] at hble hbd hI ⊢
        have hlen1 : s.length - (r.length + 1) < s.length := by omega
        have hge2 : decide ((s.length : Int) ≤ ((s.length - (r.length + 1) : Nat) : Int)) = false := decide_eq_false (by omega)
        have hdr1 : s.drop (s.length - (r.length + 1)) = c1 :: r := by rw [hbd]; congr 1; omega
        generalize hq1 : s.length - (r.length + 1) = q1 at hlen1 hge2 hdr1 hI ⊢
        have hget1 : s[q1]? = some c1 := by
          have := congrArg (fun l => l[0]?) hdr1
          simpa using this
        simp only [gwL, gwB, gwD, gwE, gwS, gwTT, gwZ, gwN, gwC, Nat.reduceEqDiff, ↓reduceIte, Nat.reduceAdd, Nat.reduceLT, Nat.reduceLeDiff, Nat.reduceMul, at_w hlt, hge2]
        refine vdraw TT_ok TT_mixed [0, 0, 0, 1, 0, 0, 0, 1, 0, 0] (by kernel_rfl) ?_
        have h41 : decide ((c1.toNat : Int) = 41) = decide (c1 = 41) := byte_eq c1 41
        simp only [gwL, gwB, gwD, gwE, gwS, gwTT, gwZ, gwN, gwC, Nat.reduceEqDiff, ↓reduceIte, Nat.reduceAdd, Nat.reduceLT, Nat.reduceLeDiff, Nat.reduceMul, at_w hlt, getD_at hget1, Int.ofNat_lt.mpr hlen1, h41]
        refine iK_split (fun h2 => ?_) (fun h2 => ?_)
        · rw [h2] at hI
          simp only [cond_true] at hI
          simp only [gwL, gwB, gwD, gwE, gwS, gwTT, gwZ, gwN, gwC, Nat.reduceEqDiff, ↓reduceIte, Nat.reduceAdd, Nat.reduceLT, Nat.reduceLeDiff, Nat.reduceMul, at_w hlt, next_i64 hlen1 h63, set_b hlt, at_k, at_k0, set_k, set_k0, List.length_set, zeroD]
          simp only [hE0]
          have hq2 : s.length - r.length = q1 + 1 := by omega
          rw [hq2] at hI
          exact hd _ hI rfl
        · rw [h2] at hI
          simp only [cond_false] at hI
          have hwr : IntKind.i64.wrap (deep + 1) = deep + 1 := wrap_i64 (by omega) (by omega)
          have hc := ihf f (by omega) (deep + 1) q1 n1 st [.box zeroD, .box [.int .i64 4, .int .i64 0, .str [], .int .i64 0, .int .i64 0, .lst 6 (some (st.length + 2)) (acc.map encD)], .tip 44 acc.length] b hlt (by omega) hn1' (by omega) (by omega) (by omega)
          have hag := (agree s f).1 (deep + 1) q1 n1 (by omega) hn1' (by omega)
          have hfar := (rd_far s f).1 (deep + 1) q1 n1 hn1'
          generalize wdD s f (deep + 1) q1 n1 = w at hc hI hag
          obtain ⟨wd, wp, wn, wf⟩ := w
          simp only at hc hI hag
          simp only [gwL, gwB, gwD, gwE, gwS, gwTT, gwZ, gwN, gwC, Nat.reduceEqDiff, ↓reduceIte, Nat.reduceAdd, Nat.reduceLT, Nat.reduceLeDiff, Nat.reduceMul]
          refine vstageT TT_ok TT_mixed (σ := Unit) [st.set b (wkN s q1 n1 (0, 0)) ++ [.box zeroD, .box [.int .i64 4, .int .i64 0, .str [], .int .i64 0, .int .i64 0, .lst 6 (some (st.length + 2)) (acc.map encD)], .tip 44 acc.length], st.set b (wkN s wp wn wf) ++ [.box zeroD, .box [.int .i64 4, .int .i64 0, .str [], .int .i64 0, .int .i64 0, .lst 6 (some (st.length + 2)) (acc.map encD)], .tip 44 acc.length]] [0, 3, 0, 0, 0, 4, 0, 2, 0, 2] [0, 1, 2, 3, 4, 5, 6, 7, 8, 9] [] [] [0, 1, 4, 7] (fun _x => [(0, true, .ptr b 0), (1, true, .int .i64 deep), (4, true, .ptr st.length 0), (7, true, .ptr (st.length + 1) 0)]) (fun _x => st.set b (wkN s wp wn wf) ++ [.box zeroD, .box [.int .i64 4, .int .i64 0, .str [], .int .i64 0, .int .i64 0, .lst 6 (some (st.length + 2)) (acc.map encD ++ [encD wd])], .tip 44 (acc.length + 1)]) (fun _x => True) rfl (by kernel_rfl) ?_ ?_
          · simp only [gwL, gwB, gwD, gwE, gwS, gwTT, gwZ, gwN, gwC, Nat.reduceEqDiff, ↓reduceIte, Nat.reduceAdd, Nat.reduceLT, Nat.reduceLeDiff, Nat.reduceMul, gwD3, gwDT, pureR_none, nilR, nilC, nilCmp, eqb, assertV, assertW, zeroV, wQ_normal, wQ_ret, wQ_panic, pickO, pickC, List.map_cons, List.map_nil, List.getD_cons_zero, List.getD_cons_succ, Env.keep, beq_self_eq_true, cond_true, cond_false, at_k, at_k0, hwr, List.length_set]
            refine eK3_loud hc (wkL_refl _) (by simp) (by simp) ?_
            simp only [gwL, gwB, gwD, gwE, gwS, gwTT, gwZ, gwN, gwC, Nat.reduceEqDiff, ↓reduceIte, Nat.reduceAdd, Nat.reduceLT, Nat.reduceLeDiff, Nat.reduceMul, gwD3, gwDT, pureR_none, nilR, nilC, nilCmp, eqb, assertV, assertW, zeroV, wQ_normal, wQ_ret, wQ_panic, pickO, pickC, List.map_cons, List.map_nil, List.getD_cons_zero, List.getD_cons_succ, Env.keep, beq_self_eq_true, cond_true, cond_false, at_k, at_k0, set_k, set_k0, encD_take, encD_len, encD_drop, Nat.le_refl, List.length_map, List.length_set]
            exact ⟨by omega, rfl, rfl, (), rfl, rfl, trivial⟩
          · rintro - -
            simp only [gwL, gwB, gwD, gwE, gwS, gwTT, gwZ, gwN, gwC, Nat.reduceEqDiff, ↓reduceIte, Nat.reduceAdd, Nat.reduceLT, Nat.reduceLeDiff, Nat.reduceMul, Env.keep]
            refine ⟨(f, acc ++ [wd], wp, wn, wf), ⟨wkE_refl _, st.set b (wkN s wp wn wf) ++ [.box zeroD, .box [.int .i64 4, .int .i64 0, .str [], .int .i64 0, .int .i64 0, .lst 6 (some (st.length + 2)) ((acc ++ [wd]).map encD)], .tip 44 (acc ++ [wd]).length], [], by simp, wkSt_refl _, ?_, ?_, by simp⟩, by dsimp only; omega, ?_⟩
            · simp only [ltE, V.lt, gwL, List.length_set]
              exact ⟨by omega, by trivial, by omega, by omega, trivial⟩
            · refine ok_app (hok _ _ _) ⟨by simp [Ent.lt, ltL, V.lt, zeroD], ⟨?_, trivial, trivial⟩⟩
              simp only [Ent.lt, ltL, V.lt, true_and, and_true]
              exact ⟨fun e he => by cases he; simp, ltRows_map fun d _ => encD_lt _ _⟩
            · by_cases hw0 : wf.1 = 0
              · rw [hw0] at hI
                simp only [decide_true, cond_true] at hI
                left
                cases hrr : rdD s f (deep + 1) q1 n1 with
                | err e q _ _ =>
                  rw [hrr] at hag
                  simp only [Agree] at hag
                  exact absurd (by rw [hag.1] at hw0; exact hw0) hag.2
                | ok x p' n' =>
                  rw [hrr] at hag hfar
                  simp only [Agree, WR.mk.injEq] at hag
                  simp only [RR.far] at hfar
                  obtain ⟨rfl, rfl, rfl, rfl⟩ := hag
                  exact ⟨rfl, by simp; omega, hfar.2.1, hfar.2.2, by dsimp only; omega, by dsimp only; omega, hI⟩
              · rw [decide_eq_false hw0] at hI
                exact .inr ⟨hw0, hI⟩
    · refine (x_good_no s st _ b p1 n1 flt hlt hbad).use (wkL_refl _) fun _ => ?_
      simp only [gwL, gwB, gwD, gwE, gwS, gwTT, gwZ, gwN, gwC, Nat.reduceEqDiff, ↓reduceIte, Nat.reduceAdd, Nat.reduceLT, Nat.reduceLeDiff, Nat.reduceMul, at_k, at_k0, set_k, set_k0, List.length_set, zeroD]
      exact hd _ hI rfl
  rw [h]
  have h39 : decide ((c.toNat : Int) = 39) = decide (c = 39) := byte_eq c 39
  simp only [gwL, gwB, gwD, gwE, gwS, gwTT, gwZ, gwN, gwC, Nat.reduceEqDiff, ↓reduceIte, Nat.reduceAdd, Nat.reduceLT, Nat.reduceLeDiff, Nat.reduceMul, h39]
  try simp only [cond_false]
  clear h
  refine iK_split (fun h => ?_) (fun h => ?_)
  · rw [h]
    try simp only [cond_true]
    have hwr : IntKind.i64.wrap (deep + 1) = deep + 1 := wrap_i64 (by omega) (by omega)
    simp only [gwL, gwB, gwD, gwE, gwS, gwTT, gwZ, gwN, gwC, Nat.reduceEqDiff, ↓reduceIte, Nat.reduceAdd, Nat.reduceLT, Nat.reduceLeDiff, Nat.reduceMul, hwr]
    refine (x_count s st _ b (p + 1) (n + 1) (0, 0) hlt (deep + 1) p (by omega)).use (wkL_refl _) fun _ => ?_
    simp only [gwL, gwB, gwD, gwE, gwS, gwTT, gwZ, gwN, gwC, Nat.reduceEqDiff, ↓reduceIte, Nat.reduceAdd, Nat.reduceLT, Nat.reduceLeDiff, Nat.reduceMul]
    cases h1 : (decide (2000 < n + 2) || decide (40 < deep + 1)) with
    | true =>
      simp only [cond_true, keep0]
      refine (x_good_no s st _ b (p + 1) (n + 2) (4, p) hlt (by simp)).use (wkL_refl _) fun _ => ?_
      simp only [gwL, gwB, gwD, gwE, gwS, gwTT, gwZ, gwN, gwC, Nat.reduceEqDiff, ↓reduceIte, Nat.reduceAdd, Nat.reduceLT, Nat.reduceLeDiff, Nat.reduceMul, at_k, at_k0, set_k, set_k0, List.length_set, Bool.not_false]
      exact hret ⟨zeroDt, p + 1, n + 2, (4, p)⟩ _ _ hz
    | false =>
      have hn2 : n + 2 ≤ 2000 := by simp at h1; omega
      simp only [cond_false]
      refine (x_good_yes s st _ b (p + 1) (n + 2) (0, 0) hlt rfl).use (wkL_refl _) fun _ => ?_
      simp only [gwL, gwB, gwD, gwE, gwS, gwTT, gwZ, gwN, gwC, Nat.reduceEqDiff, ↓reduceIte, Nat.reduceAdd, Nat.reduceLT, Nat.reduceLeDiff, Nat.reduceMul, Bool.not_true]
      refine (x_skip s st _ b (p + 1) (n + 2) (0, 0) hlt (by omega) hs).use (wkL_refl _) fun _ => ?_
      have hbl := blk_le (s.drop (p + 1)) false
      simp only [List.length_drop] at hbl
      generalize hq : s.length - (blk false (s.drop (p + 1))).length = p2
      simp only [gwL, gwB, gwD, gwE, gwS, gwTT, gwZ, gwN, gwC, Nat.reduceEqDiff, ↓reduceIte, Nat.reduceAdd, Nat.reduceLT, Nat.reduceLeDiff, Nat.reduceMul]
      refine (c_Sym _ [113, 117, 111, 116, 101]).use (wkL_refl _) fun _ => ?_
      simp only [gwL, gwB, gwD, gwE, gwS, gwTT, gwZ, gwN, gwC, Nat.reduceEqDiff, ↓reduceIte, Nat.reduceAdd, Nat.reduceLT, Nat.reduceLeDiff, Nat.reduceMul, hwr]
      refine (ih F (by omega) (deep + 1) p2 (n + 2) st _ b hlt (by omega) hn2 (by omega) (by omega) (by omega)).use (wkL_refl _) fun _ => ?_
      generalize wdD s F (deep + 1) p2 (n + 2) = w
      simp only [gwL, gwB, gwD, gwE, gwS, gwTT, gwZ, gwN, gwC, Nat.reduceEqDiff, ↓reduceIte, Nat.reduceAdd, Nat.reduceLT, Nat.reduceLeDiff, Nat.reduceMul, encD_take, encD_len, encD_drop, Nat.le_refl]
      refine (c_List _ [.mk 3 0 quoteS 0 0 [], w.d]).use (wkL_refl _) fun _ => ?_
      simp only [gwL, gwB, gwD, gwE, gwS, gwTT, gwZ, gwN, gwC, Nat.reduceEqDiff, ↓reduceIte, Nat.reduceAdd, Nat.reduceLT, Nat.reduceLeDiff, Nat.reduceMul, at_k, at_k0, set_k, set_k0, List.length_set, encD_take, encD_len, encD_drop, Nat.le_refl]
      exact hret ⟨quoteD w.d, w.p, w.n, w.f⟩ _ _ (wk_refl _)
  rw [h]
  have h35 : decide ((c.toNat : Int) = 35) = decide (c = 35) := byte_eq c 35
  simp only [gwL, gwB, gwD, gwE, gwS, gwTT, gwZ, gwN, gwC, Nat.reduceEqDiff, ↓reduceIte, Nat.reduceAdd, Nat.reduceLT, Nat.reduceLeDiff, Nat.reduceMul, h35]
  try simp only [cond_false]
  clear h
  refine iK_split (fun h => ?_) (fun h => ?_)
  · rw [h]
    try simp only [cond_true]
    simp only [gwL, gwB, gwD, gwE, gwS, gwTT, gwZ, gwN, gwC, Nat.reduceEqDiff, ↓reduceIte, Nat.reduceAdd, Nat.reduceLT, Nat.reduceLeDiff, Nat.reduceMul, at_w hlt, next_i64 (show p + 1 < s.length + 1 by omega) (show s.length + 1 ≤ 9223372036854775807 by omega)]
    refine vdraw TT_ok TT_mixed [0, 0, 0, 0, 1, 0, 0, 0, 0, 0, 0, 1, 0, 0, 0, 1, 0, 0, 0, 0, 0, 0, 1, 0, 0, 0, 1, 0, 0, 0, 0, 0, 0, 0, 0, 0, 1, 0, 0, 0, 0, 0, 0, 1, 0, 0, 0, 0, 0, 0] (by kernel_rfl) ?_
    rcases at_or_end s (p + 1) (by omega) with ⟨hpe, hdr2⟩ | ⟨t, hltt, hgett, hdr2⟩
    · have hle : decide (((p + 2 : Nat) : Int) ≤ (s.length : Int)) = false := decide_eq_false (by omega)
      rw [hdr2]
      simp only [wdB]
      simp only [gwL, gwB, gwD, gwE, gwS, gwTT, gwZ, gwN, gwC, Nat.reduceEqDiff, ↓reduceIte, Nat.reduceAdd, Nat.reduceLT, Nat.reduceLeDiff, Nat.reduceMul, at_w hlt, hle, Bool.false_and]
      refine eK_free (fun st => c_Letter st (s.getD (p + 2) 0)) (wkL_refl _) ?_
      simp only [gwL, gwB, gwD, gwE, gwS, gwTT, gwZ, gwN, gwC, Nat.reduceEqDiff, ↓reduceIte, Nat.reduceAdd, Nat.reduceLT, Nat.reduceLeDiff, Nat.reduceMul]
      refine (x_stop s st _ b (p + 1) (n + 1) (0, 0) hlt 2 p).use (wkL_refl _) fun _ => ?_
      simp only [keep0]
      simp only [gwL, gwB, gwD, gwE, gwS, gwTT, gwZ, gwN, gwC, Nat.reduceEqDiff, ↓reduceIte, Nat.reduceAdd, Nat.reduceLT, Nat.reduceLeDiff, Nat.reduceMul, at_k, at_k0, set_k, set_k0, List.length_set]
      exact hret ⟨zeroDt, p + 1, n + 1, (2, p)⟩ _ _ hz
    · have e1 : decide ((t.toNat : Int) = 116) = decide (t = 116) := byte_eq t 116
      have e2 : decide ((t.toNat : Int) = 102) = decide (t = 102) := byte_eq t 102
      have hle : decide (((p + 2 : Nat) : Int) ≤ (s.length : Int)) = true := decide_eq_true (by omega)
      have hsub : IntKind.i64.wrap (((p + 2 : Nat) : Int) - 1) = ((p + 1 : Nat) : Int) := by rw [wrap_i64 (by omega) (by omega)]; omega
      rw [hdr2]
      simp only [wdB]
      simp only [gwL, gwB, gwD, gwE, gwS, gwTT, gwZ, gwN, gwC, Nat.reduceEqDiff, ↓reduceIte, Nat.reduceAdd, Nat.reduceLT, Nat.reduceLeDiff, Nat.reduceMul, at_w hlt, hle, getD_at hgett, Int.ofNat_lt.mpr hltt, e1, e2]
      refine ⟨fun hg => ?_, ?_⟩
      · simp only [Bool.and_eq_true, Bool.not_eq_true', decide_eq_false_iff_not] at hg
        omega
      refine eK_free (fun st => c_Letter st (s.getD (p + 2) 0)) (wkL_refl _) ?_
      simp only [gwL, gwB, gwD, gwE, gwS, gwTT, gwZ, gwN, gwC, Nat.reduceEqDiff, ↓reduceIte, Nat.reduceAdd, Nat.reduceLT, Nat.reduceLeDiff, Nat.reduceMul]
      cases h2 : (decide (t = 116) || decide (t = 102)) with
      | false =>
        simp only [gwL, gwB, gwD, gwE, gwS, gwTT, gwZ, gwN, gwC, Nat.reduceEqDiff, ↓reduceIte, Nat.reduceAdd, Nat.reduceLT, Nat.reduceLeDiff, Nat.reduceMul, Bool.false_and]
        refine (x_stop s st _ b (p + 1) (n + 1) (0, 0) hlt 2 p).use (wkL_refl _) fun _ => ?_
        simp only [keep0]
        simp only [gwL, gwB, gwD, gwE, gwS, gwTT, gwZ, gwN, gwC, Nat.reduceEqDiff, ↓reduceIte, Nat.reduceAdd, Nat.reduceLT, Nat.reduceLeDiff, Nat.reduceMul, at_k, at_k0, set_k, set_k0, List.length_set]
        exact hret ⟨zeroDt, p + 1, n + 1, (2, p)⟩ _ _ hz
      | true =>
        simp only [cond_true]
        rcases at_or_end s (p + 2) (by omega) with ⟨hpe, hdr3⟩ | ⟨u, hltu, hgetu, hdr3⟩
        · have heq : decide (((p + 2 : Nat) : Int) = (s.length : Int)) = true := decide_eq_true (by omega)
          rw [heq, hdr3]
          simp only [gwL, gwB, gwD, gwE, gwS, gwTT, gwZ, gwN, gwC, Nat.reduceEqDiff, ↓reduceIte, Nat.reduceAdd, Nat.reduceLT, Nat.reduceLeDiff, Nat.reduceMul, Bool.true_and, Bool.true_or]
          simp only [gwL, gwB, gwD, gwE, gwS, gwTT, gwZ, gwN, gwC, Nat.reduceEqDiff, ↓reduceIte, Nat.reduceAdd, Nat.reduceLT, Nat.reduceLeDiff, Nat.reduceMul, at_w hlt, set_b hlt]
          simp only [hE0]
          simp only [gwL, gwB, gwD, gwE, gwS, gwTT, gwZ, gwN, gwC, Nat.reduceEqDiff, ↓reduceIte, Nat.reduceAdd, Nat.reduceLT, Nat.reduceLeDiff, Nat.reduceMul, at_w hlt, hsub, getD_at hgett, Int.ofNat_lt.mpr hltt, e1]
          refine iK_split (fun h5 => ?_) (fun h5 => ?_)
          · rw [h5]
            simp only [gwL, gwB, gwD, gwE, gwS, gwTT, gwZ, gwN, gwC, Nat.reduceEqDiff, ↓reduceIte, Nat.reduceAdd, Nat.reduceLT, Nat.reduceLeDiff, Nat.reduceMul, at_k, at_k0, set_k, set_k0, List.length_set]
            exact hret ⟨.mk 2 1 [] 0 0 [], p + 1 + 1, n + 1, (0, 0)⟩ _ _ (wk_agg (by rw [encD_mk]; exact wk6 ..))
          · rw [h5]
            simp only [gwL, gwB, gwD, gwE, gwS, gwTT, gwZ, gwN, gwC, Nat.reduceEqDiff, ↓reduceIte, Nat.reduceAdd, Nat.reduceLT, Nat.reduceLeDiff, Nat.reduceMul, at_k, at_k0, set_k, set_k0, List.length_set]
            exact hret ⟨.mk 2 0 [] 0 0 [], p + 1 + 1, n + 1, (0, 0)⟩ _ _ (wk_agg (by rw [encD_mk]; exact wk6 ..))
        · have heq : decide (((p + 2 : Nat) : Int) = (s.length : Int)) = false := decide_eq_false (by omega)
          rw [heq, hdr3, getD_at hgetu]
          dsimp only
          cases h4 : letterB u with
          | true =>
            simp only [gwL, gwB, gwD, gwE, gwS, gwTT, gwZ, gwN, gwC, Nat.reduceEqDiff, ↓reduceIte, Nat.reduceAdd, Nat.reduceLT, Nat.reduceLeDiff, Nat.reduceMul, Bool.true_and, Bool.false_or, Bool.not_true]
            refine (x_stop s st _ b (p + 1) (n + 1) (0, 0) hlt 2 p).use (wkL_refl _) fun _ => ?_
            simp only [keep0]
            simp only [gwL, gwB, gwD, gwE, gwS, gwTT, gwZ, gwN, gwC, Nat.reduceEqDiff, ↓reduceIte, Nat.reduceAdd, Nat.reduceLT, Nat.reduceLeDiff, Nat.reduceMul, at_k, at_k0, set_k, set_k0, List.length_set]
            exact hret ⟨zeroDt, p + 1, n + 1, (2, p)⟩ _ _ hz
          | false =>
            simp only [gwL, gwB, gwD, gwE, gwS, gwTT, gwZ, gwN, gwC, Nat.reduceEqDiff, ↓reduceIte, Nat.reduceAdd, Nat.reduceLT, Nat.reduceLeDiff, Nat.reduceMul, Bool.true_and, Bool.false_or, Bool.not_false]
            simp only [gwL, gwB, gwD, gwE, gwS, gwTT, gwZ, gwN, gwC, Nat.reduceEqDiff, ↓reduceIte, Nat.reduceAdd, Nat.reduceLT, Nat.reduceLeDiff, Nat.reduceMul, at_w hlt, set_b hlt]
            simp only [hE0]
            simp only [gwL, gwB, gwD, gwE, gwS, gwTT, gwZ, gwN, gwC, Nat.reduceEqDiff, ↓reduceIte, Nat.reduceAdd, Nat.reduceLT, Nat.reduceLeDiff, Nat.reduceMul, at_w hlt, hsub, getD_at hgett, Int.ofNat_lt.mpr hltt, e1]
            refine iK_split (fun h5 => ?_) (fun h5 => ?_)
            · rw [h5]
              simp only [gwL, gwB, gwD, gwE, gwS, gwTT, gwZ, gwN, gwC, Nat.reduceEqDiff, ↓reduceIte, Nat.reduceAdd, Nat.reduceLT, Nat.reduceLeDiff, Nat.reduceMul, at_k, at_k0, set_k, set_k0, List.length_set]
              exact hret ⟨.mk 2 1 [] 0 0 [], p + 1 + 1, n + 1, (0, 0)⟩ _ _ (wk_agg (by rw [encD_mk]; exact wk6 ..))
            · rw [h5]
              simp only [gwL, gwB, gwD, gwE, gwS, gwTT, gwZ, gwN, gwC, Nat.reduceEqDiff, ↓reduceIte, Nat.reduceAdd, Nat.reduceLT, Nat.reduceLeDiff, Nat.reduceMul, at_k, at_k0, set_k, set_k0, List.length_set]
              exact hret ⟨.mk 2 0 [] 0 0 [], p + 1 + 1, n + 1, (0, 0)⟩ _ _ (wk_agg (by rw [encD_mk]; exact wk6 ..))
  rw [h]
  simp only [gwL, gwB, gwD, gwE, gwS, gwTT, gwZ, gwN, gwC, Nat.reduceEqDiff, ↓reduceIte, Nat.reduceAdd, Nat.reduceLT, Nat.reduceLeDiff, Nat.reduceMul]
  try simp only [cond_false]
  clear h
  refine (c_Letter _ c).use (wkL_refl _) fun _ => ?_
  simp only [gwL, gwB, gwD, gwE, gwS, gwTT, gwZ, gwN, gwC, Nat.reduceEqDiff, ↓reduceIte, Nat.reduceAdd, Nat.reduceLT, Nat.reduceLeDiff, Nat.reduceMul]
  cases hlc : letterB c with
  | false =>
    simp only [gwL, gwB, gwD, gwE, gwS, gwTT, gwZ, gwN, gwC, Nat.reduceEqDiff, ↓reduceIte, Nat.reduceAdd, Nat.reduceLT, Nat.reduceLeDiff, Nat.reduceMul, Bool.not_false]
    try simp only [cond_false]
    refine (x_stop s st _ b (p + 1) (n + 1) (0, 0) hlt 2 p).use (wkL_refl _) fun _ => ?_
    simp only [keep0]
    simp only [gwL, gwB, gwD, gwE, gwS, gwTT, gwZ, gwN, gwC, Nat.reduceEqDiff, ↓reduceIte, Nat.reduceAdd, Nat.reduceLT, Nat.reduceLeDiff, Nat.reduceMul, at_k, at_k0, set_k, set_k0, List.length_set]
    exact hret ⟨zeroDt, p + 1, n + 1, (2, p)⟩ _ _ hz
  | true =>
    simp only [gwL, gwB, gwD, gwE, gwS, gwTT, gwZ, gwN, gwC, Nat.reduceEqDiff, ↓reduceIte, Nat.reduceAdd, Nat.reduceLT, Nat.reduceLeDiff, Nat.reduceMul, Bool.not_true]
    try simp only [cond_true]
    refine vfor (σ := Nat) [0, 1, 4, 5] (fun y => [(0, true, .ptr b 0), (1, true, .int .i64 deep), (4, true, .ptr st.length 0), (5, true, .int .i64 p)]) (fun y => st.set b (wkN s y (n + 1) (0, 0)) ++ [.box zeroD]) (fun y => s.length - y) (fun y => p + 1 ≤ y ∧ y ≤ s.length ∧ y + ((s.drop y).takeWhile letterB).length = p + 1 + ((s.drop (p + 1)).takeWhile letterB).length) (p + 1) rfl TT_ok ⟨Nat.le_refl _, by omega, rfl⟩ rfl rfl ?_
    rintro y ⟨hy1, hy2, hy3⟩
    simp only [gwL, gwB, gwD, gwE, gwS, gwTT, gwZ, gwN, gwC, Nat.reduceEqDiff, ↓reduceIte, Nat.reduceAdd, Nat.reduceLT, Nat.reduceLeDiff, Nat.reduceMul]
    refine vdraw TT_ok TT_mixed [0, 0, 0, 1, 0, 0, 0, 1, 0, 0, 0, 0, 0, 0, 1, 0, 0, 0, 1, 0, 0, 0] (by kernel_rfl) ?_
    rcases at_or_end s y hy2 with ⟨hye, hdry⟩ | ⟨u, hlty, hgety, hdry⟩
    · have hlt1 : decide ((y : Int) < (s.length : Int)) = false := decide_eq_false (by omega)
      simp only [gwL, gwB, gwD, gwE, gwS, gwTT, gwZ, gwN, gwC, Nat.reduceEqDiff, ↓reduceIte, Nat.reduceAdd, Nat.reduceLT, Nat.reduceLeDiff, Nat.reduceMul, at_w hlt, hlt1]
      refine eK_free (fun st => c_Letter st (s.getD y 0)) (wkL_refl _) ?_
      simp only [gwL, gwB, gwD, gwE, gwS, gwTT, gwZ, gwN, gwC, Nat.reduceEqDiff, ↓reduceIte, Nat.reduceAdd, Nat.reduceLT, Nat.reduceLeDiff, Nat.reduceMul]
      have hyE : y = p + 1 + ((s.drop (p + 1)).takeWhile letterB).length := by rw [hdry] at hy3; simpa using hy3
      refine vdraw TT_ok TT_mixed [0, 0, 0, 1, 0, 0, 0, 0, 1, 0, 0] (by kernel_rfl) ?_
      have hsl := word_slice hdr
      rw [← hyE] at hsl
      have hwl : (c :: (s.drop (p + 1)).takeWhile letterB).length ≤ 6000 := by have := takeWhile_le (l := s.drop (p + 1)); simp only [List.length_cons]; omega
      have hyE2 : p + (1 + ((s.drop (p + 1)).takeWhile letterB).length) = y := by omega
      rw [hyE2]
      simp only [gwL, gwB, gwD, gwE, gwS, gwTT, gwZ, gwN, gwC, Nat.reduceEqDiff, ↓reduceIte, Nat.reduceAdd, Nat.reduceLT, Nat.reduceLeDiff, Nat.reduceMul, at_w hlt, Int.toNat_natCast, hsl]
      refine ⟨by omega, ?_⟩
      generalize hw : c :: (s.drop (p + 1)).takeWhile letterB = w at hwl
      refine (c_Looks _ w).use (wkL_refl _) fun _ => ?_
      simp only [wdA]
      simp only [gwL, gwB, gwD, gwE, gwS, gwTT, gwZ, gwN, gwC, Nat.reduceEqDiff, ↓reduceIte, Nat.reduceAdd, Nat.reduceLT, Nat.reduceLeDiff, Nat.reduceMul]
      cases hlo : looksB w with
      | false =>
        simp only [gwL, gwB, gwD, gwE, gwS, gwTT, gwZ, gwN, gwC, Nat.reduceEqDiff, ↓reduceIte, Nat.reduceAdd, Nat.reduceLT, Nat.reduceLeDiff, Nat.reduceMul, Bool.not_false]
        try simp only [cond_false]
        refine iK_split (fun h5 => ?_) (fun h5 => ?_)
        · rw [h5]
          simp only [gwL, gwB, gwD, gwE, gwS, gwTT, gwZ, gwN, gwC, Nat.reduceEqDiff, ↓reduceIte, Nat.reduceAdd, Nat.reduceLT, Nat.reduceLeDiff, Nat.reduceMul]
          refine (x_stop s st _ b y (n + 1) (0, 0) hlt 7 p).use (wkL_refl _) fun _ => ?_
          simp only [keep0, cond_true]
          simp only [gwL, gwB, gwD, gwE, gwS, gwTT, gwZ, gwN, gwC, Nat.reduceEqDiff, ↓reduceIte, Nat.reduceAdd, Nat.reduceLT, Nat.reduceLeDiff, Nat.reduceMul]
          refine (c_Sym _ w).use (wkL_refl _) fun _ => ?_
          simp only [gwL, gwB, gwD, gwE, gwS, gwTT, gwZ, gwN, gwC, Nat.reduceEqDiff, ↓reduceIte, Nat.reduceAdd, Nat.reduceLT, Nat.reduceLeDiff, Nat.reduceMul, at_k, at_k0, set_k, set_k0, List.length_set, zeroD, encD_take, encD_len, encD_drop, Nat.le_refl]
          exact hret ⟨.mk 3 0 w 0 0 [], y, n + 1, (7, p)⟩ _ _ (wk_refl _)
        · rw [h5]
          simp only [gwL, gwB, gwD, gwE, gwS, gwTT, gwZ, gwN, gwC, Nat.reduceEqDiff, ↓reduceIte, Nat.reduceAdd, Nat.reduceLT, Nat.reduceLeDiff, Nat.reduceMul]
          refine (c_Sym _ w).use (wkL_refl _) fun _ => ?_
          try simp only [cond_false]
          simp only [gwL, gwB, gwD, gwE, gwS, gwTT, gwZ, gwN, gwC, Nat.reduceEqDiff, ↓reduceIte, Nat.reduceAdd, Nat.reduceLT, Nat.reduceLeDiff, Nat.reduceMul, at_k, at_k0, set_k, set_k0, List.length_set, zeroD, encD_take, encD_len, encD_drop, Nat.le_refl]
          exact hret ⟨.mk 3 0 w 0 0 [], y, n + 1, (0, 0)⟩ _ _ (wk_refl _)
      | true =>
        simp only [gwL, gwB, gwD, gwE, gwS, gwTT, gwZ, gwN, gwC, Nat.reduceEqDiff, ↓reduceIte, Nat.reduceAdd, Nat.reduceLT, Nat.reduceLeDiff, Nat.reduceMul, Bool.not_true]
        try simp only [cond_true]
        refine iK_split (fun h5 => ?_) (fun h5 => ?_)
        · rw [h5]
          simp only [gwL, gwB, gwD, gwE, gwS, gwTT, gwZ, gwN, gwC, Nat.reduceEqDiff, ↓reduceIte, Nat.reduceAdd, Nat.reduceLT, Nat.reduceLeDiff, Nat.reduceMul]
          refine (x_stop s st _ b y (n + 1) (0, 0) hlt 3 p).use (wkL_refl _) fun _ => ?_
          simp only [keep0, cond_true]
          simp only [gwL, gwB, gwD, gwE, gwS, gwTT, gwZ, gwN, gwC, Nat.reduceEqDiff, ↓reduceIte, Nat.reduceAdd, Nat.reduceLT, Nat.reduceLeDiff, Nat.reduceMul, at_k, at_k0, set_k, set_k0, List.length_set, zeroD]
          exact hret ⟨zeroDt, y, n + 1, (3, p)⟩ _ _ hz
        · rw [h5]
          simp only [gwL, gwB, gwD, gwE, gwS, gwTT, gwZ, gwN, gwC, Nat.reduceEqDiff, ↓reduceIte, Nat.reduceAdd, Nat.reduceLT, Nat.reduceLeDiff, Nat.reduceMul, convV, Nat.lt_irrefl]
          have h17 : w.length ≤ 17 := by simp at h5; omega
          have hbl : (byteRows w).length = w.length := by simp [byteRows]
          obtain ⟨a0, ha0, hnv⟩ := val_end hlo
          have hlw := val_lt hlo h17
          refine vfor (σ := Nat) [0, 4, 5, 9, 10, 260, 261, 262] (fun i => [(0, true, .ptr b 0), (4, true, .ptr st.length 0), (5, true, .int .i64 p), (9, true, .str w), (10, true, .int .i64 (valW (w.take i))), (260, true, .lst 1 none (byteRows w)), (261, true, .int .i64 (byteRows w).length), (262, true, .int .i64 i)]) (fun i => st.set b (wkN s y (n + 1) (0, 0)) ++ [.box zeroD]) (fun i => w.length - i) (fun i => i ≤ w.length) 0 rfl TT_ok (Nat.zero_le _) rfl rfl ?_
          rintro i hi
          rcases at_or_end w i hi with ⟨rfl, hdw⟩ | ⟨a, hlti, hgeti, hdw⟩
          · rw [hbl]
            simp only [gwL, gwB, gwD, gwE, gwS, gwTT, gwZ, gwN, gwC, Nat.reduceEqDiff, ↓reduceIte, Nat.reduceAdd, Nat.reduceLT, Nat.reduceLeDiff, Nat.reduceMul, lt_no]
            have hpos : (0 : Int) < (w.length : Int) := by have := (List.getElem?_eq_some_iff.1 ha0).1; omega
            have hvl := hlw w.length
            rw [List.take_length] at hvl ⊢
            have a45 : decide ((a0.toNat : Int) = 45) = decide (a0 = 45) := byte_eq a0 45
            have hb : decide ((1000000000000000 : Int) < (valW w : Int)) = (decide (1000000000000000 < numV w) || decide (numV w < -1000000000000000)) := by
              rw [hnv]
              by_cases h45 : a0 = 45
              · simp only [h45, if_true]
                by_cases hv : (1000000000000000 : Int) < (valW w : Int)
                · simp [hv]
                · simp only [decide_eq_false hv]
                  first | (simp; done) | (simp; omega)
              · simp only [h45, if_false]
                by_cases hv : (1000000000000000 : Int) < (valW w : Int)
                · simp [hv]
                · simp only [decide_eq_false hv]
                  first | (simp; done) | (simp; omega)
            have hneg : IntKind.i64.wrap (0 - (valW w : Int)) = -(valW w : Int) := by rw [wrap_i64 (by omega) (by omega)]; omega
            rw [hb]
            refine iK_split (fun h6 => ?_) (fun h6 => ?_)
            · rw [h6]
              simp only [gwL, gwB, gwD, gwE, gwS, gwTT, gwZ, gwN, gwC, Nat.reduceEqDiff, ↓reduceIte, Nat.reduceAdd, Nat.reduceLT, Nat.reduceLeDiff, Nat.reduceMul]
              refine (x_stop s st _ b y (n + 1) (0, 0) hlt 3 p).use (wkL_refl _) fun _ => ?_
              simp only [keep0, cond_true]
              simp only [gwL, gwB, gwD, gwE, gwS, gwTT, gwZ, gwN, gwC, Nat.reduceEqDiff, ↓reduceIte, Nat.reduceAdd, Nat.reduceLT, Nat.reduceLeDiff, Nat.reduceMul, getD_at ha0, Int.toNat_zero, hpos, a45, Int.le_refl]
              refine iK_split (fun h7 => ?_) (fun h7 => ?_)
              · simp only [gwL, gwB, gwD, gwE, gwS, gwTT, gwZ, gwN, gwC, Nat.reduceEqDiff, ↓reduceIte, Nat.reduceAdd, Nat.reduceLT, Nat.reduceLeDiff, Nat.reduceMul, hneg]
                refine (c_Num _ (-(valW w : Int))).use (wkL_refl _) fun _ => ?_
                simp only [gwL, gwB, gwD, gwE, gwS, gwTT, gwZ, gwN, gwC, Nat.reduceEqDiff, ↓reduceIte, Nat.reduceAdd, Nat.reduceLT, Nat.reduceLeDiff, Nat.reduceMul, at_k, at_k0, set_k, set_k0, List.length_set, zeroD, encD_take, encD_len, encD_drop, Nat.le_refl]
                rw [if_pos (of_decide_eq_true h7)] at hnv
                rw [hnv]
                exact hret ⟨.mk 1 (-(valW w : Int)) [] 0 0 [], y, n + 1, (3, p)⟩ _ _ (wk_refl _)
              · simp only [gwL, gwB, gwD, gwE, gwS, gwTT, gwZ, gwN, gwC, Nat.reduceEqDiff, ↓reduceIte, Nat.reduceAdd, Nat.reduceLT, Nat.reduceLeDiff, Nat.reduceMul]
                refine (c_Num _ (valW w : Int)).use (wkL_refl _) fun _ => ?_
                simp only [gwL, gwB, gwD, gwE, gwS, gwTT, gwZ, gwN, gwC, Nat.reduceEqDiff, ↓reduceIte, Nat.reduceAdd, Nat.reduceLT, Nat.reduceLeDiff, Nat.reduceMul, at_k, at_k0, set_k, set_k0, List.length_set, zeroD, encD_take, encD_len, encD_drop, Nat.le_refl]
                rw [if_neg (of_decide_eq_false h7)] at hnv
                rw [hnv]
                exact hret ⟨.mk 1 (valW w : Int) [] 0 0 [], y, n + 1, (3, p)⟩ _ _ (wk_refl _)
            · rw [h6]
              try simp only [cond_false]
              simp only [gwL, gwB, gwD, gwE, gwS, gwTT, gwZ, gwN, gwC, Nat.reduceEqDiff, ↓reduceIte, Nat.reduceAdd, Nat.reduceLT, Nat.reduceLeDiff, Nat.reduceMul, getD_at ha0, Int.toNat_zero, hpos, a45, Int.le_refl]
              refine iK_split (fun h7 => ?_) (fun h7 => ?_)
              · simp only [gwL, gwB, gwD, gwE, gwS, gwTT, gwZ, gwN, gwC, Nat.reduceEqDiff, ↓reduceIte, Nat.reduceAdd, Nat.reduceLT, Nat.reduceLeDiff, Nat.reduceMul, hneg]
                refine (c_Num _ (-(valW w : Int))).use (wkL_refl _) fun _ => ?_
                simp only [gwL, gwB, gwD, gwE, gwS, gwTT, gwZ, gwN, gwC, Nat.reduceEqDiff, ↓reduceIte, Nat.reduceAdd, Nat.reduceLT, Nat.reduceLeDiff, Nat.reduceMul, at_k, at_k0, set_k, set_k0, List.length_set, zeroD, encD_take, encD_len, encD_drop, Nat.le_refl]
                rw [if_pos (of_decide_eq_true h7)] at hnv
                rw [hnv]
                exact hret ⟨.mk 1 (-(valW w : Int)) [] 0 0 [], y, n + 1, (0, 0)⟩ _ _ (wk_refl _)
              · simp only [gwL, gwB, gwD, gwE, gwS, gwTT, gwZ, gwN, gwC, Nat.reduceEqDiff, ↓reduceIte, Nat.reduceAdd, Nat.reduceLT, Nat.reduceLeDiff, Nat.reduceMul]
                refine (c_Num _ (valW w : Int)).use (wkL_refl _) fun _ => ?_
                simp only [gwL, gwB, gwD, gwE, gwS, gwTT, gwZ, gwN, gwC, Nat.reduceEqDiff, ↓reduceIte, Nat.reduceAdd, Nat.reduceLT, Nat.reduceLeDiff, Nat.reduceMul, at_k, at_k0, set_k, set_k0, List.length_set, zeroD, encD_take, encD_len, encD_drop, Nat.le_refl]
                rw [if_neg (of_decide_eq_false h7)] at hnv
                rw [hnv]
                exact hret ⟨.mk 1 (valW w : Int) [] 0 0 [], y, n + 1, (0, 0)⟩ _ _ (wk_refl _)
          · rw [hbl]
            have hg : (byteRows w).getD i [] = [V.int .u8 a.toNat] := getD_map hgeti
            simp only [gwL, gwB, gwD, gwE, gwS, gwTT, gwZ, gwN, gwC, Nat.reduceEqDiff, ↓reduceIte, Nat.reduceAdd, Nat.reduceLT, Nat.reduceLeDiff, Nat.reduceMul, lt_yes hlti, hbl, hg, Int.ofNat_lt.mpr hlti]
            have a45 : decide ((a.toNat : Int) = 45) = decide (a = 45) := byte_eq a 45
            rw [a45]
            have hvn := val_next hgeti
            have hvi := hlw i
            refine iK_split (fun h6 => ?_) (fun h6 => ?_)
            · have hne : ¬ a = 45 := by simpa using h6
              rw [if_neg hne] at hvn
              have hdg := (looks_mem hlo (List.mem_of_getElem? hgeti)).resolve_left hne
              have hm : IntKind.i64.wrap (10 * (valW (w.take i) : Int)) = 10 * (valW (w.take i) : Int) := wrap_i64 (by omega) (by omega)
              have hs8 : IntKind.u8.wrap ((a.toNat : Int) - 48) = ((a.toNat - 48 : Nat) : Int) := by simp only [IntKind.wrap, IntKind.bits, IntKind.signed]; simp; omega
              have hcv : IntKind.i64.wrap ((a.toNat - 48 : Nat) : Int) = ((a.toNat - 48 : Nat) : Int) := wrap_i64 (by omega) (by omega)
              have hadd : IntKind.i64.wrap (10 * (valW (w.take i) : Int) + ((a.toNat - 48 : Nat) : Int)) = (valW (w.take (i + 1)) : Int) := by rw [wrap_i64 (by omega) (by omega), hvn]; omega
              simp only [gwL, gwB, gwD, gwE, gwS, gwTT, gwZ, gwN, gwC, Nat.reduceEqDiff, ↓reduceIte, Nat.reduceAdd, Nat.reduceLT, Nat.reduceLeDiff, Nat.reduceMul, hm, hs8, convV, hcv, hadd]
              simp only [gwL, gwB, gwD, gwE, gwS, gwTT, gwZ, gwN, gwC, Nat.reduceEqDiff, ↓reduceIte, Nat.reduceAdd, Nat.reduceLT, Nat.reduceLeDiff, Nat.reduceMul, Env.keep]
              rw [next_i64 hlti (by omega)]
              exact ⟨i + 1, rfl, by omega, by omega⟩
            · have hne : a = 45 := by simpa using h6
              rw [if_pos hne] at hvn
              simp only [gwL, gwB, gwD, gwE, gwS, gwTT, gwZ, gwN, gwC, Nat.reduceEqDiff, ↓reduceIte, Nat.reduceAdd, Nat.reduceLT, Nat.reduceLeDiff, Nat.reduceMul]
              simp only [gwL, gwB, gwD, gwE, gwS, gwTT, gwZ, gwN, gwC, Nat.reduceEqDiff, ↓reduceIte, Nat.reduceAdd, Nat.reduceLT, Nat.reduceLeDiff, Nat.reduceMul, Env.keep]
              rw [hvn.symm, next_i64 hlti (by omega)]
              exact ⟨i + 1, rfl, by omega, by omega⟩
    · simp only [gwL, gwB, gwD, gwE, gwS, gwTT, gwZ, gwN, gwC, Nat.reduceEqDiff, ↓reduceIte, Nat.reduceAdd, Nat.reduceLT, Nat.reduceLeDiff, Nat.reduceMul, at_w hlt, lt_yes hlty, getD_at hgety, Int.ofNat_lt.mpr hlty]
      refine eK_free (fun st => c_Letter st u) (wkL_refl _) ?_
      simp only [gwL, gwB, gwD, gwE, gwS, gwTT, gwZ, gwN, gwC, Nat.reduceEqDiff, ↓reduceIte, Nat.reduceAdd, Nat.reduceLT, Nat.reduceLeDiff, Nat.reduceMul]
      refine iK_split (fun h4 => ?_) (fun h4 => ?_)
      · simp only [gwL, gwB, gwD, gwE, gwS, gwTT, gwZ, gwN, gwC, Nat.reduceEqDiff, ↓reduceIte, Nat.reduceAdd, Nat.reduceLT, Nat.reduceLeDiff, Nat.reduceMul, at_w hlt, set_b hlt, next_i64 hlty h63]
        simp only [gwL, gwB, gwD, gwE, gwS, gwTT, gwZ, gwN, gwC, Nat.reduceEqDiff, ↓reduceIte, Nat.reduceAdd, Nat.reduceLT, Nat.reduceLeDiff, Nat.reduceMul, Env.keep]
        simp only [hE0]
        rw [hdry, List.takeWhile_cons_of_pos h4, List.length_cons] at hy3
        exact ⟨y + 1, rfl, by omega, by omega, by omega, by omega⟩
      · simp only [gwL, gwB, gwD, gwE, gwS, gwTT, gwZ, gwN, gwC, Nat.reduceEqDiff, ↓reduceIte, Nat.reduceAdd, Nat.reduceLT, Nat.reduceLeDiff, Nat.reduceMul]
        have hyE : y = p + 1 + ((s.drop (p + 1)).takeWhile letterB).length := by rw [hdry, List.takeWhile_cons_of_neg (by simp [h4]), List.length_nil] at hy3; simpa using hy3
        refine vdraw TT_ok TT_mixed [0, 0, 0, 1, 0, 0, 0, 0, 1, 0, 0] (by kernel_rfl) ?_
        have hsl := word_slice hdr
        rw [← hyE] at hsl
        have hwl : (c :: (s.drop (p + 1)).takeWhile letterB).length ≤ 6000 := by have := takeWhile_le (l := s.drop (p + 1)); simp only [List.length_cons]; omega
        have hyE2 : p + (1 + ((s.drop (p + 1)).takeWhile letterB).length) = y := by omega
        rw [hyE2]
        simp only [gwL, gwB, gwD, gwE, gwS, gwTT, gwZ, gwN, gwC, Nat.reduceEqDiff, ↓reduceIte, Nat.reduceAdd, Nat.reduceLT, Nat.reduceLeDiff, Nat.reduceMul, at_w hlt, Int.toNat_natCast, hsl]
        refine ⟨by omega, ?_⟩
        generalize hw : c :: (s.drop (p + 1)).takeWhile letterB = w at hwl
        refine (c_Looks _ w).use (wkL_refl _) fun _ => ?_
        simp only [wdA]
        simp only [gwL, gwB, gwD, gwE, gwS, gwTT, gwZ, gwN, gwC, Nat.reduceEqDiff, ↓reduceIte, Nat.reduceAdd, Nat.reduceLT, Nat.reduceLeDiff, Nat.reduceMul]
        cases hlo : looksB w with
        | false =>
          simp only [gwL, gwB, gwD, gwE, gwS, gwTT, gwZ, gwN, gwC, Nat.reduceEqDiff, ↓reduceIte, Nat.reduceAdd, Nat.reduceLT, Nat.reduceLeDiff, Nat.reduceMul, Bool.not_false]
          try simp only [cond_false]
          refine iK_split (fun h5 => ?_) (fun h5 => ?_)
          · rw [h5]
            simp only [gwL, gwB, gwD, gwE, gwS, gwTT, gwZ, gwN, gwC, Nat.reduceEqDiff, ↓reduceIte, Nat.reduceAdd, Nat.reduceLT, Nat.reduceLeDiff, Nat.reduceMul]
            refine (x_stop s st _ b y (n + 1) (0, 0) hlt 7 p).use (wkL_refl _) fun _ => ?_
            simp only [keep0, cond_true]
            simp only [gwL, gwB, gwD, gwE, gwS, gwTT, gwZ, gwN, gwC, Nat.reduceEqDiff, ↓reduceIte, Nat.reduceAdd, Nat.reduceLT, Nat.reduceLeDiff, Nat.reduceMul]
            refine (c_Sym _ w).use (wkL_refl _) fun _ => ?_
            simp only [gwL, gwB, gwD, gwE, gwS, gwTT, gwZ, gwN, gwC, Nat.reduceEqDiff, ↓reduceIte, Nat.reduceAdd, Nat.reduceLT, Nat.reduceLeDiff, Nat.reduceMul, at_k, at_k0, set_k, set_k0, List.length_set, zeroD, encD_take, encD_len, encD_drop, Nat.le_refl]
            exact hret ⟨.mk 3 0 w 0 0 [], y, n + 1, (7, p)⟩ _ _ (wk_refl _)
          · rw [h5]
            simp only [gwL, gwB, gwD, gwE, gwS, gwTT, gwZ, gwN, gwC, Nat.reduceEqDiff, ↓reduceIte, Nat.reduceAdd, Nat.reduceLT, Nat.reduceLeDiff, Nat.reduceMul]
            refine (c_Sym _ w).use (wkL_refl _) fun _ => ?_
            try simp only [cond_false]
            simp only [gwL, gwB, gwD, gwE, gwS, gwTT, gwZ, gwN, gwC, Nat.reduceEqDiff, ↓reduceIte, Nat.reduceAdd, Nat.reduceLT, Nat.reduceLeDiff, Nat.reduceMul, at_k, at_k0, set_k, set_k0, List.length_set, zeroD, encD_take, encD_len, encD_drop, Nat.le_refl]
            exact hret ⟨.mk 3 0 w 0 0 [], y, n + 1, (0, 0)⟩ _ _ (wk_refl _)
        | true =>
          simp only [gwL, gwB, gwD, gwE, gwS, gwTT, gwZ, gwN, gwC, Nat.reduceEqDiff, ↓reduceIte, Nat.reduceAdd, Nat.reduceLT, Nat.reduceLeDiff, Nat.reduceMul, Bool.not_true]
          try simp only [cond_true]
          refine iK_split (fun h5 => ?_) (fun h5 => ?_)
          · rw [h5]
            simp only [gwL, gwB, gwD, gwE, gwS, gwTT, gwZ, gwN, gwC, Nat.reduceEqDiff, ↓reduceIte, Nat.reduceAdd, Nat.reduceLT, Nat.reduceLeDiff, Nat.reduceMul]
            refine (x_stop s st _ b y (n + 1) (0, 0) hlt 3 p).use (wkL_refl _) fun _ => ?_
            simp only [keep0, cond_true]
            simp only [gwL, gwB, gwD, gwE, gwS, gwTT, gwZ, gwN, gwC, Nat.reduceEqDiff, ↓reduceIte, Nat.reduceAdd, Nat.reduceLT, Nat.reduceLeDiff, Nat.reduceMul, at_k, at_k0, set_k, set_k0, List.length_set, zeroD]
            exact hret ⟨zeroDt, y, n + 1, (3, p)⟩ _ _ hz
          · rw [h5]
            simp only [gwL, gwB, gwD, gwE, gwS, gwTT, gwZ, gwN, gwC, Nat.reduceEqDiff, ↓reduceIte, Nat.reduceAdd, Nat.reduceLT, Nat.reduceLeDiff, Nat.reduceMul, convV, Nat.lt_irrefl]
            have h17 : w.length ≤ 17 := by simp at h5; omega
            have hbl : (byteRows w).length = w.length := by simp [byteRows]
            obtain ⟨a0, ha0, hnv⟩ := val_end hlo
            have hlw := val_lt hlo h17
            refine vfor (σ := Nat) [0, 4, 5, 9, 10, 260, 261, 262] (fun i => [(0, true, .ptr b 0), (4, true, .ptr st.length 0), (5, true, .int .i64 p), (9, true, .str w), (10, true, .int .i64 (valW (w.take i))), (260, true, .lst 1 none (byteRows w)), (261, true, .int .i64 (byteRows w).length), (262, true, .int .i64 i)]) (fun i => st.set b (wkN s y (n + 1) (0, 0)) ++ [.box zeroD]) (fun i => w.length - i) (fun i => i ≤ w.length) 0 rfl TT_ok (Nat.zero_le _) rfl rfl ?_
            rintro i hi
            rcases at_or_end w i hi with ⟨rfl, hdw⟩ | ⟨a, hlti, hgeti, hdw⟩
            · rw [hbl]
              simp only [gwL, gwB, gwD, gwE, gwS, gwTT, gwZ, gwN, gwC, Nat.reduceEqDiff, ↓reduceIte, Nat.reduceAdd, Nat.reduceLT, Nat.reduceLeDiff, Nat.reduceMul, lt_no]
              have hpos : (0 : Int) < (w.length : Int) := by have := (List.getElem?_eq_some_iff.1 ha0).1; omega
              have hvl := hlw w.length
              rw [List.take_length] at hvl ⊢
              have a45 : decide ((a0.toNat : Int) = 45) = decide (a0 = 45) := byte_eq a0 45
              have hb : decide ((1000000000000000 : Int) < (valW w : Int)) = (decide (1000000000000000 < numV w) || decide (numV w < -1000000000000000)) := by
                rw [hnv]
                by_cases h45 : a0 = 45
                · simp only [h45, if_true]
                  by_cases hv : (1000000000000000 : Int) < (valW w : Int)
                  · simp [hv]
                  · simp only [decide_eq_false hv]
                    first | (simp; done) | (simp; omega)
                · simp only [h45, if_false]
                  by_cases hv : (1000000000000000 : Int) < (valW w : Int)
                  · simp [hv]
                  · simp only [decide_eq_false hv]
                    first | (simp; done) | (simp; omega)
              have hneg : IntKind.i64.wrap (0 - (valW w : Int)) = -(valW w : Int) := by rw [wrap_i64 (by omega) (by omega)]; omega
              rw [hb]
              refine iK_split (fun h6 => ?_) (fun h6 => ?_)
              · rw [h6]
                simp only [gwL, gwB, gwD, gwE, gwS, gwTT, gwZ, gwN, gwC, Nat.reduceEqDiff, ↓reduceIte, Nat.reduceAdd, Nat.reduceLT, Nat.reduceLeDiff, Nat.reduceMul]
                refine (x_stop s st _ b y (n + 1) (0, 0) hlt 3 p).use (wkL_refl _) fun _ => ?_
                simp only [keep0, cond_true]
                simp only [gwL, gwB, gwD, gwE, gwS, gwTT, gwZ, gwN, gwC, Nat.reduceEqDiff, ↓reduceIte, Nat.reduceAdd, Nat.reduceLT, Nat.reduceLeDiff, Nat.reduceMul, getD_at ha0, Int.toNat_zero, hpos, a45, Int.le_refl]
                refine iK_split (fun h7 => ?_) (fun h7 => ?_)
                · simp only [gwL, gwB, gwD, gwE, gwS, gwTT, gwZ, gwN, gwC, Nat.reduceEqDiff, ↓reduceIte, Nat.reduceAdd, Nat.reduceLT, Nat.reduceLeDiff, Nat.reduceMul, hneg]
                  refine (c_Num _ (-(valW w : Int))).use (wkL_refl _) fun _ => ?_
                  simp only [gwL, gwB, gwD, gwE, gwS, gwTT, gwZ, gwN, gwC, Nat.reduceEqDiff, ↓reduceIte, Nat.reduceAdd, Nat.reduceLT, Nat.reduceLeDiff, Nat.reduceMul, at_k, at_k0, set_k, set_k0, List.length_set, zeroD, encD_take, encD_len, encD_drop, Nat.le_refl]
                  rw [if_pos (of_decide_eq_true h7)] at hnv
                  rw [hnv]
                  exact hret ⟨.mk 1 (-(valW w : Int)) [] 0 0 [], y, n + 1, (3, p)⟩ _ _ (wk_refl _)
                · simp only [gwL, gwB, gwD, gwE, gwS, gwTT, gwZ, gwN, gwC, Nat.reduceEqDiff, ↓reduceIte, Nat.reduceAdd, Nat.reduceLT, Nat.reduceLeDiff, Nat.reduceMul]
                  refine (c_Num _ (valW w : Int)).use (wkL_refl _) fun _ => ?_
                  simp only [gwL, gwB, gwD, gwE, gwS, gwTT, gwZ, gwN, gwC, Nat.reduceEqDiff, ↓reduceIte, Nat.reduceAdd, Nat.reduceLT, Nat.reduceLeDiff, Nat.reduceMul, at_k, at_k0, set_k, set_k0, List.length_set, zeroD, encD_take, encD_len, encD_drop, Nat.le_refl]
                  rw [if_neg (of_decide_eq_false h7)] at hnv
                  rw [hnv]
                  exact hret ⟨.mk 1 (valW w : Int) [] 0 0 [], y, n + 1, (3, p)⟩ _ _ (wk_refl _)
              · rw [h6]
                try simp only [cond_false]
                simp only [gwL, gwB, gwD, gwE, gwS, gwTT, gwZ, gwN, gwC, Nat.reduceEqDiff, ↓reduceIte, Nat.reduceAdd, Nat.reduceLT, Nat.reduceLeDiff, Nat.reduceMul, getD_at ha0, Int.toNat_zero, hpos, a45, Int.le_refl]
                refine iK_split (fun h7 => ?_) (fun h7 => ?_)
                · simp only [gwL, gwB, gwD, gwE, gwS, gwTT, gwZ, gwN, gwC, Nat.reduceEqDiff, ↓reduceIte, Nat.reduceAdd, Nat.reduceLT, Nat.reduceLeDiff, Nat.reduceMul, hneg]
                  refine (c_Num _ (-(valW w : Int))).use (wkL_refl _) fun _ => ?_
                  simp only [gwL, gwB, gwD, gwE, gwS, gwTT, gwZ, gwN, gwC, Nat.reduceEqDiff, ↓reduceIte, Nat.reduceAdd, Nat.reduceLT, Nat.reduceLeDiff, Nat.reduceMul, at_k, at_k0, set_k, set_k0, List.length_set, zeroD, encD_take, encD_len, encD_drop, Nat.le_refl]
                  rw [if_pos (of_decide_eq_true h7)] at hnv
                  rw [hnv]
                  exact hret ⟨.mk 1 (-(valW w : Int)) [] 0 0 [], y, n + 1, (0, 0)⟩ _ _ (wk_refl _)
                · simp only [gwL, gwB, gwD, gwE, gwS, gwTT, gwZ, gwN, gwC, Nat.reduceEqDiff, ↓reduceIte, Nat.reduceAdd, Nat.reduceLT, Nat.reduceLeDiff, Nat.reduceMul]
                  refine (c_Num _ (valW w : Int)).use (wkL_refl _) fun _ => ?_
                  simp only [gwL, gwB, gwD, gwE, gwS, gwTT, gwZ, gwN, gwC, Nat.reduceEqDiff, ↓reduceIte, Nat.reduceAdd, Nat.reduceLT, Nat.reduceLeDiff, Nat.reduceMul, at_k, at_k0, set_k, set_k0, List.length_set, zeroD, encD_take, encD_len, encD_drop, Nat.le_refl]
                  rw [if_neg (of_decide_eq_false h7)] at hnv
                  rw [hnv]
                  exact hret ⟨.mk 1 (valW w : Int) [] 0 0 [], y, n + 1, (0, 0)⟩ _ _ (wk_refl _)
            · rw [hbl]
              have hg : (byteRows w).getD i [] = [V.int .u8 a.toNat] := getD_map hgeti
              simp only [gwL, gwB, gwD, gwE, gwS, gwTT, gwZ, gwN, gwC, Nat.reduceEqDiff, ↓reduceIte, Nat.reduceAdd, Nat.reduceLT, Nat.reduceLeDiff, Nat.reduceMul, lt_yes hlti, hbl, hg, Int.ofNat_lt.mpr hlti]
              have a45 : decide ((a.toNat : Int) = 45) = decide (a = 45) := byte_eq a 45
              rw [a45]
              have hvn := val_next hgeti
              have hvi := hlw i
              refine iK_split (fun h6 => ?_) (fun h6 => ?_)
              · have hne : ¬ a = 45 := by simpa using h6
                rw [if_neg hne] at hvn
                have hdg := (looks_mem hlo (List.mem_of_getElem? hgeti)).resolve_left hne
                have hm : IntKind.i64.wrap (10 * (valW (w.take i) : Int)) = 10 * (valW (w.take i) : Int) := wrap_i64 (by omega) (by omega)
                have hs8 : IntKind.u8.wrap ((a.toNat : Int) - 48) = ((a.toNat - 48 : Nat) : Int) := by simp only [IntKind.wrap, IntKind.bits, IntKind.signed]; simp; omega
                have hcv : IntKind.i64.wrap ((a.toNat - 48 : Nat) : Int) = ((a.toNat - 48 : Nat) : Int) := wrap_i64 (by omega) (by omega)
                have hadd : IntKind.i64.wrap (10 * (valW (w.take i) : Int) + ((a.toNat - 48 : Nat) : Int)) = (valW (w.take (i + 1)) : Int) := by rw [wrap_i64 (by omega) (by omega), hvn]; omega
                simp only [gwL, gwB, gwD, gwE, gwS, gwTT, gwZ, gwN, gwC, Nat.reduceEqDiff, ↓reduceIte, Nat.reduceAdd, Nat.reduceLT, Nat.reduceLeDiff, Nat.reduceMul, hm, hs8, convV, hcv, hadd]
                simp only [gwL, gwB, gwD, gwE, gwS, gwTT, gwZ, gwN, gwC, Nat.reduceEqDiff, ↓reduceIte, Nat.reduceAdd, Nat.reduceLT, Nat.reduceLeDiff, Nat.reduceMul, Env.keep]
                rw [next_i64 hlti (by omega)]
                exact ⟨i + 1, rfl, by omega, by omega⟩
              · have hne : a = 45 := by simpa using h6
                rw [if_pos hne] at hvn
                simp only [gwL, gwB, gwD, gwE, gwS, gwTT, gwZ, gwN, gwC, Nat.reduceEqDiff, ↓reduceIte, Nat.reduceAdd, Nat.reduceLT, Nat.reduceLeDiff, Nat.reduceMul]
                simp only [gwL, gwB, gwD, gwE, gwS, gwTT, gwZ, gwN, gwC, Nat.reduceEqDiff, ↓reduceIte, Nat.reduceAdd, Nat.reduceLT, Nat.reduceLeDiff, Nat.reduceMul, Env.keep]
                rw [hvn.symm, next_i64 hlti (by omega)]
                exact ⟨i + 1, rfl, by omega, by omega⟩
end Go.Proofs.YtbnkfcjmcjiahaaDoor.Gx

namespace Go.Proofs.YtbnkfcjmcjiahaaDoor.Gx
open Go Go.Proofs.YtbnkfcjmcjiahaaDoor.Gw
set_option linter.unusedSimpArgs false
set_option linter.unusedVariables false

theorem c_One (s : Str) (hs : s.length ≤ 6000) : ∀ F, IHW s F
  | 0 => fun f h => by omega
  | F + 1 => fun f h deep p n st ex b h1 h2 h3 h4 h5 h6 => by
    rcases Nat.lt_or_ge f F with hl | hl
    · exact c_One s hs F f hl deep p n st ex b h1 h2 h3 h4 h5 h6
    · have : f = F := by omega
      subst this
      cases f with
      | zero => omega
      | succ f =>
        have := c_One_of s hs f (c_One s hs (f + 1)) deep p n (st ++ ex) b (by simp; omega) h2 h3 h4 h5 h6
        rw [set_app h1, set_app h1] at this
        exact this

theorem wd_le (s : Str) : ∀ F : Nat, (∀ (deep : Int) (p n : Nat), p ≤ s.length → (wdD s F deep p n).p ≤ s.length) ∧ (∀ (deep : Int) (acc : List Datum) (p n : Nat), p ≤ s.length → (wdL s F deep acc p n).p ≤ s.length)
  | 0 => ⟨fun _ _ _ h => h, fun _ _ _ _ h => h⟩
  | F + 1 => by
    obtain ⟨ih1, ih2⟩ := wd_le s F
    refine ⟨fun deep p n hp => ?_, fun deep acc p n hp => ?_⟩
    · simp only [wdD]
      cases (decide (2000 < n + 1) || decide (40 < deep)) with
      | true => exact hp
      | false =>
        simp only [cond_false]
        cases hd : s.drop p with
        | nil => exact hp
        | cons c r =>
          dsimp only
          have hl := drop_len hd
          cases decide (c = 40) with
          | true => exact ih2 deep [] (p + 1) (n + 1) (by omega)
          | false =>
            simp only [cond_false]
            cases decide (c = 39) with
            | true =>
              simp only [cond_true]
              cases (decide (2000 < n + 2) || decide (40 < deep + 1)) with
              | true => show p + 1 ≤ s.length; omega
              | false => exact ih1 (deep + 1) _ (n + 2) (by omega)
            | false =>
              simp only [cond_false]
              cases decide (c = 35) with
              | true =>
                simp only [cond_true]
                cases r with
                | nil => show p + 1 ≤ s.length; omega
                | cons t r =>
                  simp only [List.length_cons] at hl
                  simp only [wdB]
                  cases (decide (t = 116) || decide (t = 102)) with
                  | false => show p + 1 ≤ s.length; omega
                  | true =>
                    simp only [cond_true]
                    cases r with
                    | nil => show p + 1 + 1 ≤ s.length; omega
                    | cons u r =>
                      dsimp only
                      cases letterB u with
                      | true => show p + 1 ≤ s.length; omega
                      | false => show p + 1 + 1 ≤ s.length; omega
              | false =>
                simp only [cond_false]
                cases letterB c with
                | false => show p + 1 ≤ s.length; omega
                | true =>
                  simp only [cond_true]
                  have := takeWhile_le (l := r)
                  have hw : (wdA p (p + 1 + (r.takeWhile letterB).length) (n + 1) (c :: r.takeWhile letterB)).p = p + 1 + (r.takeWhile letterB).length := by
                    unfold wdA
                    cases looksB (c :: r.takeWhile letterB) with
                    | false => rfl
                    | true =>
                      simp only [cond_true]
                      cases decide ((17 : Int) < (c :: r.takeWhile letterB).length) <;> rfl
                  rw [hw]
                  omega
    · simp only [wdL]
      have hb := blk_le (s.drop p) false
      simp only [List.length_drop] at hb
      cases hd : blk false (s.drop p) with
      | nil => exact Nat.le_refl _
      | cons c r =>
        dsimp only
        rw [hd] at hb
        simp only [List.length_cons] at hb
        cases decide (c = 41) with
        | true => show s.length - r.length ≤ s.length; omega
        | false =>
          simp only [cond_false]
          have h1 := ih1 (deep + 1) (s.length - (r.length + 1)) n (by omega)
          cases decide ((wdD s F (deep + 1) (s.length - (r.length + 1)) n).f.1 = 0) with
          | true => exact ih2 deep _ _ _ h1
          | false => exact h1

section
variable (s : Str) (st ex : St) (A : Ent) (p n : Nat) (f : Int × Int)
theorem conv_1 (X e : Ent) : (st ++ [A, X]).set (st.length + 1) e ++ ex = st ++ (A :: e :: ex) := by
  rw [List.set_append_right _ _ (by omega)]; simp
theorem z_skip (hp : p ≤ s.length) (hs : s.length ≤ 6000) : VCalls Tryd.prog TT 28 [.ptr (st.length + 1) 0] (st ++ (A :: wkN s p n f :: ex)) fun r st' => r = .ret (.tup []) ∧ st' = st ++ (A :: wkN s (s.length - (blk false (s.drop p)).length) n f :: ex) := by
  have := x_skip s (st ++ [A, A]) ex (st.length + 1) p n f (by simp) hp hs
  rw [conv_1, conv_1] at this; exact this
theorem z_good : VCalls Tryd.prog TT 29 [.ptr (st.length + 1) 0] (st ++ (A :: wkN s p n f :: ex)) fun r st' => r = .ret (.bool (decide (f.1 = 0))) ∧ st' = st ++ (A :: wkN s p n f :: ex) := by
  have := x_good s (st ++ [A, A]) ex (st.length + 1) p n f (by simp)
  rw [conv_1] at this; exact this
theorem z_One (hs : s.length ≤ 6000) (F : Nat) (hp : p ≤ s.length) (hn : n ≤ 2000) (hF : 2 * (s.length - p) < F) : VCalls Tryd.prog TT 30 [.ptr (st.length + 1) 0, .int .i64 1] (st ++ (A :: wkN s p n (0, 0) :: ex)) fun r st' => r = .ret (.agg (encD (wdD s F 1 p n).d)) ∧ st' = st ++ (A :: wkN s (wdD s F 1 p n).p (wdD s F 1 p n).n (wdD s F 1 p n).f :: ex) := by
  have := c_One s hs (F + 1) F (by omega) 1 p n (st ++ [A, A]) ex (st.length + 1) (by simp) hp hn (by omega) (by omega) hF
  rw [conv_1, conv_1] at this; exact this
end
end Go.Proofs.YtbnkfcjmcjiahaaDoor.Gx

namespace Go.Proofs.YtbnkfcjmcjiahaaDoor.Gx
open Go Go.Proofs.YtbnkfcjmcjiahaaDoor.Gw
set_option linter.unusedSimpArgs false
set_option linter.unusedVariables false

theorem z_yes (s : Str) (st ex : St) (A : Ent) (p n : Nat) (f : Int × Int) (hf : f.1 = 0) : VCalls Tryd.prog TT 29 [.ptr (st.length + 1) 0] (st ++ (A :: wkN s p n f :: ex)) fun r st' => r = .ret (.bool true) ∧ st' = st ++ (A :: wkN s p n f :: ex) := by
  have := z_good s st ex A p n f
  rw [decide_eq_true hf] at this; exact this
theorem z_no (s : Str) (st ex : St) (A : Ent) (p n : Nat) (f : Int × Int) (hf : f.1 ≠ 0) : VCalls Tryd.prog TT 29 [.ptr (st.length + 1) 0] (st ++ (A :: wkN s p n f :: ex)) fun r st' => r = .ret (.bool false) ∧ st' = st ++ (A :: wkN s p n f :: ex) := by
  have := z_good s st ex A p n f
  rw [decide_eq_false hf] at this; exact this

set_option maxHeartbeats 4000000 in
theorem c_refRead (s : Str) (st : St) : VCalls Tryd.prog TT 13 [.str s] st fun r st' => r = .ret (readV (readR s)) ∧ st' = st := by
  refine vfun TT_ok (an := anL []) (L := [0, 2, 3, 4, 5]) (rs := [.tmp 2, .cell 3 25]) Tryd.func13 rfl (by kernel_rfl) rfl Tryd.ntmps13 rfl rfl (Nat.le_refl _) fun hst ha hf => ?_
  simp only [gwL, gwB, gwD, gwE, gwS, gwTT, gwZ, gwN, gwC, Nat.reduceEqDiff, ↓reduceIte, Nat.reduceAdd, Nat.reduceLT, Nat.reduceLeDiff, Nat.reduceMul]
  refine iK_split (fun h => ?_) (fun h => ?_)
  · simp only [gwL, gwB, gwD, gwE, gwS, gwTT, gwZ, gwN, gwC, Nat.reduceEqDiff, ↓reduceIte, Nat.reduceAdd, Nat.reduceLT, Nat.reduceLeDiff, Nat.reduceMul]
    simp only [readR, h, cond_true, readV, fltV]
    refine gives_of (wk_tup (wkL_cons (wk_nils _) (wkL_cons (wk_refl _) wkL_nil))) (wkSt_refl _) ?_ hst
    exact readV_lt _ (.inl (4, 0))
  have hs : s.length ≤ 6000 := by simp at h; omega
  have h63 : s.length ≤ 9223372036854775807 := by omega
  simp only [gwL, gwB, gwD, gwE, gwS, gwTT, gwZ, gwN, gwC, Nat.reduceEqDiff, ↓reduceIte, Nat.reduceAdd, Nat.reduceLT, Nat.reduceLeDiff, Nat.reduceMul]
  refine (z_skip s st [] _ 0 0 (0, 0) (Nat.zero_le _) hs).use (wkL_refl _) fun _ => ?_
  have hr0 : readR s = rdTop s (2 * s.length + 3) [] (s.length - (blk false s).length) 0 := by simp only [readR, h, cond_false]
  rw [hr0]
  simp only [List.drop_zero]
  have hb0 := blk_le s false
  generalize hp0 : s.length - (blk false s).length = p0
  have hp0' : p0 ≤ s.length := by omega
  generalize hR : rdTop s (2 * s.length + 3) [] p0 0 = R
  simp only [gwL, gwB, gwD, gwE, gwS, gwTT, gwZ, gwN, gwC, Nat.reduceEqDiff, ↓reduceIte, Nat.reduceAdd, Nat.reduceLT, Nat.reduceLeDiff, Nat.reduceMul]
  refine vforT (σ := Nat × List Datum × Nat × Nat × (Int × Int)) [44] [0, 3, 4, 5] (fun x => [(0, true, .str s), (3, true, .ptr st.length 0), (4, true, .ptr (st.length + 1) 0), (5, true, .lst 6 (some (st.length + 2)) (x.2.1.map encD))]) (fun x => st ++ [.box [.int .i64 0, .int .i64 0], wkN s x.2.2.1 x.2.2.2.1 x.2.2.2.2, .tip 44 x.2.1.length]) (fun x => x.1) (fun x => (x.2.2.2.2 = (0, 0) ∧ x.2.1.length ≤ x.2.2.1 ∧ x.2.2.1 ≤ s.length ∧ x.2.2.2.1 ≤ 2000 ∧ 2 * (s.length - x.2.2.1) + 1 < x.1 ∧ R = rdTop s x.1 x.2.1 x.2.2.1 x.2.2.2.1) ∨ (x.2.2.2.2.1 ≠ 0 ∧ x.2.2.1 ≤ s.length ∧ R = .inl x.2.2.2.2)) (2 * s.length + 3, [], p0, 0, (0, 0)) rfl TT_ok (.inl ⟨rfl, Nat.zero_le _, hp0', Nat.zero_le _, by dsimp only; omega, hR.symm⟩) ?_ ?_ ?_
  · exact wkE_cons (wk_refl _) (wkE_cons (wk_refl _) (wkE_cons (wk_refl _) (wkE_cons (wk_tip _ (by simp [Tips])) wkE_nil)))
  · exact ⟨st ++ [.box [.int .i64 0, .int .i64 0], wkN s p0 0 (0, 0)], wkSt_refl _, by simp only [gwL, tips, List.map_cons, List.map_nil, List.length_nil]⟩
  rintro ⟨f, acc, p, n, flt⟩ hI
  simp only at hI ⊢
  simp only [gwL, gwB, gwD, gwE, gwS, gwTT, gwZ, gwN, gwC, Nat.reduceEqDiff, ↓reduceIte, Nat.reduceAdd, Nat.reduceLT, Nat.reduceLeDiff, Nat.reduceMul]
  rcases hI with ⟨rfl, hacc, hp, hn, hf2, hI⟩ | ⟨hbad, hp, hI⟩
  · refine (z_yes s st _ _ p n (0, 0) rfl).use (wkL_refl _) fun _ => ?_
    simp only [gwL, gwB, gwD, gwE, gwS, gwTT, gwZ, gwN, gwC, Nat.reduceEqDiff, ↓reduceIte, Nat.reduceAdd, Nat.reduceLT, Nat.reduceLeDiff, Nat.reduceMul, wkN]
    cases f with
    | zero => omega
    | succ f =>
    simp only [rdTop] at hI
    rcases at_or_end s p hp with ⟨rfl, hdr⟩ | ⟨c, hltp, hget, hdr⟩
    · rw [hdr] at hI
      simp only [gwL, gwB, gwD, gwE, gwS, gwTT, gwZ, gwN, gwC, Nat.reduceEqDiff, ↓reduceIte, Nat.reduceAdd, Nat.reduceLT, Nat.reduceLeDiff, Nat.reduceMul, lt_no]
      refine (z_yes s st _ _ s.length n (0, 0) rfl).use (wkL_refl _) fun _ => ?_
      simp only [gwL, gwB, gwD, gwE, gwS, gwTT, gwZ, gwN, gwC, Nat.reduceEqDiff, ↓reduceIte, Nat.reduceAdd, Nat.reduceLT, Nat.reduceLeDiff, Nat.reduceMul, Bool.not_true]
      rw [hI]
      have := readV_lt st.length (.inr acc)
      refine gives_of (wk_tup (wkL_cons (wk_tok _ _ _) (wkL_cons (wk_refl _) wkL_nil))) (wkSt_refl _) this hst
    · rw [hdr] at hI
      dsimp only at hI
      simp only [gwL, gwB, gwD, gwE, gwS, gwTT, gwZ, gwN, gwC, Nat.reduceEqDiff, ↓reduceIte, Nat.reduceAdd, Nat.reduceLT, Nat.reduceLeDiff, Nat.reduceMul, lt_yes hltp]
      have hag := (agree s f).1 1 p n hp hn (by omega)
      have hfar := (rd_far s f).1 1 p n hn
      have hwl := (wd_le s f).1 1 p n hp
      refine (z_One s st _ _ p n hs f hp hn (by omega)).use (wkL_refl _) fun _ => ?_
      generalize wdD s f 1 p n = w at hag hwl
      obtain ⟨wd, wp, wn, wf⟩ := w
      simp only at hag hwl ⊢
      simp only [gwL, gwB, gwD, gwE, gwS, gwTT, gwZ, gwN, gwC, Nat.reduceEqDiff, ↓reduceIte, Nat.reduceAdd, Nat.reduceLT, Nat.reduceLeDiff, Nat.reduceMul, encD_take, encD_len, encD_drop, Nat.le_refl, List.length_map, wkN]
      refine ⟨by omega, ?_⟩
      refine (z_skip s st _ _ wp wn wf hwl hs).use (wkL_refl _) fun _ => ?_
      have hb2 := blk_le (s.drop wp) false
      simp only [List.length_drop] at hb2
      generalize hq : s.length - (blk false (s.drop wp)).length = q
      simp only [gwL, gwB, gwD, gwE, gwS, gwTT, gwZ, gwN, gwC, Nat.reduceEqDiff, ↓reduceIte, Nat.reduceAdd, Nat.reduceLT, Nat.reduceLeDiff, Nat.reduceMul, Env.keep]
      refine ⟨(f, acc ++ [wd], q, wn, wf), ⟨?_, st ++ [.box [.int .i64 0, .int .i64 0], wkN s q wn wf, .tip 44 (acc ++ [wd]).length], [], ?_, wkSt_refl _, ?_, ?_, by simp⟩, by dsimp only; omega, ?_⟩
      · simp only [List.map_append, List.map_cons, List.map_nil]
        exact wkE_refl _
      · simp
      · simp only [ltE, V.lt, gwL]
        exact ⟨trivial, by omega, by omega, ⟨fun e he => by cases he; omega, ltRows_map fun d _ => encD_lt _ _⟩, trivial⟩
      · refine ok_app hst ⟨by simp [Ent.lt, ltL, V.lt], ⟨by simp [wkN, Ent.lt, ltL, V.lt], trivial, trivial⟩⟩
      · by_cases hw0 : wf.1 = 0
        · left
          cases hrr : rdD s f 1 p n with
          | err e q _ _ =>
            rw [hrr] at hag
            simp only [Agree] at hag
            exact absurd (by rw [hag.1] at hw0; exact hw0) hag.2
          | ok x p' n' =>
            rw [hrr] at hag hfar hI
            simp only [Agree, WR.mk.injEq] at hag
            simp only [RR.far] at hfar
            obtain ⟨rfl, rfl, rfl, rfl⟩ := hag
            dsimp only at hI
            rw [hq] at hI
            exact ⟨rfl, by simp; omega, by dsimp only; omega, hfar.2.2, by dsimp only; omega, hI⟩
        · right
          cases hrr : rdD s f 1 p n with
          | err e q _ _ =>
            rw [hrr] at hag hI
            simp only [Agree] at hag
            refine ⟨hw0, ?_, ?_⟩
            · dsimp only; omega
            · rw [hI]; dsimp only; rw [hag.1]
          | ok x p' n' =>
            rw [hrr] at hag
            simp only [Agree, WR.mk.injEq] at hag
            exact absurd (by rw [hag.2.2.2]) hw0
  · refine (z_no s st _ _ p n flt hbad).use (wkL_refl _) fun _ => ?_
    simp only [gwL, gwB, gwD, gwE, gwS, gwTT, gwZ, gwN, gwC, Nat.reduceEqDiff, ↓reduceIte, Nat.reduceAdd, Nat.reduceLT, Nat.reduceLeDiff, Nat.reduceMul, wkN]
    refine (z_no s st _ _ p n flt hbad).use (wkL_refl _) fun _ => ?_
    simp only [gwL, gwB, gwD, gwE, gwS, gwTT, gwZ, gwN, gwC, Nat.reduceEqDiff, ↓reduceIte, Nat.reduceAdd, Nat.reduceLT, Nat.reduceLeDiff, Nat.reduceMul, Bool.not_false, wkN]
    refine vdraw TT_ok TT_mixed [0, 0, 0, 1, 0, 2] (by kernel_rfl) ?_
    simp only [gwL, gwB, gwD, gwE, gwS, gwTT, gwZ, gwN, gwC, Nat.reduceEqDiff, ↓reduceIte, Nat.reduceAdd, Nat.reduceLT, Nat.reduceLeDiff, Nat.reduceMul, wkN]
    rw [hI]
    have := readV_lt st.length (.inl flt)
    exact gives_of (wk_tup (wkL_cons (wk_nils _) (wkL_cons (wk_refl _) wkL_nil))) (wkSt_refl _) this hst
end Go.Proofs.YtbnkfcjmcjiahaaDoor.Gx

namespace Go.Proofs.YtbnkfcjmcjiahaaDoor.Gx
open Go Go.Proofs.YtbnkfcjmcjiahaaDoor.Gw
set_option linter.unusedSimpArgs false
set_option linter.unusedVariables false

mutual
theorem eqD_self : ∀ d : Datum, eqD d d = true
  | .mk k n nm s l kids => by
    simp only [eqD, decide_true, cond_true, Bool.and_self, eqDs_self kids]
    cases decide (k = 1) <;> cases decide (k = 2) <;> cases decide (k = 3) <;> cases decide (k = 4) <;> rfl
theorem eqDs_self : ∀ l : List Datum, eqDs l l = true
  | [] => by simp only [eqDs]
  | a :: r => by simp only [eqDs, eqD_self a, eqDs_self r, Bool.and_self]
end

theorem c_TextReads (s : Str) (st : St) : VCalls Tryd.prog TT 4 [.str s] st fun r st' => r = .ret (.bool true) ∧ st' = st := by
  refine vfun TT_ok (an := anL []) (L := [0, 2, 3, 4, 5, 6]) (rs := [.tmp 2]) Tryd.func4 rfl (by kernel_rfl) rfl Tryd.ntmps4 rfl rfl (Nat.le_refl _) fun hst ha hf => ?_
  simp only [gwL, gwB, gwD, gwE, gwS, gwTT, gwZ, gwN, gwC, Nat.reduceEqDiff, ↓reduceIte, Nat.reduceAdd, Nat.reduceLT, Nat.reduceLeDiff, Nat.reduceMul]
  refine (c_Read s _).use (wkL_refl _) fun _ => ?_
  cases hr : readR s with
  | inl f =>
    simp only [readV, fltV]
    simp only [gwL, gwB, gwD, gwE, gwS, gwTT, gwZ, gwN, gwC, Nat.reduceEqDiff, ↓reduceIte, Nat.reduceAdd, Nat.reduceLT, Nat.reduceLeDiff, Nat.reduceMul]
    refine (c_refRead s _).use (wkL_refl _) fun _ => ?_
    simp only [hr, readV, fltV]
    simp only [gwL, gwB, gwD, gwE, gwS, gwTT, gwZ, gwN, gwC, Nat.reduceEqDiff, ↓reduceIte, Nat.reduceAdd, Nat.reduceLT, Nat.reduceLeDiff, Nat.reduceMul]
    refine rK_made (c_Same_of [] (fun d _ => c_Equal d) [] _) (wkL_refl _) ?_
    simp only [gwL, gwB, gwD, gwE, gwS, gwTT, gwZ, gwN, gwC, Nat.reduceEqDiff, ↓reduceIte, Nat.reduceAdd, Nat.reduceLT, Nat.reduceLeDiff, Nat.reduceMul, eqDs_self]
    refine rK_made (c_text_Named _ s) (wkL_refl _) ?_
    simp only [gwL, gwB, gwD, gwE, gwS, gwTT, gwZ, gwN, gwC, Nat.reduceEqDiff, ↓reduceIte, Nat.reduceAdd, Nat.reduceLT, Nat.reduceLeDiff, Nat.reduceMul]
    refine rK_made (c_ref_Named _ s) (wkL_refl _) ?_
    simp only [gwL, gwB, gwD, gwE, gwS, gwTT, gwZ, gwN, gwC, Nat.reduceEqDiff, ↓reduceIte, Nat.reduceAdd, Nat.reduceLT, Nat.reduceLeDiff, Nat.reduceMul]
    exact gives_bool' (by simp) hst
  | inr l =>
    simp only [readV, fltV]
    simp only [gwL, gwB, gwD, gwE, gwS, gwTT, gwZ, gwN, gwC, Nat.reduceEqDiff, ↓reduceIte, Nat.reduceAdd, Nat.reduceLT, Nat.reduceLeDiff, Nat.reduceMul]
    refine (c_refRead s _).use (wkL_refl _) fun _ => ?_
    simp only [hr, readV, fltV]
    simp only [gwL, gwB, gwD, gwE, gwS, gwTT, gwZ, gwN, gwC, Nat.reduceEqDiff, ↓reduceIte, Nat.reduceAdd, Nat.reduceLT, Nat.reduceLeDiff, Nat.reduceMul]
    refine rK_made (c_Same_of l (fun d _ => c_Equal d) l _) (wkL_refl _) ?_
    simp only [gwL, gwB, gwD, gwE, gwS, gwTT, gwZ, gwN, gwC, Nat.reduceEqDiff, ↓reduceIte, Nat.reduceAdd, Nat.reduceLT, Nat.reduceLeDiff, Nat.reduceMul, eqDs_self]
    refine rK_made (c_text_Named _ s) (wkL_refl _) ?_
    simp only [gwL, gwB, gwD, gwE, gwS, gwTT, gwZ, gwN, gwC, Nat.reduceEqDiff, ↓reduceIte, Nat.reduceAdd, Nat.reduceLT, Nat.reduceLeDiff, Nat.reduceMul]
    refine rK_made (c_ref_Named _ s) (wkL_refl _) ?_
    simp only [gwL, gwB, gwD, gwE, gwS, gwTT, gwZ, gwN, gwC, Nat.reduceEqDiff, ↓reduceIte, Nat.reduceAdd, Nat.reduceLT, Nat.reduceLeDiff, Nat.reduceMul]
    exact gives_bool' (by simp) hst
end Go.Proofs.YtbnkfcjmcjiahaaDoor.Gx

namespace Go.Proofs.YtbnkfcjmcjiahaaDoor.Gx
open Go Go.Proofs.YtbnkfcjmcjiahaaDoor.Gw
set_option linter.unusedSimpArgs false
set_option linter.unusedVariables false
def encI1 (n : Int) : List V := [.int .i64 n]
def encS1 (s : Str) : List V := [.str s]

theorem len_succ {α : Type} {cs : List α} {n : Nat} (h : cs.length = n + 1) : ∃ c r, cs = c :: r ∧ r.length = n := by
  cases cs with
  | nil => simp at h
  | cons c r => exact ⟨c, r, rfl, by simpa using h⟩
open Go.ChangeShapes Go.WideShapes Go.ChangeAt Go.RowKit
theorem own : ownKnob Tryd.prog.godebug = none := by kernel_rfl
theorem laidOut : laidOutB Tryd.prog = true := by kernel_rfl
theorem below_of {W W' : World} {g' : G} (h : Ext g00 W g' W') : Below W.heap.size W W' := ⟨h.os, h.tape, h.output, h.size, fun k hk => (h.free k hk rfl).1⟩
theorem bulk_one {H : Type} (d : DataW H) : 1 ≤ Rows.uptoBulk d := by
  cases d with
  | lit l => cases l <;> simp [Rows.uptoBulk]
  | nil => simp [Rows.uptoBulk]
  | ptr d => simp [Rows.uptoBulk]
  | slice elems spare => simp [Rows.uptoBulk]
  | agg parts => simp [Rows.uptoBulk]
  | iface t d => simp [Rows.uptoBulk]
  | map entries => simp [Rows.uptoBulk]
  | held h => simp [Rows.uptoBulk]
theorem bulk_len {H : Type} : ∀ l : List (DataW H), l.length ≤ Rows.uptoBulkAll l
  | [] => by simp [Rows.uptoBulkAll]
  | x :: r => by have := bulk_one x; have := bulk_len r; simp only [Rows.uptoBulkAll, List.length_cons]; omega
/-- A slice that is read has no more elements than its bulk. -/
theorem bulk_slice {H : Type} {enc : TypeId × Value → H} {P : Program} {W : World} {spare : Nat → Bool} {held : Bool} {n : Nat} {t e : TypeId} {v : Value} {r : DataW H × List MemPlace} (ht : P.underlying t = some (.slice e)) {sz : Nat} {tp : Option Nat} {rows : List (List V)}
    (h : DataW.trod enc P W 0 spare held n t [v] = some r) (hs : SimV g00 W (.lst sz tp rows) v) : rows.length ≤ Rows.uptoBulk r.1 := by
  simp only [SimV] at hs
  obtain ⟨a, cap, rfl, -⟩ := hs
  cases n with
  | zero => simp [DataW.trod] at h
  | succ n =>
    unfold DataW.trod at h
    rw [ht] at h
    split at h <;> first | (cases h; done) | skip
    all_goals rename_i e'; first | (injection e' with e'; cases e'; done) | skip
    · simp only [List.cons.injEq, Value.slice.injEq, and_true] at e'
      obtain ⟨_, e', _⟩ := e'
      omega
    · simp only [List.cons.injEq, Value.slice.injEq, and_true] at e'
      obtain ⟨_, e', _⟩ := e'
      simp only at h
      split at h
      case isFalse => cases h
      rw [e']
      generalize hm : List.mapM (m := Option) _ _ = o at h
      cases o with
      | none => simp at h
      | some ys =>
        obtain ⟨hl, -⟩ := mapM_some hm
        simp only [Option.bind_some, Option.map_eq_some_iff] at h
        obtain ⟨zs, -, rfl⟩ := h
        have := bulk_len (ys.map (·.1))
        rw [List.length_map, hl, List.length_range] at this
        simp only [Rows.uptoBulk]
        omega
/-- A string that is read is no longer than its bulk. -/
theorem bulk_str {H : Type} {enc : TypeId × Value → H} {P : Program} {W : World} {spare : Nat → Bool} {held : Bool} {n : Nat} {t : TypeId} {s : List UInt8} {r : DataW H × List MemPlace} (ht : P.underlying t = some .string)
    (h : DataW.trod enc P W 0 spare held n t [.string ⟨s.toArray⟩] = some r) : s.length ≤ Rows.uptoBulk r.1 := by
  cases n with
  | zero => simp [DataW.trod] at h
  | succ n =>
    unfold DataW.trod at h
    rw [ht] at h
    split at h <;> first | (cases h; done) | skip
    all_goals rename_i e'; first | (injection e' with e'; cases e'; done) | skip
    · simp only [List.cons.injEq, Value.string.injEq, and_true] at e'
      subst e'
      split at h
      · simp only [Option.some.injEq] at h
        subst h
        simp [Rows.uptoBulk, ByteArray.size]
      · cases h
    · exact ((‹∀ s_1 : ByteArray, some TypeDesc.string = some TypeDesc.string → [Value.string ⟨s.toArray⟩] = [Value.string s_1] → False›) _ rfl rfl).elim
theorem okWide_slice {P : Program} {W : World} {r : Reach} {b : Nat} {t e : TypeId} {v : Value} (ht : P.underlying t = some (.slice e)) (h : Value.okWide P W r b t v) : v.cells.toList = [v] := by
  unfold Value.okWide at h
  rw [ht] at h
  simp only [Cell.okWide, ht] at h
  cases v <;> first | rfl | (simp [Cell.ok, ht] at h)
theorem okWide_str {P : Program} {W : World} {r : Reach} {b : Nat} {t : TypeId} {v : Value} (ht : P.underlying t = some .string) (h : Value.okWide P W r b t v) : v.cells.toList = [v] := by
  unfold Value.okWide at h
  rw [ht] at h
  simp only [Cell.okWide, ht] at h
  cases v <;> first | rfl | (simp [Cell.ok, ht] at h)
theorem okWide_int {P : Program} {W : World} {r : Reach} {b : Nat} {t : TypeId} {k : IntKind} {v : Value} (ht : P.underlying t = some (.int k)) (h : Value.okWide P W r b t v) : v.cells.toList = [v] := by
  unfold Value.okWide at h
  rw [ht] at h
  simp only [Cell.okWide, ht] at h
  cases v <;> first | rfl | (simp [Cell.ok, ht] at h)
theorem dec_int1 {H : Type} {enc : TypeId × Value → H} {P : Program} {W : World} {spare : Nat → Bool} {held : Bool} {t : TypeId} (ht : P.underlying t = some (.int .i64)) {n : Nat} {cs : List Value} {r : DataW H × List MemPlace} (h : DataW.trod enc P W 0 spare held n t cs = some r) : ∃ x : Int, SimVs g00 W (encI1 x) cs ∧ ∀ u ∈ cs, u.oneCell' = true := by
  obtain ⟨m, rfl⟩ := dec_int ht h
  exact ⟨m, ⟨_, _, rfl, rfl, rfl⟩, by simp [Value.oneCell']⟩
theorem dec_str1 {H : Type} {enc : TypeId × Value → H} {P : Program} {W : World} {spare : Nat → Bool} {held : Bool} {t : TypeId} (ht : P.underlying t = some .string) {n : Nat} {cs : List Value} {r : DataW H × List MemPlace} (h : DataW.trod enc P W 0 spare held n t cs = some r) : ∃ x : Str, SimVs g00 W (encS1 x) cs ∧ ∀ u ∈ cs, u.oneCell' = true := by
  obtain ⟨m, rfl, hm⟩ := dec_str ht h
  exact ⟨m, ⟨_, _, rfl, ⟨rfl, hm⟩, rfl⟩, by simp [Value.oneCell']⟩
end Go.Proofs.YtbnkfcjmcjiahaaDoor.Gx

namespace Go.Proofs.YtbnkfcjmcjiahaaDoor.Gx
open Go Go.Proofs.YtbnkfcjmcjiahaaDoor.Gw
set_option linter.unusedSimpArgs false
set_option linter.unusedVariables false

end Go.Proofs.YtbnkfcjmcjiahaaDoor.Gx

namespace Go.Proofs.YtbnkfcjmcjiahaaDoor.Gx
open Go Go.Proofs.YtbnkfcjmcjiahaaDoor.Gw
set_option linter.unusedSimpArgs false
set_option linter.unusedVariables false
open Go.ChangeShapes Go.WideShapes Go.ChangeAt Go.RowKit
noncomputable def low0 : Nat := (World.holding Tryd.prog default ⟨#[], #[], []⟩).heap.size
/-- A world that meets what is laid. -/
noncomputable def laidWorld (os : Os) : World :=
  { World.holding Tryd.prog os ⟨#[.cells #[.string ⟨#[105, 110, 118, 97, 108, 105, 100, 32, 115, 121, 110, 116, 97, 120]⟩] 117, .cells #[.string ⟨#[118, 97, 108, 117, 101, 32, 111, 117, 116, 32, 111, 102, 32, 114, 97, 110, 103, 101]⟩] 117], #[], []⟩ with heap := ((((((World.holding Tryd.prog os ⟨#[.cells #[.string ⟨#[105, 110, 118, 97, 108, 105, 100, 32, 115, 121, 110, 116, 97, 120]⟩] 117, .cells #[.string ⟨#[118, 97, 108, 117, 101, 32, 111, 117, 116, 32, 111, 102, 32, 114, 97, 110, 103, 101]⟩] 117], #[], []⟩).heap.modify 2 (fun | .cells _ t frozen => .cells #[.iface 115 (.pointer (some ⟨low0 + 0, 0, none⟩))] t frozen | o => o)).modify 3 (fun | .cells _ t frozen => .cells #[.iface 115 (.pointer (some ⟨low0 + 1, 0, none⟩))] t frozen | o => o)).modify 0 (fun | .cells _ t frozen => .cells #[.int .u64 1, .int .u64 10, .int .u64 100, .int .u64 1000, .int .u64 10000, .int .u64 100000, .int .u64 1000000, .int .u64 10000000, .int .u64 100000000, .int .u64 1000000000, .int .u64 10000000000, .int .u64 100000000000, .int .u64 1000000000000, .int .u64 10000000000000, .int .u64 100000000000000, .int .u64 1000000000000000, .int .u64 10000000000000000, .int .u64 100000000000000000, .int .u64 1000000000000000000, .int .u64 10000000000000000000] t frozen | o => o)).modify 4 (fun | .cells _ t frozen => .cells #[.int .u8 0, .int .u8 1, .int .u8 28, .int .u8 2, .int .u8 29, .int .u8 14, .int .u8 24, .int .u8 3, .int .u8 30, .int .u8 22, .int .u8 20, .int .u8 15, .int .u8 25, .int .u8 17, .int .u8 4, .int .u8 8, .int .u8 31, .int .u8 27, .int .u8 13, .int .u8 23, .int .u8 21, .int .u8 19, .int .u8 16, .int .u8 7, .int .u8 26, .int .u8 12, .int .u8 18, .int .u8 6, .int .u8 11, .int .u8 5, .int .u8 10, .int .u8 9] t frozen | o => o)).modify 5 (fun | .cells _ t frozen => .cells #[.int .u8 0, .int .u8 1, .int .u8 56, .int .u8 2, .int .u8 57, .int .u8 49, .int .u8 28, .int .u8 3, .int .u8 61, .int .u8 58, .int .u8 42, .int .u8 50, .int .u8 38, .int .u8 29, .int .u8 17, .int .u8 4, .int .u8 62, .int .u8 47, .int .u8 59, .int .u8 36, .int .u8 45, .int .u8 43, .int .u8 51, .int .u8 22, .int .u8 53, .int .u8 39, .int .u8 33, .int .u8 30, .int .u8 24, .int .u8 18, .int .u8 12, .int .u8 5, .int .u8 63, .int .u8 55, .int .u8 48, .int .u8 27, .int .u8 60, .int .u8 41, .int .u8 37, .int .u8 16, .int .u8 46, .int .u8 35, .int .u8 44, .int .u8 21, .int .u8 52, .int .u8 32, .int .u8 23, .int .u8 11, .int .u8 54, .int .u8 26, .int .u8 40, .int .u8 15, .int .u8 34, .int .u8 20, .int .u8 31, .int .u8 10, .int .u8 25, .int .u8 14, .int .u8 19, .int .u8 9, .int .u8 13, .int .u8 8, .int .u8 7, .int .u8 6] t frozen | o => o)) }
theorem laid_met (os : Os) : laidMet Tryd.prog Rows.textReadsRow.laid ((laidWorld os).forCall (fun _ _ => 0) ⟨#[], #[.string ByteArray.empty], []⟩).memory :=
  laidMet_of_run' 8 (by kernel_rfl) (by kernel_rfl)
theorem reads (os : Os) {H : Type} (enc : TypeId × Value → H) : ∃ places, DataW.whole enc Tryd.prog ((laidWorld os).forCall (fun _ _ => 0) ⟨#[], #[.string ByteArray.empty], []⟩).memory Tryd.f4.params.toList Rows.textReadsSpec.vars false #[.string ByteArray.empty].toList 8 = some ([.lit (.string [])], [], places) :=
  ⟨[], by kernel_rfl⟩
set_option maxRecDepth 100000 in
theorem contract (H : Type) (enc : TypeId × Value → H) (W : World) (base : Nat) (args : Array Value) (ds gs : List (DataW H)) (before : List MemPlace)
    (hval : ∀ (j : Nat) t v, Tryd.f4.params[j]? = some t → args[j]? = some v → Value.okWide Tryd.prog W .any base t v)
    (hW : DataW.Whole enc Tryd.prog Tryd.f4.params.toList Rows.textReadsSpec.vars false W args.toList ds gs before) :
    Calls Tryd.prog 4 args W fun e W' => ∃ v, e = .returned v ∧ Rows.textReadsSpec.post enc Tryd.prog Tryd.f4 false true false false W args v W' := by
  have hW' := hW
  obtain ⟨p, q, hA0, hV, rfl, hfz, hnd⟩ := hW
  have hA : DataW.TrodAll enc Tryd.prog W 0 (fun _ => true) true Tryd.f4.params.toList args.toList ds p := hA0
  rw [Tryd.params4] at hA hval
  obtain ⟨v0, vs0, d0, ds0, p0, q0, hargs0, rfl, rfl, h0, r0⟩ := trodAll_cons hA
  obtain ⟨rfl, rfl, rfl⟩ := trodAll_nil r0
  obtain rfl : args = #[v0] := by cases args; simp_all
  obtain ⟨rfl, rfl⟩ := trodVars_none hV
  have w0 := hval 0 9 v0 rfl rfl
  have k0 := h0
  have lt0 : ∀ x ∈ p0, x.block < W.heap.size := by obtain ⟨m, hm⟩ := k0; exact DataW.trod_lt m _ _ _ hm
  obtain ⟨m0, hm0⟩ := h0
  rw [okWide_str Tryd.underlying9 w0] at hm0
  obtain ⟨s, e0, s0⟩ := dec_str Tryd.underlying9 hm0
  simp only [List.cons.injEq, and_true] at e0
  subst e0
  refine ((c_TextReads s []).2 g00 W [_] (sim00 _ W) ⟨_, _, rfl, ⟨rfl, s0⟩, rfl⟩).mono fun e W' ⟨r, st', g', ⟨h1, h2⟩, hend, _, hext⟩ => ?_
  subst h1
  obtain ⟨val, rfl, hb⟩ := hend
  simp only [SimV] at hb
  subst hb
  have bel := below_of hext
  exact ⟨_, rfl, _, _, _, [], _, [], hW', trodAll_mk1 (shut_bool Tryd.underlying4 _), (trodAll_cons_mk (Below.trod laidOut (by kernel_rfl) (of_decide_eq_true (by kernel_rfl)) k0 bel lt0) trodAll_mk0), rfl, bel.frame _, fun h => by cases h⟩
set_option maxRecDepth 100000 in
theorem lifted (os : Os) (started : os.Started) (H : Type) (enc : TypeId × Value → H) (F : Stop.Interp) :
    ReturnsInHanded {} Tryd.checked os 4 .any ((OpenSpec.ofChange Rows.textReadsSpec).preRow enc Tryd.prog Tryd.f4 Rows.textReadsRow.domain false Rows.textReadsRow.laid) (((OpenSpec.ofChange Rows.textReadsSpec).at F).post enc Tryd.prog Tryd.f4 false true false false) := by
  obtain ⟨places, hx⟩ := reads os enc
  refine returnsInHanded_of_row (C := Tryd.checked) (s := OpenSpec.ofChange Rows.textReadsSpec) own started (by kernel_rfl) Tryd.func4
    (witness_row_at (enc := enc) (C := Tryd.checked) false (laidWorld os) #[.string ByteArray.empty] rfl (by kernel_rfl) (by kernel_rfl) (by kernel_rfl)
      (OpenSpec.preRow_of_cond 8 hx (by kernel_rfl) (fun k hk => by cases hk) (by kernel_rfl) (laid_met os))) ?_
  intro W base args ds gs before hval hW _ _ _ hL _ _
  exact contract H enc W base args ds gs before hval hW
theorem said : Rows.TextReadsSaid :=
  OpenClaim.holds_of_cond 4 Tryd.f4 rfl rfl rfl rfl rfl rfl rfl ⟨rfl, rfl, rfl, rfl, rfl⟩ rfl rfl rfl rfl rfl (by kernel_rfl) Tryd.func4 (by kernel_rfl)
    (of_decide_eq_true (by kernel_rfl)) (by unfold Func.isWrapper; first | (rw [if_pos (by decide +kernel)]; kernel_rfl) | (rw [if_neg (by decide +kernel)]; exact ⟨rfl, rfl⟩))
    (fun os started H enc _ F => by rw [OpenClaim.pre_eq_preRow]; exact lifted os started H enc F)
theorem plain (f : FuncId) (fn : Func) (hf : Tryd.pinned.checked.prog.funcNamed "graftwood/graftlaw1.TextReads" = some f) (hfn : Tryd.pinned.checked.prog.funcs[f]? = some fn) :
    true = Tryd.pinned.checked.prog.looks [] ∧ ∀ (j : Nat) t, fn.params[j]? = some t → Tryd.pinned.checked.prog.wantsStandIn t = false := by
  obtain rfl : f = 4 := Option.some.inj ((show Tryd.prog.funcNamed "graftwood/graftlaw1.TextReads" = some 4 by kernel_rfl).symm.trans hf) |>.symm
  obtain rfl : fn = Tryd.f4 := (Option.some.inj (Tryd.func4.symm.trans hfn)).symm
  refine ⟨by kernel_rfl, fun j t ht => ?_⟩
  rw [Tryd.params4] at ht
  obtain rfl : t = 9 := by simpa using Array.mem_of_getElem? ht
  exact (show Tryd.prog.wantsStandIn 9 = false by kernel_rfl)
end Go.Proofs.YtbnkfcjmcjiahaaDoor.Gx
namespace Go.Proofs.YtbnkfcjmcjiahaaDoor
theorem textReadsCard_holds : Rows.TextReadsCardSaid :=
  Claim7.holds_tied_plain_at .later [] _ _ _ _ Gx.said (fun _ h => by cases h) (by kernel_rfl) (fun _ h => by cases h) textReads_row_tie rfl ⟨rfl, rfl⟩ (by kernel_rfl) rfl Gx.plain (by kernel_rfl)
#print axioms textReadsCard_holds
end Go.Proofs.YtbnkfcjmcjiahaaDoor
