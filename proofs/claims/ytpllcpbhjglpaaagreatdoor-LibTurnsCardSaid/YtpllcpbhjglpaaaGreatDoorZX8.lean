/- Reading data: what a text's data are; the walk over one. Reading data: the walk over a list. Reading data: the walk over a datum. Reading data: the whole. Reading data: text.Read. Libraries taken apart: what is told, in plain terms. strings.Split at a blank: by the shelf. strings.Join: by the shelf. lib: names, lists, walked. lib: what is looked for in lists, walked. -/
import Derived.Test.YtpllcpbhjglpaaaGreatDoorZX7
import Derived.Shelf.Lay
import Derived.Shelf.LaySoft
import Derived.Shelf.Strings.Split
import Derived.Shelf.Strings.PiecesUse
import Derived.Shelf.Strings.OnBuilder
namespace Go.Proofs.YtpllcpbhjglpaaaGreatDoor.Gx
open Go Go.Proofs.YtpllcpbhjglpaaaGreatDoor.Gw
set_option linter.unusedSimpArgs false
set_option linter.unusedVariables false
/-- A datum, and where its reader is, and how many nodes there were; or what is wrong, and where, and so on. -/
inductive RR where
 | ok (d : Datum) (p n : Nat)
 | err (e q : Int) (p n : Nat)
def quoteS : Str := [113, 117, 111, 116, 101]
def quoteD (x : Datum) : Datum := .mk 4 0 [] 0 0 [.mk 3 0 quoteS 0 0 [], x]
def RR.quote : RR → RR
 | .ok x p n => .ok (quoteD x) p n
 | .err e q p n => .err e q p n
def RR.bind (r : RR) (k : Datum → Nat → Nat → RR) : RR := match r with
 | .ok x p n => k x p n
 | .err e q p n => .err e q p n
/-- Behind '#'. -/
def rdB (q p n : Nat) : Str → RR
 | [] => .err 2 q p n
 | t :: r => bif decide (t = 116) || decide (t = 102) then
   (match r with
   | [] => .ok (.mk 2 (bif decide (t = 116) then 1 else 0) [] 0 0 []) (p + 1) n
   | u :: _ => bif letterB u then .err 2 q (p + 1) n else .ok (.mk 2 (bif decide (t = 116) then 1 else 0) [] 0 0 []) (p + 1) n)
  else .err 2 q p n
def rdA (s : Str) (q p n : Nat) (c : UInt8) (r : Str) : RR := match atomR (c :: r.takeWhile letterB) with
 | .inl e => .err e q (p + (r.takeWhile letterB).length) n
 | .inr d => .ok d (p + (r.takeWhile letterB).length) n
mutual
def rdD (s : Str) : Nat → Int → Nat → Nat → RR
 | 0, _, p, n => .err 0 0 p n
 | f + 1, deep, p, n => bif decide (2000 < n + 1) || decide (40 < deep) then .err 4 p p (n + 1)
  else match s.drop p with
   | [] => .err 2 p p (n + 1)
   | c :: r => bif decide (c = 40) then rdL s f deep [] (p + 1) (n + 1)
    else bif decide (c = 39) then (bif decide (2000 < n + 2) || decide (40 < deep + 1) then .err 4 p (p + 1) (n + 2) else (rdD s f (deep + 1) (s.length - (blk false r).length) (n + 2)).quote)
    else bif decide (c = 35) then rdB p (p + 1) (n + 1) r
    else bif letterB c then rdA s p (p + 1) (n + 1) c r
    else .err 2 p (p + 1) (n + 1)
def rdL (s : Str) : Nat → Int → List Datum → Nat → Nat → RR
 | 0, _, _, p, n => .err 0 0 p n
 | f + 1, deep, acc, p, n => match blk false (s.drop p) with
  | [] => .err 2 s.length s.length n
  | c :: r => bif decide (c = 41) then .ok (.mk 4 0 [] 0 0 acc) (s.length - r.length) n
   else (rdD s f (deep + 1) (s.length - (r.length + 1)) n).bind fun x p' n' => rdL s f deep (acc ++ [x]) p' n'
end
/-- How far a datum goes. -/
def RR.far (s : Str) (p : Nat) : RR → Prop
 | .ok _ p' n' => p < p' ∧ p' ≤ s.length ∧ n' ≤ 2000
 | .err _ _ _ _ => True
theorem takeWhile_le {l : Str} : (l.takeWhile letterB).length ≤ l.length := by
 have := (List.takeWhile_prefix (l := l) letterB).length_le
 exact this
theorem drop_len {s : Str} {p : Nat} {c : UInt8} {r : Str} (h : s.drop p = c :: r) : p + r.length + 1 = s.length := by
 have := congrArg List.length h
 simp at this
 omega
theorem rd_far (s : Str) : ∀ f : Nat, (∀ (deep : Int) (p n : Nat), n ≤ 2000 → (rdD s f deep p n).far s p) ∧ (∀ (deep : Int) (acc : List Datum) (p n : Nat), p ≤ s.length → n ≤ 2000 → (rdL s f deep acc p n).far s p)
 | 0 => ⟨fun _ _ _ _ => by simp [rdD, RR.far], fun _ _ _ _ _ _ => by simp [rdL, RR.far]⟩
 | f + 1 => by
  obtain ⟨ih1, ih2⟩ := rd_far s f
  refine ⟨fun deep p n hn => ?_, fun deep acc p n hp hn => ?_⟩
  ·simp only [rdD]
   cases h0 : (decide (2000 < n + 1) || decide (40 < deep)) with
   | true => simp [RR.far]
   | false =>
    have hn1 : n + 1 ≤ 2000 := by simp at h0; omega
    simp only [cond_false]
    split
    ·simp [RR.far]
    ·rename_i c r hd
     have hl := drop_len hd
     cases decide (c = 40) with
     | true =>
      simp only [cond_true]
      have := ih2 deep [] (p + 1) (n + 1) (by omega) hn1
      generalize rdL s f deep [] (p + 1) (n + 1) = rr at this ⊢
      cases rr with
      | ok x p' n' => simp only [RR.far] at this ⊢; omega
      | err _ _ _ _ => trivial
     | false =>
      simp only [cond_false]
      cases decide (c = 39) with
      | true =>
       simp only [cond_true]
       cases h1 : (decide (2000 < n + 2) || decide (40 < deep + 1)) with
       | true => simp [RR.far]
       | false =>
        have hn2 : n + 2 ≤ 2000 := by simp at h1; omega
        simp only [cond_false]
        have hb := blk_le r false
        have := ih1 (deep + 1) (s.length - (blk false r).length) (n + 2) hn2
        generalize rdD s f (deep + 1) (s.length - (blk false r).length) (n + 2) = rr at this ⊢
        cases rr with
        | ok x p' n' => simp only [RR.quote, RR.far] at this ⊢; omega
        | err _ _ _ _ => trivial
      | false =>
       simp only [cond_false]
       cases decide (c = 35) with
       | true =>
        simp only [cond_true]
        cases r with
        | nil => simp [rdB, RR.far]
        | cons t r =>
         simp only [rdB]
         simp only [List.length_cons] at hl
         cases (decide (t = 116) || decide (t = 102)) with
         | false => simp [RR.far]
         | true =>
          simp only [cond_true]
          cases r with
          | nil => dsimp only; simp only [RR.far, List.length_nil] at hl ⊢; omega
          | cons u r =>
           simp only [List.length_cons] at hl
           dsimp only
           cases letterB u with
           | true => simp [RR.far]
           | false => simp only [cond_false, RR.far]; omega
       | false =>
        simp only [cond_false]
        cases letterB c with
        | true =>
         simp only [cond_true, rdA]
         have := takeWhile_le (l := r)
         split
         ·trivial
         ·simp only [RR.far]; omega
        | false => simp [RR.far]
  ·simp only [rdL]
   have hb := blk_le (s.drop p) false
   simp only [List.length_drop] at hb
   split
   ·trivial
   ·rename_i c r hd
    rw [hd] at hb
    simp only [List.length_cons] at hb
    cases decide (c = 41) with
    | true => simp only [cond_true, RR.far]; omega
    | false =>
     simp only [cond_false]
     have h1 := ih1 (deep + 1) (s.length - (r.length + 1)) n hn
     generalize rdD s f (deep + 1) (s.length - (r.length + 1)) n = rr at h1 ⊢
     cases rr with
     | err _ _ _ _ => trivial
     | ok x p' n' =>
      simp only [RR.far] at h1
      simp only [RR.bind]
      have h2 := ih2 deep (acc ++ [x]) p' n' h1.2.1 h1.2.2
      generalize rdL s f deep (acc ++ [x]) p' n' = rr at h2 ⊢
      cases rr with
      | ok x p' n' => simp only [RR.far] at h2 ⊢; omega
      | err _ _ _ _ => trivial
theorem set_app {st ex : St} {b : Nat} {e : Ent} (h : b < st.length) : (st ++ ex).set b e = st.set b e ++ ex := List.set_append_left _ _ h
section
variable {st : St} {b : Nat} {s : Str} (h : b < st.length)
include h
theorem at_b (p n : Nat) (l : St) : (st.set b (rdE s p n) ++ l)[b]? = some (.box [.str s, .int .i64 p, .int .i64 n]) := by
 rw [List.getElem?_append_left (by simpa using h), List.getElem?_set_self h]; rfl
theorem at_b0 (p n : Nat) : (st.set b (rdE s p n))[b]? = some (.box [.str s, .int .i64 p, .int .i64 n]) := by
 rw [List.getElem?_set_self h]; rfl
theorem set_b (e e' : Ent) (l : St) : (st.set b e ++ l).set b e' = st.set b e' ++ l := by
 rw [set_app (by simpa using h), List.set_set]
end
theorem at_k (st : St) (b : Nat) (e : Ent) (l : St) (k : Nat) : (st.set b e ++ l)[st.length + k]? = l[k]? := by
 rw [List.getElem?_append_right (by simp)]; simp
theorem at_k0 (st : St) (b : Nat) (e : Ent) (l : St) : (st.set b e ++ l)[st.length]? = l[0]? := at_k st b e l 0
theorem set_k (st : St) (b : Nat) (e : Ent) (l : St) (k : Nat) (x : Ent) : (st.set b e ++ l).set (st.length + k) x = st.set b e ++ l.set k x := by
 rw [List.set_append_right _ _ (by simp)]; simp
theorem set_k0 (st : St) (b : Nat) (e : Ent) (l : St) (x : Ent) : (st.set b e ++ l).set st.length x = st.set b e ++ l.set 0 x := set_k st b e l 0 x
/-- What a call of a reader comes to. -/
def outR (s : Str) (b : Nat) (st : St) : RR → VEnd → St → Prop
 | .ok x p n => Gives (.agg (encD x)) (st.set b (rdE s p n))
 | .err e q p n => GivesP (faultV e q) (st.set b (rdE s p n))
def OutC (s : Str) (b : Nat) (st st0 : St) (f : FuncId) (args : List V) : RR → Prop
 | .ok x p n => VCalls Tryz.prog TT f args st0 fun r st' => r = .ret (.agg (encD x)) ∧ st' = st.set b (rdE s p n)
 | .err e q p n => VCalls Tryz.prog TT f args st0 fun r st' => r = .panic (faultV e q) ∧ st' = st.set b (rdE s p n)
theorem OutC_of {s : Str} {b : Nat} {st st0 : St} {f : FuncId} {args : List V} {rr : RR} (hl : st0.length = st.length) (h : VCalls Tryz.prog TT f args st0 (outR s b st rr)) : OutC s b st st0 f args rr := by
 cases rr with
 | ok x p n => exact VCalls.give h (by simp [hl])
 | err e q p n => exact VCalls.giveP h (by simp [hl])
theorem back_b {st ex : St} {b : Nat} {e : Ent} (h : b < st.length) : st.set b e ++ ex = (st ++ ex).set b e := (set_app h).symm
theorem get_b {st ex : St} {b : Nat} {e : Ent} (h : b < st.length) : (st.set b e ++ ex)[b]? = some e := by rw [back_b h]; exact List.getElem?_set_self (by simp; omega)
theorem x_blank (s : Str) (st ex : St) (b p n : Nat) (h : b < st.length) (hp : p ≤ s.length) (hs : s.length ≤ 6000) :
  VCalls Tryz.prog TT 73 [.ptr b 0] (st.set b (rdE s p n) ++ ex) fun r st' => r = .ret (.tup []) ∧ st' = st.set b (rdE s (s.length - (blk false (s.drop p)).length) n) ++ ex := by
 have := c_blank s (st.set b (rdE s p n) ++ ex) b p n (get_b h) hp hs
 rw [set_b h] at this; exact this
theorem x_node_ok (s : Str) (st ex : St) (b p n : Nat) (deep q : Int) (hb : b < st.length) (h : ¬ 2000 < n + 1 ∧ ¬ 40 < deep) :
  VCalls Tryz.prog TT 89 [.ptr b 0, .int .i64 deep, .int .i64 q] (st.set b (rdE s p n) ++ ex) fun r st' => r = .ret (.tup []) ∧ st' = st.set b (rdE s p (n + 1)) ++ ex := by
 have := c_node_ok s (st.set b (rdE s p n) ++ ex) b p n deep q (get_b hb) h
 rw [set_b hb] at this; exact this
theorem x_node_err (s : Str) (st ex : St) (b p n : Nat) (deep q : Int) (hb : b < st.length) (hn : n ≤ 2000) (h : 2000 < n + 1 ∨ 40 < deep) :
  VCalls Tryz.prog TT 89 [.ptr b 0, .int .i64 deep, .int .i64 q] (st.set b (rdE s p n) ++ ex) fun r st' => r = .panic (faultV 4 q) ∧ st' = st.set b (rdE s p (n + 1)) ++ ex := by
 have := c_node_err s (st.set b (rdE s p n) ++ ex) b p n deep q (get_b hb) hn h
 rw [set_b hb] at this; exact this
/-- .. with more behind. -/
def OutX (s : Str) (b : Nat) (st ex st0 : St) (f : FuncId) (args : List V) : RR → Prop
 | .ok x p n => VCalls Tryz.prog TT f args st0 fun r st' => r = .ret (.agg (encD x)) ∧ st' = st.set b (rdE s p n) ++ ex
 | .err e q p n => VCalls Tryz.prog TT f args st0 fun r st' => r = .panic (faultV e q) ∧ st' = st.set b (rdE s p n) ++ ex
theorem OutC.x {s : Str} {b p n : Nat} {st ex : St} {f : FuncId} {args : List V} {rr : RR} (hb : b < st.length) (h : OutC s b (st ++ ex) ((st ++ ex).set b (rdE s p n)) f args rr) : OutX s b st ex (st.set b (rdE s p n) ++ ex) f args rr := by
 rw [back_b hb]
 cases rr with
 | ok x p' n' => simp only [OutX, OutC, back_b hb] at h ⊢; exact h
 | err e q p' n' => simp only [OutX, OutC, back_b hb] at h ⊢; exact h
end Go.Proofs.YtpllcpbhjglpaaaGreatDoor.Gx
namespace Go.Proofs.YtpllcpbhjglpaaaGreatDoor.Gx
open Go Go.Proofs.YtpllcpbhjglpaaaGreatDoor.Gw
open Nat (reduceEqDiff reduceAdd reduceLT reduceLeDiff reduceMul)
set_option linter.unusedSimpArgs false
set_option linter.unusedVariables false
def zeroD : List V := [.int .i64 0, .int .i64 0, .str [], .int .i64 0, .int .i64 0, .nils]
def IHD (s : Str) (F : Nat) : Prop := ∀ f, f < F → ∀ (deep : Int) (p n : Nat) (st : St) (b : Nat), b < st.length → p ≤ s.length → n ≤ 2000 → 0 ≤ deep → deep ≤ 41 → 2 * (s.length - p) < f →
 OutC s b st (st.set b (rdE s p n)) 74 [.ptr b 0, .int .i64 deep] (rdD s f deep p n)
set_option maxHeartbeats 4000000 in
theorem c_list_of (s : Str) (hs : s.length ≤ 6000) (F : Nat) (ih : IHD s F) (deep : Int) (p n : Nat) (st : St) (b : Nat) (hlt : b < st.length) (hp : p ≤ s.length) (hn : n ≤ 2000) (hd0 : 0 ≤ deep) (hd1 : deep ≤ 40) (hF : 2 * (s.length - p) + 1 < F) :
  OutC s b st (st.set b (rdE s p n)) 91 [.ptr b 0, .int .i64 deep] (rdL s F deep [] p n) := by
 refine OutC_of (by simp) ?_
 refine vfunQ TT_ok (an := anL []) (L := [0, 1, 4, 5]) (rs := [.cell 4 26]) Tryz.func91 rfl (by kernel_rfl) rfl Tryz.ntmps91 rfl rfl fun hst ha hf => ?_
 have h63 : s.length ≤ 9223372036854775807 := by omega
 have hok : ∀ p n, St.ok (st.set b (rdE s p n)) := fun p n => by have := rd_ok (s := s) (b := b) (p := p) (n := n) hst; rw [List.set_set] at this; exact this
 simp only [gw0, reduceEqDiff, ↓reduceIte, reduceAdd, reduceLT, reduceLeDiff, reduceMul, List.length_set, at_k, at_k0, set_k, set_k0]
 refine vforT (σ := Nat × List Datum × Nat × Nat) [26] [0, 1, 4, 5] (fun x => [(0, true, .ptr b 0), (1, true, .int .i64 deep), (4, true, .ptr st.length 0), (5, true, .ptr (st.length + 1) 0)]) (fun x => st.set b (rdE s x.2.2.1 x.2.2.2) ++ [.box zeroD, .box [.int .i64 4, .int .i64 0, .str [], .int .i64 0, .int .i64 0, .lst 6 (some (st.length + 2)) (x.2.1.map encD)], .tip 26 x.2.1.length]) (fun x => s.length - x.2.2.1) (fun x => x.2.1.length ≤ x.2.2.1 ∧ x.2.2.1 ≤ s.length ∧ x.2.2.2 ≤ 2000 ∧ 2 * (s.length - x.2.2.1) + 1 < x.1 ∧ x.1 ≤ F ∧ rdL s F deep [] p n = rdL s x.1 deep x.2.1 x.2.2.1 x.2.2.2) (F, [], p, n) rfl TT_ok ⟨Nat.zero_le _, hp, hn, hF, Nat.le_refl _, rfl⟩ ?_ ?_ ?_
 ·exact wkE_refl _
 ·refine ⟨st.set b (rdE s p n) ++ [.box zeroD, .box [.int .i64 4, .int .i64 0, .str [], .int .i64 0, .int .i64 0, .lst 6 (some (st.length + 2)) []]], ?_, by simp only [gwL, tips, List.map_cons, List.map_nil, List.length_nil]⟩
  refine (wkSt_refl _).append (wkSt_cons (Ent.wkp_refl _) (wkSt_cons (Ent.wk_box ?_) wkSt_nil))
  exact wkL_cons (wk_refl _) (wkL_cons (wk_refl _) (wkL_cons (wk_refl _) (wkL_cons (wk_refl _) (wkL_cons (wk_refl _) (wkL_cons (wk_tip _ (by simp [Tips])) wkL_nil)))))
 rintro ⟨f, acc, p, n⟩ ⟨hacc, hp, hn, hf2, hfF, hI⟩
 simp only at hacc hp hn hf2 hfF hI ⊢
 rw [hI]
 cases f with
 | zero => omega
 | succ f =>
 simp only [gw0, reduceEqDiff, ↓reduceIte, reduceAdd, reduceLT, reduceLeDiff, reduceMul]
 refine (x_blank s st _ b p n hlt hp hs).use (wkL_refl _) fun _ => ?_
 have hble := blk_le (s.drop p) false
 have hbd := blk_drop (s.drop p) false
 simp only [rdL]
 simp only [List.length_drop] at hble hbd
 rw [List.drop_drop] at hbd
 generalize hl : blk false (s.drop p) = l at hble hbd ⊢
 simp only [gw0, reduceEqDiff, ↓reduceIte, reduceAdd, reduceLT, reduceLeDiff, reduceMul]
 refine vdraw TT_ok TT_mixed [0, 0, 0, 1, 0, 0, 0, 1, 0, 0] (by kernel_rfl) ?_
 simp only [gw0, reduceEqDiff, ↓reduceIte, reduceAdd, reduceLT, reduceLeDiff, reduceMul, at_b hlt]
 cases l with
 | nil =>
  simp only [List.length_nil, Nat.sub_zero, decide_true]
  simp only [gw0, reduceEqDiff, ↓reduceIte, reduceAdd, reduceLT, reduceLeDiff, reduceMul, at_b hlt]
  refine (c_fail _ 2 s.length).useP (wkL_refl _) ?_
  simp only [gw0, reduceEqDiff, ↓reduceIte, reduceAdd, reduceLT, reduceLeDiff, reduceMul]
  exact givesP_of (wk_refl _) (wkSt_refl _) (by simp [faultV, V.lt, ltL]) (hok _ _)
 | cons c r =>
  simp only [List.length_cons] at hble hbd ⊢
  have hlen : s.length - (r.length + 1) < s.length := by omega
  have hne : decide (((s.length - (r.length + 1) : Nat) : Int) = (s.length : Int)) = false := decide_eq_false (by omega)
  have hdr : s.drop (s.length - (r.length + 1)) = c :: r := by rw [hbd]; congr 1; omega
  generalize hp1 : s.length - (r.length + 1) = p1 at hlen hne hdr ⊢
  have hget : s[p1]? = some c := by
   have := congrArg (fun l => l[0]?) hdr
   simpa using this
  rw [hne]
  simp only [gw0, reduceEqDiff, ↓reduceIte, reduceAdd, reduceLT, reduceLeDiff, reduceMul]
  refine vdraw TT_ok TT_mixed [0, 0, 0, 1, 0, 0, 0, 1, 0, 0] (by kernel_rfl) ?_
  have h41 : decide ((c.toNat : Int) = 41) = decide (c = 41) := byte_eq c 41
  simp only [gw0, reduceEqDiff, ↓reduceIte, reduceAdd, reduceLT, reduceLeDiff, reduceMul, at_b hlt, getD_at hget, Int.ofNat_lt.mpr hlen]
  rw [h41]
  refine iK_split (fun h => ?_) (fun h => ?_)
  ·rw [h]
   simp only [gw0, reduceEqDiff, ↓reduceIte, reduceAdd, reduceLT, reduceLeDiff, reduceMul, at_b hlt, next_i64 hlen h63, set_b hlt, at_k, at_k0, set_k, set_k0, List.length_set]
   refine ⟨by decide, ?_⟩
   simp only [cond_true, outR]
   have hp2 : s.length - r.length = p1 + 1 := by omega
   rw [hp2]
   refine gives_of (wk_agg ?_) (wkSt_refl _) (by simp only [V.lt]; exact encD_lt _ (.mk 4 0 [] 0 0 acc)) (hok _ _)
   rw [encD_mk]
   exact wkL_cons (wk_refl _) (wkL_cons (wk_refl _) (wkL_cons (wk_refl _) (wkL_cons (wk_refl _) (wkL_cons (wk_refl _) (wkL_cons (wk_tok _ _ _) wkL_nil)))))
  ·rw [h]
   simp only [cond_false]
   have hc := OutC.x (ex := [.box zeroD, .box [.int .i64 4, .int .i64 0, .str [], .int .i64 0, .int .i64 0, .lst 6 (some (st.length + 2)) (acc.map encD)], .tip 26 acc.length]) hlt (ih f (by omega) (deep + 1) p1 n (st ++ [.box zeroD, .box [.int .i64 4, .int .i64 0, .str [], .int .i64 0, .int .i64 0, .lst 6 (some (st.length + 2)) (acc.map encD)], .tip 26 acc.length]) b (by simp; omega) (by omega) hn (by omega) (by omega) (by omega))
   have hfar := (rd_far s f).1 (deep + 1) p1 n hn
   have hwr : IntKind.i64.wrap (deep + 1) = deep + 1 := wrap_i64 (by omega) (by omega)
   cases hrr : rdD s f (deep + 1) p1 n with
   | err e q p' n' =>
    rw [hrr] at hc
    simp only [OutX] at hc
    simp only [RR.bind]
    simp only [gw0, reduceEqDiff, ↓reduceIte, reduceAdd, reduceLT, reduceLeDiff, reduceMul]
    refine vpanic TT_ok TT_mixed [0, 1, 0, 0, 0, 0, 0, 2, 0, 2] [0, 1, 2, 3, 4] 5 [6, 7, 8, 9] [0, 1, 4, 5] rfl (by kernel_rfl) ?_
    simp only [gw0, reduceEqDiff, ↓reduceIte, reduceAdd, reduceLT, reduceLeDiff, reduceMul, gwD3, gwDT, pureR_none, ite_self, nilR, nilB, bitF, bitV, nilC, nilCmp, eqb, assertV, assertW, zeroV, wQ_normal, wQ_ret, wQ_panic, pickO, pickC, List.map_cons, List.map_nil, List.getD_cons_zero, List.getD_cons_succ, Env.keep, beq_self_eq_true, cond_true, cond_false, at_k, at_k0, hwr, List.length_set]
    refine pK_of hc (wkL_refl _) ?_
    exact givesP_of (wk_refl _) (wkSt_refl _) (by simp [faultV, V.lt, ltL]) (hok _ _)
   | ok x p' n' =>
    rw [hrr] at hc hfar
    simp only [OutX] at hc
    simp only [RR.far] at hfar
    simp only [RR.bind]
    simp only [gw0, reduceEqDiff, ↓reduceIte, reduceAdd, reduceLT, reduceLeDiff, reduceMul]
    refine vstage TT_ok TT_mixed (σ := Unit) [st.set b (rdE s p1 n) ++ [.box zeroD, .box [.int .i64 4, .int .i64 0, .str [], .int .i64 0, .int .i64 0, .lst 6 (some (st.length + 2)) (acc.map encD)], .tip 26 acc.length], st.set b (rdE s p' n') ++ [.box zeroD, .box [.int .i64 4, .int .i64 0, .str [], .int .i64 0, .int .i64 0, .lst 6 (some (st.length + 2)) (acc.map encD)], .tip 26 acc.length]] [0, 3, 0, 0, 0, 4, 0, 2, 0, 2] [0,1,2,3,4,5,6,7,8,9] [] [] 1000 1001 [0, 1, 4, 5] (fun _x => [(0, true, .ptr b 0), (1, true, .int .i64 deep), (4, true, .ptr st.length 0), (5, true, .ptr (st.length + 1) 0)]) (fun _x => st.set b (rdE s p' n') ++ [.box zeroD, .box [.int .i64 4, .int .i64 0, .str [], .int .i64 0, .int .i64 0, .lst 6 (some (st.length + 2)) (acc.map encD ++ [encD x])], .tip 26 (acc.length + 1)]) (fun _x => True) rfl (by kernel_rfl) ?_ ?_
    ·simp only [gw0, reduceEqDiff, ↓reduceIte, reduceAdd, reduceLT, reduceLeDiff, reduceMul, gwD3, gwDT, pureR_none, ite_self, nilR, nilB, bitF, bitV, nilC, nilCmp, eqb, assertV, assertW, zeroV, wQ_normal, wQ_ret, wQ_panic, pickO, pickC, List.map_cons, List.map_nil, List.getD_cons_zero, List.getD_cons_succ, Env.keep, beq_self_eq_true, cond_true, cond_false, at_k, at_k0, hwr, List.length_set]
     refine eK3_loud hc (wkL_refl _) (by simp) (by simp) ?_
     simp only [gw0, reduceEqDiff, ↓reduceIte, reduceAdd, reduceLT, reduceLeDiff, reduceMul, gwD3, gwDT, pureR_none, ite_self, nilR, nilB, bitF, bitV, nilC, nilCmp, eqb, assertV, assertW, zeroV, wQ_normal, wQ_ret, wQ_panic, pickO, pickC, List.map_cons, List.map_nil, List.getD_cons_zero, List.getD_cons_succ, Env.keep, beq_self_eq_true, cond_true, cond_false, at_k, at_k0, set_k, set_k0, encD_take, encD_len, encD_drop, Nat.le_refl, List.length_map, List.length_set]
     refine ⟨by omega, stage2_of ?_ ?_⟩
     ·simp only [gw0, reduceEqDiff, ↓reduceIte, reduceAdd, reduceLT, reduceLeDiff, reduceMul, gwD3, gwDT, pureR_none, ite_self, nilR, nilB, bitF, bitV, nilC, nilCmp, eqb, assertV, assertW, zeroV, wQ_normal, wQ_ret, wQ_panic, pickO, pickC, List.map_cons, List.map_nil, List.getD_cons_zero, List.getD_cons_succ, Env.keep, beq_self_eq_true, cond_true, cond_false]
      exact ⟨rfl, rfl, (), rfl, rfl, trivial⟩
     ·simp only [gw0, reduceEqDiff, ↓reduceIte, reduceAdd, reduceLT, reduceLeDiff, reduceMul, gwD3, gwDT, pureR_none, ite_self, nilR, nilB, bitF, bitV, nilC, nilCmp, eqb, assertV, assertW, zeroV, wQ_normal, wQ_ret, wQ_panic, pickO, pickC, List.map_cons, List.map_nil, List.getD_cons_zero, List.getD_cons_succ, Env.keep, beq_self_eq_true, cond_true, cond_false]
      exact ⟨rfl, rfl, (), rfl, rfl, trivial⟩
    ·rintro - -
     simp only [gw0, reduceEqDiff, ↓reduceIte, reduceAdd, reduceLT, reduceLeDiff, reduceMul, Env.keep]
     have hsz : (List.set st b (rdE s p n)).length = st.length := by simp
     refine ⟨(f, acc ++ [x], p', n'), ⟨wkE_refl _, st.set b (rdE s p' n') ++ [.box zeroD, .box [.int .i64 4, .int .i64 0, .str [], .int .i64 0, .int .i64 0, .lst 6 (some (st.length + 2)) ((acc ++ [x]).map encD)], .tip 26 (acc ++ [x]).length], [], ?_, wkSt_refl _, ?_, ?_, ?_⟩, ?_, ?_, ?_, ?_, ?_, ?_, rfl⟩
     ·simp
     ·simp only [ltE, V.lt, gwL, List.length_set]
      exact ⟨by omega, by trivial, by omega, by omega, trivial⟩
     ·refine ok_app (hok p' n') ⟨by simp [Ent.lt, ltL, V.lt, zeroD], ⟨?_, trivial, trivial⟩⟩
      simp only [Ent.lt, ltL, V.lt, true_and, and_true]
      exact ⟨fun e he => by cases he; simp, ltRows_map fun d _ => encD_lt _ _⟩
     ·simp
     ·dsimp only; omega
     ·simp; omega
     ·exact hfar.2.1
     ·exact hfar.2.2
     ·dsimp only; omega
     ·dsimp only; omega
theorem wkR_cons {p : Nat → Prop} {x y : List V} {xs ys : List (List V)} (h : wkLp p x y) (k : wkRp p xs ys) : wkRp p (x :: xs) (y :: ys) := by simp only [wkRp]; exact ⟨y, ys, rfl, h, k⟩
theorem wkR_nil {p : Nat → Prop} : wkRp p [] [] := by simp [wkRp]
theorem word_slice {s : Str} {p : Nat} {c : UInt8} {r : Str} (h : s.drop p = c :: r) : (s.take (p + 1 + (r.takeWhile letterB).length)).drop p = c :: r.takeWhile letterB := by
 rw [List.drop_take, h, show p + 1 + (r.takeWhile letterB).length - p = (r.takeWhile letterB).length + 1 by omega, List.take_succ_cons]
 congr 1
 exact (List.prefix_iff_eq_take.1 (List.takeWhile_prefix letterB)).symm
set_option maxHeartbeats 4000000 in
theorem c_datum_of (s : Str) (hs : s.length ≤ 6000) (f : Nat) (ih : IHD s (f + 1)) (deep : Int) (p n : Nat) (st : St) (b : Nat) (hlt : b < st.length) (hp : p ≤ s.length) (hn : n ≤ 2000) (hd0 : 0 ≤ deep) (hd1 : deep ≤ 41) (hF : 2 * (s.length - p) < f + 1) :
  OutC s b st (st.set b (rdE s p n)) 74 [.ptr b 0, .int .i64 deep] (rdD s (f + 1) deep p n) := by
 refine OutC_of (by simp) ?_
 refine vfunQ TT_ok (an := anL []) (L := [0, 1, 4, 5, 6, 7, 8]) (rs := [.cell 4 26]) Tryz.func74 rfl (by kernel_rfl) rfl Tryz.ntmps74 rfl rfl fun hst ha hf => ?_
 have h63 : s.length ≤ 9223372036854775807 := by omega
 have hok : ∀ p n, St.ok (st.set b (rdE s p n)) := fun p n => by have := rd_ok (s := s) (b := b) (p := p) (n := n) hst; rw [List.set_set] at this; exact this
 have hfin : ∀ e q p' n' ex, outR s b st (.err e q p' n') (.panic (faultV e q)) (st.set b (rdE s p' n') ++ ex) := fun e q p' n' ex => givesP_of (wk_refl _) (wkSt_refl _) (by simp [faultV, V.lt, ltL]) (hok _ _)
 have hret : ∀ (d : Datum) v p' n' ex, wk v (.agg (encD d)) → outR s b st (.ok d p' n') (.ret v) (st.set b (rdE s p' n') ++ ex) := fun d v p' n' ex hw => gives_of hw (wkSt_refl _) (by simp only [V.lt]; exact encD_lt _ d) (hok _ _)
 simp only [gw0, reduceEqDiff, ↓reduceIte, reduceAdd, reduceLT, reduceLeDiff, reduceMul, List.length_set, at_k, at_k0, set_k, set_k0, at_b hlt, at_b0 hlt, set_b hlt]
 simp only [rdD]
 cases h0 : (decide (2000 < n + 1) || decide (40 < deep)) with
 | true =>
  refine (x_node_err s st _ b p n deep p hlt hn (by simpa using h0)).useP (wkL_refl _) ?_
  simp only [gw0, reduceEqDiff, ↓reduceIte, reduceAdd, reduceLT, reduceLeDiff, reduceMul]
  exact hfin _ _ _ _ _
 | false =>
 have hn1 : n + 1 ≤ 2000 := by simp at h0; omega
 have hdeep : deep ≤ 40 := by simp at h0; omega
 refine (x_node_ok s st _ b p n deep p hlt (by simp at h0; omega)).use (wkL_refl _) fun _ => ?_
 simp only [gw0, reduceEqDiff, ↓reduceIte, reduceAdd, reduceLT, reduceLeDiff, reduceMul, List.length_set, at_k, at_k0, set_k, set_k0, at_b hlt, at_b0 hlt, set_b hlt]
 try simp only [cond_false]
 rcases at_or_end s p hp with ⟨rfl, hdr⟩ | ⟨c, hltp, hget, hdr⟩
 ·rw [hdr]
  simp only [gw0, reduceEqDiff, ↓reduceIte, reduceAdd, reduceLT, reduceLeDiff, reduceMul, decide_true]
  refine (c_fail _ 2 s.length).useP (wkL_refl _) ?_
  simp only [gw0, reduceEqDiff, ↓reduceIte, reduceAdd, reduceLT, reduceLeDiff, reduceMul]
  exact hfin _ _ _ _ _
 have hne : decide ((p : Int) = (s.length : Int)) = false := decide_eq_false (by omega)
 rw [hne, hdr]
 have hlen : p + (s.drop (p + 1)).length + 1 = s.length := by simp; omega
 have h40 : decide ((c.toNat : Int) = 40) = decide (c = 40) := byte_eq c 40
 simp only [gw0, reduceEqDiff, ↓reduceIte, reduceAdd, reduceLT, reduceLeDiff, reduceMul, List.length_set, at_k, at_k0, set_k, set_k0, at_b hlt, at_b0 hlt, set_b hlt, getD_at hget, Int.ofNat_lt.mpr hltp, next_i64 hltp h63, h40]
 have hE : ∀ x n, Ent.box [V.str s, V.int .i64 (x : Nat), V.int .i64 (n : Nat)] = rdE s x n := fun _ _ => rfl
 simp only [hE]
 have ihf : IHD s f := fun f' h => ih f' (by omega)
 refine iK_split (fun h => ?_) (fun h => ?_)
 ·rw [h]
  have hc := OutC.x (ex := [.box zeroD]) hlt (c_list_of s hs f ihf deep (p + 1) (n + 1) (st ++ [.box zeroD]) b (by simp; omega) (by omega) hn1 hd0 hdeep (by omega))
  try simp only [cond_true]
  simp only [gw0, reduceEqDiff, ↓reduceIte, reduceAdd, reduceLT, reduceLeDiff, reduceMul]
  cases hrr : rdL s f deep [] (p + 1) (n + 1) with
  | err e q p' n' =>
   rw [hrr] at hc
   refine hc.useP (wkL_refl _) ?_
   simp only [gw0, reduceEqDiff, ↓reduceIte, reduceAdd, reduceLT, reduceLeDiff, reduceMul]
   exact hfin _ _ _ _ _
  | ok x p' n' =>
   rw [hrr] at hc
   refine hc.use (wkL_refl _) fun _ => ?_
   simp only [gw0, reduceEqDiff, ↓reduceIte, reduceAdd, reduceLT, reduceLeDiff, reduceMul, List.length_set, at_k, at_k0, set_k, set_k0, zeroD, encD_take, encD_len, encD_drop, Nat.le_refl]
   exact hret _ _ _ _ _ (wk_refl _)
 have h39 : decide ((c.toNat : Int) = 39) = decide (c = 39) := byte_eq c 39
 rw [h]
 simp only [gw0, reduceEqDiff, ↓reduceIte, reduceAdd, reduceLT, reduceLeDiff, reduceMul, h39]
 try simp only [cond_false]
 clear h
 refine iK_split (fun h => ?_) (fun h => ?_)
 ·rw [h]
  try simp only [cond_true]
  have hwr : IntKind.i64.wrap (deep + 1) = deep + 1 := wrap_i64 (by omega) (by omega)
  simp only [gw0, reduceEqDiff, ↓reduceIte, reduceAdd, reduceLT, reduceLeDiff, reduceMul, hwr]
  cases h1 : (decide (2000 < n + 2) || decide (40 < deep + 1)) with
  | true =>
   refine (x_node_err s st _ b (p + 1) (n + 1) (deep + 1) p hlt hn1 (by simpa using h1)).useP (wkL_refl _) ?_
   simp only [gw0, reduceEqDiff, ↓reduceIte, reduceAdd, reduceLT, reduceLeDiff, reduceMul]
   try simp only [cond_true]
   exact hfin _ _ _ _ _
  | false =>
   have hn2 : n + 2 ≤ 2000 := by simp at h1; omega
   refine (x_node_ok s st _ b (p + 1) (n + 1) (deep + 1) p hlt (by simp at h1; omega)).use (wkL_refl _) fun _ => ?_
   simp only [gw0, reduceEqDiff, ↓reduceIte, reduceAdd, reduceLT, reduceLeDiff, reduceMul]
   refine (x_blank s st _ b (p + 1) (n + 2) hlt (by omega) hs).use (wkL_refl _) fun _ => ?_
   have hbl := blk_le (s.drop (p + 1)) false
   simp only [List.length_drop] at hbl
   generalize hq : s.length - (blk false (s.drop (p + 1))).length = p2
   have hc := OutC.x (ex := [.box zeroD]) hlt (ih f (by omega) (deep + 1) p2 (n + 2) (st ++ [.box zeroD]) b (by simp; omega) (by omega) hn2 (by omega) (by omega) (by omega))
   try simp only [cond_false]
   simp only [gw0, reduceEqDiff, ↓reduceIte, reduceAdd, reduceLT, reduceLeDiff, reduceMul, hwr]
   cases hrr : rdD s f (deep + 1) p2 (n + 2) with
   | err e q p' n' =>
    rw [hrr] at hc
    refine hc.useP (wkL_refl _) ?_
    simp only [gw0, reduceEqDiff, ↓reduceIte, reduceAdd, reduceLT, reduceLeDiff, reduceMul]
    exact hfin _ _ _ _ _
   | ok x p' n' =>
    rw [hrr] at hc
    refine hc.use (wkL_refl _) fun _ => ?_
    simp only [gw0, reduceEqDiff, ↓reduceIte, reduceAdd, reduceLT, reduceLeDiff, reduceMul, List.length_set, at_k, at_k0, set_k, set_k0, zeroD, encD_take, encD_len, encD_drop, Nat.le_refl]
    refine hret (quoteD x) _ _ _ _ (wk_agg ?_)
    simp only [quoteD, encD_mk, List.map_cons, List.map_nil]
    exact wkL_cons (wk_refl _) (wkL_cons (wk_refl _) (wkL_cons (wk_refl _) (wkL_cons (wk_refl _) (wkL_cons (wk_refl _) (wkL_cons (wk_lst (wkR_cons (wk6 ..) (wkR_cons (wkL_refl _) wkR_nil))) wkL_nil)))))
 rw [h]
 have h35 : decide ((c.toNat : Int) = 35) = decide (c = 35) := byte_eq c 35
 simp only [gw0, reduceEqDiff, ↓reduceIte, reduceAdd, reduceLT, reduceLeDiff, reduceMul, h35]
 try simp only [cond_false]
 clear h
 refine iK_split (fun h => ?_) (fun h => ?_)
 ·rw [h]
  try simp only [cond_true]
  simp only [gw0, reduceEqDiff, ↓reduceIte, reduceAdd, reduceLT, reduceLeDiff, reduceMul]
  refine vdraw TT_ok TT_mixed [0, 0, 0, 1, 0, 0, 0, 1, 0, 0, 0, 0, 0, 0, 1, 0, 0, 0, 1, 0, 0, 0, 0, 0, 0, 1, 0, 0, 0, 1, 0, 0, 0, 0] (by kernel_rfl) ?_
  rcases at_or_end s (p + 1) (by omega) with ⟨hpe, hdr2⟩ | ⟨t, hltt, hgett, hdr2⟩
  ·have hlt1 : decide (((p + 1 : Nat) : Int) < (s.length : Int)) = false := decide_eq_false (by omega)
   simp only [gw0, reduceEqDiff, ↓reduceIte, reduceAdd, reduceLT, reduceLeDiff, reduceMul, at_b hlt, hlt1]
   rw [hdr2]
   refine (c_fail _ 2 p).useP (wkL_refl _) ?_
   simp only [gw0, reduceEqDiff, ↓reduceIte, reduceAdd, reduceLT, reduceLeDiff, reduceMul]
   exact hfin _ _ _ _ _
  ·have e1 : decide ((t.toNat : Int) = 116) = decide (t = 116) := byte_eq t 116
   have e2 : decide ((t.toNat : Int) = 102) = decide (t = 102) := byte_eq t 102
   simp only [gw0, reduceEqDiff, ↓reduceIte, reduceAdd, reduceLT, reduceLeDiff, reduceMul, at_b hlt, lt_yes hltt, getD_at hgett, Int.ofNat_lt.mpr hltt, e1, e2]
   rw [hdr2]
   simp only [rdB]
   refine iK_split (fun h2 => ?_) (fun h2 => ?_)
   ·rw [h2]
    try simp only [cond_true]
    simp only [gw0, reduceEqDiff, ↓reduceIte, reduceAdd, reduceLT, reduceLeDiff, reduceMul]
    refine vdraw TT_ok TT_mixed [0, 0, 0, 1, 0, 0, 0, 1, 0, 0] (by kernel_rfl) ?_
    simp only [gw0, reduceEqDiff, ↓reduceIte, reduceAdd, reduceLT, reduceLeDiff, reduceMul, at_b hlt, getD_at hgett, Int.ofNat_lt.mpr hltt, e1]
    have hend : ∀ k : Int, k = (bif decide (t = 116) then 1 else 0) → True := fun _ _ => trivial
    refine iK_split (fun h3 => ?_) (fun h3 => ?_)
    ·rw [h3]
     simp only [gw0, reduceEqDiff, ↓reduceIte, reduceAdd, reduceLT, reduceLeDiff, reduceMul, at_b hlt, set_b hlt, next_i64 hltt h63]
     simp only [hE]
     refine vdraw TT_ok TT_mixed [0, 0, 0, 1, 0, 0, 0, 1, 0, 0, 0, 0, 0, 0, 1, 0, 0, 0, 1, 0, 0, 0, 0] (by kernel_rfl) ?_
     rcases at_or_end s (p + 2) (by omega) with ⟨hpe, hdr3⟩ | ⟨u, hltu, hgetu, hdr3⟩
     ·have heq : decide (((p + 2 : Nat) : Int) = (s.length : Int)) = true := decide_eq_true (by omega)
      simp only [gw0, reduceEqDiff, ↓reduceIte, reduceAdd, reduceLT, reduceLeDiff, reduceMul, at_b hlt, heq]
      rw [hdr3]
      refine eK_free (fun st => c_letter st (s.getD (p + 2) 0)) (wkL_refl _) ?_
      simp only [gw0, reduceEqDiff, ↓reduceIte, reduceAdd, reduceLT, reduceLeDiff, reduceMul, at_k, at_k0, set_k, set_k0, List.length_set]
      exact hret (.mk 2 _ [] 0 0 []) _ _ _ _ (wk_agg (by rw [encD_mk]; exact wk6 ..))
     ·have heq : decide (((p + 2 : Nat) : Int) = (s.length : Int)) = false := decide_eq_false (by omega)
      simp only [gw0, reduceEqDiff, ↓reduceIte, reduceAdd, reduceLT, reduceLeDiff, reduceMul, at_b hlt, heq, getD_at hgetu, Int.ofNat_lt.mpr hltu]
      rw [hdr3]
      refine eK_free (fun st => c_letter st u) (wkL_refl _) ?_
      simp only [gw0, reduceEqDiff, ↓reduceIte, reduceAdd, reduceLT, reduceLeDiff, reduceMul, at_k, at_k0, set_k, set_k0, List.length_set]
      refine iK_split (fun h4 => ?_) (fun h4 => ?_)
      ·have h4' : letterB u = false := by simpa using h4
       rw [h4']
       simp only [gw0, reduceEqDiff, ↓reduceIte, reduceAdd, reduceLT, reduceLeDiff, reduceMul, at_k, at_k0, set_k, set_k0, List.length_set]
       exact hret (.mk 2 _ [] 0 0 []) _ _ _ _ (wk_agg (by rw [encD_mk]; exact wk6 ..))
      ·have h4' : letterB u = true := by simpa using h4
       rw [h4']
       simp only [gw0, reduceEqDiff, ↓reduceIte, reduceAdd, reduceLT, reduceLeDiff, reduceMul]
       refine (c_fail _ 2 p).useP (wkL_refl _) ?_
       simp only [gw0, reduceEqDiff, ↓reduceIte, reduceAdd, reduceLT, reduceLeDiff, reduceMul]
       exact hfin _ _ _ _ _
    ·rw [h3]
     simp only [gw0, reduceEqDiff, ↓reduceIte, reduceAdd, reduceLT, reduceLeDiff, reduceMul, at_b hlt, set_b hlt, next_i64 hltt h63]
     simp only [hE]
     refine vdraw TT_ok TT_mixed [0, 0, 0, 1, 0, 0, 0, 1, 0, 0, 0, 0, 0, 0, 1, 0, 0, 0, 1, 0, 0, 0, 0] (by kernel_rfl) ?_
     rcases at_or_end s (p + 2) (by omega) with ⟨hpe, hdr3⟩ | ⟨u, hltu, hgetu, hdr3⟩
     ·have heq : decide (((p + 2 : Nat) : Int) = (s.length : Int)) = true := decide_eq_true (by omega)
      simp only [gw0, reduceEqDiff, ↓reduceIte, reduceAdd, reduceLT, reduceLeDiff, reduceMul, at_b hlt, heq]
      rw [hdr3]
      refine eK_free (fun st => c_letter st (s.getD (p + 2) 0)) (wkL_refl _) ?_
      simp only [gw0, reduceEqDiff, ↓reduceIte, reduceAdd, reduceLT, reduceLeDiff, reduceMul, at_k, at_k0, set_k, set_k0, List.length_set]
      exact hret (.mk 2 _ [] 0 0 []) _ _ _ _ (wk_agg (by rw [encD_mk]; exact wk6 ..))
     ·have heq : decide (((p + 2 : Nat) : Int) = (s.length : Int)) = false := decide_eq_false (by omega)
      simp only [gw0, reduceEqDiff, ↓reduceIte, reduceAdd, reduceLT, reduceLeDiff, reduceMul, at_b hlt, heq, getD_at hgetu, Int.ofNat_lt.mpr hltu]
      rw [hdr3]
      refine eK_free (fun st => c_letter st u) (wkL_refl _) ?_
      simp only [gw0, reduceEqDiff, ↓reduceIte, reduceAdd, reduceLT, reduceLeDiff, reduceMul, at_k, at_k0, set_k, set_k0, List.length_set]
      refine iK_split (fun h4 => ?_) (fun h4 => ?_)
      ·have h4' : letterB u = false := by simpa using h4
       rw [h4']
       simp only [gw0, reduceEqDiff, ↓reduceIte, reduceAdd, reduceLT, reduceLeDiff, reduceMul, at_k, at_k0, set_k, set_k0, List.length_set]
       exact hret (.mk 2 _ [] 0 0 []) _ _ _ _ (wk_agg (by rw [encD_mk]; exact wk6 ..))
      ·have h4' : letterB u = true := by simpa using h4
       rw [h4']
       simp only [gw0, reduceEqDiff, ↓reduceIte, reduceAdd, reduceLT, reduceLeDiff, reduceMul]
       refine (c_fail _ 2 p).useP (wkL_refl _) ?_
       simp only [gw0, reduceEqDiff, ↓reduceIte, reduceAdd, reduceLT, reduceLeDiff, reduceMul]
       exact hfin _ _ _ _ _
   ·rw [h2]
    simp only [gw0, reduceEqDiff, ↓reduceIte, reduceAdd, reduceLT, reduceLeDiff, reduceMul]
    refine (c_fail _ 2 p).useP (wkL_refl _) ?_
    simp only [gw0, reduceEqDiff, ↓reduceIte, reduceAdd, reduceLT, reduceLeDiff, reduceMul]
    exact hfin _ _ _ _ _
 rw [h]
 simp only [gw0, reduceEqDiff, ↓reduceIte, reduceAdd, reduceLT, reduceLeDiff, reduceMul]
 try simp only [cond_false]
 clear h
 refine (c_letter _ c).use (wkL_refl _) fun _ => ?_
 simp only [gw0, reduceEqDiff, ↓reduceIte, reduceAdd, reduceLT, reduceLeDiff, reduceMul]
 refine iK_split (fun h => ?_) (fun h => ?_)
 ·rw [h]
  try simp only [cond_true]
  simp only [gw0, reduceEqDiff, ↓reduceIte, reduceAdd, reduceLT, reduceLeDiff, reduceMul]
  have hbox : [Ent.box [V.int .i64 0, V.int .i64 0, V.str [], V.int .i64 0, V.int .i64 0, V.nils]] = [Ent.box zeroD] := rfl
  have hrl : (s.drop (p + 1)).length = s.length - (p + 1) := by simp
  refine vfor (σ := Nat) [0, 1, 4, 5] (fun y => [(0, true, .ptr b 0), (1, true, .int .i64 deep), (4, true, .ptr st.length 0), (5, true, .int .i64 p)]) (fun y => st.set b (rdE s y (n + 1)) ++ [.box zeroD]) (fun y => s.length - y) (fun y => p + 1 ≤ y ∧ y ≤ s.length ∧ y + ((s.drop y).takeWhile letterB).length = p + 1 + ((s.drop (p + 1)).takeWhile letterB).length) (p + 1) rfl TT_ok ⟨Nat.le_refl _, by omega, rfl⟩ rfl rfl ?_
  rintro y ⟨hy1, hy2, hy3⟩
  simp only [gw0, reduceEqDiff, ↓reduceIte, reduceAdd, reduceLT, reduceLeDiff, reduceMul]
  refine vdraw TT_ok TT_mixed [0, 0, 0, 1, 0, 0, 0, 1, 0, 0, 0, 0, 0, 0, 1, 0, 0, 0, 1, 0, 0, 0] (by kernel_rfl) ?_
  have hafter : ∀ y, y = p + 1 + ((s.drop (p + 1)).takeWhile letterB).length → y ≤ s.length → True := fun _ _ _ => trivial
  rcases at_or_end s y hy2 with ⟨hye, hdry⟩ | ⟨u, hlty, hgety, hdry⟩
  ·have hlt1 : decide ((y : Int) < (s.length : Int)) = false := decide_eq_false (by omega)
   simp only [gw0, reduceEqDiff, ↓reduceIte, reduceAdd, reduceLT, reduceLeDiff, reduceMul, at_b hlt, hlt1]
   refine eK_free (fun st => c_letter st (s.getD y 0)) (wkL_refl _) ?_
   simp only [gw0, reduceEqDiff, ↓reduceIte, reduceAdd, reduceLT, reduceLeDiff, reduceMul]
   have hyE : y = p + 1 + ((s.drop (p + 1)).takeWhile letterB).length := by rw [hdry] at hy3; simpa using hy3
   have hsl := word_slice hdr
   rw [← hyE] at hsl
   have hwl : (c :: (s.drop (p + 1)).takeWhile letterB).length ≤ 6000 := by have := takeWhile_le (l := s.drop (p + 1)); simp only [List.length_cons]; omega
   have hle1 : decide ((p : Int) ≤ (y : Int)) = true := decide_eq_true (by omega)
   simp only [rdA]
   rw [← hyE]
   cases har : atomR (c :: (s.drop (p + 1)).takeWhile letterB) with
   | inl e =>
    refine vpanic TT_ok TT_mixed [0, 0, 0, 1, 0, 0, 0, 0, 1, 0, 0, 0, 2] [0, 1, 2, 3, 4, 5, 6, 7, 8, 9, 10] 11 [12] [0, 1, 4, 5, 6, 7, 8] rfl (by kernel_rfl) ?_
    simp only [gw0, reduceEqDiff, ↓reduceIte, reduceAdd, reduceLT, reduceLeDiff, reduceMul, gwD3, gwDT, pureR_none, ite_self, nilR, nilB, bitF, bitV, nilC, nilCmp, eqb, assertV, assertW, zeroV, wQ_normal, wQ_ret, wQ_panic, pickO, pickC, List.map_cons, List.map_nil, List.getD_cons_zero, List.getD_cons_succ, Env.keep, beq_self_eq_true, cond_true, cond_false, at_b hlt, Int.toNat_natCast, hsl]
    refine ⟨by omega, ?_⟩
    refine pK_of (c_atom_err _ _ p e hwl har) (wkL_refl _) ?_
    exact hfin _ _ _ _ _
   | inr d =>
    refine vdraw TT_ok TT_mixed [0, 0, 0, 1, 0, 0, 0, 0, 1, 0, 0, 0, 2] (by kernel_rfl) ?_
    simp only [gw0, reduceEqDiff, ↓reduceIte, reduceAdd, reduceLT, reduceLeDiff, reduceMul, at_b hlt, Int.toNat_natCast, hsl]
    refine ⟨by omega, ?_⟩
    refine eK_free (fun st => c_atom_ok _ st p d hwl har) (wkL_refl _) ?_
    simp only [gw0, reduceEqDiff, ↓reduceIte, reduceAdd, reduceLT, reduceLeDiff, reduceMul, at_k, at_k0, set_k, set_k0, List.length_set, zeroD, encD_take, encD_len, encD_drop, Nat.le_refl]
    exact hret _ _ _ _ _ (wk_refl _)
  ·simp only [gw0, reduceEqDiff, ↓reduceIte, reduceAdd, reduceLT, reduceLeDiff, reduceMul, at_b hlt, lt_yes hlty, getD_at hgety, Int.ofNat_lt.mpr hlty]
   refine eK_free (fun st => c_letter st u) (wkL_refl _) ?_
   simp only [gw0, reduceEqDiff, ↓reduceIte, reduceAdd, reduceLT, reduceLeDiff, reduceMul]
   refine iK_split (fun h4 => ?_) (fun h4 => ?_)
   ·simp only [gw0, reduceEqDiff, ↓reduceIte, reduceAdd, reduceLT, reduceLeDiff, reduceMul, at_b hlt, set_b hlt, next_i64 hlty h63]
    simp only [gw0, reduceEqDiff, ↓reduceIte, reduceAdd, reduceLT, reduceLeDiff, reduceMul, Env.keep]
    rw [hdry, List.takeWhile_cons_of_pos h4, List.length_cons] at hy3
    exact ⟨y + 1, rfl, by omega, by omega, by omega, by omega⟩
   ·simp only [gw0, reduceEqDiff, ↓reduceIte, reduceAdd, reduceLT, reduceLeDiff, reduceMul]
    have hyE : y = p + 1 + ((s.drop (p + 1)).takeWhile letterB).length := by rw [hdry, List.takeWhile_cons_of_neg (by simp [h4]), List.length_nil] at hy3; simpa using hy3
    have hsl := word_slice hdr
    rw [← hyE] at hsl
    have hwl : (c :: (s.drop (p + 1)).takeWhile letterB).length ≤ 6000 := by have := takeWhile_le (l := s.drop (p + 1)); simp only [List.length_cons]; omega
    have hle1 : decide ((p : Int) ≤ (y : Int)) = true := decide_eq_true (by omega)
    simp only [rdA]
    rw [← hyE]
    cases har : atomR (c :: (s.drop (p + 1)).takeWhile letterB) with
    | inl e =>
     refine vpanic TT_ok TT_mixed [0, 0, 0, 1, 0, 0, 0, 0, 1, 0, 0, 0, 2] [0, 1, 2, 3, 4, 5, 6, 7, 8, 9, 10] 11 [12] [0, 1, 4, 5, 6, 7, 8] rfl (by kernel_rfl) ?_
     simp only [gw0, reduceEqDiff, ↓reduceIte, reduceAdd, reduceLT, reduceLeDiff, reduceMul, gwD3, gwDT, pureR_none, ite_self, nilR, nilB, bitF, bitV, nilC, nilCmp, eqb, assertV, assertW, zeroV, wQ_normal, wQ_ret, wQ_panic, pickO, pickC, List.map_cons, List.map_nil, List.getD_cons_zero, List.getD_cons_succ, Env.keep, beq_self_eq_true, cond_true, cond_false, at_b hlt, Int.toNat_natCast, hsl]
     refine ⟨by omega, ?_⟩
     refine pK_of (c_atom_err _ _ p e hwl har) (wkL_refl _) ?_
     exact hfin _ _ _ _ _
    | inr d =>
     refine vdraw TT_ok TT_mixed [0, 0, 0, 1, 0, 0, 0, 0, 1, 0, 0, 0, 2] (by kernel_rfl) ?_
     simp only [gw0, reduceEqDiff, ↓reduceIte, reduceAdd, reduceLT, reduceLeDiff, reduceMul, at_b hlt, Int.toNat_natCast, hsl]
     refine ⟨by omega, ?_⟩
     refine eK_free (fun st => c_atom_ok _ st p d hwl har) (wkL_refl _) ?_
     simp only [gw0, reduceEqDiff, ↓reduceIte, reduceAdd, reduceLT, reduceLeDiff, reduceMul, at_k, at_k0, set_k, set_k0, List.length_set, zeroD, encD_take, encD_len, encD_drop, Nat.le_refl]
     exact hret _ _ _ _ _ (wk_refl _)
 ·rw [h]
  simp only [gw0, reduceEqDiff, ↓reduceIte, reduceAdd, reduceLT, reduceLeDiff, reduceMul]
  refine (c_fail _ 2 p).useP (wkL_refl _) ?_
  simp only [gw0, reduceEqDiff, ↓reduceIte, reduceAdd, reduceLT, reduceLeDiff, reduceMul]
  exact hfin _ _ _ _ _
theorem c_datum (s : Str) (hs : s.length ≤ 6000) : ∀ F, IHD s F
 | 0 => fun f h => by omega
 | F + 1 => fun f h deep p n st b h1 h2 h3 h4 h5 h6 => by
  rcases Nat.lt_or_ge f F with hl | hl
  ·exact c_datum s hs F f hl deep p n st b h1 h2 h3 h4 h5 h6
  ·have : f = F := by omega
   subst this
   cases f with
   | zero => omega
   | succ f => exact c_datum_of s hs f (c_datum s hs (f + 1)) deep p n st b h1 h2 h3 h4 h5 h6
/-- What is deferred, where nothing was thrown. -/
theorem d_idle (st : St) (a c : Nat) : VDefers Tryz.prog TT 72 [.ptr a 0, .ptr c 0] none st st := by
 refine vdefers TT_ok (an := anL []) (L := [0, 1, 3, 4, 5, 10]) Tryz.func72 rfl (by kernel_rfl) rfl Tryz.ntmps72 rfl rfl (by decide) (Nat.le_refl _) fun hst ha hf => ?_
 simp only [gw0, reduceEqDiff, ↓reduceIte, reduceAdd, reduceLT, reduceLeDiff, reduceMul, gwD3, gwDT, pureR_none, ite_self, nilR, nilB, bitF, bitV, nilC, nilCmp, eqb, assertV, assertW, zeroV, wQ_normal, wQ_ret, wQ_panic, pickO, pickC, List.map_cons, List.map_nil, List.getD_cons_zero, List.getD_cons_succ, Env.keep, beq_self_eq_true, cond_true, cond_false, Option.getD_none]
 exact ⟨[], st, by simp, wkSt_refl _, hst⟩
/-- .. where a fault was. -/
theorem d_caught (st : St) (a c : Nat) (e q : Int) (o : V) (x y : Int) (hao : st[a]? = some (.box [o])) (hc : st[c]? = some (.box [.int .i64 x, .int .i64 y])) (hne : a ≠ c) (hst2 : St.ok ((st.set a (.box [.nils])).set c (.box [.int .i64 e, .int .i64 q]))) :
  VDefers Tryz.prog TT 72 [.ptr a 0, .ptr c 0] (some (faultV e q)) st ((st.set a (.box [.nils])).set c (.box [.int .i64 e, .int .i64 q])) := by
 have hal := (List.getElem?_eq_some_iff.1 hao).1
 have hcl := (List.getElem?_eq_some_iff.1 hc).1
 refine vdefers TT_ok (an := anL []) (L := [0, 1, 3, 4, 5, 10]) Tryz.func72 rfl (by kernel_rfl) rfl Tryz.ntmps72 rfl rfl (by decide) (by simp) fun hst ha hf => ?_
 simp only [faultV]
 simp only [gw0, reduceEqDiff, ↓reduceIte, reduceAdd, reduceLT, reduceLeDiff, reduceMul, gwD3, gwDT, pureR_none, ite_self, nilR, nilB, bitF, bitV, nilC, nilCmp, eqb, assertV, assertW, zeroV, wQ_normal, wQ_ret, wQ_panic, pickO, pickC, List.map_cons, List.map_nil, List.getD_cons_zero, List.getD_cons_succ, Env.keep, beq_self_eq_true, cond_true, cond_false, Option.getD_some]
 have hA : ∀ l : St, (st ++ l)[a]? = some (.box [o]) := fun l => by rw [List.getElem?_append_left hal]; exact hao
 have hA2 : ∀ (l : St) (x : Ent), (st ++ l).set a x = st.set a x ++ l := fun l x => set_app hal
 have hC : ∀ (l : St) (x2 : Ent), (st.set a x2 ++ l)[c]? = some (.box [.int .i64 x, .int .i64 y]) := fun l x2 => by rw [List.getElem?_append_left (by simpa using hcl), List.getElem?_set_ne hne]; exact hc
 have hC2 : ∀ (l : St) (x x2 : Ent), (st.set a x ++ l).set c x2 = (st.set a x).set c x2 ++ l := fun l x x2 => set_app (by simpa using hcl)
 refine vdraw2 TT_ok TT_mixed (σ := Unit) [0, 1, 2, 2] [0, 2, 1, 3] 1 2 [0] (fun _x => [(0, true, .ptr a 0)]) (fun _x => (st.set a (.box [.nils])).set c (.box [.int .i64 e, .int .i64 q]) ++ [.box [.int .i64 e, .int .i64 q]]) (fun _x => True) rfl (by kernel_rfl) ?_ ?_ ?_
 ·simp only [gw0, reduceEqDiff, ↓reduceIte, reduceAdd, reduceLT, reduceLeDiff, reduceMul, gwD3, gwDT, pureR_none, ite_self, nilR, nilB, bitF, bitV, nilC, nilCmp, eqb, assertV, assertW, zeroV, wQ_normal, wQ_ret, wQ_panic, pickO, pickC, List.map_cons, List.map_nil, List.getD_cons_zero, List.getD_cons_succ, Env.keep, beq_self_eq_true, cond_true, cond_false, hA, hA2, hC, hC2, at_k, at_k0]
  exact ⟨rfl, rfl, (), rfl, rfl, trivial⟩
 ·simp only [gw0, reduceEqDiff, ↓reduceIte, reduceAdd, reduceLT, reduceLeDiff, reduceMul, gwD3, gwDT, pureR_none, ite_self, nilR, nilB, bitF, bitV, nilC, nilCmp, eqb, assertV, assertW, zeroV, wQ_normal, wQ_ret, wQ_panic, pickO, pickC, List.map_cons, List.map_nil, List.getD_cons_zero, List.getD_cons_succ, Env.keep, beq_self_eq_true, cond_true, cond_false, hA, hA2, hC, hC2, at_k, at_k0]
  exact ⟨rfl, rfl, (), rfl, rfl, trivial⟩
 ·rintro - -
  simp only [gw0, reduceEqDiff, ↓reduceIte, reduceAdd, reduceLT, reduceLeDiff, reduceMul, gwD3, gwDT, pureR_none, ite_self, nilR, nilB, bitF, bitV, nilC, nilCmp, eqb, assertV, assertW, zeroV, wQ_normal, wQ_ret, wQ_panic, pickO, pickC, List.map_cons, List.map_nil, List.getD_cons_zero, List.getD_cons_succ, Env.keep, beq_self_eq_true, cond_true, cond_false, hA]
  exact ⟨[.box [.int .i64 e, .int .i64 q]], _, rfl, wkSt_refl _, hst2⟩
end Go.Proofs.YtpllcpbhjglpaaaGreatDoor.Gx
open Nat (reduceEqDiff reduceAdd reduceLT reduceLeDiff reduceMul)
namespace Go.Proofs.YtpllcpbhjglpaaaGreatDoor.Gx
open Go Go.Proofs.YtpllcpbhjglpaaaGreatDoor.Gw
set_option linter.unusedSimpArgs false
set_option linter.unusedVariables false
def rdTop (s : Str) : Nat → List Datum → Nat → Nat → Sum (Int × Int) (List Datum)
 | 0, _, _, _ => .inl (0, 0)
 | f + 1, acc, p, n => match s.drop p with
  | [] => .inr acc
  | c :: r => match rdD s f 1 p n with
   | .err e q _ _ => .inl (e, q)
   | .ok x p' n' => rdTop s f (acc ++ [x]) (s.length - (blk false (s.drop p')).length) n'
/-- What a text's data are; or what is wrong. -/
def readR (s : Str) : Sum (Int × Int) (List Datum) := bif decide ((6000 : Int) < s.length) then .inl (4, 0) else rdTop s (2 * s.length + 3) [] (s.length - (blk false s).length) 0
def readV : Sum (Int × Int) (List Datum) → V
 | .inl f => .tup [lstD [], fltV f]
 | .inr l => .tup [lstD l, fltV (0, 0)]
theorem readV_lt (n : Nat) (r : Sum (Int × Int) (List Datum)) : (readV r).lt n := by
 cases r with
 | inl f => simp only [readV, fltV, V.lt, ltL, and_true]; exact lstD_lt _ _
 | inr l => simp only [readV, fltV, V.lt, ltL, and_true]; exact lstD_lt _ _
section
variable (s : Str) (st ex : St) (A B : Ent)
theorem at_2 (e : Ent) : (st ++ (A :: B :: e :: ex))[st.length + 2]? = some e := by simp
theorem set_2 (e e' : Ent) : (st ++ (A :: B :: e :: ex)).set (st.length + 2) e' = st ++ (A :: B :: e' :: ex) := by
 rw [List.set_append_right _ _ (by omega)]; simp
theorem y_blank (p n : Nat) (hp : p ≤ s.length) (hs : s.length ≤ 6000) :
  VCalls Tryz.prog TT 73 [.ptr (st.length + 2) 0] (st ++ (A :: B :: rdE s p n :: ex)) fun r st' => r = .ret (.tup []) ∧ st' = st ++ (A :: B :: rdE s (s.length - (blk false (s.drop p)).length) n :: ex) := by
 have := c_blank s (st ++ (A :: B :: rdE s p n :: ex)) (st.length + 2) p n (at_2 st ex A B _) hp hs
 rw [set_2] at this; exact this
def OutY (st0 : St) (f : FuncId) (args : List V) : RR → Prop
 | .ok x p n => VCalls Tryz.prog TT f args st0 fun r st' => r = .ret (.agg (encD x)) ∧ st' = st ++ (A :: B :: rdE s p n :: ex)
 | .err e q p n => VCalls Tryz.prog TT f args st0 fun r st' => r = .panic (faultV e q) ∧ st' = st ++ (A :: B :: rdE s p n :: ex)
theorem y_datum (hs : s.length ≤ 6000) (f : Nat) (p n : Nat) (hp : p ≤ s.length) (hn : n ≤ 2000) (hf : 2 * (s.length - p) < f) :
  OutY s st ex A B (st ++ (A :: B :: rdE s p n :: ex)) 74 [.ptr (st.length + 2) 0, .int .i64 1] (rdD s f 1 p n) := by
 have := c_datum s hs (f + 1) f (by omega) 1 p n (st ++ (A :: B :: rdE s p n :: ex)) (st.length + 2) (by simp) hp hn (by omega) (by omega) hf
 rw [set_2] at this
 cases hr : rdD s f 1 p n with
 | ok x p' n' => rw [hr] at this; simp only [OutC, set_2] at this; exact this
 | err e q p' n' => rw [hr] at this; simp only [OutC, set_2] at this; exact this
end
theorem ThawR.refl {st : St} {m : Nat} : ∀ l : List (List V), ThawR st m l l
 | [] => .nil
 | x :: l => .cons (ThawL.refl x) (ThawR.refl l)
theorem at_3 (st : St) (A B C D : Ent) : (st ++ [A, B, C, D])[st.length + 3]? = some D := by simp
theorem set_01 {st ex : St} {A B a b : Ent} : ((st ++ (A :: B :: ex)).set st.length a).set (st.length + 1) b = st ++ (a :: b :: ex) := by
 rw [List.set_append_right _ _ (Nat.le_refl _), List.set_append_right _ _ (by omega)]; simp
theorem y_caught (st ex : St) (e q : Int) (o : V) (x y : Int) (hok : St.ok (st ++ (.box [.nils] :: .box [.int .i64 e, .int .i64 q] :: ex))) :
  VDefers Tryz.prog TT 72 [.ptr st.length 0, .ptr (st.length + 1) 0] (some (faultV e q)) (st ++ (.box [o] :: .box [.int .i64 x, .int .i64 y] :: ex)) (st ++ (.box [.nils] :: .box [.int .i64 e, .int .i64 q] :: ex)) := by
 have := d_caught (st ++ (.box [o] :: .box [.int .i64 x, .int .i64 y] :: ex)) st.length (st.length + 1) e q o x y (by simp) (by simp) (by omega) (by rw [set_01]; exact hok)
 rw [set_01] at this
 exact this
set_option maxHeartbeats 4000000 in
theorem c_Read (s : Str) (st : St) : VCalls Tryz.prog TT 55 [.str s] st fun r st' => r = .ret (readV (readR s)) ∧ st' = st := by
 refine VCalls.freeze (Q := fun r s' => ∃ v u ex, r = .ret v ∧ s' = st ++ ex ∧ Thaw s' st.length v u ∧ wk u (readV (readR s)) ∧ (readV (readR s)).lt st.length) ?_ (fun r s' h => h)
 refine vfunD TT_ok (L := [0, 2, 3, 4]) Tryz.func55 rfl (by kernel_rfl) Tryz.ntmps55 rfl rfl fun hst ha hf => ?_
 refine waSeq TT_ok (an := anL []) (rs := [.cell 2 24, .cell 3 40]) rfl ?_
 simp only [gw0, reduceEqDiff, ↓reduceIte, reduceAdd, reduceLT, reduceLeDiff, reduceMul, gwD3, gwDT, pureR_none, ite_self, nilR, nilB, bitF, bitV, nilC, nilCmp, eqb, assertV, assertW, zeroV, wQ_normal, wQ_ret, wQ_panic, pickO, pickC, List.map_cons, List.map_nil, List.getD_cons_zero, List.getD_cons_succ, Env.keep, beq_self_eq_true, cond_true, cond_false]
 refine waSeq TT_ok (an := anL []) (rs := [.cell 2 24, .cell 3 40]) rfl ?_
 simp only [gw0, reduceEqDiff, ↓reduceIte, reduceAdd, reduceLT, reduceLeDiff, reduceMul, gwD3, gwDT, pureR_none, ite_self, nilR, nilB, bitF, bitV, nilC, nilCmp, eqb, assertV, assertW, zeroV, wQ_normal, wQ_ret, wQ_panic, pickO, pickC, List.map_cons, List.map_nil, List.getD_cons_zero, List.getD_cons_succ, Env.keep, beq_self_eq_true, cond_true, cond_false]
 refine iK_split (fun h => ?_) (fun h => ?_)
 ·simp only [gw0, reduceEqDiff, ↓reduceIte, reduceAdd, reduceLT, reduceLeDiff, reduceMul, gwD3, gwDT, pureR_none, ite_self, nilR, nilB, bitF, bitV, nilC, nilCmp, eqb, assertV, assertW, zeroV, wQ_normal, wQ_ret, wQ_panic, pickO, pickC, List.map_cons, List.map_nil, List.getD_cons_zero, List.getD_cons_succ, Env.keep, beq_self_eq_true, cond_true, cond_false]
  refine ⟨_, _, _, rfl, rfl, .same _, ?_, readV_lt _ _⟩
  simp only [readR, h, cond_true, readV, fltV]
  exact wk_tup (wkL_cons (wk_nils _) (wkL_cons (wk_refl _) wkL_nil))
 have hs : s.length ≤ 6000 := by simp at h; omega
 simp only [gw0, reduceEqDiff, ↓reduceIte, reduceAdd, reduceLT, reduceLeDiff, reduceMul, gwD3, gwDT, pureR_none, ite_self, nilR, nilB, bitF, bitV, nilC, nilCmp, eqb, assertV, assertW, zeroV, wQ_normal, wQ_ret, wQ_panic, pickO, pickC, List.map_cons, List.map_nil, List.getD_cons_zero, List.getD_cons_succ, Env.keep, beq_self_eq_true, cond_true, cond_false]
 refine waDefer TT_ok (an := anL []) (rs := [.cell 2 24, .cell 3 40]) rfl [.ptr st.length 0, .ptr (st.length + 1) 0] ⟨_, Tryz.func72, by kernel_rfl, by kernel_rfl⟩ (by decide) rfl rfl fun d => ?_
 simp only [gw0, reduceEqDiff, ↓reduceIte, reduceAdd, reduceLT, reduceLeDiff, reduceMul, gwD3, gwDT, pureR_none, ite_self, nilR, nilB, bitF, bitV, nilC, nilCmp, eqb, assertV, assertW, zeroV, wQ_normal, wQ_ret, wQ_panic, pickO, pickC, List.map_cons, List.map_nil, List.getD_cons_zero, List.getD_cons_succ, Env.keep, beq_self_eq_true, cond_true, cond_false]
 refine (y_blank s st [] _ _ 0 0 (Nat.zero_le _) hs).use (wkL_refl _) fun _ => ?_
 have hr0 : readR s = rdTop s (2 * s.length + 3) [] (s.length - (blk false s).length) 0 := by simp only [readR, h, cond_false]
 rw [hr0]
 simp only [List.drop_zero]
 have hb0 := blk_le s false
 generalize hp0 : s.length - (blk false s).length = p0
 have hp0' : p0 ≤ s.length := by omega
 simp only [gw0, reduceEqDiff, ↓reduceIte, reduceAdd, reduceLT, reduceLeDiff, reduceMul, gwD3, gwDT, pureR_none, ite_self, nilR, nilB, bitF, bitV, nilC, nilCmp, eqb, assertV, assertW, zeroV, wQ_normal, wQ_ret, wQ_panic, pickO, pickC, List.map_cons, List.map_nil, List.getD_cons_zero, List.getD_cons_succ, Env.keep, beq_self_eq_true, cond_true, cond_false]
 refine vnilB st.length 0 [.nils] 26 (by simp) rfl ?_
 rw [List.set_append_left _ _ (by simp), List.set_append_right _ _ (Nat.le_refl _)]
 simp only [Nat.sub_self, List.set_cons_zero, List.append_assoc, List.cons_append, List.nil_append, List.length_append, List.length_cons, List.length_nil, Nat.reduceAdd]
 have hT6 : (TT 26).size = 6 := rfl
 rw [hT6]
 have h63 : s.length ≤ 9223372036854775807 := by omega
 refine vfor (σ := Nat × List Datum × Nat × Nat) [0, 2, 3, 4] (fun x => [(0, true, .str s), (2, true, .ptr st.length 0), (3, true, .ptr (st.length + 1) 0), (4, true, .ptr (st.length + 2) 0)]) (fun x => st ++ [.box [.arr (st.length + 3) x.2.1.length], .box [.int .i64 0, .int .i64 0], rdE s x.2.2.1 x.2.2.2, .arr 26 6 (x.2.1.map encD)]) (fun x => s.length - x.2.2.1) (fun x => x.2.1.length ≤ x.2.2.1 ∧ x.2.2.1 ≤ s.length ∧ x.2.2.2 ≤ 2000 ∧ 2 * (s.length - x.2.2.1) + 1 < x.1 ∧ rdTop s (2 * s.length + 3) [] p0 0 = rdTop s x.1 x.2.1 x.2.2.1 x.2.2.2) (2 * s.length + 3, [], p0, 0) rfl TT_ok ⟨Nat.zero_le _, hp0', Nat.zero_le _, by dsimp only; omega, rfl⟩ rfl rfl ?_
 rintro ⟨f, acc, p, n⟩ ⟨hacc, hp, hn, hf2, hI⟩
 simp only at hacc hp hn hf2 hI ⊢
 rw [hI]
 cases f with
 | zero => omega
 | succ f =>
 simp only [rdTop]
 simp only [gw0, reduceEqDiff, ↓reduceIte, reduceAdd, reduceLT, reduceLeDiff, reduceMul, gwD3, gwDT, pureR_none, ite_self, nilR, nilB, bitF, bitV, nilC, nilCmp, eqb, assertV, assertW, zeroV, wQ_normal, wQ_ret, wQ_panic, pickO, pickC, List.map_cons, List.map_nil, List.getD_cons_zero, List.getD_cons_succ, Env.keep, beq_self_eq_true, cond_true, cond_false, rdE]
 rcases at_or_end s p hp with ⟨rfl, hdr⟩ | ⟨c, hltp, hget, hdr⟩
 ·rw [hdr]
  simp only [gw0, reduceEqDiff, ↓reduceIte, reduceAdd, reduceLT, reduceLeDiff, reduceMul, gwD3, gwDT, pureR_none, ite_self, nilR, nilB, bitF, bitV, nilC, nilCmp, eqb, assertV, assertW, zeroV, wQ_normal, wQ_ret, wQ_panic, pickO, pickC, List.map_cons, List.map_nil, List.getD_cons_zero, List.getD_cons_succ, Env.keep, beq_self_eq_true, cond_true, cond_false, lt_no]
  refine vstageT TT_ok TT_mixed (σ := Unit) [] [1, 1, 2, 2] [] [0, 1, 2, 3] [.nd 0 [.nd 1 [.nd 2 [.nd 3 []]], .nd 2 [.nd 1 [.nd 3 []]]], .nd 1 [.nd 0 [.nd 2 [.nd 3 []]]]] [2, 3] (fun _x => [(2, true, .ptr st.length 0), (3, true, .ptr (st.length + 1) 0)]) (fun _x => st ++ [.box [.arr (st.length + 3) acc.length], .box [.int .i64 0, .int .i64 0], rdE s s.length n, .arr 26 6 (acc.map encD)]) (fun _x => True) rfl (by kernel_rfl) ?_ ?_
  ·simp only [gw0, reduceEqDiff, ↓reduceIte, reduceAdd, reduceLT, reduceLeDiff, reduceMul, gwD3, gwDT, pureR_none, ite_self, nilR, nilB, bitF, bitV, nilC, nilCmp, eqb, assertV, assertW, zeroV, wQ_normal, wQ_ret, wQ_panic, pickO, pickC, List.map_cons, List.map_nil, List.getD_cons_zero, List.getD_cons_succ, Env.keep, beq_self_eq_true, cond_true, cond_false, rdE]
   exact ⟨⟨rfl, rfl, (), rfl, rfl, trivial⟩, rfl, rfl, (), rfl, rfl, trivial⟩
  ·rintro - -
   simp only [gw0, reduceEqDiff, ↓reduceIte, reduceAdd, reduceLT, reduceLeDiff, reduceMul, gwD3, gwDT, pureR_none, ite_self, nilR, nilB, bitF, bitV, nilC, nilCmp, eqb, assertV, assertW, zeroV, wQ_normal, wQ_ret, wQ_panic, pickO, pickC, List.map_cons, List.map_nil, List.getD_cons_zero, List.getD_cons_succ, Env.keep, beq_self_eq_true, cond_true, cond_false, rdE]
   refine dQ_ret (d_idle _ _ _) ?_
   simp only [gw0, reduceEqDiff, ↓reduceIte, reduceAdd, reduceLT, reduceLeDiff, reduceMul, gwD3, gwDT, pureR_none, ite_self, nilR, nilB, bitF, bitV, nilC, nilCmp, eqb, assertV, assertW, zeroV, wQ_normal, wQ_ret, wQ_panic, pickO, pickC, List.map_cons, List.map_nil, List.getD_cons_zero, List.getD_cons_succ, Env.keep, beq_self_eq_true, cond_true, cond_false, rdE]
   refine ⟨_, _, _, rfl, rfl, .tup (.cons (.arr (Nat.le_add_right _ 3) (at_3 ..) (by simp) (ThawR.refl _)) (.cons (.same _) .nil)), ?_, readV_lt _ _⟩
   exact wk_tup (wkL_cons (wk_refl _) (wkL_cons (wk_refl _) wkL_nil))
 ·rw [hdr]
  simp only [gw0, reduceEqDiff, ↓reduceIte, reduceAdd, reduceLT, reduceLeDiff, reduceMul, gwD3, gwDT, pureR_none, ite_self, nilR, nilB, bitF, bitV, nilC, nilCmp, eqb, assertV, assertW, zeroV, wQ_normal, wQ_ret, wQ_panic, pickO, pickC, List.map_cons, List.map_nil, List.getD_cons_zero, List.getD_cons_succ, Env.keep, beq_self_eq_true, cond_true, cond_false, lt_yes hltp]
  have hfar := (rd_far s f).1 1 p n hn
  have hc := y_datum s st [.arr 26 6 (acc.map encD)] (.box [.arr (st.length + 3) acc.length]) (.box [.int .i64 0, .int .i64 0]) hs f p n hp hn (by omega)
  cases hrr : rdD s f 1 p n with
  | err e q p' n' =>
   rw [hrr] at hc
   simp only [OutY] at hc
   refine vpanic TT_ok TT_mixed [1, 0, 0, 0, 0, 2, 0, 2, 2] [0, 1, 3, 4] 2 [5, 6, 7, 8] [0, 2, 3, 4] rfl (by kernel_rfl) ?_
   simp only [gw0, reduceEqDiff, ↓reduceIte, reduceAdd, reduceLT, reduceLeDiff, reduceMul, gwD3, gwDT, pureR_none, ite_self, nilR, nilB, bitF, bitV, nilC, nilCmp, eqb, assertV, assertW, zeroV, wQ_normal, wQ_ret, wQ_panic, pickO, pickC, List.map_cons, List.map_nil, List.getD_cons_zero, List.getD_cons_succ, Env.keep, beq_self_eq_true, cond_true, cond_false, rdE, List.length_map]
   refine pK_of hc (wkL_refl _) ?_
   refine dQ_panic (y_caught st _ e q _ 0 0 (ok_app hst ⟨by simp [Ent.lt, ltL, V.lt], by simp [Ent.lt, ltL, V.lt], by simp [rdE, Ent.lt, ltL, V.lt], ?_, trivial⟩)) ?_
   ·simp only [Ent.lt]
    exact ltRows_map fun d _ => encD_lt _ _
   ·simp only [gw0, reduceEqDiff, ↓reduceIte, reduceAdd, reduceLT, reduceLeDiff, reduceMul, gwD3, gwDT, pureR_none, ite_self, nilR, nilB, bitF, bitV, nilC, nilCmp, eqb, assertV, assertW, zeroV, wQ_normal, wQ_ret, wQ_panic, pickO, pickC, List.map_cons, List.map_nil, List.getD_cons_zero, List.getD_cons_succ, Env.keep, beq_self_eq_true, cond_true, cond_false, rdE]
    exact ⟨_, _, _, rfl, rfl, .same _, wk_tup (wkL_cons (wk_nils _) (wkL_cons (wk_refl _) wkL_nil)), readV_lt _ _⟩
  | ok x p' n' =>
   rw [hrr] at hc hfar
   simp only [OutY] at hc
   simp only [RR.far] at hfar
   refine vstageT TT_ok TT_mixed (σ := Unit) [st ++ [.box [.arr (st.length + 3) acc.length], .box [.int .i64 0, .int .i64 0], rdE s p n, .arr 26 6 (acc.map encD)], st ++ [.box [.arr (st.length + 3) acc.length], .box [.int .i64 0, .int .i64 0], rdE s p' n', .arr 26 6 (acc.map encD)]] [3, 0, 4, 0, 0, 2, 0, 2, 2] [0, 1, 2, 3, 4] [5, 6, 7, 8] [.nd 5 [.nd 6 [.nd 7 [.nd 8 []], .nd 8 [.nd 7 []]], .nd 8 [.nd 6 [.nd 7 []]]]] [0, 2, 3, 4] (fun _x => [(0, true, .str s), (2, true, .ptr st.length 0), (3, true, .ptr (st.length + 1) 0), (4, true, .ptr (st.length + 2) 0)]) (fun _x => st ++ [.box [.arr (st.length + 3) (acc.length + 1)], .box [.int .i64 0, .int .i64 0], rdE s p' n', .arr 26 6 (acc.map encD ++ [encD x])]) (fun _x => True) rfl (by kernel_rfl) ?_ ?_
   ·simp only [gw0, reduceEqDiff, ↓reduceIte, reduceAdd, reduceLT, reduceLeDiff, reduceMul, gwD3, gwDT, pureR_none, ite_self, nilR, nilB, bitF, bitV, nilC, nilCmp, eqb, assertV, assertW, zeroV, wQ_normal, wQ_ret, wQ_panic, pickO, pickC, List.map_cons, List.map_nil, List.getD_cons_zero, List.getD_cons_succ, Env.keep, beq_self_eq_true, cond_true, cond_false, rdE, List.length_map]
    refine eK3_loud hc (wkL_refl _) (by simp [rdE]) (by simp [rdE]) ?_
    have hset1 : ∀ z X, (acc.map encD ++ [z]).set acc.length X = acc.map encD ++ [X] := fun z X => by rw [List.set_append_right _ _ (by simp)]; simp
    have hget1 : ∀ z, (acc.map encD ++ [z]).getD acc.length [] = z := fun z => by simp [List.getD_eq_getElem?_getD]
    have hw1 : IntKind.i64.wrap ((acc.length : Int) + 1) = ((acc.length + 1 : Nat) : Int) := by rw [wrap_i64 (by omega) (by omega)]; omega
    simp only [gw0, reduceEqDiff, ↓reduceIte, reduceAdd, reduceLT, reduceLeDiff, reduceMul, gwD3, gwDT, pureR_none, ite_self, nilR, nilB, bitF, bitV, nilC, nilCmp, eqb, assertV, assertW, zeroV, wQ_normal, wQ_ret, wQ_panic, pickO, pickC, List.map_cons, List.map_nil, List.getD_cons_zero, List.getD_cons_succ, Env.keep, beq_self_eq_true, cond_true, cond_false, rdE, List.length_map, List.length_append, encD_len, hset1, hget1, Nat.le_refl]
    exact ⟨by omega, by omega, by omega, rfl, rfl, (), rfl, rfl, trivial⟩
   ·rintro - -
    simp only [gw0, reduceEqDiff, ↓reduceIte, reduceAdd, reduceLT, reduceLeDiff, reduceMul, gwD3, gwDT, pureR_none, ite_self, nilR, nilB, bitF, bitV, nilC, nilCmp, eqb, assertV, assertW, zeroV, wQ_normal, wQ_ret, wQ_panic, pickO, pickC, List.map_cons, List.map_nil, List.getD_cons_zero, List.getD_cons_succ, Env.keep, beq_self_eq_true, cond_true, cond_false, rdE]
    have hb2 := blk_le (s.drop p') false
    simp only [List.length_drop] at hb2
    refine (y_blank s st _ _ _ p' n' hfar.2.1 hs).use (wkL_refl _) fun _ => ?_
    simp only [gw0, reduceEqDiff, ↓reduceIte, reduceAdd, reduceLT, reduceLeDiff, reduceMul, gwD3, gwDT, pureR_none, ite_self, nilR, nilB, bitF, bitV, nilC, nilCmp, eqb, assertV, assertW, zeroV, wQ_normal, wQ_ret, wQ_panic, pickO, pickC, List.map_cons, List.map_nil, List.getD_cons_zero, List.getD_cons_succ, Env.keep, beq_self_eq_true, cond_true, cond_false, Env.keep]
    generalize hq : s.length - (blk false (s.drop p')).length = q
    refine ⟨(f, acc ++ [x], q, n'), by simp [rdE], ?_, ?_, ?_, hfar.2.2, ?_, rfl⟩
    ·dsimp only; omega
    ·simp; omega
    ·dsimp only; omega
    ·dsimp only; omega
end Go.Proofs.YtpllcpbhjglpaaaGreatDoor.Gx
namespace Go.Proofs.YtpllcpbhjglpaaaGreatDoor.Gx
open Go Go.Proofs.YtpllcpbhjglpaaaGreatDoor.Gw
open Nat (reduceEqDiff reduceAdd reduceLT reduceLeDiff reduceMul)
set_option linter.unusedSimpArgs false
set_option linter.unusedVariables false
abbrev Prs := List (Str × Str)
/-- A library that was taken apart. -/
structure Lib' where
 name : Str
 exps : Prs
 imps : List Set'
 body : List Datum
/-- What may be looked at. -/
structure Wd where
 files : Prs
 feats : List Str
 libs : List Str
def noLib : Lib' := ⟨[], [], [], []⟩
/-- One behind the other, where nothing is wrong. -/
def thenE {α β : Type} (x : α × Int) (z : β) (f : α → β × Int) : β × Int := bif decide (x.2 = 0) then f x.1 else (z, x.2)
def symP : Datum → Str × Int
 | .mk k _ nm _ _ _ => bif decide (k = 3) then (nm, 0) else ([], 2)
def symsP : List Datum → List Str → List Str × Int
 | [], acc => (acc, 0)
 | d :: r, acc => bif decide ((symP d).2 = 0) then symsP r (acc ++ [(symP d).1]) else ([], (symP d).2)
def listP (least : Nat) : Datum → List Datum × Int
 | .mk k _ _ _ _ kids => bif !decide (k = 4) || decide (kids.length < least) then ([], 2) else (kids, 0)
def joinP : List Str → Str
 | [] => []
 | [s] => s
 | s :: r => s ++ 32 :: joinP r
def calledP (d : Datum) : Str × Int :=
 thenE (listP 1 d) [] fun l => thenE (symsP l []) [] fun s => bif decide (60 < (joinP s).length) then ([], 4) else (joinP s, 0)
def kindOf : Datum → Int
 | .mk k _ _ _ _ _ => k
def nameOf : Datum → Str
 | .mk _ _ nm _ _ _ => nm
def wOnly : Str := [111, 110, 108, 121]
def wExcept : Str := [101, 120, 99, 101, 112, 116]
def wPrefix : Str := [112, 114, 101, 102, 105, 120]
def wRename : Str := [114, 101, 110, 97, 109, 101]
def setKind (l : List Datum) : Int := match l with
 | a :: b :: _ => bif decide (kindOf b = 4) && decide (kindOf a = 3) then idxOf (nameOf a) 0 [wOnly, wExcept, wPrefix, wRename] + 2 else 0
 | _ => 0
def noSet : Set' := .mk 0 [] [] [] [] []
def renP : List Datum → List Str → List Str → (List Str × List Str) × Int
 | [], ns, az => ((ns, az), 0)
 | p :: r, ns, az => thenE (listP 2 p) ([], []) fun k => thenE (symsP k []) ([], []) fun two => match two with
  | [x, y] => renP r (ns ++ [x]) (az ++ [y])
  | _ => (([], []), 2)
/-- An import set; so many may yet be around one. -/
def setP : Nat → Datum → Set' × Int
 | 0, _ => (noSet, 4)
 | f + 1, d => thenE (listP 1 d) noSet fun l =>
  bif decide (setKind l < 2) then thenE (calledP d) noSet fun s => (.mk 1 s [] [] [] [], 0)
  else thenE (setP f (l.getD 1 (.mk 0 0 [] 0 0 []))) noSet fun k =>
   bif decide (setKind l = 4) then (bif !decide (l.length = 3) then (noSet, 2) else thenE (symP (l.getD 2 (.mk 0 0 [] 0 0 []))) noSet fun p => (.mk (setKind l) [] [] [] p [k], 0))
   else bif decide (setKind l = 5) then thenE (renP (l.drop 2) [] []) noSet fun r => (.mk (setKind l) [] r.1 r.2 [] [k], 0)
   else thenE (symsP (l.drop 2) []) noSet fun ns => (.mk (setKind l) [] ns [] [] [k], 0)
def exportOne (d : Datum) : (Str × Str) × Int :=
 bif decide (kindOf d = 4) then thenE (listP 3 d) ([], []) fun k => thenE (symsP k []) ([], []) fun three => match three with
  | [a, b, c] => bif decide (a = wRename) then ((c, b), 0) else (([], []), 2)
  | _ => (([], []), 2)
 else thenE (symP d) ([], []) fun n => ((n, n), 0)
def exportP : List Datum → Lib' → Lib' × Int
 | [], o => (o, 0)
 | d :: r, o => bif decide ((exportOne d).2 = 0) then
   (bif o.exps.any (fun p => decide (p.1 = (exportOne d).1.1)) then (o, 8) else bif decide (o.exps.length = 200) then (o, 5) else exportP r { o with exps := o.exps ++ [(exportOne d).1] })
  else (o, (exportOne d).2)
def bodyL (l : List Datum) (o : Lib') : Lib' × Int := bif decide (200 < o.body.length + l.length) then (o, 5) else ({ o with body := o.body ++ l }, 0)
def fileOf (n : Str) : Prs → Option Str
 | [] => none
 | f :: r => bif decide (f.1 = n) then some f.2 else fileOf n r
def includeP (w : Wd) : List Datum → Lib' → Lib' × Int
 | [], o => (o, 0)
 | d :: r, o => bif decide ((symP d).2 = 0) then
   (match fileOf (symP d).1 w.files with
   | none => (o, 6)
   | some t => match readR t with
    | .inl f => (o, f.1)
    | .inr k => bif decide ((bodyL k o).2 = 0) then includeP w r (bodyL k o).1 else bodyL k o)
  else (o, (symP d).2)
def importP : List Datum → Lib' → Lib' × Int
 | [], o => (o, 0)
 | d :: r, o => bif decide (o.imps.length = 20) then (o, 5) else bif decide ((setP 12 d).2 = 0) then importP r { o with imps := o.imps ++ [(setP 12 d).1] } else (o, (setP 12 d).2)
def wLibrary : Str := [108, 105, 98, 114, 97, 114, 121]
def wAnd : Str := [97, 110, 100]
def wOr : Str := [111, 114]
def wNot : Str := [110, 111, 116]
mutual
/-- Whether a requirement holds. -/
def holdsD (w : Wd) : Datum → Bool × Int
 | .mk k _ nm _ _ kids => bif decide (k = 3) then (decide (nm ∈ w.feats), 0)
  else bif !decide (k = 4) then (false, 2)
  else match kids with
   | [] => (false, 2)
   | h :: t => bif !decide ((symP h).2 = 0) then (false, (symP h).2)
    else bif decide ((symP h).1 = wLibrary) then (match t with
     | [x] => thenE (calledP x) false fun s => (decide (s ∈ w.libs), 0)
     | _ => (false, 2))
    else bif decide ((symP h).1 = wAnd) || decide ((symP h).1 = wOr) then holdsL w (decide ((symP h).1 = wOr)) t
    else bif decide ((symP h).1 = wNot) then (match t with
     | [x] => (!(holdsD w x).1, (holdsD w x).2)
     | _ => (false, 2))
    else (false, 2)
def holdsL (w : Wd) (some : Bool) : List Datum → Bool × Int
 | [] => (!some, 0)
 | d :: r => bif !decide ((holdsD w d).2 = 0) then (false, (holdsD w d).2) else bif decide ((holdsD w d).1 = some) then (some, 0) else holdsL w some r
end
def wElse : Str := [101, 108, 115, 101]
def wExport : Str := [101, 120, 112, 111, 114, 116]
def wImport : Str := [105, 109, 112, 111, 114, 116]
def wBegin : Str := [98, 101, 103, 105, 110]
def wInclude : Str := [105, 110, 99, 108, 117, 100, 101]
def wCond : Str := [99, 111, 110, 100, 45, 101, 120, 112, 97, 110, 100]
def isElse (d : Datum) : Bool := decide (kindOf d = 3) && decide (nameOf d = wElse)
mutual
def declD (w : Wd) : Datum → Lib' → Lib' × Int
 | .mk k _ _ _ _ kids, o => bif !decide (k = 4) then (o, 2) else match kids with
  | [] => (o, 2)
  | h :: t => bif !decide ((symP h).2 = 0) then (o, (symP h).2)
   else bif decide ((symP h).1 = wExport) then (bif decide (o.name = []) then (o, 2) else exportP t o)
   else bif decide ((symP h).1 = wImport) then importP t o
   else bif decide ((symP h).1 = wBegin) then bodyL t o
   else bif decide ((symP h).1 = wInclude) then includeP w t o
   else bif decide ((symP h).1 = wCond) then condL w t o
   else (o, 2)
def declsL (w : Wd) : List Datum → Lib' → Lib' × Int
 | [], o => (o, 0)
 | d :: r, o => bif decide ((declD w d o).2 = 0) then declsL w r (declD w d o).1 else declD w d o
def condL (w : Wd) : List Datum → Lib' → Lib' × Int
 | [], o => (o, 0)
 | .mk k _ _ _ _ kids :: r, o => bif !decide (k = 4) then (o, 2) else match kids with
  | [] => (o, 2)
  | h :: t => bif isElse h then declsL w t o
   else bif !decide ((holdsD w h).2 = 0) then (o, (holdsD w h).2)
   else bif (holdsD w h).1 then declsL w t o else condL w r o
end
def wProgram : Str := [112, 114, 111, 103, 114, 97, 109]
/-- A library, or a program. -/
def topP (w : Wd) (d : Datum) : Lib' × Int :=
 thenE (listP 1 d) noLib fun k => thenE (symP (k.getD 0 (.mk 0 0 [] 0 0 []))) noLib fun s =>
  bif decide (s = wLibrary) then thenE (listP 2 d) noLib fun k2 => thenE (calledP (k2.getD 1 (.mk 0 0 [] 0 0 []))) noLib fun nm => declsL w (k.drop 2) { noLib with name := nm }
  else bif decide (s = wProgram) then declsL w (k.drop 1) noLib
  else (noLib, 2)
def parseP (w : Wd) (d : Datum) : Lib' × Int :=
 bif !decide ((wrongL [d] 0 0).1 = 0) then (noLib, (wrongL [d] 0 0).1)
 else bif decide ((30 : Int) < w.files.length) then (noLib, 5)
 else bif decide ((topP w d).2 = 0) then topP w d else (noLib, (topP w d).2)
mutual
/-- Names are short, lists are not long. -/
def okM : Datum → Prop
 | .mk k _ nm _ _ kids => (k = 3 → nm.length ≤ 20) ∧ (k = 4 → kids.length ≤ 2000 ∧ okMs kids)
def okMs : List Datum → Prop
 | [] => True
 | d :: r => okM d ∧ okMs r
end
theorem okMs_mem : ∀ {l : List Datum} {d : Datum}, okMs l → d ∈ l → okM d
 | x :: r, d, h, hd => by
  rw [okMs] at h
  rcases List.mem_cons.1 hd with rfl | hd
  ·exact h.1
  ·exact okMs_mem h.2 hd
mutual
theorem shapeD_okM : ∀ (d : Datum) (deep c : Int), 0 ≤ c → (shapeD d deep c).1 = 0 → okM d ∧ c + 1 ≤ (shapeD d deep c).2
 | .mk k n nm s l kids, deep, c, h0, h => by
  rw [okM]
  unfold shapeD at h ⊢
  cases h1 : (decide (2000 < c + 1) || decide (40 < deep)) with
  | true => rw [h1] at h; simp at h
  | false =>
   have hc : c + 1 ≤ 2000 := by simp at h1; omega
   rw [h1] at h
   simp only [cond_false] at h ⊢
   cases h2 : decide (k = 1) <;> rw [h2] at h <;> simp only [cond_false, cond_true] at h ⊢
   ·have k1 := of_decide_eq_false h2
    cases h3 : decide (k = 2) <;> rw [h3] at h <;> simp only [cond_false, cond_true] at h ⊢
    ·have k2 := of_decide_eq_false h3
     cases h4 : decide (k = 3) <;> rw [h4] at h <;> simp only [cond_false, cond_true] at h ⊢
     ·cases h5 : decide (k = 4) <;> rw [h5] at h <;> simp only [cond_false, cond_true] at h ⊢
      ·simp at h
      ·have k4 := of_decide_eq_true h5
       have g := shapeDs_okM kids (deep + 1) (c + 1) (by omega) hc h
       have t := shapeDs_ok kids (deep + 1) (c + 1) (by omega) hc h
       exact ⟨⟨by omega, fun _ => ⟨by omega, g.1⟩⟩, by omega⟩
     ·have k3 := of_decide_eq_true h4
      cases hn : namedB nm with
      | false => rw [hn] at h; simp at h
      | true =>
       refine ⟨⟨fun _ => ?_, fun h => by omega⟩, ?_⟩
       ·simp only [namedB, Bool.and_eq_true, decide_eq_true_eq] at hn
        exact hn.2.1.2
       ·cases (decide (s = 0) && decide (l = 0)) <;> simp
    ·have k2 := of_decide_eq_true h3
     refine ⟨⟨fun h => by omega, fun h => by omega⟩, ?_⟩
     cases (decide (n = 0) || decide (n = 1)) <;> simp
   ·have k1 := of_decide_eq_true h2
    refine ⟨⟨fun h => by omega, fun h => by omega⟩, ?_⟩
    cases (decide (1000000000000000 < n) || decide (n < -1000000000000000)) <;> simp
theorem shapeDs_okM : ∀ (l : List Datum) (deep c : Int), 0 ≤ c → c ≤ 2000 → (shapeDs l deep c).1 = 0 → okMs l ∧ c + l.length ≤ (shapeDs l deep c).2
 | [], deep, c, h0, h1, h => by simp only [okMs, shapeDs, List.length_nil, true_and]; omega
 | d :: r, deep, c, h0, h1, h => by
  simp only [shapeDs] at h ⊢
  cases h2 : decide ((shapeD d deep c).1 = 0) with
  | true =>
   rw [h2] at h
   simp only [cond_true] at h ⊢
   have k1 := shapeD_okM d deep c h0 (of_decide_eq_true h2)
   have k3 := shapeD_ok d deep c h0 (of_decide_eq_true h2)
   have k2 := shapeDs_okM r deep _ (by omega) k3.2 h
   rw [okMs, List.length_cons]
   exact ⟨⟨k1.1, k2.1⟩, by omega⟩
  | false =>
   rw [h2] at h
   simp only [cond_false] at h
   exact absurd h (of_decide_eq_false h2)
end
theorem wrongL_okM {q : Datum} (h : (wrongL [q] 0 0).1 = 0) : okM q := by
 simp only [wrongL] at h
 cases h2 : decide ((shapeD q 1 0).1 = 0) with
 | true => exact (shapeD_okM q 1 0 (by omega) (of_decide_eq_true h2)).1
 | false => rw [h2] at h; simp only [cond_false] at h; exact absurd h (of_decide_eq_false h2)
/-- What stands between the blanks. -/
def splitP : Str → List Str
 | [] => [[]]
 | c :: r => bif decide (c = 32) then [] :: splitP r else match splitP r with
  | [] => [[c]]
  | h :: t => (c :: h) :: t
theorem splitP_ne (s : Str) : splitP s ≠ [] := by
 cases s with
 | nil => simp [splitP]
 | cons c r =>
  simp only [splitP]
  cases decide (c = 32) with
  | true => simp
  | false => cases splitP r <;> simp
theorem splitP_len : ∀ s : Str, (splitP s).length ≤ s.length + 1 ∧ ∀ x ∈ splitP s, x.length ≤ s.length
 | [] => by simp [splitP]
 | c :: r => by
  obtain ⟨h1, h2⟩ := splitP_len r
  simp only [splitP]
  cases decide (c = 32) with
  | true =>
   simp only [cond_true, List.length_cons]
   refine ⟨by omega, fun x hx => ?_⟩
   rcases List.mem_cons.1 hx with rfl | hx
   ·simp
   ·have := h2 x hx; omega
  | false =>
   simp only [cond_false]
   cases hs : splitP r with
   | nil => exact absurd hs (splitP_ne r)
   | cons h t =>
    rw [hs] at h1 h2
    simp only [List.length_cons] at h1 ⊢
    refine ⟨by omega, fun x hx => ?_⟩
    rcases List.mem_cons.1 hx with rfl | hx
    ·have := h2 h (by simp); simp only [List.length_cons]; omega
    ·have := h2 x (by simp [hx]); omega
theorem join_split : ∀ s : Str, joinP (splitP s) = s
 | [] => rfl
 | c :: r => by
  have ih := join_split r
  simp only [splitP]
  cases e : decide (c = 32) with
  | true =>
   simp only [cond_true]
   cases hs : splitP r with
   | nil => exact absurd hs (splitP_ne r)
   | cons h t =>
    rw [hs] at ih
    rw [joinP, ih, of_decide_eq_true e]
    ·rfl
    ·simp
  | false =>
   simp only [cond_false]
   cases hs : splitP r with
   | nil => exact absurd hs (splitP_ne r)
   | cons h t =>
    rw [hs] at ih
    simp only
    cases t with
    | nil => simp only [joinP] at ih ⊢; rw [ih]
    | cons u t => simp only [joinP] at ih ⊢; rw [← ih]; rfl
theorem index_ge (s : Str) : -1 ≤ Lib.index s [32] := by rw [Lib.index_one]; exact Lib.indexByte_ge s 32
theorem index_cons (c : UInt8) (r : Str) : Lib.index (c :: r) [32] = if c = 32 then 0 else if Lib.index r [32] = -1 then -1 else Lib.index r [32] + 1 := by
 rw [Lib.index_one, Lib.index_one, Lib.indexByte]
 by_cases h : c = 32
 ·simp [h]
 ·simp [h]
theorem count_index : ∀ s : Str, (Lib.index s [32] = -1 ↔ s.count 32 = 0)
 | [] => by simp [Lib.index]
 | c :: r => by
  rw [index_cons]
  by_cases h : c = 32
  ·subst h; simp
  ·rw [if_neg h, List.count_cons_of_ne h]
   have := count_index r
   have hg := index_ge r
   by_cases h2 : Lib.index r [32] = -1
   ·simp [h2, this.1 h2]
   ·rw [if_neg h2]
    constructor
    ·intro h3; omega
    ·intro h3; exact absurd (this.2 h3) h2
theorem splitK_cons (c : UInt8) (r : Str) (h : c ≠ 32) (k : Nat) (hk : r.count 32 = k) : Lib.splitK [32] 0 k (c :: r) = match Lib.splitK [32] 0 k r with
  | [] => [[c]]
  | a :: t => (c :: a) :: t := by
 cases k with
 | zero => rfl
 | succ k =>
  have hi : Lib.index r [32] ≠ -1 := fun e => by have := (count_index r).1 e; omega
  have hg := index_ge r
  unfold Lib.splitK
  rw [index_cons, if_neg h, if_neg hi]
  have h1 : (Lib.index r [32] + 1 == -1) = false := by simp; omega
  have h2 : (Lib.index r [32] == -1) = false := by simp [hi]
  rw [h1, h2]
  obtain ⟨n, hn⟩ : ∃ n : Nat, Lib.index r [32] = n := ⟨(Lib.index r [32]).toNat, by omega⟩
  rw [hn]
  have e1 : ((n : Int) + 1).toNat = n + 1 := by omega
  have e2 : ((n : Int)).toNat = n := by omega
  rw [e1, e2]
  simp
theorem splitK_eq : ∀ s : Str, Lib.splitK [32] 0 (s.count 32) s = splitP s
 | [] => rfl
 | c :: r => by
  have ih := splitK_eq r
  simp only [splitP]
  by_cases h : c = 32
  ·subst h
   rw [List.count_cons_self, decide_eq_true rfl, cond_true, ← ih, Lib.splitK, index_cons]
   simp
  ·rw [List.count_cons_of_ne h, decide_eq_false h, cond_false, splitK_cons c r h _ rfl, ih]
   cases splitP r <;> rfl
open Go.Proofs Go.Shelf in
shelf_lay Lays.n221 Nm 221 at Tryz as YtpllcpbhjglpaaaGreatDoor.laysG
theorem sizeStr : (Tryz.prog.info? 9).map (fun i => (i.zero, i.size, i.bytes)) = some (some (.string ByteArray.empty), 1, 16) := by kernel_rfl
theorem pieces_rows (g : G) (w : World) (l : List ByteArray) (t : TypeId) : ∀ (r : List ByteArray) (o : Nat), (∀ (j : Nat) x, r[j]? = some x → l[o + j]? = some x) → (∀ x ∈ r, x.data.toList.length ≤ 9223372036854775807) →
  SimRows (g.new w.heap.size none) (w.alloc (.cells (l.map Value.string).toArray t)) ⟨w.heap.size, o, none⟩ 1 (r.map fun b => [V.str b.data.toList])
 | [], o, _, _ => trivial
 | b :: r, o, h, hs => by
  simp only [List.map_cons, SimRows, SimAt, and_true]
  refine ⟨rfl, ⟨.string b, ⟨rfl, by simp, fun k hk => by simp [G.new] at hk⟩, Lib.pieces_cell_at w l t o b (h 0 b rfl), rfl, by cases b; rfl, hs b (by simp)⟩, ?_⟩
  exact pieces_rows g w l t r (o + 1) (fun j x hj => by have := h (j + 1) x hj; rw [← this]; congr 1; omega) fun x hx => hs x (by simp [hx])
open Go.Proofs in
theorem c_genSplit (s : Str) (hs : s.length < 4294967281) (st : St) : VCalls Tryz.prog TT 56 [.str s, .str [32], .int .i64 0, .int .i64 (-1)] st fun r st' => r = .ret (encS (splitP s)) ∧ st' = st := by
 refine ⟨⟨_, Tryz.func56, by kernel_rfl, by kernel_rfl⟩, fun g w vals h1 h2 => ?_⟩
 simp only [SimVs, SimV] at h2
 obtain ⟨_, _, rfl, ⟨rfl, _⟩, _, _, rfl, ⟨rfl, _⟩, _, _, rfl, rfl, _, _, rfl, rfl, rfl⟩ := h2
 have hcnt : Lib.countB ⟨s.toArray⟩ ⟨#[32]⟩ = s.count 32 := by
  show Lib.count s [32] = _
  rw [Lib.count_one]
 have hle : s.count 32 ≤ s.length := List.count_le_length
 have hN : ((s.count 32 + 1 : Nat) : Int) = min (if (-1 : Int) < 0 then (Lib.countB ⟨s.toArray⟩ ⟨#[32]⟩ : Int) + 1 else -1) (((⟨s.toArray⟩ : ByteArray).size : Int) + 1) := by
  rw [if_pos (by decide), hcnt, show (⟨s.toArray⟩ : ByteArray).size = s.length from rfl]
  omega
 have h := Any.strings_genSplit_core YtpllcpbhjglpaaaGreatDoor.laysG sizeStr ⟨s.toArray⟩ ⟨#[32]⟩ 0 (-1) (s.count 32 + 1) w hs (Nat.le_refl 1) (Nat.zero_le _)
  (fun x c _ => by
   refine (Any.strings_Index_one { YtpllcpbhjglpaaaGreatDoor.laysG with } x 32 _).mono fun e w' ⟨he, hw⟩ => ⟨?_, hw⟩
   rw [he]
   show _ = Ending.returned (Value.int .i64 (Lib.index x.data.toList [32]))
   rw [Lib.index_one])
  (by
   refine (Any.strings_Count_one { YtpllcpbhjglpaaaGreatDoor.laysG with } ⟨s.toArray⟩ 32 w).mono fun e w' ⟨he, hw⟩ => ⟨?_, hw⟩
   rw [he, hcnt]
   rfl)
  (by decide) (by decide) hN
 have hd := Lib.splitB_data ⟨#[32]⟩ 0 (s.count 32) ⟨s.toArray⟩
 have hd' : (Lib.splitB ⟨#[32]⟩ 0 (s.count 32) ⟨s.toArray⟩).map (·.data.toList) = splitP s := by rw [hd, ← splitK_eq]
 have hlen := Lib.splitB_all ⟨#[32]⟩ (Nat.le_refl 1) 0 _ ⟨s.toArray⟩ hcnt
 have hfull : Lib.cellsOf (Lib.splitB ⟨#[32]⟩ 0 (s.count 32) ⟨s.toArray⟩) (s.count 32 + 1) = ((Lib.splitB ⟨#[32]⟩ 0 (s.count 32) ⟨s.toArray⟩).map Value.string).toArray := by rw [← hlen]; exact Lib.cellsOf_full _
 rw [Nat.add_sub_cancel, hlen, hfull] at h
 refine h.mono fun e w' ⟨he, hw⟩ => ?_
 subst hw
 refine ⟨.ret (encS (splitP s)), st, g.new w.heap.size none, ⟨rfl, rfl⟩, ⟨_, he, ?_⟩, h1.alloc _ none, Ext.alloc _ _ _ none⟩
 have hrows : (splitP s).map (fun x => [V.str x]) = (Lib.splitB ⟨#[32]⟩ 0 (s.count 32) ⟨s.toArray⟩).map fun b => [V.str b.data.toList] := by rw [← hd', List.map_map]; rfl
 have hl2 : (splitP s).length = s.count 32 + 1 := by rw [← hd', List.length_map, hlen]
 simp only [encS, SimV, List.length_map, hl2]
 refine ⟨_, _, rfl, Nat.le_refl _, by unfold maxLen; omega, fun h => (by cases h), .inr rfl, fun e h => (by cases h), ?_⟩
 rw [hrows]
 refine pieces_rows g w _ _ _ 0 (fun j x hj => by rw [Nat.zero_add]; exact hj) fun x hx => ?_
 have hm : x.data.toList ∈ splitP s := by rw [← hd']; exact List.mem_map_of_mem hx
 have := (splitP_len s).2 _ hm
 omega
theorem c_Split (s : Str) (hs : s.length < 4294967281) (st : St) : VCalls Tryz.prog TT 34 [.str s, .str [32]] st fun r st' => r = .ret (encS (splitP s)) ∧ st' = st := by
 refine vfun TT_ok (an := anL []) (L := [0, 1, 4]) (rs := [.tmp 4]) Tryz.func34 rfl (by kernel_rfl) rfl Tryz.ntmps34 rfl rfl (Nat.le_refl _) fun hst ha hf => ?_
 simp only [gw0, reduceEqDiff, ↓reduceIte, reduceAdd, reduceLT, reduceLeDiff, reduceMul]
 refine (c_genSplit s hs _).use (wkL_refl _) fun _ => ?_
 simp only [gw0, reduceEqDiff, ↓reduceIte, reduceAdd, reduceLT, reduceLeDiff, reduceMul]
 exact gives_self (encS_lt _ _) hst
open Go.Proofs Go.Shelf in
shelf_lay Lays.n156 Nm 156 at Tryz as YtpllcpbhjglpaaaGreatDoor.laysJ
theorem extraJ : Go.Proofs.Builder.Extra Tryz.prog YtpllcpbhjglpaaaGreatDoor.laysJ_ren where
 sizeBuilder := by kernel_rfl
 liesBuilder := by kernel_rfl
 t5 := Tryz.underlying5
 a5 := Tryz.isAgg5
 z5 := Tryz.sizeOf5
 v5 := Tryz.zeroValue5
 infoByte := by kernel_rfl
 cellsByte := by kernel_rfl
 sizeByte := by kernel_rfl
 neB5 := by decide
theorem joinP_eq : ∀ l : List Str, joinP l = Lib.join l [32]
 | [] => rfl
 | [s] => by rw [joinP, Lib.join_one]
 | s :: t :: r => by
  have h := joinP_eq (t :: r)
  rw [Lib.join_cons] at h ⊢
  simp only [joinP, h, Lib.joinTail, List.map_cons, List.flatten_cons, List.cons_append, List.nil_append]
theorem row_cells {g : G} {w : World} (b : Nat) : ∀ (l : List Str) (o : Nat), SimRows g w ⟨b, o, none⟩ 1 (l.map fun s => [V.str s]) → ∀ (j : Nat) s, l[j]? = some s → w.cell? ⟨b, o + j, none⟩ = some (.string ⟨s.toArray⟩)
 | [], _, _, j, s, h => by simp at h
 | t :: r, o, hs, j, s, h => by
  simp only [List.map_cons, SimRows, SimAt, SimV, Addr.add_lit] at hs
  obtain ⟨_, ⟨⟨v, _, h2, _, h3⟩, _⟩, h4⟩ := hs
  cases j with
  | zero => simp at h; subst h; rw [Nat.add_zero, h2, h3.1]
  | succ j =>
   have := row_cells b r (o + 1) h4 j s (by simpa using h)
   rw [← this, Nat.add_assoc, Nat.add_comm 1 j]
theorem c_Join (l : List Str) (hl : (joinP l).length ≤ 140737488355328) (hn : l.length ≤ 1000000000) (st : St) : VCalls Tryz.prog TT 41 [encS l, .str [32]] st fun r st' => r = .ret (.str (joinP l)) ∧ st' = st := by
 refine VCalls.ofBelow ⟨_, Tryz.func41, by kernel_rfl, by kernel_rfl⟩ fun g w vals hv => ?_
 simp only [SimVs, encS, SimV] at hv
 obtain ⟨_, _, rfl, ⟨a, cap, rfl, h1, _, h2, h3, _, h4⟩, _, _, rfl, ⟨rfl, _⟩, rfl⟩ := hv
 simp only [List.length_map] at h1
 refine ⟨.string ⟨(joinP l).toArray⟩, fun g' w' => by simp only [SimV, true_and]; omega, ?_⟩
 have hm : (l.map fun s => (⟨s.toArray⟩ : ByteArray)).map (·.data.toList) = l := by simp [List.map_map, Function.comp_def]
 cases l with
 | nil =>
  have h := Go.Proofs.Any.strings_Join_none YtpllcpbhjglpaaaGreatDoor.laysJ extraJ a cap ⟨#[32]⟩ w
  refine h.mono fun e w' ⟨he, hw⟩ => ⟨?_, hw ▸ Go.RowKit.Below.refl _ _⟩
  exact he
 | cons s r =>
  cases a with
  | none => have := h2 rfl; simp only [List.length_cons] at h1; omega
  | some a =>
   obtain ⟨bk, o, sp⟩ := a
   have hsp : sp = none := by simpa using h3
   subst hsp
   have hc := row_cells bk (s :: r) o h4
   have h := Go.Proofs.Any.strings_Join YtpllcpbhjglpaaaGreatDoor.laysJ extraJ bk o cap ((s :: r).map fun s => (⟨s.toArray⟩ : ByteArray)) ⟨#[32]⟩ w
    (fun j x hj => by
     rw [List.getElem?_map] at hj
     cases hs : (s :: r)[j]? with
     | none => rw [hs] at hj; cases hj
     | some t => rw [hs] at hj; cases hj; exact hc j t hs)
    (World.block_lt_of_cell? _ _ (hc 0 s rfl)) (by simp at hn ⊢; omega) (by simpa using h1) (by rw [hm, ← joinP_eq]; exact hl)
   rw [List.length_map] at h
   rw [List.length_map]
   refine h.mono fun e w' ⟨he, hw⟩ => ⟨?_, hw⟩
   rw [he, hm]
   rw [joinP_eq]
def oopsV (e : Int) : V := .iface 43 (.agg [.int .i64 e])
theorem c_libfail (st : St) (e : Int) : VCalls Tryz.prog TT 19 [.int .i64 e] st fun r st' => r = .panic (oopsV e) ∧ st' = st := by
 refine vfunP TT_ok (an := anL []) (L := [0]) (rs := []) Tryz.func19 rfl (by kernel_rfl) rfl Tryz.ntmps19 rfl rfl (Nat.le_refl _) fun hst ha hf => ?_
 simp only [gw0, reduceEqDiff, ↓reduceIte, reduceAdd, reduceLT, reduceLeDiff, reduceMul]
 exact givesP_self (by simp [oopsV, V.lt, ltL]) hst
/-- What is given, or thrown. -/
def outS (X : V) (e : Int) (st : St) : VEnd → St → Prop := bif decide (e = 0) then Gives X st else GivesP (oopsV e) st
def OutS (f : FuncId) (args : List V) (st0 : St) (X : V) (e : Int) (st : St) : Prop := bif decide (e = 0) then VCalls Tryz.prog TT f args st0 (fun r s => r = .ret X ∧ s = st) else VCalls Tryz.prog TT f args st0 (fun r s => r = .panic (oopsV e) ∧ s = st)
theorem OutS_of {f : FuncId} {args : List V} {st0 st : St} {X : V} {e : Int} (hl : st0.length ≤ st.length) (h : VCalls Tryz.prog TT f args st0 (outS X e st)) : OutS f args st0 X e st := by
 unfold outS at h
 unfold OutS
 cases hd : decide (e = 0) with
 | true => rw [hd] at h; exact VCalls.give h hl
 | false => rw [hd] at h; exact VCalls.giveP h hl
theorem OutS.cases {f : FuncId} {args : List V} {st0 st : St} {X : V} {e : Int} (h : OutS f args st0 X e st) :
  (e = 0 ∧ VCalls Tryz.prog TT f args st0 (fun r s => r = .ret X ∧ s = st)) ∨ (e ≠ 0 ∧ VCalls Tryz.prog TT f args st0 (fun r s => r = .panic (oopsV e) ∧ s = st)) := by
 unfold OutS at h
 cases hd : decide (e = 0) with
 | true => rw [hd] at h; exact .inl ⟨of_decide_eq_true hd, h⟩
 | false => rw [hd] at h; exact .inr ⟨of_decide_eq_false hd, h⟩
theorem outS_g {X : V} {e : Int} {st s : St} {r : VEnd} (he : e = 0) (h : Gives X st r s) : outS X e st r s := by subst he; exact h
theorem outS_p {X : V} {e : Int} {st s : St} {r : VEnd} (he : e ≠ 0) (h : GivesP (oopsV e) st r s) : outS X e st r s := by unfold outS; rw [decide_eq_false he]; exact h
theorem oops_lt (n : Nat) (e : Int) : (oopsV e).lt n := by simp [oopsV, V.lt, ltL]
theorem c_libsym (d : Datum) (st : St) : OutS 16 [.agg (encD d)] st (.str (symP d).1) (symP d).2 st := by
 refine OutS_of (Nat.le_refl _) ?_
 obtain ⟨k, n, nm, s, l, kids⟩ := d
 refine vfunQ TT_ok (an := anL [(1, 1)]) (L := [0, 1, 2]) (rs := [.tmp 2]) Tryz.func16 rfl (by kernel_rfl) rfl Tryz.ntmps16 rfl rfl fun hst ha hf => ?_
 simp only [encD_mk, symP]
 simp only [gw0, reduceEqDiff, ↓reduceIte, reduceAdd, reduceLT, reduceLeDiff, reduceMul, gwD3, gwDT, pureR_none, ite_self, nilR, nilB, bitF, bitV, nilC, nilCmp, eqb, assertV, assertW, zeroV, wQ_normal, wQ_ret, wQ_panic, pickO, pickC, List.map_cons, List.map_nil, List.getD_cons_zero, List.getD_cons_succ, Env.keep, beq_self_eq_true, cond_true, cond_false]
 refine iK_split (fun h => ?_) (fun h => ?_)
 ·rw [not_yes h, cond_false]
  simp only [gw0, reduceEqDiff, ↓reduceIte, reduceAdd, reduceLT, reduceLeDiff, reduceMul, gwD3, gwDT, pureR_none, ite_self, nilR, nilB, bitF, bitV, nilC, nilCmp, eqb, assertV, assertW, zeroV, wQ_normal, wQ_ret, wQ_panic, pickO, pickC, List.map_cons, List.map_nil, List.getD_cons_zero, List.getD_cons_succ, Env.keep, beq_self_eq_true, cond_true, cond_false]
  refine (c_libfail _ 2).useP (wkL_refl _) ?_
  simp only [gw0, reduceEqDiff, ↓reduceIte, reduceAdd, reduceLT, reduceLeDiff, reduceMul, gwD3, gwDT, pureR_none, ite_self, nilR, nilB, bitF, bitV, nilC, nilCmp, eqb, assertV, assertW, zeroV, wQ_normal, wQ_ret, wQ_panic, pickO, pickC, List.map_cons, List.map_nil, List.getD_cons_zero, List.getD_cons_succ, Env.keep, beq_self_eq_true, cond_true, cond_false]
  exact outS_p (by decide) (givesP_self (oops_lt _ _) hst)
 ·rw [not_no h, cond_true]
  simp only [gw0, reduceEqDiff, ↓reduceIte, reduceAdd, reduceLT, reduceLeDiff, reduceMul, gwD3, gwDT, pureR_none, ite_self, nilR, nilB, bitF, bitV, nilC, nilCmp, eqb, assertV, assertW, zeroV, wQ_normal, wQ_ret, wQ_panic, pickO, pickC, List.map_cons, List.map_nil, List.getD_cons_zero, List.getD_cons_succ, Env.keep, beq_self_eq_true, cond_true, cond_false]
  exact outS_g rfl (gives_self trivial hst)
theorem c_liblist (d : Datum) (least : Nat) (st : St) : OutS 15 [.agg (encD d), .int .i64 least] st (lstD (listP least d).1) (listP least d).2 st := by
 refine OutS_of (Nat.le_refl _) ?_
 obtain ⟨k, n, nm, s, l, kids⟩ := d
 refine vfunQ TT_ok (an := anL [(2, 1)]) (L := [0, 1, 2, 4]) (rs := [.tmp 4]) Tryz.func15 rfl (by kernel_rfl) rfl Tryz.ntmps15 rfl rfl fun hst ha hf => ?_
 simp only [encD_mk, listP]
 have e1 : decide ((kids.length : Int) < (least : Int)) = decide (kids.length < least) := by by_cases h : kids.length < least <;> simp [h] <;> omega
 simp only [gw0, reduceEqDiff, ↓reduceIte, reduceAdd, reduceLT, reduceLeDiff, reduceMul, gwD3, gwDT, pureR_none, ite_self, nilR, nilB, bitF, bitV, nilC, nilCmp, eqb, assertV, assertW, zeroV, wQ_normal, wQ_ret, wQ_panic, pickO, pickC, List.map_cons, List.map_nil, List.getD_cons_zero, List.getD_cons_succ, Env.keep, beq_self_eq_true, cond_true, cond_false, List.length_map, e1]
 refine iK_split (fun h => ?_) (fun h => ?_)
 ·rw [h, cond_true]
  simp only [gw0, reduceEqDiff, ↓reduceIte, reduceAdd, reduceLT, reduceLeDiff, reduceMul, gwD3, gwDT, pureR_none, ite_self, nilR, nilB, bitF, bitV, nilC, nilCmp, eqb, assertV, assertW, zeroV, wQ_normal, wQ_ret, wQ_panic, pickO, pickC, List.map_cons, List.map_nil, List.getD_cons_zero, List.getD_cons_succ, Env.keep, beq_self_eq_true, cond_true, cond_false]
  refine (c_libfail _ 2).useP (wkL_refl _) ?_
  simp only [gw0, reduceEqDiff, ↓reduceIte, reduceAdd, reduceLT, reduceLeDiff, reduceMul, gwD3, gwDT, pureR_none, ite_self, nilR, nilB, bitF, bitV, nilC, nilCmp, eqb, assertV, assertW, zeroV, wQ_normal, wQ_ret, wQ_panic, pickO, pickC, List.map_cons, List.map_nil, List.getD_cons_zero, List.getD_cons_succ, Env.keep, beq_self_eq_true, cond_true, cond_false]
  exact outS_p (by decide) (givesP_self (oops_lt _ _) hst)
 ·rw [h, cond_false]
  simp only [gw0, reduceEqDiff, ↓reduceIte, reduceAdd, reduceLT, reduceLeDiff, reduceMul, gwD3, gwDT, pureR_none, ite_self, nilR, nilB, bitF, bitV, nilC, nilCmp, eqb, assertV, assertW, zeroV, wQ_normal, wQ_ret, wQ_panic, pickO, pickC, List.map_cons, List.map_nil, List.getD_cons_zero, List.getD_cons_succ, Env.keep, beq_self_eq_true, cond_true, cond_false]
  exact outS_g rfl (gives_self (lstD_lt _ _) hst)
theorem encS_snoc (acc : List Str) (x : Str) : (acc.map fun s => [V.str s]) ++ [[V.str x]] = (acc ++ [x]).map fun s => [V.str s] := by simp
theorem c_libsyms (l : List Datum) (hl6 : l.length ≤ 1000000) (st : St) : OutS 42 [lstD l] st (encS (symsP l []).1) (symsP l []).2 st := by
 refine OutS_of (Nat.le_refl _) ?_
 refine vfunQ TT_ok (an := anL []) (L := [0, 2, 3, 5, 6, 7, 8]) (rs := [.tmp 2]) Tryz.func42 rfl (by kernel_rfl) rfl Tryz.ntmps42 rfl rfl fun hst ha hf => ?_
 have hll : l.length ≤ 9223372036854775807 := by
  simp only [fitL, V.fit, lstD, List.length_map] at hf; omega
 simp only [gw0, reduceEqDiff, ↓reduceIte, reduceAdd, reduceLT, reduceLeDiff, reduceMul, gwD3, gwDT, pureR_none, ite_self, nilR, nilB, bitF, bitV, nilC, nilCmp, eqb, assertV, assertW, zeroV, wQ_normal, wQ_ret, wQ_panic, pickO, pickC, List.map_cons, List.map_nil, List.getD_cons_zero, List.getD_cons_succ, Env.keep, beq_self_eq_true, cond_true, cond_false, lstD, List.length_map]
 refine vforT (σ := Nat × List Str) [9] [0, 2, 3, 6, 7, 8] (fun x => [(0, true, lstD l), (2, true, .nils), (3, true, .lst 1 (some st.length) (x.2.map fun s => [V.str s])), (6, true, lstD l), (7, true, .int .i64 l.length), (8, true, .int .i64 x.1)]) (fun x => st ++ [.tip 9 x.2.length]) (fun x => l.length - x.1) (fun x => x.1 ≤ l.length ∧ x.2.length = x.1 ∧ symsP l [] = symsP (l.drop x.1) x.2) (0, []) rfl TT_ok ⟨Nat.zero_le _, rfl, rfl⟩ ?_ ?_ ?_
 ·simp only [gw0, reduceEqDiff, ↓reduceIte, reduceAdd, reduceLT, reduceLeDiff, reduceMul, Env.keep]
  exact ⟨_, _, rfl, wk_refl _, _, _, rfl, wk_refl _, _, _, rfl, wk_tip _ (by simp [Tips]), _, _, rfl, wk_refl _, _, _, rfl, wk_refl _, _, _, rfl, wk_refl _, rfl⟩
 ·exact ⟨st, wkSt_refl _, by simp only [gwL, tips, List.map_cons, List.map_nil, List.length_nil]⟩
 rintro ⟨i, acc⟩ ⟨hi, hacc, hI⟩
 simp only at hi hacc hI ⊢
 rw [hI]
 rcases at_or_end l i hi with ⟨rfl, hd⟩ | ⟨a, hlt, hget, hdr⟩
 ·rw [hd]
  simp only [gw0, reduceEqDiff, ↓reduceIte, reduceAdd, reduceLT, reduceLeDiff, reduceMul, gwD3, gwDT, pureR_none, ite_self, nilR, nilB, bitF, bitV, nilC, nilCmp, eqb, assertV, assertW, zeroV, wQ_normal, wQ_ret, wQ_panic, pickO, pickC, List.map_cons, List.map_nil, List.getD_cons_zero, List.getD_cons_succ, Env.keep, beq_self_eq_true, cond_true, cond_false, lt_no, lstD]
  simp only [symsP]
  exact outS_g rfl (gives_of (wk_tok _ _ _) (wkSt_refl _) (encS_lt _ _) hst)
 ·rw [hdr]
  simp only [gw0, reduceEqDiff, ↓reduceIte, reduceAdd, reduceLT, reduceLeDiff, reduceMul, gwD3, gwDT, pureR_none, ite_self, nilR, nilB, bitF, bitV, nilC, nilCmp, eqb, assertV, assertW, zeroV, wQ_normal, wQ_ret, wQ_panic, pickO, pickC, List.map_cons, List.map_nil, List.getD_cons_zero, List.getD_cons_succ, Env.keep, beq_self_eq_true, cond_true, cond_false, lt_yes hlt, lstD, List.length_map, getD_map hget, Int.ofNat_lt.mpr hlt, encD_take, encD_len, encD_drop, Nat.le_refl]
  rcases (c_libsym a (st ++ [.tip 9 acc.length, .box (encD a)])).cases with ⟨he, hc⟩ | ⟨he, hc⟩
  ·refine hc.use (wkL_refl _) fun _ => ?_
   have hs : symsP (a :: l.drop (i + 1)) acc = symsP (l.drop (i + 1)) (acc ++ [(symP a).1]) := by simp [symsP, he]
   rw [hs]
   simp only [gw0, reduceEqDiff, ↓reduceIte, reduceAdd, reduceLT, reduceLeDiff, reduceMul, gwD3, gwDT, pureR_none, ite_self, nilR, nilB, bitF, bitV, nilC, nilCmp, eqb, assertV, assertW, zeroV, wQ_normal, wQ_ret, wQ_panic, pickO, pickC, List.map_cons, List.map_nil, List.getD_cons_zero, List.getD_cons_succ, Env.keep, beq_self_eq_true, cond_true, cond_false, List.length_map, Env.keep, next_i64 hlt hll, Nat.le_refl]
   refine ⟨by omega, (i + 1, acc ++ [(symP a).1]), ⟨?_, st ++ [.tip 9 (acc.length + 1)], [.box (encD a)], by simp, by simp only [List.length_append, List.length_cons, List.length_nil]; exact wkSt_refl _, ?_, ok_app hst ⟨trivial, trivial⟩, by simp⟩, by dsimp only; omega, hlt, by simp; omega, rfl⟩
   ·rw [encS_snoc]
    simp only [gw0, reduceEqDiff, ↓reduceIte, reduceAdd, reduceLT, reduceLeDiff, reduceMul, Env.keep]
    exact wkE_refl _
   simp only [ltE, V.lt, gwL]
   have hl := lstD_lt (st.length + 1) l
   simp only [lstD, V.lt] at hl
   exact ⟨hl, trivial, ⟨fun e h => by cases h; omega, ltRows_map fun x _ => ⟨trivial, trivial⟩⟩, hl, trivial, trivial, trivial⟩
  ·refine hc.useP (wkL_refl _) ?_
   have hs : symsP (a :: l.drop (i + 1)) acc = ([], (symP a).2) := by simp [symsP, he]
   rw [hs]
   simp only [gw0, reduceEqDiff, ↓reduceIte, reduceAdd, reduceLT, reduceLeDiff, reduceMul, gwD3, gwDT, pureR_none, ite_self, nilR, nilB, bitF, bitV, nilC, nilCmp, eqb, assertV, assertW, zeroV, wQ_normal, wQ_ret, wQ_panic, pickO, pickC, List.map_cons, List.map_nil, List.getD_cons_zero, List.getD_cons_succ, Env.keep, beq_self_eq_true, cond_true, cond_false]
   exact outS_p he (givesP_of (wk_refl _) (wkSt_refl _) (oops_lt _ _) hst)
theorem thenE_ok {α β : Type} {x : α × Int} {z : β} {f : α → β × Int} (h : x.2 = 0) : thenE x z f = f x.1 := by unfold thenE; rw [decide_eq_true h]; rfl
theorem thenE_bad {α β : Type} {x : α × Int} {z : β} {f : α → β × Int} (h : x.2 ≠ 0) : thenE x z f = (z, x.2) := by unfold thenE; rw [decide_eq_false h]; rfl
theorem symsP_len : ∀ (l : List Datum) (acc : List Str), (symsP l acc).2 = 0 → (symsP l acc).1.length = acc.length + l.length
 | [], acc, _ => rfl
 | d :: r, acc, h => by
  simp only [symsP] at h ⊢
  cases e : decide ((symP d).2 = 0) with
  | true =>
   rw [e] at h
   simp only [cond_true] at h ⊢
   rw [symsP_len r _ h]; simp; omega
  | false => rw [e] at h; simp only [cond_false] at h; exact absurd h (of_decide_eq_false e)
theorem symP_short {d : Datum} (h : okM d) (he : (symP d).2 = 0) : (symP d).1.length ≤ 20 := by
 obtain ⟨k, n, nm, s, l, kids⟩ := d
 rw [okM] at h
 simp only [symP] at he ⊢
 cases e : decide (k = 3) with
 | true => exact h.1 (of_decide_eq_true e)
 | false => rw [e] at he; simp at he
theorem symsP_short : ∀ (l : List Datum) (acc : List Str), okMs l → (∀ s ∈ acc, s.length ≤ 20) → (symsP l acc).2 = 0 → ∀ s ∈ (symsP l acc).1, s.length ≤ 20
 | [], acc, _, ha, _ => ha
 | d :: r, acc, hm, ha, h => by
  simp only [symsP] at h ⊢
  rw [okMs] at hm
  cases e : decide ((symP d).2 = 0) with
  | true =>
   rw [e] at h
   simp only [cond_true] at h ⊢
   refine symsP_short r _ hm.2 (fun s hs => ?_) h
   rcases List.mem_append.1 hs with hs | hs
   ·exact ha s hs
   ·simp at hs; subst hs; exact symP_short hm.1 (of_decide_eq_true e)
  | false => rw [e] at h; simp only [cond_false] at h; exact absurd h (of_decide_eq_false e)
theorem joinP_len : ∀ l : List Str, (∀ s ∈ l, s.length ≤ 20) → (joinP l).length ≤ 21 * l.length
 | [], _ => by simp [joinP]
 | [s], h => by have := h s (by simp); simp only [joinP, List.length_cons, List.length_nil]; omega
 | s :: t :: r, h => by
  have h1 := h s (by simp)
  have h2 := joinP_len (t :: r) fun x hx => h x (by simp at hx ⊢; right; exact hx)
  simp only [joinP, List.length_append, List.length_cons] at h2 ⊢
  omega
theorem listP_okM {d : Datum} {n : Nat} (h : okM d) (he : (listP n d).2 = 0) : okMs (listP n d).1 ∧ (listP n d).1.length ≤ 2000 ∧ n ≤ (listP n d).1.length := by
 obtain ⟨k, m, nm, s, l, kids⟩ := d
 rw [okM] at h
 simp only [listP] at he ⊢
 cases e : !decide (k = 4) || decide (kids.length < n) with
 | true => rw [e] at he; simp at he
 | false =>
  simp only [Bool.or_eq_false_iff, Bool.not_eq_false', decide_eq_true_eq, decide_eq_false_iff_not] at e
  have := h.2 e.1
  exact ⟨this.2, this.1, by simp only [cond_false]; omega⟩
theorem c_libcalled (d : Datum) (hd : okM d) (st : St) : OutS 17 [.agg (encD d)] st (.str (calledP d).1) (calledP d).2 st := by
 refine OutS_of (Nat.le_refl _) ?_
 refine vfunQ TT_ok (an := anL [(1, 1)]) (L := [0, 1, 2, 3]) (rs := [.tmp 2]) Tryz.func17 rfl (by kernel_rfl) rfl Tryz.ntmps17 rfl rfl fun hst ha hf => ?_
 simp only [gw0, reduceEqDiff, ↓reduceIte, reduceAdd, reduceLT, reduceLeDiff, reduceMul, gwD3, gwDT, pureR_none, ite_self, nilR, nilB, bitF, bitV, nilC, nilCmp, eqb, assertV, assertW, zeroV, wQ_normal, wQ_ret, wQ_panic, pickO, pickC, List.map_cons, List.map_nil, List.getD_cons_zero, List.getD_cons_succ, Env.keep, beq_self_eq_true, cond_true, cond_false, encD_take, encD_len, encD_drop, Nat.le_refl]
 unfold calledP
 rcases (c_liblist d 1 st).cases with ⟨he, hc⟩ | ⟨he, hc⟩
 ·refine hc.use (wkL_refl _) fun _ => ?_
  rw [thenE_ok he]
  have hm := listP_okM hd he
  generalize (listP 1 d).1 = l at hm
  simp only [gw0, reduceEqDiff, ↓reduceIte, reduceAdd, reduceLT, reduceLeDiff, reduceMul, gwD3, gwDT, pureR_none, ite_self, nilR, nilB, bitF, bitV, nilC, nilCmp, eqb, assertV, assertW, zeroV, wQ_normal, wQ_ret, wQ_panic, pickO, pickC, List.map_cons, List.map_nil, List.getD_cons_zero, List.getD_cons_succ, Env.keep, beq_self_eq_true, cond_true, cond_false]
  rcases (c_libsyms l (by omega) st).cases with ⟨he2, hc2⟩ | ⟨he2, hc2⟩
  ·refine hc2.use (wkL_refl _) fun _ => ?_
   rw [thenE_ok he2]
   have hl := symsP_len l [] he2
   have hj := joinP_len _ (symsP_short l [] hm.1 (by simp) he2)
   simp only [List.length_nil, Nat.zero_add] at hl
   generalize (symsP l []).1 = w at hl hj
   simp only [gw0, reduceEqDiff, ↓reduceIte, reduceAdd, reduceLT, reduceLeDiff, reduceMul, gwD3, gwDT, pureR_none, ite_self, nilR, nilB, bitF, bitV, nilC, nilCmp, eqb, assertV, assertW, zeroV, wQ_normal, wQ_ret, wQ_panic, pickO, pickC, List.map_cons, List.map_nil, List.getD_cons_zero, List.getD_cons_succ, Env.keep, beq_self_eq_true, cond_true, cond_false]
   refine (c_Join w (by omega) (by omega) _).use (wkL_refl _) fun _ => ?_
   have e1 : decide ((60 : Int) < ((joinP w).length : Int)) = decide (60 < (joinP w).length) := by by_cases h : 60 < (joinP w).length <;> simp [h] <;> omega
   simp only [gw0, reduceEqDiff, ↓reduceIte, reduceAdd, reduceLT, reduceLeDiff, reduceMul, gwD3, gwDT, pureR_none, ite_self, nilR, nilB, bitF, bitV, nilC, nilCmp, eqb, assertV, assertW, zeroV, wQ_normal, wQ_ret, wQ_panic, pickO, pickC, List.map_cons, List.map_nil, List.getD_cons_zero, List.getD_cons_succ, Env.keep, beq_self_eq_true, cond_true, cond_false, e1]
   refine iK_split (fun h => ?_) (fun h => ?_)
   ·rw [h, cond_true]
    simp only [gw0, reduceEqDiff, ↓reduceIte, reduceAdd, reduceLT, reduceLeDiff, reduceMul, gwD3, gwDT, pureR_none, ite_self, nilR, nilB, bitF, bitV, nilC, nilCmp, eqb, assertV, assertW, zeroV, wQ_normal, wQ_ret, wQ_panic, pickO, pickC, List.map_cons, List.map_nil, List.getD_cons_zero, List.getD_cons_succ, Env.keep, beq_self_eq_true, cond_true, cond_false]
    refine (c_libfail _ 4).useP (wkL_refl _) ?_
    simp only [gw0, reduceEqDiff, ↓reduceIte, reduceAdd, reduceLT, reduceLeDiff, reduceMul, gwD3, gwDT, pureR_none, ite_self, nilR, nilB, bitF, bitV, nilC, nilCmp, eqb, assertV, assertW, zeroV, wQ_normal, wQ_ret, wQ_panic, pickO, pickC, List.map_cons, List.map_nil, List.getD_cons_zero, List.getD_cons_succ, Env.keep, beq_self_eq_true, cond_true, cond_false]
    exact outS_p (by decide) (givesP_self (oops_lt _ _) hst)
   ·rw [h, cond_false]
    simp only [gw0, reduceEqDiff, ↓reduceIte, reduceAdd, reduceLT, reduceLeDiff, reduceMul, gwD3, gwDT, pureR_none, ite_self, nilR, nilB, bitF, bitV, nilC, nilCmp, eqb, assertV, assertW, zeroV, wQ_normal, wQ_ret, wQ_panic, pickO, pickC, List.map_cons, List.map_nil, List.getD_cons_zero, List.getD_cons_succ, Env.keep, beq_self_eq_true, cond_true, cond_false]
    exact outS_g rfl (gives_self trivial hst)
  ·refine hc2.useP (wkL_refl _) ?_
   rw [thenE_bad he2]
   simp only [gw0, reduceEqDiff, ↓reduceIte, reduceAdd, reduceLT, reduceLeDiff, reduceMul, gwD3, gwDT, pureR_none, ite_self, nilR, nilB, bitF, bitV, nilC, nilCmp, eqb, assertV, assertW, zeroV, wQ_normal, wQ_ret, wQ_panic, pickO, pickC, List.map_cons, List.map_nil, List.getD_cons_zero, List.getD_cons_succ, Env.keep, beq_self_eq_true, cond_true, cond_false]
   exact outS_p he2 (givesP_self (oops_lt _ _) hst)
 ·refine hc.useP (wkL_refl _) ?_
  rw [thenE_bad he]
  simp only [gw0, reduceEqDiff, ↓reduceIte, reduceAdd, reduceLT, reduceLeDiff, reduceMul, gwD3, gwDT, pureR_none, ite_self, nilR, nilB, bitF, bitV, nilC, nilCmp, eqb, assertV, assertW, zeroV, wQ_normal, wQ_ret, wQ_panic, pickO, pickC, List.map_cons, List.map_nil, List.getD_cons_zero, List.getD_cons_succ, Env.keep, beq_self_eq_true, cond_true, cond_false]
  exact outS_p he (givesP_self (oops_lt _ _) hst)
def encF2 (p : Str × Str) : List V := [.str p.1, .str p.2]
def rows2 (l : Prs) : List (List V) := l.map encF2
theorem rows2_lt (n : Nat) (l : Prs) : ltRows n (rows2 l) := ltRows_map fun x _ => ⟨trivial, trivial, trivial⟩
theorem rows2_len (l : Prs) : (rows2 l).length = l.length := by simp [rows2]
/-- The first of which it holds. -/
def idxG (p : Str × Str → Bool) : Nat → Prs → Int
 | _, [] => -1
 | i, a :: r => bif p a then (i : Int) else idxG p (i + 1) r
theorem idxG_ge (p : Str × Str → Bool) : ∀ (l : Prs) (i : Nat), decide (0 ≤ idxG p i l) = l.any p
 | [], i => by simp [idxG]
 | a :: r, i => by
  have := idxG_ge p r (i + 1)
  cases h : p a
  ·simp only [idxG, h, cond_false, this, List.any_cons, Bool.false_or]
  ·simp [idxG, h]
theorem idxG_file (n : Str) : ∀ (l : Prs) (i : Nat), (fileOf n l = none ∧ idxG (fun f => decide (f.1 = n)) i l = -1) ∨ (∃ j f, l[j]? = some f ∧ fileOf n l = some f.2 ∧ idxG (fun f => decide (f.1 = n)) i l = ((i + j : Nat) : Int))
 | [], i => .inl ⟨rfl, rfl⟩
 | f :: r, i => by
  cases h : decide (f.1 = n) with
  | true => exact .inr ⟨0, f, rfl, by simp [fileOf, h], by simp [idxG, h]⟩
  | false =>
   rcases idxG_file n r (i + 1) with ⟨h1, h2⟩ | ⟨j, g, h1, h2, h3⟩
   ·exact .inl ⟨by simp [fileOf, h, h1], by simp only [idxG, h, cond_false, h2]⟩
   ·exact .inr ⟨j + 1, g, by simpa using h1, by simp [fileOf, h, h2], by simp only [idxG, h, cond_false, h3]; omega⟩
theorem c_IdxPair (st : St) (l : Prs) (k : FuncId) (cap : List V) (p : Str × Str → Bool) (h : ∀ a ∈ l, VCalls Tryz.prog TT k (.agg (encF2 a) :: cap) st fun r st' => r = .ret (.bool (p a)) ∧ st' = st) :
  VCalls Tryz.prog TT 82 [.lst 2 none (rows2 l), .fn (.func k) cap] st fun r st' => r = .ret (.int .i64 (idxG p 0 l)) ∧ st' = st := by
 refine vfun TT_ok (an := anL []) (L := [0, 1, 4, 5, 7, 8]) (rs := [.tmp 4]) Tryz.func82 rfl (by kernel_rfl) rfl Tryz.ntmps82 rfl rfl (Nat.le_refl _) fun hst ha hf => ?_
 have hll : l.length ≤ 9223372036854775807 := by simp only [fitL, V.fit, rows2, List.length_map] at hf; omega
 simp only [rows2]
 simp only [gw0, reduceEqDiff, ↓reduceIte, reduceAdd, reduceLT, reduceLeDiff, reduceMul, List.length_map]
 refine vfor (σ := Nat) [0, 1, 4, 7, 8] (fun i => [(0, true, .lst 2 none (l.map encF2)), (1, true, .fn (.func k) cap), (4, true, .int .i64 0), (7, true, .int .i64 l.length), (8, true, .int .i64 i)]) (fun i => st) (fun i => l.length - i) (fun i => i ≤ l.length ∧ idxG p 0 l = idxG p i (l.drop i)) 0 rfl TT_ok ⟨Nat.zero_le _, rfl⟩ rfl rfl ?_
 rintro i ⟨hi, hx⟩
 rw [hx]
 rcases at_or_end l i hi with ⟨rfl, hd⟩ | ⟨a, hlt, hget, hdr⟩
 ·simp only [gw0, reduceEqDiff, ↓reduceIte, reduceAdd, reduceLT, reduceLeDiff, reduceMul, lt_no, hd, idxG]
  exact gives_int rfl hst
 ·have he : (encF2 a).length = 2 := rfl
  simp only [gw0, reduceEqDiff, ↓reduceIte, reduceAdd, reduceLT, reduceLeDiff, reduceMul, lt_yes hlt, hdr, idxG, List.length_map, getD_map hget, Int.ofNat_lt.mpr hlt, Nat.le_refl, he]
  refine (h a (List.mem_of_getElem? hget)).use (wkL_refl _) fun _ => ?_
  simp only [gw0, reduceEqDiff, ↓reduceIte, reduceAdd, reduceLT, reduceLeDiff, reduceMul]
  refine iK_split (fun h1 => ?_) (fun h1 => ?_)
  ·simp only [gw0, reduceEqDiff, ↓reduceIte, reduceAdd, reduceLT, reduceLeDiff, reduceMul, h1, cond_true]
   exact gives_int rfl hst
  ·simp only [gw0, reduceEqDiff, ↓reduceIte, reduceAdd, reduceLT, reduceLeDiff, reduceMul, h1, cond_false, Env.keep]
   exact ⟨i + 1, by rw [next_i64 hlt hll], by omega, hlt, rfl⟩
theorem c_IdxFile (st : St) (l : Prs) (k : FuncId) (cap : List V) (p : Str × Str → Bool) (h : ∀ a ∈ l, VCalls Tryz.prog TT k (.agg (encF2 a) :: cap) st fun r st' => r = .ret (.bool (p a)) ∧ st' = st) :
  VCalls Tryz.prog TT 64 [.lst 2 none (rows2 l), .fn (.func k) cap] st fun r st' => r = .ret (.int .i64 (idxG p 0 l)) ∧ st' = st := by
 refine vfun TT_ok (an := anL []) (L := [0, 1, 4, 5, 7, 8]) (rs := [.tmp 4]) Tryz.func64 rfl (by kernel_rfl) rfl Tryz.ntmps64 rfl rfl (Nat.le_refl _) fun hst ha hf => ?_
 have hll : l.length ≤ 9223372036854775807 := by simp only [fitL, V.fit, rows2, List.length_map] at hf; omega
 simp only [rows2]
 simp only [gw0, reduceEqDiff, ↓reduceIte, reduceAdd, reduceLT, reduceLeDiff, reduceMul, List.length_map]
 refine vfor (σ := Nat) [0, 1, 4, 7, 8] (fun i => [(0, true, .lst 2 none (l.map encF2)), (1, true, .fn (.func k) cap), (4, true, .int .i64 0), (7, true, .int .i64 l.length), (8, true, .int .i64 i)]) (fun i => st) (fun i => l.length - i) (fun i => i ≤ l.length ∧ idxG p 0 l = idxG p i (l.drop i)) 0 rfl TT_ok ⟨Nat.zero_le _, rfl⟩ rfl rfl ?_
 rintro i ⟨hi, hx⟩
 rw [hx]
 rcases at_or_end l i hi with ⟨rfl, hd⟩ | ⟨a, hlt, hget, hdr⟩
 ·simp only [gw0, reduceEqDiff, ↓reduceIte, reduceAdd, reduceLT, reduceLeDiff, reduceMul, lt_no, hd, idxG]
  exact gives_int rfl hst
 ·have he : (encF2 a).length = 2 := rfl
  simp only [gw0, reduceEqDiff, ↓reduceIte, reduceAdd, reduceLT, reduceLeDiff, reduceMul, lt_yes hlt, hdr, idxG, List.length_map, getD_map hget, Int.ofNat_lt.mpr hlt, Nat.le_refl, he]
  refine (h a (List.mem_of_getElem? hget)).use (wkL_refl _) fun _ => ?_
  simp only [gw0, reduceEqDiff, ↓reduceIte, reduceAdd, reduceLT, reduceLeDiff, reduceMul]
  refine iK_split (fun h1 => ?_) (fun h1 => ?_)
  ·simp only [gw0, reduceEqDiff, ↓reduceIte, reduceAdd, reduceLT, reduceLeDiff, reduceMul, h1, cond_true]
   exact gives_int rfl hst
  ·simp only [gw0, reduceEqDiff, ↓reduceIte, reduceAdd, reduceLT, reduceLeDiff, reduceMul, h1, cond_false, Env.keep]
   exact ⟨i + 1, by rw [next_i64 hlt hll], by omega, hlt, rfl⟩
theorem c_HasPair (st : St) (l : Prs) (k : FuncId) (cap : List V) (p : Str × Str → Bool) (h : ∀ a ∈ l, VCalls Tryz.prog TT k (.agg (encF2 a) :: cap) st fun r st' => r = .ret (.bool (p a)) ∧ st' = st) :
  VCalls Tryz.prog TT 61 [.lst 2 none (rows2 l), .fn (.func k) cap] st fun r st' => r = .ret (.bool (l.any p)) ∧ st' = st := by
 refine vfun TT_ok (an := anL []) (L := [0, 1, 4]) (rs := [.tmp 4]) Tryz.func61 rfl (by kernel_rfl) rfl Tryz.ntmps61 rfl rfl (Nat.le_refl _) fun hst ha hf => ?_
 simp only [gw0, reduceEqDiff, ↓reduceIte, reduceAdd, reduceLT, reduceLeDiff, reduceMul]
 refine (c_IdxPair st l k cap p h).use (wkL_refl _) fun _ => ?_
 simp only [gw0, reduceEqDiff, ↓reduceIte, reduceAdd, reduceLT, reduceLeDiff, reduceMul]
 exact gives_bool (idxG_ge p l 0) hst
theorem c_sameHere (o q : Str × Str) (x : Nat) (st : St) (hx : st[x]? = some (.box (encF2 q))) : VCalls Tryz.prog TT 62 [.agg (encF2 o), .ptr x 0] st fun r st' => r = .ret (.bool (decide (o.1 = q.1))) ∧ st' = st := by
 refine vfun TT_ok (an := anL [(2, 1)]) (L := [0, 1, 2, 3]) (rs := [.tmp 3]) Tryz.func62 rfl (by kernel_rfl) rfl Tryz.ntmps62 rfl rfl (Nat.le_refl _) fun hst ha hf => ?_
 simp only [encF2] at hx ⊢
 simp only [gw0, reduceEqDiff, ↓reduceIte, reduceAdd, reduceLT, reduceLeDiff, reduceMul, gwD3, gwDT, pureR_none, ite_self, nilR, nilB, bitF, bitV, nilC, nilCmp, eqb, assertV, assertW, zeroV, wQ_normal, wQ_ret, wQ_panic, pickO, pickC, List.map_cons, List.map_nil, List.getD_cons_zero, List.getD_cons_succ, Env.keep, beq_self_eq_true, cond_true, cond_false, hx]
 exact gives_bool rfl hst
theorem c_sameFile (o : Str × Str) (n : Str) (x : Nat) (st : St) (hx : st[x]? = some (.box [.str n])) : VCalls Tryz.prog TT 65 [.agg (encF2 o), .ptr x 0] st fun r st' => r = .ret (.bool (decide (o.1 = n))) ∧ st' = st := by
 refine vfun TT_ok (an := anL [(2, 1)]) (L := [0, 1, 2, 3]) (rs := [.tmp 3]) Tryz.func65 rfl (by kernel_rfl) rfl Tryz.ntmps65 rfl rfl (Nat.le_refl _) fun hst ha hf => ?_
 simp only [encF2]
 simp only [gw0, reduceEqDiff, ↓reduceIte, reduceAdd, reduceLT, reduceLeDiff, reduceMul, gwD3, gwDT, pureR_none, ite_self, nilR, nilB, bitF, bitV, nilC, nilCmp, eqb, assertV, assertW, zeroV, wQ_normal, wQ_ret, wQ_panic, pickO, pickC, List.map_cons, List.map_nil, List.getD_cons_zero, List.getD_cons_succ, Env.keep, beq_self_eq_true, cond_true, cond_false, hx]
 exact gives_bool rfl hst
end Go.Proofs.YtpllcpbhjglpaaaGreatDoor.Gx
