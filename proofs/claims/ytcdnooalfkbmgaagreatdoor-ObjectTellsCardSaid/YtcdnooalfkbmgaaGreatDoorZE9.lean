/- Reading data: what a text's data are; the walk over one. Reading data: the walk over a list. Reading data: the walk over a datum. Reading data: the whole. Reading data: text.Read. Reading, by what is left of the text, not by where it is; with more fuel, behind more nodes, with more text behind. Reading, by what is left of the text: with more fuel, behind more nodes, with more text behind. strings.Builder: what its methods do. Writing data: numbers; a datum; data on lines. Writing data, walked. -/
import Derived.Test.YtcdnooalfkbmgaaGreatDoorZE8
import Derived.Lib.Builder
import Derived.Lib.UnsafeStr
import Derived.Shelf.Strconv.Itoa4
import Derived.Shelf.Lay
import Derived.Lib.ItoaLen
import Derived.Ground.NamesProg
namespace Go.Proofs.YtcdnooalfkbmgaaGreatDoor.Gx
open Go Go.Proofs.YtcdnooalfkbmgaaGreatDoor.Gw
set_option linter.unusedSimpArgs false
set_option linter.unusedVariables false
/-- A datum, and where its reader is, and how many nodes there were; or what is wrong, and where, and so on. -/
inductive RR where
 | ok (d : Datum) (p n : Nat)
 | err (e q : Int) (p n : Nat)
def quoteS : Str := [113, 117, 111, 116, 101]
def quoteD (x : Datum) : Datum := .mk 4 0 [] 0 0 [.mk 3 0 quoteS 0 0 [], x]
def RR.quote : RR → RR
 | .ok x p n => .ok (quoteD x) p n
 | .err e q p n => .err e q p n
def RR.bind (r : RR) (k : Datum → Nat → Nat → RR) : RR := match r with
 | .ok x p n => k x p n
 | .err e q p n => .err e q p n
/-- Behind '#'. -/
def rdB (q p n : Nat) : Str → RR
 | [] => .err 2 q p n
 | t :: r => bif decide (t = 116) || decide (t = 102) then
   (match r with
   | [] => .ok (.mk 2 (bif decide (t = 116) then 1 else 0) [] 0 0 []) (p + 1) n
   | u :: _ => bif letterB u then .err 2 q (p + 1) n else .ok (.mk 2 (bif decide (t = 116) then 1 else 0) [] 0 0 []) (p + 1) n)
  else .err 2 q p n
def rdA (s : Str) (q p n : Nat) (c : UInt8) (r : Str) : RR := match atomR (c :: r.takeWhile letterB) with
 | .inl e => .err e q (p + (r.takeWhile letterB).length) n
 | .inr d => .ok d (p + (r.takeWhile letterB).length) n
mutual
def rdD (s : Str) : Nat → Int → Nat → Nat → RR
 | 0, _, p, n => .err 0 0 p n
 | f + 1, deep, p, n => bif decide (2000 < n + 1) || decide (40 < deep) then .err 4 p p (n + 1)
  else match s.drop p with
   | [] => .err 2 p p (n + 1)
   | c :: r => bif decide (c = 40) then rdL s f deep [] (p + 1) (n + 1)
    else bif decide (c = 39) then (bif decide (2000 < n + 2) || decide (40 < deep + 1) then .err 4 p (p + 1) (n + 2) else (rdD s f (deep + 1) (s.length - (blk false r).length) (n + 2)).quote)
    else bif decide (c = 35) then rdB p (p + 1) (n + 1) r
    else bif letterB c then rdA s p (p + 1) (n + 1) c r
    else .err 2 p (p + 1) (n + 1)
def rdL (s : Str) : Nat → Int → List Datum → Nat → Nat → RR
 | 0, _, _, p, n => .err 0 0 p n
 | f + 1, deep, acc, p, n => match blk false (s.drop p) with
  | [] => .err 2 s.length s.length n
  | c :: r => bif decide (c = 41) then .ok (.mk 4 0 [] 0 0 acc) (s.length - r.length) n
   else (rdD s f (deep + 1) (s.length - (r.length + 1)) n).bind fun x p' n' => rdL s f deep (acc ++ [x]) p' n'
end
/-- How far a datum goes. -/
def RR.far (s : Str) (p : Nat) : RR → Prop
 | .ok _ p' n' => p < p' ∧ p' ≤ s.length ∧ n' ≤ 2000
 | .err _ _ _ _ => True
theorem takeWhile_le {l : Str} : (l.takeWhile letterB).length ≤ l.length := by
 have := (List.takeWhile_prefix (l := l) letterB).length_le
 exact this
theorem drop_len {s : Str} {p : Nat} {c : UInt8} {r : Str} (h : s.drop p = c :: r) : p + r.length + 1 = s.length := by
 have := congrArg List.length h
 simp at this
 omega
theorem rd_far (s : Str) : ∀ f : Nat, (∀ (deep : Int) (p n : Nat), n ≤ 2000 → (rdD s f deep p n).far s p) ∧ (∀ (deep : Int) (acc : List Datum) (p n : Nat), p ≤ s.length → n ≤ 2000 → (rdL s f deep acc p n).far s p)
 | 0 => ⟨fun _ _ _ _ => by simp [rdD, RR.far], fun _ _ _ _ _ _ => by simp [rdL, RR.far]⟩
 | f + 1 => by
  obtain ⟨ih1, ih2⟩ := rd_far s f
  refine ⟨fun deep p n hn => ?_, fun deep acc p n hp hn => ?_⟩
  ·simp only [rdD]
   cases h0 : (decide (2000 < n + 1) || decide (40 < deep)) with
   | true => simp [RR.far]
   | false =>
    have hn1 : n + 1 ≤ 2000 := by simp at h0; omega
    simp only [cond_false]
    split
    ·simp [RR.far]
    ·rename_i c r hd
     have hl := drop_len hd
     cases decide (c = 40) with
     | true =>
      simp only [cond_true]
      have := ih2 deep [] (p + 1) (n + 1) (by omega) hn1
      generalize rdL s f deep [] (p + 1) (n + 1) = rr at this ⊢
      cases rr with
      | ok x p' n' => simp only [RR.far] at this ⊢; omega
      | err _ _ _ _ => trivial
     | false =>
      simp only [cond_false]
      cases decide (c = 39) with
      | true =>
       simp only [cond_true]
       cases h1 : (decide (2000 < n + 2) || decide (40 < deep + 1)) with
       | true => simp [RR.far]
       | false =>
        have hn2 : n + 2 ≤ 2000 := by simp at h1; omega
        simp only [cond_false]
        have hb := blk_le r false
        have := ih1 (deep + 1) (s.length - (blk false r).length) (n + 2) hn2
        generalize rdD s f (deep + 1) (s.length - (blk false r).length) (n + 2) = rr at this ⊢
        cases rr with
        | ok x p' n' => simp only [RR.quote, RR.far] at this ⊢; omega
        | err _ _ _ _ => trivial
      | false =>
       simp only [cond_false]
       cases decide (c = 35) with
       | true =>
        simp only [cond_true]
        cases r with
        | nil => simp [rdB, RR.far]
        | cons t r =>
         simp only [rdB]
         simp only [List.length_cons] at hl
         cases (decide (t = 116) || decide (t = 102)) with
         | false => simp [RR.far]
         | true =>
          simp only [cond_true]
          cases r with
          | nil => dsimp only; simp only [RR.far, List.length_nil] at hl ⊢; omega
          | cons u r =>
           simp only [List.length_cons] at hl
           dsimp only
           cases letterB u with
           | true => simp [RR.far]
           | false => simp only [cond_false, RR.far]; omega
       | false =>
        simp only [cond_false]
        cases letterB c with
        | true =>
         simp only [cond_true, rdA]
         have := takeWhile_le (l := r)
         split
         ·trivial
         ·simp only [RR.far]; omega
        | false => simp [RR.far]
  ·simp only [rdL]
   have hb := blk_le (s.drop p) false
   simp only [List.length_drop] at hb
   split
   ·trivial
   ·rename_i c r hd
    rw [hd] at hb
    simp only [List.length_cons] at hb
    cases decide (c = 41) with
    | true => simp only [cond_true, RR.far]; omega
    | false =>
     simp only [cond_false]
     have h1 := ih1 (deep + 1) (s.length - (r.length + 1)) n hn
     generalize rdD s f (deep + 1) (s.length - (r.length + 1)) n = rr at h1 ⊢
     cases rr with
     | err _ _ _ _ => trivial
     | ok x p' n' =>
      simp only [RR.far] at h1
      simp only [RR.bind]
      have h2 := ih2 deep (acc ++ [x]) p' n' h1.2.1 h1.2.2
      generalize rdL s f deep (acc ++ [x]) p' n' = rr at h2 ⊢
      cases rr with
      | ok x p' n' => simp only [RR.far] at h2 ⊢; omega
      | err _ _ _ _ => trivial
theorem set_app {st ex : St} {b : Nat} {e : Ent} (h : b < st.length) : (st ++ ex).set b e = st.set b e ++ ex := List.set_append_left _ _ h
section
variable {st : St} {b : Nat} {s : Str} (h : b < st.length)
include h
theorem at_b (p n : Nat) (l : St) : (st.set b (rdE s p n) ++ l)[b]? = some (.box [.str s, .int .i64 p, .int .i64 n]) := by
 rw [List.getElem?_append_left (by simpa using h), List.getElem?_set_self h]; rfl
theorem at_b0 (p n : Nat) : (st.set b (rdE s p n))[b]? = some (.box [.str s, .int .i64 p, .int .i64 n]) := by
 rw [List.getElem?_set_self h]; rfl
theorem set_b (e e' : Ent) (l : St) : (st.set b e ++ l).set b e' = st.set b e' ++ l := by
 rw [set_app (by simpa using h), List.set_set]
end
theorem at_k (st : St) (b : Nat) (e : Ent) (l : St) (k : Nat) : (st.set b e ++ l)[st.length + k]? = l[k]? := by
 rw [List.getElem?_append_right (by simp)]; simp
theorem at_k0 (st : St) (b : Nat) (e : Ent) (l : St) : (st.set b e ++ l)[st.length]? = l[0]? := at_k st b e l 0
theorem set_k (st : St) (b : Nat) (e : Ent) (l : St) (k : Nat) (x : Ent) : (st.set b e ++ l).set (st.length + k) x = st.set b e ++ l.set k x := by
 rw [List.set_append_right _ _ (by simp)]; simp
theorem set_k0 (st : St) (b : Nat) (e : Ent) (l : St) (x : Ent) : (st.set b e ++ l).set st.length x = st.set b e ++ l.set 0 x := set_k st b e l 0 x
/-- What a call of a reader comes to. -/
def outR (s : Str) (b : Nat) (st : St) : RR → VEnd → St → Prop
 | .ok x p n => Gives (.agg (encD x)) (st.set b (rdE s p n))
 | .err e q p n => GivesP (faultV e q) (st.set b (rdE s p n))
def OutC (s : Str) (b : Nat) (st st0 : St) (f : FuncId) (args : List V) : RR → Prop
 | .ok x p n => VCalls Tryz.prog TT f args st0 fun r st' => r = .ret (.agg (encD x)) ∧ st' = st.set b (rdE s p n)
 | .err e q p n => VCalls Tryz.prog TT f args st0 fun r st' => r = .panic (faultV e q) ∧ st' = st.set b (rdE s p n)
theorem OutC_of {s : Str} {b : Nat} {st st0 : St} {f : FuncId} {args : List V} {rr : RR} (hl : st0.length = st.length) (h : VCalls Tryz.prog TT f args st0 (outR s b st rr)) : OutC s b st st0 f args rr := by
 cases rr with
 | ok x p n => exact VCalls.give h (by simp [hl])
 | err e q p n => exact VCalls.giveP h (by simp [hl])
theorem back_b {st ex : St} {b : Nat} {e : Ent} (h : b < st.length) : st.set b e ++ ex = (st ++ ex).set b e := (set_app h).symm
theorem get_b {st ex : St} {b : Nat} {e : Ent} (h : b < st.length) : (st.set b e ++ ex)[b]? = some e := by rw [back_b h]; exact List.getElem?_set_self (by simp; omega)
theorem x_blank (s : Str) (st ex : St) (b p n : Nat) (h : b < st.length) (hp : p ≤ s.length) (hs : s.length ≤ 6000) :
  VCalls Tryz.prog TT 95 [.ptr b 0] (st.set b (rdE s p n) ++ ex) fun r st' => r = .ret (.tup []) ∧ st' = st.set b (rdE s (s.length - (blk false (s.drop p)).length) n) ++ ex := by
 have := c_blank s (st.set b (rdE s p n) ++ ex) b p n (get_b h) hp hs
 rw [set_b h] at this; exact this
theorem x_node_ok (s : Str) (st ex : St) (b p n : Nat) (deep q : Int) (hb : b < st.length) (h : ¬ 2000 < n + 1 ∧ ¬ 40 < deep) :
  VCalls Tryz.prog TT 103 [.ptr b 0, .int .i64 deep, .int .i64 q] (st.set b (rdE s p n) ++ ex) fun r st' => r = .ret (.tup []) ∧ st' = st.set b (rdE s p (n + 1)) ++ ex := by
 have := c_node_ok s (st.set b (rdE s p n) ++ ex) b p n deep q (get_b hb) h
 rw [set_b hb] at this; exact this
theorem x_node_err (s : Str) (st ex : St) (b p n : Nat) (deep q : Int) (hb : b < st.length) (hn : n ≤ 2000) (h : 2000 < n + 1 ∨ 40 < deep) :
  VCalls Tryz.prog TT 103 [.ptr b 0, .int .i64 deep, .int .i64 q] (st.set b (rdE s p n) ++ ex) fun r st' => r = .panic (faultV 4 q) ∧ st' = st.set b (rdE s p (n + 1)) ++ ex := by
 have := c_node_err s (st.set b (rdE s p n) ++ ex) b p n deep q (get_b hb) hn h
 rw [set_b hb] at this; exact this
/-- .. with more behind. -/
def OutX (s : Str) (b : Nat) (st ex st0 : St) (f : FuncId) (args : List V) : RR → Prop
 | .ok x p n => VCalls Tryz.prog TT f args st0 fun r st' => r = .ret (.agg (encD x)) ∧ st' = st.set b (rdE s p n) ++ ex
 | .err e q p n => VCalls Tryz.prog TT f args st0 fun r st' => r = .panic (faultV e q) ∧ st' = st.set b (rdE s p n) ++ ex
theorem OutC.x {s : Str} {b p n : Nat} {st ex : St} {f : FuncId} {args : List V} {rr : RR} (hb : b < st.length) (h : OutC s b (st ++ ex) ((st ++ ex).set b (rdE s p n)) f args rr) : OutX s b st ex (st.set b (rdE s p n) ++ ex) f args rr := by
 rw [back_b hb]
 cases rr with
 | ok x p' n' => simp only [OutX, OutC, back_b hb] at h ⊢; exact h
 | err e q p' n' => simp only [OutX, OutC, back_b hb] at h ⊢; exact h
end Go.Proofs.YtcdnooalfkbmgaaGreatDoor.Gx
namespace Go.Proofs.YtcdnooalfkbmgaaGreatDoor.Gx
open Go Go.Proofs.YtcdnooalfkbmgaaGreatDoor.Gw
open Nat (reduceEqDiff reduceAdd reduceLT reduceLeDiff reduceMul)
set_option linter.unusedSimpArgs false
set_option linter.unusedVariables false
def zeroD : List V := [.int .i64 0, .int .i64 0, .str [], .int .i64 0, .int .i64 0, .nils]
def IHD (s : Str) (F : Nat) : Prop := ∀ f, f < F → ∀ (deep : Int) (p n : Nat) (st : St) (b : Nat), b < st.length → p ≤ s.length → n ≤ 2000 → 0 ≤ deep → deep ≤ 41 → 2 * (s.length - p) < f →
 OutC s b st (st.set b (rdE s p n)) 96 [.ptr b 0, .int .i64 deep] (rdD s f deep p n)
set_option maxHeartbeats 4000000 in
theorem c_list_of (s : Str) (hs : s.length ≤ 6000) (F : Nat) (ih : IHD s F) (deep : Int) (p n : Nat) (st : St) (b : Nat) (hlt : b < st.length) (hp : p ≤ s.length) (hn : n ≤ 2000) (hd0 : 0 ≤ deep) (hd1 : deep ≤ 40) (hF : 2 * (s.length - p) + 1 < F) :
  OutC s b st (st.set b (rdE s p n)) 105 [.ptr b 0, .int .i64 deep] (rdL s F deep [] p n) := by
 refine OutC_of (by simp) ?_
 refine vfunQ TT_ok (an := anL []) (L := [0, 1, 4, 5]) (rs := [.cell 4 49]) Tryz.func105 rfl (by kernel_rfl) rfl Tryz.ntmps105 rfl rfl fun hst ha hf => ?_
 have h63 : s.length ≤ 9223372036854775807 := by omega
 have hok : ∀ p n, St.ok (st.set b (rdE s p n)) := fun p n => by have := rd_ok (s := s) (b := b) (p := p) (n := n) hst; rw [List.set_set] at this; exact this
 simp only [gw0, reduceEqDiff, ↓reduceIte, reduceAdd, reduceLT, reduceLeDiff, reduceMul, List.length_set, at_k, at_k0, set_k, set_k0]
 refine vforT (σ := Nat × List Datum × Nat × Nat) [49] [0, 1, 4, 5] (fun x => [(0, true, .ptr b 0), (1, true, .int .i64 deep), (4, true, .ptr st.length 0), (5, true, .ptr (st.length + 1) 0)]) (fun x => st.set b (rdE s x.2.2.1 x.2.2.2) ++ [.box zeroD, .box [.int .i64 4, .int .i64 0, .str [], .int .i64 0, .int .i64 0, .lst 6 (some (st.length + 2)) (x.2.1.map encD)], .tip 49 x.2.1.length]) (fun x => s.length - x.2.2.1) (fun x => x.2.1.length ≤ x.2.2.1 ∧ x.2.2.1 ≤ s.length ∧ x.2.2.2 ≤ 2000 ∧ 2 * (s.length - x.2.2.1) + 1 < x.1 ∧ x.1 ≤ F ∧ rdL s F deep [] p n = rdL s x.1 deep x.2.1 x.2.2.1 x.2.2.2) (F, [], p, n) rfl TT_ok ⟨Nat.zero_le _, hp, hn, hF, Nat.le_refl _, rfl⟩ ?_ ?_ ?_
 ·exact wkE_refl _
 ·refine ⟨st.set b (rdE s p n) ++ [.box zeroD, .box [.int .i64 4, .int .i64 0, .str [], .int .i64 0, .int .i64 0, .lst 6 (some (st.length + 2)) []]], ?_, by simp only [gwL, tips, List.map_cons, List.map_nil, List.length_nil]⟩
  refine (wkSt_refl _).append (wkSt_cons (Ent.wkp_refl _) (wkSt_cons (Ent.wk_box ?_) wkSt_nil))
  exact wkL_cons (wk_refl _) (wkL_cons (wk_refl _) (wkL_cons (wk_refl _) (wkL_cons (wk_refl _) (wkL_cons (wk_refl _) (wkL_cons (wk_tip _ (by simp [Tips])) wkL_nil)))))
 rintro ⟨f, acc, p, n⟩ ⟨hacc, hp, hn, hf2, hfF, hI⟩
 simp only at hacc hp hn hf2 hfF hI ⊢
 rw [hI]
 cases f with
 | zero => omega
 | succ f =>
 simp only [gw0, reduceEqDiff, ↓reduceIte, reduceAdd, reduceLT, reduceLeDiff, reduceMul]
 refine (x_blank s st _ b p n hlt hp hs).use (wkL_refl _) fun _ => ?_
 have hble := blk_le (s.drop p) false
 have hbd := blk_drop (s.drop p) false
 simp only [rdL]
 simp only [List.length_drop] at hble hbd
 rw [List.drop_drop] at hbd
 generalize hl : blk false (s.drop p) = l at hble hbd ⊢
 simp only [gw0, reduceEqDiff, ↓reduceIte, reduceAdd, reduceLT, reduceLeDiff, reduceMul]
 refine vdraw TT_ok TT_mixed [0, 0, 0, 1, 0, 0, 0, 1, 0, 0] (by kernel_rfl) ?_
 simp only [gw0, reduceEqDiff, ↓reduceIte, reduceAdd, reduceLT, reduceLeDiff, reduceMul, at_b hlt]
 cases l with
 | nil =>
  simp only [List.length_nil, Nat.sub_zero, decide_true]
  simp only [gw0, reduceEqDiff, ↓reduceIte, reduceAdd, reduceLT, reduceLeDiff, reduceMul, at_b hlt]
  refine (c_fail _ 2 s.length).useP (wkL_refl _) ?_
  simp only [gw0, reduceEqDiff, ↓reduceIte, reduceAdd, reduceLT, reduceLeDiff, reduceMul]
  exact givesP_of (wk_refl _) (wkSt_refl _) (by simp [faultV, V.lt, ltL]) (hok _ _)
 | cons c r =>
  simp only [List.length_cons] at hble hbd ⊢
  have hlen : s.length - (r.length + 1) < s.length := by omega
  have hne : decide (((s.length - (r.length + 1) : Nat) : Int) = (s.length : Int)) = false := decide_eq_false (by omega)
  have hdr : s.drop (s.length - (r.length + 1)) = c :: r := by rw [hbd]; congr 1; omega
  generalize hp1 : s.length - (r.length + 1) = p1 at hlen hne hdr ⊢
  have hget : s[p1]? = some c := by
   have := congrArg (fun l => l[0]?) hdr
   simpa using this
  rw [hne]
  simp only [gw0, reduceEqDiff, ↓reduceIte, reduceAdd, reduceLT, reduceLeDiff, reduceMul]
  refine vdraw TT_ok TT_mixed [0, 0, 0, 1, 0, 0, 0, 1, 0, 0] (by kernel_rfl) ?_
  have h41 : decide ((c.toNat : Int) = 41) = decide (c = 41) := byte_eq c 41
  simp only [gw0, reduceEqDiff, ↓reduceIte, reduceAdd, reduceLT, reduceLeDiff, reduceMul, at_b hlt, getD_at hget, Int.ofNat_lt.mpr hlen]
  rw [h41]
  refine iK_split (fun h => ?_) (fun h => ?_)
  ·rw [h]
   simp only [gw0, reduceEqDiff, ↓reduceIte, reduceAdd, reduceLT, reduceLeDiff, reduceMul, at_b hlt, next_i64 hlen h63, set_b hlt, at_k, at_k0, set_k, set_k0, List.length_set]
   refine ⟨by decide, ?_⟩
   simp only [cond_true, outR]
   have hp2 : s.length - r.length = p1 + 1 := by omega
   rw [hp2]
   refine gives_of (wk_agg ?_) (wkSt_refl _) (by simp only [V.lt]; exact encD_lt _ (.mk 4 0 [] 0 0 acc)) (hok _ _)
   rw [encD_mk]
   exact wkL_cons (wk_refl _) (wkL_cons (wk_refl _) (wkL_cons (wk_refl _) (wkL_cons (wk_refl _) (wkL_cons (wk_refl _) (wkL_cons (wk_tok _ _ _) wkL_nil)))))
  ·rw [h]
   simp only [cond_false]
   have hc := OutC.x (ex := [.box zeroD, .box [.int .i64 4, .int .i64 0, .str [], .int .i64 0, .int .i64 0, .lst 6 (some (st.length + 2)) (acc.map encD)], .tip 49 acc.length]) hlt (ih f (by omega) (deep + 1) p1 n (st ++ [.box zeroD, .box [.int .i64 4, .int .i64 0, .str [], .int .i64 0, .int .i64 0, .lst 6 (some (st.length + 2)) (acc.map encD)], .tip 49 acc.length]) b (by simp; omega) (by omega) hn (by omega) (by omega) (by omega))
   have hfar := (rd_far s f).1 (deep + 1) p1 n hn
   have hwr : IntKind.i64.wrap (deep + 1) = deep + 1 := wrap_i64 (by omega) (by omega)
   cases hrr : rdD s f (deep + 1) p1 n with
   | err e q p' n' =>
    rw [hrr] at hc
    simp only [OutX] at hc
    simp only [RR.bind]
    simp only [gw0, reduceEqDiff, ↓reduceIte, reduceAdd, reduceLT, reduceLeDiff, reduceMul]
    refine vpanic TT_ok TT_mixed [0, 1, 0, 0, 0, 0, 0, 2, 0, 2] [0, 1, 2, 3, 4] 5 [6, 7, 8, 9] [0, 1, 4, 5] rfl (by kernel_rfl) ?_
    simp only [gw0, reduceEqDiff, ↓reduceIte, reduceAdd, reduceLT, reduceLeDiff, reduceMul, gwD3, gwDT, pureR_none, ite_self, nilR, nilB, bitF, bitV, nilC, nilCmp, eqb, assertV, assertW, zeroV, wQ_normal, wQ_ret, wQ_panic, pickO, pickC, List.map_cons, List.map_nil, List.getD_cons_zero, List.getD_cons_succ, Env.keep, beq_self_eq_true, cond_true, cond_false, at_k, at_k0, hwr, List.length_set]
    refine pK_of hc (wkL_refl _) ?_
    exact givesP_of (wk_refl _) (wkSt_refl _) (by simp [faultV, V.lt, ltL]) (hok _ _)
   | ok x p' n' =>
    rw [hrr] at hc hfar
    simp only [OutX] at hc
    simp only [RR.far] at hfar
    simp only [RR.bind]
    simp only [gw0, reduceEqDiff, ↓reduceIte, reduceAdd, reduceLT, reduceLeDiff, reduceMul]
    refine vstage TT_ok TT_mixed (σ := Unit) [st.set b (rdE s p1 n) ++ [.box zeroD, .box [.int .i64 4, .int .i64 0, .str [], .int .i64 0, .int .i64 0, .lst 6 (some (st.length + 2)) (acc.map encD)], .tip 49 acc.length], st.set b (rdE s p' n') ++ [.box zeroD, .box [.int .i64 4, .int .i64 0, .str [], .int .i64 0, .int .i64 0, .lst 6 (some (st.length + 2)) (acc.map encD)], .tip 49 acc.length]] [0, 3, 0, 0, 0, 4, 0, 2, 0, 2] [0,1,2,3,4,5,6,7,8,9] [] [] 1000 1001 [0, 1, 4, 5] (fun _x => [(0, true, .ptr b 0), (1, true, .int .i64 deep), (4, true, .ptr st.length 0), (5, true, .ptr (st.length + 1) 0)]) (fun _x => st.set b (rdE s p' n') ++ [.box zeroD, .box [.int .i64 4, .int .i64 0, .str [], .int .i64 0, .int .i64 0, .lst 6 (some (st.length + 2)) (acc.map encD ++ [encD x])], .tip 49 (acc.length + 1)]) (fun _x => True) rfl (by kernel_rfl) ?_ ?_
    ·simp only [gw0, reduceEqDiff, ↓reduceIte, reduceAdd, reduceLT, reduceLeDiff, reduceMul, gwD3, gwDT, pureR_none, ite_self, nilR, nilB, bitF, bitV, nilC, nilCmp, eqb, assertV, assertW, zeroV, wQ_normal, wQ_ret, wQ_panic, pickO, pickC, List.map_cons, List.map_nil, List.getD_cons_zero, List.getD_cons_succ, Env.keep, beq_self_eq_true, cond_true, cond_false, at_k, at_k0, hwr, List.length_set]
     refine eK3_loud hc (wkL_refl _) (by simp) (by simp) ?_
     simp only [gw0, reduceEqDiff, ↓reduceIte, reduceAdd, reduceLT, reduceLeDiff, reduceMul, gwD3, gwDT, pureR_none, ite_self, nilR, nilB, bitF, bitV, nilC, nilCmp, eqb, assertV, assertW, zeroV, wQ_normal, wQ_ret, wQ_panic, pickO, pickC, List.map_cons, List.map_nil, List.getD_cons_zero, List.getD_cons_succ, Env.keep, beq_self_eq_true, cond_true, cond_false, at_k, at_k0, set_k, set_k0, encD_take, encD_len, encD_drop, Nat.le_refl, List.length_map, List.length_set]
     refine ⟨by omega, stage2_of ?_ ?_⟩
     ·simp only [gw0, reduceEqDiff, ↓reduceIte, reduceAdd, reduceLT, reduceLeDiff, reduceMul, gwD3, gwDT, pureR_none, ite_self, nilR, nilB, bitF, bitV, nilC, nilCmp, eqb, assertV, assertW, zeroV, wQ_normal, wQ_ret, wQ_panic, pickO, pickC, List.map_cons, List.map_nil, List.getD_cons_zero, List.getD_cons_succ, Env.keep, beq_self_eq_true, cond_true, cond_false]
      exact ⟨rfl, rfl, (), rfl, rfl, trivial⟩
     ·simp only [gw0, reduceEqDiff, ↓reduceIte, reduceAdd, reduceLT, reduceLeDiff, reduceMul, gwD3, gwDT, pureR_none, ite_self, nilR, nilB, bitF, bitV, nilC, nilCmp, eqb, assertV, assertW, zeroV, wQ_normal, wQ_ret, wQ_panic, pickO, pickC, List.map_cons, List.map_nil, List.getD_cons_zero, List.getD_cons_succ, Env.keep, beq_self_eq_true, cond_true, cond_false]
      exact ⟨rfl, rfl, (), rfl, rfl, trivial⟩
    ·rintro - -
     simp only [gw0, reduceEqDiff, ↓reduceIte, reduceAdd, reduceLT, reduceLeDiff, reduceMul, Env.keep]
     have hsz : (List.set st b (rdE s p n)).length = st.length := by simp
     refine ⟨(f, acc ++ [x], p', n'), ⟨wkE_refl _, st.set b (rdE s p' n') ++ [.box zeroD, .box [.int .i64 4, .int .i64 0, .str [], .int .i64 0, .int .i64 0, .lst 6 (some (st.length + 2)) ((acc ++ [x]).map encD)], .tip 49 (acc ++ [x]).length], [], ?_, wkSt_refl _, ?_, ?_, ?_⟩, ?_, ?_, ?_, ?_, ?_, ?_, rfl⟩
     ·simp
     ·simp only [ltE, V.lt, gwL, List.length_set]
      exact ⟨by omega, by trivial, by omega, by omega, trivial⟩
     ·refine ok_app (hok p' n') ⟨by simp [Ent.lt, ltL, V.lt, zeroD], ⟨?_, trivial, trivial⟩⟩
      simp only [Ent.lt, ltL, V.lt, true_and, and_true]
      exact ⟨fun e he => by cases he; simp, ltRows_map fun d _ => encD_lt _ _⟩
     ·simp
     ·dsimp only; omega
     ·simp; omega
     ·exact hfar.2.1
     ·exact hfar.2.2
     ·dsimp only; omega
     ·dsimp only; omega
theorem wkR_cons {p : Nat → Prop} {x y : List V} {xs ys : List (List V)} (h : wkLp p x y) (k : wkRp p xs ys) : wkRp p (x :: xs) (y :: ys) := by simp only [wkRp]; exact ⟨y, ys, rfl, h, k⟩
theorem wkR_nil {p : Nat → Prop} : wkRp p [] [] := by simp [wkRp]
theorem word_slice {s : Str} {p : Nat} {c : UInt8} {r : Str} (h : s.drop p = c :: r) : (s.take (p + 1 + (r.takeWhile letterB).length)).drop p = c :: r.takeWhile letterB := by
 rw [List.drop_take, h, show p + 1 + (r.takeWhile letterB).length - p = (r.takeWhile letterB).length + 1 by omega, List.take_succ_cons]
 congr 1
 exact (List.prefix_iff_eq_take.1 (List.takeWhile_prefix letterB)).symm
set_option maxHeartbeats 4000000 in
theorem c_datum_of (s : Str) (hs : s.length ≤ 6000) (f : Nat) (ih : IHD s (f + 1)) (deep : Int) (p n : Nat) (st : St) (b : Nat) (hlt : b < st.length) (hp : p ≤ s.length) (hn : n ≤ 2000) (hd0 : 0 ≤ deep) (hd1 : deep ≤ 41) (hF : 2 * (s.length - p) < f + 1) :
  OutC s b st (st.set b (rdE s p n)) 96 [.ptr b 0, .int .i64 deep] (rdD s (f + 1) deep p n) := by
 refine OutC_of (by simp) ?_
 refine vfunQ TT_ok (an := anL []) (L := [0, 1, 4, 5, 6, 7, 8]) (rs := [.cell 4 49]) Tryz.func96 rfl (by kernel_rfl) rfl Tryz.ntmps96 rfl rfl fun hst ha hf => ?_
 have h63 : s.length ≤ 9223372036854775807 := by omega
 have hok : ∀ p n, St.ok (st.set b (rdE s p n)) := fun p n => by have := rd_ok (s := s) (b := b) (p := p) (n := n) hst; rw [List.set_set] at this; exact this
 have hfin : ∀ e q p' n' ex, outR s b st (.err e q p' n') (.panic (faultV e q)) (st.set b (rdE s p' n') ++ ex) := fun e q p' n' ex => givesP_of (wk_refl _) (wkSt_refl _) (by simp [faultV, V.lt, ltL]) (hok _ _)
 have hret : ∀ (d : Datum) v p' n' ex, wk v (.agg (encD d)) → outR s b st (.ok d p' n') (.ret v) (st.set b (rdE s p' n') ++ ex) := fun d v p' n' ex hw => gives_of hw (wkSt_refl _) (by simp only [V.lt]; exact encD_lt _ d) (hok _ _)
 simp only [gw0, reduceEqDiff, ↓reduceIte, reduceAdd, reduceLT, reduceLeDiff, reduceMul, List.length_set, at_k, at_k0, set_k, set_k0, at_b hlt, at_b0 hlt, set_b hlt]
 simp only [rdD]
 cases h0 : (decide (2000 < n + 1) || decide (40 < deep)) with
 | true =>
  refine (x_node_err s st _ b p n deep p hlt hn (by simpa using h0)).useP (wkL_refl _) ?_
  simp only [gw0, reduceEqDiff, ↓reduceIte, reduceAdd, reduceLT, reduceLeDiff, reduceMul]
  exact hfin _ _ _ _ _
 | false =>
 have hn1 : n + 1 ≤ 2000 := by simp at h0; omega
 have hdeep : deep ≤ 40 := by simp at h0; omega
 refine (x_node_ok s st _ b p n deep p hlt (by simp at h0; omega)).use (wkL_refl _) fun _ => ?_
 simp only [gw0, reduceEqDiff, ↓reduceIte, reduceAdd, reduceLT, reduceLeDiff, reduceMul, List.length_set, at_k, at_k0, set_k, set_k0, at_b hlt, at_b0 hlt, set_b hlt]
 try simp only [cond_false]
 rcases at_or_end s p hp with ⟨rfl, hdr⟩ | ⟨c, hltp, hget, hdr⟩
 ·rw [hdr]
  simp only [gw0, reduceEqDiff, ↓reduceIte, reduceAdd, reduceLT, reduceLeDiff, reduceMul, decide_true]
  refine (c_fail _ 2 s.length).useP (wkL_refl _) ?_
  simp only [gw0, reduceEqDiff, ↓reduceIte, reduceAdd, reduceLT, reduceLeDiff, reduceMul]
  exact hfin _ _ _ _ _
 have hne : decide ((p : Int) = (s.length : Int)) = false := decide_eq_false (by omega)
 rw [hne, hdr]
 have hlen : p + (s.drop (p + 1)).length + 1 = s.length := by simp; omega
 have h40 : decide ((c.toNat : Int) = 40) = decide (c = 40) := byte_eq c 40
 simp only [gw0, reduceEqDiff, ↓reduceIte, reduceAdd, reduceLT, reduceLeDiff, reduceMul, List.length_set, at_k, at_k0, set_k, set_k0, at_b hlt, at_b0 hlt, set_b hlt, getD_at hget, Int.ofNat_lt.mpr hltp, next_i64 hltp h63, h40]
 have hE : ∀ x n, Ent.box [V.str s, V.int .i64 (x : Nat), V.int .i64 (n : Nat)] = rdE s x n := fun _ _ => rfl
 simp only [hE]
 have ihf : IHD s f := fun f' h => ih f' (by omega)
 refine iK_split (fun h => ?_) (fun h => ?_)
 ·rw [h]
  have hc := OutC.x (ex := [.box zeroD]) hlt (c_list_of s hs f ihf deep (p + 1) (n + 1) (st ++ [.box zeroD]) b (by simp; omega) (by omega) hn1 hd0 hdeep (by omega))
  try simp only [cond_true]
  simp only [gw0, reduceEqDiff, ↓reduceIte, reduceAdd, reduceLT, reduceLeDiff, reduceMul]
  cases hrr : rdL s f deep [] (p + 1) (n + 1) with
  | err e q p' n' =>
   rw [hrr] at hc
   refine hc.useP (wkL_refl _) ?_
   simp only [gw0, reduceEqDiff, ↓reduceIte, reduceAdd, reduceLT, reduceLeDiff, reduceMul]
   exact hfin _ _ _ _ _
  | ok x p' n' =>
   rw [hrr] at hc
   refine hc.use (wkL_refl _) fun _ => ?_
   simp only [gw0, reduceEqDiff, ↓reduceIte, reduceAdd, reduceLT, reduceLeDiff, reduceMul, List.length_set, at_k, at_k0, set_k, set_k0, zeroD, encD_take, encD_len, encD_drop, Nat.le_refl]
   exact hret _ _ _ _ _ (wk_refl _)
 have h39 : decide ((c.toNat : Int) = 39) = decide (c = 39) := byte_eq c 39
 rw [h]
 simp only [gw0, reduceEqDiff, ↓reduceIte, reduceAdd, reduceLT, reduceLeDiff, reduceMul, h39]
 try simp only [cond_false]
 clear h
 refine iK_split (fun h => ?_) (fun h => ?_)
 ·rw [h]
  try simp only [cond_true]
  have hwr : IntKind.i64.wrap (deep + 1) = deep + 1 := wrap_i64 (by omega) (by omega)
  simp only [gw0, reduceEqDiff, ↓reduceIte, reduceAdd, reduceLT, reduceLeDiff, reduceMul, hwr]
  cases h1 : (decide (2000 < n + 2) || decide (40 < deep + 1)) with
  | true =>
   refine (x_node_err s st _ b (p + 1) (n + 1) (deep + 1) p hlt hn1 (by simpa using h1)).useP (wkL_refl _) ?_
   simp only [gw0, reduceEqDiff, ↓reduceIte, reduceAdd, reduceLT, reduceLeDiff, reduceMul]
   try simp only [cond_true]
   exact hfin _ _ _ _ _
  | false =>
   have hn2 : n + 2 ≤ 2000 := by simp at h1; omega
   refine (x_node_ok s st _ b (p + 1) (n + 1) (deep + 1) p hlt (by simp at h1; omega)).use (wkL_refl _) fun _ => ?_
   simp only [gw0, reduceEqDiff, ↓reduceIte, reduceAdd, reduceLT, reduceLeDiff, reduceMul]
   refine (x_blank s st _ b (p + 1) (n + 2) hlt (by omega) hs).use (wkL_refl _) fun _ => ?_
   have hbl := blk_le (s.drop (p + 1)) false
   simp only [List.length_drop] at hbl
   generalize hq : s.length - (blk false (s.drop (p + 1))).length = p2
   have hc := OutC.x (ex := [.box zeroD]) hlt (ih f (by omega) (deep + 1) p2 (n + 2) (st ++ [.box zeroD]) b (by simp; omega) (by omega) hn2 (by omega) (by omega) (by omega))
   try simp only [cond_false]
   simp only [gw0, reduceEqDiff, ↓reduceIte, reduceAdd, reduceLT, reduceLeDiff, reduceMul, hwr]
   cases hrr : rdD s f (deep + 1) p2 (n + 2) with
   | err e q p' n' =>
    rw [hrr] at hc
    refine hc.useP (wkL_refl _) ?_
    simp only [gw0, reduceEqDiff, ↓reduceIte, reduceAdd, reduceLT, reduceLeDiff, reduceMul]
    exact hfin _ _ _ _ _
   | ok x p' n' =>
    rw [hrr] at hc
    refine hc.use (wkL_refl _) fun _ => ?_
    simp only [gw0, reduceEqDiff, ↓reduceIte, reduceAdd, reduceLT, reduceLeDiff, reduceMul, List.length_set, at_k, at_k0, set_k, set_k0, zeroD, encD_take, encD_len, encD_drop, Nat.le_refl]
    refine hret (quoteD x) _ _ _ _ (wk_agg ?_)
    simp only [quoteD, encD_mk, List.map_cons, List.map_nil]
    exact wkL_cons (wk_refl _) (wkL_cons (wk_refl _) (wkL_cons (wk_refl _) (wkL_cons (wk_refl _) (wkL_cons (wk_refl _) (wkL_cons (wk_lst (wkR_cons (wk6 ..) (wkR_cons (wkL_refl _) wkR_nil))) wkL_nil)))))
 rw [h]
 have h35 : decide ((c.toNat : Int) = 35) = decide (c = 35) := byte_eq c 35
 simp only [gw0, reduceEqDiff, ↓reduceIte, reduceAdd, reduceLT, reduceLeDiff, reduceMul, h35]
 try simp only [cond_false]
 clear h
 refine iK_split (fun h => ?_) (fun h => ?_)
 ·rw [h]
  try simp only [cond_true]
  simp only [gw0, reduceEqDiff, ↓reduceIte, reduceAdd, reduceLT, reduceLeDiff, reduceMul]
  refine vdraw TT_ok TT_mixed [0, 0, 0, 1, 0, 0, 0, 1, 0, 0, 0, 0, 0, 0, 1, 0, 0, 0, 1, 0, 0, 0, 0, 0, 0, 1, 0, 0, 0, 1, 0, 0, 0, 0] (by kernel_rfl) ?_
  rcases at_or_end s (p + 1) (by omega) with ⟨hpe, hdr2⟩ | ⟨t, hltt, hgett, hdr2⟩
  ·have hlt1 : decide (((p + 1 : Nat) : Int) < (s.length : Int)) = false := decide_eq_false (by omega)
   simp only [gw0, reduceEqDiff, ↓reduceIte, reduceAdd, reduceLT, reduceLeDiff, reduceMul, at_b hlt, hlt1]
   rw [hdr2]
   refine (c_fail _ 2 p).useP (wkL_refl _) ?_
   simp only [gw0, reduceEqDiff, ↓reduceIte, reduceAdd, reduceLT, reduceLeDiff, reduceMul]
   exact hfin _ _ _ _ _
  ·have e1 : decide ((t.toNat : Int) = 116) = decide (t = 116) := byte_eq t 116
   have e2 : decide ((t.toNat : Int) = 102) = decide (t = 102) := byte_eq t 102
   simp only [gw0, reduceEqDiff, ↓reduceIte, reduceAdd, reduceLT, reduceLeDiff, reduceMul, at_b hlt, lt_yes hltt, getD_at hgett, Int.ofNat_lt.mpr hltt, e1, e2]
   rw [hdr2]
   simp only [rdB]
   refine iK_split (fun h2 => ?_) (fun h2 => ?_)
   ·rw [h2]
    try simp only [cond_true]
    simp only [gw0, reduceEqDiff, ↓reduceIte, reduceAdd, reduceLT, reduceLeDiff, reduceMul]
    refine vdraw TT_ok TT_mixed [0, 0, 0, 1, 0, 0, 0, 1, 0, 0] (by kernel_rfl) ?_
    simp only [gw0, reduceEqDiff, ↓reduceIte, reduceAdd, reduceLT, reduceLeDiff, reduceMul, at_b hlt, getD_at hgett, Int.ofNat_lt.mpr hltt, e1]
    have hend : ∀ k : Int, k = (bif decide (t = 116) then 1 else 0) → True := fun _ _ => trivial
    refine iK_split (fun h3 => ?_) (fun h3 => ?_)
    ·rw [h3]
     simp only [gw0, reduceEqDiff, ↓reduceIte, reduceAdd, reduceLT, reduceLeDiff, reduceMul, at_b hlt, set_b hlt, next_i64 hltt h63]
     simp only [hE]
     refine vdraw TT_ok TT_mixed [0, 0, 0, 1, 0, 0, 0, 1, 0, 0, 0, 0, 0, 0, 1, 0, 0, 0, 1, 0, 0, 0, 0] (by kernel_rfl) ?_
     rcases at_or_end s (p + 2) (by omega) with ⟨hpe, hdr3⟩ | ⟨u, hltu, hgetu, hdr3⟩
     ·have heq : decide (((p + 2 : Nat) : Int) = (s.length : Int)) = true := decide_eq_true (by omega)
      simp only [gw0, reduceEqDiff, ↓reduceIte, reduceAdd, reduceLT, reduceLeDiff, reduceMul, at_b hlt, heq]
      rw [hdr3]
      refine eK_free (fun st => c_letter st (s.getD (p + 2) 0)) (wkL_refl _) ?_
      simp only [gw0, reduceEqDiff, ↓reduceIte, reduceAdd, reduceLT, reduceLeDiff, reduceMul, at_k, at_k0, set_k, set_k0, List.length_set]
      exact hret (.mk 2 _ [] 0 0 []) _ _ _ _ (wk_agg (by rw [encD_mk]; exact wk6 ..))
     ·have heq : decide (((p + 2 : Nat) : Int) = (s.length : Int)) = false := decide_eq_false (by omega)
      simp only [gw0, reduceEqDiff, ↓reduceIte, reduceAdd, reduceLT, reduceLeDiff, reduceMul, at_b hlt, heq, getD_at hgetu, Int.ofNat_lt.mpr hltu]
      rw [hdr3]
      refine eK_free (fun st => c_letter st u) (wkL_refl _) ?_
      simp only [gw0, reduceEqDiff, ↓reduceIte, reduceAdd, reduceLT, reduceLeDiff, reduceMul, at_k, at_k0, set_k, set_k0, List.length_set]
      refine iK_split (fun h4 => ?_) (fun h4 => ?_)
      ·have h4' : letterB u = false := by simpa using h4
       rw [h4']
       simp only [gw0, reduceEqDiff, ↓reduceIte, reduceAdd, reduceLT, reduceLeDiff, reduceMul, at_k, at_k0, set_k, set_k0, List.length_set]
       exact hret (.mk 2 _ [] 0 0 []) _ _ _ _ (wk_agg (by rw [encD_mk]; exact wk6 ..))
      ·have h4' : letterB u = true := by simpa using h4
       rw [h4']
       simp only [gw0, reduceEqDiff, ↓reduceIte, reduceAdd, reduceLT, reduceLeDiff, reduceMul]
       refine (c_fail _ 2 p).useP (wkL_refl _) ?_
       simp only [gw0, reduceEqDiff, ↓reduceIte, reduceAdd, reduceLT, reduceLeDiff, reduceMul]
       exact hfin _ _ _ _ _
    ·rw [h3]
     simp only [gw0, reduceEqDiff, ↓reduceIte, reduceAdd, reduceLT, reduceLeDiff, reduceMul, at_b hlt, set_b hlt, next_i64 hltt h63]
     simp only [hE]
     refine vdraw TT_ok TT_mixed [0, 0, 0, 1, 0, 0, 0, 1, 0, 0, 0, 0, 0, 0, 1, 0, 0, 0, 1, 0, 0, 0, 0] (by kernel_rfl) ?_
     rcases at_or_end s (p + 2) (by omega) with ⟨hpe, hdr3⟩ | ⟨u, hltu, hgetu, hdr3⟩
     ·have heq : decide (((p + 2 : Nat) : Int) = (s.length : Int)) = true := decide_eq_true (by omega)
      simp only [gw0, reduceEqDiff, ↓reduceIte, reduceAdd, reduceLT, reduceLeDiff, reduceMul, at_b hlt, heq]
      rw [hdr3]
      refine eK_free (fun st => c_letter st (s.getD (p + 2) 0)) (wkL_refl _) ?_
      simp only [gw0, reduceEqDiff, ↓reduceIte, reduceAdd, reduceLT, reduceLeDiff, reduceMul, at_k, at_k0, set_k, set_k0, List.length_set]
      exact hret (.mk 2 _ [] 0 0 []) _ _ _ _ (wk_agg (by rw [encD_mk]; exact wk6 ..))
     ·have heq : decide (((p + 2 : Nat) : Int) = (s.length : Int)) = false := decide_eq_false (by omega)
      simp only [gw0, reduceEqDiff, ↓reduceIte, reduceAdd, reduceLT, reduceLeDiff, reduceMul, at_b hlt, heq, getD_at hgetu, Int.ofNat_lt.mpr hltu]
      rw [hdr3]
      refine eK_free (fun st => c_letter st u) (wkL_refl _) ?_
      simp only [gw0, reduceEqDiff, ↓reduceIte, reduceAdd, reduceLT, reduceLeDiff, reduceMul, at_k, at_k0, set_k, set_k0, List.length_set]
      refine iK_split (fun h4 => ?_) (fun h4 => ?_)
      ·have h4' : letterB u = false := by simpa using h4
       rw [h4']
       simp only [gw0, reduceEqDiff, ↓reduceIte, reduceAdd, reduceLT, reduceLeDiff, reduceMul, at_k, at_k0, set_k, set_k0, List.length_set]
       exact hret (.mk 2 _ [] 0 0 []) _ _ _ _ (wk_agg (by rw [encD_mk]; exact wk6 ..))
      ·have h4' : letterB u = true := by simpa using h4
       rw [h4']
       simp only [gw0, reduceEqDiff, ↓reduceIte, reduceAdd, reduceLT, reduceLeDiff, reduceMul]
       refine (c_fail _ 2 p).useP (wkL_refl _) ?_
       simp only [gw0, reduceEqDiff, ↓reduceIte, reduceAdd, reduceLT, reduceLeDiff, reduceMul]
       exact hfin _ _ _ _ _
   ·rw [h2]
    simp only [gw0, reduceEqDiff, ↓reduceIte, reduceAdd, reduceLT, reduceLeDiff, reduceMul]
    refine (c_fail _ 2 p).useP (wkL_refl _) ?_
    simp only [gw0, reduceEqDiff, ↓reduceIte, reduceAdd, reduceLT, reduceLeDiff, reduceMul]
    exact hfin _ _ _ _ _
 rw [h]
 simp only [gw0, reduceEqDiff, ↓reduceIte, reduceAdd, reduceLT, reduceLeDiff, reduceMul]
 try simp only [cond_false]
 clear h
 refine (c_letter _ c).use (wkL_refl _) fun _ => ?_
 simp only [gw0, reduceEqDiff, ↓reduceIte, reduceAdd, reduceLT, reduceLeDiff, reduceMul]
 refine iK_split (fun h => ?_) (fun h => ?_)
 ·rw [h]
  try simp only [cond_true]
  simp only [gw0, reduceEqDiff, ↓reduceIte, reduceAdd, reduceLT, reduceLeDiff, reduceMul]
  have hbox : [Ent.box [V.int .i64 0, V.int .i64 0, V.str [], V.int .i64 0, V.int .i64 0, V.nils]] = [Ent.box zeroD] := rfl
  have hrl : (s.drop (p + 1)).length = s.length - (p + 1) := by simp
  refine vfor (σ := Nat) [0, 1, 4, 5] (fun y => [(0, true, .ptr b 0), (1, true, .int .i64 deep), (4, true, .ptr st.length 0), (5, true, .int .i64 p)]) (fun y => st.set b (rdE s y (n + 1)) ++ [.box zeroD]) (fun y => s.length - y) (fun y => p + 1 ≤ y ∧ y ≤ s.length ∧ y + ((s.drop y).takeWhile letterB).length = p + 1 + ((s.drop (p + 1)).takeWhile letterB).length) (p + 1) rfl TT_ok ⟨Nat.le_refl _, by omega, rfl⟩ rfl rfl ?_
  rintro y ⟨hy1, hy2, hy3⟩
  simp only [gw0, reduceEqDiff, ↓reduceIte, reduceAdd, reduceLT, reduceLeDiff, reduceMul]
  refine vdraw TT_ok TT_mixed [0, 0, 0, 1, 0, 0, 0, 1, 0, 0, 0, 0, 0, 0, 1, 0, 0, 0, 1, 0, 0, 0] (by kernel_rfl) ?_
  have hafter : ∀ y, y = p + 1 + ((s.drop (p + 1)).takeWhile letterB).length → y ≤ s.length → True := fun _ _ _ => trivial
  rcases at_or_end s y hy2 with ⟨hye, hdry⟩ | ⟨u, hlty, hgety, hdry⟩
  ·have hlt1 : decide ((y : Int) < (s.length : Int)) = false := decide_eq_false (by omega)
   simp only [gw0, reduceEqDiff, ↓reduceIte, reduceAdd, reduceLT, reduceLeDiff, reduceMul, at_b hlt, hlt1]
   refine eK_free (fun st => c_letter st (s.getD y 0)) (wkL_refl _) ?_
   simp only [gw0, reduceEqDiff, ↓reduceIte, reduceAdd, reduceLT, reduceLeDiff, reduceMul]
   have hyE : y = p + 1 + ((s.drop (p + 1)).takeWhile letterB).length := by rw [hdry] at hy3; simpa using hy3
   have hsl := word_slice hdr
   rw [← hyE] at hsl
   have hwl : (c :: (s.drop (p + 1)).takeWhile letterB).length ≤ 6000 := by have := takeWhile_le (l := s.drop (p + 1)); simp only [List.length_cons]; omega
   have hle1 : decide ((p : Int) ≤ (y : Int)) = true := decide_eq_true (by omega)
   simp only [rdA]
   rw [← hyE]
   cases har : atomR (c :: (s.drop (p + 1)).takeWhile letterB) with
   | inl e =>
    refine vpanic TT_ok TT_mixed [0, 0, 0, 1, 0, 0, 0, 0, 1, 0, 0, 0, 2] [0, 1, 2, 3, 4, 5, 6, 7, 8, 9, 10] 11 [12] [0, 1, 4, 5, 6, 7, 8] rfl (by kernel_rfl) ?_
    simp only [gw0, reduceEqDiff, ↓reduceIte, reduceAdd, reduceLT, reduceLeDiff, reduceMul, gwD3, gwDT, pureR_none, ite_self, nilR, nilB, bitF, bitV, nilC, nilCmp, eqb, assertV, assertW, zeroV, wQ_normal, wQ_ret, wQ_panic, pickO, pickC, List.map_cons, List.map_nil, List.getD_cons_zero, List.getD_cons_succ, Env.keep, beq_self_eq_true, cond_true, cond_false, at_b hlt, Int.toNat_natCast, hsl]
    refine ⟨by omega, ?_⟩
    refine pK_of (c_atom_err _ _ p e hwl har) (wkL_refl _) ?_
    exact hfin _ _ _ _ _
   | inr d =>
    refine vdraw TT_ok TT_mixed [0, 0, 0, 1, 0, 0, 0, 0, 1, 0, 0, 0, 2] (by kernel_rfl) ?_
    simp only [gw0, reduceEqDiff, ↓reduceIte, reduceAdd, reduceLT, reduceLeDiff, reduceMul, at_b hlt, Int.toNat_natCast, hsl]
    refine ⟨by omega, ?_⟩
    refine eK_free (fun st => c_atom_ok _ st p d hwl har) (wkL_refl _) ?_
    simp only [gw0, reduceEqDiff, ↓reduceIte, reduceAdd, reduceLT, reduceLeDiff, reduceMul, at_k, at_k0, set_k, set_k0, List.length_set, zeroD, encD_take, encD_len, encD_drop, Nat.le_refl]
    exact hret _ _ _ _ _ (wk_refl _)
  ·simp only [gw0, reduceEqDiff, ↓reduceIte, reduceAdd, reduceLT, reduceLeDiff, reduceMul, at_b hlt, lt_yes hlty, getD_at hgety, Int.ofNat_lt.mpr hlty]
   refine eK_free (fun st => c_letter st u) (wkL_refl _) ?_
   simp only [gw0, reduceEqDiff, ↓reduceIte, reduceAdd, reduceLT, reduceLeDiff, reduceMul]
   refine iK_split (fun h4 => ?_) (fun h4 => ?_)
   ·simp only [gw0, reduceEqDiff, ↓reduceIte, reduceAdd, reduceLT, reduceLeDiff, reduceMul, at_b hlt, set_b hlt, next_i64 hlty h63]
    simp only [gw0, reduceEqDiff, ↓reduceIte, reduceAdd, reduceLT, reduceLeDiff, reduceMul, Env.keep]
    rw [hdry, List.takeWhile_cons_of_pos h4, List.length_cons] at hy3
    exact ⟨y + 1, rfl, by omega, by omega, by omega, by omega⟩
   ·simp only [gw0, reduceEqDiff, ↓reduceIte, reduceAdd, reduceLT, reduceLeDiff, reduceMul]
    have hyE : y = p + 1 + ((s.drop (p + 1)).takeWhile letterB).length := by rw [hdry, List.takeWhile_cons_of_neg (by simp [h4]), List.length_nil] at hy3; simpa using hy3
    have hsl := word_slice hdr
    rw [← hyE] at hsl
    have hwl : (c :: (s.drop (p + 1)).takeWhile letterB).length ≤ 6000 := by have := takeWhile_le (l := s.drop (p + 1)); simp only [List.length_cons]; omega
    have hle1 : decide ((p : Int) ≤ (y : Int)) = true := decide_eq_true (by omega)
    simp only [rdA]
    rw [← hyE]
    cases har : atomR (c :: (s.drop (p + 1)).takeWhile letterB) with
    | inl e =>
     refine vpanic TT_ok TT_mixed [0, 0, 0, 1, 0, 0, 0, 0, 1, 0, 0, 0, 2] [0, 1, 2, 3, 4, 5, 6, 7, 8, 9, 10] 11 [12] [0, 1, 4, 5, 6, 7, 8] rfl (by kernel_rfl) ?_
     simp only [gw0, reduceEqDiff, ↓reduceIte, reduceAdd, reduceLT, reduceLeDiff, reduceMul, gwD3, gwDT, pureR_none, ite_self, nilR, nilB, bitF, bitV, nilC, nilCmp, eqb, assertV, assertW, zeroV, wQ_normal, wQ_ret, wQ_panic, pickO, pickC, List.map_cons, List.map_nil, List.getD_cons_zero, List.getD_cons_succ, Env.keep, beq_self_eq_true, cond_true, cond_false, at_b hlt, Int.toNat_natCast, hsl]
     refine ⟨by omega, ?_⟩
     refine pK_of (c_atom_err _ _ p e hwl har) (wkL_refl _) ?_
     exact hfin _ _ _ _ _
    | inr d =>
     refine vdraw TT_ok TT_mixed [0, 0, 0, 1, 0, 0, 0, 0, 1, 0, 0, 0, 2] (by kernel_rfl) ?_
     simp only [gw0, reduceEqDiff, ↓reduceIte, reduceAdd, reduceLT, reduceLeDiff, reduceMul, at_b hlt, Int.toNat_natCast, hsl]
     refine ⟨by omega, ?_⟩
     refine eK_free (fun st => c_atom_ok _ st p d hwl har) (wkL_refl _) ?_
     simp only [gw0, reduceEqDiff, ↓reduceIte, reduceAdd, reduceLT, reduceLeDiff, reduceMul, at_k, at_k0, set_k, set_k0, List.length_set, zeroD, encD_take, encD_len, encD_drop, Nat.le_refl]
     exact hret _ _ _ _ _ (wk_refl _)
 ·rw [h]
  simp only [gw0, reduceEqDiff, ↓reduceIte, reduceAdd, reduceLT, reduceLeDiff, reduceMul]
  refine (c_fail _ 2 p).useP (wkL_refl _) ?_
  simp only [gw0, reduceEqDiff, ↓reduceIte, reduceAdd, reduceLT, reduceLeDiff, reduceMul]
  exact hfin _ _ _ _ _
theorem c_datum (s : Str) (hs : s.length ≤ 6000) : ∀ F, IHD s F
 | 0 => fun f h => by omega
 | F + 1 => fun f h deep p n st b h1 h2 h3 h4 h5 h6 => by
  rcases Nat.lt_or_ge f F with hl | hl
  ·exact c_datum s hs F f hl deep p n st b h1 h2 h3 h4 h5 h6
  ·have : f = F := by omega
   subst this
   cases f with
   | zero => omega
   | succ f => exact c_datum_of s hs f (c_datum s hs (f + 1)) deep p n st b h1 h2 h3 h4 h5 h6
/-- What is deferred, where nothing was thrown. -/
theorem d_idle (st : St) (a c : Nat) : VDefers Tryz.prog TT 94 [.ptr a 0, .ptr c 0] none st st := by
 refine vdefers TT_ok (an := anL []) (L := [0, 1, 3, 4, 5, 10]) Tryz.func94 rfl (by kernel_rfl) rfl Tryz.ntmps94 rfl rfl (by decide) (Nat.le_refl _) fun hst ha hf => ?_
 simp only [gw0, reduceEqDiff, ↓reduceIte, reduceAdd, reduceLT, reduceLeDiff, reduceMul, gwD3, gwDT, pureR_none, ite_self, nilR, nilB, bitF, bitV, nilC, nilCmp, eqb, assertV, assertW, zeroV, wQ_normal, wQ_ret, wQ_panic, pickO, pickC, List.map_cons, List.map_nil, List.getD_cons_zero, List.getD_cons_succ, Env.keep, beq_self_eq_true, cond_true, cond_false, Option.getD_none]
 exact ⟨[], st, by simp, wkSt_refl _, hst⟩
/-- .. where a fault was. -/
theorem d_caught (st : St) (a c : Nat) (e q : Int) (o : V) (x y : Int) (hao : st[a]? = some (.box [o])) (hc : st[c]? = some (.box [.int .i64 x, .int .i64 y])) (hne : a ≠ c) (hst2 : St.ok ((st.set a (.box [.nils])).set c (.box [.int .i64 e, .int .i64 q]))) :
  VDefers Tryz.prog TT 94 [.ptr a 0, .ptr c 0] (some (faultV e q)) st ((st.set a (.box [.nils])).set c (.box [.int .i64 e, .int .i64 q])) := by
 have hal := (List.getElem?_eq_some_iff.1 hao).1
 have hcl := (List.getElem?_eq_some_iff.1 hc).1
 refine vdefers TT_ok (an := anL []) (L := [0, 1, 3, 4, 5, 10]) Tryz.func94 rfl (by kernel_rfl) rfl Tryz.ntmps94 rfl rfl (by decide) (by simp) fun hst ha hf => ?_
 simp only [faultV]
 simp only [gw0, reduceEqDiff, ↓reduceIte, reduceAdd, reduceLT, reduceLeDiff, reduceMul, gwD3, gwDT, pureR_none, ite_self, nilR, nilB, bitF, bitV, nilC, nilCmp, eqb, assertV, assertW, zeroV, wQ_normal, wQ_ret, wQ_panic, pickO, pickC, List.map_cons, List.map_nil, List.getD_cons_zero, List.getD_cons_succ, Env.keep, beq_self_eq_true, cond_true, cond_false, Option.getD_some]
 have hA : ∀ l : St, (st ++ l)[a]? = some (.box [o]) := fun l => by rw [List.getElem?_append_left hal]; exact hao
 have hA2 : ∀ (l : St) (x : Ent), (st ++ l).set a x = st.set a x ++ l := fun l x => set_app hal
 have hC : ∀ (l : St) (x2 : Ent), (st.set a x2 ++ l)[c]? = some (.box [.int .i64 x, .int .i64 y]) := fun l x2 => by rw [List.getElem?_append_left (by simpa using hcl), List.getElem?_set_ne hne]; exact hc
 have hC2 : ∀ (l : St) (x x2 : Ent), (st.set a x ++ l).set c x2 = (st.set a x).set c x2 ++ l := fun l x x2 => set_app (by simpa using hcl)
 refine vdraw2 TT_ok TT_mixed (σ := Unit) [0, 1, 2, 2] [0, 2, 1, 3] 1 2 [0] (fun _x => [(0, true, .ptr a 0)]) (fun _x => (st.set a (.box [.nils])).set c (.box [.int .i64 e, .int .i64 q]) ++ [.box [.int .i64 e, .int .i64 q]]) (fun _x => True) rfl (by kernel_rfl) ?_ ?_ ?_
 ·simp only [gw0, reduceEqDiff, ↓reduceIte, reduceAdd, reduceLT, reduceLeDiff, reduceMul, gwD3, gwDT, pureR_none, ite_self, nilR, nilB, bitF, bitV, nilC, nilCmp, eqb, assertV, assertW, zeroV, wQ_normal, wQ_ret, wQ_panic, pickO, pickC, List.map_cons, List.map_nil, List.getD_cons_zero, List.getD_cons_succ, Env.keep, beq_self_eq_true, cond_true, cond_false, hA, hA2, hC, hC2, at_k, at_k0]
  exact ⟨rfl, rfl, (), rfl, rfl, trivial⟩
 ·simp only [gw0, reduceEqDiff, ↓reduceIte, reduceAdd, reduceLT, reduceLeDiff, reduceMul, gwD3, gwDT, pureR_none, ite_self, nilR, nilB, bitF, bitV, nilC, nilCmp, eqb, assertV, assertW, zeroV, wQ_normal, wQ_ret, wQ_panic, pickO, pickC, List.map_cons, List.map_nil, List.getD_cons_zero, List.getD_cons_succ, Env.keep, beq_self_eq_true, cond_true, cond_false, hA, hA2, hC, hC2, at_k, at_k0]
  exact ⟨rfl, rfl, (), rfl, rfl, trivial⟩
 ·rintro - -
  simp only [gw0, reduceEqDiff, ↓reduceIte, reduceAdd, reduceLT, reduceLeDiff, reduceMul, gwD3, gwDT, pureR_none, ite_self, nilR, nilB, bitF, bitV, nilC, nilCmp, eqb, assertV, assertW, zeroV, wQ_normal, wQ_ret, wQ_panic, pickO, pickC, List.map_cons, List.map_nil, List.getD_cons_zero, List.getD_cons_succ, Env.keep, beq_self_eq_true, cond_true, cond_false, hA]
  exact ⟨[.box [.int .i64 e, .int .i64 q]], _, rfl, wkSt_refl _, hst2⟩
end Go.Proofs.YtcdnooalfkbmgaaGreatDoor.Gx
open Nat (reduceEqDiff reduceAdd reduceLT reduceLeDiff reduceMul)
namespace Go.Proofs.YtcdnooalfkbmgaaGreatDoor.Gx
open Go Go.Proofs.YtcdnooalfkbmgaaGreatDoor.Gw
set_option linter.unusedSimpArgs false
set_option linter.unusedVariables false
def rdTop (s : Str) : Nat → List Datum → Nat → Nat → Sum (Int × Int) (List Datum)
 | 0, _, _, _ => .inl (0, 0)
 | f + 1, acc, p, n => match s.drop p with
  | [] => .inr acc
  | c :: r => match rdD s f 1 p n with
   | .err e q _ _ => .inl (e, q)
   | .ok x p' n' => rdTop s f (acc ++ [x]) (s.length - (blk false (s.drop p')).length) n'
/-- What a text's data are; or what is wrong. -/
def readR (s : Str) : Sum (Int × Int) (List Datum) := bif decide ((6000 : Int) < s.length) then .inl (4, 0) else rdTop s (2 * s.length + 3) [] (s.length - (blk false s).length) 0
def readV : Sum (Int × Int) (List Datum) → V
 | .inl f => .tup [lstD [], fltV f]
 | .inr l => .tup [lstD l, fltV (0, 0)]
theorem readV_lt (n : Nat) (r : Sum (Int × Int) (List Datum)) : (readV r).lt n := by
 cases r with
 | inl f => simp only [readV, fltV, V.lt, ltL, and_true]; exact lstD_lt _ _
 | inr l => simp only [readV, fltV, V.lt, ltL, and_true]; exact lstD_lt _ _
section
variable (s : Str) (st ex : St) (A B : Ent)
theorem at_2 (e : Ent) : (st ++ (A :: B :: e :: ex))[st.length + 2]? = some e := by simp
theorem set_2 (e e' : Ent) : (st ++ (A :: B :: e :: ex)).set (st.length + 2) e' = st ++ (A :: B :: e' :: ex) := by
 rw [List.set_append_right _ _ (by omega)]; simp
theorem y_blank (p n : Nat) (hp : p ≤ s.length) (hs : s.length ≤ 6000) :
  VCalls Tryz.prog TT 95 [.ptr (st.length + 2) 0] (st ++ (A :: B :: rdE s p n :: ex)) fun r st' => r = .ret (.tup []) ∧ st' = st ++ (A :: B :: rdE s (s.length - (blk false (s.drop p)).length) n :: ex) := by
 have := c_blank s (st ++ (A :: B :: rdE s p n :: ex)) (st.length + 2) p n (at_2 st ex A B _) hp hs
 rw [set_2] at this; exact this
def OutY (st0 : St) (f : FuncId) (args : List V) : RR → Prop
 | .ok x p n => VCalls Tryz.prog TT f args st0 fun r st' => r = .ret (.agg (encD x)) ∧ st' = st ++ (A :: B :: rdE s p n :: ex)
 | .err e q p n => VCalls Tryz.prog TT f args st0 fun r st' => r = .panic (faultV e q) ∧ st' = st ++ (A :: B :: rdE s p n :: ex)
theorem y_datum (hs : s.length ≤ 6000) (f : Nat) (p n : Nat) (hp : p ≤ s.length) (hn : n ≤ 2000) (hf : 2 * (s.length - p) < f) :
  OutY s st ex A B (st ++ (A :: B :: rdE s p n :: ex)) 96 [.ptr (st.length + 2) 0, .int .i64 1] (rdD s f 1 p n) := by
 have := c_datum s hs (f + 1) f (by omega) 1 p n (st ++ (A :: B :: rdE s p n :: ex)) (st.length + 2) (by simp) hp hn (by omega) (by omega) hf
 rw [set_2] at this
 cases hr : rdD s f 1 p n with
 | ok x p' n' => rw [hr] at this; simp only [OutC, set_2] at this; exact this
 | err e q p' n' => rw [hr] at this; simp only [OutC, set_2] at this; exact this
end
theorem ThawR.refl {st : St} {m : Nat} : ∀ l : List (List V), ThawR st m l l
 | [] => .nil
 | x :: l => .cons (ThawL.refl x) (ThawR.refl l)
theorem at_3 (st : St) (A B C D : Ent) : (st ++ [A, B, C, D])[st.length + 3]? = some D := by simp
theorem set_01 {st ex : St} {A B a b : Ent} : ((st ++ (A :: B :: ex)).set st.length a).set (st.length + 1) b = st ++ (a :: b :: ex) := by
 rw [List.set_append_right _ _ (Nat.le_refl _), List.set_append_right _ _ (by omega)]; simp
theorem y_caught (st ex : St) (e q : Int) (o : V) (x y : Int) (hok : St.ok (st ++ (.box [.nils] :: .box [.int .i64 e, .int .i64 q] :: ex))) :
  VDefers Tryz.prog TT 94 [.ptr st.length 0, .ptr (st.length + 1) 0] (some (faultV e q)) (st ++ (.box [o] :: .box [.int .i64 x, .int .i64 y] :: ex)) (st ++ (.box [.nils] :: .box [.int .i64 e, .int .i64 q] :: ex)) := by
 have := d_caught (st ++ (.box [o] :: .box [.int .i64 x, .int .i64 y] :: ex)) st.length (st.length + 1) e q o x y (by simp) (by simp) (by omega) (by rw [set_01]; exact hok)
 rw [set_01] at this
 exact this
set_option maxHeartbeats 4000000 in
theorem c_Read (s : Str) (st : St) : VCalls Tryz.prog TT 81 [.str s] st fun r st' => r = .ret (readV (readR s)) ∧ st' = st := by
 refine VCalls.freeze (Q := fun r s' => ∃ v u ex, r = .ret v ∧ s' = st ++ ex ∧ Thaw s' st.length v u ∧ wk u (readV (readR s)) ∧ (readV (readR s)).lt st.length) ?_ (fun r s' h => h)
 refine vfunD TT_ok (L := [0, 2, 3, 4]) Tryz.func81 rfl (by kernel_rfl) Tryz.ntmps81 rfl rfl fun hst ha hf => ?_
 refine waSeq TT_ok (an := anL []) (rs := [.cell 2 47, .cell 3 41]) rfl ?_
 simp only [gw0, reduceEqDiff, ↓reduceIte, reduceAdd, reduceLT, reduceLeDiff, reduceMul, gwD3, gwDT, pureR_none, ite_self, nilR, nilB, bitF, bitV, nilC, nilCmp, eqb, assertV, assertW, zeroV, wQ_normal, wQ_ret, wQ_panic, pickO, pickC, List.map_cons, List.map_nil, List.getD_cons_zero, List.getD_cons_succ, Env.keep, beq_self_eq_true, cond_true, cond_false]
 refine waSeq TT_ok (an := anL []) (rs := [.cell 2 47, .cell 3 41]) rfl ?_
 simp only [gw0, reduceEqDiff, ↓reduceIte, reduceAdd, reduceLT, reduceLeDiff, reduceMul, gwD3, gwDT, pureR_none, ite_self, nilR, nilB, bitF, bitV, nilC, nilCmp, eqb, assertV, assertW, zeroV, wQ_normal, wQ_ret, wQ_panic, pickO, pickC, List.map_cons, List.map_nil, List.getD_cons_zero, List.getD_cons_succ, Env.keep, beq_self_eq_true, cond_true, cond_false]
 refine iK_split (fun h => ?_) (fun h => ?_)
 ·simp only [gw0, reduceEqDiff, ↓reduceIte, reduceAdd, reduceLT, reduceLeDiff, reduceMul, gwD3, gwDT, pureR_none, ite_self, nilR, nilB, bitF, bitV, nilC, nilCmp, eqb, assertV, assertW, zeroV, wQ_normal, wQ_ret, wQ_panic, pickO, pickC, List.map_cons, List.map_nil, List.getD_cons_zero, List.getD_cons_succ, Env.keep, beq_self_eq_true, cond_true, cond_false]
  refine ⟨_, _, _, rfl, rfl, .same _, ?_, readV_lt _ _⟩
  simp only [readR, h, cond_true, readV, fltV]
  exact wk_tup (wkL_cons (wk_nils _) (wkL_cons (wk_refl _) wkL_nil))
 have hs : s.length ≤ 6000 := by simp at h; omega
 simp only [gw0, reduceEqDiff, ↓reduceIte, reduceAdd, reduceLT, reduceLeDiff, reduceMul, gwD3, gwDT, pureR_none, ite_self, nilR, nilB, bitF, bitV, nilC, nilCmp, eqb, assertV, assertW, zeroV, wQ_normal, wQ_ret, wQ_panic, pickO, pickC, List.map_cons, List.map_nil, List.getD_cons_zero, List.getD_cons_succ, Env.keep, beq_self_eq_true, cond_true, cond_false]
 refine waDefer TT_ok (an := anL []) (rs := [.cell 2 47, .cell 3 41]) rfl [.ptr st.length 0, .ptr (st.length + 1) 0] ⟨_, Tryz.func94, by kernel_rfl, by kernel_rfl⟩ (by decide) rfl rfl fun d => ?_
 simp only [gw0, reduceEqDiff, ↓reduceIte, reduceAdd, reduceLT, reduceLeDiff, reduceMul, gwD3, gwDT, pureR_none, ite_self, nilR, nilB, bitF, bitV, nilC, nilCmp, eqb, assertV, assertW, zeroV, wQ_normal, wQ_ret, wQ_panic, pickO, pickC, List.map_cons, List.map_nil, List.getD_cons_zero, List.getD_cons_succ, Env.keep, beq_self_eq_true, cond_true, cond_false]
 refine (y_blank s st [] _ _ 0 0 (Nat.zero_le _) hs).use (wkL_refl _) fun _ => ?_
 have hr0 : readR s = rdTop s (2 * s.length + 3) [] (s.length - (blk false s).length) 0 := by simp only [readR, h, cond_false]
 rw [hr0]
 simp only [List.drop_zero]
 have hb0 := blk_le s false
 generalize hp0 : s.length - (blk false s).length = p0
 have hp0' : p0 ≤ s.length := by omega
 simp only [gw0, reduceEqDiff, ↓reduceIte, reduceAdd, reduceLT, reduceLeDiff, reduceMul, gwD3, gwDT, pureR_none, ite_self, nilR, nilB, bitF, bitV, nilC, nilCmp, eqb, assertV, assertW, zeroV, wQ_normal, wQ_ret, wQ_panic, pickO, pickC, List.map_cons, List.map_nil, List.getD_cons_zero, List.getD_cons_succ, Env.keep, beq_self_eq_true, cond_true, cond_false]
 refine vnilB st.length 0 [.nils] 49 (by simp) rfl ?_
 rw [List.set_append_left _ _ (by simp), List.set_append_right _ _ (Nat.le_refl _)]
 simp only [Nat.sub_self, List.set_cons_zero, List.append_assoc, List.cons_append, List.nil_append, List.length_append, List.length_cons, List.length_nil, Nat.reduceAdd]
 have hT6 : (TT 49).size = 6 := rfl
 rw [hT6]
 have h63 : s.length ≤ 9223372036854775807 := by omega
 refine vfor (σ := Nat × List Datum × Nat × Nat) [0, 2, 3, 4] (fun x => [(0, true, .str s), (2, true, .ptr st.length 0), (3, true, .ptr (st.length + 1) 0), (4, true, .ptr (st.length + 2) 0)]) (fun x => st ++ [.box [.arr (st.length + 3) x.2.1.length], .box [.int .i64 0, .int .i64 0], rdE s x.2.2.1 x.2.2.2, .arr 49 6 (x.2.1.map encD)]) (fun x => s.length - x.2.2.1) (fun x => x.2.1.length ≤ x.2.2.1 ∧ x.2.2.1 ≤ s.length ∧ x.2.2.2 ≤ 2000 ∧ 2 * (s.length - x.2.2.1) + 1 < x.1 ∧ rdTop s (2 * s.length + 3) [] p0 0 = rdTop s x.1 x.2.1 x.2.2.1 x.2.2.2) (2 * s.length + 3, [], p0, 0) rfl TT_ok ⟨Nat.zero_le _, hp0', Nat.zero_le _, by dsimp only; omega, rfl⟩ rfl rfl ?_
 rintro ⟨f, acc, p, n⟩ ⟨hacc, hp, hn, hf2, hI⟩
 simp only at hacc hp hn hf2 hI ⊢
 rw [hI]
 cases f with
 | zero => omega
 | succ f =>
 simp only [rdTop]
 simp only [gw0, reduceEqDiff, ↓reduceIte, reduceAdd, reduceLT, reduceLeDiff, reduceMul, gwD3, gwDT, pureR_none, ite_self, nilR, nilB, bitF, bitV, nilC, nilCmp, eqb, assertV, assertW, zeroV, wQ_normal, wQ_ret, wQ_panic, pickO, pickC, List.map_cons, List.map_nil, List.getD_cons_zero, List.getD_cons_succ, Env.keep, beq_self_eq_true, cond_true, cond_false, rdE]
 rcases at_or_end s p hp with ⟨rfl, hdr⟩ | ⟨c, hltp, hget, hdr⟩
 ·rw [hdr]
  simp only [gw0, reduceEqDiff, ↓reduceIte, reduceAdd, reduceLT, reduceLeDiff, reduceMul, gwD3, gwDT, pureR_none, ite_self, nilR, nilB, bitF, bitV, nilC, nilCmp, eqb, assertV, assertW, zeroV, wQ_normal, wQ_ret, wQ_panic, pickO, pickC, List.map_cons, List.map_nil, List.getD_cons_zero, List.getD_cons_succ, Env.keep, beq_self_eq_true, cond_true, cond_false, lt_no]
  refine vstageT TT_ok TT_mixed (σ := Unit) [] [1, 1, 2, 2] [] [0, 1, 2, 3] [.nd 0 [.nd 1 [.nd 2 [.nd 3 []]], .nd 2 [.nd 1 [.nd 3 []]]], .nd 1 [.nd 0 [.nd 2 [.nd 3 []]]]] [2, 3] (fun _x => [(2, true, .ptr st.length 0), (3, true, .ptr (st.length + 1) 0)]) (fun _x => st ++ [.box [.arr (st.length + 3) acc.length], .box [.int .i64 0, .int .i64 0], rdE s s.length n, .arr 49 6 (acc.map encD)]) (fun _x => True) rfl (by kernel_rfl) ?_ ?_
  ·simp only [gw0, reduceEqDiff, ↓reduceIte, reduceAdd, reduceLT, reduceLeDiff, reduceMul, gwD3, gwDT, pureR_none, ite_self, nilR, nilB, bitF, bitV, nilC, nilCmp, eqb, assertV, assertW, zeroV, wQ_normal, wQ_ret, wQ_panic, pickO, pickC, List.map_cons, List.map_nil, List.getD_cons_zero, List.getD_cons_succ, Env.keep, beq_self_eq_true, cond_true, cond_false, rdE]
   exact ⟨⟨rfl, rfl, (), rfl, rfl, trivial⟩, rfl, rfl, (), rfl, rfl, trivial⟩
  ·rintro - -
   simp only [gw0, reduceEqDiff, ↓reduceIte, reduceAdd, reduceLT, reduceLeDiff, reduceMul, gwD3, gwDT, pureR_none, ite_self, nilR, nilB, bitF, bitV, nilC, nilCmp, eqb, assertV, assertW, zeroV, wQ_normal, wQ_ret, wQ_panic, pickO, pickC, List.map_cons, List.map_nil, List.getD_cons_zero, List.getD_cons_succ, Env.keep, beq_self_eq_true, cond_true, cond_false, rdE]
   refine dQ_ret (d_idle _ _ _) ?_
   simp only [gw0, reduceEqDiff, ↓reduceIte, reduceAdd, reduceLT, reduceLeDiff, reduceMul, gwD3, gwDT, pureR_none, ite_self, nilR, nilB, bitF, bitV, nilC, nilCmp, eqb, assertV, assertW, zeroV, wQ_normal, wQ_ret, wQ_panic, pickO, pickC, List.map_cons, List.map_nil, List.getD_cons_zero, List.getD_cons_succ, Env.keep, beq_self_eq_true, cond_true, cond_false, rdE]
   refine ⟨_, _, _, rfl, rfl, .tup (.cons (.arr (Nat.le_add_right _ 3) (at_3 ..) (by simp) (ThawR.refl _)) (.cons (.same _) .nil)), ?_, readV_lt _ _⟩
   exact wk_tup (wkL_cons (wk_refl _) (wkL_cons (wk_refl _) wkL_nil))
 ·rw [hdr]
  simp only [gw0, reduceEqDiff, ↓reduceIte, reduceAdd, reduceLT, reduceLeDiff, reduceMul, gwD3, gwDT, pureR_none, ite_self, nilR, nilB, bitF, bitV, nilC, nilCmp, eqb, assertV, assertW, zeroV, wQ_normal, wQ_ret, wQ_panic, pickO, pickC, List.map_cons, List.map_nil, List.getD_cons_zero, List.getD_cons_succ, Env.keep, beq_self_eq_true, cond_true, cond_false, lt_yes hltp]
  have hfar := (rd_far s f).1 1 p n hn
  have hc := y_datum s st [.arr 49 6 (acc.map encD)] (.box [.arr (st.length + 3) acc.length]) (.box [.int .i64 0, .int .i64 0]) hs f p n hp hn (by omega)
  cases hrr : rdD s f 1 p n with
  | err e q p' n' =>
   rw [hrr] at hc
   simp only [OutY] at hc
   refine vpanic TT_ok TT_mixed [1, 0, 0, 0, 0, 2, 0, 2, 2] [0, 1, 3, 4] 2 [5, 6, 7, 8] [0, 2, 3, 4] rfl (by kernel_rfl) ?_
   simp only [gw0, reduceEqDiff, ↓reduceIte, reduceAdd, reduceLT, reduceLeDiff, reduceMul, gwD3, gwDT, pureR_none, ite_self, nilR, nilB, bitF, bitV, nilC, nilCmp, eqb, assertV, assertW, zeroV, wQ_normal, wQ_ret, wQ_panic, pickO, pickC, List.map_cons, List.map_nil, List.getD_cons_zero, List.getD_cons_succ, Env.keep, beq_self_eq_true, cond_true, cond_false, rdE, List.length_map]
   refine pK_of hc (wkL_refl _) ?_
   refine dQ_panic (y_caught st _ e q _ 0 0 (ok_app hst ⟨by simp [Ent.lt, ltL, V.lt], by simp [Ent.lt, ltL, V.lt], by simp [rdE, Ent.lt, ltL, V.lt], ?_, trivial⟩)) ?_
   ·simp only [Ent.lt]
    exact ltRows_map fun d _ => encD_lt _ _
   ·simp only [gw0, reduceEqDiff, ↓reduceIte, reduceAdd, reduceLT, reduceLeDiff, reduceMul, gwD3, gwDT, pureR_none, ite_self, nilR, nilB, bitF, bitV, nilC, nilCmp, eqb, assertV, assertW, zeroV, wQ_normal, wQ_ret, wQ_panic, pickO, pickC, List.map_cons, List.map_nil, List.getD_cons_zero, List.getD_cons_succ, Env.keep, beq_self_eq_true, cond_true, cond_false, rdE]
    exact ⟨_, _, _, rfl, rfl, .same _, wk_tup (wkL_cons (wk_nils _) (wkL_cons (wk_refl _) wkL_nil)), readV_lt _ _⟩
  | ok x p' n' =>
   rw [hrr] at hc hfar
   simp only [OutY] at hc
   simp only [RR.far] at hfar
   refine vstageT TT_ok TT_mixed (σ := Unit) [st ++ [.box [.arr (st.length + 3) acc.length], .box [.int .i64 0, .int .i64 0], rdE s p n, .arr 49 6 (acc.map encD)], st ++ [.box [.arr (st.length + 3) acc.length], .box [.int .i64 0, .int .i64 0], rdE s p' n', .arr 49 6 (acc.map encD)]] [3, 0, 4, 0, 0, 2, 0, 2, 2] [0, 1, 2, 3, 4] [5, 6, 7, 8] [.nd 5 [.nd 6 [.nd 7 [.nd 8 []], .nd 8 [.nd 7 []]], .nd 8 [.nd 6 [.nd 7 []]]]] [0, 2, 3, 4] (fun _x => [(0, true, .str s), (2, true, .ptr st.length 0), (3, true, .ptr (st.length + 1) 0), (4, true, .ptr (st.length + 2) 0)]) (fun _x => st ++ [.box [.arr (st.length + 3) (acc.length + 1)], .box [.int .i64 0, .int .i64 0], rdE s p' n', .arr 49 6 (acc.map encD ++ [encD x])]) (fun _x => True) rfl (by kernel_rfl) ?_ ?_
   ·simp only [gw0, reduceEqDiff, ↓reduceIte, reduceAdd, reduceLT, reduceLeDiff, reduceMul, gwD3, gwDT, pureR_none, ite_self, nilR, nilB, bitF, bitV, nilC, nilCmp, eqb, assertV, assertW, zeroV, wQ_normal, wQ_ret, wQ_panic, pickO, pickC, List.map_cons, List.map_nil, List.getD_cons_zero, List.getD_cons_succ, Env.keep, beq_self_eq_true, cond_true, cond_false, rdE, List.length_map]
    refine eK3_loud hc (wkL_refl _) (by simp [rdE]) (by simp [rdE]) ?_
    have hset1 : ∀ z X, (acc.map encD ++ [z]).set acc.length X = acc.map encD ++ [X] := fun z X => by rw [List.set_append_right _ _ (by simp)]; simp
    have hget1 : ∀ z, (acc.map encD ++ [z]).getD acc.length [] = z := fun z => by simp [List.getD_eq_getElem?_getD]
    have hw1 : IntKind.i64.wrap ((acc.length : Int) + 1) = ((acc.length + 1 : Nat) : Int) := by rw [wrap_i64 (by omega) (by omega)]; omega
    simp only [gw0, reduceEqDiff, ↓reduceIte, reduceAdd, reduceLT, reduceLeDiff, reduceMul, gwD3, gwDT, pureR_none, ite_self, nilR, nilB, bitF, bitV, nilC, nilCmp, eqb, assertV, assertW, zeroV, wQ_normal, wQ_ret, wQ_panic, pickO, pickC, List.map_cons, List.map_nil, List.getD_cons_zero, List.getD_cons_succ, Env.keep, beq_self_eq_true, cond_true, cond_false, rdE, List.length_map, List.length_append, encD_len, hset1, hget1, Nat.le_refl]
    exact ⟨by omega, by omega, by omega, rfl, rfl, (), rfl, rfl, trivial⟩
   ·rintro - -
    simp only [gw0, reduceEqDiff, ↓reduceIte, reduceAdd, reduceLT, reduceLeDiff, reduceMul, gwD3, gwDT, pureR_none, ite_self, nilR, nilB, bitF, bitV, nilC, nilCmp, eqb, assertV, assertW, zeroV, wQ_normal, wQ_ret, wQ_panic, pickO, pickC, List.map_cons, List.map_nil, List.getD_cons_zero, List.getD_cons_succ, Env.keep, beq_self_eq_true, cond_true, cond_false, rdE]
    have hb2 := blk_le (s.drop p') false
    simp only [List.length_drop] at hb2
    refine (y_blank s st _ _ _ p' n' hfar.2.1 hs).use (wkL_refl _) fun _ => ?_
    simp only [gw0, reduceEqDiff, ↓reduceIte, reduceAdd, reduceLT, reduceLeDiff, reduceMul, gwD3, gwDT, pureR_none, ite_self, nilR, nilB, bitF, bitV, nilC, nilCmp, eqb, assertV, assertW, zeroV, wQ_normal, wQ_ret, wQ_panic, pickO, pickC, List.map_cons, List.map_nil, List.getD_cons_zero, List.getD_cons_succ, Env.keep, beq_self_eq_true, cond_true, cond_false, Env.keep]
    generalize hq : s.length - (blk false (s.drop p')).length = q
    refine ⟨(f, acc ++ [x], q, n'), by simp [rdE], ?_, ?_, ?_, hfar.2.2, ?_, rfl⟩
    ·dsimp only; omega
    ·simp; omega
    ·dsimp only; omega
    ·dsimp only; omega
end Go.Proofs.YtcdnooalfkbmgaaGreatDoor.Gx
namespace Go.Proofs.YtcdnooalfkbmgaaGreatDoor.Gx
open Go Go.Proofs.YtcdnooalfkbmgaaGreatDoor.Gw
open Nat (reduceEqDiff reduceAdd reduceLT reduceLeDiff reduceMul)
set_option linter.unusedSimpArgs false
set_option linter.unusedVariables false
abbrev PR := Sum Int (Datum × Str × Nat)
def pQ : PR → PR
 | .inl e => .inl e
 | .inr (x, r, n) => .inr (quoteD x, r, n)
def pB (n : Nat) : Str → PR
 | [] => .inl 2
 | t :: r => bif decide (t = 116) || decide (t = 102) then
   (match r with
   | [] => .inr (.mk 2 (bif decide (t = 116) then 1 else 0) [] 0 0 [], [], n)
   | u :: q => bif letterB u then .inl 2 else .inr (.mk 2 (bif decide (t = 116) then 1 else 0) [] 0 0 [], u :: q, n))
  else .inl 2
def pA (n : Nat) (c : UInt8) (r : Str) : PR := match atomR (c :: r.takeWhile letterB) with
 | .inl e => .inl e
 | .inr d => .inr (d, r.dropWhile letterB, n)
mutual
def pD : Nat → Int → Str → Nat → PR
 | 0, _, _, _ => .inl 0
 | f + 1, deep, r, n => bif decide (2000 < n + 1) || decide (40 < deep) then .inl 4
  else match r with
   | [] => .inl 2
   | c :: r => bif decide (c = 40) then pL f deep [] r (n + 1)
    else bif decide (c = 39) then (bif decide (2000 < n + 2) || decide (40 < deep + 1) then .inl 4 else pQ (pD f (deep + 1) (blk false r) (n + 2)))
    else bif decide (c = 35) then pB (n + 1) r
    else bif letterB c then pA (n + 1) c r
    else .inl 2
def pL : Nat → Int → List Datum → Str → Nat → PR
 | 0, _, _, _, _ => .inl 0
 | f + 1, deep, acc, r, n => match blk false r with
  | [] => .inl 2
  | c :: r => bif decide (c = 41) then .inr (.mk 4 0 [] 0 0 acc, r, n)
   else match pD f (deep + 1) (c :: r) n with
    | .inl e => .inl e
    | .inr (x, r', n') => pL f deep (acc ++ [x]) r' n'
end
def pT : Nat → List Datum → Str → Nat → Sum Int (List Datum × Nat)
 | 0, _, _, _ => .inl 0
 | f + 1, acc, r, n => match blk false r with
  | [] => .inr (acc, n)
  | c :: q => match pD f 1 (c :: q) n with
   | .inl e => .inl e
   | .inr (x, r', n') => pT f (acc ++ [x]) r' n'
/-- What one gives, and the other. -/
def Agr (s : Str) (p : Nat) : PR → RR → Prop
 | .inl e, r => ∃ q p' n', r = .err e q p' n'
 | .inr (d, x, n), r => ∃ p', p ≤ p' ∧ p' ≤ s.length ∧ x = s.drop p' ∧ r = .ok d p' n
theorem agrB (s : Str) (q p n : Nat) (r : Str) (h : r = s.drop p) (hp : p ≤ s.length) : Agr s p (pB n r) (rdB q p n r) := by
 cases r with
 | nil => exact ⟨_, _, _, rfl⟩
 | cons t r =>
  have hl := drop_len h.symm
  have h1 : s.drop (p + 1) = r := by rw [← List.drop_drop, ← h]; rfl
  simp only [pB, rdB]
  cases decide (t = 116) || decide (t = 102) with
  | false => exact ⟨_, _, _, rfl⟩
  | true =>
   simp only [cond_true]
   cases r with
   | nil => exact ⟨p + 1, by omega, by omega, h1.symm, rfl⟩
   | cons u w =>
    simp only
    cases letterB u with
    | true => exact ⟨_, _, _, rfl⟩
    | false => exact ⟨p + 1, by omega, by omega, h1.symm, rfl⟩
theorem take_drop_while (l : Str) : l.drop (l.takeWhile letterB).length = l.dropWhile letterB := by
 have := List.takeWhile_append_dropWhile (p := letterB) (l := l)
 conv => lhs; arg 2; rw [← this]
 rw [List.drop_left]
theorem agrA (s : Str) (q p n : Nat) (c : UInt8) (r : Str) (h : r = s.drop p) (hp : p ≤ s.length) : Agr s p (pA n c r) (rdA s q p n c r) := by
 have hl : r.length = s.length - p := by rw [h]; simp
 have htw := takeWhile_le (l := r)
 unfold pA rdA
 cases atomR (c :: r.takeWhile letterB) with
 | inl e => exact ⟨_, _, _, rfl⟩
 | inr d => exact ⟨p + (r.takeWhile letterB).length, by omega, by omega, by rw [← List.drop_drop, ← h, take_drop_while], rfl⟩
theorem agr_up {s : Str} {p q : Nat} {a : PR} {b : RR} (h : Agr s q a b) (hp : p ≤ q) : Agr s p a b := by
 cases a with
 | inl e => exact h
 | inr x =>
  obtain ⟨d, r, n⟩ := x
  obtain ⟨p', h1, h2, h3, h4⟩ := h
  exact ⟨p', by omega, h2, h3, h4⟩
theorem blk_at (s : Str) (p : Nat) : blk false (s.drop p) = s.drop (s.length - (blk false (s.drop p)).length) := by
 have h1 := blk_drop (s.drop p) false
 have h2 := blk_le (s.drop p) false
 rw [List.length_drop] at h1 h2
 conv => lhs; rw [h1, List.drop_drop]
 by_cases hp : p ≤ s.length
 ·congr 1; omega
 ·have e1 : (blk false (s.drop p)).length = 0 := by omega
  rw [e1, List.drop_of_length_le (by omega), List.drop_of_length_le (by omega)]
theorem rd_agr (s : Str) : ∀ f : Nat, (∀ (deep : Int) (p n : Nat), p ≤ s.length → Agr s p (pD f deep (s.drop p) n) (rdD s f deep p n)) ∧
  (∀ (deep : Int) (acc : List Datum) (p n : Nat), p ≤ s.length → Agr s p (pL f deep acc (s.drop p) n) (rdL s f deep acc p n))
 | 0 => ⟨fun _ _ _ _ => ⟨_, _, _, rfl⟩, fun _ _ _ _ _ => ⟨_, _, _, rfl⟩⟩
 | f + 1 => by
  obtain ⟨ihD, ihL⟩ := rd_agr s f
  constructor
  ·intro deep p n hp
   simp only [pD, rdD]
   cases decide (2000 < n + 1) || decide (40 < deep) with
   | true => exact ⟨_, _, _, rfl⟩
   | false =>
    simp only [cond_false]
    cases hd : s.drop p with
    | nil => exact ⟨_, _, _, rfl⟩
    | cons c r =>
     have hl := drop_len hd
     have h1 : s.drop (p + 1) = r := by rw [← List.drop_drop, hd]; rfl
     simp only
     cases decide (c = 40) with
     | true => simp only [cond_true]; rw [← h1]; exact agr_up (ihL deep [] (p + 1) (n + 1) (by omega)) (by omega)
     | false =>
      simp only [cond_false]
      cases decide (c = 39) with
      | true =>
       simp only [cond_true]
       cases decide (2000 < n + 2) || decide (40 < deep + 1) with
       | true => exact ⟨_, _, _, rfl⟩
       | false =>
        simp only [cond_false]
        have hb := blk_at s (p + 1)
        rw [h1] at hb
        have hle := blk_le r false
        have := ihD (deep + 1) (s.length - (blk false r).length) (n + 2) (by omega)
        rw [← hb] at this
        generalize pD f (deep + 1) (blk false r) (n + 2) = a at this ⊢
        cases a with
        | inl e => obtain ⟨q, p', n', e1⟩ := this; rw [e1]; exact ⟨_, _, _, rfl⟩
        | inr x =>
         obtain ⟨d, r', n'⟩ := x
         obtain ⟨p', k1, k2, k3, k4⟩ := this
         rw [k4]
         exact ⟨p', by omega, k2, k3, rfl⟩
      | false =>
       simp only [cond_false]
       cases decide (c = 35) with
       | true => simp only [cond_true]; exact agr_up (agrB s p (p + 1) (n + 1) r h1.symm (by omega)) (by omega)
       | false =>
        simp only [cond_false]
        cases letterB c with
        | true => simp only [cond_true]; exact agr_up (agrA s p (p + 1) (n + 1) c r h1.symm (by omega)) (by omega)
        | false => exact ⟨_, _, _, rfl⟩
  ·intro deep acc p n hp
   simp only [pL, rdL]
   have hb := blk_at s p
   have hle := blk_le (s.drop p) false
   rw [List.length_drop] at hle
   cases hk : blk false (s.drop p) with
   | nil => exact ⟨_, _, _, rfl⟩
   | cons c r =>
    rw [hk] at hb hle
    simp only [List.length_cons] at hb hle
    have hr : s.drop (s.length - r.length) = r := by
     have : s.length - r.length = (s.length - (r.length + 1)) + 1 := by omega
     rw [this, ← List.drop_drop, ← hb]; rfl
    simp only
    cases decide (c = 41) with
    | true => exact ⟨s.length - r.length, by omega, by omega, hr.symm, rfl⟩
    | false =>
     simp only [cond_false]
     have := ihD (deep + 1) (s.length - (r.length + 1)) n (by omega)
     rw [← hb] at this
     generalize pD f (deep + 1) (c :: r) n = a at this ⊢
     cases a with
     | inl e => obtain ⟨q, p', n', e1⟩ := this; rw [e1]; exact ⟨_, _, _, rfl⟩
     | inr x =>
      obtain ⟨d, r', n'⟩ := x
      obtain ⟨p', k1, k2, k3, k4⟩ := this
      rw [k4]
      simp only [RR.bind]
      rw [k3]
      exact agr_up (ihL deep (acc ++ [d]) p' n' k2) (by omega)
theorem top_agr (s : Str) : ∀ (f : Nat) (acc : List Datum) (p n : Nat), p ≤ s.length →
  (match pT f acc (s.drop p) n with
   | .inl e => ∃ q, rdTop s f acc (s.length - (blk false (s.drop p)).length) n = .inl (e, q)
   | .inr (l, _) => rdTop s f acc (s.length - (blk false (s.drop p)).length) n = .inr l)
 | 0, acc, p, n, hp => ⟨_, rfl⟩
 | f + 1, acc, p, n, hp => by
  simp only [pT, rdTop]
  have hb := blk_at s p
  have hle := blk_le (s.drop p) false
  rw [List.length_drop] at hle
  cases hk : blk false (s.drop p) with
  | nil =>
   rw [hk] at hb
   rw [← hb]
  | cons c r =>
   rw [hk] at hb hle
   simp only [List.length_cons] at hb hle
   simp only [List.length_cons]
   rw [← hb]
   simp only
   have := (rd_agr s f).1 1 (s.length - (r.length + 1)) n (by omega)
   rw [← hb] at this
   generalize pD f 1 (c :: r) n = a at this ⊢
   cases a with
   | inl e => obtain ⟨q, p', n', e1⟩ := this; rw [e1]; exact ⟨_, rfl⟩
   | inr x =>
    obtain ⟨d, r', n'⟩ := x
    obtain ⟨p', k1, k2, k3, k4⟩ := this
    rw [k4]
    simp only
    rw [k3]
    exact top_agr s f (acc ++ [d]) p' n' k2
/-- Reading, without places. -/
theorem read_ok {s : Str} {l : List Datum} : readR s = .inr l ↔ s.length ≤ 6000 ∧ ∃ n, pT (2 * s.length + 3) [] s 0 = .inr (l, n) := by
 have h := top_agr s (2 * s.length + 3) [] 0 0 (Nat.zero_le _)
 rw [List.drop_zero] at h
 unfold readR
 by_cases hs : (6000 : Int) < s.length
 ·simp only [hs, decide_true, cond_true]
  exact ⟨fun h => (by cases h), fun h => (by omega)⟩
 ·simp only [hs, decide_false, cond_false]
  cases hp : pT (2 * s.length + 3) [] s 0 with
  | inl e =>
   rw [hp] at h
   obtain ⟨q, h⟩ := h
   rw [h]
   exact ⟨fun h => (by cases h), fun ⟨_, n, h⟩ => (by cases h)⟩
  | inr x =>
   obtain ⟨m, n⟩ := x
   rw [hp] at h
   simp only at h
   rw [h]
   exact ⟨fun h => (by cases h; exact ⟨by omega, n, rfl⟩), fun ⟨_, n', h⟩ => (by cases h; rfl)⟩
theorem read_err {s : Str} {e : Int} (hs : s.length ≤ 6000) (h : pT (2 * s.length + 3) [] s 0 = .inl e) : ∃ q, readR s = .inl (e, q) := by
 have k := top_agr s (2 * s.length + 3) [] 0 0 (Nat.zero_le _)
 rw [List.drop_zero, h] at k
 obtain ⟨q, k⟩ := k
 refine ⟨q, ?_⟩
 unfold readR
 rw [show decide ((6000 : Int) < s.length) = false by simp; omega, cond_false]
 exact k
/-- More text behind, that no word goes on in. -/
def Brk : Str → Prop
 | [] => True
 | c :: _ => letterB c = false
theorem blk_ext : ∀ (r x : Str) (b : Bool) {c : UInt8} {q : Str}, blk b r = c :: q → blk b (r ++ x) = c :: (q ++ x)
 | [], x, b, c, q, h => by cases b <;> simp [blk] at h
 | d :: r, x, false, c, q, h => by
  simp only [blk, List.cons_append] at h ⊢
  cases h1 : isBlank d with
  | true => rw [h1] at h; simp only [cond_true] at h ⊢; exact blk_ext r x false h
  | false =>
   rw [h1] at h
   simp only [cond_false] at h ⊢
   cases h2 : decide (d = 59) with
   | true => rw [h2] at h; simp only [cond_true] at h ⊢; exact blk_ext r x true h
   | false => rw [h2] at h; simp only [cond_false] at h ⊢; cases h; rfl
 | d :: r, x, true, c, q, h => by
  simp only [blk, List.cons_append] at h ⊢
  cases h1 : decide (d = 10) with
  | true => rw [h1] at h; simp only [cond_true] at h ⊢; exact blk_ext r x false h
  | false => rw [h1] at h; simp only [cond_false] at h ⊢; exact blk_ext r x true h
/-- Where nothing is left, a line behind is looked at anew. -/
theorem blk_line : ∀ (r t : Str) (b : Bool), blk b r = [] → blk b (r ++ 10 :: t) = blk false t
 | [], t, false, _ => by simp [blk, isBlank]
 | [], t, true, _ => by simp [blk]
 | d :: r, t, false, h => by
  simp only [blk, List.cons_append] at h ⊢
  cases h1 : isBlank d with
  | true => rw [h1] at h; simp only [cond_true] at h ⊢; exact blk_line r t false h
  | false =>
   rw [h1] at h
   simp only [cond_false] at h ⊢
   cases h2 : decide (d = 59) with
   | true => rw [h2] at h; simp only [cond_true] at h ⊢; exact blk_line r t true h
   | false => rw [h2] at h; simp at h
 | d :: r, t, true, h => by
  simp only [blk, List.cons_append] at h ⊢
  cases h1 : decide (d = 10) with
  | true => rw [h1] at h; simp only [cond_true] at h ⊢; exact blk_line r t false h
  | false => rw [h1] at h; simp only [cond_false] at h ⊢; exact blk_line r t true h
theorem tw_ext {r x : Str} (hx : Brk x) : (r ++ x).takeWhile letterB = r.takeWhile letterB ∧ (r ++ x).dropWhile letterB = r.dropWhile letterB ++ x := by
 induction r with
 | nil =>
  cases x with
  | nil => simp
  | cons c x => simp only [Brk] at hx; simp [hx]
 | cons d r ih =>
  simp only [List.cons_append, List.takeWhile_cons, List.dropWhile_cons]
  cases letterB d <;> simp [ih]
/-- With more fuel, more text behind, and so many nodes more: the same, or too much. -/
def More (x : Str) (m : Nat) (a : Datum × Str × Nat) (b : PR) : Prop := b = .inr (a.1, a.2.1 ++ x, a.2.2 + m) ∨ (b = .inl 4 ∧ m ≠ 0)
theorem moreB {n m : Nat} {r x : Str} {a : Datum × Str × Nat} (hx : Brk x) (h : pB n r = .inr a) : More x m a (pB (n + m) (r ++ x)) := by
 cases r with
 | nil => cases h
 | cons t r =>
  simp only [pB, List.cons_append] at h ⊢
  cases h1 : decide (t = 116) || decide (t = 102) with
  | false => rw [h1] at h; cases h
  | true =>
   rw [h1] at h
   simp only [cond_true] at h ⊢
   cases r with
   | nil =>
    simp only at h
    cases h
    cases x with
    | nil => exact .inl rfl
    | cons c x => simp only [Brk] at hx; simp only [List.nil_append, hx, cond_false]; exact .inl rfl
   | cons u w =>
    simp only [List.cons_append] at h ⊢
    cases hu : letterB u with
    | true => rw [hu] at h; cases h
    | false => rw [hu] at h; simp only [cond_false] at h ⊢; cases h; exact .inl rfl
theorem moreA {n m : Nat} {c : UInt8} {r x : Str} {a : Datum × Str × Nat} (hx : Brk x) (h : pA n c r = .inr a) : More x m a (pA (n + m) c (r ++ x)) := by
 unfold pA at h ⊢
 obtain ⟨e1, e2⟩ := tw_ext (r := r) hx
 rw [e1, e2]
 cases hq : atomR (c :: r.takeWhile letterB) with
 | inl e => rw [hq] at h; cases h
 | inr d => rw [hq] at h; cases h; exact .inl rfl
theorem p_more (x : Str) (m : Nat) (hx : Brk x) : ∀ f : Nat, (∀ (F : Nat) (deep : Int) (r : Str) (n : Nat) (a : Datum × Str × Nat), f ≤ F → pD f deep r n = .inr a → More x m a (pD F deep (r ++ x) (n + m))) ∧
  (∀ (F : Nat) (deep : Int) (acc : List Datum) (r : Str) (n : Nat) (a : Datum × Str × Nat), f ≤ F → pL f deep acc r n = .inr a → More x m a (pL F deep acc (r ++ x) (n + m)))
 | 0 => ⟨fun F deep r n a _ h => (by cases h), fun F deep acc r n a _ h => (by cases h)⟩
 | f + 1 => by
  obtain ⟨ihD, ihL⟩ := p_more x m hx f
  constructor
  ·intro F deep r n a hF h
   obtain ⟨F, rfl⟩ : ∃ G, F = G + 1 := ⟨F - 1, by omega⟩
   have hF' : f ≤ F := by omega
   simp only [pD] at h ⊢
   cases h1 : (decide (2000 < n + 1) || decide (40 < deep)) with
   | true => rw [h1] at h; cases h
   | false =>
    rw [h1] at h
    simp only [cond_false] at h
    cases h2 : (decide (2000 < n + m + 1) || decide (40 < deep)) with
    | true =>
     simp only [cond_true]
     simp only [Bool.or_eq_true, Bool.or_eq_false_iff, decide_eq_true_eq, decide_eq_false_iff_not] at h1 h2
     exact .inr ⟨rfl, by omega⟩
    | false =>
     simp only [cond_false]
     cases r with
     | nil => cases h
     | cons c r =>
      simp only [List.cons_append] at h ⊢
      have e1 : n + m + 1 = n + 1 + m := by omega
      have e2 : n + m + 2 = n + 2 + m := by omega
      rw [e1]
      cases h3 : decide (c = 40) with
      | true => rw [h3] at h; simp only [cond_true] at h ⊢; exact ihL F deep [] r (n + 1) a hF' h
      | false =>
       rw [h3] at h
       simp only [cond_false] at h ⊢
       cases h4 : decide (c = 39) with
       | true =>
        rw [h4] at h
        simp only [cond_true] at h ⊢
        cases h5 : (decide (2000 < n + 2) || decide (40 < deep + 1)) with
        | true => rw [h5] at h; cases h
        | false =>
         rw [h5] at h
         simp only [cond_false] at h
         cases h6 : (decide (2000 < n + m + 2) || decide (40 < deep + 1)) with
         | true =>
          simp only [Bool.or_eq_true, Bool.or_eq_false_iff, decide_eq_true_eq, decide_eq_false_iff_not] at h5 h6
          exact .inr ⟨rfl, by omega⟩
         | false =>
          simp only [cond_false]
          cases hq : pD f (deep + 1) (blk false r) (n + 2) with
          | inl e => rw [hq] at h; cases h
          | inr y =>
           rw [hq] at h
           have hb : blk false (r ++ x) = blk false r ++ x := by
            cases hk : blk false r with
            | nil =>
             rw [hk] at hq
             cases f with
             | zero => cases hq
             | succ f =>
              simp only [pD] at hq
              cases h7 : (decide (2000 < n + 2 + 1) || decide (40 < deep + 1)) <;> rw [h7] at hq <;> cases hq
            | cons e q => rw [blk_ext r x false hk]; rfl
           have := ihD F (deep + 1) (blk false r) (n + 2) y hF' hq
           rw [hb, e2]
           rcases this with h8 | ⟨h8, h9⟩
           ·rw [h8]; cases h; exact .inl rfl
           ·rw [h8]; exact .inr ⟨rfl, h9⟩
       | false =>
        rw [h4] at h
        simp only [cond_false] at h ⊢
        cases h5 : decide (c = 35) with
        | true => rw [h5] at h; simp only [cond_true] at h ⊢; exact moreB hx h
        | false =>
         rw [h5] at h
         simp only [cond_false] at h ⊢
         cases h6 : letterB c with
         | true => rw [h6] at h; simp only [cond_true] at h ⊢; exact moreA hx h
         | false => rw [h6] at h; cases h
  ·intro F deep acc r n a hF h
   obtain ⟨F, rfl⟩ : ∃ G, F = G + 1 := ⟨F - 1, by omega⟩
   have hF' : f ≤ F := by omega
   simp only [pL] at h ⊢
   cases hk : blk false r with
   | nil => rw [hk] at h; cases h
   | cons c q =>
    rw [hk] at h
    rw [blk_ext r x false hk]
    simp only at h ⊢
    cases h1 : decide (c = 41) with
    | true => rw [h1] at h; simp only [cond_true] at h ⊢; cases h; exact .inl rfl
    | false =>
     rw [h1] at h
     simp only [cond_false] at h ⊢
     cases hq : pD f (deep + 1) (c :: q) n with
     | inl e => rw [hq] at h; cases h
     | inr y =>
      obtain ⟨d, r', n'⟩ := y
      rw [hq] at h
      simp only at h
      have := ihD F (deep + 1) (c :: q) n _ hF' hq
      rw [List.cons_append] at this
      rcases this with h8 | ⟨h8, h9⟩
      ·rw [h8]; simp only; exact ihL F deep (acc ++ [d]) r' n' a hF' h
      ·rw [h8]; exact .inr ⟨rfl, h9⟩
/-- Data on lines, and more lines behind. -/
theorem t_line (t : Str) : ∀ (f F : Nat) (acc : List Datum) (r : Str) (n : Nat) (l : List Datum) (n' : Nat), pT f acc r n = .inr (l, n') → f ≤ F → ∃ G, F + 1 ≤ G + f ∧ pT F acc (r ++ 10 :: t) n = pT G l t n'
 | 0, F, acc, r, n, l, n', h, _ => by cases h
 | f + 1, F, acc, r, n, l, n', h, hF => by
  obtain ⟨F, rfl⟩ : ∃ G, F = G + 1 := ⟨F - 1, by omega⟩
  simp only [pT] at h
  cases hk : blk false r with
  | nil =>
   rw [hk] at h
   simp only at h
   cases h
   refine ⟨F + 1, by omega, ?_⟩
   simp only [pT]
   rw [blk_line r t false hk]
  | cons c q =>
   rw [hk] at h
   simp only at h
   cases hq : pD f 1 (c :: q) n with
   | inl e => rw [hq] at h; cases h
   | inr y =>
    obtain ⟨d, r', n2⟩ := y
    rw [hq] at h
    simp only at h
    have hb : Brk (10 :: t) := by show letterB 10 = false; decide
    have := (p_more (10 :: t) 0 hb f).1 F 1 (c :: q) n _ (by omega) hq
    rw [List.cons_append] at this
    obtain ⟨G, g1, g2⟩ := t_line t f F (acc ++ [d]) r' n2 l n' h (by omega)
    refine ⟨G, by omega, ?_⟩
    rw [← g2]
    conv => lhs; unfold pT
    rw [blk_ext r (10 :: t) false hk]
    simp only
    rcases this with h8 | ⟨_, h9⟩
    ·rw [Nat.add_zero] at h8; rw [h8]; rfl
    ·exact absurd rfl h9
/-- A note goes on to its line's end. -/
theorem blk_note : ∀ (note t : Str), (10 : UInt8) ∉ note → blk true (note ++ 10 :: t) = blk false t
 | [], t, _ => by simp [blk]
 | c :: r, t, h => by
  simp only [List.mem_cons, not_or] at h
  simp only [List.cons_append, blk]
  rw [show decide (c = 10) = false by simp; exact fun e => h.1 e.symm, cond_false]
  exact blk_note r t h.2
theorem blk_note_end : ∀ (note : Str), (10 : UInt8) ∉ note → blk true note = []
 | [], _ => by simp [blk]
 | c :: r, h => by
  simp only [List.mem_cons, not_or] at h
  simp only [blk]
  rw [show decide (c = 10) = false by simp; exact fun e => h.1 e.symm, cond_false]
  exact blk_note_end r h.2
/-- BLANKS AND NOTES SAY NOTHING. -/
theorem blanks {s note : Str} {a : List Datum} (ha : readR s = .inr a) (hn : (10 : UInt8) ∉ note) (hl : s.length + 2 * note.length + 6 ≤ 6000) :
  readR ([59] ++ note ++ [10, 32, 9] ++ s ++ [10, 59] ++ note) = .inr a := by
 obtain ⟨h1, n1, ha⟩ := read_ok.1 ha
 have e : [59] ++ note ++ [10, 32, 9] ++ s ++ [10, 59] ++ note = 59 :: (note ++ 10 :: (32 :: 9 :: (s ++ 10 :: (59 :: note)))) := by simp
 rw [e]
 generalize hz : (59 : UInt8) :: (note ++ 10 :: (32 :: 9 :: (s ++ 10 :: (59 :: note)))) = z
 have hlen : z.length = s.length + 2 * note.length + 6 := by rw [← hz]; simp; omega
 obtain ⟨G, g1, g2⟩ := t_line (59 :: note) _ (2 * z.length + 3) [] s 0 a n1 ha (by omega)
 refine read_ok.2 ⟨by omega, n1, ?_⟩
 have hb : blk false z = blk false (s ++ 10 :: (59 :: note)) := by
  rw [← hz]
  have i1 : isBlank 59 = false := by decide
  have i2 : isBlank 32 = true := by decide
  have i3 : isBlank 9 = true := by decide
  conv => lhs; unfold blk
  rw [i1, cond_false, show decide ((59 : UInt8) = 59) = true by decide, cond_true, blk_note note _ hn]
  simp only [blk, i2, i3, cond_true]
 have h3 : pT (2 * z.length + 3) [] z 0 = pT (2 * z.length + 3) [] (s ++ 10 :: (59 :: note)) 0 := by
  simp only [pT]; rw [hb]
 rw [h3, g2]
 obtain ⟨G, rfl⟩ : ∃ G', G = G' + 1 := ⟨G - 1, by omega⟩
 simp only [pT]
 have : blk false (59 :: note) = [] := by
  have i1 : isBlank 59 = false := by decide
  conv => lhs; unfold blk
  rw [i1, cond_false, show decide ((59 : UInt8) = 59) = true by decide, cond_true, blk_note_end note hn]
 rw [this]
end Go.Proofs.YtcdnooalfkbmgaaGreatDoor.Gx
open Nat (reduceEqDiff reduceAdd reduceLT reduceLeDiff reduceMul)
namespace Go.Proofs.YtcdnooalfkbmgaaGreatDoor.Gx
open Go Go.Proofs.YtcdnooalfkbmgaaGreatDoor.Gw
set_option linter.unusedSimpArgs false
set_option linter.unusedVariables false
/-- A text's bytes as rows. -/
def bytesV (s : Str) : List (List V) := s.map fun c => [V.int .u8 c.toNat]
theorem bytesV_len (s : Str) : (bytesV s).length = s.length := by simp [bytesV]
theorem bytesV_flat : ∀ s : Str, (bytesV s).flatten = s.map fun c => V.int .u8 c.toNat
 | [] => rfl
 | c :: r => by have := bytesV_flat r; simp only [bytesV, List.map_cons, List.flatten_cons] at *; rw [this]; rfl
theorem sim_bytes {g : G} {w : World} : ∀ {s : Str} {xs : List Value}, SimVs g w (s.map fun c => V.int .u8 c.toNat) xs → xs = s.map fun c => Value.int .u8 c.toNat
 | [], xs, h => by simpa [SimVs] using h
 | c :: r, xs, h => by
  simp only [List.map_cons, SimVs, SimV] at h
  obtain ⟨v, t, rfl, rfl, h2⟩ := h
  rw [sim_bytes h2]; rfl
set_option maxHeartbeats 1000000 in
set_option maxRecDepth 100000 in
theorem copyCheck_used (p : Nat) (w : World) (h0 : w.cell? ⟨p, 0, none⟩ = some (.pointer (some ⟨p, 0, none⟩))) :
  Calls Tryz.prog 78 #[.pointer (some ⟨p, 0, none⟩)] w fun e w' => e = .returned (.tuple #[]) ∧ w' = w := by
 obtain ⟨j, hj, _⟩ := Option.map_eq_some_iff.1 (show (Tryz.prog.info? 65).map (·.size) = some 2 by kernel_rfl)
 go_enter Tryz.func78, Tryz.ntmps78
 go_wp2
 rw [Lib.run_neq_ptr_same w _ Tryz.underlying63 hj]
 go_wp2
 go_end0
 exact ⟨rfl, rfl⟩
set_option maxHeartbeats 1000000 in
set_option maxRecDepth 100000 in
theorem copyCheck_fresh (T k p : Nat) (w : World) (h0 : w.cell? ⟨p, 0, none⟩ = some (.pointer none)) (hsh : w.shape? p = some (T, k)) (hk : 0 < k) (hfz : w.frozen? ⟨p, 0, none⟩ = false)
  (hl : liesAt Tryz.prog Tryz.prog.depth T (k / Tryz.prog.cellsOf T) 0 65 1 = true) :
  Calls Tryz.prog 78 #[.pointer (some ⟨p, 0, none⟩)] w fun e w' => e = .returned (.tuple #[]) ∧ w' = w.setCell ⟨p, 0, none⟩ (.pointer (some ⟨p, 0, none⟩)) := by
 obtain ⟨j, hj, hjs⟩ := Option.map_eq_some_iff.1 (show (Tryz.prog.info? 65).map (·.size) = some 2 by kernel_rfl)
 go_enter Tryz.func78, Tryz.ntmps78
 go_wp2
 rw [Lib.run_to_unsafe w ⟨p, 0, none⟩ Tryz.underlying63 Tryz.underlying157 hj (by rw [hjs]; decide) hsh hk]
 simp only [Result.andThen]
 rw [Oper.upon_value]
 go_wp2
 rw [run_callFunc_extern Tryz.func92 (by kernel_rfl) (by kernel_rfl) (by kernel_rfl) (e := Extern.AbiNoEscape.same) (by kernel_rfl)]
 rw [Lib.run_noEscape]
 simp only [Result.andThen]
 rw [Oper.upon_value]
 go_wp2
 rw [Lib.run_from_unsafe w ⟨p, 0, none⟩ Tryz.underlying157 Tryz.underlying63 hj hsh hl]
 simp only [Result.andThen]
 rw [Oper.upon_value]
 go_wp2
 go_end0
 exact ⟨rfl, rfl⟩
/-- What the box says of the builder's own cells. -/
theorem c_copyCheck {T k : Nat} (st : St) (b : Nat) (r : List V) (hb : st[b]? = some (.box (.addr b T k :: r))) (hl : liesAt Tryz.prog Tryz.prog.depth T (k / Tryz.prog.cellsOf T) 0 65 1 = true) :
  VCalls Tryz.prog TT 78 [.ptr b 0] st fun q st' => q = .ret (.tup []) ∧ st' = st := by
 refine ⟨⟨_, Tryz.func78, by kernel_rfl, by kernel_rfl⟩, fun g w vals hst hv => ?_⟩
 simp only [SimVs, SimV] at hv
 obtain ⟨_, _, rfl, ⟨hbn, rfl⟩, rfl⟩ := hv
 have hent := hst.ent b _ hb
 simp only [SimE, SimVs, SimV] at hent
 obtain ⟨hown, vs, t, hheap, ⟨p, rs, rfl, ⟨h1, hsh, hp⟩, hrs⟩, hone⟩ := hent
 have hkk : k = rs.length + 1 ∧ T = t := by
  rw [World.shape?, hheap] at hsh
  simp at hsh
  exact ⟨hsh.2.symm, hsh.1.symm⟩
 rcases hp with rfl | rfl
 ·refine (copyCheck_fresh T k (g.pb b) w (by simp [World.cell?, hheap]) hsh (by omega) (by simp [World.frozen?, hheap]) hl).mono ?_
  rintro e w' ⟨rfl, rfl⟩
  rw [Go.setCell_eq_setRow w (g.pb b) 0 _ t (0, 0) _ hheap]
  have hset : ((Value.pointer none :: rs).toArray.setIfInBounds 0 (.pointer (some ⟨g.pb b, 0, none⟩))) = (Value.pointer (some ⟨g.pb b, 0, none⟩) :: rs).toArray := by simp
  rw [hset]
  obtain ⟨s1, s2⟩ := hst.write (c' := .addr b T k :: r) (vs' := Value.pointer (some ⟨g.pb b, 0, none⟩) :: rs) hb hheap (by
   simp only [SimVs, SimV]; exact ⟨_, _, rfl, ⟨h1, hsh, .inr rfl⟩, hrs⟩) (fun u hu => by
   rcases List.mem_cons.1 hu with rfl | hu
   ·rfl
   ·exact hone u (by simp [hu])) (by simp)
  have hst' : st.set b (.box (.addr b T k :: r)) = st := by
   obtain ⟨hlt, he⟩ := List.getElem?_eq_some_iff.1 hb
   rw [← he]; exact List.set_getElem_self hlt
  rw [hst'] at s1
  exact ⟨_, st, g, ⟨rfl, rfl⟩, ⟨_, rfl, by simp [SimV, SimVs]⟩, s1, s2⟩
 ·refine (copyCheck_used (g.pb b) w (by simp [World.cell?, hheap])).mono ?_
  rintro e w' ⟨rfl, rfl⟩
  exact ⟨_, st, g, ⟨rfl, rfl⟩, ⟨_, rfl, by simp [SimV, SimVs]⟩, hst, Ext.refl _ _⟩
/-- A builder that holds a text: its box, its bytes. -/
structure IsB (st : St) (b t T k : Nat) (s : Str) (r : List V) : Prop where
 box : st[b]? = some (.box (.addr b T k :: .arr t s.length :: r))
 arr : st[t]? = some (.arr 5 1 (bytesV s))
 lies : liesAt Tryz.prog Tryz.prog.depth T (k / Tryz.prog.cellsOf T) 0 65 1 = true
def bput (st : St) (b t T k : Nat) (s : Str) (r : List V) : St := (st.set t (.arr 5 1 (bytesV s))).set b (.box (.addr b T k :: .arr t s.length :: r))
section
variable {st : St} {b t T k : Nat} {s : Str} {r : List V}
theorem IsB.ne (h : IsB st b t T k s r) : b ≠ t := fun e => by
 have h1 := h.box
 rw [e, h.arr] at h1
 cases h1
theorem IsB.put (h : IsB st b t T k s r) (s' : Str) : IsB (bput st b t T k s' r) b t T k s' r where
 box := by
  simp only [bput]
  rw [List.getElem?_set_self (by rw [List.length_set]; exact (List.getElem?_eq_some_iff.1 h.box).1)]
 arr := by
  simp only [bput]
  rw [List.getElem?_set_ne h.ne, List.getElem?_set_self (List.getElem?_eq_some_iff.1 h.arr).1]
 lies := h.lies
theorem bput_bput (h : b ≠ t) (s' : Str) : bput (bput st b t T k s r) b t T k s' r = bput st b t T k s' r := by
 simp only [bput]
 rw [List.set_comm _ _ h, List.set_set, List.set_set]
theorem bput_len : (bput st b t T k s r).length = st.length := by simp [bput]
theorem IsB.same (h : IsB st b t T k s r) : bput st b t T k s r = st := by
 simp only [bput]
 obtain ⟨h1, h2⟩ := List.getElem?_eq_some_iff.1 h.arr
 obtain ⟨h3, h4⟩ := List.getElem?_eq_some_iff.1 h.box
 rw [← h2, List.set_getElem_self, ← h4, List.set_getElem_self]
theorem bput_ok (h : IsB st b t T k s r) (hst : St.ok st) (s' : Str) : St.ok (bput st b t T k s' r) := by
 intro e he
 rw [bput_len]
 have hb := hst _ (List.mem_of_getElem? h.box)
 rcases List.mem_or_eq_of_mem_set he with h' | rfl
 ·rcases List.mem_or_eq_of_mem_set h' with h' | rfl
  ·exact hst e h'
  ·simp only [Ent.lt, bytesV]
   have : ∀ l : Str, ltRows st.length (l.map fun c => [V.int .u8 c.toNat]) := fun l => by
    induction l with
    | nil => trivial
    | cons a l ih => exact ⟨⟨trivial, trivial⟩, ih⟩
   exact this s'
 ·simp only [Ent.lt, ltL, V.lt] at hb ⊢
  exact hb
end
theorem c_WriteByte {st : St} {b t T k : Nat} {s : Str} {r : List V} (h : IsB st b t T k s r) (c : UInt8) (hl : s.length < 100000000000000) :
  VCalls Tryz.prog TT 55 [.ptr b 0, .int .u8 c.toNat] st fun q st' => q = .ret .nili ∧ st' = bput st b t T k (s ++ [c]) r := by
 refine vfun TT_ok (an := anL []) (L := [0, 1, 4]) (rs := [.tmp 4]) Tryz.func55 rfl (by kernel_rfl) rfl Tryz.ntmps55 rfl rfl (Nat.le_of_eq bput_len.symm) fun hst ha hf => ?_
 have hb := h.box
 have ht := h.arr
 have hb2 : ∀ e, (st.set t e)[b]? = some (.box (.addr b T k :: .arr t s.length :: r)) := fun e => by rw [List.getElem?_set_ne h.ne.symm]; exact hb
 simp only [gw0, reduceEqDiff, ↓reduceIte, reduceAdd, reduceLT, reduceLeDiff, reduceMul]
 refine (c_copyCheck st b _ hb h.lies).use (wkL_refl _) fun _ => ?_
 simp only [gw0, reduceEqDiff, ↓reduceIte, reduceAdd, reduceLT, reduceLeDiff, reduceMul, hb, ht, hb2, bytesV_len]
 refine ⟨by omega, ?_⟩
 have e : (st.set t (.arr 5 1 (bytesV s ++ [[V.int .u8 c.toNat]]))).set b (.box (.addr b T k :: .arr t (s.length + 1) :: r)) = bput st b t T k (s ++ [c]) r := by
  simp [bput, bytesV]
 rw [e]
 exact gives_self (by simp [V.lt]) (bput_ok h hst _)
theorem c_WriteString {st : St} {b t T k : Nat} {s : Str} {r : List V} (h : IsB st b t T k s r) (x : Str) (hl : s.length + x.length < 100000000000000) :
  VCalls Tryz.prog TT 54 [.ptr b 0, .str x] st fun q st' => q = .ret (.tup [.int .i64 x.length, .nili]) ∧ st' = bput st b t T k (s ++ x) r := by
 refine vfun TT_ok (an := anL []) (L := [0, 1, 4, 5]) (rs := [.tmp 4, .tmp 5]) Tryz.func54 rfl (by kernel_rfl) rfl Tryz.ntmps54 rfl rfl (Nat.le_of_eq bput_len.symm) fun hst ha hf => ?_
 have hb := h.box
 have ht := h.arr
 have hb2 : ∀ e, (st.set t e)[b]? = some (.box (.addr b T k :: .arr t s.length :: r)) := fun e => by rw [List.getElem?_set_ne h.ne.symm]; exact hb
 simp only [gw0, reduceEqDiff, ↓reduceIte, reduceAdd, reduceLT, reduceLeDiff, reduceMul]
 refine (c_copyCheck st b _ hb h.lies).use (wkL_refl _) fun _ => ?_
 simp only [gw0, reduceEqDiff, ↓reduceIte, reduceAdd, reduceLT, reduceLeDiff, reduceMul, hb, ht, hb2, bytesV_len, List.length_map]
 refine ⟨by omega, ?_⟩
 have e : (st.set t (.arr 5 1 (bytesV s ++ x.map fun b => [V.int .u8 b.toNat]))).set b (.box (.addr b T k :: .arr t (s.length + x.length) :: r)) = bput st b t T k (s ++ x) r := by
  simp [bput, bytesV]
 rw [e]
 exact gives_self (by simp [V.lt, ltL]) (bput_ok h hst _)
theorem c_Len {st : St} {b t T k : Nat} {s : Str} {r : List V} (h : IsB st b t T k s r) :
  VCalls Tryz.prog TT 25 [.ptr b 0] st fun q st' => q = .ret (.int .i64 s.length) ∧ st' = st := by
 refine vfun TT_ok (an := anL []) (L := [0, 2]) (rs := [.tmp 2]) Tryz.func25 rfl (by kernel_rfl) rfl Tryz.ntmps25 rfl rfl (Nat.le_refl _) fun hst ha hf => ?_
 have hb := h.box
 have ht := h.arr
 simp only [gw0, reduceEqDiff, ↓reduceIte, reduceAdd, reduceLT, reduceLeDiff, reduceMul, hb, ht]
 exact gives_int rfl hst
set_option maxHeartbeats 2000000 in
set_option maxRecDepth 100000 in
theorem string_row (p g cap : Nat) (s : Str) (w : World) (c0 : w.cell? ⟨p, 1, none⟩ = some (.slice (some ⟨g, 0, none⟩) s.length cap)) (h0 : s ≠ []) (hc : s.length ≤ cap) (hm : cap ≤ maxLen) (cells : Nat) (hsh : w.shape? g = some (5, cells)) (hcs : s.length ≤ cells)
  (hcell : ∀ j x, s[j]? = some x → w.cell? ((⟨g, 0, none⟩ : Addr).add j) = some (.int .u8 x.toNat)) :
  Calls Tryz.prog 26 #[.pointer (some ⟨p, 0, none⟩)] w fun e w' => e = .returned (.string ⟨s.toArray⟩) ∧ w' = w.drew.freeze ⟨g, 0, none⟩ s.length := by
 have hl0 : s.length ≠ 0 := by simpa using h0
 have c1 : w.drew.cell? ⟨p, 1, none⟩ = some (.slice (some ⟨g, 0, none⟩) s.length cap) := c0
 have hSD : (Builtin.unsafeSliceData_ #[25] 116 #[.slice (some ⟨g, 0, none⟩) s.length cap]).run Tryz.prog w.drew = .ok (.pointer (some ⟨g, 0, none⟩)) w.drew :=
  Lib.run_unsafeSliceData_row _ _ _ _ _ _ (by omega)
 have hUS : (Builtin.unsafeString_ #[116, 3] 9 #[.pointer (some ⟨g, 0, none⟩), .int .i64 s.length]).run Tryz.prog w.drew = .ok (.string ⟨s.toArray⟩) (w.drew.freeze ⟨g, 0, none⟩ s.length) :=
  Lib.run_unsafeString_row w.drew 116 3 9 5 Tryz.underlying116 (by kernel_rfl) g cells hsh s h0 hcs (by unfold maxLen at hm; omega) hcell
 go_enter Tryz.func26, Tryz.ntmps26
 go_wp2
 go_region
 all_goals (go_wp2; go_ret; exact ⟨rfl, rfl⟩)
set_option maxHeartbeats 2000000 in
set_option maxRecDepth 100000 in
theorem string_nil (p : Nat) (w : World) (c0 : w.cell? ⟨p, 1, none⟩ = some (.slice none 0 0)) :
  Calls Tryz.prog 26 #[.pointer (some ⟨p, 0, none⟩)] w fun e w' => e = .returned (.string ⟨#[]⟩) ∧ w' = w.drew := by
 have hUS : ∀ (W : World) (q : Option Addr), (Builtin.unsafeString_ #[116, 3] 9 #[.pointer q, .int .i64 0]).run Tryz.prog W = .ok (.string .empty) W := fun W q => Lib.run_unsafeString_none W _ _ _ q
 have c1 : w.drew.cell? ⟨p, 1, none⟩ = some (.slice none 0 0) := c0
 have hSD : (Builtin.unsafeSliceData_ #[25] 116 #[.slice none 0 0]).run Tryz.prog w.drew = .ok (.pointer none) w.drew := rfl
 go_enter Tryz.func26, Tryz.ntmps26
 go_wp2
 go_region
 all_goals (go_wp2; go_ret; exact ⟨rfl, rfl⟩)
set_option maxHeartbeats 2000000 in
set_option maxRecDepth 100000 in
theorem string_room (p g cap : Nat) (w : World) (hc0 : cap ≠ 0) (c0 : w.cell? ⟨p, 1, none⟩ = some (.slice (some ⟨g, 0, none⟩) 0 cap)) :
  Calls Tryz.prog 26 #[.pointer (some ⟨p, 0, none⟩)] w fun e w' => e = .returned (.string ⟨#[]⟩) ∧ w' = w.drew := by
 have hUS : ∀ (W : World) (q : Option Addr), (Builtin.unsafeString_ #[116, 3] 9 #[.pointer q, .int .i64 0]).run Tryz.prog W = .ok (.string .empty) W := fun W q => Lib.run_unsafeString_none W _ _ _ q
 have c1 : w.drew.cell? ⟨p, 1, none⟩ = some (.slice (some ⟨g, 0, none⟩) 0 cap) := c0
 have hSD : (Builtin.unsafeSliceData_ #[25] 116 #[.slice (some ⟨g, 0, none⟩) 0 cap]).run Tryz.prog w.drew = .ok (.pointer (some ⟨g, 0, none⟩)) w.drew :=
  Lib.run_unsafeSliceData_row _ _ _ _ _ _ hc0
 clear hc0
 go_enter Tryz.func26, Tryz.ntmps26
 go_wp2
 go_region
 all_goals (go_wp2; go_ret; exact ⟨rfl, rfl⟩)
set_option maxHeartbeats 2000000 in
set_option maxRecDepth 100000 in
theorem string_noroom (p g : Nat) (w : World) (hlt : p < w.heap.size) (c0 : w.cell? ⟨p, 1, none⟩ = some (.slice (some ⟨g, 0, none⟩) 0 0)) (sh : TypeId × Nat) (hsh : w.shape? g = some sh) :
  Calls Tryz.prog 26 #[.pointer (some ⟨p, 0, none⟩)] w fun e w' => e = .returned (.string ⟨#[]⟩) ∧ w' = w.drew.alloc (.view ⟨g, 0, none⟩ 5) := by
 have hUS : ∀ (W : World) (q : Option Addr), (Builtin.unsafeString_ #[116, 3] 9 #[.pointer q, .int .i64 0]).run Tryz.prog W = .ok (.string .empty) W := fun W q => Lib.run_unsafeString_none W _ _ _ q
 have c1 : w.drew.cell? ⟨p, 1, none⟩ = some (.slice (some ⟨g, 0, none⟩) 0 0) := c0
 have hSD : (Builtin.unsafeSliceData_ #[25] 116 #[.slice (some ⟨g, 0, none⟩) 0 0]).run Tryz.prog w.drew = .ok (.pointer (some ⟨w.drew.heap.size, 0, none⟩)) (w.drew.alloc (.view ⟨g, 0, none⟩ 5)) :=
  Lib.run_unsafeSliceData_zero w.drew _ _ 5 Tryz.underlying116 ⟨g, 0, none⟩ 0 sh hsh
 have c2 : (w.drew.alloc (.view ⟨g, 0, none⟩ 5)).cell? ⟨p, 1, none⟩ = some (.slice (some ⟨g, 0, none⟩) 0 0) := by
  have := Go.RowKit.Below.heap_alloc w.drew (.view ⟨g, 0, none⟩ 5) p hlt
  rw [cell_of_block (w := w.drew) this]; exact c1
 have c3 : (w.alloc (.view ⟨g, 0, none⟩ 5)).drew.cell? ⟨p, 1, none⟩ = some (.slice (some ⟨g, 0, none⟩) 0 0) := c2
 go_enter Tryz.func26, Tryz.ntmps26
 go_wp2
 go_region
 all_goals (go_wp2; go_ret; exact ⟨rfl, rfl⟩)
theorem frz_eq (w : World) (a : Addr) (n : Nat) (h : n ≠ 0) : w.freeze a n = { w with heap := (w.freeze a n).heap } := by
 unfold World.freeze; rw [if_neg h]
theorem frz_other (w : World) (b n c : Nat) (h : c ≠ b) : (w.freeze ⟨b, 0, none⟩ n).heap[c]? = w.heap[c]? := by
 unfold World.freeze
 split
 ·rfl
 ·simp [Array.getElem?_modify, Ne.symm h]
theorem frz_self (w : World) (b n : Nat) {cur : Array Value} {e : TypeId} (h : w.heap[b]? = some (.cells cur e (0, 0))) (hn : n ≠ 0) : (w.freeze ⟨b, 0, none⟩ n).heap[b]? = some (.cells cur e (0, n)) := by
 unfold World.freeze
 rw [if_neg hn]
 simp [Array.getElem?_modify, h]
theorem frz_cell (w : World) (b n : Nat) (a : Addr) {cur : Array Value} {e : TypeId} (h : w.heap[b]? = some (.cells cur e (0, 0))) : (w.freeze ⟨b, 0, none⟩ n).cell? a = w.cell? a := by
 by_cases hn : n = 0
 ·subst hn; rfl
 by_cases hb : a.block = b
 ·have := frz_self w b n h hn
  simp only [World.cell?, hb, this, h]
 ·simp only [World.cell?, frz_other w b n _ hb]
/-- What was written; its bytes are written no more. -/
theorem c_String {st : St} {b t T k : Nat} {s : Str} {r : List V} (h : IsB st b t T k s r) :
  VCalls Tryz.prog TT 26 [.ptr b 0] st fun q st' => q = .ret (.str s) ∧ st' = st.set t .gone := by
 refine ⟨⟨_, Tryz.func26, by kernel_rfl, by kernel_rfl⟩, fun g w vals hst hv => ?_⟩
 simp only [SimVs, SimV] at hv
 obtain ⟨_, _, rfl, ⟨hbn, rfl⟩, rfl⟩ := hv
 have hent := hst.ent b _ h.box
 simp only [SimE, SimVs, SimV] at hent
 obtain ⟨hown, vs, ty, hheap, ⟨p, rs, rfl, _, u, rs2, rfl, ⟨ht1, ht2, ht3, a, cap, rfl⟩, hrs⟩, hone⟩ := hent
 obtain ⟨m1, m2, xs, ⟨t1, t2, t3⟩, m3, m4⟩ := hst.ent t _ h.arr
 rw [bytesV_len] at t1 t2 t3
 have htv := ht3 t1
 replace t3 := tip2 t3 rfl
 have c0 : w.cell? ⟨g.pb b, 1, none⟩ = some (.slice a s.length cap) := by simp [World.cell?, hheap]
 have hlt := (Array.getElem?_eq_some_iff.1 hheap).1
 have hmel : ∀ (g' : G) (w' : World), Ext g w g' w' → g'.n = g.n → (∀ o, g'.pb o = g.pb o) → (∀ o, g'.len o = g.len o ∧ g'.tv o = g.tv o) → (∀ c, c < w.heap.size → blkOf g t (.arr 5 1 (bytesV s)) ≠ some c → (g.own c).isSome = true → w'.heap[c]? = w.heap[c]? ∧ g'.own c = g.own c) → SimSt TT g' (st.set t .gone) w' := fun g' w' hx e1 e2 e3 e4 =>
  hst.upd h.arr hx e1 e2 (fun o _ => e3 o) e4 trivial (fun c hc => by simp [blkOf] at hc)
 have hd := Ext.drew g w
 have fin : ∀ (g' : G) (w' : World), SimSt TT g' (st.set t .gone) w' → Ext g w g' w' → ∃ q st' g'', (q = VEnd.ret (.str s) ∧ st' = st.set t .gone) ∧ SimEnd g'' w' q (.returned (.string ⟨s.toArray⟩)) ∧ SimSt TT g'' st' w' ∧ Ext g w g'' w' := fun g' w' h1 h2 =>
  ⟨_, _, g', ⟨rfl, rfl⟩, ⟨_, rfl, by
   simp only [SimV]
   refine ⟨trivial, ?_⟩
   rcases t3 with ⟨q0, _⟩ | ⟨b', cap', cur, k1, k2, k3, k4, k5, _⟩
   ·omega
   ·have : maxLen = 9223372036854775807 := rfl
    omega⟩, h1, h2⟩
 rcases t3 with ⟨q0, q1⟩ | ⟨b', cap', cur, k1, k2, k3, k4, k5, k6, k7⟩
 ·have hs : s = [] := List.eq_nil_of_length_eq_zero q0
  subst hs
  rw [htv] at q1; simp only [List.length_nil, Value.slice.injEq, true_and] at q1
  obtain ⟨rfl, rfl⟩ := q1
  refine (string_nil (g.pb b) w c0).mono ?_
  rintro e w' ⟨rfl, rfl⟩
  have := fin g w.drew (hmel g w.drew hd rfl (fun _ => rfl) (fun _ => ⟨rfl, rfl⟩) (fun _ _ _ _ => ⟨rfl, rfl⟩)) hd
  exact this
 ·rw [htv] at k1; cases k1
  simp only [Nat.zero_add, Nat.add_zero, List.drop_zero] at k2 k6 k7
  by_cases hs : s = []
  ·subst hs
   by_cases hc : cap = 0
   ·subst hc
    refine (string_noroom (g.pb b) b' w hlt c0 (5, cur.size) (by rw [World.shape?, k3])).mono ?_
    rintro e w' ⟨rfl, rfl⟩
    have hx := Ext.allocD g w (.view ⟨b', 0, none⟩ 5) none
    exact fin _ _ (hmel _ _ hx rfl (fun _ => rfl) (fun _ => ⟨rfl, rfl⟩) (fun c hc _ _ => ⟨Go.RowKit.Below.heap_alloc w.drew _ c hc, by simp only [G.new]; rw [if_neg (by omega)]⟩)) hx
   ·refine (string_room (g.pb b) b' cap w hc c0).mono ?_
    rintro e w' ⟨rfl, rfl⟩
    exact fin g w.drew (hmel g w.drew hd rfl (fun _ => rfl) (fun _ => ⟨rfl, rfl⟩) (fun _ _ _ _ => ⟨rfl, rfl⟩)) hd
  ·have hsz : (TT 5).size = 1 := m1.symm
   rw [hsz, Nat.mul_one] at k6 k7
   rw [bytesV_flat] at m3
   have hxs := sim_bytes m3
   refine (string_row (g.pb b) b' cap s w c0 hs k4 k5 cur.size (by rw [World.shape?, k3]) (by omega) (fun j x hj => ?_)).mono ?_
   ·have hj' : xs[j]? = some (.int .u8 x.toNat) := by rw [hxs]; simp [hj]
    rw [← k7] at hj'
    have hjl : j < s.length := (List.getElem?_eq_some_iff.1 hj).1
    rw [List.getElem?_take_of_lt hjl] at hj'
    rw [Addr.add_eq rfl]
    simp only [World.cell?, k3, Nat.zero_add]
    simpa using hj'
   ·rintro e w' ⟨rfl, rfl⟩
    have hn0 : s.length ≠ 0 := by simpa using hs
    have hfz : ∀ c, c ≠ b' → (w.drew.freeze ⟨b', 0, none⟩ s.length).heap[c]? = w.heap[c]? := fun c hc => frz_other w.drew _ _ c hc
    have hx : Ext g w g (w.drew.freeze ⟨b', 0, none⟩ s.length) := by
     refine ⟨?_, ?_, ?_, ?_, Nat.le_refl _, fun _ _ => rfl, fun _ _ => Nat.le_refl _, fun _ _ _ => rfl, fun c hc hn => ⟨hfz c (fun e => by rw [e, k2] at hn; cases hn), hn⟩, fun c k' hc hk => ⟨fun off _ => frz_cell w.drew _ _ _ (by exact k3), fun k'' hk' => by rw [hk] at hk'; cases hk'; exact Nat.le_refl _⟩, fun c hc => ?_⟩
     ·rw [frz_eq _ _ _ hn0]; rfl
     ·rw [frz_eq _ _ _ hn0]; rfl
     ·rw [frz_eq _ _ _ hn0]; rfl
     ·rw [show (w.drew.freeze ⟨b', 0, none⟩ s.length).heap.size = w.drew.heap.size by unfold World.freeze; rw [if_neg hn0]; simp only [Array.size_modify]]; exact Nat.le_refl _
     ·by_cases e : c = b'
      ·subst e
       rw [World.shape?, World.shape?, frz_self w.drew _ _ (by exact k3) hn0, k3]
      ·exact shape_of_block (hfz c e)
    refine fin g _ (hmel g _ hx rfl (fun _ => rfl) (fun _ => ⟨rfl, rfl⟩) (fun c hc hne _ => ⟨hfz c (fun e => hne ?_), rfl⟩)) hx
    rw [e]
    simp only [blkOf]
    rw [htv]
    rfl
end Go.Proofs.YtcdnooalfkbmgaaGreatDoor.Gx
namespace Go.Proofs.YtcdnooalfkbmgaaGreatDoor.Gx
open Go Go.Proofs.YtcdnooalfkbmgaaGreatDoor.Gw
open Nat (reduceEqDiff reduceAdd reduceLT reduceLeDiff reduceMul)
set_option linter.unusedSimpArgs false
set_option linter.unusedVariables false
open Go.Proofs Go.Shelf in
shelf_lay LaysM.n173 Nm 173 at Tryz as YtcdnooalfkbmgaaGreatDoor.laysFI
theorem itoa_len (n : Int) (h0 : -9223372036854775808 ≤ n) (h1 : n ≤ 9223372036854775807) : (Lib.itoa n).length ≤ 21 := Lib.itoa_length_le n h0 h1
theorem c_FormatInt (st : St) (n : Int) (h0 : -9223372036854775808 ≤ n) (h1 : n ≤ 9223372036854775807) :
  VCalls Tryz.prog TT 80 [.int .i64 n, .int .i64 10] st fun r st' => r = .ret (.str (Lib.itoa n)) ∧ st' = st := by
 refine VCalls.ofBelowA ⟨_, Tryz.func80, by kernel_rfl, by kernel_rfl⟩ fun g w vals ha hv => ?_
 simp only [SimVs, SimV] at hv
 obtain ⟨_, _, rfl, rfl, _, _, rfl, rfl, rfl⟩ := hv
 have htab : Lib.TabIs Tryz.prog w "internal/strconv.uint64pow10" .u64 Lib.pow10Tab := by
  obtain ⟨_, t, x, hx⟩ := ha (0, _) (List.mem_singleton.2 rfl)
  unfold Lib.TabIs World.var?
  rw [show Tryz.prog.globalNamed "internal/strconv.uint64pow10" = some 0 by kernel_rfl, Option.bind_some, hx]
 refine ⟨.string ⟨(Lib.itoa n).toArray⟩, fun g' w' => by
  simp only [SimV]
  have := itoa_len n h0 h1
  exact ⟨trivial, by omega⟩, ?_⟩
 refine (Go.Proofs.Any.strconv_FormatInt_10 YtcdnooalfkbmgaaGreatDoor.laysFI n h0 h1 w htab).mono ?_
 rintro e w' ⟨rfl, k, os, rfl⟩
 refine ⟨rfl, rfl, rfl, rfl, ?_, fun c hc => ?_⟩
 ·simp [Go.Sort.grow]
 ·show ((w.heap ++ os)[c]?) = _
  rw [Array.getElem?_append_left hc]
mutual
/-- A datum's text. -/
def textD : Datum → Str
 | .mk k n nm s l kids => bif decide (k = 1) then Lib.itoa n else bif decide (k = 2) then (bif decide (n = 1) then [35, 116] else [35, 102]) else bif decide (k = 3) then nm else 40 :: ((spaced kids).drop 1 ++ [41])
/-- Each with a blank ahead. -/
def spaced : List Datum → Str
 | [] => []
 | d :: r => 32 :: (textD d ++ spaced r)
end
mutual
/-- Kinds, and what there is of numbers, are right. -/
def okD : Datum → Prop
 | .mk k n nm s l kids => (k = 1 ∧ -1000000000000000 ≤ n ∧ n ≤ 1000000000000000) ∨ (k = 2 ∧ (n = 0 ∨ n = 1)) ∨ (k = 3 ∧ namedB nm = true ∧ s = 0 ∧ l = 0) ∨ (k = 4 ∧ okDs kids)
def okDs : List Datum → Prop
 | [] => True
 | d :: r => okD d ∧ okDs r
end
mutual
/-- How many nodes. -/
def cntD : Datum → Nat
 | .mk k _ _ _ _ kids => 1 + bif decide (k = 4) then cntDs kids else 0
def cntDs : List Datum → Nat
 | [] => 0
 | d :: r => cntD d + cntDs r
end
theorem okDs_mem : ∀ {l : List Datum} {d : Datum}, okDs l → d ∈ l → okD d
 | x :: r, d, h, hm => by
  rcases List.mem_cons.1 hm with rfl | hm
  ·exact h.1
  ·exact okDs_mem h.2 hm
theorem spaced_app : ∀ l m : List Datum, spaced (l ++ m) = spaced l ++ spaced m
 | [], m => rfl
 | d :: r, m => by simp only [List.cons_append, spaced, spaced_app r m, List.append_assoc]
theorem small_itoa {n : Int} (h : -1000000000000000 ≤ n) (h1 : n ≤ 1000000000000000) : (Lib.itoa n).length ≤ 21 := itoa_len n (by omega) (by omega)
mutual
theorem textD_len : ∀ d : Datum, okD d → (textD d).length + 1 ≤ 22 * cntD d
 | .mk k n nm s l kids, h => by
  simp only [okD] at h
  simp only [textD, cntD]
  rcases h with ⟨rfl, h1, h2⟩ | ⟨rfl, h1⟩ | ⟨rfl, h1, _⟩ | ⟨rfl, h1⟩
  ·have := small_itoa h1 h2; simp; omega
  ·simp; cases decide (n = 1) <;> simp <;> omega
  ·simp only [namedB, Bool.and_eq_true, decide_eq_true_eq] at h1
   simp; omega
  ·have := spaced_len kids h1
   simp; omega
theorem spaced_len : ∀ l : List Datum, okDs l → (spaced l).length ≤ 22 * cntDs l
 | [], _ => by simp [spaced]
 | d :: r, h => by
  have h1 := textD_len d h.1
  have h2 := spaced_len r h.2
  simp only [spaced, cntDs, List.length_cons, List.length_append]
  omega
end
mutual
theorem shape_okD : ∀ (d : Datum) (deep c : Int), (shapeD d deep c).1 = 0 → okD d ∧ (shapeD d deep c).2 = c + cntD d
 | .mk k n nm s l kids, deep, c, h => by
  unfold shapeD at h ⊢
  simp only [okD, cntD]
  cases h1 : (decide (2000 < c + 1) || decide (40 < deep)) with
  | true => rw [h1] at h; simp at h
  | false =>
   rw [h1] at h
   simp only [cond_false] at h ⊢
   by_cases k1 : k = 1
   ·subst k1
    cases h2 : (decide (1000000000000000 < n) || decide (n < -1000000000000000)) with
    | true => simp [h2] at h
    | false =>
     simp only [Bool.or_eq_false_iff, decide_eq_false_iff_not] at h2
     exact ⟨.inl ⟨rfl, by omega, by omega⟩, by simp [h2]⟩
   by_cases k2 : k = 2
   ·subst k2
    cases h2 : (decide (n = 0) || decide (n = 1)) with
    | false => simp [h2] at h
    | true =>
     have h3 := h2
     simp only [Bool.or_eq_true, decide_eq_true_eq] at h3
     exact ⟨.inr (.inl ⟨rfl, h3⟩), by simp [h2]⟩
   by_cases k3 : k = 3
   ·subst k3
    cases h2 : namedB nm with
    | false => simp [h2] at h
    | true =>
     cases h3 : (decide (s = 0) && decide (l = 0)) with
     | false => simp [h2, h3] at h
     | true =>
      have h4 := h3
      simp only [Bool.and_eq_true, decide_eq_true_eq] at h4
      exact ⟨.inr (.inr (.inl ⟨rfl, rfl, h4⟩)), by simp [h2, h3]⟩
   by_cases k4 : k = 4
   ·subst k4
    have h' : (shapeDs kids (deep + 1) (c + 1)).1 = 0 := by simpa using h
    have := shape_okDs kids _ _ h'
    refine ⟨.inr (.inr (.inr ⟨rfl, this.1⟩)), ?_⟩
    simp [this.2]; omega
   ·simp [k1, k2, k3, k4] at h
theorem shape_okDs : ∀ (l : List Datum) (deep c : Int), (shapeDs l deep c).1 = 0 → okDs l ∧ (shapeDs l deep c).2 = c + cntDs l
 | [], _, c, _ => by simp [okDs, cntDs, shapeDs]
 | d :: r, deep, c, h => by
  simp only [shapeDs] at h ⊢
  by_cases h1 : (shapeD d deep c).1 = 0
  ·have i1 := shape_okD d deep c h1
   simp only [h1, decide_true, cond_true] at h ⊢
   have i2 := shape_okDs r deep _ h
   refine ⟨⟨i1.1, i2.1⟩, ?_⟩
   rw [i2.2, i1.2]; simp only [cntDs]; omega
  ·simp [h1] at h
end
/-- Kids behind each other, a blank between. -/
theorem take_spaced {kids : List Datum} {i : Nat} {a : Datum} (h : kids[i]? = some a) : (spaced (kids.take (i + 1))) = spaced (kids.take i) ++ (32 :: textD a) := by
 rw [take_next h, spaced_app]; simp [spaced]
theorem spaced_take_le (kids : List Datum) (i : Nat) : (spaced (kids.take i)).length ≤ (spaced kids).length := by
 have := spaced_app (kids.take i) (kids.drop i)
 rw [List.take_append_drop] at this
 rw [this]; simp
theorem dk4 : (decide ((2 : Int) = 1) = false) ∧ (decide ((3 : Int) = 1) = false) ∧ (decide ((3 : Int) = 2) = false) ∧ (decide ((4 : Int) = 1) = false) ∧ (decide ((4 : Int) = 2) = false) ∧ (decide ((4 : Int) = 3) = false) ∧ (decide ((2 : Int) = 2) = true) ∧ (decide ((3 : Int) = 3) = true) ∧ (decide ((4 : Int) = 4) = true) ∧ (decide ((1 : Int) = 1) = true) := by decide
theorem c_write (d : Datum) : ∀ (st : St) (b t T k : Nat) (s : Str) (r : List V), IsB st b t T k s r → okD d → s.length + (textD d).length < 10000000000000 →
  VCalls Tryz.prog TT 79 [.ptr b 0, .ref (encD d)] st fun q st' => q = .ret (.tup []) ∧ st' = bput st b t T k (s ++ textD d) r := by
 refine Datum.ind (p := fun d => ∀ (st : St) (b t T k : Nat) (s : Str) (r : List V), IsB st b t T k s r → okD d → s.length + (textD d).length < 10000000000000 →
  VCalls Tryz.prog TT 79 [.ptr b 0, .ref (encD d)] st fun q st' => q = .ret (.tup []) ∧ st' = bput st b t T k (s ++ textD d) r) ?_ d
 intro kd n nm sp lb kids ih st b t T k s r h hd hl
 refine vfun TT_ok (an := anL []) (L := [0, 1, 4, 8, 45, 46]) (rs := []) Tryz.func79 rfl (by kernel_rfl) rfl Tryz.ntmps79 rfl rfl (Nat.le_of_eq bput_len.symm) fun hst ha hf => ?_
 have done : ∀ x, Gives (.tup []) (bput st b t T k x r) (.ret (.tup [])) (bput st b t T k x r) := fun x => gives_self (by simp [V.lt, ltL]) (bput_ok h hst x)
 simp only [encD_mk]
 simp only [gw0, reduceEqDiff, ↓reduceIte, reduceAdd, reduceLT, reduceLeDiff, reduceMul]
 simp only [okD] at hd
 simp only [textD] at hl ⊢
 rcases hd with ⟨rfl, h1, h2⟩ | ⟨rfl, h1⟩ | ⟨rfl, h1, _⟩ | ⟨rfl, h1⟩
 ·simp only [decide_true, cond_true] at hl ⊢
  simp only [gw0, reduceEqDiff, ↓reduceIte, reduceAdd, reduceLT, reduceLeDiff, reduceMul]
  refine (c_FormatInt st n (by omega) (by omega)).use (wkL_refl _) fun _ => ?_
  simp only [gw0, reduceEqDiff, ↓reduceIte, reduceAdd, reduceLT, reduceLeDiff, reduceMul]
  refine (c_WriteString h _ (by omega)).use (wkL_refl _) fun _ => ?_
  simp only [gw0, reduceEqDiff, ↓reduceIte, reduceAdd, reduceLT, reduceLeDiff, reduceMul]
  exact done _
 ·simp only [dk4, decide_true, cond_true, cond_false] at hl ⊢
  simp only [gw0, reduceEqDiff, ↓reduceIte, reduceAdd, reduceLT, reduceLeDiff, reduceMul, dk4, decide_true]
  rcases h1 with rfl | rfl
  ·refine ⟨⟨by omega, by decide⟩, ?_⟩
   simp only [gw0, reduceEqDiff, ↓reduceIte, reduceAdd, reduceLT, reduceLeDiff, reduceMul, dk4, show Int.toNat 0 = 0 from rfl, List.getD_cons_zero]
   refine (c_WriteString h [35, 102] (by simp at hl ⊢; omega)).use (wkL_refl _) fun _ => ?_
   simp only [gw0, reduceEqDiff, ↓reduceIte, reduceAdd, reduceLT, reduceLeDiff, reduceMul]
   exact done _
  ·refine ⟨⟨by omega, by decide⟩, ?_⟩
   simp only [gw0, reduceEqDiff, ↓reduceIte, reduceAdd, reduceLT, reduceLeDiff, reduceMul, dk4, show Int.toNat 1 = 1 from rfl, List.getD_cons_succ, List.getD_cons_zero]
   refine (c_WriteString h [35, 116] (by simp at hl ⊢; omega)).use (wkL_refl _) fun _ => ?_
   simp only [gw0, reduceEqDiff, ↓reduceIte, reduceAdd, reduceLT, reduceLeDiff, reduceMul]
   exact done _
 ·simp only [dk4, decide_true, cond_true, cond_false] at hl ⊢
  simp only [gw0, reduceEqDiff, ↓reduceIte, reduceAdd, reduceLT, reduceLeDiff, reduceMul, dk4, decide_true]
  refine (c_WriteString h _ (by omega)).use (wkL_refl _) fun _ => ?_
  simp only [gw0, reduceEqDiff, ↓reduceIte, reduceAdd, reduceLT, reduceLeDiff, reduceMul]
  exact done _
 ·simp only [dk4, decide_true, cond_true, cond_false, List.length_cons, List.length_append, List.length_nil, List.length_drop] at hl ⊢
  simp only [encD_mk, fitL, V.fit, List.length_map] at hf
  have hkl : kids.length ≤ 9223372036854775807 := by simp at hf; omega
  simp only [gw0, reduceEqDiff, ↓reduceIte, reduceAdd, reduceLT, reduceLeDiff, reduceMul, dk4, decide_true]
  refine (c_WriteByte h 40 (by omega)).use (wkL_refl _) fun _ => ?_
  simp only [gw0, reduceEqDiff, ↓reduceIte, reduceAdd, reduceLT, reduceLeDiff, reduceMul, dk4, decide_true, List.length_map]
  refine vforD (σ := Nat) [0, 1, 8, 45, 46] (fun i => [(0, true, .ptr b 0), (1, true, .ref (encD (.mk 4 n nm sp lb kids))), (8, true, .int .i64 4), (45, true, .int .i64 kids.length), (46, true, .int .i64 i)]) (fun i => bput st b t T k (s ++ [40] ++ (spaced (kids.take i)).drop 1) r) (fun i => kids.length - i) (fun i => i ≤ kids.length) 0 rfl TT_ok (Nat.zero_le _) (by rw [encD_mk]; exact wkE_refl _) (by simp [spaced]) ?_
  intro i hi
  simp only [encD_mk]
  have h2 : ∀ x, IsB (bput st b t T k x r) b t T k x r := fun x => h.put x
  have hne := h.ne
  have hle := spaced_take_le kids i
  rcases at_or_end kids i hi with ⟨rfl, hdd⟩ | ⟨a, hlt2, hget, hdr⟩
  ·simp only [gw0, reduceEqDiff, ↓reduceIte, reduceAdd, reduceLT, reduceLeDiff, reduceMul, lt_no]
   rw [List.take_length] at hle ⊢
   refine (c_WriteByte (h2 _) 41 (by simp; omega)).use (wkL_refl _) fun _ => ?_
   simp only [gw0, reduceEqDiff, ↓reduceIte, reduceAdd, reduceLT, reduceLeDiff, reduceMul, bput_bput hne]
   rw [show s ++ [40] ++ (spaced kids).drop 1 ++ [41] = s ++ 40 :: ((spaced kids).drop 1 ++ [41]) by simp]
   exact done _
  ·have hle2 := spaced_take_le kids (i + 1)
   rw [take_spaced hget] at hle2
   simp only [List.length_append, List.length_cons] at hle2
   simp only [gw0, reduceEqDiff, ↓reduceIte, reduceAdd, reduceLT, reduceLeDiff, reduceMul, lt_yes hlt2, hdr, List.length_map, getD_map hget, Int.ofNat_lt.mpr hlt2]
   have hend : ∀ x : Str, x = s ++ [40] ++ (spaced (kids.take (i + 1))).drop 1 → ∀ st', st' = bput st b t T k x r → st' = bput st b t T k (s ++ [40] ++ (spaced (kids.take (i + 1))).drop 1) r := fun x e st' e2 => by rw [e2, e]
   refine iK_split (fun h5 => ?_) (fun h5 => ?_)
   ·simp only [gw0, reduceEqDiff, ↓reduceIte, reduceAdd, reduceLT, reduceLeDiff, reduceMul, h5]
    have hi0 : 0 < i := by simpa using h5
    refine (c_WriteByte (h2 _) 32 (by simp; omega)).use (wkL_refl _) fun _ => ?_
    simp only [gw0, reduceEqDiff, ↓reduceIte, reduceAdd, reduceLT, reduceLeDiff, reduceMul, bput_bput hne, getD_map hget, List.length_map, Int.ofNat_lt.mpr hlt2]
    refine (ih a (List.mem_of_getElem? hget) _ b t T k _ r (h2 _) (okDs_mem h1 (List.mem_of_getElem? hget)) (by simp; omega)).use (wkL_refl _) fun _ => ?_
    simp only [gw0, reduceEqDiff, ↓reduceIte, reduceAdd, reduceLT, reduceLeDiff, reduceMul, bput_bput hne]
    have hx : s ++ [40] ++ (spaced (kids.take i)).drop 1 ++ [32] ++ textD a = s ++ [40] ++ (spaced (kids.take (i + 1))).drop 1 := by
     rw [take_spaced hget]
     have : 1 ≤ (spaced (kids.take i)).length := by
      cases hk : kids.take i with
      | nil => rw [List.take_eq_nil_iff] at hk; rcases hk with rfl | rfl <;> simp at hlt2 hi0
      | cons x y => simp [spaced]
     rw [List.drop_append_of_le_length this]
     simp
    rw [hx]
    refine ⟨i + 1, ⟨?_, _, [], (List.append_nil _).symm, wkSt_refl _, ?_, bput_ok h hst _, by simp only [bput_len]; exact Nat.le_refl _⟩, by omega, by omega⟩
    ·simp only [gw0, reduceEqDiff, ↓reduceIte, reduceAdd, reduceLT, reduceLeDiff, reduceMul, Env.keep, next_i64 hlt2 hkl]
     exact wkE_refl _
    ·simp only [ltE, V.lt, bput_len]
     have hbl := (List.getElem?_eq_some_iff.1 h.box).1
     have := encD_lt st.length (.mk 4 n nm sp lb kids)
     rw [encD_mk] at this
     exact ⟨hbl, this, trivial, trivial, trivial, trivial⟩
   ·simp only [gw0, reduceEqDiff, ↓reduceIte, reduceAdd, reduceLT, reduceLeDiff, reduceMul, h5]
    have hi0 : i = 0 := by have := of_decide_eq_false h5; omega
    subst hi0
    simp only [gw0, reduceEqDiff, ↓reduceIte, reduceAdd, reduceLT, reduceLeDiff, reduceMul, getD_map hget, List.length_map, Int.ofNat_lt.mpr hlt2]
    refine (ih a (List.mem_of_getElem? hget) _ b t T k _ r (h2 _) (okDs_mem h1 (List.mem_of_getElem? hget)) (by simp [spaced]; omega)).use (wkL_refl _) fun _ => ?_
    simp only [gw0, reduceEqDiff, ↓reduceIte, reduceAdd, reduceLT, reduceLeDiff, reduceMul, bput_bput hne]
    have hx : s ++ [40] ++ (spaced []).drop 1 ++ textD a = s ++ [40] ++ (spaced (kids.take (0 + 1))).drop 1 := by
     rw [take_spaced hget]
     simp [spaced]
    rw [hx]
    refine ⟨0 + 1, ⟨?_, _, [], (List.append_nil _).symm, wkSt_refl _, ?_, bput_ok h hst _, by simp only [bput_len]; exact Nat.le_refl _⟩, by omega, by omega⟩
    ·simp only [gw0, reduceEqDiff, ↓reduceIte, reduceAdd, reduceLT, reduceLeDiff, reduceMul, Env.keep, next_i64 hlt2 hkl]
     exact wkE_refl _
    ·simp only [ltE, V.lt, bput_len]
     have hbl := (List.getElem?_eq_some_iff.1 h.box).1
     have := encD_lt st.length (.mk 4 n nm sp lb kids)
     rw [encD_mk] at this
     exact ⟨hbl, this, trivial, trivial, trivial, trivial⟩
end Go.Proofs.YtcdnooalfkbmgaaGreatDoor.Gx
