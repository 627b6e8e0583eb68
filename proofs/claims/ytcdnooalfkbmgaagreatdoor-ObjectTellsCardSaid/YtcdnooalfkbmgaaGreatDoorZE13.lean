/- The document's reading: the walk over a datum. The document's Read. The document's Read. The document's reading of a unit, walked (seat ZD). ObjectTells: walked (seat ZD). What a row needs: how what comes in is read. -/
import Derived.Test.YtcdnooalfkbmgaaGreatDoorZE12
import Derived.WalkKit
import Derived.ProofKit
import Derived.OpenShut
import Derived.ShutString
import Derived.ChangeOld
import Derived.Below
import Derived.SizedLaws
import Derived.Carry
import Derived.JoinedCond
import Derived.Test.YtcdnooalfkbmgaaGreatDoorRows
open Nat (reduceEqDiff reduceAdd reduceLT reduceLeDiff reduceMul)
namespace Go.Proofs.YtcdnooalfkbmgaaGreatDoor.Gx
open Go Go.Proofs.YtcdnooalfkbmgaaGreatDoor.Gw
set_option linter.unusedSimpArgs false
set_option linter.unusedVariables false
theorem c_Sym (st : St) (s : Str) : VCalls Tryz.prog TT 85 [.str s] st fun r st' => r = .ret (.agg (encD (.mk 3 0 s 0 0 []))) ∧ st' = st := by
 refine vfun TT_ok (an := anL []) (L := [0, 2]) (rs := [.cell 2 49]) Tryz.func85 rfl (by kernel_rfl) rfl Tryz.ntmps85 rfl rfl (Nat.le_refl _) fun hst ha hf => ?_
 simp only [gw0, reduceEqDiff, ↓reduceIte, reduceAdd, reduceLT, reduceLeDiff, reduceMul, encD_mk]
 exact gives_of (wk_agg (wk6 ..)) (wkSt_refl _) (by simp only [V.lt]; exact encD_lt _ (.mk 3 0 s 0 0 [])) hst
theorem c_Num (st : St) (n : Int) : VCalls Tryz.prog TT 86 [.int .i64 n] st fun r st' => r = .ret (.agg (encD (.mk 1 n [] 0 0 []))) ∧ st' = st := by
 refine vfun TT_ok (an := anL []) (L := [0, 2]) (rs := [.cell 2 49]) Tryz.func86 rfl (by kernel_rfl) rfl Tryz.ntmps86 rfl rfl (Nat.le_refl _) fun hst ha hf => ?_
 simp only [gw0, reduceEqDiff, ↓reduceIte, reduceAdd, reduceLT, reduceLeDiff, reduceMul, encD_mk]
 exact gives_of (wk_agg (wk6 ..)) (wkSt_refl _) (by simp only [V.lt]; exact encD_lt _ (.mk 1 n [] 0 0 [])) hst
theorem c_List (st : St) (l : List Datum) : VCalls Tryz.prog TT 84 [lstD l] st fun r st' => r = .ret (.agg (encD (.mk 4 0 [] 0 0 l))) ∧ st' = st := by
 refine vfun TT_ok (an := anL []) (L := [0, 2]) (rs := [.cell 2 49]) Tryz.func84 rfl (by kernel_rfl) rfl Tryz.ntmps84 rfl rfl (Nat.le_refl _) fun hst ha hf => ?_
 simp only [lstD]
 simp only [gw0, reduceEqDiff, ↓reduceIte, reduceAdd, reduceLT, reduceLeDiff, reduceMul, encD_mk]
 have := encD_lt st.length (.mk 4 0 [] 0 0 l)
 rw [encD_mk] at this
 exact gives_of (wk_refl _) (wkSt_refl _) (by simp only [V.lt]; exact this) hst
section
variable (s : Str) (st ex : St) (b p n : Nat) (f : Int × Int) (hb : b < st.length)
include hb
theorem x_skip (hp : p ≤ s.length) (hs : s.length ≤ 6000) : VCalls Tryz.prog TT 59 [.ptr b 0] (st.set b (wkN s p n f) ++ ex) fun r st' => r = .ret (.tup []) ∧ st' = st.set b (wkN s (s.length - (blk false (s.drop p)).length) n f) ++ ex := by
 have := c_skip s (st ++ ex) b p n f (by simp; omega) hp hs
 rw [set_app hb, set_app hb] at this; exact this
theorem x_good : VCalls Tryz.prog TT 60 [.ptr b 0] (st.set b (wkN s p n f) ++ ex) fun r st' => r = .ret (.bool (decide (f.1 = 0))) ∧ st' = st.set b (wkN s p n f) ++ ex := c_good s _ b p n f (get_b hb)
theorem x_good_no (hf : f.1 ≠ 0) : VCalls Tryz.prog TT 60 [.ptr b 0] (st.set b (wkN s p n f) ++ ex) fun r st' => r = .ret (.bool false) ∧ st' = st.set b (wkN s p n f) ++ ex := by
 have := c_good s _ b p n f (get_b (ex := ex) hb)
 rw [decide_eq_false hf] at this; exact this
theorem x_good_yes (hf : f.1 = 0) : VCalls Tryz.prog TT 60 [.ptr b 0] (st.set b (wkN s p n f) ++ ex) fun r st' => r = .ret (.bool true) ∧ st' = st.set b (wkN s p n f) ++ ex := by
 have := c_good s _ b p n f (get_b (ex := ex) hb)
 rw [decide_eq_true hf] at this; exact this
theorem x_stop (e q : Int) : VCalls Tryz.prog TT 83 [.ptr b 0, .int .i64 e, .int .i64 q] (st.set b (wkN s p n f) ++ ex) fun r st' => r = .ret (.tup []) ∧ st' = st.set b (wkN s p n (keepF f (e, q))) ++ ex := by
 have := c_stop s (st ++ ex) b p n f e q (by simp; omega)
 rw [set_app hb, set_app hb] at this; exact this
theorem x_count (deep q : Int) (hn : n ≤ 100000) : VCalls Tryz.prog TT 82 [.ptr b 0, .int .i64 deep, .int .i64 q] (st.set b (wkN s p n f) ++ ex) fun r st' => r = .ret (.tup []) ∧ st' = st.set b (wkN s p (n + 1) (bif decide (2000 < n + 1) || decide (40 < deep) then keepF f (4, q) else f)) ++ ex := by
 have := c_count s (st ++ ex) b p n f deep q (by simp; omega) hn
 rw [set_app hb, set_app hb] at this; exact this
end
theorem keep0 (e q : Int) : keepF (0, 0) (e, q) = (e, q) := rfl
def IHW (s : Str) (F : Nat) : Prop := ∀ f, f < F → ∀ (deep : Int) (p n : Nat) (st ex : St) (b : Nat), b < st.length → p ≤ s.length → n ≤ 2000 → 0 ≤ deep → deep ≤ 41 → 2 * (s.length - p) < f →
 VCalls Tryz.prog TT 61 [.ptr b 0, .int .i64 deep] (st.set b (wkN s p n (0, 0)) ++ ex) fun r st' => r = .ret (.agg (encD (wdD s f deep p n).d)) ∧ st' = st.set b (wkN s (wdD s f deep p n).p (wdD s f deep p n).n (wdD s f deep p n).f) ++ ex
set_option maxHeartbeats 4000000 in
theorem c_One_of (s : Str) (hs : s.length ≤ 6000) (F : Nat) (ih : IHW s (F + 1)) (deep : Int) (p n : Nat) (st : St) (b : Nat) (hlt : b < st.length) (hp : p ≤ s.length) (hn : n ≤ 2000) (hd0 : 0 ≤ deep) (hd1 : deep ≤ 41) (hF : 2 * (s.length - p) < F + 1) :
  VCalls Tryz.prog TT 61 [.ptr b 0, .int .i64 deep] (st.set b (wkN s p n (0, 0))) fun r st' => r = .ret (.agg (encD (wdD s (F + 1) deep p n).d)) ∧ st' = st.set b (wkN s (wdD s (F + 1) deep p n).p (wdD s (F + 1) deep p n).n (wdD s (F + 1) deep p n).f) := by
 refine vfun TT_ok (an := anL []) (L := [0, 1, 4, 5, 6, 7, 8, 9, 10, 12, 260, 261, 262]) (rs := [.cell 4 49]) Tryz.func61 rfl (by kernel_rfl) rfl Tryz.ntmps61 rfl rfl (by simp) fun hst ha hf => ?_
 have h63 : s.length ≤ 9223372036854775807 := by omega
 have hok : ∀ p n f, St.ok (st.set b (wkN s p n f)) := fun p n f => by have := wkN_ok (s := s) (b := b) (p := p) (n := n) (f := f) hst; rw [List.set_set] at this; exact this
 have hret : ∀ (w : WR) v ex, wk v (.agg (encD w.d)) → Gives (.agg (encD w.d)) (st.set b (wkN s w.p w.n w.f)) (.ret v) (st.set b (wkN s w.p w.n w.f) ++ ex) := fun w v ex hw => gives_of hw (wkSt_refl _) (by simp only [V.lt]; exact encD_lt _ w.d) (hok _ _ _)
 have hz : wk (.agg zeroD) (.agg (encD zeroDt)) := wk_agg (by rw [zeroDt, encD_mk]; exact wk6 ..)
 simp only [gw0, reduceEqDiff, ↓reduceIte, reduceAdd, reduceLT, reduceLeDiff, reduceMul, List.length_set, at_k, at_k0, set_k, set_k0, at_w hlt, at_w0 hlt, set_b hlt]
 refine (x_count s st _ b p n (0, 0) hlt deep p (by omega)).use (wkL_refl _) fun _ => ?_
 simp only [wdD]
 simp only [gw0, reduceEqDiff, ↓reduceIte, reduceAdd, reduceLT, reduceLeDiff, reduceMul]
 cases h0 : (decide (2000 < n + 1) || decide (40 < deep)) with
 | true =>
  simp only [cond_true, keep0]
  refine (x_good_no s st _ b p (n + 1) (4, p) hlt (by simp)).use (wkL_refl _) fun _ => ?_
  simp only [gw0, reduceEqDiff, ↓reduceIte, reduceAdd, reduceLT, reduceLeDiff, reduceMul, at_k, at_k0, set_k, set_k0, List.length_set, Bool.not_false]
  exact hret ⟨zeroDt, p, n + 1, (4, p)⟩ _ _ hz
 | false =>
 have hn1 : n + 1 ≤ 2000 := by simp at h0; omega
 have hdeep : deep ≤ 40 := by simp at h0; omega
 simp only [cond_false]
 refine (x_good_yes s st _ b p (n + 1) (0, 0) hlt rfl).use (wkL_refl _) fun _ => ?_
 simp only [gw0, reduceEqDiff, ↓reduceIte, reduceAdd, reduceLT, reduceLeDiff, reduceMul, at_w hlt, Bool.not_true]
 rcases at_or_end s p hp with ⟨hpe, hdr⟩ | ⟨c, hltp, hget, hdr⟩
 ·have hge : decide ((s.length : Int) ≤ (p : Int)) = true := decide_eq_true (by omega)
  rw [hdr]
  simp only [gw0, reduceEqDiff, ↓reduceIte, reduceAdd, reduceLT, reduceLeDiff, reduceMul, hge]
  refine (x_stop s st _ b p (n + 1) (0, 0) hlt 2 p).use (wkL_refl _) fun _ => ?_
  simp only [keep0]
  simp only [gw0, reduceEqDiff, ↓reduceIte, reduceAdd, reduceLT, reduceLeDiff, reduceMul, at_k, at_k0, set_k, set_k0, List.length_set]
  exact hret ⟨zeroDt, p, n + 1, (2, p)⟩ _ _ hz
 have hge : decide ((s.length : Int) ≤ (p : Int)) = false := decide_eq_false (by omega)
 rw [hdr]
 have hlen : p + (s.drop (p + 1)).length + 1 = s.length := by simp; omega
 have h40 : decide ((c.toNat : Int) = 40) = decide (c = 40) := byte_eq c 40
 have hE : ∀ x n f, Ent.box [V.str s, V.int .i64 (x : Nat), V.int .i64 (n : Nat), V.int .i64 (Prod.fst f), V.int .i64 (Prod.snd f)] = wkN s x n f := fun _ _ _ => rfl
 simp only [gw0, reduceEqDiff, ↓reduceIte, reduceAdd, reduceLT, reduceLeDiff, reduceMul, hge, at_w hlt, set_b hlt, getD_at hget, Int.ofNat_lt.mpr hltp, next_i64 hltp h63, h40]
 have hE0 : ∀ x n : Nat, Ent.box [V.str s, V.int .i64 x, V.int .i64 n, V.int .i64 0, V.int .i64 0] = wkN s x n (0, 0) := fun _ _ => rfl
 simp only [hE0]
 have ihf : IHW s F := fun f' h => ih f' (by omega)
 refine iK_split (fun h => ?_) (fun h => ?_)
 ·rw [h]
  simp only [cond_true]
  simp only [gw0, reduceEqDiff, ↓reduceIte, reduceAdd, reduceLT, reduceLeDiff, reduceMul, at_k, at_k0, set_k, set_k0, List.length_set]
  refine vforT (σ := Nat × List Datum × Nat × Nat × (Int × Int)) [49] [0, 1, 4, 7] (fun x => [(0, true, .ptr b 0), (1, true, .int .i64 deep), (4, true, .ptr st.length 0), (7, true, .ptr (st.length + 1) 0)]) (fun x => st.set b (wkN s x.2.2.1 x.2.2.2.1 x.2.2.2.2) ++ [.box zeroD, .box [.int .i64 4, .int .i64 0, .str [], .int .i64 0, .int .i64 0, .lst 6 (some (st.length + 2)) (x.2.1.map encD)], .tip 49 x.2.1.length]) (fun x => x.1) (fun x => (x.2.2.2.2 = (0, 0) ∧ x.2.1.length ≤ x.2.2.1 ∧ x.2.2.1 ≤ s.length ∧ x.2.2.2.1 ≤ 2000 ∧ 2 * (s.length - x.2.2.1) + 1 < x.1 ∧ x.1 ≤ F ∧ wdL s F deep [] (p + 1) (n + 1) = wdL s x.1 deep x.2.1 x.2.2.1 x.2.2.2.1) ∨ (x.2.2.2.2.1 ≠ 0 ∧ wdL s F deep [] (p + 1) (n + 1) = ⟨.mk 4 0 [] 0 0 x.2.1, x.2.2.1, x.2.2.2.1, x.2.2.2.2⟩)) (F, [], p + 1, n + 1, (0, 0)) rfl TT_ok (.inl ⟨rfl, Nat.zero_le _, by dsimp only; omega, by dsimp only; omega, by dsimp only; omega, Nat.le_refl _, rfl⟩) ?_ ?_ ?_
  ·exact wkE_refl _
  ·refine ⟨st.set b (wkN s (p + 1) (n + 1) (0, 0)) ++ [.box zeroD, .box [.int .i64 4, .int .i64 0, .str [], .int .i64 0, .int .i64 0, .lst 6 (some (st.length + 2)) []]], ?_, by simp only [gwL, tips, List.map_cons, List.map_nil, List.length_nil]⟩
   refine (wkSt_refl _).append (wkSt_cons (Ent.wkp_refl _) (wkSt_cons (Ent.wk_box ?_) wkSt_nil))
   exact wkL_cons (wk_refl _) (wkL_cons (wk_refl _) (wkL_cons (wk_refl _) (wkL_cons (wk_refl _) (wkL_cons (wk_refl _) (wkL_cons (wk_tip _ (by simp [Tips])) wkL_nil)))))
  rintro ⟨f, acc, p1, n1, flt⟩ hI
  simp only at hI ⊢
  simp only [gw0, reduceEqDiff, ↓reduceIte, reduceAdd, reduceLT, reduceLeDiff, reduceMul]
  have hd : ∀ (w : WR), wdL s F deep [] (p + 1) (n + 1) = w → w.d = .mk 4 0 [] 0 0 acc → Gives (.agg (encD (wdL s F deep [] (p + 1) (n + 1)).d)) (st.set b (wkN s (wdL s F deep [] (p + 1) (n + 1)).p (wdL s F deep [] (p + 1) (n + 1)).n (wdL s F deep [] (p + 1) (n + 1)).f)) (.ret (.agg [.int .i64 4, .int .i64 0, .str [], .int .i64 0, .int .i64 0, .lst 6 (some (st.length + 2)) (acc.map encD)])) (st.set b (wkN s w.p w.n w.f) ++ [.box [.int .i64 4, .int .i64 0, .str [], .int .i64 0, .int .i64 0, .lst 6 (some (st.length + 2)) (acc.map encD)], .box [.int .i64 4, .int .i64 0, .str [], .int .i64 0, .int .i64 0, .lst 6 (some (st.length + 2)) (acc.map encD)], .tip 49 acc.length]) := by
   rintro w rfl hw
   refine hret _ _ _ (wk_agg ?_)
   rw [hw, encD_mk]
   exact wkL_cons (wk_refl _) (wkL_cons (wk_refl _) (wkL_cons (wk_refl _) (wkL_cons (wk_refl _) (wkL_cons (wk_refl _) (wkL_cons (wk_tok _ _ _) wkL_nil)))))
  rcases hI with ⟨rfl, hacc, hp1, hn1', hf2, hfF, hI⟩ | ⟨hbad, hI⟩
  ·refine (x_good_yes s st _ b p1 n1 (0, 0) hlt rfl).use (wkL_refl _) fun _ => ?_
   simp only [gw0, reduceEqDiff, ↓reduceIte, reduceAdd, reduceLT, reduceLeDiff, reduceMul]
   refine (x_skip s st _ b p1 n1 (0, 0) hlt hp1 hs).use (wkL_refl _) fun _ => ?_
   cases f with
   | zero => omega
   | succ f =>
   simp only [wdL] at hI
   have hble := blk_le (s.drop p1) false
   have hbd := blk_drop (s.drop p1) false
   simp only [List.length_drop] at hble hbd
   rw [List.drop_drop] at hbd
   generalize hl : blk false (s.drop p1) = l at hble hbd hI ⊢
   simp only [gw0, reduceEqDiff, ↓reduceIte, reduceAdd, reduceLT, reduceLeDiff, reduceMul]
   refine vdraw TT_ok TT_mixed [0, 0, 0, 1, 0, 0, 0, 1, 0, 0] (by kernel_rfl) ?_
   cases l with
   | nil =>
    have hge2 : decide ((s.length : Int) ≤ ((s.length - 0 : Nat) : Int)) = true := decide_eq_true (by omega)
    simp only [List.length_nil]
    simp only [gw0, reduceEqDiff, ↓reduceIte, reduceAdd, reduceLT, reduceLeDiff, reduceMul, at_w hlt, hge2]
    refine (x_stop s st _ b (s.length - 0) n1 (0, 0) hlt 2 ((s.length - 0 : Nat) : Int)).use (wkL_refl _) fun _ => ?_
    simp only [keep0, Nat.sub_zero]
    simp only [gw0, reduceEqDiff, ↓reduceIte, reduceAdd, reduceLT, reduceLeDiff, reduceMul, Env.keep]
    refine ⟨(f, acc, s.length, n1, (2, (s.length : Int))), ⟨wkE_refl _, st.set b (wkN s s.length n1 (2, (s.length : Int))) ++ [.box zeroD, .box [.int .i64 4, .int .i64 0, .str [], .int .i64 0, .int .i64 0, .lst 6 (some (st.length + 2)) (acc.map encD)], .tip 49 acc.length], [], by simp, wkSt_refl _, ?_, ?_, by simp⟩, by dsimp only; omega, .inr ⟨by simp, hI⟩⟩
    ·simp only [ltE, V.lt, gwL, List.length_set]
     exact ⟨by omega, by trivial, by omega, by omega, trivial⟩
    ·refine ok_app (hok _ _ _) ⟨by simp [Ent.lt, ltL, V.lt, zeroD], ⟨?_, trivial, trivial⟩⟩
     simp only [Ent.lt, ltL, V.lt, true_and, and_true]
     exact ⟨fun e he => by cases he; simp, ltRows_map fun d _ => encD_lt _ _⟩
   | cons c1 r =>
    simp only [List.length_cons] at hble hbd hI ⊢
    have hlen1 : s.length - (r.length + 1) < s.length := by omega
    have hge2 : decide ((s.length : Int) ≤ ((s.length - (r.length + 1) : Nat) : Int)) = false := decide_eq_false (by omega)
    have hdr1 : s.drop (s.length - (r.length + 1)) = c1 :: r := by rw [hbd]; congr 1; omega
    generalize hq1 : s.length - (r.length + 1) = q1 at hlen1 hge2 hdr1 hI ⊢
    have hget1 : s[q1]? = some c1 := by
     have := congrArg (fun l => l[0]?) hdr1
     simpa using this
    simp only [gw0, reduceEqDiff, ↓reduceIte, reduceAdd, reduceLT, reduceLeDiff, reduceMul, at_w hlt, hge2]
    refine vdraw TT_ok TT_mixed [0, 0, 0, 1, 0, 0, 0, 1, 0, 0] (by kernel_rfl) ?_
    have h41 : decide ((c1.toNat : Int) = 41) = decide (c1 = 41) := byte_eq c1 41
    simp only [gw0, reduceEqDiff, ↓reduceIte, reduceAdd, reduceLT, reduceLeDiff, reduceMul, at_w hlt, getD_at hget1, Int.ofNat_lt.mpr hlen1, h41]
    refine iK_split (fun h2 => ?_) (fun h2 => ?_)
    ·rw [h2] at hI
     simp only [cond_true] at hI
     simp only [gw0, reduceEqDiff, ↓reduceIte, reduceAdd, reduceLT, reduceLeDiff, reduceMul, at_w hlt, next_i64 hlen1 h63, set_b hlt, at_k, at_k0, set_k, set_k0, List.length_set, zeroD]
     simp only [hE0]
     have hq2 : s.length - r.length = q1 + 1 := by omega
     rw [hq2] at hI
     exact hd _ hI rfl
    ·rw [h2] at hI
     simp only [cond_false] at hI
     have hwr : IntKind.i64.wrap (deep + 1) = deep + 1 := wrap_i64 (by omega) (by omega)
     have hc := ihf f (by omega) (deep + 1) q1 n1 st [.box zeroD, .box [.int .i64 4, .int .i64 0, .str [], .int .i64 0, .int .i64 0, .lst 6 (some (st.length + 2)) (acc.map encD)], .tip 49 acc.length] b hlt (by omega) hn1' (by omega) (by omega) (by omega)
     have hag := (agree s f).1 (deep + 1) q1 n1 (by omega) hn1' (by omega)
     have hfar := (rd_far s f).1 (deep + 1) q1 n1 hn1'
     generalize wdD s f (deep + 1) q1 n1 = w at hc hI hag
     obtain ⟨wd, wp, wn, wf⟩ := w
     simp only at hc hI hag
     simp only [gw0, reduceEqDiff, ↓reduceIte, reduceAdd, reduceLT, reduceLeDiff, reduceMul]
     refine vstageT TT_ok TT_mixed (σ := Unit) [st.set b (wkN s q1 n1 (0, 0)) ++ [.box zeroD, .box [.int .i64 4, .int .i64 0, .str [], .int .i64 0, .int .i64 0, .lst 6 (some (st.length + 2)) (acc.map encD)], .tip 49 acc.length], st.set b (wkN s wp wn wf) ++ [.box zeroD, .box [.int .i64 4, .int .i64 0, .str [], .int .i64 0, .int .i64 0, .lst 6 (some (st.length + 2)) (acc.map encD)], .tip 49 acc.length]] [0, 3, 0, 0, 0, 4, 0, 2, 0, 2] [0, 1, 2, 3, 4, 5, 6, 7, 8, 9] [] [] [0, 1, 4, 7] (fun _x => [(0, true, .ptr b 0), (1, true, .int .i64 deep), (4, true, .ptr st.length 0), (7, true, .ptr (st.length + 1) 0)]) (fun _x => st.set b (wkN s wp wn wf) ++ [.box zeroD, .box [.int .i64 4, .int .i64 0, .str [], .int .i64 0, .int .i64 0, .lst 6 (some (st.length + 2)) (acc.map encD ++ [encD wd])], .tip 49 (acc.length + 1)]) (fun _x => True) rfl (by kernel_rfl) ?_ ?_
     ·simp only [gw0, reduceEqDiff, ↓reduceIte, reduceAdd, reduceLT, reduceLeDiff, reduceMul, gwD3, gwDT, pureR_none, ite_self, nilR, nilB, bitF, bitV, nilC, nilCmp, eqb, assertV, assertW, zeroV, wQ_normal, wQ_ret, wQ_panic, pickO, pickC, List.map_cons, List.map_nil, List.getD_cons_zero, List.getD_cons_succ, Env.keep, beq_self_eq_true, cond_true, cond_false, at_k, at_k0, hwr, List.length_set]
      refine eK3_loud hc (wkL_refl _) (by simp) (by simp) ?_
      simp only [gw0, reduceEqDiff, ↓reduceIte, reduceAdd, reduceLT, reduceLeDiff, reduceMul, gwD3, gwDT, pureR_none, ite_self, nilR, nilB, bitF, bitV, nilC, nilCmp, eqb, assertV, assertW, zeroV, wQ_normal, wQ_ret, wQ_panic, pickO, pickC, List.map_cons, List.map_nil, List.getD_cons_zero, List.getD_cons_succ, Env.keep, beq_self_eq_true, cond_true, cond_false, at_k, at_k0, set_k, set_k0, encD_take, encD_len, encD_drop, Nat.le_refl, List.length_map, List.length_set]
      exact ⟨by omega, rfl, rfl, (), rfl, rfl, trivial⟩
     ·rintro - -
      simp only [gw0, reduceEqDiff, ↓reduceIte, reduceAdd, reduceLT, reduceLeDiff, reduceMul, Env.keep]
      refine ⟨(f, acc ++ [wd], wp, wn, wf), ⟨wkE_refl _, st.set b (wkN s wp wn wf) ++ [.box zeroD, .box [.int .i64 4, .int .i64 0, .str [], .int .i64 0, .int .i64 0, .lst 6 (some (st.length + 2)) ((acc ++ [wd]).map encD)], .tip 49 (acc ++ [wd]).length], [], by simp, wkSt_refl _, ?_, ?_, by simp⟩, by dsimp only; omega, ?_⟩
      ·simp only [ltE, V.lt, gwL, List.length_set]
       exact ⟨by omega, by trivial, by omega, by omega, trivial⟩
      ·refine ok_app (hok _ _ _) ⟨by simp [Ent.lt, ltL, V.lt, zeroD], ⟨?_, trivial, trivial⟩⟩
       simp only [Ent.lt, ltL, V.lt, true_and, and_true]
       exact ⟨fun e he => by cases he; simp, ltRows_map fun d _ => encD_lt _ _⟩
      ·by_cases hw0 : wf.1 = 0
       ·rw [hw0] at hI
        simp only [decide_true, cond_true] at hI
        left
        cases hrr : rdD s f (deep + 1) q1 n1 with
        | err e q _ _ =>
         rw [hrr] at hag
         simp only [Agree] at hag
         exact absurd (by rw [hag.1] at hw0; exact hw0) hag.2
        | ok x p' n' =>
         rw [hrr] at hag hfar
         simp only [Agree, WR.mk.injEq] at hag
         simp only [RR.far] at hfar
         obtain ⟨rfl, rfl, rfl, rfl⟩ := hag
         exact ⟨rfl, by simp; omega, hfar.2.1, hfar.2.2, by dsimp only; omega, by dsimp only; omega, hI⟩
       ·rw [decide_eq_false hw0] at hI
        exact .inr ⟨hw0, hI⟩
  ·refine (x_good_no s st _ b p1 n1 flt hlt hbad).use (wkL_refl _) fun _ => ?_
   simp only [gw0, reduceEqDiff, ↓reduceIte, reduceAdd, reduceLT, reduceLeDiff, reduceMul, at_k, at_k0, set_k, set_k0, List.length_set, zeroD]
   exact hd _ hI rfl
 rw [h]
 have h39 : decide ((c.toNat : Int) = 39) = decide (c = 39) := byte_eq c 39
 simp only [gw0, reduceEqDiff, ↓reduceIte, reduceAdd, reduceLT, reduceLeDiff, reduceMul, h39]
 try simp only [cond_false]
 clear h
 refine iK_split (fun h => ?_) (fun h => ?_)
 ·rw [h]
  try simp only [cond_true]
  have hwr : IntKind.i64.wrap (deep + 1) = deep + 1 := wrap_i64 (by omega) (by omega)
  simp only [gw0, reduceEqDiff, ↓reduceIte, reduceAdd, reduceLT, reduceLeDiff, reduceMul, hwr]
  refine (x_count s st _ b (p + 1) (n + 1) (0, 0) hlt (deep + 1) p (by omega)).use (wkL_refl _) fun _ => ?_
  simp only [gw0, reduceEqDiff, ↓reduceIte, reduceAdd, reduceLT, reduceLeDiff, reduceMul]
  cases h1 : (decide (2000 < n + 2) || decide (40 < deep + 1)) with
  | true =>
   simp only [cond_true, keep0]
   refine (x_good_no s st _ b (p + 1) (n + 2) (4, p) hlt (by simp)).use (wkL_refl _) fun _ => ?_
   simp only [gw0, reduceEqDiff, ↓reduceIte, reduceAdd, reduceLT, reduceLeDiff, reduceMul, at_k, at_k0, set_k, set_k0, List.length_set, Bool.not_false]
   exact hret ⟨zeroDt, p + 1, n + 2, (4, p)⟩ _ _ hz
  | false =>
   have hn2 : n + 2 ≤ 2000 := by simp at h1; omega
   simp only [cond_false]
   refine (x_good_yes s st _ b (p + 1) (n + 2) (0, 0) hlt rfl).use (wkL_refl _) fun _ => ?_
   simp only [gw0, reduceEqDiff, ↓reduceIte, reduceAdd, reduceLT, reduceLeDiff, reduceMul, Bool.not_true]
   refine (x_skip s st _ b (p + 1) (n + 2) (0, 0) hlt (by omega) hs).use (wkL_refl _) fun _ => ?_
   have hbl := blk_le (s.drop (p + 1)) false
   simp only [List.length_drop] at hbl
   generalize hq : s.length - (blk false (s.drop (p + 1))).length = p2
   simp only [gw0, reduceEqDiff, ↓reduceIte, reduceAdd, reduceLT, reduceLeDiff, reduceMul]
   refine (c_Sym _ [113, 117, 111, 116, 101]).use (wkL_refl _) fun _ => ?_
   simp only [gw0, reduceEqDiff, ↓reduceIte, reduceAdd, reduceLT, reduceLeDiff, reduceMul, hwr]
   refine (ih F (by omega) (deep + 1) p2 (n + 2) st _ b hlt (by omega) hn2 (by omega) (by omega) (by omega)).use (wkL_refl _) fun _ => ?_
   generalize wdD s F (deep + 1) p2 (n + 2) = w
   simp only [gw0, reduceEqDiff, ↓reduceIte, reduceAdd, reduceLT, reduceLeDiff, reduceMul, encD_take, encD_len, encD_drop, Nat.le_refl]
   refine (c_List _ [.mk 3 0 quoteS 0 0 [], w.d]).use (wkL_refl _) fun _ => ?_
   simp only [gw0, reduceEqDiff, ↓reduceIte, reduceAdd, reduceLT, reduceLeDiff, reduceMul, at_k, at_k0, set_k, set_k0, List.length_set, encD_take, encD_len, encD_drop, Nat.le_refl]
   exact hret ⟨quoteD w.d, w.p, w.n, w.f⟩ _ _ (wk_refl _)
 rw [h]
 have h35 : decide ((c.toNat : Int) = 35) = decide (c = 35) := byte_eq c 35
 simp only [gw0, reduceEqDiff, ↓reduceIte, reduceAdd, reduceLT, reduceLeDiff, reduceMul, h35]
 try simp only [cond_false]
 clear h
 refine iK_split (fun h => ?_) (fun h => ?_)
 ·rw [h]
  try simp only [cond_true]
  simp only [gw0, reduceEqDiff, ↓reduceIte, reduceAdd, reduceLT, reduceLeDiff, reduceMul, at_w hlt, next_i64 (show p + 1 < s.length + 1 by omega) (show s.length + 1 ≤ 9223372036854775807 by omega)]
  refine vdraw TT_ok TT_mixed [0, 0, 0, 0, 1, 0, 0, 0, 0, 0, 0, 1, 0, 0, 0, 1, 0, 0, 0, 0, 0, 0, 1, 0, 0, 0, 1, 0, 0, 0, 0, 0, 0, 0, 0, 0, 1, 0, 0, 0, 0, 0, 0, 1, 0, 0, 0, 0, 0, 0] (by kernel_rfl) ?_
  rcases at_or_end s (p + 1) (by omega) with ⟨hpe, hdr2⟩ | ⟨t, hltt, hgett, hdr2⟩
  ·have hle : decide (((p + 2 : Nat) : Int) ≤ (s.length : Int)) = false := decide_eq_false (by omega)
   rw [hdr2]
   simp only [wdB]
   simp only [gw0, reduceEqDiff, ↓reduceIte, reduceAdd, reduceLT, reduceLeDiff, reduceMul, at_w hlt, hle, Bool.false_and]
   refine eK_free (fun st => c_Letter st (s.getD (p + 2) 0)) (wkL_refl _) ?_
   simp only [gw0, reduceEqDiff, ↓reduceIte, reduceAdd, reduceLT, reduceLeDiff, reduceMul]
   refine (x_stop s st _ b (p + 1) (n + 1) (0, 0) hlt 2 p).use (wkL_refl _) fun _ => ?_
   simp only [keep0]
   simp only [gw0, reduceEqDiff, ↓reduceIte, reduceAdd, reduceLT, reduceLeDiff, reduceMul, at_k, at_k0, set_k, set_k0, List.length_set]
   exact hret ⟨zeroDt, p + 1, n + 1, (2, p)⟩ _ _ hz
  ·have e1 : decide ((t.toNat : Int) = 116) = decide (t = 116) := byte_eq t 116
   have e2 : decide ((t.toNat : Int) = 102) = decide (t = 102) := byte_eq t 102
   have hle : decide (((p + 2 : Nat) : Int) ≤ (s.length : Int)) = true := decide_eq_true (by omega)
   have hsub : IntKind.i64.wrap (((p + 2 : Nat) : Int) - 1) = ((p + 1 : Nat) : Int) := by rw [wrap_i64 (by omega) (by omega)]; omega
   rw [hdr2]
   simp only [wdB]
   simp only [gw0, reduceEqDiff, ↓reduceIte, reduceAdd, reduceLT, reduceLeDiff, reduceMul, at_w hlt, hle, getD_at hgett, Int.ofNat_lt.mpr hltt, e1, e2]
   refine ⟨fun hg => ?_, ?_⟩
   ·simp only [Bool.and_eq_true, Bool.not_eq_true', decide_eq_false_iff_not] at hg
    omega
   refine eK_free (fun st => c_Letter st (s.getD (p + 2) 0)) (wkL_refl _) ?_
   simp only [gw0, reduceEqDiff, ↓reduceIte, reduceAdd, reduceLT, reduceLeDiff, reduceMul]
   cases h2 : (decide (t = 116) || decide (t = 102)) with
   | false =>
    simp only [gw0, reduceEqDiff, ↓reduceIte, reduceAdd, reduceLT, reduceLeDiff, reduceMul, Bool.false_and]
    refine (x_stop s st _ b (p + 1) (n + 1) (0, 0) hlt 2 p).use (wkL_refl _) fun _ => ?_
    simp only [keep0]
    simp only [gw0, reduceEqDiff, ↓reduceIte, reduceAdd, reduceLT, reduceLeDiff, reduceMul, at_k, at_k0, set_k, set_k0, List.length_set]
    exact hret ⟨zeroDt, p + 1, n + 1, (2, p)⟩ _ _ hz
   | true =>
    simp only [cond_true]
    rcases at_or_end s (p + 2) (by omega) with ⟨hpe, hdr3⟩ | ⟨u, hltu, hgetu, hdr3⟩
    ·have heq : decide (((p + 2 : Nat) : Int) = (s.length : Int)) = true := decide_eq_true (by omega)
     rw [heq, hdr3]
     simp only [gw0, reduceEqDiff, ↓reduceIte, reduceAdd, reduceLT, reduceLeDiff, reduceMul, Bool.true_and, Bool.true_or]
     simp only [gw0, reduceEqDiff, ↓reduceIte, reduceAdd, reduceLT, reduceLeDiff, reduceMul, at_w hlt, set_b hlt]
     simp only [hE0]
     simp only [gw0, reduceEqDiff, ↓reduceIte, reduceAdd, reduceLT, reduceLeDiff, reduceMul, at_w hlt, hsub, getD_at hgett, Int.ofNat_lt.mpr hltt, e1]
     refine iK_split (fun h5 => ?_) (fun h5 => ?_)
     ·rw [h5]
      simp only [gw0, reduceEqDiff, ↓reduceIte, reduceAdd, reduceLT, reduceLeDiff, reduceMul, at_k, at_k0, set_k, set_k0, List.length_set]
      exact hret ⟨.mk 2 1 [] 0 0 [], p + 1 + 1, n + 1, (0, 0)⟩ _ _ (wk_agg (by rw [encD_mk]; exact wk6 ..))
     ·rw [h5]
      simp only [gw0, reduceEqDiff, ↓reduceIte, reduceAdd, reduceLT, reduceLeDiff, reduceMul, at_k, at_k0, set_k, set_k0, List.length_set]
      exact hret ⟨.mk 2 0 [] 0 0 [], p + 1 + 1, n + 1, (0, 0)⟩ _ _ (wk_agg (by rw [encD_mk]; exact wk6 ..))
    ·have heq : decide (((p + 2 : Nat) : Int) = (s.length : Int)) = false := decide_eq_false (by omega)
     rw [heq, hdr3, getD_at hgetu]
     dsimp only
     cases h4 : letterB u with
     | true =>
      simp only [gw0, reduceEqDiff, ↓reduceIte, reduceAdd, reduceLT, reduceLeDiff, reduceMul, Bool.true_and, Bool.false_or, Bool.not_true]
      refine (x_stop s st _ b (p + 1) (n + 1) (0, 0) hlt 2 p).use (wkL_refl _) fun _ => ?_
      simp only [keep0]
      simp only [gw0, reduceEqDiff, ↓reduceIte, reduceAdd, reduceLT, reduceLeDiff, reduceMul, at_k, at_k0, set_k, set_k0, List.length_set]
      exact hret ⟨zeroDt, p + 1, n + 1, (2, p)⟩ _ _ hz
     | false =>
      simp only [gw0, reduceEqDiff, ↓reduceIte, reduceAdd, reduceLT, reduceLeDiff, reduceMul, Bool.true_and, Bool.false_or, Bool.not_false]
      simp only [gw0, reduceEqDiff, ↓reduceIte, reduceAdd, reduceLT, reduceLeDiff, reduceMul, at_w hlt, set_b hlt]
      simp only [hE0]
      simp only [gw0, reduceEqDiff, ↓reduceIte, reduceAdd, reduceLT, reduceLeDiff, reduceMul, at_w hlt, hsub, getD_at hgett, Int.ofNat_lt.mpr hltt, e1]
      refine iK_split (fun h5 => ?_) (fun h5 => ?_)
      ·rw [h5]
       simp only [gw0, reduceEqDiff, ↓reduceIte, reduceAdd, reduceLT, reduceLeDiff, reduceMul, at_k, at_k0, set_k, set_k0, List.length_set]
       exact hret ⟨.mk 2 1 [] 0 0 [], p + 1 + 1, n + 1, (0, 0)⟩ _ _ (wk_agg (by rw [encD_mk]; exact wk6 ..))
      ·rw [h5]
       simp only [gw0, reduceEqDiff, ↓reduceIte, reduceAdd, reduceLT, reduceLeDiff, reduceMul, at_k, at_k0, set_k, set_k0, List.length_set]
       exact hret ⟨.mk 2 0 [] 0 0 [], p + 1 + 1, n + 1, (0, 0)⟩ _ _ (wk_agg (by rw [encD_mk]; exact wk6 ..))
 rw [h]
 simp only [gw0, reduceEqDiff, ↓reduceIte, reduceAdd, reduceLT, reduceLeDiff, reduceMul]
 try simp only [cond_false]
 clear h
 refine (c_Letter _ c).use (wkL_refl _) fun _ => ?_
 simp only [gw0, reduceEqDiff, ↓reduceIte, reduceAdd, reduceLT, reduceLeDiff, reduceMul]
 cases hlc : letterB c with
 | false =>
  simp only [gw0, reduceEqDiff, ↓reduceIte, reduceAdd, reduceLT, reduceLeDiff, reduceMul, Bool.not_false]
  try simp only [cond_false]
  refine (x_stop s st _ b (p + 1) (n + 1) (0, 0) hlt 2 p).use (wkL_refl _) fun _ => ?_
  simp only [keep0]
  simp only [gw0, reduceEqDiff, ↓reduceIte, reduceAdd, reduceLT, reduceLeDiff, reduceMul, at_k, at_k0, set_k, set_k0, List.length_set]
  exact hret ⟨zeroDt, p + 1, n + 1, (2, p)⟩ _ _ hz
 | true =>
  simp only [gw0, reduceEqDiff, ↓reduceIte, reduceAdd, reduceLT, reduceLeDiff, reduceMul, Bool.not_true]
  try simp only [cond_true]
  refine vfor (σ := Nat) [0, 1, 4, 5] (fun y => [(0, true, .ptr b 0), (1, true, .int .i64 deep), (4, true, .ptr st.length 0), (5, true, .int .i64 p)]) (fun y => st.set b (wkN s y (n + 1) (0, 0)) ++ [.box zeroD]) (fun y => s.length - y) (fun y => p + 1 ≤ y ∧ y ≤ s.length ∧ y + ((s.drop y).takeWhile letterB).length = p + 1 + ((s.drop (p + 1)).takeWhile letterB).length) (p + 1) rfl TT_ok ⟨Nat.le_refl _, by omega, rfl⟩ rfl rfl ?_
  rintro y ⟨hy1, hy2, hy3⟩
  simp only [gw0, reduceEqDiff, ↓reduceIte, reduceAdd, reduceLT, reduceLeDiff, reduceMul]
  refine vdraw TT_ok TT_mixed [0, 0, 0, 1, 0, 0, 0, 1, 0, 0, 0, 0, 0, 0, 1, 0, 0, 0, 1, 0, 0, 0] (by kernel_rfl) ?_
  rcases at_or_end s y hy2 with ⟨hye, hdry⟩ | ⟨u, hlty, hgety, hdry⟩
  ·have hlt1 : decide ((y : Int) < (s.length : Int)) = false := decide_eq_false (by omega)
   simp only [gw0, reduceEqDiff, ↓reduceIte, reduceAdd, reduceLT, reduceLeDiff, reduceMul, at_w hlt, hlt1]
   refine eK_free (fun st => c_Letter st (s.getD y 0)) (wkL_refl _) ?_
   simp only [gw0, reduceEqDiff, ↓reduceIte, reduceAdd, reduceLT, reduceLeDiff, reduceMul]
   have hyE : y = p + 1 + ((s.drop (p + 1)).takeWhile letterB).length := by rw [hdry] at hy3; simpa using hy3
   refine vdraw TT_ok TT_mixed [0, 0, 0, 1, 0, 0, 0, 0, 1, 0, 0] (by kernel_rfl) ?_
   have hsl := word_slice hdr
   rw [← hyE] at hsl
   have hwl : (c :: (s.drop (p + 1)).takeWhile letterB).length ≤ 6000 := by have := takeWhile_le (l := s.drop (p + 1)); simp only [List.length_cons]; omega
   have hyE2 : p + (1 + ((s.drop (p + 1)).takeWhile letterB).length) = y := by omega
   rw [hyE2]
   simp only [gw0, reduceEqDiff, ↓reduceIte, reduceAdd, reduceLT, reduceLeDiff, reduceMul, at_w hlt, Int.toNat_natCast, hsl]
   refine ⟨by omega, ?_⟩
   generalize hw : c :: (s.drop (p + 1)).takeWhile letterB = w at hwl
   refine (c_Looks _ w).use (wkL_refl _) fun _ => ?_
   simp only [wdA]
   simp only [gw0, reduceEqDiff, ↓reduceIte, reduceAdd, reduceLT, reduceLeDiff, reduceMul]
   cases hlo : looksB w with
   | false =>
    simp only [gw0, reduceEqDiff, ↓reduceIte, reduceAdd, reduceLT, reduceLeDiff, reduceMul, Bool.not_false]
    try simp only [cond_false]
    refine iK_split (fun h5 => ?_) (fun h5 => ?_)
    ·rw [h5]
     simp only [gw0, reduceEqDiff, ↓reduceIte, reduceAdd, reduceLT, reduceLeDiff, reduceMul]
     refine (x_stop s st _ b y (n + 1) (0, 0) hlt 7 p).use (wkL_refl _) fun _ => ?_
     simp only [keep0, cond_true]
     simp only [gw0, reduceEqDiff, ↓reduceIte, reduceAdd, reduceLT, reduceLeDiff, reduceMul]
     refine (c_Sym _ w).use (wkL_refl _) fun _ => ?_
     simp only [gw0, reduceEqDiff, ↓reduceIte, reduceAdd, reduceLT, reduceLeDiff, reduceMul, at_k, at_k0, set_k, set_k0, List.length_set, zeroD, encD_take, encD_len, encD_drop, Nat.le_refl]
     exact hret ⟨.mk 3 0 w 0 0 [], y, n + 1, (7, p)⟩ _ _ (wk_refl _)
    ·rw [h5]
     simp only [gw0, reduceEqDiff, ↓reduceIte, reduceAdd, reduceLT, reduceLeDiff, reduceMul]
     refine (c_Sym _ w).use (wkL_refl _) fun _ => ?_
     try simp only [cond_false]
     simp only [gw0, reduceEqDiff, ↓reduceIte, reduceAdd, reduceLT, reduceLeDiff, reduceMul, at_k, at_k0, set_k, set_k0, List.length_set, zeroD, encD_take, encD_len, encD_drop, Nat.le_refl]
     exact hret ⟨.mk 3 0 w 0 0 [], y, n + 1, (0, 0)⟩ _ _ (wk_refl _)
   | true =>
    simp only [gw0, reduceEqDiff, ↓reduceIte, reduceAdd, reduceLT, reduceLeDiff, reduceMul, Bool.not_true]
    try simp only [cond_true]
    refine iK_split (fun h5 => ?_) (fun h5 => ?_)
    ·rw [h5]
     simp only [gw0, reduceEqDiff, ↓reduceIte, reduceAdd, reduceLT, reduceLeDiff, reduceMul]
     refine (x_stop s st _ b y (n + 1) (0, 0) hlt 3 p).use (wkL_refl _) fun _ => ?_
     simp only [keep0, cond_true]
     simp only [gw0, reduceEqDiff, ↓reduceIte, reduceAdd, reduceLT, reduceLeDiff, reduceMul, at_k, at_k0, set_k, set_k0, List.length_set, zeroD]
     exact hret ⟨zeroDt, y, n + 1, (3, p)⟩ _ _ hz
    ·rw [h5]
     simp only [gw0, reduceEqDiff, ↓reduceIte, reduceAdd, reduceLT, reduceLeDiff, reduceMul, convV, Nat.lt_irrefl]
     have h17 : w.length ≤ 17 := by simp at h5; omega
     have hbl : (byteRows w).length = w.length := by simp [byteRows]
     obtain ⟨a0, ha0, hnv⟩ := val_end hlo
     have hlw := val_lt hlo h17
     refine vfor (σ := Nat) [0, 4, 5, 9, 10, 260, 261, 262] (fun i => [(0, true, .ptr b 0), (4, true, .ptr st.length 0), (5, true, .int .i64 p), (9, true, .str w), (10, true, .int .i64 (valW (w.take i))), (260, true, .lst 1 none (byteRows w)), (261, true, .int .i64 (byteRows w).length), (262, true, .int .i64 i)]) (fun i => st.set b (wkN s y (n + 1) (0, 0)) ++ [.box zeroD]) (fun i => w.length - i) (fun i => i ≤ w.length) 0 rfl TT_ok (Nat.zero_le _) rfl rfl ?_
     rintro i hi
     rcases at_or_end w i hi with ⟨rfl, hdw⟩ | ⟨a, hlti, hgeti, hdw⟩
     ·rw [hbl]
      simp only [gw0, reduceEqDiff, ↓reduceIte, reduceAdd, reduceLT, reduceLeDiff, reduceMul, lt_no]
      have hpos : (0 : Int) < (w.length : Int) := by have := (List.getElem?_eq_some_iff.1 ha0).1; omega
      have hvl := hlw w.length
      rw [List.take_length] at hvl ⊢
      have a45 : decide ((a0.toNat : Int) = 45) = decide (a0 = 45) := byte_eq a0 45
      have hb : decide ((1000000000000000 : Int) < (valW w : Int)) = (decide (1000000000000000 < numV w) || decide (numV w < -1000000000000000)) := by
       rw [hnv]
       by_cases h45 : a0 = 45
       ·simp only [h45, if_true]
        by_cases hv : (1000000000000000 : Int) < (valW w : Int)
        ·simp [hv]
        ·simp only [decide_eq_false hv]
         first | (simp; done) | (simp; omega)
       ·simp only [h45, if_false]
        by_cases hv : (1000000000000000 : Int) < (valW w : Int)
        ·simp [hv]
        ·simp only [decide_eq_false hv]
         first | (simp; done) | (simp; omega)
      have hneg : IntKind.i64.wrap (0 - (valW w : Int)) = -(valW w : Int) := by rw [wrap_i64 (by omega) (by omega)]; omega
      rw [hb]
      refine iK_split (fun h6 => ?_) (fun h6 => ?_)
      ·rw [h6]
       simp only [gw0, reduceEqDiff, ↓reduceIte, reduceAdd, reduceLT, reduceLeDiff, reduceMul]
       refine (x_stop s st _ b y (n + 1) (0, 0) hlt 3 p).use (wkL_refl _) fun _ => ?_
       simp only [keep0, cond_true]
       simp only [gw0, reduceEqDiff, ↓reduceIte, reduceAdd, reduceLT, reduceLeDiff, reduceMul, getD_at ha0, Int.toNat_zero, hpos, a45, Int.le_refl]
       refine iK_split (fun h7 => ?_) (fun h7 => ?_)
       ·simp only [gw0, reduceEqDiff, ↓reduceIte, reduceAdd, reduceLT, reduceLeDiff, reduceMul, hneg]
        refine (c_Num _ (-(valW w : Int))).use (wkL_refl _) fun _ => ?_
        simp only [gw0, reduceEqDiff, ↓reduceIte, reduceAdd, reduceLT, reduceLeDiff, reduceMul, at_k, at_k0, set_k, set_k0, List.length_set, zeroD, encD_take, encD_len, encD_drop, Nat.le_refl]
        rw [if_pos (of_decide_eq_true h7)] at hnv
        rw [hnv]
        exact hret ⟨.mk 1 (-(valW w : Int)) [] 0 0 [], y, n + 1, (3, p)⟩ _ _ (wk_refl _)
       ·simp only [gw0, reduceEqDiff, ↓reduceIte, reduceAdd, reduceLT, reduceLeDiff, reduceMul]
        refine (c_Num _ (valW w : Int)).use (wkL_refl _) fun _ => ?_
        simp only [gw0, reduceEqDiff, ↓reduceIte, reduceAdd, reduceLT, reduceLeDiff, reduceMul, at_k, at_k0, set_k, set_k0, List.length_set, zeroD, encD_take, encD_len, encD_drop, Nat.le_refl]
        rw [if_neg (of_decide_eq_false h7)] at hnv
        rw [hnv]
        exact hret ⟨.mk 1 (valW w : Int) [] 0 0 [], y, n + 1, (3, p)⟩ _ _ (wk_refl _)
      ·rw [h6]
       try simp only [cond_false]
       simp only [gw0, reduceEqDiff, ↓reduceIte, reduceAdd, reduceLT, reduceLeDiff, reduceMul, getD_at ha0, Int.toNat_zero, hpos, a45, Int.le_refl]
       refine iK_split (fun h7 => ?_) (fun h7 => ?_)
       ·simp only [gw0, reduceEqDiff, ↓reduceIte, reduceAdd, reduceLT, reduceLeDiff, reduceMul, hneg]
        refine (c_Num _ (-(valW w : Int))).use (wkL_refl _) fun _ => ?_
        simp only [gw0, reduceEqDiff, ↓reduceIte, reduceAdd, reduceLT, reduceLeDiff, reduceMul, at_k, at_k0, set_k, set_k0, List.length_set, zeroD, encD_take, encD_len, encD_drop, Nat.le_refl]
        rw [if_pos (of_decide_eq_true h7)] at hnv
        rw [hnv]
        exact hret ⟨.mk 1 (-(valW w : Int)) [] 0 0 [], y, n + 1, (0, 0)⟩ _ _ (wk_refl _)
       ·simp only [gw0, reduceEqDiff, ↓reduceIte, reduceAdd, reduceLT, reduceLeDiff, reduceMul]
        refine (c_Num _ (valW w : Int)).use (wkL_refl _) fun _ => ?_
        simp only [gw0, reduceEqDiff, ↓reduceIte, reduceAdd, reduceLT, reduceLeDiff, reduceMul, at_k, at_k0, set_k, set_k0, List.length_set, zeroD, encD_take, encD_len, encD_drop, Nat.le_refl]
        rw [if_neg (of_decide_eq_false h7)] at hnv
        rw [hnv]
        exact hret ⟨.mk 1 (valW w : Int) [] 0 0 [], y, n + 1, (0, 0)⟩ _ _ (wk_refl _)
     ·rw [hbl]
      have hg : (byteRows w).getD i [] = [V.int .u8 a.toNat] := getD_map hgeti
      simp only [gw0, reduceEqDiff, ↓reduceIte, reduceAdd, reduceLT, reduceLeDiff, reduceMul, lt_yes hlti, hbl, hg, Int.ofNat_lt.mpr hlti]
      have a45 : decide ((a.toNat : Int) = 45) = decide (a = 45) := byte_eq a 45
      rw [a45]
      have hvn := val_next hgeti
      have hvi := hlw i
      refine iK_split (fun h6 => ?_) (fun h6 => ?_)
      ·have hne : ¬ a = 45 := by simpa using h6
       rw [if_neg hne] at hvn
       have hdg := (looks_mem hlo (List.mem_of_getElem? hgeti)).resolve_left hne
       have hm : IntKind.i64.wrap (10 * (valW (w.take i) : Int)) = 10 * (valW (w.take i) : Int) := wrap_i64 (by omega) (by omega)
       have hs8 : IntKind.u8.wrap ((a.toNat : Int) - 48) = ((a.toNat - 48 : Nat) : Int) := by simp only [IntKind.wrap, IntKind.bits, IntKind.signed]; simp; omega
       have hcv : IntKind.i64.wrap ((a.toNat - 48 : Nat) : Int) = ((a.toNat - 48 : Nat) : Int) := wrap_i64 (by omega) (by omega)
       have hadd : IntKind.i64.wrap (10 * (valW (w.take i) : Int) + ((a.toNat - 48 : Nat) : Int)) = (valW (w.take (i + 1)) : Int) := by rw [wrap_i64 (by omega) (by omega), hvn]; omega
       simp only [gw0, reduceEqDiff, ↓reduceIte, reduceAdd, reduceLT, reduceLeDiff, reduceMul, hm, hs8, convV, hcv, hadd]
       simp only [gw0, reduceEqDiff, ↓reduceIte, reduceAdd, reduceLT, reduceLeDiff, reduceMul, Env.keep]
       rw [next_i64 hlti (by omega)]
       exact ⟨i + 1, rfl, by omega, by omega⟩
      ·have hne : a = 45 := by simpa using h6
       rw [if_pos hne] at hvn
       simp only [gw0, reduceEqDiff, ↓reduceIte, reduceAdd, reduceLT, reduceLeDiff, reduceMul]
       simp only [gw0, reduceEqDiff, ↓reduceIte, reduceAdd, reduceLT, reduceLeDiff, reduceMul, Env.keep]
       rw [hvn.symm, next_i64 hlti (by omega)]
       exact ⟨i + 1, rfl, by omega, by omega⟩
  ·simp only [gw0, reduceEqDiff, ↓reduceIte, reduceAdd, reduceLT, reduceLeDiff, reduceMul, at_w hlt, lt_yes hlty, getD_at hgety, Int.ofNat_lt.mpr hlty]
   refine eK_free (fun st => c_Letter st u) (wkL_refl _) ?_
   simp only [gw0, reduceEqDiff, ↓reduceIte, reduceAdd, reduceLT, reduceLeDiff, reduceMul]
   refine iK_split (fun h4 => ?_) (fun h4 => ?_)
   ·simp only [gw0, reduceEqDiff, ↓reduceIte, reduceAdd, reduceLT, reduceLeDiff, reduceMul, at_w hlt, set_b hlt, next_i64 hlty h63]
    simp only [gw0, reduceEqDiff, ↓reduceIte, reduceAdd, reduceLT, reduceLeDiff, reduceMul, Env.keep]
    simp only [hE0]
    rw [hdry, List.takeWhile_cons_of_pos h4, List.length_cons] at hy3
    exact ⟨y + 1, rfl, by omega, by omega, by omega, by omega⟩
   ·simp only [gw0, reduceEqDiff, ↓reduceIte, reduceAdd, reduceLT, reduceLeDiff, reduceMul]
    have hyE : y = p + 1 + ((s.drop (p + 1)).takeWhile letterB).length := by rw [hdry, List.takeWhile_cons_of_neg (by simp [h4]), List.length_nil] at hy3; simpa using hy3
    refine vdraw TT_ok TT_mixed [0, 0, 0, 1, 0, 0, 0, 0, 1, 0, 0] (by kernel_rfl) ?_
    have hsl := word_slice hdr
    rw [← hyE] at hsl
    have hwl : (c :: (s.drop (p + 1)).takeWhile letterB).length ≤ 6000 := by have := takeWhile_le (l := s.drop (p + 1)); simp only [List.length_cons]; omega
    have hyE2 : p + (1 + ((s.drop (p + 1)).takeWhile letterB).length) = y := by omega
    rw [hyE2]
    simp only [gw0, reduceEqDiff, ↓reduceIte, reduceAdd, reduceLT, reduceLeDiff, reduceMul, at_w hlt, Int.toNat_natCast, hsl]
    refine ⟨by omega, ?_⟩
    generalize hw : c :: (s.drop (p + 1)).takeWhile letterB = w at hwl
    refine (c_Looks _ w).use (wkL_refl _) fun _ => ?_
    simp only [wdA]
    simp only [gw0, reduceEqDiff, ↓reduceIte, reduceAdd, reduceLT, reduceLeDiff, reduceMul]
    cases hlo : looksB w with
    | false =>
     simp only [gw0, reduceEqDiff, ↓reduceIte, reduceAdd, reduceLT, reduceLeDiff, reduceMul, Bool.not_false]
     try simp only [cond_false]
     refine iK_split (fun h5 => ?_) (fun h5 => ?_)
     ·rw [h5]
      simp only [gw0, reduceEqDiff, ↓reduceIte, reduceAdd, reduceLT, reduceLeDiff, reduceMul]
      refine (x_stop s st _ b y (n + 1) (0, 0) hlt 7 p).use (wkL_refl _) fun _ => ?_
      simp only [keep0, cond_true]
      simp only [gw0, reduceEqDiff, ↓reduceIte, reduceAdd, reduceLT, reduceLeDiff, reduceMul]
      refine (c_Sym _ w).use (wkL_refl _) fun _ => ?_
      simp only [gw0, reduceEqDiff, ↓reduceIte, reduceAdd, reduceLT, reduceLeDiff, reduceMul, at_k, at_k0, set_k, set_k0, List.length_set, zeroD, encD_take, encD_len, encD_drop, Nat.le_refl]
      exact hret ⟨.mk 3 0 w 0 0 [], y, n + 1, (7, p)⟩ _ _ (wk_refl _)
     ·rw [h5]
      simp only [gw0, reduceEqDiff, ↓reduceIte, reduceAdd, reduceLT, reduceLeDiff, reduceMul]
      refine (c_Sym _ w).use (wkL_refl _) fun _ => ?_
      try simp only [cond_false]
      simp only [gw0, reduceEqDiff, ↓reduceIte, reduceAdd, reduceLT, reduceLeDiff, reduceMul, at_k, at_k0, set_k, set_k0, List.length_set, zeroD, encD_take, encD_len, encD_drop, Nat.le_refl]
      exact hret ⟨.mk 3 0 w 0 0 [], y, n + 1, (0, 0)⟩ _ _ (wk_refl _)
    | true =>
     simp only [gw0, reduceEqDiff, ↓reduceIte, reduceAdd, reduceLT, reduceLeDiff, reduceMul, Bool.not_true]
     try simp only [cond_true]
     refine iK_split (fun h5 => ?_) (fun h5 => ?_)
     ·rw [h5]
      simp only [gw0, reduceEqDiff, ↓reduceIte, reduceAdd, reduceLT, reduceLeDiff, reduceMul]
      refine (x_stop s st _ b y (n + 1) (0, 0) hlt 3 p).use (wkL_refl _) fun _ => ?_
      simp only [keep0, cond_true]
      simp only [gw0, reduceEqDiff, ↓reduceIte, reduceAdd, reduceLT, reduceLeDiff, reduceMul, at_k, at_k0, set_k, set_k0, List.length_set, zeroD]
      exact hret ⟨zeroDt, y, n + 1, (3, p)⟩ _ _ hz
     ·rw [h5]
      simp only [gw0, reduceEqDiff, ↓reduceIte, reduceAdd, reduceLT, reduceLeDiff, reduceMul, convV, Nat.lt_irrefl]
      have h17 : w.length ≤ 17 := by simp at h5; omega
      have hbl : (byteRows w).length = w.length := by simp [byteRows]
      obtain ⟨a0, ha0, hnv⟩ := val_end hlo
      have hlw := val_lt hlo h17
      refine vfor (σ := Nat) [0, 4, 5, 9, 10, 260, 261, 262] (fun i => [(0, true, .ptr b 0), (4, true, .ptr st.length 0), (5, true, .int .i64 p), (9, true, .str w), (10, true, .int .i64 (valW (w.take i))), (260, true, .lst 1 none (byteRows w)), (261, true, .int .i64 (byteRows w).length), (262, true, .int .i64 i)]) (fun i => st.set b (wkN s y (n + 1) (0, 0)) ++ [.box zeroD]) (fun i => w.length - i) (fun i => i ≤ w.length) 0 rfl TT_ok (Nat.zero_le _) rfl rfl ?_
      rintro i hi
      rcases at_or_end w i hi with ⟨rfl, hdw⟩ | ⟨a, hlti, hgeti, hdw⟩
      ·rw [hbl]
       simp only [gw0, reduceEqDiff, ↓reduceIte, reduceAdd, reduceLT, reduceLeDiff, reduceMul, lt_no]
       have hpos : (0 : Int) < (w.length : Int) := by have := (List.getElem?_eq_some_iff.1 ha0).1; omega
       have hvl := hlw w.length
       rw [List.take_length] at hvl ⊢
       have a45 : decide ((a0.toNat : Int) = 45) = decide (a0 = 45) := byte_eq a0 45
       have hb : decide ((1000000000000000 : Int) < (valW w : Int)) = (decide (1000000000000000 < numV w) || decide (numV w < -1000000000000000)) := by
        rw [hnv]
        by_cases h45 : a0 = 45
        ·simp only [h45, if_true]
         by_cases hv : (1000000000000000 : Int) < (valW w : Int)
         ·simp [hv]
         ·simp only [decide_eq_false hv]
          first | (simp; done) | (simp; omega)
        ·simp only [h45, if_false]
         by_cases hv : (1000000000000000 : Int) < (valW w : Int)
         ·simp [hv]
         ·simp only [decide_eq_false hv]
          first | (simp; done) | (simp; omega)
       have hneg : IntKind.i64.wrap (0 - (valW w : Int)) = -(valW w : Int) := by rw [wrap_i64 (by omega) (by omega)]; omega
       rw [hb]
       refine iK_split (fun h6 => ?_) (fun h6 => ?_)
       ·rw [h6]
        simp only [gw0, reduceEqDiff, ↓reduceIte, reduceAdd, reduceLT, reduceLeDiff, reduceMul]
        refine (x_stop s st _ b y (n + 1) (0, 0) hlt 3 p).use (wkL_refl _) fun _ => ?_
        simp only [keep0, cond_true]
        simp only [gw0, reduceEqDiff, ↓reduceIte, reduceAdd, reduceLT, reduceLeDiff, reduceMul, getD_at ha0, Int.toNat_zero, hpos, a45, Int.le_refl]
        refine iK_split (fun h7 => ?_) (fun h7 => ?_)
        ·simp only [gw0, reduceEqDiff, ↓reduceIte, reduceAdd, reduceLT, reduceLeDiff, reduceMul, hneg]
         refine (c_Num _ (-(valW w : Int))).use (wkL_refl _) fun _ => ?_
         simp only [gw0, reduceEqDiff, ↓reduceIte, reduceAdd, reduceLT, reduceLeDiff, reduceMul, at_k, at_k0, set_k, set_k0, List.length_set, zeroD, encD_take, encD_len, encD_drop, Nat.le_refl]
         rw [if_pos (of_decide_eq_true h7)] at hnv
         rw [hnv]
         exact hret ⟨.mk 1 (-(valW w : Int)) [] 0 0 [], y, n + 1, (3, p)⟩ _ _ (wk_refl _)
        ·simp only [gw0, reduceEqDiff, ↓reduceIte, reduceAdd, reduceLT, reduceLeDiff, reduceMul]
         refine (c_Num _ (valW w : Int)).use (wkL_refl _) fun _ => ?_
         simp only [gw0, reduceEqDiff, ↓reduceIte, reduceAdd, reduceLT, reduceLeDiff, reduceMul, at_k, at_k0, set_k, set_k0, List.length_set, zeroD, encD_take, encD_len, encD_drop, Nat.le_refl]
         rw [if_neg (of_decide_eq_false h7)] at hnv
         rw [hnv]
         exact hret ⟨.mk 1 (valW w : Int) [] 0 0 [], y, n + 1, (3, p)⟩ _ _ (wk_refl _)
       ·rw [h6]
        try simp only [cond_false]
        simp only [gw0, reduceEqDiff, ↓reduceIte, reduceAdd, reduceLT, reduceLeDiff, reduceMul, getD_at ha0, Int.toNat_zero, hpos, a45, Int.le_refl]
        refine iK_split (fun h7 => ?_) (fun h7 => ?_)
        ·simp only [gw0, reduceEqDiff, ↓reduceIte, reduceAdd, reduceLT, reduceLeDiff, reduceMul, hneg]
         refine (c_Num _ (-(valW w : Int))).use (wkL_refl _) fun _ => ?_
         simp only [gw0, reduceEqDiff, ↓reduceIte, reduceAdd, reduceLT, reduceLeDiff, reduceMul, at_k, at_k0, set_k, set_k0, List.length_set, zeroD, encD_take, encD_len, encD_drop, Nat.le_refl]
         rw [if_pos (of_decide_eq_true h7)] at hnv
         rw [hnv]
         exact hret ⟨.mk 1 (-(valW w : Int)) [] 0 0 [], y, n + 1, (0, 0)⟩ _ _ (wk_refl _)
        ·simp only [gw0, reduceEqDiff, ↓reduceIte, reduceAdd, reduceLT, reduceLeDiff, reduceMul]
         refine (c_Num _ (valW w : Int)).use (wkL_refl _) fun _ => ?_
         simp only [gw0, reduceEqDiff, ↓reduceIte, reduceAdd, reduceLT, reduceLeDiff, reduceMul, at_k, at_k0, set_k, set_k0, List.length_set, zeroD, encD_take, encD_len, encD_drop, Nat.le_refl]
         rw [if_neg (of_decide_eq_false h7)] at hnv
         rw [hnv]
         exact hret ⟨.mk 1 (valW w : Int) [] 0 0 [], y, n + 1, (0, 0)⟩ _ _ (wk_refl _)
      ·rw [hbl]
       have hg : (byteRows w).getD i [] = [V.int .u8 a.toNat] := getD_map hgeti
       simp only [gw0, reduceEqDiff, ↓reduceIte, reduceAdd, reduceLT, reduceLeDiff, reduceMul, lt_yes hlti, hbl, hg, Int.ofNat_lt.mpr hlti]
       have a45 : decide ((a.toNat : Int) = 45) = decide (a = 45) := byte_eq a 45
       rw [a45]
       have hvn := val_next hgeti
       have hvi := hlw i
       refine iK_split (fun h6 => ?_) (fun h6 => ?_)
       ·have hne : ¬ a = 45 := by simpa using h6
        rw [if_neg hne] at hvn
        have hdg := (looks_mem hlo (List.mem_of_getElem? hgeti)).resolve_left hne
        have hm : IntKind.i64.wrap (10 * (valW (w.take i) : Int)) = 10 * (valW (w.take i) : Int) := wrap_i64 (by omega) (by omega)
        have hs8 : IntKind.u8.wrap ((a.toNat : Int) - 48) = ((a.toNat - 48 : Nat) : Int) := by simp only [IntKind.wrap, IntKind.bits, IntKind.signed]; simp; omega
        have hcv : IntKind.i64.wrap ((a.toNat - 48 : Nat) : Int) = ((a.toNat - 48 : Nat) : Int) := wrap_i64 (by omega) (by omega)
        have hadd : IntKind.i64.wrap (10 * (valW (w.take i) : Int) + ((a.toNat - 48 : Nat) : Int)) = (valW (w.take (i + 1)) : Int) := by rw [wrap_i64 (by omega) (by omega), hvn]; omega
        simp only [gw0, reduceEqDiff, ↓reduceIte, reduceAdd, reduceLT, reduceLeDiff, reduceMul, hm, hs8, convV, hcv, hadd]
        simp only [gw0, reduceEqDiff, ↓reduceIte, reduceAdd, reduceLT, reduceLeDiff, reduceMul, Env.keep]
        rw [next_i64 hlti (by omega)]
        exact ⟨i + 1, rfl, by omega, by omega⟩
       ·have hne : a = 45 := by simpa using h6
        rw [if_pos hne] at hvn
        simp only [gw0, reduceEqDiff, ↓reduceIte, reduceAdd, reduceLT, reduceLeDiff, reduceMul]
        simp only [gw0, reduceEqDiff, ↓reduceIte, reduceAdd, reduceLT, reduceLeDiff, reduceMul, Env.keep]
        rw [hvn.symm, next_i64 hlti (by omega)]
        exact ⟨i + 1, rfl, by omega, by omega⟩
end Go.Proofs.YtcdnooalfkbmgaaGreatDoor.Gx
namespace Go.Proofs.YtcdnooalfkbmgaaGreatDoor.Gx
open Go Go.Proofs.YtcdnooalfkbmgaaGreatDoor.Gw
set_option linter.unusedSimpArgs false
set_option linter.unusedVariables false
theorem c_One (s : Str) (hs : s.length ≤ 6000) : ∀ F, IHW s F
 | 0 => fun f h => by omega
 | F + 1 => fun f h deep p n st ex b h1 h2 h3 h4 h5 h6 => by
  rcases Nat.lt_or_ge f F with hl | hl
  ·exact c_One s hs F f hl deep p n st ex b h1 h2 h3 h4 h5 h6
  ·have : f = F := by omega
   subst this
   cases f with
   | zero => omega
   | succ f =>
    have := c_One_of s hs f (c_One s hs (f + 1)) deep p n (st ++ ex) b (by simp; omega) h2 h3 h4 h5 h6
    rw [set_app h1, set_app h1] at this
    exact this
theorem wd_le (s : Str) : ∀ F : Nat, (∀ (deep : Int) (p n : Nat), p ≤ s.length → (wdD s F deep p n).p ≤ s.length) ∧ (∀ (deep : Int) (acc : List Datum) (p n : Nat), p ≤ s.length → (wdL s F deep acc p n).p ≤ s.length)
 | 0 => ⟨fun _ _ _ h => h, fun _ _ _ _ h => h⟩
 | F + 1 => by
  obtain ⟨ih1, ih2⟩ := wd_le s F
  refine ⟨fun deep p n hp => ?_, fun deep acc p n hp => ?_⟩
  ·simp only [wdD]
   cases (decide (2000 < n + 1) || decide (40 < deep)) with
   | true => exact hp
   | false =>
    simp only [cond_false]
    cases hd : s.drop p with
    | nil => exact hp
    | cons c r =>
     dsimp only
     have hl := drop_len hd
     cases decide (c = 40) with
     | true => exact ih2 deep [] (p + 1) (n + 1) (by omega)
     | false =>
      simp only [cond_false]
      cases decide (c = 39) with
      | true =>
       simp only [cond_true]
       cases (decide (2000 < n + 2) || decide (40 < deep + 1)) with
       | true => show p + 1 ≤ s.length; omega
       | false => exact ih1 (deep + 1) _ (n + 2) (by omega)
      | false =>
       simp only [cond_false]
       cases decide (c = 35) with
       | true =>
        simp only [cond_true]
        cases r with
        | nil => show p + 1 ≤ s.length; omega
        | cons t r =>
         simp only [List.length_cons] at hl
         simp only [wdB]
         cases (decide (t = 116) || decide (t = 102)) with
         | false => show p + 1 ≤ s.length; omega
         | true =>
          simp only [cond_true]
          cases r with
          | nil => show p + 1 + 1 ≤ s.length; omega
          | cons u r =>
           dsimp only
           cases letterB u with
           | true => show p + 1 ≤ s.length; omega
           | false => show p + 1 + 1 ≤ s.length; omega
       | false =>
        simp only [cond_false]
        cases letterB c with
        | false => show p + 1 ≤ s.length; omega
        | true =>
         simp only [cond_true]
         have := takeWhile_le (l := r)
         have hw : (wdA p (p + 1 + (r.takeWhile letterB).length) (n + 1) (c :: r.takeWhile letterB)).p = p + 1 + (r.takeWhile letterB).length := by
          unfold wdA
          cases looksB (c :: r.takeWhile letterB) with
          | false => rfl
          | true =>
           simp only [cond_true]
           cases decide ((17 : Int) < (c :: r.takeWhile letterB).length) <;> rfl
         rw [hw]
         omega
  ·simp only [wdL]
   have hb := blk_le (s.drop p) false
   simp only [List.length_drop] at hb
   cases hd : blk false (s.drop p) with
   | nil => exact Nat.le_refl _
   | cons c r =>
    dsimp only
    rw [hd] at hb
    simp only [List.length_cons] at hb
    cases decide (c = 41) with
    | true => show s.length - r.length ≤ s.length; omega
    | false =>
     simp only [cond_false]
     have h1 := ih1 (deep + 1) (s.length - (r.length + 1)) n (by omega)
     cases decide ((wdD s F (deep + 1) (s.length - (r.length + 1)) n).f.1 = 0) with
     | true => exact ih2 deep _ _ _ h1
     | false => exact h1
section
variable (s : Str) (st ex : St) (A : Ent) (p n : Nat) (f : Int × Int)
theorem conv_1 (X e : Ent) : (st ++ [A, X]).set (st.length + 1) e ++ ex = st ++ (A :: e :: ex) := by
 rw [List.set_append_right _ _ (by omega)]; simp
theorem z_skip (hp : p ≤ s.length) (hs : s.length ≤ 6000) : VCalls Tryz.prog TT 59 [.ptr (st.length + 1) 0] (st ++ (A :: wkN s p n f :: ex)) fun r st' => r = .ret (.tup []) ∧ st' = st ++ (A :: wkN s (s.length - (blk false (s.drop p)).length) n f :: ex) := by
 have := x_skip s (st ++ [A, A]) ex (st.length + 1) p n f (by simp) hp hs
 rw [conv_1, conv_1] at this; exact this
theorem z_good : VCalls Tryz.prog TT 60 [.ptr (st.length + 1) 0] (st ++ (A :: wkN s p n f :: ex)) fun r st' => r = .ret (.bool (decide (f.1 = 0))) ∧ st' = st ++ (A :: wkN s p n f :: ex) := by
 have := x_good s (st ++ [A, A]) ex (st.length + 1) p n f (by simp)
 rw [conv_1] at this; exact this
theorem z_One (hs : s.length ≤ 6000) (F : Nat) (hp : p ≤ s.length) (hn : n ≤ 2000) (hF : 2 * (s.length - p) < F) : VCalls Tryz.prog TT 61 [.ptr (st.length + 1) 0, .int .i64 1] (st ++ (A :: wkN s p n (0, 0) :: ex)) fun r st' => r = .ret (.agg (encD (wdD s F 1 p n).d)) ∧ st' = st ++ (A :: wkN s (wdD s F 1 p n).p (wdD s F 1 p n).n (wdD s F 1 p n).f :: ex) := by
 have := c_One s hs (F + 1) F (by omega) 1 p n (st ++ [A, A]) ex (st.length + 1) (by simp) hp hn (by omega) (by omega) hF
 rw [conv_1, conv_1] at this; exact this
end
end Go.Proofs.YtcdnooalfkbmgaaGreatDoor.Gx
namespace Go.Proofs.YtcdnooalfkbmgaaGreatDoor.Gx
open Go Go.Proofs.YtcdnooalfkbmgaaGreatDoor.Gw
open Nat (reduceEqDiff reduceAdd reduceLT reduceLeDiff reduceMul)
set_option linter.unusedSimpArgs false
set_option linter.unusedVariables false
theorem z_yes (s : Str) (st ex : St) (A : Ent) (p n : Nat) (f : Int × Int) (hf : f.1 = 0) : VCalls Tryz.prog TT 60 [.ptr (st.length + 1) 0] (st ++ (A :: wkN s p n f :: ex)) fun r st' => r = .ret (.bool true) ∧ st' = st ++ (A :: wkN s p n f :: ex) := by
 have := z_good s st ex A p n f
 rw [decide_eq_true hf] at this; exact this
theorem z_no (s : Str) (st ex : St) (A : Ent) (p n : Nat) (f : Int × Int) (hf : f.1 ≠ 0) : VCalls Tryz.prog TT 60 [.ptr (st.length + 1) 0] (st ++ (A :: wkN s p n f :: ex)) fun r st' => r = .ret (.bool false) ∧ st' = st ++ (A :: wkN s p n f :: ex) := by
 have := z_good s st ex A p n f
 rw [decide_eq_false hf] at this; exact this
set_option maxHeartbeats 4000000 in
theorem c_refRead (s : Str) (st : St) : VCalls Tryz.prog TT 39 [.str s] st fun r st' => r = .ret (readV (readR s)) ∧ st' = st := by
 refine vfun TT_ok (an := anL []) (L := [0, 2, 3, 4, 5]) (rs := [.tmp 2, .cell 3 41]) Tryz.func39 rfl (by kernel_rfl) rfl Tryz.ntmps39 rfl rfl (Nat.le_refl _) fun hst ha hf => ?_
 simp only [gw0, reduceEqDiff, ↓reduceIte, reduceAdd, reduceLT, reduceLeDiff, reduceMul]
 refine iK_split (fun h => ?_) (fun h => ?_)
 ·simp only [gw0, reduceEqDiff, ↓reduceIte, reduceAdd, reduceLT, reduceLeDiff, reduceMul]
  simp only [readR, h, cond_true, readV, fltV]
  refine gives_of (wk_tup (wkL_cons (wk_nils _) (wkL_cons (wk_refl _) wkL_nil))) (wkSt_refl _) ?_ hst
  exact readV_lt _ (.inl (4, 0))
 have hs : s.length ≤ 6000 := by simp at h; omega
 have h63 : s.length ≤ 9223372036854775807 := by omega
 simp only [gw0, reduceEqDiff, ↓reduceIte, reduceAdd, reduceLT, reduceLeDiff, reduceMul]
 refine (z_skip s st [] _ 0 0 (0, 0) (Nat.zero_le _) hs).use (wkL_refl _) fun _ => ?_
 have hr0 : readR s = rdTop s (2 * s.length + 3) [] (s.length - (blk false s).length) 0 := by simp only [readR, h, cond_false]
 rw [hr0]
 simp only [List.drop_zero]
 have hb0 := blk_le s false
 generalize hp0 : s.length - (blk false s).length = p0
 have hp0' : p0 ≤ s.length := by omega
 generalize hR : rdTop s (2 * s.length + 3) [] p0 0 = R
 simp only [gw0, reduceEqDiff, ↓reduceIte, reduceAdd, reduceLT, reduceLeDiff, reduceMul]
 refine vforT (σ := Nat × List Datum × Nat × Nat × (Int × Int)) [49] [0, 3, 4, 5] (fun x => [(0, true, .str s), (3, true, .ptr st.length 0), (4, true, .ptr (st.length + 1) 0), (5, true, .lst 6 (some (st.length + 2)) (x.2.1.map encD))]) (fun x => st ++ [.box [.int .i64 0, .int .i64 0], wkN s x.2.2.1 x.2.2.2.1 x.2.2.2.2, .tip 49 x.2.1.length]) (fun x => x.1) (fun x => (x.2.2.2.2 = (0, 0) ∧ x.2.1.length ≤ x.2.2.1 ∧ x.2.2.1 ≤ s.length ∧ x.2.2.2.1 ≤ 2000 ∧ 2 * (s.length - x.2.2.1) + 1 < x.1 ∧ R = rdTop s x.1 x.2.1 x.2.2.1 x.2.2.2.1) ∨ (x.2.2.2.2.1 ≠ 0 ∧ x.2.2.1 ≤ s.length ∧ R = .inl x.2.2.2.2)) (2 * s.length + 3, [], p0, 0, (0, 0)) rfl TT_ok (.inl ⟨rfl, Nat.zero_le _, hp0', Nat.zero_le _, by dsimp only; omega, hR.symm⟩) ?_ ?_ ?_
 ·exact wkE_cons (wk_refl _) (wkE_cons (wk_refl _) (wkE_cons (wk_refl _) (wkE_cons (wk_tip _ (by simp [Tips])) wkE_nil)))
 ·exact ⟨st ++ [.box [.int .i64 0, .int .i64 0], wkN s p0 0 (0, 0)], wkSt_refl _, by simp only [gwL, tips, List.map_cons, List.map_nil, List.length_nil]⟩
 rintro ⟨f, acc, p, n, flt⟩ hI
 simp only at hI ⊢
 simp only [gw0, reduceEqDiff, ↓reduceIte, reduceAdd, reduceLT, reduceLeDiff, reduceMul]
 rcases hI with ⟨rfl, hacc, hp, hn, hf2, hI⟩ | ⟨hbad, hp, hI⟩
 ·refine (z_yes s st _ _ p n (0, 0) rfl).use (wkL_refl _) fun _ => ?_
  simp only [gw0, reduceEqDiff, ↓reduceIte, reduceAdd, reduceLT, reduceLeDiff, reduceMul, wkN]
  cases f with
  | zero => omega
  | succ f =>
  simp only [rdTop] at hI
  rcases at_or_end s p hp with ⟨rfl, hdr⟩ | ⟨c, hltp, hget, hdr⟩
  ·rw [hdr] at hI
   simp only [gw0, reduceEqDiff, ↓reduceIte, reduceAdd, reduceLT, reduceLeDiff, reduceMul, lt_no]
   refine (z_yes s st _ _ s.length n (0, 0) rfl).use (wkL_refl _) fun _ => ?_
   simp only [gw0, reduceEqDiff, ↓reduceIte, reduceAdd, reduceLT, reduceLeDiff, reduceMul, Bool.not_true]
   rw [hI]
   have := readV_lt st.length (.inr acc)
   refine gives_of (wk_tup (wkL_cons (wk_tok _ _ _) (wkL_cons (wk_refl _) wkL_nil))) (wkSt_refl _) this hst
  ·rw [hdr] at hI
   dsimp only at hI
   simp only [gw0, reduceEqDiff, ↓reduceIte, reduceAdd, reduceLT, reduceLeDiff, reduceMul, lt_yes hltp]
   have hag := (agree s f).1 1 p n hp hn (by omega)
   have hfar := (rd_far s f).1 1 p n hn
   have hwl := (wd_le s f).1 1 p n hp
   refine (z_One s st _ _ p n hs f hp hn (by omega)).use (wkL_refl _) fun _ => ?_
   generalize wdD s f 1 p n = w at hag hwl
   obtain ⟨wd, wp, wn, wf⟩ := w
   simp only at hag hwl ⊢
   simp only [gw0, reduceEqDiff, ↓reduceIte, reduceAdd, reduceLT, reduceLeDiff, reduceMul, encD_take, encD_len, encD_drop, Nat.le_refl, List.length_map, wkN]
   refine ⟨by omega, ?_⟩
   refine (z_skip s st _ _ wp wn wf hwl hs).use (wkL_refl _) fun _ => ?_
   have hb2 := blk_le (s.drop wp) false
   simp only [List.length_drop] at hb2
   generalize hq : s.length - (blk false (s.drop wp)).length = q
   simp only [gw0, reduceEqDiff, ↓reduceIte, reduceAdd, reduceLT, reduceLeDiff, reduceMul, Env.keep]
   refine ⟨(f, acc ++ [wd], q, wn, wf), ⟨?_, st ++ [.box [.int .i64 0, .int .i64 0], wkN s q wn wf, .tip 49 (acc ++ [wd]).length], [], ?_, wkSt_refl _, ?_, ?_, by simp⟩, by dsimp only; omega, ?_⟩
   ·simp only [List.map_append, List.map_cons, List.map_nil]
    exact wkE_refl _
   ·simp
   ·simp only [ltE, V.lt, gwL]
    exact ⟨trivial, by omega, by omega, ⟨fun e he => by cases he; omega, ltRows_map fun d _ => encD_lt _ _⟩, trivial⟩
   ·refine ok_app hst ⟨by simp [Ent.lt, ltL, V.lt], ⟨by simp [wkN, Ent.lt, ltL, V.lt], trivial, trivial⟩⟩
   ·by_cases hw0 : wf.1 = 0
    ·left
     cases hrr : rdD s f 1 p n with
     | err e q _ _ =>
      rw [hrr] at hag
      simp only [Agree] at hag
      exact absurd (by rw [hag.1] at hw0; exact hw0) hag.2
     | ok x p' n' =>
      rw [hrr] at hag hfar hI
      simp only [Agree, WR.mk.injEq] at hag
      simp only [RR.far] at hfar
      obtain ⟨rfl, rfl, rfl, rfl⟩ := hag
      dsimp only at hI
      rw [hq] at hI
      exact ⟨rfl, by simp; omega, by dsimp only; omega, hfar.2.2, by dsimp only; omega, hI⟩
    ·right
     cases hrr : rdD s f 1 p n with
     | err e q _ _ =>
      rw [hrr] at hag hI
      simp only [Agree] at hag
      refine ⟨hw0, ?_, ?_⟩
      ·dsimp only; omega
      ·rw [hI]; dsimp only; rw [hag.1]
     | ok x p' n' =>
      rw [hrr] at hag
      simp only [Agree, WR.mk.injEq] at hag
      exact absurd (by rw [hag.2.2.2]) hw0
 ·refine (z_no s st _ _ p n flt hbad).use (wkL_refl _) fun _ => ?_
  simp only [gw0, reduceEqDiff, ↓reduceIte, reduceAdd, reduceLT, reduceLeDiff, reduceMul, wkN]
  refine (z_no s st _ _ p n flt hbad).use (wkL_refl _) fun _ => ?_
  simp only [gw0, reduceEqDiff, ↓reduceIte, reduceAdd, reduceLT, reduceLeDiff, reduceMul, Bool.not_false, wkN]
  refine vdraw TT_ok TT_mixed [0, 0, 0, 1, 0, 2] (by kernel_rfl) ?_
  simp only [gw0, reduceEqDiff, ↓reduceIte, reduceAdd, reduceLT, reduceLeDiff, reduceMul, wkN]
  rw [hI]
  have := readV_lt st.length (.inl flt)
  exact gives_of (wk_tup (wkL_cons (wk_nils _) (wkL_cons (wk_refl _) wkL_nil))) (wkSt_refl _) this hst
theorem pS_lst (st : St) (z : Ent) (s s' : RS) (ex : List Ent) : pS (st ++ .box [.lst 1 none (byteRows s.1)] :: z :: .box [.bool s.2] :: ex) st.length (st.length + 2) s' = st ++ .box [.lst 1 none (byteRows s'.1)] :: z :: .box [.bool s'.2] :: ex := by
 unfold pS
 rw [List.set_append_right _ _ (Nat.le_refl _), List.set_append_right _ _ (by omega)]
 simp
theorem y_pnum (st : St) (z : Ent) (s : RS) (ex : List Ent) : VCalls Tryz.prog TT 35 [.ptr st.length 0, .ptr (st.length + 2) 0] (st ++ .box [.lst 1 none (byteRows s.1)] :: z :: .box [.bool s.2] :: ex) fun q st' =>
  q = .ret (.int .i64 (pNum s).1) ∧ st' = st ++ .box [.lst 1 none (byteRows (pNum s).2.1)] :: z :: .box [.bool (pNum s).2.2] :: ex := by
 have h := c_pnum s (st ++ .box [.lst 1 none (byteRows s.1)] :: z :: .box [.bool s.2] :: ex) st.length (st.length + 2) (by simp) (by simp) (by omega)
 rw [pS_lst] at h; exact h
theorem y_pfew (st : St) (z : Ent) (s : RS) (ex : List Ent) : VCalls Tryz.prog TT 37 [.ptr (st.length + 3) 0, .ptr st.length 0, .ptr (st.length + 2) 0] (st ++ .box [.lst 1 none (byteRows s.1)] :: z :: .box [.bool s.2] :: .box [.fn (.func 35) [.ptr st.length 0, .ptr (st.length + 2) 0]] :: ex) fun q st' =>
  q = .ret (.int .i64 ((pFew s).1 : Nat)) ∧ st' = st ++ .box [.lst 1 none (byteRows (pFew s).2.1)] :: z :: .box [.bool (pFew s).2.2] :: .box [.fn (.func 35) [.ptr st.length 0, .ptr (st.length + 2) 0]] :: ex := by
 have h := c_pfew s (st ++ .box [.lst 1 none (byteRows s.1)] :: z :: .box [.bool s.2] :: .box [.fn (.func 35) [.ptr st.length 0, .ptr (st.length + 2) 0]] :: ex) st.length (st.length + 2) (st.length + 3) (by simp) (by simp) (by simp) (by omega)
 rw [pS_lst] at h; exact h
theorem y_ptext (st : St) (z : Ent) (s : RS) (ex : List Ent) : VCalls Tryz.prog TT 38 [.ptr (st.length + 4) 0, .ptr st.length 0] (st ++ .box [.lst 1 none (byteRows s.1)] :: z :: .box [.bool s.2] :: .box [.fn (.func 35) [.ptr st.length 0, .ptr (st.length + 2) 0]] :: .box [.fn (.func 37) [.ptr (st.length + 3) 0, .ptr st.length 0, .ptr (st.length + 2) 0]] :: ex) fun q st' =>
  q = .ret (.str (pStr s).1) ∧ st' = st ++ .box [.lst 1 none (byteRows (pStr s).2.1)] :: z :: .box [.bool (pStr s).2.2] :: .box [.fn (.func 35) [.ptr st.length 0, .ptr (st.length + 2) 0]] :: .box [.fn (.func 37) [.ptr (st.length + 3) 0, .ptr st.length 0, .ptr (st.length + 2) 0]] :: ex := by
 have h := c_ptext s (st ++ .box [.lst 1 none (byteRows s.1)] :: z :: .box [.bool s.2] :: .box [.fn (.func 35) [.ptr st.length 0, .ptr (st.length + 2) 0]] :: .box [.fn (.func 37) [.ptr (st.length + 3) 0, .ptr st.length 0, .ptr (st.length + 2) 0]] :: ex) st.length (st.length + 2) (st.length + 3) (st.length + 4) (by simp) (by simp) (by simp) (by simp) (by omega)
 rw [pS_lst] at h; exact h
theorem pStr_le (s : RS) : (pStr s).2.1.length ≤ s.1.length := by
 have := pFew_le s
 simp only [pStr, List.length_drop]
 omega
theorem pNum_le (s : RS) : (pNum s).2.1.length ≤ s.1.length := by
 unfold pNum
 cases decide ((takeR s.1).2 = 0) || s.2 <;> simp
theorem pProtos_step (k : Nat) (acc : List Pr) (r : Str) : pProtos (k + 1) acc (r, false) = pProtos k (acc ++ [(pProto (r, false)).1]) (pProto (r, false)).2 := rfl
theorem pCode_step (k : Nat) (acc : List Ins) (r : Str) : pCode (k + 1) acc (r, false) = bif noOp (pNum (r, false)).1 then (acc, (pNum (r, false)).2.1, true) else pCode k (acc ++ [(ownP (pNum (r, false)).1 (pNum (r, false)).2).1]) (ownP (pNum (r, false)).1 (pNum (r, false)).2).2 := rfl
theorem pProtos_stop {k k0 : Nat} {v : Bool} {acc : List Pr} (hk : acc.length + k = k0) (h : (decide ((acc.length : Int) < k0) && !v) = false) (r : Str) : pProtos k acc (r, v) = (acc, (r, v)) := by
 cases k with
 | zero => rfl
 | succ k =>
  have : decide ((acc.length : Int) < k0) = true := decide_eq_true (by omega)
  rw [this] at h
  simp only [Bool.true_and, Bool.not_eq_false'] at h
  subst h; rfl
theorem pCode_stop {k k0 : Nat} {v : Bool} {acc : List Ins} (hk : acc.length + k = k0) (h : (decide ((acc.length : Int) < k0) && !v) = false) (r : Str) : pCode k acc (r, v) = (acc, (r, v)) := by
 cases k with
 | zero => rfl
 | succ k =>
  have : decide ((acc.length : Int) < k0) = true := decide_eq_true (by omega)
  rw [this] at h
  simp only [Bool.true_and, Bool.not_eq_false'] at h
  subst h; rfl
set_option maxHeartbeats 4000000 in
theorem c_ref8_Parse (s : Str) (st : St) : VCalls Tryz.prog TT 11 [lstY s] st fun q st' => q = .ret (unitR (pUnit s)) ∧ st' = st := by
 refine vfun TT_ok (an := anL []) (L := [0, 1, 2, 3, 4, 5, 6, 7, 8, 9, 10, 11, 12, 13, 14, 15, 16, 17, 18, 67]) (rs := [.cell 2 24, .tmp 3]) Tryz.func11 rfl (by kernel_rfl) rfl Tryz.ntmps11 rfl rfl (Nat.le_refl _) fun hst ha hf => ?_
 have hsl : s.length ≤ 9223372036854775807 := by
  have h := hf
  simp only [lstY, fitL, V.fit, byteRows, List.length_map] at h
  omega
 simp only [lstY]
 have bad : ∀ (e : Int) (ex : List Ent), Gives (unitR (noU, e)) st (.ret (.tup [.agg [.str [], .nils], .int .i64 e])) (st ++ ex) := fun e ex =>
  gives_of (wk_tup (wkL_cons (wk_agg (wkL_cons (wk_refl _) (wkL_cons (wk_nils _) wkL_nil))) (wkL_cons (wk_refl _) wkL_nil))) (wkSt_refl _) (by simp only [unitR, V.lt, ltL]; exact ⟨encU_lt _ _, trivial, trivial⟩) hst
 have hlr : (byteRows s).length = s.length := by simp [byteRows]
 simp only [gw0, reduceEqDiff, ↓reduceIte, reduceAdd, reduceLT, reduceLeDiff, reduceMul, gwD3, gwDT, pureR_none, ite_self, nilR, nilB, bitF, bitV, nilC, nilCmp, eqb, assertV, assertW, zeroV, wQ_normal, wQ_ret, wQ_panic, pickO, pickC, List.map_cons, List.map_nil, List.getD_cons_zero, List.getD_cons_succ, Env.keep, beq_self_eq_true, cond_true, cond_false, hlr]
 unfold pUnit
 refine iK_split (fun h => ?_) (fun h => ?_)
 ·rw [h]
  simp only [gw0, reduceEqDiff, ↓reduceIte, reduceAdd, reduceLT, reduceLeDiff, reduceMul, gwD3, gwDT, pureR_none, ite_self, nilR, nilB, bitF, bitV, nilC, nilCmp, eqb, assertV, assertW, zeroV, wQ_normal, wQ_ret, wQ_panic, pickO, pickC, List.map_cons, List.map_nil, List.getD_cons_zero, List.getD_cons_succ, Env.keep, beq_self_eq_true, cond_true, cond_false]
  exact bad 4 _
 rw [h]
 simp only [cond_false]
 simp only [gw0, reduceEqDiff, ↓reduceIte, reduceAdd, reduceLT, reduceLeDiff, reduceMul, gwD3, gwDT, pureR_none, ite_self, nilR, nilB, bitF, bitV, nilC, nilCmp, eqb, assertV, assertW, zeroV, wQ_normal, wQ_ret, wQ_panic, pickO, pickC, List.map_cons, List.map_nil, List.getD_cons_zero, List.getD_cons_succ, Env.keep, beq_self_eq_true, cond_true, cond_false, convV, bytesOf_rows]
 refine (y_ptext st _ (s, false) []).use (wkL_refl _) fun _ => ?_
 unfold pBody
 have hs6 : s.length ≤ 60000 := by rw [decide_eq_false_iff_not] at h; omega
 have hl0 := pStr_le (s, false)
 simp only at hl0
 obtain ⟨⟨nm, r0⟩, hx⟩ : ∃ x, pStr (s, false) = x := ⟨_, rfl⟩
 simp only [hx] at hl0 ⊢
 simp only [gw0, reduceEqDiff, ↓reduceIte, reduceAdd, reduceLT, reduceLeDiff, reduceMul, gwD3, gwDT, pureR_none, ite_self, nilR, nilB, bitF, bitV, nilC, nilCmp, eqb, assertV, assertW, zeroV, wQ_normal, wQ_ret, wQ_panic, pickO, pickC, List.map_cons, List.map_nil, List.getD_cons_zero, List.getD_cons_succ, Env.keep, beq_self_eq_true, cond_true, cond_false]
 refine (y_pfew st _ r0 [_, _]).use (wkL_refl _) fun _ => ?_
 have hk0 := pFew_le r0
 obtain ⟨⟨k0, r0⟩, hx⟩ : ∃ x, pFew r0 = x := ⟨_, rfl⟩
 simp only [hx] at hk0 ⊢
 simp only [gw0, reduceEqDiff, ↓reduceIte, reduceAdd, reduceLT, reduceLeDiff, reduceMul, gwD3, gwDT, pureR_none, ite_self, nilR, nilB, bitF, bitV, nilC, nilCmp, eqb, assertV, assertW, zeroV, wQ_normal, wQ_ret, wQ_panic, pickO, pickC, List.map_cons, List.map_nil, List.getD_cons_zero, List.getD_cons_succ, Env.keep, beq_self_eq_true, cond_true, cond_false]
 refine vforT (σ := Nat × List Pr × RS) [46] [0, 1, 2, 3, 4, 5, 6, 7, 8, 9] (fun x => [(0, true, .lst 1 none (byteRows s)), (1, true, .ptr st.length 0), (2, true, .ptr (st.length + 1) 0), (3, true, .int .i64 0), (4, true, .ptr (st.length + 2) 0), (5, true, .ptr (st.length + 3) 0), (6, true, .ptr (st.length + 4) 0), (7, true, .fn (.func 38) [.ptr (st.length + 4) 0, .ptr st.length 0]), (8, true, .ptr (st.length + 5) 0), (9, true, .int .i64 k0)]) (fun x => st ++ [.box [.lst 1 none (byteRows x.2.2.1)], .box [.str [], .nils], .box [.bool x.2.2.2], .box [.fn (.func 35) [.ptr st.length 0, .ptr (st.length + 2) 0]], .box [.fn (.func 37) [.ptr (st.length + 3) 0, .ptr st.length 0, .ptr (st.length + 2) 0]], .box [.str nm, .lst 2 (some (st.length + 6)) (x.2.1.map encPr)], .tip 46 x.2.1.length]) (fun x => x.1) (fun x => x.2.1.length + x.1 = k0 ∧ x.2.2.1.length ≤ 60000 ∧ pProtos k0 [] r0 = pProtos x.1 x.2.1 x.2.2) (k0, [], r0) rfl TT_ok ⟨by simp, by simp only; omega, rfl⟩ ?_ ?_ ?_
 ·exact wkE_refl _
 ·refine ⟨st ++ [.box [.lst 1 none (byteRows r0.1)], .box [.str [], .nils], .box [.bool r0.2], .box [.fn (.func 35) [.ptr st.length 0, .ptr (st.length + 2) 0]], .box [.fn (.func 37) [.ptr (st.length + 3) 0, .ptr st.length 0, .ptr (st.length + 2) 0]], .box [.str nm, .lst 2 (some (st.length + 6)) []]], ?_, by simp only [gwL, tips, List.map_cons, List.map_nil, List.length_nil]⟩
  refine (wkSt_refl _).append (wkSt_cons (Ent.wkp_refl _) (wkSt_cons (Ent.wkp_refl _) (wkSt_cons (Ent.wkp_refl _) (wkSt_cons (Ent.wkp_refl _) (wkSt_cons (Ent.wkp_refl _) (wkSt_cons (Ent.wk_box ?_) wkSt_nil))))))
  exact wkL_cons (wk_refl _) (wkL_cons (wk_tip _ (by simp [Tips])) wkL_nil)
 rintro ⟨k, acc, r⟩ ⟨hacc, hl1, hI⟩
 simp only at hacc hl1 hI ⊢
 rw [hI]
 obtain ⟨r, v⟩ := r
 simp only [gw0, reduceEqDiff, ↓reduceIte, reduceAdd, reduceLT, reduceLeDiff, reduceMul, gwD3, gwDT, pureR_none, ite_self, nilR, nilB, bitF, bitV, nilC, nilCmp, eqb, assertV, assertW, zeroV, wQ_normal, wQ_ret, wQ_panic, pickO, pickC, List.map_cons, List.map_nil, List.getD_cons_zero, List.getD_cons_succ, Env.keep, beq_self_eq_true, cond_true, cond_false, at_1, List.length_map]
 refine iK_split (fun h2 => ?_) (fun h2 => ?_)
 ·simp only [Bool.and_eq_true, decide_eq_true_eq, Bool.not_eq_true'] at h2
  obtain ⟨h2, rfl⟩ := h2
  obtain ⟨k, rfl⟩ : ∃ j, k = j + 1 := ⟨k - 1, by omega⟩
  rw [pProtos_step]
  simp only [pProto]
  simp only [gw0, reduceEqDiff, ↓reduceIte, reduceAdd, reduceLT, reduceLeDiff, reduceMul, gwD3, gwDT, pureR_none, ite_self, nilR, nilB, bitF, bitV, nilC, nilCmp, eqb, assertV, assertW, zeroV, wQ_normal, wQ_ret, wQ_panic, pickO, pickC, List.map_cons, List.map_nil, List.getD_cons_zero, List.getD_cons_succ, Env.keep, beq_self_eq_true, cond_true, cond_false]
  refine (y_pnum st _ (r, false) [_, _, _, _]).use (wkL_refl _) fun _ => ?_
  have hl2 := pNum_le (r, false)
  obtain ⟨⟨ar, r1⟩, hx1⟩ : ∃ x, pNum (r, false) = x := ⟨_, rfl⟩
  simp only [hx1] at hl1 hl2 ⊢
  simp only [gw0, reduceEqDiff, ↓reduceIte, reduceAdd, reduceLT, reduceLeDiff, reduceMul, gwD3, gwDT, pureR_none, ite_self, nilR, nilB, bitF, bitV, nilC, nilCmp, eqb, assertV, assertW, zeroV, wQ_normal, wQ_ret, wQ_panic, pickO, pickC, List.map_cons, List.map_nil, List.getD_cons_zero, List.getD_cons_succ, Env.keep, beq_self_eq_true, cond_true, cond_false]
  refine (y_pfew st _ r1 [_, _, _, _]).use (wkL_refl _) fun _ => ?_
  have hj0 := pFew_le r1
  obtain ⟨⟨j0, r2⟩, hx2⟩ : ∃ x, pFew r1 = x := ⟨_, rfl⟩
  simp only [hx2] at hj0 ⊢
  simp only [gw0, reduceEqDiff, ↓reduceIte, reduceAdd, reduceLT, reduceLeDiff, reduceMul, gwD3, gwDT, pureR_none, ite_self, nilR, nilB, bitF, bitV, nilC, nilCmp, eqb, assertV, assertW, zeroV, wQ_normal, wQ_ret, wQ_panic, pickO, pickC, List.map_cons, List.map_nil, List.getD_cons_zero, List.getD_cons_succ, Env.keep, beq_self_eq_true, cond_true, cond_false]
  refine vforT (σ := Nat × List Ins × RS) [51] [0, 1, 2, 3, 4, 5, 6, 7, 8, 9, 10, 11] (fun x => [(0, true, .lst 1 none (byteRows s)), (1, true, .ptr st.length 0), (2, true, .ptr (st.length + 1) 0), (3, true, .int .i64 0), (4, true, .ptr (st.length + 2) 0), (5, true, .ptr (st.length + 3) 0), (6, true, .ptr (st.length + 4) 0), (7, true, .fn (.func 38) [.ptr (st.length + 4) 0, .ptr st.length 0]), (8, true, .ptr (st.length + 5) 0), (9, true, .int .i64 k0), (10, true, .ptr (st.length + 7) 0), (11, true, .int .i64 j0)]) (fun x => st ++ [.box [.lst 1 none (byteRows x.2.2.1)], .box [.str [], .nils], .box [.bool x.2.2.2], .box [.fn (.func 35) [.ptr st.length 0, .ptr (st.length + 2) 0]], .box [.fn (.func 37) [.ptr (st.length + 3) 0, .ptr st.length 0, .ptr (st.length + 2) 0]], .box [.str nm, .lst 2 (some (st.length + 6)) (acc.map encPr)], .tip 46 acc.length, .box [.int .i64 ar, .lst 11 (some (st.length + 8)) (x.2.1.map encI)], .tip 51 x.2.1.length]) (fun x => x.1) (fun x => x.2.1.length + x.1 = j0 ∧ x.2.2.1.length ≤ 60000 ∧ pCode j0 [] r2 = pCode x.1 x.2.1 x.2.2) (j0, [], r2) rfl TT_ok ⟨by simp, by simp only; omega, rfl⟩ ?_ ?_ ?_
  ·exact wkE_refl _
  ·refine ⟨st ++ [.box [.lst 1 none (byteRows r2.1)], .box [.str [], .nils], .box [.bool r2.2], .box [.fn (.func 35) [.ptr st.length 0, .ptr (st.length + 2) 0]], .box [.fn (.func 37) [.ptr (st.length + 3) 0, .ptr st.length 0, .ptr (st.length + 2) 0]], .box [.str nm, .lst 2 (some (st.length + 6)) (acc.map encPr)], .tip 46 acc.length, .box [.int .i64 ar, .lst 11 (some (st.length + 8)) []]], ?_, by simp only [gwL, tips, List.map_cons, List.map_nil, List.length_nil]⟩
   refine (wkSt_refl _).append (wkSt_cons (Ent.wkp_refl _) (wkSt_cons (Ent.wkp_refl _) (wkSt_cons (Ent.wkp_refl _) (wkSt_cons (Ent.wkp_refl _) (wkSt_cons (Ent.wkp_refl _) (wkSt_cons (Ent.wkp_refl _) (wkSt_cons (Ent.wkp_refl _) (wkSt_cons (Ent.wk_box ?_) wkSt_nil))))))))
   exact wkL_cons (wk_refl _) (wkL_cons (wk_tip _ (by simp [Tips])) wkL_nil)
  rintro ⟨j, cac, r3⟩ ⟨hcac, hl3, hJ⟩
  simp only at hcac hl3 hJ ⊢
  rw [hJ]
  obtain ⟨r3, v3⟩ := r3
  simp only [gw0, reduceEqDiff, ↓reduceIte, reduceAdd, reduceLT, reduceLeDiff, reduceMul, gwD3, gwDT, pureR_none, ite_self, nilR, nilB, bitF, bitV, nilC, nilCmp, eqb, assertV, assertW, zeroV, wQ_normal, wQ_ret, wQ_panic, pickO, pickC, List.map_cons, List.map_nil, List.getD_cons_zero, List.getD_cons_succ, Env.keep, beq_self_eq_true, cond_true, cond_false, at_1, List.length_map]
  refine iK_split (fun h3 => ?_) (fun h3 => ?_)
  ·simp only [Bool.and_eq_true, decide_eq_true_eq, Bool.not_eq_true'] at h3
   obtain ⟨h3, rfl⟩ := h3
   obtain ⟨j, rfl⟩ : ∃ i, j = i + 1 := ⟨j - 1, by omega⟩
   rw [pCode_step]
   simp only [gw0, reduceEqDiff, ↓reduceIte, reduceAdd, reduceLT, reduceLeDiff, reduceMul, gwD3, gwDT, pureR_none, ite_self, nilR, nilB, bitF, bitV, nilC, nilCmp, eqb, assertV, assertW, zeroV, wQ_normal, wQ_ret, wQ_panic, pickO, pickC, List.map_cons, List.map_nil, List.getD_cons_zero, List.getD_cons_succ, Env.keep, beq_self_eq_true, cond_true, cond_false]
   refine (y_pnum st _ (r3, false) [_, _, _, _, _, _]).use (wkL_refl _) fun _ => ?_
   have hl4 := pNum_le (r3, false)
   obtain ⟨⟨op, r4⟩, hx4⟩ : ∃ x, pNum (r3, false) = x := ⟨_, rfl⟩
   simp only [hx4] at hl3 hl4 ⊢
   simp only [gw0, reduceEqDiff, ↓reduceIte, reduceAdd, reduceLT, reduceLeDiff, reduceMul, gwD3, gwDT, pureR_none, ite_self, nilR, nilB, bitF, bitV, nilC, nilCmp, eqb, assertV, assertW, zeroV, wQ_normal, wQ_ret, wQ_panic, pickO, pickC, List.map_cons, List.map_nil, List.getD_cons_zero, List.getD_cons_succ, Env.keep, beq_self_eq_true, cond_true, cond_false]
   refine iK_split (fun h4 => ?_) (fun h4 => ?_)
   ·rw [show noOp op = true from h4, cond_true]
    simp only [gw0, reduceEqDiff, ↓reduceIte, reduceAdd, reduceLT, reduceLeDiff, reduceMul, gwD3, gwDT, pureR_none, ite_self, nilR, nilB, bitF, bitV, nilC, nilCmp, eqb, assertV, assertW, zeroV, wQ_normal, wQ_ret, wQ_panic, pickO, pickC, List.map_cons, List.map_nil, List.getD_cons_zero, List.getD_cons_succ, Env.keep, beq_self_eq_true, cond_true, cond_false, at_1, Env.keep, List.length_map]
    have hb7 : (acc.length + 1) * 32 ≤ 140737488355328 := by omega
    refine ⟨hb7, (k, acc ++ [⟨ar, cac⟩], (r4.1, true)), ⟨wkE_refl _, st ++ [.box [.lst 1 none (byteRows r4.1)], .box [.str [], .nils], .box [.bool true], .box [.fn (.func 35) [.ptr st.length 0, .ptr (st.length + 2) 0]], .box [.fn (.func 37) [.ptr (st.length + 3) 0, .ptr st.length 0, .ptr (st.length + 2) 0]], .box [.str nm, .lst 2 (some (st.length + 6)) (acc.map encPr ++ [[.int .i64 ar, .lst 11 (some (st.length + 8)) (cac.map encI)]])], .tip 46 (acc.length + 1)], [.box [.int .i64 ar, .lst 11 (some (st.length + 8)) (cac.map encI)], .tip 51 cac.length, .box [.int .i64 0, .int .i64 0, .int .i64 0, .str [], .str [], .int .i64 0, .int .i64 0, .str [], .int .i64 0, .int .i64 0, .nils]], by simp, ?_, ?_, ?_, by simp⟩, by dsimp only; omega, by simp; omega, by dsimp only at hl3 hl4 ⊢; omega, rfl⟩
    ·simp only [List.length_append, List.length_cons, List.length_nil]
     refine (wkSt_refl _).append (wkSt_cons (Ent.wkp_refl _) (wkSt_cons (Ent.wkp_refl _) (wkSt_cons (Ent.wkp_refl _) (wkSt_cons (Ent.wkp_refl _) (wkSt_cons (Ent.wkp_refl _) (wkSt_cons (Ent.wk_box ?_) (wkSt_cons (Ent.wkp_refl _) wkSt_nil)))))))
     exact wkL_cons (wk_refl _) (wkL_cons (wk_lst_same (wkR_snoc8 (f := encPr) (a := ⟨ar, cac⟩) (wkL_cons (wk_refl _) (wkL_cons (wk_tok _ _ _) wkL_nil)) acc)) wkL_nil)
    ·simp only [ltE, V.lt, ltL, gwL]
     exact ⟨⟨fun e h => (by cases h), rows_lt _ _⟩, by omega, by omega, trivial, by omega, by omega, by omega, ⟨by omega, by omega, trivial⟩, by omega, trivial, trivial⟩
    ·exact ok_app hst ⟨⟨⟨fun e h => (by cases h), rows_lt _ _⟩, trivial⟩, by simp [Ent.lt, ltL, V.lt], by simp [Ent.lt, ltL, V.lt], by simp [Ent.lt, ltL, V.lt], by simp [Ent.lt, ltL, V.lt], rowsPr_ok _ _ _ _ (by simp), trivial, trivial⟩
   ·rw [show noOp op = false from h4, cond_false]
    simp only [gw0, reduceEqDiff, ↓reduceIte, reduceAdd, reduceLT, reduceLeDiff, reduceMul, gwD3, gwDT, pureR_none, ite_self, nilR, nilB, bitF, bitV, nilC, nilCmp, eqb, assertV, assertW, zeroV, wQ_normal, wQ_ret, wQ_panic, pickO, pickC, List.map_cons, List.map_nil, List.getD_cons_zero, List.getD_cons_succ, Env.keep, beq_self_eq_true, cond_true, cond_false]
    refine (c_Kind op _).use (wkL_refl _) fun _ => ?_
    simp only [gw0, reduceEqDiff, ↓reduceIte, reduceAdd, reduceLT, reduceLeDiff, reduceMul, gwD3, gwDT, pureR_none, ite_self, nilR, nilB, bitF, bitV, nilC, nilCmp, eqb, assertV, assertW, zeroV, wQ_normal, wQ_ret, wQ_panic, pickO, pickC, List.map_cons, List.map_nil, List.getD_cons_zero, List.getD_cons_succ, Env.keep, beq_self_eq_true, cond_true, cond_false]
    unfold ownP
    refine iK_split (fun h5 => ?_) (fun h5 => ?_)
    ·rw [h5, cond_true]
     simp only [gw0, reduceEqDiff, ↓reduceIte, reduceAdd, reduceLT, reduceLeDiff, reduceMul, gwD3, gwDT, pureR_none, ite_self, nilR, nilB, bitF, bitV, nilC, nilCmp, eqb, assertV, assertW, zeroV, wQ_normal, wQ_ret, wQ_panic, pickO, pickC, List.map_cons, List.map_nil, List.getD_cons_zero, List.getD_cons_succ, Env.keep, beq_self_eq_true, cond_true, cond_false]
     refine (y_pnum st _ r4 [_, _, _, _, _, _, _]).use (wkL_refl _) fun _ => ?_
     have hl5 := pNum_le r4
     obtain ⟨⟨n5, r5⟩, hx5⟩ : ∃ x, pNum r4 = x := ⟨_, rfl⟩
     simp only [hx5] at hl5 ⊢
     simp only [gw0, reduceEqDiff, ↓reduceIte, reduceAdd, reduceLT, reduceLeDiff, reduceMul, gwD3, gwDT, pureR_none, ite_self, nilR, nilB, bitF, bitV, nilC, nilCmp, eqb, assertV, assertW, zeroV, wQ_normal, wQ_ret, wQ_panic, pickO, pickC, List.map_cons, List.map_nil, List.getD_cons_zero, List.getD_cons_succ, Env.keep, beq_self_eq_true, cond_true, cond_false, at_1, Env.keep, List.length_map]
     have hb7 : (cac.length + 1) * 128 ≤ 140737488355328 := by omega
     refine ⟨hb7, (j, cac ++ [{ op := op, n := n5 }], r5), ⟨wkE_refl _, st ++ [.box [.lst 1 none (byteRows r5.1)], .box [.str [], .nils], .box [.bool r5.2], .box [.fn (.func 35) [.ptr st.length 0, .ptr (st.length + 2) 0]], .box [.fn (.func 37) [.ptr (st.length + 3) 0, .ptr st.length 0, .ptr (st.length + 2) 0]], .box [.str nm, .lst 2 (some (st.length + 6)) (acc.map encPr)], .tip 46 acc.length, .box [.int .i64 ar, .lst 11 (some (st.length + 8)) (cac.map encI ++ [[.int .i64 op, .int .i64 0, .int .i64 n5, .str [], .str [], .int .i64 0, .int .i64 0, .str [], .int .i64 0, .int .i64 0, .nils]])], .tip 51 (cac.length + 1)], [.box [.int .i64 op, .int .i64 0, .int .i64 n5, .str [], .str [], .int .i64 0, .int .i64 0, .str [], .int .i64 0, .int .i64 0, .nils]], by simp, ?_, ?_, ?_, by simp⟩, by dsimp only; omega, by simp; omega, by dsimp only at hl3 hl4 hl5 ⊢; omega, rfl⟩
     ·simp only [List.length_append, List.length_cons, List.length_nil]
      refine (wkSt_refl _).append (wkSt_cons (Ent.wkp_refl _) (wkSt_cons (Ent.wkp_refl _) (wkSt_cons (Ent.wkp_refl _) (wkSt_cons (Ent.wkp_refl _) (wkSt_cons (Ent.wkp_refl _) (wkSt_cons (Ent.wkp_refl _) (wkSt_cons (Ent.wkp_refl _) (wkSt_cons (Ent.wk_box ?_) (wkSt_cons (Ent.wkp_refl _) wkSt_nil)))))))))
      exact wkL_cons (wk_refl _) (wkL_cons (wk_lst_same (wkR_snoc8 (f := encI) (a := { op := op, n := n5 }) (wk_ins op 0 n5 [] []) cac)) wkL_nil)
     ·simp only [ltE, V.lt, ltL, gwL]
      exact ⟨⟨fun e h => (by cases h), rows_lt _ _⟩, by omega, by omega, trivial, by omega, by omega, by omega, ⟨by omega, by omega, trivial⟩, by omega, trivial, by omega, trivial, trivial⟩
     ·exact ok_app hst ⟨⟨⟨fun e h => (by cases h), rows_lt _ _⟩, trivial⟩, by simp [Ent.lt, ltL, V.lt], by simp [Ent.lt, ltL, V.lt], by simp [Ent.lt, ltL, V.lt], by simp [Ent.lt, ltL, V.lt], rowsPr_ok _ _ _ _ (by simp), trivial, rowsIn_ok _ _ _ _ (by simp), trivial, trivial⟩
    rw [h5, cond_false]
    simp only [gw0, reduceEqDiff, ↓reduceIte, reduceAdd, reduceLT, reduceLeDiff, reduceMul, gwD3, gwDT, pureR_none, ite_self, nilR, nilB, bitF, bitV, nilC, nilCmp, eqb, assertV, assertW, zeroV, wQ_normal, wQ_ret, wQ_panic, pickO, pickC, List.map_cons, List.map_nil, List.getD_cons_zero, List.getD_cons_succ, Env.keep, beq_self_eq_true, cond_true, cond_false]
    refine iK_split (fun h6 => ?_) (fun h6 => ?_)
    ·rw [h6, cond_true]
     simp only [gw0, reduceEqDiff, ↓reduceIte, reduceAdd, reduceLT, reduceLeDiff, reduceMul, gwD3, gwDT, pureR_none, ite_self, nilR, nilB, bitF, bitV, nilC, nilCmp, eqb, assertV, assertW, zeroV, wQ_normal, wQ_ret, wQ_panic, pickO, pickC, List.map_cons, List.map_nil, List.getD_cons_zero, List.getD_cons_succ, Env.keep, beq_self_eq_true, cond_true, cond_false]
     refine (y_ptext st _ r4 [_, _, _, _, _]).use (wkL_refl _) fun _ => ?_
     unfold pQuote
     have hl5 := pStr_le r4
     obtain ⟨⟨t5, r5⟩, hx5⟩ : ∃ x, pStr r4 = x := ⟨_, rfl⟩
     simp only [hx5] at hl5 ⊢
     simp only [gw0, reduceEqDiff, ↓reduceIte, reduceAdd, reduceLT, reduceLeDiff, reduceMul, gwD3, gwDT, pureR_none, ite_self, nilR, nilB, bitF, bitV, nilC, nilCmp, eqb, assertV, assertW, zeroV, wQ_normal, wQ_ret, wQ_panic, pickO, pickC, List.map_cons, List.map_nil, List.getD_cons_zero, List.getD_cons_succ, Env.keep, beq_self_eq_true, cond_true, cond_false]
     refine (c_refRead t5 _).use (wkL_refl _) fun _ => ?_
     cases hr : readR t5 with
     | inl f =>
      have hf2 := read_bad hr
      have hf1 : decide (f.1 = 0) = false := by simpa using hf2
      have hq : quoteP t5 r5 = (zeroQ, r5.1, true) := by simp [quoteP, hr]
      rw [hq]
      simp only [readV, fltV, lstD]
      simp only [gw0, reduceEqDiff, ↓reduceIte, reduceAdd, reduceLT, reduceLeDiff, reduceMul, gwD3, gwDT, pureR_none, ite_self, nilR, nilB, bitF, bitV, nilC, nilCmp, eqb, assertV, assertW, zeroV, wQ_normal, wQ_ret, wQ_panic, pickO, pickC, List.map_cons, List.map_nil, List.getD_cons_zero, List.getD_cons_succ, Env.keep, beq_self_eq_true, cond_true, cond_false, at_1, Env.keep, List.length_map, hf1, Bool.not_false, Bool.true_or]
      have hb7 : (cac.length + 1) * 128 ≤ 140737488355328 := by omega
      refine ⟨hb7, (j, cac ++ [{ op := op, quote := zeroQ }], (r5.1, true)), ⟨wkE_refl _, st ++ [.box [.lst 1 none (byteRows r5.1)], .box [.str [], .nils], .box [.bool true], .box [.fn (.func 35) [.ptr st.length 0, .ptr (st.length + 2) 0]], .box [.fn (.func 37) [.ptr (st.length + 3) 0, .ptr st.length 0, .ptr (st.length + 2) 0]], .box [.str nm, .lst 2 (some (st.length + 6)) (acc.map encPr)], .tip 46 acc.length, .box [.int .i64 ar, .lst 11 (some (st.length + 8)) (cac.map encI ++ [[.int .i64 op, .int .i64 0, .int .i64 0, .str [], .str [], .int .i64 0, .int .i64 0, .str [], .int .i64 0, .int .i64 0, .nils]])], .tip 51 (cac.length + 1)], [.box [.int .i64 op, .int .i64 0, .int .i64 0, .str [], .str [], .int .i64 0, .int .i64 0, .str [], .int .i64 0, .int .i64 0, .nils], .box [.int .i64 f.1, .int .i64 f.2]], by simp, ?_, ?_, ?_, by simp⟩, by dsimp only; omega, by simp; omega, by dsimp only at hl3 hl4 hl5 ⊢; omega, rfl⟩
      ·simp only [List.length_append, List.length_cons, List.length_nil]
       refine (wkSt_refl _).append (wkSt_cons (Ent.wkp_refl _) (wkSt_cons (Ent.wkp_refl _) (wkSt_cons (Ent.wkp_refl _) (wkSt_cons (Ent.wkp_refl _) (wkSt_cons (Ent.wkp_refl _) (wkSt_cons (Ent.wkp_refl _) (wkSt_cons (Ent.wkp_refl _) (wkSt_cons (Ent.wk_box ?_) (wkSt_cons (Ent.wkp_refl _) wkSt_nil)))))))))
       exact wkL_cons (wk_refl _) (wkL_cons (wk_lst_same (wkR_snoc8 (f := encI) (a := { op := op, quote := zeroQ }) (wk_ins op 0 0 [] []) cac)) wkL_nil)
      ·simp only [ltE, V.lt, ltL, gwL]
       exact ⟨⟨fun e h => (by cases h), rows_lt _ _⟩, by omega, by omega, trivial, by omega, by omega, by omega, ⟨by omega, by omega, trivial⟩, by omega, trivial, by omega, trivial, trivial⟩
      ·exact ok_app hst ⟨⟨⟨fun e h => (by cases h), rows_lt _ _⟩, trivial⟩, by simp [Ent.lt, ltL, V.lt], by simp [Ent.lt, ltL, V.lt], by simp [Ent.lt, ltL, V.lt], by simp [Ent.lt, ltL, V.lt], rowsPr_ok _ _ _ _ (by simp), trivial, rowsIn_ok _ _ _ _ (by simp), trivial, trivial⟩
     | inr l =>
      simp only [readV, fltV, lstD]
      simp only [gw0, reduceEqDiff, ↓reduceIte, reduceAdd, reduceLT, reduceLeDiff, reduceMul, gwD3, gwDT, pureR_none, ite_self, nilR, nilB, bitF, bitV, nilC, nilCmp, eqb, assertV, assertW, zeroV, wQ_normal, wQ_ret, wQ_panic, pickO, pickC, List.map_cons, List.map_nil, List.getD_cons_zero, List.getD_cons_succ, Env.keep, beq_self_eq_true, cond_true, cond_false, at_1, Env.keep, List.length_map, show decide ((0 : Int) = 0) = true from rfl, Bool.not_true, Bool.false_or]
      refine iK_split (fun h7 => ?_) (fun h7 => ?_)
      ·have hq : quoteP t5 r5 = (zeroQ, r5.1, true) := by
        unfold quoteP
        rw [hr]
        split
        ·rename_i d hd
         simp only [Sum.inr.injEq] at hd
         subst hd
         simp at h7
        ·rfl
       rw [hq]
       simp only [gw0, reduceEqDiff, ↓reduceIte, reduceAdd, reduceLT, reduceLeDiff, reduceMul, gwD3, gwDT, pureR_none, ite_self, nilR, nilB, bitF, bitV, nilC, nilCmp, eqb, assertV, assertW, zeroV, wQ_normal, wQ_ret, wQ_panic, pickO, pickC, List.map_cons, List.map_nil, List.getD_cons_zero, List.getD_cons_succ, Env.keep, beq_self_eq_true, cond_true, cond_false, at_1, Env.keep, List.length_map]
       have hb7 : (cac.length + 1) * 128 ≤ 140737488355328 := by omega
       refine ⟨hb7, (j, cac ++ [{ op := op, quote := zeroQ }], (r5.1, true)), ⟨wkE_refl _, st ++ [.box [.lst 1 none (byteRows r5.1)], .box [.str [], .nils], .box [.bool true], .box [.fn (.func 35) [.ptr st.length 0, .ptr (st.length + 2) 0]], .box [.fn (.func 37) [.ptr (st.length + 3) 0, .ptr st.length 0, .ptr (st.length + 2) 0]], .box [.str nm, .lst 2 (some (st.length + 6)) (acc.map encPr)], .tip 46 acc.length, .box [.int .i64 ar, .lst 11 (some (st.length + 8)) (cac.map encI ++ [[.int .i64 op, .int .i64 0, .int .i64 0, .str [], .str [], .int .i64 0, .int .i64 0, .str [], .int .i64 0, .int .i64 0, .nils]])], .tip 51 (cac.length + 1)], [.box [.int .i64 op, .int .i64 0, .int .i64 0, .str [], .str [], .int .i64 0, .int .i64 0, .str [], .int .i64 0, .int .i64 0, .nils], .box [.int .i64 0, .int .i64 0]], by simp, ?_, ?_, ?_, by simp⟩, by dsimp only; omega, by simp; omega, by dsimp only at hl3 hl4 hl5 ⊢; omega, rfl⟩
       ·simp only [List.length_append, List.length_cons, List.length_nil]
        refine (wkSt_refl _).append (wkSt_cons (Ent.wkp_refl _) (wkSt_cons (Ent.wkp_refl _) (wkSt_cons (Ent.wkp_refl _) (wkSt_cons (Ent.wkp_refl _) (wkSt_cons (Ent.wkp_refl _) (wkSt_cons (Ent.wkp_refl _) (wkSt_cons (Ent.wkp_refl _) (wkSt_cons (Ent.wk_box ?_) (wkSt_cons (Ent.wkp_refl _) wkSt_nil)))))))))
        exact wkL_cons (wk_refl _) (wkL_cons (wk_lst_same (wkR_snoc8 (f := encI) (a := { op := op, quote := zeroQ }) (wk_ins op 0 0 [] []) cac)) wkL_nil)
       ·simp only [ltE, V.lt, ltL, gwL]
        exact ⟨⟨fun e h => (by cases h), rows_lt _ _⟩, by omega, by omega, trivial, by omega, by omega, by omega, ⟨by omega, by omega, trivial⟩, by omega, trivial, by omega, trivial, trivial⟩
       ·exact ok_app hst ⟨⟨⟨fun e h => (by cases h), rows_lt _ _⟩, trivial⟩, by simp [Ent.lt, ltL, V.lt], by simp [Ent.lt, ltL, V.lt], by simp [Ent.lt, ltL, V.lt], by simp [Ent.lt, ltL, V.lt], rowsPr_ok _ _ _ _ (by simp), trivial, rowsIn_ok _ _ _ _ (by simp), trivial, trivial⟩
      ·obtain ⟨d, rfl⟩ : ∃ d, l = [d] := by
        cases l with
        | nil => simp at h7
        | cons a m =>
         cases m with
         | nil => exact ⟨a, rfl⟩
         | cons c m => simp at h7; omega
       simp only [gw0, reduceEqDiff, ↓reduceIte, reduceAdd, reduceLT, reduceLeDiff, reduceMul, gwD3, gwDT, pureR_none, ite_self, nilR, nilB, bitF, bitV, nilC, nilCmp, eqb, assertV, assertW, zeroV, wQ_normal, wQ_ret, wQ_panic, pickO, pickC, List.map_cons, List.map_nil, List.getD_cons_zero, List.getD_cons_succ, Env.keep, beq_self_eq_true, cond_true, cond_false]
       refine (c_ref_Print _ [d]).use (wkL_refl _) fun _ => ?_
       have hq : quoteP t5 r5 = (d, r5.1, r5.2 || !decide ((printL [d]).2.1 = 0) || !decide ((printL [d]).1 = t5)) := by simp [quoteP, hr]
       rw [hq]
       cases hp : printL [d] with
       | mk pt pf =>
        obtain ⟨pe, pa⟩ := pf
        simp only [printV, fltV, lstD]
        simp only [gw0, reduceEqDiff, ↓reduceIte, reduceAdd, reduceLT, reduceLeDiff, reduceMul, gwD3, gwDT, pureR_none, ite_self, nilR, nilB, bitF, bitV, nilC, nilCmp, eqb, assertV, assertW, zeroV, wQ_normal, wQ_ret, wQ_panic, pickO, pickC, List.map_cons, List.map_nil, List.getD_cons_zero, List.getD_cons_succ, Env.keep, beq_self_eq_true, cond_true, cond_false, at_1, Env.keep, List.length_map, List.map_cons, List.map_nil, List.getD_cons_zero, show Int.toNat 0 = 0 from rfl, encD_take, encD_len, encD_drop, List.length_cons, List.length_nil]
        refine ⟨⟨by omega, by omega⟩, ?_⟩
        have hb7 : (cac.length + 1) * 128 ≤ 140737488355328 := by omega
        refine ⟨hb7, (j, cac ++ [{ op := op, quote := d }], (r5.1, r5.2 || !decide (pe = 0) || !decide (pt = t5))), ⟨wkE_refl _, st ++ [.box [.lst 1 none (byteRows r5.1)], .box [.str [], .nils], .box [.bool (r5.2 || !decide (pe = 0) || !decide (pt = t5))], .box [.fn (.func 35) [.ptr st.length 0, .ptr (st.length + 2) 0]], .box [.fn (.func 37) [.ptr (st.length + 3) 0, .ptr st.length 0, .ptr (st.length + 2) 0]], .box [.str nm, .lst 2 (some (st.length + 6)) (acc.map encPr)], .tip 46 acc.length, .box [.int .i64 ar, .lst 11 (some (st.length + 8)) (cac.map encI ++ [(.int .i64 op :: .int .i64 0 :: .int .i64 0 :: .str [] :: .str [] :: encD d)])], .tip 51 (cac.length + 1)], [.box (.int .i64 op :: .int .i64 0 :: .int .i64 0 :: .str [] :: .str [] :: encD d), .box [.int .i64 pe, .int .i64 pa]], by simp, ?_, ?_, ?_, by simp⟩, by dsimp only; omega, by simp; omega, by dsimp only at hl3 hl4 hl5 ⊢; omega, rfl⟩
        ·simp only [List.length_append, List.length_cons, List.length_nil]
         refine (wkSt_refl _).append (wkSt_cons (Ent.wkp_refl _) (wkSt_cons (Ent.wkp_refl _) (wkSt_cons (Ent.wkp_refl _) (wkSt_cons (Ent.wkp_refl _) (wkSt_cons (Ent.wkp_refl _) (wkSt_cons (Ent.wkp_refl _) (wkSt_cons (Ent.wkp_refl _) (wkSt_cons (Ent.wk_box ?_) (wkSt_cons (Ent.wkp_refl _) wkSt_nil)))))))))
         exact wkL_cons (wk_refl _) (wkL_cons (wk_lst_same (wkR_snoc8 (f := encI) (a := { op := op, quote := d }) (wkL_refl _) cac)) wkL_nil)
        ·simp only [ltE, V.lt, ltL, gwL]
         exact ⟨⟨fun e h => (by cases h), rows_lt _ _⟩, by omega, by omega, trivial, by omega, by omega, by omega, ⟨by omega, by omega, trivial⟩, by omega, trivial, by omega, trivial, trivial⟩
        ·exact ok_app hst ⟨⟨⟨fun e h => (by cases h), rows_lt _ _⟩, trivial⟩, by simp [Ent.lt, ltL, V.lt], by simp [Ent.lt, ltL, V.lt], by simp [Ent.lt, ltL, V.lt], by simp [Ent.lt, ltL, V.lt], rowsPr_ok _ _ _ _ (by simp), trivial, rowsIn_ok _ _ _ _ (by simp), trivial, trivial⟩
    rw [h6, cond_false]
    simp only [gw0, reduceEqDiff, ↓reduceIte, reduceAdd, reduceLT, reduceLeDiff, reduceMul, gwD3, gwDT, pureR_none, ite_self, nilR, nilB, bitF, bitV, nilC, nilCmp, eqb, assertV, assertW, zeroV, wQ_normal, wQ_ret, wQ_panic, pickO, pickC, List.map_cons, List.map_nil, List.getD_cons_zero, List.getD_cons_succ, Env.keep, beq_self_eq_true, cond_true, cond_false]
    refine iK_split (fun h7 => ?_) (fun h7 => ?_)
    ·rw [h7, cond_true]
     simp only [gw0, reduceEqDiff, ↓reduceIte, reduceAdd, reduceLT, reduceLeDiff, reduceMul, gwD3, gwDT, pureR_none, ite_self, nilR, nilB, bitF, bitV, nilC, nilCmp, eqb, assertV, assertW, zeroV, wQ_normal, wQ_ret, wQ_panic, pickO, pickC, List.map_cons, List.map_nil, List.getD_cons_zero, List.getD_cons_succ, Env.keep, beq_self_eq_true, cond_true, cond_false]
     refine (y_ptext st _ r4 [_, _, _, _, _]).use (wkL_refl _) fun _ => ?_
     have hl5 := pStr_le r4
     obtain ⟨⟨t5, r5⟩, hx5⟩ : ∃ x, pStr r4 = x := ⟨_, rfl⟩
     simp only [hx5] at hl5 ⊢
     simp only [gw0, reduceEqDiff, ↓reduceIte, reduceAdd, reduceLT, reduceLeDiff, reduceMul, gwD3, gwDT, pureR_none, ite_self, nilR, nilB, bitF, bitV, nilC, nilCmp, eqb, assertV, assertW, zeroV, wQ_normal, wQ_ret, wQ_panic, pickO, pickC, List.map_cons, List.map_nil, List.getD_cons_zero, List.getD_cons_succ, Env.keep, beq_self_eq_true, cond_true, cond_false]
     refine (y_ptext st _ r5 [_, _, _, _, _]).use (wkL_refl _) fun _ => ?_
     have hl6 := pStr_le r5
     obtain ⟨⟨t6, r6⟩, hx6⟩ : ∃ x, pStr r5 = x := ⟨_, rfl⟩
     simp only [hx6] at hl6 ⊢
     simp only [gw0, reduceEqDiff, ↓reduceIte, reduceAdd, reduceLT, reduceLeDiff, reduceMul, gwD3, gwDT, pureR_none, ite_self, nilR, nilB, bitF, bitV, nilC, nilCmp, eqb, assertV, assertW, zeroV, wQ_normal, wQ_ret, wQ_panic, pickO, pickC, List.map_cons, List.map_nil, List.getD_cons_zero, List.getD_cons_succ, Env.keep, beq_self_eq_true, cond_true, cond_false, at_1, Env.keep, List.length_map]
     have hb7 : (cac.length + 1) * 128 ≤ 140737488355328 := by omega
     refine ⟨hb7, (j, cac ++ [{ op := op, lib := t5, own := t6 }], r6), ⟨wkE_refl _, st ++ [.box [.lst 1 none (byteRows r6.1)], .box [.str [], .nils], .box [.bool r6.2], .box [.fn (.func 35) [.ptr st.length 0, .ptr (st.length + 2) 0]], .box [.fn (.func 37) [.ptr (st.length + 3) 0, .ptr st.length 0, .ptr (st.length + 2) 0]], .box [.str nm, .lst 2 (some (st.length + 6)) (acc.map encPr)], .tip 46 acc.length, .box [.int .i64 ar, .lst 11 (some (st.length + 8)) (cac.map encI ++ [[.int .i64 op, .int .i64 0, .int .i64 0, .str t5, .str t6, .int .i64 0, .int .i64 0, .str [], .int .i64 0, .int .i64 0, .nils]])], .tip 51 (cac.length + 1)], [.box [.int .i64 op, .int .i64 0, .int .i64 0, .str t5, .str t6, .int .i64 0, .int .i64 0, .str [], .int .i64 0, .int .i64 0, .nils]], by simp, ?_, ?_, ?_, by simp⟩, by dsimp only; omega, by simp; omega, by dsimp only at hl3 hl4 hl5 hl6 ⊢; omega, rfl⟩
     ·simp only [List.length_append, List.length_cons, List.length_nil]
      refine (wkSt_refl _).append (wkSt_cons (Ent.wkp_refl _) (wkSt_cons (Ent.wkp_refl _) (wkSt_cons (Ent.wkp_refl _) (wkSt_cons (Ent.wkp_refl _) (wkSt_cons (Ent.wkp_refl _) (wkSt_cons (Ent.wkp_refl _) (wkSt_cons (Ent.wkp_refl _) (wkSt_cons (Ent.wk_box ?_) (wkSt_cons (Ent.wkp_refl _) wkSt_nil)))))))))
      exact wkL_cons (wk_refl _) (wkL_cons (wk_lst_same (wkR_snoc8 (f := encI) (a := { op := op, lib := t5, own := t6 }) (wk_ins op 0 0 t5 t6) cac)) wkL_nil)
     ·simp only [ltE, V.lt, ltL, gwL]
      exact ⟨⟨fun e h => (by cases h), rows_lt _ _⟩, by omega, by omega, trivial, by omega, by omega, by omega, ⟨by omega, by omega, trivial⟩, by omega, trivial, by omega, trivial, trivial⟩
     ·exact ok_app hst ⟨⟨⟨fun e h => (by cases h), rows_lt _ _⟩, trivial⟩, by simp [Ent.lt, ltL, V.lt], by simp [Ent.lt, ltL, V.lt], by simp [Ent.lt, ltL, V.lt], by simp [Ent.lt, ltL, V.lt], rowsPr_ok _ _ _ _ (by simp), trivial, rowsIn_ok _ _ _ _ (by simp), trivial, trivial⟩
    rw [h7, cond_false]
    simp only [gw0, reduceEqDiff, ↓reduceIte, reduceAdd, reduceLT, reduceLeDiff, reduceMul, gwD3, gwDT, pureR_none, ite_self, nilR, nilB, bitF, bitV, nilC, nilCmp, eqb, assertV, assertW, zeroV, wQ_normal, wQ_ret, wQ_panic, pickO, pickC, List.map_cons, List.map_nil, List.getD_cons_zero, List.getD_cons_succ, Env.keep, beq_self_eq_true, cond_true, cond_false]
    refine iK_split (fun h8 => ?_) (fun h8 => ?_)
    ·rw [h8, cond_true]
     simp only [gw0, reduceEqDiff, ↓reduceIte, reduceAdd, reduceLT, reduceLeDiff, reduceMul, gwD3, gwDT, pureR_none, ite_self, nilR, nilB, bitF, bitV, nilC, nilCmp, eqb, assertV, assertW, zeroV, wQ_normal, wQ_ret, wQ_panic, pickO, pickC, List.map_cons, List.map_nil, List.getD_cons_zero, List.getD_cons_succ, Env.keep, beq_self_eq_true, cond_true, cond_false]
     refine (y_ptext st _ r4 [_, _, _, _, _]).use (wkL_refl _) fun _ => ?_
     have hl5 := pStr_le r4
     obtain ⟨⟨n5, r5⟩, hx5⟩ : ∃ x, pStr r4 = x := ⟨_, rfl⟩
     simp only [hx5] at hl5 ⊢
     simp only [gw0, reduceEqDiff, ↓reduceIte, reduceAdd, reduceLT, reduceLeDiff, reduceMul, gwD3, gwDT, pureR_none, ite_self, nilR, nilB, bitF, bitV, nilC, nilCmp, eqb, assertV, assertW, zeroV, wQ_normal, wQ_ret, wQ_panic, pickO, pickC, List.map_cons, List.map_nil, List.getD_cons_zero, List.getD_cons_succ, Env.keep, beq_self_eq_true, cond_true, cond_false, at_1, Env.keep, List.length_map]
     have hb7 : (cac.length + 1) * 128 ≤ 140737488355328 := by omega
     refine ⟨hb7, (j, cac ++ [{ op := op, own := n5 }], r5), ⟨wkE_refl _, st ++ [.box [.lst 1 none (byteRows r5.1)], .box [.str [], .nils], .box [.bool r5.2], .box [.fn (.func 35) [.ptr st.length 0, .ptr (st.length + 2) 0]], .box [.fn (.func 37) [.ptr (st.length + 3) 0, .ptr st.length 0, .ptr (st.length + 2) 0]], .box [.str nm, .lst 2 (some (st.length + 6)) (acc.map encPr)], .tip 46 acc.length, .box [.int .i64 ar, .lst 11 (some (st.length + 8)) (cac.map encI ++ [[.int .i64 op, .int .i64 0, .int .i64 0, .str [], .str n5, .int .i64 0, .int .i64 0, .str [], .int .i64 0, .int .i64 0, .nils]])], .tip 51 (cac.length + 1)], [.box [.int .i64 op, .int .i64 0, .int .i64 0, .str [], .str n5, .int .i64 0, .int .i64 0, .str [], .int .i64 0, .int .i64 0, .nils]], by simp, ?_, ?_, ?_, by simp⟩, by dsimp only; omega, by simp; omega, by dsimp only at hl3 hl4 hl5 ⊢; omega, rfl⟩
     ·simp only [List.length_append, List.length_cons, List.length_nil]
      refine (wkSt_refl _).append (wkSt_cons (Ent.wkp_refl _) (wkSt_cons (Ent.wkp_refl _) (wkSt_cons (Ent.wkp_refl _) (wkSt_cons (Ent.wkp_refl _) (wkSt_cons (Ent.wkp_refl _) (wkSt_cons (Ent.wkp_refl _) (wkSt_cons (Ent.wkp_refl _) (wkSt_cons (Ent.wk_box ?_) (wkSt_cons (Ent.wkp_refl _) wkSt_nil)))))))))
      exact wkL_cons (wk_refl _) (wkL_cons (wk_lst_same (wkR_snoc8 (f := encI) (a := { op := op, own := n5 }) (wk_ins op 0 0 [] n5) cac)) wkL_nil)
     ·simp only [ltE, V.lt, ltL, gwL]
      exact ⟨⟨fun e h => (by cases h), rows_lt _ _⟩, by omega, by omega, trivial, by omega, by omega, by omega, ⟨by omega, by omega, trivial⟩, by omega, trivial, by omega, trivial, trivial⟩
     ·exact ok_app hst ⟨⟨⟨fun e h => (by cases h), rows_lt _ _⟩, trivial⟩, by simp [Ent.lt, ltL, V.lt], by simp [Ent.lt, ltL, V.lt], by simp [Ent.lt, ltL, V.lt], by simp [Ent.lt, ltL, V.lt], rowsPr_ok _ _ _ _ (by simp), trivial, rowsIn_ok _ _ _ _ (by simp), trivial, trivial⟩
    rw [h8, cond_false]
    simp only [gw0, reduceEqDiff, ↓reduceIte, reduceAdd, reduceLT, reduceLeDiff, reduceMul, gwD3, gwDT, pureR_none, ite_self, nilR, nilB, bitF, bitV, nilC, nilCmp, eqb, assertV, assertW, zeroV, wQ_normal, wQ_ret, wQ_panic, pickO, pickC, List.map_cons, List.map_nil, List.getD_cons_zero, List.getD_cons_succ, Env.keep, beq_self_eq_true, cond_true, cond_false]
    refine iK_split (fun h9 => ?_) (fun h9 => ?_)
    ·rw [h9, cond_true]
     simp only [gw0, reduceEqDiff, ↓reduceIte, reduceAdd, reduceLT, reduceLeDiff, reduceMul, gwD3, gwDT, pureR_none, ite_self, nilR, nilB, bitF, bitV, nilC, nilCmp, eqb, assertV, assertW, zeroV, wQ_normal, wQ_ret, wQ_panic, pickO, pickC, List.map_cons, List.map_nil, List.getD_cons_zero, List.getD_cons_succ, Env.keep, beq_self_eq_true, cond_true, cond_false, at_1, Env.keep, List.length_map]
     have hb7 : (cac.length + 1) * 128 ≤ 140737488355328 := by omega
     refine ⟨hb7, (j, cac ++ [{ op := op }], r4), ⟨wkE_refl _, st ++ [.box [.lst 1 none (byteRows r4.1)], .box [.str [], .nils], .box [.bool r4.2], .box [.fn (.func 35) [.ptr st.length 0, .ptr (st.length + 2) 0]], .box [.fn (.func 37) [.ptr (st.length + 3) 0, .ptr st.length 0, .ptr (st.length + 2) 0]], .box [.str nm, .lst 2 (some (st.length + 6)) (acc.map encPr)], .tip 46 acc.length, .box [.int .i64 ar, .lst 11 (some (st.length + 8)) (cac.map encI ++ [[.int .i64 op, .int .i64 0, .int .i64 0, .str [], .str [], .int .i64 0, .int .i64 0, .str [], .int .i64 0, .int .i64 0, .nils]])], .tip 51 (cac.length + 1)], [.box [.int .i64 op, .int .i64 0, .int .i64 0, .str [], .str [], .int .i64 0, .int .i64 0, .str [], .int .i64 0, .int .i64 0, .nils]], by simp, ?_, ?_, ?_, by simp⟩, by dsimp only; omega, by simp; omega, by dsimp only at hl3 hl4 ⊢; omega, rfl⟩
     ·simp only [List.length_append, List.length_cons, List.length_nil]
      refine (wkSt_refl _).append (wkSt_cons (Ent.wkp_refl _) (wkSt_cons (Ent.wkp_refl _) (wkSt_cons (Ent.wkp_refl _) (wkSt_cons (Ent.wkp_refl _) (wkSt_cons (Ent.wkp_refl _) (wkSt_cons (Ent.wkp_refl _) (wkSt_cons (Ent.wkp_refl _) (wkSt_cons (Ent.wk_box ?_) (wkSt_cons (Ent.wkp_refl _) wkSt_nil)))))))))
      exact wkL_cons (wk_refl _) (wkL_cons (wk_lst_same (wkR_snoc8 (f := encI) (a := { op := op }) (wk_ins op 0 0 [] []) cac)) wkL_nil)
     ·simp only [ltE, V.lt, ltL, gwL]
      exact ⟨⟨fun e h => (by cases h), rows_lt _ _⟩, by omega, by omega, trivial, by omega, by omega, by omega, ⟨by omega, by omega, trivial⟩, by omega, trivial, by omega, trivial, trivial⟩
     ·exact ok_app hst ⟨⟨⟨fun e h => (by cases h), rows_lt _ _⟩, trivial⟩, by simp [Ent.lt, ltL, V.lt], by simp [Ent.lt, ltL, V.lt], by simp [Ent.lt, ltL, V.lt], by simp [Ent.lt, ltL, V.lt], rowsPr_ok _ _ _ _ (by simp), trivial, rowsIn_ok _ _ _ _ (by simp), trivial, trivial⟩
    rw [h9, cond_false]
    simp only [gw0, reduceEqDiff, ↓reduceIte, reduceAdd, reduceLT, reduceLeDiff, reduceMul, gwD3, gwDT, pureR_none, ite_self, nilR, nilB, bitF, bitV, nilC, nilCmp, eqb, assertV, assertW, zeroV, wQ_normal, wQ_ret, wQ_panic, pickO, pickC, List.map_cons, List.map_nil, List.getD_cons_zero, List.getD_cons_succ, Env.keep, beq_self_eq_true, cond_true, cond_false]
    refine (y_pnum st _ r4 [_, _, _, _, _, _, _]).use (wkL_refl _) fun _ => ?_
    have hl5 := pNum_le r4
    obtain ⟨⟨n5, r5⟩, hx5⟩ : ∃ x, pNum r4 = x := ⟨_, rfl⟩
    simp only [hx5] at hl5 ⊢
    simp only [gw0, reduceEqDiff, ↓reduceIte, reduceAdd, reduceLT, reduceLeDiff, reduceMul, gwD3, gwDT, pureR_none, ite_self, nilR, nilB, bitF, bitV, nilC, nilCmp, eqb, assertV, assertW, zeroV, wQ_normal, wQ_ret, wQ_panic, pickO, pickC, List.map_cons, List.map_nil, List.getD_cons_zero, List.getD_cons_succ, Env.keep, beq_self_eq_true, cond_true, cond_false, at_1, Env.keep, List.length_map]
    have hb7 : (cac.length + 1) * 128 ≤ 140737488355328 := by omega
    refine ⟨hb7, (j, cac ++ [{ op := op, a := n5 }], r5), ⟨wkE_refl _, st ++ [.box [.lst 1 none (byteRows r5.1)], .box [.str [], .nils], .box [.bool r5.2], .box [.fn (.func 35) [.ptr st.length 0, .ptr (st.length + 2) 0]], .box [.fn (.func 37) [.ptr (st.length + 3) 0, .ptr st.length 0, .ptr (st.length + 2) 0]], .box [.str nm, .lst 2 (some (st.length + 6)) (acc.map encPr)], .tip 46 acc.length, .box [.int .i64 ar, .lst 11 (some (st.length + 8)) (cac.map encI ++ [[.int .i64 op, .int .i64 n5, .int .i64 0, .str [], .str [], .int .i64 0, .int .i64 0, .str [], .int .i64 0, .int .i64 0, .nils]])], .tip 51 (cac.length + 1)], [.box [.int .i64 op, .int .i64 n5, .int .i64 0, .str [], .str [], .int .i64 0, .int .i64 0, .str [], .int .i64 0, .int .i64 0, .nils]], by simp, ?_, ?_, ?_, by simp⟩, by dsimp only; omega, by simp; omega, by dsimp only at hl3 hl4 hl5 ⊢; omega, rfl⟩
    ·simp only [List.length_append, List.length_cons, List.length_nil]
     refine (wkSt_refl _).append (wkSt_cons (Ent.wkp_refl _) (wkSt_cons (Ent.wkp_refl _) (wkSt_cons (Ent.wkp_refl _) (wkSt_cons (Ent.wkp_refl _) (wkSt_cons (Ent.wkp_refl _) (wkSt_cons (Ent.wkp_refl _) (wkSt_cons (Ent.wkp_refl _) (wkSt_cons (Ent.wk_box ?_) (wkSt_cons (Ent.wkp_refl _) wkSt_nil)))))))))
     exact wkL_cons (wk_refl _) (wkL_cons (wk_lst_same (wkR_snoc8 (f := encI) (a := { op := op, a := n5 }) (wk_ins op n5 0 [] []) cac)) wkL_nil)
    ·simp only [ltE, V.lt, ltL, gwL]
     exact ⟨⟨fun e h => (by cases h), rows_lt _ _⟩, by omega, by omega, trivial, by omega, by omega, by omega, ⟨by omega, by omega, trivial⟩, by omega, trivial, by omega, trivial, trivial⟩
    ·exact ok_app hst ⟨⟨⟨fun e h => (by cases h), rows_lt _ _⟩, trivial⟩, by simp [Ent.lt, ltL, V.lt], by simp [Ent.lt, ltL, V.lt], by simp [Ent.lt, ltL, V.lt], by simp [Ent.lt, ltL, V.lt], rowsPr_ok _ _ _ _ (by simp), trivial, rowsIn_ok _ _ _ _ (by simp), trivial, trivial⟩
  ·rw [pCode_stop hcac h3]
   simp only [gw0, reduceEqDiff, ↓reduceIte, reduceAdd, reduceLT, reduceLeDiff, reduceMul, gwD3, gwDT, pureR_none, ite_self, nilR, nilB, bitF, bitV, nilC, nilCmp, eqb, assertV, assertW, zeroV, wQ_normal, wQ_ret, wQ_panic, pickO, pickC, List.map_cons, List.map_nil, List.getD_cons_zero, List.getD_cons_succ, Env.keep, beq_self_eq_true, cond_true, cond_false, at_1, Env.keep, List.length_map]
   have hb7 : (acc.length + 1) * 32 ≤ 140737488355328 := by omega
   refine ⟨hb7, (k, acc ++ [⟨ar, cac⟩], (r3, v3)), ⟨wkE_refl _, st ++ [.box [.lst 1 none (byteRows r3)], .box [.str [], .nils], .box [.bool v3], .box [.fn (.func 35) [.ptr st.length 0, .ptr (st.length + 2) 0]], .box [.fn (.func 37) [.ptr (st.length + 3) 0, .ptr st.length 0, .ptr (st.length + 2) 0]], .box [.str nm, .lst 2 (some (st.length + 6)) (acc.map encPr ++ [[.int .i64 ar, .lst 11 (some (st.length + 8)) (cac.map encI)]])], .tip 46 (acc.length + 1)], [.box [.int .i64 ar, .lst 11 (some (st.length + 8)) (cac.map encI)], .tip 51 cac.length], by simp, ?_, ?_, ?_, by simp⟩, by dsimp only; omega, by simp; omega, by dsimp only at hl3 ⊢; omega, rfl⟩
   ·simp only [List.length_append, List.length_cons, List.length_nil]
    refine (wkSt_refl _).append (wkSt_cons (Ent.wkp_refl _) (wkSt_cons (Ent.wkp_refl _) (wkSt_cons (Ent.wkp_refl _) (wkSt_cons (Ent.wkp_refl _) (wkSt_cons (Ent.wkp_refl _) (wkSt_cons (Ent.wk_box ?_) (wkSt_cons (Ent.wkp_refl _) wkSt_nil)))))))
    exact wkL_cons (wk_refl _) (wkL_cons (wk_lst_same (wkR_snoc8 (f := encPr) (a := ⟨ar, cac⟩) (wkL_cons (wk_refl _) (wkL_cons (wk_tok _ _ _) wkL_nil)) acc)) wkL_nil)
   ·simp only [ltE, V.lt, ltL, gwL]
    exact ⟨⟨fun e h => (by cases h), rows_lt _ _⟩, by omega, by omega, trivial, by omega, by omega, by omega, ⟨by omega, by omega, trivial⟩, by omega, trivial, trivial⟩
   ·exact ok_app hst ⟨⟨⟨fun e h => (by cases h), rows_lt _ _⟩, trivial⟩, by simp [Ent.lt, ltL, V.lt], by simp [Ent.lt, ltL, V.lt], by simp [Ent.lt, ltL, V.lt], by simp [Ent.lt, ltL, V.lt], rowsPr_ok _ _ _ _ (by simp), trivial, trivial⟩
 ·rw [pProtos_stop hacc h2]
  have hb1 : decide ((0 : Int) < (r.length : Int)) = !r.isEmpty := by cases r <;> simp <;> omega
  simp only [gw0, reduceEqDiff, ↓reduceIte, reduceAdd, reduceLT, reduceLeDiff, reduceMul, gwD3, gwDT, pureR_none, ite_self, nilR, nilB, bitF, bitV, nilC, nilCmp, eqb, assertV, assertW, zeroV, wQ_normal, wQ_ret, wQ_panic, pickO, pickC, List.map_cons, List.map_nil, List.getD_cons_zero, List.getD_cons_succ, Env.keep, beq_self_eq_true, cond_true, cond_false, at_1, hb1, rows_len]
  refine iK_split (fun h3 => ?_) (fun h3 => ?_)
  ·rw [h3]
   simp only [gw0, reduceEqDiff, ↓reduceIte, reduceAdd, reduceLT, reduceLeDiff, reduceMul, gwD3, gwDT, pureR_none, ite_self, nilR, nilB, bitF, bitV, nilC, nilCmp, eqb, assertV, assertW, zeroV, wQ_normal, wQ_ret, wQ_panic, pickO, pickC, List.map_cons, List.map_nil, List.getD_cons_zero, List.getD_cons_succ, Env.keep, beq_self_eq_true, cond_true, cond_false, at_1]
   exact bad 2 _
  ·rw [h3]
   simp only [gw0, reduceEqDiff, ↓reduceIte, reduceAdd, reduceLT, reduceLeDiff, reduceMul, gwD3, gwDT, pureR_none, ite_self, nilR, nilB, bitF, bitV, nilC, nilCmp, eqb, assertV, assertW, zeroV, wQ_normal, wQ_ret, wQ_panic, pickO, pickC, List.map_cons, List.map_nil, List.getD_cons_zero, List.getD_cons_succ, Env.keep, beq_self_eq_true, cond_true, cond_false, at_1]
   refine (c_ref8_Wrong ⟨nm, acc⟩ _).use (wkL_cons (wk_agg (wkL_cons (wk_refl _) (wkL_cons (wk_tok _ _ _) wkL_nil))) wkL_nil) fun _ => ?_
   simp only [gw0, reduceEqDiff, ↓reduceIte, reduceAdd, reduceLT, reduceLeDiff, reduceMul, gwD3, gwDT, pureR_none, ite_self, nilR, nilB, bitF, bitV, nilC, nilCmp, eqb, assertV, assertW, zeroV, wQ_normal, wQ_ret, wQ_panic, pickO, pickC, List.map_cons, List.map_nil, List.getD_cons_zero, List.getD_cons_succ, Env.keep, beq_self_eq_true, cond_true, cond_false, at_1]
   refine iK_split (fun h4 => ?_) (fun h4 => ?_)
   ·rw [not_yes h4]
    simp only [gw0, reduceEqDiff, ↓reduceIte, reduceAdd, reduceLT, reduceLeDiff, reduceMul, gwD3, gwDT, pureR_none, ite_self, nilR, nilB, bitF, bitV, nilC, nilCmp, eqb, assertV, assertW, zeroV, wQ_normal, wQ_ret, wQ_panic, pickO, pickC, List.map_cons, List.map_nil, List.getD_cons_zero, List.getD_cons_succ, Env.keep, beq_self_eq_true, cond_true, cond_false, at_1]
    exact bad _ _
   ·rw [not_no h4]
    simp only [gw0, reduceEqDiff, ↓reduceIte, reduceAdd, reduceLT, reduceLeDiff, reduceMul, gwD3, gwDT, pureR_none, ite_self, nilR, nilB, bitF, bitV, nilC, nilCmp, eqb, assertV, assertW, zeroV, wQ_normal, wQ_ret, wQ_panic, pickO, pickC, List.map_cons, List.map_nil, List.getD_cons_zero, List.getD_cons_succ, Env.keep, beq_self_eq_true, cond_true, cond_false, at_1]
    exact gives_of (wk_tup (wkL_cons (wk_agg (wkL_cons (wk_refl _) (wkL_cons (wk_tok _ _ _) wkL_nil))) (wkL_cons (wk_refl _) wkL_nil))) (wkSt_refl _) (by simp only [unitR, V.lt, ltL]; exact ⟨encU_lt _ _, trivial, trivial⟩) hst
def sameU (u v : Unit') : Bool := decide (u.name = v.name) && samePs u.protos v.protos
theorem c_SameUnit (u v : Unit') (st : St) : VCalls Tryz.prog TT 12 [.agg (encU u), .agg (encU v)] st fun r st' => r = .ret (.bool (sameU u v)) ∧ st' = st := by
 obtain ⟨n1, p1⟩ := u
 obtain ⟨n2, p2⟩ := v
 refine vfun TT_ok (an := anL [(2, 1), (3, 1)]) (L := [0, 1, 2, 3, 4]) (rs := [.tmp 4]) Tryz.func12 rfl (by kernel_rfl) rfl Tryz.ntmps12 rfl rfl (Nat.le_refl _) fun hst ha hf => ?_
 simp only [encU]
 simp only [gw0, reduceEqDiff, ↓reduceIte, reduceAdd, reduceLT, reduceLeDiff, reduceMul]
 refine rK_guarded (.bool (samePs p1 p2)) (fun _ => c_SameProtos p1 p2 _) ?_
 simp only [gw0, reduceEqDiff, ↓reduceIte, reduceAdd, reduceLT, reduceLeDiff, reduceMul]
 exact gives_bool rfl hst
theorem c_sameB (a b : Str) (st : St) : VCalls Tryz.prog TT 9 [lstY a, lstY b] st fun r st' => r = .ret (.bool (decide (a = b))) ∧ st' = st := by
 refine vfun TT_ok (an := anL []) (L := [0, 1, 4]) (rs := [.tmp 4]) Tryz.func9 rfl (by kernel_rfl) rfl Tryz.ntmps9 rfl rfl (Nat.le_refl _) fun hst ha hf => ?_
 simp only [lstY]
 simp only [gw0, reduceEqDiff, ↓reduceIte, reduceAdd, reduceLT, reduceLeDiff, reduceMul, convV, bytesOf_rows]
 exact gives_bool rfl hst
theorem encU_len (u : Unit') : (encU u).length = 2 := rfl
theorem encU_drop (u : Unit') : (encU u).drop 2 = [] := rfl
theorem encU_take (u : Unit') : (encU u).take 2 = encU u := rfl
theorem sameU_self (u : Unit') : sameU u u = true := by simp only [sameU, decide_true, samePs_self, Bool.and_self]
theorem c_Tells (u : Unit') (b : Str) (st : St) : VCalls Tryz.prog TT 3 [.agg (encU u), lstY b] st fun r st' => r = .ret (.bool true) ∧ st' = st := by
 refine vfun TT_ok (an := anL [(2, 1)]) (L := [0, 1, 2, 4, 5, 6, 7, 8, 9, 10]) (rs := [.tmp 4]) Tryz.func3 rfl (by kernel_rfl) rfl Tryz.ntmps3 rfl rfl (Nat.le_refl _) fun hst ha hf => ?_
 simp only [gw0, reduceEqDiff, ↓reduceIte, reduceAdd, reduceLT, reduceLeDiff, reduceMul, encU_len, encU_drop, encU_take, Nat.le_refl]
 refine vdraw TT_ok TT_mixed [1, 0, 1, 0, 0] (by kernel_rfl) ?_
 simp only [gw0, reduceEqDiff, ↓reduceIte, reduceAdd, reduceLT, reduceLeDiff, reduceMul, encU_len, encU_drop, encU_take, Nat.le_refl]
 refine eK_free (fun st => c_object_Wrong u st) (wkL_refl _) ?_
 simp only [gw0, reduceEqDiff, ↓reduceIte, reduceAdd, reduceLT, reduceLeDiff, reduceMul, encU_len, encU_drop, encU_take, Nat.le_refl]
 refine eK_free (fun st => c_ref8_Wrong u st) (wkL_refl _) ?_
 simp only [gw0, reduceEqDiff, ↓reduceIte, reduceAdd, reduceLT, reduceLeDiff, reduceMul, encU_len, encU_drop, encU_take, Nat.le_refl, decide_true, Bool.not_true]
 refine (c_Bytes u _).use (wkL_refl _) fun _ => ?_
 cases hb : bytesW u with
 | mk x e =>
  simp only [bytesR]
  simp only [gw0, reduceEqDiff, ↓reduceIte, reduceAdd, reduceLT, reduceLeDiff, reduceMul, encU_len, encU_drop, encU_take, Nat.le_refl, decide_true, Bool.not_true]
  refine (c_ref8_Bytes u _).use (wkL_refl _) fun _ => ?_
  rw [hb]
  simp only [bytesR]
  simp only [gw0, reduceEqDiff, ↓reduceIte, reduceAdd, reduceLT, reduceLeDiff, reduceMul, encU_len, encU_drop, encU_take, Nat.le_refl, decide_true, Bool.not_true]
  refine rK_guarded (.bool (decide (x = x))) (fun _ => c_sameB x x _) ?_
  simp only [gw0, reduceEqDiff, ↓reduceIte, reduceAdd, reduceLT, reduceLeDiff, reduceMul, encU_len, encU_drop, encU_take, Nat.le_refl, decide_true, Bool.not_true]
  refine (c_Parse b _).use (wkL_refl _) fun _ => ?_
  cases hp : rUnit b with
  | mk w f =>
   simp only [unitR]
   simp only [gw0, reduceEqDiff, ↓reduceIte, reduceAdd, reduceLT, reduceLeDiff, reduceMul, encU_len, encU_drop, encU_take, Nat.le_refl, decide_true, Bool.not_true]
   refine (c_ref8_Parse b _).use (wkL_refl _) fun _ => ?_
   rw [unit_ag, hp]
   simp only [unitR]
   simp only [gw0, reduceEqDiff, ↓reduceIte, reduceAdd, reduceLT, reduceLeDiff, reduceMul, encU_len, encU_drop, encU_take, Nat.le_refl, decide_true, Bool.not_true, List.append_nil]
   refine rK_guarded (.bool (sameU w w)) (fun _ => c_SameUnit w w _) ?_
   rw [sameU_self]
   simp only [gw0, reduceEqDiff, ↓reduceIte, reduceAdd, reduceLT, reduceLeDiff, reduceMul, decide_true]
   exact gives_bool' rfl hst
end Go.Proofs.YtcdnooalfkbmgaaGreatDoor.Gx
namespace Go.Proofs.YtcdnooalfkbmgaaGreatDoor.Gx
open Go Go.Proofs.YtcdnooalfkbmgaaGreatDoor.Gw
set_option linter.unusedSimpArgs false
set_option linter.unusedVariables false
def encY1 (b : UInt8) : List V := [.int .u8 b.toNat]
theorem len_succ {α : Type} {cs : List α} {n : Nat} (h : cs.length = n + 1) : ∃ c r, cs = c :: r ∧ r.length = n := by
 cases cs with
 | nil => simp at h
 | cons c r => exact ⟨c, r, rfl, by simpa using h⟩
open Go.ChangeShapes Go.WideShapes Go.ChangeAt Go.RowKit
theorem own : ownKnob Tryz.prog.godebug = none := by kernel_rfl
theorem laidOut : laidOutB Tryz.prog = true := by kernel_rfl
theorem below_of {W W' : World} {g' : G} (h : Ext g00 W g' W') : Below W.heap.size W W' := ⟨h.os, h.tape, h.output, h.size, fun k hk => (h.free k hk rfl).1⟩
theorem okWide_slice {P : Program} {W : World} {r : Reach} {b : Nat} {t e : TypeId} {v : Value} (ht : P.underlying t = some (.slice e)) (h : Value.okWide P W r b t v) : v.cells.toList = [v] := by
 unfold Value.okWide at h
 rw [ht] at h
 simp only [Cell.okWide, ht] at h
 cases v <;> first | rfl | (simp [Cell.ok, ht] at h)
theorem dec_byte1 {H : Type} {enc : TypeId × Value → H} {P : Program} {W : World} {spare : Nat → Bool} {held : Bool} {t : TypeId} (ht : P.underlying t = some (.int .u8)) {n : Nat} {cs : List Value} {r : DataW H × List MemPlace} (h : DataW.trod enc P W 0 spare held n t cs = some r) : ∃ x : UInt8, SimVs g00 W (encY1 x) cs ∧ ∀ u ∈ cs, u.oneCell' = true := by
 obtain ⟨m, rfl⟩ := dec_int ht h
 have hw : (Lit.int .u8 m).wf = true := by
  cases n with
  | zero => simp [DataW.trod] at h
  | succ n =>
   unfold DataW.trod at h
   rw [ht] at h
   simp only at h
   split at h
   ·rename_i e; exact e.2
   ·cases h
 have hm : 0 ≤ m ∧ m ≤ 255 := by simpa [Lit.wf, IntKind.has, IntKind.min, IntKind.max, IntKind.bits, IntKind.signed] using hw
 refine ⟨UInt8.ofNat m.toNat, ⟨_, _, rfl, ?_, rfl⟩, by simp [Value.oneCell']⟩
 have : ((UInt8.ofNat m.toNat).toNat : Int) = m := by rw [UInt8.toNat_ofNat']; omega
 rw [this]; rfl
end Go.Proofs.YtcdnooalfkbmgaaGreatDoor.Gx
