/- Contract of graftref4.Order: it answers what graph.Order does. The law GraphTells answers true. The row of the law GraphTells, where what comes in is not too much: it answers true, and what came in reads as it did. -/
import Derived.Test.YtcegdbniggdckaaZG7

namespace Go.Proofs.Ytcegdbniggdckaa.Gx
open Go Go.Proofs.Ytcegdbniggdckaa.Gw
set_option linter.unusedSimpArgs false
set_option linter.unusedVariables false

def dup2 : List Str → List Node' → Option Str
  | _, [] => none
  | seen, n :: r => if n.name ∈ seen then some n.name else dup2 (seen ++ [n.name]) r
theorem dup_eq : ∀ (l : List Node') (M : NM), (dupL l M).1 = dup2 (M.map (·.1)) l
  | [], M => rfl
  | n :: r, M => by
    rw [dupL, dup2]
    by_cases h : (asc n.name M).isSome = true
    · rw [if_pos h, if_pos (asc_keys.1 h)]
    · rw [if_neg h, if_neg (fun e => h (asc_keys.2 e)), dup_eq r]
      have hno : asc n.name M = none := by cases e : asc n.name M with
                                           | none => rfl
                                           | some v => rw [e] at h; exact absurd rfl h
      rw [ups_new hno]; simp
theorem cycL_first {f : Str → List Str} {n : Str} {r : List Str} : ∀ {pre : List Str}, (∀ x ∈ pre, ¬ Rch f x x) → Rch f n n → cycL f (pre ++ n :: r) = n
  | [], _, h => by rw [List.nil_append, cycL, if_pos h]
  | x :: p, h1, h => by rw [List.cons_append, cycL, if_neg (h1 x (by simp)), cycL_first (fun y hy => h1 y (by simp [hy])) h]
theorem idxF_pre {p : Str → Bool} {n : Str} {r : List Str} (hn : p n = true) : ∀ (pre : List Str) (i : Nat), (∀ x ∈ pre, p x = false) → idxF p i (pre ++ n :: r) = ((i + pre.length : Nat) : Int)
  | [], i, _ => by simp [idxF, hn]
  | x :: q, i, h => by
    rw [List.cons_append, idxF, h x (by simp), cond_false, idxF_pre hn q (i + 1) fun y hy => h y (by simp [hy])]
    simp only [List.length_cons]; congr 1; omega
/-- What is not put yet. -/
def lftS (all out : List Str) : List Str := all.filter fun n => !decide (n ∈ out)
theorem lft_pick {f : Str → List Str} {all out : List Str} {i : Nat} {n : Str} (hnd : all.Nodup) (hcl : ∀ n ∈ all, ∀ m ∈ f n, m ∈ all) (hn : all[i]? = some n) (hno : n ∉ out) (hok : ∀ m ∈ f n, m ∈ out)
    (hpre : ∀ x ∈ all.take i, x ∈ out ∨ ∃ m ∈ f x, m ∉ out) : ∃ j : Nat, pickL f (lftS all out) = (j : Int) ∧ j < (lftS all out).length ∧ (lftS all out).getD j [] = n ∧ (lftS all out).take j ++ (lftS all out).drop (j + 1) = lftS all (out ++ [n]) := by
  have hi := (List.getElem?_eq_some_iff.1 hn).1
  have e : all = all.take i ++ n :: all.drop (i + 1) := by
    conv => lhs; rw [← List.take_append_drop i all, List.drop_eq_getElem_cons hi, (List.getElem?_eq_some_iff.1 hn).2]
  have hnd' := hnd
  rw [e] at hnd'
  rw [List.nodup_append, List.nodup_cons] at hnd'
  obtain ⟨-, ⟨h3, -⟩, h4⟩ := hnd'
  have es : lftS all out = lftS (all.take i) out ++ n :: lftS (all.drop (i + 1)) out := by
    conv => lhs; rw [e]
    unfold lftS
    rw [List.filter_append, List.filter_cons_of_pos (by simp [hno])]
  have hmem : ∀ x, x ∈ all → (x ∈ lftS all out ↔ x ∉ out) := fun x hx => by unfold lftS; simp [hx]
  have hin := List.mem_of_getElem? hn
  have key : ∀ L : List Str, n ∉ L → lftS L (out ++ [n]) = lftS L out := fun L hL => by
    unfold lftS
    refine List.filter_congr fun x hx => ?_
    have : x ≠ n := fun e => hL (e ▸ hx)
    simp [this]
  refine ⟨(lftS (all.take i) out).length, ?_, by rw [es]; simp, ?_, ?_⟩
  · have hp1 : (fun x => !((f x).any fun m => decide (m ∈ lftS all out))) n = true := by
      simp only [Bool.not_eq_true', List.any_eq_false, decide_eq_true_eq]
      exact fun m hm h => (hmem m (hcl n hin m hm)).1 h (hok m hm)
    have hp2 : ∀ x ∈ lftS (all.take i) out, (fun x => !((f x).any fun m => decide (m ∈ lftS all out))) x = false := fun x hx => by
      unfold lftS at hx
      rw [List.mem_filter] at hx
      obtain ⟨hx1, hx2⟩ := hx
      have hxo : x ∉ out := by simpa using hx2
      obtain ⟨m, hm, hmo⟩ := (hpre x hx1).resolve_left hxo
      simp only [Bool.not_eq_false', List.any_eq_true, decide_eq_true_eq]
      exact ⟨m, hm, (hmem m (hcl x (List.mem_of_mem_take hx1) m hm)).2 hmo⟩
    unfold pickL
    have := idxF_pre (r := lftS (all.drop (i + 1)) out) hp1 (lftS (all.take i) out) 0 hp2
    rw [← es] at this
    rw [this]; simp
  · rw [es]; simp
  · rw [es]
    have : lftS all (out ++ [n]) = lftS (all.take i) out ++ lftS (all.drop (i + 1)) out := by
      conv => lhs; rw [e]
      rw [← key _ (fun h => h4 n h n (by simp) rfl), ← key _ h3]
      unfold lftS
      rw [List.filter_append, List.filter_cons_of_neg (by simp)]
    rw [this]
    simp
theorem lftS_nil (all : List Str) : lftS all [] = all := by unfold lftS; simp

open Classical in
set_option maxRecDepth 20000 in
set_option maxHeartbeats 16000000 in
theorem c_Order4 (l : List Node') (st : St) (hN : NOk l) : VCalls Try.prog TT 9 [lstN l] st fun r st' => r = .ret (ordV (orderL l)) ∧ st' = st := by
  refine vfun TT_ok (an := anL []) (L := [0, 2, 3, 4, 5, 6, 7, 9, 10, 13, 15, 17, 18, 20, 21, 23, 25, 27, 28, 55, 56, 57, 67, 68, 69, 84, 85, 86, 101, 102, 103, 117, 118, 119]) (rs := [.tmp 2, .tmp 3, .tmp 4]) Try.func9 rfl (by kernel_rfl) rfl Try.ntmps9 rfl rfl (Nat.le_refl _) fun hst ha hf => ?_
  generalize hr : orderL l = res
  have hfew := hN.few
  simp only [lstN, fitL, V.fit, List.length_map] at hf ⊢
  have give : ∀ (v : V) (a : List Str) (b : Str) (e : Int) (ex : St), res = (a, b, e) → wk v (encS a) → Gives (ordV res) st (.ret (.tup [v, .str b, .int .i64 e])) (st ++ ex) := fun v a b e ex h hw => by
    rw [h]
    refine gives_of (wk_tup (wkL_cons hw (wkL_refl _))) (wkSt_refl _) ?_ hst
    simp only [ordV, encS, V.lt, ltL, and_true, true_and]
    exact ⟨fun e h => (by cases h), ltRows_map fun x _ => ⟨trivial, trivial⟩⟩
  have give0 : ∀ (v : V) (a : List Str) (b : Str) (e : Int), res = (a, b, e) → wk v (encS a) → Gives (ordV res) st (.ret (.tup [v, .str b, .int .i64 e])) st := fun v a b e h hw => by
    have := give v a b e [] h hw
    rwa [List.append_nil] at this
  have hdl : ∀ n, (ndF l n).length ≤ 1048576 := fun n => by
    unfold ndF
    cases e : fndL n l with
    | none => simp
    | some v =>
      obtain ⟨u, hu, -, rfl⟩ := fnd_memC e
      exact hN.len u hu
  simp only [gwL, gwB, gwD, gwE, gwS, gwTT, gwZ, gwN, gwC, Nat.reduceEqDiff, ↓reduceIte, Nat.reduceAdd, Nat.reduceLT, Nat.reduceLeDiff, Nat.reduceMul, List.length_map]
  refine vfor (σ := Nat) [0, 2, 3, 4, 27, 28] (fun i => [(0, true, .lst 2 none (l.map encN)), (2, true, .nils), (3, true, .str []), (4, true, .int .i64 0), (27, true, .int .i64 l.length), (28, true, .int .i64 i)]) (fun i => st) (fun i => l.length - i) (fun i => i ≤ l.length ∧ dup2 [] l = dup2 ((l.take i).map (·.name)) (l.drop i)) 0 rfl TT_ok ⟨Nat.zero_le _, rfl⟩ rfl rfl ?_
  rintro i ⟨hi, hx⟩
  rcases at_or_end l i hi with ⟨hie, hd⟩ | ⟨u, hlt, hget, hdr⟩
  · have hie2 : i = l.length := hie
    subst hie2
    rw [hd, dup2] at hx
    simp only [gwL, gwB, gwD, gwE, gwS, gwTT, gwZ, gwN, gwC, Nat.reduceEqDiff, ↓reduceIte, Nat.reduceAdd, Nat.reduceLT, Nat.reduceLeDiff, Nat.reduceMul, lt_no]
    refine (c_Names4 st l hfew).use (wkL_refl _) fun _ => ?_
    have hd1 : (dupL l []).1 = none := by rw [dup_eq]; exact hx
    obtain ⟨e1, e2, e3, -, e5⟩ := dup_none hd1
    unfold orderL at hr
    rw [hd1] at hr
    generalize (dupL l []).2 = M at *
    simp only [List.map_nil, List.nil_append, asc] at e1 e2 hr
    rw [e2] at hr
    have hf2 : ndM M = ndF l := by funext s; unfold ndM ndF; rw [e1]
    obtain ⟨all, hall⟩ : ∃ all, all = sortS (l.map (·.name)) := ⟨_, rfl⟩
    rw [← hall] at hr ⊢
    have hp : all.Perm (l.map (·.name)) := by rw [hall]; exact sortS_perm _
    have hnd : all.Nodup := hp.nodup_iff.2 e3
    have hal : all.length = l.length := by rw [hp.length_eq, List.length_map]
    have hkeys : ∀ s, (asc s M).isSome = true → s ∈ all := fun s hs => hp.mem_iff.2 (by rw [← e2]; exact asc_keys.1 hs)
    have hso := sortS_sorted (l.map (·.name))
    rw [← hall] at hso
    clear hall
    simp only [gwL, gwB, gwD, gwE, gwS, gwTT, gwZ, gwN, gwC, Nat.reduceEqDiff, ↓reduceIte, Nat.reduceAdd, Nat.reduceLT, Nat.reduceLeDiff, Nat.reduceMul, encS, rowsS_len, List.length_map]
    refine vfor (σ := Nat) [0, 2, 3, 4, 7, 55, 56, 57] (fun i => [(0, true, .lst 2 none (l.map encN)), (2, true, .nils), (3, true, .str []), (4, true, .int .i64 0), (7, true, .lst 1 none (rowsS all)), (55, true, .lst 1 none (rowsS all)), (56, true, .int .i64 all.length), (57, true, .int .i64 i)]) (fun i => st) (fun i => all.length - i) (fun i => i ≤ all.length ∧ missL M all = missL M (all.drop i)) 0 rfl TT_ok ⟨Nat.zero_le _, rfl⟩ rfl rfl ?_
    rintro i ⟨hi, hmi⟩
    rcases at_or_end all i hi with ⟨hie, hd⟩ | ⟨n, hlt, hget, hdr⟩
    · have hie2 : i = all.length := hie
      subst hie2
      rw [hd, missL] at hmi
      rw [hmi, hf2] at hr
      have hmn := missL_none hmi
      rw [hf2] at hmn
      have hcl : ∀ n ∈ all, ∀ m ∈ ndF l n, m ∈ all := fun n hn m hm => hkeys m (hmn n hn m hm)
      simp only at hr
      simp only [gwL, gwB, gwD, gwE, gwS, gwTT, gwZ, gwN, gwC, Nat.reduceEqDiff, ↓reduceIte, Nat.reduceAdd, Nat.reduceLT, Nat.reduceLeDiff, Nat.reduceMul, lt_no, rowsS_len]
      refine vfor (σ := Nat) [0, 2, 3, 4, 7, 84, 85, 86] (fun i => [(0, true, .lst 2 none (l.map encN)), (2, true, .nils), (3, true, .str []), (4, true, .int .i64 0), (7, true, .lst 1 none (rowsS all)), (84, true, .lst 1 none (rowsS all)), (85, true, .int .i64 all.length), (86, true, .int .i64 i)]) (fun i => st) (fun i => all.length - i) (fun i => i ≤ all.length ∧ ∀ x ∈ all.take i, ¬ Rch (ndF l) x x) 0 rfl TT_ok ⟨Nat.zero_le _, by simp⟩ rfl rfl ?_
      rintro i ⟨hi, hno⟩
      rcases at_or_end all i hi with ⟨hie, hd⟩ | ⟨n, hlt, hget, hdr⟩
      · have hie2 : i = all.length := hie
        subst hie2
        rw [List.take_length] at hno
        simp only [gwL, gwB, gwD, gwE, gwS, gwTT, gwZ, gwN, gwC, Nat.reduceEqDiff, ↓reduceIte, Nat.reduceAdd, Nat.reduceLT, Nat.reduceLeDiff, Nat.reduceMul, lt_no, rowsS_len]
        refine vmore [9] [0, 2, 3, 4, 7, 18] [(0, true, .lst 2 none (l.map encN)), (2, true, .nils), (3, true, .str []), (4, true, .int .i64 0), (7, true, .lst 1 none (rowsS all)), (18, true, .lst 1 (some st.length) [])] (st ++ [Ent.tip 9 0]) rfl ?_ ?_ ?_
        · simp only [gwL, gwB, gwD, gwE, gwS, gwTT, gwZ, gwN, gwC, Nat.reduceEqDiff, ↓reduceIte, Nat.reduceAdd, Nat.reduceLT, Nat.reduceLeDiff, Nat.reduceMul, Env.keep]
          exact wkE_cons (wk_refl _) (wkE_cons (wk_refl _) (wkE_cons (wk_refl _) (wkE_cons (wk_refl _) (wkE_cons (wk_refl _) (wkE_cons (wk_tip _ (by simp [Tips])) wkE_nil)))))
        · exact ⟨_, wkSt_refl _, rfl⟩
        refine vfor (σ := List Str) [0, 2, 3, 4, 7, 18] (fun out => [(0, true, .lst 2 none (l.map encN)), (2, true, .nils), (3, true, .str []), (4, true, .int .i64 0), (7, true, .lst 1 none (rowsS all)), (18, true, .lst 1 (some st.length) (rowsS out))]) (fun out => st ++ [Ent.tip 9 out.length]) (fun out => (lftS all out).length) (fun out => (lftS all out).length + out.length = all.length ∧ res = putL (ndF l) (lftS all out).length (lftS all out) out) [] rfl TT_ok ⟨by rw [lftS_nil]; rfl, by rw [lftS_nil]; exact hr.symm⟩ rfl rfl ?_
        rintro out ⟨hlen, hput⟩
        by_cases hz : lftS all out = []
        · rw [hz] at hlen hput
          have d0 : decide ((out.length : Int) < (all.length : Int)) = false := by rw [← hlen]; simp
          simp only [gwL, gwB, gwD, gwE, gwS, gwTT, gwZ, gwN, gwC, Nat.reduceEqDiff, ↓reduceIte, Nat.reduceAdd, Nat.reduceLT, Nat.reduceLeDiff, Nat.reduceMul, rowsS_len, d0]
          exact give _ out _ _ _ hput (wk_tok ..)
        · have hpos : 0 < (lftS all out).length := List.length_pos_iff.2 hz
          have d0 : decide ((out.length : Int) < (all.length : Int)) = true := decide_eq_true (by omega)
          simp only [gwL, gwB, gwD, gwE, gwS, gwTT, gwZ, gwN, gwC, Nat.reduceEqDiff, ↓reduceIte, Nat.reduceAdd, Nat.reduceLT, Nat.reduceLeDiff, Nat.reduceMul, rowsS_len, d0]
          refine vfor (σ := Nat) [0, 2, 3, 4, 7, 18, 101, 102, 103] (fun i => [(0, true, .lst 2 none (l.map encN)), (2, true, .nils), (3, true, .str []), (4, true, .int .i64 0), (7, true, .lst 1 none (rowsS all)), (18, true, .lst 1 (some st.length) (rowsS out)), (101, true, .lst 1 none (rowsS all)), (102, true, .int .i64 all.length), (103, true, .int .i64 i)]) (fun i => st ++ [Ent.tip 9 out.length]) (fun i => all.length - i) (fun i => i ≤ all.length ∧ ∀ x ∈ all.take i, x ∈ out ∨ ∃ m ∈ ndF l x, m ∉ out) 0 rfl TT_ok ⟨Nat.zero_le _, by simp⟩ rfl rfl ?_
          rintro i ⟨hi, hpre⟩
          rcases at_or_end all i hi with ⟨hie, hd⟩ | ⟨n, hlt, hget, hdr⟩
          · exfalso
            have hie2 : i = all.length := hie
            subst hie2
            rw [List.take_length] at hpre
            obtain ⟨j, a, -, hj, ha, h2, -⟩ := pick_some (f := ndF l) hz (fun n hn => hno n (List.mem_filter.1 hn).1)
            have ham := List.mem_of_getElem? ha
            unfold lftS at ham
            rw [List.mem_filter] at ham
            obtain ⟨m, hm, hmo⟩ := (hpre a ham.1).resolve_left (by simpa using ham.2)
            exact h2 m hm (List.mem_filter.2 ⟨hcl a ham.1 m hm, by simpa using hmo⟩)
          · have hnm := List.mem_of_getElem? hget
            simp only [gwL, gwB, gwD, gwE, gwS, gwTT, gwZ, gwN, gwC, Nat.reduceEqDiff, ↓reduceIte, Nat.reduceAdd, Nat.reduceLT, Nat.reduceLeDiff, Nat.reduceMul, lt_yes hlt, rowsS_getD hget, rowsS_len, Int.toNat_natCast, Int.ofNat_lt.mpr hlt]
            refine (c_Needs4 _ l n hfew).use (wkL_refl _) fun _ => ?_
            rw [show (fndL n l).getD [] = ndF l n from rfl]
            simp only [gwL, gwB, gwD, gwE, gwS, gwTT, gwZ, gwN, gwC, Nat.reduceEqDiff, ↓reduceIte, Nat.reduceAdd, Nat.reduceLT, Nat.reduceLeDiff, Nat.reduceMul, encS]
            refine (c_in4 _ out n).use (wkL_cons (wk_tok ..) (wkL_refl _)) fun _ => ?_
            simp only [gwL, gwB, gwD, gwE, gwS, gwTT, gwZ, gwN, gwC, Nat.reduceEqDiff, ↓reduceIte, Nat.reduceAdd, Nat.reduceLT, Nat.reduceLeDiff, Nat.reduceMul, List.length_map]
            refine vfor (σ := Nat × Bool) [0, 2, 3, 4, 7, 18, 20, 23, 101, 102, 103, 117, 118, 119] (fun x => [(0, true, .lst 2 none (l.map encN)), (2, true, .nils), (3, true, .str []), (4, true, .int .i64 0), (7, true, .lst 1 none (rowsS all)), (18, true, .lst 1 (some st.length) (rowsS out)), (20, true, .str n), (23, true, .bool x.2), (101, true, .lst 1 none (rowsS all)), (102, true, .int .i64 all.length), (103, true, .int .i64 i), (117, true, .lst 1 none (rowsS (ndF l n))), (118, true, .int .i64 (ndF l n).length), (119, true, .int .i64 x.1)]) (fun x => st ++ [Ent.tip 9 out.length]) (fun x => (ndF l n).length - x.1) (fun x => x.1 ≤ (ndF l n).length ∧ (x.2 = true ↔ n ∉ out ∧ ∀ m ∈ (ndF l n).take x.1, m ∈ out)) (0, !decide (n ∈ out)) rfl TT_ok ⟨Nat.zero_le _, by simp⟩ rfl rfl ?_
            rintro ⟨q, b⟩ ⟨hq, hb⟩
            simp only at hq hb ⊢
            have hdn := hdl n
            rcases at_or_end (ndF l n) q hq with ⟨hqe, -⟩ | ⟨m, hqt, hqg, -⟩
            · have hqe2 : q = (ndF l n).length := hqe
              subst hqe2
              rw [List.take_length] at hb
              simp only [gwL, gwB, gwD, gwE, gwS, gwTT, gwZ, gwN, gwC, Nat.reduceEqDiff, ↓reduceIte, Nat.reduceAdd, Nat.reduceLT, Nat.reduceLeDiff, Nat.reduceMul, lt_no]
              refine iK_split (fun h => ?_) (fun h => ?_)
              · obtain ⟨hb1, hb2⟩ := hb.1 h
                obtain ⟨j, hj1, hj2, hj3, hj4⟩ := lft_pick hnd hcl hget hb1 hb2 hpre
                have hLj : (lftS all (out ++ [n])).length = (lftS all out).length - 1 := by rw [← hj4]; simp; omega
                rw [show (lftS all out).length = ((lftS all out).length - 1) + 1 by omega, putL, if_neg hz, hj1, if_neg (by omega), Int.toNat_natCast, hj3, hj4, ← hLj] at hput
                have hrs : rowsS out ++ [[V.str n]] = rowsS (out ++ [n]) := by simp [rowsS]
                have hln : (out ++ [n]).length = out.length + 1 := by simp
                simp only [gwL, gwB, gwD, gwE, gwS, gwTT, gwZ, gwN, gwC, Nat.reduceEqDiff, ↓reduceIte, Nat.reduceAdd, Nat.reduceLT, Nat.reduceLeDiff, Nat.reduceMul, rowsS_len, Env.keep]
                exact ⟨by omega, out ++ [n], by simp only [hrs], by simp only [hln], by omega, by omega, hput⟩
              · have w : IntKind.i64.wrap ((i : Int) + 1) = ((i + 1 : Nat) : Int) := next_i64 hlt (by omega)
                simp only [gwL, gwB, gwD, gwE, gwS, gwTT, gwZ, gwN, gwC, Nat.reduceEqDiff, ↓reduceIte, Nat.reduceAdd, Nat.reduceLT, Nat.reduceLeDiff, Nat.reduceMul, w, Env.keep]
                refine ⟨i + 1, rfl, by omega, by omega, fun x hx => ?_⟩
                rw [List.take_add_one, hget] at hx
                rcases List.mem_append.1 hx with hx | hx
                · exact hpre x hx
                · have hxn : x = n := by simpa using hx
                  subst hxn
                  rw [h] at hb
                  by_cases hxo : x ∈ out
                  · exact .inl hxo
                  · refine .inr (Classical.byContradiction fun hno2 => ?_)
                    have := hb.2 ⟨hxo, fun m hm => Classical.byContradiction fun hmo => hno2 ⟨m, hm, hmo⟩⟩
                    cases this
            · have w : IntKind.i64.wrap ((q : Int) + 1) = ((q + 1 : Nat) : Int) := next_i64 hqt (by omega)
              simp only [gwL, gwB, gwD, gwE, gwS, gwTT, gwZ, gwN, gwC, Nat.reduceEqDiff, ↓reduceIte, Nat.reduceAdd, Nat.reduceLT, Nat.reduceLeDiff, Nat.reduceMul, lt_yes hqt, rowsS_getD hqg, rowsS_len, Int.toNat_natCast, Int.ofNat_lt.mpr hqt]
              refine rK_guarded (.bool (decide (m ∈ out))) (fun _ => (c_in4 _ out m).args (wkL_cons (wk_tok ..) (wkL_refl _))) ?_
              simp only [gwL, gwB, gwD, gwE, gwS, gwTT, gwZ, gwN, gwC, Nat.reduceEqDiff, ↓reduceIte, Nat.reduceAdd, Nat.reduceLT, Nat.reduceLeDiff, Nat.reduceMul, w, Env.keep]
              refine ⟨(q + 1, b && decide (m ∈ out)), rfl, by simp only; omega, by simp only; omega, ?_⟩
              simp only [List.take_add_one, hqg, Option.toList_some, List.mem_append, List.mem_singleton, Bool.and_eq_true, hb, decide_eq_true_eq]
              constructor
              · rintro ⟨⟨h1, h2⟩, h3⟩
                exact ⟨h1, fun x hx => hx.elim (h2 x) fun e => e ▸ h3⟩
              · rintro ⟨h1, h2⟩
                exact ⟨⟨h1, fun x hx => h2 x (.inl hx)⟩, h2 m (.inr rfl)⟩
      · have w : IntKind.i64.wrap ((i : Int) + 1) = ((i + 1 : Nat) : Int) := next_i64 hlt (by omega)
        simp only [gwL, gwB, gwD, gwE, gwS, gwTT, gwZ, gwN, gwC, Nat.reduceEqDiff, ↓reduceIte, Nat.reduceAdd, Nat.reduceLT, Nat.reduceLeDiff, Nat.reduceMul, lt_yes hlt, rowsS_getD hget, rowsS_len, Int.toNat_natCast, Int.ofNat_lt.mpr hlt]
        refine (c_Reaches _ l n n hN).use (wkL_refl _) fun _ => ?_
        simp only [gwL, gwB, gwD, gwE, gwS, gwTT, gwZ, gwN, gwC, Nat.reduceEqDiff, ↓reduceIte, Nat.reduceAdd, Nat.reduceLT, Nat.reduceLeDiff, Nat.reduceMul]
        refine iK_split (fun h => ?_) (fun h => ?_)
        · have hR : Rch (ndF l) n n := of_decide_eq_true h
          have ea : all = all.take i ++ n :: all.drop (i + 1) := by
            conv => lhs; rw [← List.take_append_drop i all, hdr]
          have hc : cycL (ndF l) all = n := by
            rw [ea]; exact cycL_first hno hR
          rw [put_cyc hcl _ all [] rfl hnd (fun _ h => h) (fun _ h _ => h) ⟨n, List.mem_of_getElem? hget, hR⟩, hc] at hr
          simp only [gwL, gwB, gwD, gwE, gwS, gwTT, gwZ, gwN, gwC, Nat.reduceEqDiff, ↓reduceIte, Nat.reduceAdd, Nat.reduceLT, Nat.reduceLeDiff, Nat.reduceMul]
          exact give0 _ [] _ _ hr.symm (wk_nils 1)
        · simp only [gwL, gwB, gwD, gwE, gwS, gwTT, gwZ, gwN, gwC, Nat.reduceEqDiff, ↓reduceIte, Nat.reduceAdd, Nat.reduceLT, Nat.reduceLeDiff, Nat.reduceMul, w, Env.keep]
          refine ⟨i + 1, rfl, by omega, by omega, fun x hx => ?_⟩
          rw [List.take_add_one, hget] at hx
          rcases List.mem_append.1 hx with hx | hx
          · exact hno x hx
          · have hxn : x = n := by simpa using hx
            rw [hxn]; exact of_decide_eq_false h
    · have w : IntKind.i64.wrap ((i : Int) + 1) = ((i + 1 : Nat) : Int) := next_i64 hlt (by omega)
      rw [hdr, missL, hf2] at hmi
      have hdn := hdl n
      simp only [gwL, gwB, gwD, gwE, gwS, gwTT, gwZ, gwN, gwC, Nat.reduceEqDiff, ↓reduceIte, Nat.reduceAdd, Nat.reduceLT, Nat.reduceLeDiff, Nat.reduceMul, lt_yes hlt, rowsS_getD hget, rowsS_len, Int.toNat_natCast, Int.ofNat_lt.mpr hlt]
      refine (c_Needs4 _ l n hfew).use (wkL_refl _) fun _ => ?_
      rw [show (fndL n l).getD [] = ndF l n from rfl]
      simp only [gwL, gwB, gwD, gwE, gwS, gwTT, gwZ, gwN, gwC, Nat.reduceEqDiff, ↓reduceIte, Nat.reduceAdd, Nat.reduceLT, Nat.reduceLeDiff, Nat.reduceMul, encS, List.length_map]
      refine vfor (σ := Nat) [0, 2, 3, 4, 7, 9, 55, 56, 57, 67, 68, 69] (fun q => [(0, true, .lst 2 none (l.map encN)), (2, true, .nils), (3, true, .str []), (4, true, .int .i64 0), (7, true, .lst 1 none (rowsS all)), (9, true, .str n), (55, true, .lst 1 none (rowsS all)), (56, true, .int .i64 all.length), (57, true, .int .i64 i), (67, true, .lst 1 none (rowsS (ndF l n))), (68, true, .int .i64 (ndF l n).length), (69, true, .int .i64 q)]) (fun q => st) (fun q => (ndF l n).length - q) (fun q => q ≤ (ndF l n).length ∧ ∀ m ∈ (ndF l n).take q, (asc m M).isSome = true) 0 rfl TT_ok ⟨Nat.zero_le _, by simp⟩ rfl rfl ?_
      rintro q ⟨hq, hqa⟩
      rcases at_or_end (ndF l n) q hq with ⟨hqe, -⟩ | ⟨m, hqt, hqg, -⟩
      · have hqe2 : q = (ndF l n).length := hqe
        subst hqe2
        rw [List.take_length] at hqa
        rw [if_neg (by simp only [List.any_eq_true, not_exists, not_and]; exact fun m hm => by rw [hqa m hm]; simp)] at hmi
        simp only [gwL, gwB, gwD, gwE, gwS, gwTT, gwZ, gwN, gwC, Nat.reduceEqDiff, ↓reduceIte, Nat.reduceAdd, Nat.reduceLT, Nat.reduceLeDiff, Nat.reduceMul, lt_no, w, Env.keep]
        exact ⟨i + 1, rfl, by omega, by omega, hmi⟩
      · have wq : IntKind.i64.wrap ((q : Int) + 1) = ((q + 1 : Nat) : Int) := next_i64 hqt (by omega)
        simp only [gwL, gwB, gwD, gwE, gwS, gwTT, gwZ, gwN, gwC, Nat.reduceEqDiff, ↓reduceIte, Nat.reduceAdd, Nat.reduceLT, Nat.reduceLeDiff, Nat.reduceMul, lt_yes hqt, rowsS_getD hqg, rowsS_len, Int.toNat_natCast, Int.ofNat_lt.mpr hqt]
        refine (c_Needs4 _ l m hfew).use (wkL_refl _) fun _ => ?_
        simp only [gwL, gwB, gwD, gwE, gwS, gwTT, gwZ, gwN, gwC, Nat.reduceEqDiff, ↓reduceIte, Nat.reduceAdd, Nat.reduceLT, Nat.reduceLeDiff, Nat.reduceMul]
        refine iK_split (fun h => ?_) (fun h => ?_)
        · rw [if_pos (by simp only [List.any_eq_true]; exact ⟨m, List.mem_of_getElem? hqg, by rw [e1]; exact h⟩)] at hmi
          rw [hmi] at hr
          simp only [gwL, gwB, gwD, gwE, gwS, gwTT, gwZ, gwN, gwC, Nat.reduceEqDiff, ↓reduceIte, Nat.reduceAdd, Nat.reduceLT, Nat.reduceLeDiff, Nat.reduceMul]
          exact give0 _ [] _ _ hr.symm (wk_nils 1)
        · simp only [gwL, gwB, gwD, gwE, gwS, gwTT, gwZ, gwN, gwC, Nat.reduceEqDiff, ↓reduceIte, Nat.reduceAdd, Nat.reduceLT, Nat.reduceLeDiff, Nat.reduceMul, wq, Env.keep]
          refine ⟨q + 1, rfl, by omega, by omega, fun x hx => ?_⟩
          rw [List.take_add_one, hqg] at hx
          rcases List.mem_append.1 hx with hx | hx
          · exact hqa x hx
          · have hxn : x = m := by simpa using hx
            rw [hxn, e1]; simpa using h
  · have w : IntKind.i64.wrap ((i : Int) + 1) = ((i + 1 : Nat) : Int) := next_i64 hlt (by omega)
    rw [hdr, dup2] at hx
    simp only [gwL, gwB, gwD, gwE, gwS, gwTT, gwZ, gwN, gwC, Nat.reduceEqDiff, ↓reduceIte, Nat.reduceAdd, Nat.reduceLT, Nat.reduceLeDiff, Nat.reduceMul, lt_yes hlt]
    refine vfor (σ := Nat) [0, 2, 3, 4, 5, 6, 27, 28] (fun k => [(0, true, .lst 2 none (l.map encN)), (2, true, .nils), (3, true, .str []), (4, true, .int .i64 0), (5, true, .int .i64 i), (6, true, .int .i64 k), (27, true, .int .i64 l.length), (28, true, .int .i64 i)]) (fun k => st) (fun k => i - k) (fun k => k ≤ i ∧ u.name ∉ ((l.take k).map (·.name))) 0 rfl TT_ok ⟨Nat.zero_le _, by simp⟩ rfl rfl ?_
    rintro k ⟨hk, hku⟩
    by_cases hki : k = i
    · subst hki
      rw [if_neg hku] at hx
      simp only [gwL, gwB, gwD, gwE, gwS, gwTT, gwZ, gwN, gwC, Nat.reduceEqDiff, ↓reduceIte, Nat.reduceAdd, Nat.reduceLT, Nat.reduceLeDiff, Nat.reduceMul, lt_no, w, Env.keep]
      exact ⟨k + 1, rfl, by omega, by omega, by rw [hx, List.take_add_one, hget]; simp⟩
    · have hklt : k < i := by omega
      rcases at_or_end l k (by omega) with ⟨hke, -⟩ | ⟨v, hkt, hkg, -⟩
      · omega
      have hgi : (l.map encN).getD i [] = encN u := getD_map hget
      have hgk : (l.map encN).getD k [] = encN v := getD_map hkg
      have wk1 : IntKind.i64.wrap ((k : Int) + 1) = ((k + 1 : Nat) : Int) := next_i64 hkt (by omega)
      obtain ⟨un, us⟩ := u
      obtain ⟨vn, vs⟩ := v
      simp only at hx hku
      simp only [gwL, gwB, gwD, gwE, gwS, gwTT, gwZ, gwN, gwC, Nat.reduceEqDiff, ↓reduceIte, Nat.reduceAdd, Nat.reduceLT, Nat.reduceLeDiff, Nat.reduceMul, lt_yes hklt]
      refine vdraw TT_ok TT_mixed [0, 0, 0, 0, 1, 0, 0, 0, 0, 1, 0] (by kernel_rfl) ?_
      simp only [gwL, gwB, gwD, gwE, gwS, gwTT, gwZ, gwN, gwC, Nat.reduceEqDiff, ↓reduceIte, Nat.reduceAdd, Nat.reduceLT, Nat.reduceLeDiff, Nat.reduceMul, hgi, hgk, encN_mk, List.length_map, Int.ofNat_lt.mpr hkt, Int.ofNat_lt.mpr hlt, Int.toNat_natCast]
      refine iK_split (fun h => ?_) (fun h => ?_)
      · have hvu : vn = un := of_decide_eq_true h
        have hmem : un ∈ (l.take i).map (·.name) := List.mem_map.2 ⟨⟨vn, vs⟩, List.mem_of_getElem? (by rw [List.getElem?_take_of_lt hklt]; exact hkg), hvu⟩
        rw [if_pos hmem] at hx
        simp only [gwL, gwB, gwD, gwE, gwS, gwTT, gwZ, gwN, gwC, Nat.reduceEqDiff, ↓reduceIte, Nat.reduceAdd, Nat.reduceLT, Nat.reduceLeDiff, Nat.reduceMul]
        refine vdraw TT_ok TT_mixed [0, 0, 0, 0, 1, 0, 0, 0] (by kernel_rfl) ?_
        simp only [gwL, gwB, gwD, gwE, gwS, gwTT, gwZ, gwN, gwC, Nat.reduceEqDiff, ↓reduceIte, Nat.reduceAdd, Nat.reduceLT, Nat.reduceLeDiff, Nat.reduceMul, hgi, encN_mk, List.length_map, Int.ofNat_lt.mpr hlt, Int.toNat_natCast]
        refine give0 _ [] _ _ ?_ (wk_nils 1)
        rw [← hr, orderL, dup_eq]
        simp only [List.map_nil, hx]
      · have hvu : ¬ vn = un := of_decide_eq_false h
        simp only [gwL, gwB, gwD, gwE, gwS, gwTT, gwZ, gwN, gwC, Nat.reduceEqDiff, ↓reduceIte, Nat.reduceAdd, Nat.reduceLT, Nat.reduceLeDiff, Nat.reduceMul, wk1, Env.keep]
        refine ⟨k + 1, rfl, by omega, by omega, fun hx2 => ?_⟩
        rw [List.take_add_one, hkg] at hx2
        simp only [List.map_append, List.mem_append] at hx2
        rcases hx2 with h2 | h2
        · exact hku h2
        · simp at h2; exact hvu h2.symm
end Go.Proofs.Ytcegdbniggdckaa.Gx

namespace Go.Proofs.Ytcegdbniggdckaa.Gx
open Go Go.Proofs.Ytcegdbniggdckaa.Gw
set_option linter.unusedSimpArgs false
set_option linter.unusedVariables false
set_option maxHeartbeats 4000000 in
theorem c_GraphTells (l : List Node') (st : St) (hN : NOk l) : VCalls Try.prog TT 3 [lstN l] st fun r st' => r = .ret (.bool true) ∧ st' = st := by
  refine vfun TT_ok (an := anL []) (L := [0, 2, 3, 4, 5, 6, 7, 8]) (rs := [.tmp 2]) Try.func3 rfl (by kernel_rfl) rfl Try.ntmps3 rfl rfl (Nat.le_refl _) fun hst ha hf => ?_
  simp only [gwL, gwB, gwD, gwE, gwS, gwTT, gwZ, gwN, gwC, Nat.reduceEqDiff, ↓reduceIte, Nat.reduceAdd, Nat.reduceLT, Nat.reduceLeDiff, Nat.reduceMul]
  refine (c_Order l _ hN).use (wkL_refl _) fun _ => ?_
  generalize hres : orderL l = res
  simp only [gwL, gwB, gwD, gwE, gwS, gwTT, gwZ, gwN, gwC, Nat.reduceEqDiff, ↓reduceIte, Nat.reduceAdd, Nat.reduceLT, Nat.reduceLeDiff, Nat.reduceMul, ordV]
  refine (c_Order4 l _ hN).use (wkL_refl _) fun _ => ?_
  rw [hres]
  simp only [gwL, gwB, gwD, gwE, gwS, gwTT, gwZ, gwN, gwC, Nat.reduceEqDiff, ↓reduceIte, Nat.reduceAdd, Nat.reduceLT, Nat.reduceLeDiff, Nat.reduceMul, ordV]
  refine (c_same _ res.1 res.1).use (wkL_refl _) fun _ => ?_
  rw [sameS_self]
  simp only [gwL, gwB, gwD, gwE, gwS, gwTT, gwZ, gwN, gwC, Nat.reduceEqDiff, ↓reduceIte, Nat.reduceAdd, Nat.reduceLT, Nat.reduceLeDiff, Nat.reduceMul]
  exact gives_bool (by simp) hst
end Go.Proofs.Ytcegdbniggdckaa.Gx

namespace Go.Proofs.Ytcegdbniggdckaa.Gx
open Go Go.Proofs.Ytcegdbniggdckaa.Gw
set_option linter.unusedSimpArgs false
set_option linter.unusedVariables false
open Go.ChangeShapes Go.WideShapes Go.ChangeAt Go.RowKit
set_option maxRecDepth 100000 in
theorem lifted (os : Os) (started : os.Started) (H : Type) (enc : TypeId × Value → H) (F : Stop.Interp) :
    ReturnsInHanded {} Try.checked os 3 .any ((Rows.OpenSpec.upto Rows.graphTellsSpec).pre6 enc Try.prog Try.f3 Rows.graphTellsUptoRow.domain false) (((Rows.OpenSpec.upto Rows.graphTellsSpec).at F).post enc Try.prog Try.f3 false true false false) := by
  refine returnsInHanded_of_cond (C := Try.checked) (s := Rows.OpenSpec.upto Rows.graphTellsSpec) (k := Rows.uptoSmall) rfl own started (by kernel_rfl) Try.func3
    (OpenSpec.witness (enc := enc) (C := Try.checked) (s := Rows.OpenSpec.upto Rows.graphTellsSpec) (k := Rows.uptoSmall) rfl false ⟨#[], #[.slice none 0 0], []⟩ 8 (by kernel_rfl) (by kernel_rfl) (by kernel_rfl)
      (x := ([.nil], [], [])) (by kernel_rfl) rfl (by kernel_rfl)) ?_
  intro W base args ds gs before hval0 hW _ hk _
  have hval : ∀ (j : Nat) t v, Try.f3.params[j]? = some t → args[j]? = some v → Value.okWide Try.prog W .any base t v := hval0
  have hW' := hW
  obtain ⟨p, q, hA0, hV, rfl, hfz, hnd⟩ := hW
  have hA : DataW.TrodAll enc Try.prog W 0 (fun _ => true) true Try.f3.params.toList args.toList ds p := hA0
  rw [Try.params3] at hA hval
  obtain ⟨v0, vs0, d0, ds0, p0, q0, hargs0, rfl, rfl, h0, r0⟩ := trodAll_cons hA
  obtain ⟨rfl, rfl, rfl⟩ := trodAll_nil r0
  obtain rfl : args = #[v0] := by cases args; simp_all
  obtain ⟨rfl, rfl⟩ := trodVars_none hV
  have w0 := hval 0 22 v0 rfl rfl
  have k0 := h0
  have lt0 : ∀ x ∈ p0, x.block < W.heap.size := by obtain ⟨m, hm⟩ := k0; exact DataW.trod_lt m _ _ _ hm
  obtain ⟨m0, hm0⟩ := h0
  rw [okWide_slice Try.underlying22 w0] at hm0
  have hk2 : Rows.uptoBulkAll ([d0] ++ []) ≤ 1048576 := of_decide_eq_true hk
  simp only [List.append_nil, Rows.uptoBulkAll] at hk2
  obtain ⟨l, x0, e0, s0, o0, hNOk⟩ := dec_LNodeB hm0 (by simp only; omega)
  simp only [List.cons.injEq, and_true] at e0
  subst e0
  clear hA0 hval0
  refine ((c_GraphTells l [] hNOk).2 g00 W [v0] (sim00 _ W) ⟨_, _, rfl, s0, rfl⟩).mono fun e W' ⟨r, st', g', ⟨h1, h2⟩, hend, _, hext⟩ => ?_
  subst h1
  obtain ⟨val, rfl, hb⟩ := hend
  simp only [SimV] at hb
  subst hb
  have bel := below_of hext
  exact ⟨_, rfl, _, _, _, [], _, [], hW', trodAll_mk1 (shut_bool Try.underlying4 _), (trodAll_cons_mk (Below.trod laidOut (by kernel_rfl) (of_decide_eq_true (by kernel_rfl)) k0 bel lt0) trodAll_mk0), rfl, bel.frame _, fun h => by cases h⟩
theorem over : Rows.graphTellsUptoRow.holds Try.pinned (Rows.OpenSpec.upto Rows.graphTellsSpec) :=
  OpenClaim.holds_of_cond 3 Try.f3 rfl rfl rfl rfl rfl rfl rfl ⟨rfl, rfl, rfl, rfl, rfl⟩ rfl rfl rfl rfl rfl (by kernel_rfl) Try.func3 (by kernel_rfl)
    (of_decide_eq_true (by kernel_rfl)) (by unfold Func.isWrapper; first | (rw [if_pos (by decide +kernel)]; kernel_rfl) | (rw [if_neg (by decide +kernel)]; exact ⟨rfl, rfl⟩))
    (fun os started H enc _ F => lifted os started H enc F)
end Go.Proofs.Ytcegdbniggdckaa.Gx
namespace Go.Proofs.Ytcegdbniggdckaa
/-- The row, under a short name, for the claim. -/
theorem graphTells_holds : Rows.GraphTellsUptoSaid := Gx.over
#print axioms graphTells_holds
end Go.Proofs.Ytcegdbniggdckaa
