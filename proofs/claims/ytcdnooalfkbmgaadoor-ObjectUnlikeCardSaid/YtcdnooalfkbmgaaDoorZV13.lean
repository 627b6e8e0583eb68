/- Units and their bytes: the laws. What a row needs: how what comes in is read. How what comes in for ObjectUnlike is read. The row of the law ObjectUnlike, whatever comes in: it answers true, and what came in reads as it did. -/
import Derived.Test.YtcdnooalfkbmgaaDoorZV12
import Derived.WalkKit
import Derived.ProofKit
import Derived.OpenShut
import Derived.ShutString
import Derived.ChangeOld
import Derived.Below
import Derived.SizedLaws
import Derived.Carry
import Derived.JoinedCond
import Derived.Test.YtcdnooalfkbmgaaDoorRows
import Derived.Test.YtcdnooalfkbmgaaDoorCards
import Derived.Test.YtcdnooalfkbmgaaDoorTie
import Derived.Deep.DeepHandedRow
import Derived.Lib.LaidTab
import Derived.Stop.LaidErr

namespace Go.Proofs.YtcdnooalfkbmgaaDoor.Gx
open Go Go.Proofs.YtcdnooalfkbmgaaDoor.Gw
set_option linter.unusedSimpArgs false
set_option linter.unusedVariables false

theorem bare_args (ps : List Pr) (k : Nat) : ((ps.map barePr).getD k ⟨0, []⟩).args = (ps.getD k ⟨0, []⟩).args := by
  rw [List.getD_eq_getElem?_getD, List.getD_eq_getElem?_getD, List.getElem?_map]
  cases ps[k]? <;> rfl
theorem bare_clen (ps : List Pr) (k : Nat) : ((ps.map barePr).getD k ⟨0, []⟩).code.length = (ps.getD k ⟨0, []⟩).code.length := by
  rw [List.getD_eq_getElem?_getD, List.getD_eq_getElem?_getD, List.getElem?_map]
  cases ps[k]? with
  | none => rfl
  | some p => simp [barePr]
theorem op_cases {i : Ins} (h : InsR i) : i.op = 1 ∨ i.op = 2 ∨ i.op = 3 ∨ i.op = 4 ∨ i.op = 5 ∨ i.op = 6 ∨ i.op = 7 ∨ i.op = 8 ∨ i.op = 9 ∨ i.op = 10 ∨ i.op = 11 ∨ i.op = 12 ∨ i.op = 13 ∨ i.op = 14 ∨ i.op = 15 := by have := h.op; omega
theorem insE_bare {ps : List Pr} {p : Nat} {i : Ins} {ar : List Int} (hi : InsR i) (hz : (insW i).2 = 0) : insE (ps.map barePr) (-1) p (bareI i) ar = insE ps (-1) p i ar := by
  have h := bareI_ok hi
  have e3 : i.op = 3 → (wrongL [(bareI i).quote] 0 0).1 = (wrongL [i.quote] 0 0).1 := fun e => by rw [h.q e hz, hi.q e]
  unfold insE globalE
  rw [h.op, List.length_map]
  rcases op_cases hi with e | e | e | e | e | e | e | e | e | e | e | e | e | e | e
  · simp only [e, h.n (by simp [e]), Int.reduceEq, decide_true, decide_false, cond_true, cond_false]
  · simp only [e, h.n (by simp [e]), Int.reduceEq, decide_true, decide_false, cond_true, cond_false]
  · simp only [e, e3 e, Int.reduceEq, decide_true, decide_false, cond_true, cond_false]
  · simp only [e, h.a (by simp [e]), Int.reduceEq, decide_true, decide_false, cond_true, cond_false, Bool.true_or]
  · simp only [e, h.g (by simp [e]), Int.reduceEq, Int.reduceLE, decide_true, decide_false, cond_true, cond_false, Bool.true_or, Bool.or_self]
  · simp only [e, h.p (by simp [e]), Int.reduceEq, decide_true, decide_false, cond_true, cond_false, Bool.true_or, Bool.or_self]
  · simp only [e, h.a (by simp [e]), bare_args, Int.reduceEq, decide_true, decide_false, cond_true, cond_false, Bool.true_or, Bool.or_self]
  · simp only [e, h.a (by simp [e]), Int.reduceEq, decide_true, decide_false, cond_true, cond_false, Bool.true_or, Bool.or_self]
  · simp only [e, h.a (by simp [e]), bare_clen, Int.reduceEq, decide_true, decide_false, cond_true, cond_false, Bool.true_or, Bool.or_self]
  · simp only [e, h.a (by simp [e]), bare_clen, Int.reduceEq, decide_true, decide_false, cond_true, cond_false, Bool.or_true, Bool.or_self]
  · simp only [e, h.a (by simp [e]), Int.reduceEq, decide_true, decide_false, cond_true, cond_false, Bool.or_true]
  · simp only [e, h.g (by simp [e]), Int.reduceEq, Int.reduceLE, decide_true, decide_false, cond_true, cond_false, Bool.true_or, Bool.or_true, Bool.or_self]
  · simp only [e, h.g (by simp [e]), Int.reduceEq, Int.reduceLE, decide_true, decide_false, cond_true, cond_false, Bool.true_or, Bool.or_true, Bool.or_self]
  · simp only [e, Int.reduceEq, decide_true, decide_false, cond_true, cond_false, Bool.true_or, Bool.or_self]
  · simp only [e, Int.reduceEq, decide_true, decide_false, cond_true, cond_false, Bool.or_true, Bool.or_self]
theorem insG_bare {ps : List Pr} {p : Nat} : ∀ {l : List Ins} {ar : List Int}, (∀ i ∈ l, InsR i ∧ (insW i).2 = 0) → insG (ps.map barePr) (-1) p (l.map bareI) ar = insG ps (-1) p l ar
  | [], _, _ => rfl
  | i :: r, ar, h => by
    have hi := h i (by simp)
    simp only [List.map_cons, insG, insE_bare hi.1 hi.2, insG_bare (l := r) (fun j hj => h j (by simp [hj]))]
theorem moves_bare {i : Ins} (hi : InsR i) : movesI i.op (bareI i).a = movesI i.op i.a := by
  have h := bareI_ok hi
  by_cases e : i.op = 8
  · rw [h.a (by simp [e])]
  · simp only [movesI, e, decide_false, cond_false]
theorem stackG_bare {n : Nat} {body : Bool} : ∀ {l : List Ins} {i : Nat} {high : List Int}, (∀ x ∈ l, InsR x) → stackG n body (l.map bareI) i high = stackG n body l i high
  | [], _, _, _ => rfl
  | x :: r, i, high, h => by
    have hx := h x (by simp)
    have hb := bareI_ok hx
    have ih : ∀ i high, stackG n body (r.map bareI) i high = stackG n body r i high := fun i high => stackG_bare (l := r) fun j hj => h j (by simp [hj])
    simp only [List.map_cons, stackG, hb.op, moves_bare hx, ih]
    by_cases e9 : x.op = 9
    · simp only [e9, hb.a (by simp [e9])]
    · by_cases e10 : x.op = 10
      · simp only [e10, hb.a (by simp [e10])]
      · simp only [e9, e10, decide_false, cond_false]
theorem stackE_bare {l : List Ins} {body : Bool} (h : ∀ x ∈ l, InsR x) : stackE (l.map bareI) body = stackE l body := by
  simp only [stackE, List.length_map, stackG_bare h]
theorem protoG_bare {ps : List Pr} {bs : List Int} : ∀ {l : List Pr} {p : Nat} {ar : List Int}, (∀ q ∈ l, ∀ i ∈ q.code, InsR i ∧ (insW i).2 = 0) → protoG (ps.map barePr) (-1) bs (l.map barePr) p ar = protoG ps (-1) bs l p ar
  | [], _, _, _ => rfl
  | q :: r, p, ar, h => by
    have hq := h q (by simp)
    have ih : ∀ p ar, protoG (ps.map barePr) (-1) bs (r.map barePr) p ar = protoG ps (-1) bs r p ar := fun p ar => protoG_bare (l := r) fun j hj => h j (by simp [hj])
    simp only [List.map_cons, protoG, barePr, insG_bare hq, stackE_bare (fun x hx => (hq x hx).1)]
    simp only [ih]
theorem bodiesG_bare {ps : List Pr} : ∀ {bs ar : List Int}, bodiesG (ps.map barePr) bs ar = bodiesG ps bs ar
  | [], _ => rfl
  | b :: r, ar => by simp only [bodiesG, bare_args, bodiesG_bare (bs := r)]
theorem formE_bare : ∀ {l : List Pr}, formE (l.map barePr) = formE l
  | [] => rfl
  | p :: r => by simp only [List.map_cons, formE, barePr, List.length_map]; rw [show formE (r.map barePr) = formE r from formE_bare]
theorem unitE_bare {u : Unit'} (h : ∀ q ∈ u.protos, ∀ i ∈ q.code, InsR i ∧ (insW i).2 = 0) : unitE (bareU u) = unitE u := by
  simp only [unitE, bareU, List.length_map, formE_bare, shapeE, bodiesG_bare]
  cases bodiesG u.protos [0] (List.replicate u.protos.length (-1)) with
  | none => rfl
  | some ar => simp only [protoG_bare h]
theorem codes_ok : ∀ {l : List Ins}, (codeW l).2 = 0 → ∀ i ∈ l, (insW i).2 = 0
  | [], _ => by simp
  | i :: r, h => by
    cases e : decide ((insW i).2 = 0) with
    | false => simp only [codeW, e, cond_false] at h; exact absurd h (of_decide_eq_false e)
    | true =>
      have e1 := of_decide_eq_true e
      rw [codeW_cons_ok e1] at h
      intro j hj
      rcases List.mem_cons.1 hj with rfl | hj
      · exact e1
      · exact codes_ok h j hj
theorem kind_quote {i : Ins} (hi : InsR i) (h : kindR i.op = 113) : i.op = 3 := by
  rcases op_cases hi with e | e | e | e | e | e | e | e | e | e | e | e | e | e | e <;> rw [e] at h ⊢ <;> revert h <;> decide
theorem quote_small {q : Datum} (h : (wrongL [q] 0 0).1 = 0) : smallD q := by
  simp only [wrongL] at h
  cases e : decide ((shapeD q 1 0).1 = 0) with
  | true => exact goodD_small _ (shapeD_good q 1 0 (by omega) (of_decide_eq_true e)).1
  | false => rw [e] at h; simp only [cond_false] at h; exact absurd h (of_decide_eq_false e)
/-- What a unit with bytes has. -/
theorem bytes_unit {u : Unit'} {x : Str} (h : bytesW u = (x, 0)) : BareOk u ∧ rUnit x = (bareU u, 0) ∧ ∀ q ∈ u.protos, ∀ i ∈ q.code, InsR i := by
  unfold bytesW at h
  cases h1 : decide (unitE u = 0) with
  | false => rw [h1] at h; simp only [cond_false, Prod.mk.injEq] at h; exact absurd h.2 (of_decide_eq_false h1)
  | true =>
    rw [h1] at h
    simp only [cond_true] at h
    cases h2 : decide ((protosW u.protos).2 = 0) with
    | false => rw [h2] at h; simp only [cond_false, Prod.mk.injEq] at h; exact absurd h.2 (of_decide_eq_false h2)
    | true =>
      rw [h2] at h
      simp only [cond_true] at h
      cases h3 : decide (60000 < (unitW u).length) with
      | true => rw [h3] at h; simp at h
      | false =>
        rw [h3] at h
        simp only [cond_false, Prod.mk.injEq, and_true] at h
        have hE := of_decide_eq_true h1
        have hW := of_decide_eq_true h2
        have hu := unit_ok hE
        have hr := unit_right hE
        have hnm := plain_len hu.plain
        have hp : ∀ p ∈ u.protos, PrR p := fun p hp => ⟨hr p hp, (hu.form p hp).2.2, (hu.form p hp).2.1⟩
        obtain ⟨k1, k2⟩ := rProtos_protos u.protos [] [] hp hW
        have k3 := protosW_long hW
        have hfew := hu.few.2
        refine ⟨⟨hfew, fun p hp => (hu.form p hp).2.1, fun p hp i hi hk => quote_small ((hr p hp i hi).q (kind_quote (hr p hp i hi) hk))⟩, ?_, hr⟩
        have hb : rBody x = (bareU u, [], false) := by
          rw [← h, unitW, List.append_assoc]
          unfold rBody
          rw [rStr_str _ _ _ (by omega)]
          simp only
          rw [rFew_num _ _ k3 (by omega)]
          simp only
          rw [List.append_nil] at k1
          rw [k1]
          simp only [List.nil_append, bareU]
        have hl : decide ((60000 : Int) < x.length) = false := by
          rw [← h]
          rw [decide_eq_false_iff_not] at h3 ⊢; omega
        have hue : unitE (bareU u) = 0 := by
          rw [unitE_bare fun q hq i hi => ⟨hr q hq i hi, codes_ok (k2 q hq) i hi⟩]; exact hE
        unfold rUnit
        rw [hl, hb, hue]
        rfl

theorem bareI_q {i : Ins} (hi : InsR i) : (i.op = 3 ∧ (bareI i).quote = normD i.quote ∧ okD i.quote) ∨ (i.op ≠ 3 ∧ (bareI i).quote = zeroQ) := by
  obtain ⟨op, a, n, lb, ow, q⟩ := i
  have h3 := hi.q
  simp only at h3
  rcases op_cases hi with e | e | e | e | e | e | e | e | e | e | e | e | e | e | e <;> simp only at e <;> subst e
  case inr.inr.inl =>
    have ok := (wrong_ok [q] 0 0 (by omega) (by omega) (h3 rfl)).1.1
    refine .inl ⟨rfl, ?_, ok⟩
    rw [← bare_norm q ok]
    rfl
  all_goals exact .inr ⟨by simp, rfl⟩
theorem bareI_op {i : Ins} (hi : InsR i) : (bareI i).op = i.op := (bareI_ok hi).op
theorem ins_ext {x y : Ins} (h1 : x.op = y.op) (h2 : x.a = y.a) (h3 : x.n = y.n) (h4 : x.lib = y.lib) (h5 : x.own = y.own) (h6 : x.quote = y.quote) : x = y := by
  cases x; cases y; simp only at h1 h2 h3 h4 h5 h6; subst h1 h2 h3 h4 h5 h6; rfl
theorem sameI_eq {i j : Ins} (hi : InsR i) (hj : InsR j) (h : sameI (bareI i) (bareI j) = true) : bareI i = bareI j := by
  simp only [sameI, Bool.and_eq_true, decide_eq_true_eq] at h
  obtain ⟨⟨⟨⟨⟨h1, h2⟩, h3⟩, h4⟩, h5⟩, h6⟩ := h
  refine ins_ext h1 h2 h3 h4 h5 ?_
  rw [bareI_op hi, bareI_op hj] at h1
  rcases bareI_q hi with ⟨e, k1, k2⟩ | ⟨e, k1⟩
  · rcases bareI_q hj with ⟨e', l1, l2⟩ | ⟨e', l1⟩
    · rw [k1, l1] at h6 ⊢
      exact norm_eq _ _ k2 l2 h6
    · exact absurd (h1 ▸ e) e'
  · rcases bareI_q hj with ⟨e', l1, l2⟩ | ⟨e', l1⟩
    · exact absurd (h1.symm ▸ e') e
    · rw [k1, l1]
theorem sameL_eq : ∀ {l m : List Ins}, (∀ i ∈ l, InsR i) → (∀ i ∈ m, InsR i) → sameL (l.map bareI) (m.map bareI) = true → l.map bareI = m.map bareI
  | [], [], _, _, _ => rfl
  | [], _ :: _, _, _, h => by simp [sameL] at h
  | _ :: _, [], _, _, h => by simp [sameL] at h
  | i :: r, j :: s, h1, h2, h => by
    simp only [List.map_cons, sameL, Bool.and_eq_true] at h ⊢
    rw [sameI_eq (h1 i (by simp)) (h2 j (by simp)) h.1, sameL_eq (l := r) (m := s) (fun x hx => h1 x (by simp [hx])) (fun x hx => h2 x (by simp [hx])) h.2]
theorem samePs_eq : ∀ {l m : List Pr}, (∀ q ∈ l, ∀ i ∈ q.code, InsR i) → (∀ q ∈ m, ∀ i ∈ q.code, InsR i) → samePs (l.map barePr) (m.map barePr) = true → l.map barePr = m.map barePr
  | [], [], _, _, _ => rfl
  | [], _ :: _, _, _, h => by simp [samePs] at h
  | _ :: _, [], _, _, h => by simp [samePs] at h
  | p :: r, q :: s, h1, h2, h => by
    simp only [List.map_cons, samePs, Bool.and_eq_true, decide_eq_true_eq] at h ⊢
    obtain ⟨⟨k1, _⟩, k3, k4⟩ := h
    rw [samePs_eq (l := r) (m := s) (fun x hx => h1 x (by simp [hx])) (fun x hx => h2 x (by simp [hx])) k4]
    simp only [barePr] at k1 k3 ⊢
    rw [k1, sameL_eq (h1 p (by simp)) (h2 q (by simp)) k3]
theorem turns_law (u : Unit') (b : Str) : (∀ x, bytesW u = (x, 0) → BareOk u ∧ ∃ v, rUnit x = (v, 0) ∧ sameU v (bareU u) = true) ∧ (∀ v, rUnit b = (v, 0) → unitE v = 0 ∧ bytesW v = (b, 0)) ∧ ∀ v e, rUnit b = (v, e) → e ≠ 0 → v = noU :=
  ⟨fun x h => ⟨(bytes_unit h).1, bareU u, (bytes_unit h).2.1, sameU_refl _⟩, fun v h => rUnit_ok h, fun v e h he => rUnit_bad h he⟩
theorem unlike_law (u v : Unit') (x y : Str) (h1 : bytesW u = (x, 0)) (h2 : bytesW v = (y, 0)) : BareOk u ∧ BareOk v ∧ decide (x = y) = sameU (bareU u) (bareU v) := by
  obtain ⟨k1, k2, k3⟩ := bytes_unit h1
  obtain ⟨l1, l2, l3⟩ := bytes_unit h2
  refine ⟨k1, l1, ?_⟩
  by_cases e : x = y
  · subst e
    have : bareU u = bareU v := by rw [k2] at l2; exact congrArg Prod.fst l2
    rw [this, sameU_refl]; simp
  · rw [decide_eq_false e]
    cases hs : sameU (bareU u) (bareU v) with
    | false => rfl
    | true =>
      exfalso
      simp only [sameU, bareU, Bool.and_eq_true, decide_eq_true_eq] at hs
      have hb : bareU u = bareU v := by
        simp only [bareU]
        rw [of_decide_eq_true hs.1, samePs_eq k3 l3 hs.2]
      have m1 := (rUnit_ok k2).2
      have m2 := (rUnit_ok l2).2
      rw [hb, m2] at m1
      exact e (congrArg Prod.fst m1).symm
theorem c_Turns (u : Unit') (b : Str) (st : St) : VCalls Tryd.prog TT 3 [.agg (encU u), lstY b] st fun r st' => r = .ret (.bool true) ∧ st' = st :=
  c_ObjectTurns u b (turns_law u b).1 (turns_law u b).2.1 (turns_law u b).2.2 st
theorem c_Unlike (u v : Unit') (st : St) : VCalls Tryd.prog TT 4 [.agg (encU u), .agg (encU v)] st fun r st' => r = .ret (.bool true) ∧ st' = st :=
  c_ObjectUnlike u v (unlike_law u v) st
end Go.Proofs.YtcdnooalfkbmgaaDoor.Gx

namespace Go.Proofs.YtcdnooalfkbmgaaDoor.Gx
open Go Go.Proofs.YtcdnooalfkbmgaaDoor.Gw
set_option linter.unusedSimpArgs false
set_option linter.unusedVariables false
def encI1 (n : Int) : List V := [.int .i64 n]
def encS1 (s : Str) : List V := [.str s]

theorem len_succ {α : Type} {cs : List α} {n : Nat} (h : cs.length = n + 1) : ∃ c r, cs = c :: r ∧ r.length = n := by
  cases cs with
  | nil => simp at h
  | cons c r => exact ⟨c, r, rfl, by simpa using h⟩
open Go.ChangeShapes Go.WideShapes Go.ChangeAt Go.RowKit
theorem own : ownKnob Tryd.prog.godebug = none := by kernel_rfl
theorem laidOut : laidOutB Tryd.prog = true := by kernel_rfl
theorem below_of {W W' : World} {g' : G} (h : Ext g00 W g' W') : Below W.heap.size W W' := ⟨h.os, h.tape, h.output, h.size, fun k hk => (h.free k hk rfl).1⟩
theorem bulk_one {H : Type} (d : DataW H) : 1 ≤ Rows.uptoBulk d := by
  cases d with
  | lit l => cases l <;> simp [Rows.uptoBulk]
  | nil => simp [Rows.uptoBulk]
  | ptr d => simp [Rows.uptoBulk]
  | slice elems spare => simp [Rows.uptoBulk]
  | agg parts => simp [Rows.uptoBulk]
  | iface t d => simp [Rows.uptoBulk]
  | map entries => simp [Rows.uptoBulk]
  | held h => simp [Rows.uptoBulk]
theorem bulk_len {H : Type} : ∀ l : List (DataW H), l.length ≤ Rows.uptoBulkAll l
  | [] => by simp [Rows.uptoBulkAll]
  | x :: r => by have := bulk_one x; have := bulk_len r; simp only [Rows.uptoBulkAll, List.length_cons]; omega
/-- A slice that is read has no more elements than its bulk. -/
theorem bulk_slice {H : Type} {enc : TypeId × Value → H} {P : Program} {W : World} {spare : Nat → Bool} {held : Bool} {n : Nat} {t e : TypeId} {v : Value} {r : DataW H × List MemPlace} (ht : P.underlying t = some (.slice e)) {sz : Nat} {tp : Option Nat} {rows : List (List V)}
    (h : DataW.trod enc P W 0 spare held n t [v] = some r) (hs : SimV g00 W (.lst sz tp rows) v) : rows.length ≤ Rows.uptoBulk r.1 := by
  simp only [SimV] at hs
  obtain ⟨a, cap, rfl, -⟩ := hs
  cases n with
  | zero => simp [DataW.trod] at h
  | succ n =>
    unfold DataW.trod at h
    rw [ht] at h
    split at h <;> first | (cases h; done) | skip
    all_goals rename_i e'; first | (injection e' with e'; cases e'; done) | skip
    · simp only [List.cons.injEq, Value.slice.injEq, and_true] at e'
      obtain ⟨_, e', _⟩ := e'
      omega
    · simp only [List.cons.injEq, Value.slice.injEq, and_true] at e'
      obtain ⟨_, e', _⟩ := e'
      simp only at h
      split at h
      case isFalse => cases h
      rw [e']
      generalize hm : List.mapM (m := Option) _ _ = o at h
      cases o with
      | none => simp at h
      | some ys =>
        obtain ⟨hl, -⟩ := mapM_some hm
        simp only [Option.bind_some, Option.map_eq_some_iff] at h
        obtain ⟨zs, -, rfl⟩ := h
        have := bulk_len (ys.map (·.1))
        rw [List.length_map, hl, List.length_range] at this
        simp only [Rows.uptoBulk]
        omega
/-- A string that is read is no longer than its bulk. -/
theorem bulk_str {H : Type} {enc : TypeId × Value → H} {P : Program} {W : World} {spare : Nat → Bool} {held : Bool} {n : Nat} {t : TypeId} {s : List UInt8} {r : DataW H × List MemPlace} (ht : P.underlying t = some .string)
    (h : DataW.trod enc P W 0 spare held n t [.string ⟨s.toArray⟩] = some r) : s.length ≤ Rows.uptoBulk r.1 := by
  cases n with
  | zero => simp [DataW.trod] at h
  | succ n =>
    unfold DataW.trod at h
    rw [ht] at h
    split at h <;> first | (cases h; done) | skip
    all_goals rename_i e'; first | (injection e' with e'; cases e'; done) | skip
    · simp only [List.cons.injEq, Value.string.injEq, and_true] at e'
      subst e'
      split at h
      · simp only [Option.some.injEq] at h
        subst h
        simp [Rows.uptoBulk, ByteArray.size]
      · cases h
    · exact ((‹∀ s_1 : ByteArray, some TypeDesc.string = some TypeDesc.string → [Value.string ⟨s.toArray⟩] = [Value.string s_1] → False›) _ rfl rfl).elim
theorem okWide_slice {P : Program} {W : World} {r : Reach} {b : Nat} {t e : TypeId} {v : Value} (ht : P.underlying t = some (.slice e)) (h : Value.okWide P W r b t v) : v.cells.toList = [v] := by
  unfold Value.okWide at h
  rw [ht] at h
  simp only [Cell.okWide, ht] at h
  cases v <;> first | rfl | (simp [Cell.ok, ht] at h)
theorem okWide_str {P : Program} {W : World} {r : Reach} {b : Nat} {t : TypeId} {v : Value} (ht : P.underlying t = some .string) (h : Value.okWide P W r b t v) : v.cells.toList = [v] := by
  unfold Value.okWide at h
  rw [ht] at h
  simp only [Cell.okWide, ht] at h
  cases v <;> first | rfl | (simp [Cell.ok, ht] at h)
theorem okWide_int {P : Program} {W : World} {r : Reach} {b : Nat} {t : TypeId} {k : IntKind} {v : Value} (ht : P.underlying t = some (.int k)) (h : Value.okWide P W r b t v) : v.cells.toList = [v] := by
  unfold Value.okWide at h
  rw [ht] at h
  simp only [Cell.okWide, ht] at h
  cases v <;> first | rfl | (simp [Cell.ok, ht] at h)
theorem dec_int1 {H : Type} {enc : TypeId × Value → H} {P : Program} {W : World} {spare : Nat → Bool} {held : Bool} {t : TypeId} (ht : P.underlying t = some (.int .i64)) {n : Nat} {cs : List Value} {r : DataW H × List MemPlace} (h : DataW.trod enc P W 0 spare held n t cs = some r) : ∃ x : Int, SimVs g00 W (encI1 x) cs ∧ ∀ u ∈ cs, u.oneCell' = true := by
  obtain ⟨m, rfl⟩ := dec_int ht h
  exact ⟨m, ⟨_, _, rfl, rfl, rfl⟩, by simp [Value.oneCell']⟩
theorem dec_str1 {H : Type} {enc : TypeId × Value → H} {P : Program} {W : World} {spare : Nat → Bool} {held : Bool} {t : TypeId} (ht : P.underlying t = some .string) {n : Nat} {cs : List Value} {r : DataW H × List MemPlace} (h : DataW.trod enc P W 0 spare held n t cs = some r) : ∃ x : Str, SimVs g00 W (encS1 x) cs ∧ ∀ u ∈ cs, u.oneCell' = true := by
  obtain ⟨m, rfl, hm⟩ := dec_str ht h
  exact ⟨m, ⟨_, _, rfl, ⟨rfl, hm⟩, rfl⟩, by simp [Value.oneCell']⟩
end Go.Proofs.YtcdnooalfkbmgaaDoor.Gx

namespace Go.Proofs.YtcdnooalfkbmgaaDoor.Gx
open Go Go.Proofs.YtcdnooalfkbmgaaDoor.Gw
set_option linter.unusedSimpArgs false
set_option linter.unusedVariables false
theorem cells53 : Tryd.prog.cellsOf 53 = 6 := by kernel_rfl
theorem cells3 : Tryd.prog.cellsOf 3 = 1 := by kernel_rfl
theorem cells2 : Tryd.prog.cellsOf 2 = 1 := by kernel_rfl
theorem cells9 : Tryd.prog.cellsOf 9 = 1 := by kernel_rfl
theorem cells51 : Tryd.prog.cellsOf 51 = 1 := by kernel_rfl
theorem dec_Datum {H : Type} {enc : TypeId × Value → H} {W : World} {spare : Nat → Bool} {held : Bool} : ∀ (n : Nat) (cs : List Value) (r : DataW H × List MemPlace), DataW.trod enc Tryd.prog W 0 spare held n 53 cs = some r → ∃ x : Datum, SimVs g00 W (encD x) cs ∧ ∀ u ∈ cs, u.oneCell' = true := by
  intro n
  induction n using Nat.strongRecOn with
  | _ n ih =>
    intro cs r h
    obtain ⟨m, rfl, hl, hf⟩ := dec_struct Tryd.underlying53 h
    rw [cells53] at hl
    obtain ⟨c0, t0, rfl, l0⟩ := len_succ hl
    obtain ⟨c1, t1, rfl, l1⟩ := len_succ l0
    obtain ⟨c2, t2, rfl, l2⟩ := len_succ l1
    obtain ⟨c3, t3, rfl, l3⟩ := len_succ l2
    obtain ⟨c4, t4, rfl, l4⟩ := len_succ l3
    obtain ⟨c5, t5, rfl, l5⟩ := len_succ l4
    obtain rfl := List.eq_nil_of_length_eq_zero l5
    simp only [List.forall_mem_cons, cells2, cells3, cells51, cells9, List.drop_zero, List.drop_succ_cons, List.take_succ_cons, List.take_zero] at hf
    obtain ⟨⟨y0, h0⟩, ⟨y1, h1⟩, ⟨y2, h2⟩, ⟨y3, h3⟩, ⟨y4, h4⟩, ⟨y5, h5⟩, _⟩ := hf
    obtain ⟨x0, e0⟩ := dec_int Tryd.underlying3 h0
    obtain ⟨x1, e1⟩ := dec_int Tryd.underlying2 h1
    obtain ⟨x2, e2, k2⟩ := dec_str Tryd.underlying9 h2
    obtain ⟨x3, e3⟩ := dec_int Tryd.underlying3 h3
    obtain ⟨x4, e4⟩ := dec_int Tryd.underlying3 h4
    obtain ⟨x5, v5, e5, k5, j5⟩ := dec_slice encD Tryd.underlying51 cells53 (by decide) (fun m' hm' cs r hr => ih m' (by omega) cs r hr) h5
    simp only [List.cons.injEq, and_true] at e0 e1 e2 e3 e4 e5
    subst e0 e1 e2 e3 e4 e5
    refine ⟨Datum.mk x0 x1 x2 x3 x4 x5, ?_, ?_⟩
    · rw [encD_mk]
      exact ⟨_, _, rfl, rfl, ⟨_, _, rfl, rfl, ⟨_, _, rfl, ⟨rfl, k2⟩, ⟨_, _, rfl, rfl, ⟨_, _, rfl, rfl, ⟨_, _, rfl, k5, rfl⟩⟩⟩⟩⟩⟩
    · intro u hu
      simp only [List.mem_cons, List.not_mem_nil, or_false] at hu 
      rcases hu with rfl | rfl | rfl | rfl | rfl | rfl <;> first | rfl | exact j5
theorem cells55 : Tryd.prog.cellsOf 55 = 11 := by kernel_rfl
theorem dec_Ins {H : Type} {enc : TypeId × Value → H} {W : World} {spare : Nat → Bool} {held : Bool} : ∀ (n : Nat) (cs : List Value) (r : DataW H × List MemPlace), DataW.trod enc Tryd.prog W 0 spare held n 55 cs = some r → ∃ x : Ins, SimVs g00 W (encI x) cs ∧ ∀ u ∈ cs, u.oneCell' = true := by
  intro n cs r h
  obtain ⟨m, rfl, hl, hf⟩ := dec_struct Tryd.underlying55 h
  rw [cells55] at hl
  obtain ⟨c0, t0, rfl, l0⟩ := len_succ hl
  obtain ⟨c1, t1, rfl, l1⟩ := len_succ l0
  obtain ⟨c2, t2, rfl, l2⟩ := len_succ l1
  obtain ⟨c3, t3, rfl, l3⟩ := len_succ l2
  obtain ⟨c4, t4, rfl, l4⟩ := len_succ l3
  obtain ⟨c5, t5, rfl, l5⟩ := len_succ l4
  obtain ⟨c6, t6, rfl, l6⟩ := len_succ l5
  obtain ⟨c7, t7, rfl, l7⟩ := len_succ l6
  obtain ⟨c8, t8, rfl, l8⟩ := len_succ l7
  obtain ⟨c9, t9, rfl, l9⟩ := len_succ l8
  obtain ⟨c10, t10, rfl, l10⟩ := len_succ l9
  obtain rfl := List.eq_nil_of_length_eq_zero l10
  simp only [List.forall_mem_cons, cells2, cells3, cells53, cells9, List.drop_zero, List.drop_succ_cons, List.take_succ_cons, List.take_zero] at hf
  obtain ⟨⟨y0, h0⟩, ⟨y1, h1⟩, ⟨y2, h2⟩, ⟨y3, h3⟩, ⟨y4, h4⟩, ⟨y5, h5⟩, _⟩ := hf
  obtain ⟨x0, e0⟩ := dec_int Tryd.underlying3 h0
  obtain ⟨x1, e1⟩ := dec_int Tryd.underlying3 h1
  obtain ⟨x2, e2⟩ := dec_int Tryd.underlying2 h2
  obtain ⟨x3, e3, k3⟩ := dec_str Tryd.underlying9 h3
  obtain ⟨x4, e4, k4⟩ := dec_str Tryd.underlying9 h4
  obtain ⟨x5, k5, j5⟩ := dec_Datum m _ _ h5
  simp only [List.cons.injEq, and_true] at e0 e1 e2 e3 e4
  subst e0 e1 e2 e3 e4
  refine ⟨Ins.mk x0 x1 x2 x3 x4 x5, ?_, ?_⟩
  · rw [encI_mk]
    exact ⟨_, _, rfl, rfl, ⟨_, _, rfl, rfl, ⟨_, _, rfl, rfl, ⟨_, _, rfl, ⟨rfl, k3⟩, ⟨_, _, rfl, ⟨rfl, k4⟩, k5⟩⟩⟩⟩⟩
  · intro u hu
    simp only [List.mem_cons, List.not_mem_nil, or_false] at hu j5
    rcases hu with rfl | rfl | rfl | rfl | rfl | rfl | rfl | rfl | rfl | rfl | rfl <;> first | rfl | exact j5 _ (by simp)
theorem dec_LIns {H : Type} {enc : TypeId × Value → H} {W : World} {spare : Nat → Bool} {held : Bool} {n : Nat} {cs : List Value} {r : DataW H × List MemPlace} (h : DataW.trod enc Tryd.prog W 0 spare held n 46 cs = some r) : ∃ (l : List (Ins)) (v : Value), cs = [v] ∧ SimV g00 W (.lst 11 none (l.map encI)) v ∧ v.oneCell' = true :=
  dec_slice encI Tryd.underlying46 cells55 (by decide) (fun m _ cs r hr => dec_Ins m cs r hr) h
theorem cells46 : Tryd.prog.cellsOf 46 = 1 := by kernel_rfl
theorem cells48 : Tryd.prog.cellsOf 48 = 2 := by kernel_rfl
theorem dec_Proto {H : Type} {enc : TypeId × Value → H} {W : World} {spare : Nat → Bool} {held : Bool} : ∀ (n : Nat) (cs : List Value) (r : DataW H × List MemPlace), DataW.trod enc Tryd.prog W 0 spare held n 48 cs = some r → ∃ x : Pr, SimVs g00 W (encPr x) cs ∧ ∀ u ∈ cs, u.oneCell' = true := by
  intro n cs r h
  obtain ⟨m, rfl, hl, hf⟩ := dec_struct Tryd.underlying48 h
  rw [cells48] at hl
  obtain ⟨c0, t0, rfl, l0⟩ := len_succ hl
  obtain ⟨c1, t1, rfl, l1⟩ := len_succ l0
  obtain rfl := List.eq_nil_of_length_eq_zero l1
  simp only [List.forall_mem_cons, cells3, cells46, List.drop_zero, List.drop_succ_cons, List.take_succ_cons, List.take_zero] at hf
  obtain ⟨⟨y0, h0⟩, ⟨y1, h1⟩, _⟩ := hf
  obtain ⟨x0, e0⟩ := dec_int Tryd.underlying3 h0
  obtain ⟨x1, v1, e1, k1, j1⟩ := dec_LIns h1
  simp only [List.cons.injEq, and_true] at e0 e1
  subst e0 e1
  refine ⟨Pr.mk x0 x1, ?_, ?_⟩
  · exact ⟨_, _, rfl, rfl, ⟨_, _, rfl, k1, rfl⟩⟩
  · intro u hu
    simp only [List.mem_cons, List.not_mem_nil, or_false] at hu 
    rcases hu with rfl | rfl <;> first | rfl | exact j1
theorem dec_LProto {H : Type} {enc : TypeId × Value → H} {W : World} {spare : Nat → Bool} {held : Bool} {n : Nat} {cs : List Value} {r : DataW H × List MemPlace} (h : DataW.trod enc Tryd.prog W 0 spare held n 22 cs = some r) : ∃ (l : List (Pr)) (v : Value), cs = [v] ∧ SimV g00 W (.lst 2 none (l.map encPr)) v ∧ v.oneCell' = true :=
  dec_slice encPr Tryd.underlying22 cells48 (by decide) (fun m _ cs r hr => dec_Proto m cs r hr) h
theorem cells22 : Tryd.prog.cellsOf 22 = 1 := by kernel_rfl
theorem cells24 : Tryd.prog.cellsOf 24 = 2 := by kernel_rfl
theorem dec_Unit {H : Type} {enc : TypeId × Value → H} {W : World} {spare : Nat → Bool} {held : Bool} : ∀ (n : Nat) (cs : List Value) (r : DataW H × List MemPlace), DataW.trod enc Tryd.prog W 0 spare held n 24 cs = some r → ∃ x : Unit', SimVs g00 W (encU x) cs ∧ ∀ u ∈ cs, u.oneCell' = true := by
  intro n cs r h
  obtain ⟨m, rfl, hl, hf⟩ := dec_struct Tryd.underlying24 h
  rw [cells24] at hl
  obtain ⟨c0, t0, rfl, l0⟩ := len_succ hl
  obtain ⟨c1, t1, rfl, l1⟩ := len_succ l0
  obtain rfl := List.eq_nil_of_length_eq_zero l1
  simp only [List.forall_mem_cons, cells22, cells9, List.drop_zero, List.drop_succ_cons, List.take_succ_cons, List.take_zero] at hf
  obtain ⟨⟨y0, h0⟩, ⟨y1, h1⟩, _⟩ := hf
  obtain ⟨x0, e0, k0⟩ := dec_str Tryd.underlying9 h0
  obtain ⟨x1, v1, e1, k1, j1⟩ := dec_LProto h1
  simp only [List.cons.injEq, and_true] at e0 e1
  subst e0 e1
  refine ⟨Unit'.mk x0 x1, ?_, ?_⟩
  · exact ⟨_, _, rfl, ⟨rfl, k0⟩, ⟨_, _, rfl, k1, rfl⟩⟩
  · intro u hu
    simp only [List.mem_cons, List.not_mem_nil, or_false] at hu 
    rcases hu with rfl | rfl <;> first | rfl | exact j1
end Go.Proofs.YtcdnooalfkbmgaaDoor.Gx

namespace Go.Proofs.YtcdnooalfkbmgaaDoor.Gx
open Go Go.Proofs.YtcdnooalfkbmgaaDoor.Gw
set_option linter.unusedSimpArgs false
set_option linter.unusedVariables false
open Go.ChangeShapes Go.WideShapes Go.ChangeAt Go.RowKit
noncomputable def low0 : Nat := (World.holding Tryd.prog default ⟨#[], #[], []⟩).heap.size
/-- A world that meets what is laid. -/
noncomputable def laidWorld (os : Os) : World :=
  { World.holding Tryd.prog os ⟨#[.cells #[.string ⟨#[105, 110, 118, 97, 108, 105, 100, 32, 115, 121, 110, 116, 97, 120]⟩] 157, .cells #[.string ⟨#[118, 97, 108, 117, 101, 32, 111, 117, 116, 32, 111, 102, 32, 114, 97, 110, 103, 101]⟩] 157], #[], []⟩ with heap := ((((((World.holding Tryd.prog os ⟨#[.cells #[.string ⟨#[105, 110, 118, 97, 108, 105, 100, 32, 115, 121, 110, 116, 97, 120]⟩] 157, .cells #[.string ⟨#[118, 97, 108, 117, 101, 32, 111, 117, 116, 32, 111, 102, 32, 114, 97, 110, 103, 101]⟩] 157], #[], []⟩).heap.modify 0 (fun | .cells _ t frozen => .cells #[.int .u64 1, .int .u64 10, .int .u64 100, .int .u64 1000, .int .u64 10000, .int .u64 100000, .int .u64 1000000, .int .u64 10000000, .int .u64 100000000, .int .u64 1000000000, .int .u64 10000000000, .int .u64 100000000000, .int .u64 1000000000000, .int .u64 10000000000000, .int .u64 100000000000000, .int .u64 1000000000000000, .int .u64 10000000000000000, .int .u64 100000000000000000, .int .u64 1000000000000000000, .int .u64 10000000000000000000] t frozen | o => o)).modify 1 (fun | .cells _ t frozen => .cells #[.int .u8 0, .int .u8 1, .int .u8 28, .int .u8 2, .int .u8 29, .int .u8 14, .int .u8 24, .int .u8 3, .int .u8 30, .int .u8 22, .int .u8 20, .int .u8 15, .int .u8 25, .int .u8 17, .int .u8 4, .int .u8 8, .int .u8 31, .int .u8 27, .int .u8 13, .int .u8 23, .int .u8 21, .int .u8 19, .int .u8 16, .int .u8 7, .int .u8 26, .int .u8 12, .int .u8 18, .int .u8 6, .int .u8 11, .int .u8 5, .int .u8 10, .int .u8 9] t frozen | o => o)).modify 2 (fun | .cells _ t frozen => .cells #[.int .u8 0, .int .u8 1, .int .u8 56, .int .u8 2, .int .u8 57, .int .u8 49, .int .u8 28, .int .u8 3, .int .u8 61, .int .u8 58, .int .u8 42, .int .u8 50, .int .u8 38, .int .u8 29, .int .u8 17, .int .u8 4, .int .u8 62, .int .u8 47, .int .u8 59, .int .u8 36, .int .u8 45, .int .u8 43, .int .u8 51, .int .u8 22, .int .u8 53, .int .u8 39, .int .u8 33, .int .u8 30, .int .u8 24, .int .u8 18, .int .u8 12, .int .u8 5, .int .u8 63, .int .u8 55, .int .u8 48, .int .u8 27, .int .u8 60, .int .u8 41, .int .u8 37, .int .u8 16, .int .u8 46, .int .u8 35, .int .u8 44, .int .u8 21, .int .u8 52, .int .u8 32, .int .u8 23, .int .u8 11, .int .u8 54, .int .u8 26, .int .u8 40, .int .u8 15, .int .u8 34, .int .u8 20, .int .u8 31, .int .u8 10, .int .u8 25, .int .u8 14, .int .u8 19, .int .u8 9, .int .u8 13, .int .u8 8, .int .u8 7, .int .u8 6] t frozen | o => o)).modify 4 (fun | .cells _ t frozen => .cells #[.iface 155 (.pointer (some ⟨low0 + 0, 0, none⟩))] t frozen | o => o)).modify 5 (fun | .cells _ t frozen => .cells #[.iface 155 (.pointer (some ⟨low0 + 1, 0, none⟩))] t frozen | o => o)) }
theorem laid_met (os : Os) : laidMet Tryd.prog Rows.objectUnlikeRow.laid ((laidWorld os).forCall (fun _ _ => 0) ⟨#[], #[.agg #[.string ByteArray.empty, .slice none 0 0], .agg #[.string ByteArray.empty, .slice none 0 0]], []⟩).memory :=
  laidMet_of_run' 8 (by kernel_rfl) (by kernel_rfl)
theorem reads (os : Os) {H : Type} (enc : TypeId × Value → H) : ∃ places, DataW.whole enc Tryd.prog ((laidWorld os).forCall (fun _ _ => 0) ⟨#[], #[.agg #[.string ByteArray.empty, .slice none 0 0], .agg #[.string ByteArray.empty, .slice none 0 0]], []⟩).memory Tryd.f4.params.toList Rows.objectUnlikeSpec.vars false #[.agg #[.string ByteArray.empty, .slice none 0 0], .agg #[.string ByteArray.empty, .slice none 0 0]].toList 8 = some ([.agg [.lit (.string []), .nil], .agg [.lit (.string []), .nil]], [], places) :=
  ⟨[], by kernel_rfl⟩
theorem amb_of_laid {W : World} (hL : laidMet Tryd.prog Rows.objectUnlikeRow.laid W) : Amb g00 W := by
  intro p hp
  obtain rfl : p = (0, (Go.Lib.pow10Tab.map fun z => Value.int .u64 z).toArray) := List.mem_singleton.1 hp
  have h : laidMet Tryd.prog (("internal/strconv.uint64pow10", Go.Lib.tabData .u64 Go.Lib.pow10Tab) :: [("strconv.ErrRange", Rows.laid_strconv_ErrRange), ("strconv.ErrSyntax", Rows.laid_strconv_ErrSyntax)]) W := hL.tail.tail
  have ht := Go.Lib.tabIs_of_head (g := 0) (t := 134) (e := 77) (n := 20) (by kernel_rfl) (by kernel_rfl) (by kernel_rfl) (by kernel_rfl) (by kernel_rfl) (by kernel_rfl) h
  refine ⟨rfl, ?_⟩
  unfold Go.Lib.TabIs World.var? at ht
  rw [show Tryd.prog.globalNamed "internal/strconv.uint64pow10" = some 0 by kernel_rfl, Option.bind_some] at ht
  split at ht
  · rename_i cs t x hx
    simp only [Option.some.injEq] at ht
    subst ht
    exact ⟨t, x, hx⟩
  · cases ht
set_option maxRecDepth 100000 in
theorem contract (H : Type) (enc : TypeId × Value → H) (W : World) (base : Nat) (args : Array Value) (ds gs : List (DataW H)) (before : List MemPlace) (hL : laidMet Tryd.prog Rows.objectUnlikeRow.laid W)
    (hval : ∀ (j : Nat) t v, Tryd.f4.params[j]? = some t → args[j]? = some v → Value.okWide Tryd.prog W .any base t v)
    (hW : DataW.Whole enc Tryd.prog Tryd.f4.params.toList Rows.objectUnlikeSpec.vars false W args.toList ds gs before) :
    Calls Tryd.prog 4 args W fun e W' => ∃ v, e = .returned v ∧ Rows.objectUnlikeSpec.post enc Tryd.prog Tryd.f4 false true false false W args v W' := by
  have hamb := amb_of_laid hL
  have hW' := hW
  obtain ⟨p, q, hA0, hV, rfl, hfz, hnd⟩ := hW
  have hA : DataW.TrodAll enc Tryd.prog W 0 (fun _ => true) true Tryd.f4.params.toList args.toList ds p := hA0
  rw [Tryd.params4] at hA hval
  obtain ⟨v0, vs0, d0, ds0, p0, q0, hargs0, rfl, rfl, h0, r0⟩ := trodAll_cons hA
  obtain ⟨v1, vs1, d1, ds1, p1, q1, hargs1, rfl, rfl, h1, r1⟩ := trodAll_cons r0
  obtain ⟨rfl, rfl, rfl⟩ := trodAll_nil r1
  obtain rfl : args = #[v0, v1] := by cases args; simp_all
  obtain ⟨rfl, rfl⟩ := trodVars_none hV
  have w0 := hval 0 24 v0 rfl rfl
  unfold Value.okWide at w0
  rw [Tryd.underlying24] at w0
  obtain ⟨cs0, rfl, _, _⟩ := w0
  have w1 := hval 1 24 v1 rfl rfl
  unfold Value.okWide at w1
  rw [Tryd.underlying24] at w1
  obtain ⟨cs1, rfl, _, _⟩ := w1
  have k0 := h0
  have lt0 : ∀ x ∈ p0, x.block < W.heap.size := by obtain ⟨m, hm⟩ := k0; exact DataW.trod_lt m _ _ _ hm
  obtain ⟨m0, hm0⟩ := h0
  obtain ⟨u, s0, o0⟩ := dec_Unit _ _ _ hm0
  have k1 := h1
  have lt1 : ∀ x ∈ p1, x.block < W.heap.size := by obtain ⟨m, hm⟩ := k1; exact DataW.trod_lt m _ _ _ hm
  obtain ⟨m1, hm1⟩ := h1
  obtain ⟨v, s1, o1⟩ := dec_Unit _ _ _ hm1
  refine ((c_Unlike u v []).2 g00 W [.agg cs0, .agg cs1] (sim00 _ W) ⟨_, _, rfl, ⟨cs0.toList, rfl, s0, o0⟩, ⟨_, _, rfl, ⟨cs1.toList, rfl, s1, o1⟩, rfl⟩⟩).mono fun e W' ⟨r, st', g', ⟨h1, h2⟩, hend, _, hext⟩ => ?_
  subst h1
  obtain ⟨val, rfl, hb⟩ := hend
  simp only [SimV] at hb
  subst hb
  have bel := below_of hext
  exact ⟨_, rfl, _, _, _, [], _, [], hW', trodAll_mk1 (shut_bool Tryd.underlying4 _), (trodAll_cons_mk (Below.trod laidOut (by kernel_rfl) (of_decide_eq_true (by kernel_rfl)) k0 bel lt0) (trodAll_cons_mk (Below.trod laidOut (by kernel_rfl) (of_decide_eq_true (by kernel_rfl)) k1 bel lt1) trodAll_mk0)), rfl, bel.frame _, fun h => by cases h⟩
set_option maxRecDepth 100000 in
theorem lifted (os : Os) (started : os.Started) (H : Type) (enc : TypeId × Value → H) (F : Stop.Interp) :
    ReturnsInHanded {} Tryd.checked os 4 .any ((OpenSpec.ofChange Rows.objectUnlikeSpec).preRow enc Tryd.prog Tryd.f4 Rows.objectUnlikeRow.domain false Rows.objectUnlikeRow.laid) (((OpenSpec.ofChange Rows.objectUnlikeSpec).at F).post enc Tryd.prog Tryd.f4 false true false false) := by
  obtain ⟨places, hx⟩ := reads os enc
  refine returnsInHanded_of_row (C := Tryd.checked) (s := OpenSpec.ofChange Rows.objectUnlikeSpec) own started (by kernel_rfl) Tryd.func4
    (witness_row_at (enc := enc) (C := Tryd.checked) false (laidWorld os) #[.agg #[.string ByteArray.empty, .slice none 0 0], .agg #[.string ByteArray.empty, .slice none 0 0]] rfl (by kernel_rfl) (by kernel_rfl) (by kernel_rfl)
      (OpenSpec.preRow_of_cond 8 hx (by kernel_rfl) (fun k hk => by cases hk) (by kernel_rfl) (laid_met os))) ?_
  intro W base args ds gs before hval hW _ hk _ hL _ _
  exact contract H enc W base args ds gs before hL hval hW
theorem said : Rows.ObjectUnlikeSaid :=
  OpenClaim.holds_of_cond 4 Tryd.f4 rfl rfl rfl rfl rfl rfl rfl ⟨rfl, rfl, rfl, rfl, rfl⟩ rfl rfl rfl rfl rfl (by kernel_rfl) Tryd.func4 (by kernel_rfl)
    (of_decide_eq_true (by kernel_rfl)) (by unfold Func.isWrapper; first | (rw [if_pos (by decide +kernel)]; kernel_rfl) | (rw [if_neg (by decide +kernel)]; exact ⟨rfl, rfl⟩))
    (fun os started H enc _ F => by rw [OpenClaim.pre_eq_preRow]; exact lifted os started H enc F)
theorem plain (f : FuncId) (fn : Func) (hf : Tryd.pinned.checked.prog.funcNamed "graftwood/graftlaw9.ObjectUnlike" = some f) (hfn : Tryd.pinned.checked.prog.funcs[f]? = some fn) :
    true = Tryd.pinned.checked.prog.looks [] ∧ ∀ (j : Nat) t, fn.params[j]? = some t → Tryd.pinned.checked.prog.wantsStandIn t = false := by
  obtain rfl : f = 4 := Option.some.inj ((show Tryd.prog.funcNamed "graftwood/graftlaw9.ObjectUnlike" = some 4 by kernel_rfl).symm.trans hf) |>.symm
  obtain rfl : fn = Tryd.f4 := (Option.some.inj (Tryd.func4.symm.trans hfn)).symm
  refine ⟨by kernel_rfl, fun j t ht => ?_⟩
  rw [Tryd.params4] at ht
  obtain rfl : t = 24 := by simpa using Array.mem_of_getElem? ht
  exact (show Tryd.prog.wantsStandIn 24 = false by kernel_rfl)
end Go.Proofs.YtcdnooalfkbmgaaDoor.Gx
namespace Go.Proofs.YtcdnooalfkbmgaaDoor
theorem objectUnlikeCard_holds : Rows.ObjectUnlikeCardSaid :=
  Claim7.holds_tied_plain_at .later [] _ _ _ _ Gx.said (fun _ h => by cases h) (by kernel_rfl) (fun _ h => by cases h) objectUnlike_row_tie rfl ⟨rfl, rfl⟩ (by kernel_rfl) rfl Gx.plain (by kernel_rfl)
#print axioms objectUnlikeCard_holds
end Go.Proofs.YtcdnooalfkbmgaaDoor
