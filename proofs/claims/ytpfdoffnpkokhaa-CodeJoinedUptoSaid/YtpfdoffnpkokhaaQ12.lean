/- The compiler's code is the document's: in plain terms. The compiler's procedures are the document's. The compiler's unit is the document's. One part's code behind another's: in plain terms. Contracts: a closed fact; how many lambdas, and nodes, there are. The law CodeJoined answers true, of lists that are not too long. -/
import Derived.Test.YtpfdoffnpkokhaaQ11

namespace Go.Proofs.Ytpfdoffnpkokhaa.Gx
open Go Go.Proofs.Ytpfdoffnpkokhaa.Gw
set_option linter.unusedSimpArgs false

-- bare data
mutual
theorem bare_same : ∀ d : Datum, goodD d → bareD d = bareR d
  | .mk k n nm s l kids, h => by
    rw [goodD] at h
    rw [bareD_mk, bareR_mk]
    obtain ⟨h1, h2, h3⟩ := h
    rcases h1 with rfl | rfl | rfl | rfl
    · simp
    · simp
    · obtain ⟨rfl, rfl⟩ := h3 rfl; simp
    · have := bares_same kids (h2 rfl).2
      rw [bareDs_map, bareRs_map] at this
      simp [this]
theorem bares_same : ∀ l : List Datum, goodDs l → bareDs l = bareRs l
  | [], _ => by simp only [bareDs, bareRs]
  | d :: r, h => by rw [goodDs] at h; simp only [bareDs, bareRs, bare_same d h.1, bares_same r h.2]
end
theorem one_same {k ix n : Int} {lb ow : Str} {q : Datum} {kids : List Core} (h : k = 3 → goodD q) : oneI (.mk k ix n lb ow q kids) = oneR (.mk k ix n lb ow q kids) := by
  simp only [oneI, oneR]
  by_cases e : k = 3
  · rw [bare_same q (h e)]
  · simp only [decide_eq_false e, cond_false]
mutual
theorem eqD_self : ∀ d : Datum, eqD d d = true
  | .mk k n nm s l kids => by
    rw [eqD]
    simp only [decide_true, cond_true, Bool.and_self, eqDs_self kids]
    simp
theorem eqDs_self : ∀ l : List Datum, eqDs l l = true
  | [] => by rw [eqDs]
  | d :: r => by rw [eqDs, eqD_self d, eqDs_self r]; rfl
end
theorem sameL_self : ∀ l : List Ins, sameL l l = true
  | [] => rfl
  | i :: r => by simp [sameL, sameI, eqD_self, sameL_self r]
theorem samePs_self : ∀ l : List Pr, samePs l l = true
  | [] => rfl
  | p :: r => by simp [samePs, sameL_self, samePs_self r]

-- jumps
def okJ (n : Nat) (l : List Ins) : Prop := ∀ i ∈ l, (i.op = 9 ∨ i.op = 10) → 0 ≤ i.a ∧ i.a ≤ n
theorem mv_none {i : Ins} (h : i.op ≠ 9) (h' : i.op ≠ 10) (b : Int) : mvI b i = i := by
  unfold mvI; rw [decide_eq_false h, decide_eq_false h']; rfl
theorem mv_jump {i : Ins} (h : i.op = 9 ∨ i.op = 10) {b : Nat} {n : Nat} (hb : b ≤ 2000000000) (hn : n ≤ 2000000000) (ha : 0 ≤ i.a ∧ i.a ≤ n) : mvI b i = { i with a := i.a + b } := by
  unfold mvI
  have : (decide (i.op = 9) || decide (i.op = 10)) = true := by simpa using h
  rw [this, cond_true, wrap_i64 (by omega) (by omega)]
theorem mv_op (b : Int) (i : Ins) : (mvI b i).op = i.op := by
  unfold mvI; cases (decide (i.op = 9) || decide (i.op = 10)) <;> rfl
theorem okJ_mv {n b : Nat} {l : List Ins} (h : okJ n l) (hb : b ≤ 1000000000) (hn : n ≤ 1000000000) : okJ (n + b) (l.map (mvI b)) := by
  intro i hi hop
  obtain ⟨j, hj, rfl⟩ := List.mem_map.1 hi
  rw [mv_op] at hop
  have := h j hj hop
  rw [mv_jump hop (by omega) (n := n) (by omega) this]
  simp only
  omega
theorem okJ_mono {n m : Nat} {l : List Ins} (h : okJ n l) (hm : n ≤ m) : okJ m l := fun i hi hop => by have := h i hi hop; omega
theorem okJ_app {n : Nat} {a b : List Ins} (h : okJ n a) (k : okJ n b) : okJ n (a ++ b) := fun i hi hop => (List.mem_append.1 hi).elim (fun hi => h i hi hop) fun hi => k i hi hop
theorem okJ_one {n : Nat} {i : Ins} (h : i.op ≠ 9) (h' : i.op ≠ 10) : okJ n [i] := fun j hj hop => by simp at hj; subst hj; omega
theorem okJ_nil {n : Nat} : okJ n [] := fun i hi => by simp at hi
theorem okJ_jump {n : Nat} {i : Ins} (h : 0 ≤ i.a ∧ i.a ≤ n) : okJ n [i] := fun j hj _ => by simp at hj; subst hj; exact h
theorem mv_mv {m n b : Nat} {l : List Ins} (h : okJ m l) (hb : m + n + b ≤ 1000000000) : (l.map (mvI n)).map (mvI b) = l.map (mvI ((b + n : Nat) : Int)) := by
  rw [List.map_map]
  refine List.map_congr_left fun i hi => ?_
  simp only [Function.comp]
  by_cases hop : i.op = 9 ∨ i.op = 10
  · have ha := h i hi hop
    rw [mv_jump hop (b := n) (n := m) (by omega) (by omega) ha, mv_jump (b := b) (n := m + n) (by simpa using hop) (by omega) (by omega) (by simp only; omega), mv_jump hop (b := b + n) (n := m) (by omega) (by omega) ha]
    simp only [Int.natCast_add, Int.add_assoc, Int.add_comm (n : Int)]
  · rw [mv_none (i := i) (by omega) (by omega), mv_none (by omega) (by omega), mv_none (by omega) (by omega)]
theorem mv_zero {m : Nat} {l : List Ins} (h : okJ m l) (hm : m ≤ 1000000000) : l.map (mvI 0) = l := by
  conv => rhs; rw [← List.map_id l]
  refine List.map_congr_left fun i hi => ?_
  by_cases hop : i.op = 9 ∨ i.op = 10
  · have := mv_jump hop (b := 0) (n := m) (by omega) (by omega) (h i hi hop)
    simpa using this
  · exact mv_none (by omega) (by omega) 0
theorem okJ_addI {out l : List Ins} {n : Nat} (h : okJ out.length out) (k : okJ n l) (hn : n ≤ l.length) (hb : out.length + l.length ≤ 1000000000) : okJ (addI out l).length (addI out l) := by
  rw [addI_len]
  exact okJ_app (okJ_mono h (by omega)) (okJ_mono (okJ_mv k (by omega) (by omega)) (by omega))

-- procedures, of which one's code is told
def setC (p : Nat) (c : List Ins) (g : List Pr) : List Pr := g.modify p fun q => ⟨q.args, c⟩
theorem setC_len (p : Nat) (c : List Ins) (g : List Pr) : (setC p c g).length = g.length := by simp [setC]
theorem setC_get (p k : Nat) (c : List Ins) (g : List Pr) : (setC p c g)[k]? = if p = k then (g[k]?).map (fun q => ⟨q.args, c⟩) else g[k]? := by
  unfold setC
  rw [List.getElem?_modify]
  split <;> simp
theorem push_setC (p : Nat) (i : Ins) (c : List Ins) (g : List Pr) : pushP p i (setC p c g) = setC p (c ++ [i]) g := by
  apply List.ext_getElem?; intro k
  unfold pushP
  rw [List.getElem?_modify, setC_get, setC_get]
  by_cases e : p = k
  · subst e; cases g[p]? <;> simp
  · simp [e]
theorem patch_setC (p n : Nat) (a : Int) (c : List Ins) (g : List Pr) : patchP p n a (setC p c g) = setC p (c.modify n fun i => { i with a := a }) g := by
  apply List.ext_getElem?; intro k
  unfold patchP
  rw [List.getElem?_modify, setC_get, setC_get]
  by_cases e : p = k
  · subst e; cases g[p]? <;> simp
  · simp [e]
theorem here_setC {p : Nat} {g : List Pr} (h : p < g.length) (c : List Ins) : hereP p (setC p c g) = c.length := by
  unfold hereP
  rw [setC_get, if_pos rfl, List.getElem?_eq_getElem h]; rfl
theorem setC_app {p : Nat} {g : List Pr} (h : p < g.length) (c : List Ins) (l : List Pr) : setC p c g ++ l = setC p c (g ++ l) := by
  apply List.ext_getElem?; intro k
  rw [setC_get]
  rcases Nat.lt_or_ge k g.length with hk | hk
  · rw [List.getElem?_append_left (by rw [setC_len]; exact hk), setC_get, List.getElem?_append_left hk]
  · rw [List.getElem?_append_right (by rw [setC_len]; exact hk), setC_len, List.getElem?_append_right hk, if_neg (by omega)]
theorem setC_comm {p k : Nat} (h : p ≠ k) (c d : List Ins) (g : List Pr) : setC p c (setC k d g) = setC k d (setC p c g) := by
  apply List.ext_getElem?; intro j
  simp only [setC_get]
  by_cases e : p = j
  · subst e; simp [Ne.symm h]
  · by_cases e' : k = j <;> simp [e, e']
theorem setC_last (ix : Int) (g : List Pr) : setC g.length [] (g ++ [⟨ix, []⟩]) = g ++ [⟨ix, []⟩] := by
  apply List.ext_getElem?; intro j
  rw [setC_get]
  split
  · rename_i e; subst e; simp
  · rfl
end Go.Proofs.Ytpfdoffnpkokhaa.Gx

namespace Go.Proofs.Ytpfdoffnpkokhaa.Gx
open Go Go.Proofs.Ytpfdoffnpkokhaa.Gw
set_option linter.unusedSimpArgs false

-- what is made hangs not on the code that others have
def PA (c : Core) : Prop := okC c → ∀ (p : Nat) (code : List Ins) (g : List Pr), p < g.length → genC c (setC p code g) = ((genC c g).1, setC p code (genC c g).2)
theorem call_setC : ∀ (l : List Core) (_ : ∀ d ∈ l, PA d) (_ : okCs l) (p : Nat) (code : List Ins) (out : List Ins) (g : List Pr), p < g.length → genCall l out (setC p code g) = ((genCall l out g).1, setC p code (genCall l out g).2)
  | [], _, _, p, code, out, g, _ => by simp only [genCall]
  | c :: r, h, ho, p, code, out, g, hp => by
    rw [okCs] at ho
    have h1 := h c (by simp) ho.1 p code g hp
    have h2 := (genC_size c g).2.2
    simp only [genCall, h1]
    exact call_setC r (fun d hd => h d (by simp [hd])) ho.2 p code _ _ (by omega)
theorem seq_setC : ∀ (l : List Core) (_ : ∀ d ∈ l, PA d) (_ : okCs l) (f : Bool) (p : Nat) (code : List Ins) (out : List Ins) (g : List Pr), p < g.length → genSeq l f out (setC p code g) = ((genSeq l f out g).1, setC p code (genSeq l f out g).2)
  | [], _, _, f, p, code, out, g, _ => by simp only [genSeq]
  | c :: r, h, ho, f, p, code, out, g, hp => by
    rw [okCs] at ho
    have h1 := h c (by simp) ho.1 p code g hp
    have h2 := (genC_size c g).2.2
    simp only [genSeq, h1]
    exact seq_setC r (fun d hd => h d (by simp [hd])) ho.2 false p code _ _ (by omega)
theorem genC_one {k ix n : Int} {lb ow : Str} {q : Datum} {kids : List Core} {i : Ins} (h : oneR (.mk k ix n lb ow q kids) = some i) (g : List Pr) : genC (.mk k ix n lb ow q kids) g = ([i], g) := by
  have : oneR (.mk k ix n lb ow q []) = some i := h
  rw [genC, this]
theorem kinds {k : Int} (hk : kindB k = true) {ix n : Int} {lb ow : Str} {q : Datum} {kids : List Core} (hl : lenB k kids.length = true) :
    (∃ i, oneR (.mk k ix n lb ow q kids) = some i ∧ i.op ≠ 9 ∧ i.op ≠ 10) ∨ (k = 7 ∧ ∃ x y z, kids = [x, y, z]) ∨ (k = 8 ∧ ∃ x, kids = [x]) ∨ (k = 9) ∨ ((k = 10 ∨ k = 11 ∨ k = 13) ∧ ∃ x, kids = [x]) ∨ k = 12 := by
  rcases kind_cases hk with rfl | rfl | rfl | rfl | rfl | rfl | rfl | rfl | rfl | rfl | rfl | rfl | rfl
  · exact .inl ⟨_, rfl, by simp, by simp⟩
  · exact .inl ⟨_, rfl, by simp, by simp⟩
  · exact .inl ⟨_, rfl, by simp, by simp⟩
  · exact .inl ⟨_, rfl, by simp, by simp⟩
  · exact .inl ⟨_, rfl, by simp, by simp⟩
  · exact .inl ⟨_, rfl, by simp, by simp⟩
  · exact .inr (.inl ⟨rfl, kids3 hl⟩)
  · exact .inr (.inr (.inl ⟨rfl, kids1 hl (by simp)⟩))
  · exact .inr (.inr (.inr (.inl rfl)))
  · exact .inr (.inr (.inr (.inr (.inl ⟨by simp, kids1 hl (by simp)⟩))))
  · exact .inr (.inr (.inr (.inr (.inl ⟨by simp, kids1 hl (by simp)⟩))))
  · exact .inr (.inr (.inr (.inr (.inr rfl))))
  · exact .inr (.inr (.inr (.inr (.inl ⟨by simp, kids1 hl (by simp)⟩))))

theorem gen_setC (c : Core) : PA c := by
  refine Core.ind (p := PA) ?_ c
  intro k ix n lb ow q kids ih hok p code g hp
  rw [okC] at hok
  obtain ⟨hk, hl, _, hks⟩ := hok
  rcases kinds (ix := ix) (n := n) (lb := lb) (ow := ow) (q := q) hk hl with ⟨i, hi, _⟩ | ⟨rfl, x, y, z, rfl⟩ | ⟨rfl, x, rfl⟩ | rfl | ⟨hk3, x, rfl⟩ | rfl
  · rw [genC_one hi, genC_one hi]
  · simp only [okCs] at hks
    have sx := (genC_size x g).2.2
    have sy := (genC_size y (genC x g).2).2.2
    simp only [genC_if, genIf, genThen, genElse, ih x (by simp) hks.1 p code g hp, ih y (by simp) hks.2.1 p code _ (Nat.lt_of_lt_of_le hp sx), ih z (by simp) hks.2.2.1 p code _ (Nat.lt_of_lt_of_le (Nat.lt_of_lt_of_le hp sx) sy)]
  · simp only [okCs] at hks
    rw [genC_lambda, genC_lambda, setC_len, setC_app hp, ih x (by simp) hks.1 p code _ (by simp; omega)]
    have := setC_comm (p := p) (k := g.length) (by omega) code ((genC x (g ++ [⟨ix, []⟩])).1 ++ [{ op := 15 }]) (genC x (g ++ [⟨ix, []⟩])).2
    exact Prod.ext rfl this.symm
  · simp only [genC_call, call_setC kids ih hks p code [] g hp]
  · simp only [okCs] at hks
    simp only [genC_set _ _ _ _ _ _ _ _ hk3, ih x (by simp) hks.1 p code g hp]
  · simp only [genC_seq, seq_setC kids ih hks true p code [] g hp]

-- jumps land in the code
def PJ (c : Core) : Prop := okC c → nodesC c ≤ 100000000 → ∀ g : List Pr, okJ (genC c g).1.length (genC c g).1
theorem call_J : ∀ (l : List Core) (_ : ∀ d ∈ l, PJ d) (_ : okCs l) (out : List Ins) (g : List Pr), out.length + 3 * nodesCs l ≤ 300000000 → okJ out.length out → okJ (genCall l out g).1.length (genCall l out g).1
  | [], _, _, out, g, _, h => by rw [genCall]; exact h
  | c :: r, h, ho, out, g, hn, hj => by
    rw [okCs] at ho
    rw [nodesCs] at hn
    have h1 := (genC_size c g).1
    rw [genCall]
    exact call_J r (fun d hd => h d (by simp [hd])) ho.2 _ _ (by rw [addI_len]; omega) (okJ_addI hj (h c (by simp) ho.1 (by omega) g) (Nat.le_refl _) (by omega))
theorem seq_J : ∀ (l : List Core) (_ : ∀ d ∈ l, PJ d) (_ : okCs l) (f : Bool) (out : List Ins) (g : List Pr), out.length + 3 * nodesCs l ≤ 300000000 → okJ out.length out → okJ (genSeq l f out g).1.length (genSeq l f out g).1
  | [], _, _, f, out, g, _, h => by rw [genSeq]; exact h
  | c :: r, h, ho, f, out, g, hn, hj => by
    rw [okCs] at ho
    rw [nodesCs] at hn
    have h1 := (genC_size c g).1
    rw [genSeq]
    cases f with
    | true =>
      simp only [cond_true]
      exact seq_J r (fun d hd => h d (by simp [hd])) ho.2 false _ _ (by rw [addI_len]; omega) (okJ_addI hj (h c (by simp) ho.1 (by omega) g) (Nat.le_refl _) (by omega))
    | false =>
      simp only [cond_false]
      have hj2 : okJ (out ++ [({ op := 14 } : Ins)]).length (out ++ [{ op := 14 }]) := okJ_app (okJ_mono hj (by simp)) (okJ_one (by decide) (by decide))
      exact seq_J r (fun d hd => h d (by simp [hd])) ho.2 false _ _ (by rw [addI_len]; simp; omega) (okJ_addI hj2 (h c (by simp) ho.1 (by omega) g) (Nat.le_refl _) (by simp; omega))
theorem gen_J (c : Core) : PJ c := by
  refine Core.ind (p := PJ) ?_ c
  intro k ix n lb ow q kids ih hok hn g
  rw [okC] at hok
  obtain ⟨hk, hl, _, hks⟩ := hok
  rw [nodesC] at hn
  rcases kinds (ix := ix) (n := n) (lb := lb) (ow := ow) (q := q) hk hl with ⟨i, hi, h9, h10⟩ | ⟨rfl, x, y, z, rfl⟩ | ⟨rfl, x, rfl⟩ | rfl | ⟨hk3, x, rfl⟩ | rfl
  · rw [genC_one hi]; exact okJ_one h9 h10
  · simp only [okCs] at hks
    simp only [nodesCs] at hn
    have jx := ih x (by simp) hks.1 (by omega) g
    have jy := ih y (by simp) hks.2.1 (by omega) (genC x g).2
    have jz := ih z (by simp) hks.2.2.1 (by omega) (genC y (genC x g).2).2
    have s1 := (genC_size x g).1
    have s2 := (genC_size y (genC x g).2).1
    have s3 := (genC_size z (genC y (genC x g).2).2).1
    rw [genC_if, genIf, genThen, genElse]
    generalize genC x g = A at *
    generalize genC y A.2 = B at *
    generalize genC z B.2 = D at *
    simp only [addI, List.length_append, List.length_map, List.length_cons, List.length_nil]
    refine okJ_app (okJ_app (okJ_app (okJ_app (okJ_app okJ_nil ?_) ?_) ?_) ?_) ?_
    · exact okJ_mono (okJ_mv jx (by omega) (by omega)) (by omega)
    · exact okJ_jump (by simp only; omega)
    · exact okJ_mono (okJ_mv jy (by omega) (by omega)) (by omega)
    · exact okJ_jump (by simp only; omega)
    · exact okJ_mono (okJ_mv jz (by omega) (by omega)) (by omega)
  · rw [genC_lambda]; exact okJ_one (by simp) (by simp)
  · rw [genC_call]
    have := call_J kids ih hks [] g (by simp; omega) okJ_nil
    exact okJ_app (okJ_mono this (by simp)) (okJ_one (by simp) (by simp))
  · simp only [okCs] at hks
    simp only [nodesCs] at hn
    rw [genC_set _ _ _ _ _ _ _ _ hk3]
    refine okJ_app (okJ_mono (ih x (by simp) hks.1 (by omega) g) (by simp)) ?_
    rcases hk3 with rfl | rfl | rfl <;> exact okJ_one (by simp [setI]) (by simp [setI])
  · rw [genC_seq]
    exact seq_J kids ih hks true [] g (by simp; omega) okJ_nil
end Go.Proofs.Ytpfdoffnpkokhaa.Gx

namespace Go.Proofs.Ytpfdoffnpkokhaa.Gx
open Go Go.Proofs.Ytpfdoffnpkokhaa.Gw
set_option linter.unusedSimpArgs false

/-- What the compiler makes of an expression: the document's code, moved, behind what the procedure has. -/
def PB (c : Core) : Prop := okC c → ∀ (p : Nat) (code : List Ins) (g : List Pr), p < g.length → code.length + 4 * nodesC c ≤ 200000000 →
  exprP c p (setC p code g) = setC p (code ++ (genC c g).1.map (mvI code.length)) (genC c g).2

theorem step_addI {base out cd : List Ins} {m : Nat} (hj : okJ m cd) (hb : m + out.length + base.length ≤ 1000000000) :
    base ++ out.map (mvI base.length) ++ cd.map (mvI ((base ++ out.map (mvI base.length)).length : Nat)) = base ++ (addI out cd).map (mvI base.length) := by
  rw [addI, List.map_append, mv_mv hj hb, List.append_assoc, List.length_append, List.length_map]

theorem call_gen : ∀ (l : List Core) (_ : ∀ d ∈ l, PB d) (_ : okCs l) (p : Nat) (base out : List Ins) (g : List Pr), p < g.length → base.length + out.length + 4 * nodesCs l + 1 ≤ 200000000 →
    seqP l p (setC p (base ++ out.map (mvI base.length)) g) = setC p (base ++ (genCall l out g).1.map (mvI base.length)) (genCall l out g).2
  | [], _, _, p, base, out, g, _, _ => by simp only [seqP, genCall]
  | c :: r, h, ho, p, base, out, g, hp, hn => by
    rw [okCs] at ho
    rw [nodesCs] at hn
    have s1 := genC_size c g
    have h1 := h c (by simp) ho.1 p (base ++ out.map (mvI base.length)) g hp (by simp; omega)
    rw [seqP, h1, step_addI (gen_J c ho.1 (by omega) g) (by omega), genCall]
    exact call_gen r (fun d hd => h d (by simp [hd])) ho.2 p base _ _ (by omega) (by rw [addI_len]; omega)
theorem map_one (b : Nat) {i : Ins} (h : i.op ≠ 9) (h' : i.op ≠ 10) : [i].map (mvI b) = [i] := by simp [mv_none h h']
theorem seq_gen : ∀ (l : List Core) (_ : ∀ d ∈ l, PB d) (_ : okCs l) (f : Bool) (p : Nat) (base out : List Ins) (g : List Pr), p < g.length → base.length + out.length + 4 * nodesCs l + 1 ≤ 200000000 →
    popsP l f p (setC p (base ++ out.map (mvI base.length)) g) = setC p (base ++ (genSeq l f out g).1.map (mvI base.length)) (genSeq l f out g).2
  | [], _, _, f, p, base, out, g, _, _ => by simp only [popsP, genSeq]
  | c :: r, h, ho, f, p, base, out, g, hp, hn => by
    rw [okCs] at ho
    rw [nodesCs] at hn
    have s1 := genC_size c g
    cases f with
    | true =>
      have h1 := h c (by simp) ho.1 p (base ++ out.map (mvI base.length)) g hp (by simp; omega)
      rw [popsP, cond_true, h1, step_addI (gen_J c ho.1 (by omega) g) (by omega), genSeq, cond_true]
      exact seq_gen r (fun d hd => h d (by simp [hd])) ho.2 false p base _ _ (by omega) (by rw [addI_len]; omega)
    | false =>
      have e : base ++ out.map (mvI base.length) ++ [({ op := 14 } : Ins)] = base ++ (out ++ [({ op := 14 } : Ins)]).map (mvI base.length) := by
        rw [List.map_append, map_one base.length (i := ({ op := 14 } : Ins)) (by simp) (by simp), List.append_assoc]
      have h1 := h c (by simp) ho.1 p (base ++ (out ++ [({ op := 14 } : Ins)]).map (mvI base.length)) g hp (by simp; omega)
      rw [popsP, cond_false, push_setC, e, h1, step_addI (gen_J c ho.1 (by omega) g) (by simp; omega), genSeq, cond_false]
      exact seq_gen r (fun d hd => h d (by simp [hd])) ho.2 false p base _ _ (by omega) (by rw [addI_len]; simp; omega)

theorem modify_at {a b : List Ins} {i : Ins} {f : Ins → Ins} : (a ++ i :: b).modify a.length f = a ++ f i :: b := by
  induction a with
  | nil => rfl
  | cons x a ih => simp [ih]
theorem modify_mid {a b : List Ins} {i : Ins} {f : Ins → Ins} {n : Nat} (h : n = a.length) : (a ++ [i] ++ b).modify n f = a ++ [f i] ++ b := by
  subst h; rw [List.append_assoc, List.singleton_append, modify_at]; simp

theorem modify_mid2 {a b c : List Ins} {i : Ins} {f : Ins → Ins} {n : Nat} (h : n = a.length) : (a ++ [i] ++ b ++ c).modify n f = a ++ [f i] ++ b ++ c := by
  rw [List.append_assoc (a ++ [i]), modify_mid h, List.append_assoc (a ++ [f i])]
theorem addI_nil {l : List Ins} {m : Nat} (h : okJ m l) (hm : m ≤ 1000000000) : addI [] l = l := by
  rw [addI, List.nil_append]; exact mv_zero h hm

theorem expr_gen (c : Core) : PB c := by
  refine Core.ind (p := PB) ?_ c
  intro k ix n lb ow q kids ih hok p code g hp hn
  have hok' := hok
  rw [okC] at hok
  obtain ⟨hk, hl, hq, hks⟩ := hok
  rw [nodesC] at hn
  rcases kinds (ix := ix) (n := n) (lb := lb) (ow := ow) (q := q) hk hl with ⟨i, hi, h9, h10⟩ | ⟨rfl, x, y, z, rfl⟩ | ⟨rfl, x, rfl⟩ | rfl | ⟨hk3, x, rfl⟩ | rfl
  · have h1 : oneI (.mk k ix n lb ow q []) = some i := by rw [one_same hq]; exact hi
    rw [genC_one hi, exprP, h1]
    simp only
    rw [push_setC, map_one code.length h9 h10]
  · simp only [okCs] at hks
    simp only [nodesCs] at hn
    have jx := gen_J x hks.1 (by omega) g
    have jy := gen_J y hks.2.1 (by omega) (genC x g).2
    have jz := gen_J z hks.2.2.1 (by omega) (genC y (genC x g).2).2
    obtain ⟨s1, _, t1⟩ := genC_size x g
    obtain ⟨s2, _, t2⟩ := genC_size y (genC x g).2
    obtain ⟨s3, _, t3⟩ := genC_size z (genC y (genC x g).2).2
    have ix' := fun code h => ih x (by simp) hks.1 p code g hp h
    have iy := fun code h => ih y (by simp) hks.2.1 p code (genC x g).2 (by omega) h
    have iz := fun code h => ih z (by simp) hks.2.2.1 p code (genC y (genC x g).2).2 (by omega) h
    rw [exprP_if, ifP, thenP, elseP, genC_if, genIf, genThen, genElse]
    generalize genC x g = A at *
    generalize genC y A.2 = B at *
    generalize genC z B.2 = D at *
    rw [ix' _ (by omega), push_setC, here_setC (by omega)]
    rw [iy _ (by simp; omega), push_setC, here_setC (by omega), here_setC (by omega), patch_setC]
    rw [modify_mid2 (by rfl), iz _ (by simp; omega), here_setC (by omega), patch_setC, modify_mid (by simp)]
    refine congrArg (fun l => setC p l D.2) ?_
    rw [addI_nil jx (by omega)]
    simp only [addI, List.map_append, mv_mv jy (show B.1.length + (A.1 ++ [({ op := 10, a := (A.1.length : Int) + 1 + B.1.length + 1 } : Ins)]).length + code.length ≤ 1000000000 by simp; omega), mv_mv jz (show D.1.length + (A.1 ++ [({ op := 10, a := (A.1.length : Int) + 1 + B.1.length + 1 } : Ins)] ++ B.1.map (mvI ((A.1 ++ [({ op := 10, a := (A.1.length : Int) + 1 + B.1.length + 1 } : Ins)]).length : Nat)) ++ [({ op := 9, a := (A.1.length : Int) + 1 + B.1.length + 1 + D.1.length } : Ins)]).length + code.length ≤ 1000000000 by simp; omega)]
    have u1 : mvI code.length ({ op := 10, a := (A.1.length : Int) + 1 + B.1.length + 1 } : Ins) = { op := 10, a := (A.1.length : Int) + 1 + B.1.length + 1 + code.length } :=
      mv_jump (.inr rfl) (n := A.1.length + 1 + B.1.length + 1) (by omega) (by omega) (by simp only; omega)
    have u2 : mvI code.length ({ op := 9, a := (A.1.length : Int) + 1 + B.1.length + 1 + D.1.length } : Ins) = { op := 9, a := (A.1.length : Int) + 1 + B.1.length + 1 + D.1.length + code.length } :=
      mv_jump (.inl rfl) (n := A.1.length + 1 + B.1.length + 1 + D.1.length) (by omega) (by omega) (by simp only; omega)
    simp only [List.map_cons, List.map_nil, u1, u2]
    simp only [List.length_append, List.length_map, List.length_cons, List.length_nil, List.append_assoc, List.singleton_append, Nat.zero_add, Int.natCast_add, Int.natCast_one, Int.add_assoc, Int.add_comm, Int.add_left_comm]
  · simp only [okCs] at hks
    simp only [nodesCs] at hn
    rw [exprP_lambda, seqP, seqP, genC_lambda, setC_len, setC_app hp, push_setC]
    have e1 : setC p (code ++ [({ op := 7, a := g.length } : Ins)]) (g ++ [⟨ix, []⟩]) = setC g.length [] (setC p (code ++ [({ op := 7, a := g.length } : Ins)]) (g ++ [⟨ix, []⟩])) := by
      rw [← setC_comm (by omega), setC_last]
    have e2 := ih x (by simp) hks.1 g.length [] (setC p (code ++ [({ op := 7, a := g.length } : Ins)]) (g ++ [⟨ix, []⟩])) (by rw [setC_len]; simp) (by simp; omega)
    have sz := (genC_size x (g ++ [⟨ix, []⟩])).1
    rw [e1, e2, gen_setC x hks.1 p _ _ (by simp; omega), push_setC, setC_comm (by omega)]
    simp only [List.length_nil, List.nil_append]
    have hz := mv_zero (gen_J x hks.1 (by omega) (g ++ [⟨ix, []⟩])) (by omega)
    rw [show ((0 : Nat) : Int) = 0 from rfl, hz, map_one code.length (by simp) (by simp)]
    rfl
  · rw [exprP_call, genC_call]
    have := call_gen kids ih hks p code [] g hp (by simp; omega)
    rw [List.map_nil, List.append_nil] at this
    rw [this, push_setC, List.map_append, map_one code.length (by simp) (by simp), List.append_assoc]
  · simp only [okCs] at hks
    simp only [nodesCs] at hn
    rw [exprP_set _ _ _ _ _ _ _ _ _ hk3, seqP, seqP, ih x (by simp) hks.1 p code g hp (by omega), push_setC, genC_set _ _ _ _ _ _ _ _ hk3, List.map_append, List.append_assoc]
    rcases hk3 with rfl | rfl | rfl <;> rw [map_one code.length (by simp [setI]) (by simp [setI])] <;> simp [setI]
  · rw [exprP_seq, genC_seq]
    have := seq_gen kids ih hks true p code [] g hp (by simp; omega)
    rw [List.map_nil, List.append_nil] at this
    exact this

theorem forms_gen : ∀ (l : List Core) (_ : okCs l) (out : List Ins) (g : List Pr), 0 < g.length → out.length + 4 * nodesCs l + 1 ≤ 200000000 → okJ out.length out →
    formsP l (setC 0 out g) = setC 0 (genBody l out g).1 (genBody l out g).2
  | [], _, out, g, _, _, _ => by simp only [formsP, genBody]
  | c :: r, ho, out, g, hp, hn, hj => by
    rw [okCs] at ho
    rw [nodesCs] at hn
    have s1 := genC_size c g
    have h1 := expr_gen c ho.1 0 out g hp (by omega)
    have hjc := gen_J c ho.1 (by omega) g
    have e : out ++ (genC c g).1.map (mvI out.length) ++ [({ op := 14 } : Ins)] = addI out (genC c g).1 ++ [{ op := 14 }] := rfl
    have hja : okJ (addI out (genC c g).1 ++ [({ op := 14 } : Ins)]).length (addI out (genC c g).1 ++ [{ op := 14 }]) :=
      okJ_app (okJ_mono (okJ_addI hj hjc (Nat.le_refl _) (by omega)) (by simp)) (okJ_one (by simp) (by simp))
    rw [formsP, h1, push_setC, e, genBody]
    exact forms_gen r ho.2 _ _ (by omega) (by simp only [List.length_append, addI_len, List.length_cons, List.length_nil]; omega) hja
theorem protos_same {l : List Core} (ho : okCs l) (hn : nodesCs l ≤ 600000) : bodyP l = protosR l := by
  have h := forms_gen l ho [] [⟨0, []⟩] (by simp) (by simp; omega) okJ_nil
  have e : setC 0 [] [(⟨0, []⟩ : Pr)] = [⟨0, []⟩] := rfl
  rw [e] at h
  rw [bodyP, h, push_setC]
  rfl
/-- The compiler makes what the document says. -/
theorem compile_same (p : Part) : compileC p = compileR p := by
  unfold compileC compileR
  by_cases h : (wrongPs [p]).1 = 0
  · obtain ⟨h1, h2, _⟩ := wrongPs_good h
    rw [protos_same h1 h2]
  · rw [decide_eq_false h]; rfl
end Go.Proofs.Ytpfdoffnpkokhaa.Gx

namespace Go.Proofs.Ytpfdoffnpkokhaa.Gx
open Go Go.Proofs.Ytpfdoffnpkokhaa.Gw
set_option linter.unusedSimpArgs false
set_option linter.unusedVariables false

def clI (d : Int) (i : Ins) : Ins := bif decide (i.op = 7) then { i with a := IntKind.i64.wrap (i.a + d) } else i
def clP (d : Int) (q : Pr) : Pr := ⟨q.args, q.code.map (clI d)⟩
theorem cl_none {i : Ins} (h : i.op ≠ 7) (d : Int) : clI d i = i := by unfold clI; rw [decide_eq_false h]; rfl
theorem cl_op (d : Int) (i : Ins) : (clI d i).op = i.op := by unfold clI; cases decide (i.op = 7) <;> rfl
theorem cl_mv (d b : Int) (i : Ins) : clI d (mvI b i) = mvI b (clI d i) := by
  by_cases h : i.op = 7
  · have h9 : i.op ≠ 9 := by omega
    have h10 : i.op ≠ 10 := by omega
    rw [mv_none h9 h10, mv_none (by rw [cl_op]; exact h9) (by rw [cl_op]; exact h10)]
  · rw [cl_none h, cl_none (by rw [mv_op]; exact h)]
theorem map_cl_mv (d b : Int) (l : List Ins) : (l.map (mvI b)).map (clI d) = (l.map (clI d)).map (mvI b) := by
  rw [List.map_map, List.map_map]; exact List.map_congr_left fun i _ => cl_mv d b i
theorem cl_addI (d : Int) (out l : List Ins) : (addI out l).map (clI d) = addI (out.map (clI d)) (l.map (clI d)) := by
  unfold addI
  rw [List.map_append, map_cl_mv, List.length_map]
theorem cl_one {i : Ins} (h : i.op ≠ 7) (d : Int) : [i].map (clI d) = [i] := by simp [cl_none h]
theorem modify_last (g new : List Pr) (q : Pr) (f : Pr → Pr) : (g ++ [q] ++ new).modify g.length f = g ++ [f q] ++ new := by
  induction g with
  | nil => rfl
  | cons x g ih => simpa using ih

def PS (c : Core) : Prop := okC c → ∀ g : List Pr, ∃ new, (genC c g).2 = g ++ new ∧ ∀ (g' : List Pr) (d : Nat), g'.length = g.length + d → g'.length + nodesC c ≤ 1000000000 → (genC c g').1 = (genC c g).1.map (clI d) ∧ (genC c g').2 = g' ++ new.map (clP d)
theorem call_S : ∀ (l : List Core) (_ : ∀ c ∈ l, PS c) (_ : okCs l) (g : List Pr) (out : List Ins), ∃ new, (genCall l out g).2 = g ++ new ∧ ∀ (g' : List Pr) (d : Nat), g'.length = g.length + d → g'.length + nodesCs l ≤ 1000000000 → (genCall l (out.map (clI d)) g').1 = (genCall l out g).1.map (clI d) ∧ (genCall l (out.map (clI d)) g').2 = g' ++ new.map (clP d)
  | [], _, _, g, out => ⟨[], by simp [genCall], fun g' d _ _ => by simp [genCall]⟩
  | c :: r, h, ho, g, out => by
    rw [okCs] at ho
    obtain ⟨n1, e1, h1⟩ := h c (by simp) ho.1 g
    obtain ⟨n2, e2, h2⟩ := call_S r (fun d hd => h d (by simp [hd])) ho.2 (genC c g).2 (addI out (genC c g).1)
    refine ⟨n1 ++ n2, by rw [genCall, e2, e1, List.append_assoc], fun g' d hl hn => ?_⟩
    rw [nodesCs] at hn
    obtain ⟨f1, f2⟩ := h1 g' d hl (by omega)
    have sz := (genC_size c g').2.1
    have hl2 : (genC c g').2.length = (genC c g).2.length + d := by rw [f2, e1]; simp; omega
    obtain ⟨k1, k2⟩ := h2 (genC c g').2 d hl2 (by omega)
    rw [genCall, genCall, f1, ← cl_addI, k1, k2, f2]
    exact ⟨rfl, by simp⟩
theorem seq_S : ∀ (l : List Core) (_ : ∀ c ∈ l, PS c) (_ : okCs l) (f : Bool) (g : List Pr) (out : List Ins), ∃ new, (genSeq l f out g).2 = g ++ new ∧ ∀ (g' : List Pr) (d : Nat), g'.length = g.length + d → g'.length + nodesCs l ≤ 1000000000 → (genSeq l f (out.map (clI d)) g').1 = (genSeq l f out g).1.map (clI d) ∧ (genSeq l f (out.map (clI d)) g').2 = g' ++ new.map (clP d)
  | [], _, _, f, g, out => ⟨[], by simp [genSeq], fun g' d _ _ => by simp [genSeq]⟩
  | c :: r, h, ho, f, g, out => by
    rw [okCs] at ho
    obtain ⟨n1, e1, h1⟩ := h c (by simp) ho.1 g
    obtain ⟨n2, e2, h2⟩ := seq_S r (fun d hd => h d (by simp [hd])) ho.2 false (genC c g).2 (addI (bif f then out else out ++ [{ op := 14 }]) (genC c g).1)
    refine ⟨n1 ++ n2, by rw [genSeq, e2, e1, List.append_assoc], fun g' d hl hn => ?_⟩
    rw [nodesCs] at hn
    obtain ⟨f1, f2⟩ := h1 g' d hl (by omega)
    have sz := (genC_size c g').2.1
    have hl2 : (genC c g').2.length = (genC c g).2.length + d := by rw [f2, e1]; simp; omega
    obtain ⟨k1, k2⟩ := h2 (genC c g').2 d hl2 (by omega)
    have eo : (bif f then out.map (clI d) else out.map (clI d) ++ [({ op := 14 } : Ins)]) = (bif f then out else out ++ [({ op := 14 } : Ins)]).map (clI d) := by
      cases f
      · simp only [cond_false, List.map_append, cl_one (i := ({ op := 14 } : Ins)) (by simp)]
      · rfl
    rw [genSeq, genSeq, f1, eo, ← cl_addI, k1, k2, f2]
    exact ⟨rfl, by simp⟩
theorem gen_S (c : Core) : PS c := by
  refine Core.ind (p := PS) ?_ c
  intro k ix n lb ow q kids ih hok g
  rw [okC] at hok
  obtain ⟨hk, hl, _, hks⟩ := hok
  rcases kinds (ix := ix) (n := n) (lb := lb) (ow := ow) (q := q) hk hl with ⟨i, hi, h9, h10⟩ | ⟨rfl, x, y, z, rfl⟩ | ⟨rfl, x, rfl⟩ | rfl | ⟨hk3, x, rfl⟩ | rfl
  · refine ⟨[], by rw [genC_one hi]; simp, fun g' d _ _ => ?_⟩
    rw [genC_one hi, genC_one hi]
    refine ⟨?_, by simp⟩
    have h7 : i.op ≠ 7 := by
      rcases kind_cases hk with rfl | rfl | rfl | rfl | rfl | rfl | rfl | rfl | rfl | rfl | rfl | rfl | rfl <;> simp [oneR] at hi <;> subst hi <;> simp
    rw [cl_one h7]
  · simp only [okCs] at hks
    obtain ⟨n1, e1, h1⟩ := ih x (by simp) hks.1 g
    obtain ⟨n2, e2, h2⟩ := ih y (by simp) hks.2.1 (genC x g).2
    obtain ⟨n3, e3, h3⟩ := ih z (by simp) hks.2.2.1 (genC y (genC x g).2).2
    refine ⟨n1 ++ n2 ++ n3, by rw [genC_if, genIf, genThen, genElse, e3, e2, e1]; simp, fun g' d hl hn => ?_⟩
    simp only [nodesC, nodesCs] at hn
    obtain ⟨f1, f2⟩ := h1 g' d hl (by omega)
    have s1 := (genC_size x g').2.1
    obtain ⟨f3, f4⟩ := h2 (genC x g').2 d (by rw [f2, e1]; simp; omega) (by omega)
    have s2 := (genC_size y (genC x g').2).2.1
    obtain ⟨f5, f6⟩ := h3 (genC y (genC x g').2).2 d (by rw [f4, f2, e2, e1]; simp; omega) (by omega)
    rw [genC_if, genC_if, genIf, genIf, genThen, genThen, genElse, genElse]
    generalize genC x g' = A' at *
    generalize genC y A'.2 = B' at *
    generalize genC z B'.2 = D' at *
    generalize genC x g = A at *
    generalize genC y A.2 = B at *
    generalize genC z B.2 = D at *
    refine ⟨?_, by simp only [f6, f4, f2, List.map_append, List.append_assoc]⟩
    simp only [f5, f3, f1, List.length_map, cl_addI, List.map_append, List.map_nil]
    rw [cl_one (by simp), cl_one (by simp)]
  · simp only [okCs] at hks
    obtain ⟨n1, e1, h1⟩ := ih x (by simp) hks.1 (g ++ [⟨ix, []⟩])
    refine ⟨[⟨ix, (genC x (g ++ [⟨ix, []⟩])).1 ++ [{ op := 15 }]⟩] ++ n1, ?_, fun g' d hl hn => ?_⟩
    · rw [genC_lambda, e1, modify_last]; simp
    · simp only [nodesC, nodesCs] at hn
      obtain ⟨f1, f2⟩ := h1 (g' ++ [⟨ix, []⟩]) d (by simp; omega) (by simp; omega)
      rw [genC_lambda, genC_lambda, f1, f2, modify_last]
      refine ⟨?_, ?_⟩
      · simp only [List.map_cons, List.map_nil, clI, decide_true, cond_true]
        rw [wrap_i64 (by omega) (by omega)]
        simp only [hl, Int.natCast_add]
      · simp [clP, cl_none (i := ({ op := 15 } : Ins)) (by simp)]
  · obtain ⟨n1, e1, h1⟩ := call_S kids ih hks g []
    refine ⟨n1, by rw [genC_call]; exact e1, fun g' d hl hn => ?_⟩
    rw [nodesC] at hn
    obtain ⟨f1, f2⟩ := h1 g' d hl (by omega)
    simp only [List.map_nil] at f1 f2
    rw [genC_call, genC_call, f1, f2, List.map_append, cl_one (by simp)]
    exact ⟨rfl, rfl⟩
  · simp only [okCs] at hks
    obtain ⟨n1, e1, h1⟩ := ih x (by simp) hks.1 g
    refine ⟨n1, by rw [genC_set _ _ _ _ _ _ _ _ hk3]; exact e1, fun g' d hl hn => ?_⟩
    simp only [nodesC, nodesCs] at hn
    obtain ⟨f1, f2⟩ := h1 g' d hl (by omega)
    rw [genC_set _ _ _ _ _ _ _ _ hk3, genC_set _ _ _ _ _ _ _ _ hk3, f1, f2, List.map_append, cl_one (by rcases hk3 with rfl | rfl | rfl <;> simp [setI])]
    exact ⟨rfl, rfl⟩
  · obtain ⟨n1, e1, h1⟩ := seq_S kids ih hks true g []
    refine ⟨n1, by rw [genC_seq]; exact e1, fun g' d hl hn => ?_⟩
    rw [nodesC] at hn
    obtain ⟨f1, f2⟩ := h1 g' d hl (by omega)
    simp only [List.map_nil] at f1 f2
    rw [genC_seq, genC_seq, f1, f2]
    exact ⟨rfl, rfl⟩

theorem body_S : ∀ (l : List Core) (_ : okCs l) (g : List Pr) (out : List Ins), okJ out.length out → ∃ new, (genBody l out g).2 = g ++ new ∧ ∀ (g' : List Pr) (d : Nat) (base : List Ins), g'.length = g.length + d → g'.length + nodesCs l ≤ 100000000 → base.length + out.length + 4 * nodesCs l ≤ 200000000 →
    (genBody l (base ++ (out.map (clI d)).map (mvI base.length)) g').1 = base ++ ((genBody l out g).1.map (clI d)).map (mvI base.length) ∧ (genBody l (base ++ (out.map (clI d)).map (mvI base.length)) g').2 = g' ++ new.map (clP d)
  | [], _, g, out, _ => ⟨[], by simp [genBody], fun g' d base _ _ _ => by simp [genBody]⟩
  | c :: r, ho, g, out, hj => by
    rw [okCs] at ho
    obtain ⟨n1, e1, h1⟩ := gen_S c ho.1 g
    by_cases hbig : nodesC c ≤ 100000000 ∧ out.length ≤ 200000000
    · have hjc := gen_J c ho.1 hbig.1 g
      have s1 := (genC_size c g).1
      have hja : okJ (addI out (genC c g).1 ++ [({ op := 14 } : Ins)]).length (addI out (genC c g).1 ++ [{ op := 14 }]) :=
        okJ_app (okJ_mono (okJ_addI hj hjc (Nat.le_refl _) (by omega)) (by simp)) (okJ_one (by simp) (by simp))
      obtain ⟨n2, e2, h2⟩ := body_S r ho.2 (genC c g).2 (addI out (genC c g).1 ++ [{ op := 14 }]) hja
      refine ⟨n1 ++ n2, by rw [genBody, e2, e1, List.append_assoc], fun g' d base hl hn hb => ?_⟩
      rw [nodesCs] at hn hb
      obtain ⟨f1, f2⟩ := h1 g' d hl (by omega)
      have sz := (genC_size c g').2.1
      have hl2 : (genC c g').2.length = (genC c g).2.length + d := by rw [f2, e1]; simp; omega
      obtain ⟨k1, k2⟩ := h2 (genC c g').2 d base hl2 (by omega) (by simp only [List.length_append, addI_len, List.length_cons, List.length_nil]; omega)
      have hjd : okJ (genC c g).1.length ((genC c g).1.map (clI d)) := by
        intro i hi hop
        obtain ⟨j, hj2, rfl⟩ := List.mem_map.1 hi
        rw [cl_op] at hop
        rw [cl_none (by omega)]
        exact hjc j hj2 hop
      have e3 : addI (base ++ (out.map (clI d)).map (mvI base.length)) ((genC c g).1.map (clI d)) ++ [({ op := 14 } : Ins)] = base ++ ((addI out (genC c g).1 ++ [({ op := 14 } : Ins)]).map (clI d)).map (mvI base.length) := by
        have := step_addI (base := base) (out := out.map (clI d)) (cd := (genC c g).1.map (clI d)) hjd (by rw [List.length_map]; omega)
        rw [addI, this, ← cl_addI]
        simp only [List.map_append, List.map_cons, List.map_nil, cl_none (i := ({ op := 14 } : Ins)) (by simp), mv_none (i := ({ op := 14 } : Ins)) (by simp) (by simp), List.append_assoc]
      rw [genBody, genBody, f1, e3, k1, k2, f2]
      exact ⟨rfl, by simp⟩
    · obtain ⟨n2, e2⟩ : ∃ n2, (genBody r (addI out (genC c g).1 ++ [{ op := 14 }]) (genC c g).2).2 = (genC c g).2 ++ n2 := by
        have : ∀ (l : List Core) (_ : okCs l) (out : List Ins) (g : List Pr), ∃ n, (genBody l out g).2 = g ++ n := by
          intro l
          induction l with
          | nil => intro _ out g; exact ⟨[], by simp [genBody]⟩
          | cons c r ih =>
            intro ho out g
            rw [okCs] at ho
            obtain ⟨n1, e1, _⟩ := gen_S c ho.1 g
            obtain ⟨n2, e2⟩ := ih ho.2 (addI out (genC c g).1 ++ [{ op := 14 }]) (genC c g).2
            exact ⟨n1 ++ n2, by rw [genBody, e2, e1, List.append_assoc]⟩
        exact this r ho.2 _ _
      refine ⟨n1 ++ n2, by rw [genBody, e2, e1, List.append_assoc], fun g' d base hl hn hb => ?_⟩
      rw [nodesCs] at hb hn
      omega
theorem genBody_app : ∀ (a b : List Core) (out : List Ins) (g : List Pr), genBody (a ++ b) out g = genBody b (genBody a out g).1 (genBody a out g).2
  | [], b, out, g => by simp only [List.nil_append, genBody]
  | c :: a, b, out, g => by simp only [List.cons_append, genBody, genBody_app a b]

/-- What the law builds of both. -/
def joinIns (n k : Int) (i : Ins) : Ins := clI k (mvI n i)
def joinP (u v : List Pr) : List Pr :=
  [⟨0, ((u.getD 0 ⟨0, []⟩).code.take ((u.getD 0 ⟨0, []⟩).code.length - 1)) ++ (v.getD 0 ⟨0, []⟩).code.map (joinIns ((u.getD 0 ⟨0, []⟩).code.length - 1 : Nat) (u.length - 1 : Nat))⟩] ++ u.drop 1 ++ (v.drop 1).map (clP (u.length - 1 : Nat))
theorem protosR_form {l : List Core} (ho : okCs l) : ∃ new, (genBody l [] [⟨0, []⟩]).2 = ⟨0, []⟩ :: new ∧ protosR l = ⟨0, (genBody l [] [⟨0, []⟩]).1 ++ [{ op := 15 }]⟩ :: new := by
  obtain ⟨new, e, _⟩ := body_S l ho [⟨0, []⟩] [] okJ_nil
  refine ⟨new, e, ?_⟩
  rw [protosR, e]; rfl
theorem join_same {a b : List Core} (ha : okCs a) (hb : okCs b) (hna : nodesCs a ≤ 600000) (hnb : nodesCs b ≤ 600000) : protosR (a ++ b) = joinP (protosR a) (protosR b) := by
  obtain ⟨na, ea, pa⟩ := protosR_form ha
  obtain ⟨nb, eb, hS⟩ := body_S b hb [⟨0, []⟩] [] okJ_nil
  have pb : protosR b = ⟨0, (genBody b [] [⟨0, []⟩]).1 ++ [{ op := 15 }]⟩ :: nb := by rw [protosR, eb]; rfl
  obtain ⟨sa1, sa2, _⟩ := genBody_size a [] [⟨0, []⟩]
  simp only [List.length_nil, List.length_cons] at sa1 sa2
  have hla : (genBody a [] [⟨0, []⟩]).2.length = na.length + 1 := by rw [ea]; simp
  obtain ⟨k1, k2⟩ := hS (genBody a [] [⟨0, []⟩]).2 na.length (genBody a [] [⟨0, []⟩]).1 (by rw [hla]; simp; omega) (by omega) (by simp; omega)
  simp only [List.map_nil, List.append_nil] at k1 k2
  rw [protosR, genBody_app, k1, k2, ea, pa, pb]
  simp only [joinP, List.getD_cons_zero, List.length_append, List.length_cons, List.length_nil, Nat.add_sub_cancel, List.drop_succ_cons, List.drop_zero, List.cons_append, List.modify_zero_cons]
  congr 1
  congr 1
  rw [List.take_left' (by simp), List.append_assoc]
  congr 1
  rw [List.map_append]
  congr 1
  · rw [List.map_map]
    exact List.map_congr_left fun i _ => (cl_mv _ _ i).symm
end Go.Proofs.Ytpfdoffnpkokhaa.Gx

namespace Go.Proofs.Ytpfdoffnpkokhaa.Gx
open Go Go.Proofs.Ytpfdoffnpkokhaa.Gw
set_option linter.unusedSimpArgs false
set_option linter.unusedVariables false

def alivePart : Part := ⟨[109], [.mk 1 0 7 [] [] (.mk 0 0 [] 0 0 []) []]⟩
theorem alive_is : compileC alivePart = (⟨[109], [⟨0, [{ op := 1, n := 7 }, { op := 14 }, { op := 15 }]⟩]⟩, 0) := by
  rfl
set_option maxHeartbeats 2000000 in
theorem c_alive (st : St) : VCalls Try.prog TT 10 [] st fun r st' => r = .ret (.bool true) ∧ st' = st := by
  refine vfun TT_ok (an := anL []) (L := [0, 1, 2]) (rs := [.tmp 0]) Try.func10 rfl (by kernel_rfl) rfl Try.ntmps10 rfl rfl (Nat.le_refl _) fun hst ha hf => ?_
  simp only [decide_true, decide_false, gwL, gwB, gwD, gwE, gwS, gwTT, gwZ, initG, Nat.reduceEqDiff, ↓reduceIte, Nat.reduceAdd, Nat.reduceLT, Nat.reduceLeDiff, List.map_cons, List.map_nil, builtS, builtinV, pureR, binV, sliceV, pickV, evO, Env.look, find, V.ofConst, resV, resOne, tupV, loadV, fillV, buildV, mkIface, litM, litS, litR, litRows, List.reverse_cons, List.reverse_nil, Nat.reduceMul, appS, memA, appendV, rowsOf, V.cells, TI.sized, TI.known, TI.agg, anL, List.length_cons, List.length_nil, List.append_nil, List.cons_append, List.nil_append, List.drop_succ_cons, List.drop_zero, List.drop_nil, List.take_succ_cons, List.take_zero, List.take_nil, List.getElem?_cons_zero, List.getElem?_cons_succ, List.all_cons, List.all_nil, List.replicate_succ, List.replicate_zero, List.set_cons_zero, List.set_cons_succ, eq_self, true_or, ne_eq, not_false_eq_true, Nat.reduceEqDiff]
  have hw : wkL [V.agg [.str [109], .lst 12 none [[.int .i64 1, .int .i64 0, .int .i64 7, .str [], .str [], .int .i64 0, .int .i64 0, .str [], .int .i64 0, .int .i64 0, .nils, .nils]]]] [.agg (encP alivePart)] := by
    refine wkL_cons (wk_agg (wkL_cons (wk_refl _) (wkL_cons (wk_lst ?_) wkL_nil))) wkL_nil
    simp only [alivePart, List.map_cons, List.map_nil, encC_mk, encD_mk, List.cons_append, List.nil_append, wkRp]
    exact ⟨_, _, rfl, wkL_cons (wk_refl _) (wkL_cons (wk_refl _) (wkL_cons (wk_refl _) (wkL_cons (wk_refl _) (wkL_cons (wk_refl _) (wkL_cons (wk_refl _) (wkL_cons (wk_refl _) (wkL_cons (wk_refl _) (wkL_cons (wk_refl _) (wkL_cons (wk_refl _) (wkL_cons (wk_nils _) (wkL_cons (wk_nils _) wkL_nil))))))))))), rfl⟩
  refine (c_Compile alivePart _).use hw fun _ => ?_
  rw [alive_is]
  have g0 : ∀ (x : List V) (l : List (List V)), (x :: l).getD (Int.toNat 0) [] = x := fun _ _ => rfl
  simp only [decide_true, decide_false, gwL, gwB, gwD, gwE, gwS, gwTT, gwZ, initG, Nat.reduceEqDiff, ↓reduceIte, Nat.reduceAdd, Nat.reduceLT, Nat.reduceLeDiff, List.map_cons, List.map_nil, builtS, builtinV, pureR, binV, sliceV, pickV, evO, Env.look, find, V.ofConst, resV, resOne, tupV, loadV, fillV, buildV, mkIface, litM, litS, litR, litRows, List.reverse_cons, List.reverse_nil, Nat.reduceMul, appS, memA, appendV, rowsOf, V.cells, TI.sized, TI.known, TI.agg, anL, List.length_cons, List.length_nil, List.append_nil, List.cons_append, List.nil_append, List.drop_succ_cons, List.drop_zero, List.drop_nil, List.take_succ_cons, List.take_zero, List.take_nil, List.getElem?_cons_zero, List.getElem?_cons_succ, List.all_cons, List.all_nil, List.replicate_succ, List.replicate_zero, List.set_cons_zero, List.set_cons_succ, eq_self, true_or, ne_eq, not_false_eq_true, Nat.reduceEqDiff, compV, encU, lstPr, encPr, lstI, encI, g0, Int.reduceEq, Int.reduceLT, Int.reduceLE]
  exact ⟨fun _ => by decide, fun _ => by decide, fun _ => by decide, gives_bool' (by decide) hst⟩

mutual
def lamC : Core → Nat
  | .mk k _ _ _ _ _ kids => (bif decide (k = 8) then 1 else 0) + lamCs kids
def lamCs : List Core → Nat
  | [] => 0
  | c :: r => lamC c + lamCs r
end
mutual
theorem lamC_nodes : ∀ c : Core, lamC c ≤ nodesC c
  | .mk k _ _ _ _ _ kids => by rw [lamC, nodesC]; have := lamCs_nodes kids; cases decide (k = 8) <;> simp <;> omega
theorem lamCs_nodes : ∀ l : List Core, lamCs l ≤ nodesCs l
  | [] => by simp [lamCs, nodesCs]
  | c :: r => by rw [lamCs, nodesCs]; have := lamC_nodes c; have := lamCs_nodes r; omega
end
theorem lamCs_snoc : ∀ (l : List Core) (c : Core), lamCs (l ++ [c]) = lamCs l + lamC c
  | [], c => by simp [lamCs]
  | d :: l, c => by simp only [List.cons_append, lamCs, lamCs_snoc l c]; omega
theorem nodesCs_snoc (l : List Core) (c : Core) : nodesCs (l ++ [c]) = nodesCs l + nodesC c := by rw [nodesCs_app]; simp [nodesCs]
def kidsOf : Core → List Core
  | .mk _ _ _ _ _ _ kids => kids
theorem fit_of_nodes {l : List Core} (h : nodesCs l ≤ 1000000000) : l.length ≤ 1000000000 := Nat.le_trans (nodesCs_len l) h

set_option maxHeartbeats 2000000 in
theorem c_lambdas_of (l : List Core) (ih : ∀ d ∈ l, ∀ st : St, nodesCs (kidsOf d) ≤ 1000000000 → VCalls Try.prog TT 12 [lstC (kidsOf d)] st fun r st' => r = .ret (.int .i64 (lamCs (kidsOf d))) ∧ st' = st) (st : St) (hn : nodesCs l ≤ 1000000000) :
    VCalls Try.prog TT 12 [lstC l] st fun r st' => r = .ret (.int .i64 (lamCs l)) ∧ st' = st := by
  refine vfun TT_ok (an := anL []) (L := [0, 2, 3, 5, 6, 7, 8]) (rs := [.tmp 2]) Try.func12 rfl (by kernel_rfl) rfl Try.ntmps12 rfl rfl (Nat.le_refl _) fun hst ha hf => ?_
  have hkl := fit_of_nodes hn
  simp only [lstC]
  simp only [decide_true, decide_false, gwL, gwB, gwD, gwE, gwS, gwTT, gwZ, initG, Nat.reduceEqDiff, ↓reduceIte, Nat.reduceAdd, Nat.reduceLT, Nat.reduceLeDiff, List.map_cons, List.map_nil, builtS, builtinV, pureR, binV, sliceV, pickV, evO, Env.look, find, V.ofConst, resV, resOne, tupV, loadV, fillV, buildV, mkIface, litM, litS, litR, litRows, List.reverse_cons, List.reverse_nil, Nat.reduceMul, appS, memA, appendV, rowsOf, V.cells, TI.sized, TI.known, TI.agg, anL, List.length_cons, List.length_nil, List.append_nil, List.cons_append, List.nil_append, List.drop_succ_cons, List.drop_zero, List.drop_nil, List.take_succ_cons, List.take_zero, List.take_nil, List.getElem?_cons_zero, List.getElem?_cons_succ, List.all_cons, List.all_nil, List.replicate_succ, List.replicate_zero, List.set_cons_zero, List.set_cons_succ, eq_self, true_or, ne_eq, not_false_eq_true, Nat.reduceEqDiff, List.length_map]
  refine vforD (σ := Nat) [3, 6, 7, 8] (fun i => [(3, true, .int .i64 (lamCs (l.take i))), (6, true, lstC l), (7, true, .int .i64 l.length), (8, true, .int .i64 i)]) (fun i => st) (fun i => l.length - i) (fun i => i ≤ l.length) 0 rfl TT_ok (Nat.zero_le _) (wkE_refl _) rfl ?_
  rintro i hi
  simp only [lstC]
  rcases at_or_end l i hi with ⟨rfl, hd⟩ | ⟨a, hlt, hget, hdr⟩
  · rw [List.take_length]
    simp only [decide_true, decide_false, gwL, gwB, gwD, gwE, gwS, gwTT, gwZ, initG, Nat.reduceEqDiff, ↓reduceIte, Nat.reduceAdd, Nat.reduceLT, Nat.reduceLeDiff, List.map_cons, List.map_nil, builtS, builtinV, pureR, binV, sliceV, pickV, evO, Env.look, find, V.ofConst, resV, resOne, tupV, loadV, fillV, buildV, mkIface, litM, litS, litR, litRows, List.reverse_cons, List.reverse_nil, Nat.reduceMul, appS, memA, appendV, rowsOf, V.cells, TI.sized, TI.known, TI.agg, anL, List.length_cons, List.length_nil, List.append_nil, List.cons_append, List.nil_append, List.drop_succ_cons, List.drop_zero, List.drop_nil, List.take_succ_cons, List.take_zero, List.take_nil, List.getElem?_cons_zero, List.getElem?_cons_succ, List.all_cons, List.all_nil, List.replicate_succ, List.replicate_zero, List.set_cons_zero, List.set_cons_succ, eq_self, true_or, ne_eq, not_false_eq_true, Nat.reduceEqDiff, lt_no]
    exact gives_int rfl hst
  · have hnt := nodesCs_take hget
    have hl1 := lamCs_nodes (l.take i)
    have hih := ih a (List.mem_of_getElem? hget)
    have hsn : lamCs (l.take (i + 1)) = lamCs (l.take i) + lamC a := by rw [take_next hget, lamCs_snoc]
    have hla := lamC_nodes a
    simp only [decide_true, decide_false, gwL, gwB, gwD, gwE, gwS, gwTT, gwZ, initG, Nat.reduceEqDiff, ↓reduceIte, Nat.reduceAdd, Nat.reduceLT, Nat.reduceLeDiff, List.map_cons, List.map_nil, builtS, builtinV, pureR, binV, sliceV, pickV, evO, Env.look, find, V.ofConst, resV, resOne, tupV, loadV, fillV, buildV, mkIface, litM, litS, litR, litRows, List.reverse_cons, List.reverse_nil, Nat.reduceMul, appS, memA, appendV, rowsOf, V.cells, TI.sized, TI.known, TI.agg, anL, List.length_cons, List.length_nil, List.append_nil, List.cons_append, List.nil_append, List.drop_succ_cons, List.drop_zero, List.drop_nil, List.take_succ_cons, List.take_zero, List.take_nil, List.getElem?_cons_zero, List.getElem?_cons_succ, List.all_cons, List.all_nil, List.replicate_succ, List.replicate_zero, List.set_cons_zero, List.set_cons_succ, eq_self, true_or, ne_eq, not_false_eq_true, Nat.reduceEqDiff, lt_yes hlt, List.length_map, getD_map hget, Int.ofNat_lt.mpr hlt, encC_take, encC_len, encC_drop]
    obtain ⟨k, ix, n, lb, ow, q, kids⟩ := a
    simp only [kidsOf] at hih
    rw [nodesC] at hnt
    rw [lamC] at hsn hla
    rw [nodesC] at hla
    simp only [encC_mk]
    have hb : ∀ m : Nat, m ≤ 2000000000 → IntKind.i64.wrap (m : Int) = m := fun m hm => wrap_i64 (by omega) (by omega)
    simp only [decide_true, decide_false, gwL, gwB, gwD, gwE, gwS, gwTT, gwZ, initG, Nat.reduceEqDiff, ↓reduceIte, Nat.reduceAdd, Nat.reduceLT, Nat.reduceLeDiff, List.map_cons, List.map_nil, builtS, builtinV, pureR, binV, sliceV, pickV, evO, Env.look, find, V.ofConst, resV, resOne, tupV, loadV, fillV, buildV, mkIface, litM, litS, litR, litRows, List.reverse_cons, List.reverse_nil, Nat.reduceMul, appS, memA, appendV, rowsOf, V.cells, TI.sized, TI.known, TI.agg, anL, List.length_cons, List.length_nil, List.append_nil, List.cons_append, List.nil_append, List.drop_succ_cons, List.drop_zero, List.drop_nil, List.take_succ_cons, List.take_zero, List.take_nil, List.getElem?_cons_zero, List.getElem?_cons_succ, List.all_cons, List.all_nil, List.replicate_succ, List.replicate_zero, List.set_cons_zero, List.set_cons_succ, eq_self, true_or, ne_eq, not_false_eq_true, Nat.reduceEqDiff]
    refine iK_split (fun h8 => ?_) (fun h8 => ?_)
    · rw [h8] at hsn hla
      simp only [decide_true, decide_false, gwL, gwB, gwD, gwE, gwS, gwTT, gwZ, initG, Nat.reduceEqDiff, ↓reduceIte, Nat.reduceAdd, Nat.reduceLT, Nat.reduceLeDiff, List.map_cons, List.map_nil, builtS, builtinV, pureR, binV, sliceV, pickV, evO, Env.look, find, V.ofConst, resV, resOne, tupV, loadV, fillV, buildV, mkIface, litM, litS, litR, litRows, List.reverse_cons, List.reverse_nil, Nat.reduceMul, appS, memA, appendV, rowsOf, V.cells, TI.sized, TI.known, TI.agg, anL, List.length_cons, List.length_nil, List.append_nil, List.cons_append, List.nil_append, List.drop_succ_cons, List.drop_zero, List.drop_nil, List.take_succ_cons, List.take_zero, List.take_nil, List.getElem?_cons_zero, List.getElem?_cons_succ, List.all_cons, List.all_nil, List.replicate_succ, List.replicate_zero, List.set_cons_zero, List.set_cons_succ, eq_self, true_or, ne_eq, not_false_eq_true, Nat.reduceEqDiff, wrap_i64 (show -9223372036854775808 ≤ ((lamCs (l.take i) : Nat) : Int) + 1 by omega) (show ((lamCs (l.take i) : Nat) : Int) + 1 ≤ 9223372036854775807 by omega), encD_drop_app]
      refine (hih _ (by omega)).use (wkL_refl _) fun _ => ?_
      simp only [decide_true, decide_false, gwL, gwB, gwD, gwE, gwS, gwTT, gwZ, initG, Nat.reduceEqDiff, ↓reduceIte, Nat.reduceAdd, Nat.reduceLT, Nat.reduceLeDiff, List.map_cons, List.map_nil, builtS, builtinV, pureR, binV, sliceV, pickV, evO, Env.look, find, V.ofConst, resV, resOne, tupV, loadV, fillV, buildV, mkIface, litM, litS, litR, litRows, List.reverse_cons, List.reverse_nil, Nat.reduceMul, appS, memA, appendV, rowsOf, V.cells, TI.sized, TI.known, TI.agg, anL, List.length_cons, List.length_nil, List.append_nil, List.cons_append, List.nil_append, List.drop_succ_cons, List.drop_zero, List.drop_nil, List.take_succ_cons, List.take_zero, List.take_nil, List.getElem?_cons_zero, List.getElem?_cons_succ, List.all_cons, List.all_nil, List.replicate_succ, List.replicate_zero, List.set_cons_zero, List.set_cons_succ, eq_self, true_or, ne_eq, not_false_eq_true, Nat.reduceEqDiff]
      have e : IntKind.i64.wrap (((lamCs (l.take i) : Nat) : Int) + 1 + lamCs kids) = ((lamCs (l.take (i + 1)) : Nat) : Int) := by
        rw [hsn, wrap_i64 (by omega) (by simp at hla; omega)]; simp; omega
      refine ⟨i + 1, ⟨?_, st, _, rfl, wkSt_refl _, ?_, hst, Nat.le_refl _⟩, by omega, hlt⟩
      · simp only [decide_true, decide_false, gwL, gwB, gwD, gwE, gwS, gwTT, gwZ, initG, Nat.reduceEqDiff, ↓reduceIte, Nat.reduceAdd, Nat.reduceLT, Nat.reduceLeDiff, List.map_cons, List.map_nil, builtS, builtinV, pureR, binV, sliceV, pickV, evO, Env.look, find, V.ofConst, resV, resOne, tupV, loadV, fillV, buildV, mkIface, litM, litS, litR, litRows, List.reverse_cons, List.reverse_nil, Nat.reduceMul, appS, memA, appendV, rowsOf, V.cells, TI.sized, TI.known, TI.agg, anL, List.length_cons, List.length_nil, List.append_nil, List.cons_append, List.nil_append, List.drop_succ_cons, List.drop_zero, List.drop_nil, List.take_succ_cons, List.take_zero, List.take_nil, List.getElem?_cons_zero, List.getElem?_cons_succ, List.all_cons, List.all_nil, List.replicate_succ, List.replicate_zero, List.set_cons_zero, List.set_cons_succ, eq_self, true_or, ne_eq, not_false_eq_true, Nat.reduceEqDiff, Env.keep, next_i64 hlt (show l.length ≤ 9223372036854775807 by omega), e]
        exact wkE_refl _
      · simp only [ltE, V.lt]
        exact ⟨trivial, lstC_lt _ _, trivial, trivial, trivial⟩
    · rw [h8] at hsn hla
      simp only [decide_true, decide_false, gwL, gwB, gwD, gwE, gwS, gwTT, gwZ, initG, Nat.reduceEqDiff, ↓reduceIte, Nat.reduceAdd, Nat.reduceLT, Nat.reduceLeDiff, List.map_cons, List.map_nil, builtS, builtinV, pureR, binV, sliceV, pickV, evO, Env.look, find, V.ofConst, resV, resOne, tupV, loadV, fillV, buildV, mkIface, litM, litS, litR, litRows, List.reverse_cons, List.reverse_nil, Nat.reduceMul, appS, memA, appendV, rowsOf, V.cells, TI.sized, TI.known, TI.agg, anL, List.length_cons, List.length_nil, List.append_nil, List.cons_append, List.nil_append, List.drop_succ_cons, List.drop_zero, List.drop_nil, List.take_succ_cons, List.take_zero, List.take_nil, List.getElem?_cons_zero, List.getElem?_cons_succ, List.all_cons, List.all_nil, List.replicate_succ, List.replicate_zero, List.set_cons_zero, List.set_cons_succ, eq_self, true_or, ne_eq, not_false_eq_true, Nat.reduceEqDiff, encD_drop_app]
      refine (hih _ (by omega)).use (wkL_refl _) fun _ => ?_
      simp only [decide_true, decide_false, gwL, gwB, gwD, gwE, gwS, gwTT, gwZ, initG, Nat.reduceEqDiff, ↓reduceIte, Nat.reduceAdd, Nat.reduceLT, Nat.reduceLeDiff, List.map_cons, List.map_nil, builtS, builtinV, pureR, binV, sliceV, pickV, evO, Env.look, find, V.ofConst, resV, resOne, tupV, loadV, fillV, buildV, mkIface, litM, litS, litR, litRows, List.reverse_cons, List.reverse_nil, Nat.reduceMul, appS, memA, appendV, rowsOf, V.cells, TI.sized, TI.known, TI.agg, anL, List.length_cons, List.length_nil, List.append_nil, List.cons_append, List.nil_append, List.drop_succ_cons, List.drop_zero, List.drop_nil, List.take_succ_cons, List.take_zero, List.take_nil, List.getElem?_cons_zero, List.getElem?_cons_succ, List.all_cons, List.all_nil, List.replicate_succ, List.replicate_zero, List.set_cons_zero, List.set_cons_succ, eq_self, true_or, ne_eq, not_false_eq_true, Nat.reduceEqDiff]
      have e : IntKind.i64.wrap (((lamCs (l.take i) : Nat) : Int) + lamCs kids) = ((lamCs (l.take (i + 1)) : Nat) : Int) := by
        rw [hsn, wrap_i64 (by omega) (by simp at hla; omega)]; simp
      refine ⟨i + 1, ⟨?_, st, _, rfl, wkSt_refl _, ?_, hst, Nat.le_refl _⟩, by omega, hlt⟩
      · simp only [decide_true, decide_false, gwL, gwB, gwD, gwE, gwS, gwTT, gwZ, initG, Nat.reduceEqDiff, ↓reduceIte, Nat.reduceAdd, Nat.reduceLT, Nat.reduceLeDiff, List.map_cons, List.map_nil, builtS, builtinV, pureR, binV, sliceV, pickV, evO, Env.look, find, V.ofConst, resV, resOne, tupV, loadV, fillV, buildV, mkIface, litM, litS, litR, litRows, List.reverse_cons, List.reverse_nil, Nat.reduceMul, appS, memA, appendV, rowsOf, V.cells, TI.sized, TI.known, TI.agg, anL, List.length_cons, List.length_nil, List.append_nil, List.cons_append, List.nil_append, List.drop_succ_cons, List.drop_zero, List.drop_nil, List.take_succ_cons, List.take_zero, List.take_nil, List.getElem?_cons_zero, List.getElem?_cons_succ, List.all_cons, List.all_nil, List.replicate_succ, List.replicate_zero, List.set_cons_zero, List.set_cons_succ, eq_self, true_or, ne_eq, not_false_eq_true, Nat.reduceEqDiff, Env.keep, next_i64 hlt (show l.length ≤ 9223372036854775807 by omega), e]
        exact wkE_refl _
      · simp only [ltE, V.lt]
        exact ⟨trivial, lstC_lt _ _, trivial, trivial, trivial⟩
theorem c_lambdas (l : List Core) (st : St) (hn : nodesCs l ≤ 1000000000) : VCalls Try.prog TT 12 [lstC l] st fun r st' => r = .ret (.int .i64 (lamCs l)) ∧ st' = st := by
  have key : ∀ c : Core, ∀ st : St, nodesCs (kidsOf c) ≤ 1000000000 → VCalls Try.prog TT 12 [lstC (kidsOf c)] st fun r st' => r = .ret (.int .i64 (lamCs (kidsOf c))) ∧ st' = st := by
    intro c
    refine Core.ind (p := fun c => ∀ st : St, nodesCs (kidsOf c) ≤ 1000000000 → VCalls Try.prog TT 12 [lstC (kidsOf c)] st fun r st' => r = .ret (.int .i64 (lamCs (kidsOf c))) ∧ st' = st) ?_ c
    intro k ix n lb ow q kids ih st hn
    exact c_lambdas_of kids ih st hn
  exact c_lambdas_of l (fun d _ => key d) st hn
end Go.Proofs.Ytpfdoffnpkokhaa.Gx

namespace Go.Proofs.Ytpfdoffnpkokhaa.Gx
open Go Go.Proofs.Ytpfdoffnpkokhaa.Gw
set_option linter.unusedSimpArgs false
set_option linter.unusedVariables false

theorem compile_split (l : List Core) : (compileC ⟨[], l⟩).2 ≠ 0 ∨ (compileC ⟨[], l⟩ = (⟨[], protosR l⟩, 0) ∧ okCs l ∧ nodesCs l ≤ 600000 ∧ (protosR l).length ≤ 500 ∧ ∀ q ∈ protosR l, q.code.length ≤ 6000) := by
  unfold compileC
  cases he : decide ((wrongPs [⟨[], l⟩]).1 = 0) with
  | false => exact .inl (by simpa using he)
  | true =>
    obtain ⟨h1, h2, h3⟩ := wrongPs_good (of_decide_eq_true he)
    simp only at h1 h2
    cases hm : muchP (bodyP l) with
    | true => exact .inl (by simp)
    | false =>
      rw [← protos_same h1 h2]
      simp only [muchP, Bool.or_eq_false_iff, decide_eq_false_iff_not, List.any_eq_false] at hm
      refine .inr ⟨rfl, h1, h2, by omega, fun q hq => ?_⟩
      have := hm.2 q hq
      simp at this
      omega
set_option maxRecDepth 20000 in
set_option maxHeartbeats 16000000 in
theorem c_CodeJoined (a b : List Core) (st : St) (ha9 : a.length ≤ 100000000) (hb9 : b.length ≤ 100000000) : VCalls Try.prog TT 5 [lstC a, lstC b] st fun r st' => r = .ret (.bool true) ∧ st' = st := by
  refine vfun TT_ok (an := anL [(37, 1), (114, 1)]) (L := [0, 1, 4, 5, 6, 7, 8, 9, 10, 11, 12, 13, 15, 16, 18, 19, 21, 80, 81, 82, 122, 123, 124, 132, 133, 134]) (rs := [.tmp 4]) Try.func5 rfl (by kernel_rfl) rfl Try.ntmps5 rfl rfl (Nat.le_refl _) fun hst ha hf => ?_
  simp only [lstC]
  simp only [decide_true, decide_false, gwL, gwB, gwD, gwE, gwS, gwTT, gwZ, initG, Nat.reduceEqDiff, ↓reduceIte, Nat.reduceAdd, Nat.reduceLT, Nat.reduceLeDiff, List.map_cons, List.map_nil, builtS, builtinV, pureR, binV, sliceV, pickV, evO, Env.look, find, V.ofConst, resV, resOne, tupV, loadV, fillV, buildV, mkIface, litM, litS, litR, litRows, List.reverse_cons, List.reverse_nil, Nat.reduceMul, appS, memA, appendV, rowsOf, V.cells, TI.sized, TI.known, TI.agg, anL, List.length_cons, List.length_nil, List.append_nil, List.cons_append, List.nil_append, List.drop_succ_cons, List.drop_zero, List.drop_nil, List.take_succ_cons, List.take_zero, List.take_nil, List.getElem?_cons_zero, List.getElem?_cons_succ, List.all_cons, List.all_nil, List.replicate_succ, List.replicate_zero, List.set_cons_zero, List.set_cons_succ, eq_self, true_or, ne_eq, not_false_eq_true, Nat.reduceEqDiff]
  refine (c_alive _).use (wkL_refl _) fun _ => ?_
  simp only [decide_true, decide_false, gwL, gwB, gwD, gwE, gwS, gwTT, gwZ, initG, Nat.reduceEqDiff, ↓reduceIte, Nat.reduceAdd, Nat.reduceLT, Nat.reduceLeDiff, List.map_cons, List.map_nil, builtS, builtinV, pureR, binV, sliceV, pickV, evO, Env.look, find, V.ofConst, resV, resOne, tupV, loadV, fillV, buildV, mkIface, litM, litS, litR, litRows, List.reverse_cons, List.reverse_nil, Nat.reduceMul, appS, memA, appendV, rowsOf, V.cells, TI.sized, TI.known, TI.agg, anL, List.length_cons, List.length_nil, List.append_nil, List.cons_append, List.nil_append, List.drop_succ_cons, List.drop_zero, List.drop_nil, List.take_succ_cons, List.take_zero, List.take_nil, List.getElem?_cons_zero, List.getElem?_cons_succ, List.all_cons, List.all_nil, List.replicate_succ, List.replicate_zero, List.set_cons_zero, List.set_cons_succ, eq_self, true_or, ne_eq, not_false_eq_true, Nat.reduceEqDiff]
  refine (c_Compile ⟨[], a⟩ _).use (wkL_refl _) fun _ => ?_
  simp only [decide_true, decide_false, gwL, gwB, gwD, gwE, gwS, gwTT, gwZ, initG, Nat.reduceEqDiff, ↓reduceIte, Nat.reduceAdd, Nat.reduceLT, Nat.reduceLeDiff, List.map_cons, List.map_nil, builtS, builtinV, pureR, binV, sliceV, pickV, evO, Env.look, find, V.ofConst, resV, resOne, tupV, loadV, fillV, buildV, mkIface, litM, litS, litR, litRows, List.reverse_cons, List.reverse_nil, Nat.reduceMul, appS, memA, appendV, rowsOf, V.cells, TI.sized, TI.known, TI.agg, anL, List.length_cons, List.length_nil, List.append_nil, List.cons_append, List.nil_append, List.drop_succ_cons, List.drop_zero, List.drop_nil, List.take_succ_cons, List.take_zero, List.take_nil, List.getElem?_cons_zero, List.getElem?_cons_succ, List.all_cons, List.all_nil, List.replicate_succ, List.replicate_zero, List.set_cons_zero, List.set_cons_succ, eq_self, true_or, ne_eq, not_false_eq_true, Nat.reduceEqDiff, compV, encU]
  refine (c_Compile ⟨[], b⟩ _).use (wkL_refl _) fun _ => ?_
  simp only [decide_true, decide_false, gwL, gwB, gwD, gwE, gwS, gwTT, gwZ, initG, Nat.reduceEqDiff, ↓reduceIte, Nat.reduceAdd, Nat.reduceLT, Nat.reduceLeDiff, List.map_cons, List.map_nil, builtS, builtinV, pureR, binV, sliceV, pickV, evO, Env.look, find, V.ofConst, resV, resOne, tupV, loadV, fillV, buildV, mkIface, litM, litS, litR, litRows, List.reverse_cons, List.reverse_nil, Nat.reduceMul, appS, memA, appendV, rowsOf, V.cells, TI.sized, TI.known, TI.agg, anL, List.length_cons, List.length_nil, List.append_nil, List.cons_append, List.nil_append, List.drop_succ_cons, List.drop_zero, List.drop_nil, List.take_succ_cons, List.take_zero, List.take_nil, List.getElem?_cons_zero, List.getElem?_cons_succ, List.all_cons, List.all_nil, List.replicate_succ, List.replicate_zero, List.set_cons_zero, List.set_cons_succ, eq_self, true_or, ne_eq, not_false_eq_true, Nat.reduceEqDiff, compV, encU, lstC, List.length_map]
  refine ⟨by omega, by omega, ?_⟩
  refine (c_Compile ⟨[], a ++ b⟩ _).use (wkL_cons (wk_agg (wkL_cons (wk_refl _) (wkL_cons (by rw [← List.map_append]; exact wk_tok ..) wkL_nil))) wkL_nil) fun _ => ?_
  simp only [decide_true, decide_false, gwL, gwB, gwD, gwE, gwS, gwTT, gwZ, initG, Nat.reduceEqDiff, ↓reduceIte, Nat.reduceAdd, Nat.reduceLT, Nat.reduceLeDiff, List.map_cons, List.map_nil, builtS, builtinV, pureR, binV, sliceV, pickV, evO, Env.look, find, V.ofConst, resV, resOne, tupV, loadV, fillV, buildV, mkIface, litM, litS, litR, litRows, List.reverse_cons, List.reverse_nil, Nat.reduceMul, appS, memA, appendV, rowsOf, V.cells, TI.sized, TI.known, TI.agg, anL, List.length_cons, List.length_nil, List.append_nil, List.cons_append, List.nil_append, List.drop_succ_cons, List.drop_zero, List.drop_nil, List.take_succ_cons, List.take_zero, List.take_nil, List.getElem?_cons_zero, List.getElem?_cons_succ, List.all_cons, List.all_nil, List.replicate_succ, List.replicate_zero, List.set_cons_zero, List.set_cons_succ, eq_self, true_or, ne_eq, not_false_eq_true, Nat.reduceEqDiff, compV, encU]
  refine iK_split (fun h => ?_) (fun h => ?_)
  · simp only [decide_true, decide_false, gwL, gwB, gwD, gwE, gwS, gwTT, gwZ, initG, Nat.reduceEqDiff, ↓reduceIte, Nat.reduceAdd, Nat.reduceLT, Nat.reduceLeDiff, List.map_cons, List.map_nil, builtS, builtinV, pureR, binV, sliceV, pickV, evO, Env.look, find, V.ofConst, resV, resOne, tupV, loadV, fillV, buildV, mkIface, litM, litS, litR, litRows, List.reverse_cons, List.reverse_nil, Nat.reduceMul, appS, memA, appendV, rowsOf, V.cells, TI.sized, TI.known, TI.agg, anL, List.length_cons, List.length_nil, List.append_nil, List.cons_append, List.nil_append, List.drop_succ_cons, List.drop_zero, List.drop_nil, List.take_succ_cons, List.take_zero, List.take_nil, List.getElem?_cons_zero, List.getElem?_cons_succ, List.all_cons, List.all_nil, List.replicate_succ, List.replicate_zero, List.set_cons_zero, List.set_cons_succ, eq_self, true_or, ne_eq, not_false_eq_true, Nat.reduceEqDiff]
    exact gives_bool' rfl hst
  rcases compile_split a with h1 | ⟨hca, hoa, hna, hpa, hqa⟩
  · simp [h1] at h
  rcases compile_split b with h1 | ⟨hcb, hob, hnb, hpb, hqb⟩
  · simp [h1] at h
  rcases compile_split (a ++ b) with h1 | ⟨hcx, -⟩
  · simp [h1] at h
  rw [hca, hcb, hcx, join_same hoa hob hna hnb]
  obtain ⟨na, -, pa⟩ := protosR_form hoa
  obtain ⟨nb, -, pb⟩ := protosR_form hob
  rw [pa] at hpa hqa
  rw [pb] at hpb hqb
  rw [pa, pb]
  generalize (genBody a [] [⟨0, []⟩]).1 = ca at *
  generalize (genBody b [] [⟨0, []⟩]).1 = cb at *
  have hl1 := hqa _ (List.mem_cons_self ..)
  have hl2 := hqb _ (List.mem_cons_self ..)
  simp only [List.length_append, List.length_cons, List.length_nil] at hl1 hl2 hpa hpb
  generalize hcv : cb ++ [({ op := 15 } : Ins)] = cv at *
  have hcvl : cv.length = cb.length + 1 := by rw [← hcv]; simp
  have hjp : joinP (⟨0, ca ++ [({ op := 15 } : Ins)]⟩ :: na) (⟨0, cv⟩ :: nb) = ⟨0, ca ++ cv.map (joinIns ca.length na.length)⟩ :: (na ++ nb.map (clP na.length)) := by
    simp [joinP, List.getD_cons_zero]
  rw [hjp]
  generalize hX : (⟨0, ca ++ cv.map (joinIns ca.length na.length)⟩ :: (na ++ nb.map (clP na.length)) : List Pr) = X
  have g0 : ∀ {α : Type} (x : α) (l : List α) (d : α), (x :: l).getD (Int.toNat 0) d = x := fun _ _ _ => rfl
  simp only [lstPr]
  obtain ⟨st0, hst0⟩ : ∃ st0 : St, st0 = st ++ [Ent.box [V.str [], .lst 2 none ((⟨0, ca ++ [({ op := 15 } : Ins)]⟩ :: na).map encPr)], Ent.box [V.str [], .lst 2 none ((⟨0, cv⟩ :: nb).map encPr)], Ent.tip 40 (a.length + b.length), Ent.box [V.str [], .lst 2 none (X.map encPr)]] := ⟨_, rfl⟩
  rw [← hst0]
  have hA : st0[st.length]? = some (.box [V.str [], .lst 2 none ((⟨0, ca ++ [({ op := 15 } : Ins)]⟩ :: na).map encPr)]) := by rw [hst0, List.getElem?_append_right (Nat.le_refl _)]; simp
  have hB : st0[st.length + 1]? = some (.box [V.str [], .lst 2 none ((⟨0, cv⟩ :: nb).map encPr)]) := by rw [hst0, List.getElem?_append_right (by omega)]; simp
  have hC : st0[st.length + 3]? = some (.box [V.str [], .lst 2 none (X.map encPr)]) := by rw [hst0, List.getElem?_append_right (by omega)]; simp
  have hok0 : St.ok st0 := by
    rw [hst0]
    exact ok_app hst ⟨⟨trivial, lstPr_lt _ _, trivial⟩, ⟨trivial, lstPr_lt _ _, trivial⟩, trivial, ⟨trivial, lstPr_lt _ _, trivial⟩, trivial⟩
  have hsl : st0.length = st.length + 4 := by rw [hst0]; simp
  simp only [decide_true, decide_false, gwL, gwB, gwD, gwE, gwS, gwTT, gwZ, initG, Nat.reduceEqDiff, ↓reduceIte, Nat.reduceAdd, Nat.reduceLT, Nat.reduceLeDiff, List.map_cons, List.map_nil, builtS, builtinV, pureR, binV, sliceV, pickV, evO, Env.look, find, V.ofConst, resV, resOne, tupV, loadV, fillV, buildV, mkIface, litM, litS, litR, litRows, List.reverse_cons, List.reverse_nil, Nat.reduceMul, appS, memA, appendV, rowsOf, V.cells, TI.sized, TI.known, TI.agg, anL, List.length_cons, List.length_nil, List.append_nil, List.cons_append, List.nil_append, List.drop_succ_cons, List.drop_zero, List.drop_nil, List.take_succ_cons, List.take_zero, List.take_nil, List.getElem?_cons_zero, List.getElem?_cons_succ, List.all_cons, List.all_nil, List.replicate_succ, List.replicate_zero, List.set_cons_zero, List.set_cons_succ, eq_self, true_or, ne_eq, not_false_eq_true, Nat.reduceEqDiff]
  refine vdraw TT_ok TT_mixed [0, 1, 0, 0, 1, 0, 0, 0, 1, 0, 0, 0, 0] (by kernel_rfl) ?_
  have w1 : IntKind.i64.wrap (((ca.length + 1 : Nat) : Int) - 1) = ca.length := by rw [wrap_i64 (by omega) (by omega)]; omega
  have w2 : IntKind.i64.wrap (((na.length + 1 : Nat) : Int) - 1) = na.length := by rw [wrap_i64 (by omega) (by omega)]; omega
  simp only [decide_true, decide_false, gwL, gwB, gwD, gwE, gwS, gwTT, gwZ, initG, Nat.reduceEqDiff, ↓reduceIte, Nat.reduceAdd, Nat.reduceLT, Nat.reduceLeDiff, List.map_cons, List.map_nil, builtS, builtinV, pureR, binV, sliceV, pickV, evO, Env.look, find, V.ofConst, resV, resOne, tupV, loadV, fillV, buildV, mkIface, litM, litS, litR, litRows, List.reverse_cons, List.reverse_nil, Nat.reduceMul, appS, memA, appendV, rowsOf, V.cells, TI.sized, TI.known, TI.agg, anL, List.length_cons, List.length_nil, List.append_nil, List.cons_append, List.nil_append, List.drop_succ_cons, List.drop_zero, List.drop_nil, List.take_succ_cons, List.take_zero, List.take_nil, List.getElem?_cons_zero, List.getElem?_cons_succ, List.all_cons, List.all_nil, List.replicate_succ, List.replicate_zero, List.set_cons_zero, List.set_cons_succ, eq_self, true_or, ne_eq, not_false_eq_true, Nat.reduceEqDiff, hA, List.length_map, encPr, lstI, g0, List.length_append, w1, w2]
  have htk : List.take ca.length ((ca ++ [({ op := 15 } : Ins)]).map encI) = ca.map encI := by simp [List.map_append]
  have hBx : ∀ ex : St, (st0 ++ ex)[st.length + 1]? = some (.box [V.str [], .lst 2 none ((⟨0, cv⟩ :: nb).map encPr)]) := fun ex => by rw [st_old (List.getElem?_eq_some_iff.1 hB).1, hB]
  refine ⟨by omega, by omega, by omega, by simp; omega, ?_⟩
  simp only [decide_true, decide_false, gwL, gwB, gwD, gwE, gwS, gwTT, gwZ, initG, Nat.reduceEqDiff, ↓reduceIte, Nat.reduceAdd, Nat.reduceLT, Nat.reduceLeDiff, List.map_cons, List.map_nil, builtS, builtinV, pureR, binV, sliceV, pickV, evO, Env.look, find, V.ofConst, resV, resOne, tupV, loadV, fillV, buildV, mkIface, litM, litS, litR, litRows, List.reverse_cons, List.reverse_nil, Nat.reduceMul, appS, memA, appendV, rowsOf, V.cells, TI.sized, TI.known, TI.agg, anL, List.length_cons, List.length_nil, List.append_nil, List.cons_append, List.nil_append, List.drop_succ_cons, List.drop_zero, List.drop_nil, List.take_succ_cons, List.take_zero, List.take_nil, List.getElem?_cons_zero, List.getElem?_cons_succ, List.all_cons, List.all_nil, List.replicate_succ, List.replicate_zero, List.set_cons_zero, List.set_cons_succ, eq_self, true_or, ne_eq, not_false_eq_true, Nat.reduceEqDiff, htk, hBx, List.length_map, encPr, lstI, g0]
  refine ⟨by omega, ?_⟩
  refine vforD (σ := Nat) [5, 7, 9, 11, 12, 13, 80, 81, 82] (fun i => [(5, true, .ptr st.length 0), (7, true, .ptr (st.length + 1) 0), (9, true, .ptr (st.length + 3) 0), (11, true, .int .i64 ca.length), (12, true, .int .i64 na.length), (13, true, .lst 11 (some st0.length) ((ca ++ (cv.take i).map (joinIns ca.length na.length)).map encI)), (80, true, .lst 11 none (cv.map encI)), (81, true, .int .i64 cv.length), (82, true, .int .i64 i)]) (fun i => st0 ++ [.tip 46 (ca.length + i)]) (fun i => cv.length - i) (fun i => i ≤ cv.length) 0 rfl TT_ok (Nat.zero_le _) (by simp only [List.take_zero, List.map_nil, List.append_nil]; exact wkE_refl _) rfl ?_
  intro i hi
  have hcl : (ca.map encI).length = ca.length := List.length_map ..
  rcases at_or_end cv i hi with ⟨hie, hd⟩ | ⟨u, hlt, hget, hdr⟩
  · have hie2 : i = cv.length := hie
    subst hie2
    obtain ⟨W, hW⟩ : ∃ W : List Ins, W = ca ++ cv.map (joinIns ca.length na.length) := ⟨_, rfl⟩
    have hWl : W.length = ca.length + cv.length := by rw [hW]; simp
    rw [List.take_length, ← hW, ← hWl]
    rw [← hW] at hX
    have hsA : ∀ ex : St, (st0 ++ ex)[st.length]? = some (.box [V.str [], .lst 2 none ((⟨0, ca ++ [({ op := 15 } : Ins)]⟩ :: na).map encPr)]) := fun ex => by rw [st_old (List.getElem?_eq_some_iff.1 hA).1, hA]
    have hsC : ∀ ex : St, (st0 ++ ex)[st.length + 3]? = some (.box [V.str [], .lst 2 none (X.map encPr)]) := fun ex => by rw [st_old (List.getElem?_eq_some_iff.1 hC).1, hC]
    have hd1 : ∀ (x : List V) (l : List (List V)), List.drop (Int.toNat 1) (x :: l) = l := fun _ _ => rfl
    simp only [decide_true, decide_false, gwL, gwB, gwD, gwE, gwS, gwTT, gwZ, initG, Nat.reduceEqDiff, ↓reduceIte, Nat.reduceAdd, Nat.reduceLT, Nat.reduceLeDiff, List.map_cons, List.map_nil, builtS, builtinV, pureR, binV, sliceV, pickV, evO, Env.look, find, V.ofConst, resV, resOne, tupV, loadV, fillV, buildV, mkIface, litM, litS, litR, litRows, List.reverse_cons, List.reverse_nil, Nat.reduceMul, appS, memA, appendV, rowsOf, V.cells, TI.sized, TI.known, TI.agg, anL, List.length_cons, List.length_nil, List.append_nil, List.cons_append, List.nil_append, List.drop_succ_cons, List.drop_zero, List.drop_nil, List.take_succ_cons, List.take_zero, List.take_nil, List.getElem?_cons_zero, List.getElem?_cons_succ, List.all_cons, List.all_nil, List.replicate_succ, List.replicate_zero, List.set_cons_zero, List.set_cons_succ, eq_self, true_or, ne_eq, not_false_eq_true, Nat.reduceEqDiff, lt_no, hsA, hBx, List.length_map, List.length_append, hd1]
    refine ⟨by omega, by omega, by omega, ?_⟩
    refine vforD (σ := Nat) [9, 12, 16, 122, 123, 124] (fun i => [(9, true, .ptr (st.length + 3) 0), (12, true, .int .i64 na.length), (16, true, .lst 2 (some (st0.length + 1)) ((⟨0, W⟩ :: (na ++ (nb.take i).map (clP na.length))).map encPr)), (122, true, .lst 2 none (nb.map encPr)), (123, true, .int .i64 nb.length), (124, true, .int .i64 i)]) (fun i => st0 ++ [.tip 46 W.length, .tip 44 (1 + (na.length + i))]) (fun i => nb.length - i) (fun i => i ≤ nb.length) 0 rfl TT_ok (Nat.zero_le _) ?_ rfl ?_
    · simp only [decide_true, decide_false, gwL, gwB, gwD, gwE, gwS, gwTT, gwZ, initG, Nat.reduceEqDiff, ↓reduceIte, Nat.reduceAdd, Nat.reduceLT, Nat.reduceLeDiff, List.map_cons, List.map_nil, builtS, builtinV, pureR, binV, sliceV, pickV, evO, Env.look, find, V.ofConst, resV, resOne, tupV, loadV, fillV, buildV, mkIface, litM, litS, litR, litRows, List.reverse_cons, List.reverse_nil, Nat.reduceMul, appS, memA, appendV, rowsOf, V.cells, TI.sized, TI.known, TI.agg, anL, List.length_cons, List.length_nil, List.append_nil, List.cons_append, List.nil_append, List.drop_succ_cons, List.drop_zero, List.drop_nil, List.take_succ_cons, List.take_zero, List.take_nil, List.getElem?_cons_zero, List.getElem?_cons_succ, List.all_cons, List.all_nil, List.replicate_succ, List.replicate_zero, List.set_cons_zero, List.set_cons_succ, eq_self, true_or, ne_eq, not_false_eq_true, Nat.reduceEqDiff, Env.keep]
      exact wkE_cons (wk_refl _) (wkE_cons (wk_refl _) (wkE_cons (wk_lst_same (by simp only [wkRp]; exact ⟨_, _, rfl, wkL_cons (wk_refl _) (wkL_cons (wk_tok _ _ _) wkL_nil), wkR_refl _⟩)) (wkE_refl _)))
    intro i hi
    rcases at_or_end nb i hi with ⟨hie, hd⟩ | ⟨q, hlt, hget, hdr⟩
    · have hie3 : i = nb.length := hie
      subst hie3
      rw [List.take_length, hX]
      simp only [decide_true, decide_false, gwL, gwB, gwD, gwE, gwS, gwTT, gwZ, initG, Nat.reduceEqDiff, ↓reduceIte, Nat.reduceAdd, Nat.reduceLT, Nat.reduceLeDiff, List.map_cons, List.map_nil, builtS, builtinV, pureR, binV, sliceV, pickV, evO, Env.look, find, V.ofConst, resV, resOne, tupV, loadV, fillV, buildV, mkIface, litM, litS, litR, litRows, List.reverse_cons, List.reverse_nil, Nat.reduceMul, appS, memA, appendV, rowsOf, V.cells, TI.sized, TI.known, TI.agg, anL, List.length_cons, List.length_nil, List.append_nil, List.cons_append, List.nil_append, List.drop_succ_cons, List.drop_zero, List.drop_nil, List.take_succ_cons, List.take_zero, List.take_nil, List.getElem?_cons_zero, List.getElem?_cons_succ, List.all_cons, List.all_nil, List.replicate_succ, List.replicate_zero, List.set_cons_zero, List.set_cons_succ, eq_self, true_or, ne_eq, not_false_eq_true, Nat.reduceEqDiff, lt_no, hsC]
      refine (c_SameProtos X X _).use (wkL_cons (wk_refl _) (wkL_cons (wk_tok _ _ _) wkL_nil)) fun _ => ?_
      rw [samePs_self]
      simp only [decide_true, decide_false, gwL, gwB, gwD, gwE, gwS, gwTT, gwZ, initG, Nat.reduceEqDiff, ↓reduceIte, Nat.reduceAdd, Nat.reduceLT, Nat.reduceLeDiff, List.map_cons, List.map_nil, builtS, builtinV, pureR, binV, sliceV, pickV, evO, Env.look, find, V.ofConst, resV, resOne, tupV, loadV, fillV, buildV, mkIface, litM, litS, litR, litRows, List.reverse_cons, List.reverse_nil, Nat.reduceMul, appS, memA, appendV, rowsOf, V.cells, TI.sized, TI.known, TI.agg, anL, List.length_cons, List.length_nil, List.append_nil, List.cons_append, List.nil_append, List.drop_succ_cons, List.drop_zero, List.drop_nil, List.take_succ_cons, List.take_zero, List.take_nil, List.getElem?_cons_zero, List.getElem?_cons_succ, List.all_cons, List.all_nil, List.replicate_succ, List.replicate_zero, List.set_cons_zero, List.set_cons_succ, eq_self, true_or, ne_eq, not_false_eq_true, Nat.reduceEqDiff]
      rw [hst0]
      simp only [List.append_assoc]
      exact gives_bool' rfl hst
    · have w3 : IntKind.i64.wrap ((i : Int) + 1) = ((i + 1 : Nat) : Int) := next_i64 hlt (by omega)
      obtain ⟨qa, qc⟩ := q
      have hqc : qc.length ≤ 6000 := hqb ⟨qa, qc⟩ (List.mem_cons_of_mem _ (List.mem_of_getElem? hget))
      obtain ⟨R, hR⟩ : ∃ R : List (List V), R = (⟨0, W⟩ :: (na ++ (nb.take i).map (clP na.length))).map encPr := ⟨_, rfl⟩
      have hRl : R.length = 1 + na.length + i := by rw [hR]; simp; omega
      have hRlt : ∀ n, ltRows n R := fun n => by rw [hR]; exact ltRows_map fun x _ => ⟨trivial, lstI_lt _ _, trivial⟩
      rw [← hR]
      simp only [decide_true, decide_false, gwL, gwB, gwD, gwE, gwS, gwTT, gwZ, initG, Nat.reduceEqDiff, ↓reduceIte, Nat.reduceAdd, Nat.reduceLT, Nat.reduceLeDiff, List.map_cons, List.map_nil, builtS, builtinV, pureR, binV, sliceV, pickV, evO, Env.look, find, V.ofConst, resV, resOne, tupV, loadV, fillV, buildV, mkIface, litM, litS, litR, litRows, List.reverse_cons, List.reverse_nil, Nat.reduceMul, appS, memA, appendV, rowsOf, V.cells, TI.sized, TI.known, TI.agg, anL, List.length_cons, List.length_nil, List.append_nil, List.cons_append, List.nil_append, List.drop_succ_cons, List.drop_zero, List.drop_nil, List.take_succ_cons, List.take_zero, List.take_nil, List.getElem?_cons_zero, List.getElem?_cons_succ, List.all_cons, List.all_nil, List.replicate_succ, List.replicate_zero, List.set_cons_zero, List.set_cons_succ, eq_self, true_or, ne_eq, not_false_eq_true, Nat.reduceEqDiff, lt_yes hlt, Int.ofNat_lt.mpr hlt, getD_map hget, List.length_map, w3, encPr, lstI]
      refine vforT (σ := Nat) [46] [9, 12, 16, 19, 122, 123, 124, 132, 133, 134] (fun j => [(9, true, .ptr (st.length + 3) 0), (12, true, .int .i64 na.length), (16, true, .lst 2 (some (st0.length + 1)) R), (19, true, .ptr (st0.length + 3) 0), (122, true, .lst 2 none (nb.map encPr)), (123, true, .int .i64 nb.length), (124, true, .int .i64 i), (132, true, .lst 11 none (qc.map encI)), (133, true, .int .i64 qc.length), (134, true, .int .i64 j)]) (fun j => st0 ++ [.tip 46 W.length, .tip 44 (1 + (na.length + i)), .box [.int .i64 qa, .lst 11 none (qc.map encI)], .box [.int .i64 qa, .lst 11 (some (st0.length + 4)) (((qc.take j).map (clI na.length)).map encI)], .tip 46 j]) (fun j => qc.length - j) (fun j => j ≤ qc.length) 0 rfl TT_ok (Nat.zero_le _) ?_ ?_ ?_
      · simp only [decide_true, decide_false, gwL, gwB, gwD, gwE, gwS, gwTT, gwZ, initG, Nat.reduceEqDiff, ↓reduceIte, Nat.reduceAdd, Nat.reduceLT, Nat.reduceLeDiff, List.map_cons, List.map_nil, builtS, builtinV, pureR, binV, sliceV, pickV, evO, Env.look, find, V.ofConst, resV, resOne, tupV, loadV, fillV, buildV, mkIface, litM, litS, litR, litRows, List.reverse_cons, List.reverse_nil, Nat.reduceMul, appS, memA, appendV, rowsOf, V.cells, TI.sized, TI.known, TI.agg, anL, List.length_cons, List.length_nil, List.append_nil, List.cons_append, List.nil_append, List.drop_succ_cons, List.drop_zero, List.drop_nil, List.take_succ_cons, List.take_zero, List.take_nil, List.getElem?_cons_zero, List.getElem?_cons_succ, List.all_cons, List.all_nil, List.replicate_succ, List.replicate_zero, List.set_cons_zero, List.set_cons_succ, eq_self, true_or, ne_eq, not_false_eq_true, Nat.reduceEqDiff, Env.keep]
        exact wkE_refl _
      · refine ⟨st0 ++ [.tip 46 W.length, .tip 44 (1 + (na.length + i)), .box [.int .i64 qa, .lst 11 none (qc.map encI)], .box [.int .i64 qa, .lst 11 (some (st0.length + 4)) []]], (wkSt_refl _).append (wkSt_cons (Ent.wkp_refl _) (wkSt_cons (Ent.wkp_refl _) (wkSt_cons (Ent.wkp_refl _) (wkSt_cons (Ent.wk_box (wkL_cons (wk_refl _) (wkL_cons (wk_tip _ (by simp [Tips])) wkL_nil))) wkSt_nil)))), by simp [tips]⟩
      intro j hj
      rcases at_or_end qc j hj with ⟨hje, hdj⟩ | ⟨u, hlj, hgj, hdj⟩
      · have hje2 : j = qc.length := hje
        subst hje2
        rw [List.take_length]
        simp only [decide_true, decide_false, gwL, gwB, gwD, gwE, gwS, gwTT, gwZ, initG, Nat.reduceEqDiff, ↓reduceIte, Nat.reduceAdd, Nat.reduceLT, Nat.reduceLeDiff, List.map_cons, List.map_nil, builtS, builtinV, pureR, binV, sliceV, pickV, evO, Env.look, find, V.ofConst, resV, resOne, tupV, loadV, fillV, buildV, mkIface, litM, litS, litR, litRows, List.reverse_cons, List.reverse_nil, Nat.reduceMul, appS, memA, appendV, rowsOf, V.cells, TI.sized, TI.known, TI.agg, anL, List.length_cons, List.length_nil, List.append_nil, List.cons_append, List.nil_append, List.drop_succ_cons, List.drop_zero, List.drop_nil, List.take_succ_cons, List.take_zero, List.take_nil, List.getElem?_cons_zero, List.getElem?_cons_succ, List.all_cons, List.all_nil, List.replicate_succ, List.replicate_zero, List.set_cons_zero, List.set_cons_succ, eq_self, true_or, ne_eq, not_false_eq_true, Nat.reduceEqDiff, lt_no, List.length_map, hRl]
        refine ⟨by omega, i + 1, ⟨?_, st0 ++ [.tip 46 W.length, .tip 44 (1 + (na.length + (i + 1)))], [.box [.int .i64 qa, .lst 11 none (qc.map encI)], .box [.int .i64 qa, .lst 11 (some (st0.length + 4)) ((qc.map (clI na.length)).map encI)], .tip 46 qc.length], ?_, wkSt_refl _, ?_, ok_app hok0 ⟨trivial, trivial, trivial⟩, by simp⟩, by omega, hlt⟩
        · simp only [decide_true, decide_false, gwL, gwB, gwD, gwE, gwS, gwTT, gwZ, initG, Nat.reduceEqDiff, ↓reduceIte, Nat.reduceAdd, Nat.reduceLT, Nat.reduceLeDiff, List.map_cons, List.map_nil, builtS, builtinV, pureR, binV, sliceV, pickV, evO, Env.look, find, V.ofConst, resV, resOne, tupV, loadV, fillV, buildV, mkIface, litM, litS, litR, litRows, List.reverse_cons, List.reverse_nil, Nat.reduceMul, appS, memA, appendV, rowsOf, V.cells, TI.sized, TI.known, TI.agg, anL, List.length_cons, List.length_nil, List.append_nil, List.cons_append, List.nil_append, List.drop_succ_cons, List.drop_zero, List.drop_nil, List.take_succ_cons, List.take_zero, List.take_nil, List.getElem?_cons_zero, List.getElem?_cons_succ, List.all_cons, List.all_nil, List.replicate_succ, List.replicate_zero, List.set_cons_zero, List.set_cons_succ, eq_self, true_or, ne_eq, not_false_eq_true, Nat.reduceEqDiff, Env.keep, w3]
          rw [show [V.int .i64 0, V.lst 11 none (W.map encI)] :: List.map encPr (na ++ (nb.take (i + 1)).map (clP na.length)) = R ++ [encPr (clP na.length ⟨qa, qc⟩)] from by rw [hR, take_next hget]; simp [encPr, lstI]]
          exact wkE_cons (wk_refl _) (wkE_cons (wk_refl _) (wkE_cons (wk_lst_same (wkR_app (wkR_refl _) (by simp only [wkRp]; exact ⟨_, _, rfl, wkL_cons (wk_refl _) (wkL_cons (wk_tok _ _ _) wkL_nil), rfl⟩))) (wkE_refl _)))
        · simp only [gwL]
        · simp only [ltE, V.lt, gwL]
          exact ⟨by omega, trivial, ⟨fun e he => by cases he; omega, ⟨trivial, lstI_lt _ _, trivial⟩, ltRows_map fun x _ => ⟨trivial, lstI_lt _ _, trivial⟩⟩, lstPr_lt _ _, trivial, trivial, trivial⟩
      · have w4 : IntKind.i64.wrap ((j : Int) + 1) = ((j + 1 : Nat) : Int) := next_i64 hlj (by omega)
        obtain ⟨op, ia, im, ilb, iow, iq⟩ := u
        simp only [decide_true, decide_false, gwL, gwB, gwD, gwE, gwS, gwTT, gwZ, initG, Nat.reduceEqDiff, ↓reduceIte, Nat.reduceAdd, Nat.reduceLT, Nat.reduceLeDiff, List.map_cons, List.map_nil, builtS, builtinV, pureR, binV, sliceV, pickV, evO, Env.look, find, V.ofConst, resV, resOne, tupV, loadV, fillV, buildV, mkIface, litM, litS, litR, litRows, List.reverse_cons, List.reverse_nil, Nat.reduceMul, appS, memA, appendV, rowsOf, V.cells, TI.sized, TI.known, TI.agg, anL, List.length_cons, List.length_nil, List.append_nil, List.cons_append, List.nil_append, List.drop_succ_cons, List.drop_zero, List.drop_nil, List.take_succ_cons, List.take_zero, List.take_nil, List.getElem?_cons_zero, List.getElem?_cons_succ, List.all_cons, List.all_nil, List.replicate_succ, List.replicate_zero, List.set_cons_zero, List.set_cons_succ, eq_self, true_or, ne_eq, not_false_eq_true, Nat.reduceEqDiff, lt_yes hlj, Int.ofNat_lt.mpr hlj, getD_map hgj, List.length_map, w4, encI_mk, encD_take, encD_len, encD_drop, Nat.le_refl]
        refine iK_split (fun h7 => ?_) (fun h7 => ?_)
        · simp only [decide_true, decide_false, gwL, gwB, gwD, gwE, gwS, gwTT, gwZ, initG, Nat.reduceEqDiff, ↓reduceIte, Nat.reduceAdd, Nat.reduceLT, Nat.reduceLeDiff, List.map_cons, List.map_nil, builtS, builtinV, pureR, binV, sliceV, pickV, evO, Env.look, find, V.ofConst, resV, resOne, tupV, loadV, fillV, buildV, mkIface, litM, litS, litR, litRows, List.reverse_cons, List.reverse_nil, Nat.reduceMul, appS, memA, appendV, rowsOf, V.cells, TI.sized, TI.known, TI.agg, anL, List.length_cons, List.length_nil, List.append_nil, List.cons_append, List.nil_append, List.drop_succ_cons, List.drop_zero, List.drop_nil, List.take_succ_cons, List.take_zero, List.take_nil, List.getElem?_cons_zero, List.getElem?_cons_succ, List.all_cons, List.all_nil, List.replicate_succ, List.replicate_zero, List.set_cons_zero, List.set_cons_succ, eq_self, true_or, ne_eq, not_false_eq_true, Nat.reduceEqDiff, encD_take, encD_len, encD_drop, List.length_map, List.length_append, List.length_take, Nat.min_eq_left hj, Nat.le_refl]
          refine ⟨by omega, j + 1, ⟨?_, st0 ++ [.tip 46 W.length, .tip 44 (1 + (na.length + i)), .box [.int .i64 qa, .lst 11 none (qc.map encI)], .box [.int .i64 qa, .lst 11 (some (st0.length + 4)) (((qc.take (j + 1)).map (clI na.length)).map encI)], .tip 46 (j + 1)], [.box (.int .i64 op :: .int .i64 (IntKind.i64.wrap (ia + na.length)) :: .int .i64 im :: .str ilb :: .str iow :: encD iq)], ?_, wkSt_refl _, ?_, ok_app hok0 ⟨trivial, trivial, ⟨trivial, lstI_lt _ _, trivial⟩, ⟨trivial, ⟨fun e he => by cases he; simp, ltRows_map fun x _ => encI_lt _ _⟩, trivial⟩, trivial, trivial⟩, by simp⟩, by omega, hlj⟩
          · simp only [decide_true, decide_false, gwL, gwB, gwD, gwE, gwS, gwTT, gwZ, initG, Nat.reduceEqDiff, ↓reduceIte, Nat.reduceAdd, Nat.reduceLT, Nat.reduceLeDiff, List.map_cons, List.map_nil, builtS, builtinV, pureR, binV, sliceV, pickV, evO, Env.look, find, V.ofConst, resV, resOne, tupV, loadV, fillV, buildV, mkIface, litM, litS, litR, litRows, List.reverse_cons, List.reverse_nil, Nat.reduceMul, appS, memA, appendV, rowsOf, V.cells, TI.sized, TI.known, TI.agg, anL, List.length_cons, List.length_nil, List.append_nil, List.cons_append, List.nil_append, List.drop_succ_cons, List.drop_zero, List.drop_nil, List.take_succ_cons, List.take_zero, List.take_nil, List.getElem?_cons_zero, List.getElem?_cons_succ, List.all_cons, List.all_nil, List.replicate_succ, List.replicate_zero, List.set_cons_zero, List.set_cons_succ, eq_self, true_or, ne_eq, not_false_eq_true, Nat.reduceEqDiff, Env.keep, w4]
            exact wkE_refl _
          · rw [take_next hgj]
            have e : encI (clI na.length { op := op, a := ia, n := im, lib := ilb, own := iow, quote := iq }) = .int .i64 op :: .int .i64 (IntKind.i64.wrap (ia + na.length)) :: .int .i64 im :: .str ilb :: .str iow :: encD iq := by
              simp only [clI, h7, cond_true, cond_false, encI_mk]
            simp only [List.map_append, List.map_cons, List.map_nil, e, List.append_assoc, List.cons_append, List.nil_append]
          · simp only [ltE, V.lt, gwL]
            refine ⟨by omega, trivial, ⟨fun e he => by cases he; omega, hRlt _⟩, by omega, lstPr_lt _ _, trivial, trivial, lstI_lt _ _, trivial, trivial, trivial⟩
        · simp only [decide_true, decide_false, gwL, gwB, gwD, gwE, gwS, gwTT, gwZ, initG, Nat.reduceEqDiff, ↓reduceIte, Nat.reduceAdd, Nat.reduceLT, Nat.reduceLeDiff, List.map_cons, List.map_nil, builtS, builtinV, pureR, binV, sliceV, pickV, evO, Env.look, find, V.ofConst, resV, resOne, tupV, loadV, fillV, buildV, mkIface, litM, litS, litR, litRows, List.reverse_cons, List.reverse_nil, Nat.reduceMul, appS, memA, appendV, rowsOf, V.cells, TI.sized, TI.known, TI.agg, anL, List.length_cons, List.length_nil, List.append_nil, List.cons_append, List.nil_append, List.drop_succ_cons, List.drop_zero, List.drop_nil, List.take_succ_cons, List.take_zero, List.take_nil, List.getElem?_cons_zero, List.getElem?_cons_succ, List.all_cons, List.all_nil, List.replicate_succ, List.replicate_zero, List.set_cons_zero, List.set_cons_succ, eq_self, true_or, ne_eq, not_false_eq_true, Nat.reduceEqDiff, encD_take, encD_len, encD_drop, List.length_map, List.length_append, List.length_take, Nat.min_eq_left hj, Nat.le_refl]
          refine ⟨by omega, j + 1, ⟨?_, st0 ++ [.tip 46 W.length, .tip 44 (1 + (na.length + i)), .box [.int .i64 qa, .lst 11 none (qc.map encI)], .box [.int .i64 qa, .lst 11 (some (st0.length + 4)) (((qc.take (j + 1)).map (clI na.length)).map encI)], .tip 46 (j + 1)], [.box (.int .i64 op :: .int .i64 (ia) :: .int .i64 im :: .str ilb :: .str iow :: encD iq)], ?_, wkSt_refl _, ?_, ok_app hok0 ⟨trivial, trivial, ⟨trivial, lstI_lt _ _, trivial⟩, ⟨trivial, ⟨fun e he => by cases he; simp, ltRows_map fun x _ => encI_lt _ _⟩, trivial⟩, trivial, trivial⟩, by simp⟩, by omega, hlj⟩
          · simp only [decide_true, decide_false, gwL, gwB, gwD, gwE, gwS, gwTT, gwZ, initG, Nat.reduceEqDiff, ↓reduceIte, Nat.reduceAdd, Nat.reduceLT, Nat.reduceLeDiff, List.map_cons, List.map_nil, builtS, builtinV, pureR, binV, sliceV, pickV, evO, Env.look, find, V.ofConst, resV, resOne, tupV, loadV, fillV, buildV, mkIface, litM, litS, litR, litRows, List.reverse_cons, List.reverse_nil, Nat.reduceMul, appS, memA, appendV, rowsOf, V.cells, TI.sized, TI.known, TI.agg, anL, List.length_cons, List.length_nil, List.append_nil, List.cons_append, List.nil_append, List.drop_succ_cons, List.drop_zero, List.drop_nil, List.take_succ_cons, List.take_zero, List.take_nil, List.getElem?_cons_zero, List.getElem?_cons_succ, List.all_cons, List.all_nil, List.replicate_succ, List.replicate_zero, List.set_cons_zero, List.set_cons_succ, eq_self, true_or, ne_eq, not_false_eq_true, Nat.reduceEqDiff, Env.keep, w4]
            exact wkE_refl _
          · rw [take_next hgj]
            have e : encI (clI na.length { op := op, a := ia, n := im, lib := ilb, own := iow, quote := iq }) = .int .i64 op :: .int .i64 (ia) :: .int .i64 im :: .str ilb :: .str iow :: encD iq := by
              simp only [clI, h7, cond_true, cond_false, encI_mk]
            simp only [List.map_append, List.map_cons, List.map_nil, e, List.append_assoc, List.cons_append, List.nil_append]
          · simp only [ltE, V.lt, gwL]
            refine ⟨by omega, trivial, ⟨fun e he => by cases he; omega, hRlt _⟩, by omega, lstPr_lt _ _, trivial, trivial, lstI_lt _ _, trivial, trivial, trivial⟩
  · have w3 : IntKind.i64.wrap ((i : Int) + 1) = ((i + 1 : Nat) : Int) := next_i64 hlt (by omega)
    obtain ⟨op, ia, im, ilb, iow, iq⟩ := u
    simp only [decide_true, decide_false, gwL, gwB, gwD, gwE, gwS, gwTT, gwZ, initG, Nat.reduceEqDiff, ↓reduceIte, Nat.reduceAdd, Nat.reduceLT, Nat.reduceLeDiff, List.map_cons, List.map_nil, builtS, builtinV, pureR, binV, sliceV, pickV, evO, Env.look, find, V.ofConst, resV, resOne, tupV, loadV, fillV, buildV, mkIface, litM, litS, litR, litRows, List.reverse_cons, List.reverse_nil, Nat.reduceMul, appS, memA, appendV, rowsOf, V.cells, TI.sized, TI.known, TI.agg, anL, List.length_cons, List.length_nil, List.append_nil, List.cons_append, List.nil_append, List.drop_succ_cons, List.drop_zero, List.drop_nil, List.take_succ_cons, List.take_zero, List.take_nil, List.getElem?_cons_zero, List.getElem?_cons_succ, List.all_cons, List.all_nil, List.replicate_succ, List.replicate_zero, List.set_cons_zero, List.set_cons_succ, eq_self, true_or, ne_eq, not_false_eq_true, Nat.reduceEqDiff, lt_yes hlt, Int.ofNat_lt.mpr hlt, getD_map hget, List.length_map, w3, encI_mk, encD_take, encD_len, encD_drop, Nat.le_refl]
    refine iK_split (fun hb => ?_) (fun hb => ?_)
    · simp only [decide_true, decide_false, gwL, gwB, gwD, gwE, gwS, gwTT, gwZ, initG, Nat.reduceEqDiff, ↓reduceIte, Nat.reduceAdd, Nat.reduceLT, Nat.reduceLeDiff, List.map_cons, List.map_nil, builtS, builtinV, pureR, binV, sliceV, pickV, evO, Env.look, find, V.ofConst, resV, resOne, tupV, loadV, fillV, buildV, mkIface, litM, litS, litR, litRows, List.reverse_cons, List.reverse_nil, Nat.reduceMul, appS, memA, appendV, rowsOf, V.cells, TI.sized, TI.known, TI.agg, anL, List.length_cons, List.length_nil, List.append_nil, List.cons_append, List.nil_append, List.drop_succ_cons, List.drop_zero, List.drop_nil, List.take_succ_cons, List.take_zero, List.take_nil, List.getElem?_cons_zero, List.getElem?_cons_succ, List.all_cons, List.all_nil, List.replicate_succ, List.replicate_zero, List.set_cons_zero, List.set_cons_succ, eq_self, true_or, ne_eq, not_false_eq_true, Nat.reduceEqDiff, encD_take, encD_len, encD_drop, List.length_map, List.length_append, List.length_take, Nat.min_eq_left hi, Nat.le_refl]
      refine iK_split (fun h7 => ?_) (fun h7 => ?_)
      · simp at h7 hb; omega
      simp only [decide_true, decide_false, gwL, gwB, gwD, gwE, gwS, gwTT, gwZ, initG, Nat.reduceEqDiff, ↓reduceIte, Nat.reduceAdd, Nat.reduceLT, Nat.reduceLeDiff, List.map_cons, List.map_nil, builtS, builtinV, pureR, binV, sliceV, pickV, evO, Env.look, find, V.ofConst, resV, resOne, tupV, loadV, fillV, buildV, mkIface, litM, litS, litR, litRows, List.reverse_cons, List.reverse_nil, Nat.reduceMul, appS, memA, appendV, rowsOf, V.cells, TI.sized, TI.known, TI.agg, anL, List.length_cons, List.length_nil, List.append_nil, List.cons_append, List.nil_append, List.drop_succ_cons, List.drop_zero, List.drop_nil, List.take_succ_cons, List.take_zero, List.take_nil, List.getElem?_cons_zero, List.getElem?_cons_succ, List.all_cons, List.all_nil, List.replicate_succ, List.replicate_zero, List.set_cons_zero, List.set_cons_succ, eq_self, true_or, ne_eq, not_false_eq_true, Nat.reduceEqDiff, encD_take, encD_len, encD_drop, List.length_map, List.length_append, List.length_take, Nat.min_eq_left hi, Nat.le_refl]
      refine ⟨by omega, i + 1, ⟨?_, st0 ++ [.tip 46 (ca.length + (i + 1))], [.box (.int .i64 op :: .int .i64 (IntKind.i64.wrap (ia + ca.length)) :: .int .i64 im :: .str ilb :: .str iow :: encD iq)], ?_, wkSt_refl _, ?_, ok_app hok0 (by simp [ltEs, Ent.lt]), by simp⟩, by omega, hlt⟩
      · simp only [decide_true, decide_false, gwL, gwB, gwD, gwE, gwS, gwTT, gwZ, initG, Nat.reduceEqDiff, ↓reduceIte, Nat.reduceAdd, Nat.reduceLT, Nat.reduceLeDiff, List.map_cons, List.map_nil, builtS, builtinV, pureR, binV, sliceV, pickV, evO, Env.look, find, V.ofConst, resV, resOne, tupV, loadV, fillV, buildV, mkIface, litM, litS, litR, litRows, List.reverse_cons, List.reverse_nil, Nat.reduceMul, appS, memA, appendV, rowsOf, V.cells, TI.sized, TI.known, TI.agg, anL, List.length_cons, List.length_nil, List.append_nil, List.cons_append, List.nil_append, List.drop_succ_cons, List.drop_zero, List.drop_nil, List.take_succ_cons, List.take_zero, List.take_nil, List.getElem?_cons_zero, List.getElem?_cons_succ, List.all_cons, List.all_nil, List.replicate_succ, List.replicate_zero, List.set_cons_zero, List.set_cons_succ, eq_self, true_or, ne_eq, not_false_eq_true, Nat.reduceEqDiff, Env.keep, w3]
        rw [take_next hget]
        have e : encI (joinIns ca.length na.length { op := op, a := ia, n := im, lib := ilb, own := iow, quote := iq }) = .int .i64 op :: .int .i64 (IntKind.i64.wrap (ia + ca.length)) :: .int .i64 im :: .str ilb :: .str iow :: encD iq := by
          simp only [joinIns, clI, mvI, hb, h7, cond_true, cond_false, encI_mk]
        simp only [List.map_append, List.map_cons, List.map_nil, e, List.append_assoc]
        exact wkE_refl _
      · simp only [gwL]
      · simp only [ltE, V.lt, gwL]
        refine ⟨by omega, by omega, by omega, trivial, trivial, ⟨fun e he => by cases he; omega, ltRows_map fun x _ => encI_lt _ _⟩, lstI_lt _ _, trivial, trivial, trivial⟩
    · simp only [decide_true, decide_false, gwL, gwB, gwD, gwE, gwS, gwTT, gwZ, initG, Nat.reduceEqDiff, ↓reduceIte, Nat.reduceAdd, Nat.reduceLT, Nat.reduceLeDiff, List.map_cons, List.map_nil, builtS, builtinV, pureR, binV, sliceV, pickV, evO, Env.look, find, V.ofConst, resV, resOne, tupV, loadV, fillV, buildV, mkIface, litM, litS, litR, litRows, List.reverse_cons, List.reverse_nil, Nat.reduceMul, appS, memA, appendV, rowsOf, V.cells, TI.sized, TI.known, TI.agg, anL, List.length_cons, List.length_nil, List.append_nil, List.cons_append, List.nil_append, List.drop_succ_cons, List.drop_zero, List.drop_nil, List.take_succ_cons, List.take_zero, List.take_nil, List.getElem?_cons_zero, List.getElem?_cons_succ, List.all_cons, List.all_nil, List.replicate_succ, List.replicate_zero, List.set_cons_zero, List.set_cons_succ, eq_self, true_or, ne_eq, not_false_eq_true, Nat.reduceEqDiff, encD_take, encD_len, encD_drop, List.length_map, List.length_append, List.length_take, Nat.min_eq_left hi, Nat.le_refl]
      refine iK_split (fun h7 => ?_) (fun h7 => ?_)
      · simp only [decide_true, decide_false, gwL, gwB, gwD, gwE, gwS, gwTT, gwZ, initG, Nat.reduceEqDiff, ↓reduceIte, Nat.reduceAdd, Nat.reduceLT, Nat.reduceLeDiff, List.map_cons, List.map_nil, builtS, builtinV, pureR, binV, sliceV, pickV, evO, Env.look, find, V.ofConst, resV, resOne, tupV, loadV, fillV, buildV, mkIface, litM, litS, litR, litRows, List.reverse_cons, List.reverse_nil, Nat.reduceMul, appS, memA, appendV, rowsOf, V.cells, TI.sized, TI.known, TI.agg, anL, List.length_cons, List.length_nil, List.append_nil, List.cons_append, List.nil_append, List.drop_succ_cons, List.drop_zero, List.drop_nil, List.take_succ_cons, List.take_zero, List.take_nil, List.getElem?_cons_zero, List.getElem?_cons_succ, List.all_cons, List.all_nil, List.replicate_succ, List.replicate_zero, List.set_cons_zero, List.set_cons_succ, eq_self, true_or, ne_eq, not_false_eq_true, Nat.reduceEqDiff, encD_take, encD_len, encD_drop, List.length_map, List.length_append, List.length_take, Nat.min_eq_left hi, Nat.le_refl]
        refine ⟨by omega, i + 1, ⟨?_, st0 ++ [.tip 46 (ca.length + (i + 1))], [.box (.int .i64 op :: .int .i64 (IntKind.i64.wrap (ia + na.length)) :: .int .i64 im :: .str ilb :: .str iow :: encD iq)], ?_, wkSt_refl _, ?_, ok_app hok0 (by simp [ltEs, Ent.lt]), by simp⟩, by omega, hlt⟩
        · simp only [decide_true, decide_false, gwL, gwB, gwD, gwE, gwS, gwTT, gwZ, initG, Nat.reduceEqDiff, ↓reduceIte, Nat.reduceAdd, Nat.reduceLT, Nat.reduceLeDiff, List.map_cons, List.map_nil, builtS, builtinV, pureR, binV, sliceV, pickV, evO, Env.look, find, V.ofConst, resV, resOne, tupV, loadV, fillV, buildV, mkIface, litM, litS, litR, litRows, List.reverse_cons, List.reverse_nil, Nat.reduceMul, appS, memA, appendV, rowsOf, V.cells, TI.sized, TI.known, TI.agg, anL, List.length_cons, List.length_nil, List.append_nil, List.cons_append, List.nil_append, List.drop_succ_cons, List.drop_zero, List.drop_nil, List.take_succ_cons, List.take_zero, List.take_nil, List.getElem?_cons_zero, List.getElem?_cons_succ, List.all_cons, List.all_nil, List.replicate_succ, List.replicate_zero, List.set_cons_zero, List.set_cons_succ, eq_self, true_or, ne_eq, not_false_eq_true, Nat.reduceEqDiff, Env.keep, w3]
          rw [take_next hget]
          have e : encI (joinIns ca.length na.length { op := op, a := ia, n := im, lib := ilb, own := iow, quote := iq }) = .int .i64 op :: .int .i64 (IntKind.i64.wrap (ia + na.length)) :: .int .i64 im :: .str ilb :: .str iow :: encD iq := by
            simp only [joinIns, clI, mvI, hb, h7, cond_true, cond_false, encI_mk]
          simp only [List.map_append, List.map_cons, List.map_nil, e, List.append_assoc]
          exact wkE_refl _
        · simp only [gwL]
        · simp only [ltE, V.lt, gwL]
          refine ⟨by omega, by omega, by omega, trivial, trivial, ⟨fun e he => by cases he; omega, ltRows_map fun x _ => encI_lt _ _⟩, lstI_lt _ _, trivial, trivial, trivial⟩
      · simp only [decide_true, decide_false, gwL, gwB, gwD, gwE, gwS, gwTT, gwZ, initG, Nat.reduceEqDiff, ↓reduceIte, Nat.reduceAdd, Nat.reduceLT, Nat.reduceLeDiff, List.map_cons, List.map_nil, builtS, builtinV, pureR, binV, sliceV, pickV, evO, Env.look, find, V.ofConst, resV, resOne, tupV, loadV, fillV, buildV, mkIface, litM, litS, litR, litRows, List.reverse_cons, List.reverse_nil, Nat.reduceMul, appS, memA, appendV, rowsOf, V.cells, TI.sized, TI.known, TI.agg, anL, List.length_cons, List.length_nil, List.append_nil, List.cons_append, List.nil_append, List.drop_succ_cons, List.drop_zero, List.drop_nil, List.take_succ_cons, List.take_zero, List.take_nil, List.getElem?_cons_zero, List.getElem?_cons_succ, List.all_cons, List.all_nil, List.replicate_succ, List.replicate_zero, List.set_cons_zero, List.set_cons_succ, eq_self, true_or, ne_eq, not_false_eq_true, Nat.reduceEqDiff, encD_take, encD_len, encD_drop, List.length_map, List.length_append, List.length_take, Nat.min_eq_left hi, Nat.le_refl]
        refine ⟨by omega, i + 1, ⟨?_, st0 ++ [.tip 46 (ca.length + (i + 1))], [.box (.int .i64 op :: .int .i64 (ia) :: .int .i64 im :: .str ilb :: .str iow :: encD iq)], ?_, wkSt_refl _, ?_, ok_app hok0 (by simp [ltEs, Ent.lt]), by simp⟩, by omega, hlt⟩
        · simp only [decide_true, decide_false, gwL, gwB, gwD, gwE, gwS, gwTT, gwZ, initG, Nat.reduceEqDiff, ↓reduceIte, Nat.reduceAdd, Nat.reduceLT, Nat.reduceLeDiff, List.map_cons, List.map_nil, builtS, builtinV, pureR, binV, sliceV, pickV, evO, Env.look, find, V.ofConst, resV, resOne, tupV, loadV, fillV, buildV, mkIface, litM, litS, litR, litRows, List.reverse_cons, List.reverse_nil, Nat.reduceMul, appS, memA, appendV, rowsOf, V.cells, TI.sized, TI.known, TI.agg, anL, List.length_cons, List.length_nil, List.append_nil, List.cons_append, List.nil_append, List.drop_succ_cons, List.drop_zero, List.drop_nil, List.take_succ_cons, List.take_zero, List.take_nil, List.getElem?_cons_zero, List.getElem?_cons_succ, List.all_cons, List.all_nil, List.replicate_succ, List.replicate_zero, List.set_cons_zero, List.set_cons_succ, eq_self, true_or, ne_eq, not_false_eq_true, Nat.reduceEqDiff, Env.keep, w3]
          rw [take_next hget]
          have e : encI (joinIns ca.length na.length { op := op, a := ia, n := im, lib := ilb, own := iow, quote := iq }) = .int .i64 op :: .int .i64 (ia) :: .int .i64 im :: .str ilb :: .str iow :: encD iq := by
            simp only [joinIns, clI, mvI, hb, h7, cond_true, cond_false, encI_mk]
          simp only [List.map_append, List.map_cons, List.map_nil, e, List.append_assoc]
          exact wkE_refl _
        · simp only [gwL]
        · simp only [ltE, V.lt, gwL]
          refine ⟨by omega, by omega, by omega, trivial, trivial, ⟨fun e he => by cases he; omega, ltRows_map fun x _ => encI_lt _ _⟩, lstI_lt _ _, trivial, trivial, trivial⟩
end Go.Proofs.Ytpfdoffnpkokhaa.Gx
