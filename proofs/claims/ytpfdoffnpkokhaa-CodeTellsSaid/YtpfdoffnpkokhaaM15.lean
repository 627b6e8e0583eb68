/- The compiler's code is the document's: in plain terms. The compiler's procedures are the document's. The compiler's unit is the document's. The law CodeTells answers true. -/
import Derived.Test.YtpfdoffnpkokhaaM14

namespace Go.Proofs.Ytpfdoffnpkokhaa.Gx
open Go Go.Proofs.Ytpfdoffnpkokhaa.Gw
set_option linter.unusedSimpArgs false

-- bare data
mutual
theorem bare_same : ∀ d : Datum, goodD d → bareD d = bareR d
  | .mk k n nm s l kids, h => by
    rw [goodD] at h
    rw [bareD_mk, bareR_mk]
    obtain ⟨h1, h2, h3⟩ := h
    rcases h1 with rfl | rfl | rfl | rfl
    · simp
    · simp
    · obtain ⟨rfl, rfl⟩ := h3 rfl; simp
    · have := bares_same kids (h2 rfl).2
      rw [bareDs_map, bareRs_map] at this
      simp [this]
theorem bares_same : ∀ l : List Datum, goodDs l → bareDs l = bareRs l
  | [], _ => by simp only [bareDs, bareRs]
  | d :: r, h => by rw [goodDs] at h; simp only [bareDs, bareRs, bare_same d h.1, bares_same r h.2]
end
theorem one_same {k ix n : Int} {lb ow : Str} {q : Datum} {kids : List Core} (h : k = 3 → goodD q) : oneI (.mk k ix n lb ow q kids) = oneR (.mk k ix n lb ow q kids) := by
  simp only [oneI, oneR]
  by_cases e : k = 3
  · rw [bare_same q (h e)]
  · simp only [decide_eq_false e, cond_false]
mutual
theorem eqD_self : ∀ d : Datum, eqD d d = true
  | .mk k n nm s l kids => by
    rw [eqD]
    simp only [decide_true, cond_true, Bool.and_self, eqDs_self kids]
    simp
theorem eqDs_self : ∀ l : List Datum, eqDs l l = true
  | [] => by rw [eqDs]
  | d :: r => by rw [eqDs, eqD_self d, eqDs_self r]; rfl
end
theorem sameL_self : ∀ l : List Ins, sameL l l = true
  | [] => rfl
  | i :: r => by simp [sameL, sameI, eqD_self, sameL_self r]
theorem samePs_self : ∀ l : List Pr, samePs l l = true
  | [] => rfl
  | p :: r => by simp [samePs, sameL_self, samePs_self r]

-- jumps
def okJ (n : Nat) (l : List Ins) : Prop := ∀ i ∈ l, (i.op = 9 ∨ i.op = 10) → 0 ≤ i.a ∧ i.a ≤ n
theorem mv_none {i : Ins} (h : i.op ≠ 9) (h' : i.op ≠ 10) (b : Int) : mvI b i = i := by
  unfold mvI; rw [decide_eq_false h, decide_eq_false h']; rfl
theorem mv_jump {i : Ins} (h : i.op = 9 ∨ i.op = 10) {b : Nat} {n : Nat} (hb : b ≤ 2000000000) (hn : n ≤ 2000000000) (ha : 0 ≤ i.a ∧ i.a ≤ n) : mvI b i = { i with a := i.a + b } := by
  unfold mvI
  have : (decide (i.op = 9) || decide (i.op = 10)) = true := by simpa using h
  rw [this, cond_true, wrap_i64 (by omega) (by omega)]
theorem mv_op (b : Int) (i : Ins) : (mvI b i).op = i.op := by
  unfold mvI; cases (decide (i.op = 9) || decide (i.op = 10)) <;> rfl
theorem okJ_mv {n b : Nat} {l : List Ins} (h : okJ n l) (hb : b ≤ 1000000000) (hn : n ≤ 1000000000) : okJ (n + b) (l.map (mvI b)) := by
  intro i hi hop
  obtain ⟨j, hj, rfl⟩ := List.mem_map.1 hi
  rw [mv_op] at hop
  have := h j hj hop
  rw [mv_jump hop (by omega) (n := n) (by omega) this]
  simp only
  omega
theorem okJ_mono {n m : Nat} {l : List Ins} (h : okJ n l) (hm : n ≤ m) : okJ m l := fun i hi hop => by have := h i hi hop; omega
theorem okJ_app {n : Nat} {a b : List Ins} (h : okJ n a) (k : okJ n b) : okJ n (a ++ b) := fun i hi hop => (List.mem_append.1 hi).elim (fun hi => h i hi hop) fun hi => k i hi hop
theorem okJ_one {n : Nat} {i : Ins} (h : i.op ≠ 9) (h' : i.op ≠ 10) : okJ n [i] := fun j hj hop => by simp at hj; subst hj; omega
theorem okJ_nil {n : Nat} : okJ n [] := fun i hi => by simp at hi
theorem okJ_jump {n : Nat} {i : Ins} (h : 0 ≤ i.a ∧ i.a ≤ n) : okJ n [i] := fun j hj _ => by simp at hj; subst hj; exact h
theorem mv_mv {m n b : Nat} {l : List Ins} (h : okJ m l) (hb : m + n + b ≤ 1000000000) : (l.map (mvI n)).map (mvI b) = l.map (mvI ((b + n : Nat) : Int)) := by
  rw [List.map_map]
  refine List.map_congr_left fun i hi => ?_
  simp only [Function.comp]
  by_cases hop : i.op = 9 ∨ i.op = 10
  · have ha := h i hi hop
    rw [mv_jump hop (b := n) (n := m) (by omega) (by omega) ha, mv_jump (b := b) (n := m + n) (by simpa using hop) (by omega) (by omega) (by simp only; omega), mv_jump hop (b := b + n) (n := m) (by omega) (by omega) ha]
    simp only [Int.natCast_add, Int.add_assoc, Int.add_comm (n : Int)]
  · rw [mv_none (i := i) (by omega) (by omega), mv_none (by omega) (by omega), mv_none (by omega) (by omega)]
theorem mv_zero {m : Nat} {l : List Ins} (h : okJ m l) (hm : m ≤ 1000000000) : l.map (mvI 0) = l := by
  conv => rhs; rw [← List.map_id l]
  refine List.map_congr_left fun i hi => ?_
  by_cases hop : i.op = 9 ∨ i.op = 10
  · have := mv_jump hop (b := 0) (n := m) (by omega) (by omega) (h i hi hop)
    simpa using this
  · exact mv_none (by omega) (by omega) 0
theorem okJ_addI {out l : List Ins} {n : Nat} (h : okJ out.length out) (k : okJ n l) (hn : n ≤ l.length) (hb : out.length + l.length ≤ 1000000000) : okJ (addI out l).length (addI out l) := by
  rw [addI_len]
  exact okJ_app (okJ_mono h (by omega)) (okJ_mono (okJ_mv k (by omega) (by omega)) (by omega))

-- procedures, of which one's code is told
def setC (p : Nat) (c : List Ins) (g : List Pr) : List Pr := g.modify p fun q => ⟨q.args, c⟩
theorem setC_len (p : Nat) (c : List Ins) (g : List Pr) : (setC p c g).length = g.length := by simp [setC]
theorem setC_get (p k : Nat) (c : List Ins) (g : List Pr) : (setC p c g)[k]? = if p = k then (g[k]?).map (fun q => ⟨q.args, c⟩) else g[k]? := by
  unfold setC
  rw [List.getElem?_modify]
  split <;> simp
theorem push_setC (p : Nat) (i : Ins) (c : List Ins) (g : List Pr) : pushP p i (setC p c g) = setC p (c ++ [i]) g := by
  apply List.ext_getElem?; intro k
  unfold pushP
  rw [List.getElem?_modify, setC_get, setC_get]
  by_cases e : p = k
  · subst e; cases g[p]? <;> simp
  · simp [e]
theorem patch_setC (p n : Nat) (a : Int) (c : List Ins) (g : List Pr) : patchP p n a (setC p c g) = setC p (c.modify n fun i => { i with a := a }) g := by
  apply List.ext_getElem?; intro k
  unfold patchP
  rw [List.getElem?_modify, setC_get, setC_get]
  by_cases e : p = k
  · subst e; cases g[p]? <;> simp
  · simp [e]
theorem here_setC {p : Nat} {g : List Pr} (h : p < g.length) (c : List Ins) : hereP p (setC p c g) = c.length := by
  unfold hereP
  rw [setC_get, if_pos rfl, List.getElem?_eq_getElem h]; rfl
theorem setC_app {p : Nat} {g : List Pr} (h : p < g.length) (c : List Ins) (l : List Pr) : setC p c g ++ l = setC p c (g ++ l) := by
  apply List.ext_getElem?; intro k
  rw [setC_get]
  rcases Nat.lt_or_ge k g.length with hk | hk
  · rw [List.getElem?_append_left (by rw [setC_len]; exact hk), setC_get, List.getElem?_append_left hk]
  · rw [List.getElem?_append_right (by rw [setC_len]; exact hk), setC_len, List.getElem?_append_right hk, if_neg (by omega)]
theorem setC_comm {p k : Nat} (h : p ≠ k) (c d : List Ins) (g : List Pr) : setC p c (setC k d g) = setC k d (setC p c g) := by
  apply List.ext_getElem?; intro j
  simp only [setC_get]
  by_cases e : p = j
  · subst e; simp [Ne.symm h]
  · by_cases e' : k = j <;> simp [e, e']
theorem setC_last (ix : Int) (g : List Pr) : setC g.length [] (g ++ [⟨ix, []⟩]) = g ++ [⟨ix, []⟩] := by
  apply List.ext_getElem?; intro j
  rw [setC_get]
  split
  · rename_i e; subst e; simp
  · rfl
end Go.Proofs.Ytpfdoffnpkokhaa.Gx

namespace Go.Proofs.Ytpfdoffnpkokhaa.Gx
open Go Go.Proofs.Ytpfdoffnpkokhaa.Gw
set_option linter.unusedSimpArgs false

-- what is made hangs not on the code that others have
def PA (c : Core) : Prop := okC c → ∀ (p : Nat) (code : List Ins) (g : List Pr), p < g.length → genC c (setC p code g) = ((genC c g).1, setC p code (genC c g).2)
theorem call_setC : ∀ (l : List Core) (_ : ∀ d ∈ l, PA d) (_ : okCs l) (p : Nat) (code : List Ins) (out : List Ins) (g : List Pr), p < g.length → genCall l out (setC p code g) = ((genCall l out g).1, setC p code (genCall l out g).2)
  | [], _, _, p, code, out, g, _ => by simp only [genCall]
  | c :: r, h, ho, p, code, out, g, hp => by
    rw [okCs] at ho
    have h1 := h c (by simp) ho.1 p code g hp
    have h2 := (genC_size c g).2.2
    simp only [genCall, h1]
    exact call_setC r (fun d hd => h d (by simp [hd])) ho.2 p code _ _ (by omega)
theorem seq_setC : ∀ (l : List Core) (_ : ∀ d ∈ l, PA d) (_ : okCs l) (f : Bool) (p : Nat) (code : List Ins) (out : List Ins) (g : List Pr), p < g.length → genSeq l f out (setC p code g) = ((genSeq l f out g).1, setC p code (genSeq l f out g).2)
  | [], _, _, f, p, code, out, g, _ => by simp only [genSeq]
  | c :: r, h, ho, f, p, code, out, g, hp => by
    rw [okCs] at ho
    have h1 := h c (by simp) ho.1 p code g hp
    have h2 := (genC_size c g).2.2
    simp only [genSeq, h1]
    exact seq_setC r (fun d hd => h d (by simp [hd])) ho.2 false p code _ _ (by omega)
theorem genC_one {k ix n : Int} {lb ow : Str} {q : Datum} {kids : List Core} {i : Ins} (h : oneR (.mk k ix n lb ow q kids) = some i) (g : List Pr) : genC (.mk k ix n lb ow q kids) g = ([i], g) := by
  have : oneR (.mk k ix n lb ow q []) = some i := h
  rw [genC, this]
theorem kinds {k : Int} (hk : kindB k = true) {ix n : Int} {lb ow : Str} {q : Datum} {kids : List Core} (hl : lenB k kids.length = true) :
    (∃ i, oneR (.mk k ix n lb ow q kids) = some i ∧ i.op ≠ 9 ∧ i.op ≠ 10) ∨ (k = 7 ∧ ∃ x y z, kids = [x, y, z]) ∨ (k = 8 ∧ ∃ x, kids = [x]) ∨ (k = 9) ∨ ((k = 10 ∨ k = 11 ∨ k = 13) ∧ ∃ x, kids = [x]) ∨ k = 12 := by
  rcases kind_cases hk with rfl | rfl | rfl | rfl | rfl | rfl | rfl | rfl | rfl | rfl | rfl | rfl | rfl
  · exact .inl ⟨_, rfl, by simp, by simp⟩
  · exact .inl ⟨_, rfl, by simp, by simp⟩
  · exact .inl ⟨_, rfl, by simp, by simp⟩
  · exact .inl ⟨_, rfl, by simp, by simp⟩
  · exact .inl ⟨_, rfl, by simp, by simp⟩
  · exact .inl ⟨_, rfl, by simp, by simp⟩
  · exact .inr (.inl ⟨rfl, kids3 hl⟩)
  · exact .inr (.inr (.inl ⟨rfl, kids1 hl (by simp)⟩))
  · exact .inr (.inr (.inr (.inl rfl)))
  · exact .inr (.inr (.inr (.inr (.inl ⟨by simp, kids1 hl (by simp)⟩))))
  · exact .inr (.inr (.inr (.inr (.inl ⟨by simp, kids1 hl (by simp)⟩))))
  · exact .inr (.inr (.inr (.inr (.inr rfl))))
  · exact .inr (.inr (.inr (.inr (.inl ⟨by simp, kids1 hl (by simp)⟩))))

theorem gen_setC (c : Core) : PA c := by
  refine Core.ind (p := PA) ?_ c
  intro k ix n lb ow q kids ih hok p code g hp
  rw [okC] at hok
  obtain ⟨hk, hl, _, hks⟩ := hok
  rcases kinds (ix := ix) (n := n) (lb := lb) (ow := ow) (q := q) hk hl with ⟨i, hi, _⟩ | ⟨rfl, x, y, z, rfl⟩ | ⟨rfl, x, rfl⟩ | rfl | ⟨hk3, x, rfl⟩ | rfl
  · rw [genC_one hi, genC_one hi]
  · simp only [okCs] at hks
    have sx := (genC_size x g).2.2
    have sy := (genC_size y (genC x g).2).2.2
    simp only [genC_if, genIf, genThen, genElse, ih x (by simp) hks.1 p code g hp, ih y (by simp) hks.2.1 p code _ (Nat.lt_of_lt_of_le hp sx), ih z (by simp) hks.2.2.1 p code _ (Nat.lt_of_lt_of_le (Nat.lt_of_lt_of_le hp sx) sy)]
  · simp only [okCs] at hks
    rw [genC_lambda, genC_lambda, setC_len, setC_app hp, ih x (by simp) hks.1 p code _ (by simp; omega)]
    have := setC_comm (p := p) (k := g.length) (by omega) code ((genC x (g ++ [⟨ix, []⟩])).1 ++ [{ op := 15 }]) (genC x (g ++ [⟨ix, []⟩])).2
    exact Prod.ext rfl this.symm
  · simp only [genC_call, call_setC kids ih hks p code [] g hp]
  · simp only [okCs] at hks
    simp only [genC_set _ _ _ _ _ _ _ _ hk3, ih x (by simp) hks.1 p code g hp]
  · simp only [genC_seq, seq_setC kids ih hks true p code [] g hp]

-- jumps land in the code
def PJ (c : Core) : Prop := okC c → nodesC c ≤ 100000000 → ∀ g : List Pr, okJ (genC c g).1.length (genC c g).1
theorem call_J : ∀ (l : List Core) (_ : ∀ d ∈ l, PJ d) (_ : okCs l) (out : List Ins) (g : List Pr), out.length + 3 * nodesCs l ≤ 300000000 → okJ out.length out → okJ (genCall l out g).1.length (genCall l out g).1
  | [], _, _, out, g, _, h => by rw [genCall]; exact h
  | c :: r, h, ho, out, g, hn, hj => by
    rw [okCs] at ho
    rw [nodesCs] at hn
    have h1 := (genC_size c g).1
    rw [genCall]
    exact call_J r (fun d hd => h d (by simp [hd])) ho.2 _ _ (by rw [addI_len]; omega) (okJ_addI hj (h c (by simp) ho.1 (by omega) g) (Nat.le_refl _) (by omega))
theorem seq_J : ∀ (l : List Core) (_ : ∀ d ∈ l, PJ d) (_ : okCs l) (f : Bool) (out : List Ins) (g : List Pr), out.length + 3 * nodesCs l ≤ 300000000 → okJ out.length out → okJ (genSeq l f out g).1.length (genSeq l f out g).1
  | [], _, _, f, out, g, _, h => by rw [genSeq]; exact h
  | c :: r, h, ho, f, out, g, hn, hj => by
    rw [okCs] at ho
    rw [nodesCs] at hn
    have h1 := (genC_size c g).1
    rw [genSeq]
    cases f with
    | true =>
      simp only [cond_true]
      exact seq_J r (fun d hd => h d (by simp [hd])) ho.2 false _ _ (by rw [addI_len]; omega) (okJ_addI hj (h c (by simp) ho.1 (by omega) g) (Nat.le_refl _) (by omega))
    | false =>
      simp only [cond_false]
      have hj2 : okJ (out ++ [({ op := 14 } : Ins)]).length (out ++ [{ op := 14 }]) := okJ_app (okJ_mono hj (by simp)) (okJ_one (by decide) (by decide))
      exact seq_J r (fun d hd => h d (by simp [hd])) ho.2 false _ _ (by rw [addI_len]; simp; omega) (okJ_addI hj2 (h c (by simp) ho.1 (by omega) g) (Nat.le_refl _) (by simp; omega))
theorem gen_J (c : Core) : PJ c := by
  refine Core.ind (p := PJ) ?_ c
  intro k ix n lb ow q kids ih hok hn g
  rw [okC] at hok
  obtain ⟨hk, hl, _, hks⟩ := hok
  rw [nodesC] at hn
  rcases kinds (ix := ix) (n := n) (lb := lb) (ow := ow) (q := q) hk hl with ⟨i, hi, h9, h10⟩ | ⟨rfl, x, y, z, rfl⟩ | ⟨rfl, x, rfl⟩ | rfl | ⟨hk3, x, rfl⟩ | rfl
  · rw [genC_one hi]; exact okJ_one h9 h10
  · simp only [okCs] at hks
    simp only [nodesCs] at hn
    have jx := ih x (by simp) hks.1 (by omega) g
    have jy := ih y (by simp) hks.2.1 (by omega) (genC x g).2
    have jz := ih z (by simp) hks.2.2.1 (by omega) (genC y (genC x g).2).2
    have s1 := (genC_size x g).1
    have s2 := (genC_size y (genC x g).2).1
    have s3 := (genC_size z (genC y (genC x g).2).2).1
    rw [genC_if, genIf, genThen, genElse]
    generalize genC x g = A at *
    generalize genC y A.2 = B at *
    generalize genC z B.2 = D at *
    simp only [addI, List.length_append, List.length_map, List.length_cons, List.length_nil]
    refine okJ_app (okJ_app (okJ_app (okJ_app (okJ_app okJ_nil ?_) ?_) ?_) ?_) ?_
    · exact okJ_mono (okJ_mv jx (by omega) (by omega)) (by omega)
    · exact okJ_jump (by simp only; omega)
    · exact okJ_mono (okJ_mv jy (by omega) (by omega)) (by omega)
    · exact okJ_jump (by simp only; omega)
    · exact okJ_mono (okJ_mv jz (by omega) (by omega)) (by omega)
  · rw [genC_lambda]; exact okJ_one (by simp) (by simp)
  · rw [genC_call]
    have := call_J kids ih hks [] g (by simp; omega) okJ_nil
    exact okJ_app (okJ_mono this (by simp)) (okJ_one (by simp) (by simp))
  · simp only [okCs] at hks
    simp only [nodesCs] at hn
    rw [genC_set _ _ _ _ _ _ _ _ hk3]
    refine okJ_app (okJ_mono (ih x (by simp) hks.1 (by omega) g) (by simp)) ?_
    rcases hk3 with rfl | rfl | rfl <;> exact okJ_one (by simp [setI]) (by simp [setI])
  · rw [genC_seq]
    exact seq_J kids ih hks true [] g (by simp; omega) okJ_nil
end Go.Proofs.Ytpfdoffnpkokhaa.Gx

namespace Go.Proofs.Ytpfdoffnpkokhaa.Gx
open Go Go.Proofs.Ytpfdoffnpkokhaa.Gw
set_option linter.unusedSimpArgs false

/-- What the compiler makes of an expression: the document's code, moved, behind what the procedure has. -/
def PB (c : Core) : Prop := okC c → ∀ (p : Nat) (code : List Ins) (g : List Pr), p < g.length → code.length + 4 * nodesC c ≤ 200000000 →
  exprP c p (setC p code g) = setC p (code ++ (genC c g).1.map (mvI code.length)) (genC c g).2

theorem step_addI {base out cd : List Ins} {m : Nat} (hj : okJ m cd) (hb : m + out.length + base.length ≤ 1000000000) :
    base ++ out.map (mvI base.length) ++ cd.map (mvI ((base ++ out.map (mvI base.length)).length : Nat)) = base ++ (addI out cd).map (mvI base.length) := by
  rw [addI, List.map_append, mv_mv hj hb, List.append_assoc, List.length_append, List.length_map]

theorem call_gen : ∀ (l : List Core) (_ : ∀ d ∈ l, PB d) (_ : okCs l) (p : Nat) (base out : List Ins) (g : List Pr), p < g.length → base.length + out.length + 4 * nodesCs l + 1 ≤ 200000000 →
    seqP l p (setC p (base ++ out.map (mvI base.length)) g) = setC p (base ++ (genCall l out g).1.map (mvI base.length)) (genCall l out g).2
  | [], _, _, p, base, out, g, _, _ => by simp only [seqP, genCall]
  | c :: r, h, ho, p, base, out, g, hp, hn => by
    rw [okCs] at ho
    rw [nodesCs] at hn
    have s1 := genC_size c g
    have h1 := h c (by simp) ho.1 p (base ++ out.map (mvI base.length)) g hp (by simp; omega)
    rw [seqP, h1, step_addI (gen_J c ho.1 (by omega) g) (by omega), genCall]
    exact call_gen r (fun d hd => h d (by simp [hd])) ho.2 p base _ _ (by omega) (by rw [addI_len]; omega)
theorem map_one (b : Nat) {i : Ins} (h : i.op ≠ 9) (h' : i.op ≠ 10) : [i].map (mvI b) = [i] := by simp [mv_none h h']
theorem seq_gen : ∀ (l : List Core) (_ : ∀ d ∈ l, PB d) (_ : okCs l) (f : Bool) (p : Nat) (base out : List Ins) (g : List Pr), p < g.length → base.length + out.length + 4 * nodesCs l + 1 ≤ 200000000 →
    popsP l f p (setC p (base ++ out.map (mvI base.length)) g) = setC p (base ++ (genSeq l f out g).1.map (mvI base.length)) (genSeq l f out g).2
  | [], _, _, f, p, base, out, g, _, _ => by simp only [popsP, genSeq]
  | c :: r, h, ho, f, p, base, out, g, hp, hn => by
    rw [okCs] at ho
    rw [nodesCs] at hn
    have s1 := genC_size c g
    cases f with
    | true =>
      have h1 := h c (by simp) ho.1 p (base ++ out.map (mvI base.length)) g hp (by simp; omega)
      rw [popsP, cond_true, h1, step_addI (gen_J c ho.1 (by omega) g) (by omega), genSeq, cond_true]
      exact seq_gen r (fun d hd => h d (by simp [hd])) ho.2 false p base _ _ (by omega) (by rw [addI_len]; omega)
    | false =>
      have e : base ++ out.map (mvI base.length) ++ [({ op := 14 } : Ins)] = base ++ (out ++ [({ op := 14 } : Ins)]).map (mvI base.length) := by
        rw [List.map_append, map_one base.length (i := ({ op := 14 } : Ins)) (by simp) (by simp), List.append_assoc]
      have h1 := h c (by simp) ho.1 p (base ++ (out ++ [({ op := 14 } : Ins)]).map (mvI base.length)) g hp (by simp; omega)
      rw [popsP, cond_false, push_setC, e, h1, step_addI (gen_J c ho.1 (by omega) g) (by simp; omega), genSeq, cond_false]
      exact seq_gen r (fun d hd => h d (by simp [hd])) ho.2 false p base _ _ (by omega) (by rw [addI_len]; simp; omega)

theorem modify_at {a b : List Ins} {i : Ins} {f : Ins → Ins} : (a ++ i :: b).modify a.length f = a ++ f i :: b := by
  induction a with
  | nil => rfl
  | cons x a ih => simp [ih]
theorem modify_mid {a b : List Ins} {i : Ins} {f : Ins → Ins} {n : Nat} (h : n = a.length) : (a ++ [i] ++ b).modify n f = a ++ [f i] ++ b := by
  subst h; rw [List.append_assoc, List.singleton_append, modify_at]; simp

theorem modify_mid2 {a b c : List Ins} {i : Ins} {f : Ins → Ins} {n : Nat} (h : n = a.length) : (a ++ [i] ++ b ++ c).modify n f = a ++ [f i] ++ b ++ c := by
  rw [List.append_assoc (a ++ [i]), modify_mid h, List.append_assoc (a ++ [f i])]
theorem addI_nil {l : List Ins} {m : Nat} (h : okJ m l) (hm : m ≤ 1000000000) : addI [] l = l := by
  rw [addI, List.nil_append]; exact mv_zero h hm

theorem expr_gen (c : Core) : PB c := by
  refine Core.ind (p := PB) ?_ c
  intro k ix n lb ow q kids ih hok p code g hp hn
  have hok' := hok
  rw [okC] at hok
  obtain ⟨hk, hl, hq, hks⟩ := hok
  rw [nodesC] at hn
  rcases kinds (ix := ix) (n := n) (lb := lb) (ow := ow) (q := q) hk hl with ⟨i, hi, h9, h10⟩ | ⟨rfl, x, y, z, rfl⟩ | ⟨rfl, x, rfl⟩ | rfl | ⟨hk3, x, rfl⟩ | rfl
  · have h1 : oneI (.mk k ix n lb ow q []) = some i := by rw [one_same hq]; exact hi
    rw [genC_one hi, exprP, h1]
    simp only
    rw [push_setC, map_one code.length h9 h10]
  · simp only [okCs] at hks
    simp only [nodesCs] at hn
    have jx := gen_J x hks.1 (by omega) g
    have jy := gen_J y hks.2.1 (by omega) (genC x g).2
    have jz := gen_J z hks.2.2.1 (by omega) (genC y (genC x g).2).2
    obtain ⟨s1, _, t1⟩ := genC_size x g
    obtain ⟨s2, _, t2⟩ := genC_size y (genC x g).2
    obtain ⟨s3, _, t3⟩ := genC_size z (genC y (genC x g).2).2
    have ix' := fun code h => ih x (by simp) hks.1 p code g hp h
    have iy := fun code h => ih y (by simp) hks.2.1 p code (genC x g).2 (by omega) h
    have iz := fun code h => ih z (by simp) hks.2.2.1 p code (genC y (genC x g).2).2 (by omega) h
    rw [exprP_if, ifP, thenP, elseP, genC_if, genIf, genThen, genElse]
    generalize genC x g = A at *
    generalize genC y A.2 = B at *
    generalize genC z B.2 = D at *
    rw [ix' _ (by omega), push_setC, here_setC (by omega)]
    rw [iy _ (by simp; omega), push_setC, here_setC (by omega), here_setC (by omega), patch_setC]
    rw [modify_mid2 (by rfl), iz _ (by simp; omega), here_setC (by omega), patch_setC, modify_mid (by simp)]
    refine congrArg (fun l => setC p l D.2) ?_
    rw [addI_nil jx (by omega)]
    simp only [addI, List.map_append, mv_mv jy (show B.1.length + (A.1 ++ [({ op := 10, a := (A.1.length : Int) + 1 + B.1.length + 1 } : Ins)]).length + code.length ≤ 1000000000 by simp; omega), mv_mv jz (show D.1.length + (A.1 ++ [({ op := 10, a := (A.1.length : Int) + 1 + B.1.length + 1 } : Ins)] ++ B.1.map (mvI ((A.1 ++ [({ op := 10, a := (A.1.length : Int) + 1 + B.1.length + 1 } : Ins)]).length : Nat)) ++ [({ op := 9, a := (A.1.length : Int) + 1 + B.1.length + 1 + D.1.length } : Ins)]).length + code.length ≤ 1000000000 by simp; omega)]
    have u1 : mvI code.length ({ op := 10, a := (A.1.length : Int) + 1 + B.1.length + 1 } : Ins) = { op := 10, a := (A.1.length : Int) + 1 + B.1.length + 1 + code.length } :=
      mv_jump (.inr rfl) (n := A.1.length + 1 + B.1.length + 1) (by omega) (by omega) (by simp only; omega)
    have u2 : mvI code.length ({ op := 9, a := (A.1.length : Int) + 1 + B.1.length + 1 + D.1.length } : Ins) = { op := 9, a := (A.1.length : Int) + 1 + B.1.length + 1 + D.1.length + code.length } :=
      mv_jump (.inl rfl) (n := A.1.length + 1 + B.1.length + 1 + D.1.length) (by omega) (by omega) (by simp only; omega)
    simp only [List.map_cons, List.map_nil, u1, u2]
    simp only [List.length_append, List.length_map, List.length_cons, List.length_nil, List.append_assoc, List.singleton_append, Nat.zero_add, Int.natCast_add, Int.natCast_one, Int.add_assoc, Int.add_comm, Int.add_left_comm]
  · simp only [okCs] at hks
    simp only [nodesCs] at hn
    rw [exprP_lambda, seqP, seqP, genC_lambda, setC_len, setC_app hp, push_setC]
    have e1 : setC p (code ++ [({ op := 7, a := g.length } : Ins)]) (g ++ [⟨ix, []⟩]) = setC g.length [] (setC p (code ++ [({ op := 7, a := g.length } : Ins)]) (g ++ [⟨ix, []⟩])) := by
      rw [← setC_comm (by omega), setC_last]
    have e2 := ih x (by simp) hks.1 g.length [] (setC p (code ++ [({ op := 7, a := g.length } : Ins)]) (g ++ [⟨ix, []⟩])) (by rw [setC_len]; simp) (by simp; omega)
    have sz := (genC_size x (g ++ [⟨ix, []⟩])).1
    rw [e1, e2, gen_setC x hks.1 p _ _ (by simp; omega), push_setC, setC_comm (by omega)]
    simp only [List.length_nil, List.nil_append]
    have hz := mv_zero (gen_J x hks.1 (by omega) (g ++ [⟨ix, []⟩])) (by omega)
    rw [show ((0 : Nat) : Int) = 0 from rfl, hz, map_one code.length (by simp) (by simp)]
    rfl
  · rw [exprP_call, genC_call]
    have := call_gen kids ih hks p code [] g hp (by simp; omega)
    rw [List.map_nil, List.append_nil] at this
    rw [this, push_setC, List.map_append, map_one code.length (by simp) (by simp), List.append_assoc]
  · simp only [okCs] at hks
    simp only [nodesCs] at hn
    rw [exprP_set _ _ _ _ _ _ _ _ _ hk3, seqP, seqP, ih x (by simp) hks.1 p code g hp (by omega), push_setC, genC_set _ _ _ _ _ _ _ _ hk3, List.map_append, List.append_assoc]
    rcases hk3 with rfl | rfl | rfl <;> rw [map_one code.length (by simp [setI]) (by simp [setI])] <;> simp [setI]
  · rw [exprP_seq, genC_seq]
    have := seq_gen kids ih hks true p code [] g hp (by simp; omega)
    rw [List.map_nil, List.append_nil] at this
    exact this

theorem forms_gen : ∀ (l : List Core) (_ : okCs l) (out : List Ins) (g : List Pr), 0 < g.length → out.length + 4 * nodesCs l + 1 ≤ 200000000 → okJ out.length out →
    formsP l (setC 0 out g) = setC 0 (genBody l out g).1 (genBody l out g).2
  | [], _, out, g, _, _, _ => by simp only [formsP, genBody]
  | c :: r, ho, out, g, hp, hn, hj => by
    rw [okCs] at ho
    rw [nodesCs] at hn
    have s1 := genC_size c g
    have h1 := expr_gen c ho.1 0 out g hp (by omega)
    have hjc := gen_J c ho.1 (by omega) g
    have e : out ++ (genC c g).1.map (mvI out.length) ++ [({ op := 14 } : Ins)] = addI out (genC c g).1 ++ [{ op := 14 }] := rfl
    have hja : okJ (addI out (genC c g).1 ++ [({ op := 14 } : Ins)]).length (addI out (genC c g).1 ++ [{ op := 14 }]) :=
      okJ_app (okJ_mono (okJ_addI hj hjc (Nat.le_refl _) (by omega)) (by simp)) (okJ_one (by simp) (by simp))
    rw [formsP, h1, push_setC, e, genBody]
    exact forms_gen r ho.2 _ _ (by omega) (by simp only [List.length_append, addI_len, List.length_cons, List.length_nil]; omega) hja
theorem protos_same {l : List Core} (ho : okCs l) (hn : nodesCs l ≤ 600000) : bodyP l = protosR l := by
  have h := forms_gen l ho [] [⟨0, []⟩] (by simp) (by simp; omega) okJ_nil
  have e : setC 0 [] [(⟨0, []⟩ : Pr)] = [⟨0, []⟩] := rfl
  rw [e] at h
  rw [bodyP, h, push_setC]
  rfl
/-- The compiler makes what the document says. -/
theorem compile_same (p : Part) : compileC p = compileR p := by
  unfold compileC compileR
  by_cases h : (wrongPs [p]).1 = 0
  · obtain ⟨h1, h2, _⟩ := wrongPs_good h
    rw [protos_same h1 h2]
  · rw [decide_eq_false h]; rfl
end Go.Proofs.Ytpfdoffnpkokhaa.Gx

namespace Go.Proofs.Ytpfdoffnpkokhaa.Gx
open Go Go.Proofs.Ytpfdoffnpkokhaa.Gw
set_option linter.unusedSimpArgs false

theorem encU_len (u : Unit') : (encU u).length = 2 := rfl
set_option maxHeartbeats 2000000 in
theorem c_CodeTells (p : Part) (st : St) : VCalls Try.prog TT 3 [.agg (encP p)] st fun r st' => r = .ret (.bool true) ∧ st' = st := by
  refine vfun TT_ok (an := anL [(1, 1)]) (L := [0, 1, 2, 3, 4, 5, 6]) (rs := [.tmp 2]) Try.func3 rfl (by kernel_rfl) rfl Try.ntmps3 rfl rfl (Nat.le_refl _) fun hst ha hf => ?_
  simp only [decide_true, decide_false, gwL, gwB, gwD, gwE, gwS, gwTT, gwZ, initG, Nat.reduceEqDiff, ↓reduceIte, Nat.reduceAdd, Nat.reduceLT, Nat.reduceLeDiff, List.map_cons, List.map_nil, builtS, builtinV, pureR, binV, sliceV, pickV, evO, Env.look, find, V.ofConst, resV, resOne, tupV, loadV, fillV, buildV, mkIface, litM, litS, litR, litRows, List.reverse_cons, List.reverse_nil, Nat.reduceMul, appS, memA, appendV, rowsOf, V.cells, TI.sized, TI.known, TI.agg, anL, List.length_cons, List.length_nil, List.append_nil, List.cons_append, List.nil_append, List.drop_succ_cons, List.drop_zero, List.drop_nil, List.take_succ_cons, List.take_zero, List.take_nil, List.getElem?_cons_zero, List.getElem?_cons_succ, List.all_cons, List.all_nil, List.replicate_succ, List.replicate_zero, List.set_cons_zero, List.set_cons_succ, eq_self, true_or, ne_eq, not_false_eq_true, Nat.reduceEqDiff, encP]
  refine (c_Compile p _).use (wkL_refl _) fun _ => ?_
  simp only [decide_true, decide_false, gwL, gwB, gwD, gwE, gwS, gwTT, gwZ, initG, Nat.reduceEqDiff, ↓reduceIte, Nat.reduceAdd, Nat.reduceLT, Nat.reduceLeDiff, List.map_cons, List.map_nil, builtS, builtinV, pureR, binV, sliceV, pickV, evO, Env.look, find, V.ofConst, resV, resOne, tupV, loadV, fillV, buildV, mkIface, litM, litS, litR, litRows, List.reverse_cons, List.reverse_nil, Nat.reduceMul, appS, memA, appendV, rowsOf, V.cells, TI.sized, TI.known, TI.agg, anL, List.length_cons, List.length_nil, List.append_nil, List.cons_append, List.nil_append, List.drop_succ_cons, List.drop_zero, List.drop_nil, List.take_succ_cons, List.take_zero, List.take_nil, List.getElem?_cons_zero, List.getElem?_cons_succ, List.all_cons, List.all_nil, List.replicate_succ, List.replicate_zero, List.set_cons_zero, List.set_cons_succ, eq_self, true_or, ne_eq, not_false_eq_true, Nat.reduceEqDiff, compV, encU]
  refine (c_refCompile p _).use (wkL_refl _) fun _ => ?_
  rw [← compile_same]
  simp only [decide_true, decide_false, gwL, gwB, gwD, gwE, gwS, gwTT, gwZ, initG, Nat.reduceEqDiff, ↓reduceIte, Nat.reduceAdd, Nat.reduceLT, Nat.reduceLeDiff, List.map_cons, List.map_nil, builtS, builtinV, pureR, binV, sliceV, pickV, evO, Env.look, find, V.ofConst, resV, resOne, tupV, loadV, fillV, buildV, mkIface, litM, litS, litR, litRows, List.reverse_cons, List.reverse_nil, Nat.reduceMul, appS, memA, appendV, rowsOf, V.cells, TI.sized, TI.known, TI.agg, anL, List.length_cons, List.length_nil, List.append_nil, List.cons_append, List.nil_append, List.drop_succ_cons, List.drop_zero, List.drop_nil, List.take_succ_cons, List.take_zero, List.take_nil, List.getElem?_cons_zero, List.getElem?_cons_succ, List.all_cons, List.all_nil, List.replicate_succ, List.replicate_zero, List.set_cons_zero, List.set_cons_succ, eq_self, true_or, ne_eq, not_false_eq_true, Nat.reduceEqDiff, compV, encU]
  have hs : (decide ((compileC p).1.name = (compileC p).1.name) && samePs (compileC p).1.protos (compileC p).1.protos) = true := by simp [samePs_self]
  refine rK_guarded (.bool true) (fun _ => by have h := c_SameUnit (compileC p).1 (compileC p).1; rw [hs] at h; exact h _) ?_
  simp only [decide_true, decide_false, gwL, gwB, gwD, gwE, gwS, gwTT, gwZ, initG, Nat.reduceEqDiff, ↓reduceIte, Nat.reduceAdd, Nat.reduceLT, Nat.reduceLeDiff, List.map_cons, List.map_nil, builtS, builtinV, pureR, binV, sliceV, pickV, evO, Env.look, find, V.ofConst, resV, resOne, tupV, loadV, fillV, buildV, mkIface, litM, litS, litR, litRows, List.reverse_cons, List.reverse_nil, Nat.reduceMul, appS, memA, appendV, rowsOf, V.cells, TI.sized, TI.known, TI.agg, anL, List.length_cons, List.length_nil, List.append_nil, List.cons_append, List.nil_append, List.drop_succ_cons, List.drop_zero, List.drop_nil, List.take_succ_cons, List.take_zero, List.take_nil, List.getElem?_cons_zero, List.getElem?_cons_succ, List.all_cons, List.all_nil, List.replicate_succ, List.replicate_zero, List.set_cons_zero, List.set_cons_succ, eq_self, true_or, ne_eq, not_false_eq_true, Nat.reduceEqDiff]
  exact gives_bool' rfl hst
end Go.Proofs.Ytpfdoffnpkokhaa.Gx
