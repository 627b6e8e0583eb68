/- Literals of slices, and appending. Appending. Appending, as an operation. More operations: conversions; elements of arrays that are written. Conditions on code, said of abstract values; and that what is so shown holds of the model's run. What is so shown holds of the model's run. -/
import Derived.Test.YtlblgbfpdlfedaaZO1
import Derived.Laws.MakeOwn
import Derived.Laws.IdiomStrings

namespace Go.Proofs.Ytlblgbfpdlfedaa.Gw
open Go
set_option linter.unusedSimpArgs false

section
variable {P : Program} {T : Nat → TI} {an : Nat → Nat} {dst : Option Tmp} {ty : TypeId} {pos : String} {aft : Array Edge} {gd : Option (Nat × Bool)}

theorem flatten_len {sz : Nat} : ∀ (c : List (List V)), (∀ r ∈ c, r.length = sz) → c.flatten.length = c.length * sz
  | [], _ => by simp
  | r :: rs, h => by
    have := flatten_len rs fun x hx => h x (by simp [hx])
    simp only [List.flatten_cons, List.length_append, this, h r (by simp), List.length_cons, Nat.succ_mul]; omega

theorem litRows_len {i : TI} {n : Nat} : ∀ (p : List (Nat × V)) (rows : List (List V)), i.zero.length = i.size → litRows i n p = some rows → rows.length = n ∧ ∀ r ∈ rows, r.length = i.size
  | [], rows, hz, h => by
    simp only [litRows, Option.some.injEq] at h
    subst h
    exact ⟨by simp, fun r hr => by rw [List.eq_of_mem_replicate hr]; exact hz⟩
  | (k, v) :: r, rows, hz, h => by
    simp only [litRows] at h
    split at h
    case h_2 => simp at h
    rename_i rows' l hr hl
    split at h
    case isFalse => simp at h
    rename_i hk
    simp only [Option.some.injEq] at h
    subst h
    obtain ⟨h1, h2⟩ := litRows_len r rows' hz hr
    exact ⟨by simpa using h1, fun x hx => by
      rcases List.mem_or_eq_of_mem_set hx with hx | rfl
      · exact h2 x hx
      · exact hk.2⟩

theorem flatten_set {sz : Nat} : ∀ (c : List (List V)) (k : Nat) (l : List V), (∀ r ∈ c, r.length = sz) → l.length = sz → k < c.length →
    (c.set k l).flatten = c.flatten.take (k * sz) ++ l ++ c.flatten.drop (k * sz + sz)
  | [], k, l, _, _, h => by simp at h
  | r :: rs, 0, l, h, hl, _ => by
    have hr := h r (by simp)
    simp [List.drop_append, hr]
  | r :: rs, k + 1, l, h, hl, hk => by
    have hr := h r (by simp)
    have ih := flatten_set rs k l (fun x hx => h x (by simp [hx])) hl (by simpa using hk)
    simp only [List.set_cons_succ, List.flatten_cons, ih]
    have e1 : (k + 1) * sz = sz + k * sz := by rw [Nat.succ_mul]; omega
    rw [e1, List.take_append, hr]
    rw [List.take_of_length_le (by omega : r.length ≤ sz + k * sz)]
    rw [show sz + k * sz - sz = k * sz by omega]
    rw [List.drop_append, hr, List.drop_eq_nil_of_le (by omega : r.length ≤ sz + k * sz + sz)]
    rw [show sz + k * sz + sz - sz = k * sz + sz by omega]
    simp [List.append_assoc]

theorem SimVs.repl {g : G} {w : World} {z : List V} {vz : List Value} (hz : SimVs g w z vz) : ∀ n, SimVs g w (List.replicate n z).flatten (List.replicate n vz).flatten
  | 0 => by simp [SimVs]
  | n + 1 => by simp only [List.replicate_succ, List.flatten_cons]; exact hz.append (SimVs.repl hz n)

theorem zeros_list (z : List Value) (n : Nat) (hz : z ≠ []) : (Array.range (n * z.length)).map (z.toArray[· % z.toArray.size]!) = (List.replicate n z).flatten.toArray := by
  apply Array.ext'
  simp only [Array.toList_map, Array.toList_range, List.size_toArray]
  induction n with
  | zero => simp
  | succ n ih =>
    have hl : 0 < z.length := List.length_pos_iff.2 hz
    rw [List.replicate_succ', List.flatten_append, ← ih, Nat.succ_mul, List.range_add, List.map_append]
    congr 1
    simp only [List.map_map, List.flatten_cons, List.flatten_nil, List.append_nil]
    apply List.ext_getElem
    · simp
    · intro i h1 h2
      have hi : i < z.length := h2
      simp [Nat.add_mod, Nat.mod_eq_of_lt hi, hi]

theorem litRows_sound (i : TI) (n : Nat) (hz : i.zero.length = i.size) {g : G} {w : World} (hflat : i.zero.all V.flat = true) :
    ∀ (p : List (Nat × V)) (q : List (Nat × Value)) (rows : List (List V)), p.length = q.length → (∀ (j : Nat) (a : Nat × V) (b : Nat × Value), p[j]? = some a → q[j]? = some b → a.1 = b.1 ∧ SimV g w a.2 b.2) →
      litRows i n p = some rows → ∃ vout : List Value, Instr.fill (fun k => some (k * i.size, i.size)) (List.replicate n (i.zero.map V.raw)).flatten.toArray q.reverse = some vout.toArray ∧ SimVs g w rows.flatten vout ∧ ∀ u ∈ vout, u.oneCell' = true
  | [], q, rows, hl, hp, h => by
    have : q = [] := by simpa using hl.symm
    subst this
    simp only [litRows, Option.some.injEq] at h
    subst h
    refine ⟨_, rfl, SimVs.repl (raws_sim _ hflat) n, fun u hu => ?_⟩
    simp only [List.mem_flatten] at hu
    obtain ⟨r, hr, hu⟩ := hu
    rw [List.eq_of_mem_replicate hr] at hu
    exact raws_one _ hflat u hu
  | (k, v) :: r, [], rows, hl, hp, h => by simp at hl
  | (k, v) :: r, (k', u) :: q, rows, hl, hp, h => by
    obtain ⟨e1, e2⟩ := hp 0 (k, v) (k', u) rfl rfl
    simp only at e1 e2
    subst e1
    simp only [litRows] at h
    split at h
    case h_2 => simp at h
    rename_i rows' l hr hvl
    split at h
    case isFalse => simp at h
    rename_i hk
    simp only [Option.some.injEq] at h
    subst h
    obtain ⟨l1, l2⟩ := litRows_len r rows' hz hr
    obtain ⟨vout, k1, k2, k3⟩ := litRows_sound i n hz hflat r q rows' (by simpa using hl) (fun j a b ha hb => hp (j + 1) a b (by simpa using ha) (by simpa using hb)) hr
    obtain ⟨c1, c2⟩ := cells_sim hvl e2
    have hul : u.cells.toList.length = l.length := c1.length
    have hus : u.cells.size = i.size := by rw [← hk.2, ← hul]; simp
    have hvl' : vout.length = n * i.size := by rw [k2.length, flatten_len rows' l2, l1]
    have hb : k * i.size + i.size ≤ n * i.size := by
      have := Nat.mul_le_mul_right i.size (show k + 1 ≤ n by omega)
      rw [Nat.succ_mul] at this; exact this
    refine ⟨vout.take (k * i.size) ++ u.cells.toList ++ vout.drop (k * i.size + i.size), ?_, ?_, ?_⟩
    · have fa : ∀ (xs ys : List (Nat × Value)) (c : Array Value), Instr.fill (fun k => some (k * i.size, i.size)) c (xs ++ ys) = (Instr.fill (fun k => some (k * i.size, i.size)) c xs).bind fun c' => Instr.fill (fun k => some (k * i.size, i.size)) c' ys := by
        intro xs
        induction xs with
        | nil => intro ys c; rfl
        | cons x xs ih =>
          intro ys c
          obtain ⟨a, b⟩ := x
          simp only [List.cons_append, Instr.fill]
          split
          · rfl
          · exact ih ys _
      rw [List.reverse_cons, fa, k1, Option.bind_some]
      simp only [Instr.fill]
      rw [if_neg (by simp [hus, hvl']; omega)]
      congr 1
      have hz' : u.cells.zipIdx.foldl (fun cs x => cs.setIfInBounds (k * i.size + x.2) x.1) vout.toArray = (u.cells.toList.zipIdx.foldl (fun (cs : Array Value) (x : Value × Nat) => cs.setIfInBounds (k * i.size + x.2) x.1) vout.toArray) := by
        rw [← Array.foldl_toList, Array.toList_zipIdx]
      rw [hz', foldl_set _ 0 _ _ (by rw [hul, hk.2, hvl']; omega), hul, hk.2]
      simp
    · rw [flatten_set rows' k l l2 hk.2 (by rw [l1]; exact hk.1)]
      exact ((k2.take _).append c1).append (k2.drop _)
    · intro x hx
      simp only [List.mem_append] at hx
      rcases hx with (hx | hx) | hx
      · exact k3 x (List.mem_of_mem_take hx)
      · exact c2 x hx
      · exact k3 x (List.mem_of_mem_drop hx)

/-- A row that begins a growing list. -/
theorem SimSt.newTip {g : G} {st : St} {w : World} (hst : SimSt T g st w) (e : TypeId) {n cap : Nat} {cur : Array Value} {sl : Nat} {ent : Ent} (hnc : n ≤ cap) (hcm : cap ≤ maxLen) (hcs : cur.size = cap * (T e).size)
    (hent : ent = .tip e n ∧ sl = n * (T e).size ∨ ∃ c, ent = .arr e (T e).size c ∧ c.length = n ∧ sl = 0 ∧ (∀ r ∈ c, r.length = (T e).size) ∧ SimVs g w c.flatten (cur.toList.take (n * (T e).size)) ∧ ∀ u ∈ cur.toList.take (n * (T e).size), u.oneCell' = true) :
    ∃ g', Ext g w g' (w.alloc (.cells cur e)) ∧ SimSt T g' (st ++ [ent]) (w.alloc (.cells cur e)) ∧ g'.n = st.length + 1 ∧ g'.len st.length = n ∧ g'.tv st.length = .slice (some ⟨w.heap.size, 0, none⟩) n cap ∧ g'.own w.heap.size = some sl := by
  have h1 := hst.alloc (.cells cur e) (some sl)
  have x1 := Ext.alloc g w (.cells cur e) (some sl)
  have x2 := Ext.push (g.new w.heap.size (some sl)) (w.alloc (.cells cur e)) 0 (.slice (some ⟨w.heap.size, 0, none⟩) n cap) n
  have hn : g.n = st.length := hst.n
  refine ⟨_, x1.trans x2, h1.push ?_ ?_, by simp [G.push, G.new, hn], by simp [G.push, G.new, hn], by simp [G.push, G.new, hn], by simp [G.push, G.new]⟩
  · have tip : SimTip T ((g.new w.heap.size (some sl)).push 0 (.slice (some ⟨w.heap.size, 0, none⟩) n cap) n) (w.alloc (.cells cur e)) (g.new w.heap.size (some sl)).n e n sl (cur.toList.take (n * (T e).size)) := by
      refine ⟨by simp [G.push], ?_, .inr ⟨w.heap.size, cap, cur, by simp [G.push], by simp [G.push, G.new], heap_alloc_new w _, hnc, hcm, hcs, rfl⟩⟩
      have := Nat.mul_le_mul_right (T e).size hnc
      simp; omega
    rcases hent with ⟨rfl, rfl⟩ | ⟨c, rfl, rfl, rfl, c1, c2, c3⟩
    · exact ⟨_, tip⟩
    · exact ⟨rfl, c1, _, tip, c2.ext (x1.trans x2), c3⟩
  · intro c' hc' i ei hi hb
    have hc' : c' = w.heap.size := by
      rcases hent with ⟨rfl, rfl⟩ | ⟨c, rfl, _⟩ <;> simp [blkOf, G.push, Value.ownBlock] at hc' <;> omega
    subst hc'
    have : blkOf g i ei = some w.heap.size := by cases ei <;> exact hb
    have := hst.blk_lt hi this
    omega

theorem s_buildSlice (hT : Tab P T) {g : G} {w : World} {st : St} (hst : SimSt T g st w) {ρ : Operand → Value} {t : TypeId} {n : Nat} {parts : Array (Nat × Operand)} {v : V} {st' : St} {side : Prop} {ev : Operand → V} (hev : ∀ x, SimV g w (ev x) (ρ x))
    (h : memOp T an dst (.buildSlice t n parts) ev st = some (v, st', side)) : Did P T ρ ⟨dst, .buildSlice t n parts, ty, pos, aft, gd⟩ g w v st' := by
  simp only [memOp] at h
  split at h
  case h_2 => simp at h
  rename_i e hk
  split at h
  case isFalse => simp at h
  rename_i hsz
  obtain ⟨hsz, hbig⟩ := hsz
  have hke := sized_kind (i := T e) (by simp [hsz])
  split at h
  case h_2 => simp at h
  rename_i rows hrows
  have hu := hT.slice hk
  have hu' : (underlying t).run P w = .ok (.slice e) w := by simp [underlying, hu]
  obtain ⟨i, i1, i2, i3, i4⟩ := hT.info hke.1
  have hok := hT e hke.1
  have hso := hT.sizeOf hke.1 w
  have hz : (zeroValue e).run P w = .ok (T e).zval w := by simp [zeroValue, typeInfo, i1, i2]
  obtain ⟨vout, k1, k2, k3⟩ := litRows_sound (T e) n hok.2.2.2.1 (g := g) (w := w) hok.2.2.1 (parts.toList.reverse.map fun p => (p.1, ev p.2)) (parts.toList.reverse.map fun p => (p.1, ρ p.2)) rows (by simp)
    (fun j a b ha hb => by
      simp only [List.getElem?_map, Option.map_eq_some_iff] at ha hb
      obtain ⟨x, hx, rfl⟩ := ha
      obtain ⟨y, hy, rfl⟩ := hb
      rw [hx] at hy; cases hy
      exact ⟨rfl, hev _⟩) hrows
  obtain ⟨l1, l2⟩ := litRows_len _ rows hok.2.2.2.1 hrows
  have hvl : vout.length = n * (T e).size := by rw [k2.length, flatten_len rows l2, l1]
  have hrun : (execOp ρ ⟨dst, .buildSlice t n parts, ty, pos, aft, gd⟩).run P w = .ok (.value (.slice (some ⟨w.heap.size, 0, none⟩) n n)) (w.alloc (.cells vout.toArray e)) := by
    have hrev : (parts.toList.reverse.map fun p => (p.1, ρ p.2)).reverse = parts.toList.map fun p => (p.1, ρ p.2) := by simp
    rw [hrev] at k1
    have hcells := zval_cells hok
    have hzl : ((T e).zero.map V.raw).length = (T e).size := by simpa using hok.2.2.2.1
    have hne : (T e).zero.map V.raw ≠ [] := by intro h0; rw [h0] at hzl; simp at hzl; exact hke.2 hzl.symm
    have hzs := zeros_list ((T e).zero.map V.raw) n hne
    rw [hzl] at hzs
    simp only [execOp, Instr.buildSlice, Sem.run_bind, hu', Result.andThen_ok, hso]
    rw [show (16777216 : Nat) = 2 ^ 24 by rfl] at hbig
    rw [if_neg (by omega)]
    by_cases hn0 : n * (T e).size = 0
    · have hn : n = 0 := by
        rcases Nat.mul_eq_zero.1 hn0 with h | h
        · exact h
        · exact absurd h hke.2
      subst hn
      simp only [Nat.zero_mul, if_true, Sem.run_pure, Result.andThen_ok, Sem.run_bind]
      simp only [List.replicate_zero, List.flatten_nil] at k1
      have e0 : (Array.map (fun _ => (default : Value)) (Array.range 0)) = #[] := by simp
      simp [k1, newRow, e0]
    · rw [if_neg hn0]
      simp only [Sem.run_bind, hz, Result.andThen_ok, Sem.run_pure, hcells, hzs]
      simp [k1, newRow]
  have hnm : n ≤ maxLen := by
    have : n ≤ n * (T e).size := Nat.le_mul_of_pos_right _ (Nat.pos_of_ne_zero hke.2)
    unfold maxLen; omega
  have hsimrows : ∀ (c : List (List V)) (us : List Value) (off : Nat) (g' : G) (w' : World), (∀ r ∈ c, r.length = (T e).size) → SimAt g' w' ⟨w.heap.size, off, none⟩ c.flatten → SimRows g' w' ⟨w.heap.size, off, none⟩ (T e).size c := by
    intro c
    induction c with
    | nil => intro us off g' w' _ _; simp [SimRows]
    | cons r rs ih =>
      intro us off g' w' hl hs
      have hr := hl r (by simp)
      simp only [SimRows]
      rw [List.flatten_cons] at hs
      have h1 := hs.take r.length
      rw [List.take_left] at h1
      have h2 := hs.drop r.length rfl
      rw [List.drop_left, hr] at h2
      refine ⟨hr, h1, ?_⟩
      have e1 : (Addr.mk w.heap.size off none).add (T e).size = ⟨w.heap.size, off + (T e).size, none⟩ := Addr.add_eq rfl _
      rw [e1] at h2 ⊢
      exact ih us _ g' w' (fun x hx => hl x (by simp [hx])) h2
  split at h <;> simp only [Option.some.injEq, Prod.mk.injEq] at h <;> obtain ⟨rfl, rfl, rfl⟩ := h
  · have hs := newSealed (g := g) (w := w) e k2 k3
    refine ⟨_, _, _, _, hrun, .inl rfl, ?_, hst.alloc _ none, Ext.alloc g w _ none⟩
    simp only [SimV]
    refine ⟨some ⟨w.heap.size, 0, none⟩, n, by rw [l1], by rw [l1]; exact Nat.le_refl _, hnm, by simp, .inr rfl, by simp, ?_⟩
    exact hsimrows rows [] 0 _ _ l2 hs
  · obtain ⟨g', x, s, e1, e2, e3, e4⟩ := hst.newTip (e := e) (n := n) (cap := n) (cur := vout.toArray) (sl := n * (T e).size) (ent := .tip e n) (Nat.le_refl _) hnm (by simpa using hvl) (.inl ⟨rfl, rfl⟩)
    refine ⟨_, _, _, g', hrun, .inl rfl, ?_, s, x⟩
    simp only [SimV]
    refine ⟨some ⟨w.heap.size, 0, none⟩, n, by rw [l1], by rw [l1]; exact Nat.le_refl _, hnm, by simp, .inr rfl, fun k hk => ?_, ?_⟩
    · cases hk
      exact ⟨by omega, by rw [e2, l1]; exact Nat.le_refl _, fun _ => e3⟩
    · refine hsimrows rows [] 0 _ _ l2 ?_
      have k2' := k2.ext x
      have key : ∀ (c : List V) (us : List Value) (off : Nat), SimVs g' (w.alloc (.cells vout.toArray e)) c us → off + us.length = n * (T e).size → (∀ j u, us[j]? = some u → vout[off + j]? = some u) → SimAt g' (w.alloc (.cells vout.toArray e)) ⟨w.heap.size, off, none⟩ c := by
        intro c
        induction c with
        | nil => intro us off _ _ _; simp [SimAt]
        | cons y ys ih =>
          intro us off q1 q2 q3
          simp only [SimVs] at q1
          obtain ⟨z, r, rfl, q4, q5⟩ := q1
          have hv : vout[off]? = some z := by simpa using q3 0 z (by simp)
          simp only [SimAt]
          refine ⟨⟨z, ⟨rfl, by simp, fun k hk => ?_⟩, by simpa using hv, k3 z (List.mem_of_getElem? hv), q4⟩, ?_⟩
          · simp only at hk ⊢
            rw [e4] at hk; cases hk
            simp at q2; omega
          · have e : (Addr.mk w.heap.size off none).add 1 = ⟨w.heap.size, off + 1, none⟩ := Addr.add_eq rfl 1
            rw [e]
            exact ih r (off + 1) q5 (by simp at q2; omega) fun j u hj => by
              have := q3 (j + 1) u (by simpa using hj)
              rw [show off + (j + 1) = off + 1 + j by omega] at this; exact this
      exact key _ vout 0 k2' (by omega) (by simp)
  · have htk : vout.toArray.toList.take (n * (T e).size) = vout := by simp; rw [← hvl]; simp
    obtain ⟨g', x, s, e1, e2, e3, e4⟩ := hst.newTip (e := e) (n := n) (cap := n) (cur := vout.toArray) (sl := 0) (ent := .arr e (T e).size rows) (Nat.le_refl _) hnm (by simpa using hvl)
      (.inr ⟨rows, rfl, l1, rfl, l2, by rw [htk]; exact k2, by rw [htk]; exact k3⟩)
    refine ⟨_, _, _, g', hrun, .inl rfl, ?_, s, x⟩
    simp only [SimV]
    exact ⟨by omega, by rw [e2]; exact Nat.le_refl _, fun _ => e3, _, _, rfl⟩
end
end Go.Proofs.Ytlblgbfpdlfedaa.Gw

namespace Go.Proofs.Ytlblgbfpdlfedaa.Gw
open Go
set_option linter.unusedSimpArgs false

section
variable {P : Program} {T : Nat → TI} {an : Nat → Nat} {dst : Option Tmp} {ty : TypeId} {pos : String} {aft : Array Edge} {gd : Option (Nat × Bool)}

/-- One entry is another one now; all else is as it was. -/
theorem SimSt.upd {g g' : G} {st : St} {w w' : World} (hst : SimSt T g st w) {k : Nat} {ent ent' : Ent} (hk : st[k]? = some ent) (hx : Ext g w g' w') (hn : g'.n = g.n) (hpb : ∀ o, g'.pb o = g.pb o)
    (hother : ∀ o, o ≠ k → g'.len o = g.len o ∧ g'.tv o = g.tv o)
    (hb : ∀ b, b < w.heap.size → blkOf g k ent ≠ some b → (g.own b).isSome = true → w'.heap[b]? = w.heap[b]? ∧ g'.own b = g.own b)
    (he : SimE T g' w' k ent') (hblk : ∀ b, blkOf g' k ent' = some b → blkOf g k ent = some b ∨ w.heap.size ≤ b) : SimSt T g' (st.set k ent') w' := by
  have hlen : k < st.length := (List.getElem?_eq_some_iff.1 hk).1
  have bk : ∀ i ei, i ≠ k → blkOf g' i ei = blkOf g i ei := by
    intro i ei hi
    cases ei <;> simp [blkOf, hpb, (hother i hi).2]
  refine ⟨by simpa using hn.trans hst.n, fun i e hi => ?_, fun i j ei ej b hi hj k1 k2 => ?_⟩
  · by_cases hio : i = k
    · subst hio
      rw [List.getElem?_set_self hlen] at hi
      cases hi
      exact he
    · rw [List.getElem?_set_ne (by omega)] at hi
      refine (hst.ent i e hi).keep hx (hpb i) (hother i hio).1 (hother i hio).2 fun b hbb => ?_
      obtain ⟨q1, q2⟩ := (hst.ent i e hi).blk hbb
      exact hb b q1 (fun h => hio (hst.one i k e ent b hi hk hbb h)) q2
  · by_cases hi' : i = k <;> by_cases hj' : j = k
    · rw [hi', hj']
    · subst hi'
      rw [List.getElem?_set_self hlen] at hi
      cases hi
      rw [List.getElem?_set_ne (by omega)] at hj
      rw [bk j ej hj'] at k2
      rcases hblk b k1 with h | h
      · exact hst.one i j ent ej b hk hj h k2
      · have := hst.blk_lt hj k2; omega
    · subst hj'
      rw [List.getElem?_set_self hlen] at hj
      cases hj
      rw [List.getElem?_set_ne (by omega)] at hi
      rw [bk i ei hi'] at k1
      rcases hblk b k2 with h | h
      · exact hst.one i j ei ent b hi hk k1 h
      · have := hst.blk_lt hi k1; omega
    · rw [List.getElem?_set_ne (by omega)] at hi hj
      rw [bk i ei hi'] at k1
      rw [bk j ej hj'] at k2
      exact hst.one i j ei ej b hi hj k1 k2

/-- The ghost behind an append: the tip has another value and count; its block so many sealed cells. -/
def G.grow (g : G) (k : Nat) (v : Value) (n : Nat) (b : Option Nat) (c : Nat) (sl : Nat) : G :=
  { g with len := fun o => if o = k then n else g.len o, tv := fun o => if o = k then v else g.tv o, own := fun x => if x = c then some sl else if some x = b then none else g.own x }

/-- What is grown: the real step, for a tip whose real rows are xs. -/
theorem grow_step (hT : Tab P T) {g : G} {w : World} {st : St} (hst : SimSt T g st w) {k : Nat} {ent : Ent} (hk : st[k]? = some ent) (hbo : blkOf g k ent = (g.tv k).ownBlock) {e : TypeId} {n sl : Nat} {xs : List Value}
    (hke : (T e).kind ≠ .other) (_hsz : (T e).size ≠ 0) (htip : SimTip T g w k e n sl xs) {t xt : TypeId} {d : TypeDesc} (ht : P.underlying t = some (.slice e)) (hxt : P.underlying xt = some d) (hd : d = .string ∨ ∃ e', d = .slice e')
    {u : Value} {m : Nat} {news : List Value} (hf : Feeds P u (T e).size m news w) (hbound : (n + m) * (T e).bytes ≤ 140737488355328) (hbb : (T e).bytes ≠ 0) (sl' : Nat) (hsl : sl = 0 ∨ sl = n * (T e).size ∧ sl' = (n + m) * (T e).size) (hsl' : sl ≤ sl') :
    ∃ v' w' g', (Builtin.append_ #[t, xt] ty #[g.tv k, u]).run P w = .ok v' w' ∧ Ext g w g' w' ∧ g'.n = g.n ∧ (∀ o, g'.pb o = g.pb o) ∧ (∀ o, o ≠ k → g'.len o = g.len o ∧ g'.tv o = g.tv o) ∧ g'.tv k = v' ∧ g'.len k = n + m ∧
      (∀ b, b < w.heap.size → blkOf g k ent ≠ some b → (g.own b).isSome = true → w'.heap[b]? = w.heap[b]? ∧ g'.own b = g.own b) ∧
      (∃ xs', SimTip T g' w' k e (n + m) sl' xs' ∧ xs' = xs ++ news) ∧ (∀ b, v'.ownBlock = some b → blkOf g k ent = some b ∨ w.heap.size ≤ b) ∧
      (∃ a cap, v' = .slice a (n + m) cap ∧ n + m ≤ cap ∧ cap ≤ maxLen ∧ (a = none → cap = 0) ∧ (a.getD ⟨0, 0, none⟩).spot = none ∧ (∀ y, a = some y → y.off = 0 ∧ ∃ cur, w'.heap[y.block]? = some (.cells cur e (0, 0)) ∧ g'.own y.block = some sl' ∧ cur.toList.take ((n + m) * (T e).size) = xs ++ news)) := by
  have hkn : k < g.n := by rw [hst.n]; exact (List.getElem?_eq_some_iff.1 hk).1
  obtain ⟨i, i1, i2, i3, i4⟩ := hT.info hke
  have hnm : n + m ≤ (n + m) * (T e).bytes := Nat.le_mul_of_pos_right _ (Nat.pos_of_ne_zero hbb)
  have hmax : n + m ≤ maxLen := by unfold maxLen; omega
  have hzl : (T e).zval.cells.size = (T e).size := by
    have hok := hT e hke
    rw [zval_cells hok]; simpa using hok.2.2.2.1
  have hf' : Feeds P u i.size m news w := by rw [i3]; exact hf
  obtain ⟨t1, t2, t3⟩ := htip
  have grown : ∀ (cap0 : Nat) (ob : Option Nat), (g.tv k).ownBlock = ob → (∀ b, ob = some b → b < w.heap.size) → n ≤ n + m → xs.length = n * (T e).size →
      (Builtin.append_ #[t, xt] ty #[g.tv k, u]).run P w = .ok (.slice (some ⟨w.heap.size, 0, none⟩) (n + m) (grownCap w (n + m) cap0 e)) (w.drew.alloc (.cells (xs.toArray ++ news.toArray ++ Builtin.zeroCells (T e).zval.cells (grownCap w (n + m) cap0 e - (n + m))) e)) →
      ∃ v' w' g', (Builtin.append_ #[t, xt] ty #[g.tv k, u]).run P w = .ok v' w' ∧ Ext g w g' w' ∧ g'.n = g.n ∧ (∀ o, g'.pb o = g.pb o) ∧ (∀ o, o ≠ k → g'.len o = g.len o ∧ g'.tv o = g.tv o) ∧ g'.tv k = v' ∧ g'.len k = n + m ∧
      (∀ b, b < w.heap.size → blkOf g k ent ≠ some b → (g.own b).isSome = true → w'.heap[b]? = w.heap[b]? ∧ g'.own b = g.own b) ∧
      (∃ xs', SimTip T g' w' k e (n + m) sl' xs' ∧ xs' = xs ++ news) ∧ (∀ b, v'.ownBlock = some b → blkOf g k ent = some b ∨ w.heap.size ≤ b) ∧
      (∃ a cap, v' = .slice a (n + m) cap ∧ n + m ≤ cap ∧ cap ≤ maxLen ∧ (a = none → cap = 0) ∧ (a.getD ⟨0, 0, none⟩).spot = none ∧ (∀ y, a = some y → y.off = 0 ∧ ∃ cur, w'.heap[y.block]? = some (.cells cur e (0, 0)) ∧ g'.own y.block = some sl' ∧ cur.toList.take ((n + m) * (T e).size) = xs ++ news)) := by
    intro cap0 ob hob hobl _ hxl hrun
    have hge := grownCap_ge w (n + m) cap0 e
    have hcm : grownCap w (n + m) cap0 e ≤ maxLen := grownCap_le_maxLen w (n + m) cap0 e hmax
    have hcs : (xs.toArray ++ news.toArray ++ Builtin.zeroCells (T e).zval.cells (grownCap w (n + m) cap0 e - (n + m))).size = grownCap w (n + m) cap0 e * (T e).size := by
      simp only [Array.size_append, List.size_toArray, size_zeroCells, hzl, hxl, hf.len, ← Nat.add_mul]
      congr 1; omega
    have htk : (xs.toArray ++ news.toArray ++ Builtin.zeroCells (T e).zval.cells (grownCap w (n + m) cap0 e - (n + m))).toList.take ((n + m) * (T e).size) = xs ++ news := by
      have hlen : (xs ++ news).length = (n + m) * (T e).size := by rw [List.length_append, hxl, hf.len, Nat.add_mul]
      simp only [Array.toList_append, ← hlen]
      rw [List.take_left]
    have hnew : (w.drew.alloc (.cells (xs.toArray ++ news.toArray ++ Builtin.zeroCells (T e).zval.cells (grownCap w (n + m) cap0 e - (n + m))) e)).heap[w.heap.size]? = some (.cells (xs.toArray ++ news.toArray ++ Builtin.zeroCells (T e).zval.cells (grownCap w (n + m) cap0 e - (n + m))) e (0, 0)) := heap_alloc_new w.drew _
    have hold : ∀ b, b < w.heap.size → (w.drew.alloc (.cells (xs.toArray ++ news.toArray ++ Builtin.zeroCells (T e).zval.cells (grownCap w (n + m) cap0 e - (n + m))) e)).heap[b]? = w.heap[b]? := fun b hb => RowKit.Below.heap_alloc w.drew _ b hb
    refine ⟨_, _, g.grow k (.slice (some ⟨w.heap.size, 0, none⟩) (n + m) (grownCap w (n + m) cap0 e)) (n + m) ob w.heap.size sl', hrun, ?_, rfl, fun _ => rfl, fun o ho => ?_, ?_, ?_, ?_, ?_, ?_, ?_⟩
    · refine ⟨rfl, rfl, rfl, by simp, Nat.le_refl _, fun _ _ => rfl, fun o _ => ?_, fun o _ ho => ?_, fun b hb hb' => ⟨hold b hb, ?_⟩, fun b k' hb hb' => ⟨fun off _ => cell_of_block (hold b hb), fun k'' hk'' => ?_⟩⟩
      · simp only [G.grow]; split
        · rename_i h; subst h; omega
        · exact Nat.le_refl _
      · by_cases hok : o = k
        · subst hok
          simp only [G.grow, if_true] at ho ⊢
          have hm0 : m = 0 := by omega
          rcases t3 with ⟨h0, h1⟩ | ⟨b, cap, cur, h1, h2, h3, h4, _⟩
          · exfalso
            rw [h1] at hrun
            have hf0 : Feeds P u i.size 0 news w := hm0 ▸ hf'
            have hz := run_append_zero w t xt ty e i d ht hxt hd i1 hf0
            rw [hz] at hrun
            simp at hrun
          · exfalso
            have hnews : news = [] := List.eq_nil_of_length_eq_zero (by rw [hf.len, hm0]; simp)
            have hfit : n * i.size + news.length ≤ cur.size := by
              rw [hnews]
              have := Nat.mul_le_mul_right (T e).size h4
              rename_i hrest
              have := hrest.2.1
              rw [i3]; simp; omega
            have hr := run_append_fits w t xt ty e i d ht hxt hd i1 b n cap cur h3 hf' (by omega) hfit
            rw [h1, hr] at hrun
            simp only [Result.ok.injEq, Value.slice.injEq, Option.some.injEq, Addr.mk.injEq] at hrun
            have := (Array.getElem?_eq_some_iff.1 h3).1
            omega
        · simp only [G.grow, if_neg hok] at ho ⊢
      · simp only [G.grow]; rw [if_neg (by omega)]; split
        · rfl
        · exact hb'
      · simp only [G.grow] at hk''
        rw [if_neg (by omega)] at hk''
        split at hk''
        · cases hk''
        · rw [hb'] at hk''; cases hk''; exact Nat.le_refl _
    · simp only [G.grow, if_neg ho]; exact ⟨trivial, trivial⟩
    · simp [G.grow]
    · simp [G.grow]
    · intro b hb hne hs
      refine ⟨hold b hb, ?_⟩
      simp only [G.grow]
      rw [if_neg (by omega), if_neg (by rw [← hob, ← hbo]; exact fun h => hne h.symm)]
    · refine ⟨_, ⟨by simp [G.grow], ?_, .inr ⟨w.heap.size, _, _, by simp [G.grow], by simp [G.grow], hnew, hge, hcm, hcs, htk⟩⟩, rfl⟩
      rw [List.length_append, hxl, hf.len, Nat.add_mul]
    · intro b hb
      simp [Value.ownBlock] at hb
      exact .inr (by omega)
    · refine ⟨_, _, rfl, hge, hcm, by simp, rfl, fun y hy => ?_⟩
      cases hy
      exact ⟨rfl, _, hnew, by simp [G.grow], htk⟩
  rcases t3 with ⟨h0, h1⟩ | ⟨b, cap, cur, h1, h2, h3, h4, h5, h6, h7⟩
  · -- nothing yet
    subst h0
    have hxs : xs = [] := List.eq_nil_of_length_eq_zero (by simpa using t2)
    subst hxs
    by_cases hm : m = 0
    · subst hm
      have hnews : news = [] := List.eq_nil_of_length_eq_zero (by simpa using hf.len)
      subst hnews
      have hz := run_append_zero w t xt ty e i d ht hxt hd i1 hf'
      refine ⟨.slice none 0 0, w, g, by rw [h1]; exact hz, Ext.refl _ _, rfl, fun _ => rfl, fun _ _ => ⟨rfl, rfl⟩, h1, t1, fun _ _ _ _ => ⟨rfl, rfl⟩, ⟨[], ⟨t1, by simp, .inl ⟨rfl, h1⟩⟩, rfl⟩, by simp [Value.ownBlock], ?_⟩
      exact ⟨none, 0, rfl, by omega, by simp [maxLen], by simp, rfl, by simp⟩
    · have hr := run_append_none w t xt ty e i _ d ht hxt hd i1 i2 hf' (by omega) (by simp at hmax; unfold maxLen at hmax; omega) (by rw [i4]; simp at hbound; omega)
      simp only [Nat.zero_add] at grown ⊢
      exact grown 0 none (by rw [h1]; rfl) (by simp) (by omega) (by simp) (by rw [h1, hr]; simp)
  · have hblt := (Array.getElem?_eq_some_iff.1 h3).1
    have hob : (g.tv k).ownBlock = some b := by rw [h1]; rfl
    by_cases hroom : n + m ≤ cap
    · have hfit : n * i.size + news.length ≤ cur.size := by
        rw [hf.len, i3, h6, ← Nat.add_mul]; exact Nat.mul_le_mul_right _ hroom
      have hr := run_append_fits w t xt ty e i d ht hxt hd i1 b n cap cur h3 hf' hroom hfit
      rw [i3] at hr hfit
      have hxl : n * (T e).size ≤ cur.toList.length := by simp; rw [h6]; exact Nat.mul_le_mul_right _ h4
      refine ⟨_, _, g.grow k (.slice (some ⟨b, 0, none⟩) (n + m) cap) (n + m) none b sl', by rw [h1]; exact hr, ?_, rfl, fun _ => rfl, fun o ho => ?_, ?_, ?_, ?_, ?_, ?_, ?_⟩
      · refine ⟨rfl, rfl, rfl, by simp, Nat.le_refl _, fun _ _ => rfl, fun o _ => ?_, fun o _ ho => ?_, fun c hc hc' => ⟨setRow_other w b c _ (fun h => by rw [h, h2] at hc'; cases hc'), ?_⟩, fun c k' hc hc' => ⟨fun off hoff => ?_, fun k'' hk'' => ?_⟩⟩
        · simp only [G.grow]; split
          · rename_i h; subst h; omega
          · exact Nat.le_refl _
        · by_cases hok : o = k
          · subst hok
            simp only [G.grow, if_true] at ho ⊢
            have : m = 0 := by omega
            subst this; rw [h1]; rfl
          · simp only [G.grow, if_neg hok] at ho ⊢
        · simp only [G.grow]
          rw [if_neg (fun h => by rw [h, h2] at hc'; cases hc'), if_neg (by simp)]; exact hc'
        · by_cases hcb : c = b
          · subst hcb
            rw [h2] at hc'; cases hc'
            simp only [World.cell?, setRow_heap w c cur _ e _ h3, h3]
            have hsln : sl ≤ n * (T e).size := by rcases hsl with h | h <;> omega
            simp only [List.append_assoc, Option.isSome_none, Bool.false_eq_true, if_false, List.getElem?_toArray]
            rw [List.getElem?_append_left (by simp at hxl ⊢; omega), List.getElem?_take, if_pos (by omega)]
            simp
          · exact cell_of_block (setRow_other w b c _ hcb)
        · simp only [G.grow] at hk''
          split at hk''
          · rename_i h; subst h
            rw [h2] at hc'; cases hc'
            cases hk''; exact hsl'
          · rw [if_neg (by simp), hc'] at hk''; cases hk''; exact Nat.le_refl _
      · simp only [G.grow, if_neg ho]; exact ⟨trivial, trivial⟩
      · simp [G.grow]
      · simp [G.grow]
      · intro c hc hne hs
        have hcb : c ≠ b := by intro h; subst h; exact hne (by rw [hbo, hob])
        refine ⟨setRow_other w b c _ hcb, ?_⟩
        simp only [G.grow]
        rw [if_neg hcb, if_neg (by simp)]
      · refine ⟨_, ⟨by simp [G.grow], ?_, .inr ⟨b, cap, _, by simp [G.grow], by simp [G.grow], setRow_heap w b cur _ e _ h3, hroom, h5, ?_, rfl⟩⟩, ?_⟩
        · rw [List.length_take]
          have h8 := Nat.mul_le_mul_right (T e).size hroom
          simp [hf.len] at hxl ⊢
          rw [Nat.add_mul] at h8 ⊢
          omega
        · simp only [List.size_toArray, List.length_append, List.length_take, List.length_drop]
          simp at hxl ⊢; omega
        · rw [h7]
          have hlen : (xs ++ news).length = (n + m) * (T e).size := by rw [List.length_append, t2, hf.len, Nat.add_mul]
          rw [← hlen]
          exact List.take_left
      · intro c hc
        simp [Value.ownBlock] at hc
        subst hc
        exact .inl (by rw [hbo, hob])
      · refine ⟨_, _, rfl, hroom, h5, by simp, rfl, fun y hy => ?_⟩
        cases hy
        refine ⟨rfl, _, setRow_heap w b cur _ e _ h3, by simp [G.grow], ?_⟩
        rw [h7]
        have hlen : (xs ++ news).length = (n + m) * (T e).size := by rw [List.length_append, t2, hf.len, Nat.add_mul]
        rw [← hlen]
        exact List.take_left
    · have holds : ∀ j u, xs[j]? = some u → w.cell? ((⟨b, 0, none⟩ : Addr).add j) = some u := by
        intro j u' hj
        rw [Addr.add_eq rfl]
        simp only [World.cell?, h3]
        rw [← h7, List.getElem?_take] at hj
        split at hj
        · simpa using hj
        · cases hj
      have hr := run_append_more w t xt ty e i _ d ht hxt hd i1 i2 ⟨b, 0, none⟩ n cap xs (by rw [i3]; exact t2) holds hf' (by omega) (by unfold maxLen at hmax; omega) (growslice_fits (by omega) (by rw [i4]; exact hbound))
      exact grown cap (some b) hob (by intro b' hb'; cases hb'; exact hblt) (by omega) t2 (by rw [h1]; exact hr)
end
end Go.Proofs.Ytlblgbfpdlfedaa.Gw

namespace Go.Proofs.Ytlblgbfpdlfedaa.Gw
open Go
set_option linter.unusedSimpArgs false

section
variable {P : Program} {T : Nat → TI} {an : Nat → Nat} {dst : Option Tmp} {ty : TypeId} {pos : String} {aft : Array Edge} {gd : Option (Nat × Bool)}

theorem at_of_block {g : G} {w : World} {b : Nat} {cur : Array Value} {e : TypeId} {fr : Nat × Nat} (hb : w.heap[b]? = some (.cells cur e fr)) {vs : List Value} (hone : ∀ u ∈ vs, u.oneCell' = true)
    (hcur : ∀ (j : Nat) (u : Value), vs[j]? = some u → cur[j]? = some u) (hsl : ∀ k, g.own b = some k → vs.length ≤ k) :
    ∀ (c : List V) (us : List Value) (off : Nat), SimVs g w c us → (∀ j u, us[j]? = some u → vs[off + j]? = some u) → SimAt g w ⟨b, off, none⟩ c := by
  have hlt := (Array.getElem?_eq_some_iff.1 hb).1
  intro c
  induction c with
  | nil => intro us off _ _; simp [SimAt]
  | cons y ys ih =>
    intro us off q1 q3
    simp only [SimVs] at q1
    obtain ⟨z, r, rfl, q4, q5⟩ := q1
    have hv : vs[off]? = some z := by simpa using q3 0 z (by simp)
    have hoff := (List.getElem?_eq_some_iff.1 hv).1
    simp only [SimAt]
    refine ⟨⟨z, ⟨rfl, hlt, fun k hk => by have := hsl k hk; simp only; omega⟩, by simp [World.cell?, hb, hcur off z hv], hone z (List.mem_of_getElem? hv), q4⟩, ?_⟩
    have e1 : (Addr.mk b off none).add 1 = ⟨b, off + 1, none⟩ := Addr.add_eq rfl 1
    rw [e1]
    exact ih r (off + 1) q5 fun j u hj => by
      have := q3 (j + 1) u (by simpa using hj)
      rw [show off + (j + 1) = off + 1 + j by omega] at this; exact this

theorem rows_of_at {g : G} {w : World} {b sz : Nat} : ∀ (c : List (List V)) (off : Nat), (∀ r ∈ c, r.length = sz) → SimAt g w ⟨b, off, none⟩ c.flatten → SimRows g w ⟨b, off, none⟩ sz c
  | [], _, _, _ => by simp [SimRows]
  | r :: rs, off, hl, hs => by
    have hr := hl r (by simp)
    simp only [SimRows]
    rw [List.flatten_cons] at hs
    have h1 := hs.take r.length
    rw [List.take_left] at h1
    have h2 := hs.drop r.length rfl
    rw [List.drop_left, hr] at h2
    refine ⟨hr, h1, ?_⟩
    have e1 : (Addr.mk b off none).add sz = ⟨b, off + sz, none⟩ := Addr.add_eq rfl _
    rw [e1] at h2 ⊢
    exact rows_of_at rs _ (fun x hx => hl x (by simp [hx])) h2

/-- The real rows of a tip are those that its value tells. -/
theorem tip_rows {g : G} {w : World} {k : Nat} {e : TypeId} {sl : Nat} {xs : List Value} {l : List (List V)} {tk : Option Nat} (h : SimV g w (.lst (T e).size tk l) (g.tv k)) (ht : SimTip T g w k e l.length sl xs) :
    SimVs g w l.flatten xs ∧ (∀ u ∈ xs, u.oneCell' = true) ∧ ∀ r ∈ l, r.length = (T e).size := by
  obtain ⟨news, hf, h2, h3⟩ := Feeds.lst (P := default) h
  obtain ⟨t1, t2, t3⟩ := ht
  rcases t3 with ⟨h0, h1⟩ | ⟨b, cap, cur, h1, k2, k3, k4, k5, k6, k7⟩
  · have hl : l = [] := List.eq_nil_of_length_eq_zero h0
    subst hl
    have : xs = [] := List.eq_nil_of_length_eq_zero (by simpa using t2)
    subst this
    exact ⟨by simp [SimVs], by simp, by simp⟩
  · have hc := hf.cells
    rw [h1] at hc
    have holds : ∀ j u, xs[j]? = some u → w.cell? ((⟨b, 0, none⟩ : Addr).add j) = some u := by
      intro j u' hj
      rw [Addr.add_eq rfl]
      simp only [World.cell?, k3]
      rw [← k7, List.getElem?_take] at hj
      split at hj
      · simpa using hj
      · cases hj
    have hr := run_firstCells_some (P := default) w (T e).size l.length ⟨b, 0, none⟩ l.length cap xs t2 holds
    rw [hr] at hc
    simp only [Result.ok.injEq, and_true] at hc
    have : xs = news := by simpa using hc
    subst this
    exact ⟨h2, hf.one, h3⟩

/-- What is appended, as rows. -/
theorem rowsOf_feeds {g : G} {w : World} {sz : Nat} {x : V} {u : Value} {m : List (List V)} (h : rowsOf sz x = some m) (hx : SimV g w x u) :
    ∃ news, Feeds P u sz m.length news w ∧ SimVs g w m.flatten news ∧ ∀ r ∈ m, r.length = sz := by
  unfold rowsOf at h
  split at h
  · simp only [Option.some.injEq] at h; subst h
    simp only [SimV] at hx; subst hx
    exact ⟨[], Feeds.nils, by simp [SimVs], by simp⟩
  · split at h
    · rename_i hs
      subst hs
      simp only [Option.some.injEq] at h; subst h
      exact Feeds.lst hx
    · simp at h
  · rename_i s
    split at h
    · rename_i hs
      subst hs
      simp only [Option.some.injEq] at h; subst h
      simp only [SimV] at hx; obtain ⟨rfl, _⟩ := hx
      refine ⟨_, by simpa using Feeds.str s, ?_, by simp⟩
      rename_i hlen; clear hlen
      have : (s.map fun b => [V.int .u8 b.toNat]).flatten = s.map fun b => V.int .u8 b.toNat := by
        induction s with
        | nil => rfl
        | cons b s ih => simp only [List.map_cons, List.flatten_cons, ih]; rfl
      rw [this]
      exact SimVs.mk_map _ _ s fun b _ => by simp [SimV]
    · simp at h
  · simp at h

theorem s_append (hT : Tab P T) {g : G} {w : World} {st : St} (hst : SimSt T g st w) {mode : Nat} {e : TypeId} (hsz : (T e).sized = true) (hbb : (T e).bytes ≠ 0) {t xt : TypeId} {d : TypeDesc} (ht : P.underlying t = some (.slice e)) (hxt : P.underlying xt = some d) (hd : d = .string ∨ ∃ e', d = .slice e')
    {s x : V} {us ux : Value} {m : List (List V)} (hs : SimV g w s us) (hx : SimV g w x ux) (hm : rowsOf (T e).size x = some m) {v : V} {st' : St} {side : Prop} (h : appendV mode e (T e) s m st = some (v, st', side)) (hside : side) :
    ∃ val w' g', (Builtin.append_ #[t, xt] ty #[us, ux]).run P w = .ok val w' ∧ SimV g' w' v val ∧ SimSt T g' st' w' ∧ Ext g w g' w' := by
  have hke := sized_kind (i := T e) (by simp [hsz])
  -- a growing list
  have tipCase : ∀ {g : G} {w : World} {st : St} {k : Nat} {l : List (List V)} {us ux : Value}, SimSt T g st w → st[k]? = some (.tip e l.length) → SimV g w (.lst (T e).size (some k) l) us → us = g.tv k → SimV g w x ux → (l.length + m.length) * (T e).bytes ≤ 140737488355328 →
      ∃ val w' g', (Builtin.append_ #[t, xt] ty #[us, ux]).run P w = .ok val w' ∧ SimV g' w' (.lst (T e).size (some k) (l ++ m)) val ∧ SimSt T g' (st.set k (.tip e (l.length + m.length))) w' ∧ Ext g w g' w' ∧
        (∃ a cap, val = .slice a (l.length + m.length) cap) := by
    intro g w st k l us ux hst hk hus hust hx hb
    subst hust
    obtain ⟨xs, htip⟩ := hst.ent k _ hk
    obtain ⟨q1, q2, q3⟩ := tip_rows hus htip
    obtain ⟨news, f1, f2, f3⟩ := rowsOf_feeds (P := P) hm hx
    obtain ⟨v', w', g', r1, r2, r3, r4, r5, r6, r7, r8, ⟨xs', r9, r10⟩, r11, ⟨a, cap, r12, r13, r14, r15, r16, r17⟩⟩ :=
      grow_step hT hst hk rfl hke.1 hke.2 htip ht hxt hd f1 hb hbb ((l.length + m.length) * (T e).size) (.inr ⟨rfl, rfl⟩) (Nat.mul_le_mul_right _ (by omega)) (ty := ty)
    have hflat : SimVs g' w' (l ++ m).flatten (xs ++ news) := by
      rw [List.flatten_append]; exact (q1.ext r2).append (f2.ext r2)
    have hones : ∀ u ∈ xs ++ news, u.oneCell' = true := by
      intro u hu
      rcases List.mem_append.1 hu with h | h
      · exact q2 u h
      · exact f1.one u h
    have hrl : ∀ r ∈ l ++ m, r.length = (T e).size := by
      intro r hr
      rcases List.mem_append.1 hr with h | h
      · exact q3 r h
      · exact f3 r h
    have hkn : k < g.n := by rw [hst.n]; exact (List.getElem?_eq_some_iff.1 hk).1
    have hlen : (xs ++ news).length = (l.length + m.length) * (T e).size := by
      rw [hflat.length, flatten_len _ hrl, List.length_append]
    refine ⟨v', w', g', r1, ?_, hst.upd hk r2 r3 r4 r5 r8 ⟨xs', r9⟩ (fun b hb' => r11 b (by rw [← r6]; exact hb')), r2, a, cap, r12⟩
    simp only [SimV]
    refine ⟨a, cap, by rw [r12, List.length_append], by rw [List.length_append]; exact r13, r14, r15, .inr r16, fun k' hk' => ?_, ?_⟩
    · cases hk'
      exact ⟨by omega, by rw [r7, List.length_append]; exact Nat.le_refl _, fun _ => r6⟩
    · cases a with
      | none =>
        have : l ++ m = [] := List.eq_nil_of_length_eq_zero (by have := r15 rfl; rw [List.length_append]; omega)
        rw [this]; simp [SimRows]
      | some y =>
        obtain ⟨y1, cur, y2, y3, y4⟩ := r17 y rfl
        simp only [Option.getD_some] at r16 ⊢
        obtain ⟨yb, yo, ys⟩ := y
        simp only at y1 y2 y3 r16
        subst y1; subst r16
        refine rows_of_at _ 0 hrl (at_of_block (vs := xs ++ news) y2 hones (fun j u hj => ?_) (fun k' hk' => ?_) _ (xs ++ news) 0 hflat (by simp))
        · rw [← y4, List.getElem?_take] at hj
          split at hj
          · simpa using hj
          · cases hj
        · rw [y3] at hk'; cases hk'; omega
  -- a growing array
  have arrCase : ∀ {g : G} {w : World} {st : St} {k : Nat} {c : List (List V)} {us ux : Value}, SimSt T g st w → st[k]? = some (.arr e (T e).size c) → us = g.tv k → SimV g w x ux → (c.length + m.length) * (T e).bytes ≤ 140737488355328 →
      ∃ val w' g', (Builtin.append_ #[t, xt] ty #[us, ux]).run P w = .ok val w' ∧ SimV g' w' (.arr k (c.length + m.length)) val ∧ SimSt T g' (st.set k (.arr e (T e).size (c ++ m))) w' ∧ Ext g w g' w' := by
    intro g w st k c us ux hst hk hust hx hb
    subst hust
    obtain ⟨-, q3, xs, htip, q1, q2⟩ := hst.ent k _ hk
    obtain ⟨news, f1, f2, f3⟩ := rowsOf_feeds (P := P) hm hx
    obtain ⟨v', w', g', r1, r2, r3, r4, r5, r6, r7, r8, ⟨xs', r9, r10⟩, r11, ⟨a, cap, r12, r13, r14, r15, r16, r17⟩⟩ :=
      grow_step hT hst hk rfl hke.1 hke.2 htip ht hxt hd f1 hb hbb 0 (.inl rfl) (Nat.le_refl _) (ty := ty)
    have hflat : SimVs g' w' (c ++ m).flatten (xs ++ news) := by
      rw [List.flatten_append]; exact (q1.ext r2).append (f2.ext r2)
    have hkn : k < g.n := by rw [hst.n]; exact (List.getElem?_eq_some_iff.1 hk).1
    subst r10
    refine ⟨v', w', g', r1, ?_, hst.upd hk r2 r3 r4 r5 r8 ⟨rfl, ?_, xs ++ news, by rw [List.length_append]; exact r9, hflat, ?_⟩ (fun b hb' => r11 b (by rw [← r6]; exact hb')), r2⟩
    · simp only [SimV]
      exact ⟨by omega, by omega, fun _ => r6, a, cap, r12⟩
    · intro r hr
      rcases List.mem_append.1 hr with h | h
      · exact q3 r h
      · exact f3 r h
    · intro u hu
      rcases List.mem_append.1 hu with h | h
      · exact q2 u h
      · exact f1.one u h
  unfold appendV at h
  split at h
  · -- nil
    simp only [SimV] at hs
    subst hs
    have x2 := Ext.push g w 0 (.slice none 0 0) 0
    have hn : g.n = st.length := hst.n
    split at h <;> simp only [Option.some.injEq, Prod.mk.injEq] at h <;> obtain ⟨rfl, rfl, rfl⟩ := h
    · have h1 : SimSt T (g.push 0 (.slice none 0 0) 0) (st ++ [.arr e (T e).size []]) w := hst.push ⟨rfl, by simp, [], ⟨by simp [G.push], by simp, .inl ⟨rfl, by simp [G.push]⟩⟩, by simp [SimVs], by simp⟩ (fun c hc => by simp [blkOf, G.push, Value.ownBlock] at hc)
      obtain ⟨val, w', g', a1, a2, a3, a4⟩ := arrCase (k := st.length) (c := []) h1 (by simp) (by simp [G.push, hn]) (hx.ext x2) (by simpa using hside) (us := .slice none 0 0)
      refine ⟨val, w', g', a1, by simpa using a2, by simpa using a3, x2.trans a4⟩
    · have h1 : SimSt T (g.push 0 (.slice none 0 0) 0) (st ++ [.tip e 0]) w := hst.push ⟨[], by simp [G.push], by simp, .inl ⟨rfl, by simp [G.push]⟩⟩ (fun c hc => by simp [blkOf, G.push, Value.ownBlock] at hc)
      obtain ⟨val, w', g', a1, a2, a3, a4, _⟩ := tipCase (k := st.length) (l := []) h1 (by simp) (us := .slice none 0 0) (by
        simp only [SimV]
        exact ⟨none, 0, rfl, by simp, by simp [maxLen], by simp, by simp, fun k hk => by cases hk; exact ⟨by simp [G.push, hn], by simp, fun _ => by simp [G.push, hn]⟩, by simp [SimRows]⟩) (by simp [G.push, hn]) (hx.ext x2) (by simpa using hside)
      refine ⟨val, w', g', a1, by simpa using a2, by simpa using a3, x2.trans a4⟩
  · rename_i sz k l
    split at h
    case h_2 => simp at h
    rename_i e' n hk
    split at h
    case isFalse => simp at h
    rename_i hee
    obtain ⟨rfl, rfl⟩ := hee
    simp only [Option.some.injEq, Prod.mk.injEq] at h
    obtain ⟨rfl, rfl, rfl⟩ := h
    obtain ⟨rfl, hb⟩ := hside
    have hlen : g.len k = l.length := by obtain ⟨xs, h, _⟩ := hst.ent k _ hk; exact h
    have hus : us = g.tv k := by
      simp only [SimV] at hs
      obtain ⟨a, cap, c1, _, _, _, _, c2, _⟩ := hs
      exact ((c2 k rfl).2.2 hlen).symm
    obtain ⟨val, w', g', a1, a2, a3, a4, _⟩ := tipCase hst hk hs hus hx hb
    exact ⟨val, w', g', a1, a2, a3, a4⟩
  · rename_i k n
    split at h
    case h_2 => simp at h
    rename_i e' sz c hk
    split at h
    case isFalse => simp at h
    rename_i hee
    obtain ⟨rfl, rfl⟩ := hee
    simp only [Option.some.injEq, Prod.mk.injEq] at h
    obtain ⟨rfl, rfl, rfl⟩ := h
    obtain ⟨rfl, hb⟩ := hside
    have hlen : g.len k = c.length := by obtain ⟨_, _, xs, h, _⟩ := hst.ent k _ hk; exact h.1
    have hus : us = g.tv k := by
      simp only [SimV] at hs
      exact (hs.2.2.1 hlen).symm
    exact arrCase hst hk hus hx hb
  · simp at h
end
end Go.Proofs.Ytlblgbfpdlfedaa.Gw

namespace Go.Proofs.Ytlblgbfpdlfedaa.Gw
open Go
set_option linter.unusedSimpArgs false

/-- Rows as bytes. -/
def bytesOf : List (List V) → Option (List UInt8)
  | [] => some []
  | [.int .u8 n] :: r => (bytesOf r).map (UInt8.ofNat n.toNat :: ·)
  | _ :: _ => none
def byteRows (s : List UInt8) : List (List V) := s.map fun b => [V.int .u8 b.toNat]

theorem byteRows_flatten : ∀ s : List UInt8, (byteRows s).flatten = s.map fun b => V.int .u8 b.toNat
  | [] => rfl
  | b :: s => by simp only [byteRows, List.map_cons, List.flatten_cons]; have := byteRows_flatten s; simp only [byteRows] at this; rw [this]; rfl
theorem ints_flatten : ∀ ns : List Int, (ns.map fun n => [V.int .u8 n]).flatten = ns.map fun n => V.int .u8 n
  | [] => rfl
  | n :: ns => by simp only [List.map_cons, List.flatten_cons]; rw [ints_flatten ns]; rfl

def convV (T : Nat → TI) (src d : TypeId) (x : V) (st : St) : Option (V × St × Prop) :=
  match (T src).kind, (T d).kind, x with
  | .int _, .int k, .int _ n => some (.int k (k.wrap n), st, True)
  | .str, .str, .str s => some (.str s, st, True)
  | .str, .slice e, .str s => match (T e).kind with
    | .int .u8 => some (.lst 1 none (byteRows s), st, True)
    | _ => none
  | .slice e, .slice _, .lst 1 (some o) l => match (T e).kind, st[o]? with
    | .int .u8, some (.tip _ n) => some (.lst 1 none l, st.set o .gone, src = d ∧ n = l.length ∧ 0 < n)
    | _, _ => none
  | .slice e, .str, .nils => match (T e).kind with
    | .int .u8 => some (.str [], st, True)
    | _ => none
  | .slice e, .str, .lst 1 _ l => match (T e).kind, bytesOf l with
    | .int .u8, some s => some (.str s, st, True)
    | _, _ => none
  | .slice e, .str, .arr o n => match (T e).kind, st[o]? with
    | .int .u8, some (.arr _ 1 c) => match bytesOf c with
      | some s => some (.str s, st, n = c.length ∧ n ≤ 9223372036854775807)
      | none => none
    | _, _ => none
  | _, _, _ => none

def moreOp (T : Nat → TI) (op : Op) (ev : Operand → V) (st : St) : Option (V × St × Prop) :=
  match op with
  | .makeSlice t x y => match (T t).kind, ev x, ev y with
    | .slice e, .int _ n, .int _ m => if (T e).sized = true then some (.arr st.length n.toNat, st ++ [.arr e (T e).size (List.replicate n.toNat (T e).zero)], n = m ∧ 0 ≤ n ∧ n ≤ 100000000000000 ∧ n * (T e).bytes ≤ 100000000000000) else none
    | _, _, _ => none
  | .convert src d x => convV T src d (ev x) st
  | .indexAddr t x i => match (T t).kind, ev x, ev i with
    | .slice e, .arr o n, .int _ k => match st[o]? with
      | some (.arr _ sz c) => if (T e).sized = true ∧ sz = (T e).size then some (.eptr o n sz k.toNat 0, st, n = c.length ∧ 0 ≤ k ∧ k < n) else none
      | _ => none
    | _, _, _ => none
  | .load t x => match ev x with
    | .eptr o n sz k off => match st[o]? with
      | some (.arr _ sz' c) => if (T t).known = true ∧ sz' = sz then (loadV (T t) ((c.getD k []).drop off)).map fun r => (r.1, st, r.2 ∧ n = c.length ∧ k < n) else none
      | _ => none
    | _ => none
  | .store t a x => match ev a with
    | .eptr o n sz k off => match st[o]?, (ev x).cells with
      | some (.arr e sz' c), some l => if (T t).known = true ∧ l.length = (T t).size ∧ sz' = sz then some (.junk, st.set o (.arr e sz (c.set k ((c.getD k []).take off ++ l ++ (c.getD k []).drop (off + l.length)))), n = c.length ∧ k < n ∧ off + l.length ≤ sz) else none
      | _, _ => none
    | _ => none
  | _ => none

section
variable {P : Program} {T : Nat → TI} {an : Nat → Nat} {dst : Option Tmp} {ty : TypeId} {pos : String} {aft : Array Edge} {gd : Option (Nat × Bool)}

theorem Tab.intk (hT : Tab P T) {t : TypeId} {k : IntKind} (h : (T t).kind = .int k) : P.underlying t = some (.int k) := by
  obtain ⟨d, hd, hk⟩ := hT.und (t := t) (by rw [h]; simp)
  rw [h] at hk
  cases d <;> simp [TK.of] at hk
  subst hk; exact hd

/-- A draw changes nothing that is spoken of. -/
theorem Ext.allocD (g : G) (w : World) (o : Obj) (k : Option Nat) : Ext g w (g.new w.heap.size k) (w.drew.alloc o) := by
  have h := Ext.alloc g w o k
  have hs : ∀ b, b < w.heap.size → (w.drew.alloc o).heap[b]? = w.heap[b]? := fun b hb => RowKit.Below.heap_alloc w.drew o b hb
  exact ⟨rfl, rfl, rfl, (by show w.heap.size ≤ (w.heap.push o).size; simp), h.n, h.pb, h.len, h.tv, fun b hb ho => ⟨hs b hb, (h.free b hb ho).2⟩,
    fun b k' hb ho => ⟨fun off _ => cell_of_block (hs b hb), (h.kept b k' hb ho).2⟩⟩
theorem SimSt.allocD {g : G} {st : St} {w : World} (h : SimSt T g st w) (o : Obj) (k : Option Nat) : SimSt T (g.new w.heap.size k) st (w.drew.alloc o) :=
  h.keep (Ext.allocD g w o k) rfl (fun _ _ => rfl) fun b hb _ => ⟨RowKit.Below.heap_alloc w.drew o b hb, by simp only [G.new]; rw [if_neg (by omega)]⟩

theorem bytesOf_ns : ∀ {l : List (List V)} {s : List UInt8}, bytesOf l = some s → ∃ ns : List Int, l = ns.map (fun n => [V.int .u8 n]) ∧ s = ns.map fun n => UInt8.ofNat n.toNat
  | [], s, h => by simp only [bytesOf, Option.some.injEq] at h; subst h; exact ⟨[], rfl, rfl⟩
  | r :: rs, s, h => by
    unfold bytesOf at h
    split at h
    · rename_i e; cases e
    · rename_i n r' e
      cases e
      cases hr : bytesOf rs with
      | none => simp [hr] at h
      | some s' =>
        simp only [hr, Option.map_some, Option.some.injEq] at h
        subst h
        obtain ⟨ns, rfl, rfl⟩ := bytesOf_ns hr
        exact ⟨n :: ns, rfl, rfl⟩
    · cases h

theorem foldl_push : ∀ (ns : List Int) (r : ByteArray), ns.foldl (fun r n => r.push (UInt8.ofNat n.toNat)) r = ⟨r.data ++ (ns.map fun n => UInt8.ofNat n.toNat).toArray⟩
  | [], r => by simp
  | n :: ns, r => by
    simp only [List.foldl_cons, List.map_cons]
    rw [foldl_push ns]
    simp [ByteArray.push]

theorem ints_sim {g : G} {w : World} : ∀ {ns : List Int} {xs : List Value}, SimVs g w (ns.map fun n => V.int .u8 n) xs → xs = ns.map (Value.int .u8)
  | [], xs, h => by simpa [SimVs] using h
  | n :: ns, xs, h => by
    simp only [List.map_cons, SimVs, SimV] at h
    obtain ⟨v, r, rfl, rfl, h⟩ := h
    rw [ints_sim h]; rfl

theorem run_back (w : World) (src dst e : TypeId) (a : Addr) (cap : Nat) (ns : List Int) (hs : P.underlying src = some (.slice e)) (he : P.underlying e = some (.int .u8)) (hd : P.underlying dst = some .string)
    (hc : ∀ j v, (ns.map (Value.int .u8))[j]? = some v → w.cell? (a.add j) = some v) :
    (convert src dst (.slice (some a) ns.length cap)).run P w = .ok (.string ⟨(ns.map fun n => UInt8.ofNat n.toNat).toArray⟩) w := by
  rw [run_convert_bytes_string w src dst e (some a) ns.length cap hs he hd]
  have hl := run_loadCells_list (P := P) w a (ns.map (Value.int .u8)) hc
  simp only [List.length_map] at hl
  rw [run_bytesToString w a ns.length cap ns hl, foldl_push]
  have he0 : ByteArray.empty.data = #[] := rfl
  rw [he0]
  simp

theorem run_back_none (w : World) (src dst e : TypeId) (n cap : Nat) (hs : P.underlying src = some (.slice e)) (he : P.underlying e = some (.int .u8)) (hd : P.underlying dst = some .string) :
    (convert src dst (.slice none n cap)).run P w = .ok (.string ⟨#[]⟩) w := by
  rw [run_convert_bytes_string w src dst e none n cap hs he hd]
  rfl

theorem rows_cells {g : G} {w : World} {ns : List Int} {a : Addr} (ha0 : (ns.map fun n => [V.int .u8 n]) = [] ∨ a.spot = none) (h : SimRows g w a 1 (ns.map fun n => [V.int .u8 n])) (j : Nat) (v : Value) (hj : (ns.map (Value.int .u8))[j]? = some v) : w.cell? (a.add j) = some v := by
  rw [List.getElem?_map] at hj
  cases hn : ns[j]? with
  | none => simp [hn] at hj
  | some n =>
    simp only [hn, Option.map_some, Option.some.injEq] at hj
    have ha := ha0.resolve_left fun e => by rw [List.map_eq_nil_iff] at e; rw [e] at hn; simp at hn
    subst hj
    obtain ⟨h1, _⟩ := h.get j ha (r := [V.int .u8 n]) (by simp [hn])
    simp only [SimAt, SimV, Nat.mul_one] at h1
    obtain ⟨⟨v, _, q, _, rfl⟩, _⟩ := h1
    exact q

theorem s_conv (hT : Tab P T) {g : G} {w : World} {st : St} (hst : SimSt T g st w) {ρ : Operand → Value} {src d : TypeId} {x : Operand} {v : V} {st' : St} {side : Prop} {ev : Operand → V} (hev : ∀ x, SimV g w (ev x) (ρ x))
    (h : convV T src d (ev x) st = some (v, st', side)) (hs : side) : Did P T ρ ⟨dst, .convert src d x, ty, pos, aft, gd⟩ g w v st' := by
  have hx := hev x
  have pureD : ∀ {val : Value}, (convert src d (ρ x)).run P w = .ok val w → SimV g w v val → st' = st → Did P T ρ ⟨dst, .convert src d x, ty, pos, aft, gd⟩ g w v st' := by
    intro val h1 h2 h3
    subst h3
    exact ⟨.value val, val, w, g, by simp [execOp, h1], .inl rfl, h2, hst, Ext.refl _ _⟩
  unfold convV at h
  split at h
  · rename_i j k j' n h1 h2 hx'
    simp only [Option.some.injEq, Prod.mk.injEq] at h
    obtain ⟨rfl, rfl, rfl⟩ := h
    rw [hx'] at hx
    simp only [SimV] at hx
    refine pureD (val := .int k (k.wrap n)) ?_ (by simp [SimV]) rfl
    rw [hx]
    simp [convert, run_underlying (hT.intk h1), run_underlying (hT.intk h2), Conv.intToInt]
  · rename_i s h1 h2 hx'
    simp only [Option.some.injEq, Prod.mk.injEq] at h
    obtain ⟨rfl, rfl, rfl⟩ := h
    rw [hx'] at hx
    have hx0 := hx
    simp only [SimV] at hx
    refine pureD (val := ρ x) ?_ hx0 rfl
    rw [hx.1]
    simp [convert, run_underlying (hT.str h1), run_underlying (hT.str h2)]
  · rename_i e s h1 h2 hx'
    split at h
    case h_2 => cases h
    rename_i he
    simp only [Option.some.injEq, Prod.mk.injEq] at h
    obtain ⟨rfl, rfl, rfl⟩ := h
    rw [hx'] at hx
    simp only [SimV] at hx
    obtain ⟨hx, hlen⟩ := hx
    have hr := run_bytes_of_string w src d e ⟨s.toArray⟩ (hT.str h1) (hT.slice h2) (hT.intk he)
    have hsz : (ByteArray.mk s.toArray).size = s.length := by simp [ByteArray.size]
    rw [hsz] at hr
    have hge := grownCap_ge w s.length 0 e
    have hle := grownCap_le_maxLen w s.length 0 e (by simpa [maxLen] using hlen)
    generalize grownCap w s.length 0 e = cap at hr hge hle
    have hb : (bytesRow ⟨s.toArray⟩ cap) = (s.map (fun b : UInt8 => Value.int .u8 b.toNat) ++ List.replicate (cap - s.length) (Value.int .u8 0)).toArray := by
      simp [bytesRow, hsz]
    generalize hB : bytesRow ⟨s.toArray⟩ cap = B at hr hb
    generalize hF : ((B.size, B.size + 1) : Nat × Nat) = F at hr
    have hst2 := hst.allocD (.cells B e F) none
    have hx2 := Ext.allocD g w (.cells B e F) none
    have hblk : (w.drew.alloc (.cells B e F)).heap[w.heap.size]? = some (.cells B e F) := heap_alloc_new w.drew _
    refine ⟨_, _, _, _, by simp only [execOp]; rw [hx, Sem.run_bind, hr]; rfl, .inl rfl, ?_, hst2, hx2⟩
    simp only [SimV]
    refine ⟨some ⟨w.heap.size, 0, none⟩, cap, by simp [byteRows], by simpa [byteRows] using hge, hle, by simp, .inr rfl, by simp, ?_⟩
    refine rows_of_at (b := w.heap.size) (byteRows s) 0 (by simp [byteRows]) ?_
    rw [byteRows_flatten]
    refine at_of_block hblk (vs := s.map fun b => Value.int .u8 b.toNat) (by simp [Value.oneCell']) (fun j u hj => ?_) (fun k hk => by simp [G.new] at hk) _ _ 0 (SimVs.mk_map (fun b : UInt8 => V.int .u8 b.toNat) (fun b : UInt8 => Value.int .u8 b.toNat) s fun b _ => by simp [SimV]) (fun j u hj => by simpa using hj)
    rw [hb]
    have := (List.getElem?_eq_some_iff.1 hj).1
    rw [List.getElem?_toArray, List.getElem?_append_left this]
    exact hj
  · rename_i e e' o l h1 h2 hx'
    split at h
    case h_2 => cases h
    rename_i n he ho
    simp only [Option.some.injEq, Prod.mk.injEq] at h
    obtain ⟨rfl, rfl, rfl⟩ := h
    obtain ⟨rfl, rfl, hpos⟩ := hs
    rw [hx'] at hx
    have hx0 := hx
    simp only [SimV] at hx
    obtain ⟨a, cap, hv, c1, c2, c3, c0, c4, c5⟩ := hx
    obtain ⟨i1, i2, i3⟩ := c4 o rfl
    obtain ⟨xs, t1, t2, t3⟩ := hst.ent o _ ho
    have htv := i3 t1
    rcases t3 with ⟨h0, _⟩ | ⟨b, cap', cur, k1, k2, k3, k4, k5, k6, k7⟩
    · omega
    have hva : ρ x = .slice (some ⟨b, 0, none⟩) l.length cap' := by rw [← htv, k1]
    have hrun : (convert src src (ρ x)).run P w = .ok (ρ x) (w.freeze ⟨b, cur.size, none⟩ 1) := by
      rw [hva]
      obtain ⟨te, hsh⟩ : ∃ te, w.shape? b = some (te, cur.size) := ⟨_, by unfold World.shape?; rw [k3]⟩
      simp [convert, run_underlying (hT.slice h1), run_underlying (hT.intk he), markStringish, hsh]
    have hfz : ∀ b', b' ≠ b → (w.freeze ⟨b, cur.size, none⟩ 1).heap[b']? = w.heap[b']? := by
      intro b' hb'
      simp [World.freeze, Array.getElem?_modify, Ne.symm hb']
    have hcell : ∀ ad, (w.freeze ⟨b, cur.size, none⟩ 1).cell? ad = w.cell? ad := by
      intro ad
      simp only [World.cell?]
      by_cases hb' : ad.block = b
      · subst hb'
        simp [World.freeze, Array.getElem?_modify, k3]
      · rw [hfz _ hb']
    have hext : Ext g w g (w.freeze ⟨b, cur.size, none⟩ 1) := by
      refine ⟨rfl, rfl, rfl, by simp [World.freeze], Nat.le_refl _, fun _ _ => rfl, fun _ _ => Nat.le_refl _, fun _ _ _ => rfl, fun b' hb' hn => ⟨hfz b' (fun e => by rw [e, k2] at hn; cases hn), hn⟩, fun b' k' hb' hk => ⟨fun off _ => hcell _, fun k'' hk' => by rw [hk] at hk'; cases hk'; exact Nat.le_refl _⟩⟩
    refine ⟨.value (ρ x), ρ x, _, g, by simp [execOp, hrun], .inl rfl, ?_, ?_, hext⟩
    · have := SimV.ext hext _ _ hx0
      simp only [SimV] at this ⊢
      obtain ⟨a, cap, q1, q2, q3, q4, q5, _, q7⟩ := this
      exact ⟨a, cap, q1, q2, q3, q4, q5, by simp, q7⟩
    · refine hst.upd ho hext rfl (fun _ => rfl) (fun _ _ => ⟨rfl, rfl⟩) (fun b' hb' hne _ => ⟨hfz b' (fun e => hne ?_), rfl⟩) trivial (by simp [blkOf])
      subst e
      simp [blkOf, k1, Value.ownBlock]
  · rename_i e h1 h2 hx'
    split at h
    case h_2 => cases h
    rename_i he
    simp only [Option.some.injEq, Prod.mk.injEq] at h
    obtain ⟨rfl, rfl, rfl⟩ := h
    rw [hx'] at hx
    simp only [SimV] at hx
    exact pureD (by rw [hx]; exact run_back_none w src d e 0 0 (hT.slice h1) (hT.intk he) (hT.str h2)) (by simp [SimV]) rfl
  · rename_i e tk l h1 h2 hx'
    split at h
    case h_2 => cases h
    rename_i s he hb
    simp only [Option.some.injEq, Prod.mk.injEq] at h
    obtain ⟨rfl, rfl, rfl⟩ := h
    rw [hx'] at hx
    simp only [SimV] at hx
    obtain ⟨a, cap, hv, c1, c2, c3, c0, c4, c5⟩ := hx
    obtain ⟨ns, rfl, rfl⟩ := bytesOf_ns hb
    have hml : maxLen = 9223372036854775807 := rfl
    simp only [List.length_map] at hv c1
    cases a with
    | none =>
      have := c3 rfl
      have hn : ns = [] := List.eq_nil_of_length_eq_zero (by omega)
      subst hn
      exact pureD (by rw [hv]; exact run_back_none w src d e _ _ (hT.slice h1) (hT.intk he) (hT.str h2)) (by simp [SimV]) rfl
    | some a =>
      simp only [Option.getD_some] at c0 c5
      exact pureD (by rw [hv]; exact run_back w src d e a cap ns (hT.slice h1) (hT.intk he) (hT.str h2) (rows_cells c0 c5)) (by simp [SimV]; omega) rfl
  · rename_i e o n h1 h2 hx'
    split at h
    case h_2 => cases h
    rename_i e' c he ho
    split at h
    case h_2 => cases h
    rename_i s hb
    simp only [Option.some.injEq, Prod.mk.injEq] at h
    obtain ⟨rfl, rfl, rfl⟩ := h
    obtain ⟨rfl, hn63⟩ := hs
    rw [hx'] at hx
    simp only [SimV] at hx
    obtain ⟨i1, i2, i3, _⟩ := hx
    obtain ⟨q1, q2, xs, ⟨t1, t2, t3⟩, q4, q5⟩ := hst.ent o _ ho
    have htv := i3 t1
    obtain ⟨ns, rfl, rfl⟩ := bytesOf_ns hb
    simp only [List.length_map] at t1 t2 t3 hn63
    have hxs : xs = ns.map (Value.int .u8) := ints_sim (by rw [← ints_flatten]; exact q4)
    rcases t3 with ⟨h0, hnil⟩ | ⟨b, cap', cur, k1, k2, k3, k4, k5, k6, k7⟩
    · have hn : ns = [] := List.eq_nil_of_length_eq_zero h0
      subst hn
      exact pureD (by rw [← htv, hnil]; exact run_back_none w src d e _ _ (hT.slice h1) (hT.intk he) (hT.str h2)) (by simp [SimV]) rfl
    · have hcells : ∀ j u, (ns.map (Value.int .u8))[j]? = some u → w.cell? ((⟨b, 0, none⟩ : Addr).add j) = some u := by
        intro j u hj
        rw [← hxs, ← k7, List.getElem?_take] at hj
        split at hj
        · rw [Addr.add_eq rfl]
          simp only [World.cell?, k3]
          simpa using hj
        · cases hj
      exact pureD (by rw [← htv, k1]; exact run_back w src d e ⟨b, 0, none⟩ cap' ns (hT.slice h1) (hT.intk he) (hT.str h2) hcells) (by simp [SimV]; omega) rfl
  · cases h

theorem flat_len {α : Type} {sz : Nat} : ∀ {c : List (List α)}, (∀ r ∈ c, r.length = sz) → c.flatten.length = c.length * sz
  | [], _ => by simp
  | r :: c, h => by
    have := flat_len (c := c) fun x hx => h x (by simp [hx])
    have h0 := h r (by simp)
    simp only [List.flatten_cons, List.length_append, List.length_cons, Nat.succ_mul, this, h0]; omega
theorem flat_split {α : Type} {c : List (List α)} {k : Nat} (hk : k < c.length) : c.flatten = (c.take k).flatten ++ c.getD k [] ++ (c.drop (k + 1)).flatten := by
  have h : c.flatten = (c.take k ++ c[k] :: c.drop (k + 1)).flatten := by rw [← List.drop_eq_getElem_cons hk, List.take_append_drop]
  have e : c.getD k [] = c[k] := by simp [List.getD_eq_getElem?_getD, List.getElem?_eq_getElem hk]
  rw [e, h]
  simp only [List.flatten_append, List.flatten_cons, List.append_assoc]
theorem flat_set {α : Type} {c : List (List α)} {k : Nat} (hk : k < c.length) (r : List α) : (c.set k r).flatten = (c.take k).flatten ++ r ++ (c.drop (k + 1)).flatten := by
  rw [List.set_eq_take_append_cons_drop, if_pos hk]
  simp [List.flatten_append]

theorem patch_take {α : Type} (cur vs : List α) (p m : Nat) (h : p + vs.length ≤ m) (hm : m ≤ cur.length) :
    (cur.take p ++ vs ++ cur.drop (p + vs.length)).take m = (cur.take m).take p ++ vs ++ (cur.take m).drop (p + vs.length) := by
  have hl : (cur.take p ++ vs).length = p + vs.length := by rw [List.length_append, List.length_take]; omega
  rw [List.take_append, List.take_of_length_le (by omega), hl, List.drop_take, List.take_take, show min p m = p by omega]

/-- What lies at an element. -/
theorem arr_row {g : G} {w : World} {c : List (List V)} {xs : List Value} {sz k : Nat} (hr : ∀ r ∈ c, r.length = sz) (hk : k < c.length) (h : SimVs g w c.flatten xs) :
    ∃ us, SimVs g w (c.getD k []) us ∧ ∀ j u, us[j]? = some u → xs[k * sz + j]? = some u := by
  have hl : ((c.take k).flatten).length = k * sz := by
    rw [flat_len (sz := sz) fun r h => hr r (List.mem_of_mem_take h), List.length_take]; congr 1; omega
  rw [flat_split hk, List.append_assoc] at h
  have h1 := h.drop (k * sz)
  rw [List.drop_append_of_le_length (by omega), List.drop_of_length_le (by omega), List.nil_append] at h1
  have h2 := h1.take (c.getD k []).length
  rw [List.take_left] at h2
  refine ⟨_, h2, fun j u hj => ?_⟩
  rw [List.getElem?_take] at hj
  split at hj
  · rw [List.getElem?_drop] at hj; exact hj
  · cases hj

theorem s_idxArr (hT : Tab P T) {g : G} {w : World} {st : St} (hst : SimSt T g st w) {ρ : Operand → Value} {t : TypeId} {x i : Operand} {v : V} {st' : St} {side : Prop} {ev : Operand → V} (hev : ∀ x, SimV g w (ev x) (ρ x))
    (h : moreOp T (.indexAddr t x i) ev st = some (v, st', side)) (hs : side) : Did P T ρ ⟨dst, .indexAddr t x i, ty, pos, aft, gd⟩ g w v st' := by
  simp only [moreOp] at h
  have hx := hev x
  have hi := hev i
  split at h
  case h_2 => cases h
  rename_i e o n kk k hk hx' hi'
  split at h
  case h_2 => cases h
  rename_i et sz c hc
  split at h
  case isFalse => cases h
  rename_i hsd
  obtain ⟨hsd, rfl⟩ := hsd
  simp only [Option.some.injEq, Prod.mk.injEq] at h
  obtain ⟨rfl, rfl, rfl⟩ := h
  obtain ⟨rfl, hk0, hkn⟩ := hs
  rw [hx'] at hx
  rw [hi'] at hi
  simp only [SimV] at hx hi
  obtain ⟨q1, q2, q3, _, _, ha⟩ := hx
  obtain ⟨m1, m2, xs, ⟨t1, t2, t3⟩, m3, m4⟩ := hst.ent o _ hc
  have htv := q3 t1
  have hu := hT.slice hk
  have hu' : (underlying t).run P w = .ok (.slice e) w := by simp [underlying, hu]
  have hso : (Go.sizeOf e).run P w = .ok (T e).size w := hT.sizeOf (sized_kind (by simp [hsd])).1 w
  rcases t3 with ⟨h0, _⟩ | ⟨b, cap', cur, k1, k2, k3, k4, k5, k6, k7⟩
  · omega
  have hv : ρ x = .slice (some ⟨b, 0, none⟩) c.length cap' := by rw [← htv, k1]
  have e0 : (Addr.mk b 0 none).add (k.toNat * (T e).size) = ⟨b, k.toNat * (T e).size + 0, none⟩ := by rw [Addr.add_eq rfl]; simp
  refine ⟨.value (.pointer (some ⟨b, k.toNat * (T e).size + 0, none⟩)), .pointer (some ⟨b, k.toNat * (T e).size + 0, none⟩), w, g, ?_, .inl rfl, by simp only [SimV]; exact ⟨q1, q2, b, rfl, fun _ => ⟨_, _, k1⟩⟩, hst, Ext.refl _ _⟩
  simp [execOp, Instr.indexAt, asIntOf, hi, hv, hu', hso, hk0, hkn, e0]

theorem s_loadArr (hT : Tab P T) {g : G} {w : World} {st : St} (hst : SimSt T g st w) {ρ : Operand → Value} {t : TypeId} {x : Operand} {v : V} {st' : St} {side : Prop} {ev : Operand → V} (hev : ∀ x, SimV g w (ev x) (ρ x))
    (h : moreOp T (.load t x) ev st = some (v, st', side)) (hs : side) : Did P T ρ ⟨dst, .load t x, ty, pos, aft, gd⟩ g w v st' := by
  simp only [moreOp] at h
  have hx := hev x
  split at h
  case h_2 => cases h
  rename_i o n sz k off hx'
  split at h
  case h_2 => cases h
  rename_i e sz' c hc
  split at h
  case isFalse => cases h
  rename_i hk
  obtain ⟨hk, rfl⟩ := hk
  cases hl : loadV (T t) ((c.getD k []).drop off) with
  | none => rw [hl] at h; cases h
  | some r =>
    rw [hl] at h
    simp only [Option.map_some, Option.some.injEq, Prod.mk.injEq] at h
    obtain ⟨rfl, rfl, rfl⟩ := h
    obtain ⟨hs, rfl, hkn⟩ := hs
    rw [hx'] at hx
    simp only [SimV] at hx
    obtain ⟨q1, q2, b, hv, q3⟩ := hx
    obtain ⟨m1, m2, xs, ⟨t1, t2, t3⟩, m3, m4⟩ := hst.ent o _ hc
    obtain ⟨m, cap, htv⟩ := q3 t1
    obtain ⟨us, u1, u2⟩ := arr_row m2 hkn m3
    rcases t3 with ⟨h0, _⟩ | ⟨b', cap', cur, k1, k2, k3, k4, k5, k6, k7⟩
    · omega
    rw [htv] at k1
    cases k1
    have hcell : ∀ j u, (us.drop off)[j]? = some u → w.cell? ((Addr.mk b (k * sz' + off) none).add j) = some u := by
      intro j u hj
      rw [List.getElem?_drop] at hj
      have := u2 _ _ hj
      rw [← k7, List.getElem?_take] at this
      split at this
      · rw [Addr.add_eq rfl]
        simp only [World.cell?, k3]
        rw [show k * sz' + off + j = k * sz' + (off + j) by omega]
        simpa using this
      · cases this
    have hone : ∀ u ∈ us.drop off, u.oneCell' = true := by
      intro u hu
      obtain ⟨j, hj⟩ := List.mem_iff_getElem?.1 (List.mem_of_mem_drop hu)
      exact m4 u (List.mem_of_getElem? (u2 _ _ hj))
    obtain ⟨val, r1, r2⟩ := load_cells hT (known_kind hk) (u1.drop off) hone hcell hl hs
    exact ⟨_, val, w, g, by simp [execOp, Instr.loadAt, Instr.sureAddr, hv, r1], .inl rfl, r2, hst, Ext.refl _ _⟩

theorem s_storeArr (hT : Tab P T) {g : G} {w : World} {st : St} (hst : SimSt T g st w) {ρ : Operand → Value} {t : TypeId} {a x : Operand} {v : V} {st' : St} {side : Prop} {ev : Operand → V} (hev : ∀ x, SimV g w (ev x) (ρ x))
    (h : moreOp T (.store t a x) ev st = some (v, st', side)) (hs : side) : Did P T ρ ⟨dst, .store t a x, ty, pos, aft, gd⟩ g w v st' := by
  simp only [moreOp] at h
  have ha := hev a
  split at h
  case h_2 => cases h
  rename_i o n sz k off ha'
  split at h
  case h_2 => cases h
  rename_i e sz' c l hc hl
  split at h
  case isFalse => cases h
  rename_i hk
  obtain ⟨hk, hlen, rfl⟩ := hk
  simp only [Option.some.injEq, Prod.mk.injEq] at h
  obtain ⟨rfl, rfl, rfl⟩ := h
  obtain ⟨rfl, hkn, hoff⟩ := hs
  rw [ha'] at ha
  simp only [SimV] at ha
  obtain ⟨q1, q2, b, hv, q3⟩ := ha
  obtain ⟨m1, m2, xs, ⟨t1, t2, t3⟩, m3, m4⟩ := hst.ent o _ hc
  obtain ⟨m, cap, htv⟩ := q3 t1
  rcases t3 with ⟨h0, _⟩ | ⟨b', cap', cur, k1, k2, k3, k4, k5, k6, k7⟩
  · omega
  have hbb : b = b' := by rw [htv] at k1; cases k1; rfl
  subst hbb
  obtain ⟨p1, p2⟩ := cells_sim hl (hev x)
  have hcl : (ρ x).cells.toList.length = l.length := p1.length
  have hrow : (c.getD k []).length = sz' := by
    refine m2 _ ?_
    rw [List.getD_eq_getElem?_getD, List.getElem?_eq_getElem hkn]; exact List.getElem_mem hkn
  have hkm : k * sz' + sz' ≤ c.length * sz' := by
    have := Nat.mul_le_mul_right sz' (show k + 1 ≤ c.length by omega)
    rw [Nat.succ_mul] at this; exact this
  have hkm2 : c.length * (T e).size ≤ cap' * (T e).size := Nat.mul_le_mul_right _ k4
  have hrun := run_storeCells_at P b (k * sz' + off) e (ρ x).cells.toList 0 cur w k3 (by rw [hcl, k6, ← m1]; rw [← m1] at hkm2; omega) p2
  simp only [Nat.add_zero, hcl] at hrun
  generalize hcur : (cur.toList.take (k * sz' + off) ++ (ρ x).cells.toList ++ cur.toList.drop (k * sz' + off + l.length)).toArray = cur' at hrun
  have hx2 : Ext g w g (w.setRow b cur') := by
    refine ⟨rfl, rfl, rfl, by simp, Nat.le_refl _, fun _ _ => rfl, fun _ _ => Nat.le_refl _, fun _ _ _ => rfl, fun b2 hb2 hn => ⟨setRow_other w _ b2 _ (fun e' => by rw [e', k2] at hn; cases hn), hn⟩, fun b2 k' hb2 hk2 => ⟨fun o2 ho2 => ?_, fun k'' hk'' => by rw [hk2] at hk''; cases hk''; exact Nat.le_refl _⟩⟩
    by_cases e' : b2 = b
    · subst e'; rw [k2] at hk2; cases hk2; omega
    · exact cell_of_block (setRow_other w _ b2 _ e')
  have hl0 : ((c.take k).flatten).length = k * sz' := by
    rw [flat_len (sz := sz') fun r h => m2 r (List.mem_of_mem_take h), List.length_take]; congr 1; omega
  have hxl : xs.length = c.length * sz' := by rw [t2, m1]
  have hnew : SimVs g w (c.set k ((c.getD k []).take off ++ l ++ (c.getD k []).drop (off + l.length))).flatten (xs.take (k * sz' + off) ++ (ρ x).cells.toList ++ xs.drop (k * sz' + off + l.length)) := by
    have e1 : (c.set k ((c.getD k []).take off ++ l ++ (c.getD k []).drop (off + l.length))).flatten = c.flatten.take (k * sz' + off) ++ l ++ c.flatten.drop (k * sz' + off + l.length) := by
      rw [flat_set hkn]
      conv => rhs; rw [flat_split hkn]
      generalize (c.take k).flatten = A at hl0
      generalize (c.drop (k + 1)).flatten = B
      generalize c.getD k [] = R at hrow
      rw [← hl0]
      simp only [List.append_assoc]
      rw [List.take_length_add_append, Nat.add_assoc, List.drop_length_add_append, List.take_append_of_le_length (by omega), List.drop_append_of_le_length (by omega)]
      simp
    rw [e1]
    exact ((m3.take _).append p1).append (m3.drop _)
  have hone : ∀ u ∈ xs.take (k * sz' + off) ++ (ρ x).cells.toList ++ xs.drop (k * sz' + off + l.length), u.oneCell' = true := by
    intro u hu
    simp only [List.mem_append] at hu
    rcases hu with (hu | hu) | hu
    · exact m4 u (List.mem_of_mem_take hu)
    · exact p2 u hu
    · exact m4 u (List.mem_of_mem_drop hu)
  have hset : SimE T g (w.setRow b cur') o (.arr e sz' (c.set k ((c.getD k []).take off ++ l ++ (c.getD k []).drop (off + l.length)))) := by
    refine ⟨m1, ?_, _, ?_, hnew.ext hx2, hone⟩
    · intro r hr
      rcases List.mem_or_eq_of_mem_set hr with hr | rfl
      · exact m2 r hr
      · simp only [List.length_append, List.length_take, List.length_drop, hrow]; omega
    · refine ⟨by simpa using t1, ?_, .inr ⟨b, cap', cur', by simpa using k1, k2, setRow_heap w _ _ _ _ _ k3, by simpa using k4, k5, ?_, ?_⟩⟩
      · simp only [List.length_append, List.length_take, List.length_drop, List.length_set, hxl, hcl]; rw [← m1]; omega
      · rw [← hcur]; simp only [List.size_toArray, List.length_append, List.length_take, List.length_drop, Array.length_toList, hcl]; rw [← m1] at hkm2 k6 ⊢; omega
      · rw [← hcur, ← k7]
        simp only [List.length_set]
        rw [← m1] at hkm2 k6 ⊢
        have := patch_take cur.toList (ρ x).cells.toList (k * sz' + off) (c.length * sz') (by omega) (by simpa [k6] using hkm2)
        rw [hcl] at this
        exact this
  refine ⟨.skip, undef, _, g, ?_, .inr ⟨rfl, rfl⟩, by simp [SimV], ?_, hx2⟩
  · have hso := hT.sizeOf (known_kind hk) w
    have hcs : (ρ x).cells.size = (T t).size := by rw [← hlen, ← hcl]; simp
    simp [execOp, Instr.storeAt, Instr.sureAddr, hv, storeVar, hso, hcs, hrun]
  · refine hst.upd hc hx2 rfl (fun _ => rfl) (fun _ _ => ⟨rfl, rfl⟩) (fun b2 hb2 hne _ => ⟨setRow_other w _ b2 _ (fun e' => hne ?_), rfl⟩) hset (fun b2 hb2 => .inl hb2)
    subst e'
    simp [blkOf, k1, Value.ownBlock]

theorem s_makeSlice (hT : Tab P T) {g : G} {w : World} {st : St} (hst : SimSt T g st w) {ρ : Operand → Value} {t : TypeId} {x y : Operand} {v : V} {st' : St} {side : Prop} {ev : Operand → V} (hev : ∀ x, SimV g w (ev x) (ρ x))
    (h : moreOp T (.makeSlice t x y) ev st = some (v, st', side)) (hs : side) : Did P T ρ ⟨dst, .makeSlice t x y, ty, pos, aft, gd⟩ g w v st' := by
  simp only [moreOp] at h
  split at h
  case h_2 => cases h
  rename_i e k1 n k2 m hk hx hy
  split at h
  case isFalse => cases h
  rename_i hsz
  simp only [Option.some.injEq, Prod.mk.injEq] at h
  obtain ⟨rfl, rfl, rfl⟩ := h
  obtain ⟨rfl, h0, hn, hb⟩ := hs
  have hke := sized_kind (i := T e) (by simp [hsz])
  have hu := hT.slice hk
  obtain ⟨i, i1, i2, i3, i4⟩ := hT.info hke.1
  have hok := hT e hke.1
  have hvx := hev x
  have hvy := hev y
  rw [hx] at hvx
  rw [hy] at hvy
  simp only [SimV] at hvx hvy
  have hcells := zval_cells hok
  have hzl : ((T e).zero.map V.raw).length = (T e).size := by simpa using hok.2.2.2.1
  have hne : (T e).zero.map V.raw ≠ [] := by intro h0; rw [h0] at hzl; simp at hzl; exact hke.2 hzl.symm
  have hzs := zeros_list ((T e).zero.map V.raw) n.toNat hne
  rw [hzl] at hzs
  have hrun : (execOp ρ ⟨dst, .makeSlice t x y, ty, pos, aft, gd⟩).run P w = .ok (.value (.slice (some ⟨w.heap.size, 0, none⟩) n.toNat n.toNat)) (w.alloc (.cells ((List.replicate n.toNat ((T e).zero.map V.raw)).flatten.toArray) e)) := by
    simp only [execOp, hvx, hvy, Sem.run_bind]
    rw [run_make w t e i _ hu i1 i2 _ _ n n h0 (Int.le_refl _) (by rw [i4, Int.mul_comm]; omega) (by omega)]
    simp only [Result.andThen_ok, Sem.run_pure, madeCells, hcells, i3, hzs]
  have hlr : ∀ r ∈ List.replicate n.toNat (T e).zero, r.length = (T e).size := fun r hr => by rw [List.eq_of_mem_replicate hr]; exact hok.2.2.2.1
  have hsv : SimVs g w (List.replicate n.toNat (T e).zero).flatten (List.replicate n.toNat ((T e).zero.map V.raw)).flatten := SimVs.repl (raws_sim _ hok.2.2.1) _
  have hvl : ((List.replicate n.toNat ((T e).zero.map V.raw)).flatten).length = n.toNat * (T e).size := by rw [hsv.length, flatten_len _ hlr, List.length_replicate]
  have htk : ((List.replicate n.toNat ((T e).zero.map V.raw)).flatten.toArray.toList).take (n.toNat * (T e).size) = (List.replicate n.toNat ((T e).zero.map V.raw)).flatten := by
    rw [List.toList_toArray, ← hvl, List.take_length]
  obtain ⟨g', xx, s, e1, e2, e3, e4⟩ := hst.newTip (e := e) (n := n.toNat) (cap := n.toNat) (cur := (List.replicate n.toNat ((T e).zero.map V.raw)).flatten.toArray) (sl := 0) (ent := .arr e (T e).size (List.replicate n.toNat (T e).zero)) (Nat.le_refl _) (by unfold maxLen; omega) (by simpa using hvl)
    (.inr ⟨_, rfl, List.length_replicate, rfl, hlr, by rw [htk]; exact hsv, by
      rw [htk]
      intro u hu
      simp only [List.mem_flatten] at hu
      obtain ⟨r, hr, hu⟩ := hu
      rw [List.eq_of_mem_replicate hr] at hu
      exact raws_one _ hok.2.2.1 u hu⟩)
  refine ⟨_, _, _, g', hrun, .inl rfl, ?_, s, xx⟩
  simp only [SimV]
  exact ⟨by omega, by rw [e2]; exact Nat.le_refl _, fun _ => e3, _, _, rfl⟩

theorem moreOp_sound (hT : Tab P T) {g : G} {w : World} {st : St} (hst : SimSt T g st w) {ρ : Operand → Value} {ev : Operand → V} (hev : ∀ x, SimV g w (ev x) (ρ x)) {o : Oper} {v : V} {st' : St} {side : Prop}
    (h : moreOp T o.op ev st = some (v, st', side)) (hs : side) : Did P T ρ o g w v st' := by
  obtain ⟨dst, op, ty, pos, aft, gd⟩ := o
  simp only at h
  cases op with
  | makeSlice t x y => exact s_makeSlice hT hst hev h hs
  | convert src d x => exact s_conv hT hst hev (by simpa only [moreOp] using h) hs
  | indexAddr t x i => exact s_idxArr hT hst hev h hs
  | load t x => exact s_loadArr hT hst hev h hs
  | store t a x => exact s_storeArr hT hst hev h hs
  | _ => cases h
end
end Go.Proofs.Ytlblgbfpdlfedaa.Gw

namespace Go.Proofs.Ytlblgbfpdlfedaa.Gw
open Go
set_option linter.unusedSimpArgs false

inductive VEnd where
  | ret (v : V)
  | panic (v : V)

inductive VExit where
  | normal
  | exit (id : Nat)
  | ret
  | panic (v : V)

def SimEnd (g : G) (w : World) : VEnd → Ending → Prop
  | .ret v, e => ∃ val, e = .returned val ∧ SimV g w v val
  | .panic v, e => ∃ val, e = .panicked [{ v := val, recovered := false }] ∧ SimV g w v val

def SimExit (g : G) (w : World) : VExit → Exit → Prop
  | .normal, e => e = .normal
  | .exit id, e => e = .exit id
  | .ret, e => e = .ret
  | .panic v, e => ∃ val, e = .panic [{ v := val, recovered := false }] ∧ SimV g w v val

/-- What is named is of L, and not hidden. -/
def EnvOK (L : List Nat) (env : Env) : Prop := ∀ t x, find env.g t = some x → memN L t = true ∧ env.look t = some x

def SimEnv (g : G) (w : World) (env : Env) (a : Act) : Prop :=
  a.tmps.size = env.N ∧ ∀ t c v, env.look t = some (c, v) → if c then SimV g w v (a.tmps.getD t undef) else a.tmps.getD t undef = undef

/-- A function with a body, that is entered where it is called. -/
def Enters (P : Program) (f : FuncId) : Prop := ∃ fn, P.funcs[f]? = some fn ∧ fn.body.isSome = true ∧ (fn.name == "runtime.NumGoroutine") = false

/-- A call of a function, whatever the memory: by what its arguments are read as, and the state. -/
def VCalls (P : Program) (T : Nat → TI) (f : FuncId) (args : List V) (st : St) (Q : VEnd → St → Prop) : Prop :=
  Enters P f ∧ ∀ g w (vals : List Value), SimSt T g st w → SimVs g w args vals → Calls P f vals.toArray w fun e w' => ∃ r st' g', Q r st' ∧ SimEnd g' w' r e ∧ SimSt T g' st' w' ∧ Ext g w g' w'

def Lift (T : Nat → TI) (L : List Nat) (ds : List Deferred) (g : G) (w : World) (Q : VExit → Env → St → Prop) : Exit → Act → World → Prop := fun e a' w' =>
  ∃ ve env' st' g', Q ve env' st' ∧ SimExit g' w' ve e ∧ SimEnv g' w' env' a' ∧ EnvOK L env' ∧ a'.defers = ds ∧ SimSt T g' st' w' ∧ Ext g w g' w'

/-- Code, from an environment and a state. -/
def VC (P : Program) (T : Nat → TI) (L : List Nat) (ds : List Deferred) (c : Code) (env : Env) (st : St) (Q : VExit → Env → St → Prop) : Prop :=
  ∀ g w a, SimSt T g st w → SimEnv g w env a → EnvOK L env → a.defers = ds → c.wp P (Lift T L ds g w Q) a w

theorem Lift.ext {T : Nat → TI} {L : List Nat} {ds : List Deferred} {g g' : G} {w w' : World} {Q : VExit → Env → St → Prop} (h : Ext g w g' w') {e : Exit} {a : Act} {u : World} (k : Lift T L ds g' w' Q e a u) : Lift T L ds g w Q e a u := by
  obtain ⟨ve, env', st', g2, h1, h2, h3, h0, h4, h5, h6⟩ := k
  exact ⟨ve, env', st', g2, h1, h2, h3, h0, h4, h5, h.trans h6⟩

theorem VC.mono {P : Program} {T : Nat → TI} {L : List Nat} {ds : List Deferred} {c : Code} {env : Env} {st : St} {Q Q' : VExit → Env → St → Prop} (h : VC P T L ds c env st Q) (hq : ∀ e env st, Q e env st → Q' e env st) : VC P T L ds c env st Q' :=
  fun g w a h1 h2 h3 h4 => wp_mono (h g w a h1 h2 h3 h4) fun _ _ _ ⟨ve, env', st', g', k1, k2⟩ => ⟨ve, env', st', g', hq _ _ _ k1, k2⟩

theorem VCalls.mono {P : Program} {T : Nat → TI} {f : FuncId} {args : List V} {st : St} {Q Q' : VEnd → St → Prop} (h : VCalls P T f args st Q) (hq : ∀ r st, Q r st → Q' r st) : VCalls P T f args st Q' :=
  ⟨h.1, fun g w vals h1 h2 => (h.2 g w vals h1 h2).mono fun _ _ ⟨r, st', g', k1, k2⟩ => ⟨r, st', g', hq _ _ k1, k2⟩⟩

-- the computed condition

def bindO {α : Type} (x : Option α) (k : α → Prop) : Prop := match x with | some a => k a | none => False
@[congr] theorem bindO_congr {α : Type} {x x' : Option α} {k : α → Prop} (h : x = x') : bindO x k = bindO x' k := by rw [h]
theorem bindO_some {α : Type} (a : α) (k : α → Prop) : bindO (some a) k = k a := rfl
theorem bindO_none {α : Type} (k : α → Prop) : bindO none k = False := rfl

def Later (p : Prop) : Prop := p
@[congr] theorem Later_congr (p : Prop) : Later p = Later p := rfl

def Split (t : Bool) (A B : Prop) : Prop := (t = true → A) ∧ (t = false → B)
@[congr] theorem Split_congr {t t' : Bool} {A B : Prop} (h : t = t') : Split t A B = Split t' A B := by rw [h]
theorem Split_true (A B : Prop) : Split true A B = A := by simp [Split]
theorem Split_false (A B : Prop) : Split false A B = B := by simp [Split]

@[congr] theorem VCalls_congr {P : Program} {T : Nat → TI} {f : FuncId} {args args' : List V} {st st' : St} {Q : VEnd → St → Prop} (h1 : args = args') (h2 : st = st') : VCalls P T f args st Q = VCalls P T f args' st' Q := by rw [h1, h2]
@[congr] theorem VC_congr {P : Program} {T : Nat → TI} {L : List Nat} {ds : List Deferred} {c : Code} {env env' : Env} {st st' : St} {Q : VExit → Env → St → Prop} (h1 : env = env') (h2 : st = st') : VC P T L ds c env st Q = VC P T L ds c env' st' Q := by rw [h1, h2]

def dstAt (all : Array Oper) (j : Nat) : Option Tmp := (all[j]?).bind (·.dst)

def guardV (all : Array Oper) (env : Env) : Option (Nat × Bool) → Option Bool
  | none => some true
  | some (j, want) => match dstAt all j with
    | some d => match env.look d with
      | some (c, .bool b) => some (c && (bif want then b else !b))
      | _ => none
    | none => none

def evG (env : Env) (gc : Bool) (x : Operand) : V :=
  match evO env x with
  | some (c, v) => bif (!gc || c) then v else .junk
  | none => .junk

def pickV (env : Env) (gc : Bool) (c a b : Operand) : Option (V × Prop) :=
  match evO env c, evO env a, evO env b with
  | some (cc, .bool x), some (ca, .bool p), some (cb, .bool q) => some (.bool (bif x then p else q), gc = true → cc = true ∧ (x = true → ca = true) ∧ (x = false → cb = true))
  | _, _, _ => none

inductive Step where
  | pure (v : V) (side : Prop)
  | mem (v : V) (st : St) (side : Prop)
  | call (f : FuncId) (args : List V)
  | panic (v : V)
  | fail

def memStep (T : Nat → TI) (an : Nat → Nat) (dst : Option Tmp) (op : Op) (ev : Operand → V) (st : St) : Step :=
  match memOp T an dst op ev st with
  | some (v, st', side) => .mem v st' side
  | none => match moreOp T op ev st with
    | some (v, st', side) => .mem v st' side
    | none => .fail

def pureStep (T : Nat → TI) (an : Nat → Nat) (dst : Option Tmp) (op : Op) (ev : Operand → V) (st : St) : Step :=
  match pureOp T op ev with
  | some (v, side) => .pure v side
  | none => memStep T an dst op ev st

def stepOp (T : Nat → TI) (an : Nat → Nat) (dst : Option Tmp) (op : Op) (gc : Bool) (env : Env) (st : St) : Step :=
  match op with
  | .pick c a b => match pickV env gc c a b with
    | some (v, side) => .pure v side
    | none => .fail
  | .panic x => .panic (evG env gc x)
  | .call c => match c.callee with
    | .value f => match evG env gc f with
      | .fn (.func k) cap => .call k (c.args.toList.map (evG env gc) ++ cap)
      | _ => .fail
    | .builtin _ => pureStep T an dst op (evG env gc) st
    | .invoke _ _ => .fail
  | op => pureStep T an dst op (evG env gc) st

def okDstB (N : Nat) : Option Tmp → Prop
  | none => True
  | some d => d < N

def afterCall (env : Env) (K : V → St → Prop) (Q : VExit → Env → St → Prop) : VEnd → St → Prop
  | .ret v, st' => K v st'
  | .panic v, st' => Q (.panic v) env st'

def runStep (P : Program) (T : Nat → TI) (r : Step) (gc guarded : Bool) (env : Env) (st : St) (K : V → St → Prop) (Q : VExit → Env → St → Prop) : Prop :=
  match r with
  | .pure v side => (gc = true → side) ∧ K v st
  | .mem v st' side => (gc = true ∨ st' = st) ∧ (gc = true → side) ∧ K v st'
  | .call f args => match guarded with
    | false => gc = true ∧ VCalls P T f args st (afterCall env K Q)
    | true => ∃ v st2, (gc = true → VCalls P T f args st fun r st' => r = .ret v ∧ st' = st2) ∧ (gc = false → st2 = st) ∧ Later (K v st2)
  | .panic v => gc = true ∧ (∀ t x, v = .iface t x → Q (.panic v) env st) ∧ ∃ t x, v = .iface t x
  | .fail => False

@[congr] theorem runStep_congr {P : Program} {T : Nat → TI} {r r' : Step} {gc gc' guarded : Bool} {env : Env} {st st' : St} {K : V → St → Prop} {Q : VExit → Env → St → Prop} (h1 : r = r') (h2 : gc = gc') (h3 : st = st') :
    runStep P T r gc guarded env st K Q = runStep P T r' gc' guarded env st' K Q := by rw [h1, h2, h3]

section
variable (P : Program) (T : Nat → TI) (env : Env) (st : St) (K : V → St → Prop) (Q : VExit → Env → St → Prop)
theorem runStep_pure (v : V) (side : Prop) (gc b : Bool) : runStep P T (.pure v side) gc b env st K Q = ((gc = true → side) ∧ K v st) := rfl
theorem runStep_mem (v : V) (st' : St) (side : Prop) (gc b : Bool) : runStep P T (.mem v st' side) gc b env st K Q = ((gc = true ∨ st' = st) ∧ (gc = true → side) ∧ K v st') := rfl
theorem runStep_call (f : FuncId) (args : List V) (gc : Bool) : runStep P T (.call f args) gc false env st K Q = (gc = true ∧ VCalls P T f args st (afterCall env K Q)) := rfl
theorem runStep_gcall (f : FuncId) (args : List V) (gc : Bool) : runStep P T (.call f args) gc true env st K Q = ∃ v st2, (gc = true → VCalls P T f args st fun r st' => r = .ret v ∧ st' = st2) ∧ (gc = false → st2 = st) ∧ Later (K v st2) := rfl
theorem runStep_panic (t : TypeId) (x : V) (gc b : Bool) : runStep P T (.panic (.iface t x)) gc b env st K Q = (gc = true ∧ Q (.panic (.iface t x)) env st) := by
  simp [runStep]
theorem runStep_fail (gc b : Bool) : runStep P T .fail gc b env st K Q = False := rfl
theorem afterCall_ret (v : V) : afterCall env K Q (.ret v) st = K v st := rfl
theorem afterCall_panic (v : V) : afterCall env K Q (.panic v) st = Q (.panic v) env st := rfl
end

/-- The operations of a region, in the order of the text. -/
def vOps (P : Program) (T : Nat → TI) (an : Nat → Nat) (L : List Nat) (all : Array Oper) : List Oper → Env → St → (VExit → Env → St → Prop) → Prop
  | [], env, st, Q => Q .normal env st
  | o :: os, env, st, Q => bindO (guardV all env o.guard) fun gc => okDstB env.N o.dst ∧
      runStep P T (stepOp T an o.dst o.op gc env st) gc o.guard.isSome env st (fun v st' => vOps P T an L all os (env.put L o.dst gc v) st' Q) Q

@[congr] theorem vOps_congr {P : Program} {T : Nat → TI} {an : Nat → Nat} {L : List Nat} {all : Array Oper} {os : List Oper} {env env' : Env} {st st' : St} {Q : VExit → Env → St → Prop} (h1 : env = env') (h2 : st = st') :
    vOps P T an L all os env st Q = vOps P T an L all os env' st' Q := by rw [h1, h2]
theorem vOps_nil (P : Program) (T : Nat → TI) (an : Nat → Nat) (L : List Nat) (all : Array Oper) (env : Env) (st : St) (Q : VExit → Env → St → Prop) : vOps P T an L all [] env st Q = Q .normal env st := rfl
theorem vOps_cons (P : Program) (T : Nat → TI) (an : Nat → Nat) (L : List Nat) (all : Array Oper) (dst : Option Tmp) (op : Op) (ty : TypeId) (pos : String) (aft : Array Edge) (gd : Option (Nat × Bool)) (os : List Oper) (env : Env) (st : St) (Q : VExit → Env → St → Prop) :
    vOps P T an L all (⟨dst, op, ty, pos, aft, gd⟩ :: os) env st Q = bindO (guardV all env gd) fun gc => okDstB env.N dst ∧
      runStep P T (stepOp T an dst op gc env st) gc gd.isSome env st (fun v st' => vOps P T an L all os (env.put L dst gc v) st' Q) Q := rfl

def vSeq (k : Env → St → Prop) (Q : VExit → Env → St → Prop) : VExit → Env → St → Prop
  | .normal, env, st => k env st
  | e, env, st => Q e env st
def vBlock (id : Nat) (Q : VExit → Env → St → Prop) : VExit → Env → St → Prop
  | .exit id', env, st => if id' = id then Q .normal env st else Q (.exit id') env st
  | e, env, st => Q e env st

theorem vSeq_normal (k : Env → St → Prop) (Q : VExit → Env → St → Prop) (env : Env) (st : St) : vSeq k Q .normal env st = k env st := rfl
theorem vSeq_exit (k : Env → St → Prop) (Q : VExit → Env → St → Prop) (env : Env) (st : St) (i : Nat) : vSeq k Q (.exit i) env st = Q (.exit i) env st := rfl
theorem vSeq_ret (k : Env → St → Prop) (Q : VExit → Env → St → Prop) (env : Env) (st : St) : vSeq k Q .ret env st = Q .ret env st := rfl
theorem vSeq_panic (k : Env → St → Prop) (Q : VExit → Env → St → Prop) (env : Env) (st : St) (v : V) : vSeq k Q (.panic v) env st = Q (.panic v) env st := rfl
theorem vBlock_normal (id : Nat) (Q : VExit → Env → St → Prop) (env : Env) (st : St) : vBlock id Q .normal env st = Q .normal env st := rfl
theorem vBlock_exit (id : Nat) (Q : VExit → Env → St → Prop) (env : Env) (st : St) (i : Nat) : vBlock id Q (.exit i) env st = if i = id then Q .normal env st else Q (.exit i) env st := rfl
theorem vBlock_ret (id : Nat) (Q : VExit → Env → St → Prop) (env : Env) (st : St) : vBlock id Q .ret env st = Q .ret env st := rfl
theorem vBlock_panic (id : Nat) (Q : VExit → Env → St → Prop) (env : Env) (st : St) (v : V) : vBlock id Q (.panic v) env st = Q (.panic v) env st := rfl

/-- Code but for its loops. -/
def vCode (P : Program) (T : Nat → TI) (an : Nat → Nat) (L : List Nat) (ds : List Deferred) : Code → Env → St → (VExit → Env → St → Prop) → Prop
  | .skip, env, st, Q => Q .normal env st
  | .region _ ops false, env, st, Q => vOps P T an L ops ops.toList { env with l := [] } st Q
  | .seq a b, env, st, Q => vCode P T an L ds a env st (vSeq (fun env st => vCode P T an L ds b env st Q) Q)
  | .cond c x y, env, st, Q => bindO (evO env c) fun r => match r with
    | (true, .bool t) => Split t (vCode P T an L ds x env st Q) (vCode P T an L ds y env st Q)
    | _ => False
  | .block id c, env, st, Q => vCode P T an L ds c env st (vBlock id Q)
  | .exit id, env, st, Q => Q (.exit id) env st
  | .ret, env, st, Q => Q .ret env st
  | c, env, st, Q => VC P T L ds c env st Q

@[congr] theorem vCode_congr {P : Program} {T : Nat → TI} {an : Nat → Nat} {L : List Nat} {ds : List Deferred} {c : Code} {env env' : Env} {st st' : St} {Q : VExit → Env → St → Prop} (h1 : env = env') (h2 : st = st') :
    vCode P T an L ds c env st Q = vCode P T an L ds c env' st' Q := by rw [h1, h2]

section
variable (P : Program) (T : Nat → TI) (an : Nat → Nat) (L : List Nat) (ds : List Deferred) (env : Env) (st : St) (Q : VExit → Env → St → Prop)
theorem vCode_skip : vCode P T an L ds .skip env st Q = Q .normal env st := rfl
theorem vCode_region (id : Nat) (ops : Array Oper) : vCode P T an L ds (.region id ops false) env st Q = vOps P T an L ops ops.toList { env with l := [] } st Q := rfl
theorem vCode_draw (id : Nat) (ops : Array Oper) : vCode P T an L ds (.region id ops true) env st Q = VC P T L ds (.region id ops true) env st Q := rfl
theorem vCode_seq (a b : Code) : vCode P T an L ds (.seq a b) env st Q = vCode P T an L ds a env st (vSeq (fun env st => vCode P T an L ds b env st Q) Q) := rfl
theorem vCode_cond (c : Operand) (x y : Code) : vCode P T an L ds (.cond c x y) env st Q = bindO (evO env c) fun r => match r with
    | (true, .bool t) => Split t (vCode P T an L ds x env st Q) (vCode P T an L ds y env st Q)
    | _ => False := rfl
theorem vCode_block (id : Nat) (c : Code) : vCode P T an L ds (.block id c) env st Q = vCode P T an L ds c env st (vBlock id Q) := rfl
theorem vCode_exit (id : Nat) : vCode P T an L ds (.exit id) env st Q = Q (.exit id) env st := rfl
theorem vCode_ret : vCode P T an L ds .ret env st Q = Q .ret env st := rfl
theorem vCode_loop (c : Code) : vCode P T an L ds (.loop c) env st Q = VC P T L ds (.loop c) env st Q := rfl
end
end Go.Proofs.Ytlblgbfpdlfedaa.Gw

namespace Go.Proofs.Ytlblgbfpdlfedaa.Gw
open Go
set_option linter.unusedSimpArgs false

section
variable {P : Program} {T : Nat → TI} {an : Nat → Nat} {L : List Nat} {ds : List Deferred}

theorem find_ins (m : List (Nat × Bool × V)) (t : Nat) (x : Bool × V) (u : Nat) : find (ins m t x) u = if t = u then some x else find m u := by
  induction m with
  | nil => simp [ins, find]
  | cons y r ih =>
    obtain ⟨k, y⟩ := y
    simp only [ins]
    split
    · rename_i h; subst h
      simp only [find]
      split <;> rfl
    · rename_i h
      simp only [find, ih]
      by_cases hk : k = u
      · subst hk; simp [Ne.symm h]
      · simp [hk]

theorem SimEnv.ext {g g' : G} {w w' : World} {env : Env} {a : Act} (h : SimEnv g w env a) (hx : Ext g w g' w') : SimEnv g' w' env a :=
  ⟨h.1, fun t c v hv => by
    have := h.2 t c v hv
    split at this
    · rename_i hc; rw [if_pos hc]; exact this.ext hx
    · rename_i hc; rw [if_neg hc]; exact this⟩

theorem SimEnv.put {g : G} {w : World} {env : Env} {a : Act} (h : SimEnv g w env a) (d : Option Tmp) (hd : okDstB env.N d) {c : Bool} {v : V} {val : Value} (hv : if c then SimV g w v val else val = undef) : SimEnv g w (env.put L d c v) (a.put d val) := by
  cases d with
  | none => exact h
  | some d =>
    have hd : d < env.N := hd
    have hsz : d < a.tmps.size := by rw [h.1]; exact hd
    have hget : ∀ t, (a.tmps.setIfInBounds d val).getD t undef = if d = t then val else a.tmps.getD t undef := by
      intro t
      simp only [Array.getD_eq_getD_getElem?, Array.getElem?_setIfInBounds]
      split
      · rename_i e; subst e; simp [hsz]
      · rfl
    have hlook : ∀ t, (env.put L (some d) c v).look t = if d = t then some (c, v) else env.look t := by
      intro t
      simp only [Env.put]
      split <;> simp only [Env.look, find, find_ins] <;> by_cases e : d = t <;> simp [e]
    have hN : (env.put L (some d) c v).N = env.N := by simp only [Env.put]; split <;> rfl
    refine ⟨by simp [Act.put, hN, h.1], fun t c' v' ht => ?_⟩
    rw [hlook] at ht
    simp only [Act.put, hget]
    split at ht
    · rename_i e
      cases ht
      rw [if_pos e]; exact hv
    · rename_i e
      rw [if_neg e]; exact h.2 t c' v' ht

theorem EnvOK.put {env : Env} (h : EnvOK L env) (d : Option Tmp) (c : Bool) (v : V) : EnvOK L (env.put L d c v) := by
  cases d with
  | none => exact h
  | some d =>
    intro t x ht
    simp only [Env.put] at ht ⊢
    split at ht
    · rename_i hm
      rw [if_pos hm]
      simp only [find_ins] at ht
      simp only [Env.look, find]
      split at ht
      · rename_i e; subst e
        cases ht
        exact ⟨hm, by simp⟩
      · rename_i e
        have := h t x ht
        simp only [Env.look] at this
        simp only [find_ins, if_neg e]
        exact this
    · rename_i hm
      rw [if_neg hm]
      have := h t x ht
      have e : d ≠ t := by intro e; subst e; exact hm this.1
      simp only [Env.look, find, if_neg e]
      exact this

theorem evO_sim {g : G} {w : World} {env : Env} {a : Act} (h : SimEnv g w env a) {x : Operand} {c : Bool} {v : V} (hx : evO env x = some (c, v)) : if c then SimV g w v (a.eval x) else a.eval x = undef := by
  cases x with
  | tmp t => exact h.2 t c v hx
  | const u => simp only [evO, Option.some.injEq, Prod.mk.injEq] at hx; obtain ⟨rfl, rfl⟩ := hx; exact ofConst_sim g w u
  | func f => simp only [evO, Option.some.injEq, Prod.mk.injEq] at hx; obtain ⟨rfl, rfl⟩ := hx; simp only [if_true, SimV]; exact ⟨[], rfl, by simp [SimVs]⟩
  | global n => simp [evO] at hx

theorem evG_sim {g : G} {w : World} {env : Env} {a : Act} (h : SimEnv g w env a) {gc : Bool} (hg : gc = true) (x : Operand) : SimV g w (evG env gc x) (a.eval x) := by
  subst hg
  unfold evG
  split
  · rename_i c v hx
    have := evO_sim h hx
    cases c with
    | true => simpa using this
    | false => simp [SimV]
  · simp [SimV]

theorem guardV_wanted {g : G} {w : World} {env : Env} {a : Act} (h : SimEnv g w env a) {all : Array Oper} {o : Oper} {gc : Bool} (hg : guardV all env o.guard = some gc) : Region.wanted o (yielded all a.tmps) = gc := by
  unfold guardV at hg
  unfold Region.wanted
  split at hg
  · rename_i e; simp only [Option.some.injEq] at hg; subst hg; rw [e]
  · rename_i j want e
    rw [e]
    split at hg
    case h_2 => simp at hg
    rename_i d hd
    split at hg
    case h_2 => simp at hg
    rename_i c b hl
    simp only [Option.some.injEq] at hg
    subst hg
    have hs := h.2 d c _ hl
    simp only [dstAt] at hd
    have hget : a.tmps[d]? = some (a.tmps.getD d undef) ∨ a.tmps[d]? = none ∧ a.tmps.getD d undef = undef := by
      rcases Nat.lt_or_ge d a.tmps.size with hlt | hge
      · left; simp [Array.getD_eq_getD_getElem?, hlt]
      · right; simp [Array.getD_eq_getD_getElem?, hge]
    simp only [yielded, hd, Option.bind_some]
    cases c with
    | true =>
      simp only [if_true, SimV] at hs
      rcases hget with hg | ⟨_, hg⟩
      · rw [hg, hs]
        cases b <;> cases want <;> rfl
      · rw [hs] at hg; simp [undef] at hg
    | false =>
      simp only [Bool.false_eq_true, if_false] at hs
      rcases hget with hg | ⟨hg, _⟩
      · rw [hg, hs]; rfl
      · rw [hg]; rfl

theorem s_pick {g : G} {w : World} {env : Env} {a : Act} (h : SimEnv g w env a) {gc : Bool} (hg : gc = true) {c x y : Operand} {v : V} {side : Prop} (hp : pickV env gc c x y = some (v, side)) (hs : side) {o : Oper} (ho : o.op = .pick c x y) :
    ∃ val, (execOp a.eval o).run P w = .ok (.value val) w ∧ SimV g w v val := by
  unfold pickV at hp
  split at hp
  case h_2 => simp at hp
  rename_i cc b ca p cb q hc hx hy
  simp only [Option.some.injEq, Prod.mk.injEq] at hp
  obtain ⟨rfl, rfl⟩ := hp
  obtain ⟨s1, s2, s3⟩ := hs hg
  have k1 := evO_sim h hc
  have k2 := evO_sim h hx
  have k3 := evO_sim h hy
  simp only [s1, if_true, SimV] at k1
  cases b with
  | true =>
    simp only [s2 rfl, if_true, SimV] at k2
    exact ⟨.bool p, by simp [execOp, ho, k1, asBool, k2], by simp [SimV]⟩
  | false =>
    simp only [s3 rfl, if_true, SimV] at k3
    exact ⟨.bool q, by simp [execOp, ho, k1, asBool, k3], by simp [SimV]⟩

theorem memOp_sound (hT : Tab P T) {g : G} {w : World} {st : St} (hst : SimSt T g st w) {ρ : Operand → Value} {ev : Operand → V} (hev : ∀ x, SimV g w (ev x) (ρ x)) {o : Oper} {v : V} {st' : St} {side : Prop}
    (h : memOp T an o.dst o.op ev st = some (v, st', side)) (hs : side) : Did P T ρ o g w v st' := by
  obtain ⟨dst, op, ty, pos, aft, gd⟩ := o
  simp only at h
  cases op with
  | alloc t => exact s_alloc hT hst h
  | box t x => exact s_box hst hev h
  | load t x => exact s_load hT hst hev h hs
  | store t x y => exact s_store hT hst hev h hs
  | buildSlice t n parts => exact s_buildSlice hT hst hev h
  | call c =>
    simp only [memOp] at h
    split at h
    case h_2 => simp at h
    rename_i s x t xt hc ha ht
    have hts : c.argTypes = #[t, xt] := by cases hh : c.argTypes; rw [hh] at ht; simpa using ht
    have key : ∀ {e : TypeId} {d : TypeDesc}, P.underlying t = some (.slice e) → P.underlying xt = some d → (d = .string ∨ ∃ e', d = .slice e') →
        (if (T e).sized ∧ (T e).bytes ≠ 0 then match rowsOf (T e).size x with | some m => appendV (an (dst.getD 0)) e (T e) s m st | none => none else none) = some (v, st', side) →
        Did P T ρ ⟨dst, .call c, ty, pos, aft, gd⟩ g w v st' := by
      intro e d hu hx hd h2
      split at h2
      case isFalse => simp at h2
      rename_i hsz
      split at h2
      case h_2 => simp at h2
      rename_i m hm
      cases hal : c.args.toList with
      | nil => rw [hal] at ha; simp at ha
      | cons a0 r =>
        cases r with
        | nil => rw [hal] at ha; simp at ha
        | cons a1 r =>
          cases r with
          | cons _ _ => rw [hal] at ha; simp at ha
          | nil =>
            rw [hal] at ha
            simp only [List.map_cons, List.map_nil, List.cons.injEq, and_true] at ha
            obtain ⟨rfl, rfl⟩ := ha
            have has : c.args = #[a0, a1] := by cases hh : c.args; rw [hh] at hal; simpa using hal
            obtain ⟨val, w', g', r1, r2, r3, r4⟩ := s_append hT hst hsz.1 hsz.2 hu hx hd (hev a0) (hev a1) hm h2 hs (ty := ty)
            refine ⟨.value val, val, w', g', ?_, .inl rfl, r2, r3, r4⟩
            simp [execOp, resolve, hc, has, hts, invoke, builtin, r1]
    split at h
    · rename_i e _ h1 h2
      exact key (hT.slice h1) (hT.slice h2) (.inr ⟨_, rfl⟩) h
    · rename_i e h1 h2
      exact key (hT.slice h1) (hT.str h2) (.inl rfl) h
    · simp at h
  | _ => simp [memOp] at h

theorem okQ_step {all : Array Oper} {g0 g : G} {w0 w : World} (hx : Ext g0 w0 g w) {Q : VExit → Env → St → Prop} {o : Oper} {os : List Oper} {env : Env} {st : St} {a : Act}
    (hst : SimSt T g st w) (henv : SimEnv g w env a) (hok : EnvOK L env) (hds : a.defers = ds) {gc : Bool} (hw : Region.wanted o (yielded all a.tmps) = gc) (hd : okDstB env.N o.dst)
    (hrest : ∀ (env' : Env) (st' : St) (g' : G) (w' : World) (a' : Act), Ext g0 w0 g' w' → SimSt T g' st' w' → SimEnv g' w' env' a' → EnvOK L env' → a'.defers = ds → vOps P T an L all os env' st' Q → wpList P all (Lift T L ds g0 w0 Q) os a' w')
    {v : V} {st' : St} (hgc : gc = true → Did P T a.eval o g w v st') (hst' : gc = false → st' = st)
    (hk : vOps P T an L all os (env.put L o.dst gc v) st' Q) : wpList P all (Lift T L ds g0 w0 Q) (o :: os) a w := by
  simp only [wpList, hw]
  cases gc with
  | true =>
    simp only [if_true]
    obtain ⟨r, val, w', g', h1, h2, h3, h4, h5⟩ := hgc rfl
    left
    have hp := (henv.ext h5).put (L := L) o.dst hd (c := true) (v := v) (val := val) (by simpa using h3)
    have hds' : (a.put o.dst val).defers = ds := by cases hh : o.dst <;> simpa [Act.put] using hds
    have := hrest _ st' g' w' _ (hx.trans h5) h4 hp (hok.put _ _ _) hds' hk
    unfold Oper.wp Oper.upon
    rcases h2 with rfl | ⟨rfl, rfl⟩ <;> rw [h1] <;> exact this
  | false =>
    simp only [Bool.false_eq_true, if_false]
    have := hst' rfl
    subst this
    have hp := henv.put (L := L) o.dst hd (c := false) (v := v) (val := undef) (by simp)
    have hds' : (a.put o.dst undef).defers = ds := by cases hh : o.dst <;> simpa [Act.put] using hds
    exact hrest _ st' g w _ hx hst hp (hok.put _ _ _) hds' hk

theorem Did.of_pure {o : Oper} {ρ : Operand → Value} {g : G} {w : World} {st : St} {v : V} (hst : SimSt T g st w) (h : ∃ val, (execOp ρ o).run P w = .ok (.value val) w ∧ SimV g w v val) : Did P T ρ o g w v st := by
  obtain ⟨val, h1, h2⟩ := h
  exact ⟨_, val, w, g, h1, .inl rfl, h2, hst, Ext.refl _ _⟩

theorem vOps_sound (hT : Tab P T) {all : Array Oper} {Q : VExit → Env → St → Prop} {g0 : G} {w0 : World} : ∀ (os : List Oper) (env : Env) (st : St) (g : G) (w : World) (a : Act),
    Ext g0 w0 g w → SimSt T g st w → SimEnv g w env a → EnvOK L env → a.defers = ds → vOps P T an L all os env st Q → wpList P all (Lift T L ds g0 w0 Q) os a w
  | [], env, st, g, w, a, hx, hst, henv, hok, hds, h => ⟨.normal, env, st, g, h, rfl, henv, hok, hds, hst, hx⟩
  | o :: os, env, st, g, w, a, hx, hst, henv, hok, hds, h => by
    have hrest : ∀ (env' : Env) (st' : St) (g' : G) (w' : World) (a' : Act), Ext g0 w0 g' w' → SimSt T g' st' w' → SimEnv g' w' env' a' → EnvOK L env' → a'.defers = ds → vOps P T an L all os env' st' Q → wpList P all (Lift T L ds g0 w0 Q) os a' w' :=
      fun env' st' g' w' a' h1 h2 h3 h0 h4 h5 => vOps_sound hT os env' st' g' w' a' h1 h2 h3 h0 h4 h5
    simp only [vOps] at h
    unfold bindO at h
    split at h
    case h_2 => exact h.elim
    rename_i gc hgc
    obtain ⟨hd, h⟩ := h
    have hw := guardV_wanted henv hgc
    have hev : gc = true → ∀ x, SimV g w (evG env gc x) (a.eval x) := fun hg x => evG_sim henv hg x
    have pureCase : ∀ {r : Step}, r = pureStep T an o.dst o.op (evG env gc) st → runStep P T r gc o.guard.isSome env st (fun v st' => vOps P T an L all os (env.put L o.dst gc v) st' Q) Q → wpList P all (Lift T L ds g0 w0 Q) (o :: os) a w := by
      intro r hr h
      subst hr
      unfold pureStep at h
      split at h
      · rename_i v side hp
        obtain ⟨h1, h2⟩ := h
        exact okQ_step hx hst henv hok hds hw hd hrest (v := v) (st' := st) (fun hg => Did.of_pure hst (by
          obtain ⟨dst, op, ty, pos, aft, gd⟩ := o
          exact pureOp_sound hT (hev hg) hp (h1 hg))) (fun _ => rfl) h2
      · unfold memStep at h
        split at h
        · rename_i v st' side hp
          obtain ⟨h0, h1, h2⟩ := h
          exact okQ_step hx hst henv hok hds hw hd hrest (v := v) (st' := st') (fun hg => memOp_sound hT hst (hev hg) hp (h1 hg)) (fun hf => h0.resolve_left (by rw [hf]; simp)) h2
        · split at h
          · rename_i v st' side hp
            obtain ⟨h0, h1, h2⟩ := h
            exact okQ_step hx hst henv hok hds hw hd hrest (v := v) (st' := st') (fun hg => moreOp_sound hT hst (hev hg) hp (h1 hg)) (fun hf => h0.resolve_left (by rw [hf]; simp)) h2
          · exact h.elim
    cases hop : o.op with
    | pick c x y =>
      simp only [hop, stepOp] at h
      split at h
      · rename_i v side hp
        obtain ⟨h1, h2⟩ := h
        exact okQ_step hx hst henv hok hds hw hd hrest (v := v) (st' := st) (fun hg => Did.of_pure hst (s_pick henv hg hp (h1 hg) hop)) (fun _ => rfl) h2
      · exact h.elim
    | panic x =>
      simp only [hop, stepOp] at h
      obtain ⟨hg, h1, t, y, h2⟩ := h
      subst hg
      have hv := hev rfl x
      simp only [wpList, hw, if_true]
      left
      rw [h2] at hv
      have hv' := hv
      simp only [SimV] at hv
      obtain ⟨z, hz, _⟩ := hv
      unfold Oper.wp Oper.upon
      have hrun : (execOp a.eval o).run P w = .halt (.panic (.iface t z)) w := by simp [execOp, hop, Instr.panic, hz]
      rw [hrun]
      refine ⟨.panic (.iface t y), env, st, g, ?_, ⟨_, rfl, by rw [← hz]; exact hv'⟩, henv, hok, hds, hst, hx⟩
      have := h1 t y h2
      rw [h2] at this; exact this
    | call c =>
      simp only [hop, stepOp] at h
      split at h
      · rename_i f hcal
        split at h
        case h_2 => exact h.elim
        rename_i k cap hf
        have henter : gc = true → ∃ vals : List Value, (execOp a.eval o).run P w = (callFunc k vals.toArray).run P w ∧ SimVs g w (c.args.toList.map (evG env gc) ++ cap) vals := by
          intro hg
          have hfv := hev hg f
          rw [hf] at hfv
          simp only [SimV] at hfv
          obtain ⟨vs, hfe, hvs⟩ := hfv
          refine ⟨c.args.toList.map a.eval ++ vs, ?_, (evs_sim (hev hg) _).append hvs⟩
          have e : c.args.map a.eval ++ vs.toArray = (c.args.toList.map a.eval ++ vs).toArray := by apply Array.ext'; simp
          simp [execOp, hop, resolve, hcal, hfe, Deferred.ofValue, invoke, e]
        have hstep : ∀ {args : List V} {K : V → St → Prop} (hg : gc = true), VCalls P T k args st (afterCall env K Q) → (∀ v st', K v st' → vOps P T an L all os (env.put L o.dst gc v) st' Q) → (∀ vals : List Value, (execOp a.eval o).run P w = (callFunc k vals.toArray).run P w → SimVs g w args vals → o.wp P a w (wpList P all (Lift T L ds g0 w0 Q) os) (Lift T L ds g0 w0 Q)) := by
          intro args K hg hcall hK vals hrun hsim
          obtain ⟨⟨fn, e1, e2, e3⟩, hcall⟩ := hcall
          have hcf : (callFunc k vals.toArray).run P w = .ok (.enter k vals.toArray) w := by
            have e2' : ¬ fn.body = none := by intro hb; rw [hb] at e2; simp at e2
            have e3' : ¬ fn.name = "runtime.NumGoroutine" := by simpa using e3
            simp [callFunc, e1, e2', e3']
          unfold Oper.wp Oper.upon
          rw [hrun, hcf]
          refine (hcall g w vals hst hsim).mono fun e w' ⟨r, st', g', k1, k2, k3, k4⟩ => ?_
          cases r with
          | ret v =>
            obtain ⟨val, rfl, hv⟩ := k2
            have hp := (henv.ext k4).put (L := L) o.dst hd (c := true) (v := v) (val := val) (by simpa using hv)
            have hds' : (a.put o.dst val).defers = ds := by cases hh : o.dst <;> simpa [Act.put] using hds
            have := hK v st' k1
            rw [hg] at this
            exact hrest _ st' g' w' _ (hx.trans k4) k3 hp (hok.put _ _ _) hds' this
          | panic v =>
            obtain ⟨val, rfl, hv⟩ := k2
            exact ⟨.panic v, env, st', g', k1, ⟨val, rfl, hv⟩, henv.ext k4, hok, hds, k3, hx.trans k4⟩
        cases hgd : o.guard.isSome with
        | false =>
          rw [hgd] at h
          simp only [runStep] at h
          obtain ⟨hg, h⟩ := h
          obtain ⟨vals, q1, q2⟩ := henter hg
          simp only [wpList, hw, hg, if_true]
          exact .inl (hstep hg h (fun v st' hk => hk) vals q1 q2)
        | true =>
          rw [hgd] at h
          simp only [runStep] at h
          obtain ⟨v, st2, h1, h3, h2⟩ := h
          cases hg : gc with
          | true =>
            obtain ⟨vals, q1, q2⟩ := henter hg
            simp only [wpList, hw, hg, if_true]
            refine .inl (hstep (K := fun v' st' => v' = v ∧ st' = st2) hg ((h1 hg).mono fun r st' ⟨e1, e2⟩ => by subst e1; exact ⟨rfl, e2⟩) (fun v' st' ⟨e1, e2⟩ => by subst e1; subst e2; exact h2) vals q1 q2)
          | false =>
            exact okQ_step hx hst henv hok hds hw hd hrest (v := v) (st' := st2) (fun hg' => by rw [hg] at hg'; cases hg') (fun _ => h3 hg) h2
      · simp only [← hop] at h
        exact pureCase rfl h
      · exact h.elim
    | _ => all_goals (simp only [hop, stepOp] at h; exact pureCase (by rw [hop]) h)
end
end Go.Proofs.Ytlblgbfpdlfedaa.Gw
