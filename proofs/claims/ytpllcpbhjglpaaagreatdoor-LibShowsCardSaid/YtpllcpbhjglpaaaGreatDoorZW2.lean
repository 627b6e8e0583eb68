/- Literals of slices, and appending. Appending. Appending, as an operation. Maps: what is made, looked up, laid in, walked over. -/
import Derived.Test.YtpllcpbhjglpaaaGreatDoorZW1
import Derived.Laws.CopyRow
import Derived.MapKept
namespace Go.Proofs.YtpllcpbhjglpaaaGreatDoor.Gw
open Go
set_option linter.unusedSimpArgs false
section
variable {P : Program} {T : Nat → TI} {an : Nat → Nat} {dst : Option Tmp} {ty : TypeId} {pos : String} {aft : Array Edge} {gd : Option (Nat × Bool)}
theorem flatten_len {sz : Nat} : ∀ (c : List (List V)), (∀ r ∈ c, r.length = sz) → c.flatten.length = c.length * sz
 | [], _ => by simp
 | r :: rs, h => by
  have := flatten_len rs fun x hx => h x (by simp [hx])
  simp only [List.flatten_cons, List.length_append, this, h r (by simp), List.length_cons, Nat.succ_mul]; omega
theorem litRows_len {i : TI} {n : Nat} : ∀ (p : List (Nat × V)) (rows : List (List V)), i.zero.length = i.size → litRows i n p = some rows → rows.length = n ∧ ∀ r ∈ rows, r.length = i.size
 | [], rows, hz, h => by
  simp only [litRows, Option.some.injEq] at h
  subst h
  exact ⟨by simp, fun r hr => by rw [List.eq_of_mem_replicate hr]; exact hz⟩
 | (k, v) :: r, rows, hz, h => by
  simp only [litRows] at h
  split at h
  case h_2 => simp at h
  rename_i rows' l hr hl
  split at h
  case isFalse => simp at h
  rename_i hk
  simp only [Option.some.injEq] at h
  subst h
  obtain ⟨h1, h2⟩ := litRows_len r rows' hz hr
  exact ⟨by simpa using h1, fun x hx => by
   rcases List.mem_or_eq_of_mem_set hx with hx | rfl
   ·exact h2 x hx
   ·exact hk.2⟩
theorem flatten_set {sz : Nat} : ∀ (c : List (List V)) (k : Nat) (l : List V), (∀ r ∈ c, r.length = sz) → l.length = sz → k < c.length →
  (c.set k l).flatten = c.flatten.take (k * sz) ++ l ++ c.flatten.drop (k * sz + sz)
 | [], k, l, _, _, h => by simp at h
 | r :: rs, 0, l, h, hl, _ => by
  have hr := h r (by simp)
  simp [List.drop_append, hr]
 | r :: rs, k + 1, l, h, hl, hk => by
  have hr := h r (by simp)
  have ih := flatten_set rs k l (fun x hx => h x (by simp [hx])) hl (by simpa using hk)
  simp only [List.set_cons_succ, List.flatten_cons, ih]
  have e1 : (k + 1) * sz = sz + k * sz := by rw [Nat.succ_mul]; omega
  rw [e1, List.take_append, hr]
  rw [List.take_of_length_le (by omega : r.length ≤ sz + k * sz)]
  rw [show sz + k * sz - sz = k * sz by omega]
  rw [List.drop_append, hr, List.drop_eq_nil_of_le (by omega : r.length ≤ sz + k * sz + sz)]
  rw [show sz + k * sz + sz - sz = k * sz + sz by omega]
  simp [List.append_assoc]
theorem SimVs.repl {g : G} {w : World} {z : List V} {vz : List Value} (hz : SimVs g w z vz) : ∀ n, SimVs g w (List.replicate n z).flatten (List.replicate n vz).flatten
 | 0 => by simp [SimVs]
 | n + 1 => by simp only [List.replicate_succ, List.flatten_cons]; exact hz.append (SimVs.repl hz n)
theorem zeros_list (z : List Value) (n : Nat) (hz : z ≠ []) : (Array.range (n * z.length)).map (z.toArray[· % z.toArray.size]!) = (List.replicate n z).flatten.toArray := by
 apply Array.ext'
 simp only [Array.toList_map, Array.toList_range, List.size_toArray]
 induction n with
 | zero => simp
 | succ n ih =>
  have hl : 0 < z.length := List.length_pos_iff.2 hz
  rw [List.replicate_succ', List.flatten_append, ← ih, Nat.succ_mul, List.range_add, List.map_append]
  congr 1
  simp only [List.map_map, List.flatten_cons, List.flatten_nil, List.append_nil]
  apply List.ext_getElem
  ·simp
  ·intro i h1 h2
   have hi : i < z.length := h2
   simp [Nat.add_mod, Nat.mod_eq_of_lt hi, hi]
theorem litRows_sound (i : TI) (n : Nat) (hz : i.zero.length = i.size) {g : G} {w : World} (hflat : i.zero.all V.flat = true) :
  ∀ (p : List (Nat × V)) (q : List (Nat × Value)) (rows : List (List V)), p.length = q.length → (∀ (j : Nat) (a : Nat × V) (b : Nat × Value), p[j]? = some a → q[j]? = some b → a.1 = b.1 ∧ SimV g w a.2 b.2) →
   litRows i n p = some rows → ∃ vout : List Value, Instr.fill (fun k => some (k * i.size, i.size)) (List.replicate n (i.zero.map V.raw)).flatten.toArray q.reverse = some vout.toArray ∧ SimVs g w rows.flatten vout ∧ ∀ u ∈ vout, u.oneCell' = true
 | [], q, rows, hl, hp, h => by
  have : q = [] := by simpa using hl.symm
  subst this
  simp only [litRows, Option.some.injEq] at h
  subst h
  refine ⟨_, rfl, SimVs.repl (raws_sim _ hflat) n, fun u hu => ?_⟩
  simp only [List.mem_flatten] at hu
  obtain ⟨r, hr, hu⟩ := hu
  rw [List.eq_of_mem_replicate hr] at hu
  exact raws_one _ hflat u hu
 | (k, v) :: r, [], rows, hl, hp, h => by simp at hl
 | (k, v) :: r, (k', u) :: q, rows, hl, hp, h => by
  obtain ⟨e1, e2⟩ := hp 0 (k, v) (k', u) rfl rfl
  simp only at e1 e2
  subst e1
  simp only [litRows] at h
  split at h
  case h_2 => simp at h
  rename_i rows' l hr hvl
  split at h
  case isFalse => simp at h
  rename_i hk
  simp only [Option.some.injEq] at h
  subst h
  obtain ⟨l1, l2⟩ := litRows_len r rows' hz hr
  obtain ⟨vout, k1, k2, k3⟩ := litRows_sound i n hz hflat r q rows' (by simpa using hl) (fun j a b ha hb => hp (j + 1) a b (by simpa using ha) (by simpa using hb)) hr
  obtain ⟨c1, c2⟩ := cells_sim hvl e2
  have hul : u.cells.toList.length = l.length := c1.length
  have hus : u.cells.size = i.size := by rw [← hk.2, ← hul]; simp
  have hvl' : vout.length = n * i.size := by rw [k2.length, flatten_len rows' l2, l1]
  have hb : k * i.size + i.size ≤ n * i.size := by
   have := Nat.mul_le_mul_right i.size (show k + 1 ≤ n by omega)
   rw [Nat.succ_mul] at this; exact this
  refine ⟨vout.take (k * i.size) ++ u.cells.toList ++ vout.drop (k * i.size + i.size), ?_, ?_, ?_⟩
  ·have fa : ∀ (xs ys : List (Nat × Value)) (c : Array Value), Instr.fill (fun k => some (k * i.size, i.size)) c (xs ++ ys) = (Instr.fill (fun k => some (k * i.size, i.size)) c xs).bind fun c' => Instr.fill (fun k => some (k * i.size, i.size)) c' ys := by
    intro xs
    induction xs with
    | nil => intro ys c; rfl
    | cons x xs ih =>
     intro ys c
     obtain ⟨a, b⟩ := x
     simp only [List.cons_append, Instr.fill]
     split
     ·rfl
     ·exact ih ys _
   rw [List.reverse_cons, fa, k1, Option.bind_some]
   simp only [Instr.fill]
   rw [if_neg (by simp [hus, hvl']; omega)]
   congr 1
   have hz' : u.cells.zipIdx.foldl (fun cs x => cs.setIfInBounds (k * i.size + x.2) x.1) vout.toArray = (u.cells.toList.zipIdx.foldl (fun (cs : Array Value) (x : Value × Nat) => cs.setIfInBounds (k * i.size + x.2) x.1) vout.toArray) := by
    rw [← Array.foldl_toList, Array.toList_zipIdx]
   rw [hz', foldl_set _ 0 _ _ (by rw [hul, hk.2, hvl']; omega), hul, hk.2]
   simp
  ·rw [flatten_set rows' k l l2 hk.2 (by rw [l1]; exact hk.1)]
   exact ((k2.take _).append c1).append (k2.drop _)
  ·intro x hx
   simp only [List.mem_append] at hx
   rcases hx with (hx | hx) | hx
   ·exact k3 x (List.mem_of_mem_take hx)
   ·exact c2 x hx
   ·exact k3 x (List.mem_of_mem_drop hx)
/-- A row that begins a growing list. -/
theorem SimSt.newTip {g : G} {st : St} {w : World} (hst : SimSt T g st w) (e : TypeId) {n cap : Nat} {cur : Array Value} {sl : Nat} {ent : Ent} (hnc : n ≤ cap) (hcm : cap ≤ maxLen) (hcs : cur.size = cap * (T e).size)
  (hent : ent = .tip e n ∧ sl = n * (T e).size ∨ ∃ c, ent = .arr e (T e).size c ∧ c.length = n ∧ sl = 0 ∧ (∀ r ∈ c, r.length = (T e).size) ∧ SimVs g w c.flatten (cur.toList.take (n * (T e).size)) ∧ ∀ u ∈ cur.toList.take (n * (T e).size), u.oneCell' = true) :
  ∃ g', Ext g w g' (w.alloc (.cells cur e)) ∧ SimSt T g' (st ++ [ent]) (w.alloc (.cells cur e)) ∧ g'.n = st.length + 1 ∧ g'.len st.length = n ∧ g'.tv st.length = .slice (some ⟨w.heap.size, 0, none⟩) n cap ∧ g'.own w.heap.size = some sl := by
 have h1 := hst.alloc (.cells cur e) (some sl)
 have x1 := Ext.alloc g w (.cells cur e) (some sl)
 have x2 := Ext.push (g.new w.heap.size (some sl)) (w.alloc (.cells cur e)) 0 (.slice (some ⟨w.heap.size, 0, none⟩) n cap) n
 have hn : g.n = st.length := hst.n
 refine ⟨_, x1.trans x2, h1.push ?_ ?_, by simp [G.push, G.new, hn], by simp [G.push, G.new, hn], by simp [G.push, G.new, hn], by simp [G.push, G.new]⟩
 ·have tip : SimTip T ((g.new w.heap.size (some sl)).push 0 (.slice (some ⟨w.heap.size, 0, none⟩) n cap) n) (w.alloc (.cells cur e)) (g.new w.heap.size (some sl)).n e n sl (cur.toList.take (n * (T e).size)) 0 := by
   refine ⟨by simp [G.push], ?_, .inr <| .inr ⟨w.heap.size, cap, cur, by simp [G.push], by simp [G.push, G.new], heap_alloc_new w _, hnc, hcm, by rw [Nat.zero_add]; exact hcs, by rw [List.drop_zero]⟩⟩
   have := Nat.mul_le_mul_right (T e).size hnc
   simp; omega
  rcases hent with ⟨rfl, rfl⟩ | ⟨c, rfl, rfl, rfl, c1, c2, c3⟩
  ·exact ⟨0, _, tip⟩
  ·exact ⟨rfl, c1, _, tip, c2.ext (x1.trans x2), c3⟩
 ·intro c' hc' i ei hi hb
  have hc' : c' = w.heap.size := by
   rcases hent with ⟨rfl, rfl⟩ | ⟨c, rfl, _⟩ <;> simp [blkOf, G.push, Value.ownBlock] at hc' <;> omega
  subst hc'
  have : blkOf g i ei = some w.heap.size := by cases ei <;> exact hb
  have := hst.blk_lt hi this
  omega
theorem s_buildSlice (hT : Tab P T) {g : G} {w : World} {st : St} (hst : SimSt T g st w) {ρ : Operand → Value} {t : TypeId} {n : Nat} {parts : Array (Nat × Operand)} {v : V} {st' : St} {side : Prop} {ev : Operand → V} (hev : ∀ x, SimV g w (ev x) (ρ x))
  (h : memOp T an dst (.buildSlice t n parts) ev st = some (v, st', side)) : Did P T ρ ⟨dst, .buildSlice t n parts, ty, pos, aft, gd⟩ g w v st' := by
 simp only [memOp] at h
 split at h
 case h_2 => simp at h
 rename_i e hk
 split at h
 case isFalse => simp at h
 rename_i hsz
 obtain ⟨hsz, hbig⟩ := hsz
 have hke := sized_kind (i := T e) (by simp [hsz])
 split at h
 case h_2 => simp at h
 rename_i rows hrows
 have hu := hT.slice hk
 have hu' : (underlying t).run P w = .ok (.slice e) w := by simp [underlying, hu]
 obtain ⟨i, i1, i2, i3, i4⟩ := hT.info hke.1
 have hok := hT e hke.1
 have hso := hT.sizeOf hke.1 w
 have hz : (zeroValue e).run P w = .ok (T e).zval w := by simp [zeroValue, typeInfo, i1, i2]
 obtain ⟨vout, k1, k2, k3⟩ := litRows_sound (T e) n hok.2.2.2.1 (g := g) (w := w) hok.2.2.1 (parts.toList.reverse.map fun p => (p.1, ev p.2)) (parts.toList.reverse.map fun p => (p.1, ρ p.2)) rows (by simp)
  (fun j a b ha hb => by
   simp only [List.getElem?_map, Option.map_eq_some_iff] at ha hb
   obtain ⟨x, hx, rfl⟩ := ha
   obtain ⟨y, hy, rfl⟩ := hb
   rw [hx] at hy; cases hy
   exact ⟨rfl, hev _⟩) hrows
 obtain ⟨l1, l2⟩ := litRows_len _ rows hok.2.2.2.1 hrows
 have hvl : vout.length = n * (T e).size := by rw [k2.length, flatten_len rows l2, l1]
 have hrun : (execOp ρ ⟨dst, .buildSlice t n parts, ty, pos, aft, gd⟩).run P w = .ok (.value (.slice (some ⟨w.heap.size, 0, none⟩) n n)) (w.alloc (.cells vout.toArray e)) := by
  have hrev : (parts.toList.reverse.map fun p => (p.1, ρ p.2)).reverse = parts.toList.map fun p => (p.1, ρ p.2) := by simp
  rw [hrev] at k1
  have hcells := zval_cells hok
  have hzl : ((T e).zero.map V.raw).length = (T e).size := by simpa using hok.2.2.2.1
  have hne : (T e).zero.map V.raw ≠ [] := by intro h0; rw [h0] at hzl; simp at hzl; exact hke.2 hzl.symm
  have hzs := zeros_list ((T e).zero.map V.raw) n hne
  rw [hzl] at hzs
  simp only [execOp, Instr.buildSlice, Sem.run_bind, hu', Result.andThen_ok, hso]
  rw [show (16777216 : Nat) = 2 ^ 24 by rfl] at hbig
  rw [if_neg (by omega)]
  by_cases hn0 : n * (T e).size = 0
  ·have hn : n = 0 := by
    rcases Nat.mul_eq_zero.1 hn0 with h | h
    ·exact h
    ·exact absurd h hke.2
   subst hn
   simp only [Nat.zero_mul, if_true, Sem.run_pure, Result.andThen_ok, Sem.run_bind]
   simp only [List.replicate_zero, List.flatten_nil] at k1
   have e0 : (Array.map (fun _ => (default : Value)) (Array.range 0)) = #[] := by simp
   simp [k1, newRow, e0]
  ·rw [if_neg hn0]
   simp only [Sem.run_bind, hz, Result.andThen_ok, Sem.run_pure, hcells, hzs]
   simp [k1, newRow]
 have hnm : n ≤ maxLen := by
  have : n ≤ n * (T e).size := Nat.le_mul_of_pos_right _ (Nat.pos_of_ne_zero hke.2)
  unfold maxLen; omega
 have hsimrows : ∀ (c : List (List V)) (us : List Value) (off : Nat) (g' : G) (w' : World), (∀ r ∈ c, r.length = (T e).size) → SimAt g' w' ⟨w.heap.size, off, none⟩ c.flatten → SimRows g' w' ⟨w.heap.size, off, none⟩ (T e).size c := by
  intro c
  induction c with
  | nil => intro us off g' w' _ _; simp [SimRows]
  | cons r rs ih =>
   intro us off g' w' hl hs
   have hr := hl r (by simp)
   simp only [SimRows]
   rw [List.flatten_cons] at hs
   have h1 := hs.take r.length
   rw [List.take_left] at h1
   have h2 := hs.drop r.length rfl
   rw [List.drop_left, hr] at h2
   refine ⟨hr, h1, ?_⟩
   have e1 : (Addr.mk w.heap.size off none).add (T e).size = ⟨w.heap.size, off + (T e).size, none⟩ := Addr.add_eq rfl _
   rw [e1] at h2 ⊢
   exact ih us _ g' w' (fun x hx => hl x (by simp [hx])) h2
 split at h <;> simp only [Option.some.injEq, Prod.mk.injEq] at h <;> obtain ⟨rfl, rfl, rfl⟩ := h
 ·have hs := newSealed (g := g) (w := w) e k2 k3
  refine ⟨_, _, _, _, hrun, .inl rfl, ?_, hst.alloc _ none, Ext.alloc g w _ none⟩
  simp only [SimV]
  refine ⟨some ⟨w.heap.size, 0, none⟩, n, by rw [l1], by rw [l1]; exact Nat.le_refl _, hnm, by simp, .inr rfl, by simp, ?_⟩
  exact hsimrows rows [] 0 _ _ l2 hs
 ·obtain ⟨g', x, s, e1, e2, e3, e4⟩ := hst.newTip (e := e) (n := n) (cap := n) (cur := vout.toArray) (sl := n * (T e).size) (ent := .tip e n) (Nat.le_refl _) hnm (by simpa using hvl) (.inl ⟨rfl, rfl⟩)
  refine ⟨_, _, _, g', hrun, .inl rfl, ?_, s, x⟩
  simp only [SimV]
  refine ⟨some ⟨w.heap.size, 0, none⟩, n, by rw [l1], by rw [l1]; exact Nat.le_refl _, hnm, by simp, .inr rfl, fun k hk => ?_, ?_⟩
  ·cases hk
   exact ⟨by omega, by rw [e2, l1]; exact Nat.le_refl _, fun _ => e3⟩
  ·refine hsimrows rows [] 0 _ _ l2 ?_
   have k2' := k2.ext x
   have key : ∀ (c : List V) (us : List Value) (off : Nat), SimVs g' (w.alloc (.cells vout.toArray e)) c us → off + us.length = n * (T e).size → (∀ j u, us[j]? = some u → vout[off + j]? = some u) → SimAt g' (w.alloc (.cells vout.toArray e)) ⟨w.heap.size, off, none⟩ c := by
    intro c
    induction c with
    | nil => intro us off _ _ _; simp [SimAt]
    | cons y ys ih =>
     intro us off q1 q2 q3
     simp only [SimVs] at q1
     obtain ⟨z, r, rfl, q4, q5⟩ := q1
     have hv : vout[off]? = some z := by simpa using q3 0 z (by simp)
     simp only [SimAt]
     refine ⟨⟨z, ⟨rfl, by simp, fun k hk => ?_⟩, by simpa using hv, k3 z (List.mem_of_getElem? hv), q4⟩, ?_⟩
     ·simp only at hk ⊢
      rw [e4] at hk; cases hk
      simp at q2; omega
     ·have e : (Addr.mk w.heap.size off none).add 1 = ⟨w.heap.size, off + 1, none⟩ := Addr.add_eq rfl 1
      rw [e]
      exact ih r (off + 1) q5 (by simp at q2; omega) fun j u hj => by
       have := q3 (j + 1) u (by simpa using hj)
       rw [show off + (j + 1) = off + 1 + j by omega] at this; exact this
   exact key _ vout 0 k2' (by omega) (by simp)
 ·have htk : vout.toArray.toList.take (n * (T e).size) = vout := by simp; rw [← hvl]; simp
  obtain ⟨g', x, s, e1, e2, e3, e4⟩ := hst.newTip (e := e) (n := n) (cap := n) (cur := vout.toArray) (sl := 0) (ent := .arr e (T e).size rows) (Nat.le_refl _) hnm (by simpa using hvl)
   (.inr ⟨rows, rfl, l1, rfl, l2, by rw [htk]; exact k2, by rw [htk]; exact k3⟩)
  refine ⟨_, _, _, g', hrun, .inl rfl, ?_, s, x⟩
  simp only [SimV]
  exact ⟨by omega, by rw [e2]; exact Nat.le_refl _, fun _ => e3, _, _, rfl⟩
end
end Go.Proofs.YtpllcpbhjglpaaaGreatDoor.Gw
namespace Go.Proofs.YtpllcpbhjglpaaaGreatDoor.Gw
open Go
set_option linter.unusedSimpArgs false
section
variable {P : Program} {T : Nat → TI} {an : Nat → Nat} {dst : Option Tmp} {ty : TypeId} {pos : String} {aft : Array Edge} {gd : Option (Nat × Bool)}
/-- One entry is another one now; all else is as it was. -/
theorem SimSt.upd {g g' : G} {st : St} {w w' : World} (hst : SimSt T g st w) {k : Nat} {ent ent' : Ent} (hk : st[k]? = some ent) (hx : Ext g w g' w') (hn : g'.n = g.n) (hpb : ∀ o, g'.pb o = g.pb o)
  (hother : ∀ o, o ≠ k → g'.len o = g.len o ∧ g'.tv o = g.tv o)
  (hb : ∀ b, b < w.heap.size → blkOf g k ent ≠ some b → (g.own b).isSome = true → w'.heap[b]? = w.heap[b]? ∧ g'.own b = g.own b)
  (he : SimE T g' w' k ent') (hblk : ∀ b, blkOf g' k ent' = some b → blkOf g k ent = some b ∨ w.heap.size ≤ b) : SimSt T g' (st.set k ent') w' := by
 have hlen : k < st.length := (List.getElem?_eq_some_iff.1 hk).1
 have bk : ∀ i ei, i ≠ k → blkOf g' i ei = blkOf g i ei := by
  intro i ei hi
  cases ei <;> simp [blkOf, hpb, (hother i hi).2]
 refine ⟨by simpa using hn.trans hst.n, fun i e hi => ?_, fun i j ei ej b hi hj k1 k2 => ?_, hst.amb.ext hx⟩
 ·by_cases hio : i = k
  ·subst hio
   rw [List.getElem?_set_self hlen] at hi
   cases hi
   exact he
  ·rw [List.getElem?_set_ne (by omega)] at hi
   refine (hst.ent i e hi).keep hx (hpb i) (hother i hio).1 (hother i hio).2 fun b hbb => ?_
   obtain ⟨q1, q2⟩ := (hst.ent i e hi).blk hbb
   exact hb b q1 (fun h => hio (hst.one i k e ent b hi hk hbb h)) q2
 ·by_cases hi' : i = k <;> by_cases hj' : j = k
  ·rw [hi', hj']
  ·subst hi'
   rw [List.getElem?_set_self hlen] at hi
   cases hi
   rw [List.getElem?_set_ne (by omega)] at hj
   rw [bk j ej hj'] at k2
   rcases hblk b k1 with h | h
   ·exact hst.one i j ent ej b hk hj h k2
   ·have := hst.blk_lt hj k2; omega
  ·subst hj'
   rw [List.getElem?_set_self hlen] at hj
   cases hj
   rw [List.getElem?_set_ne (by omega)] at hi
   rw [bk i ei hi'] at k1
   rcases hblk b k2 with h | h
   ·exact hst.one i j ei ent b hi hk k1 h
   ·have := hst.blk_lt hi k1; omega
  ·rw [List.getElem?_set_ne (by omega)] at hi hj
   rw [bk i ei hi'] at k1
   rw [bk j ej hj'] at k2
   exact hst.one i j ei ej b hi hj k1 k2
/-- The ghost behind an append: the tip has another value and count; its block so many sealed cells. -/
def G.grow (g : G) (k : Nat) (v : Value) (n : Nat) (b : Option Nat) (c : Nat) (sl : Nat) : G :=
 { g with len := fun o => if o = k then n else g.len o, tv := fun o => if o = k then v else g.tv o, own := fun x => if x = c then some sl else if some x = b then none else g.own x }
/-- What is grown: the real step, for a tip whose real rows are xs. -/
theorem grow_step (hT : Tab P T) {g : G} {w : World} {st : St} (hst : SimSt T g st w) {k : Nat} {ent : Ent} (hk : st[k]? = some ent) (hbo : blkOf g k ent = (g.tv k).ownBlock) {e : TypeId} {n sl : Nat} {xs : List Value}
  (hke : (T e).kind ≠ .other) (_hsz : (T e).size ≠ 0) {fo : Nat} (htip : SimTip T g w k e n sl xs fo) {t xt : TypeId} {d : TypeDesc} (ht : P.underlying t = some (.slice e)) (hxt : P.underlying xt = some d) (hd : d = .string ∨ ∃ e', d = .slice e')
  {u : Value} {m : Nat} {news : List Value} (hf : Feeds P u (T e).size m news w) (hbound : (n + m) * (T e).bytes ≤ 140737488355328) (hbb : (T e).bytes ≠ 0) (sl' : Nat) (hsl : sl = 0 ∨ sl = n * (T e).size ∧ sl' = (n + m) * (T e).size) (hsl' : sl ≤ sl') :
  ∃ v' w' g', (Builtin.append_ #[t, xt] ty #[g.tv k, u]).run P w = .ok v' w' ∧ Ext g w g' w' ∧ g'.n = g.n ∧ (∀ o, g'.pb o = g.pb o) ∧ (∀ o, o ≠ k → g'.len o = g.len o ∧ g'.tv o = g.tv o) ∧ g'.tv k = v' ∧ g'.len k = n + m ∧
   (∀ b, b < w.heap.size → blkOf g k ent ≠ some b → (g.own b).isSome = true → w'.heap[b]? = w.heap[b]? ∧ g'.own b = g.own b) ∧
   (∃ o' xs', SimTip T g' w' k e (n + m) sl' xs' o' ∧ xs' = xs ++ news ∧ (fo = 0 → o' = 0)) ∧ (∀ b, v'.ownBlock = some b → blkOf g k ent = some b ∨ w.heap.size ≤ b) ∧
   (∃ a cap, v' = .slice a (n + m) cap ∧ n + m ≤ cap ∧ cap ≤ maxLen ∧ (a = none → cap = 0) ∧ (a.getD ⟨0, 0, none⟩).spot = none ∧ (∀ y, a = some y → 0 < n + m → ∃ cur, w'.heap[y.block]? = some (.cells cur e (0, 0)) ∧ g'.own y.block = some (y.off + sl') ∧ (cur.toList.drop y.off).take ((n + m) * (T e).size) = xs ++ news)) := by
 have hkn : k < g.n := by rw [hst.n]; exact (List.getElem?_eq_some_iff.1 hk).1
 obtain ⟨i, i1, i2, i3, i4⟩ := hT.info hke
 have hnm : n + m ≤ (n + m) * (T e).bytes := Nat.le_mul_of_pos_right _ (Nat.pos_of_ne_zero hbb)
 have hmax : n + m ≤ maxLen := by unfold maxLen; omega
 have hzl : (T e).zval.cells.size = (T e).size := by
  have hok := hT e hke
  rw [zval_cells hok]; simpa using hok.2.2.2.1
 have hf' : Feeds P u i.size m news w := by rw [i3]; exact hf
 obtain ⟨t1, t2, t3⟩ := htip
 have grown : ∀ (cap0 : Nat) (ob : Option Nat), (g.tv k).ownBlock = ob → (∀ b, ob = some b → b < w.heap.size) → n ≤ n + m → xs.length = n * (T e).size →
   (Builtin.append_ #[t, xt] ty #[g.tv k, u]).run P w = .ok (.slice (some ⟨w.heap.size, 0, none⟩) (n + m) (grownCap w (n + m) cap0 e)) (w.drew.alloc (.cells (xs.toArray ++ news.toArray ++ Builtin.zeroCells (T e).zval.cells (grownCap w (n + m) cap0 e - (n + m))) e)) →
   ∃ v' w' g', (Builtin.append_ #[t, xt] ty #[g.tv k, u]).run P w = .ok v' w' ∧ Ext g w g' w' ∧ g'.n = g.n ∧ (∀ o, g'.pb o = g.pb o) ∧ (∀ o, o ≠ k → g'.len o = g.len o ∧ g'.tv o = g.tv o) ∧ g'.tv k = v' ∧ g'.len k = n + m ∧
   (∀ b, b < w.heap.size → blkOf g k ent ≠ some b → (g.own b).isSome = true → w'.heap[b]? = w.heap[b]? ∧ g'.own b = g.own b) ∧
   (∃ o' xs', SimTip T g' w' k e (n + m) sl' xs' o' ∧ xs' = xs ++ news ∧ (fo = 0 → o' = 0)) ∧ (∀ b, v'.ownBlock = some b → blkOf g k ent = some b ∨ w.heap.size ≤ b) ∧
   (∃ a cap, v' = .slice a (n + m) cap ∧ n + m ≤ cap ∧ cap ≤ maxLen ∧ (a = none → cap = 0) ∧ (a.getD ⟨0, 0, none⟩).spot = none ∧ (∀ y, a = some y → 0 < n + m → ∃ cur, w'.heap[y.block]? = some (.cells cur e (0, 0)) ∧ g'.own y.block = some (y.off + sl') ∧ (cur.toList.drop y.off).take ((n + m) * (T e).size) = xs ++ news)) := by
  intro cap0 ob hob hobl _ hxl hrun
  have hge := grownCap_ge w (n + m) cap0 e
  have hcm : grownCap w (n + m) cap0 e ≤ maxLen := grownCap_le_maxLen w (n + m) cap0 e hmax
  have hcs : (xs.toArray ++ news.toArray ++ Builtin.zeroCells (T e).zval.cells (grownCap w (n + m) cap0 e - (n + m))).size = grownCap w (n + m) cap0 e * (T e).size := by
   simp only [Array.size_append, List.size_toArray, size_zeroCells, hzl, hxl, hf.len, ← Nat.add_mul]
   congr 1; omega
  have htk : (xs.toArray ++ news.toArray ++ Builtin.zeroCells (T e).zval.cells (grownCap w (n + m) cap0 e - (n + m))).toList.take ((n + m) * (T e).size) = xs ++ news := by
   have hlen : (xs ++ news).length = (n + m) * (T e).size := by rw [List.length_append, hxl, hf.len, Nat.add_mul]
   simp only [Array.toList_append, ← hlen]
   rw [List.take_left]
  have hnew : (w.drew.alloc (.cells (xs.toArray ++ news.toArray ++ Builtin.zeroCells (T e).zval.cells (grownCap w (n + m) cap0 e - (n + m))) e)).heap[w.heap.size]? = some (.cells (xs.toArray ++ news.toArray ++ Builtin.zeroCells (T e).zval.cells (grownCap w (n + m) cap0 e - (n + m))) e (0, 0)) := heap_alloc_new w.drew _
  have hold : ∀ b, b < w.heap.size → (w.drew.alloc (.cells (xs.toArray ++ news.toArray ++ Builtin.zeroCells (T e).zval.cells (grownCap w (n + m) cap0 e - (n + m))) e)).heap[b]? = w.heap[b]? := fun b hb => RowKit.Below.heap_alloc w.drew _ b hb
  refine ⟨_, _, g.grow k (.slice (some ⟨w.heap.size, 0, none⟩) (n + m) (grownCap w (n + m) cap0 e)) (n + m) ob w.heap.size sl', hrun, ?_, rfl, fun _ => rfl, fun o ho => ?_, ?_, ?_, ?_, ?_, ?_, ?_⟩
  ·refine ⟨rfl, rfl, rfl, by simp, Nat.le_refl _, fun _ _ => rfl, fun o _ => ?_, fun o _ ho => ?_, fun b hb hb' => ⟨hold b hb, ?_⟩, fun b k' hb hb' => ⟨fun off _ => cell_of_block (hold b hb), fun k'' hk'' => ?_⟩, fun b hb => shape_of_block (hold b hb)⟩
   ·simp only [G.grow]; split
    ·rename_i h; subst h; omega
    ·exact Nat.le_refl _
   ·by_cases hok : o = k
    ·subst hok
     simp only [G.grow, if_true] at ho ⊢
     have hm0 : m = 0 := by omega
     rcases t3 with ⟨h0, h1⟩ | ⟨h0, _, b, off, cur, s, h1, h2, h3, h4⟩ | ⟨b, cap, cur, h1, h2, h3, h4, _⟩
     ·exfalso
      rw [h1] at hrun
      have hf0 : Feeds P u i.size 0 news w := hm0 ▸ hf'
      have hz := run_append_zero w t xt ty e i d ht hxt hd i1 hf0
      rw [hz] at hrun
      simp at hrun
     ·exfalso
      have hnews : news = [] := List.eq_nil_of_length_eq_zero (by rw [hf.len, hm0]; simp)
      have hr := run_append_fits w t xt ty e i d ht hxt hd i1 b off 0 0 cur h3 hf' (by omega) (by rw [hnews]; simpa using h4)
      rw [h1, hr] at hrun
      simp only [Result.ok.injEq, Value.slice.injEq, Option.some.injEq, Addr.mk.injEq] at hrun
      have := (Array.getElem?_eq_some_iff.1 h3).1
      omega
     ·exfalso
      have hnews : news = [] := List.eq_nil_of_length_eq_zero (by rw [hf.len, hm0]; simp)
      have hfit : fo + n * i.size + news.length ≤ cur.size := by
       rw [hnews]
       have := Nat.mul_le_mul_right (T e).size h4
       rename_i hrest
       have := hrest.2.1
       rw [i3]; simp; omega
      have hr := run_append_fits w t xt ty e i d ht hxt hd i1 b fo n cap cur h3 hf' (by omega) hfit
      rw [h1, hr] at hrun
      simp only [Result.ok.injEq, Value.slice.injEq, Option.some.injEq, Addr.mk.injEq] at hrun
      have := (Array.getElem?_eq_some_iff.1 h3).1
      omega
    ·simp only [G.grow, if_neg hok] at ho ⊢
   ·simp only [G.grow]; rw [if_neg (by omega)]; split
    ·rfl
    ·exact hb'
   ·simp only [G.grow] at hk''
    rw [if_neg (by omega)] at hk''
    split at hk''
    ·cases hk''
    ·rw [hb'] at hk''; cases hk''; exact Nat.le_refl _
  ·simp only [G.grow, if_neg ho]; exact ⟨trivial, trivial⟩
  ·simp [G.grow]
  ·simp [G.grow]
  ·intro b hb hne hs
   refine ⟨hold b hb, ?_⟩
   simp only [G.grow]
   rw [if_neg (by omega), if_neg (by rw [← hob, ← hbo]; exact fun h => hne h.symm)]
  ·refine ⟨0, _, ⟨by simp [G.grow], ?_, .inr <| .inr ⟨w.heap.size, _, _, by simp [G.grow], by simp [G.grow], hnew, hge, hcm, by rw [Nat.zero_add]; exact hcs, by rw [List.drop_zero]; exact htk⟩⟩, rfl, fun _ => rfl⟩
   rw [List.length_append, hxl, hf.len, Nat.add_mul]
  ·intro b hb
   simp [Value.ownBlock] at hb
   exact .inr (by omega)
  ·refine ⟨_, _, rfl, hge, hcm, by simp, rfl, fun y hy _ => ?_⟩
   cases hy
   exact ⟨_, hnew, by simp [G.grow], by simpa using htk⟩
 rcases t3 with ⟨h0, h1⟩ | ⟨h0, ho1, b, off, cur, s, h1, h2, h3, h4⟩ | ⟨b, cap, cur, h1, h2, h3, h4, h5, h6, h7⟩
 rotate_left
 ·-- nothing, and no room
  subst h0
  have hxs : xs = [] := List.eq_nil_of_length_eq_zero (by simpa using t2)
  subst hxs
  have hblt := (Array.getElem?_eq_some_iff.1 h3).1
  have hob : (g.tv k).ownBlock = some b := by rw [h1]; rfl
  by_cases hm : m = 0
  ·subst hm
   have hnews : news = [] := List.eq_nil_of_length_eq_zero (by simpa using hf.len)
   subst hnews
   have hr := run_append_fits w t xt ty e i d ht hxt hd i1 b off 0 0 cur h3 hf' (by omega) (by simpa using h4)
   have hsame : w.setRow b (cur.toList.take (off + 0 * i.size) ++ [] ++ cur.toList.drop (off + 0 * i.size + ([] : List Value).length)).toArray = w := by
    have e1 : (cur.toList.take (off + 0 * i.size) ++ [] ++ cur.toList.drop (off + 0 * i.size + ([] : List Value).length)).toArray = cur := by simp
    rw [e1]
    exact setRow_self w b cur _ _ h3
   rw [hsame] at hr
   refine ⟨_, w, g, by rw [h1]; exact hr, Ext.refl _ _, rfl, fun _ => rfl, fun _ _ => ⟨rfl, rfl⟩, h1, t1, fun _ _ _ _ => ⟨rfl, rfl⟩, ⟨fo, [], ⟨t1, by simp, .inr (.inl ⟨rfl, ho1, b, off, cur, s, h1, h2, h3, h4⟩)⟩, rfl, fun h => h⟩, fun c hc => .inl (by rw [hbo, hob]; simpa [Value.ownBlock] using hc), ?_⟩
   exact ⟨_, _, rfl, by omega, by simp [maxLen], by simp, rfl, fun y _ h => by omega⟩
  ·have hr := run_append_more w t xt ty e i _ d ht hxt hd i1 i2 ⟨b, off, none⟩ 0 0 [] (by simp) (by intro j v hj; simp at hj) hf' (by omega) (by simp at hmax; unfold maxLen at hmax; omega) (growslice_fits (by omega) (by rw [i4]; simpa using hbound))
   simp only [Nat.zero_add] at grown ⊢
   exact grown 0 (some b) hob (by intro b' hb'; cases hb'; exact hblt) (by omega) (by simp) (by rw [h1]; simpa using hr)
 rotate_left
 ·-- nothing yet
  subst h0
  have hxs : xs = [] := List.eq_nil_of_length_eq_zero (by simpa using t2)
  subst hxs
  by_cases hm : m = 0
  ·subst hm
   have hnews : news = [] := List.eq_nil_of_length_eq_zero (by simpa using hf.len)
   subst hnews
   have hz := run_append_zero w t xt ty e i d ht hxt hd i1 hf'
   refine ⟨.slice none 0 0, w, g, by rw [h1]; exact hz, Ext.refl _ _, rfl, fun _ => rfl, fun _ _ => ⟨rfl, rfl⟩, h1, t1, fun _ _ _ _ => ⟨rfl, rfl⟩, ⟨fo, [], ⟨t1, by simp, .inl ⟨rfl, h1⟩⟩, rfl, fun h => h⟩, by simp [Value.ownBlock], ?_⟩
   exact ⟨none, 0, rfl, by omega, by simp [maxLen], by simp, rfl, by simp⟩
  ·have hr := run_append_none w t xt ty e i _ d ht hxt hd i1 i2 hf' (by omega) (by simp at hmax; unfold maxLen at hmax; omega) (by rw [i4]; simp at hbound; omega)
   simp only [Nat.zero_add] at grown ⊢
   exact grown 0 none (by rw [h1]; rfl) (by simp) (by omega) (by simp) (by rw [h1, hr]; simp)
 ·have hblt := (Array.getElem?_eq_some_iff.1 h3).1
  have hob : (g.tv k).ownBlock = some b := by rw [h1]; rfl
  by_cases hroom : n + m ≤ cap
  ·have hfit : fo + n * i.size + news.length ≤ cur.size := by
    have := Nat.mul_le_mul_right (T e).size hroom
    rw [Nat.add_mul] at this
    rw [hf.len, i3, h6]; omega
   have hr := run_append_fits w t xt ty e i d ht hxt hd i1 b fo n cap cur h3 hf' hroom hfit
   rw [i3] at hr hfit
   have hxl : fo + n * (T e).size ≤ cur.toList.length := by have := Nat.mul_le_mul_right (T e).size h4; simp; rw [h6]; omega
   have htk2 : ((cur.toList.take (fo + n * (T e).size) ++ news ++ cur.toList.drop (fo + n * (T e).size + news.length)).toArray.toList.drop fo).take ((n + m) * (T e).size) = xs ++ news := by
    have hlen : (xs ++ news).length = (n + m) * (T e).size := by rw [List.length_append, t2, hf.len, Nat.add_mul]
    have e0 : cur.toList.take (fo + n * (T e).size) = cur.toList.take fo ++ xs := by rw [← h7, List.take_add]
    have e1 : (cur.toList.take fo).length = fo := by rw [List.length_take]; omega
    rw [e0]
    simp only [List.append_assoc]
    rw [← hlen]
    have : (cur.toList.take fo ++ (xs ++ (news ++ cur.toList.drop (fo + n * (T e).size + news.length)))).drop fo = xs ++ (news ++ cur.toList.drop (fo + n * (T e).size + news.length)) := by
     conv => lhs; arg 1; rw [← e1]
     exact List.drop_left
    rw [this, ← List.append_assoc]
    exact List.take_left
   refine ⟨_, _, g.grow k (.slice (some ⟨b, fo, none⟩) (n + m) cap) (n + m) none b (fo + sl'), by rw [h1]; exact hr, ?_, rfl, fun _ => rfl, fun o ho => ?_, ?_, ?_, ?_, ?_, ?_, ?_⟩
   ·refine ⟨rfl, rfl, rfl, by simp, Nat.le_refl _, fun _ _ => rfl, fun o _ => ?_, fun o _ ho => ?_, fun c hc hc' => ⟨setRow_other w b c _ (fun h => by rw [h, h2] at hc'; cases hc'), ?_⟩, fun c k' hc hc' => ⟨fun off hoff => ?_, fun k'' hk'' => ?_⟩, shape_setRow (cs := cur.toList) (by simpa using h3) (by simp only [List.length_append, List.length_take, List.length_drop, Array.length_toList]; omega)⟩
    ·simp only [G.grow]; split
     ·rename_i h; subst h; omega
     ·exact Nat.le_refl _
    ·by_cases hok : o = k
     ·subst hok
      simp only [G.grow, if_true] at ho ⊢
      have : m = 0 := by omega
      subst this; rw [h1]; rfl
     ·simp only [G.grow, if_neg hok] at ho ⊢
    ·simp only [G.grow]
     rw [if_neg (fun h => by rw [h, h2] at hc'; cases hc'), if_neg (by simp)]; exact hc'
    ·by_cases hcb : c = b
     ·subst hcb
      rw [h2] at hc'; cases hc'
      simp only [World.cell?, setRow_heap w c cur _ e _ h3, h3]
      have hsln : sl ≤ n * (T e).size := by rcases hsl with h | h <;> omega
      simp only [List.append_assoc, Option.isSome_none, Bool.false_eq_true, if_false, List.getElem?_toArray]
      rw [List.getElem?_append_left (by simp at hxl ⊢; omega), List.getElem?_take, if_pos (by omega)]
      simp
     ·exact cell_of_block (setRow_other w b c _ hcb)
    ·simp only [G.grow] at hk''
     split at hk''
     ·rename_i h; subst h
      rw [h2] at hc'; cases hc'
      cases hk''; omega
     ·rw [if_neg (by simp), hc'] at hk''; cases hk''; exact Nat.le_refl _
   ·simp only [G.grow, if_neg ho]; exact ⟨trivial, trivial⟩
   ·simp [G.grow]
   ·simp [G.grow]
   ·intro c hc hne hs
    have hcb : c ≠ b := by intro h; subst h; exact hne (by rw [hbo, hob])
    refine ⟨setRow_other w b c _ hcb, ?_⟩
    simp only [G.grow]
    rw [if_neg hcb, if_neg (by simp)]
   ·refine ⟨fo, xs ++ news, ⟨by simp [G.grow], ?_, .inr <| .inr ⟨b, cap, _, by simp [G.grow], by simp [G.grow], setRow_heap w b cur _ e _ h3, hroom, h5, ?_, htk2⟩⟩, rfl, fun h => h⟩
    ·rw [List.length_append, t2, hf.len, Nat.add_mul]
    ·simp only [List.size_toArray, List.length_append, List.length_take, List.length_drop]
     simp at hxl ⊢; omega
   ·intro c hc
    simp [Value.ownBlock] at hc
    subst hc
    exact .inl (by rw [hbo, hob])
   ·refine ⟨_, _, rfl, hroom, h5, by simp, rfl, fun y hy _ => ?_⟩
    cases hy
    exact ⟨_, setRow_heap w b cur _ e _ h3, by simp [G.grow], htk2⟩
  ·have holds : ∀ j u, xs[j]? = some u → w.cell? ((⟨b, fo, none⟩ : Addr).add j) = some u := by
    intro j u' hj
    rw [Addr.add_eq rfl]
    simp only [World.cell?, h3]
    rw [← h7, List.getElem?_take] at hj
    split at hj
    ·simpa using hj
    ·cases hj
   have hr := run_append_more w t xt ty e i _ d ht hxt hd i1 i2 ⟨b, fo, none⟩ n cap xs (by rw [i3]; exact t2) holds hf' (by omega) (by unfold maxLen at hmax; omega) (growslice_fits (by omega) (by rw [i4]; exact hbound))
   exact grown cap (some b) hob (by intro b' hb'; cases hb'; exact hblt) (by omega) t2 (by rw [h1]; exact hr)
end
end Go.Proofs.YtpllcpbhjglpaaaGreatDoor.Gw
namespace Go.Proofs.YtpllcpbhjglpaaaGreatDoor.Gw
open Go
set_option linter.unusedSimpArgs false
section
variable {P : Program} {T : Nat → TI} {an : Nat → Nat} {dst : Option Tmp} {ty : TypeId} {pos : String} {aft : Array Edge} {gd : Option (Nat × Bool)}
theorem at_of_block {g : G} {w : World} {b o : Nat} {cur : Array Value} {e : TypeId} {fr : Nat × Nat} (hb : w.heap[b]? = some (.cells cur e fr)) {vs : List Value} (hone : ∀ u ∈ vs, u.oneCell' = true)
  (hcur : ∀ (j : Nat) (u : Value), vs[j]? = some u → cur[o + j]? = some u) (hsl : ∀ k, g.own b = some k → o + vs.length ≤ k) :
  ∀ (c : List V) (us : List Value) (off : Nat), SimVs g w c us → (∀ j u, us[j]? = some u → vs[off + j]? = some u) → SimAt g w ⟨b, o + off, none⟩ c := by
 have hlt := (Array.getElem?_eq_some_iff.1 hb).1
 intro c
 induction c with
 | nil => intro us off _ _; simp [SimAt]
 | cons y ys ih =>
  intro us off q1 q3
  simp only [SimVs] at q1
  obtain ⟨z, r, rfl, q4, q5⟩ := q1
  have hv : vs[off]? = some z := by simpa using q3 0 z (by simp)
  have hoff := (List.getElem?_eq_some_iff.1 hv).1
  simp only [SimAt]
  refine ⟨⟨z, ⟨rfl, hlt, fun k hk => by have := hsl k hk; simp only; omega⟩, by simp [World.cell?, hb, hcur off z hv], hone z (List.mem_of_getElem? hv), q4⟩, ?_⟩
  have e1 : (Addr.mk b (o + off) none).add 1 = ⟨b, o + (off + 1), none⟩ := Addr.add_eq rfl 1
  rw [e1]
  exact ih r (off + 1) q5 fun j u hj => by
   have := q3 (j + 1) u (by simpa using hj)
   rw [show off + (j + 1) = off + 1 + j by omega] at this; exact this
theorem rows_of_at {g : G} {w : World} {b sz : Nat} : ∀ (c : List (List V)) (off : Nat), (∀ r ∈ c, r.length = sz) → SimAt g w ⟨b, off, none⟩ c.flatten → SimRows g w ⟨b, off, none⟩ sz c
 | [], _, _, _ => by simp [SimRows]
 | r :: rs, off, hl, hs => by
  have hr := hl r (by simp)
  simp only [SimRows]
  rw [List.flatten_cons] at hs
  have h1 := hs.take r.length
  rw [List.take_left] at h1
  have h2 := hs.drop r.length rfl
  rw [List.drop_left, hr] at h2
  refine ⟨hr, h1, ?_⟩
  have e1 : (Addr.mk b off none).add sz = ⟨b, off + sz, none⟩ := Addr.add_eq rfl _
  rw [e1] at h2 ⊢
  exact rows_of_at rs _ (fun x hx => hl x (by simp [hx])) h2
/-- The real rows of a tip are those that its value tells. -/
theorem tip_rows {g : G} {w : World} {k : Nat} {e : TypeId} {sl : Nat} {xs : List Value} {l : List (List V)} {tk : Option Nat} (h : SimV g w (.lst (T e).size tk l) (g.tv k)) {o : Nat} (ht : SimTip T g w k e l.length sl xs o) :
  SimVs g w l.flatten xs ∧ (∀ u ∈ xs, u.oneCell' = true) ∧ ∀ r ∈ l, r.length = (T e).size := by
 obtain ⟨news, hf, h2, h3⟩ := Feeds.lst (P := default) h
 obtain ⟨t1, t2, t3⟩ := ht
 rcases t3 with ⟨h0, h1⟩ | ⟨h0, _⟩ | ⟨b, cap, cur, h1, k2, k3, k4, k5, k6, k7⟩
 rotate_left
 ·have hl : l = [] := List.eq_nil_of_length_eq_zero h0
  subst hl
  have : xs = [] := List.eq_nil_of_length_eq_zero (by simpa using t2)
  subst this
  exact ⟨by simp [SimVs], by simp, by simp⟩
 rotate_left
 ·have hl : l = [] := List.eq_nil_of_length_eq_zero h0
  subst hl
  have : xs = [] := List.eq_nil_of_length_eq_zero (by simpa using t2)
  subst this
  exact ⟨by simp [SimVs], by simp, by simp⟩
 ·have hc := hf.cells
  rw [h1] at hc
  have holds : ∀ j u, xs[j]? = some u → w.cell? ((⟨b, o, none⟩ : Addr).add j) = some u := by
   intro j u' hj
   rw [Addr.add_eq rfl]
   simp only [World.cell?, k3]
   rw [← k7, List.getElem?_take] at hj
   split at hj
   ·simpa using hj
   ·cases hj
  have hr := run_firstCells_some (P := default) w (T e).size l.length ⟨b, o, none⟩ l.length cap xs t2 holds
  rw [hr] at hc
  simp only [Result.ok.injEq, and_true] at hc
  have : xs = news := by simpa using hc
  subst this
  exact ⟨h2, hf.one, h3⟩
/-- What is appended, as rows. -/
theorem rowsOf_feeds {g : G} {w : World} {sz : Nat} {x : V} {u : Value} {m : List (List V)} (h : rowsOf sz x = some m) (hx : SimV g w x u) :
  ∃ news, Feeds P u sz m.length news w ∧ SimVs g w m.flatten news ∧ ∀ r ∈ m, r.length = sz := by
 unfold rowsOf at h
 split at h
 ·simp only [Option.some.injEq] at h; subst h
  simp only [SimV] at hx; subst hx
  exact ⟨[], Feeds.nils, by simp [SimVs], by simp⟩
 ·split at h
  ·rename_i hs
   subst hs
   simp only [Option.some.injEq] at h; subst h
   exact Feeds.lst hx
  ·simp at h
 ·rename_i s
  split at h
  ·rename_i hs
   subst hs
   simp only [Option.some.injEq] at h; subst h
   simp only [SimV] at hx; obtain ⟨rfl, _⟩ := hx
   refine ⟨_, by simpa using Feeds.str s, ?_, by simp⟩
   rename_i hlen; clear hlen
   have : (s.map fun b => [V.int .u8 b.toNat]).flatten = s.map fun b => V.int .u8 b.toNat := by
    induction s with
    | nil => rfl
    | cons b s ih => simp only [List.map_cons, List.flatten_cons, ih]; rfl
   rw [this]
   exact SimVs.mk_map _ _ s fun b _ => by simp [SimV]
  ·simp at h
 ·simp at h
theorem s_append (hT : Tab P T) {g : G} {w : World} {st : St} (hst : SimSt T g st w) {mode : Nat} {e : TypeId} (hsz : (T e).sized = true) (hbb : (T e).bytes ≠ 0) {t xt : TypeId} {d : TypeDesc} (ht : P.underlying t = some (.slice e)) (hxt : P.underlying xt = some d) (hd : d = .string ∨ ∃ e', d = .slice e')
  {s x : V} {us ux : Value} {m : List (List V)} (hs : SimV g w s us) (hx : SimV g w x ux) (hm : rowsOf (T e).size x = some m) {v : V} {st' : St} {side : Prop} (h : appendV mode e (T e) s m st = some (v, st', side)) (hside : side) :
  ∃ val w' g', (Builtin.append_ #[t, xt] ty #[us, ux]).run P w = .ok val w' ∧ SimV g' w' v val ∧ SimSt T g' st' w' ∧ Ext g w g' w' := by
 have hke := sized_kind (i := T e) (by simp [hsz])
 -- a growing list
 have tipCase : ∀ {g : G} {w : World} {st : St} {k : Nat} {l : List (List V)} {us ux : Value}, SimSt T g st w → st[k]? = some (.tip e l.length) → SimV g w (.lst (T e).size (some k) l) us → us = g.tv k → SimV g w x ux → (l.length + m.length) * (T e).bytes ≤ 140737488355328 →
   ∃ val w' g', (Builtin.append_ #[t, xt] ty #[us, ux]).run P w = .ok val w' ∧ SimV g' w' (.lst (T e).size (some k) (l ++ m)) val ∧ SimSt T g' (st.set k (.tip e (l.length + m.length))) w' ∧ Ext g w g' w' ∧
    (∃ a cap, val = .slice a (l.length + m.length) cap) := by
  intro g w st k l us ux hst hk hus hust hx hb
  subst hust
  obtain ⟨o, xs, htip⟩ := hst.ent k _ hk
  obtain ⟨q1, q2, q3⟩ := tip_rows hus htip
  obtain ⟨news, f1, f2, f3⟩ := rowsOf_feeds (P := P) hm hx
  obtain ⟨v', w', g', r1, r2, r3, r4, r5, r6, r7, r8, ⟨o', xs', r9, r10, r0⟩, r11, ⟨a, cap, r12, r13, r14, r15, r16, r17⟩⟩ :=
   grow_step hT hst hk rfl hke.1 hke.2 htip ht hxt hd f1 hb hbb ((l.length + m.length) * (T e).size) (.inr ⟨rfl, rfl⟩) (Nat.mul_le_mul_right _ (by omega)) (ty := ty)
  have hflat : SimVs g' w' (l ++ m).flatten (xs ++ news) := by
   rw [List.flatten_append]; exact (q1.ext r2).append (f2.ext r2)
  have hones : ∀ u ∈ xs ++ news, u.oneCell' = true := by
   intro u hu
   rcases List.mem_append.1 hu with h | h
   ·exact q2 u h
   ·exact f1.one u h
  have hrl : ∀ r ∈ l ++ m, r.length = (T e).size := by
   intro r hr
   rcases List.mem_append.1 hr with h | h
   ·exact q3 r h
   ·exact f3 r h
  have hkn : k < g.n := by rw [hst.n]; exact (List.getElem?_eq_some_iff.1 hk).1
  have hlen : (xs ++ news).length = (l.length + m.length) * (T e).size := by
   rw [hflat.length, flatten_len _ hrl, List.length_append]
  refine ⟨v', w', g', r1, ?_, hst.upd hk r2 r3 r4 r5 r8 ⟨o', xs', r9⟩ (fun b hb' => r11 b (by rw [← r6]; exact hb')), r2, a, cap, r12⟩
  simp only [SimV]
  refine ⟨a, cap, by rw [r12, List.length_append], by rw [List.length_append]; exact r13, r14, r15, .inr r16, fun k' hk' => ?_, ?_⟩
  ·cases hk'
   exact ⟨by omega, by rw [r7, List.length_append]; exact Nat.le_refl _, fun _ => r6⟩
  ·cases a with
   | none =>
    have : l ++ m = [] := List.eq_nil_of_length_eq_zero (by have := r15 rfl; rw [List.length_append]; omega)
    rw [this]; simp [SimRows]
   | some y =>
    by_cases hz : l ++ m = []
    ·rw [hz]; simp [SimRows]
    have hzl : 0 < l.length + m.length := by rw [← List.length_append]; exact List.length_pos_iff.2 hz
    obtain ⟨cur, y2, y3, y4⟩ := r17 y rfl hzl
    simp only [Option.getD_some] at r16 ⊢
    obtain ⟨yb, yo, ys⟩ := y
    simp only at y2 y3 y4 r16
    subst r16
    refine rows_of_at _ yo hrl (at_of_block (o := yo) (vs := xs ++ news) y2 hones (fun j u hj => ?_) (fun k' hk' => ?_) _ (xs ++ news) 0 hflat (by simp))
    ·rw [← y4, List.getElem?_take] at hj
     split at hj
     ·simpa using hj
     ·cases hj
    ·rw [y3] at hk'; cases hk'; omega
 -- a growing array
 have arrCase : ∀ {g : G} {w : World} {st : St} {k : Nat} {c : List (List V)} {us ux : Value}, SimSt T g st w → st[k]? = some (.arr e (T e).size c) → us = g.tv k → SimV g w x ux → (c.length + m.length) * (T e).bytes ≤ 140737488355328 →
   ∃ val w' g', (Builtin.append_ #[t, xt] ty #[us, ux]).run P w = .ok val w' ∧ SimV g' w' (.arr k (c.length + m.length)) val ∧ SimSt T g' (st.set k (.arr e (T e).size (c ++ m))) w' ∧ Ext g w g' w' := by
  intro g w st k c us ux hst hk hust hx hb
  subst hust
  obtain ⟨-, q3, xs, htip, q1, q2⟩ := hst.ent k _ hk
  obtain ⟨news, f1, f2, f3⟩ := rowsOf_feeds (P := P) hm hx
  obtain ⟨v', w', g', r1, r2, r3, r4, r5, r6, r7, r8, ⟨o', xs', r9, r10, r0⟩, r11, ⟨a, cap, r12, r13, r14, r15, r16, r17⟩⟩ :=
   grow_step hT hst hk rfl hke.1 hke.2 htip ht hxt hd f1 hb hbb 0 (.inl rfl) (Nat.le_refl _) (ty := ty)
  have hflat : SimVs g' w' (c ++ m).flatten (xs ++ news) := by
   rw [List.flatten_append]; exact (q1.ext r2).append (f2.ext r2)
  have hkn : k < g.n := by rw [hst.n]; exact (List.getElem?_eq_some_iff.1 hk).1
  subst r10
  cases r0 rfl
  refine ⟨v', w', g', r1, ?_, hst.upd hk r2 r3 r4 r5 r8 ⟨rfl, ?_, xs ++ news, by rw [List.length_append]; exact r9, hflat, ?_⟩ (fun b hb' => r11 b (by rw [← r6]; exact hb')), r2⟩
  ·simp only [SimV]
   exact ⟨by omega, by omega, fun _ => r6, a, cap, r12⟩
  ·intro r hr
   rcases List.mem_append.1 hr with h | h
   ·exact q3 r h
   ·exact f3 r h
  ·intro u hu
   rcases List.mem_append.1 hu with h | h
   ·exact q2 u h
   ·exact f1.one u h
 unfold appendV at h
 split at h
 ·-- nil
  simp only [SimV] at hs
  subst hs
  have x2 := Ext.push g w 0 (.slice none 0 0) 0
  have hn : g.n = st.length := hst.n
  split at h <;> simp only [Option.some.injEq, Prod.mk.injEq] at h <;> obtain ⟨rfl, rfl, rfl⟩ := h
  ·have h1 : SimSt T (g.push 0 (.slice none 0 0) 0) (st ++ [.arr e (T e).size []]) w := hst.push ⟨rfl, by simp, [], ⟨by simp [G.push], by simp, .inl ⟨rfl, by simp [G.push]⟩⟩, by simp [SimVs], by simp⟩ (fun c hc => by simp [blkOf, G.push, Value.ownBlock] at hc)
   obtain ⟨val, w', g', a1, a2, a3, a4⟩ := arrCase (k := st.length) (c := []) h1 (by simp) (by simp [G.push, hn]) (hx.ext x2) (by simpa using hside) (us := .slice none 0 0)
   refine ⟨val, w', g', a1, by simpa using a2, by simpa using a3, x2.trans a4⟩
  ·have h1 : SimSt T (g.push 0 (.slice none 0 0) 0) (st ++ [.tip e 0]) w := hst.push ⟨0, [], by simp [G.push], by simp, .inl ⟨rfl, by simp [G.push]⟩⟩ (fun c hc => by simp [blkOf, G.push, Value.ownBlock] at hc)
   obtain ⟨val, w', g', a1, a2, a3, a4, _⟩ := tipCase (k := st.length) (l := []) h1 (by simp) (us := .slice none 0 0) (by
    simp only [SimV]
    exact ⟨none, 0, rfl, by simp, by simp [maxLen], by simp, by simp, fun k hk => by cases hk; exact ⟨by simp [G.push, hn], by simp, fun _ => by simp [G.push, hn]⟩, by simp [SimRows]⟩) (by simp [G.push, hn]) (hx.ext x2) (by simpa using hside)
   refine ⟨val, w', g', a1, by simpa using a2, by simpa using a3, x2.trans a4⟩
 ·rename_i sz k l
  split at h
  case h_2 => simp at h
  rename_i e' n hk
  split at h
  case isFalse => simp at h
  rename_i hee
  obtain ⟨rfl, rfl⟩ := hee
  simp only [Option.some.injEq, Prod.mk.injEq] at h
  obtain ⟨rfl, rfl, rfl⟩ := h
  obtain ⟨rfl, hb⟩ := hside
  have hlen : g.len k = l.length := by obtain ⟨_, xs, h, _⟩ := hst.ent k _ hk; exact h
  have hus : us = g.tv k := by
   simp only [SimV] at hs
   obtain ⟨a, cap, c1, _, _, _, _, c2, _⟩ := hs
   exact ((c2 k rfl).2.2 hlen).symm
  obtain ⟨val, w', g', a1, a2, a3, a4, _⟩ := tipCase hst hk hs hus hx hb
  exact ⟨val, w', g', a1, a2, a3, a4⟩
 ·rename_i k n
  split at h
  case h_2 => simp at h
  rename_i e' sz c hk
  split at h
  case isFalse => simp at h
  rename_i hee
  obtain ⟨rfl, rfl⟩ := hee
  simp only [Option.some.injEq, Prod.mk.injEq] at h
  obtain ⟨rfl, rfl, rfl⟩ := h
  obtain ⟨rfl, hb⟩ := hside
  have hlen : g.len k = c.length := by obtain ⟨_, _, xs, h, _⟩ := hst.ent k _ hk; exact h.1
  have hus : us = g.tv k := by
   simp only [SimV] at hs
   exact (hs.2.2.1 hlen).symm
  exact arrCase hst hk hus hx hb
 ·simp at h
end
end Go.Proofs.YtpllcpbhjglpaaaGreatDoor.Gw
namespace Go.Proofs.YtpllcpbhjglpaaaGreatDoor.Gw
open Go
set_option linter.unusedSimpArgs false
section
variable {P : Program} {T : Nat → TI} {an : Nat → Nat} {dst : Option Tmp} {ty : TypeId} {pos : String} {aft : Array Edge} {gd : Option (Nat × Bool)}
def shpO : Obj → Option (TypeId × Nat)
 | .cells c e _ => some (e, c.size)
 | _ => none
theorem shape_eq (w : World) (b : Nat) : w.shape? b = w.heap[b]?.bind shpO := by
 simp only [World.shape?]
 cases w.heap[b]? with
 | none => rfl
 | some o => cases o <;> rfl
/-- One block that the state owns is another object now. -/
theorem SimSt.setObj {g : G} {st : St} {w w1 : World} (hst : SimSt T g st w) (hal : w1.heap = w.heap ∧ w1.os = w.os ∧ w1.tape = w.tape ∧ w1.output = w.output) {k : Nat} {ent ent' : Ent} (hk : st[k]? = some ent) {o o' : Obj} (hb : w.heap[g.pb k]? = some o) (ho : g.own (g.pb k) = some 0)
  (hblk : blkOf g k ent = some (g.pb k)) (hblk' : blkOf g k ent' = some (g.pb k))
  (he : ∀ w', Ext g w g w' → w'.heap[g.pb k]? = some o' → SimE T g w' k ent') (hsh : shpO o' = shpO o := by rfl) :
  SimSt T g (st.set k ent') { w1 with heap := w1.heap.setIfInBounds (g.pb k) o' } ∧ Ext g w g { w1 with heap := w1.heap.setIfInBounds (g.pb k) o' } := by
 obtain ⟨e1, e2, e3, e4⟩ := hal
 have hlt := (Array.getElem?_eq_some_iff.1 hb).1
 have hne : ∀ b, b ≠ g.pb k → (w1.heap.setIfInBounds (g.pb k) o')[b]? = w.heap[b]? := fun b h => by rw [Array.getElem?_setIfInBounds, if_neg (Ne.symm h), e1]
 have hself : (w1.heap.setIfInBounds (g.pb k) o')[g.pb k]? = some o' := by rw [Array.getElem?_setIfInBounds, if_pos rfl, if_pos (by rw [e1]; exact hlt)]
 have hx : Ext g w g { w1 with heap := w1.heap.setIfInBounds (g.pb k) o' } := by
  refine ⟨e2, e3, e4, (by simp [e1]), Nat.le_refl _, fun _ _ => rfl, fun _ _ => Nat.le_refl _, fun _ _ _ => rfl, fun b hb2 hf => ⟨hne b (fun e => by rw [e, ho] at hf; cases hf), hf⟩, fun b n hb2 hn => ⟨fun off hoff => ?_, fun k' hk' => by rw [hn] at hk'; cases hk'; exact Nat.le_refl _⟩, fun b hb2 => by
   by_cases e : b = g.pb k
   ·subst e; rw [shape_eq, shape_eq]; show ((w1.heap.setIfInBounds _ _)[_]?).bind shpO = _; rw [hself, hb]; exact hsh
   ·exact shape_of_block (hne b e)⟩
  by_cases e : b = g.pb k
  ·subst e; rw [ho] at hn; cases hn; omega
  ·exact cell_of_block (hne b e)
 refine ⟨hst.upd hk hx rfl (fun _ => rfl) (fun _ _ => ⟨rfl, rfl⟩) (fun b _ h _ => ⟨hne b fun e => h (by rw [hblk, e]), rfl⟩) (he _ hx hself) (fun b h => .inl (by rw [hblk'] at h; rw [hblk, h])), hx⟩
/-- A new block that the state owns. -/
theorem SimSt.newObj {g : G} {st : St} {w : World} (hst : SimSt T g st w) (o : Obj) {ent : Ent} (hblk : ∀ g' : G, blkOf g' st.length ent = some (g'.pb st.length))
  (he : ∀ g' : G, Ext g w g' (w.alloc o) → g'.own (g'.pb st.length) = some 0 → (w.alloc o).heap[g'.pb st.length]? = some o → st.length < g'.n → SimE T g' (w.alloc o) st.length ent) :
  ∃ g', Ext g w g' (w.alloc o) ∧ SimSt T g' (st ++ [ent]) (w.alloc o) ∧ g'.pb st.length = w.heap.size ∧ st.length < g'.n := by
 have h1 := hst.alloc o (some 0)
 have x1 := Ext.alloc g w o (some 0)
 have x2 := Ext.push (g.new w.heap.size (some 0)) (w.alloc o) w.heap.size default 0
 have hn : g.n = st.length := hst.n
 have hpb : ((g.new w.heap.size (some 0)).push w.heap.size default 0).pb st.length = w.heap.size := by simp [G.push, G.new, hn]
 have hnn : st.length < ((g.new w.heap.size (some 0)).push w.heap.size default 0).n := by simp [G.push, G.new, hn]
 refine ⟨_, x1.trans x2, h1.push ?_ ?_, hpb, hnn⟩
 ·have e : (g.new w.heap.size (some 0)).n = st.length := hn
  rw [e]
  exact he _ (x1.trans x2) (by rw [hpb]; simp [G.push, G.new]) (by rw [hpb]; exact heap_alloc_new w _) hnn
 ·intro c' hc' i ei hi hb
  have e : (g.new w.heap.size (some 0)).n = st.length := hn
  rw [e, hblk, hpb] at hc'
  cases hc'
  have : blkOf g i ei = some w.heap.size := by
   cases ei <;> exact hb
  have := hst.blk_lt hi this
  omega
-- keys
theorem keyKind_der (hT : Tab P T) {t : TypeId} (h : keyKind (T t).kind = true) : (T t).kind ≠ .other ∧ (T t).agg = false ∧ ∃ d, P.underlying t = some d ∧ (d = .bool ∨ d = .string ∨ ∃ k, d = .int k) := by
 unfold keyKind at h
 split at h
 ·rename_i k hk; exact ⟨by rw [hk]; simp, by unfold TI.agg; rw [hk], _, hT.int hk, .inr (.inr ⟨_, rfl⟩)⟩
 ·rename_i hk; exact ⟨by rw [hk]; simp, by unfold TI.agg; rw [hk], _, hT.str hk, .inr (.inl rfl)⟩
 ·rename_i hk; exact ⟨by rw [hk]; simp, by unfold TI.agg; rw [hk], _, hT.bool hk, .inl rfl⟩
 ·cases h
theorem run_check1 {w : World} {e : Bool} {n : Nat} {t : TypeId} {d : TypeDesc} {v : Value} (h : P.underlying t = some d) (hd : d = .bool ∨ d = .string ∨ ∃ k, d = .int k) : (Instr.checkKey e (n + 1) t v).run P w = .ok () w := by
 unfold Instr.checkKey
 simp only [Sem.run_bind, run_underlying h, Result.andThen]
 rcases hd with rfl | rfl | ⟨k, rfl⟩ <;> rfl
theorem upFrom_get : ∀ {fs : List (Nat × TypeId)} {n m : Nat}, upFrom n fs m = true → m = n + fs.length ∧ ∀ f ∈ fs, f.1 < m
 | [], n, m, h => by simp [upFrom] at h; exact ⟨by simp [h], by simp⟩
 | (o, t) :: r, n, m, h => by
  simp only [upFrom, Bool.and_eq_true, beq_iff_eq] at h
  obtain ⟨h1, h2⟩ := upFrom_get h.2
  refine ⟨by simp; omega, fun f hf => ?_⟩
  rcases List.mem_cons.1 hf with rfl | hf
  ·simp only; omega
  ·exact h2 f hf
theorem s_checkKey {g : G} {w : World} (hT : Tab P T) {t : TypeId} (ho : keyOk T (T t).kind = true) {x : V} {v : Value} (hg : keyGood (T t).kind x = true) (hx : SimV g w x v) (e : Bool) : (Instr.checkKey e 10000 t v).run P w = .ok () w := by
 unfold keyOk at ho
 split at ho
 ·rename_i fs hk
  rw [hk] at hg
  cases x with
  | agg a =>
   simp only [keyGood] at hg
   simp only [SimV] at hx
   obtain ⟨vs, rfl, h2, _⟩ := hx
   obtain ⟨t1, t2, t3, t4, t5⟩ := hT.eq hk
   obtain ⟨_, hlt⟩ := upFrom_get hg
   unfold Instr.checkKey
   simp only [Sem.run_bind, run_underlying t4, Result.andThen_ok]
   rw [← Array.forIn_toList]
   have key : ∀ l : List Field, (∀ f ∈ l, keyKind (T f.type).kind = true ∧ f.offset < vs.length) →
     (forIn l PUnit.unit (fun f (_ : PUnit) =>
      if f.name ≠ "_" then (do
       let d ← part f.type vs.toArray f.offset
       Instr.checkKey e 9999 f.type d
       pure (ForInStep.yield PUnit.unit))
      else pure (ForInStep.yield PUnit.unit)) : Sem PUnit).run P w = .ok PUnit.unit w := by
    intro l
    induction l with
    | nil => intro _; simp
    | cons f l ih =>
     intro h
     obtain ⟨q1, q2⟩ := h f (by simp)
     obtain ⟨k1, k2, d, k3, k4⟩ := keyKind_der hT q1
     have hp := s_part (w := w) hT k1 k2 (cs := vs.toArray) (off := f.offset) (v := vs[f.offset]) (by simp [q2])
     have hc := run_check1 (w := w) (e := e) (n := 9998) (v := vs[f.offset]) k3 k4
     have hi := ih (fun f hf => h f (by simp [hf]))
     simp only [List.forIn_cons, Sem.run_bind, Sem.run_ite]
     split
     ·simp only [Sem.run_bind, hp, hc, Result.andThen_ok, Sem.run_pure]; exact hi
     ·simp only [Sem.run_pure, Result.andThen_ok]; exact hi
   have hlen := h2.length
   rw [key (P.fieldsOf t).toList fun f hf => ?_]
   ·rfl
   ·have hm : (f.offset, f.type) ∈ fs := by rw [← t5]; exact List.mem_map.2 ⟨f, hf, rfl⟩
    exact ⟨by simpa using List.all_eq_true.1 ho _ hm, by rw [hlen]; exact hlt _ hm⟩
  | _ => simp [keyGood] at hg
 ·rename_i h0
  obtain ⟨_, _, d, h1, h2⟩ := keyKind_der hT ho
  exact run_check1 h1 h2
theorem bytes_beq (a b : List UInt8) : ((⟨a.toArray⟩ : ByteArray) == ⟨b.toArray⟩) = decide (a = b) := by
 by_cases h : a = b
 ·subst h
  simp only [decide_true]
  exact (MapKept.bytes_beq _ _).2 rfl
 ·simp only [h, decide_false]
  cases hc : ((⟨a.toArray⟩ : ByteArray) == ⟨b.toArray⟩) with
  | false => rfl
  | true => exact absurd (by have := (MapKept.bytes_beq _ _).1 hc; simpa using this) h
theorem s_sameNow {g : G} {w : World} (hT : Tab P T) {t : TypeId} {a b : V} {x y : Value} {p : Bool} (ha : SimV g w a x) (hb : SimV g w b y) (h : eqCell (T t).kind a b = some p) : ∃ d, P.underlying t = some d ∧ Instr.sameNow d x y = some p ∧ ∀ n, p = true → Instr.sameBits n y x = true := by
 unfold eqCell at h
 split at h
 ·rename_i k j a j' b hk
  split at h
  ·rename_i hj
   obtain ⟨rfl, rfl⟩ := hj
   simp only [SimV] at ha hb
   subst ha hb
   simp only [Option.some.injEq] at h
   subst h
   refine ⟨_, hT.int hk, by simp [Instr.sameNow]; by_cases e : a = b <;> simp [e], fun n hp => ?_⟩
   have := of_decide_eq_true hp
   subst this
   cases n <;> simp [Instr.sameBits]
  ·cases h
 ·rename_i a b hk
  simp only [SimV] at ha hb
  obtain ⟨rfl, _⟩ := ha
  obtain ⟨rfl, _⟩ := hb
  simp only [Option.some.injEq] at h
  subst h
  refine ⟨_, hT.str hk, by simp [Instr.sameNow, bytes_beq], fun n hp => ?_⟩
  have := of_decide_eq_true hp
  subst this
  cases n <;> simp [Instr.sameBits, bytes_beq]
 ·rename_i a b hk
  simp only [SimV] at ha hb
  subst ha hb
  simp only [Option.some.injEq] at h
  subst h
  refine ⟨_, hT.bool hk, by simp [Instr.sameNow], fun n hp => ?_⟩
  have := beq_iff_eq.1 hp
  subst this
  cases n <;> simp [Instr.sameBits]
 ·cases h
theorem eqFs_all : ∀ {fs : List (Nat × TypeId)} {n m : Nat} {a b : List V}, upFrom n fs m = true → eqFs T fs a b = some true → ∀ j, n ≤ j → j < m → ∃ ft p q, a[j]? = some p ∧ b[j]? = some q ∧ eqCell (T ft).kind p q = some true
 | [], n, m, a, b, h, _, j, h1, h2 => by simp [upFrom] at h; omega
 | (o, ft) :: r, n, m, a, b, h, he, j, h1, h2 => by
  simp only [upFrom, Bool.and_eq_true, beq_iff_eq] at h
  obtain ⟨rfl, hr⟩ := h
  simp only [eqFs] at he
  split at he
  ·rename_i x y hx hy
   cases hc : eqCell (T ft).kind x y with
   | none => rw [hc] at he; simp at he
   | some p =>
    rw [hc] at he
    simp only [Option.bind_some, Option.map_eq_some_iff, Bool.and_eq_true] at he
    obtain ⟨q, hq, rfl, rfl⟩ := he
    by_cases e : j = o
    ·subst e; exact ⟨ft, x, y, hx, hy, hc⟩
    ·exact eqFs_all hr hq j (by omega) h2
  ·cases he
theorem keyEq_scalar {k : TK} (h : ∀ fs, k ≠ .struct fs) (x y : V) : keyEq T k x y = eqCell k x y := by
 cases k <;> first | rfl | exact absurd rfl (h _)
theorem keyGood_agg {fs : List (Nat × TypeId)} {x : V} (h : keyGood (.struct fs) x = true) : ∃ a, x = .agg a ∧ upFrom 0 fs a.length = true := by
 cases x <;> simp [keyGood] at h
 exact ⟨_, rfl, h⟩
theorem keyEq_agg {fs : List (Nat × TypeId)} {a : List V} {y : V} {q : Bool} (h : keyEq T (.struct fs) (.agg a) y = some q) : ∃ b, y = .agg b ∧ a.length = b.length ∧ eqFs T fs a b = some q := by
 cases y with
 | agg b =>
  simp only [keyEq] at h
  split at h
  ·exact ⟨_, rfl, by assumption, h⟩
  ·cases h
 | _ => simp [keyEq, eqCell] at h
theorem s_keyBits {g : G} {w : World} (hT : Tab P T) {t : TypeId} {x y : V} {vx vy : Value} (hg : keyGood (T t).kind x = true) (hx : SimV g w x vx) (hy : SimV g w y vy) (h : keyEq T (T t).kind x y = some true) : Instr.sameBits 10000 vy vx = true := by
 by_cases hs : ∃ fs, (T t).kind = .struct fs
 ·obtain ⟨fs, hk⟩ := hs
  rw [hk] at hg h
  obtain ⟨a, rfl, hu⟩ := keyGood_agg hg
  obtain ⟨b, rfl, hl, h⟩ := keyEq_agg h
  simp only [SimV] at hx hy
  obtain ⟨xs, rfl, h1, _⟩ := hx
  obtain ⟨ys, rfl, h2, _⟩ := hy
  have l1 := h1.length
  have l2 := h2.length
  simp only [Instr.sameBits, Bool.and_eq_true, beq_iff_eq, List.size_toArray]
  refine ⟨by omega, List.all_eq_true.2 ?_⟩
  rintro ⟨p, q⟩ hpq
  obtain ⟨j, hj⟩ := List.getElem?_of_mem hpq
  obtain ⟨hp, hq⟩ := List.getElem?_zip_eq_some.1 hj
  have hjl : j < a.length := by have := (List.getElem?_eq_some_iff.1 hq).1; omega
  obtain ⟨ft, u, v, k1, k2, k3⟩ := eqFs_all hu h j (Nat.zero_le _) hjl
  obtain ⟨u', e1, e2⟩ := h1.get _ k1
  obtain ⟨v', e3, e4⟩ := h2.get _ k2
  simp only at hp hq
  rw [hq] at e1; cases e1
  rw [hp] at e3; cases e3
  obtain ⟨_, _, _, h5⟩ := s_sameNow hT e2 e4 k3
  exact h5 _ rfl
 ·rw [keyEq_scalar (fun fs hk => hs ⟨fs, hk⟩)] at h
  obtain ⟨_, _, _, h5⟩ := s_sameNow hT hx hy h
  exact h5 _ rfl
/-- What is found: what stands there. -/
def FoundAt (g : G) (w : World) (vx : Value) (l : List MapEntry) (i : Nat) : Option (Nat × V) → Option (Nat × Value) → Prop
 | none, r => r = none
 | some (j, v), r => ∃ e, i ≤ j ∧ l[j - i]? = some e ∧ r = some (j, e.val) ∧ SimV g w v e.val ∧ Instr.sameBits 10000 e.key vx = true
theorem FoundAt.cons {g : G} {w : World} {vx : Value} {l : List MapEntry} {i : Nat} {r : Option (Nat × V)} {r' : Option (Nat × Value)} (e : MapEntry) (h : FoundAt g w vx l (i + 1) r r') : FoundAt g w vx (e :: l) i r r' := by
 cases r with
 | none => exact h
 | some p =>
  obtain ⟨j, v⟩ := p
  obtain ⟨e', h1, h2, h3, h4, h5⟩ := h
  refine ⟨e', by omega, ?_, h3, h4, h5⟩
  rw [show j - i = (j - (i + 1)) + 1 by omega]; simpa using h2
theorem s_find {g : G} {w : World} (hT : Tab P T) {t : TypeId} (ho : keyOk T (T t).kind = true) {x : V} {vx : Value} (hg : keyGood (T t).kind x = true) (hx : SimV g w x vx) {es : List (Nat × V × V)} {l : List MapEntry} (hl : SimEs g w es l) {r : Option (Nat × V)} (h : mfind T (T t).kind x es 0 = some r) :
  ∃ r', (Instr.findKey t vx l).run P w = .ok r' w ∧ FoundAt g w vx l 0 r r' := by
 unfold keyOk at ho
 split at ho
 ·rename_i fs hk
  obtain ⟨t1, t2, t3, t4, t5⟩ := hT.eq hk
  have ask : ∀ (es : List (Nat × V × V)) (l : List MapEntry) (i : Nat) (r : Option (Nat × V)), SimEs g w es l → mfind T (T t).kind x es i = some r → ∃ r', (Instr.findAsking t vx l i).run P w = .ok r' w ∧ FoundAt g w vx l i r r' := by
   intro es
   induction es with
   | nil =>
    intro l i r hl h
    simp only [SimEs] at hl; subst hl
    simp only [mfind, Option.some.injEq] at h; subst h
    exact ⟨none, rfl, rfl⟩
   | cons p es ih =>
    intro l i r hl h
    obtain ⟨b, y, v⟩ := p
    obtain ⟨e, tl, rfl, h1, h2, h3, h4⟩ := hl
    rw [mfind] at h
    cases hq : keyEq T (T t).kind x y with
    | none => rw [hq] at h; cases h
    | some q =>
     rw [hq] at h
     have heq : (Op.equal t vx e.key).run P w = .ok q w := by
      have hq' := hq
      rw [hk] at hq'
      obtain ⟨a, ha, _⟩ := keyGood_agg (by rw [← hk]; exact hg : keyGood (.struct fs) x = true)
      rw [ha] at hq'
      obtain ⟨b', hb', _, hq'⟩ := keyEq_agg hq'
      rw [ha] at hx
      rw [hb'] at h2
      simp only [SimV] at hx h2
      obtain ⟨xs, rfl, k1, _⟩ := hx
      obtain ⟨ys, k0, k2, _⟩ := h2
      have := s_eqFs (P := P) hT 9998 k1 k2 (P.fieldsOf t).toList q (by simpa using t3) (by rw [t5]; exact hq')
      rw [k0, Op.equal, Op.maxDepth, run_equalIn_struct w 9999 t _ _ t4 t1, this]
     cases q with
     | true =>
      simp only [Option.some.injEq] at h; subst h
      exact ⟨some (i, e.val), by simp [Instr.findAsking, heq, Result.andThen], e, Nat.le_refl _, by simp, rfl, h3, s_keyBits hT hg hx h2 hq⟩
     | false =>
      obtain ⟨r', k1, k2⟩ := ih tl (i + 1) r h4 h
      exact ⟨r', by simp [Instr.findAsking, heq, Result.andThen, k1], k2.cons e⟩
  obtain ⟨r', k1, k2⟩ := ask es l 0 r hl h
  refine ⟨r', ?_, k2⟩
  unfold Instr.findKey
  simp only [Sem.run_bind, run_underlying t4, Result.andThen_ok]
  cases l with
  | nil => simp only [Instr.findAsking, Sem.run_pure] at k1; simpa [Instr.findNow] using k1
  | cons e l => simpa [Instr.findNow, Instr.sameNow] using k1
 ·rename_i hns
  obtain ⟨_, _, d, h1, h2⟩ := keyKind_der hT ho
  have now : ∀ (es : List (Nat × V × V)) (l : List MapEntry) (i : Nat) (r : Option (Nat × V)), SimEs g w es l → mfind T (T t).kind x es i = some r → ∃ r', Instr.findNow d vx l i = some r' ∧ FoundAt g w vx l i r r' := by
   intro es
   induction es with
   | nil =>
    intro l i r hl h
    simp only [SimEs] at hl; subst hl
    simp only [mfind, Option.some.injEq] at h; subst h
    exact ⟨none, rfl, rfl⟩
   | cons p es ih =>
    intro l i r hl h
    obtain ⟨b, y, v⟩ := p
    obtain ⟨e, tl, rfl, q1, q2, q3, q4⟩ := hl
    rw [mfind] at h
    cases hq : keyEq T (T t).kind x y with
    | none => rw [hq] at h; cases h
    | some q =>
     rw [hq] at h
     have hc : eqCell (T t).kind x y = some q := by
      rw [keyEq_scalar (fun fs hk => hns fs hk)] at hq
      exact hq
     obtain ⟨d', k1, k2, k3⟩ := s_sameNow hT hx q2 hc
     rw [h1] at k1; cases k1
     cases q with
     | true =>
      simp only [Option.some.injEq] at h; subst h
      exact ⟨some (i, e.val), by simp [Instr.findNow, k2], e, Nat.le_refl _, by simp, rfl, q3, k3 _ rfl⟩
     | false =>
      obtain ⟨r', k4, k5⟩ := ih tl (i + 1) r q4 h
      exact ⟨r', by simp [Instr.findNow, k2, k4], k5.cons e⟩
  obtain ⟨r', k1, k2⟩ := now es l 0 r hl h
  exact ⟨r', MapKept.run_findKey h1 k1, k2⟩
theorem s_zero (hT : Tab P T) {t : TypeId} (h : (T t).known = true) (g : G) (w : World) : ∃ z, (zeroValue t).run P w = .ok z w ∧ SimV g w (zeroV (T t)) z := by
 have hk := known_kind h
 obtain ⟨i, h1, h2, h3, h4⟩ := hT.info hk
 have hok := hT t hk
 refine ⟨(T t).zval, by simp [zeroValue, typeInfo, h1, h2], ?_⟩
 have hs := raws_sim (g := g) (w := w) _ hok.2.2.1
 have ho := raws_one _ hok.2.2.1
 unfold zeroV TI.zval
 cases ha : (T t).agg with
 | true => simp only [if_true, SimV]; exact ⟨_, rfl, hs, ho⟩
 | false =>
  have hl : (T t).zero.length = 1 := hok.2.2.2.1.trans (hok.2.2.2.2.1 ha)
  match hz : (T t).zero, hl with
  | [x], _ =>
   rw [hz] at hs
   simp only [List.map_cons, List.map_nil, SimVs] at hs
   obtain ⟨v, r, h5, h6, _⟩ := hs
   simp only [List.cons.injEq] at h5
   simp only [Bool.false_eq_true, if_false, List.headD_cons, List.map_cons, List.map_nil]
   rw [h5.1]; exact h6
theorem lookR_sim {g : G} {w : World} {ok b : Bool} {v : V} {val : Value} (h : SimV g w v val) : SimV g w (lookR ok v b) (if ok then .tuple #[val, .bool b] else val) := by
 cases ok with
 | false => simpa [lookR] using h
 | true =>
  simp only [lookR, cond_true, if_true, SimV]
  exact ⟨[val, .bool b], rfl, _, _, rfl, h, _, _, rfl, rfl, rfl⟩
theorem s_lookup (hT : Tab P T) {g : G} {w : World} {st : St} (hst : SimSt T g st w) {ρ : Operand → Value} {t : TypeId} {m x : Operand} {ok : Bool} {v : V} {st' : St} {side : Prop} {ev : Operand → V} (hev : ∀ x, SimV g w (ev x) (ρ x))
  (h : mapLook T (T t).kind (ev m) (ev x) ok st = some (v, st', side)) : Did P T ρ ⟨dst, .lookup t m x ok, ty, pos, aft, gd⟩ g w v st' := by
 unfold mapLook at h
 split at h
 case h_2 => cases h
 rename_i kt et hk
 split at h
 case isFalse => cases h
 rename_i hc
 obtain ⟨h1, h2, h3⟩ := hc
 have hu := hT.map hk
 obtain ⟨z, hz, hz2⟩ := s_zero hT h2 g w
 have hmv := hev m
 have hck := fun e => s_checkKey (w := w) hT h1 h3 (hev x) e
 split at h
 ·rename_i hm
  simp only [Option.some.injEq, Prod.mk.injEq] at h
  obtain ⟨rfl, rfl, rfl⟩ := h
  rw [hm] at hmv
  simp only [SimV] at hmv
  obtain ⟨r', f1, f2⟩ := s_find (w := w) (g := g) hT h1 h3 (hev x) (es := []) (l := []) rfl (r := none) rfl
  simp only [FoundAt] at f2; subst f2
  refine ⟨.value _, _, w, g, ?_, .inl rfl, lookR_sim hz2, hst, Ext.refl _ _⟩
  simp [execOp, Instr.lookup, run_underlying hu, hmv, hck, f1, hz, Result.andThen]
 ·rename_i o hm
  rw [hm] at hmv
  simp only [SimV] at hmv
  obtain ⟨ho, hmv⟩ := hmv
  unfold lookE at h
  split at h
  case h_2 => cases h
  rename_i c es he
  obtain ⟨q1, q2, l, q3, q4⟩ := hst.ent o _ he
  simp only [Option.map_eq_some_iff, Prod.mk.injEq] at h
  obtain ⟨r, hr, rfl, rfl, rfl⟩ := h
  obtain ⟨r', f1, f2⟩ := s_find (w := w) hT h1 h3 (hev x) q4 hr
  cases r with
  | none =>
   simp only [FoundAt] at f2; subst f2
   refine ⟨.value _, _, w, g, ?_, .inl rfl, lookR_sim hz2, hst, Ext.refl _ _⟩
   simp [execOp, Instr.lookup, run_underlying hu, hmv, MapKept.run_getObj_map q3, hck, f1, hz, Result.andThen]
  | some p =>
   obtain ⟨j, v⟩ := p
   obtain ⟨e, _, _, rfl, k4, _⟩ := f2
   refine ⟨.value _, _, w, g, ?_, .inl rfl, lookR_sim k4, hst, Ext.refl _ _⟩
   simp [execOp, Instr.lookup, run_underlying hu, hmv, MapKept.run_getObj_map q3, hck, f1, hz, Result.andThen]
 ·cases h
theorem SimEs.append {g : G} {w : World} : ∀ {es : List (Nat × V × V)} {l : List MapEntry} {b : Nat} {k v : V} {e : MapEntry}, SimEs g w es l → e.born = b → SimV g w k e.key → SimV g w v e.val → SimEs g w (es ++ [(b, k, v)]) (l ++ [e])
 | [], _, _, _, _, e, h, h1, h2, h3 => by simp only [SimEs] at h; subst h; exact ⟨e, [], rfl, h1, h2, h3, rfl⟩
 | (b, k, v) :: r, _, _, _, _, e, h, h1, h2, h3 => by
  obtain ⟨e', t, rfl, k1, k2, k3, k4⟩ := h
  exact ⟨e', _, rfl, k1, k2, k3, k4.append h1 h2 h3⟩
theorem SimEs.set {g : G} {w : World} {x v : V} {vx vv : Value} (hx : SimV g w x vx) (hv : SimV g w v vv) : ∀ {es : List (Nat × V × V)} {l : List MapEntry} (i : Nat), SimEs g w es l → SimEs g w (mset i x v es) (l.modify i fun e => { e with key := vx, val := vv })
 | [], _, i, h => by simp only [SimEs] at h; subst h; simp [mset, SimEs]
 | (b, k, u) :: r, _, 0, h => by
  obtain ⟨e', t, rfl, k1, k2, k3, k4⟩ := h
  simp only [mset, List.modify_zero_cons]
  exact ⟨_, t, rfl, k1, hx, hv, k4⟩
 | (b, k, u) :: r, _, i + 1, h => by
  obtain ⟨e', t, rfl, k1, k2, k3, k4⟩ := h
  simp only [mset, List.modify_succ_cons]
  exact ⟨e', _, rfl, k1, k2, k3, k4.set hx hv i⟩
theorem mset_born {x v : V} : ∀ (es : List (Nat × V × V)) (i : Nat), ∀ e ∈ mset i x v es, ∃ e' ∈ es, e'.1 = e.1
 | [], _, e, h => by simp [mset] at h
 | (b, k, u) :: r, 0, e, h => by
  simp only [mset, List.mem_cons] at h
  rcases h with rfl | h
  ·exact ⟨(b, k, u), by simp, rfl⟩
  ·exact ⟨e, by simp [h], rfl⟩
 | (b, k, u) :: r, i + 1, e, h => by
  simp only [mset, List.mem_cons] at h
  rcases h with rfl | h
  ·exact ⟨_, by simp, rfl⟩
  ·obtain ⟨e', h1, h2⟩ := mset_born r i e h
   exact ⟨e', by simp [h1], h2⟩
theorem run_put (hT : Tab P T) {g : G} {w : World} {st : St} (hst : SimSt T g st w) {t : TypeId} {vm vx vv : Value} {m x y v : V} {st' : St} {side : Prop} (hm : SimV g w m vm) (hx : SimV g w x vx) (hy : SimV g w y vv)
  (h : mapPut T (T t).kind m x y st = some (v, st', side)) : ∃ w' g', (Instr.mapUpdate t vm vx vv).run P w = .ok () w' ∧ v = .junk ∧ SimSt T g' st' w' ∧ Ext g w g' w' := by
 unfold mapPut at h
 split at h
 case h_2 => cases h
 rename_i kt et hk
 split at h
 case isFalse => cases h
 rename_i hc
 obtain ⟨h1, h3⟩ := hc
 have hu := hT.map hk
 have hck := fun e => s_checkKey (w := w) hT h1 h3 hx e
 split at h
 case h_2 => cases h
 rename_i o
 simp only [SimV] at hm
 obtain ⟨ho, rfl⟩ := hm
 unfold putE at h
 split at h
 case h_2 => cases h
 rename_i c es he
 obtain ⟨q1, q2, l, q3, q4⟩ := hst.ent o _ he
 simp only [Option.map_eq_some_iff, Prod.mk.injEq] at h
 obtain ⟨r, hr, rfl, rfl, rfl⟩ := h
 obtain ⟨r', f1, f2⟩ := s_find (w := w) hT h1 h3 hx q4 hr
 cases r with
 | none =>
  simp only [FoundAt] at f2; subst f2
  obtain ⟨s1, s2⟩ := hst.setObj (w1 := w) ⟨rfl, rfl, rfl, rfl⟩ he (o' := .map (l ++ [({ key := vx, val := vv, born := c } : MapEntry)]).toArray (c + 1)) (ent' := .map (c + 1) (es ++ [(c, x, y)])) q3 q1 rfl rfl (fun w' hx' hb => by
   refine ⟨q1, fun e he => ?_, _, hb, ?_⟩
   ·rcases List.mem_append.1 he with he | he
    ·have := q2 e he; omega
    ·simp only [List.mem_singleton] at he; subst he; simp only; omega
   ·exact (q4.ext hx').append rfl (hx.ext hx') (hy.ext hx'))
  refine ⟨_, g, ?_, rfl, s1, s2⟩
  simp [Instr.mapUpdate, run_underlying hu, MapKept.run_getObj_map q3, hck, f1, MapKept.run_setObj_map _ q3, Result.andThen]
 | some p =>
  obtain ⟨j, u⟩ := p
  obtain ⟨e, _, k2, rfl, k4, k5⟩ := f2
  rw [Nat.sub_zero] at k2
  obtain ⟨s1, s2⟩ := hst.setObj (w1 := w) ⟨rfl, rfl, rfl, rfl⟩ he (o' := .map (l.modify j fun e => { e with key := vx, val := vv }).toArray c) (ent' := .map c (mset j x y es)) q3 q1 rfl rfl (fun w' hx' hb => by
   refine ⟨q1, fun e he => ?_, _, hb, ?_⟩
   ·obtain ⟨e', he', h5⟩ := mset_born es j e he
    rw [← h5]; exact q2 e' he'
   ·exact (q4.ext hx').set (hx.ext hx') (hy.ext hx') j)
  refine ⟨_, g, ?_, rfl, s1, s2⟩
  simp [Instr.mapUpdate, run_underlying hu, MapKept.run_getObj_map q3, hck, f1, k2, Instr.keyThatStays, k5, MapKept.run_setObj_map _ q3, Result.andThen]
theorem s_mapUpdate (hT : Tab P T) {g : G} {w : World} {st : St} (hst : SimSt T g st w) {ρ : Operand → Value} {t : TypeId} {m x y : Operand} {v : V} {st' : St} {side : Prop} {ev : Operand → V} (hev : ∀ x, SimV g w (ev x) (ρ x))
  (h : mapPut T (T t).kind (ev m) (ev x) (ev y) st = some (v, st', side)) : Did P T ρ ⟨dst, .mapUpdate t m x y, ty, pos, aft, gd⟩ g w v st' ∧ Did P T ρ ⟨dst, .insert t m x y, ty, pos, aft, gd⟩ g w v st' := by
 obtain ⟨w', g', h1, rfl, h3, h4⟩ := run_put hT hst (hev m) (hev x) (hev y) h
 exact ⟨⟨.skip, undef, w', g', by simp [execOp, h1], .inr ⟨rfl, rfl⟩, by simp [SimV], h3, h4⟩, ⟨.skip, undef, w', g', by simp [execOp, h1], .inr ⟨rfl, rfl⟩, by simp [SimV], h3, h4⟩⟩
theorem s_makeMap {g : G} {w : World} {st : St} (hst : SimSt T g st w) {ρ : Operand → Value} {t : TypeId} {v : V} {st' : St} {side : Prop}
  (h : makeMapE (T t).kind st = some (v, st', side)) : Did P T ρ ⟨dst, .makeMap t none, ty, pos, aft, gd⟩ g w v st' := by
 unfold makeMapE at h
 split at h
 case h_2 => cases h
 simp only [Option.some.injEq, Prod.mk.injEq] at h
 obtain ⟨rfl, rfl, rfl⟩ := h
 obtain ⟨g', x1, s1, p1, n1⟩ := hst.newObj (.map #[] 0) (ent := .map 0 []) (fun _ => rfl) (fun g' _ h1 h2 _ => ⟨h1, by simp, [], h2, rfl⟩)
 refine ⟨.value (.map (some w.heap.size)), _, _, g', ?_, .inl rfl, ?_, s1, x1⟩
 ·simp [execOp, Instr.makeMap, Result.andThen]
 ·simp only [SimV]; exact ⟨n1, by rw [p1]⟩
theorem s_range (hT : Tab P T) {g : G} {w : World} {st : St} (hst : SimSt T g st w) {ρ : Operand → Value} {t : TypeId} {m : Operand} {v : V} {st' : St} {side : Prop} {ev : Operand → V} (hev : ∀ x, SimV g w (ev x) (ρ x))
  (h : mapRange (T t).kind (ev m) st = some (v, st', side)) : Did P T ρ ⟨dst, .range t m, ty, pos, aft, gd⟩ g w v st' := by
 unfold mapRange at h
 split at h
 case h_2 => cases h
 rename_i kt et o hk hm
 have hmv := hev m
 rw [hm] at hmv
 simp only [SimV] at hmv
 obtain ⟨ho, hmv⟩ := hmv
 have hu := hT.map hk
 unfold rangeE at h
 split at h
 case h_2 => cases h
 rename_i c es he
 obtain ⟨q1, q2, l, q3, q4⟩ := hst.ent o _ he
 simp only [Option.some.injEq, Prod.mk.injEq] at h
 obtain ⟨rfl, rfl, rfl⟩ := h
 obtain ⟨g', x1, s1, p1, n1⟩ := hst.newObj (.mapIter (some (g.pb o)) c #[] c) (ent := .iter o c []) (fun _ => rfl) (fun g' x1 h1 h2 _ => ⟨h1, Nat.lt_of_lt_of_le ho x1.n, by rw [x1.pb o ho]; exact h2⟩)
 refine ⟨.value (.pointer (some ⟨w.heap.size, 0, none⟩)), _, _, g', ?_, .inl rfl, ?_, s1, x1⟩
 ·simp [execOp, Instr.range, hmv, run_underlying hu, MapKept.run_getObj_map q3, Result.andThen]
 ·simp only [SimV]; exact ⟨n1, by rw [p1]⟩
theorem s_mapLen (hT : Tab P T) {g : G} {w : World} {st : St} (hst : SimSt T g st w) {o : Nat} {t : TypeId} {k e : TypeId} {vm : Value} (hk : (T t).kind = .map k e) (hm : SimV g w (.map o) vm) {c : Nat} {es : List (Nat × V × V)} (he : st[o]? = some (.map c es)) :
  (Builtin.len_ #[t] ty #[vm]).run P w = .ok (.int .i64 es.length) w := by
 simp only [SimV] at hm
 obtain ⟨ho, rfl⟩ := hm
 obtain ⟨q1, q2, l, q3, q4⟩ := hst.ent o _ he
 have := q4.length
 simp [Builtin.len_, run_underlying (hT.map hk), MapKept.run_getObj_map q3, Result.andThen, goInt, this]
theorem left_sim {g : G} {w : World} (seen : List Nat) : ∀ {es : List (Nat × V × V)} {l : List MapEntry}, SimEs g w es l → SimEs g w (leftOf' es seen) (l.filter fun e => !seen.toArray.contains e.born)
 | [], _, h => by simp only [SimEs] at h; subst h; simp [leftOf', SimEs]
 | (b, k, v) :: r, _, h => by
  obtain ⟨e, t, rfl, h1, h2, h3, h4⟩ := h
  have ih := left_sim seen h4
  subst h1
  have e1 : seen.toArray.contains e.born = seen.contains e.born := by simp
  simp only [leftOf', List.filter_cons, e1] at ih ⊢
  cases seen.contains e.born with
  | true => simpa using ih
  | false => exact ⟨e, _, rfl, rfl, h2, h3, by simpa using ih⟩
theorem SimEs.get {g : G} {w : World} : ∀ {es : List (Nat × V × V)} {l : List MapEntry} {j : Nat} {e : MapEntry}, SimEs g w es l → l[j]? = some e → ∃ p ∈ es, e.born = p.1 ∧ SimV g w p.2.1 e.key ∧ SimV g w p.2.2 e.val
 | [], _, j, e, h, hj => by simp only [SimEs] at h; subst h; simp at hj
 | (b, k, v) :: r, _, j, e, h, hj => by
  obtain ⟨e', t, rfl, h1, h2, h3, h4⟩ := h
  cases j with
  | zero => simp at hj; subst hj; exact ⟨(b, k, v), by simp, h1, h2, h3⟩
  | succ j => obtain ⟨p, hp, hq⟩ := h4.get (by simpa using hj); exact ⟨p, by simp [hp], hq⟩
/-- A step of a walk: one of those that may be. -/
theorem s_next {g : G} {w : World} {st : St} (hst : SimSt T g st w) {vi : Value} {it : V} (hi : SimV g w it vi) {L : List (V × St)} (h : nextV it st = some L) :
  ∃ p ∈ L, ∃ val w' g', (Instr.next vi false ty).run P w = .ok val w' ∧ SimV g' w' p.1 val ∧ SimSt T g' p.2 w' ∧ Ext g w g' w' := by
 unfold nextV at h
 split at h
 case h_2 => cases h
 rename_i o
 simp only [SimV] at hi
 obtain ⟨ho, rfl⟩ := hi
 unfold nextS at h
 split at h
 case h_2 => cases h
 rename_i m since seen he
 unfold nextE at h
 split at h
 case h_2 => cases h
 rename_i c es hm
 split at h
 case isFalse => cases h
 rename_i hcs
 subst hcs
 simp only [Option.some.injEq] at h
 obtain ⟨q1, q2, q3⟩ := hst.ent o _ he
 obtain ⟨m1, m2, l, m3, m4⟩ := hst.ent m _ hm
 have hgi : (getObj (g.pb o)).run P w = .ok (.mapIter (some (g.pb m)) c seen.toArray c) w := by simp [getObj, Sem.run, q3]
 have hgm : (getObj (g.pb m)).run P w = .ok (.map l.toArray c) w := MapKept.run_getObj_map m3
 have hborn : ∀ e ∈ l, e.born < c := by
  intro e hel
  obtain ⟨j, hj⟩ := List.getElem?_of_mem hel
  obtain ⟨p, hp, h1, _⟩ := m4.get hj
  rw [h1]; exact m2 p hp
 have htest : (!seen.toArray.isEmpty && !l.toArray.isEmpty && l.toArray.all (fun x => decide (x.born ≥ c))) = false := by
  cases l with
  | nil => simp
  | cons e r =>
   have := hborn e (by simp)
   have : decide (e.born ≥ c) = false := by simp; omega
   simp [this]
 have hl := left_sim seen m4
 generalize hF : (l.filter fun e => !seen.toArray.contains e.born) = F at hl
 have hF2 : l.toArray.filter (fun e => !seen.toArray.contains e.born) = F.toArray := by rw [← hF]; simp
 have hFb : ∀ e ∈ F, e.born < c := fun e h => hborn e (by rw [← hF] at h; exact (List.mem_filter.1 h).1)
 have f1 : F.toArray.filter (fun x => decide (x.born < c)) = F.toArray := Array.filter_eq_self.2 fun x hx => by simpa using hFb x (by simpa using hx)
 have f2 : F.toArray.filter (fun x => decide (x.born ≥ c)) = #[] := by
  rw [Array.filter_eq_empty_iff]
  intro x hx
  have := hFb x (by simpa using hx)
  simp; omega
 have hrun : (Instr.next (.pointer (some ⟨g.pb o, 0, none⟩)) false ty).run P w =
   (((choose (.mapNext ((if F.toArray.isEmpty then #[none] else #[]) ++ (F.toArray ++ #[]).map some).size)).run P w).andThen fun j w1 =>
    (match ((if F.toArray.isEmpty then #[none] else #[]) ++ (F.toArray ++ #[]).map some)[j]? with
     | some (some e) => (do setObj (g.pb o) (.mapIter (some (g.pb m)) c (seen.toArray.push e.born) c); pure (.tuple #[.bool true, e.key, e.val]) : Sem Value)
     | some none => pure (.tuple #[.bool false])
     | none => stuck "Next: no such candidate").run P w1) := by
  simp only [Instr.next, Sem.run_bind, hgi, hgm, Result.andThen_ok, htest, Bool.false_eq_true, if_false, hF2, f1, f2]
  rfl
 rw [hrun]
 have hlen := hl.length
 cases F with
 | nil =>
  have hnil : leftOf' es seen = [] := List.eq_nil_of_length_eq_zero (by rw [← hlen]; rfl)
  rw [hnil] at h
  subst h
  refine ⟨_, List.mem_singleton.2 rfl, .tuple #[.bool false], w, g, ?_, ?_, hst, Ext.refl _ _⟩
  ·simp [choose, Sem.run, Question.forced, Result.andThen]
  ·simp only [SimV]; exact ⟨[.bool false], rfl, _, _, rfl, rfl, rfl⟩
 | cons e0 F =>
  have hne : leftOf' es seen ≠ [] := fun e => by rw [e] at hlen; simp at hlen
  have hL : L = (leftOf' es seen).map fun e => (.tup [.bool true, e.2.1, e.2.2], st.set o (.iter m c (seen ++ [e.1]))) := by
   rw [← h]
   split
   ·rename_i e; exact absurd e hne
   ·rfl
  subst hL
  simp only [List.isEmpty_toArray, List.isEmpty_cons, Bool.false_eq_true, if_false, Array.append_empty, Array.empty_append, Array.size_map, List.size_toArray, List.map_toArray, List.length_map]
  have hch : ∃ (j : Nat) (w1 : World), j < (e0 :: F).length ∧ (w1.heap = w.heap ∧ w1.os = w.os ∧ w1.tape = w.tape ∧ w1.output = w.output) ∧ (choose (Question.mapNext (e0 :: F).length)).run P w = .ok j w1 := by
   by_cases hf : (e0 :: F).length ≤ 1
   ·exact ⟨0, w, by simp, ⟨rfl, rfl, rfl, rfl⟩, by simp only [choose, Sem.run, Question.forced, decide_eq_true_eq, hf, if_true]⟩
   ·exact ⟨_, w.drew, Nat.mod_lt _ (by simp), ⟨rfl, rfl, rfl, rfl⟩, by
     simp only [choose, Sem.run, Question.forced, decide_eq_true_eq, hf, if_false, Question.cut]
     rfl⟩
  obtain ⟨j, w1, hj, hal, hch⟩ := hch
  rw [hch]
  obtain ⟨e, hje⟩ : ∃ e, (e0 :: F)[j]? = some e := ⟨_, List.getElem?_eq_getElem hj⟩
  obtain ⟨p, hp, k1, k2, k3⟩ := hl.get hje
  obtain ⟨s1, s2⟩ := hst.setObj hal he (o' := .mapIter (some (g.pb m)) c (seen ++ [p.1]).toArray c) (ent' := .iter m c (seen ++ [p.1])) q3 q1 rfl rfl (fun w' hx hb => ⟨q1, q2, hb⟩)
  refine ⟨_, List.mem_map.2 ⟨p, hp, rfl⟩, .tuple #[.bool true, e.key, e.val], _, g, ?_, ?_, s1, s2⟩
  ·have hset : (setObj (g.pb o) (.mapIter (some (g.pb m)) c (seen.toArray.push e.born) c)).run P w1 = .ok () { w1 with heap := w1.heap.setIfInBounds (g.pb o) (.mapIter (some (g.pb m)) c (seen ++ [p.1]).toArray c) } := by
    have : w1.heap[g.pb o]? = some (.mapIter (some (g.pb m)) c seen.toArray c) := by rw [hal.1]; exact q3
    simp [setObj, Sem.run, this, k1]
   simp only [Result.andThen_ok, List.getElem?_toArray, List.getElem?_map, hje, Option.map_some, Sem.run_bind, hset, Sem.run_pure]
  ·simp only [SimV]
   exact ⟨[.bool true, e.key, e.val], rfl, _, _, rfl, rfl, _, _, rfl, k2.ext s2, _, _, rfl, k3.ext s2, rfl⟩
theorem entF_sim {g : G} {w : World} {b : Nat} {p : V × V} : ∀ {es : List (Nat × V × V)} {l : List MapEntry}, SimEs g w es l → entF b es = some p → ∃ e, l.find? (fun e => e.born == b) = some e ∧ SimV g w p.1 e.key ∧ SimV g w p.2 e.val
 | [], _, _, h => by simp [entF] at h
 | (c, k, v) :: r, _, hl, h => by
  obtain ⟨e, t, rfl, h1, h2, h3, h4⟩ := hl
  simp only [entF] at h
  split at h
  ·rename_i hc
   subst hc
   simp only [Option.some.injEq] at h
   subst h
   exact ⟨e, by simp [h1], h2, h3⟩
  ·rename_i hc
   obtain ⟨e', k1, k2⟩ := entF_sim h4 h
   refine ⟨e', ?_, k2⟩
   have : (e.born == b) = false := by rw [h1]; simpa using hc
   simp only [List.find?_cons, this]
   exact k1
theorem s_entry {g : G} {w : World} {st : St} (hst : SimSt T g st w) {ρ : Operand → Value} {it : Operand} {v : V} {st' : St} {side : Prop} {ev : Operand → V} (hev : ∀ x, SimV g w (ev x) (ρ x))
  (h : entV (ev it) st = some (v, st', side)) : Did P T ρ ⟨dst, .entry it, ty, pos, aft, gd⟩ g w v st' := by
 have hi := hev it
 unfold entV at h
 split at h
 case h_2 => cases h
 rename_i o hit
 rw [hit] at hi
 simp only [SimV] at hi
 obtain ⟨ho, hi⟩ := hi
 unfold entS at h
 split at h
 case h_2 => cases h
 rename_i m since seen he
 unfold entE at h
 split at h
 case h_2 => cases h
 rename_i c es hm
 split at h
 case isFalse => cases h
 rename_i hcs
 subst hcs
 split at h
 case h_2 => cases h
 rename_i b hb
 simp only [Option.map_eq_some_iff, Prod.mk.injEq] at h
 obtain ⟨p, hp, rfl, rfl, rfl⟩ := h
 obtain ⟨q1, q2, q3⟩ := hst.ent o _ he
 obtain ⟨m1, m2, l, m3, m4⟩ := hst.ent m _ hm
 obtain ⟨e, e1, e2, e3⟩ := entF_sim m4 hp
 have hgi : (getObj (g.pb o)).run P w = .ok (.mapIter (some (g.pb m)) c seen.toArray c) w := by simp [getObj, Sem.run, q3]
 have hgm : (getObj (g.pb m)).run P w = .ok (.map l.toArray c) w := MapKept.run_getObj_map m3
 refine ⟨.value (.tuple #[e.key, e.val]), _, w, g, ?_, .inl rfl, ?_, hst, Ext.refl _ _⟩
 ·simp only [execOp, hi, Instr.entry, Sem.run_bind, hgi, hgm, Result.andThen_ok]
  have hb' : seen.toArray.back? = some b := by simpa using hb
  have e1' : l.toArray.find? (fun e => e.born == b) = some e := by simpa using e1
  simp only [hb', Sem.run_bind, hgm, Result.andThen_ok, bne_self_eq_false, Bool.false_eq_true, if_false, e1', Sem.run_pure]
 ·simp only [SimV]
  exact ⟨[e.key, e.val], rfl, _, _, rfl, e2, _, _, rfl, e3, rfl⟩
end
end Go.Proofs.YtpllcpbhjglpaaaGreatDoor.Gw
