/- More operations: conversions; elements of arrays that are written. Conditions on code, said of abstract values; and that what is so shown holds of the model's run. What is so shown holds of the model's run. Whole bodies: loops, returns, calls; and what may be dropped. -/
import Derived.Test.YtpllcpbhjglpaaaGreatDoorZW2
import Derived.Laws.MakeOwn
import Derived.Laws.IdiomStrings
import Derived.Deep.LoopGhost
namespace Go.Proofs.YtpllcpbhjglpaaaGreatDoor.Gw
open Go
set_option linter.unusedSimpArgs false
/-- Rows as bytes. -/
def bytesOf : List (List V) → Option (List UInt8)
 | [] => some []
 | [.int .u8 n] :: r => (bytesOf r).map (UInt8.ofNat n.toNat :: ·)
 | _ :: _ => none
def byteRows (s : List UInt8) : List (List V) := s.map fun b => [V.int .u8 b.toNat]
theorem byteRows_flatten : ∀ s : List UInt8, (byteRows s).flatten = s.map fun b => V.int .u8 b.toNat
 | [] => rfl
 | b :: s => by simp only [byteRows, List.map_cons, List.flatten_cons]; have := byteRows_flatten s; simp only [byteRows] at this; rw [this]; rfl
theorem ints_flatten : ∀ ns : List Int, (ns.map fun n => [V.int .u8 n]).flatten = ns.map fun n => V.int .u8 n
 | [] => rfl
 | n :: ns => by simp only [List.map_cons, List.flatten_cons]; rw [ints_flatten ns]; rfl
def convV (T : Nat → TI) (src d : TypeId) (x : V) (st : St) : Option (V × St × Prop) :=
 match (T src).kind, (T d).kind, x with
 | .int _, .int k, .int _ n => some (.int k (k.wrap n), st, True)
 | .str, .str, .str s => some (.str s, st, True)
 | .str, .slice e, .str s => match (T e).kind with
  | .int .u8 => some (.lst 1 none (byteRows s), st, True)
  | _ => none
 | .slice e, .slice _, .lst 1 (some o) l => match (T e).kind, st[o]? with
  | .int .u8, some (.tip _ n) => some (.lst 1 none l, st.set o .gone, src = d ∧ n = l.length ∧ 0 < n)
  | _, _ => none
 | .slice e, .str, .nils => match (T e).kind with
  | .int .u8 => some (.str [], st, True)
  | _ => none
 | .slice e, .str, .lst 1 _ l => match (T e).kind, bytesOf l with
  | .int .u8, some s => some (.str s, st, True)
  | _, _ => none
 | .slice e, .str, .arr o n => match (T e).kind, st[o]? with
  | .int .u8, some (.arr _ 1 c) => match bytesOf c with
   | some s => some (.str s, st, n = c.length ∧ n ≤ 9223372036854775807)
   | none => none
  | _, _ => none
 | _, _, _ => none
/-- Is it, or isn't it, the literal nil? -/
def eqb : BinOp → Bool → Option V
 | .eql, b => some (.bool b)
 | .neq, b => some (.bool (!b))
 | _, _ => none
def nilC : Operand → Bool
 | .const .nilIface => true
 | .const (.pointer none) => true
 | _ => false
def nilCmp (k : TK) (op : BinOp) (c : Bool) (x y : V) : Option V := match k, c, y with
 | .iface, true, .nili => match x with
  | .nili => eqb op true
  | .iface _ _ => eqb op false
  | _ => none
 | .ptr _, true, .nilp => match x with
  | .nilp => eqb op true
  | .ref _ => eqb op false
  | .ptr _ _ => eqb op false
  | .eptr _ _ _ _ _ => eqb op false
  | _ => none
 | _, _, _ => none
def nilR (st : St) : Option V → Option (V × St × Prop)
 | some v => some (v, st, True)
 | none => none
/-- Shifts, and what is reckoned bit by bit. -/
def bitsV (op : BinOp) (k : IntKind) (a b : Int) : Int := match op with
 | .and => k.wrap (BitVec.ofInt k.bits a &&& BitVec.ofInt k.bits b).toNat
 | .or => k.wrap (BitVec.ofInt k.bits a ||| BitVec.ofInt k.bits b).toNat
 | .xor => k.wrap (BitVec.ofInt k.bits a ^^^ BitVec.ofInt k.bits b).toNat
 | _ => k.wrap (BitVec.ofInt k.bits a &&& ~~~ BitVec.ofInt k.bits b).toNat
def bitV : BinOp → V → V → Option (V × Prop)
 | .shl, .int k a, .int _ b => some (.int k (k.wrap (a * 2 ^ (min b.toNat k.bits))), 0 ≤ b)
 | .shr, .int k a, .int _ b => some (.int k (a.fdiv (2 ^ (min b.toNat k.bits))), 0 ≤ b)
 | .and, .int k a, .int k' b => if k = k' then some (.int k (bitsV .and k a b), True) else none
 | .or, .int k a, .int k' b => if k = k' then some (.int k (bitsV .or k a b), True) else none
 | .xor, .int k a, .int k' b => if k = k' then some (.int k (bitsV .xor k a b), True) else none
 | .andNot, .int k a, .int k' b => if k = k' then some (.int k (bitsV .andNot k a b), True) else none
 | _, _, _ => none
def bitF (st : St) : Option (V × Prop) → Option (V × St × Prop)
 | some (v, side) => some (v, st, side)
 | none => none
def nilB (st : St) (a : Option V) (b : Option (V × Prop)) : Option (V × St × Prop) := match a with
 | some v => some (v, st, True)
 | none => bitF st b
/-- Is what an interface holds of a type that is none? -/
def assertW (z : V) (t : TypeId) : Bool → V → Option V
 | true, .iface u v => some (if u = t then .tup [v, .bool true] else .tup [z, .bool false])
 | false, .iface u v => if u = t then some v else none
 | true, .nili => some (.tup [z, .bool false])
 | _, _ => none
def assertV (i : TI) (t : TypeId) (ok : Bool) (x : V) : Option V := match i.kind with
 | .iface => none
 | .other => none
 | _ => assertW (zeroV i) t ok x
def moreOp (T : Nat → TI) (op : Op) (ev : Operand → V) (st : St) : Option (V × St × Prop) :=
 match op with
 | .binOp op t x y _ => nilB st (nilCmp (T t).kind op (nilC y) (ev x) (ev y)) (bitV op (ev x) (ev y))
 | .typeAssert x _ t ok => nilR st (assertV (T t) t ok (ev x))
 | .makeSlice t x y => match (T t).kind, ev x, ev y with
  | .slice e, .int _ n, .int _ m => if (T e).sized = true then some (.arr st.length n.toNat, st ++ [.arr e (T e).size (List.replicate n.toNat (T e).zero)], n = m ∧ 0 ≤ n ∧ n ≤ 100000000000000 ∧ n * (T e).bytes ≤ 100000000000000) else none
  | _, _, _ => none
 | .convert src d x => convV T src d (ev x) st
 | .indexAddr t x i => match (T t).kind, ev x, ev i with
  | .slice e, .arr o n, .int _ k => match st[o]? with
   | some (.arr _ sz c) => if (T e).sized = true ∧ sz = (T e).size then some (.eptr o n sz k.toNat 0, st, n = c.length ∧ 0 ≤ k ∧ k < n) else none
   | _ => none
  | _, _, _ => none
 | .load t x => match ev x with
  | .eptr o n sz k off => match st[o]? with
   | some (.arr _ sz' c) => if (T t).known = true ∧ sz' = sz then (loadV (T t) ((c.getD k []).drop off)).map fun r => (r.1, st, r.2 ∧ n = c.length ∧ k < n) else none
   | _ => none
  | _ => none
 | .store t a x => match ev a with
  | .eptr o n sz k off => match st[o]?, (ev x).cells with
   | some (.arr e sz' c), some l => if (T t).known = true ∧ l.length = (T t).size ∧ sz' = sz then some (.junk, st.set o (.arr e sz (c.set k ((c.getD k []).take off ++ l ++ (c.getD k []).drop (off + l.length)))), n = c.length ∧ k < n ∧ off + l.length ≤ sz) else none
   | _, _ => none
  | _ => none
 | .makeMap t none => makeMapE (T t).kind st
 | .lookup t m x ok => mapLook T (T t).kind (ev m) (ev x) ok st
 | .mapUpdate t m x y => mapPut T (T t).kind (ev m) (ev x) (ev y) st
 | .insert t m x y => mapPut T (T t).kind (ev m) (ev x) (ev y) st
 | .range t m => mapRange (T t).kind (ev m) st
 | .entry it => entV (ev it) st
 | .call c => match c.callee with
  | .builtin .len => mapLen T (c.args.toList.map ev) c.argTypes.toList st
  | _ => none
 | _ => none
section
variable {P : Program} {T : Nat → TI} {an : Nat → Nat} {dst : Option Tmp} {ty : TypeId} {pos : String} {aft : Array Edge} {gd : Option (Nat × Bool)}
theorem Tab.intk (hT : Tab P T) {t : TypeId} {k : IntKind} (h : (T t).kind = .int k) : P.underlying t = some (.int k) := by
 obtain ⟨d, hd, hk⟩ := hT.und (t := t) (by rw [h]; simp)
 rw [h] at hk
 cases d <;> simp [TK.of] at hk
 subst hk; exact hd
/-- A draw changes nothing that is spoken of. -/
theorem Ext.allocD (g : G) (w : World) (o : Obj) (k : Option Nat) : Ext g w (g.new w.heap.size k) (w.drew.alloc o) := by
 have h := Ext.alloc g w o k
 have hs : ∀ b, b < w.heap.size → (w.drew.alloc o).heap[b]? = w.heap[b]? := fun b hb => RowKit.Below.heap_alloc w.drew o b hb
 exact ⟨rfl, rfl, rfl, (by show w.heap.size ≤ (w.heap.push o).size; simp), h.n, h.pb, h.len, h.tv, fun b hb ho => ⟨hs b hb, (h.free b hb ho).2⟩,
  fun b k' hb ho => ⟨fun off _ => cell_of_block (hs b hb), (h.kept b k' hb ho).2⟩, fun b hb => shape_of_block (hs b hb)⟩
theorem SimSt.allocD {g : G} {st : St} {w : World} (h : SimSt T g st w) (o : Obj) (k : Option Nat) : SimSt T (g.new w.heap.size k) st (w.drew.alloc o) :=
 h.keep (Ext.allocD g w o k) rfl (fun _ _ => rfl) fun b hb _ => ⟨RowKit.Below.heap_alloc w.drew o b hb, by simp only [G.new]; rw [if_neg (by omega)]⟩
theorem bytesOf_ns : ∀ {l : List (List V)} {s : List UInt8}, bytesOf l = some s → ∃ ns : List Int, l = ns.map (fun n => [V.int .u8 n]) ∧ s = ns.map fun n => UInt8.ofNat n.toNat
 | [], s, h => by simp only [bytesOf, Option.some.injEq] at h; subst h; exact ⟨[], rfl, rfl⟩
 | r :: rs, s, h => by
  unfold bytesOf at h
  split at h
  ·rename_i e; cases e
  ·rename_i n r' e
   cases e
   cases hr : bytesOf rs with
   | none => simp [hr] at h
   | some s' =>
    simp only [hr, Option.map_some, Option.some.injEq] at h
    subst h
    obtain ⟨ns, rfl, rfl⟩ := bytesOf_ns hr
    exact ⟨n :: ns, rfl, rfl⟩
  ·cases h
theorem foldl_push : ∀ (ns : List Int) (r : ByteArray), ns.foldl (fun r n => r.push (UInt8.ofNat n.toNat)) r = ⟨r.data ++ (ns.map fun n => UInt8.ofNat n.toNat).toArray⟩
 | [], r => by simp
 | n :: ns, r => by
  simp only [List.foldl_cons, List.map_cons]
  rw [foldl_push ns]
  simp [ByteArray.push]
theorem ints_sim {g : G} {w : World} : ∀ {ns : List Int} {xs : List Value}, SimVs g w (ns.map fun n => V.int .u8 n) xs → xs = ns.map (Value.int .u8)
 | [], xs, h => by simpa [SimVs] using h
 | n :: ns, xs, h => by
  simp only [List.map_cons, SimVs, SimV] at h
  obtain ⟨v, r, rfl, rfl, h⟩ := h
  rw [ints_sim h]; rfl
theorem run_back (w : World) (src dst e : TypeId) (a : Addr) (cap : Nat) (ns : List Int) (hs : P.underlying src = some (.slice e)) (he : P.underlying e = some (.int .u8)) (hd : P.underlying dst = some .string)
  (hc : ∀ j v, (ns.map (Value.int .u8))[j]? = some v → w.cell? (a.add j) = some v) :
  (convert src dst (.slice (some a) ns.length cap)).run P w = .ok (.string ⟨(ns.map fun n => UInt8.ofNat n.toNat).toArray⟩) w := by
 rw [run_convert_bytes_string w src dst e (some a) ns.length cap hs he hd]
 have hl := run_loadCells_list (P := P) w a (ns.map (Value.int .u8)) hc
 simp only [List.length_map] at hl
 rw [run_bytesToString w a ns.length cap ns hl, foldl_push]
 have he0 : ByteArray.empty.data = #[] := rfl
 rw [he0]
 simp
theorem run_back_none (w : World) (src dst e : TypeId) (n cap : Nat) (hs : P.underlying src = some (.slice e)) (he : P.underlying e = some (.int .u8)) (hd : P.underlying dst = some .string) :
  (convert src dst (.slice none n cap)).run P w = .ok (.string ⟨#[]⟩) w := by
 rw [run_convert_bytes_string w src dst e none n cap hs he hd]
 rfl
theorem rows_cells {g : G} {w : World} {ns : List Int} {a : Addr} (ha0 : (ns.map fun n => [V.int .u8 n]) = [] ∨ a.spot = none) (h : SimRows g w a 1 (ns.map fun n => [V.int .u8 n])) (j : Nat) (v : Value) (hj : (ns.map (Value.int .u8))[j]? = some v) : w.cell? (a.add j) = some v := by
 rw [List.getElem?_map] at hj
 cases hn : ns[j]? with
 | none => simp [hn] at hj
 | some n =>
  simp only [hn, Option.map_some, Option.some.injEq] at hj
  have ha := ha0.resolve_left fun e => by rw [List.map_eq_nil_iff] at e; rw [e] at hn; simp at hn
  subst hj
  obtain ⟨h1, _⟩ := h.get j ha (r := [V.int .u8 n]) (by simp [hn])
  simp only [SimAt, SimV, Nat.mul_one] at h1
  obtain ⟨⟨v, _, q, _, rfl⟩, _⟩ := h1
  exact q
theorem s_conv (hT : Tab P T) {g : G} {w : World} {st : St} (hst : SimSt T g st w) {ρ : Operand → Value} {src d : TypeId} {x : Operand} {v : V} {st' : St} {side : Prop} {ev : Operand → V} (hev : ∀ x, SimV g w (ev x) (ρ x))
  (h : convV T src d (ev x) st = some (v, st', side)) (hs : side) : Did P T ρ ⟨dst, .convert src d x, ty, pos, aft, gd⟩ g w v st' := by
 have hx := hev x
 have pureD : ∀ {val : Value}, (convert src d (ρ x)).run P w = .ok val w → SimV g w v val → st' = st → Did P T ρ ⟨dst, .convert src d x, ty, pos, aft, gd⟩ g w v st' := by
  intro val h1 h2 h3
  subst h3
  exact ⟨.value val, val, w, g, by simp [execOp, h1], .inl rfl, h2, hst, Ext.refl _ _⟩
 unfold convV at h
 split at h
 ·rename_i j k j' n h1 h2 hx'
  simp only [Option.some.injEq, Prod.mk.injEq] at h
  obtain ⟨rfl, rfl, rfl⟩ := h
  rw [hx'] at hx
  simp only [SimV] at hx
  refine pureD (val := .int k (k.wrap n)) ?_ (by simp [SimV]) rfl
  rw [hx]
  simp [convert, run_underlying (hT.intk h1), run_underlying (hT.intk h2), Conv.intToInt]
 ·rename_i s h1 h2 hx'
  simp only [Option.some.injEq, Prod.mk.injEq] at h
  obtain ⟨rfl, rfl, rfl⟩ := h
  rw [hx'] at hx
  have hx0 := hx
  simp only [SimV] at hx
  refine pureD (val := ρ x) ?_ hx0 rfl
  rw [hx.1]
  simp [convert, run_underlying (hT.str h1), run_underlying (hT.str h2)]
 ·rename_i e s h1 h2 hx'
  split at h
  case h_2 => cases h
  rename_i he
  simp only [Option.some.injEq, Prod.mk.injEq] at h
  obtain ⟨rfl, rfl, rfl⟩ := h
  rw [hx'] at hx
  simp only [SimV] at hx
  obtain ⟨hx, hlen⟩ := hx
  have hr := run_bytes_of_string w src d e ⟨s.toArray⟩ (hT.str h1) (hT.slice h2) (hT.intk he)
  have hsz : (ByteArray.mk s.toArray).size = s.length := by simp [ByteArray.size]
  rw [hsz] at hr
  have hge := grownCap_ge w s.length 0 e
  have hle := grownCap_le_maxLen w s.length 0 e (by simpa [maxLen] using hlen)
  generalize grownCap w s.length 0 e = cap at hr hge hle
  have hb : (bytesRow ⟨s.toArray⟩ cap) = (s.map (fun b : UInt8 => Value.int .u8 b.toNat) ++ List.replicate (cap - s.length) (Value.int .u8 0)).toArray := by
   simp [bytesRow, hsz]
  generalize hB : bytesRow ⟨s.toArray⟩ cap = B at hr hb
  generalize hF : ((B.size, B.size + 1) : Nat × Nat) = F at hr
  have hst2 := hst.allocD (.cells B e F) none
  have hx2 := Ext.allocD g w (.cells B e F) none
  have hblk : (w.drew.alloc (.cells B e F)).heap[w.heap.size]? = some (.cells B e F) := heap_alloc_new w.drew _
  refine ⟨_, _, _, _, by simp only [execOp]; rw [hx, Sem.run_bind, hr]; rfl, .inl rfl, ?_, hst2, hx2⟩
  simp only [SimV]
  refine ⟨some ⟨w.heap.size, 0, none⟩, cap, by simp [byteRows], by simpa [byteRows] using hge, hle, by simp, .inr rfl, by simp, ?_⟩
  refine rows_of_at (b := w.heap.size) (byteRows s) 0 (by simp [byteRows]) ?_
  rw [byteRows_flatten]
  refine at_of_block hblk (vs := s.map fun b => Value.int .u8 b.toNat) (by simp [Value.oneCell']) (fun j u hj => ?_) (fun k hk => by simp [G.new] at hk) _ _ 0 (SimVs.mk_map (fun b : UInt8 => V.int .u8 b.toNat) (fun b : UInt8 => Value.int .u8 b.toNat) s fun b _ => by simp [SimV]) (fun j u hj => by simpa using hj)
  rw [hb]
  have := (List.getElem?_eq_some_iff.1 hj).1
  rw [Nat.zero_add, List.getElem?_toArray, List.getElem?_append_left this]
  exact hj
 ·rename_i e e' o l h1 h2 hx'
  split at h
  case h_2 => cases h
  rename_i n he ho
  simp only [Option.some.injEq, Prod.mk.injEq] at h
  obtain ⟨rfl, rfl, rfl⟩ := h
  obtain ⟨rfl, rfl, hpos⟩ := hs
  rw [hx'] at hx
  have hx0 := hx
  simp only [SimV] at hx
  obtain ⟨a, cap, hv, c1, c2, c3, c0, c4, c5⟩ := hx
  obtain ⟨i1, i2, i3⟩ := c4 o rfl
  obtain ⟨fo, xs, t1, t2, t3⟩ := hst.ent o _ ho
  have htv := i3 t1
  rcases t3 with ⟨h0, _⟩ | ⟨h0, _⟩ | ⟨b, cap', cur, k1, k2, k3, k4, k5, k6, k7⟩
  ·omega
  ·omega
  have hva : ρ x = .slice (some ⟨b, fo, none⟩) l.length cap' := by rw [← htv, k1]
  have hrun : (convert src src (ρ x)).run P w = .ok (ρ x) (w.freeze ⟨b, cur.size, none⟩ 1) := by
   rw [hva]
   obtain ⟨te, hsh⟩ : ∃ te, w.shape? b = some (te, cur.size) := ⟨_, by unfold World.shape?; rw [k3]⟩
   simp [convert, run_underlying (hT.slice h1), run_underlying (hT.intk he), markStringish, hsh]
  have hfz : ∀ b', b' ≠ b → (w.freeze ⟨b, cur.size, none⟩ 1).heap[b']? = w.heap[b']? := by
   intro b' hb'
   simp [World.freeze, Array.getElem?_modify, Ne.symm hb']
  have hcell : ∀ ad, (w.freeze ⟨b, cur.size, none⟩ 1).cell? ad = w.cell? ad := by
   intro ad
   simp only [World.cell?]
   by_cases hb' : ad.block = b
   ·subst hb'
    simp [World.freeze, Array.getElem?_modify, k3]
   ·rw [hfz _ hb']
  have hext : Ext g w g (w.freeze ⟨b, cur.size, none⟩ 1) := by
   refine ⟨rfl, rfl, rfl, by simp [World.freeze], Nat.le_refl _, fun _ _ => rfl, fun _ _ => Nat.le_refl _, fun _ _ _ => rfl, fun b' hb' hn => ⟨hfz b' (fun e => by rw [e, k2] at hn; cases hn), hn⟩, fun b' k' hb' hk => ⟨fun off _ => hcell _, fun k'' hk' => by rw [hk] at hk'; cases hk'; exact Nat.le_refl _⟩, fun b' hb' => by
    by_cases e : b' = b
    ·subst e; simp [World.shape?, World.freeze, Array.getElem?_modify, k3]
    ·exact shape_of_block (hfz b' e)⟩
  refine ⟨.value (ρ x), ρ x, _, g, by simp [execOp, hrun], .inl rfl, ?_, ?_, hext⟩
  ·have := SimV.ext hext _ _ hx0
   simp only [SimV] at this ⊢
   obtain ⟨a, cap, q1, q2, q3, q4, q5, _, q7⟩ := this
   exact ⟨a, cap, q1, q2, q3, q4, q5, by simp, q7⟩
  ·refine hst.upd ho hext rfl (fun _ => rfl) (fun _ _ => ⟨rfl, rfl⟩) (fun b' hb' hne _ => ⟨hfz b' (fun e => hne ?_), rfl⟩) trivial (by simp [blkOf])
   subst e
   simp [blkOf, k1, Value.ownBlock]
 ·rename_i e h1 h2 hx'
  split at h
  case h_2 => cases h
  rename_i he
  simp only [Option.some.injEq, Prod.mk.injEq] at h
  obtain ⟨rfl, rfl, rfl⟩ := h
  rw [hx'] at hx
  simp only [SimV] at hx
  exact pureD (by rw [hx]; exact run_back_none w src d e 0 0 (hT.slice h1) (hT.intk he) (hT.str h2)) (by simp [SimV]) rfl
 ·rename_i e tk l h1 h2 hx'
  split at h
  case h_2 => cases h
  rename_i s he hb
  simp only [Option.some.injEq, Prod.mk.injEq] at h
  obtain ⟨rfl, rfl, rfl⟩ := h
  rw [hx'] at hx
  simp only [SimV] at hx
  obtain ⟨a, cap, hv, c1, c2, c3, c0, c4, c5⟩ := hx
  obtain ⟨ns, rfl, rfl⟩ := bytesOf_ns hb
  have hml : maxLen = 9223372036854775807 := rfl
  simp only [List.length_map] at hv c1
  cases a with
  | none =>
   have := c3 rfl
   have hn : ns = [] := List.eq_nil_of_length_eq_zero (by omega)
   subst hn
   exact pureD (by rw [hv]; exact run_back_none w src d e _ _ (hT.slice h1) (hT.intk he) (hT.str h2)) (by simp [SimV]) rfl
  | some a =>
   simp only [Option.getD_some] at c0 c5
   exact pureD (by rw [hv]; exact run_back w src d e a cap ns (hT.slice h1) (hT.intk he) (hT.str h2) (rows_cells c0 c5)) (by simp [SimV]; omega) rfl
 ·rename_i e o n h1 h2 hx'
  split at h
  case h_2 => cases h
  rename_i e' c he ho
  split at h
  case h_2 => cases h
  rename_i s hb
  simp only [Option.some.injEq, Prod.mk.injEq] at h
  obtain ⟨rfl, rfl, rfl⟩ := h
  obtain ⟨rfl, hn63⟩ := hs
  rw [hx'] at hx
  simp only [SimV] at hx
  obtain ⟨i1, i2, i3, _⟩ := hx
  obtain ⟨q1, q2, xs, ⟨t1, t2, t3⟩, q4, q5⟩ := hst.ent o _ ho
  have htv := i3 t1
  obtain ⟨ns, rfl, rfl⟩ := bytesOf_ns hb
  simp only [List.length_map] at t1 t2 t3 hn63
  have hxs : xs = ns.map (Value.int .u8) := ints_sim (by rw [← ints_flatten]; exact q4)
  replace t3 := tip2 t3 rfl
  rcases t3 with ⟨h0, hnil⟩ | ⟨b, cap', cur, k1, k2, k3, k4, k5, k6, k7⟩
  ·have hn : ns = [] := List.eq_nil_of_length_eq_zero h0
   subst hn
   exact pureD (by rw [← htv, hnil]; exact run_back_none w src d e _ _ (hT.slice h1) (hT.intk he) (hT.str h2)) (by simp [SimV]) rfl
  ·simp only [Nat.zero_add, Nat.add_zero, List.drop_zero] at k2 k6 k7
   have hcells : ∀ j u, (ns.map (Value.int .u8))[j]? = some u → w.cell? ((⟨b, 0, none⟩ : Addr).add j) = some u := by
    intro j u hj
    rw [← hxs, ← k7, List.getElem?_take] at hj
    split at hj
    ·rw [Addr.add_eq rfl]
     simp only [World.cell?, k3]
     simpa using hj
    ·cases hj
   exact pureD (by rw [← htv, k1]; exact run_back w src d e ⟨b, 0, none⟩ cap' ns (hT.slice h1) (hT.intk he) (hT.str h2) hcells) (by simp [SimV]; omega) rfl
 ·cases h
theorem flat_len {α : Type} {sz : Nat} : ∀ {c : List (List α)}, (∀ r ∈ c, r.length = sz) → c.flatten.length = c.length * sz
 | [], _ => by simp
 | r :: c, h => by
  have := flat_len (c := c) fun x hx => h x (by simp [hx])
  have h0 := h r (by simp)
  simp only [List.flatten_cons, List.length_append, List.length_cons, Nat.succ_mul, this, h0]; omega
theorem flat_split {α : Type} {c : List (List α)} {k : Nat} (hk : k < c.length) : c.flatten = (c.take k).flatten ++ c.getD k [] ++ (c.drop (k + 1)).flatten := by
 have h : c.flatten = (c.take k ++ c[k] :: c.drop (k + 1)).flatten := by rw [← List.drop_eq_getElem_cons hk, List.take_append_drop]
 have e : c.getD k [] = c[k] := by simp [List.getD_eq_getElem?_getD, List.getElem?_eq_getElem hk]
 rw [e, h]
 simp only [List.flatten_append, List.flatten_cons, List.append_assoc]
theorem flat_set {α : Type} {c : List (List α)} {k : Nat} (hk : k < c.length) (r : List α) : (c.set k r).flatten = (c.take k).flatten ++ r ++ (c.drop (k + 1)).flatten := by
 rw [List.set_eq_take_append_cons_drop, if_pos hk]
 simp [List.flatten_append]
theorem patch_take {α : Type} (cur vs : List α) (p m : Nat) (h : p + vs.length ≤ m) (hm : m ≤ cur.length) :
  (cur.take p ++ vs ++ cur.drop (p + vs.length)).take m = (cur.take m).take p ++ vs ++ (cur.take m).drop (p + vs.length) := by
 have hl : (cur.take p ++ vs).length = p + vs.length := by rw [List.length_append, List.length_take]; omega
 rw [List.take_append, List.take_of_length_le (by omega), hl, List.drop_take, List.take_take, show min p m = p by omega]
/-- What lies at an element. -/
theorem arr_row {g : G} {w : World} {c : List (List V)} {xs : List Value} {sz k : Nat} (hr : ∀ r ∈ c, r.length = sz) (hk : k < c.length) (h : SimVs g w c.flatten xs) :
  ∃ us, SimVs g w (c.getD k []) us ∧ ∀ j u, us[j]? = some u → xs[k * sz + j]? = some u := by
 have hl : ((c.take k).flatten).length = k * sz := by
  rw [flat_len (sz := sz) fun r h => hr r (List.mem_of_mem_take h), List.length_take]; congr 1; omega
 rw [flat_split hk, List.append_assoc] at h
 have h1 := h.drop (k * sz)
 rw [List.drop_append_of_le_length (by omega), List.drop_of_length_le (by omega), List.nil_append] at h1
 have h2 := h1.take (c.getD k []).length
 rw [List.take_left] at h2
 refine ⟨_, h2, fun j u hj => ?_⟩
 rw [List.getElem?_take] at hj
 split at hj
 ·rw [List.getElem?_drop] at hj; exact hj
 ·cases hj
theorem s_idxArr (hT : Tab P T) {g : G} {w : World} {st : St} (hst : SimSt T g st w) {ρ : Operand → Value} {t : TypeId} {x i : Operand} {v : V} {st' : St} {side : Prop} {ev : Operand → V} (hev : ∀ x, SimV g w (ev x) (ρ x))
  (h : moreOp T (.indexAddr t x i) ev st = some (v, st', side)) (hs : side) : Did P T ρ ⟨dst, .indexAddr t x i, ty, pos, aft, gd⟩ g w v st' := by
 simp only [moreOp] at h
 have hx := hev x
 have hi := hev i
 split at h
 case h_2 => cases h
 rename_i e o n kk k hk hx' hi'
 split at h
 case h_2 => cases h
 rename_i et sz c hc
 split at h
 case isFalse => cases h
 rename_i hsd
 obtain ⟨hsd, rfl⟩ := hsd
 simp only [Option.some.injEq, Prod.mk.injEq] at h
 obtain ⟨rfl, rfl, rfl⟩ := h
 obtain ⟨rfl, hk0, hkn⟩ := hs
 rw [hx'] at hx
 rw [hi'] at hi
 simp only [SimV] at hx hi
 obtain ⟨q1, q2, q3, _, _, ha⟩ := hx
 obtain ⟨m1, m2, xs, ⟨t1, t2, t3⟩, m3, m4⟩ := hst.ent o _ hc
 have htv := q3 t1
 have hu := hT.slice hk
 have hu' : (underlying t).run P w = .ok (.slice e) w := by simp [underlying, hu]
 have hso : (Go.sizeOf e).run P w = .ok (T e).size w := hT.sizeOf (sized_kind (by simp [hsd])).1 w
 replace t3 := tip2 t3 rfl
 rcases t3 with ⟨h0, _⟩ | ⟨b, cap', cur, k1, k2, k3, k4, k5, k6, k7⟩
 ·omega
 simp only [Nat.zero_add, Nat.add_zero, List.drop_zero] at k2 k6 k7
 have hv : ρ x = .slice (some ⟨b, 0, none⟩) c.length cap' := by rw [← htv, k1]
 have e0 : (Addr.mk b 0 none).add (k.toNat * (T e).size) = ⟨b, k.toNat * (T e).size + 0, none⟩ := by rw [Addr.add_eq rfl]; simp
 refine ⟨.value (.pointer (some ⟨b, k.toNat * (T e).size + 0, none⟩)), .pointer (some ⟨b, k.toNat * (T e).size + 0, none⟩), w, g, ?_, .inl rfl, by simp only [SimV]; exact ⟨q1, q2, b, rfl, fun _ => ⟨_, _, k1⟩⟩, hst, Ext.refl _ _⟩
 simp [execOp, Instr.indexAt, asIntOf, hi, hv, hu', hso, hk0, hkn, e0]
theorem s_loadArr (hT : Tab P T) {g : G} {w : World} {st : St} (hst : SimSt T g st w) {ρ : Operand → Value} {t : TypeId} {x : Operand} {v : V} {st' : St} {side : Prop} {ev : Operand → V} (hev : ∀ x, SimV g w (ev x) (ρ x))
  (h : moreOp T (.load t x) ev st = some (v, st', side)) (hs : side) : Did P T ρ ⟨dst, .load t x, ty, pos, aft, gd⟩ g w v st' := by
 simp only [moreOp] at h
 have hx := hev x
 split at h
 case h_2 => cases h
 rename_i o n sz k off hx'
 split at h
 case h_2 => cases h
 rename_i e sz' c hc
 split at h
 case isFalse => cases h
 rename_i hk
 obtain ⟨hk, rfl⟩ := hk
 cases hl : loadV (T t) ((c.getD k []).drop off) with
 | none => rw [hl] at h; cases h
 | some r =>
  rw [hl] at h
  simp only [Option.map_some, Option.some.injEq, Prod.mk.injEq] at h
  obtain ⟨rfl, rfl, rfl⟩ := h
  obtain ⟨hs, rfl, hkn⟩ := hs
  rw [hx'] at hx
  simp only [SimV] at hx
  obtain ⟨q1, q2, b, hv, q3⟩ := hx
  obtain ⟨m1, m2, xs, ⟨t1, t2, t3⟩, m3, m4⟩ := hst.ent o _ hc
  obtain ⟨m, cap, htv⟩ := q3 t1
  obtain ⟨us, u1, u2⟩ := arr_row m2 hkn m3
  replace t3 := tip2 t3 rfl
  rcases t3 with ⟨h0, _⟩ | ⟨b', cap', cur, k1, k2, k3, k4, k5, k6, k7⟩
  ·omega
  simp only [Nat.zero_add, Nat.add_zero, List.drop_zero] at k2 k6 k7
  rw [htv] at k1
  cases k1
  have hcell : ∀ j u, (us.drop off)[j]? = some u → w.cell? ((Addr.mk b (k * sz' + off) none).add j) = some u := by
   intro j u hj
   rw [List.getElem?_drop] at hj
   have := u2 _ _ hj
   rw [← k7, List.getElem?_take] at this
   split at this
   ·rw [Addr.add_eq rfl]
    simp only [World.cell?, k3]
    rw [show k * sz' + off + j = k * sz' + (off + j) by omega]
    simpa using this
   ·cases this
  have hone : ∀ u ∈ us.drop off, u.oneCell' = true := by
   intro u hu
   obtain ⟨j, hj⟩ := List.mem_iff_getElem?.1 (List.mem_of_mem_drop hu)
   exact m4 u (List.mem_of_getElem? (u2 _ _ hj))
  obtain ⟨val, r1, r2⟩ := load_cells hT (known_kind hk) (u1.drop off) hone hcell hl hs
  exact ⟨_, val, w, g, by simp [execOp, Instr.loadAt, Instr.sureAddr, hv, r1], .inl rfl, r2, hst, Ext.refl _ _⟩
theorem s_storeArr (hT : Tab P T) {g : G} {w : World} {st : St} (hst : SimSt T g st w) {ρ : Operand → Value} {t : TypeId} {a x : Operand} {v : V} {st' : St} {side : Prop} {ev : Operand → V} (hev : ∀ x, SimV g w (ev x) (ρ x))
  (h : moreOp T (.store t a x) ev st = some (v, st', side)) (hs : side) : Did P T ρ ⟨dst, .store t a x, ty, pos, aft, gd⟩ g w v st' := by
 simp only [moreOp] at h
 have ha := hev a
 split at h
 case h_2 => cases h
 rename_i o n sz k off ha'
 split at h
 case h_2 => cases h
 rename_i e sz' c l hc hl
 split at h
 case isFalse => cases h
 rename_i hk
 obtain ⟨hk, hlen, rfl⟩ := hk
 simp only [Option.some.injEq, Prod.mk.injEq] at h
 obtain ⟨rfl, rfl, rfl⟩ := h
 obtain ⟨rfl, hkn, hoff⟩ := hs
 rw [ha'] at ha
 simp only [SimV] at ha
 obtain ⟨q1, q2, b, hv, q3⟩ := ha
 obtain ⟨m1, m2, xs, ⟨t1, t2, t3⟩, m3, m4⟩ := hst.ent o _ hc
 obtain ⟨m, cap, htv⟩ := q3 t1
 replace t3 := tip2 t3 rfl
 rcases t3 with ⟨h0, _⟩ | ⟨b', cap', cur, k1, k2, k3, k4, k5, k6, k7⟩
 ·omega
 simp only [Nat.zero_add, Nat.add_zero, List.drop_zero] at k2 k6 k7
 have hbb : b = b' := by rw [htv] at k1; cases k1; rfl
 subst hbb
 obtain ⟨p1, p2⟩ := cells_sim hl (hev x)
 have hcl : (ρ x).cells.toList.length = l.length := p1.length
 have hrow : (c.getD k []).length = sz' := by
  refine m2 _ ?_
  rw [List.getD_eq_getElem?_getD, List.getElem?_eq_getElem hkn]; exact List.getElem_mem hkn
 have hkm : k * sz' + sz' ≤ c.length * sz' := by
  have := Nat.mul_le_mul_right sz' (show k + 1 ≤ c.length by omega)
  rw [Nat.succ_mul] at this; exact this
 have hkm2 : c.length * (T e).size ≤ cap' * (T e).size := Nat.mul_le_mul_right _ k4
 have hrun := run_storeCells_at P b (k * sz' + off) e (ρ x).cells.toList 0 cur w k3 (by rw [hcl, k6, ← m1]; rw [← m1] at hkm2; omega) p2
 simp only [Nat.add_zero, hcl] at hrun
 generalize hcur : (cur.toList.take (k * sz' + off) ++ (ρ x).cells.toList ++ cur.toList.drop (k * sz' + off + l.length)).toArray = cur' at hrun
 have hx2 : Ext g w g (w.setRow b cur') := by
  refine ⟨rfl, rfl, rfl, by simp, Nat.le_refl _, fun _ _ => rfl, fun _ _ => Nat.le_refl _, fun _ _ _ => rfl, fun b2 hb2 hn => ⟨setRow_other w _ b2 _ (fun e' => by rw [e', k2] at hn; cases hn), hn⟩, fun b2 k' hb2 hk2 => ⟨fun o2 ho2 => ?_, fun k'' hk'' => by rw [hk2] at hk''; cases hk''; exact Nat.le_refl _⟩, by
   rw [← hcur]; exact shape_setRow (cs := cur.toList) (by simpa using k3) (by
    have hfit : k * sz' + off + l.length ≤ cur.size := by rw [k6, ← m1]; rw [← m1] at hkm2; omega
    simp only [List.length_append, List.length_take, List.length_drop, Array.length_toList, hcl]; omega)⟩
  by_cases e' : b2 = b
  ·subst e'; rw [k2] at hk2; cases hk2; omega
  ·exact cell_of_block (setRow_other w _ b2 _ e')
 have hl0 : ((c.take k).flatten).length = k * sz' := by
  rw [flat_len (sz := sz') fun r h => m2 r (List.mem_of_mem_take h), List.length_take]; congr 1; omega
 have hxl : xs.length = c.length * sz' := by rw [t2, m1]
 have hnew : SimVs g w (c.set k ((c.getD k []).take off ++ l ++ (c.getD k []).drop (off + l.length))).flatten (xs.take (k * sz' + off) ++ (ρ x).cells.toList ++ xs.drop (k * sz' + off + l.length)) := by
  have e1 : (c.set k ((c.getD k []).take off ++ l ++ (c.getD k []).drop (off + l.length))).flatten = c.flatten.take (k * sz' + off) ++ l ++ c.flatten.drop (k * sz' + off + l.length) := by
   rw [flat_set hkn]
   conv => rhs; rw [flat_split hkn]
   generalize (c.take k).flatten = A at hl0
   generalize (c.drop (k + 1)).flatten = B
   generalize c.getD k [] = R at hrow
   rw [← hl0]
   simp only [List.append_assoc]
   rw [List.take_length_add_append, Nat.add_assoc, List.drop_length_add_append, List.take_append_of_le_length (by omega), List.drop_append_of_le_length (by omega)]
   simp
  rw [e1]
  exact ((m3.take _).append p1).append (m3.drop _)
 have hone : ∀ u ∈ xs.take (k * sz' + off) ++ (ρ x).cells.toList ++ xs.drop (k * sz' + off + l.length), u.oneCell' = true := by
  intro u hu
  simp only [List.mem_append] at hu
  rcases hu with (hu | hu) | hu
  ·exact m4 u (List.mem_of_mem_take hu)
  ·exact p2 u hu
  ·exact m4 u (List.mem_of_mem_drop hu)
 have hset : SimE T g (w.setRow b cur') o (.arr e sz' (c.set k ((c.getD k []).take off ++ l ++ (c.getD k []).drop (off + l.length)))) := by
  refine ⟨m1, ?_, _, ?_, hnew.ext hx2, hone⟩
  ·intro r hr
   rcases List.mem_or_eq_of_mem_set hr with hr | rfl
   ·exact m2 r hr
   ·simp only [List.length_append, List.length_take, List.length_drop, hrow]; omega
  ·refine ⟨by simpa using t1, ?_, .inr <| .inr ⟨b, cap', cur', by simpa using k1, k2, setRow_heap w _ _ _ _ _ k3, by simpa using k4, k5, ?_, ?_⟩⟩
   ·simp only [List.length_append, List.length_take, List.length_drop, List.length_set, hxl, hcl]; rw [← m1]; omega
   ·rw [← hcur]; simp only [List.size_toArray, List.length_append, List.length_take, List.length_drop, Array.length_toList, hcl]; rw [← m1] at hkm2 k6 ⊢; omega
   ·rw [← hcur, ← k7]
    simp only [List.length_set]
    rw [← m1] at hkm2 k6 ⊢
    have := patch_take cur.toList (ρ x).cells.toList (k * sz' + off) (c.length * sz') (by omega) (by simpa [k6] using hkm2)
    rw [hcl] at this
    exact this
 refine ⟨.skip, undef, _, g, ?_, .inr ⟨rfl, rfl⟩, by simp [SimV], ?_, hx2⟩
 ·have hso := hT.sizeOf (known_kind hk) w
  have hcs : (ρ x).cells.size = (T t).size := by rw [← hlen, ← hcl]; simp
  simp [execOp, Instr.storeAt, Instr.sureAddr, hv, storeVar, hso, hcs, hrun]
 ·refine hst.upd hc hx2 rfl (fun _ => rfl) (fun _ _ => ⟨rfl, rfl⟩) (fun b2 hb2 hne _ => ⟨setRow_other w _ b2 _ (fun e' => hne ?_), rfl⟩) hset (fun b2 hb2 => .inl hb2)
  subst e'
  simp [blkOf, k1, Value.ownBlock]
theorem s_makeSlice (hT : Tab P T) {g : G} {w : World} {st : St} (hst : SimSt T g st w) {ρ : Operand → Value} {t : TypeId} {x y : Operand} {v : V} {st' : St} {side : Prop} {ev : Operand → V} (hev : ∀ x, SimV g w (ev x) (ρ x))
  (h : moreOp T (.makeSlice t x y) ev st = some (v, st', side)) (hs : side) : Did P T ρ ⟨dst, .makeSlice t x y, ty, pos, aft, gd⟩ g w v st' := by
 simp only [moreOp] at h
 split at h
 case h_2 => cases h
 rename_i e k1 n k2 m hk hx hy
 split at h
 case isFalse => cases h
 rename_i hsz
 simp only [Option.some.injEq, Prod.mk.injEq] at h
 obtain ⟨rfl, rfl, rfl⟩ := h
 obtain ⟨rfl, h0, hn, hb⟩ := hs
 have hke := sized_kind (i := T e) (by simp [hsz])
 have hu := hT.slice hk
 obtain ⟨i, i1, i2, i3, i4⟩ := hT.info hke.1
 have hok := hT e hke.1
 have hvx := hev x
 have hvy := hev y
 rw [hx] at hvx
 rw [hy] at hvy
 simp only [SimV] at hvx hvy
 have hcells := zval_cells hok
 have hzl : ((T e).zero.map V.raw).length = (T e).size := by simpa using hok.2.2.2.1
 have hne : (T e).zero.map V.raw ≠ [] := by intro h0; rw [h0] at hzl; simp at hzl; exact hke.2 hzl.symm
 have hzs := zeros_list ((T e).zero.map V.raw) n.toNat hne
 rw [hzl] at hzs
 have hrun : (execOp ρ ⟨dst, .makeSlice t x y, ty, pos, aft, gd⟩).run P w = .ok (.value (.slice (some ⟨w.heap.size, 0, none⟩) n.toNat n.toNat)) (w.alloc (.cells ((List.replicate n.toNat ((T e).zero.map V.raw)).flatten.toArray) e)) := by
  simp only [execOp, hvx, hvy, Sem.run_bind]
  rw [run_make w t e i _ hu i1 i2 _ _ n n h0 (Int.le_refl _) (by rw [i4, Int.mul_comm]; omega) (by omega)]
  simp only [Result.andThen_ok, Sem.run_pure, madeCells, hcells, i3, hzs]
 have hlr : ∀ r ∈ List.replicate n.toNat (T e).zero, r.length = (T e).size := fun r hr => by rw [List.eq_of_mem_replicate hr]; exact hok.2.2.2.1
 have hsv : SimVs g w (List.replicate n.toNat (T e).zero).flatten (List.replicate n.toNat ((T e).zero.map V.raw)).flatten := SimVs.repl (raws_sim _ hok.2.2.1) _
 have hvl : ((List.replicate n.toNat ((T e).zero.map V.raw)).flatten).length = n.toNat * (T e).size := by rw [hsv.length, flatten_len _ hlr, List.length_replicate]
 have htk : ((List.replicate n.toNat ((T e).zero.map V.raw)).flatten.toArray.toList).take (n.toNat * (T e).size) = (List.replicate n.toNat ((T e).zero.map V.raw)).flatten := by
  rw [List.toList_toArray, ← hvl, List.take_length]
 obtain ⟨g', xx, s, e1, e2, e3, e4⟩ := hst.newTip (e := e) (n := n.toNat) (cap := n.toNat) (cur := (List.replicate n.toNat ((T e).zero.map V.raw)).flatten.toArray) (sl := 0) (ent := .arr e (T e).size (List.replicate n.toNat (T e).zero)) (Nat.le_refl _) (by unfold maxLen; omega) (by simpa using hvl)
  (.inr ⟨_, rfl, List.length_replicate, rfl, hlr, by rw [htk]; exact hsv, by
   rw [htk]
   intro u hu
   simp only [List.mem_flatten] at hu
   obtain ⟨r, hr, hu⟩ := hu
   rw [List.eq_of_mem_replicate hr] at hu
   exact raws_one _ hok.2.2.1 u hu⟩)
 refine ⟨_, _, _, g', hrun, .inl rfl, ?_, s, xx⟩
 simp only [SimV]
 exact ⟨by omega, by rw [e2]; exact Nat.le_refl _, fun _ => e3, _, _, rfl⟩
theorem nilR_some {st st' : St} {x : Option V} {v : V} {side : Prop} (h : nilR st x = some (v, st', side)) : x = some v ∧ st' = st := by
 cases x with
 | none => cases h
 | some u => simp only [nilR, Option.some.injEq, Prod.mk.injEq] at h; exact ⟨by rw [h.1], h.2.1.symm⟩
theorem run_equal_of {P : Program} {w : World} {t : TypeId} {x y : Value} {b : Bool} (h : (Op.equalIn (9999 + 1) t x y).run P w = .ok b w) : (Op.equal t x y).run P w = .ok b w := h
theorem eqN1 {P : Program} (w : World) {t : TypeId} {ms : Array (String × TypeId)} (hu : P.underlying t = some (.interface ms)) : (Op.equal t .nilIface .nilIface).run P w = .ok true w := run_equal_of ((fun d => by simp [Op.equalIn, run_underlying hu] : ∀ d, (Op.equalIn (d + 1) t .nilIface .nilIface).run P w = .ok true w) 9999)
theorem eqN2 {P : Program} (w : World) {t : TypeId} {ms : Array (String × TypeId)} (hu : P.underlying t = some (.interface ms)) (u : TypeId) (z : Value) : (Op.equal t (.iface u z) .nilIface).run P w = .ok false w := run_equal_of ((fun d => by simp [Op.equalIn, run_underlying hu] : ∀ d, (Op.equalIn (d + 1) t (.iface u z) .nilIface).run P w = .ok false w) 9999)
theorem eqN3 {P : Program} (w : World) {t e : TypeId} (hu : P.underlying t = some (.pointer e)) : (Op.equal t (.pointer none) (.pointer none)).run P w = .ok true w := run_equal_of ((fun d => by simp [Op.equalIn, run_underlying hu] : ∀ d, (Op.equalIn (d + 1) t (.pointer none) (.pointer none)).run P w = .ok true w) 9999)
theorem eqN4 {P : Program} (w : World) {t e : TypeId} (hu : P.underlying t = some (.pointer e)) (a : Addr) : (Op.equal t (.pointer (some a)) (.pointer none)).run P w = .ok false w := run_equal_of ((fun d => by simp [Op.equalIn, run_underlying hu] : ∀ d, (Op.equalIn (d + 1) t (.pointer (some a)) (.pointer none)).run P w = .ok false w) 9999)
theorem binN {P : Program} {w : World} {t : TypeId} {x y : Value} {b : Bool} (h : (Op.equal t x y).run P w = .ok b w) (hx : (x = .nilIface ∨ (∃ u z, x = .iface u z)) ∧ y = .nilIface ∨ (∃ a, x = .pointer a) ∧ ∃ a, y = .pointer a) :
  (binOp .eql t x y).run P w = .ok (.bool b) w ∧ (binOp .neq t x y).run P w = .ok (.bool (!b)) w := by
 rcases hx with ⟨rfl | ⟨u, z, rfl⟩, rfl⟩ | ⟨⟨a, rfl⟩, a', rfl⟩ <;> simp [binOp, h]
theorem nilCmp_inv {k : TK} {op : BinOp} {c : Bool} {x y v : V} (h : nilCmp k op c x y = some v) : c = true ∧ ((k = .iface ∧ y = .nili ∧ ∃ b, eqb op b = some v ∧ ((x = .nili ∧ b = true) ∨ (∃ u z, x = .iface u z) ∧ b = false)) ∨
  ((∃ e, k = .ptr e) ∧ y = .nilp ∧ ∃ b, eqb op b = some v ∧ ((x = .nilp ∧ b = true) ∨ (∃ l, x = .ref l) ∧ b = false ∨ (∃ o f, x = .ptr o f) ∧ b = false ∨ (∃ e n sz k f, x = .eptr e n sz k f) ∧ b = false))) := by
 unfold nilCmp at h
 split at h
 ·refine ⟨rfl, .inl ⟨rfl, rfl, ?_⟩⟩
  split at h
  ·exact ⟨_, h, .inl ⟨rfl, rfl⟩⟩
  ·exact ⟨_, h, .inr ⟨⟨_, _, rfl⟩, rfl⟩⟩
  ·cases h
 ·refine ⟨rfl, .inr ⟨⟨_, rfl⟩, rfl, ?_⟩⟩
  split at h
  ·exact ⟨_, h, .inl ⟨rfl, rfl⟩⟩
  ·exact ⟨_, h, .inr (.inl ⟨⟨_, rfl⟩, rfl⟩)⟩
  ·exact ⟨_, h, .inr (.inr (.inl ⟨⟨_, _, rfl⟩, rfl⟩))⟩
  ·exact ⟨_, h, .inr (.inr (.inr ⟨⟨_, _, _, _, _, rfl⟩, rfl⟩))⟩
  ·cases h
 ·cases h
theorem s_nilCmp (hT : Tab P T) {g : G} {w : World} {st st' : St} (hst : SimSt T g st w) {ρ : Operand → Value} {ev : Operand → V} (hev : ∀ x, SimV g w (ev x) (ρ x)) {op : BinOp} {t : TypeId} {x y : Operand} {xt : TypeId} {v : V} {side : Prop}
  (h : moreOp T (.binOp op t x y xt) ev st = some (v, st', side)) (hs : side) : Did P T ρ ⟨dst, .binOp op t x y xt, ty, pos, aft, gd⟩ g w v st' := by
 simp only [moreOp] at h
 cases hnc : nilCmp (T t).kind op (nilC y) (ev x) (ev y) with
 | none =>
  rw [hnc] at h
  simp only [nilB] at h
  cases hb : bitV op (ev x) (ev y) with
  | none => rw [hb] at h; cases h
  | some r =>
   rw [hb] at h
   obtain ⟨v', side'⟩ := r
   simp only [bitF, Option.some.injEq, Prod.mk.injEq] at h
   obtain ⟨rfl, rfl, rfl⟩ := h
   have hx := hev x
   have hy := hev y
   unfold bitV at hb
   split at hb
   all_goals first | (cases hb; done) | skip
   ·rename_i k a k' b h1 h2
    rw [h1] at hx; rw [h2] at hy
    simp only [SimV] at hx hy
    simp only [Option.some.injEq, Prod.mk.injEq] at hb
    obtain ⟨rfl, rfl⟩ := hb
    have : ¬ b < 0 := by omega
    refine ⟨_, _, w, g, ?_, .inl rfl, (by simp only [SimV]; exact rfl), hst, Ext.refl _ _⟩
    simp [execOp, hx, hy, eqGuard, Go.binOp, Op.shift, this]
   ·rename_i k a k' b h1 h2
    rw [h1] at hx; rw [h2] at hy
    simp only [SimV] at hx hy
    simp only [Option.some.injEq, Prod.mk.injEq] at hb
    obtain ⟨rfl, rfl⟩ := hb
    have : ¬ b < 0 := by omega
    refine ⟨_, _, w, g, ?_, .inl rfl, (by simp only [SimV]; exact rfl), hst, Ext.refl _ _⟩
    simp [execOp, hx, hy, eqGuard, Go.binOp, Op.shift, this]
   all_goals
    rename_i k a k' b h1 h2
    rw [h1] at hx; rw [h2] at hy
    simp only [SimV] at hx hy
    split at hb
    case isFalse => cases hb
    rename_i hkk
    subst hkk
    simp only [Option.some.injEq, Prod.mk.injEq] at hb
    obtain ⟨rfl, rfl⟩ := hb
    refine ⟨_, _, w, g, ?_, .inl rfl, (by simp only [SimV, bitsV]; exact rfl), hst, Ext.refl _ _⟩
    simp [execOp, hx, hy, eqGuard, Go.binOp, Op.intBits]
 | some v' =>
 rw [hnc] at h
 simp only [nilB, Option.some.injEq, Prod.mk.injEq] at h
 obtain ⟨e1, e2, _⟩ := h
 rw [e1] at hnc
 have e3 := e2.symm
 clear e2
 subst e3
 have hh := hnc
 have h := hnc
 have hx := hev x
 have hy := hev y
 have hcon : nilC y = true → ∃ u, y = .const u := by
  intro hc
  unfold nilC at hc
  split at hc
  ·exact ⟨_, rfl⟩
  ·exact ⟨_, rfl⟩
  ·cases hc
 have fin : ∀ {b : Bool}, eqb op b = some v → (op = .eql → (execOp ρ ⟨dst, .binOp op t x y xt, ty, pos, aft, gd⟩).run P w = .ok (.value (.bool b)) w) → (op = .neq → (execOp ρ ⟨dst, .binOp op t x y xt, ty, pos, aft, gd⟩).run P w = .ok (.value (.bool (!b))) w) →
   Did P T ρ ⟨dst, .binOp op t x y xt, ty, pos, aft, gd⟩ g w v st' := by
  intro b hb hr hr2
  unfold eqb at hb
  split at hb
  ·cases hb; exact ⟨_, _, w, g, hr rfl, .inl rfl, by simp [SimV], hst, Ext.refl _ _⟩
  ·cases hb; exact ⟨_, _, w, g, hr2 rfl, .inl rfl, by simp [SimV], hst, Ext.refl _ _⟩
  ·cases hb
 obtain ⟨hc, hop⟩ := nilCmp_inv h
 obtain ⟨u, rfl⟩ := hcon hc
 have fin2 : ∀ {b : Bool} {vx vy : Value}, eqb op b = some v → ρ x = vx → ρ (.const u) = vy → (Op.equal t vx vy).run P w = .ok b w → ((vx = .nilIface ∨ (∃ u z, vx = .iface u z)) ∧ vy = .nilIface ∨ (∃ a, vx = .pointer a) ∧ ∃ a, vy = .pointer a) →
   Did P T ρ ⟨dst, .binOp op t x (.const u) xt, ty, pos, aft, gd⟩ g w v st' := by
  intro b vx vy hb h1 h2 h3 h4
  obtain ⟨k1, k2⟩ := binN h3 h4
  have hg : ∀ o : BinOp, (eqGuard o t x (.const u) vx vy).run P w = .ok () w := by
   intro o
   unfold eqGuard
   rcases h4 with ⟨rfl | ⟨_, _, rfl⟩, rfl⟩ | ⟨⟨_, rfl⟩, _, rfl⟩ <;> cases o <;> simp
  refine fin hb ?_ ?_
  ·rintro rfl; simp only [execOp, h1, h2, Sem.run_bind, hg, Result.andThen_ok, k1, Sem.run_pure]
  ·rintro rfl; simp only [execOp, h1, h2, Sem.run_bind, hg, Result.andThen_ok, k2, Sem.run_pure]
 rcases hop with ⟨hk, hyv, b, hb, hxs⟩ | ⟨⟨e, hk⟩, hyv, b, hb, hxs⟩
 ·rw [hyv] at hy
  simp only [SimV] at hy
  obtain ⟨d, hd, hk'⟩ := hT.und (t := t) (by rw [hk]; simp)
  rw [hk] at hk'
  cases d <;> simp [TK.of] at hk'
  rcases hxs with ⟨hxv, rfl⟩ | ⟨⟨u2, z, hxv⟩, rfl⟩
  ·rw [hxv] at hx
   simp only [SimV] at hx
   exact fin2 hb hx hy (eqN1 w hd) (.inl ⟨.inl rfl, rfl⟩)
  ·rw [hxv] at hx
   simp only [SimV] at hx
   obtain ⟨z, hx, _⟩ := hx
   exact fin2 hb hx hy (eqN2 w hd _ _) (.inl ⟨.inr ⟨_, _, rfl⟩, rfl⟩)
 ·rw [hyv] at hy
  simp only [SimV] at hy
  obtain ⟨d, hd, hk'⟩ := hT.und (t := t) (by rw [hk]; simp)
  rw [hk] at hk'
  cases d <;> simp [TK.of] at hk'
  have some_ : ∀ a, ρ x = .pointer (some a) → b = false → Did P T ρ ⟨dst, .binOp op t x (.const u) xt, ty, pos, aft, gd⟩ g w v st' := by
   rintro a hx rfl
   exact fin2 hb hx hy (eqN4 w hd _) (.inr ⟨⟨_, rfl⟩, _, rfl⟩)
  rcases hxs with ⟨hxv, rfl⟩ | ⟨⟨l, hxv⟩, hb'⟩ | ⟨⟨o, f, hxv⟩, hb'⟩ | ⟨⟨e2, n, sz, k, f, hxv⟩, hb'⟩
  ·rw [hxv] at hx
   simp only [SimV] at hx
   exact fin2 hb hx hy (eqN3 w hd) (.inr ⟨⟨_, rfl⟩, _, rfl⟩)
  ·rw [hxv] at hx
   simp only [SimV] at hx
   obtain ⟨a, hx, _⟩ := hx
   exact some_ a hx hb'
  ·rw [hxv] at hx
   simp only [SimV] at hx
   exact some_ _ hx.2 hb'
  ·rw [hxv] at hx
   simp only [SimV] at hx
   obtain ⟨_, _, b, hx, _⟩ := hx
   exact some_ _ hx hb'
theorem s_assert (hT : Tab P T) {g : G} {w : World} {st st' : St} (hst : SimSt T g st w) {ρ : Operand → Value} {ev : Operand → V} (hev : ∀ x, SimV g w (ev x) (ρ x)) {x : Operand} {xt t : TypeId} {ok : Bool} {v : V} {side : Prop}
  (h : moreOp T (.typeAssert x xt t ok) ev st = some (v, st', side)) : Did P T ρ ⟨dst, .typeAssert x xt t ok, ty, pos, aft, gd⟩ g w v st' := by
 simp only [moreOp] at h
 obtain ⟨hh, rfl⟩ := nilR_some h
 clear h
 have hx := hev x
 have hkn : ((T t).kind = .iface ∨ (T t).kind = .other) → False := by
  intro hk
  unfold assertV at hh
  rcases hk with hk | hk <;> simp [hk] at hh
 have h' : assertW (zeroV (T t)) t ok (ev x) = some v := by
  unfold assertV at hh
  split at hh
  ·cases hh
  ·cases hh
  ·exact hh
 have hknown : (T t).known = true := by
  unfold TI.known
  split
  ·rename_i e; exact absurd (.inr e) hkn
  ·rfl
 obtain ⟨z, hz1, hz2⟩ := s_zero (P := P) hT hknown g w
 obtain ⟨d, hd, hk'⟩ := hT.und (t := t) (fun e => hkn (.inr e))
 have hni : ∀ ms, d ≠ .interface ms := by
  rintro ms rfl
  exact hkn (.inl (by rw [← hk']; rfl))
 have hu := run_underlying hd
 have key : ∀ {val : Value}, (Instr.typeAssert (ρ x) xt t ok).run P w = .ok val w → SimV g w v val → Did P T ρ ⟨dst, .typeAssert x xt t ok, ty, pos, aft, gd⟩ g w v st' := by
  intro val hr hv
  exact ⟨.value val, val, w, g, by simp [execOp, hr], .inl rfl, hv, hst, Ext.refl _ _⟩
 unfold assertW at h'
 split at h'
 ·rename_i u v0 hxv
  rw [hxv] at hx
  simp only [SimV] at hx
  obtain ⟨y, hx, hy⟩ := hx
  simp only [Option.some.injEq] at h'
  subst h'
  by_cases e : u = t
  ·refine key (val := .tuple #[y, .bool true]) ?_ (by simp only [if_pos e, SimV, SimVs]; exact ⟨[y, .bool true], rfl, y, _, rfl, hy, _, _, rfl, rfl, rfl⟩)
   rw [hx]
   cases d <;> first | exact (hni _ rfl).elim | (unfold Instr.typeAssert; simp [hu, e]; done)
  ·refine key (val := .tuple #[z, .bool false]) ?_ (by simp only [if_neg e, SimV, SimVs]; exact ⟨[z, .bool false], rfl, z, _, rfl, hz2, _, _, rfl, rfl, rfl⟩)
   rw [hx]
   cases d <;> first | exact (hni _ rfl).elim | (unfold Instr.typeAssert; simp [hu, e, hz1]; done)
 ·rename_i u v0 hxv
  rw [hxv] at hx
  simp only [SimV] at hx
  obtain ⟨y, hx, hy⟩ := hx
  split at h'
  case isFalse => cases h'
  rename_i e
  simp only [Option.some.injEq] at h'
  subst h'
  refine key (val := y) ?_ hy
  rw [hx]
  cases d <;> first | exact (hni _ rfl).elim | (unfold Instr.typeAssert; simp [hu, e]; done)
 ·rename_i hxv
  rw [hxv] at hx
  simp only [SimV] at hx
  simp only [Option.some.injEq] at h'
  subst h'
  refine key (val := .tuple #[z, .bool false]) ?_ (by simp only [SimV, SimVs]; exact ⟨[z, .bool false], rfl, z, _, rfl, hz2, _, _, rfl, rfl, rfl⟩)
  rw [hx]
  cases d <;> first | exact (hni _ rfl).elim | (unfold Instr.typeAssert; simp [hu, hz1]; done)
 ·cases h'
theorem moreOp_sound (hT : Tab P T) {g : G} {w : World} {st : St} (hst : SimSt T g st w) {ρ : Operand → Value} {ev : Operand → V} (hev : ∀ x, SimV g w (ev x) (ρ x)) {o : Oper} {v : V} {st' : St} {side : Prop}
  (h : moreOp T o.op ev st = some (v, st', side)) (hs : side) : Did P T ρ o g w v st' := by
 obtain ⟨dst, op, ty, pos, aft, gd⟩ := o
 simp only at h
 cases op with
 | makeSlice t x y => exact s_makeSlice hT hst hev h hs
 | convert src d x => exact s_conv hT hst hev (by simpa only [moreOp] using h) hs
 | indexAddr t x i => exact s_idxArr hT hst hev h hs
 | load t x => exact s_loadArr hT hst hev h hs
 | store t a x => exact s_storeArr hT hst hev h hs
 | binOp o t x y u => exact s_nilCmp hT hst hev h hs
 | typeAssert x xt t ok => exact s_assert hT hst hev h
 | makeMap t r =>
  cases r with
  | none => exact s_makeMap hst h
  | some r => cases h
 | lookup t m x ok => exact s_lookup hT hst hev h
 | mapUpdate t m x y => exact (s_mapUpdate hT hst hev h).1
 | insert t m x y => exact (s_mapUpdate hT hst hev h).2
 | range t m => exact s_range hT hst hev h
 | entry it => exact s_entry hst hev h
 | call c =>
  simp only [moreOp] at h
  split at h
  case h_2 => cases h
  rename_i hc
  unfold mapLen at h
  split at h
  case h_2 => cases h
  rename_i o t ha ht
  split at h
  case h_2 => cases h
  rename_i k e hk
  unfold lenE at h
  split at h
  case h_2 => cases h
  rename_i c' es he
  simp only [Option.some.injEq, Prod.mk.injEq] at h
  obtain ⟨rfl, rfl, rfl⟩ := h
  have hts : c.argTypes = #[t] := by cases hh : c.argTypes; rw [hh] at ht; simpa using ht
  cases hal : c.args.toList with
  | nil => rw [hal] at ha; simp at ha
  | cons a0 r =>
   cases r with
   | cons _ _ => rw [hal] at ha; simp at ha
   | nil =>
    rw [hal] at ha
    simp only [List.map_cons, List.map_nil, List.cons.injEq, and_true] at ha
    have has : c.args = #[a0] := by cases hh : c.args; rw [hh] at hal; simpa using hal
    have h0 := hev a0
    rw [ha] at h0
    have hl := s_mapLen (P := P) (ty := ty) hT hst hk h0 he
    obtain ⟨cal, args, ts⟩ := c
    simp only at hc has hts
    subst hc has hts
    refine ⟨.value (.int .i64 es.length), _, w, g, ?_, .inl rfl, by simp [SimV], hst, Ext.refl _ _⟩
    simp only [execOp, resolve, Sem.run_bind, Sem.run_pure, Result.andThen_ok, invoke, builtin]
    simp [hl]
 | _ => cases h
end
end Go.Proofs.YtpllcpbhjglpaaaGreatDoor.Gw
namespace Go.Proofs.YtpllcpbhjglpaaaGreatDoor.Gw
open Go
set_option linter.unusedSimpArgs false
inductive VEnd where
 | ret (v : V)
 | panic (v : V)
inductive VExit where
 | normal
 | exit (id : Nat)
 | ret
 | panic (v : V)
def SimEnd (g : G) (w : World) : VEnd → Ending → Prop
 | .ret v, e => ∃ val, e = .returned val ∧ SimV g w v val
 | .panic v, e => ∃ val, e = .panicked [{ v := val, recovered := false }] ∧ SimV g w v val
def SimExit (g : G) (w : World) : VExit → Exit → Prop
 | .normal, e => e = .normal
 | .exit id, e => e = .exit id
 | .ret, e => e = .ret
 | .panic v, e => ∃ val, e = .panic [{ v := val, recovered := false }] ∧ SimV g w v val
/-- What is named is of L, and not hidden. -/
def EnvOK (L : List Nat) (env : Env) : Prop := ∀ t x, find env.g t = some x → memN L t = true ∧ env.look t = some x
def SimEnv (g : G) (w : World) (env : Env) (a : Act) : Prop :=
 a.tmps.size = env.N ∧ ∀ t c v, env.look t = some (c, v) → if c then SimV g w v (a.tmps.getD t undef) else a.tmps.getD t undef = undef
/-- A function with a body, that is entered where it is called. -/
def Enters (P : Program) (f : FuncId) : Prop := ∃ fn, P.funcs[f]? = some fn ∧ fn.body.isSome = true ∧ (fn.name == "runtime.NumGoroutine") = false
/-- A call of a function, whatever the memory: by what its arguments are read as, and the state. -/
def VCalls (P : Program) (T : Nat → TI) (f : FuncId) (args : List V) (st : St) (Q : VEnd → St → Prop) : Prop :=
 Enters P f ∧ ∀ g w (vals : List Value), SimSt T g st w → SimVs g w args vals → Calls P f vals.toArray w fun e w' => ∃ r st' g', Q r st' ∧ SimEnd g' w' r e ∧ SimSt T g' st' w' ∧ Ext g w g' w'
def Lift (T : Nat → TI) (L : List Nat) (ds : List Deferred) (g : G) (w : World) (Q : VExit → Env → St → Prop) : Exit → Act → World → Prop := fun e a' w' =>
 ∃ ve env' st' g', Q ve env' st' ∧ SimExit g' w' ve e ∧ SimEnv g' w' env' a' ∧ EnvOK L env' ∧ a'.defers = ds ∧ SimSt T g' st' w' ∧ Ext g w g' w'
/-- Code, from an environment and a state. -/
def VC (P : Program) (T : Nat → TI) (L : List Nat) (ds : List Deferred) (c : Code) (env : Env) (st : St) (Q : VExit → Env → St → Prop) : Prop :=
 ∀ g w a, SimSt T g st w → SimEnv g w env a → EnvOK L env → a.defers = ds → c.wp P (Lift T L ds g w Q) a w
theorem Lift.ext {T : Nat → TI} {L : List Nat} {ds : List Deferred} {g g' : G} {w w' : World} {Q : VExit → Env → St → Prop} (h : Ext g w g' w') {e : Exit} {a : Act} {u : World} (k : Lift T L ds g' w' Q e a u) : Lift T L ds g w Q e a u := by
 obtain ⟨ve, env', st', g2, h1, h2, h3, h0, h4, h5, h6⟩ := k
 exact ⟨ve, env', st', g2, h1, h2, h3, h0, h4, h5, h.trans h6⟩
theorem VC.mono {P : Program} {T : Nat → TI} {L : List Nat} {ds : List Deferred} {c : Code} {env : Env} {st : St} {Q Q' : VExit → Env → St → Prop} (h : VC P T L ds c env st Q) (hq : ∀ e env st, Q e env st → Q' e env st) : VC P T L ds c env st Q' :=
 fun g w a h1 h2 h3 h4 => wp_mono (h g w a h1 h2 h3 h4) fun _ _ _ ⟨ve, env', st', g', k1, k2⟩ => ⟨ve, env', st', g', hq _ _ _ k1, k2⟩
theorem VCalls.mono {P : Program} {T : Nat → TI} {f : FuncId} {args : List V} {st : St} {Q Q' : VEnd → St → Prop} (h : VCalls P T f args st Q) (hq : ∀ r st, Q r st → Q' r st) : VCalls P T f args st Q' :=
 ⟨h.1, fun g w vals h1 h2 => (h.2 g w vals h1 h2).mono fun _ _ ⟨r, st', g', k1, k2⟩ => ⟨r, st', g', hq _ _ k1, k2⟩⟩
-- the computed condition
def bindO {α : Type} (x : Option α) (k : α → Prop) : Prop := match x with | some a => k a | none => False
@[congr] theorem bindO_congr {α : Type} {x x' : Option α} {k : α → Prop} (h : x = x') : bindO x k = bindO x' k := by rw [h]
def Later (p : Prop) : Prop := p
@[congr] theorem Later_congr (p : Prop) : Later p = Later p := rfl
def Split (t : Bool) (A B : Prop) : Prop := (t = true → A) ∧ (t = false → B)
@[congr] theorem Split_congr {t t' : Bool} {A B : Prop} (h : t = t') : Split t A B = Split t' A B := by rw [h]
theorem Split_true (A B : Prop) : Split true A B = A := by simp [Split]
theorem Split_false (A B : Prop) : Split false A B = B := by simp [Split]
@[congr] theorem VCalls_congr {P : Program} {T : Nat → TI} {f : FuncId} {args args' : List V} {st st' : St} {Q : VEnd → St → Prop} (h1 : args = args') (h2 : st = st') : VCalls P T f args st Q = VCalls P T f args' st' Q := by rw [h1, h2]
@[congr] theorem VC_congr {P : Program} {T : Nat → TI} {L : List Nat} {ds : List Deferred} {c : Code} {env env' : Env} {st st' : St} {Q : VExit → Env → St → Prop} (h1 : env = env') (h2 : st = st') : VC P T L ds c env st Q = VC P T L ds c env' st' Q := by rw [h1, h2]
def dstAt (all : Array Oper) (j : Nat) : Option Tmp := (all[j]?).bind (·.dst)
def guardV (all : Array Oper) (env : Env) : Option (Nat × Bool) → Option Bool
 | none => some true
 | some (j, want) => match dstAt all j with
  | some d => match env.look d with
   | some (c, .bool b) => some (c && (bif want then b else !b))
   | _ => none
  | none => none
def evG (env : Env) (gc : Bool) (x : Operand) : V :=
 match evO env x with
 | some (c, v) => bif (!gc || c) then v else .junk
 | none => .junk
def pickV (env : Env) (gc : Bool) (c a b : Operand) : Option (V × Prop) :=
 match evO env c, evO env a, evO env b with
 | some (cc, .bool x), some (ca, .bool p), some (cb, .bool q) => some (.bool (bif x then p else q), gc = true → cc = true ∧ (x = true → ca = true) ∧ (x = false → cb = true))
 | _, _, _ => none
inductive Step where
 | pure (v : V) (side : Prop)
 | mem (v : V) (st : St) (side : Prop)
 | call (f : FuncId) (args : List V)
 | panic (v : V)
 /-- One of these. -/
 | any (l : List (V × St))
 | fail
def memStep (T : Nat → TI) (an : Nat → Nat) (dst : Option Tmp) (op : Op) (ev : Operand → V) (st : St) : Step :=
 match memOp T an dst op ev st with
 | some (v, st', side) => .mem v st' side
 | none => match moreOp T op ev st with
  | some (v, st', side) => .mem v st' side
  | none => .fail
def pureStep (T : Nat → TI) (an : Nat → Nat) (dst : Option Tmp) (op : Op) (ev : Operand → V) (st : St) : Step :=
 match pureOp T op ev with
 | some (v, side) => .pure v side
 | none => memStep T an dst op ev st
def anyS : Option (List (V × St)) → Step
 | some l => .any l
 | none => .fail
/-- The rest of a growing list: it grows on, what it was the rest of does not. -/
def sufE (T : Nat → TI) (k : TK) (x : V) (lo hi : Option V) (st : St) : Option (V × St × Prop) :=
 match x, lo, hi with
 | .lst sz (some o) l, some (.int _ a), none => match k, st[o]? with
  | .slice e, some (.tip e' n) => if e' = e ∧ (T e).sized = true ∧ sz = (T e).size then
    some (.lst sz (some st.length) (l.drop a.toNat), st.set o .gone ++ [.tip e (n - a.toNat)], n = l.length ∧ 0 ≤ a ∧ a ≤ l.length) else none
  | _, _ => none
 | _, _, _ => none
def sufS : Option (V × St × Prop) → Step
 | some (v, st', side) => .mem v st' side
 | none => .fail
def toPure : Step → Step
 | .mem v _ side => .pure v side
 | s => s
def stepOp (T : Nat → TI) (an : Nat → Nat) (dst : Option Tmp) (op : Op) (gc : Bool) (env : Env) (st : St) : Step :=
 match op with
 | .pick c a b => match pickV env gc c a b with
  | some (v, side) => .pure v side
  | none => .fail
 | .panic x => .panic (evG env gc x)
 | .slice t x lo hi none => bif an (dst.getD 0) == 3 then sufS (sufE T (T t).kind (evG env gc x) (lo.map (evG env gc)) (hi.map (evG env gc)) st) else pureStep T an dst op (evG env gc) st
 | .buildSlice _ _ _ => bif an (dst.getD 0) == 0 then toPure (pureStep T an dst op (evG env gc) st) else pureStep T an dst op (evG env gc) st
 | .next it s => bif s then .fail else anyS (nextV (evG env gc it) st)
 | .call c => match c.callee with
  | .value f => match evG env gc f with
   | .fn (.func k) cap => .call k (c.args.toList.map (evG env gc) ++ cap)
   | _ => .fail
  | .builtin _ => pureStep T an dst op (evG env gc) st
  | .invoke _ _ => .fail
 | op => pureStep T an dst op (evG env gc) st
def okDstB (N : Nat) : Option Tmp → Prop
 | none => True
 | some d => d < N
def afterCall (env : Env) (K : V → St → Prop) (Q : VExit → Env → St → Prop) : VEnd → St → Prop
 | .ret v, st' => K v st'
 | .panic v, st' => Q (.panic v) env st'
def runStep (P : Program) (T : Nat → TI) (r : Step) (gc guarded : Bool) (env : Env) (st : St) (K : V → St → Prop) (Q : VExit → Env → St → Prop) : Prop :=
 match r with
 | .pure v side => (gc = true → side) ∧ K v st
 | .mem v st' side => (gc = true → side) ∧ K v (bif gc then st' else st)
 | .call f args => match guarded with
  | false => gc = true ∧ VCalls P T f args st (afterCall env K Q)
  | true => (gc = true ∧ VCalls P T f args st (afterCall env K Q)) ∨ ∃ v st2, (gc = true → VCalls P T f args st fun r st' => r = .ret v ∧ st' = st2) ∧ (gc = false → st2 = st) ∧ Later (K v st2)
 | .panic v => gc = true ∧ (∀ t x, v = .iface t x → Q (.panic v) env st) ∧ ∃ t x, v = .iface t x
 | .any l => gc = true ∧ ∀ p ∈ l, K p.1 p.2
 | .fail => gc = false ∧ K .junk st
@[congr] theorem runStep_congr {P : Program} {T : Nat → TI} {r r' : Step} {gc gc' guarded : Bool} {env : Env} {st st' : St} {K : V → St → Prop} {Q : VExit → Env → St → Prop} (h1 : r = r') (h2 : gc = gc') (h3 : st = st') :
  runStep P T r gc guarded env st K Q = runStep P T r' gc' guarded env st' K Q := by rw [h1, h2, h3]
section
variable (P : Program) (T : Nat → TI) (env : Env) (st : St) (K : V → St → Prop) (Q : VExit → Env → St → Prop)
theorem runStep_panic (t : TypeId) (x : V) (gc b : Bool) : runStep P T (.panic (.iface t x)) gc b env st K Q = (gc = true ∧ Q (.panic (.iface t x)) env st) := by
 simp [runStep]
end
/-- The operations of a region, in the order of the text. -/
def vOps (P : Program) (T : Nat → TI) (an : Nat → Nat) (L : List Nat) (all : Array Oper) : List Oper → Env → St → (VExit → Env → St → Prop) → Prop
 | [], env, st, Q => Q .normal env st
 | o :: os, env, st, Q => bindO (guardV all env o.guard) fun gc => okDstB env.N o.dst ∧
   runStep P T (stepOp T an o.dst o.op gc env st) gc o.guard.isSome env st (fun v st' => vOps P T an L all os (env.put L o.dst gc v) st' Q) Q
@[congr] theorem vOps_congr {P : Program} {T : Nat → TI} {an : Nat → Nat} {L : List Nat} {all : Array Oper} {os : List Oper} {env env' : Env} {st st' : St} {Q : VExit → Env → St → Prop} (h1 : env = env') (h2 : st = st') :
  vOps P T an L all os env st Q = vOps P T an L all os env' st' Q := by rw [h1, h2]
def vSeq (k : Env → St → Prop) (Q : VExit → Env → St → Prop) : VExit → Env → St → Prop
 | .normal, env, st => k env st
 | e, env, st => Q e env st
def vBlock (id : Nat) (Q : VExit → Env → St → Prop) : VExit → Env → St → Prop
 | .exit id', env, st => if id' = id then Q .normal env st else Q (.exit id') env st
 | e, env, st => Q e env st
/-- Code but for its loops. -/
def vCode (P : Program) (T : Nat → TI) (an : Nat → Nat) (L : List Nat) (ds : List Deferred) : Code → Env → St → (VExit → Env → St → Prop) → Prop
 | .skip, env, st, Q => Q .normal env st
 | .region _ ops false, env, st, Q => vOps P T an L ops ops.toList { env with l := [] } st Q
 | .seq a b, env, st, Q => vCode P T an L ds a env st (vSeq (fun env st => vCode P T an L ds b env st Q) Q)
 | .cond c x y, env, st, Q => bindO (evO env c) fun r => match r with
  | (true, .bool t) => Split t (vCode P T an L ds x env st Q) (vCode P T an L ds y env st Q)
  | _ => False
 | .block id c, env, st, Q => vCode P T an L ds c env st (vBlock id Q)
 | .exit id, env, st, Q => Q (.exit id) env st
 | .ret, env, st, Q => Q .ret env st
 | c, env, st, Q => VC P T L ds c env st Q
@[congr] theorem vCode_congr {P : Program} {T : Nat → TI} {an : Nat → Nat} {L : List Nat} {ds : List Deferred} {c : Code} {env env' : Env} {st st' : St} {Q : VExit → Env → St → Prop} (h1 : env = env') (h2 : st = st') :
  vCode P T an L ds c env st Q = vCode P T an L ds c env' st' Q := by rw [h1, h2]
section
variable (P : Program) (T : Nat → TI) (an : Nat → Nat) (L : List Nat) (ds : List Deferred) (env : Env) (st : St) (Q : VExit → Env → St → Prop)
end
end Go.Proofs.YtpllcpbhjglpaaaGreatDoor.Gw
namespace Go.Proofs.YtpllcpbhjglpaaaGreatDoor.Gw
open Go
set_option linter.unusedSimpArgs false
section
variable {P : Program} {T : Nat → TI} {an : Nat → Nat} {L : List Nat} {ds : List Deferred}
theorem find_ins (m : List (Nat × Bool × V)) (t : Nat) (x : Bool × V) (u : Nat) : find (ins m t x) u = if t = u then some x else find m u := by
 induction m with
 | nil => simp [ins, find]
 | cons y r ih =>
  obtain ⟨k, y⟩ := y
  simp only [ins]
  split
  ·rename_i h; subst h
   simp only [find]
   split <;> rfl
  ·rename_i h
   simp only [find, ih]
   by_cases hk : k = u
   ·subst hk; simp [Ne.symm h]
   ·simp [hk]
theorem SimEnv.ext {g g' : G} {w w' : World} {env : Env} {a : Act} (h : SimEnv g w env a) (hx : Ext g w g' w') : SimEnv g' w' env a :=
 ⟨h.1, fun t c v hv => by
  have := h.2 t c v hv
  split at this
  ·rename_i hc; rw [if_pos hc]; exact this.ext hx
  ·rename_i hc; rw [if_neg hc]; exact this⟩
theorem SimEnv.put {g : G} {w : World} {env : Env} {a : Act} (h : SimEnv g w env a) (d : Option Tmp) (hd : okDstB env.N d) {c : Bool} {v : V} {val : Value} (hv : if c then SimV g w v val else val = undef) : SimEnv g w (env.put L d c v) (a.put d val) := by
 cases d with
 | none => exact h
 | some d =>
  have hd : d < env.N := hd
  have hsz : d < a.tmps.size := by rw [h.1]; exact hd
  have hget : ∀ t, (a.tmps.setIfInBounds d val).getD t undef = if d = t then val else a.tmps.getD t undef := by
   intro t
   simp only [Array.getD_eq_getD_getElem?, Array.getElem?_setIfInBounds]
   split
   ·rename_i e; subst e; simp [hsz]
   ·rfl
  have hlook : ∀ t, (env.put L (some d) c v).look t = if d = t then some (c, v) else env.look t := by
   intro t
   simp only [Env.put]
   split <;> simp only [Env.look, find, find_ins] <;> by_cases e : d = t <;> simp [e]
  have hN : (env.put L (some d) c v).N = env.N := by simp only [Env.put]; split <;> rfl
  refine ⟨by simp [Act.put, hN, h.1], fun t c' v' ht => ?_⟩
  rw [hlook] at ht
  simp only [Act.put, hget]
  split at ht
  ·rename_i e
   cases ht
   rw [if_pos e]; exact hv
  ·rename_i e
   rw [if_neg e]; exact h.2 t c' v' ht
theorem EnvOK.put {env : Env} (h : EnvOK L env) (d : Option Tmp) (c : Bool) (v : V) : EnvOK L (env.put L d c v) := by
 cases d with
 | none => exact h
 | some d =>
  intro t x ht
  simp only [Env.put] at ht ⊢
  split at ht
  ·rename_i hm
   rw [if_pos hm]
   simp only [find_ins] at ht
   simp only [Env.look, find]
   split at ht
   ·rename_i e; subst e
    cases ht
    exact ⟨hm, by simp⟩
   ·rename_i e
    have := h t x ht
    simp only [Env.look] at this
    simp only [find_ins, if_neg e]
    exact this
  ·rename_i hm
   rw [if_neg hm]
   have := h t x ht
   have e : d ≠ t := by intro e; subst e; exact hm this.1
   simp only [Env.look, find, if_neg e]
   exact this
theorem evO_sim {g : G} {w : World} {env : Env} {a : Act} (h : SimEnv g w env a) {x : Operand} {c : Bool} {v : V} (hx : evO env x = some (c, v)) : if c then SimV g w v (a.eval x) else a.eval x = undef := by
 cases x with
 | tmp t => exact h.2 t c v hx
 | const u => simp only [evO, Option.some.injEq, Prod.mk.injEq] at hx; obtain ⟨rfl, rfl⟩ := hx; exact ofConst_sim g w u
 | func f => simp only [evO, Option.some.injEq, Prod.mk.injEq] at hx; obtain ⟨rfl, rfl⟩ := hx; simp only [if_true, SimV]; exact ⟨[], rfl, by simp [SimVs]⟩
 | global n => simp [evO] at hx
theorem evG_sim {g : G} {w : World} {env : Env} {a : Act} (h : SimEnv g w env a) {gc : Bool} (hg : gc = true) (x : Operand) : SimV g w (evG env gc x) (a.eval x) := by
 subst hg
 unfold evG
 split
 ·rename_i c v hx
  have := evO_sim h hx
  cases c with
  | true => simpa using this
  | false => simp [SimV]
 ·simp [SimV]
theorem guardV_wanted {g : G} {w : World} {env : Env} {a : Act} (h : SimEnv g w env a) {all : Array Oper} {o : Oper} {gc : Bool} (hg : guardV all env o.guard = some gc) : Region.wanted o (yielded all a.tmps) = gc := by
 unfold guardV at hg
 unfold Region.wanted
 split at hg
 ·rename_i e; simp only [Option.some.injEq] at hg; subst hg; rw [e]
 ·rename_i j want e
  rw [e]
  split at hg
  case h_2 => simp at hg
  rename_i d hd
  split at hg
  case h_2 => simp at hg
  rename_i c b hl
  simp only [Option.some.injEq] at hg
  subst hg
  have hs := h.2 d c _ hl
  simp only [dstAt] at hd
  have hget : a.tmps[d]? = some (a.tmps.getD d undef) ∨ a.tmps[d]? = none ∧ a.tmps.getD d undef = undef := by
   rcases Nat.lt_or_ge d a.tmps.size with hlt | hge
   ·left; simp [Array.getD_eq_getD_getElem?, hlt]
   ·right; simp [Array.getD_eq_getD_getElem?, hge]
  simp only [yielded, hd, Option.bind_some]
  cases c with
  | true =>
   simp only [if_true, SimV] at hs
   rcases hget with hg | ⟨_, hg⟩
   ·rw [hg, hs]
    cases b <;> cases want <;> rfl
   ·rw [hs] at hg; simp [undef] at hg
  | false =>
   simp only [Bool.false_eq_true, if_false] at hs
   rcases hget with hg | ⟨hg, _⟩
   ·rw [hg, hs]; rfl
   ·rw [hg]; rfl
theorem s_pick {g : G} {w : World} {env : Env} {a : Act} (h : SimEnv g w env a) {gc : Bool} (hg : gc = true) {c x y : Operand} {v : V} {side : Prop} (hp : pickV env gc c x y = some (v, side)) (hs : side) {o : Oper} (ho : o.op = .pick c x y) :
  ∃ val, (execOp a.eval o).run P w = .ok (.value val) w ∧ SimV g w v val := by
 unfold pickV at hp
 split at hp
 case h_2 => simp at hp
 rename_i cc b ca p cb q hc hx hy
 simp only [Option.some.injEq, Prod.mk.injEq] at hp
 obtain ⟨rfl, rfl⟩ := hp
 obtain ⟨s1, s2, s3⟩ := hs hg
 have k1 := evO_sim h hc
 have k2 := evO_sim h hx
 have k3 := evO_sim h hy
 simp only [s1, if_true, SimV] at k1
 cases b with
 | true =>
  simp only [s2 rfl, if_true, SimV] at k2
  exact ⟨.bool p, by simp [execOp, ho, k1, asBool, k2], by simp [SimV]⟩
 | false =>
  simp only [s3 rfl, if_true, SimV] at k3
  exact ⟨.bool q, by simp [execOp, ho, k1, asBool, k3], by simp [SimV]⟩
theorem memOp_sound (hT : Tab P T) {g : G} {w : World} {st : St} (hst : SimSt T g st w) {ρ : Operand → Value} {ev : Operand → V} (hev : ∀ x, SimV g w (ev x) (ρ x)) {o : Oper} {v : V} {st' : St} {side : Prop}
  (h : memOp T an o.dst o.op ev st = some (v, st', side)) (hs : side) : Did P T ρ o g w v st' := by
 obtain ⟨dst, op, ty, pos, aft, gd⟩ := o
 simp only at h
 cases op with
 | alloc t => exact s_alloc hT hst h
 | box t x => exact s_box hst hev h
 | load t x => exact s_load hT hst hev h hs
 | store t x y => exact s_store hT hst hev h hs
 | buildSlice t n parts => exact s_buildSlice hT hst hev h
 | call c =>
  simp only [memOp] at h
  split at h
  case h_2 => simp at h
  rename_i s x t xt hc ha ht
  have hts : c.argTypes = #[t, xt] := by cases hh : c.argTypes; rw [hh] at ht; simpa using ht
  have key : ∀ {e : TypeId} {d : TypeDesc}, P.underlying t = some (.slice e) → P.underlying xt = some d → (d = .string ∨ ∃ e', d = .slice e') →
    (if (T e).sized ∧ (T e).bytes ≠ 0 then match rowsOf (T e).size x with | some m => appendV (an (dst.getD 0)) e (T e) s m st | none => none else none) = some (v, st', side) →
    Did P T ρ ⟨dst, .call c, ty, pos, aft, gd⟩ g w v st' := by
   intro e d hu hx hd h2
   split at h2
   case isFalse => simp at h2
   rename_i hsz
   split at h2
   case h_2 => simp at h2
   rename_i m hm
   cases hal : c.args.toList with
   | nil => rw [hal] at ha; simp at ha
   | cons a0 r =>
    cases r with
    | nil => rw [hal] at ha; simp at ha
    | cons a1 r =>
     cases r with
     | cons _ _ => rw [hal] at ha; simp at ha
     | nil =>
      rw [hal] at ha
      simp only [List.map_cons, List.map_nil, List.cons.injEq, and_true] at ha
      obtain ⟨rfl, rfl⟩ := ha
      have has : c.args = #[a0, a1] := by cases hh : c.args; rw [hh] at hal; simpa using hal
      obtain ⟨val, w', g', r1, r2, r3, r4⟩ := s_append hT hst hsz.1 hsz.2 hu hx hd (hev a0) (hev a1) hm h2 hs (ty := ty)
      refine ⟨.value val, val, w', g', ?_, .inl rfl, r2, r3, r4⟩
      simp [execOp, resolve, hc, has, hts, invoke, builtin, r1]
  split at h
  ·rename_i e _ h1 h2
   exact key (hT.slice h1) (hT.slice h2) (.inr ⟨_, rfl⟩) h
  ·rename_i e h1 h2
   exact key (hT.slice h1) (hT.str h2) (.inl rfl) h
  ·simp at h
 | _ => simp [memOp] at h
theorem okQ_step {all : Array Oper} {g0 g : G} {w0 w : World} (hx : Ext g0 w0 g w) {Q : VExit → Env → St → Prop} {o : Oper} {os : List Oper} {env : Env} {st : St} {a : Act}
  (hst : SimSt T g st w) (henv : SimEnv g w env a) (hok : EnvOK L env) (hds : a.defers = ds) {gc : Bool} (hw : Region.wanted o (yielded all a.tmps) = gc) (hd : okDstB env.N o.dst)
  (hrest : ∀ (env' : Env) (st' : St) (g' : G) (w' : World) (a' : Act), Ext g0 w0 g' w' → SimSt T g' st' w' → SimEnv g' w' env' a' → EnvOK L env' → a'.defers = ds → vOps P T an L all os env' st' Q → wpList P all (Lift T L ds g0 w0 Q) os a' w')
  {v : V} {st' : St} (hgc : gc = true → Did P T a.eval o g w v st') (hst' : gc = false → st' = st)
  (hk : vOps P T an L all os (env.put L o.dst gc v) st' Q) : wpList P all (Lift T L ds g0 w0 Q) (o :: os) a w := by
 simp only [wpList, hw]
 cases gc with
 | true =>
  simp only [if_true]
  obtain ⟨r, val, w', g', h1, h2, h3, h4, h5⟩ := hgc rfl
  left
  have hp := (henv.ext h5).put (L := L) o.dst hd (c := true) (v := v) (val := val) (by simpa using h3)
  have hds' : (a.put o.dst val).defers = ds := by cases hh : o.dst <;> simpa [Act.put] using hds
  have := hrest _ st' g' w' _ (hx.trans h5) h4 hp (hok.put _ _ _) hds' hk
  unfold Oper.wp Oper.upon
  rcases h2 with rfl | ⟨rfl, rfl⟩ <;> rw [h1] <;> exact this
 | false =>
  simp only [Bool.false_eq_true, if_false]
  have := hst' rfl
  subst this
  have hp := henv.put (L := L) o.dst hd (c := false) (v := v) (val := undef) (by simp)
  have hds' : (a.put o.dst undef).defers = ds := by cases hh : o.dst <;> simpa [Act.put] using hds
  exact hrest _ st' g w _ hx hst hp (hok.put _ _ _) hds' hk
theorem Did.of_pure {o : Oper} {ρ : Operand → Value} {g : G} {w : World} {st : St} {v : V} (hst : SimSt T g st w) (h : ∃ val, (execOp ρ o).run P w = .ok (.value val) w ∧ SimV g w v val) : Did P T ρ o g w v st := by
 obtain ⟨val, h1, h2⟩ := h
 exact ⟨_, val, w, g, h1, .inl rfl, h2, hst, Ext.refl _ _⟩
theorem s_suf (hT : Tab P T) {o : Oper} {ρ : Operand → Value} {g : G} {w : World} {st st' : St} {v : V} {side : Prop} {ev : Operand → V} (hst : SimSt T g st w) (hev : ∀ x, SimV g w (ev x) (ρ x)) {t : TypeId} {x : Operand} {lo hi : Option Operand} (hop : o.op = .slice t x lo hi none)
  (h : sufE T (T t).kind (ev x) (lo.map ev) (hi.map ev) st = some (v, st', side)) (hs : side) : Did P T ρ o g w v st' := by
 unfold sufE at h
 split at h
 case h_2 => cases h
 rename_i sz k l ki a hx hlo hhi
 split at h
 case h_2 => cases h
 rename_i e e' n hkd hk
 split at h
 case isFalse => cases h
 rename_i hc
 obtain ⟨rfl, hsd, rfl⟩ := hc
 simp only [Option.some.injEq, Prod.mk.injEq] at h
 obtain ⟨rfl, rfl, rfl⟩ := h
 obtain ⟨rfl, ha0, hal⟩ := hs
 have hxx := hev x
 rw [hx] at hxx
 have hx0 := hxx
 cases lo with
 | none => cases hlo
 | some lo =>
 cases hi with
 | some hi => cases hhi
 | none =>
 simp only [Option.map_some, Option.some.injEq] at hlo
 have hlv := hev lo
 rw [hlo] at hlv
 simp only [SimV] at hlv
 have hu := hT.slice hkd
 have hu' : (underlying t).run P w = .ok (.slice e') w := by simp [underlying, hu]
 have hso : (Go.sizeOf e').run P w = .ok (T e').size w := hT.sizeOf (sized_kind (by simp [hsd])).1 w
 obtain ⟨fo, xs, t1, t2, t3⟩ := hst.ent k _ hk
 simp only [SimV] at hxx
 obtain ⟨ad, cap, hv, c1, c2, c3, c0, c4, c5⟩ := hxx
 obtain ⟨d1, d2, d3⟩ := c4 k rfl
 have htv := d3 t1
 obtain ⟨an, rfl⟩ : ∃ an : Nat, a = (an : Int) := ⟨a.toNat, by omega⟩
 simp only [Int.toNat_natCast]
 have han : an ≤ l.length := by omega
 have hsa : (Instr.sliceAt t (ρ x) (some (.int ki (an : Int))) none none).run P w = .ok (.slice (if cap = an then ad else ad.map (·.add (an * (T e').size))) (l.length - an) (cap - an)) w := by
  have e1 := run_sliceBound_ok (P := P) (w := w) ki (an : Int) l.length .sliceB (by omega)
  rw [hv]
  simp [Instr.sliceAt, Instr.slice, Instr.sliceBounds, hu', hso, e1]
 have hrun : (execOp ρ o).run P w = .ok (.value (.slice (if cap = an then ad else ad.map (·.add (an * (T e').size))) (l.length - an) (cap - an))) w := by
  simp [execOp, hop, hlv, hsa]
 obtain ⟨val, hr2, hsv⟩ := s_slice hT (t := t) (x := .lst (T e').size (some k) l) (lo := some (.int ki (an : Int))) (hi := none) (rlo := some (.int ki (an : Int))) (rhi := none) (v := .lst (T e').size none (l.drop an)) (side := (0 : Int) ≤ an ∧ (an : Int) ≤ l.length) hx0
  (fun y hy => by cases hy; exact ⟨_, rfl, by simp [SimV]⟩) (fun h => by cases h) (fun y hy => by cases hy) (fun _ => rfl) (by simp [sliceV, hkd, hsd]) ⟨by omega, by omega⟩
 rw [hsa] at hr2
 simp only [Result.ok.injEq, and_true] at hr2
 have hn : g.n = st.length := hst.n
 have hkl := (List.getElem?_eq_some_iff.1 hk).1
 generalize hval : Value.slice (if cap = an then ad else ad.map (·.add (an * (T e').size))) (l.length - an) (cap - an) = V0 at *
 subst hr2
 have s1 : SimSt T g (st.set k .gone) w := hst.upd hk (Ext.refl g w) rfl (fun _ => rfl) (fun _ _ => ⟨rfl, rfl⟩) (fun c hc hne ho => ⟨rfl, rfl⟩) trivial (fun c hc => by simp [blkOf] at hc)
 have hx2 := Ext.push g w 0 V0 (l.length - an)
 have fin : ∀ (hE : SimE T (g.push 0 V0 (l.length - an)) w g.n (.tip e' (l.length - an))) (hB : ∀ b, V0.ownBlock = some b → (g.tv k).ownBlock = some b), Did P T ρ o g w (.lst (T e').size (some st.length) (l.drop an)) (st.set k .gone ++ [.tip e' (l.length - an)]) := by
  intro hE hB
  refine ⟨.value V0, V0, w, _, hrun, .inl rfl, ?_, s1.push (b := 0) (v := V0) (k := l.length - an) hE (fun c hc i ei hi hb => ?_), hx2⟩
  ·have := SimV.ext hx2 _ _ hsv
   simp only [SimV] at this ⊢
   obtain ⟨a', cap', q1, q2, q3, q4, q5, _, q7⟩ := this
   refine ⟨a', cap', q1, q2, q3, q4, q5, fun j hj => ?_, q7⟩
   cases hj
   exact ⟨by simp [G.push, hn], by simp [G.push, hn], fun _ => by simp [G.push, hn]⟩
  ·simp only [blkOf, G.push, if_true] at hc
   have hc2 := hB c hc
   by_cases hik : i = k
   ·subst hik
    rw [List.getElem?_set_self hkl] at hi
    cases hi
    simp [blkOf] at hb
   ·rw [List.getElem?_set_ne (Ne.symm hik)] at hi
    exact hik (hst.one i k ei _ c hi hk hb (by simpa [blkOf] using hc2))
 rw [htv] at t3
 rcases t3 with ⟨h0, h1⟩ | ⟨h0, ho1, b, off, cur, s, h1, h2, h3, h4⟩ | ⟨b, cap', cur, h1, h2, h3, h4, h5, h6, h7⟩
 ·rw [hv] at h1
  simp only [Value.slice.injEq] at h1
  obtain ⟨rfl, -, rfl⟩ := h1
  have h0' : an = 0 := by omega
  subst h0'
  have hV : V0 = .slice none 0 0 := by rw [← hval]; simp [h0]
  refine fin ⟨0, [], by simp [G.push], by simp [h0], .inl ⟨by omega, by simp [G.push, hV]⟩⟩ (fun b hb => by rw [hV] at hb; simp [Value.ownBlock] at hb)
 ·rw [hv] at h1
  simp only [Value.slice.injEq] at h1
  obtain ⟨rfl, -, rfl⟩ := h1
  have h0' : an = 0 := by omega
  subst h0'
  have hV : V0 = .slice (some ⟨b, off, none⟩) 0 0 := by rw [← hval]; simp [h0]
  refine fin ⟨1, [], by simp [G.push], by simp [h0], .inr (.inl ⟨by omega, rfl, b, off, cur, s, by simp [G.push, hV], by simp [G.push, h2], h3, h4⟩)⟩ (fun b' hb => by rw [hV] at hb; rw [htv, hv]; exact hb)
 ·rw [hv] at h1
  simp only [Value.slice.injEq] at h1
  obtain ⟨rfl, -, rfl⟩ := h1
  by_cases hca : cap = an
  ·have hln : l.length = an := by omega
   have hV : V0 = .slice (some ⟨b, fo, none⟩) 0 0 := by rw [← hval, if_pos hca]; congr 1 <;> omega
   refine fin ⟨1, [], by simp [G.push], by simp [hln], .inr (.inl ⟨by omega, rfl, b, fo, cur, fo + l.length * (T e').size, by simp [G.push, hV], by simp [G.push, h2], h3, by omega⟩)⟩ (fun b' hb => by rw [hV] at hb; rw [htv, hv]; exact hb)
  ·have hV : V0 = .slice (some ⟨b, fo + an * (T e').size, none⟩) (l.length - an) (cap - an) := by
    rw [← hval, if_neg hca]
    simp only [Option.map_some]
    rw [Addr.add_eq rfl]
   have m1 : an * (T e').size + (l.length - an) * (T e').size = l.length * (T e').size := by rw [← Nat.add_mul]; congr 1; omega
   have m2 : an * (T e').size + (cap - an) * (T e').size = cap * (T e').size := by rw [← Nat.add_mul]; congr 1; omega
   refine fin ⟨fo + an * (T e').size, xs.drop (an * (T e').size), by simp [G.push], by rw [List.length_drop, t2]; omega, .inr (.inr ⟨b, cap - an, cur, by simp [G.push, hV], by simp only [G.push]; rw [h2]; congr 1; omega, h3, by omega, by omega, by omega, ?_⟩)⟩ (fun b' hb => by rw [hV] at hb; rw [htv, hv]; exact hb)
   rw [← h7, ← List.drop_drop, List.drop_take]
   congr 1
   omega
theorem lit_still {t : TypeId} {n : Nat} {ps : Array (Nat × Operand)} {dst : Option Tmp} {ev : Operand → V} (h3 : (an (dst.getD 0) == 0) = true) (st : St) :
  pureStep T an dst (.buildSlice t n ps) ev st = .fail ∨ ∃ v, ∀ s, memOp T an dst (.buildSlice t n ps) ev s = some (v, s, True) ∧ pureStep T an dst (.buildSlice t n ps) ev s = .mem v s True := by
 have h0 : an (dst.getD 0) = 0 := by simpa using h3
 have key : ∀ s, pureStep T an dst (.buildSlice t n ps) ev s = memStep T an dst (.buildSlice t n ps) ev s := fun s => rfl
 have key2 : ∀ s, memStep T an dst (.buildSlice t n ps) ev s = match memOp T an dst (.buildSlice t n ps) ev s with | some (v, st', side) => .mem v st' side | none => .fail := fun s => rfl
 simp only [key, key2]
 simp only [memOp, h0]
 cases (T t).kind with
 | slice e =>
  simp only
  by_cases hc : (T e).sized = true ∧ n * (T e).size ≤ 16777216
  ·simp only [if_pos hc]
   cases litRows (T e) n (ps.toList.reverse.map fun p => (p.1, ev p.2)) with
   | none => first | exact .inl rfl | exact .inl trivial
   | some rows => exact .inr ⟨_, fun s => ⟨rfl, by first | rfl | trivial⟩⟩
  ·simp only [if_neg hc]
   first | exact .inl rfl | exact .inl trivial
 | _ => first | exact .inl rfl | exact .inl trivial
theorem lit_ncall {t : TypeId} {n : Nat} {ps : Array (Nat × Operand)} {dst : Option Tmp} {gc : Bool} {env : Env} {st : St} (f : FuncId) (args : List V) : stepOp T an dst (.buildSlice t n ps) gc env st ≠ .call f args := by
 intro h
 simp only [stepOp] at h
 cases h3 : an (dst.getD 0) == 0 with
 | true =>
  rw [h3] at h
  simp only [cond_true] at h
  rcases lit_still (T := T) (t := t) (n := n) (ps := ps) (ev := evG env gc) h3 st with hs | ⟨v, hs⟩
  ·rw [hs] at h; cases h
  ·rw [(hs st).2] at h; cases h
 | false =>
  rw [h3] at h
  simp only [cond_false] at h
  unfold pureStep memStep at h
  split at h
  ·cases h
  ·split at h
   ·cases h
   ·split at h <;> cases h
theorem vOps_sound (hT : Tab P T) {all : Array Oper} {Q : VExit → Env → St → Prop} {g0 : G} {w0 : World} : ∀ (os : List Oper) (env : Env) (st : St) (g : G) (w : World) (a : Act),
  Ext g0 w0 g w → SimSt T g st w → SimEnv g w env a → EnvOK L env → a.defers = ds → vOps P T an L all os env st Q → wpList P all (Lift T L ds g0 w0 Q) os a w
 | [], env, st, g, w, a, hx, hst, henv, hok, hds, h => ⟨.normal, env, st, g, h, rfl, henv, hok, hds, hst, hx⟩
 | o :: os, env, st, g, w, a, hx, hst, henv, hok, hds, h => by
  have hrest : ∀ (env' : Env) (st' : St) (g' : G) (w' : World) (a' : Act), Ext g0 w0 g' w' → SimSt T g' st' w' → SimEnv g' w' env' a' → EnvOK L env' → a'.defers = ds → vOps P T an L all os env' st' Q → wpList P all (Lift T L ds g0 w0 Q) os a' w' :=
   fun env' st' g' w' a' h1 h2 h3 h0 h4 h5 => vOps_sound hT os env' st' g' w' a' h1 h2 h3 h0 h4 h5
  simp only [vOps] at h
  unfold bindO at h
  split at h
  case h_2 => exact h.elim
  rename_i gc hgc
  obtain ⟨hd, h⟩ := h
  have hw := guardV_wanted henv hgc
  have hev : gc = true → ∀ x, SimV g w (evG env gc x) (a.eval x) := fun hg x => evG_sim henv hg x
  have failCase : gc = false ∧ vOps P T an L all os (env.put L o.dst gc .junk) st Q → wpList P all (Lift T L ds g0 w0 Q) (o :: os) a w := fun h =>
   okQ_step hx hst henv hok hds hw hd hrest (v := .junk) (st' := st) (fun hg => by rw [h.1] at hg; cases hg) (fun _ => rfl) h.2
  have pureCase : ∀ {r : Step}, r = pureStep T an o.dst o.op (evG env gc) st → runStep P T r gc o.guard.isSome env st (fun v st' => vOps P T an L all os (env.put L o.dst gc v) st' Q) Q → wpList P all (Lift T L ds g0 w0 Q) (o :: os) a w := by
   intro r hr h
   subst hr
   unfold pureStep at h
   split at h
   ·rename_i v side hp
    obtain ⟨h1, h2⟩ := h
    exact okQ_step hx hst henv hok hds hw hd hrest (v := v) (st' := st) (fun hg => Did.of_pure hst (by
     obtain ⟨dst, op, ty, pos, aft, gd⟩ := o
     exact pureOp_sound hT (hev hg) hp (h1 hg))) (fun _ => rfl) h2
   ·unfold memStep at h
    split at h
    ·rename_i v st' side hp
     obtain ⟨h1, h2⟩ := h
     exact okQ_step hx hst henv hok hds hw hd hrest (v := v) (st' := bif gc then st' else st) (fun hg => by rw [hg, cond_true]; exact memOp_sound hT hst (hev hg) hp (h1 hg)) (fun hf => by rw [hf]; rfl) h2
    ·split at h
     ·rename_i v st' side hp
      obtain ⟨h1, h2⟩ := h
      exact okQ_step hx hst henv hok hds hw hd hrest (v := v) (st' := bif gc then st' else st) (fun hg => by rw [hg, cond_true]; exact moreOp_sound hT hst (hev hg) hp (h1 hg)) (fun hf => by rw [hf]; rfl) h2
     ·exact failCase h
  cases hop : o.op with
  | pick c x y =>
   simp only [hop, stepOp] at h
   split at h
   ·rename_i v side hp
    obtain ⟨h1, h2⟩ := h
    exact okQ_step hx hst henv hok hds hw hd hrest (v := v) (st' := st) (fun hg => Did.of_pure hst (s_pick henv hg hp (h1 hg) hop)) (fun _ => rfl) h2
   ·exact failCase h
  | panic x =>
   simp only [hop, stepOp] at h
   obtain ⟨hg, h1, t, y, h2⟩ := h
   subst hg
   have hv := hev rfl x
   simp only [wpList, hw, if_true]
   left
   rw [h2] at hv
   have hv' := hv
   simp only [SimV] at hv
   obtain ⟨z, hz, _⟩ := hv
   unfold Oper.wp Oper.upon
   have hrun : (execOp a.eval o).run P w = .halt (.panic (.iface t z)) w := by simp [execOp, hop, Instr.panic, hz]
   rw [hrun]
   refine ⟨.panic (.iface t y), env, st, g, ?_, ⟨_, rfl, by rw [← hz]; exact hv'⟩, henv, hok, hds, hst, hx⟩
   have := h1 t y h2
   rw [h2] at this; exact this
  | next it s =>
   simp only [hop, stepOp] at h
   cases s with
   | true => exact failCase h
   | false =>
    simp only [cond_false] at h
    cases hn : nextV (evG env gc it) st with
    | none => rw [hn] at h; exact failCase h
    | some l =>
     rw [hn] at h
     obtain ⟨hg, h⟩ := h
     subst hg
     obtain ⟨p, hp, val, w', g', h1, h2, h3, h4⟩ := s_next (P := P) hst (hev rfl it) hn (ty := o.type)
     exact okQ_step hx hst henv hok hds hw hd hrest (v := p.1) (st' := p.2) (fun _ => ⟨.value val, val, w', g', by simp [execOp, hop, h1], .inl rfl, h2, h3, h4⟩) (fun hf => by cases hf) (h p hp)
  | call c =>
   simp only [hop, stepOp] at h
   split at h
   ·rename_i f hcal
    split at h
    case h_2 => exact failCase h
    rename_i k cap hf
    have henter : gc = true → ∃ vals : List Value, (execOp a.eval o).run P w = (callFunc k vals.toArray).run P w ∧ SimVs g w (c.args.toList.map (evG env gc) ++ cap) vals := by
     intro hg
     have hfv := hev hg f
     rw [hf] at hfv
     simp only [SimV] at hfv
     obtain ⟨vs, hfe, hvs⟩ := hfv
     refine ⟨c.args.toList.map a.eval ++ vs, ?_, (evs_sim (hev hg) _).append hvs⟩
     have e : c.args.map a.eval ++ vs.toArray = (c.args.toList.map a.eval ++ vs).toArray := by apply Array.ext'; simp
     simp [execOp, hop, resolve, hcal, hfe, Deferred.ofValue, invoke, e]
    have hstep : ∀ {args : List V} {K : V → St → Prop} (hg : gc = true), VCalls P T k args st (afterCall env K Q) → (∀ v st', K v st' → vOps P T an L all os (env.put L o.dst gc v) st' Q) → (∀ vals : List Value, (execOp a.eval o).run P w = (callFunc k vals.toArray).run P w → SimVs g w args vals → o.wp P a w (wpList P all (Lift T L ds g0 w0 Q) os) (Lift T L ds g0 w0 Q)) := by
     intro args K hg hcall hK vals hrun hsim
     obtain ⟨⟨fn, e1, e2, e3⟩, hcall⟩ := hcall
     have hcf : (callFunc k vals.toArray).run P w = .ok (.enter k vals.toArray) w := by
      have e2' : ¬ fn.body = none := by intro hb; rw [hb] at e2; simp at e2
      have e3' : ¬ fn.name = "runtime.NumGoroutine" := by simpa using e3
      simp [callFunc, e1, e2', e3']
     unfold Oper.wp Oper.upon
     rw [hrun, hcf]
     refine (hcall g w vals hst hsim).mono fun e w' ⟨r, st', g', k1, k2, k3, k4⟩ => ?_
     cases r with
     | ret v =>
      obtain ⟨val, rfl, hv⟩ := k2
      have hp := (henv.ext k4).put (L := L) o.dst hd (c := true) (v := v) (val := val) (by simpa using hv)
      have hds' : (a.put o.dst val).defers = ds := by cases hh : o.dst <;> simpa [Act.put] using hds
      have := hK v st' k1
      rw [hg] at this
      exact hrest _ st' g' w' _ (hx.trans k4) k3 hp (hok.put _ _ _) hds' this
     | panic v =>
      obtain ⟨val, rfl, hv⟩ := k2
      exact ⟨.panic v, env, st', g', k1, ⟨val, rfl, hv⟩, henv.ext k4, hok, hds, k3, hx.trans k4⟩
    cases hgd : o.guard.isSome with
    | false =>
     rw [hgd] at h
     simp only [runStep] at h
     obtain ⟨hg, h⟩ := h
     obtain ⟨vals, q1, q2⟩ := henter hg
     simp only [wpList, hw, hg, if_true]
     exact .inl (hstep hg h (fun v st' hk => hk) vals q1 q2)
    | true =>
     rw [hgd] at h
     simp only [runStep] at h
     rcases h with ⟨hg, h⟩ | h
     ·obtain ⟨vals, q1, q2⟩ := henter hg
      simp only [wpList, hw, hg, if_true]
      exact .inl (hstep hg h (fun v st' hk => hk) vals q1 q2)
     obtain ⟨v, st2, h1, h3, h2⟩ := h
     cases hg : gc with
     | true =>
      obtain ⟨vals, q1, q2⟩ := henter hg
      simp only [wpList, hw, hg, if_true]
      refine .inl (hstep (K := fun v' st' => v' = v ∧ st' = st2) hg ((h1 hg).mono fun r st' ⟨e1, e2⟩ => by subst e1; exact ⟨rfl, e2⟩) (fun v' st' ⟨e1, e2⟩ => by subst e1; subst e2; exact h2) vals q1 q2)
     | false =>
      exact okQ_step hx hst henv hok hds hw hd hrest (v := v) (st' := st2) (fun hg' => by rw [hg] at hg'; cases hg') (fun _ => h3 hg) h2
   ·simp only [← hop] at h
    exact pureCase rfl h
   ·exact failCase h
  | slice t x lo hi mx =>
   cases mx with
   | some m => simp only [hop, stepOp] at h; exact pureCase (by rw [hop]) h
   | none =>
    simp only [hop, stepOp] at h
    cases h3 : an (o.dst.getD 0) == 3 with
    | false => rw [h3] at h; simp only [cond_false] at h; exact pureCase (by rw [hop]) h
    | true =>
     rw [h3] at h
     simp only [cond_true] at h
     cases hs : sufE T (T t).kind (evG env gc x) (lo.map (evG env gc)) (hi.map (evG env gc)) st with
     | none => rw [hs] at h; exact failCase h
     | some r =>
      obtain ⟨v, st', side⟩ := r
      rw [hs] at h
      obtain ⟨h1, h2⟩ := h
      exact okQ_step hx hst henv hok hds hw hd hrest (v := v) (st' := bif gc then st' else st) (fun hg => by rw [hg, cond_true]; exact s_suf hT hst (hev hg) hop hs (h1 hg)) (fun hf => by rw [hf]; rfl) h2
  | buildSlice t n ps =>
   simp only [hop, stepOp] at h
   cases h3 : an (o.dst.getD 0) == 0 with
   | false => rw [h3] at h; simp only [cond_false] at h; exact pureCase (by rw [hop]) h
   | true =>
    rw [h3] at h
    simp only [cond_true] at h
    rcases lit_still (T := T) (t := t) (n := n) (ps := ps) (ev := evG env gc) h3 st with hs | ⟨v, hs⟩
    ·rw [hs] at h; exact failCase h
    ·rw [(hs st).2] at h
     obtain ⟨h1, h2⟩ := h
     exact okQ_step hx hst henv hok hds hw hd hrest (v := v) (st' := st) (fun hg => memOp_sound hT hst (hev hg) (by rw [hop]; exact (hs st).1) trivial) (fun _ => rfl) h2
  | _ => all_goals (simp only [hop, stepOp] at h; exact pureCase (by rw [hop]) h)
end
end Go.Proofs.YtpllcpbhjglpaaaGreatDoor.Gw
namespace Go.Proofs.YtpllcpbhjglpaaaGreatDoor.Gw
open Go
set_option linter.unusedSimpArgs false
mutual
/-- Of objects below n alone is spoken. -/
def V.lt (n : Nat) : V → Prop
 | .lst _ t l => (∀ e, t = some e → e < n) ∧ ltRows n l
 | .arr e _ => e < n
 | .eptr e _ _ _ _ => e < n
 | .ptr o _ => o < n
 | .addr o _ _ => o < n
 | .map o => o < n
 | .agg l => ltL n l
 | .tup l => ltL n l
 | .ref l => ltL n l
 | .fn _ c => ltL n c
 | .iface _ v => V.lt n v
 | .int _ _ | .bool _ | .str _ | .nils | .nilp | .nilf | .nilm | .nili | .junk => True
def ltL (n : Nat) : List V → Prop
 | [] => True
 | x :: xs => V.lt n x ∧ ltL n xs
def ltRows (n : Nat) : List (List V) → Prop
 | [] => True
 | x :: xs => ltL n x ∧ ltRows n xs
end
mutual
/-- What is held is no longer than what an int holds. -/
def V.fit : V → Prop
 | .str s => s.length ≤ 9223372036854775807
 | .lst _ _ l => l.length ≤ 9223372036854775807 ∧ fitR l
 | .agg l => fitL l
 | .tup l => fitL l
 | .ref l => fitL l
 | .fn _ c => fitL c
 | .iface _ v => V.fit v
 | .arr _ _ | .addr _ _ _ | .eptr _ _ _ _ _ | .ptr _ _ | .map _ | .int _ _ | .bool _ | .nils | .nilp | .nilf | .nilm | .nili | .junk => True
def fitL : List V → Prop
 | [] => True
 | x :: xs => V.fit x ∧ fitL xs
def fitR : List (List V) → Prop
 | [] => True
 | x :: xs => fitL x ∧ fitR xs
end
mutual
theorem SimV.fit {g : G} {w : World} : ∀ {x : V} {v : Value}, SimV g w x v → x.fit
 | .lst sz t l, v, h => by
  simp only [SimV] at h
  obtain ⟨a, cap, _, h1, h2, _, _, _, h3⟩ := h
  simp only [V.fit]
  have : maxLen = 9223372036854775807 := rfl
  exact ⟨by omega, SimRows.fit h3⟩
 | .str s, v, h => by simp only [SimV] at h; simp only [V.fit]; exact h.2
 | .ref l, v, h => by simp only [SimV] at h; obtain ⟨a, _, _, h⟩ := h; simp only [V.fit]; exact SimAt.fit h
 | .agg l, v, h => by simp only [SimV] at h; obtain ⟨_, _, h, _⟩ := h; simp only [V.fit]; exact SimVs.fit h
 | .tup l, v, h => by simp only [SimV] at h; obtain ⟨_, _, h⟩ := h; simp only [V.fit]; exact SimVs.fit h
 | .fn f c, v, h => by simp only [SimV] at h; obtain ⟨_, _, h⟩ := h; simp only [V.fit]; exact SimVs.fit h
 | .iface t x, v, h => by simp only [SimV] at h; obtain ⟨_, _, h⟩ := h; simp only [V.fit]; exact SimV.fit h
 | .arr _ _, _, _ | .addr _ _ _, _, _ | .eptr _ _ _ _ _, _, _ | .ptr _ _, _, _ | .map _, _, _ | .int _ _, _, _ | .bool _, _, _ | .nils, _, _ | .nilp, _, _ | .nilf, _, _ | .nilm, _, _ | .nili, _, _ | .junk, _, _ => by simp [V.fit]
theorem SimVs.fit {g : G} {w : World} : ∀ {x : List V} {v : List Value}, SimVs g w x v → fitL x
 | [], _, _ => trivial
 | x :: xs, _, h => by
  simp only [SimVs] at h
  obtain ⟨v, r, _, h1, h2⟩ := h
  exact ⟨SimV.fit h1, SimVs.fit h2⟩
theorem SimAt.fit {g : G} {w : World} : ∀ {a : Addr} {x : List V}, SimAt g w a x → fitL x
 | _, [], _ => trivial
 | _, x :: xs, h => by
  simp only [SimAt] at h
  obtain ⟨⟨v, _, _, _, h1⟩, h2⟩ := h
  exact ⟨SimV.fit h1, SimAt.fit h2⟩
theorem SimRows.fit {g : G} {w : World} : ∀ {a : Addr} {sz : Nat} {x : List (List V)}, SimRows g w a sz x → fitR x
 | _, _, [], _ => trivial
 | _, _, x :: xs, h => by
  simp only [SimRows] at h
  exact ⟨SimAt.fit h.2.1, SimRows.fit h.2.2⟩
end
def Ent.lt (n : Nat) : Ent → Prop
 | .box c => ltL n c
 | .arr _ _ c => ltRows n c
 | .map _ es => ∀ e ∈ es, e.2.1.lt n ∧ e.2.2.lt n
 | .iter m _ _ => m < n
 | .tip _ _ | .gone => True
def St.ok (st : St) : Prop := ∀ e ∈ st, e.lt st.length
theorem ltL_append {n : Nat} : ∀ {x y : List V}, ltL n x → ltL n y → ltL n (x ++ y)
 | [], _, _, k => k
 | x :: xs, y, h, k => by simp only [List.cons_append, ltL] at h ⊢; exact ⟨h.1, ltL_append h.2 k⟩
theorem ltRows_map {α : Type} {n : Nat} {f : α → List V} : ∀ {l : List α}, (∀ x ∈ l, ltL n (f x)) → ltRows n (l.map f)
 | [], _ => trivial
 | x :: xs, h => ⟨h x (by simp), ltRows_map fun y hy => h y (by simp [hy])⟩
mutual
theorem SimV.lt {g : G} {w : World} : ∀ {x : V} {v : Value}, SimV g w x v → x.lt g.n
 | .lst sz t l, v, h => by
  simp only [SimV] at h
  obtain ⟨a, cap, _, _, _, _, _, h1, h2⟩ := h
  simp only [V.lt]
  exact ⟨fun e he => (h1 e he).1, SimRows.lt h2⟩
 | .arr e n, v, h => by simp only [SimV] at h; simp only [V.lt]; exact h.1
 | .eptr e n sz k off, v, h => by simp only [SimV] at h; simp only [V.lt]; exact h.1
 | .ref l, v, h => by simp only [SimV] at h; obtain ⟨a, _, _, h⟩ := h; simp only [V.lt]; exact SimAt.lt h
 | .ptr o off, v, h => by simp only [SimV] at h; simp only [V.lt]; exact h.1
 | .addr o _ _, v, h => by simp only [SimV] at h; simp only [V.lt]; exact h.1
 | .agg l, v, h => by simp only [SimV] at h; obtain ⟨_, _, h, _⟩ := h; simp only [V.lt]; exact SimVs.lt h
 | .tup l, v, h => by simp only [SimV] at h; obtain ⟨_, _, h⟩ := h; simp only [V.lt]; exact SimVs.lt h
 | .fn f c, v, h => by simp only [SimV] at h; obtain ⟨_, _, h⟩ := h; simp only [V.lt]; exact SimVs.lt h
 | .map o, v, h => by simp only [SimV] at h; simp only [V.lt]; exact h.1
 | .iface t x, v, h => by simp only [SimV] at h; obtain ⟨_, _, h⟩ := h; simp only [V.lt]; exact SimV.lt h
 | .int _ _, _, _ | .bool _, _, _ | .str _, _, _ | .nils, _, _ | .nilp, _, _ | .nilf, _, _ | .nilm, _, _ | .nili, _, _ | .junk, _, _ => by simp [V.lt]
theorem SimVs.lt {g : G} {w : World} : ∀ {x : List V} {v : List Value}, SimVs g w x v → ltL g.n x
 | [], _, _ => by simp [ltL]
 | x :: xs, _, h => by
  simp only [SimVs] at h
  obtain ⟨v, r, _, h2, h3⟩ := h
  simp only [ltL]
  exact ⟨SimV.lt h2, SimVs.lt h3⟩
theorem SimAt.lt {g : G} {w : World} : ∀ {a : Addr} {x : List V}, SimAt g w a x → ltL g.n x
 | _, [], _ => by simp [ltL]
 | a, x :: xs, h => by
  simp only [SimAt] at h
  obtain ⟨⟨v, _, _, _, h2⟩, h3⟩ := h
  simp only [ltL]
  exact ⟨SimV.lt h2, SimAt.lt h3⟩
theorem SimRows.lt {g : G} {w : World} : ∀ {a : Addr} {sz : Nat} {x : List (List V)}, SimRows g w a sz x → ltRows g.n x
 | _, _, [], _ => by simp [ltRows]
 | a, sz, x :: xs, h => by
  simp only [SimRows] at h
  simp only [ltRows]
  exact ⟨SimAt.lt h.2.1, SimRows.lt h.2.2⟩
end
def G.cut (g : G) (k : Nat) : G := { g with n := k }
mutual
theorem SimV.cut {g : G} {w : World} {k : Nat} : ∀ {x : V} {v : Value}, SimV g w x v → x.lt k → SimV (g.cut k) w x v
 | .lst sz t l, v, h, hl => by
  simp only [SimV] at h ⊢
  simp only [V.lt] at hl
  obtain ⟨a, cap, h1, h2, h3, h4, h5, h6, h7⟩ := h
  exact ⟨a, cap, h1, h2, h3, h4, h5, fun e he => ⟨hl.1 e he, (h6 e he).2⟩, SimRows.cut h7 hl.2⟩
 | .arr e n, v, h, hl => by simp only [SimV] at h ⊢; exact ⟨by simpa [V.lt, G.cut] using hl, h.2⟩
 | .eptr e n sz k off, v, h, hl => by simp only [SimV] at h ⊢; exact ⟨by simpa [V.lt, G.cut] using hl, h.2⟩
 | .ref l, v, h, hl => by simp only [SimV] at h ⊢; obtain ⟨a, h1, h2, h⟩ := h; exact ⟨a, h1, h2, SimAt.cut h (by simpa [V.lt] using hl)⟩
 | .ptr o off, v, h, hl => by simp only [SimV] at h ⊢; exact ⟨by simpa [V.lt, G.cut] using hl, h.2⟩
 | .addr o _ _, v, h, hl => by simp only [SimV] at h ⊢; exact ⟨by simpa [V.lt, G.cut] using hl, h.2⟩
 | .agg l, v, h, hl => by simp only [SimV] at h ⊢; obtain ⟨u, h1, h, h2⟩ := h; exact ⟨u, h1, SimVs.cut h (by simpa [V.lt] using hl), h2⟩
 | .tup l, v, h, hl => by simp only [SimV] at h ⊢; obtain ⟨u, h1, h⟩ := h; exact ⟨u, h1, SimVs.cut h (by simpa [V.lt] using hl)⟩
 | .fn f c, v, h, hl => by simp only [SimV] at h ⊢; obtain ⟨u, h1, h⟩ := h; exact ⟨u, h1, SimVs.cut h (by simpa [V.lt] using hl)⟩
 | .map o, v, h, hl => by simp only [SimV] at h ⊢; exact ⟨by simpa [V.lt, G.cut] using hl, h.2⟩
 | .iface t x, v, h, hl => by simp only [SimV] at h ⊢; obtain ⟨u, h1, h⟩ := h; exact ⟨u, h1, SimV.cut h (by simpa [V.lt] using hl)⟩
 | .int _ _, _, h, _ | .bool _, _, h, _ | .str _, _, h, _ | .nils, _, h, _ | .nilp, _, h, _ | .nilf, _, h, _ | .nilm, _, h, _ | .nili, _, h, _ => by simpa [SimV] using h
 | .junk, _, _, _ => by simp [SimV]
theorem SimVs.cut {g : G} {w : World} {k : Nat} : ∀ {x : List V} {v : List Value}, SimVs g w x v → ltL k x → SimVs (g.cut k) w x v
 | [], _, h, _ => by simpa [SimVs] using h
 | x :: xs, _, h, hl => by
  simp only [SimVs] at h ⊢
  simp only [ltL] at hl
  obtain ⟨v, r, h1, h2, h3⟩ := h
  exact ⟨v, r, h1, SimV.cut h2 hl.1, SimVs.cut h3 hl.2⟩
theorem SimAt.cut {g : G} {w : World} {k : Nat} : ∀ {a : Addr} {x : List V}, SimAt g w a x → ltL k x → SimAt (g.cut k) w a x
 | _, [], _, _ => by simp [SimAt]
 | a, x :: xs, h, hl => by
  simp only [SimAt] at h ⊢
  simp only [ltL] at hl
  obtain ⟨⟨v, h1, h2, h3, h4⟩, h5⟩ := h
  exact ⟨⟨v, h1, h2, h3, SimV.cut h4 hl.1⟩, SimAt.cut h5 hl.2⟩
theorem SimRows.cut {g : G} {w : World} {k : Nat} : ∀ {a : Addr} {sz : Nat} {x : List (List V)}, SimRows g w a sz x → ltRows k x → SimRows (g.cut k) w a sz x
 | _, _, [], _, _ => by simp [SimRows]
 | a, sz, x :: xs, h, hl => by
  simp only [SimRows] at h ⊢
  simp only [ltRows] at hl
  exact ⟨h.1, SimAt.cut h.2.1 hl.1, SimRows.cut h.2.2 hl.2⟩
end
section
variable {P : Program} {T : Nat → TI} {an : Nat → Nat} {L : List Nat} {ds : List Deferred}
theorem SimEs.lt {g : G} {w : World} : ∀ {es : List (Nat × V × V)} {l : List MapEntry}, SimEs g w es l → ∀ e ∈ es, e.2.1.lt g.n ∧ e.2.2.lt g.n
 | [], _, _, e, h => by simp at h
 | (b, k, v) :: r, _, h, e, he => by
  obtain ⟨e', t, _, _, h1, h2, h3⟩ := h
  rcases List.mem_cons.1 he with rfl | he
  ·exact ⟨h1.lt, h2.lt⟩
  ·exact h3.lt e he
theorem SimEs.cut {g : G} {w : World} {k : Nat} : ∀ {es : List (Nat × V × V)} {l : List MapEntry}, SimEs g w es l → (∀ e ∈ es, e.2.1.lt k ∧ e.2.2.lt k) → SimEs (g.cut k) w es l
 | [], _, h, _ => h
 | (b, x, v) :: r, _, h, hl => by
  obtain ⟨e', t, q1, q2, h1, h2, h3⟩ := h
  have := hl _ (List.mem_cons_self)
  exact ⟨e', t, q1, q2, h1.cut this.1, h2.cut this.2, h3.cut fun e he => hl e (List.mem_cons_of_mem _ he)⟩
theorem SimSt.okSt {g : G} {st : St} {w : World} (h : SimSt T g st w) : St.ok st := by
 intro e he
 obtain ⟨i, hi⟩ := List.getElem?_of_mem he
 have := h.ent i e hi
 rw [← h.n]
 cases e with
 | box c => obtain ⟨_, vs, t, _, h, _⟩ := this; exact h.lt
 | tip e n => trivial
 | gone => trivial
 | map c es => obtain ⟨_, _, l, _, h⟩ := this; exact h.lt
 | iter m since seen => exact this.2.1
 | arr e sz c =>
  obtain ⟨_, h1, xs, _, h, _⟩ := this
  simp only [Ent.lt]
  have key : ∀ c : List (List V), ltL g.n c.flatten → ltRows g.n c := by
   intro c
   induction c with
   | nil => intro _; trivial
   | cons r rs ih =>
    intro h
    rw [List.flatten_cons] at h
    have sp : ∀ (x y : List V), ltL g.n (x ++ y) → ltL g.n x ∧ ltL g.n y := by
     intro x
     induction x with
     | nil => intro y h; exact ⟨trivial, h⟩
     | cons a x ih => intro y h; simp only [List.cons_append, ltL] at h ⊢; exact ⟨⟨h.1, (ih y h.2).1⟩, (ih y h.2).2⟩
    exact ⟨(sp _ _ h).1, ih (sp _ _ h).2⟩
  exact key c h.lt
/-- The entries behind may be forgotten. -/
theorem SimSt.drop {g : G} {st ex : St} {w : World} (h : SimSt T g (st ++ ex) w) (hl : St.ok st) : SimSt T (g.cut st.length) st w where
 n := rfl
 ent := fun i e hi => by
  have hlt := (List.getElem?_eq_some_iff.1 hi).1
  have hi' : (st ++ ex)[i]? = some e := by rw [List.getElem?_append_left hlt]; exact hi
  have he := hl e (List.mem_of_getElem? hi)
  have := h.ent i e hi'
  cases e with
  | box c => obtain ⟨h1, vs, t, h2, h3, h4⟩ := this; exact ⟨h1, vs, t, h2, h3.cut he, h4⟩
  | tip e n => exact this
  | gone => trivial
  | map c es => obtain ⟨h1, h2, l, h3, h4⟩ := this; exact ⟨h1, h2, l, h3, h4.cut he⟩
  | iter m since seen => obtain ⟨h1, h2, h3⟩ := this; exact ⟨h1, he, h3⟩
  | arr e sz c =>
   obtain ⟨h1, h2, xs, h3, h4, h5⟩ := this
   have key : ∀ c : List (List V), ltRows st.length c → ltL st.length c.flatten := by
    intro c
    induction c with
    | nil => intro _; trivial
    | cons r rs ih => intro h; rw [List.flatten_cons]; exact ltL_append h.1 (ih h.2)
   exact ⟨h1, h2, xs, h3, h4.cut (key c he), h5⟩
 one := fun i j ei ej b hi hj k1 k2 => by
  have hi' : (st ++ ex)[i]? = some ei := by rw [List.getElem?_append_left (List.getElem?_eq_some_iff.1 hi).1]; exact hi
  have hj' : (st ++ ex)[j]? = some ej := by rw [List.getElem?_append_left (List.getElem?_eq_some_iff.1 hj).1]; exact hj
  exact h.one i j ei ej b hi' hj' (by cases ei <;> exact k1) (by cases ej <;> exact k2)
 amb := h.amb
theorem Ext.cut {g g' : G} {w w' : World} (h : Ext g w g' w') {k : Nat} (hk : g.n ≤ k) : Ext g w (g'.cut k) w' :=
 ⟨h.os, h.tape, h.output, h.size, hk, h.pb, h.len, h.tv, h.free, h.kept, h.ty⟩
-- what may be taken for what; where a nil slice may be taken for the tip of an object of p's, too
/-- The objects of p are slices that are nil. -/
def Nil0 (g : G) (p : Nat → Prop) : Prop := ∀ k, p k → k < g.n ∧ g.len k = 0 ∧ g.tv k = .slice none 0 0
def NoTok : Nat → Prop := fun _ => False
theorem nil0_no (g : G) : Nil0 g NoTok := fun _ h => h.elim
mutual
def wkp (p : Nat → Prop) : V → V → Prop
 | .lst sz t l, v => ∃ t' l', v = .lst sz t' l' ∧ (t' = t ∨ t' = none) ∧ wkRp p l l'
 | .nils, v => v = .nils ∨ ∃ sz t, v = .lst sz t [] ∧ ∀ k, t = some k → p k
 | .agg l, v => ∃ l', v = .agg l' ∧ wkLp p l l'
 | .tup l, v => ∃ l', v = .tup l' ∧ wkLp p l l'
 | .int k n, v => v = .int k n
 | .bool b, v => v = .bool b
 | .str s, v => v = .str s
 | .arr e n, v => v = .arr e n
 | .eptr e n sz k off, v => v = .eptr e n sz k off
 | .ref l, v => ∃ l', v = .ref l' ∧ wkLp p l l'
 | .ptr o n, v => v = .ptr o n
 | .nilp, v => v = .nilp
 | .fn f c, v => ∃ l', v = .fn f l' ∧ wkLp p c l'
 | .nilf, v => v = .nilf
 | .map o, v => v = .map o
 | .nilm, v => v = .nilm
 | .iface t x, v => ∃ y, v = .iface t y ∧ wkp p x y
 | .nili, v => v = .nili
 | .addr o t k, v => v = .addr o t k
 | .junk, v => v = .junk
def wkLp (p : Nat → Prop) : List V → List V → Prop
 | [], l => l = []
 | x :: xs, l => ∃ y ys, l = y :: ys ∧ wkp p x y ∧ wkLp p xs ys
def wkRp (p : Nat → Prop) : List (List V) → List (List V) → Prop
 | [], l => l = []
 | x :: xs, l => ∃ y ys, l = y :: ys ∧ wkLp p x y ∧ wkRp p xs ys
end
variable {p : Nat → Prop}
theorem wkLp.length : ∀ {x y : List V}, wkLp p x y → y.length = x.length
 | [], _, h => by simp only [wkLp] at h; subst h; rfl
 | x :: xs, _, h => by
  simp only [wkLp] at h
  obtain ⟨z, zs, rfl, _, h2⟩ := h
  simp [h2.length]
theorem wkRp.length : ∀ {x y : List (List V)}, wkRp p x y → y.length = x.length
 | [], _, h => by simp only [wkRp] at h; subst h; rfl
 | x :: xs, _, h => by
  simp only [wkRp] at h
  obtain ⟨z, zs, rfl, _, h2⟩ := h
  simp [h2.length]
theorem wkLp.append : ∀ {x y x' y' : List V}, wkLp p x x' → wkLp p y y' → wkLp p (x ++ y) (x' ++ y')
 | [], _, _, _, h, k => by simp only [wkLp] at h; subst h; exact k
 | x :: xs, y, _, y', h, k => by
  simp only [wkLp] at h
  obtain ⟨z, zs, rfl, h1, h2⟩ := h
  simp only [List.cons_append, wkLp]
  exact ⟨z, _, rfl, h1, h2.append k⟩
theorem wkRp.flatten : ∀ {x y : List (List V)}, wkRp p x y → wkLp p x.flatten y.flatten
 | [], _, h => by simp only [wkRp] at h; subst h; simp [wkLp]
 | x :: xs, _, h => by
  simp only [wkRp] at h
  obtain ⟨z, zs, rfl, h1, h2⟩ := h
  simp only [List.flatten_cons]
  exact h1.append h2.flatten
theorem wkRp.rows {sz : Nat} : ∀ {x y : List (List V)}, wkRp p x y → (∀ r ∈ x, r.length = sz) → ∀ r ∈ y, r.length = sz
 | [], _, h, _ => by simp only [wkRp] at h; subst h; simp
 | x :: xs, _, h, k => by
  simp only [wkRp] at h
  obtain ⟨z, zs, rfl, h1, h2⟩ := h
  intro r hr
  rcases List.mem_cons.1 hr with rfl | hr
  ·rw [h1.length]; exact k x (by simp)
  ·exact h2.rows (fun r hr => k r (by simp [hr])) r hr
mutual
theorem wkp.sim {g : G} {w : World} (hp : Nil0 g p) : ∀ {x y : V} {v : Value}, wkp p x y → SimV g w x v → SimV g w y v
 | .lst sz t l, y, v, h, s => by
  simp only [wkp] at h
  obtain ⟨t', l', rfl, ht, hl⟩ := h
  simp only [SimV] at s ⊢
  obtain ⟨a, cap, h1, h2, h3, h4, h5, h6, h7⟩ := s
  rw [hl.length]
  refine ⟨a, cap, h1, h2, h3, h4, h5.imp (fun e => List.eq_nil_of_length_eq_zero (by rw [hl.length, e]; rfl)) id, ?_, wkRp.sim hp hl h7⟩
  rcases ht with rfl | rfl
  ·exact h6
  ·simp
 | .nils, y, v, h, s => by
  simp only [wkp] at h
  rcases h with rfl | ⟨sz, t, rfl, ht⟩
  ·exact s
  ·simp only [SimV] at s ⊢
   refine ⟨none, 0, by simpa using s, by simp, by simp [maxLen], by simp, .inl trivial, fun e he => ?_, by simp [SimRows]⟩
   obtain ⟨q1, q2, q3⟩ := hp e (ht e he)
   exact ⟨q1, by simp, fun _ => by rw [q3, s]⟩
 | .agg l, y, v, h, s => by
  simp only [wkp] at h
  obtain ⟨l', rfl, h⟩ := h
  simp only [SimV] at s ⊢
  obtain ⟨vs, h1, h2, h3⟩ := s
  exact ⟨vs, h1, wkLp.sim hp h h2, h3⟩
 | .tup l, y, v, h, s => by
  simp only [wkp] at h
  obtain ⟨l', rfl, h⟩ := h
  simp only [SimV] at s ⊢
  obtain ⟨vs, h1, h2⟩ := s
  exact ⟨vs, h1, wkLp.sim hp h h2⟩
 | .ref l, y, v, h, s => by
  simp only [wkp] at h
  obtain ⟨l', rfl, h⟩ := h
  simp only [SimV] at s ⊢
  obtain ⟨a, h1, h2, h3⟩ := s
  exact ⟨a, h1, h2, wkLp.simAt hp h h3⟩
 | .fn f c, y, v, h, s => by
  simp only [wkp] at h
  obtain ⟨l', rfl, h⟩ := h
  simp only [SimV] at s ⊢
  obtain ⟨vs, h1, h2⟩ := s
  exact ⟨vs, h1, wkLp.sim hp h h2⟩
 | .iface t x, y, v, h, s => by
  simp only [wkp] at h
  obtain ⟨y, rfl, h⟩ := h
  simp only [SimV] at s ⊢
  obtain ⟨u, h1, h2⟩ := s
  exact ⟨u, h1, wkp.sim hp h h2⟩
 | .int _ _, _, _, h, s | .bool _, _, _, h, s | .str _, _, _, h, s | .arr _ _, _, _, h, s | .eptr _ _ _ _ _, _, _, h, s | .ptr _ _, _, _, h, s | .nilp, _, _, h, s
 | .nilf, _, _, h, s | .map _, _, _, h, s | .nilm, _, _, h, s | .nili, _, _, h, s | .addr _ _ _, _, _, h, s | .junk, _, _, h, s => by simp only [wkp] at h; subst h; exact s
theorem wkLp.sim {g : G} {w : World} (hp : Nil0 g p) : ∀ {x y : List V} {v : List Value}, wkLp p x y → SimVs g w x v → SimVs g w y v
 | [], y, v, h, s => by simp only [wkLp] at h; subst h; exact s
 | x :: xs, y, v, h, s => by
  simp only [wkLp] at h
  obtain ⟨z, zs, rfl, h1, h2⟩ := h
  simp only [SimVs] at s ⊢
  obtain ⟨u, r, h3, h4, h5⟩ := s
  exact ⟨u, r, h3, wkp.sim hp h1 h4, wkLp.sim hp h2 h5⟩
theorem wkLp.simAt {g : G} {w : World} (hp : Nil0 g p) : ∀ {x y : List V} {a : Addr}, wkLp p x y → SimAt g w a x → SimAt g w a y
 | [], y, v, h, s => by simp only [wkLp] at h; subst h; exact s
 | x :: xs, y, v, h, s => by
  simp only [wkLp] at h
  obtain ⟨z, zs, rfl, h1, h2⟩ := h
  simp only [SimAt] at s ⊢
  obtain ⟨⟨u, h3, h4, h5, h6⟩, h7⟩ := s
  exact ⟨⟨u, h3, h4, h5, wkp.sim hp h1 h6⟩, wkLp.simAt hp h2 h7⟩
theorem wkRp.sim {g : G} {w : World} (hp : Nil0 g p) : ∀ {x y : List (List V)} {a : Addr} {sz : Nat}, wkRp p x y → SimRows g w a sz x → SimRows g w a sz y
 | [], y, _, _, h, s => by simp only [wkRp] at h; subst h; exact s
 | x :: xs, y, _, _, h, s => by
  simp only [wkRp] at h
  obtain ⟨z, zs, rfl, h1, h2⟩ := h
  simp only [SimRows] at s ⊢
  exact ⟨by rw [h1.length]; exact s.1, wkLp.simAt hp h1 s.2.1, wkRp.sim hp h2 s.2.2⟩
end
mutual
theorem wk_refl : ∀ v : V, wkp p v v
 | .lst sz t l => by simp only [wkp]; exact ⟨t, l, rfl, .inl rfl, wkR_refl l⟩
 | .nils => by simp [wkp]
 | .agg l => by simp only [wkp]; exact ⟨l, rfl, wkL_refl l⟩
 | .tup l => by simp only [wkp]; exact ⟨l, rfl, wkL_refl l⟩
 | .ref l => by simp only [wkp]; exact ⟨l, rfl, wkL_refl l⟩
 | .fn f l => by simp only [wkp]; exact ⟨l, rfl, wkL_refl l⟩
 | .iface t x => by simp only [wkp]; exact ⟨x, rfl, wk_refl x⟩
 | .int _ _ | .bool _ | .str _ | .arr _ _ | .eptr _ _ _ _ _ | .ptr _ _ | .nilp | .nilf | .map _ | .nilm | .nili | .addr _ _ _ | .junk => by simp [wkp]
theorem wkL_refl : ∀ l : List V, wkLp p l l
 | [] => by simp [wkLp]
 | x :: xs => by simp only [wkLp]; exact ⟨x, xs, rfl, wk_refl x, wkL_refl xs⟩
theorem wkR_refl : ∀ l : List (List V), wkRp p l l
 | [] => by simp [wkRp]
 | x :: xs => by simp only [wkRp]; exact ⟨x, xs, rfl, wkL_refl x, wkR_refl xs⟩
end
theorem wk_tok (sz : Nat) (t : Option Nat) (l : List (List V)) : wkp p (.lst sz t l) (.lst sz none l) := by simp only [wkp]; exact ⟨none, l, rfl, .inr rfl, wkR_refl l⟩
theorem wk_lst {sz : Nat} {t : Option Nat} {l l' : List (List V)} (h : wkRp p l l') : wkp p (.lst sz t l) (.lst sz none l') := by simp only [wkp]; exact ⟨none, l', rfl, .inr rfl, h⟩
theorem wk_nils (sz : Nat) : wkp p .nils (.lst sz none []) := by simp only [wkp]; exact .inr ⟨sz, none, rfl, fun k h => by cases h⟩
theorem wk_tip (sz : Nat) {k : Nat} (h : p k) : wkp p .nils (.lst sz (some k) []) := by simp only [wkp]; exact .inr ⟨sz, some k, rfl, fun j e => by cases e; exact h⟩
theorem wk_agg {l l' : List V} (h : wkLp p l l') : wkp p (.agg l) (.agg l') := by simp only [wkp]; exact ⟨l', rfl, h⟩
theorem wk_tup {l l' : List V} (h : wkLp p l l') : wkp p (.tup l) (.tup l') := by simp only [wkp]; exact ⟨l', rfl, h⟩
theorem wkL_cons {x y : V} {xs ys : List V} (h : wkp p x y) (k : wkLp p xs ys) : wkLp p (x :: xs) (y :: ys) := by simp only [wkLp]; exact ⟨y, ys, rfl, h, k⟩
theorem wkL_nil : wkLp p [] [] := by simp [wkLp]
def wkMp (p : Nat → Prop) : List (Nat × V × V) → List (Nat × V × V) → Prop
 | [], l => l = []
 | (b, k, v) :: r, l => ∃ k' v' t, l = (b, k', v') :: t ∧ wkp p k k' ∧ wkp p v v' ∧ wkMp p r t
theorem wkM_refl : ∀ l : List (Nat × V × V), wkMp p l l
 | [] => rfl
 | (_, k, v) :: r => ⟨k, v, r, rfl, wk_refl k, wk_refl v, wkM_refl r⟩
theorem wkMp.sim {g : G} {w : World} (hp : Nil0 g p) : ∀ {es es' : List (Nat × V × V)} {l : List MapEntry}, wkMp p es es' → SimEs g w es l → SimEs g w es' l
 | [], _, _, h, hs => by simp only [wkMp] at h; subst h; exact hs
 | (b, k, v) :: r, _, _, h, hs => by
  obtain ⟨k', v', t, rfl, h1, h2, h3⟩ := h
  obtain ⟨e, u, q1, q2, q3, q4, q5⟩ := hs
  exact ⟨e, u, q1, q2, h1.sim hp q3, h2.sim hp q4, h3.sim hp q5⟩
theorem wkMp.born : ∀ {es es' : List (Nat × V × V)} {c : Nat}, wkMp p es es' → (∀ e ∈ es, e.1 < c) → ∀ e ∈ es', e.1 < c
 | [], _, c, h, _ => by simp only [wkMp] at h; subst h; simp
 | (b, k, v) :: r, _, c, h, hb => by
  obtain ⟨k', v', t, rfl, h1, h2, h3⟩ := h
  intro e he
  rcases List.mem_cons.1 he with rfl | he
  ·exact hb (b, k, v) (List.mem_cons_self)
  ·exact h3.born (fun e he => hb e (List.mem_cons_of_mem _ he)) e he
def Ent.wkq (p : Nat → Prop) : Ent → Ent → Prop
 | .map c es, e => ∃ es', e = .map c es' ∧ wkMp p es es'
 | .iter m s l, e => e = .iter m s l
 | .box c, e => ∃ c', e = .box c' ∧ wkLp p c c'
 | .arr t sz c, e => ∃ c', e = .arr t sz c' ∧ wkRp p c c'
 | .tip t n, e => e = .tip t n
 | .gone, e => e = .gone
/-- What an object may be taken for: for one that is gone, always. -/
def Ent.wkp (p : Nat → Prop) (x e : Ent) : Prop := e = .gone ∨ x.wkq p e
def wkStp (p : Nat → Prop) : St → St → Prop
 | [], s => s = []
 | x :: xs, s => ∃ y ys, s = y :: ys ∧ x.wkp p y ∧ wkStp p xs ys
theorem Ent.wkp_refl (e : Ent) : e.wkp p e := by
 right
 cases e with
 | box c => exact ⟨c, rfl, wkL_refl c⟩
 | arr t sz c => exact ⟨c, rfl, wkR_refl c⟩
 | map c es => exact ⟨es, rfl, wkM_refl es⟩
 | _ => rfl
theorem Ent.wk_box {c c' : List V} (h : wkLp p c c') : (Ent.box c).wkp p (.box c') := .inr ⟨c', rfl, h⟩
theorem wkSt_nil : wkStp p [] [] := rfl
theorem wkSt_cons {x y : Ent} {xs ys : St} (h : x.wkp p y) (k : wkStp p xs ys) : wkStp p (x :: xs) (y :: ys) := ⟨y, ys, rfl, h, k⟩
theorem wkSt_refl : ∀ s : St, wkStp p s s
 | [] => rfl
 | x :: xs => ⟨x, xs, rfl, x.wkp_refl, wkSt_refl xs⟩
theorem wkStp.append : ∀ {a a' b b' : St}, wkStp p a a' → wkStp p b b' → wkStp p (a ++ b) (a' ++ b')
 | [], _, _, _, h, k => by simp only [wkStp] at h; subst h; exact k
 | x :: xs, _, _, _, h, k => by
  obtain ⟨y, ys, rfl, h1, h2⟩ := h
  exact ⟨y, _, rfl, h1, h2.append k⟩
theorem wkStp.length : ∀ {s s' : St}, wkStp p s s' → s'.length = s.length
 | [], _, h => by simp only [wkStp] at h; subst h; rfl
 | x :: xs, _, h => by obtain ⟨y, ys, rfl, _, h2⟩ := h; simp [h2.length]
theorem wkStp.get : ∀ {s s' : St} {i : Nat} {e' : Ent}, wkStp p s s' → s'[i]? = some e' → ∃ e, s[i]? = some e ∧ e.wkp p e'
 | [], _, i, e', h, hi => by simp only [wkStp] at h; subst h; simp at hi
 | x :: xs, _, i, e', h, hi => by
  obtain ⟨y, ys, rfl, h1, h2⟩ := h
  cases i with
  | zero => simp at hi; subst hi; exact ⟨x, by simp, h1⟩
  | succ i => simpa using h2.get (by simpa using hi)
theorem wkStp.set : ∀ {s s' : St} {i : Nat} {e e' : Ent}, wkStp p s s' → e.wkp p e' → wkStp p (s.set i e) (s'.set i e')
 | [], _, i, e, e', h, _ => by simp only [wkStp] at h; subst h; rfl
 | x :: xs, _, i, e, e', h, k => by
  obtain ⟨y, ys, rfl, h1, h2⟩ := h
  cases i with
  | zero => exact ⟨e', ys, rfl, k, h2⟩
  | succ i => exact ⟨y, _, rfl, h1, h2.set k⟩
theorem SimSt.wkp {g : G} {w : World} {s s' : St} (h : SimSt T g s w) (hp : Nil0 g p) (k : wkStp p s s') : SimSt T g s' w := by
 refine ⟨h.n.trans k.length.symm, fun i e' hi => ?_, fun i j ei ej b hi hj h1 h2 => ?_, h.amb⟩
 ·obtain ⟨e, h1, h2⟩ := k.get hi
  have := h.ent i e h1
  rcases h2 with rfl | h2
  ·trivial
  cases e with
  | box c =>
   obtain ⟨c', rfl, hc⟩ := h2
   obtain ⟨q1, vs, t, q2, q3, q4⟩ := this
   exact ⟨q1, vs, t, q2, hc.sim hp q3, q4⟩
  | arr t sz c =>
   obtain ⟨c', rfl, hc⟩ := h2
   obtain ⟨q1, q2, xs, q3, q4, q5⟩ := this
   exact ⟨q1, hc.rows q2, xs, by rw [hc.length]; exact q3, hc.flatten.sim hp q4, q5⟩
  | tip t n => simp only [Ent.wkq] at h2; subst h2; exact this
  | gone => simp only [Ent.wkq] at h2; subst h2; trivial
  | map c es =>
   obtain ⟨es', rfl, hc⟩ := h2
   obtain ⟨q1, q2, l, q3, q4⟩ := this
   exact ⟨q1, hc.born q2, l, q3, hc.sim hp q4⟩
  | iter m s l => simp only [Ent.wkq] at h2; subst h2; exact this
 ·have bk : ∀ {i : Nat} {e e' : Ent} {b : Nat}, e.wkp p e' → blkOf g i e' = some b → blkOf g i e = some b := by
   intro i e e' b h hb
   rcases h with rfl | h
   ·cases hb
   cases e with
   | box c => obtain ⟨c', rfl, _⟩ := h; exact hb
   | arr t sz c => obtain ⟨c', rfl, _⟩ := h; exact hb
   | tip t n => simp only [Ent.wkq] at h; subst h; exact hb
   | gone => simp only [Ent.wkq] at h; subst h; exact hb
   | map c es => obtain ⟨es', rfl, _⟩ := h; exact hb
   | iter m s l => simp only [Ent.wkq] at h; subst h; exact hb
  obtain ⟨e1, i1, i2⟩ := k.get hi
  obtain ⟨e2, j1, j2⟩ := k.get hj
  exact h.one i j e1 e2 b i1 j1 (bk i2 h1) (bk j2 h2)
abbrev wk := wkp NoTok
abbrev wkL := wkLp NoTok
abbrev wkR := wkRp NoTok
abbrev wkSt := wkStp NoTok
theorem SimSt.wk {g : G} {w : World} {s s' : St} (h : SimSt T g s w) (k : wkSt s s') : SimSt T g s' w := h.wkp (nil0_no g) k
/-- What is given is no longer than what an int holds. -/
def VEnd.fit : VEnd → Prop
 | .ret v => v.fit
 | .panic v => v.fit
theorem VCalls.monoF {f : FuncId} {args : List V} {st : St} {Q Q' : VEnd → St → Prop} (h : VCalls P T f args st Q) (hq : ∀ r st, r.fit → Q r st → Q' r st) : VCalls P T f args st Q' :=
 ⟨h.1, fun g w vals h1 h2 => (h.2 g w vals h1 h2).mono fun _ _ ⟨r, st', g', k1, k2, k3⟩ => ⟨r, st', g', hq _ _ (by
  cases r with
  | ret v => obtain ⟨val, _, hv⟩ := k2; exact hv.fit
  | panic v => obtain ⟨val, _, hv⟩ := k2; exact hv.fit) k1, k2, k3⟩⟩
theorem VCalls.args {f : FuncId} {args args' : List V} {st : St} {Q : VEnd → St → Prop} (h : VCalls P T f args' st Q) (hw : wkL args args') : VCalls P T f args st Q :=
 ⟨h.1, fun g w vals h1 h2 => h.2 g w vals h1 (hw.sim (nil0_no g) h2)⟩
end
end Go.Proofs.YtpllcpbhjglpaaaGreatDoor.Gw
