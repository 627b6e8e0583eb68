/- The abstract values of the engine: what a value of the model holds, seen as data; and that what is so held stays, while memory grows. The engine's state, environment, table of types, and what one operation does, said of abstract values. What one operation does, said of abstract values, is what the model does. Operations that leave the memory as it is: what they give. Operations that leave the memory as it is: what they give, all in one. All operations that leave the memory as it is. The state: its objects, as they lie in memory; and the operations that make, read and write them. Appending, whatever is appended: by what it is read as. Operations that make, read and write memory. -/
import Derived.WalkKit
import Derived.Lib.ItoaNum
import Derived.Laws.StructEq
namespace Go.Proofs.YtpllcpbhjglpaaaGreatDoor.Gw
open Go
/-- An abstract value. `lst`: a slice, seen as its rows (each the cells of one element); its token tells which growing block it is the tip of. `arr`: a slice of an object that is written; `eptr`: a pointer to one of its elements' cells. `ref`: a pointer to cells that stay as they are. `ptr`: a pointer into an object of the state. -/
inductive V where
 | int (k : IntKind) (n : Int)
 | bool (b : Bool)
 | str (s : List UInt8)
 | nils
 | lst (sz : Nat) (t : Option Nat) (l : List (List V))
 | arr (e n : Nat)
 | eptr (e n sz k off : Nat)
 | ref (l : List V)
 | ptr (o off : Nat)
 | nilp
 | agg (l : List V)
 | tup (l : List V)
 | fn (f : Fn) (c : List V)
 | nilf
 | map (o : Nat)
 | nilm
 | iface (t : TypeId) (v : V)
 | nili
 | junk
 /-- Nil, or the address of the object itself (of so many cells, of a type): strings.Builder's first field. -/
 | addr (o : Nat) (t : TypeId) (k : Nat)
instance : Inhabited V := ⟨.junk⟩
/-- The ghost: which blocks are owned, and how many cells of them are sealed; where objects lie; the tips. -/
structure G where
 own : Nat → Option Nat
 pb : Nat → Nat
 tv : Nat → Value
 len : Nat → Nat
 n : Nat
def sealed (g : G) (w : World) (a : Addr) : Prop := a.spot = none ∧ a.block < w.heap.size ∧ ∀ k, g.own a.block = some k → a.off < k
mutual
def SimV (g : G) (w : World) : V → Value → Prop
 | .int k n, v => v = .int k n
 | .bool b, v => v = .bool b
 | .str s, v => v = .string ⟨s.toArray⟩ ∧ s.length ≤ 9223372036854775807
 | .nils, v => v = .slice none 0 0
 | .lst sz t l, v => ∃ a cap, v = .slice a l.length cap ∧ l.length ≤ cap ∧ cap ≤ maxLen ∧ (a = none → cap = 0) ∧ (l = [] ∨ (a.getD ⟨0, 0, none⟩).spot = none) ∧
   (∀ e, t = some e → e < g.n ∧ l.length ≤ g.len e ∧ (g.len e = l.length → g.tv e = v)) ∧ SimRows g w (a.getD ⟨0, 0, none⟩) sz l
 | .arr e n, v => e < g.n ∧ n ≤ g.len e ∧ (g.len e = n → g.tv e = v) ∧ ∃ a cap, v = .slice a n cap
 | .eptr e n sz k off, v => e < g.n ∧ n ≤ g.len e ∧ ∃ b, v = .pointer (some ⟨b, k * sz + off, none⟩) ∧ (g.len e = n → ∃ m cap, g.tv e = .slice (some ⟨b, 0, none⟩) m cap)
 | .ref l, v => ∃ a, v = .pointer (some a) ∧ a.spot = none ∧ SimAt g w a l
 | .ptr o off, v => o < g.n ∧ v = .pointer (some ⟨g.pb o, off, none⟩)
 | .nilp, v => v = .pointer none
 | .agg l, v => ∃ vs : List Value, v = .agg vs.toArray ∧ SimVs g w l vs ∧ ∀ u ∈ vs, u.oneCell' = true
 | .tup l, v => ∃ vs : List Value, v = .tuple vs.toArray ∧ SimVs g w l vs
 | .fn f c, v => ∃ vs : List Value, v = .func f #[] vs.toArray ∧ SimVs g w c vs
 | .nilf, v => v = .nilFunc
 | .map o, v => o < g.n ∧ v = .map (some (g.pb o))
 | .nilm, v => v = .map none
 | .iface t x, v => ∃ y, v = .iface t y ∧ SimV g w x y
 | .nili, v => v = .nilIface
 | .addr o t k, v => o < g.n ∧ w.shape? (g.pb o) = some (t, k) ∧ (v = .pointer none ∨ v = .pointer (some ⟨g.pb o, 0, none⟩))
 | .junk, _ => True
def SimVs (g : G) (w : World) : List V → List Value → Prop
 | [], vs => vs = []
 | x :: xs, vs => ∃ v r, vs = v :: r ∧ SimV g w x v ∧ SimVs g w xs r
def SimAt (g : G) (w : World) : Addr → List V → Prop
 | _, [] => True
 | a, x :: xs => (∃ v, sealed g w a ∧ w.cell? a = some v ∧ v.oneCell' = true ∧ SimV g w x v) ∧ SimAt g w (a.add 1) xs
def SimRows (g : G) (w : World) : Addr → Nat → List (List V) → Prop
 | _, _, [] => True
 | a, sz, r :: rs => r.length = sz ∧ SimAt g w a r ∧ SimRows g w (a.add sz) sz rs
end
/-- What stays, from one world and ghost to a later one. -/
structure Ext (g : G) (w : World) (g' : G) (w' : World) : Prop where
 os : w'.os = w.os
 tape : w'.tape = w.tape
 output : w'.output = w.output
 size : w.heap.size ≤ w'.heap.size
 n : g.n ≤ g'.n
 pb : ∀ o, o < g.n → g'.pb o = g.pb o
 len : ∀ o, o < g.n → g.len o ≤ g'.len o
 tv : ∀ o, o < g.n → g'.len o = g.len o → g'.tv o = g.tv o
 free : ∀ b, b < w.heap.size → g.own b = none → w'.heap[b]? = w.heap[b]? ∧ g'.own b = none
 kept : ∀ b k, b < w.heap.size → g.own b = some k → (∀ off, off < k → w'.cell? ⟨b, off, none⟩ = w.cell? ⟨b, off, none⟩) ∧ (∀ k', g'.own b = some k' → k ≤ k')
 ty : ∀ b, b < w.heap.size → w'.shape? b = w.shape? b
theorem Ext.refl (g : G) (w : World) : Ext g w g w :=
 ⟨rfl, rfl, rfl, Nat.le_refl _, Nat.le_refl _, fun _ _ => rfl, fun _ _ => Nat.le_refl _, fun _ _ _ => rfl, fun _ _ h => ⟨rfl, h⟩, fun _ k _ h => ⟨fun _ _ => rfl, fun k' h' => by rw [h] at h'; cases h'; exact Nat.le_refl _⟩, fun _ _ => rfl⟩
theorem shape_of_block {w w' : World} {b : Nat} (h : w'.heap[b]? = w.heap[b]?) : w'.shape? b = w.shape? b := by simp [World.shape?, h]
theorem shape_lt {w : World} {b : Nat} {x : TypeId × Nat} (h : w.shape? b = some x) : b < w.heap.size := by
 rcases Nat.lt_or_ge b w.heap.size with h' | h'
 ·exact h'
 ·simp [World.shape?, Array.getElem?_eq_none h'] at h
theorem cell_of_block {w w' : World} {b off : Nat} (h : w'.heap[b]? = w.heap[b]?) : w'.cell? ⟨b, off, none⟩ = w.cell? ⟨b, off, none⟩ := by simp [World.cell?, h]
theorem Ext.trans {g1 g2 g3 : G} {w1 w2 w3 : World} (h : Ext g1 w1 g2 w2) (k : Ext g2 w2 g3 w3) : Ext g1 w1 g3 w3 where
 os := k.os.trans h.os
 tape := k.tape.trans h.tape
 output := k.output.trans h.output
 size := Nat.le_trans h.size k.size
 n := Nat.le_trans h.n k.n
 pb := fun o ho => (k.pb o (Nat.lt_of_lt_of_le ho h.n)).trans (h.pb o ho)
 len := fun o ho => Nat.le_trans (h.len o ho) (k.len o (Nat.lt_of_lt_of_le ho h.n))
 tv := fun o ho e => by
  have a := h.len o ho
  have b := k.len o (Nat.lt_of_lt_of_le ho h.n)
  exact (k.tv o (Nat.lt_of_lt_of_le ho h.n) (by omega)).trans (h.tv o ho (by omega))
 free := fun b hb ho => by
  obtain ⟨e1, o1⟩ := h.free b hb ho
  obtain ⟨e2, o2⟩ := k.free b (Nat.lt_of_lt_of_le hb h.size) o1
  exact ⟨e2.trans e1, o2⟩
 kept := fun b j hb ho => by
  obtain ⟨c1, o1⟩ := h.kept b j hb ho
  have hb2 := Nat.lt_of_lt_of_le hb h.size
  cases hg : g2.own b with
  | none =>
   obtain ⟨e2, o2⟩ := k.free b hb2 hg
   exact ⟨fun off hoff => (cell_of_block e2).trans (c1 off hoff), fun k' hk' => by rw [o2] at hk'; cases hk'⟩
  | some j2 =>
   have hj := o1 j2 hg
   obtain ⟨c2, o2⟩ := k.kept b j2 hb2 hg
   exact ⟨fun off hoff => (c2 off (by omega)).trans (c1 off hoff), fun k' hk' => Nat.le_trans hj (o2 k' hk')⟩
 ty := fun b hb => (k.ty b (Nat.lt_of_lt_of_le hb h.size)).trans (h.ty b hb)
theorem Ext.sealed {g g' : G} {w w' : World} (h : Ext g w g' w') {a : Addr} (hs : sealed g w a) : Gw.sealed g' w' a ∧ w'.cell? a = w.cell? a := by
 obtain ⟨b, off, sp⟩ := a
 obtain ⟨h1, h2, h3⟩ := hs
 simp only at h1 h2 h3
 subst h1
 cases hg : g.own b with
 | none =>
  obtain ⟨e, o⟩ := h.free b h2 hg
  exact ⟨⟨rfl, Nat.lt_of_lt_of_le h2 h.size, fun k hk => by simp only at hk; rw [o] at hk; cases hk⟩, cell_of_block e⟩
 | some k =>
  obtain ⟨c, o⟩ := h.kept b k h2 hg
  have := h3 k hg
  exact ⟨⟨rfl, Nat.lt_of_lt_of_le h2 h.size, fun k' hk' => by simp only at hk' ⊢; have := o k' hk'; omega⟩, c off this⟩
mutual
theorem SimV.ext {g g' : G} {w w' : World} (h : Ext g w g' w') : ∀ (x : V) (v : Value), SimV g w x v → SimV g' w' x v
 | .int _ _, _, s | .bool _, _, s | .str _, _, s | .nils, _, s | .nilp, _, s | .nilf, _, s | .nilm, _, s | .nili, _, s => by simpa [SimV] using s
 | .junk, _, _ => by simp [SimV]
 | .lst sz t l, v, s => by
  simp only [SimV] at s ⊢
  obtain ⟨a, cap, rfl, h1, h2, h3, h0, h4, h5⟩ := s
  refine ⟨a, cap, rfl, h1, h2, h3, h0, fun e he => ?_, SimRows.ext h _ _ _ h5⟩
  obtain ⟨i1, i2, i3⟩ := h4 e he
  have := h.len e i1
  exact ⟨Nat.lt_of_lt_of_le i1 h.n, by omega, fun hl => (h.tv e i1 (by omega)).trans (i3 (by omega))⟩
 | .arr e n, v, s => by
  simp only [SimV] at s ⊢
  obtain ⟨i1, i2, i3, i4⟩ := s
  have := h.len e i1
  exact ⟨Nat.lt_of_lt_of_le i1 h.n, by omega, fun hl => (h.tv e i1 (by omega)).trans (i3 (by omega)), i4⟩
 | .eptr e n sz k off, v, s => by
  simp only [SimV] at s ⊢
  obtain ⟨i1, i2, b, i3, i4⟩ := s
  have := h.len e i1
  exact ⟨Nat.lt_of_lt_of_le i1 h.n, by omega, b, i3, fun hl => by rw [h.tv e i1 (by omega)]; exact i4 (by omega)⟩
 | .ref l, v, s => by
  simp only [SimV] at s ⊢
  obtain ⟨a, h1, h2, h3⟩ := s
  exact ⟨a, h1, h2, SimAt.ext h _ _ h3⟩
 | .ptr o off, v, s => by
  simp only [SimV] at s ⊢
  exact ⟨Nat.lt_of_lt_of_le s.1 h.n, by rw [h.pb o s.1]; exact s.2⟩
 | .agg l, v, s => by simp only [SimV] at s ⊢; obtain ⟨vs, h1, h2, h3⟩ := s; exact ⟨vs, h1, SimVs.ext h _ _ h2, h3⟩
 | .tup l, v, s => by simp only [SimV] at s ⊢; obtain ⟨vs, h1, h2⟩ := s; exact ⟨vs, h1, SimVs.ext h _ _ h2⟩
 | .fn f c, v, s => by simp only [SimV] at s ⊢; obtain ⟨vs, h1, h2⟩ := s; exact ⟨vs, h1, SimVs.ext h _ _ h2⟩
 | .map o, v, s => by
  simp only [SimV] at s ⊢
  exact ⟨Nat.lt_of_lt_of_le s.1 h.n, by rw [h.pb o s.1]; exact s.2⟩
 | .iface t x, v, s => by simp only [SimV] at s ⊢; obtain ⟨y, h1, h2⟩ := s; exact ⟨y, h1, SimV.ext h _ _ h2⟩
 | .addr o t k, v, s => by
  simp only [SimV] at s ⊢
  obtain ⟨h1, h2, h3⟩ := s
  rw [h.pb o h1]
  exact ⟨Nat.lt_of_lt_of_le h1 h.n, (h.ty _ (shape_lt h2)).trans h2, h3⟩
theorem SimVs.ext {g g' : G} {w w' : World} (h : Ext g w g' w') : ∀ (x : List V) (v : List Value), SimVs g w x v → SimVs g' w' x v
 | [], _, s => by simpa [SimVs] using s
 | x :: xs, _, s => by
  simp only [SimVs] at s ⊢
  obtain ⟨v, r, h1, h2, h3⟩ := s
  exact ⟨v, r, h1, SimV.ext h _ _ h2, SimVs.ext h _ _ h3⟩
theorem SimAt.ext {g g' : G} {w w' : World} (h : Ext g w g' w') : ∀ (a : Addr) (x : List V), SimAt g w a x → SimAt g' w' a x
 | _, [], _ => by simp [SimAt]
 | a, x :: xs, s => by
  simp only [SimAt] at s ⊢
  obtain ⟨⟨v, h1, h2, h0, h3⟩, h4⟩ := s
  obtain ⟨k1, k2⟩ := h.sealed h1
  exact ⟨⟨v, k1, k2.trans h2, h0, SimV.ext h _ _ h3⟩, SimAt.ext h _ _ h4⟩
theorem SimRows.ext {g g' : G} {w w' : World} (h : Ext g w g' w') : ∀ (a : Addr) (sz : Nat) (x : List (List V)), SimRows g w a sz x → SimRows g' w' a sz x
 | _, _, [], _ => by simp [SimRows]
 | a, sz, x :: xs, s => by
  simp only [SimRows] at s ⊢
  exact ⟨s.1, SimAt.ext h _ _ s.2.1, SimRows.ext h _ _ _ s.2.2⟩
end
/-- The library's tables that lie as they were laid: in which block, what. -/
def ambL : List (Nat × Array Value) := [(5, (Go.Lib.pow10Tab.map fun z => Value.int .u64 z).toArray)]
/-- They lie so, and nobody owns them. -/
def Amb (g : G) (w : World) : Prop := ∀ p ∈ ambL, g.own p.1 = none ∧ ∃ t x, w.heap[p.1]? = some (.cells p.2 t x)
theorem Amb.ext {g g' : G} {w w' : World} (h : Amb g w) (hx : Ext g w g' w') : Amb g' w' := fun p hp => by
 obtain ⟨h1, t, x, h2⟩ := h p hp
 have hlt := (Array.getElem?_eq_some_iff.1 h2).1
 obtain ⟨k1, k2⟩ := hx.free p.1 hlt h1
 exact ⟨k2, t, x, k1.trans h2⟩
end Go.Proofs.YtpllcpbhjglpaaaGreatDoor.Gw
namespace Go.Proofs.YtpllcpbhjglpaaaGreatDoor.Gw
open Go
/-- What an object of the state is. -/
inductive Ent where
 | box (c : List V)
 | tip (e : TypeId) (n : Nat)
 | arr (e : TypeId) (sz : Nat) (c : List (List V))
 | gone
 /-- A map: its clock; when each entry was born, its key, its value. -/
 | map (c : Nat) (es : List (Nat × V × V))
 /-- A walk over a map: which, its clock at the beginning, whom it met. -/
 | iter (m since : Nat) (seen : List Nat)
abbrev St := List Ent
/-- What a type is, as the table tells it. -/
inductive TK where
 | int (k : IntKind)
 | bool
 | str
 | ptr (e : TypeId)
 | slice (e : TypeId)
 | struct (fs : List (Nat × TypeId))
 | map (k e : TypeId)
 | iface
 | func
 | other
structure TI where
 kind : TK
 size : Nat
 bytes : Nat
 zero : List V
instance : Inhabited TI := ⟨⟨.other, 0, 0, []⟩⟩
def TI.agg (t : TI) : Bool := match t.kind with | .struct _ => true | _ => false
def TK.of : TypeDesc → TK
 | .int k => .int k
 | .bool => .bool
 | .string => .str
 | .pointer e => .ptr e
 | .slice e => .slice e
 | .struct fs => .struct (fs.toList.map fun f => (f.offset, f.type))
 | .map k e => .map k e
 | .interface _ => .iface
 | .func _ _ _ => .func
 | _ => .other
/-- The value of the model that an abstract zero is. -/
def V.raw : V → Value
 | .int k n => .int k n
 | .bool b => .bool b
 | .str s => .string ⟨s.toArray⟩
 | .nils => .slice none 0 0
 | .nilp => .pointer none
 | .nilf => .nilFunc
 | .nilm => .map none
 | .nili => .nilIface
 | _ => .tuple #[]
def V.flat : V → Bool
 | .str s => s.isEmpty
 | .int _ _ | .bool _ | .nils | .nilp | .nilf | .nilm | .nili => true
 | _ => false
def TI.zval (t : TI) : Value := if t.agg then .agg (t.zero.map V.raw).toArray else ((t.zero.map V.raw).headD (.tuple #[]))
def TI.ok (P : Program) (t : TypeId) (i : TI) : Prop :=
 (P.info? t).map (fun x => (x.zero, x.size, x.bytes)) = some (some i.zval, i.size, i.bytes) ∧ (P.underlying t).map TK.of = some i.kind ∧
 i.zero.all V.flat = true ∧ i.zero.length = i.size ∧ (i.agg = false → i.size = 1) ∧
 (i.agg = true → (P.stoodInHeld t || P.eqGuardType P.depth t || (P.fieldsOf t).any (·.name == "_")) = false)
/-- A table tells the program's types, wherever it tells anything. -/
def Tab (P : Program) (T : Nat → TI) : Prop := ∀ t, (T t).kind ≠ .other → TI.ok P t (T t)
def TI.known (i : TI) : Bool := match i.kind with | .other => false | _ => true
/-- Is a type told, and has it cells? -/
def TI.sized (i : TI) : Bool := (match i.kind with | .other => false | _ => true) && (match i.size with | 0 => false | _ => true)
/-- The environment: named temporaries, and those of the region that goes on; each under a condition. -/
structure Env where
 N : Nat
 g : List (Nat × Bool × V)
 l : List (Nat × Bool × V)
def find : List (Nat × Bool × V) → Nat → Option (Bool × V)
 | [], _ => none
 | (k, x) :: r, t => if k = t then some x else find r t
def ins : List (Nat × Bool × V) → Nat → Bool × V → List (Nat × Bool × V)
 | [], t, x => [(t, x)]
 | (k, y) :: r, t, x => if k = t then (t, x) :: r else (k, y) :: ins r t x
def Env.look (e : Env) (t : Nat) : Option (Bool × V) :=
 match find e.l t with
 | some x => some x
 | none => find e.g t
def memN : List Nat → Nat → Bool
 | [], _ => false
 | k :: r, t => if k = t then true else memN r t
def Env.put (e : Env) (L : List Nat) (d : Option Nat) (c : Bool) (v : V) : Env :=
 match d with
 | none => e
 | some t => if memN L t then { e with g := ins e.g t (c, v), l := (t, c, v) :: e.l } else { e with l := (t, c, v) :: e.l }
def V.ofC1 : Value → Option V
 | .int k n => some (.int k n)
 | .bool b => some (.bool b)
 | .string s => if s.data.toList.length ≤ 1000000 then some (.str s.data.toList) else none
 | .slice none 0 0 => some .nils
 | .pointer none => some .nilp
 | .nilFunc => some .nilf
 | .map none => some .nilm
 | .nilIface => some .nili
 | _ => none
def consO : Option V → Option (List V) → Option (List V)
 | some x, some l => some (x :: l)
 | _, _ => none
def V.ofCs : List Value → Option (List V)
 | [] => some []
 | v :: r => consO (V.ofC1 v) (V.ofCs r)
def aggR : Option (List V) → V
 | some l => .agg l
 | none => .junk
def V.ofConst : Value → V
 | .int k n => .int k n
 | .bool b => .bool b
 | .string s => if s.data.toList.length ≤ 1000000 then .str s.data.toList else .junk
 | .slice none 0 0 => .nils
 | .pointer none => .nilp
 | .nilFunc => .nilf
 | .map none => .nilm
 | .nilIface => .nili
 | .agg vs => aggR (V.ofCs vs.toList)
 | _ => .junk
def evO (e : Env) : Operand → Option (Bool × V)
 | .tmp t => e.look t
 | .const v => some (true, V.ofConst v)
 | .func f => some (true, .fn (.func f) [])
 | .global _ => none
def V.isOne : V → Bool
 | .agg _ | .tup _ | .junk => false
 | _ => true
/-- The cells of a value. -/
def V.cells : V → Option (List V)
 | .agg l => some l
 | .tup _ | .junk => none
 | v => some [v]
/-- Are two cells the same? -/
def eqCell : TK → V → V → Option Bool
 | .int k, .int j a, .int j' b => if j = k ∧ j' = k then some (decide (a = b)) else none
 | .str, .str a, .str b => some (decide (a = b))
 | .bool, .bool a, .bool b => some (a == b)
 | _, _, _ => none
def eqFs (T : Nat → TI) : List (Nat × TypeId) → List V → List V → Option Bool
 | [], _, _ => some true
 | (off, ft) :: r, a, b => match a[off]?, b[off]? with
  | some x, some y => (eqCell (T ft).kind x y).bind fun p => (eqFs T r a b).map fun q => p && q
  | _, _ => none
def aggEq (T : Nat → TI) : TK → BinOp → List V → List V → Option (V × Prop)
 | .struct fs, .eql, a, b => (eqFs T fs a b).map fun p => (.bool p, True)
 | .struct fs, .neq, a, b => (eqFs T fs a b).map fun p => (.bool (!p), True)
 | _, _, _, _ => none
def binV (T : Nat → TI) (k : TK) (op : BinOp) : V → V → Option (V × Prop)
 | .agg a, .agg b => aggEq T k op a b
 | .int j a, .int j' b => if j = j' then
   match op with
   | .add => some (.int j (j.wrap (a + b)), True)
   | .sub => some (.int j (j.wrap (a - b)), True)
   | .mul => some (.int j (j.wrap (a * b)), True)
   | .quo => some (.int j (j.wrap (a.tdiv b)), b ≠ 0)
   | .rem => some (.int j (a.tmod b), b ≠ 0)
   | .eql => some (.bool (decide (a = b)), True)
   | .neq => some (.bool (!decide (a = b)), True)
   | .lss => some (.bool (decide (a < b)), True)
   | .leq => some (.bool (decide (a ≤ b)), True)
   | .gtr => some (.bool (decide (b < a)), True)
   | .geq => some (.bool (decide (b ≤ a)), True)
   | _ => none
  else none
 | .str a, .str b =>
   match op with
   | .add => some (.str (a ++ b), a.length + b.length ≤ 9223372036854775807)
   | .eql => some (.bool (decide (a = b)), True)
   | .neq => some (.bool (!decide (a = b)), True)
   | .lss => some (.bool (Op.bytesLess a b), True)
   | .leq => some (.bool (Op.bytesLess a b || decide (a = b)), True)
   | .gtr => some (.bool (!(Op.bytesLess a b || decide (a = b))), True)
   | .geq => some (.bool (!Op.bytesLess a b), True)
   | _ => none
 | .bool a, .bool b =>
   match op, k with
   | .eql, .bool => some (.bool (a == b), True)
   | .neq, .bool => some (.bool (!(a == b)), True)
   | _, _ => none
 | _, _ => none
-- maps
/-- Do fields stand one by one? -/
def upFrom : Nat → List (Nat × TypeId) → Nat → Bool
 | n, [], m => n == m
 | n, (o, _) :: r, m => (o == n) && upFrom (n + 1) r m
/-- May a type be a key's? -/
def keyKind : TK → Bool
 | .int _ | .str | .bool => true
 | _ => false
def keyOk (T : Nat → TI) : TK → Bool
 | .struct fs => fs.all fun f => keyKind (T f.2).kind
 | k => keyKind k
/-- Is a key one of its type? -/
def keyGood (k : TK) (x : V) : Bool := match k, x with
 | .int k, .int j _ => k == j
 | .str, .str _ => true
 | .bool, .bool _ => true
 | .struct fs, .agg a => upFrom 0 fs a.length
 | _, _ => false
def keyEq (T : Nat → TI) (k : TK) (x y : V) : Option Bool := match k, x, y with
 | .struct fs, .agg a, .agg b => if a.length = b.length then eqFs T fs a b else none
 | k, x, y => eqCell k x y
/-- Where a key stands. -/
def mfind (T : Nat → TI) (k : TK) (x : V) : List (Nat × V × V) → Nat → Option (Option (Nat × V))
 | [], _ => some none
 | (_, y, v) :: r, i => match keyEq T k x y with
  | some true => some (some (i, v))
  | some false => mfind T k x r (i + 1)
  | none => none
def mset : Nat → V → V → List (Nat × V × V) → List (Nat × V × V)
 | _, _, _, [] => []
 | 0, x, v, (b, _, _) :: r => (b, x, v) :: r
 | i + 1, x, v, e :: r => e :: mset i x v r
def mput (c : Nat) (x v : V) (es : List (Nat × V × V)) : Option (Nat × V) → Nat × List (Nat × V × V)
 | some (i, _) => (c, mset i x v es)
 | none => (c + 1, es ++ [(c, x, v)])
def zeroV (i : TI) : V := if i.agg then .agg i.zero else i.zero.headD .junk
def lookR (ok : Bool) (v : V) (b : Bool) : V := bif ok then .tup [v, .bool b] else v
def lookF (ok : Bool) (z : V) : Option (Nat × V) → V
 | some (_, v) => lookR ok v true
 | none => lookR ok z false
def lookE (T : Nat → TI) (k : TK) (i : TI) (ok : Bool) (x : V) (st : St) : Option Ent → Option (V × St × Prop)
 | some (.map _ es) => (mfind T k x es 0).map fun r => (lookF ok (zeroV i) r, st, True)
 | _ => none
def mapLook (T : Nat → TI) (k : TK) (m x : V) (ok : Bool) (st : St) : Option (V × St × Prop) := match k with
 | .map kt et => if keyOk T (T kt).kind = true ∧ (T et).known = true ∧ keyGood (T kt).kind x = true then match m with
   | .nilm => some (lookR ok (zeroV (T et)) false, st, True)
   | .map o => lookE T (T kt).kind (T et) ok x st st[o]?
   | _ => none
  else none
 | _ => none
def putE (T : Nat → TI) (k : TK) (o : Nat) (x v : V) (st : St) : Option Ent → Option (V × St × Prop)
 | some (.map c es) => (mfind T k x es 0).map fun r => (.junk, st.set o (.map (mput c x v es r).1 (mput c x v es r).2), True)
 | _ => none
def mapPut (T : Nat → TI) (k : TK) (m x v : V) (st : St) : Option (V × St × Prop) := match k with
 | .map kt _ => if keyOk T (T kt).kind = true ∧ keyGood (T kt).kind x = true then match m with
   | .map o => putE T (T kt).kind o x v st st[o]?
   | _ => none
  else none
 | _ => none
def rangeE (o : Nat) (st : St) : Option Ent → Option (V × St × Prop)
 | some (.map c _) => some (.ptr st.length 0, st ++ [.iter o c []], True)
 | _ => none
def mapRange (k : TK) (m : V) (st : St) : Option (V × St × Prop) := match k, m with
 | .map _ _, .map o => rangeE o st st[o]?
 | _, _ => none
def lenE (st : St) : Option Ent → Option (V × St × Prop)
 | some (.map _ es) => some (.int .i64 es.length, st, True)
 | _ => none
def mapLen (T : Nat → TI) (args : List V) (ts : List TypeId) (st : St) : Option (V × St × Prop) := match args, ts with
 | [.map o], [t] => match (T t).kind with
  | .map _ _ => lenE st st[o]?
  | _ => none
 | _, _ => none
def makeMapE (k : TK) (st : St) : Option (V × St × Prop) := match k with
 | .map _ _ => some (.map st.length, st ++ [.map 0 []], True)
 | _ => none
/-- Whom a walk may meet next; or that it is over. -/
def leftOf' (es : List (Nat × V × V)) (seen : List Nat) : List (Nat × V × V) := es.filter fun e => !seen.contains e.1
def nextE (o m since : Nat) (seen : List Nat) (st : St) : Option Ent → Option (List (V × St))
 | some (.map c es) => if c = since then some (match leftOf' es seen with
   | [] => [(.tup [.bool false], st)]
   | l => l.map fun e => (.tup [.bool true, e.2.1, e.2.2], st.set o (.iter m since (seen ++ [e.1])))) else none
 | _ => none
def nextS (o : Nat) (st : St) : Option Ent → Option (List (V × St))
 | some (.iter m since seen) => nextE o m since seen st st[m]?
 | _ => none
def nextV (it : V) (st : St) : Option (List (V × St)) := match it with
 | .ptr o 0 => nextS o st st[o]?
 | _ => none
/-- The entry of a stamp. -/
def entF (b : Nat) : List (Nat × V × V) → Option (V × V)
 | [] => none
 | (c, k, v) :: r => if c = b then some (k, v) else entF b r
def entE (since : Nat) (seen : List Nat) (st : St) : Option Ent → Option (V × St × Prop)
 | some (.map c es) => if c = since then match seen.getLast? with
   | some b => (entF b es).map fun p => (.tup [p.1, p.2], st, True)
   | none => none
  else none
 | _ => none
def entS (st : St) : Option Ent → Option (V × St × Prop)
 | some (.iter m since seen) => entE since seen st st[m]?
 | _ => none
def entV (it : V) (st : St) : Option (V × St × Prop) := match it with
 | .ptr o 0 => entS st st[o]?
 | _ => none
/-- A value at cells: of a struct all, of another one the first. -/
def loadV (i : TI) (l : List V) : Option (V × Prop) :=
 if i.agg then some (.agg (l.take i.size), i.size ≤ l.length) else match l with | x :: _ => some (x, True) | [] => some (i.zero.headD .junk, False)
def fillV (T : Nat → TI) (fs : List (Nat × TypeId)) : List V → List (Nat × V) → Option (List V)
 | cs, [] => some cs
 | cs, (i, v) :: r =>
  match fs[i]?, v.cells with
  | some (off, ft), some l => if (T ft).sized = true ∧ l.length = (T ft).size ∧ off + l.length ≤ cs.length then fillV T fs (cs.take off ++ l ++ cs.drop (off + l.length)) r else none
  | _, _ => none
def sliceV (T : Nat → TI) (t : TypeId) (x : V) (lo hi : Option V) : Option (V × Prop) :=
 match (T t).kind, x with
 | .str, .str s =>
  match lo, hi with
  | none, none => some (.str s, True)
  | some (.int _ a), none => some (.str (s.drop a.toNat), 0 ≤ a ∧ a ≤ s.length)
  | none, some (.int _ b) => some (.str (s.take b.toNat), 0 ≤ b ∧ b ≤ s.length)
  | some (.int _ a), some (.int _ b) => some (.str ((s.take b.toNat).drop a.toNat), 0 ≤ a ∧ a ≤ b ∧ b ≤ s.length)
  | _, _ => none
 | .slice e, .lst sz _ l =>
  if (T e).sized = true ∧ sz = (T e).size then
   match lo, hi with
   | none, none => some (.lst sz none l, True)
   | some (.int _ a), none => some (.lst sz none (l.drop a.toNat), 0 ≤ a ∧ a ≤ l.length)
   | none, some (.int _ b) => some (.lst sz none (l.take b.toNat), 0 ≤ b ∧ b ≤ l.length)
   | some (.int _ a), some (.int _ b) => some (.lst sz none ((l.take b.toNat).drop a.toNat), 0 ≤ a ∧ a ≤ b ∧ b ≤ l.length)
   | _, _ => none
  else none
 | _, _ => none
/-- Builtins that leave the memory as it is. -/
def builtinV (T : Nat → TI) : Builtin → List V → List TypeId → Option (V × Prop)
 | .len, [x], [t] => match (T t).kind, x with
  | .str, .str s => some (.int .i64 s.length, True)
  | .slice _, .nils => some (.int .i64 0, True)
  | .slice _, .lst _ _ l => some (.int .i64 l.length, True)
  | .slice _, .arr _ n => some (.int .i64 n, True)
  | .map _ _, .nilm => some (.int .i64 0, True)
  | _, _ => none
 | .max, [.int k a, .int _ b], _ => some (.int k (if b > a then b else a), True)
 | .min, [.int k a, .int _ b], _ => some (.int k (if b < a then b else a), True)
 | _, _, _ => none
/-- Operations that leave the memory as it is. -/
def pureOp (T : Nat → TI) (op : Op) (ev : Operand → V) : Option (V × Prop) :=
 match op with
 | .move x | .assign x => some (ev x, True)
 | .nilCheck x => match ev x with
  | .ref l => some (.ref l, True)
  | .ptr o f => some (.ptr o f, True)
  | .eptr e n sz k f => some (.eptr e n sz k f, True)
  | .fn f c => some (.fn f c, ∀ n, f ≠ .method n)
  | .iface t v => some (.iface t v, True)
  | _ => none
 | .binOp op t x y _ => binV T (T t).kind op (ev x) (ev y)
 | .unOp .not _ x => match ev x with | .bool b => some (.bool (!b), True) | _ => none
 | .unOp .neg _ x => match ev x with | .int k n => some (.int k (k.wrap (0 - n)), True) | _ => none
 | .fieldAddr s x f => match (T s).kind with
  | .struct fs => match fs[f]? with
   | some (off, ft) => if (T ft).sized = false then none else match ev x with
    | .ref l => some (.ref (l.drop off), True)
    | .ptr o n => some (.ptr o (n + off), True)
    | .eptr e n sz k f => some (.eptr e n sz k (f + off), True)
    | _ => none
   | none => none
  | _ => none
 | .field s x f => match (T s).kind with
  | .struct fs => match fs[f]?, ev x with
   | some (off, ft), .agg l => if (T ft).sized = false then none else loadV (T ft) (l.drop off)
   | _, _ => none
  | _ => none
 | .indexAddr t x i => match (T t).kind, ev x, ev i with
  | .slice e, .lst sz _ l, .int _ n => if (T e).sized = true ∧ sz = (T e).size then some (.ref (l.getD n.toNat []), 0 ≤ n ∧ n < l.length) else none
  | _, _, _ => none
 | .index t x i => match (T t).kind, ev x, ev i with
  | .str, .str s, .int _ n => some (.int .u8 (s.getD n.toNat 0).toNat, 0 ≤ n ∧ n < s.length)
  | _, _, _ => none
 | .extract x i => match ev x with | .tup l => (l[i]?).map (·, True) | _ => none
 | .build t parts => match (T t).kind with
  | .struct fs => if (fs.all fun p => (T p.2).known) = false then none else (fillV T fs (T t).zero (parts.toList.map fun p => (p.1, ev p.2))).map fun l => (.agg l, True)
  | _ => none
 | .makeInterface t x => match (T t).kind with | .iface => none | .other => none | _ => if (T t).sized = false then none else some (.iface t (ev x), True)
 | .makeFunc f first c => match first.toList with | [] => some (.fn f (c.toList.map ev), True) | _ => none
 | .slice t x lo hi none => sliceV T t (ev x) (lo.map ev) (hi.map ev)
 | .call c => match c.callee with
  | .builtin b => builtinV T b (c.args.toList.map ev) c.argTypes.toList
  | _ => none
 | .load t x => match ev x with | .ref l => if (T t).sized = false then none else loadV (T t) l | _ => none
 | _ => none
end Go.Proofs.YtpllcpbhjglpaaaGreatDoor.Gw
namespace Go.Proofs.YtpllcpbhjglpaaaGreatDoor.Gw
open Go
theorem Tab.info {P : Program} {T : Nat → TI} (hT : Tab P T) {t : TypeId} (h : (T t).kind ≠ .other) :
  ∃ i, P.info? t = some i ∧ i.zero = some (T t).zval ∧ i.size = (T t).size ∧ i.bytes = (T t).bytes := by
 have := (hT t h).1
 cases hi : P.info? t with
 | none => simp [hi] at this
 | some i => simp [hi] at this; exact ⟨i, rfl, this.1, this.2.1, this.2.2⟩
theorem Tab.und {P : Program} {T : Nat → TI} (hT : Tab P T) {t : TypeId} (h : (T t).kind ≠ .other) :
  ∃ d, P.underlying t = some d ∧ TK.of d = (T t).kind := by
 have := (hT t h).2.1
 cases hi : P.underlying t with
 | none => simp [hi] at this
 | some i => simp [hi] at this; exact ⟨i, rfl, this⟩
theorem sized_kind {i : TI} (h : ¬ i.sized = false) : i.kind ≠ .other ∧ i.size ≠ 0 := by
 unfold TI.sized at h
 cases hk : i.kind <;> cases hs : i.size <;> simp_all
theorem Tab.struct {P : Program} {T : Nat → TI} (hT : Tab P T) {t : TypeId} {fs : List (Nat × TypeId)} (h : (T t).kind = .struct fs) :
  ∃ fa, P.underlying t = some (.struct fa) ∧ fa.toList.map (fun f => (f.offset, f.type)) = fs := by
 obtain ⟨d, hd, hk⟩ := hT.und (t := t) (by rw [h]; simp)
 rw [h] at hk
 cases d <;> simp [TK.of] at hk
 exact ⟨_, hd, hk⟩
theorem Tab.slice {P : Program} {T : Nat → TI} (hT : Tab P T) {t e : TypeId} (h : (T t).kind = .slice e) : P.underlying t = some (.slice e) := by
 obtain ⟨d, hd, hk⟩ := hT.und (t := t) (by rw [h]; simp)
 rw [h] at hk
 cases d <;> simp [TK.of] at hk
 subst hk; exact hd
theorem Tab.map {P : Program} {T : Nat → TI} (hT : Tab P T) {t k e : TypeId} (h : (T t).kind = .map k e) : P.underlying t = some (.map k e) := by
 obtain ⟨d, hd, hk⟩ := hT.und (t := t) (by rw [h]; simp)
 rw [h] at hk
 cases d <;> simp [TK.of] at hk
 obtain ⟨rfl, rfl⟩ := hk
 exact hd
theorem Tab.str {P : Program} {T : Nat → TI} (hT : Tab P T) {t : TypeId} (h : (T t).kind = .str) : P.underlying t = some .string := by
 obtain ⟨d, hd, hk⟩ := hT.und (t := t) (by rw [h]; simp)
 rw [h] at hk
 cases d <;> simp [TK.of] at hk
 exact hd
theorem Tab.bool {P : Program} {T : Nat → TI} (hT : Tab P T) {t : TypeId} (h : (T t).kind = .bool) : P.underlying t = some .bool := by
 obtain ⟨d, hd, hk⟩ := hT.und (t := t) (by rw [h]; simp)
 rw [h] at hk
 cases d <;> simp [TK.of] at hk
 exact hd
theorem Tab.int {P : Program} {T : Nat → TI} (hT : Tab P T) {t : TypeId} {k : IntKind} (h : (T t).kind = .int k) : P.underlying t = some (.int k) := by
 obtain ⟨d, hd, hk⟩ := hT.und (t := t) (by rw [h]; simp)
 rw [h] at hk
 cases d <;> simp [TK.of] at hk
 subst hk; exact hd
theorem Tab.isAgg {P : Program} {T : Nat → TI} (hT : Tab P T) {t : TypeId} (h : (T t).kind ≠ .other) (w : World) : (Go.isAgg t).run P w = .ok (T t).agg w := by
 obtain ⟨d, hd, hk⟩ := hT.und h
 have hu : (underlying t).run P w = .ok d w := by simp [underlying, hd]
 have hag : (T t).agg = (match TK.of d with | .struct _ => true | _ => false) := by rw [hk]; rfl
 have hna : ∀ n e, d ≠ .array n e := by intro n e he; subst he; simp [TK.of] at hk; exact h hk.symm
 rw [hag]
 clear hag hk hd
 unfold Go.isAgg
 cases d <;> first | (exact absurd rfl (hna _ _)) | simp [hu, TK.of]
theorem Tab.sizeOf {P : Program} {T : Nat → TI} (hT : Tab P T) {t : TypeId} (h : (T t).kind ≠ .other) (w : World) : (Go.sizeOf t).run P w = .ok (T t).size w := by
 obtain ⟨i, h1, h2, h3, h4⟩ := hT.info h
 simp [Go.sizeOf, typeInfo, h1, h3]
theorem Tab.one {P : Program} {T : Nat → TI} (hT : Tab P T) {t : TypeId} (h : (T t).kind ≠ .other) (ha : (T t).agg = false) : (T t).size = 1 := (hT t h).2.2.2.2.1 ha
theorem bytes_toList (s : List UInt8) : (ByteArray.mk s.toArray).toList = s := by
 rw [ByteArray.toList_eq]
theorem ofC1_sim {g : G} {w : World} {v : Value} {x : V} (h : V.ofC1 v = some x) : SimV g w x v ∧ v.oneCell' = true := by
 unfold V.ofC1 at h
 split at h
 ·cases h; exact ⟨by simp [SimV], rfl⟩
 ·cases h; exact ⟨by simp [SimV], rfl⟩
 ·split at h
  ·cases h; exact ⟨by simp only [SimV]; exact ⟨by simp, by omega⟩, rfl⟩
  ·cases h
 ·cases h; exact ⟨by simp [SimV], rfl⟩
 ·cases h; exact ⟨by simp [SimV], rfl⟩
 ·cases h; exact ⟨by simp [SimV], rfl⟩
 ·cases h; exact ⟨by simp [SimV], rfl⟩
 ·cases h; exact ⟨by simp [SimV], rfl⟩
 ·cases h
theorem ofCs_sim {g : G} {w : World} : ∀ {l : List Value} {xs : List V}, V.ofCs l = some xs → SimVs g w xs l ∧ ∀ u ∈ l, u.oneCell' = true
 | [], xs, h => by simp only [V.ofCs, Option.some.injEq] at h; subst h; simp [SimVs]
 | v :: r, xs, h => by
  simp only [V.ofCs] at h
  cases h1 : V.ofC1 v with
  | none => rw [h1] at h; simp [consO] at h
  | some x =>
   cases h2 : V.ofCs r with
   | none => rw [h1, h2] at h; simp [consO] at h
   | some ys =>
    rw [h1, h2] at h
    simp only [consO, Option.some.injEq] at h
    subst h
    obtain ⟨a1, a2⟩ := ofC1_sim (g := g) (w := w) h1
    obtain ⟨b1, b2⟩ := ofCs_sim (g := g) (w := w) h2
    refine ⟨by simp only [SimVs]; exact ⟨v, r, rfl, a1, b1⟩, fun u hu => ?_⟩
    rcases List.mem_cons.1 hu with rfl | hu
    ·exact a2
    ·exact b2 u hu
theorem aggR_sim {g : G} {w : World} {vs : Array Value} : SimV g w (aggR (V.ofCs vs.toList)) (.agg vs) := by
 cases h : V.ofCs vs.toList with
 | none => simp [aggR, SimV]
 | some l =>
  obtain ⟨a, b⟩ := ofCs_sim (g := g) (w := w) h
  simp only [aggR, SimV]
  exact ⟨vs.toList, by simp, a, b⟩
theorem ofConst_sim (g : G) (w : World) (v : Value) : SimV g w (V.ofConst v) v := by
 unfold V.ofConst
 split
 case h_9 => exact aggR_sim
 all_goals try simp [SimV]
 split <;> simp [SimV]
 omega
theorem SimVs.length {g : G} {w : World} : ∀ {x : List V} {v : List Value}, SimVs g w x v → v.length = x.length
 | [], _, h => by simp [SimVs] at h; simp [h]
 | x :: xs, _, h => by
  simp only [SimVs] at h
  obtain ⟨v, r, rfl, _, h3⟩ := h
  simp [h3.length]
theorem SimVs.get {g : G} {w : World} : ∀ {x : List V} {v : List Value} (i : Nat) {y : V}, SimVs g w x v → x[i]? = some y → ∃ z, v[i]? = some z ∧ SimV g w y z
 | [], _, i, y, h, hi => by simp at hi
 | x :: xs, _, 0, y, h, hi => by
  simp only [SimVs] at h
  obtain ⟨v, r, rfl, h2, _⟩ := h
  simp at hi; subst hi
  exact ⟨v, by simp, h2⟩
 | x :: xs, _, i + 1, y, h, hi => by
  simp only [SimVs] at h
  obtain ⟨v, r, rfl, _, h3⟩ := h
  simp at hi ⊢
  exact h3.get i hi
theorem SimVs.drop {g : G} {w : World} : ∀ {x : List V} {v : List Value} (n : Nat), SimVs g w x v → SimVs g w (x.drop n) (v.drop n)
 | [], _, n, h => by simp [SimVs] at h; simp [h, SimVs]
 | x :: xs, _, 0, h => by simpa using h
 | x :: xs, _, n + 1, h => by
  simp only [SimVs] at h
  obtain ⟨v, r, rfl, _, h3⟩ := h
  simpa using h3.drop n
theorem SimVs.take {g : G} {w : World} : ∀ {x : List V} {v : List Value} (n : Nat), SimVs g w x v → SimVs g w (x.take n) (v.take n)
 | [], _, n, h => by simp [SimVs] at h; simp [h, SimVs]
 | x :: xs, _, 0, h => by simp [SimVs]
 | x :: xs, _, n + 1, h => by
  simp only [SimVs] at h
  obtain ⟨v, r, rfl, h2, h3⟩ := h
  simp only [List.take_succ_cons, SimVs]
  exact ⟨v, _, rfl, h2, h3.take n⟩
theorem SimVs.append {g : G} {w : World} : ∀ {x y : List V} {v u : List Value}, SimVs g w x v → SimVs g w y u → SimVs g w (x ++ y) (v ++ u)
 | [], _, _, _, h, k => by simp [SimVs] at h; simpa [h] using k
 | x :: xs, y, _, u, h, k => by
  simp only [SimVs] at h
  obtain ⟨v, r, rfl, h2, h3⟩ := h
  simp only [List.cons_append, SimVs]
  exact ⟨v, _, rfl, h2, h3.append k⟩
theorem SimVs.mk_map {g : G} {w : World} {α : Type} (ev : α → V) (ρ : α → Value) : ∀ (l : List α), (∀ x ∈ l, SimV g w (ev x) (ρ x)) → SimVs g w (l.map ev) (l.map ρ)
 | [], _ => by simp [SimVs]
 | x :: xs, h => by
  simp only [List.map_cons, SimVs]
  exact ⟨_, _, rfl, h x (by simp), SimVs.mk_map ev ρ xs fun y hy => h y (by simp [hy])⟩
theorem Addr.add_spot {a : Addr} {n : Nat} (h : a.spot = none) : (a.add n).spot = none := by unfold Addr.add; split <;> simp_all
theorem Addr.add_eq {a : Addr} (h : a.spot = none) (n : Nat) : a.add n = ⟨a.block, a.off + n, none⟩ := by
 obtain ⟨b, o, s⟩ := a
 simp only at h; subst h
 unfold Addr.add; split <;> simp_all
theorem SimAt.drop {g : G} {w : World} : ∀ {x : List V} {a : Addr} (n : Nat), a.spot = none → SimAt g w a x → SimAt g w (a.add n) (x.drop n)
 | [], a, n, _, h => by simp [SimAt]
 | x :: xs, a, 0, ha, h => by simpa [Addr.add] using h
 | x :: xs, a, n + 1, ha, h => by
  simp only [SimAt] at h
  have := h.2.drop n (Addr.add_spot ha)
  have e : (a.add 1).add n = a.add (n + 1) := by
   rw [Addr.add_eq ha, Addr.add_eq ha, Addr.add_eq rfl]; simp only [Addr.mk.injEq, and_true, true_and]; omega
  rw [e] at this
  simpa using this
theorem SimAt.get {g : G} {w : World} : ∀ {x : List V} {a : Addr} (i : Nat) {y : V}, a.spot = none → SimAt g w a x → x[i]? = some y → ∃ z, w.cell? (a.add i) = some z ∧ SimV g w y z
 | [], _, i, y, _, h, hi => by simp at hi
 | x :: xs, a, 0, y, ha, h, hi => by
  simp only [SimAt] at h
  obtain ⟨⟨v, _, h2, _, h3⟩, _⟩ := h
  simp at hi; subst hi
  exact ⟨v, by simpa [Addr.add] using h2, h3⟩
 | x :: xs, a, i + 1, y, ha, h, hi => by
  simp only [SimAt] at h
  obtain ⟨z, h1, h2⟩ := h.2.get i (Addr.add_spot ha) (by simpa using hi)
  have e : (a.add 1).add i = a.add (i + 1) := by
   rw [Addr.add_eq ha, Addr.add_eq ha, Addr.add_eq rfl]; simp only [Addr.mk.injEq, and_true, true_and]; omega
  rw [e] at h1
  exact ⟨z, h1, h2⟩
/-- The cells that lie at an address, as a list. -/
theorem SimAt.list {g : G} {w : World} : ∀ {x : List V} {a : Addr}, a.spot = none → SimAt g w a x → ∃ vs : List Value, SimVs g w x vs ∧ (∀ u ∈ vs, u.oneCell' = true) ∧ ∀ j u, vs[j]? = some u → w.cell? (a.add j) = some u
 | [], a, _, _ => ⟨[], by simp [SimVs], by simp, by simp⟩
 | x :: xs, a, ha, h => by
  simp only [SimAt] at h
  obtain ⟨⟨v, _, h2, h0, h3⟩, h4⟩ := h
  obtain ⟨vs, k1, k0, k2⟩ := SimAt.list (Addr.add_spot ha) h4
  refine ⟨v :: vs, by simp only [SimVs]; exact ⟨v, vs, rfl, h3, k1⟩, by simpa using ⟨h0, k0⟩, fun j u hu => ?_⟩
  cases j with
  | zero => simp at hu; subst hu; simpa [Addr.add] using h2
  | succ j =>
   have e : (a.add 1).add j = a.add (j + 1) := by
    rw [Addr.add_eq ha, Addr.add_eq ha, Addr.add_eq rfl]; simp only [Addr.mk.injEq, and_true, true_and]; omega
   rw [← e]; exact k2 j u (by simpa using hu)
theorem SimAt.take {g : G} {w : World} : ∀ {x : List V} {a : Addr} (n : Nat), SimAt g w a x → SimAt g w a (x.take n)
 | [], a, n, h => by simp [SimAt]
 | x :: xs, a, 0, h => by simp [SimAt]
 | x :: xs, a, n + 1, h => by
  simp only [SimAt, List.take_succ_cons] at h ⊢
  exact ⟨h.1, h.2.take n⟩
theorem SimRows.get {g : G} {w : World} : ∀ {l : List (List V)} {a : Addr} {sz : Nat} (i : Nat) {r : List V}, a.spot = none → SimRows g w a sz l → l[i]? = some r → SimAt g w (a.add (i * sz)) r ∧ r.length = sz
 | [], _, _, i, r, _, h, hi => by simp at hi
 | x :: xs, a, sz, 0, r, ha, h, hi => by
  simp only [SimRows] at h
  simp at hi; subst hi
  exact ⟨by simpa [Addr.add] using h.2.1, h.1⟩
 | x :: xs, a, sz, i + 1, r, ha, h, hi => by
  simp only [SimRows] at h
  obtain ⟨h1, h2⟩ := h.2.2.get i (Addr.add_spot ha) (by simpa using hi)
  have e : (a.add sz).add (i * sz) = a.add ((i + 1) * sz) := by
   rw [Addr.add_eq ha, Addr.add_eq ha, Addr.add_eq rfl]; simp only [Addr.mk.injEq, and_true, true_and, Nat.succ_mul]; omega
  rw [e] at h1
  exact ⟨h1, h2⟩
/-- Loading at cells that are known. -/
theorem load_cells {P : Program} {T : Nat → TI} (hT : Tab P T) {g : G} {w : World} {t : TypeId} (ht : (T t).kind ≠ .other) {l : List V} {v : V} {side : Prop} {a : Addr} {vs : List Value}
  (hl : SimVs g w l vs) (ho : ∀ u ∈ vs, u.oneCell' = true) (hc : ∀ j u, vs[j]? = some u → w.cell? (a.add j) = some u) (h : loadV (T t) l = some (v, side)) (hs : side) :
  ∃ val, (loadVar t a).run P w = .ok val w ∧ SimV g w v val := by
 unfold loadV at h
 unfold loadVar
 simp only [Sem.run_bind, hT.isAgg ht, Result.andThen_ok, Sem.run_ite]
 split at h
 ·rename_i hg
  simp only [Option.some.injEq, Prod.mk.injEq] at h
  obtain ⟨rfl, rfl⟩ := h
  simp only [hg, if_true]
  have hlen : (vs.take (T t).size).length = (T t).size := by rw [List.length_take, hl.length]; omega
  simp only [hT.sizeOf ht, Result.andThen_ok]
  refine ⟨.agg (vs.take (T t).size).toArray, ?_, by simp only [SimV]; exact ⟨_, rfl, hl.take _, fun u hu => ho u (List.mem_of_mem_take hu)⟩⟩
  have := run_loadCells_list (P := P) w a (vs.take (T t).size) fun j u hu => hc j u (by rw [List.getElem?_take] at hu; split at hu <;> simp_all)
  rw [hlen] at this
  rw [this]
  rfl
 ·rename_i hg
  simp only [hg]
  cases l with
  | nil => simp only [Option.some.injEq, Prod.mk.injEq] at h; obtain ⟨_, rfl⟩ := h; exact hs.elim
  | cons x xs =>
   simp only [Option.some.injEq, Prod.mk.injEq] at h
   obtain ⟨rfl, rfl⟩ := h
   obtain ⟨z, h1, h2⟩ := hl.get 0 (by simp : (x :: xs)[0]? = some x)
   have h1 := hc 0 z h1
   simp only [Addr.add, if_true] at h1
   refine ⟨z, ?_, h2⟩
   simp [h1]
/-- Loading at sealed cells. -/
theorem load_sealed {P : Program} {T : Nat → TI} (hT : Tab P T) {g : G} {w : World} {t : TypeId} (ht : (T t).kind ≠ .other) {l : List V} {v : V} {side : Prop} {a : Addr} (ha : a.spot = none)
  (hl : SimAt g w a l) (h : loadV (T t) l = some (v, side)) (hs : side) : ∃ val, (loadVar t a).run P w = .ok val w ∧ SimV g w v val := by
 obtain ⟨vs, k1, k0, k2⟩ := hl.list ha
 exact load_cells hT ht k1 k0 k2 h hs
end Go.Proofs.YtpllcpbhjglpaaaGreatDoor.Gw
namespace Go.Proofs.YtpllcpbhjglpaaaGreatDoor.Gw
open Go
section
variable {P : Program} {T : Nat → TI} {g : G} {w : World} {dst : Option Tmp} {ty : TypeId} {pos : String} {aft : Array Edge} {gd : Option (Nat × Bool)}
theorem Tab.eq {P : Program} {T : Nat → TI} (hT : Tab P T) {t : TypeId} {fs : List (Nat × TypeId)} (h : (T t).kind = .struct fs) :
  P.stoodInHeld t = false ∧ P.eqGuardType P.depth t = false ∧ ((P.fieldsOf t).any (·.name == "_")) = false ∧ P.underlying t = some (.struct (P.fieldsOf t)) ∧ (P.fieldsOf t).toList.map (fun f => (f.offset, f.type)) = fs := by
 have h5 := (hT t (by rw [h]; simp)).2.2.2.2.2 (by unfold TI.agg; rw [h])
 simp only [Bool.or_eq_false_iff] at h5
 obtain ⟨fa, hu, hf⟩ := hT.struct h
 have e : P.fieldsOf t = fa := by unfold Program.fieldsOf; rw [hu]
 exact ⟨h5.1.1, h5.1.2, h5.2, by rw [e]; exact hu, by rw [e]; exact hf⟩
theorem s_part {P : Program} {T : Nat → TI} {w : World} (hT : Tab P T) {t : TypeId} (hk : (T t).kind ≠ .other) (ha : (T t).agg = false) {cs : Array Value} {off : Nat} {v : Value} (h : cs[off]? = some v) : (part t cs off).run P w = .ok v w := by
 unfold part
 simp [hT.isAgg hk w, ha, h]
theorem s_eqCell {P : Program} {T : Nat → TI} {g : G} {w : World} (hT : Tab P T) {t : TypeId} {a b : V} {x y : Value} {p : Bool} (d : Nat) (ha : SimV g w a x) (hb : SimV g w b y) (h : eqCell (T t).kind a b = some p) :
  (T t).kind ≠ .other ∧ (T t).agg = false ∧ (Op.equalIn (d + 1) t x y).run P w = .ok p w := by
 unfold eqCell at h
 split at h
 ·rename_i k j a j' b hk
  split at h
  ·rename_i hj
   obtain ⟨rfl, rfl⟩ := hj
   simp only [SimV] at ha hb
   subst ha hb
   simp only [Option.some.injEq] at h
   subst h
   refine ⟨by rw [hk]; simp, by unfold TI.agg; rw [hk], ?_⟩
   rw [run_equalIn_int w d t _ _ _ _ (hT.int hk)]
   by_cases e : a = b <;> simp [e]
  ·cases h
 ·rename_i a b hk
  simp only [SimV] at ha hb
  obtain ⟨rfl, _⟩ := ha
  obtain ⟨rfl, _⟩ := hb
  simp only [Option.some.injEq] at h
  subst h
  refine ⟨by rw [hk]; simp, by unfold TI.agg; rw [hk], ?_⟩
  rw [run_equalIn_string w d t _ _ (hT.str hk), bytes_toList, bytes_toList]
  by_cases e : a = b <;> simp [e]
 ·rename_i a b hk
  simp only [SimV] at ha hb
  subst ha hb
  simp only [Option.some.injEq] at h
  subst h
  exact ⟨by rw [hk]; simp, by unfold TI.agg; rw [hk], run_equalIn_bool' w d t a b (hT.bool hk)⟩
 ·cases h
theorem s_eqFs {P : Program} {T : Nat → TI} {g : G} {w : World} (hT : Tab P T) (d : Nat) {a b : List V} {xs ys : List Value} (ha : SimVs g w a xs) (hb : SimVs g w b ys) :
  ∀ (l : List Field) (p : Bool), l.any (·.name == "_") = false → eqFs T (l.map fun f => (f.offset, f.type)) a b = some p → (Op.eqFields (d + 1) xs.toArray ys.toArray l).run P w = .ok p w
 | [], p, _, h => by simp only [List.map_nil, eqFs, Option.some.injEq] at h; subst h; simp [Op.eqFields]
 | f :: r, p, hn, h => by
  simp only [List.any_cons, Bool.or_eq_false_iff] at hn
  simp only [List.map_cons, eqFs] at h
  split at h
  ·rename_i x y hx hy
   obtain ⟨u, u1, u2⟩ := ha.get _ hx
   obtain ⟨v, v1, v2⟩ := hb.get _ hy
   cases hc : eqCell (T f.type).kind x y with
   | none => rw [hc] at h; simp at h
   | some q =>
    rw [hc] at h
    simp only [Option.bind_some, Option.map_eq_some_iff] at h
    obtain ⟨q2, h2, rfl⟩ := h
    obtain ⟨k1, k2, k3⟩ := s_eqCell hT (t := f.type) d u2 v2 hc
    have ih := s_eqFs hT d ha hb r q2 hn.2 h2
    have e1 := s_part (w := w) hT k1 k2 (cs := xs.toArray) (off := f.offset) (v := u) (by simpa using u1)
    have e2 := s_part (w := w) hT k1 k2 (cs := ys.toArray) (off := f.offset) (v := v) (by simpa using v1)
    have e3 : ¬ f.name = "_" := by simpa using hn.1
    simp only [Op.eqFields, ne_eq, e3, not_false_eq_true, if_true, Sem.run_bind, e1, e2, k3, Result.andThen_ok]
    cases q
    ·simp
    ·simpa using ih
  ·cases h
theorem s_binV (hT : Tab P T) {t : TypeId} (hk : (T t).kind = .bool → P.underlying t = some .bool) {op : BinOp} {x y : Operand} {xt : TypeId} {ρ : Operand → Value} {a b v : V} {side : Prop} (ha : SimV g w a (ρ x)) (hb : SimV g w b (ρ y))
  (h : binV T (T t).kind op a b = some (v, side)) (hs : side) :
  ∃ val, (execOp ρ ⟨dst, .binOp op t x y xt, ty, pos, aft, gd⟩).run P w = .ok (.value val) w ∧ SimV g w v val := by
 generalize hkk : (T t).kind = k at h hk
 unfold binV at h
 split at h
 ·rename_i l m
  simp only [SimV] at ha hb
  obtain ⟨xs, hx1, hx2, _⟩ := ha
  obtain ⟨ys, hy1, hy2, _⟩ := hb
  unfold aggEq at h
  split at h
  ·rename_i fs
   obtain ⟨t1, t2, t3, t4, t5⟩ := hT.eq hkk
   simp only [Option.map_eq_some_iff, Prod.mk.injEq] at h
   obtain ⟨p, h1, rfl, rfl⟩ := h
   have := s_eqFs (P := P) hT 9998 hx2 hy2 (P.fieldsOf t).toList p (by simpa using t3) (by rw [t5]; exact h1)
   refine ⟨.bool p, ?_, by simp only [SimV]⟩
   simp only [execOp, hx1, hy1, Sem.run_bind, run_eqGuard_agg w _ _ _ _ _ _ t2, Result.andThen_ok, run_eql_struct, run_equalIn_struct w 9999 t _ _ t4 t1, this, Sem.run_pure]
  ·rename_i fs
   obtain ⟨t1, t2, t3, t4, t5⟩ := hT.eq hkk
   simp only [Option.map_eq_some_iff, Prod.mk.injEq] at h
   obtain ⟨p, h1, rfl, rfl⟩ := h
   have := s_eqFs (P := P) hT 9998 hx2 hy2 (P.fieldsOf t).toList p (by simpa using t3) (by rw [t5]; exact h1)
   refine ⟨.bool (!p), ?_, by simp only [SimV]⟩
   simp only [execOp, hx1, hy1, Sem.run_bind, run_eqGuard_agg w _ _ _ _ _ _ t2, Result.andThen_ok, run_neq_struct, run_equalIn_struct w 9999 t _ _ t4 t1, this, Sem.run_pure]
  ·cases h
 ·rename_i j i j' i'
  split at h
  ·rename_i hj
   subst hj
   simp only [SimV] at ha hb
   simp only [execOp, ha, hb]
   cases op <;> simp only [Option.some.injEq, Prod.mk.injEq, reduceCtorEq] at h <;> obtain ⟨rfl, rfl⟩ := h <;> refine ⟨_, ?_, by simp only [SimV]; rfl⟩ <;>
    simp_all [eqGuard, binOp, Op.intArith, Op.intCmp, Op.intDiv]
   ·by_cases e : i = i' <;> simp [e]
   ·by_cases e : i = i' <;> simp [e]
  ·simp at h
 ·rename_i i j
  simp only [SimV] at ha hb
  obtain ⟨ha, la⟩ := ha
  obtain ⟨hb, lb⟩ := hb
  simp only [execOp, ha, hb]
  have e1 : (ByteArray.mk i.toArray).toList = i := bytes_toList i
  have e2 : (ByteArray.mk j.toArray).toList = j := bytes_toList j
  have e3 : ByteArray.mk i.toArray ++ ByteArray.mk j.toArray = ByteArray.mk (i ++ j).toArray := by
   apply ByteArray.ext; simp [ByteArray.data_append]
  have e4 : (ByteArray.mk i.toArray).size = i.length := by simp [ByteArray.size]
  have e5 : (ByteArray.mk j.toArray).size = j.length := by simp [ByteArray.size]
  have e6 : (i == j) = decide (i = j) := by by_cases e : i = j <;> simp [e]
  have e7 : IntKind.i64.max = 9223372036854775807 := by decide
  cases op <;> simp only [Option.some.injEq, Prod.mk.injEq, reduceCtorEq] at h <;> obtain ⟨rfl, rfl⟩ := h <;> (first | refine ⟨_, ?_, by simp only [SimV]; rfl⟩ | refine ⟨_, ?_, by simp only [SimV]; exact ⟨rfl, by simpa using hs⟩⟩) <;>
   simp [eqGuard, binOp, Op.stringOp, e1, e2, e3, e4, e5, e6, e7]
  omega
 ·rename_i i j
  simp only [SimV] at ha hb
  simp only [execOp, ha, hb]
  split at h <;> simp only [Option.some.injEq, Prod.mk.injEq, reduceCtorEq] at h <;> obtain ⟨rfl, rfl⟩ := h <;> refine ⟨_, ?_, by simp only [SimV]; rfl⟩
  ·simp [eqGuard, run_eql_bool w t i j (hk rfl)]
  ·simp [eqGuard, run_neq_bool w t i j (hk rfl)]
 ·simp at h
theorem one_sim : ∀ {v : V} {u : Value}, v.isOne = true → SimV g w v u → u.cells = #[u] ∧ u.oneCell' = true := by
 intro v u h1 h2
 cases v <;> simp [V.isOne] at h1 <;> simp only [SimV] at h2 <;>
  first
  | (subst h2; exact ⟨rfl, rfl⟩)
  | (obtain ⟨rfl, _⟩ := h2; exact ⟨rfl, rfl⟩)
  | (obtain ⟨_, _, h2 | h2⟩ := h2 <;> subst h2 <;> exact ⟨rfl, rfl⟩)
  | (obtain ⟨_, _, _, rfl, _⟩ := h2; exact ⟨rfl, rfl⟩)
  | (obtain ⟨_, _, rfl, _⟩ := h2; exact ⟨rfl, rfl⟩)
  | (obtain ⟨_, _, _, _, _, rfl⟩ := h2; exact ⟨rfl, rfl⟩)
  | (obtain ⟨_, rfl, _⟩ := h2; exact ⟨rfl, rfl⟩)
  | (obtain ⟨_, rfl⟩ := h2; exact ⟨rfl, rfl⟩)
theorem cells_sim {v : V} {u : Value} {l : List V} (h : v.cells = some l) (h2 : SimV g w v u) : SimVs g w l u.cells.toList ∧ ∀ x ∈ u.cells.toList, x.oneCell' = true := by
 cases hv : v with
 | agg l' =>
  subst hv
  simp only [V.cells, Option.some.injEq] at h
  subst h
  simp only [SimV] at h2
  obtain ⟨vs, rfl, h3, h4⟩ := h2
  simpa [Value.cells] using ⟨h3, h4⟩
 | tup l' => subst hv; simp [V.cells] at h
 | junk => subst hv; simp [V.cells] at h
 | _ =>
  all_goals
   have h1 : v.isOne = true := by rw [hv]; rfl
   have h3 : l = [v] := by rw [hv] at h ⊢; simpa [V.cells] using h.symm
   rw [h3, (one_sim h1 h2).1]
   simp only [SimVs]
   exact ⟨⟨u, [], rfl, h2, rfl⟩, by simpa using (one_sim h1 h2).2⟩
theorem foldl_set (vs : List Value) : ∀ (k : Nat) (cs : List Value) (off : Nat), off + k + vs.length ≤ cs.length →
  ((vs.zipIdx k).foldl (fun (cs : Array Value) (x : Value × Nat) => cs.setIfInBounds (off + x.2) x.1) cs.toArray) = (cs.take (off + k) ++ vs ++ cs.drop (off + k + vs.length)).toArray := by
 induction vs with
 | nil => intro k cs off h; simp
 | cons v vs ih =>
  intro k cs off h
  simp only [List.zipIdx_cons, List.foldl_cons]
  have e : cs.toArray.setIfInBounds (off + k) v = (cs.set (off + k) v).toArray := by simp
  rw [e, ih (k + 1) _ off (by simp at h ⊢; omega)]
  congr 1
  simp only [List.length_cons] at h ⊢
  apply List.ext_getElem?
  intro i
  simp only [List.getElem?_append, List.length_append, List.length_take, List.length_set, List.getElem?_take, List.getElem?_drop, List.getElem?_set]
  have hk : min (off + (k + 1)) cs.length = off + k + 1 := by omega
  have hk2 : min (off + k) cs.length = off + k := by omega
  simp only [hk, hk2, List.length_cons]
  by_cases h1 : i < off + k
  ·rw [if_pos (by omega), if_pos (by omega), if_pos (by omega), if_neg (by omega), if_pos (by omega), if_pos (by omega), if_pos h1]
  ·by_cases h2 : i = off + k
   ·subst h2
    rw [if_pos (by omega), if_pos (by omega), if_pos (by omega), if_pos rfl, if_pos (by omega), if_pos (by omega), if_neg (by omega)]
    simp
   ·by_cases h3 : i < off + k + 1 + vs.length
    ·rw [if_pos (by omega), if_neg (by omega), if_pos (by omega), if_neg (by omega)]
     have : i - (off + k) = (i - (off + k + 1)) + 1 := by omega
     rw [this]; simp
    ·rw [if_neg (by omega), if_neg (by omega), if_neg (by omega)]
     congr 1; omega
theorem fillV_sound (hT : Tab P T) (fs : List (Nat × TypeId)) (fa : List Field) (hf : fa.map (fun f => (f.offset, f.type)) = fs) (pl : Nat → Option (Nat × Nat)) (hpl : ∀ i f, fa[i]? = some f → (T f.type).sized = true → pl i = some (f.offset, (T f.type).size)) :
  ∀ (parts : List (Nat × V)) (vparts : List (Nat × Value)) (cs : List V) (vcs : List Value) (out : List V),
   parts.length = vparts.length → (∀ (i : Nat) (p : Nat × V) (q : Nat × Value), parts[i]? = some p → vparts[i]? = some q → p.1 = q.1 ∧ SimV g w p.2 q.2) →
   SimVs g w cs vcs → (∀ x ∈ vcs, x.oneCell' = true) → fillV T fs cs parts = some out → ∃ vout : List Value, Instr.fill pl vcs.toArray vparts = some vout.toArray ∧ SimVs g w out vout ∧ ∀ x ∈ vout, x.oneCell' = true
 | [], vparts, cs, vcs, out, hl, hp, hc, ho, h => by
  have : vparts = [] := by simpa using hl.symm
  subst this
  simp only [fillV, Option.some.injEq] at h
  subst h
  exact ⟨_, rfl, hc, ho⟩
 | (i, v) :: r, [], cs, vcs, out, hl, hp, hc, ho, h => by simp at hl
 | (i, v) :: r, (j, u) :: q, cs, vcs, out, hl, hp, hc, ho, h => by
  obtain ⟨h1, h2⟩ := hp 0 (i, v) (j, u) rfl rfl
  simp only at h1 h2
  subst h1
  simp only [fillV] at h
  split at h
  ·rename_i off ft l hfi hvc
   split at h
   ·rename_i hlen
    obtain ⟨hsz, hlen, hb⟩ := hlen
    rw [← hf, List.getElem?_map] at hfi
    cases hfa : fa[i]? with
    | none => simp [hfa] at hfi
    | some f =>
     simp only [hfa, Option.map_some, Option.some.injEq, Prod.mk.injEq] at hfi
     obtain ⟨rfl, rfl⟩ := hfi
     have hpi := hpl i f hfa hsz
     obtain ⟨hcells, hone⟩ := cells_sim hvc h2
     have hul : u.cells.toList.length = l.length := hcells.length
     have hus : u.cells.size = l.length := by simpa using hul
     have hcl := hc.length
     obtain ⟨vout, k1, k2⟩ := fillV_sound hT fs fa hf pl hpl r q _ (vcs.take f.offset ++ u.cells.toList ++ vcs.drop (f.offset + l.length)) out (by simpa using hl)
      (fun k p q' hpk hqk => hp (k + 1) p q' (by simpa using hpk) (by simpa using hqk)) (((hc.take _).append hcells).append (hc.drop _))
      (fun x hx => by
       simp only [List.mem_append] at hx
       rcases hx with (hx | hx) | hx
       ·exact ho x (List.mem_of_mem_take hx)
       ·exact hone x hx
       ·exact ho x (List.mem_of_mem_drop hx)) h
     refine ⟨vout, ?_, k2⟩
     simp only [Instr.fill, hpi]
     rw [if_neg (by simp [hus, hlen]; omega), ← k1]
     congr 1
     have hz : u.cells.zipIdx.foldl (fun cs x => cs.setIfInBounds (f.offset + x.2) x.1) vcs.toArray = (u.cells.toList.zipIdx.foldl (fun (cs : Array Value) (x : Value × Nat) => cs.setIfInBounds (f.offset + x.2) x.1) vcs.toArray) := by
      rw [← Array.foldl_toList, Array.toList_zipIdx]
     rw [hz, foldl_set _ 0 _ _ (by omega), hul]
     simp
   ·simp at h
  ·simp at h
end
end Go.Proofs.YtpllcpbhjglpaaaGreatDoor.Gw
namespace Go.Proofs.YtpllcpbhjglpaaaGreatDoor.Gw
open Go
set_option linter.unusedSimpArgs false
section
variable {P : Program} {T : Nat → TI} {g : G} {w : World} {dst : Option Tmp} {ty : TypeId} {pos : String} {aft : Array Edge} {gd : Option (Nat × Bool)}
theorem run_sliceBound_ok (k : IntKind) (n : Int) (y : Nat) (c : BoundsCode) (h : 0 ≤ n ∧ n ≤ y) : (Instr.sliceBound (.int k n) y c).run P w = .ok n.toNat w := by
 simp [Instr.sliceBound, asIntOf, h]
theorem str_extract (s : List UInt8) (a b : Nat) : (ByteArray.mk s.toArray).extract a b = ByteArray.mk ((s.take b).drop a).toArray := by
 apply ByteArray.ext
 rw [ByteArray.data_extract]
 apply Array.ext'
 simp [List.drop_take]
theorem size_mk (s : List UInt8) : (ByteArray.mk s.toArray).size = s.length := by simp [ByteArray.size]
theorem SimRows.drop : ∀ {l : List (List V)} {a : Addr} {sz : Nat} (n : Nat), a.spot = none → SimRows g w a sz l → SimRows g w (a.add (n * sz)) sz (l.drop n)
 | [], _, _, n, _, h => by simp [SimRows]
 | x :: xs, a, sz, 0, ha, h => by simpa [Addr.add] using h
 | x :: xs, a, sz, n + 1, ha, h => by
  simp only [SimRows] at h
  have := h.2.2.drop n (Addr.add_spot ha)
  have e : (a.add sz).add (n * sz) = a.add ((n + 1) * sz) := by
   rw [Addr.add_eq ha, Addr.add_eq ha, Addr.add_eq rfl]; simp only [Addr.mk.injEq, and_true, true_and, Nat.succ_mul]; omega
  rw [e] at this
  simpa using this
theorem SimRows.take : ∀ {l : List (List V)} {a : Addr} {sz : Nat} (n : Nat), SimRows g w a sz l → SimRows g w a sz (l.take n)
 | [], _, _, n, h => by simp [SimRows]
 | x :: xs, a, sz, 0, h => by simp [SimRows]
 | x :: xs, a, sz, n + 1, h => by
  simp only [SimRows, List.take_succ_cons] at h ⊢
  exact ⟨h.1, h.2.1, h.2.2.take n⟩
theorem SimRows.append : ∀ {l m : List (List V)} {a : Addr} {sz : Nat}, a.spot = none → SimRows g w a sz l → SimRows g w (a.add (l.length * sz)) sz m → SimRows g w a sz (l ++ m)
 | [], m, a, sz, ha, h, k => by simpa [Addr.add] using k
 | x :: xs, m, a, sz, ha, h, k => by
  simp only [SimRows, List.cons_append] at h ⊢
  refine ⟨h.1, h.2.1, h.2.2.append (Addr.add_spot ha) ?_⟩
  have e : (a.add sz).add (xs.length * sz) = a.add ((x :: xs).length * sz) := by
   rw [Addr.add_eq ha, Addr.add_eq ha, Addr.add_eq rfl]; simp only [Addr.mk.injEq, and_true, true_and, List.length_cons, Nat.succ_mul]; omega
  rw [e]; exact k
/-- A list's spots are plain. -/
theorem SimRows.any {l : List (List V)} {a : Addr} {sz : Nat} (h : l = []) : SimRows g w a sz l := by subst h; simp [SimRows]
theorem s_slice (hT : Tab P T) {t : TypeId} {x : V} {rx : Value} {lo hi : Option V} {rlo rhi : Option Value} {v : V} {side : Prop} (hx : SimV g w x rx)
  (hlo : ∀ y, lo = some y → ∃ z, rlo = some z ∧ SimV g w y z) (hlo' : lo = none → rlo = none) (hhi : ∀ y, hi = some y → ∃ z, rhi = some z ∧ SimV g w y z) (hhi' : hi = none → rhi = none)
  (h : sliceV T t x lo hi = some (v, side)) (hs : side) : ∃ val, (Instr.sliceAt t rx rlo rhi none).run P w = .ok val w ∧ SimV g w v val := by
 unfold sliceV at h
 split at h
 ·rename_i s hk
  have hu := hT.str hk
  have hu' : (underlying t).run P w = .ok .string w := by simp [underlying, hu]
  simp only [SimV] at hx
  obtain ⟨rfl, hlen⟩ := hx
  split at h <;> simp only [Option.some.injEq, Prod.mk.injEq, reduceCtorEq] at h <;> obtain ⟨rfl, rfl⟩ := h
  ·rw [hlo' rfl, hhi' rfl]
   refine ⟨.string ⟨s.toArray⟩, ?_, by simp [SimV, hlen]⟩
   have : (ByteArray.mk s.toArray).extract 0 s.length = ⟨s.toArray⟩ := by rw [str_extract]; simp
   simp [Instr.sliceAt, Instr.slice, Instr.sliceBounds, hu', this, size_mk]
  ·rename_i k a
   obtain ⟨z, rfl, hz⟩ := hlo _ rfl
   rw [hhi' rfl]
   simp only [SimV] at hz; subst hz
   refine ⟨_, ?_, by simp only [SimV]; exact ⟨rfl, by simp; omega⟩⟩
   have := run_sliceBound_ok (P := P) (w := w) k a s.length .sliceB hs
   have e : (ByteArray.mk s.toArray).extract a.toNat s.length = ⟨(s.drop a.toNat).toArray⟩ := by rw [str_extract]; simp
   simp [Instr.sliceAt, Instr.slice, Instr.sliceBounds, hu', size_mk, this, e]
  ·rename_i k a
   obtain ⟨z, rfl, hz⟩ := hhi _ rfl
   rw [hlo' rfl]
   simp only [SimV] at hz; subst hz
   refine ⟨_, ?_, by simp only [SimV]; exact ⟨rfl, by simp; omega⟩⟩
   have := run_sliceBound_ok (P := P) (w := w) k a s.length .sliceAlen hs
   have e : (ByteArray.mk s.toArray).extract 0 a.toNat = ⟨(s.take a.toNat).toArray⟩ := by rw [str_extract]; simp
   simp [Instr.sliceAt, Instr.slice, Instr.sliceBounds, hu', size_mk, this, e]
  ·rename_i k a k' b
   obtain ⟨z, rfl, hz⟩ := hlo _ rfl
   obtain ⟨z', rfl, hz'⟩ := hhi _ rfl
   simp only [SimV] at hz hz'; subst hz; subst hz'
   obtain ⟨s1, s2, s3⟩ := hs
   refine ⟨_, ?_, by simp only [SimV]; exact ⟨rfl, by simp; omega⟩⟩
   have e1 := run_sliceBound_ok (P := P) (w := w) k' b s.length .sliceAlen (by omega)
   have e2 := run_sliceBound_ok (P := P) (w := w) k a b.toNat .sliceB (by omega)
   simp [Instr.sliceAt, Instr.slice, Instr.sliceBounds, hu', size_mk, e1, e2, str_extract]
 ·rename_i e sz tk l hk
  have hu := hT.slice hk
  have hu' : (underlying t).run P w = .ok (.slice e) w := by simp [underlying, hu]
  simp only [SimV] at hx
  obtain ⟨ad, cap, rfl, c1, c2, c3, c0, -, c5⟩ := hx
  split at h
  case isFalse => simp at h
  rename_i hsz
  obtain ⟨hsd, hsz⟩ := hsz
  have hso : (Go.sizeOf e).run P w = .ok sz w := by rw [hT.sizeOf (sized_kind (by simp [hsd])).1, hsz]
  have key : ∀ a b : Nat, a ≤ b → b ≤ l.length → SimV g w (.lst sz none ((l.take b).drop a)) (.slice (if cap = a then ad else ad.map (·.add (a * sz))) (b - a) (cap - a)) := by
   intro a b hab hbl
   simp only [SimV]
   refine ⟨_, _, by rw [show ((l.take b).drop a).length = b - a by simp; omega], by simp; omega, by omega, ?_, ?_, by simp, ?_⟩
   ·intro hn
    split at hn
    ·omega
    ·cases ad with
     | none => have := c3 rfl; omega
     | some ad => simp at hn
   ·rcases c0 with c0 | c0
    ·exact .inl (by rw [c0]; simp)
    ·right
     split
     ·exact c0
     ·cases ad with
      | none => simp
      | some ad => simp at c0 ⊢; exact Addr.add_spot c0
   ·rcases c0 with c0 | c0
    ·exact SimRows.any (by rw [c0]; simp)
    ·split
     ·have : (l.take b).drop a = [] := by apply List.eq_nil_of_length_eq_zero; simp; omega
      exact SimRows.any this
     ·cases ad with
      | none => have hl : l = [] := List.eq_nil_of_length_eq_zero (by have := c3 rfl; omega); subst hl; exact SimRows.any (by simp)
      | some ad =>
       simp only [Option.map_some, Option.getD_some] at c5 c0 ⊢
       exact (c5.take b).drop a c0
  split at h <;> simp only [Option.some.injEq, Prod.mk.injEq, reduceCtorEq] at h <;> obtain ⟨rfl, rfl⟩ := h
  ·rw [hlo' rfl, hhi' rfl]
   have k := key 0 l.length (by omega) (by omega)
   simp only [List.drop_zero, List.take_length, Nat.sub_zero] at k
   refine ⟨_, ?_, k⟩
   simp [Instr.sliceAt, Instr.slice, Instr.sliceBounds, hu', hso]
  ·rename_i k a
   obtain ⟨z, rfl, hz⟩ := hlo _ rfl
   rw [hhi' rfl]
   simp only [SimV] at hz; subst hz
   have kk := key a.toNat l.length (by omega) (by omega)
   rw [List.take_length] at kk
   refine ⟨_, ?_, kk⟩
   have e1 := run_sliceBound_ok (P := P) (w := w) k a l.length .sliceB (by omega)
   simp [Instr.sliceAt, Instr.slice, Instr.sliceBounds, hu', hso, e1]
  ·rename_i k b
   obtain ⟨z, rfl, hz⟩ := hhi _ rfl
   rw [hlo' rfl]
   simp only [SimV] at hz; subst hz
   have kk := key 0 b.toNat (by omega) (by omega)
   rw [List.drop_zero] at kk
   refine ⟨_, ?_, kk⟩
   have e1 := run_sliceBound_ok (P := P) (w := w) k b cap .sliceAcap (by omega)
   simp [Instr.sliceAt, Instr.slice, Instr.sliceBounds, hu', hso, e1]
  ·rename_i k a k' b
   obtain ⟨z, rfl, hz⟩ := hlo _ rfl
   obtain ⟨z', rfl, hz'⟩ := hhi _ rfl
   simp only [SimV] at hz hz'; subst hz; subst hz'
   refine ⟨_, ?_, key a.toNat b.toNat (by omega) (by omega)⟩
   have e1 := run_sliceBound_ok (P := P) (w := w) k' b cap .sliceAcap (by omega)
   have e2 := run_sliceBound_ok (P := P) (w := w) k a b.toNat .sliceB (by omega)
   simp [Instr.sliceAt, Instr.slice, Instr.sliceBounds, hu', hso, e1, e2]
 ·simp at h
end
end Go.Proofs.YtpllcpbhjglpaaaGreatDoor.Gw
namespace Go.Proofs.YtpllcpbhjglpaaaGreatDoor.Gw
open Go
set_option linter.unusedSimpArgs false
section
variable {P : Program} {T : Nat → TI} {g : G} {w : World} {dst : Option Tmp} {ty : TypeId} {pos : String} {aft : Array Edge} {gd : Option (Nat × Bool)}
theorem run_fieldPlace (a : Addr) (f : Field) (z : Nat) (h : (Go.sizeOf f.type).run P w = .ok z w) (hz : z ≠ 0) : (fieldPlace a f).run P w = .ok (a.add f.offset) w := by
 simp [fieldPlace, h, hz]
theorem loadV_agg (hT : Tab P T) {t : TypeId} (ht : (T t).kind ≠ .other) {l : List V} {vs : List Value} {off : Nat} {v : V} {side : Prop} (hl : SimVs g w l vs) (ho : ∀ u ∈ vs, u.oneCell' = true) (h : loadV (T t) (l.drop off) = some (v, side)) (hs : side) :
  ∃ val, (part t vs.toArray off).run P w = .ok val w ∧ SimV g w v val := by
 unfold loadV at h
 unfold part
 simp only [Sem.run_bind, hT.isAgg ht, Result.andThen_ok, Sem.run_ite]
 split at h
 ·rename_i hg
  simp only [Option.some.injEq, Prod.mk.injEq] at h
  obtain ⟨rfl, rfl⟩ := h
  simp only [hg, if_true, hT.sizeOf ht, Result.andThen_ok, Sem.run_pure, Sem.run_bind]
  refine ⟨_, rfl, ?_⟩
  simp only [SimV]
  refine ⟨(vs.drop off).take (T t).size, ?_, (hl.drop off).take _, fun u hu => ho u (List.mem_of_mem_drop (List.mem_of_mem_take hu))⟩
  congr 1
  apply Array.ext'
  simp [List.drop_take]
 ·rename_i hg
  simp only [hg]
  cases hd : l.drop off with
  | nil => rw [hd] at h; simp only [Option.some.injEq, Prod.mk.injEq] at h; obtain ⟨_, rfl⟩ := h; exact hs.elim
  | cons x xs =>
   rw [hd] at h
   simp only [Option.some.injEq, Prod.mk.injEq] at h
   obtain ⟨rfl, rfl⟩ := h
   have hx : l[off]? = some x := by
    have := List.getElem?_drop (xs := l) (i := off) (j := 0)
    rw [hd] at this; simpa using this.symm
   obtain ⟨z, h1, h2⟩ := hl.get off hx
   refine ⟨z, ?_, h2⟩
   simp [h1]
theorem evs_sim {ev : Operand → V} {ρ : Operand → Value} (hev : ∀ x, SimV g w (ev x) (ρ x)) (l : List Operand) : SimVs g w (l.map ev) (l.map ρ) :=
 SimVs.mk_map ev ρ l fun x _ => hev x
theorem known_kind {i : TI} (h : i.known = true) : i.kind ≠ .other := by
 unfold TI.known at h
 intro e
 simp [e] at h
theorem mapM_places (hT : Tab P T) : ∀ (fa : List Field) (_ : ∀ f ∈ fa, (T f.type).known = true), (fa.mapM fun f => (Prod.mk f.offset <$> Go.sizeOf f.type : Sem (Nat × Nat))).run P w = .ok (fa.map fun f => (f.offset, (T f.type).size)) w
 | [], _ => by simp
 | f :: fa, h => by
  have h1 := hT.sizeOf (known_kind (h f (by simp))) w
  have h2 := mapM_places hT fa fun x hx => h x (by simp [hx])
  simp [List.mapM_cons, h1, h2]
theorem raw_sim {v : V} (hv : V.flat v = true) : SimV g w v v.raw := by
 cases v <;> simp [V.flat] at hv <;> simp [SimV, V.raw, hv]
theorem raws_sim : ∀ (l : List V), l.all V.flat = true → SimVs g w l (l.map V.raw)
 | [], _ => by simp [SimVs]
 | x :: xs, h => by
  simp only [List.all_cons, Bool.and_eq_true] at h
  simp only [List.map_cons, SimVs]
  exact ⟨_, _, rfl, raw_sim h.1, raws_sim xs h.2⟩
theorem raws_one : ∀ (l : List V), l.all V.flat = true → ∀ u ∈ l.map V.raw, u.oneCell' = true
 | [], _ => by simp
 | x :: xs, h => by
  simp only [List.all_cons, Bool.and_eq_true] at h
  intro u hu
  simp only [List.map_cons, List.mem_cons] at hu
  rcases hu with rfl | hu
  ·have := h.1
   cases x <;> simp [V.flat] at this <;> rfl
  ·exact raws_one xs h.2 u hu
theorem builtinV_sound (hT : Tab P T) {b : Builtin} {vs : List V} {us : List Value} {ts : Array TypeId} {v : V} {side : Prop} (hv : SimVs g w vs us)
  (h : builtinV T b vs ts.toList = some (v, side)) (_ : side) : ∃ val, (∀ consts, (builtin b ts ty consts us.toArray).run P w = .ok (.value val) w) ∧ SimV g w v val := by
 unfold builtinV at h
 split at h
 ·rename_i x t hts
  have : ts = #[t] := by cases ts; simpa using hts
  subst this
  simp only [SimVs] at hv
  obtain ⟨u, r, rfl, hu, rfl⟩ := hv
  split at h <;> rename_i hk <;> simp only [Option.some.injEq, Prod.mk.injEq, reduceCtorEq] at h <;> obtain ⟨rfl, rfl⟩ := h
  ·simp only [SimV] at hu; obtain ⟨rfl, _⟩ := hu
   exact ⟨_, fun _ => by simp [builtin, Builtin.len_, underlying, hT.str hk, goInt, size_mk]; rfl, by simp [SimV]⟩
  ·simp only [SimV] at hu; subst hu
   exact ⟨_, fun _ => by simp [builtin, Builtin.len_, underlying, hT.slice hk, goInt]; rfl, by simp [SimV]⟩
  ·simp only [SimV] at hu
   obtain ⟨a, cap, rfl, _⟩ := hu
   exact ⟨_, fun _ => by simp [builtin, Builtin.len_, underlying, hT.slice hk, goInt]; rfl, by simp [SimV]⟩
  ·simp only [SimV] at hu
   obtain ⟨_, _, _, a, cap, rfl⟩ := hu
   exact ⟨_, fun _ => by simp [builtin, Builtin.len_, underlying, hT.slice hk, goInt]; rfl, by simp [SimV]⟩
  ·simp only [SimV] at hu; subst hu
   exact ⟨_, fun _ => by simp [builtin, Builtin.len_, underlying, hT.map hk, goInt]; rfl, by simp [SimV]⟩
 ·simp only [SimVs, SimV] at hv
  obtain ⟨_, _, rfl, rfl, _, _, rfl, rfl, rfl⟩ := hv
  simp only [Option.some.injEq, Prod.mk.injEq] at h
  obtain ⟨rfl, rfl⟩ := h
  exact ⟨_, fun _ => by simp only [builtin, Sem.run_bind, run_max_int2, Result.andThen_ok, Sem.run_pure]; rfl, by simp [SimV]⟩
 ·simp only [SimVs, SimV] at hv
  obtain ⟨_, _, rfl, rfl, _, _, rfl, rfl, rfl⟩ := hv
  simp only [Option.some.injEq, Prod.mk.injEq] at h
  obtain ⟨rfl, rfl⟩ := h
  exact ⟨_, fun _ => by simp only [builtin, Sem.run_bind, run_min_int2, Result.andThen_ok, Sem.run_pure]; rfl, by simp [SimV]⟩
 ·simp at h
theorem pureOp_sound (hT : Tab P T) {ev : Operand → V} {ρ : Operand → Value} (hev : ∀ x, SimV g w (ev x) (ρ x)) {op : Op} {v : V} {side : Prop}
  (h : pureOp T op ev = some (v, side)) (hs : side) : ∃ val, (execOp ρ ⟨dst, op, ty, pos, aft, gd⟩).run P w = .ok (.value val) w ∧ SimV g w v val := by
 unfold pureOp at h
 split at h
 ·-- move
  simp only [Option.some.injEq, Prod.mk.injEq] at h
  obtain ⟨rfl, rfl⟩ := h
  exact ⟨_, rfl, hev _⟩
 ·simp only [Option.some.injEq, Prod.mk.injEq] at h
  obtain ⟨rfl, rfl⟩ := h
  exact ⟨_, rfl, hev _⟩
 ·-- nilCheck
  rename_i x
  have hx := hev x
  split at h <;> rename_i hx' <;> simp only [Option.some.injEq, Prod.mk.injEq, reduceCtorEq] at h <;> obtain ⟨rfl, rfl⟩ := h <;> rw [hx'] at hx
  ·have hx2 := hx
   simp only [SimV] at hx
   obtain ⟨a, ha, _⟩ := hx
   refine ⟨_, ?_, hx2⟩
   simp [execOp, ha]
  ·have hx2 := hx
   simp only [SimV] at hx
   obtain ⟨_, ha⟩ := hx
   refine ⟨_, ?_, hx2⟩
   simp [execOp, ha]
  ·have hx2 := hx
   simp only [SimV] at hx
   obtain ⟨_, _, _, ha, _⟩ := hx
   refine ⟨_, ?_, hx2⟩
   simp [execOp, ha]
  ·have hx2 := hx
   simp only [SimV] at hx
   obtain ⟨vs, ha, _⟩ := hx
   refine ⟨_, ?_, hx2⟩
   clear hx'
   rename_i f _ _
   rw [ha]
   cases f <;> first | (exact absurd rfl (hs _)) | simp [execOp, ha]
  ·have hx2 := hx
   simp only [SimV] at hx
   obtain ⟨y, ha, _⟩ := hx
   refine ⟨_, ?_, hx2⟩
   simp [execOp, ha]
 ·-- binOp
  rename_i op t x y xt
  exact s_binV hT (fun hk => hT.bool hk) (hev x) (hev y) h hs
 ·rename_i x
  have hx := hev x
  split at h <;> rename_i hx' <;> simp only [Option.some.injEq, Prod.mk.injEq, reduceCtorEq] at h
  obtain ⟨rfl, rfl⟩ := h
  rw [hx'] at hx
  simp only [SimV] at hx
  exact ⟨_, by simp [execOp, hx, Op.unary]; rfl, by simp [SimV]⟩
 ·rename_i x
  have hx := hev x
  split at h <;> rename_i hx' <;> simp only [Option.some.injEq, Prod.mk.injEq, reduceCtorEq] at h
  obtain ⟨rfl, rfl⟩ := h
  rw [hx'] at hx
  simp only [SimV] at hx
  exact ⟨_, by simp [execOp, hx, Op.unary, Op.intArith]; rfl, by simp [SimV]⟩
 ·-- fieldAddr
  rename_i s x f
  have hx := hev x
  split at h
  case h_2 => simp at h
  rename_i fs hk
  obtain ⟨fa, hu, hf⟩ := hT.struct hk
  split at h
  case h_2 => simp at h
  rename_i off ft hfi
  split at h
  case isTrue => simp at h
  rename_i hsz
  have hsz2 := sized_kind hsz
  rw [← hf, List.getElem?_map] at hfi
  cases hfa : fa.toList[f]? with
  | none => simp [hfa] at hfi
  | some fd =>
   simp only [hfa, Option.map_some, Option.some.injEq, Prod.mk.injEq] at hfi
   obtain ⟨rfl, rfl⟩ := hfi
   rw [Array.getElem?_toList] at hfa
   have hso := hT.sizeOf hsz2.1 w
   have hu' : (underlying s).run P w = .ok (.struct fa) w := by simp [underlying, hu]
   split at h <;> rename_i hx' <;> simp only [Option.some.injEq, Prod.mk.injEq, reduceCtorEq] at h <;> obtain ⟨rfl, rfl⟩ := h <;> rw [hx'] at hx
   ·simp only [SimV] at hx
    obtain ⟨a, ha, hsp, hat⟩ := hx
    refine ⟨.pointer (some (a.add fd.offset)), ?_, by simp only [SimV]; exact ⟨_, rfl, Addr.add_spot hsp, hat.drop _ hsp⟩⟩
    simp [execOp, Instr.fieldAt, hu', hfa, ha, Instr.sureAddr, run_fieldPlace a fd _ hso hsz2.2]
   ·simp only [SimV] at hx
    obtain ⟨ho, ha⟩ := hx
    rename_i o n
    refine ⟨.pointer (some ⟨g.pb o, n + fd.offset, none⟩), ?_, by simp only [SimV]; exact ⟨ho, trivial⟩⟩
    have e : (Addr.mk (g.pb o) n none).add fd.offset = ⟨g.pb o, n + fd.offset, none⟩ := Addr.add_eq rfl _
    simp [execOp, Instr.fieldAt, hu', hfa, ha, Instr.sureAddr, run_fieldPlace _ fd _ hso hsz2.2, e]
   ·simp only [SimV] at hx
    rename_i e n sz k f
    obtain ⟨h1, h2, b, ha, h3⟩ := hx
    refine ⟨.pointer (some ⟨b, k * sz + (f + fd.offset), none⟩), ?_, by simp only [SimV]; exact ⟨h1, h2, b, rfl, h3⟩⟩
    have e : (Addr.mk b (k * sz + f) none).add fd.offset = ⟨b, k * sz + (f + fd.offset), none⟩ := by rw [Addr.add_eq rfl]; simp [Nat.add_assoc]
    simp [execOp, Instr.fieldAt, hu', hfa, ha, Instr.sureAddr, run_fieldPlace _ fd _ hso hsz2.2, e]
 ·-- field
  rename_i s x f
  have hx := hev x
  split at h
  case h_2 => simp at h
  rename_i fs hk
  obtain ⟨fa, hu, hf⟩ := hT.struct hk
  split at h
  case h_2 => simp at h
  rename_i off ft l hfi hx'
  split at h
  case isTrue => simp at h
  rename_i hsz
  have hsz2 := sized_kind hsz
  rw [← hf, List.getElem?_map] at hfi
  cases hfa : fa.toList[f]? with
  | none => simp [hfa] at hfi
  | some fd =>
   simp only [hfa, Option.map_some, Option.some.injEq, Prod.mk.injEq] at hfi
   obtain ⟨rfl, rfl⟩ := hfi
   rw [Array.getElem?_toList] at hfa
   have hu' : (underlying s).run P w = .ok (.struct fa) w := by simp [underlying, hu]
   rw [hx'] at hx
   simp only [SimV] at hx
   obtain ⟨vs, ha, hvs, hone⟩ := hx
   obtain ⟨val, h1, h2⟩ := loadV_agg hT hsz2.1 hvs hone h hs
   refine ⟨val, ?_, h2⟩
   simp [execOp, Instr.field, hu', hfa, ha, asAgg, h1]
 ·-- indexAddr
  rename_i t x i
  have hx := hev x
  have hi := hev i
  split at h
  case h_2 => simp at h
  rename_i e sz tk l k n hk hx' hi'
  have hu := hT.slice hk
  have hu' : (underlying t).run P w = .ok (.slice e) w := by simp [underlying, hu]
  split at h
  case isFalse => simp at h
  rename_i hsz
  obtain ⟨hsd, hsz⟩ := hsz
  have hso : (Go.sizeOf e).run P w = .ok sz w := by rw [hT.sizeOf (sized_kind (by simp [hsd])).1, hsz]
  simp only [Option.some.injEq, Prod.mk.injEq] at h
  obtain ⟨rfl, rfl⟩ := h
  rw [hx'] at hx
  rw [hi'] at hi
  simp only [SimV] at hx hi
  obtain ⟨ad, cap, ha, c1, c2, c3, c0, -, c5⟩ := hx
  have hn : n.toNat < l.length := by omega
  cases ad with
  | none => have := c3 rfl; omega
  | some ad =>
   simp only [Option.getD_some] at c5 c0
   replace c0 := c0.resolve_left fun e => by rw [e] at hn; simp at hn
   have hr : l[n.toNat]? = some (l.getD n.toNat []) := by rw [List.getD_eq_getElem?_getD, List.getElem?_eq_getElem hn]; rfl
   obtain ⟨r1, r2⟩ := c5.get n.toNat c0 hr
   refine ⟨.pointer (some (ad.add (n.toNat * sz))), ?_, by simp only [SimV]; exact ⟨_, rfl, Addr.add_spot c0, r1⟩⟩
   simp [execOp, Instr.indexAt, asIntOf, hi, ha, hu', hso, hs.1, hs.2]
 ·-- index
  rename_i t x i
  have hx := hev x
  have hi := hev i
  split at h
  case h_2 => simp at h
  rename_i s k n hk hx' hi'
  have hu := hT.str hk
  have hu' : (underlying t).run P w = .ok .string w := by simp [underlying, hu]
  simp only [Option.some.injEq, Prod.mk.injEq] at h
  obtain ⟨rfl, rfl⟩ := h
  rw [hx'] at hx
  rw [hi'] at hi
  simp only [SimV] at hx hi
  obtain ⟨hx, hxl⟩ := hx
  have hn : n.toNat < s.length := by omega
  refine ⟨.int .u8 (s.getD n.toNat 0).toNat, ?_, by simp [SimV]⟩
  have hb : (ByteArray.mk s.toArray)[n.toNat]? = some (s.getD n.toNat 0) := by
   rw [getElem?_pos _ _ (by simpa [size_mk] using hn)]
   simp [ByteArray.getElem_eq_getElem_data, List.getD_eq_getElem?_getD, List.getElem?_eq_getElem hn]
  simp [execOp, Instr.index, asIntOf, hi, hx, hu', hs.1, hb]
 ·-- extract
  rename_i x i
  have hx := hev x
  split at h
  case h_2 => simp at h
  rename_i l hx'
  rw [hx'] at hx
  cases hl : l[i]? with
  | none => simp [hl] at h
  | some y =>
   simp only [hl, Option.map_some, Option.some.injEq, Prod.mk.injEq] at h
   obtain ⟨rfl, rfl⟩ := h
   simp only [SimV] at hx
   obtain ⟨vs, ha, hvs⟩ := hx
   obtain ⟨z, h1, h2⟩ := hvs.get i hl
   refine ⟨z, ?_, h2⟩
   simp [execOp, Instr.extract, ha, h1]
 ·-- build
  rename_i t parts
  split at h
  case h_2 => simp at h
  rename_i fs hk
  obtain ⟨fa, hu, hf⟩ := hT.struct hk
  have hu' : (underlying t).run P w = .ok (.struct fa) w := by simp [underlying, hu]
  split at h
  case isTrue => simp at h
  rename_i hsz
  obtain ⟨ti, i1, i2, i3, i4⟩ := hT.info (t := t) (by rw [hk]; simp)
  have hfl := (hT t (by rw [hk]; simp)).2.2.1
  have hz : (zeroValue t).run P w = .ok (T t).zval w := by simp [zeroValue, typeInfo, i1, i2]
  have hag : (T t).agg = true := by unfold TI.agg; rw [hk]
  have hzc : (T t).zval.cells = ((T t).zero.map V.raw).toArray := by simp [TI.zval, hag, Value.cells]
  cases hfv : fillV T fs (T t).zero (parts.toList.map fun p => (p.1, ev p.2)) with
  | none => simp [hfv] at h
  | some out =>
   simp only [hfv, Option.map_some, Option.some.injEq, Prod.mk.injEq] at h
   obtain ⟨rfl, rfl⟩ := h
   have hall : ∀ f ∈ fa.toList, (T f.type).known = true := by
    intro f hfm
    have := hsz
    simp only [Bool.not_eq_false, ← hf, List.all_map, List.all_eq_true] at this
    exact this f hfm
   have hpl := mapM_places (P := P) (w := w) hT fa.toList hall
   obtain ⟨vout, k1, k2⟩ := fillV_sound (g := g) (w := w) hT fs fa.toList hf ((fa.toList.map fun f => (f.offset, (T f.type).size)).toArray[·]?)
    (fun i f hi _ => by simp [List.getElem?_map]; exact ⟨f, by simpa using hi, rfl, rfl⟩) (parts.toList.map fun p => (p.1, ev p.2)) (parts.toList.map fun p => (p.1, ρ p.2)) (T t).zero ((T t).zero.map V.raw) out (by simp)
    (fun i p q hp hq => by
     simp only [List.getElem?_map, Option.map_eq_some_iff] at hp hq
     obtain ⟨a, ha, rfl⟩ := hp
     obtain ⟨b, hb, rfl⟩ := hq
     rw [ha] at hb; cases hb
     exact ⟨rfl, hev _⟩) (raws_sim _ hfl) (raws_one _ hfl) hfv
   refine ⟨.agg vout.toArray, ?_, by simp only [SimV]; exact ⟨vout, rfl, k2.1, k2.2⟩⟩
   simp [execOp, Instr.build, hz, hzc, hu', Array.mapM_eq_mapM_toList, hpl] at k1 ⊢
   rw [k1]
   rfl
 ·-- makeInterface
  rename_i t x
  split at h
  ·simp at h
  ·simp at h
  rename_i hk1 hk2
  split at h
  case isTrue => simp at h
  simp only [Option.some.injEq, Prod.mk.injEq] at h
  obtain ⟨rfl, rfl⟩ := h
  obtain ⟨d, hu, hd⟩ := hT.und (t := t) (by intro e; exact hk2 e)
  refine ⟨.iface t (ρ x), ?_, by simp only [SimV]; exact ⟨_, rfl, hev x⟩⟩
  have : ∀ ms, d ≠ .interface ms := by intro ms e; subst e; exact hk1 hd.symm
  cases d <;> first | (exact absurd rfl (this _)) | simp [execOp, Instr.makeInterface, underlying, hu]
 ·-- makeFunc
  rename_i f first c
  split at h <;> rename_i hfirst <;> simp only [Option.some.injEq, Prod.mk.injEq, reduceCtorEq] at h
  obtain ⟨rfl, rfl⟩ := h
  have : first = #[] := by cases first; simpa using hfirst
  subst this
  refine ⟨.func f #[] (c.map ρ), ?_, ?_⟩
  ·simp [execOp, Instr.makeFunc]
  ·simp only [SimV]
   exact ⟨c.toList.map ρ, by congr 1; apply Array.ext'; simp, evs_sim hev _⟩
 ·-- slice
  rename_i t x lo hi
  obtain ⟨val, h1, h2⟩ := s_slice hT (rlo := lo.map ρ) (rhi := hi.map ρ) (hev x)
   (fun y hy => by cases lo with | none => simp at hy | some z => simp at hy; subst hy; exact ⟨_, rfl, hev z⟩) (fun hn => by cases lo <;> simp at hn ⊢)
   (fun y hy => by cases hi with | none => simp at hy | some z => simp at hy; subst hy; exact ⟨_, rfl, hev z⟩) (fun hn => by cases hi <;> simp at hn ⊢) h hs
  exact ⟨val, by simp [execOp, h1], h2⟩
 ·-- a builtin
  rename_i c
  split at h
  case h_2 => simp at h
  rename_i b hb
  obtain ⟨val, h1, h2⟩ := builtinV_sound (P := P) (w := w) (g := g) hT (evs_sim hev c.args.toList) h hs (ty := ty)
  refine ⟨val, ?_, h2⟩
  have ha : (c.args.toList.map ρ).toArray = c.args.map ρ := by apply Array.ext'; simp
  rw [ha] at h1
  simp only [execOp, resolve, hb, Sem.run_bind, Sem.run_pure, Result.andThen_ok, invoke]
  exact h1 _
 ·-- load
  rename_i t x
  have hx := hev x
  split at h
  case h_2 => simp at h
  rename_i l hx'
  split at h
  case isTrue => simp at h
  rename_i hsz
  rw [hx'] at hx
  simp only [SimV] at hx
  obtain ⟨a, ha, hsp, hat⟩ := hx
  obtain ⟨val, h1, h2⟩ := load_sealed hT (sized_kind hsz).1 hsp hat h hs
  exact ⟨val, by simp [execOp, Instr.loadAt, Instr.sureAddr, ha, h1], h2⟩
 ·simp at h
end
end Go.Proofs.YtpllcpbhjglpaaaGreatDoor.Gw
namespace Go.Proofs.YtpllcpbhjglpaaaGreatDoor.Gw
open Go
set_option linter.unusedSimpArgs false
section
variable {P : Program} {T : Nat → TI}
/-- A growing list's block: nothing yet, or a row of so many rows, sealed or not. -/
def SimTip (T : Nat → TI) (g : G) (w : World) (i : Nat) (e : TypeId) (n sl : Nat) (xs : List Value) (o : Nat) : Prop :=
 g.len i = n ∧ xs.length = n * (T e).size ∧
  ((n = 0 ∧ g.tv i = .slice none 0 0) ∨ (n = 0 ∧ o = 1 ∧ ∃ b off cur s, g.tv i = .slice (some ⟨b, off, none⟩) 0 0 ∧ g.own b = some s ∧ w.heap[b]? = some (.cells cur e (0, 0)) ∧ off ≤ cur.size) ∨
   ∃ b cap cur, g.tv i = .slice (some ⟨b, o, none⟩) n cap ∧ g.own b = some (o + sl) ∧ w.heap[b]? = some (.cells cur e (0, 0)) ∧ n ≤ cap ∧ cap ≤ maxLen ∧ cur.size = o + cap * (T e).size ∧
    (cur.toList.drop o).take (n * (T e).size) = xs)
theorem tip2 {A C X : Prop} {n o : Nat} (h : A ∨ (n = 0 ∧ o = 1 ∧ X) ∨ C) (h0 : o = 0) : A ∨ C := h.elim .inl fun h => h.elim (fun h => absurd h.2.1 (by omega)) .inr
/-- A map's entries. -/
def SimEs (g : G) (w : World) : List (Nat × V × V) → List MapEntry → Prop
 | [], l => l = []
 | (b, k, v) :: r, l => ∃ e t, l = e :: t ∧ e.born = b ∧ SimV g w k e.key ∧ SimV g w v e.val ∧ SimEs g w r t
theorem SimEs.ext {g g' : G} {w w' : World} (h : Ext g w g' w') : ∀ {es : List (Nat × V × V)} {l : List MapEntry}, SimEs g w es l → SimEs g' w' es l
 | [], _, s => s
 | (b, k, v) :: r, _, s => by
  obtain ⟨e, t, h1, h2, h3, h4, h5⟩ := s
  exact ⟨e, t, h1, h2, h3.ext h, h4.ext h, h5.ext h⟩
theorem SimEs.length {g : G} {w : World} : ∀ {es : List (Nat × V × V)} {l : List MapEntry}, SimEs g w es l → l.length = es.length
 | [], _, s => by simp only [SimEs] at s; subst s; rfl
 | (b, k, v) :: r, _, s => by
  obtain ⟨e, t, rfl, _, _, _, h5⟩ := s
  simp [h5.length]
def SimE (T : Nat → TI) (g : G) (w : World) (i : Nat) : Ent → Prop
 | .map c es => g.own (g.pb i) = some 0 ∧ (∀ e ∈ es, e.1 < c) ∧ ∃ l : List MapEntry, w.heap[g.pb i]? = some (.map l.toArray c) ∧ SimEs g w es l
 | .iter m since seen => g.own (g.pb i) = some 0 ∧ m < g.n ∧ w.heap[g.pb i]? = some (.mapIter (some (g.pb m)) since seen.toArray since)
 | .box c => g.own (g.pb i) = some 0 ∧ ∃ vs : List Value, ∃ t, w.heap[g.pb i]? = some (.cells vs.toArray t (0, 0)) ∧ SimVs g w c vs ∧ ∀ u ∈ vs, u.oneCell' = true
 | .tip e n => ∃ o xs, SimTip T g w i e n (n * (T e).size) xs o
 | .arr e sz c => sz = (T e).size ∧ (∀ r ∈ c, r.length = sz) ∧ ∃ xs, SimTip T g w i e c.length 0 xs 0 ∧ SimVs g w c.flatten xs ∧ ∀ u ∈ xs, u.oneCell' = true
 | .gone => True
def blkOf (g : G) (i : Nat) : Ent → Option Nat
 | .box _ => some (g.pb i)
 | .tip _ _ | .arr _ _ _ => (g.tv i).ownBlock
 | .gone => none
 | .map _ _ | .iter _ _ _ => some (g.pb i)
structure SimSt (T : Nat → TI) (g : G) (st : St) (w : World) : Prop where
 n : g.n = st.length
 ent : ∀ i e, st[i]? = some e → SimE T g w i e
 one : ∀ i j ei ej b, st[i]? = some ei → st[j]? = some ej → blkOf g i ei = some b → blkOf g j ej = some b → i = j
 amb : Amb g w
theorem SimTip.keep {g g' : G} {w w' : World} {i : Nat} {e : TypeId} {n sl : Nat} {xs : List Value} {o : Nat} (h : SimTip T g w i e n sl xs o) (hl : g'.len i = g.len i) (ht : g'.tv i = g.tv i)
  (hb : ∀ b, (g.tv i).ownBlock = some b → w'.heap[b]? = w.heap[b]? ∧ g'.own b = g.own b) : SimTip T g' w' i e n sl xs o := by
 obtain ⟨h1, h2, h3⟩ := h
 refine ⟨hl.trans h1, h2, ?_⟩
 rcases h3 with ⟨h3, h4⟩ | ⟨h3, h4, b, off, cur, s, k1, k2, k3, k4⟩ | ⟨b, cap, cur, k1, k2, k3, k4⟩
 ·exact .inl ⟨h3, ht.trans h4⟩
 ·obtain ⟨e1, e2⟩ := hb b (by rw [k1]; rfl)
  exact .inr (.inl ⟨h3, h4, b, off, cur, s, ht.trans k1, e2.trans k2, e1.trans k3, k4⟩)
 ·obtain ⟨e1, e2⟩ := hb b (by rw [k1]; rfl)
  exact .inr <| .inr ⟨b, cap, cur, ht.trans k1, e2.trans k2, e1.trans k3, k4⟩
theorem SimE.keep {g g' : G} {w w' : World} {i : Nat} {e : Ent} (h : SimE T g w i e) (hx : Ext g w g' w') (hp : g'.pb i = g.pb i) (hl : g'.len i = g.len i) (ht : g'.tv i = g.tv i)
  (hb : ∀ b, blkOf g i e = some b → w'.heap[b]? = w.heap[b]? ∧ g'.own b = g.own b) : SimE T g' w' i e := by
 cases e with
 | box c =>
  obtain ⟨h1, vs, t, h2, h3, h4⟩ := h
  obtain ⟨e1, e2⟩ := hb _ rfl
  simp only [SimE, hp]
  exact ⟨e2.trans h1, vs, t, e1.trans h2, h3.ext hx, h4⟩
 | tip e n => obtain ⟨o, xs, h⟩ := h; exact ⟨o, xs, h.keep hl ht hb⟩
 | arr e sz c =>
  obtain ⟨h1, h2, xs, h3, h4, h5⟩ := h
  exact ⟨h1, h2, xs, h3.keep hl ht hb, h4.ext hx, h5⟩
 | gone => trivial
 | map c es =>
  obtain ⟨h1, h0, l, h2, h3⟩ := h
  obtain ⟨e1, e2⟩ := hb _ rfl
  simp only [SimE, hp]
  exact ⟨e2.trans h1, h0, l, e1.trans h2, h3.ext hx⟩
 | iter m since seen =>
  obtain ⟨h1, h2, h3⟩ := h
  obtain ⟨e1, e2⟩ := hb _ rfl
  simp only [SimE, hp]
  exact ⟨e2.trans h1, Nat.lt_of_lt_of_le h2 hx.n, by rw [hx.pb m h2]; exact e1.trans h3⟩
/-- The block of an entry is there, and owned. -/
theorem SimE.blk {g : G} {w : World} {i : Nat} {e : Ent} {b : Nat} (h : SimE T g w i e) (hb : blkOf g i e = some b) : b < w.heap.size ∧ (g.own b).isSome = true := by
 have tip : ∀ {e n sl xs o}, SimTip T g w i e n sl xs o → (g.tv i).ownBlock = some b → b < w.heap.size ∧ (g.own b).isSome = true := by
  intro e n sl xs o h hb
  rcases h.2.2 with ⟨_, k⟩ | ⟨_, _, b', off, cur, s, k1, k2, k3, _⟩ | ⟨b', cap, cur, k1, k2, k3, _⟩
  ·rw [k] at hb; simp [Value.ownBlock] at hb
  ·rw [k1] at hb; simp [Value.ownBlock] at hb; subst hb
   exact ⟨(Array.getElem?_eq_some_iff.1 k3).1, by simp [k2]⟩
  ·rw [k1] at hb; simp [Value.ownBlock] at hb; subst hb
   exact ⟨(Array.getElem?_eq_some_iff.1 k3).1, by simp [k2]⟩
 cases e with
 | box c =>
  obtain ⟨h1, vs, t, h2, _⟩ := h
  simp only [blkOf, Option.some.injEq] at hb; subst hb
  exact ⟨(Array.getElem?_eq_some_iff.1 h2).1, by simp [h1]⟩
 | tip e n => obtain ⟨o, xs, h⟩ := h; exact tip h hb
 | arr e sz c => obtain ⟨_, _, xs, h, _⟩ := h; exact tip h hb
 | gone => simp [blkOf] at hb
 | map c es =>
  obtain ⟨h1, _, l, h2, _⟩ := h
  simp only [blkOf, Option.some.injEq] at hb; subst hb
  exact ⟨(Array.getElem?_eq_some_iff.1 h2).1, by simp [h1]⟩
 | iter m since seen =>
  obtain ⟨h1, _, h2⟩ := h
  simp only [blkOf, Option.some.injEq] at hb; subst hb
  exact ⟨(Array.getElem?_eq_some_iff.1 h2).1, by simp [h1]⟩
/-- Where nothing that the state has is touched. -/
theorem SimSt.keep {g g' : G} {st : St} {w w' : World} (h : SimSt T g st w) (hx : Ext g w g' w') (hn : g'.n = g.n) (hl : ∀ o, o < g.n → g'.len o = g.len o)
  (hb : ∀ b, b < w.heap.size → (g.own b).isSome = true → w'.heap[b]? = w.heap[b]? ∧ g'.own b = g.own b) : SimSt T g' st w' where
 n := hn.trans h.n
 ent := fun i e hi => by
  have hlt : i < g.n := by rw [h.n]; exact (List.getElem?_eq_some_iff.1 hi).1
  have hl' := hl i hlt
  exact (h.ent i e hi).keep hx (hx.pb i hlt) hl' (hx.tv i hlt hl') fun b hbb => by
   obtain ⟨h1, h2⟩ := (h.ent i e hi).blk hbb
   exact hb b h1 h2
 one := fun i j ei ej b hi hj h1 h2 => by
  have hi' : i < g.n := by rw [h.n]; exact (List.getElem?_eq_some_iff.1 hi).1
  have hj' : j < g.n := by rw [h.n]; exact (List.getElem?_eq_some_iff.1 hj).1
  have e : ∀ k ek, k < g.n → blkOf g' k ek = blkOf g k ek := by
   intro k ek hk
   cases ek <;> simp [blkOf, hx.pb k hk, hx.tv k hk (hl k hk)]
  rw [e i ei hi'] at h1
  rw [e j ej hj'] at h2
  exact h.one i j ei ej b hi hj h1 h2
 amb := h.amb.ext hx
/-- A new block, owned or not. -/
def G.new (g : G) (b : Nat) (k : Option Nat) : G := { g with own := fun x => if x = b then k else g.own x }
theorem Ext.alloc (g : G) (w : World) (o : Obj) (k : Option Nat) : Ext g w (g.new w.heap.size k) (w.alloc o) where
 os := rfl
 tape := rfl
 output := rfl
 size := by simp
 n := Nat.le_refl _
 pb := fun _ _ => rfl
 len := fun _ _ => Nat.le_refl _
 tv := fun _ _ _ => rfl
 free := fun b hb ho => ⟨RowKit.Below.heap_alloc w o b hb, by simp only [G.new]; rw [if_neg (by omega)]; exact ho⟩
 kept := fun b k' hb ho => ⟨fun off _ => cell_of_block (RowKit.Below.heap_alloc w o b hb), fun k'' hk => by simp only [G.new] at hk; rw [if_neg (by omega), ho] at hk; cases hk; exact Nat.le_refl _⟩
 ty := fun b hb => shape_of_block (RowKit.Below.heap_alloc w o b hb)
theorem SimSt.alloc {g : G} {st : St} {w : World} (h : SimSt T g st w) (o : Obj) (k : Option Nat) : SimSt T (g.new w.heap.size k) st (w.alloc o) :=
 h.keep (Ext.alloc g w o k) rfl (fun _ _ => rfl) fun b hb _ => ⟨RowKit.Below.heap_alloc w o b hb, by simp only [G.new]; rw [if_neg (by omega)]⟩
/-- A new entry at the end: with its block, its value, its count. -/
def G.push (g : G) (b : Nat) (v : Value) (k : Nat) : G :=
 { g with pb := fun x => if x = g.n then b else g.pb x, tv := fun x => if x = g.n then v else g.tv x, len := fun x => if x = g.n then k else g.len x, n := g.n + 1 }
theorem Ext.push (g : G) (w : World) (b : Nat) (v : Value) (k : Nat) : Ext g w (g.push b v k) w where
 os := rfl
 tape := rfl
 output := rfl
 size := Nat.le_refl _
 n := by simp [G.push]
 pb := fun o ho => by simp only [G.push]; rw [if_neg (by omega)]
 len := fun o ho => by simp only [G.push]; rw [if_neg (by omega)]; exact Nat.le_refl _
 tv := fun o ho _ => by simp only [G.push]; rw [if_neg (by omega)]
 free := fun b hb ho => ⟨rfl, ho⟩
 kept := fun b k' hb ho => ⟨fun _ _ => rfl, fun k'' hk => by simp only [G.push] at hk; rw [ho] at hk; cases hk; exact Nat.le_refl _⟩
 ty := fun _ _ => rfl
theorem SimSt.push {g : G} {st : St} {w : World} (h : SimSt T g st w) {b : Nat} {v : Value} {k : Nat} {e : Ent} (he : SimE T (g.push b v k) w g.n e)
  (hb : ∀ c, blkOf (g.push b v k) g.n e = some c → ∀ i ei, st[i]? = some ei → blkOf g i ei ≠ some c) : SimSt T (g.push b v k) (st ++ [e]) w := by
 have hx := Ext.push g w b v k
 have bk : ∀ i ei, i < g.n → blkOf (g.push b v k) i ei = blkOf g i ei := by
  intro i ei hi
  cases ei <;> simp only [blkOf, G.push] <;> rw [if_neg (by omega)]
 refine ⟨by simp [G.push, h.n], fun i ei hi => ?_, fun i j ei ej c hi hj h1 h2 => ?_, h.amb.ext hx⟩
 ·rcases Nat.lt_or_ge i st.length with hlt | hge
  ·rw [List.getElem?_append_left hlt] at hi
   have hlt' : i < g.n := by rw [h.n]; exact hlt
   have q : i ≠ g.n := by omega
   exact (h.ent i ei hi).keep hx (hx.pb i hlt') (by simp [G.push, q]) (by simp [G.push, q]) fun c _ => ⟨rfl, rfl⟩
  ·have : i = st.length := by
    have := (List.getElem?_eq_some_iff.1 hi).1
    simp at this; omega
   subst this
   simp at hi; subst hi
   rw [← h.n]; exact he
 ·have cse : ∀ i ei, (st ++ [e])[i]? = some ei → (i < g.n ∧ st[i]? = some ei) ∨ (i = g.n ∧ ei = e) := by
   intro i ei hi
   rcases Nat.lt_or_ge i st.length with hlt | hge
   ·rw [List.getElem?_append_left hlt] at hi
    exact .inl ⟨by rw [h.n]; exact hlt, hi⟩
   ·have : i = st.length := by
     have := (List.getElem?_eq_some_iff.1 hi).1
     simp at this; omega
    subst this
    simp at hi
    exact .inr ⟨h.n.symm, hi.symm⟩
  rcases cse i ei hi with ⟨hi1, hi2⟩ | ⟨rfl, rfl⟩ <;> rcases cse j ej hj with ⟨hj1, hj2⟩ | ⟨rfl, rfl⟩
  ·rw [bk _ _ hi1] at h1; rw [bk _ _ hj1] at h2
   exact h.one i j ei ej c hi2 hj2 h1 h2
  ·rw [bk _ _ hi1] at h1
   exact absurd h1 (hb c h2 i ei hi2)
  ·rw [bk _ _ hj1] at h2
   exact absurd h2 (hb c h1 j ej hj2)
  ·rfl
/-- Blocks of the state lie below what is new. -/
theorem SimSt.blk_lt {g : G} {st : St} {w : World} (h : SimSt T g st w) {i : Nat} {e : Ent} {b : Nat} (hi : st[i]? = some e) (hb : blkOf g i e = some b) : b < w.heap.size :=
 ((h.ent i e hi).blk hb).1
/-- A new box. -/
theorem SimSt.newBox {g : G} {st : St} {w : World} (h : SimSt T g st w) (t : TypeId) {c : List V} {vs : List Value} (hc : SimVs g w c vs) (ho : ∀ u ∈ vs, u.oneCell' = true) :
  ∃ g', Ext g w g' (w.alloc (.cells vs.toArray t)) ∧ SimSt T g' (st ++ [.box c]) (w.alloc (.cells vs.toArray t)) ∧ SimV g' (w.alloc (.cells vs.toArray t)) (.ptr st.length 0) (.pointer (some ⟨w.heap.size, 0, none⟩)) := by
 have h1 := h.alloc (.cells vs.toArray t) (some 0)
 have x1 := Ext.alloc g w (.cells vs.toArray t) (some 0)
 have x2 := Ext.push (g.new w.heap.size (some 0)) (w.alloc (.cells vs.toArray t)) w.heap.size default 0
 refine ⟨_, x1.trans x2, h1.push ?_ ?_, ?_⟩
 ·have e1 : ((g.new w.heap.size (some 0)).push w.heap.size default 0).pb (g.new w.heap.size (some 0)).n = w.heap.size := by simp [G.push]
  simp only [SimE, e1]
  exact ⟨by simp [G.push, G.new], vs, t, heap_alloc_new w _, hc.ext (x1.trans x2), ho⟩
 ·intro c' hc' i ei hi hb
  simp only [blkOf, G.push, if_true, Option.some.injEq] at hc'
  subst hc'
  have : blkOf g i ei = some w.heap.size := by
   cases ei <;> exact hb
  have := h.blk_lt hi this
  omega
 ·simp only [SimV]
  have : g.n = st.length := h.n
  simp [G.push, G.new, this]
/-- A new box that may come to hold its own address. -/
theorem SimSt.newBoxA {g : G} {st : St} {w : World} (h : SimSt T g st w) (t : TypeId) {c : List V} {vs : List Value} {k : Nat} (hc : SimVs g w (.nilp :: c) (.pointer none :: vs)) (ho : ∀ u ∈ Value.pointer none :: vs, u.oneCell' = true) (hk : k = vs.length + 1) :
  ∃ g', Ext g w g' (w.alloc (.cells (Value.pointer none :: vs).toArray t)) ∧ SimSt T g' (st ++ [.box (.addr st.length t k :: c)]) (w.alloc (.cells (Value.pointer none :: vs).toArray t)) ∧ SimV g' (w.alloc (.cells (Value.pointer none :: vs).toArray t)) (.ptr st.length 0) (.pointer (some ⟨w.heap.size, 0, none⟩)) := by
 have h1 := h.alloc (.cells (Value.pointer none :: vs).toArray t) (some 0)
 have x1 := Ext.alloc g w (.cells (Value.pointer none :: vs).toArray t) (some 0)
 have x2 := Ext.push (g.new w.heap.size (some 0)) (w.alloc (.cells (Value.pointer none :: vs).toArray t)) w.heap.size default 0
 have hn : g.n = st.length := h.n
 have e1 : ((g.new w.heap.size (some 0)).push w.heap.size default 0).pb (g.new w.heap.size (some 0)).n = w.heap.size := by simp [G.push]
 have e2 : ((g.new w.heap.size (some 0)).push w.heap.size default 0).pb st.length = w.heap.size := by rw [← hn]; exact e1
 have hhp : (w.alloc (.cells (Value.pointer none :: vs).toArray t)).heap[w.heap.size]? = some (.cells (Value.pointer none :: vs).toArray t (0, 0)) := heap_alloc_new w _
 have hc' := hc.ext (x1.trans x2)
 simp only [SimVs] at hc'
 obtain ⟨v0, r0, q1, q2, q3⟩ := hc'
 simp only [List.cons.injEq] at q1
 obtain ⟨rfl, rfl⟩ := q1
 refine ⟨_, x1.trans x2, h1.push ?_ ?_, ?_⟩
 ·simp only [SimE, e1]
  refine ⟨by simp [G.push, G.new], _, t, hhp, ?_, ho⟩
  simp only [SimVs]
  refine ⟨_, _, rfl, ?_, q3⟩
  simp only [SimV, e2]
  exact ⟨by simp [G.push, G.new, hn], by rw [World.shape?, hhp, hk]; simp, .inl trivial⟩
 ·intro c' hc' i ei hi hb
  simp only [blkOf, G.push, if_true, Option.some.injEq] at hc'
  subst hc'
  have : blkOf g i ei = some w.heap.size := by
   cases ei <;> exact hb
  have := h.blk_lt hi this
  omega
 ·simp only [SimV]
  have : g.n = st.length := h.n
  simp [G.push, G.new, this]
/-- A new row of cells that stay. -/
theorem newSealed {g : G} {w : World} (t : TypeId) {c : List V} {vs : List Value} (hc : SimVs g w c vs) (ho : ∀ u ∈ vs, u.oneCell' = true) :
  SimAt (g.new w.heap.size none) (w.alloc (.cells vs.toArray t)) ⟨w.heap.size, 0, none⟩ c := by
 have x1 := Ext.alloc g w (.cells vs.toArray t) none
 have hc := hc.ext x1
 have key : ∀ (c : List V) (us : List Value) (off : Nat), SimVs (g.new w.heap.size none) (w.alloc (.cells vs.toArray t)) c us → (∀ j u, us[j]? = some u → vs[off + j]? = some u) → SimAt (g.new w.heap.size none) (w.alloc (.cells vs.toArray t)) ⟨w.heap.size, off, none⟩ c := by
  intro c
  induction c with
  | nil => intro us off _ _; simp [SimAt]
  | cons x xs ih =>
   intro us off h1 h2
   simp only [SimVs] at h1
   obtain ⟨v, r, rfl, h3, h4⟩ := h1
   have hv : vs[off]? = some v := by simpa using h2 0 v (by simp)
   simp only [SimAt]
   refine ⟨⟨v, ⟨rfl, by simp, fun k hk => by simp [G.new] at hk⟩, by simpa using hv, ho v (List.mem_of_getElem? hv), h3⟩, ?_⟩
   have e : (Addr.mk w.heap.size off none).add 1 = ⟨w.heap.size, off + 1, none⟩ := Addr.add_eq rfl 1
   rw [e]
   exact ih r (off + 1) h4 fun j u hj => by
    have := h2 (j + 1) u (by simpa using hj)
    rw [show off + (j + 1) = off + 1 + j by omega] at this; exact this
 exact key c vs 0 hc (by simp)
end
end Go.Proofs.YtpllcpbhjglpaaaGreatDoor.Gw
namespace Go.Proofs.YtpllcpbhjglpaaaGreatDoor.Gw
open Go
set_option linter.unusedSimpArgs false
section
variable {P : Program} {T : Nat → TI}
/-- What is read of the second argument of an append. -/
structure Feeds (P : Program) (u : Value) (size m : Nat) (news : List Value) (w : World) : Prop where
 len : news.length = m * size
 one : ∀ x ∈ news, x.oneCell' = true
 now : (Builtin.lenOf u).run P w = .ok m w
 cells : (Builtin.firstCells size m u).run P w = .ok news.toArray w
 drew : (Builtin.firstCells size m u).run P w.drew = .ok news.toArray w.drew
theorem run_append_zero (w : World) (t xt ty e : TypeId) (i : TypeInfo) (d : TypeDesc) (ht : P.underlying t = some (.slice e)) (hx : P.underlying xt = some d) (hd : d = .string ∨ ∃ e', d = .slice e') (hi : P.info? e = some i)
  {u : Value} {news : List Value} (hf : Feeds P u i.size 0 news w) : (Builtin.append_ #[t, xt] ty #[.slice none 0 0, u]).run P w = .ok (.slice none 0 0) w := by
 have h1 := hf.now
 have h2 := hf.cells
 rcases hd with rfl | ⟨e', rfl⟩ <;> simp [Builtin.append_, run_underlying ht, run_underlying hx, Go.sizeOf, typeInfo, hi, h1, h2]
theorem run_append_none (w : World) (t xt ty e : TypeId) (i : TypeInfo) (z : Value) (d : TypeDesc) (ht : P.underlying t = some (.slice e)) (hx : P.underlying xt = some d) (hd : d = .string ∨ ∃ e', d = .slice e') (hi : P.info? e = some i) (hz : i.zero = some z)
  {u : Value} {m : Nat} {news : List Value} (hf : Feeds P u i.size m news w) (h0 : 0 < m) (h63 : (m : Int) ≤ 9223372036854775807) (h48 : m * i.bytes ≤ 281474976710656) :
  (Builtin.append_ #[t, xt] ty #[.slice none 0 0, u]).run P w =
   .ok (.slice (some ⟨w.heap.size, 0, none⟩) m (grownCap w m 0 e)) (w.drew.alloc (.cells (news.toArray ++ Builtin.zeroCells z.cells (grownCap w m 0 e - m)) e)) := by
 have hn : m ≠ 0 := by omega
 have h63' : ¬ (9223372036854775807 < (m : Int)) := by omega
 have h48' : ¬ (281474976710656 < Builtin.nextslicecap m 0 * i.bytes) := by rw [nextslicecap_zero h0]; omega
 have h1 := hf.now
 have h2 := hf.drew
 rcases hd with rfl | ⟨e', rfl⟩ <;> simp [Builtin.append_, run_underlying ht, run_underlying hx, Go.sizeOf, typeInfo, zeroValue, hi, hz, h1, h2, hn, h63', h48', Question.forced, run_firstCells_none, newRow, grownCap]
theorem run_append_more (w : World) (t xt ty e : TypeId) (i : TypeInfo) (z : Value) (d : TypeDesc) (ht : P.underlying t = some (.slice e)) (hx : P.underlying xt = some d) (hd : d = .string ∨ ∃ e', d = .slice e') (hi : P.info? e = some i) (hz : i.zero = some z)
  (b : Addr) (sLen sCap : Nat) (olds : List Value) (hlo : olds.length = sLen * i.size) (holds : ∀ j v, olds[j]? = some v → w.cell? (b.add j) = some v)
  {u : Value} {m : Nat} {news : List Value} (hf : Feeds P u i.size m news w) (hg : sCap < sLen + m) (h63 : ((sLen + m : Nat) : Int) ≤ 9223372036854775807) (hfit : Builtin.nextslicecap (sLen + m) sCap * i.bytes ≤ 281474976710656) :
  (Builtin.append_ #[t, xt] ty #[.slice (some b) sLen sCap, u]).run P w =
   .ok (.slice (some ⟨w.heap.size, 0, none⟩) (sLen + m) (grownCap w (sLen + m) sCap e))
    (w.drew.alloc (.cells (olds.toArray ++ news.toArray ++ Builtin.zeroCells z.cells (grownCap w (sLen + m) sCap e - (sLen + m))) e)) := by
 have hn : ¬ (sLen + m ≤ sCap) := by omega
 have h63' : ¬ (9223372036854775807 < ((sLen : Int) + (m : Int))) := by omega
 have h48' : ¬ (281474976710656 < Builtin.nextslicecap (sLen + m) sCap * i.bytes) := by omega
 have h1 := hf.now
 have h2 := hf.drew
 have hfo := run_firstCells_some (P := P) w.drew i.size sLen b sLen sCap olds hlo (by simpa using holds)
 rcases hd with rfl | ⟨e', rfl⟩ <;> simp [Builtin.append_, run_underlying ht, run_underlying hx, Go.sizeOf, typeInfo, zeroValue, hi, hz, h1, h2, hn, h63', h48', Question.forced, hfo, newRow, grownCap] <;> congr 2 <;> apply Array.ext' <;> simp
theorem run_append_fits (w : World) (t xt ty e : TypeId) (i : TypeInfo) (d : TypeDesc) (ht : P.underlying t = some (.slice e)) (hx : P.underlying xt = some d) (hd : d = .string ∨ ∃ e', d = .slice e') (hi : P.info? e = some i)
  (g o sLen sCap : Nat) (cur : Array Value) (hg : w.heap[g]? = some (.cells cur e (0, 0)))
  {u : Value} {m : Nat} {news : List Value} (hf : Feeds P u i.size m news w)
  (hroom : sLen + m ≤ sCap) (hfit : o + sLen * i.size + news.length ≤ cur.size) :
  (Builtin.append_ #[t, xt] ty #[.slice (some ⟨g, o, none⟩) sLen sCap, u]).run P w =
   .ok (.slice (some ⟨g, o, none⟩) (sLen + m) sCap) (w.setRow g (cur.toList.take (o + sLen * i.size) ++ news ++ cur.toList.drop (o + sLen * i.size + news.length)).toArray) := by
 have hst := run_storeCells_at P g (o + sLen * i.size) e news 0 cur w hg (by simpa using hfit) hf.one
 simp only [Nat.add_zero] at hst
 have h1 := hf.now
 have h2 := hf.cells
 have e1 : (Addr.mk g o none).add (sLen * i.size) = ⟨g, o + sLen * i.size, none⟩ := by rw [Addr.add_eq rfl]
 rcases hd with rfl | ⟨e', rfl⟩ <;> simp [Builtin.append_, run_underlying ht, run_underlying hx, Go.sizeOf, typeInfo, hi, h1, h2, hroom, e1, hst]
/-- A list as what is appended. -/
theorem Feeds.lst {g : G} {w : World} {sz : Nat} {tk : Option Nat} {l : List (List V)} {u : Value} (h : SimV g w (.lst sz tk l) u) :
  ∃ news, Feeds P u sz l.length news w ∧ SimVs g w l.flatten news ∧ ∀ r ∈ l, r.length = sz := by
 simp only [SimV] at h
 obtain ⟨a, cap, rfl, c1, c2, c3, c0, -, c5⟩ := h
 have key : ∀ (l : List (List V)) (a : Addr), a.spot = none → SimRows g w a sz l → SimAt g w a l.flatten ∧ (∀ r ∈ l, r.length = sz) ∧ l.flatten.length = l.length * sz := by
  intro l
  induction l with
  | nil => intro a _ _; simp [SimAt]
  | cons r rs ih =>
   intro a ha h
   simp only [SimRows] at h
   obtain ⟨h1, h2, h3⟩ := h
   obtain ⟨k1, k2, k3⟩ := ih _ (Addr.add_spot ha) h3
   refine ⟨?_, by simpa using ⟨h1, k2⟩, by simp only [List.flatten_cons, List.length_append, k3, h1, List.length_cons, Nat.succ_mul]; omega⟩
   have app : ∀ (x y : List V) (a : Addr), a.spot = none → SimAt g w a x → SimAt g w (a.add x.length) y → SimAt g w a (x ++ y) := by
    intro x
    induction x with
    | nil => intro y a _ _ h; simpa [Addr.add] using h
    | cons x xs ih =>
     intro y a ha h k
     simp only [SimAt, List.cons_append] at h ⊢
     refine ⟨h.1, ih y _ (Addr.add_spot ha) h.2 ?_⟩
     have e : (a.add 1).add xs.length = a.add (x :: xs).length := by
      rw [Addr.add_eq ha, Addr.add_eq ha, Addr.add_eq rfl]; simp only [Addr.mk.injEq, and_true, true_and, List.length_cons]; omega
     rw [e]; exact k
   rw [List.flatten_cons]
   exact app r _ a ha h2 (by rw [h1]; exact k1)
 rcases c0 with rfl | c0
 ·cases a with
  | none => exact ⟨[], ⟨by simp, by simp, rfl, rfl, rfl⟩, by simp [SimVs], by simp⟩
  | some a => exact ⟨[], ⟨by simp, by simp, rfl, run_firstCells_some (P := P) w sz 0 a 0 cap [] (by simp) (by simp), run_firstCells_some (P := P) w.drew sz 0 a 0 cap [] (by simp) (by simp)⟩, by simp [SimVs], by simp⟩
 obtain ⟨k1, k2, k3⟩ := key l _ c0 c5
 obtain ⟨vs, v1, v2, v3⟩ := k1.list c0
 have hlen : vs.length = l.length * sz := by rw [v1.length, k3]
 cases a with
 | none =>
  have hl : l = [] := List.eq_nil_of_length_eq_zero (by have := c3 rfl; omega)
  subst hl
  have : vs = [] := by simpa using hlen
  subst this
  exact ⟨[], ⟨by simp, by simp, rfl, rfl, rfl⟩, by simp [SimVs], by simp⟩
 | some a =>
  simp only [Option.getD_some] at v3
  refine ⟨vs, ⟨hlen, v2, rfl, ?_, ?_⟩, v1, k2⟩
  ·have := run_firstCells_some (P := P) w sz l.length a l.length cap vs hlen v3
   exact this
  ·exact run_firstCells_some (P := P) w.drew sz l.length a l.length cap vs hlen (by simpa using v3)
theorem Feeds.nils {w : World} {sz : Nat} : Feeds P (.slice none 0 0) sz 0 [] w := ⟨by simp, by simp, rfl, rfl, rfl⟩
theorem Feeds.str {w : World} (s : List UInt8) : Feeds P (.string ⟨s.toArray⟩) 1 s.length (s.map fun b => Value.int .u8 b.toNat) w := by
 have e : ((ByteArray.mk s.toArray).extract 0 s.length) = ⟨s.toArray⟩ := by rw [str_extract]; simp
 refine ⟨by simp, by simp [Value.oneCell'], by simp [Builtin.lenOf, size_mk], ?_, ?_⟩ <;> simp [Builtin.firstCells, e]
end
end Go.Proofs.YtpllcpbhjglpaaaGreatDoor.Gw
namespace Go.Proofs.YtpllcpbhjglpaaaGreatDoor.Gw
open Go
set_option linter.unusedSimpArgs false
def rowsOf (sz : Nat) : V → Option (List (List V))
 | .nils => some []
 | .lst s _ l => if s = sz then some l else none
 | .str s => if sz = 1 then some (s.map fun b => [V.int .u8 b.toNat]) else none
 | _ => none
/-- Appending rows; what comes is a list, or, where the mode is 2, an array. -/
def appendV (mode : Nat) (e : TypeId) (i : TI) (s : V) (m : List (List V)) (st : St) : Option (V × St × Prop) :=
 match s with
 | .nils => match mode with
  | 2 => some (.arr st.length m.length, st ++ [.arr e i.size m], m.length * i.bytes ≤ 140737488355328)
  | _ => some (.lst i.size (some st.length) m, st ++ [.tip e m.length], m.length * i.bytes ≤ 140737488355328)
 | .lst sz (some k) l => match st[k]? with
  | some (.tip e' n) => if e' = e ∧ sz = i.size then some (.lst sz (some k) (l ++ m), st.set k (.tip e (l.length + m.length)), n = l.length ∧ (l.length + m.length) * i.bytes ≤ 140737488355328) else none
  | _ => none
 | .arr k n => match st[k]? with
  | some (.arr e' sz c) => if e' = e ∧ sz = i.size then some (.arr k (c.length + m.length), st.set k (.arr e sz (c ++ m)), n = c.length ∧ (c.length + m.length) * i.bytes ≤ 140737488355328) else none
  | _ => none
 | _ => none
/-- The rows of a literal. -/
def litRows (i : TI) (n : Nat) : List (Nat × V) → Option (List (List V))
 | [] => some (List.replicate n i.zero)
 | (k, v) :: r => match litRows i n r, v.cells with
  | some rows, some l => if k < n ∧ l.length = i.size then some (rows.set k l) else none
  | _, _ => none
def memOp (T : Nat → TI) (an : Nat → Nat) (dst : Option Tmp) (op : Op) (ev : Operand → V) (st : St) : Option (V × St × Prop) :=
 match op with
 | .alloc t => if (T t).known then
   match an (dst.getD 0) with
   | 0 => some (.ptr st.length 0, st ++ [.box (T t).zero], True)
   | 5 => match (T t).zero with
    | .nilp :: r => some (.ptr st.length 0, st ++ [.box (.addr st.length t (T t).size :: r)], True)
    | _ => none
   | _ => some (.ref (T t).zero, st, True)
  else none
 | .box t x => match (ev x).cells with
  | some l => match an (dst.getD 0) with
   | 0 => some (.ptr st.length 0, st ++ [.box l], True)
   | 5 => match l with
    | .nilp :: r => some (.ptr st.length 0, st ++ [.box (.addr st.length t (r.length + 1) :: r)], True)
    | _ => none
   | _ => some (.ref l, st, True)
  | none => none
 | .load t x => match ev x with
  | .ptr o n => match st[o]? with
   | some (.box c) => if (T t).known then (loadV (T t) (c.drop n)).map fun r => (r.1, st, r.2) else none
   | _ => none
  | _ => none
 | .store t a x => match ev a with
  | .ptr o n => match st[o]?, (ev x).cells with
   | some (.box c), some l => if (T t).known ∧ l.length = (T t).size then some (.junk, st.set o (.box (c.take n ++ l ++ c.drop (n + l.length))), n + l.length ≤ c.length) else none
   | _, _ => none
  | _ => none
 | .buildSlice t n parts => match (T t).kind with
  | .slice e => if (T e).sized ∧ n * (T e).size ≤ 16777216 then match litRows (T e) n (parts.toList.reverse.map fun p => (p.1, ev p.2)) with
    | some rows => match an (dst.getD 0) with
     | 0 => some (.lst (T e).size none rows, st, True)
     | 1 => some (.lst (T e).size (some st.length) rows, st ++ [.tip e n], True)
     | _ => some (.arr st.length n, st ++ [.arr e (T e).size rows], True)
    | none => none
   else none
  | _ => none
 | .call c => match c.callee, c.args.toList.map ev, c.argTypes.toList with
  | .builtin .append, [s, x], [t, xt] => match (T t).kind, (T xt).kind with
   | .slice e, .slice _ => if (T e).sized ∧ (T e).bytes ≠ 0 then match rowsOf (T e).size x with
    | some m => appendV (an (dst.getD 0)) e (T e) s m st
    | none => none else none
   | .slice e, .str => if (T e).sized ∧ (T e).bytes ≠ 0 then match rowsOf (T e).size x with
    | some m => appendV (an (dst.getD 0)) e (T e) s m st
    | none => none else none
   | _, _ => none
  | _, _, _ => none
 | _ => none
section
variable {P : Program} {T : Nat → TI} {an : Nat → Nat} {dst : Option Tmp} {ty : TypeId} {pos : String} {aft : Array Edge} {gd : Option (Nat × Bool)}
/-- What an operation has done. -/
def Did (P : Program) (T : Nat → TI) (ρ : Operand → Value) (o : Oper) (g : G) (w : World) (v : V) (st' : St) : Prop :=
 ∃ r val w' g', (execOp ρ o).run P w = .ok r w' ∧ (r = .value val ∨ (r = .skip ∧ val = undef)) ∧ SimV g' w' v val ∧ SimSt T g' st' w' ∧ Ext g w g' w'
theorem zval_cells {i : TI} {t : TypeId} (h : TI.ok P t i) : i.zval.cells = (i.zero.map V.raw).toArray := by
 obtain ⟨h1, h2, h3, h4, h5, _⟩ := h
 unfold TI.zval
 cases ha : i.agg with
 | true => simp [Value.cells]
 | false =>
  have h1 := h4.trans (h5 ha)
  cases hz : i.zero with
  | nil => simp [hz] at h1
  | cons x xs =>
   cases xs with
   | cons y ys => simp [hz] at h1
   | nil =>
    have hx : x.flat = true := by simpa [hz] using h3
    simp only [List.map_cons, List.map_nil, List.headD_cons, Bool.false_eq_true, if_false]
    cases x <;> simp [V.flat] at hx <;> rfl
theorem s_new {g : G} {w : World} {st : St} (hst : SimSt T g st w) {ρ : Operand → Value} {o : Oper} (t : TypeId) {mode : Nat} {c : List V} {vs : List Value} (hc : SimVs g w c vs) (ho : ∀ u ∈ vs, u.oneCell' = true)
  (hr : (execOp ρ o).run P w = .ok (.value (.pointer (some ⟨w.heap.size, 0, none⟩))) (w.alloc (.cells vs.toArray t))) :
  (mode = 0 → Did P T ρ o g w (.ptr st.length 0) (st ++ [.box c])) ∧ Did P T ρ o g w (.ref c) st := by
 refine ⟨fun _ => ?_, ?_⟩
 ·obtain ⟨g', x, s, v⟩ := hst.newBox t hc ho
  exact ⟨_, _, _, g', hr, .inl rfl, v, s, x⟩
 ·exact ⟨_, _, _, _, hr, .inl rfl, by simp only [SimV]; exact ⟨_, rfl, rfl, newSealed t hc ho⟩, hst.alloc _ none, Ext.alloc g w _ none⟩
theorem s_alloc (hT : Tab P T) {g : G} {w : World} {st : St} (hst : SimSt T g st w) {ρ : Operand → Value} {t : TypeId} {v : V} {st' : St} {side : Prop} {ev : Operand → V}
  (h : memOp T an dst (.alloc t) ev st = some (v, st', side)) : Did P T ρ ⟨dst, .alloc t, ty, pos, aft, gd⟩ g w v st' := by
 simp only [memOp] at h
 split at h
 case isFalse => simp at h
 rename_i hk
 have hk := known_kind hk
 obtain ⟨i, h1, h2, h3, h4⟩ := hT.info hk
 have hz : (zeroValue t).run P w = .ok (T t).zval w := by simp [zeroValue, typeInfo, h1, h2]
 have hok := hT t hk
 have hr : (execOp ρ ⟨dst, .alloc t, ty, pos, aft, gd⟩).run P w = .ok (.value (.pointer (some ⟨w.heap.size, 0, none⟩))) (w.alloc (.cells ((T t).zero.map V.raw).toArray t)) := by
  simp [execOp, Instr.alloc, hz, newVar, newRow, zval_cells hok]
 have hc := raws_sim (g := g) (w := w) _ hok.2.2.1
 have ho1 := raws_one _ hok.2.2.1
 have key := s_new (P := P) hst (ρ := ρ) (o := ⟨dst, .alloc t, ty, pos, aft, gd⟩) t (mode := an (dst.getD 0)) hc ho1 hr
 split at h
 ·simp only [Option.some.injEq, Prod.mk.injEq] at h; obtain ⟨rfl, rfl, rfl⟩ := h
  rename_i h0; exact key.1 h0
 ·split at h
  case h_2 => cases h
  rename_i r hz0
  simp only [Option.some.injEq, Prod.mk.injEq] at h; obtain ⟨rfl, rfl, rfl⟩ := h
  rw [hz0] at hr hc ho1
  obtain ⟨g', x, s, v⟩ := hst.newBoxA t (k := (T t).size) (by simpa [V.raw] using hc) (by simpa [V.raw] using ho1) (by rw [← hok.2.2.2.1, hz0]; simp)
  exact ⟨_, _, _, g', hr, .inl rfl, v, s, x⟩
 ·simp only [Option.some.injEq, Prod.mk.injEq] at h; obtain ⟨rfl, rfl, rfl⟩ := h
  exact key.2
theorem s_box {g : G} {w : World} {st : St} (hst : SimSt T g st w) {ρ : Operand → Value} {t : TypeId} {x : Operand} {v : V} {st' : St} {side : Prop} {ev : Operand → V} (hev : ∀ x, SimV g w (ev x) (ρ x))
  (h : memOp T an dst (.box t x) ev st = some (v, st', side)) : Did P T ρ ⟨dst, .box t x, ty, pos, aft, gd⟩ g w v st' := by
 simp only [memOp] at h
 split at h
 case h_2 => simp at h
 rename_i l hl
 obtain ⟨k1, k2⟩ := cells_sim hl (hev x)
 have hr : (execOp ρ ⟨dst, .box t x, ty, pos, aft, gd⟩).run P w = .ok (.value (.pointer (some ⟨w.heap.size, 0, none⟩))) (w.alloc (.cells (ρ x).cells.toList.toArray t)) := by simp [execOp, Instr.box, newVar, newRow]
 have key := s_new (P := P) hst (ρ := ρ) (o := ⟨dst, .box t x, ty, pos, aft, gd⟩) t (mode := an (dst.getD 0)) k1 k2 hr
 split at h
 ·simp only [Option.some.injEq, Prod.mk.injEq] at h; obtain ⟨rfl, rfl, rfl⟩ := h
  rename_i h0; exact key.1 h0
 ·split at h
  case h_2 => cases h
  rename_i r
  simp only [Option.some.injEq, Prod.mk.injEq] at h; obtain ⟨rfl, rfl, rfl⟩ := h
  have k1' := k1
  simp only [SimVs, SimV] at k1'
  obtain ⟨v0, vs, e0, rfl, k3⟩ := k1'
  rw [e0] at hr k1 k2
  obtain ⟨g', x', s', v'⟩ := hst.newBoxA t (k := r.length + 1) k1 k2 (by rw [k3.length])
  exact ⟨_, _, _, g', hr, .inl rfl, v', s', x'⟩
 ·simp only [Option.some.injEq, Prod.mk.injEq] at h; obtain ⟨rfl, rfl, rfl⟩ := h
  exact key.2
theorem s_load (hT : Tab P T) {g : G} {w : World} {st : St} (hst : SimSt T g st w) {ρ : Operand → Value} {t : TypeId} {x : Operand} {v : V} {st' : St} {side : Prop} {ev : Operand → V} (hev : ∀ x, SimV g w (ev x) (ρ x))
  (h : memOp T an dst (.load t x) ev st = some (v, st', side)) (hs : side) : Did P T ρ ⟨dst, .load t x, ty, pos, aft, gd⟩ g w v st' := by
 simp only [memOp] at h
 have hx := hev x
 split at h
 case h_2 => simp at h
 rename_i o n hx'
 split at h
 case h_2 => simp at h
 rename_i c hc
 split at h
 case isFalse => simp at h
 rename_i hk
 cases hl : loadV (T t) (c.drop n) with
 | none => simp [hl] at h
 | some r =>
  simp only [hl, Option.map_some, Option.some.injEq, Prod.mk.injEq] at h
  obtain ⟨rfl, rfl, rfl⟩ := h
  rw [hx'] at hx
  simp only [SimV] at hx
  obtain ⟨ho, hx⟩ := hx
  obtain ⟨h1, vs, t', h2, h3, h4⟩ := hst.ent o _ hc
  have e : ∀ j u, (vs.drop n)[j]? = some u → w.cell? ((Addr.mk (g.pb o) n none).add j) = some u := by
   intro j u hj
   rw [Addr.add_eq rfl]
   simp only [World.cell?, h2]
   rw [List.getElem?_drop] at hj
   simpa using hj
  obtain ⟨val, r1, r2⟩ := load_cells hT (known_kind hk) (h3.drop n) (fun u hu => h4 u (List.mem_of_mem_drop hu)) e hl hs
  exact ⟨_, val, w, g, by simp [execOp, Instr.loadAt, Instr.sureAddr, hx, r1], .inl rfl, r2, hst, Ext.refl _ _⟩
/-- A row of the same length leaves the shapes. -/
theorem shape_setRow {w : World} {r : Nat} {cs cs' : List Value} {t : TypeId} {fz : Nat × Nat} (h : w.heap[r]? = some (.cells cs.toArray t fz)) (hl : cs'.length = cs.length) : ∀ b, b < w.heap.size → (w.setRow r cs'.toArray).shape? b = w.shape? b := fun b _ => by
 by_cases e : b = r
 ·subst e
  simp [World.shape?, setRow_heap w _ _ _ _ _ h, h, hl]
 ·exact shape_of_block (setRow_other w _ b _ e)
/-- A write into a box. -/
theorem SimSt.write {g : G} {st : St} {w : World} (hst : SimSt T g st w) {o : Nat} {c c' : List V} {vs vs' : List Value} {t : TypeId} (ho : st[o]? = some (.box c)) (hw : w.heap[g.pb o]? = some (.cells vs.toArray t (0, 0)))
  (hc : SimVs g w c' vs') (h1 : ∀ u ∈ vs', u.oneCell' = true) (hsz : vs'.length = vs.length) : SimSt T g (st.set o (.box c')) (w.setRow (g.pb o) vs'.toArray) ∧ Ext g w g (w.setRow (g.pb o) vs'.toArray) := by
 have hown : g.own (g.pb o) = some 0 := (hst.ent o _ ho).1
 have hx : Ext g w g (w.setRow (g.pb o) vs'.toArray) := by
  refine ⟨rfl, rfl, rfl, by simp, Nat.le_refl _, fun _ _ => rfl, fun _ _ => Nat.le_refl _, fun _ _ _ => rfl, fun b hb hb' => ⟨setRow_other w _ b _ (fun e => by rw [e, hown] at hb'; cases hb'), hb'⟩, fun b k hb hb' => ⟨fun off hoff => ?_, fun k' hk' => by rw [hb'] at hk'; cases hk'; exact Nat.le_refl _⟩, shape_setRow hw hsz⟩
  by_cases e : b = g.pb o
  ·subst e; rw [hown] at hb'; cases hb'; omega
  ·exact cell_of_block (setRow_other w _ b _ e)
 have hlen : o < st.length := (List.getElem?_eq_some_iff.1 ho).1
 refine ⟨⟨by simpa using hst.n, fun i e hi => ?_, fun i j ei ej b hi hj k1 k2 => ?_, hst.amb.ext hx⟩, hx⟩
 ·by_cases hio : i = o
  ·subst hio
   rw [List.getElem?_set_self hlen] at hi
   cases hi
   exact ⟨hown, vs', t, setRow_heap w _ _ _ _ _ hw, hc.ext hx, h1⟩
  ·rw [List.getElem?_set_ne (by omega)] at hi
   refine (hst.ent i e hi).keep hx rfl rfl rfl fun b hb => ⟨setRow_other w _ b _ (fun e' => ?_), rfl⟩
   subst e'
   exact hio (hst.one i o e _ (g.pb o) hi ho hb rfl)
 ·have bk : ∀ k ek, (st.set o (.box c'))[k]? = some ek → ∃ ek', st[k]? = some ek' ∧ blkOf g k ek = blkOf g k ek' := by
   intro k ek hk
   by_cases hko : k = o
   ·subst hko
    rw [List.getElem?_set_self hlen] at hk
    cases hk
    exact ⟨_, ho, rfl⟩
   ·rw [List.getElem?_set_ne (by omega)] at hk
    exact ⟨_, hk, rfl⟩
  obtain ⟨ei', i1, i2⟩ := bk i ei hi
  obtain ⟨ej', j1, j2⟩ := bk j ej hj
  exact hst.one i j ei' ej' b i1 j1 (i2 ▸ k1) (j2 ▸ k2)
theorem s_store (hT : Tab P T) {g : G} {w : World} {st : St} (hst : SimSt T g st w) {ρ : Operand → Value} {t : TypeId} {a x : Operand} {v : V} {st' : St} {side : Prop} {ev : Operand → V} (hev : ∀ x, SimV g w (ev x) (ρ x))
  (h : memOp T an dst (.store t a x) ev st = some (v, st', side)) (hs : side) : Did P T ρ ⟨dst, .store t a x, ty, pos, aft, gd⟩ g w v st' := by
 simp only [memOp] at h
 have ha := hev a
 split at h
 case h_2 => simp at h
 rename_i o n ha'
 split at h
 case h_2 => simp at h
 rename_i c l hc hl
 split at h
 case isFalse => simp at h
 rename_i hk
 obtain ⟨hk, hlen⟩ := hk
 simp only [Option.some.injEq, Prod.mk.injEq] at h
 obtain ⟨rfl, rfl, rfl⟩ := h
 rw [ha'] at ha
 simp only [SimV] at ha
 obtain ⟨hon, ha⟩ := ha
 obtain ⟨h1, vs, t', h2, h3, h4⟩ := hst.ent o _ hc
 obtain ⟨k1, k2⟩ := cells_sim hl (hev x)
 have hcl : (ρ x).cells.toList.length = l.length := k1.length
 have hvl := h3.length
 have hrun := run_storeCells_at P (g.pb o) n t' (ρ x).cells.toList 0 vs.toArray w h2 (by rw [hcl]; simp; omega) k2
 simp only [Nat.add_zero, hcl] at hrun
 obtain ⟨s1, s2⟩ := hst.write (c' := c.take n ++ l ++ c.drop (n + l.length)) (vs' := vs.take n ++ (ρ x).cells.toList ++ vs.drop (n + l.length)) hc h2
  (((h3.take n).append k1).append (h3.drop _)) (fun u hu => by
   simp only [List.mem_append] at hu
   rcases hu with (hu | hu) | hu
   ·exact h4 u (List.mem_of_mem_take hu)
   ·exact k2 u hu
   ·exact h4 u (List.mem_of_mem_drop hu)) (by simp only [List.length_append, List.length_take, List.length_drop, hcl]; omega)
 refine ⟨.skip, undef, _, g, ?_, .inr ⟨rfl, rfl⟩, by simp [SimV], s1, s2⟩
 have hso := hT.sizeOf (known_kind hk) w
 have hcs : (ρ x).cells.size = (T t).size := by rw [← hlen, ← hcl]; simp
 simp [execOp, Instr.storeAt, Instr.sureAddr, ha, storeVar, hso, hcs, hrun]
end
end Go.Proofs.YtpllcpbhjglpaaaGreatDoor.Gw
