/- The table of the types of this place, as the engine wants it: each row held against the program. Contracts: what the small functions on strings and on lists of strings give. Contracts: letters, numbers, names. Import sets: how they lie in memory; their form; slices.ContainsFunc. Contracts: what is wrong with data. Contracts: what is wrong with lists of data. Contracts: what is wrong with lists of data (the document's answer); the base's names; a datum without what its kinds have not. Contracts: a datum without what its kinds have not. Contracts: a datum without what its kinds have not (the document's answer); when data are the same. Contracts: when data are the same. Reading data: blanks, nodes, faults. Calls of the library that leave what there was. Reading data: numbers; faults; atoms. -/
import Derived.Test.YtpllcpbhjglpaaaGreatDoorZX6
import Derived.Test.YtpllcpbhjglpaaaGreatDoorProg
import Derived.KernelRfl
import Derived.Lib.Strings
import Derived.Lib.Walk
import Derived.Lib.Bytealg
import Derived.Shelf.Strconv.ParseIntPublic10
import Derived.Shelf.Lay
import Derived.Lib.AtoiErrMem
import Derived.Ground.NamesProg
namespace Go.Proofs.YtpllcpbhjglpaaaGreatDoor.Gw
open Go
def tab : List TI := [
 ⟨.other, 0, 0, []⟩,
 ⟨.func, 1, 8, [.nilf]⟩,
 ⟨.int .i64, 1, 8, [.int .i64 0]⟩,
 ⟨.int .i64, 1, 8, [.int .i64 0]⟩,
 ⟨.bool, 1, 1, [.bool false]⟩,
 ⟨.int .u8, 1, 1, [.int .u8 0]⟩,
 ⟨.int .u8, 1, 1, [.int .u8 0]⟩,
 ⟨.struct [(0, 2), (1, 3), (2, 4), (3, 6)], 4, 24, [.int .i64 0, .int .i64 0, .bool false, .int .u8 0]⟩,
 ⟨.struct [(0, 2), (1, 3), (2, 4), (3, 6)], 4, 24, [.int .i64 0, .int .i64 0, .bool false, .int .u8 0]⟩,
 ⟨.str, 1, 16, [.str []]⟩,
 ⟨.str, 1, 16, [.str []]⟩,
 ⟨.str, 1, 16, [.str []]⟩,
 ⟨.int .u64, 1, 8, [.int .u64 0]⟩,
 ⟨.other, 0, 0, []⟩,
 ⟨.other, 0, 0, []⟩,
 ⟨.ptr 175, 1, 8, [.nilp]⟩,
 ⟨.ptr 178, 1, 8, [.nilp]⟩,
 ⟨.ptr 186, 1, 8, [.nilp]⟩,
 ⟨.other, 0, 0, []⟩,
 ⟨.other, 0, 0, []⟩,
 ⟨.iface, 1, 16, [.nili]⟩,
 ⟨.int .i32, 1, 4, [.int .i32 0]⟩,
 ⟨.slice 59, 1, 24, [.nils]⟩,
 ⟨.slice 9, 1, 24, [.nils]⟩,
 ⟨.slice 26, 1, 24, [.nils]⟩,
 ⟨.struct [(0, 3), (1, 2), (2, 9), (3, 3), (4, 3), (5, 24)], 6, 72, [.int .i64 0, .int .i64 0, .str [], .int .i64 0, .int .i64 0, .nils]⟩,
 ⟨.struct [(0, 3), (1, 2), (2, 9), (3, 3), (4, 3), (5, 24)], 6, 72, [.int .i64 0, .int .i64 0, .str [], .int .i64 0, .int .i64 0, .nils]⟩,
 ⟨.slice 65, 1, 24, [.nils]⟩,
 ⟨.slice 69, 1, 24, [.nils]⟩,
 ⟨.struct [(0, 9), (1, 27), (2, 28), (3, 24)], 4, 88, [.str [], .nils, .nils, .nils]⟩,
 ⟨.struct [(0, 9), (1, 27), (2, 28), (3, 24)], 4, 88, [.str [], .nils, .nils, .nils]⟩,
 ⟨.int .i64, 1, 8, [.int .i64 0]⟩,
 ⟨.other, 0, 0, []⟩,
 ⟨.func, 1, 8, [.nilf]⟩,
 ⟨.func, 1, 8, [.nilf]⟩,
 ⟨.func, 1, 8, [.nilf]⟩,
 ⟨.func, 1, 8, [.nilf]⟩,
 ⟨.func, 1, 8, [.nilf]⟩,
 ⟨.func, 1, 8, [.nilf]⟩,
 ⟨.struct [(0, 31), (1, 3)], 2, 16, [.int .i64 0, .int .i64 0]⟩,
 ⟨.struct [(0, 31), (1, 3)], 2, 16, [.int .i64 0, .int .i64 0]⟩,
 ⟨.func, 1, 8, [.nilf]⟩,
 ⟨.struct [(0, 31)], 1, 8, [.int .i64 0]⟩,
 ⟨.struct [(0, 31)], 1, 8, [.int .i64 0]⟩,
 ⟨.ptr 46, 1, 8, [.nilp]⟩,
 ⟨.struct [(0, 22), (1, 23), (2, 23), (3, 30), (7, 3)], 8, 168, [.nils, .nils, .nils, .str [], .nils, .nils, .nils, .int .i64 0]⟩,
 ⟨.struct [(0, 22), (1, 23), (2, 23), (3, 30), (7, 3)], 8, 168, [.nils, .nils, .nils, .str [], .nils, .nils, .nils, .int .i64 0]⟩,
 ⟨.func, 1, 8, [.nilf]⟩,
 ⟨.func, 1, 8, [.nilf]⟩,
 ⟨.func, 1, 8, [.nilf]⟩,
 ⟨.func, 1, 8, [.nilf]⟩,
 ⟨.ptr 53, 1, 8, [.nilp]⟩,
 ⟨.struct [(0, 22), (1, 23), (2, 23), (3, 30), (7, 31)], 8, 168, [.nils, .nils, .nils, .str [], .nils, .nils, .nils, .int .i64 0]⟩,
 ⟨.struct [(0, 22), (1, 23), (2, 23), (3, 30), (7, 31)], 8, 168, [.nils, .nils, .nils, .str [], .nils, .nils, .nils, .int .i64 0]⟩,
 ⟨.func, 1, 8, [.nilf]⟩,
 ⟨.func, 1, 8, [.nilf]⟩,
 ⟨.func, 1, 8, [.nilf]⟩,
 ⟨.func, 1, 8, [.nilf]⟩,
 ⟨.struct [(0, 9), (1, 9)], 2, 32, [.str [], .str []]⟩,
 ⟨.struct [(0, 9), (1, 9)], 2, 32, [.str [], .str []]⟩,
 ⟨.func, 1, 8, [.nilf]⟩,
 ⟨.func, 1, 8, [.nilf]⟩,
 ⟨.func, 1, 8, [.nilf]⟩,
 ⟨.func, 1, 8, [.nilf]⟩,
 ⟨.struct [(0, 9), (1, 9)], 2, 32, [.str [], .str []]⟩,
 ⟨.struct [(0, 9), (1, 9)], 2, 32, [.str [], .str []]⟩,
 ⟨.func, 1, 8, [.nilf]⟩,
 ⟨.ptr 69, 1, 8, [.nilp]⟩,
 ⟨.struct [(0, 3), (1, 9), (2, 23), (3, 23), (4, 9), (5, 28)], 6, 112, [.int .i64 0, .str [], .nils, .nils, .str [], .nils]⟩,
 ⟨.struct [(0, 3), (1, 9), (2, 23), (3, 23), (4, 9), (5, 28)], 6, 112, [.int .i64 0, .str [], .nils, .nils, .str [], .nils]⟩,
 ⟨.func, 1, 8, [.nilf]⟩,
 ⟨.func, 1, 8, [.nilf]⟩,
 ⟨.ptr 74, 1, 8, [.nilp]⟩,
 ⟨.struct [(0, 3)], 1, 8, [.int .i64 0]⟩,
 ⟨.struct [(0, 3)], 1, 8, [.int .i64 0]⟩,
 ⟨.func, 1, 8, [.nilf]⟩,
 ⟨.ptr 26, 1, 8, [.nilp]⟩,
 ⟨.func, 1, 8, [.nilf]⟩,
 ⟨.func, 1, 8, [.nilf]⟩,
 ⟨.func, 1, 8, [.nilf]⟩,
 ⟨.func, 1, 8, [.nilf]⟩,
 ⟨.ptr 3, 1, 8, [.nilp]⟩,
 ⟨.func, 1, 8, [.nilf]⟩,
 ⟨.other, 0, 0, []⟩,
 ⟨.func, 1, 8, [.nilf]⟩,
 ⟨.func, 1, 8, [.nilf]⟩,
 ⟨.func, 1, 8, [.nilf]⟩,
 ⟨.func, 1, 8, [.nilf]⟩,
 ⟨.ptr 91, 1, 8, [.nilp]⟩,
 ⟨.slice 5, 1, 24, [.nils]⟩,
 ⟨.struct [(0, 88), (1, 89)], 2, 32, [.nilp, .nils]⟩,
 ⟨.struct [(0, 88), (1, 89)], 2, 32, [.nilp, .nils]⟩,
 ⟨.func, 1, 8, [.nilf]⟩,
 ⟨.other, 0, 0, []⟩,
 ⟨.other, 0, 0, []⟩,
 ⟨.other, 0, 0, []⟩,
 ⟨.func, 1, 8, [.nilf]⟩,
 ⟨.func, 1, 8, [.nilf]⟩,
 ⟨.func, 1, 8, [.nilf]⟩,
 ⟨.func, 1, 8, [.nilf]⟩,
 ⟨.func, 1, 8, [.nilf]⟩,
 ⟨.func, 1, 8, [.nilf]⟩,
 ⟨.func, 1, 8, [.nilf]⟩,
 ⟨.map 9 3, 1, 8, [.nilm]⟩,
 ⟨.ptr 106, 1, 8, [.nilp]⟩,
 ⟨.struct [(0, 9), (1, 3), (2, 3), (3, 40)], 5, 48, [.str [], .int .i64 0, .int .i64 0, .int .i64 0, .int .i64 0]⟩,
 ⟨.struct [(0, 9), (1, 3), (2, 3), (3, 40)], 5, 48, [.str [], .int .i64 0, .int .i64 0, .int .i64 0, .int .i64 0]⟩,
 ⟨.func, 1, 8, [.nilf]⟩,
 ⟨.func, 1, 8, [.nilf]⟩,
 ⟨.struct [(0, 40)], 2, 16, [.int .i64 0, .int .i64 0]⟩,
 ⟨.struct [(0, 40)], 2, 16, [.int .i64 0, .int .i64 0]⟩,
 ⟨.ptr 113, 1, 8, [.nilp]⟩,
 ⟨.struct [(0, 9), (1, 3), (2, 3)], 3, 32, [.str [], .int .i64 0, .int .i64 0]⟩,
 ⟨.struct [(0, 9), (1, 3), (2, 3)], 3, 32, [.str [], .int .i64 0, .int .i64 0]⟩,
 ⟨.func, 1, 8, [.nilf]⟩,
 ⟨.func, 1, 8, [.nilf]⟩,
 ⟨.func, 1, 8, [.nilf]⟩,
 ⟨.ptr 5, 1, 8, [.nilp]⟩,
 ⟨.func, 1, 8, [.nilf]⟩,
 ⟨.func, 1, 8, [.nilf]⟩,
 ⟨.func, 1, 8, [.nilf]⟩,
 ⟨.func, 1, 8, [.nilf]⟩,
 ⟨.func, 1, 8, [.nilf]⟩,
 ⟨.func, 1, 8, [.nilf]⟩,
 ⟨.other, 0, 0, []⟩,
 ⟨.func, 1, 8, [.nilf]⟩,
 ⟨.func, 1, 8, [.nilf]⟩,
 ⟨.func, 1, 8, [.nilf]⟩,
 ⟨.other, 0, 0, []⟩,
 ⟨.func, 1, 8, [.nilf]⟩,
 ⟨.func, 1, 8, [.nilf]⟩,
 ⟨.other, 0, 0, []⟩,
 ⟨.func, 1, 8, [.nilf]⟩,
 ⟨.func, 1, 8, [.nilf]⟩,
 ⟨.int .u64, 1, 8, [.int .u64 0]⟩,
 ⟨.func, 1, 8, [.nilf]⟩,
 ⟨.other, 0, 0, []⟩,
 ⟨.struct [(0, 5), (1, 5)], 2, 2, [.int .u8 0, .int .u8 0]⟩,
 ⟨.struct [(0, 5), (1, 5)], 2, 2, [.int .u8 0, .int .u8 0]⟩,
 ⟨.other, 0, 0, []⟩,
 ⟨.int .u32, 1, 4, [.int .u32 0]⟩,
 ⟨.other, 0, 0, []⟩,
 ⟨.func, 1, 8, [.nilf]⟩,
 ⟨.func, 1, 8, [.nilf]⟩,
 ⟨.int .i64, 1, 8, [.int .i64 0]⟩,
 ⟨.int .u64, 1, 8, [.int .u64 0]⟩,
 ⟨.other, 0, 0, []⟩,
 ⟨.func, 1, 8, [.nilf]⟩,
 ⟨.ptr 154, 1, 8, [.nilp]⟩,
 ⟨.func, 1, 8, [.nilf]⟩,
 ⟨.func, 1, 8, [.nilf]⟩,
 ⟨.func, 1, 8, [.nilf]⟩,
 ⟨.func, 1, 8, [.nilf]⟩,
 ⟨.other, 0, 0, []⟩,
 ⟨.other, 0, 0, []⟩,
 ⟨.func, 1, 8, [.nilf]⟩,
 ⟨.func, 1, 8, [.nilf]⟩,
 ⟨.ptr 159, 1, 8, [.nilp]⟩,
 ⟨.struct [(0, 9)], 1, 16, [.str []]⟩,
 ⟨.struct [(0, 9)], 1, 16, [.str []]⟩,
 ⟨.func, 1, 8, [.nilf]⟩,
 ⟨.other, 0, 0, []⟩,
 ⟨.func, 1, 8, [.nilf]⟩,
 ⟨.func, 1, 8, [.nilf]⟩,
 ⟨.other, 0, 0, []⟩,
 ⟨.func, 1, 8, [.nilf]⟩,
 ⟨.func, 1, 8, [.nilf]⟩,
 ⟨.other, 0, 0, []⟩,
 ⟨.other, 0, 0, []⟩,
 ⟨.func, 1, 8, [.nilf]⟩,
 ⟨.func, 1, 8, [.nilf]⟩,
 ⟨.func, 1, 8, [.nilf]⟩,
 ⟨.other, 0, 0, []⟩,
 ⟨.other, 0, 0, []⟩,
 ⟨.other, 0, 0, []⟩,
 ⟨.other, 0, 0, []⟩,
 ⟨.other, 0, 0, []⟩,
 ⟨.other, 0, 0, []⟩,
 ⟨.other, 0, 0, []⟩,
 ⟨.func, 1, 8, [.nilf]⟩,
 ⟨.int .u8, 1, 1, [.int .u8 0]⟩,
 ⟨.int .u8, 1, 1, [.int .u8 0]⟩,
 ⟨.func, 1, 8, [.nilf]⟩,
 ⟨.int .i32, 1, 4, [.int .i32 0]⟩,
 ⟨.int .i32, 1, 4, [.int .i32 0]⟩,
 ⟨.other, 0, 0, []⟩,
 ⟨.other, 0, 0, []⟩]
def TT (t : Nat) : TI := (tab[t]?).getD ⟨.other, 0, 0, []⟩
def rowsOk (P : Program) : Nat → List TI → Prop
 | _, [] => True
 | k, i :: r => (i.kind ≠ .other → TI.ok P k i) ∧ rowsOk P (k + 1) r
theorem rowsOk_get {P : Program} : ∀ (l : List TI) (k t : Nat) (i : TI), rowsOk P k l → l[t]? = some i → i.kind ≠ .other → TI.ok P (k + t) i
 | [], k, t, i, _, h, _ => by simp at h
 | j :: r, k, 0, i, h, h2, h3 => by simp at h2; subst h2; exact h.1 h3
 | j :: r, k, t + 1, i, h, h2, h3 => by
  have := rowsOk_get r (k + 1) t i h.2 (by simpa using h2) h3
  rw [show k + (t + 1) = k + 1 + t by omega]; exact this
theorem row_1 : TI.ok Tryz.prog 1 (TT 1) := ⟨by kernel_rfl, by kernel_rfl, by kernel_rfl, by kernel_rfl, (by intro h; first | rfl | cases h), (by intro h; first | kernel_rfl | cases h)⟩
theorem row_2 : TI.ok Tryz.prog 2 (TT 2) := ⟨by kernel_rfl, by kernel_rfl, by kernel_rfl, by kernel_rfl, (by intro h; first | rfl | cases h), (by intro h; first | kernel_rfl | cases h)⟩
theorem row_3 : TI.ok Tryz.prog 3 (TT 3) := ⟨by kernel_rfl, by kernel_rfl, by kernel_rfl, by kernel_rfl, (by intro h; first | rfl | cases h), (by intro h; first | kernel_rfl | cases h)⟩
theorem row_4 : TI.ok Tryz.prog 4 (TT 4) := ⟨by kernel_rfl, by kernel_rfl, by kernel_rfl, by kernel_rfl, (by intro h; first | rfl | cases h), (by intro h; first | kernel_rfl | cases h)⟩
theorem row_5 : TI.ok Tryz.prog 5 (TT 5) := ⟨by kernel_rfl, by kernel_rfl, by kernel_rfl, by kernel_rfl, (by intro h; first | rfl | cases h), (by intro h; first | kernel_rfl | cases h)⟩
theorem row_6 : TI.ok Tryz.prog 6 (TT 6) := ⟨by kernel_rfl, by kernel_rfl, by kernel_rfl, by kernel_rfl, (by intro h; first | rfl | cases h), (by intro h; first | kernel_rfl | cases h)⟩
theorem row_7 : TI.ok Tryz.prog 7 (TT 7) := ⟨by kernel_rfl, by kernel_rfl, by kernel_rfl, by kernel_rfl, (by intro h; first | rfl | cases h), (by intro h; first | kernel_rfl | cases h)⟩
theorem row_8 : TI.ok Tryz.prog 8 (TT 8) := ⟨by kernel_rfl, by kernel_rfl, by kernel_rfl, by kernel_rfl, (by intro h; first | rfl | cases h), (by intro h; first | kernel_rfl | cases h)⟩
theorem row_9 : TI.ok Tryz.prog 9 (TT 9) := ⟨by kernel_rfl, by kernel_rfl, by kernel_rfl, by kernel_rfl, (by intro h; first | rfl | cases h), (by intro h; first | kernel_rfl | cases h)⟩
theorem row_10 : TI.ok Tryz.prog 10 (TT 10) := ⟨by kernel_rfl, by kernel_rfl, by kernel_rfl, by kernel_rfl, (by intro h; first | rfl | cases h), (by intro h; first | kernel_rfl | cases h)⟩
theorem row_11 : TI.ok Tryz.prog 11 (TT 11) := ⟨by kernel_rfl, by kernel_rfl, by kernel_rfl, by kernel_rfl, (by intro h; first | rfl | cases h), (by intro h; first | kernel_rfl | cases h)⟩
theorem row_12 : TI.ok Tryz.prog 12 (TT 12) := ⟨by kernel_rfl, by kernel_rfl, by kernel_rfl, by kernel_rfl, (by intro h; first | rfl | cases h), (by intro h; first | kernel_rfl | cases h)⟩
theorem row_15 : TI.ok Tryz.prog 15 (TT 15) := ⟨by kernel_rfl, by kernel_rfl, by kernel_rfl, by kernel_rfl, (by intro h; first | rfl | cases h), (by intro h; first | kernel_rfl | cases h)⟩
theorem row_16 : TI.ok Tryz.prog 16 (TT 16) := ⟨by kernel_rfl, by kernel_rfl, by kernel_rfl, by kernel_rfl, (by intro h; first | rfl | cases h), (by intro h; first | kernel_rfl | cases h)⟩
theorem row_17 : TI.ok Tryz.prog 17 (TT 17) := ⟨by kernel_rfl, by kernel_rfl, by kernel_rfl, by kernel_rfl, (by intro h; first | rfl | cases h), (by intro h; first | kernel_rfl | cases h)⟩
theorem row_20 : TI.ok Tryz.prog 20 (TT 20) := ⟨by kernel_rfl, by kernel_rfl, by kernel_rfl, by kernel_rfl, (by intro h; first | rfl | cases h), (by intro h; first | kernel_rfl | cases h)⟩
theorem row_21 : TI.ok Tryz.prog 21 (TT 21) := ⟨by kernel_rfl, by kernel_rfl, by kernel_rfl, by kernel_rfl, (by intro h; first | rfl | cases h), (by intro h; first | kernel_rfl | cases h)⟩
theorem row_22 : TI.ok Tryz.prog 22 (TT 22) := ⟨by kernel_rfl, by kernel_rfl, by kernel_rfl, by kernel_rfl, (by intro h; first | rfl | cases h), (by intro h; first | kernel_rfl | cases h)⟩
theorem row_23 : TI.ok Tryz.prog 23 (TT 23) := ⟨by kernel_rfl, by kernel_rfl, by kernel_rfl, by kernel_rfl, (by intro h; first | rfl | cases h), (by intro h; first | kernel_rfl | cases h)⟩
theorem row_24 : TI.ok Tryz.prog 24 (TT 24) := ⟨by kernel_rfl, by kernel_rfl, by kernel_rfl, by kernel_rfl, (by intro h; first | rfl | cases h), (by intro h; first | kernel_rfl | cases h)⟩
theorem row_25 : TI.ok Tryz.prog 25 (TT 25) := ⟨by kernel_rfl, by kernel_rfl, by kernel_rfl, by kernel_rfl, (by intro h; first | rfl | cases h), (by intro h; first | kernel_rfl | cases h)⟩
theorem row_26 : TI.ok Tryz.prog 26 (TT 26) := ⟨by kernel_rfl, by kernel_rfl, by kernel_rfl, by kernel_rfl, (by intro h; first | rfl | cases h), (by intro h; first | kernel_rfl | cases h)⟩
theorem row_27 : TI.ok Tryz.prog 27 (TT 27) := ⟨by kernel_rfl, by kernel_rfl, by kernel_rfl, by kernel_rfl, (by intro h; first | rfl | cases h), (by intro h; first | kernel_rfl | cases h)⟩
theorem row_28 : TI.ok Tryz.prog 28 (TT 28) := ⟨by kernel_rfl, by kernel_rfl, by kernel_rfl, by kernel_rfl, (by intro h; first | rfl | cases h), (by intro h; first | kernel_rfl | cases h)⟩
theorem row_29 : TI.ok Tryz.prog 29 (TT 29) := ⟨by kernel_rfl, by kernel_rfl, by kernel_rfl, by kernel_rfl, (by intro h; first | rfl | cases h), (by intro h; first | kernel_rfl | cases h)⟩
theorem row_30 : TI.ok Tryz.prog 30 (TT 30) := ⟨by kernel_rfl, by kernel_rfl, by kernel_rfl, by kernel_rfl, (by intro h; first | rfl | cases h), (by intro h; first | kernel_rfl | cases h)⟩
theorem row_31 : TI.ok Tryz.prog 31 (TT 31) := ⟨by kernel_rfl, by kernel_rfl, by kernel_rfl, by kernel_rfl, (by intro h; first | rfl | cases h), (by intro h; first | kernel_rfl | cases h)⟩
theorem row_33 : TI.ok Tryz.prog 33 (TT 33) := ⟨by kernel_rfl, by kernel_rfl, by kernel_rfl, by kernel_rfl, (by intro h; first | rfl | cases h), (by intro h; first | kernel_rfl | cases h)⟩
theorem row_34 : TI.ok Tryz.prog 34 (TT 34) := ⟨by kernel_rfl, by kernel_rfl, by kernel_rfl, by kernel_rfl, (by intro h; first | rfl | cases h), (by intro h; first | kernel_rfl | cases h)⟩
theorem row_35 : TI.ok Tryz.prog 35 (TT 35) := ⟨by kernel_rfl, by kernel_rfl, by kernel_rfl, by kernel_rfl, (by intro h; first | rfl | cases h), (by intro h; first | kernel_rfl | cases h)⟩
theorem row_36 : TI.ok Tryz.prog 36 (TT 36) := ⟨by kernel_rfl, by kernel_rfl, by kernel_rfl, by kernel_rfl, (by intro h; first | rfl | cases h), (by intro h; first | kernel_rfl | cases h)⟩
theorem row_37 : TI.ok Tryz.prog 37 (TT 37) := ⟨by kernel_rfl, by kernel_rfl, by kernel_rfl, by kernel_rfl, (by intro h; first | rfl | cases h), (by intro h; first | kernel_rfl | cases h)⟩
theorem row_38 : TI.ok Tryz.prog 38 (TT 38) := ⟨by kernel_rfl, by kernel_rfl, by kernel_rfl, by kernel_rfl, (by intro h; first | rfl | cases h), (by intro h; first | kernel_rfl | cases h)⟩
theorem row_39 : TI.ok Tryz.prog 39 (TT 39) := ⟨by kernel_rfl, by kernel_rfl, by kernel_rfl, by kernel_rfl, (by intro h; first | rfl | cases h), (by intro h; first | kernel_rfl | cases h)⟩
theorem row_40 : TI.ok Tryz.prog 40 (TT 40) := ⟨by kernel_rfl, by kernel_rfl, by kernel_rfl, by kernel_rfl, (by intro h; first | rfl | cases h), (by intro h; first | kernel_rfl | cases h)⟩
theorem row_41 : TI.ok Tryz.prog 41 (TT 41) := ⟨by kernel_rfl, by kernel_rfl, by kernel_rfl, by kernel_rfl, (by intro h; first | rfl | cases h), (by intro h; first | kernel_rfl | cases h)⟩
theorem row_42 : TI.ok Tryz.prog 42 (TT 42) := ⟨by kernel_rfl, by kernel_rfl, by kernel_rfl, by kernel_rfl, (by intro h; first | rfl | cases h), (by intro h; first | kernel_rfl | cases h)⟩
theorem row_43 : TI.ok Tryz.prog 43 (TT 43) := ⟨by kernel_rfl, by kernel_rfl, by kernel_rfl, by kernel_rfl, (by intro h; first | rfl | cases h), (by intro h; first | kernel_rfl | cases h)⟩
theorem row_44 : TI.ok Tryz.prog 44 (TT 44) := ⟨by kernel_rfl, by kernel_rfl, by kernel_rfl, by kernel_rfl, (by intro h; first | rfl | cases h), (by intro h; first | kernel_rfl | cases h)⟩
theorem row_45 : TI.ok Tryz.prog 45 (TT 45) := ⟨by kernel_rfl, by kernel_rfl, by kernel_rfl, by kernel_rfl, (by intro h; first | rfl | cases h), (by intro h; first | kernel_rfl | cases h)⟩
theorem row_46 : TI.ok Tryz.prog 46 (TT 46) := ⟨by kernel_rfl, by kernel_rfl, by kernel_rfl, by kernel_rfl, (by intro h; first | rfl | cases h), (by intro h; first | kernel_rfl | cases h)⟩
theorem row_47 : TI.ok Tryz.prog 47 (TT 47) := ⟨by kernel_rfl, by kernel_rfl, by kernel_rfl, by kernel_rfl, (by intro h; first | rfl | cases h), (by intro h; first | kernel_rfl | cases h)⟩
theorem row_48 : TI.ok Tryz.prog 48 (TT 48) := ⟨by kernel_rfl, by kernel_rfl, by kernel_rfl, by kernel_rfl, (by intro h; first | rfl | cases h), (by intro h; first | kernel_rfl | cases h)⟩
theorem row_49 : TI.ok Tryz.prog 49 (TT 49) := ⟨by kernel_rfl, by kernel_rfl, by kernel_rfl, by kernel_rfl, (by intro h; first | rfl | cases h), (by intro h; first | kernel_rfl | cases h)⟩
theorem row_50 : TI.ok Tryz.prog 50 (TT 50) := ⟨by kernel_rfl, by kernel_rfl, by kernel_rfl, by kernel_rfl, (by intro h; first | rfl | cases h), (by intro h; first | kernel_rfl | cases h)⟩
theorem row_51 : TI.ok Tryz.prog 51 (TT 51) := ⟨by kernel_rfl, by kernel_rfl, by kernel_rfl, by kernel_rfl, (by intro h; first | rfl | cases h), (by intro h; first | kernel_rfl | cases h)⟩
theorem row_52 : TI.ok Tryz.prog 52 (TT 52) := ⟨by kernel_rfl, by kernel_rfl, by kernel_rfl, by kernel_rfl, (by intro h; first | rfl | cases h), (by intro h; first | kernel_rfl | cases h)⟩
theorem row_53 : TI.ok Tryz.prog 53 (TT 53) := ⟨by kernel_rfl, by kernel_rfl, by kernel_rfl, by kernel_rfl, (by intro h; first | rfl | cases h), (by intro h; first | kernel_rfl | cases h)⟩
theorem row_54 : TI.ok Tryz.prog 54 (TT 54) := ⟨by kernel_rfl, by kernel_rfl, by kernel_rfl, by kernel_rfl, (by intro h; first | rfl | cases h), (by intro h; first | kernel_rfl | cases h)⟩
theorem row_55 : TI.ok Tryz.prog 55 (TT 55) := ⟨by kernel_rfl, by kernel_rfl, by kernel_rfl, by kernel_rfl, (by intro h; first | rfl | cases h), (by intro h; first | kernel_rfl | cases h)⟩
theorem row_56 : TI.ok Tryz.prog 56 (TT 56) := ⟨by kernel_rfl, by kernel_rfl, by kernel_rfl, by kernel_rfl, (by intro h; first | rfl | cases h), (by intro h; first | kernel_rfl | cases h)⟩
theorem row_57 : TI.ok Tryz.prog 57 (TT 57) := ⟨by kernel_rfl, by kernel_rfl, by kernel_rfl, by kernel_rfl, (by intro h; first | rfl | cases h), (by intro h; first | kernel_rfl | cases h)⟩
theorem row_58 : TI.ok Tryz.prog 58 (TT 58) := ⟨by kernel_rfl, by kernel_rfl, by kernel_rfl, by kernel_rfl, (by intro h; first | rfl | cases h), (by intro h; first | kernel_rfl | cases h)⟩
theorem row_59 : TI.ok Tryz.prog 59 (TT 59) := ⟨by kernel_rfl, by kernel_rfl, by kernel_rfl, by kernel_rfl, (by intro h; first | rfl | cases h), (by intro h; first | kernel_rfl | cases h)⟩
theorem row_60 : TI.ok Tryz.prog 60 (TT 60) := ⟨by kernel_rfl, by kernel_rfl, by kernel_rfl, by kernel_rfl, (by intro h; first | rfl | cases h), (by intro h; first | kernel_rfl | cases h)⟩
theorem row_61 : TI.ok Tryz.prog 61 (TT 61) := ⟨by kernel_rfl, by kernel_rfl, by kernel_rfl, by kernel_rfl, (by intro h; first | rfl | cases h), (by intro h; first | kernel_rfl | cases h)⟩
theorem row_62 : TI.ok Tryz.prog 62 (TT 62) := ⟨by kernel_rfl, by kernel_rfl, by kernel_rfl, by kernel_rfl, (by intro h; first | rfl | cases h), (by intro h; first | kernel_rfl | cases h)⟩
theorem row_63 : TI.ok Tryz.prog 63 (TT 63) := ⟨by kernel_rfl, by kernel_rfl, by kernel_rfl, by kernel_rfl, (by intro h; first | rfl | cases h), (by intro h; first | kernel_rfl | cases h)⟩
theorem row_64 : TI.ok Tryz.prog 64 (TT 64) := ⟨by kernel_rfl, by kernel_rfl, by kernel_rfl, by kernel_rfl, (by intro h; first | rfl | cases h), (by intro h; first | kernel_rfl | cases h)⟩
theorem row_65 : TI.ok Tryz.prog 65 (TT 65) := ⟨by kernel_rfl, by kernel_rfl, by kernel_rfl, by kernel_rfl, (by intro h; first | rfl | cases h), (by intro h; first | kernel_rfl | cases h)⟩
theorem row_66 : TI.ok Tryz.prog 66 (TT 66) := ⟨by kernel_rfl, by kernel_rfl, by kernel_rfl, by kernel_rfl, (by intro h; first | rfl | cases h), (by intro h; first | kernel_rfl | cases h)⟩
theorem row_67 : TI.ok Tryz.prog 67 (TT 67) := ⟨by kernel_rfl, by kernel_rfl, by kernel_rfl, by kernel_rfl, (by intro h; first | rfl | cases h), (by intro h; first | kernel_rfl | cases h)⟩
theorem row_68 : TI.ok Tryz.prog 68 (TT 68) := ⟨by kernel_rfl, by kernel_rfl, by kernel_rfl, by kernel_rfl, (by intro h; first | rfl | cases h), (by intro h; first | kernel_rfl | cases h)⟩
theorem row_69 : TI.ok Tryz.prog 69 (TT 69) := ⟨by kernel_rfl, by kernel_rfl, by kernel_rfl, by kernel_rfl, (by intro h; first | rfl | cases h), (by intro h; first | kernel_rfl | cases h)⟩
theorem row_70 : TI.ok Tryz.prog 70 (TT 70) := ⟨by kernel_rfl, by kernel_rfl, by kernel_rfl, by kernel_rfl, (by intro h; first | rfl | cases h), (by intro h; first | kernel_rfl | cases h)⟩
theorem row_71 : TI.ok Tryz.prog 71 (TT 71) := ⟨by kernel_rfl, by kernel_rfl, by kernel_rfl, by kernel_rfl, (by intro h; first | rfl | cases h), (by intro h; first | kernel_rfl | cases h)⟩
theorem row_72 : TI.ok Tryz.prog 72 (TT 72) := ⟨by kernel_rfl, by kernel_rfl, by kernel_rfl, by kernel_rfl, (by intro h; first | rfl | cases h), (by intro h; first | kernel_rfl | cases h)⟩
theorem row_73 : TI.ok Tryz.prog 73 (TT 73) := ⟨by kernel_rfl, by kernel_rfl, by kernel_rfl, by kernel_rfl, (by intro h; first | rfl | cases h), (by intro h; first | kernel_rfl | cases h)⟩
theorem row_74 : TI.ok Tryz.prog 74 (TT 74) := ⟨by kernel_rfl, by kernel_rfl, by kernel_rfl, by kernel_rfl, (by intro h; first | rfl | cases h), (by intro h; first | kernel_rfl | cases h)⟩
theorem row_75 : TI.ok Tryz.prog 75 (TT 75) := ⟨by kernel_rfl, by kernel_rfl, by kernel_rfl, by kernel_rfl, (by intro h; first | rfl | cases h), (by intro h; first | kernel_rfl | cases h)⟩
theorem row_76 : TI.ok Tryz.prog 76 (TT 76) := ⟨by kernel_rfl, by kernel_rfl, by kernel_rfl, by kernel_rfl, (by intro h; first | rfl | cases h), (by intro h; first | kernel_rfl | cases h)⟩
theorem row_77 : TI.ok Tryz.prog 77 (TT 77) := ⟨by kernel_rfl, by kernel_rfl, by kernel_rfl, by kernel_rfl, (by intro h; first | rfl | cases h), (by intro h; first | kernel_rfl | cases h)⟩
theorem row_78 : TI.ok Tryz.prog 78 (TT 78) := ⟨by kernel_rfl, by kernel_rfl, by kernel_rfl, by kernel_rfl, (by intro h; first | rfl | cases h), (by intro h; first | kernel_rfl | cases h)⟩
theorem row_79 : TI.ok Tryz.prog 79 (TT 79) := ⟨by kernel_rfl, by kernel_rfl, by kernel_rfl, by kernel_rfl, (by intro h; first | rfl | cases h), (by intro h; first | kernel_rfl | cases h)⟩
theorem row_80 : TI.ok Tryz.prog 80 (TT 80) := ⟨by kernel_rfl, by kernel_rfl, by kernel_rfl, by kernel_rfl, (by intro h; first | rfl | cases h), (by intro h; first | kernel_rfl | cases h)⟩
theorem row_81 : TI.ok Tryz.prog 81 (TT 81) := ⟨by kernel_rfl, by kernel_rfl, by kernel_rfl, by kernel_rfl, (by intro h; first | rfl | cases h), (by intro h; first | kernel_rfl | cases h)⟩
theorem row_82 : TI.ok Tryz.prog 82 (TT 82) := ⟨by kernel_rfl, by kernel_rfl, by kernel_rfl, by kernel_rfl, (by intro h; first | rfl | cases h), (by intro h; first | kernel_rfl | cases h)⟩
theorem row_84 : TI.ok Tryz.prog 84 (TT 84) := ⟨by kernel_rfl, by kernel_rfl, by kernel_rfl, by kernel_rfl, (by intro h; first | rfl | cases h), (by intro h; first | kernel_rfl | cases h)⟩
theorem row_85 : TI.ok Tryz.prog 85 (TT 85) := ⟨by kernel_rfl, by kernel_rfl, by kernel_rfl, by kernel_rfl, (by intro h; first | rfl | cases h), (by intro h; first | kernel_rfl | cases h)⟩
theorem row_86 : TI.ok Tryz.prog 86 (TT 86) := ⟨by kernel_rfl, by kernel_rfl, by kernel_rfl, by kernel_rfl, (by intro h; first | rfl | cases h), (by intro h; first | kernel_rfl | cases h)⟩
theorem row_87 : TI.ok Tryz.prog 87 (TT 87) := ⟨by kernel_rfl, by kernel_rfl, by kernel_rfl, by kernel_rfl, (by intro h; first | rfl | cases h), (by intro h; first | kernel_rfl | cases h)⟩
theorem row_88 : TI.ok Tryz.prog 88 (TT 88) := ⟨by kernel_rfl, by kernel_rfl, by kernel_rfl, by kernel_rfl, (by intro h; first | rfl | cases h), (by intro h; first | kernel_rfl | cases h)⟩
theorem row_89 : TI.ok Tryz.prog 89 (TT 89) := ⟨by kernel_rfl, by kernel_rfl, by kernel_rfl, by kernel_rfl, (by intro h; first | rfl | cases h), (by intro h; first | kernel_rfl | cases h)⟩
theorem row_90 : TI.ok Tryz.prog 90 (TT 90) := ⟨by kernel_rfl, by kernel_rfl, by kernel_rfl, by kernel_rfl, (by intro h; first | rfl | cases h), (by intro h; first | kernel_rfl | cases h)⟩
theorem row_91 : TI.ok Tryz.prog 91 (TT 91) := ⟨by kernel_rfl, by kernel_rfl, by kernel_rfl, by kernel_rfl, (by intro h; first | rfl | cases h), (by intro h; first | kernel_rfl | cases h)⟩
theorem row_92 : TI.ok Tryz.prog 92 (TT 92) := ⟨by kernel_rfl, by kernel_rfl, by kernel_rfl, by kernel_rfl, (by intro h; first | rfl | cases h), (by intro h; first | kernel_rfl | cases h)⟩
theorem row_96 : TI.ok Tryz.prog 96 (TT 96) := ⟨by kernel_rfl, by kernel_rfl, by kernel_rfl, by kernel_rfl, (by intro h; first | rfl | cases h), (by intro h; first | kernel_rfl | cases h)⟩
theorem row_97 : TI.ok Tryz.prog 97 (TT 97) := ⟨by kernel_rfl, by kernel_rfl, by kernel_rfl, by kernel_rfl, (by intro h; first | rfl | cases h), (by intro h; first | kernel_rfl | cases h)⟩
theorem row_98 : TI.ok Tryz.prog 98 (TT 98) := ⟨by kernel_rfl, by kernel_rfl, by kernel_rfl, by kernel_rfl, (by intro h; first | rfl | cases h), (by intro h; first | kernel_rfl | cases h)⟩
theorem row_99 : TI.ok Tryz.prog 99 (TT 99) := ⟨by kernel_rfl, by kernel_rfl, by kernel_rfl, by kernel_rfl, (by intro h; first | rfl | cases h), (by intro h; first | kernel_rfl | cases h)⟩
theorem row_100 : TI.ok Tryz.prog 100 (TT 100) := ⟨by kernel_rfl, by kernel_rfl, by kernel_rfl, by kernel_rfl, (by intro h; first | rfl | cases h), (by intro h; first | kernel_rfl | cases h)⟩
theorem row_101 : TI.ok Tryz.prog 101 (TT 101) := ⟨by kernel_rfl, by kernel_rfl, by kernel_rfl, by kernel_rfl, (by intro h; first | rfl | cases h), (by intro h; first | kernel_rfl | cases h)⟩
theorem row_102 : TI.ok Tryz.prog 102 (TT 102) := ⟨by kernel_rfl, by kernel_rfl, by kernel_rfl, by kernel_rfl, (by intro h; first | rfl | cases h), (by intro h; first | kernel_rfl | cases h)⟩
theorem row_103 : TI.ok Tryz.prog 103 (TT 103) := ⟨by kernel_rfl, by kernel_rfl, by kernel_rfl, by kernel_rfl, (by intro h; first | rfl | cases h), (by intro h; first | kernel_rfl | cases h)⟩
theorem row_104 : TI.ok Tryz.prog 104 (TT 104) := ⟨by kernel_rfl, by kernel_rfl, by kernel_rfl, by kernel_rfl, (by intro h; first | rfl | cases h), (by intro h; first | kernel_rfl | cases h)⟩
theorem row_105 : TI.ok Tryz.prog 105 (TT 105) := ⟨by kernel_rfl, by kernel_rfl, by kernel_rfl, by kernel_rfl, (by intro h; first | rfl | cases h), (by intro h; first | kernel_rfl | cases h)⟩
theorem row_106 : TI.ok Tryz.prog 106 (TT 106) := ⟨by kernel_rfl, by kernel_rfl, by kernel_rfl, by kernel_rfl, (by intro h; first | rfl | cases h), (by intro h; first | kernel_rfl | cases h)⟩
theorem row_107 : TI.ok Tryz.prog 107 (TT 107) := ⟨by kernel_rfl, by kernel_rfl, by kernel_rfl, by kernel_rfl, (by intro h; first | rfl | cases h), (by intro h; first | kernel_rfl | cases h)⟩
theorem row_108 : TI.ok Tryz.prog 108 (TT 108) := ⟨by kernel_rfl, by kernel_rfl, by kernel_rfl, by kernel_rfl, (by intro h; first | rfl | cases h), (by intro h; first | kernel_rfl | cases h)⟩
theorem row_109 : TI.ok Tryz.prog 109 (TT 109) := ⟨by kernel_rfl, by kernel_rfl, by kernel_rfl, by kernel_rfl, (by intro h; first | rfl | cases h), (by intro h; first | kernel_rfl | cases h)⟩
theorem row_110 : TI.ok Tryz.prog 110 (TT 110) := ⟨by kernel_rfl, by kernel_rfl, by kernel_rfl, by kernel_rfl, (by intro h; first | rfl | cases h), (by intro h; first | kernel_rfl | cases h)⟩
theorem row_111 : TI.ok Tryz.prog 111 (TT 111) := ⟨by kernel_rfl, by kernel_rfl, by kernel_rfl, by kernel_rfl, (by intro h; first | rfl | cases h), (by intro h; first | kernel_rfl | cases h)⟩
theorem row_112 : TI.ok Tryz.prog 112 (TT 112) := ⟨by kernel_rfl, by kernel_rfl, by kernel_rfl, by kernel_rfl, (by intro h; first | rfl | cases h), (by intro h; first | kernel_rfl | cases h)⟩
theorem row_113 : TI.ok Tryz.prog 113 (TT 113) := ⟨by kernel_rfl, by kernel_rfl, by kernel_rfl, by kernel_rfl, (by intro h; first | rfl | cases h), (by intro h; first | kernel_rfl | cases h)⟩
theorem row_114 : TI.ok Tryz.prog 114 (TT 114) := ⟨by kernel_rfl, by kernel_rfl, by kernel_rfl, by kernel_rfl, (by intro h; first | rfl | cases h), (by intro h; first | kernel_rfl | cases h)⟩
theorem row_115 : TI.ok Tryz.prog 115 (TT 115) := ⟨by kernel_rfl, by kernel_rfl, by kernel_rfl, by kernel_rfl, (by intro h; first | rfl | cases h), (by intro h; first | kernel_rfl | cases h)⟩
theorem row_116 : TI.ok Tryz.prog 116 (TT 116) := ⟨by kernel_rfl, by kernel_rfl, by kernel_rfl, by kernel_rfl, (by intro h; first | rfl | cases h), (by intro h; first | kernel_rfl | cases h)⟩
theorem row_117 : TI.ok Tryz.prog 117 (TT 117) := ⟨by kernel_rfl, by kernel_rfl, by kernel_rfl, by kernel_rfl, (by intro h; first | rfl | cases h), (by intro h; first | kernel_rfl | cases h)⟩
theorem row_118 : TI.ok Tryz.prog 118 (TT 118) := ⟨by kernel_rfl, by kernel_rfl, by kernel_rfl, by kernel_rfl, (by intro h; first | rfl | cases h), (by intro h; first | kernel_rfl | cases h)⟩
theorem row_119 : TI.ok Tryz.prog 119 (TT 119) := ⟨by kernel_rfl, by kernel_rfl, by kernel_rfl, by kernel_rfl, (by intro h; first | rfl | cases h), (by intro h; first | kernel_rfl | cases h)⟩
theorem row_120 : TI.ok Tryz.prog 120 (TT 120) := ⟨by kernel_rfl, by kernel_rfl, by kernel_rfl, by kernel_rfl, (by intro h; first | rfl | cases h), (by intro h; first | kernel_rfl | cases h)⟩
theorem row_121 : TI.ok Tryz.prog 121 (TT 121) := ⟨by kernel_rfl, by kernel_rfl, by kernel_rfl, by kernel_rfl, (by intro h; first | rfl | cases h), (by intro h; first | kernel_rfl | cases h)⟩
theorem row_122 : TI.ok Tryz.prog 122 (TT 122) := ⟨by kernel_rfl, by kernel_rfl, by kernel_rfl, by kernel_rfl, (by intro h; first | rfl | cases h), (by intro h; first | kernel_rfl | cases h)⟩
theorem row_123 : TI.ok Tryz.prog 123 (TT 123) := ⟨by kernel_rfl, by kernel_rfl, by kernel_rfl, by kernel_rfl, (by intro h; first | rfl | cases h), (by intro h; first | kernel_rfl | cases h)⟩
theorem row_125 : TI.ok Tryz.prog 125 (TT 125) := ⟨by kernel_rfl, by kernel_rfl, by kernel_rfl, by kernel_rfl, (by intro h; first | rfl | cases h), (by intro h; first | kernel_rfl | cases h)⟩
theorem row_126 : TI.ok Tryz.prog 126 (TT 126) := ⟨by kernel_rfl, by kernel_rfl, by kernel_rfl, by kernel_rfl, (by intro h; first | rfl | cases h), (by intro h; first | kernel_rfl | cases h)⟩
theorem row_127 : TI.ok Tryz.prog 127 (TT 127) := ⟨by kernel_rfl, by kernel_rfl, by kernel_rfl, by kernel_rfl, (by intro h; first | rfl | cases h), (by intro h; first | kernel_rfl | cases h)⟩
theorem row_129 : TI.ok Tryz.prog 129 (TT 129) := ⟨by kernel_rfl, by kernel_rfl, by kernel_rfl, by kernel_rfl, (by intro h; first | rfl | cases h), (by intro h; first | kernel_rfl | cases h)⟩
theorem row_130 : TI.ok Tryz.prog 130 (TT 130) := ⟨by kernel_rfl, by kernel_rfl, by kernel_rfl, by kernel_rfl, (by intro h; first | rfl | cases h), (by intro h; first | kernel_rfl | cases h)⟩
theorem row_132 : TI.ok Tryz.prog 132 (TT 132) := ⟨by kernel_rfl, by kernel_rfl, by kernel_rfl, by kernel_rfl, (by intro h; first | rfl | cases h), (by intro h; first | kernel_rfl | cases h)⟩
theorem row_133 : TI.ok Tryz.prog 133 (TT 133) := ⟨by kernel_rfl, by kernel_rfl, by kernel_rfl, by kernel_rfl, (by intro h; first | rfl | cases h), (by intro h; first | kernel_rfl | cases h)⟩
theorem row_134 : TI.ok Tryz.prog 134 (TT 134) := ⟨by kernel_rfl, by kernel_rfl, by kernel_rfl, by kernel_rfl, (by intro h; first | rfl | cases h), (by intro h; first | kernel_rfl | cases h)⟩
theorem row_135 : TI.ok Tryz.prog 135 (TT 135) := ⟨by kernel_rfl, by kernel_rfl, by kernel_rfl, by kernel_rfl, (by intro h; first | rfl | cases h), (by intro h; first | kernel_rfl | cases h)⟩
theorem row_137 : TI.ok Tryz.prog 137 (TT 137) := ⟨by kernel_rfl, by kernel_rfl, by kernel_rfl, by kernel_rfl, (by intro h; first | rfl | cases h), (by intro h; first | kernel_rfl | cases h)⟩
theorem row_138 : TI.ok Tryz.prog 138 (TT 138) := ⟨by kernel_rfl, by kernel_rfl, by kernel_rfl, by kernel_rfl, (by intro h; first | rfl | cases h), (by intro h; first | kernel_rfl | cases h)⟩
theorem row_140 : TI.ok Tryz.prog 140 (TT 140) := ⟨by kernel_rfl, by kernel_rfl, by kernel_rfl, by kernel_rfl, (by intro h; first | rfl | cases h), (by intro h; first | kernel_rfl | cases h)⟩
theorem row_142 : TI.ok Tryz.prog 142 (TT 142) := ⟨by kernel_rfl, by kernel_rfl, by kernel_rfl, by kernel_rfl, (by intro h; first | rfl | cases h), (by intro h; first | kernel_rfl | cases h)⟩
theorem row_143 : TI.ok Tryz.prog 143 (TT 143) := ⟨by kernel_rfl, by kernel_rfl, by kernel_rfl, by kernel_rfl, (by intro h; first | rfl | cases h), (by intro h; first | kernel_rfl | cases h)⟩
theorem row_144 : TI.ok Tryz.prog 144 (TT 144) := ⟨by kernel_rfl, by kernel_rfl, by kernel_rfl, by kernel_rfl, (by intro h; first | rfl | cases h), (by intro h; first | kernel_rfl | cases h)⟩
theorem row_145 : TI.ok Tryz.prog 145 (TT 145) := ⟨by kernel_rfl, by kernel_rfl, by kernel_rfl, by kernel_rfl, (by intro h; first | rfl | cases h), (by intro h; first | kernel_rfl | cases h)⟩
theorem row_147 : TI.ok Tryz.prog 147 (TT 147) := ⟨by kernel_rfl, by kernel_rfl, by kernel_rfl, by kernel_rfl, (by intro h; first | rfl | cases h), (by intro h; first | kernel_rfl | cases h)⟩
theorem row_148 : TI.ok Tryz.prog 148 (TT 148) := ⟨by kernel_rfl, by kernel_rfl, by kernel_rfl, by kernel_rfl, (by intro h; first | rfl | cases h), (by intro h; first | kernel_rfl | cases h)⟩
theorem row_149 : TI.ok Tryz.prog 149 (TT 149) := ⟨by kernel_rfl, by kernel_rfl, by kernel_rfl, by kernel_rfl, (by intro h; first | rfl | cases h), (by intro h; first | kernel_rfl | cases h)⟩
theorem row_150 : TI.ok Tryz.prog 150 (TT 150) := ⟨by kernel_rfl, by kernel_rfl, by kernel_rfl, by kernel_rfl, (by intro h; first | rfl | cases h), (by intro h; first | kernel_rfl | cases h)⟩
theorem row_151 : TI.ok Tryz.prog 151 (TT 151) := ⟨by kernel_rfl, by kernel_rfl, by kernel_rfl, by kernel_rfl, (by intro h; first | rfl | cases h), (by intro h; first | kernel_rfl | cases h)⟩
theorem row_152 : TI.ok Tryz.prog 152 (TT 152) := ⟨by kernel_rfl, by kernel_rfl, by kernel_rfl, by kernel_rfl, (by intro h; first | rfl | cases h), (by intro h; first | kernel_rfl | cases h)⟩
theorem row_155 : TI.ok Tryz.prog 155 (TT 155) := ⟨by kernel_rfl, by kernel_rfl, by kernel_rfl, by kernel_rfl, (by intro h; first | rfl | cases h), (by intro h; first | kernel_rfl | cases h)⟩
theorem row_156 : TI.ok Tryz.prog 156 (TT 156) := ⟨by kernel_rfl, by kernel_rfl, by kernel_rfl, by kernel_rfl, (by intro h; first | rfl | cases h), (by intro h; first | kernel_rfl | cases h)⟩
theorem row_157 : TI.ok Tryz.prog 157 (TT 157) := ⟨by kernel_rfl, by kernel_rfl, by kernel_rfl, by kernel_rfl, (by intro h; first | rfl | cases h), (by intro h; first | kernel_rfl | cases h)⟩
theorem row_158 : TI.ok Tryz.prog 158 (TT 158) := ⟨by kernel_rfl, by kernel_rfl, by kernel_rfl, by kernel_rfl, (by intro h; first | rfl | cases h), (by intro h; first | kernel_rfl | cases h)⟩
theorem row_159 : TI.ok Tryz.prog 159 (TT 159) := ⟨by kernel_rfl, by kernel_rfl, by kernel_rfl, by kernel_rfl, (by intro h; first | rfl | cases h), (by intro h; first | kernel_rfl | cases h)⟩
theorem row_160 : TI.ok Tryz.prog 160 (TT 160) := ⟨by kernel_rfl, by kernel_rfl, by kernel_rfl, by kernel_rfl, (by intro h; first | rfl | cases h), (by intro h; first | kernel_rfl | cases h)⟩
theorem row_162 : TI.ok Tryz.prog 162 (TT 162) := ⟨by kernel_rfl, by kernel_rfl, by kernel_rfl, by kernel_rfl, (by intro h; first | rfl | cases h), (by intro h; first | kernel_rfl | cases h)⟩
theorem row_163 : TI.ok Tryz.prog 163 (TT 163) := ⟨by kernel_rfl, by kernel_rfl, by kernel_rfl, by kernel_rfl, (by intro h; first | rfl | cases h), (by intro h; first | kernel_rfl | cases h)⟩
theorem row_165 : TI.ok Tryz.prog 165 (TT 165) := ⟨by kernel_rfl, by kernel_rfl, by kernel_rfl, by kernel_rfl, (by intro h; first | rfl | cases h), (by intro h; first | kernel_rfl | cases h)⟩
theorem row_166 : TI.ok Tryz.prog 166 (TT 166) := ⟨by kernel_rfl, by kernel_rfl, by kernel_rfl, by kernel_rfl, (by intro h; first | rfl | cases h), (by intro h; first | kernel_rfl | cases h)⟩
theorem row_169 : TI.ok Tryz.prog 169 (TT 169) := ⟨by kernel_rfl, by kernel_rfl, by kernel_rfl, by kernel_rfl, (by intro h; first | rfl | cases h), (by intro h; first | kernel_rfl | cases h)⟩
theorem row_170 : TI.ok Tryz.prog 170 (TT 170) := ⟨by kernel_rfl, by kernel_rfl, by kernel_rfl, by kernel_rfl, (by intro h; first | rfl | cases h), (by intro h; first | kernel_rfl | cases h)⟩
theorem row_171 : TI.ok Tryz.prog 171 (TT 171) := ⟨by kernel_rfl, by kernel_rfl, by kernel_rfl, by kernel_rfl, (by intro h; first | rfl | cases h), (by intro h; first | kernel_rfl | cases h)⟩
theorem row_179 : TI.ok Tryz.prog 179 (TT 179) := ⟨by kernel_rfl, by kernel_rfl, by kernel_rfl, by kernel_rfl, (by intro h; first | rfl | cases h), (by intro h; first | kernel_rfl | cases h)⟩
theorem row_180 : TI.ok Tryz.prog 180 (TT 180) := ⟨by kernel_rfl, by kernel_rfl, by kernel_rfl, by kernel_rfl, (by intro h; first | rfl | cases h), (by intro h; first | kernel_rfl | cases h)⟩
theorem row_181 : TI.ok Tryz.prog 181 (TT 181) := ⟨by kernel_rfl, by kernel_rfl, by kernel_rfl, by kernel_rfl, (by intro h; first | rfl | cases h), (by intro h; first | kernel_rfl | cases h)⟩
theorem row_182 : TI.ok Tryz.prog 182 (TT 182) := ⟨by kernel_rfl, by kernel_rfl, by kernel_rfl, by kernel_rfl, (by intro h; first | rfl | cases h), (by intro h; first | kernel_rfl | cases h)⟩
theorem row_183 : TI.ok Tryz.prog 183 (TT 183) := ⟨by kernel_rfl, by kernel_rfl, by kernel_rfl, by kernel_rfl, (by intro h; first | rfl | cases h), (by intro h; first | kernel_rfl | cases h)⟩
theorem row_184 : TI.ok Tryz.prog 184 (TT 184) := ⟨by kernel_rfl, by kernel_rfl, by kernel_rfl, by kernel_rfl, (by intro h; first | rfl | cases h), (by intro h; first | kernel_rfl | cases h)⟩
set_option maxRecDepth 100000 in
theorem rows_ok : rowsOk Tryz.prog 0 tab := by
 refine ⟨fun h => absurd rfl h, fun _ => row_1, fun _ => row_2, fun _ => row_3, fun _ => row_4, fun _ => row_5, fun _ => row_6, fun _ => row_7, fun _ => row_8, fun _ => row_9, fun _ => row_10, fun _ => row_11, fun _ => row_12, fun h => absurd rfl h, fun h => absurd rfl h, fun _ => row_15, fun _ => row_16, fun _ => row_17, fun h => absurd rfl h, fun h => absurd rfl h, fun _ => row_20, fun _ => row_21, fun _ => row_22, fun _ => row_23, fun _ => row_24, fun _ => row_25, fun _ => row_26, fun _ => row_27, fun _ => row_28, fun _ => row_29, fun _ => row_30, fun _ => row_31, fun h => absurd rfl h, fun _ => row_33, fun _ => row_34, fun _ => row_35, fun _ => row_36, fun _ => row_37, fun _ => row_38, fun _ => row_39, fun _ => row_40, fun _ => row_41, fun _ => row_42, fun _ => row_43, fun _ => row_44, fun _ => row_45, fun _ => row_46, fun _ => row_47, fun _ => row_48, fun _ => row_49, fun _ => row_50, fun _ => row_51, fun _ => row_52, fun _ => row_53, fun _ => row_54, fun _ => row_55, fun _ => row_56, fun _ => row_57, fun _ => row_58, fun _ => row_59, fun _ => row_60, fun _ => row_61, fun _ => row_62, fun _ => row_63, fun _ => row_64, fun _ => row_65, fun _ => row_66, fun _ => row_67, fun _ => row_68, fun _ => row_69, fun _ => row_70, fun _ => row_71, fun _ => row_72, fun _ => row_73, fun _ => row_74, fun _ => row_75, fun _ => row_76, fun _ => row_77, fun _ => row_78, fun _ => row_79, fun _ => row_80, fun _ => row_81, fun _ => row_82, fun h => absurd rfl h, fun _ => row_84, fun _ => row_85, fun _ => row_86, fun _ => row_87, fun _ => row_88, fun _ => row_89, fun _ => row_90, fun _ => row_91, fun _ => row_92, fun h => absurd rfl h, fun h => absurd rfl h, fun h => absurd rfl h, fun _ => row_96, fun _ => row_97, fun _ => row_98, fun _ => row_99, fun _ => row_100, fun _ => row_101, fun _ => row_102, fun _ => row_103, fun _ => row_104, fun _ => row_105, fun _ => row_106, fun _ => row_107, fun _ => row_108, fun _ => row_109, fun _ => row_110, fun _ => row_111, fun _ => row_112, fun _ => row_113, fun _ => row_114, fun _ => row_115, fun _ => row_116, fun _ => row_117, fun _ => row_118, fun _ => row_119, fun _ => row_120, fun _ => row_121, fun _ => row_122, fun _ => row_123, fun h => absurd rfl h, fun _ => row_125, fun _ => row_126, fun _ => row_127, fun h => absurd rfl h, fun _ => row_129, fun _ => row_130, fun h => absurd rfl h, fun _ => row_132, fun _ => row_133, fun _ => row_134, fun _ => row_135, fun h => absurd rfl h, fun _ => row_137, fun _ => row_138, fun h => absurd rfl h, fun _ => row_140, fun h => absurd rfl h, fun _ => row_142, fun _ => row_143, fun _ => row_144, fun _ => row_145, fun h => absurd rfl h, fun _ => row_147, fun _ => row_148, fun _ => row_149, fun _ => row_150, fun _ => row_151, fun _ => row_152, fun h => absurd rfl h, fun h => absurd rfl h, fun _ => row_155, fun _ => row_156, fun _ => row_157, fun _ => row_158, fun _ => row_159, fun _ => row_160, fun h => absurd rfl h, fun _ => row_162, fun _ => row_163, fun h => absurd rfl h, fun _ => row_165, fun _ => row_166, fun h => absurd rfl h, fun h => absurd rfl h, fun _ => row_169, fun _ => row_170, fun _ => row_171, fun h => absurd rfl h, fun h => absurd rfl h, fun h => absurd rfl h, fun h => absurd rfl h, fun h => absurd rfl h, fun h => absurd rfl h, fun h => absurd rfl h, fun _ => row_179, fun _ => row_180, fun _ => row_181, fun _ => row_182, fun _ => row_183, fun _ => row_184, fun h => absurd rfl h, fun h => absurd rfl h, trivial⟩
set_option maxRecDepth 100000 in
theorem gwTT :
  (TT 1 = ⟨.func, 1, 8, [.nilf]⟩) ∧
  (TT 2 = ⟨.int .i64, 1, 8, [.int .i64 0]⟩) ∧
  (TT 3 = ⟨.int .i64, 1, 8, [.int .i64 0]⟩) ∧
  (TT 4 = ⟨.bool, 1, 1, [.bool false]⟩) ∧
  (TT 5 = ⟨.int .u8, 1, 1, [.int .u8 0]⟩) ∧
  (TT 6 = ⟨.int .u8, 1, 1, [.int .u8 0]⟩) ∧
  (TT 7 = ⟨.struct [(0, 2), (1, 3), (2, 4), (3, 6)], 4, 24, [.int .i64 0, .int .i64 0, .bool false, .int .u8 0]⟩) ∧
  (TT 8 = ⟨.struct [(0, 2), (1, 3), (2, 4), (3, 6)], 4, 24, [.int .i64 0, .int .i64 0, .bool false, .int .u8 0]⟩) ∧
  (TT 9 = ⟨.str, 1, 16, [.str []]⟩) ∧
  (TT 10 = ⟨.str, 1, 16, [.str []]⟩) ∧
  (TT 11 = ⟨.str, 1, 16, [.str []]⟩) ∧
  (TT 12 = ⟨.int .u64, 1, 8, [.int .u64 0]⟩) ∧
  (TT 15 = ⟨.ptr 175, 1, 8, [.nilp]⟩) ∧
  (TT 16 = ⟨.ptr 178, 1, 8, [.nilp]⟩) ∧
  (TT 17 = ⟨.ptr 186, 1, 8, [.nilp]⟩) ∧
  (TT 20 = ⟨.iface, 1, 16, [.nili]⟩) ∧
  (TT 21 = ⟨.int .i32, 1, 4, [.int .i32 0]⟩) ∧
  (TT 22 = ⟨.slice 59, 1, 24, [.nils]⟩) ∧
  (TT 23 = ⟨.slice 9, 1, 24, [.nils]⟩) ∧
  (TT 24 = ⟨.slice 26, 1, 24, [.nils]⟩) ∧
  (TT 25 = ⟨.struct [(0, 3), (1, 2), (2, 9), (3, 3), (4, 3), (5, 24)], 6, 72, [.int .i64 0, .int .i64 0, .str [], .int .i64 0, .int .i64 0, .nils]⟩) ∧
  (TT 26 = ⟨.struct [(0, 3), (1, 2), (2, 9), (3, 3), (4, 3), (5, 24)], 6, 72, [.int .i64 0, .int .i64 0, .str [], .int .i64 0, .int .i64 0, .nils]⟩) ∧
  (TT 27 = ⟨.slice 65, 1, 24, [.nils]⟩) ∧
  (TT 28 = ⟨.slice 69, 1, 24, [.nils]⟩) ∧
  (TT 29 = ⟨.struct [(0, 9), (1, 27), (2, 28), (3, 24)], 4, 88, [.str [], .nils, .nils, .nils]⟩) ∧
  (TT 30 = ⟨.struct [(0, 9), (1, 27), (2, 28), (3, 24)], 4, 88, [.str [], .nils, .nils, .nils]⟩) ∧
  (TT 31 = ⟨.int .i64, 1, 8, [.int .i64 0]⟩) ∧
  (TT 33 = ⟨.func, 1, 8, [.nilf]⟩) ∧
  (TT 34 = ⟨.func, 1, 8, [.nilf]⟩) ∧
  (TT 35 = ⟨.func, 1, 8, [.nilf]⟩) ∧
  (TT 36 = ⟨.func, 1, 8, [.nilf]⟩) ∧
  (TT 37 = ⟨.func, 1, 8, [.nilf]⟩) ∧
  (TT 38 = ⟨.func, 1, 8, [.nilf]⟩) ∧
  (TT 39 = ⟨.struct [(0, 31), (1, 3)], 2, 16, [.int .i64 0, .int .i64 0]⟩) ∧
  (TT 40 = ⟨.struct [(0, 31), (1, 3)], 2, 16, [.int .i64 0, .int .i64 0]⟩) ∧
  (TT 41 = ⟨.func, 1, 8, [.nilf]⟩) ∧
  (TT 42 = ⟨.struct [(0, 31)], 1, 8, [.int .i64 0]⟩) ∧
  (TT 43 = ⟨.struct [(0, 31)], 1, 8, [.int .i64 0]⟩) ∧
  (TT 44 = ⟨.ptr 46, 1, 8, [.nilp]⟩) ∧
  (TT 45 = ⟨.struct [(0, 22), (1, 23), (2, 23), (3, 30), (7, 3)], 8, 168, [.nils, .nils, .nils, .str [], .nils, .nils, .nils, .int .i64 0]⟩) ∧
  (TT 46 = ⟨.struct [(0, 22), (1, 23), (2, 23), (3, 30), (7, 3)], 8, 168, [.nils, .nils, .nils, .str [], .nils, .nils, .nils, .int .i64 0]⟩) ∧
  (TT 47 = ⟨.func, 1, 8, [.nilf]⟩) ∧
  (TT 48 = ⟨.func, 1, 8, [.nilf]⟩) ∧
  (TT 49 = ⟨.func, 1, 8, [.nilf]⟩) ∧
  (TT 50 = ⟨.func, 1, 8, [.nilf]⟩) ∧
  (TT 51 = ⟨.ptr 53, 1, 8, [.nilp]⟩) ∧
  (TT 52 = ⟨.struct [(0, 22), (1, 23), (2, 23), (3, 30), (7, 31)], 8, 168, [.nils, .nils, .nils, .str [], .nils, .nils, .nils, .int .i64 0]⟩) ∧
  (TT 53 = ⟨.struct [(0, 22), (1, 23), (2, 23), (3, 30), (7, 31)], 8, 168, [.nils, .nils, .nils, .str [], .nils, .nils, .nils, .int .i64 0]⟩) ∧
  (TT 54 = ⟨.func, 1, 8, [.nilf]⟩) ∧
  (TT 55 = ⟨.func, 1, 8, [.nilf]⟩) ∧
  (TT 56 = ⟨.func, 1, 8, [.nilf]⟩) ∧
  (TT 57 = ⟨.func, 1, 8, [.nilf]⟩) ∧
  (TT 58 = ⟨.struct [(0, 9), (1, 9)], 2, 32, [.str [], .str []]⟩) ∧
  (TT 59 = ⟨.struct [(0, 9), (1, 9)], 2, 32, [.str [], .str []]⟩) ∧
  (TT 60 = ⟨.func, 1, 8, [.nilf]⟩) ∧
  (TT 61 = ⟨.func, 1, 8, [.nilf]⟩) ∧
  (TT 62 = ⟨.func, 1, 8, [.nilf]⟩) ∧
  (TT 63 = ⟨.func, 1, 8, [.nilf]⟩) ∧
  (TT 64 = ⟨.struct [(0, 9), (1, 9)], 2, 32, [.str [], .str []]⟩) ∧
  (TT 65 = ⟨.struct [(0, 9), (1, 9)], 2, 32, [.str [], .str []]⟩) ∧
  (TT 66 = ⟨.func, 1, 8, [.nilf]⟩) ∧
  (TT 67 = ⟨.ptr 69, 1, 8, [.nilp]⟩) ∧
  (TT 68 = ⟨.struct [(0, 3), (1, 9), (2, 23), (3, 23), (4, 9), (5, 28)], 6, 112, [.int .i64 0, .str [], .nils, .nils, .str [], .nils]⟩) ∧
  (TT 69 = ⟨.struct [(0, 3), (1, 9), (2, 23), (3, 23), (4, 9), (5, 28)], 6, 112, [.int .i64 0, .str [], .nils, .nils, .str [], .nils]⟩) ∧
  (TT 70 = ⟨.func, 1, 8, [.nilf]⟩) ∧
  (TT 71 = ⟨.func, 1, 8, [.nilf]⟩) ∧
  (TT 72 = ⟨.ptr 74, 1, 8, [.nilp]⟩) ∧
  (TT 73 = ⟨.struct [(0, 3)], 1, 8, [.int .i64 0]⟩) ∧
  (TT 74 = ⟨.struct [(0, 3)], 1, 8, [.int .i64 0]⟩) ∧
  (TT 75 = ⟨.func, 1, 8, [.nilf]⟩) ∧
  (TT 76 = ⟨.ptr 26, 1, 8, [.nilp]⟩) ∧
  (TT 77 = ⟨.func, 1, 8, [.nilf]⟩) ∧
  (TT 78 = ⟨.func, 1, 8, [.nilf]⟩) ∧
  (TT 79 = ⟨.func, 1, 8, [.nilf]⟩) ∧
  (TT 80 = ⟨.func, 1, 8, [.nilf]⟩) ∧
  (TT 81 = ⟨.ptr 3, 1, 8, [.nilp]⟩) ∧
  (TT 82 = ⟨.func, 1, 8, [.nilf]⟩) ∧
  (TT 84 = ⟨.func, 1, 8, [.nilf]⟩) ∧
  (TT 85 = ⟨.func, 1, 8, [.nilf]⟩) ∧
  (TT 86 = ⟨.func, 1, 8, [.nilf]⟩) ∧
  (TT 87 = ⟨.func, 1, 8, [.nilf]⟩) ∧
  (TT 88 = ⟨.ptr 91, 1, 8, [.nilp]⟩) ∧
  (TT 89 = ⟨.slice 5, 1, 24, [.nils]⟩) ∧
  (TT 90 = ⟨.struct [(0, 88), (1, 89)], 2, 32, [.nilp, .nils]⟩) ∧
  (TT 91 = ⟨.struct [(0, 88), (1, 89)], 2, 32, [.nilp, .nils]⟩) ∧
  (TT 92 = ⟨.func, 1, 8, [.nilf]⟩) ∧
  (TT 96 = ⟨.func, 1, 8, [.nilf]⟩) ∧
  (TT 97 = ⟨.func, 1, 8, [.nilf]⟩) ∧
  (TT 98 = ⟨.func, 1, 8, [.nilf]⟩) ∧
  (TT 99 = ⟨.func, 1, 8, [.nilf]⟩) ∧
  (TT 100 = ⟨.func, 1, 8, [.nilf]⟩) ∧
  (TT 101 = ⟨.func, 1, 8, [.nilf]⟩) ∧
  (TT 102 = ⟨.func, 1, 8, [.nilf]⟩) ∧
  (TT 103 = ⟨.map 9 3, 1, 8, [.nilm]⟩) ∧
  (TT 104 = ⟨.ptr 106, 1, 8, [.nilp]⟩) ∧
  (TT 105 = ⟨.struct [(0, 9), (1, 3), (2, 3), (3, 40)], 5, 48, [.str [], .int .i64 0, .int .i64 0, .int .i64 0, .int .i64 0]⟩) ∧
  (TT 106 = ⟨.struct [(0, 9), (1, 3), (2, 3), (3, 40)], 5, 48, [.str [], .int .i64 0, .int .i64 0, .int .i64 0, .int .i64 0]⟩) ∧
  (TT 107 = ⟨.func, 1, 8, [.nilf]⟩) ∧
  (TT 108 = ⟨.func, 1, 8, [.nilf]⟩) ∧
  (TT 109 = ⟨.struct [(0, 40)], 2, 16, [.int .i64 0, .int .i64 0]⟩) ∧
  (TT 110 = ⟨.struct [(0, 40)], 2, 16, [.int .i64 0, .int .i64 0]⟩) ∧
  (TT 111 = ⟨.ptr 113, 1, 8, [.nilp]⟩) ∧
  (TT 112 = ⟨.struct [(0, 9), (1, 3), (2, 3)], 3, 32, [.str [], .int .i64 0, .int .i64 0]⟩) ∧
  (TT 113 = ⟨.struct [(0, 9), (1, 3), (2, 3)], 3, 32, [.str [], .int .i64 0, .int .i64 0]⟩) ∧
  (TT 114 = ⟨.func, 1, 8, [.nilf]⟩) ∧
  (TT 115 = ⟨.func, 1, 8, [.nilf]⟩) ∧
  (TT 116 = ⟨.func, 1, 8, [.nilf]⟩) ∧
  (TT 117 = ⟨.ptr 5, 1, 8, [.nilp]⟩) ∧
  (TT 118 = ⟨.func, 1, 8, [.nilf]⟩) ∧
  (TT 119 = ⟨.func, 1, 8, [.nilf]⟩) ∧
  (TT 120 = ⟨.func, 1, 8, [.nilf]⟩) ∧
  (TT 121 = ⟨.func, 1, 8, [.nilf]⟩) ∧
  (TT 122 = ⟨.func, 1, 8, [.nilf]⟩) ∧
  (TT 123 = ⟨.func, 1, 8, [.nilf]⟩) ∧
  (TT 125 = ⟨.func, 1, 8, [.nilf]⟩) ∧
  (TT 126 = ⟨.func, 1, 8, [.nilf]⟩) ∧
  (TT 127 = ⟨.func, 1, 8, [.nilf]⟩) ∧
  (TT 129 = ⟨.func, 1, 8, [.nilf]⟩) ∧
  (TT 130 = ⟨.func, 1, 8, [.nilf]⟩) ∧
  (TT 132 = ⟨.func, 1, 8, [.nilf]⟩) ∧
  (TT 133 = ⟨.func, 1, 8, [.nilf]⟩) ∧
  (TT 134 = ⟨.int .u64, 1, 8, [.int .u64 0]⟩) ∧
  (TT 135 = ⟨.func, 1, 8, [.nilf]⟩) ∧
  (TT 137 = ⟨.struct [(0, 5), (1, 5)], 2, 2, [.int .u8 0, .int .u8 0]⟩) ∧
  (TT 138 = ⟨.struct [(0, 5), (1, 5)], 2, 2, [.int .u8 0, .int .u8 0]⟩) ∧
  (TT 140 = ⟨.int .u32, 1, 4, [.int .u32 0]⟩) ∧
  (TT 142 = ⟨.func, 1, 8, [.nilf]⟩) ∧
  (TT 143 = ⟨.func, 1, 8, [.nilf]⟩) ∧
  (TT 144 = ⟨.int .i64, 1, 8, [.int .i64 0]⟩) ∧
  (TT 145 = ⟨.int .u64, 1, 8, [.int .u64 0]⟩) ∧
  (TT 147 = ⟨.func, 1, 8, [.nilf]⟩) ∧
  (TT 148 = ⟨.ptr 154, 1, 8, [.nilp]⟩) ∧
  (TT 149 = ⟨.func, 1, 8, [.nilf]⟩) ∧
  (TT 150 = ⟨.func, 1, 8, [.nilf]⟩) ∧
  (TT 151 = ⟨.func, 1, 8, [.nilf]⟩) ∧
  (TT 152 = ⟨.func, 1, 8, [.nilf]⟩) ∧
  (TT 155 = ⟨.func, 1, 8, [.nilf]⟩) ∧
  (TT 156 = ⟨.func, 1, 8, [.nilf]⟩) ∧
  (TT 157 = ⟨.ptr 159, 1, 8, [.nilp]⟩) ∧
  (TT 158 = ⟨.struct [(0, 9)], 1, 16, [.str []]⟩) ∧
  (TT 159 = ⟨.struct [(0, 9)], 1, 16, [.str []]⟩) ∧
  (TT 160 = ⟨.func, 1, 8, [.nilf]⟩) ∧
  (TT 162 = ⟨.func, 1, 8, [.nilf]⟩) ∧
  (TT 163 = ⟨.func, 1, 8, [.nilf]⟩) ∧
  (TT 165 = ⟨.func, 1, 8, [.nilf]⟩) ∧
  (TT 166 = ⟨.func, 1, 8, [.nilf]⟩) ∧
  (TT 169 = ⟨.func, 1, 8, [.nilf]⟩) ∧
  (TT 170 = ⟨.func, 1, 8, [.nilf]⟩) ∧
  (TT 171 = ⟨.func, 1, 8, [.nilf]⟩) ∧
  (TT 179 = ⟨.func, 1, 8, [.nilf]⟩) ∧
  (TT 180 = ⟨.int .u8, 1, 1, [.int .u8 0]⟩) ∧
  (TT 181 = ⟨.int .u8, 1, 1, [.int .u8 0]⟩) ∧
  (TT 182 = ⟨.func, 1, 8, [.nilf]⟩) ∧
  (TT 183 = ⟨.int .i32, 1, 4, [.int .i32 0]⟩) ∧
  (TT 184 = ⟨.int .i32, 1, 4, [.int .i32 0]⟩) := by
 refine ⟨rfl, rfl, rfl, rfl, rfl, rfl, rfl, rfl, rfl, rfl, rfl, rfl, rfl, rfl, rfl, rfl, rfl, rfl, rfl, rfl, rfl, rfl, rfl, rfl, rfl, rfl, rfl, rfl, rfl, rfl, rfl, rfl, rfl, rfl, rfl, rfl, rfl, rfl, rfl, rfl, rfl, rfl, rfl, rfl, rfl, rfl, rfl, rfl, rfl, rfl, rfl, rfl, rfl, rfl, rfl, rfl, rfl, rfl, rfl, rfl, rfl, rfl, rfl, rfl, rfl, rfl, rfl, rfl, rfl, rfl, rfl, rfl, rfl, rfl, rfl, rfl, rfl, rfl, rfl, rfl, rfl, rfl, rfl, rfl, rfl, rfl, rfl, rfl, rfl, rfl, rfl, rfl, rfl, rfl, rfl, rfl, rfl, rfl, rfl, rfl, rfl, rfl, rfl, rfl, rfl, rfl, rfl, rfl, rfl, rfl, rfl, rfl, rfl, rfl, rfl, rfl, rfl, rfl, rfl, rfl, rfl, rfl, rfl, rfl, rfl, rfl, rfl, rfl, rfl, rfl, rfl, rfl, rfl, rfl, rfl, rfl, rfl, rfl, rfl, rfl, rfl, rfl, rfl, rfl, rfl, rfl, rfl, rfl, rfl, rfl, rfl, rfl, rfl, rfl, rfl⟩
theorem TT_ok : Tab Tryz.prog TT := by
 intro t h
 unfold TT at h ⊢
 cases ht : tab[t]? with
 | none => rw [ht] at h; exact absurd rfl h
 | some i =>
  rw [ht] at h
  have := rowsOk_get tab 0 t i rows_ok ht h
  simpa using this
theorem TT_mixed : Tryz.prog.follows .mixedOrders = true := by kernel_rfl
end Go.Proofs.YtpllcpbhjglpaaaGreatDoor.Gw
namespace Go.Proofs.YtpllcpbhjglpaaaGreatDoor.Gw
open Go
theorem gw0 : type_of% gwL ∧ type_of% gwB ∧ type_of% gwD ∧ type_of% gwE ∧ type_of% gwS ∧ type_of% gwTT ∧ type_of% gwZ ∧ type_of% gwN ∧ type_of% gwC := ⟨gwL, gwB, gwD, gwE, gwS, gwTT, gwZ, gwN, gwC⟩
end Go.Proofs.YtpllcpbhjglpaaaGreatDoor.Gw
namespace Go.Proofs.YtpllcpbhjglpaaaGreatDoor.Gx
open Go Go.Proofs.YtpllcpbhjglpaaaGreatDoor.Gw
open Nat (reduceEqDiff reduceAdd reduceLT reduceLeDiff reduceMul)
set_option linter.unusedSimpArgs false
set_option linter.unusedVariables false
abbrev Str := List UInt8
def encS (l : List Str) : V := .lst 1 none (l.map fun s => [.str s])
-- strings.IndexByte: the model's own entry stands where the library has no body
set_option maxHeartbeats 1000000 in
set_option maxRecDepth 100000 in
theorem r_IndexByte (s : ByteArray) (c : Int) (w : World) :
  Calls Tryz.prog 103 #[.string s, .int .u8 c] w fun e w' => e = .returned (.int .i64 (Lib.indexByte s.data.toList c.toNat.toUInt8)) ∧ w' = w := by
 go_enter Tryz.func103, Tryz.ntmps103
 go_wp2
 rw [run_callFunc_extern Tryz.func110 (by kernel_rfl) (by kernel_rfl) (by kernel_rfl) (e := Extern.BytealgIndexByte.indexByte) (by kernel_rfl), Lib.run_indexByteString]
 simp only [Result.andThen]
 rw [Oper.upon_value]
 go_wp2
 go_ret
 exact ⟨rfl, rfl⟩
theorem c_IndexByte0 (st : St) (s : Str) (c : Int) : VCalls Tryz.prog TT 103 [.str s, .int .u8 c] st fun r st' => r = .ret (.int .i64 (Lib.indexByte s c.toNat.toUInt8)) ∧ st' = st := by
 refine VCalls.ofReal ⟨_, Tryz.func103, by kernel_rfl, by kernel_rfl⟩ fun g w vals h => ?_
 simp only [SimVs, SimV] at h
 obtain ⟨_, _, rfl, ⟨rfl, _⟩, _, _, rfl, rfl, rfl⟩ := h
 exact ⟨_, by simp only [SimV], r_IndexByte ⟨s.toArray⟩ c w⟩
theorem c_IndexByte (st : St) (s : Str) (c : Int) : VCalls Tryz.prog TT 97 [.str s, .int .u8 c] st fun r st' => r = .ret (.int .i64 (Lib.indexByte s c.toNat.toUInt8)) ∧ st' = st := by
 refine vfun TT_ok (an := anL []) (L := [0, 1, 4]) (rs := [.tmp 4]) Tryz.func97 rfl (by kernel_rfl) rfl Tryz.ntmps97 rfl rfl (Nat.le_refl _) fun hst ha hf => ?_
 simp only [gw0, reduceEqDiff, ↓reduceIte, reduceAdd, reduceLT, reduceLeDiff, reduceMul]
 refine (c_IndexByte0 st s c).use (wkL_refl _) fun _ => ?_
 simp only [gw0, reduceEqDiff, ↓reduceIte, reduceAdd, reduceLT, reduceLeDiff, reduceMul]
 exact gives_int rfl hst
-- slices.Index, slices.Contains
def idxOf (s : Str) : Nat → List Str → Int
 | _, [] => -1
 | i, a :: r => bif decide (s = a) then (i : Int) else idxOf s (i + 1) r
theorem c_Index (st : St) (l : List Str) (s : Str) : VCalls Tryz.prog TT 63 [encS l, .str s] st fun r st' => r = .ret (.int .i64 (idxOf s 0 l)) ∧ st' = st := by
 refine vfun TT_ok (an := anL []) (L := [0, 1, 4, 5, 7, 8]) (rs := [.tmp 4]) Tryz.func63 rfl (by kernel_rfl) rfl Tryz.ntmps63 rfl rfl (Nat.le_refl _) fun hst ha hf => ?_
 simp only [encS, fitL, V.fit, List.length_map] at hf
 simp only [encS]
 simp only [gw0, reduceEqDiff, ↓reduceIte, reduceAdd, reduceLT, reduceLeDiff, reduceMul, List.length_map]
 refine vfor (σ := Nat) [0, 1, 4, 7, 8] (fun i => [(0, true, encS l), (1, true, .str s), (4, true, .int .i64 0), (7, true, .int .i64 l.length), (8, true, .int .i64 i)]) (fun i => st) (fun i => l.length - i) (fun i => i ≤ l.length ∧ idxOf s 0 l = idxOf s i (l.drop i)) 0 rfl TT_ok ⟨Nat.zero_le _, rfl⟩ rfl rfl ?_
 rintro i ⟨hi, hx⟩
 rw [hx]
 rcases at_or_end l i hi with ⟨rfl, hd⟩ | ⟨a, hlt, hget, hdr⟩
 ·simp only [gw0, reduceEqDiff, ↓reduceIte, reduceAdd, reduceLT, reduceLeDiff, reduceMul, lt_no, hd, idxOf]
  exact gives_int rfl hst
 ·simp only [encS]
  simp only [gw0, reduceEqDiff, ↓reduceIte, reduceAdd, reduceLT, reduceLeDiff, reduceMul, lt_yes hlt, hdr, idxOf, List.length_map, getD_map hget, Int.ofNat_lt.mpr hlt]
  refine iK_split (fun h => ?_) (fun h => ?_)
  ·simp only [gw0, reduceEqDiff, ↓reduceIte, reduceAdd, reduceLT, reduceLeDiff, reduceMul, h]
   exact gives_int rfl hst
  ·simp only [gw0, reduceEqDiff, ↓reduceIte, reduceAdd, reduceLT, reduceLeDiff, reduceMul, h, Env.keep]
   exact ⟨i + 1, by rw [next_i64 hlt hf.1.1], by omega, hlt, rfl⟩
theorem idxOf_ge (s : Str) : ∀ (l : List Str) (i : Nat), decide (0 ≤ idxOf s i l) = decide (s ∈ l)
 | [], i => by simp [idxOf]
 | a :: r, i => by
  have := idxOf_ge s r (i + 1)
  by_cases h : s = a
  ·subst h; simp [idxOf]
  ·simp only [idxOf, h, decide_false, cond_false, this, List.mem_cons, false_or]
theorem c_Contains (st : St) (l : List Str) (s : Str) : VCalls Tryz.prog TT 83 [encS l, .str s] st fun r st' => r = .ret (.bool (decide (s ∈ l))) ∧ st' = st := by
 refine vfun TT_ok (an := anL []) (L := [0, 1, 4]) (rs := [.tmp 4]) Tryz.func83 rfl (by kernel_rfl) rfl Tryz.ntmps83 rfl rfl (Nat.le_refl _) fun hst ha hf => ?_
 simp only [encS]
 simp only [gw0, reduceEqDiff, ↓reduceIte, reduceAdd, reduceLT, reduceLeDiff, reduceMul]
 refine (c_Index st l s).use (by simp only [encS]; exact wkL_refl _) fun _ => ?_
 simp only [gw0, reduceEqDiff, ↓reduceIte, reduceAdd, reduceLT, reduceLeDiff, reduceMul, idxOf_ge]
 exact gives_bool rfl hst
-- strings.HasPrefix, TrimPrefix
def hasPre (s p : Str) : Bool := decide (p.length ≤ s.length) && decide (s.take p.length = p)
theorem c_HasPrefix (st : St) (s p : Str) : VCalls Tryz.prog TT 112 [.str s, .str p] st fun r st' => r = .ret (.bool (hasPre s p)) ∧ st' = st := by
 refine vfun TT_ok (an := anL []) (L := [0, 1, 4]) (rs := [.tmp 4]) Tryz.func112 rfl (by kernel_rfl) rfl Tryz.ntmps112 rfl rfl (Nat.le_refl _) fun hst ha hf => ?_
 simp only [gw0, reduceEqDiff, ↓reduceIte, reduceAdd, reduceLT, reduceLeDiff, reduceMul, Int.ofNat_le, Int.toNat_natCast]
 refine ⟨fun h => of_decide_eq_true h, gives_bool ?_ hst⟩
 rfl
def trimPre (s p : Str) : Str := bif hasPre s p then s.drop p.length else s
theorem c_TrimPrefix0 (st : St) (s p : Str) : VCalls Tryz.prog TT 107 [.str s, .str p] st fun r st' => r = .ret (.str (trimPre s p)) ∧ st' = st := by
 refine vfun TT_ok (an := anL []) (L := [0, 1, 4]) (rs := [.tmp 4]) Tryz.func107 rfl (by kernel_rfl) rfl Tryz.ntmps107 rfl rfl (Nat.le_refl _) fun hst ha hf => ?_
 simp only [gw0, reduceEqDiff, ↓reduceIte, reduceAdd, reduceLT, reduceLeDiff, reduceMul, List.length_nil]
 refine (c_HasPrefix st s p).use (wkL_refl _) fun _ => ?_
 simp only [gw0, reduceEqDiff, ↓reduceIte, reduceAdd, reduceLT, reduceLeDiff, reduceMul]
 refine iK_split (fun h => ?_) (fun h => ?_)
 ·have h2 : p.length ≤ s.length := by simp only [hasPre, Bool.and_eq_true, decide_eq_true_eq] at h; exact h.1
  simp only [gw0, reduceEqDiff, ↓reduceIte, reduceAdd, reduceLT, reduceLeDiff, reduceMul, Int.ofNat_le, Int.toNat_natCast]
  exact ⟨h2, gives_str (by simp [trimPre, h]) hst⟩
 ·simp only [gw0, reduceEqDiff, ↓reduceIte, reduceAdd, reduceLT, reduceLeDiff, reduceMul]
  exact gives_str (by simp [trimPre, h]) hst
theorem c_TrimPrefix (st : St) (s p : Str) : VCalls Tryz.prog TT 98 [.str s, .str p] st fun r st' => r = .ret (.str (trimPre s p)) ∧ st' = st := by
 refine vfun TT_ok (an := anL []) (L := [0, 1, 4]) (rs := [.tmp 4]) Tryz.func98 rfl (by kernel_rfl) rfl Tryz.ntmps98 rfl rfl (Nat.le_refl _) fun hst ha hf => ?_
 simp only [gw0, reduceEqDiff, ↓reduceIte, reduceAdd, reduceLT, reduceLeDiff, reduceMul, List.length_nil]
 refine (c_TrimPrefix0 st s p).use (wkL_refl _) fun _ => ?_
 simp only [gw0, reduceEqDiff, ↓reduceIte, reduceAdd, reduceLT, reduceLeDiff, reduceMul]
 exact gives_str rfl hst
-- letters and names
def letters : Str := [97, 98, 99, 100, 101, 102, 103, 104, 105, 106, 107, 108, 109, 110, 111, 112, 113, 114, 115, 116, 117, 118, 119, 120, 121, 122, 48, 49, 50, 51, 52, 53, 54, 55, 56, 57, 33, 63, 42, 43, 45, 47, 60, 61, 62, 95, 46]
def letterB (b : UInt8) : Bool := letters.contains b
theorem all_bytes {p : UInt8 → Bool} (h : (List.range 256).all (fun n => p (UInt8.ofNat n)) = true) (b : UInt8) : p b = true := by
 have := List.all_eq_true.1 h b.toNat (by simpa using b.toNat_lt)
 simpa using this
theorem c_letter (st : St) (b : UInt8) : VCalls Tryz.prog TT 78 [.int .u8 b.toNat] st fun r st' => r = .ret (.bool (letterB b)) ∧ st' = st := by
 refine vfun TT_ok (an := anL []) (L := [0, 2]) (rs := [.tmp 2]) Tryz.func78 rfl (by kernel_rfl) rfl Tryz.ntmps78 rfl rfl (Nat.le_refl _) fun hst ha hf => ?_
 simp only [gw0, reduceEqDiff, ↓reduceIte, reduceAdd, reduceLT, reduceLeDiff, reduceMul]
 refine ⟨by cases decide (97 ≤ (b.toNat : Int)) <;> cases decide ((b.toNat : Int) ≤ 122) <;> simp, ?_⟩
 refine rK_guarded (.int .i64 (Lib.indexByte [33, 63, 42, 43, 45, 47, 60, 61, 62, 95, 46] b)) (fun _ => ?_) ?_
 ·have := c_IndexByte st [33, 63, 42, 43, 45, 47, 60, 61, 62, 95, 46] b.toNat
  simpa using this
 simp only [gw0, reduceEqDiff, ↓reduceIte, reduceAdd, reduceLT, reduceLeDiff, reduceMul]
 refine gives_bool ?_ hst
 refine of_decide_eq_true (all_bytes (p := fun b => decide ((((decide (97 ≤ (b.toNat : Int)) && decide ((b.toNat : Int) ≤ 122)) || (decide (48 ≤ (b.toNat : Int)) && decide ((b.toNat : Int) ≤ 57))) || decide (0 ≤ Lib.indexByte [33, 63, 42, 43, 45, 47, 60, 61, 62, 95, 46] b)) = letterB b)) (by kernel_rfl) b)
def digits : Str → Bool := fun s => s.all fun b => decide (48 ≤ b.toNat) && decide (b.toNat ≤ 57)
/-- Does a text look like a number? -/
def looksB (s : Str) : Bool := (match s with | 45 :: r => digits r && !r.isEmpty | r => digits r && !r.isEmpty)
theorem trimPre_minus (s : Str) : (digits (trimPre s [45]) && !(trimPre s [45]).isEmpty) = looksB s := by
 unfold trimPre hasPre looksB
 cases s with
 | nil => rfl
 | cons a r =>
  by_cases h : a = 45
  ·subst h; simp
  ·simp only [List.take_succ_cons, List.take_zero, List.length_cons, List.length_nil]
   simp [h]
theorem c_number (st : St) (s : Str) : VCalls Tryz.prog TT 79 [.str s] st fun r st' => r = .ret (.bool (looksB s)) ∧ st' = st := by
 refine vfun TT_ok (an := anL []) (L := [0, 2, 3, 7, 8]) (rs := [.tmp 2]) Tryz.func79 rfl (by kernel_rfl) rfl Tryz.ntmps79 rfl rfl (Nat.le_refl _) fun hst ha hf => ?_
 simp only [gw0, reduceEqDiff, ↓reduceIte, reduceAdd, reduceLT, reduceLeDiff, reduceMul]
 refine (c_TrimPrefix st s [45]).use (wkL_refl _) fun hfx => ?_
 rw [← trimPre_minus s]
 simp only [V.fit] at hfx
 generalize trimPre s [45] = t at hfx ⊢
 simp only [gw0, reduceEqDiff, ↓reduceIte, reduceAdd, reduceLT, reduceLeDiff, reduceMul]
 refine vfor (σ := Nat) [0, 2, 7, 8] (fun i => [(0, true, .str t), (2, true, .bool false), (7, true, .int .i64 t.length), (8, true, .int .i64 i)]) (fun i => st) (fun i => t.length - i) (fun i => i ≤ t.length ∧ digits t = digits (t.drop i)) 0 rfl TT_ok ⟨Nat.zero_le _, rfl⟩ rfl rfl ?_
 rintro i ⟨hi, hx⟩
 rw [hx]
 rcases at_or_end t i hi with ⟨rfl, hd⟩ | ⟨a, hlt, hget, hdr⟩
 ·simp only [gw0, reduceEqDiff, ↓reduceIte, reduceAdd, reduceLT, reduceLeDiff, reduceMul, lt_no, hd]
  exact gives_bool (by cases t <;> simp [digits]) hst
 ·simp only [gw0, reduceEqDiff, ↓reduceIte, reduceAdd, reduceLT, reduceLeDiff, reduceMul, lt_yes hlt, hdr, getD_at hget, Int.ofNat_lt.mpr hlt]
  refine iK_split (fun h => ?_) (fun h => ?_)
  ·simp only [gw0, reduceEqDiff, ↓reduceIte, reduceAdd, reduceLT, reduceLeDiff, reduceMul]
   refine gives_bool ?_ hst
   have : ¬ (48 ≤ a.toNat ∧ a.toNat ≤ 57) := by
    intro ⟨h1, h2⟩
    have e1 : decide ((a.toNat : Int) < 48) = false := by simp; omega
    have e2 : decide (57 < (a.toNat : Int)) = false := by simp; omega
    rw [e1, e2] at h; cases h
   simp only [digits, List.all_cons]
   rcases Nat.lt_or_ge a.toNat 48 with h1 | h1
   ·simp [show ¬ 48 ≤ a.toNat by omega]
   ·simp [show ¬ a.toNat ≤ 57 by omega]
  ·have : 48 ≤ a.toNat ∧ a.toNat ≤ 57 := by
    constructor
    ·refine Nat.le_of_not_lt fun h1 => ?_
     have e1 : decide ((a.toNat : Int) < 48) = true := by simp; omega
     rw [e1] at h; cases h
    ·refine Nat.le_of_not_lt fun h1 => ?_
     have e2 : decide (57 < (a.toNat : Int)) = true := by simp; omega
     rw [e2] at h; revert h; cases decide ((a.toNat : Int) < 48) <;> simp
   simp only [gw0, reduceEqDiff, ↓reduceIte, reduceAdd, reduceLT, reduceLeDiff, reduceMul, Env.keep]
   exact ⟨i + 1, by rw [next_i64 hlt hfx], by omega, hlt, by simp [digits, this]⟩
def namedB (s : Str) : Bool := s.all letterB && (decide (0 < s.length) && decide (s.length ≤ 20) && !looksB s)
theorem c_text_Named (st : St) (s : Str) : VCalls Tryz.prog TT 57 [.str s] st fun r st' => r = .ret (.bool (namedB s)) ∧ st' = st := by
 refine vfun TT_ok (an := anL []) (L := [0, 2, 3, 13, 14]) (rs := [.tmp 2]) Tryz.func57 rfl (by kernel_rfl) rfl Tryz.ntmps57 rfl rfl (Nat.le_refl _) fun hst ha hf => ?_
 simp only [gw0, reduceEqDiff, ↓reduceIte, reduceAdd, reduceLT, reduceLeDiff, reduceMul]
 refine iK_split (fun h => ?_) (fun h => ?_)
 ·simp only [gw0, reduceEqDiff, ↓reduceIte, reduceAdd, reduceLT, reduceLeDiff, reduceMul]
  refine gives_bool ?_ hst
  have : ¬ (0 < s.length ∧ s.length ≤ 20) := by
   intro ⟨h1, h2⟩
   have e1 : decide ((s.length : Int) < 1) = false := by simp; omega
   have e2 : decide (20 < (s.length : Int)) = false := by simp; omega
   rw [e1, e2] at h; cases h
  rcases Nat.lt_or_ge 0 s.length with h1 | h1
  ·simp [namedB, show ¬ s.length ≤ 20 from fun h2 => this ⟨h1, h2⟩]
  ·simp [namedB, show ¬ 0 < s.length by omega]
 ·have hl : 0 < s.length ∧ s.length ≤ 20 := by
   constructor
   ·refine Nat.lt_of_not_le fun h1 => ?_
    have e1 : decide ((s.length : Int) < 1) = true := by simp; omega
    rw [e1] at h; cases h
   ·refine Nat.le_of_not_lt fun h1 => ?_
    have e2 : decide (20 < (s.length : Int)) = true := by simp; omega
    rw [e2] at h; revert h; cases decide ((s.length : Int) < 1) <;> simp
  have e : namedB s = (s.all letterB && !looksB s) := by simp [namedB, hl]
  rw [e]
  simp only [gw0, reduceEqDiff, ↓reduceIte, reduceAdd, reduceLT, reduceLeDiff, reduceMul]
  refine vfor (σ := Nat) [0, 2, 13, 14] (fun i => [(0, true, .str s), (2, true, .bool false), (13, true, .int .i64 s.length), (14, true, .int .i64 i)]) (fun i => st) (fun i => s.length - i) (fun i => i ≤ s.length ∧ s.all letterB = (s.drop i).all letterB) 0 rfl TT_ok ⟨Nat.zero_le _, rfl⟩ rfl rfl ?_
  rintro i ⟨hi, hx⟩
  rw [hx]
  rcases at_or_end s i hi with ⟨rfl, hd⟩ | ⟨a, hlt, hget, hdr⟩
  ·simp only [gw0, reduceEqDiff, ↓reduceIte, reduceAdd, reduceLT, reduceLeDiff, reduceMul, lt_no, hd]
   refine (c_number st s).use (wkL_refl _) fun _ => ?_
   simp only [gw0, reduceEqDiff, ↓reduceIte, reduceAdd, reduceLT, reduceLeDiff, reduceMul]
   exact gives_bool (by simp) hst
  ·simp only [gw0, reduceEqDiff, ↓reduceIte, reduceAdd, reduceLT, reduceLeDiff, reduceMul, lt_yes hlt, hdr, getD_at hget, Int.ofNat_lt.mpr hlt]
   refine (c_letter st a).use (wkL_refl _) fun _ => ?_
   simp only [gw0, reduceEqDiff, ↓reduceIte, reduceAdd, reduceLT, reduceLeDiff, reduceMul]
   refine iK_split (fun h => ?_) (fun h => ?_)
   ·simp only [gw0, reduceEqDiff, ↓reduceIte, reduceAdd, reduceLT, reduceLeDiff, reduceMul]
    exact gives_bool (by simp at h; simp [h]) hst
   ·simp only [gw0, reduceEqDiff, ↓reduceIte, reduceAdd, reduceLT, reduceLeDiff, reduceMul, Env.keep]
    exact ⟨i + 1, by rw [next_i64 hlt (by omega)], by omega, hlt, by simp at h; simp [h]⟩
inductive Set' where
 | mk (kind : Int) (name : Str) (names az : List Str) (pre : Str) (kids : List Set')
mutual
def encSet : Set' → List V
 | .mk k n ns az p kids => [.int .i64 k, .str n, encS ns, encS az, .str p, .lst 6 none (encSets kids)]
def encSets : List Set' → List (List V)
 | [] => []
 | d :: r => encSet d :: encSets r
end
theorem encSets_map : ∀ l : List Set', encSets l = l.map encSet
 | [] => rfl
 | d :: r => by simp only [encSets, List.map_cons, encSets_map r]
theorem encSet_mk (k : Int) (n : Str) (ns az : List Str) (p : Str) (kids : List Set') : encSet (.mk k n ns az p kids) = [.int .i64 k, .str n, encS ns, encS az, .str p, .lst 6 none (kids.map encSet)] := by
 simp only [encSet, encSets_map]
theorem Set'.ind {p : Set' → Prop} (h : ∀ k n ns az pr kids, (∀ d ∈ kids, p d) → p (.mk k n ns az pr kids)) (d : Set') : p d :=
 Set'.rec (motive_1 := p) (motive_2 := fun l => ∀ d ∈ l, p d) h (by simp) (fun d r h1 h2 x hx => by rcases List.mem_cons.1 hx with rfl | hx; exact h1; exact h2 x hx) d
/-- A datum. -/
inductive Datum where
 | mk (kind n : Int) (name : Str) (stamp lib : Int) (kids : List Datum)
mutual
def encD : Datum → List V
 | .mk k n nm s l kids => [.int .i64 k, .int .i64 n, .str nm, .int .i64 s, .int .i64 l, .lst 6 none (encDs kids)]
def encDs : List Datum → List (List V)
 | [] => []
 | d :: r => encD d :: encDs r
end
theorem encDs_map : ∀ l : List Datum, encDs l = l.map encD
 | [] => rfl
 | d :: r => by simp only [encDs, List.map_cons, encDs_map r]
theorem encD_mk (k n : Int) (nm : Str) (s l : Int) (kids : List Datum) : encD (.mk k n nm s l kids) = [.int .i64 k, .int .i64 n, .str nm, .int .i64 s, .int .i64 l, .lst 6 none (kids.map encD)] := by
 simp only [encD, encDs_map]
theorem encD_len (d : Datum) : (encD d).length = 6 := by cases d; rfl
mutual
theorem encD_lt (n : Nat) : ∀ d : Datum, ltL n (encD d)
 | .mk k m nm s l kids => by
  simp only [encD, ltL, V.lt, true_and, and_true]
  exact ⟨fun e h => (by cases h), encDs_lt n kids⟩
theorem encDs_lt (n : Nat) : ∀ l : List Datum, ltRows n (encDs l)
 | [] => trivial
 | d :: r => ⟨encD_lt n d, encDs_lt n r⟩
end
theorem Datum.ind {p : Datum → Prop} (h : ∀ k n nm s l kids, (∀ d ∈ kids, p d) → p (.mk k n nm s l kids)) (d : Datum) : p d :=
 Datum.rec (motive_1 := p) (motive_2 := fun l => ∀ d ∈ l, p d) h (by simp) (fun d r h1 h2 x hx => by rcases List.mem_cons.1 hx with rfl | hx; exact h1; exact h2 x hx) d
mutual
/-- What is wrong with a datum, so many nodes behind; and how many nodes then. -/
def shapeD : Datum → Int → Int → Int × Int
 | .mk k n nm s l kids, deep, c =>
  bif decide (2000 < c + 1) || decide (40 < deep) then (4, c + 1)
  else bif decide (k = 1) then (bif decide (1000000000000000 < n) || decide (n < -1000000000000000) then (3, c + 1) else (0, c + 1))
  else bif decide (k = 2) then (bif decide (n = 0) || decide (n = 1) then (0, c + 1) else (3, c + 1))
  else bif decide (k = 3) then (bif !namedB nm then (7, c + 1) else bif decide (s = 0) && decide (l = 0) then (0, c + 1) else (8, c + 1))
  else bif decide (k = 4) then shapeDs kids (deep + 1) (c + 1)
  else (1, c + 1)
def shapeDs : List Datum → Int → Int → Int × Int
 | [], _, c => (0, c)
 | d :: r, deep, c => bif decide ((shapeD d deep c).1 = 0) then shapeDs r deep (shapeD d deep c).2 else shapeD d deep c
end
mutual
theorem shapeD_ok : ∀ (d : Datum) (deep c : Int), 0 ≤ c → (shapeD d deep c).1 = 0 → c ≤ (shapeD d deep c).2 ∧ (shapeD d deep c).2 ≤ 2000
 | .mk k n nm s l kids, deep, c, h0, h => by
  unfold shapeD at h ⊢
  cases h1 : (decide (2000 < c + 1) || decide (40 < deep)) with
  | true => rw [h1] at h; simp at h
  | false =>
   have hc : c + 1 ≤ 2000 := by simp at h1; omega
   rw [h1] at h
   simp only [cond_false] at h ⊢
   cases h2 : decide (k = 1) <;> rw [h2] at h <;> simp only [cond_false, cond_true] at h ⊢
   ·cases h3 : decide (k = 2) <;> rw [h3] at h <;> simp only [cond_false, cond_true] at h ⊢
    ·cases h4 : decide (k = 3) <;> rw [h4] at h <;> simp only [cond_false, cond_true] at h ⊢
     ·cases h5 : decide (k = 4) <;> rw [h5] at h <;> simp only [cond_false, cond_true] at h ⊢
      ·simp at h
      ·have := shapeDs_ok kids (deep + 1) (c + 1) (by omega) hc h
       exact ⟨by omega, this.2⟩
     ·revert h
      cases namedB nm <;> cases (decide (s = 0) && decide (l = 0)) <;> simp <;> omega
    ·revert h
     cases (decide (n = 0) || decide (n = 1)) <;> simp <;> omega
   ·revert h
    cases (decide (1000000000000000 < n) || decide (n < -1000000000000000)) <;> simp <;> omega
theorem shapeDs_ok : ∀ (l : List Datum) (deep c : Int), 0 ≤ c → c ≤ 2000 → (shapeDs l deep c).1 = 0 → c ≤ (shapeDs l deep c).2 ∧ (shapeDs l deep c).2 ≤ 2000
 | [], deep, c, h0, h1, h => by simp only [shapeDs]; omega
 | d :: r, deep, c, h0, h1, h => by
  simp only [shapeDs] at h ⊢
  cases h2 : decide ((shapeD d deep c).1 = 0) with
  | true =>
   rw [h2] at h
   simp only [cond_true] at h ⊢
   have k1 := shapeD_ok d deep c h0 (of_decide_eq_true h2)
   have k2 := shapeDs_ok r deep _ (by omega) k1.2 h
   omega
  | false =>
   rw [h2] at h
   simp only [cond_false] at h
   exact absurd h (of_decide_eq_false h2)
end
/-- A mark in a box is counted up. -/
theorem set_self {st : St} {o : Nat} {e : Ent} (h : st[o]? = some e) : st.set o e = st := by
 apply List.ext_getElem?
 intro i
 by_cases hi : o = i
 ·subst hi; rw [List.getElem?_set_self (List.getElem?_eq_some_iff.1 h).1, h]
 ·rw [List.getElem?_set_ne hi]
theorem or_no {a b : Bool} (h : (!a && !b) = true) : (a || b) = false := by revert h; cases a <;> cases b <;> simp
theorem or_yes {a b : Bool} (h : (!a && !b) = false) : (a || b) = true := by revert h; cases a <;> cases b <;> simp
theorem and_no {a b : Bool} (h : (!a || !b) = true) : (a && b) = false := by revert h; cases a <;> cases b <;> simp
theorem and_yes {a b : Bool} (h : (!a || !b) = false) : (a && b) = true := by revert h; cases a <;> cases b <;> simp
theorem not_yes {a : Bool} (h : (!a) = true) : a = false := by revert h; cases a <;> simp
theorem not_no {a : Bool} (h : (!a) = false) : a = true := by revert h; cases a <;> simp
theorem c_shape (d : Datum) : ∀ (st : St) (o : Nat) (c deep : Int), st[o]? = some (.box [.int .i64 c]) → 0 ≤ c → c ≤ 2000 → 0 ≤ deep → deep ≤ 41 →
  VCalls Tryz.prog TT 40 [.ptr o 0, .ref (encD d), .int .i64 deep] st fun r st' => r = .ret (.int .i64 (shapeD d deep c).1) ∧ st' = st.set o (.box [.int .i64 (shapeD d deep c).2]) := by
 refine Datum.ind (p := fun d => ∀ (st : St) (o : Nat) (c deep : Int), st[o]? = some (.box [.int .i64 c]) → 0 ≤ c → c ≤ 2000 → 0 ≤ deep → deep ≤ 41 →
  VCalls Tryz.prog TT 40 [.ptr o 0, .ref (encD d), .int .i64 deep] st fun r st' => r = .ret (.int .i64 (shapeD d deep c).1) ∧ st' = st.set o (.box [.int .i64 (shapeD d deep c).2])) ?_ d
 intro k n nm s l kids ih st o c deep ho h0 h1 h2 h3
 refine vfun TT_ok (an := anL []) (L := [0, 1, 2, 6, 7, 8, 28, 83, 84]) (rs := [.tmp 6]) Tryz.func40 rfl (by kernel_rfl) rfl Tryz.ntmps40 rfl rfl (Nat.le_of_eq (List.length_set ..).symm) fun hst ha hf => ?_
 have hlt : o < st.length := (List.getElem?_eq_some_iff.1 ho).1
 have hset : ∀ c', (st.set o (.box [.int .i64 c']))[o]? = some (.box [.int .i64 c']) := fun c' => List.getElem?_set_self hlt
 simp only [encD_mk]
 simp only [gw0, reduceEqDiff, ↓reduceIte, reduceAdd, reduceLT, reduceLeDiff, reduceMul, ho, hset, wrap_i64 (show -9223372036854775808 ≤ c + 1 by omega) (show c + 1 ≤ 9223372036854775807 by omega)]
 have hok : ∀ c', St.ok (st.set o (.box [.int .i64 c'])) := by
  intro c' e he
  rw [List.length_set]
  rcases List.mem_or_eq_of_mem_set he with h | rfl
  ·exact hst e h
  ·simp [Ent.lt, ltL, V.lt]
 have hgv : ∀ (e c' e' c'' : Int), (e, c') = (e', c'') → Gives (.int .i64 e') (st.set o (.box [.int .i64 c''])) (.ret (.int .i64 e)) (st.set o (.box [.int .i64 c'])) := by
  intro e c' e' c'' h
  cases h
  exact gives_int rfl (hok c')
 unfold shapeD
 refine iK_split (fun h => ?_) (fun h => ?_)
 ·rw [h]
  simp only [gw0, reduceEqDiff, ↓reduceIte, reduceAdd, reduceLT, reduceLeDiff, reduceMul]
  exact hgv _ _ _ _ rfl
 rw [h]
 have hc : c + 1 ≤ 2000 ∧ deep ≤ 40 := by simp at h; omega
 simp only [gw0, reduceEqDiff, ↓reduceIte, reduceAdd, reduceLT, reduceLeDiff, reduceMul]
 refine iK_split (fun h1 => ?_) (fun h1 => ?_)
 ·rw [h1]
  simp only [gw0, reduceEqDiff, ↓reduceIte, reduceAdd, reduceLT, reduceLeDiff, reduceMul]
  refine iK_split (fun h2 => ?_) (fun h2 => ?_)
  ·rw [h2]
   simp only [gw0, reduceEqDiff, ↓reduceIte, reduceAdd, reduceLT, reduceLeDiff, reduceMul]
   exact hgv _ _ _ _ rfl
  ·rw [h2]
   simp only [gw0, reduceEqDiff, ↓reduceIte, reduceAdd, reduceLT, reduceLeDiff, reduceMul]
   exact hgv _ _ _ _ rfl
 rw [h1]
 simp only [gw0, reduceEqDiff, ↓reduceIte, reduceAdd, reduceLT, reduceLeDiff, reduceMul]
 refine iK_split (fun h2 => ?_) (fun h2 => ?_)
 ·rw [h2]
  simp only [gw0, reduceEqDiff, ↓reduceIte, reduceAdd, reduceLT, reduceLeDiff, reduceMul]
  refine iK_split (fun h3 => ?_) (fun h3 => ?_)
  ·rw [or_no h3]
   simp only [gw0, reduceEqDiff, ↓reduceIte, reduceAdd, reduceLT, reduceLeDiff, reduceMul]
   exact hgv _ _ _ _ rfl
  ·rw [or_yes h3]
   simp only [gw0, reduceEqDiff, ↓reduceIte, reduceAdd, reduceLT, reduceLeDiff, reduceMul]
   exact hgv _ _ _ _ rfl
 rw [h2]
 simp only [gw0, reduceEqDiff, ↓reduceIte, reduceAdd, reduceLT, reduceLeDiff, reduceMul]
 refine iK_split (fun h3 => ?_) (fun h3 => ?_)
 ·rw [h3]
  simp only [gw0, reduceEqDiff, ↓reduceIte, reduceAdd, reduceLT, reduceLeDiff, reduceMul]
  refine (c_text_Named _ nm).use (wkL_refl _) fun _ => ?_
  simp only [gw0, reduceEqDiff, ↓reduceIte, reduceAdd, reduceLT, reduceLeDiff, reduceMul]
  refine iK_split (fun h4 => ?_) (fun h4 => ?_)
  ·rw [h4]
   simp only [gw0, reduceEqDiff, ↓reduceIte, reduceAdd, reduceLT, reduceLeDiff, reduceMul]
   exact hgv _ _ _ _ rfl
  rw [h4]
  simp only [gw0, reduceEqDiff, ↓reduceIte, reduceAdd, reduceLT, reduceLeDiff, reduceMul]
  refine iK_split (fun h5 => ?_) (fun h5 => ?_)
  ·rw [and_no h5]
   simp only [gw0, reduceEqDiff, ↓reduceIte, reduceAdd, reduceLT, reduceLeDiff, reduceMul]
   exact hgv _ _ _ _ rfl
  ·rw [and_yes h5]
   simp only [gw0, reduceEqDiff, ↓reduceIte, reduceAdd, reduceLT, reduceLeDiff, reduceMul]
   exact hgv _ _ _ _ rfl
 rw [h3]
 simp only [gw0, reduceEqDiff, ↓reduceIte, reduceAdd, reduceLT, reduceLeDiff, reduceMul]
 refine iK_split (fun h4 => ?_) (fun h4 => ?_)
 ·rw [h4]
  simp only [gw0, reduceEqDiff, ↓reduceIte, reduceAdd, reduceLT, reduceLeDiff, reduceMul, List.length_map]
  simp only [encD_mk, fitL, V.fit, List.length_map] at hf
  have hkl : kids.length ≤ 9223372036854775807 := by simp at hf; omega
  refine vfor (σ := Nat × Int) [0, 1, 2, 6, 83, 84] (fun x => [(0, true, .ptr o 0), (1, true, .ref (encD (.mk k n nm s l kids))), (2, true, .int .i64 deep), (6, true, .int .i64 0), (83, true, .int .i64 kids.length), (84, true, .int .i64 x.1)]) (fun x => st.set o (.box [.int .i64 x.2])) (fun x => kids.length - x.1) (fun x => x.1 ≤ kids.length ∧ 0 ≤ x.2 ∧ x.2 ≤ 2000 ∧ shapeDs kids (deep + 1) (c + 1) = shapeDs (kids.drop x.1) (deep + 1) x.2) (0, c + 1) rfl TT_ok ⟨Nat.zero_le _, by omega, by omega, rfl⟩ (by rw [encD_mk]; rfl) rfl ?_
  rintro ⟨i, ci⟩ ⟨hi, hc0, hc1, hx⟩
  simp only at hi hc0 hc1 hx
  rw [hx]
  simp only [encD_mk]
  rcases at_or_end kids i hi with ⟨rfl, hd⟩ | ⟨a, hlt2, hget, hdr⟩
  ·simp only [gw0, reduceEqDiff, ↓reduceIte, reduceAdd, reduceLT, reduceLeDiff, reduceMul, lt_no, hd, shapeDs]
   exact hgv _ _ _ _ rfl
  ·simp only [gw0, reduceEqDiff, ↓reduceIte, reduceAdd, reduceLT, reduceLeDiff, reduceMul, lt_yes hlt2, hdr, shapeDs, List.length_map, getD_map hget, Int.ofNat_lt.mpr hlt2, wrap_i64 (show -9223372036854775808 ≤ deep + 1 by omega) (show deep + 1 ≤ 9223372036854775807 by omega)]
   refine (ih a (List.mem_of_getElem? hget) (st.set o (.box [.int .i64 ci])) o ci (deep + 1) (hset ci) hc0 hc1 (by omega) (by omega)).use (wkL_refl _) fun _ => ?_
   simp only [gw0, reduceEqDiff, ↓reduceIte, reduceAdd, reduceLT, reduceLeDiff, reduceMul, List.set_set]
   refine iK_split (fun h5 => ?_) (fun h5 => ?_)
   ·rw [not_yes h5]
    simp only [gw0, reduceEqDiff, ↓reduceIte, reduceAdd, reduceLT, reduceLeDiff, reduceMul]
    exact hgv _ _ _ _ rfl
   ·have h6 : decide ((shapeD a (deep + 1) ci).1 = 0) = true := by simpa using h5
    have h7 := shapeD_ok a (deep + 1) ci hc0 (of_decide_eq_true h6)
    rw [h6]
    simp only [gw0, reduceEqDiff, ↓reduceIte, reduceAdd, reduceLT, reduceLeDiff, reduceMul, Env.keep]
    exact ⟨(i + 1, (shapeD a (deep + 1) ci).2), by rw [next_i64 hlt2 hkl], rfl, by simp only; omega, by simp only; omega, by simp only; omega, h7.2, rfl⟩
 ·rw [h4]
  simp only [gw0, reduceEqDiff, ↓reduceIte, reduceAdd, reduceLT, reduceLeDiff, reduceMul]
  exact hgv _ _ _ _ rfl
def fltV (f : Int × Int) : V := .agg [.int .i64 f.1, .int .i64 f.2]
/-- What is wrong with data, and with which. -/
def wrongL : List Datum → Nat → Int → Int × Int
 | [], _, _ => (0, 0)
 | d :: r, i, c => bif decide ((shapeD d 1 c).1 = 0) then wrongL r (i + 1) (shapeD d 1 c).2 else ((shapeD d 1 c).1, (i : Int))
def lstD (l : List Datum) : V := .lst 6 none (l.map encD)
theorem c_text_Wrong (st : St) (l : List Datum) : VCalls Tryz.prog TT 13 [lstD l] st fun r st' => r = .ret (fltV (wrongL l 0 0)) ∧ st' = st := by
 refine vfun TT_ok (an := anL []) (L := [0, 2, 3, 4, 5, 9, 10]) (rs := [.cell 2 40]) Tryz.func13 rfl (by kernel_rfl) rfl Tryz.ntmps13 rfl rfl (Nat.le_refl _) fun hst ha hf => ?_
 simp only [lstD, fltV, fitL, V.fit, List.length_map] at hf ⊢
 have hkl : l.length ≤ 9223372036854775807 := by simp at hf; omega
 simp only [gw0, reduceEqDiff, ↓reduceIte, reduceAdd, reduceLT, reduceLeDiff, reduceMul, List.length_map]
 refine vfor (σ := Nat × Int) [0, 2, 3, 9, 10] (fun x => [(0, true, lstD l), (2, true, .ptr st.length 0), (3, true, .ptr (st.length + 1) 0), (9, true, .int .i64 l.length), (10, true, .int .i64 x.1)]) (fun x => st ++ [.box [.int .i64 0, .int .i64 0], .box [.int .i64 x.2]]) (fun x => l.length - x.1) (fun x => x.1 ≤ l.length ∧ 0 ≤ x.2 ∧ x.2 ≤ 2000 ∧ wrongL l 0 0 = wrongL (l.drop x.1) x.1 x.2) (0, 0) rfl TT_ok ⟨Nat.zero_le _, by omega, by omega, rfl⟩ rfl rfl ?_
 rintro ⟨i, c⟩ ⟨hi, hc0, hc1, hx⟩
 simp only at hi hc0 hc1 hx
 rw [hx]
 simp only [lstD]
 rcases at_or_end l i hi with ⟨rfl, hd⟩ | ⟨a, hlt, hget, hdr⟩
 ·simp only [gw0, reduceEqDiff, ↓reduceIte, reduceAdd, reduceLT, reduceLeDiff, reduceMul, lt_no, hd, wrongL]
  exact gives_of (wk_refl _) (wkSt_refl _) (by simp [V.lt, ltL]) hst
 ·simp only [gw0, reduceEqDiff, ↓reduceIte, reduceAdd, reduceLT, reduceLeDiff, reduceMul, lt_yes hlt, hdr, wrongL, List.length_map, getD_map hget, Int.ofNat_lt.mpr hlt]
  refine (c_shape a (st ++ [.box [.int .i64 0, .int .i64 0], .box [.int .i64 c]]) (st.length + 1) c 1 (by simp only [gwL]) hc0 hc1 (by omega) (by omega)).use (wkL_refl _) fun _ => ?_
  simp only [gw0, reduceEqDiff, ↓reduceIte, reduceAdd, reduceLT, reduceLeDiff, reduceMul]
  refine iK_split (fun h5 => ?_) (fun h5 => ?_)
  ·rw [not_yes h5]
   simp only [gw0, reduceEqDiff, ↓reduceIte, reduceAdd, reduceLT, reduceLeDiff, reduceMul]
   exact gives_of (wk_refl _) (wkSt_refl _) (by simp [V.lt, ltL]) hst
  ·have h6 : decide ((shapeD a 1 c).1 = 0) = true := by simpa using h5
   have h7 := shapeD_ok a 1 c hc0 (of_decide_eq_true h6)
   rw [h6]
   simp only [gw0, reduceEqDiff, ↓reduceIte, reduceAdd, reduceLT, reduceLeDiff, reduceMul, Env.keep]
   exact ⟨(i + 1, (shapeD a 1 c).2), by rw [next_i64 hlt hkl], rfl, by simp only; omega, by simp only; omega, by simp only; omega, h7.2, rfl⟩
theorem encD_take (d : Datum) : (encD d).take 6 = encD d := List.take_of_length_le (by rw [encD_len]; exact Nat.le_refl _)
theorem encD_drop (d : Datum) : (encD d).drop 6 = [] := List.drop_of_length_le (by rw [encD_len]; exact Nat.le_refl _)
theorem lstD_lt (n : Nat) (l : List Datum) : (lstD l).lt n := by
 simp only [lstD, V.lt]
 exact ⟨fun e h => (by cases h), by rw [← encDs_map]; exact encDs_lt _ _⟩
theorem encS_lt (n : Nat) (l : List Str) : (encS l).lt n := by
 simp only [encS, V.lt]
 refine ⟨fun e h => (by cases h), ltRows_map fun x _ => ?_⟩
 simp [ltL, V.lt]
set_option linter.unusedVariables false
set_option linter.unusedVariables false
mutual
def eqD : Datum → Datum → Bool
 | .mk k n nm s l kids, .mk k' n' nm' s' l' kids' =>
  bif decide (k = k') then
   bif decide (k = 1) then decide (n = n') else bif decide (k = 2) then decide (n = n')
   else bif decide (k = 3) then (decide (nm = nm') && decide (s = s')) && decide (l = l')
   else bif decide (k = 4) then eqDs kids kids' else true
  else false
def eqDs : List Datum → List Datum → Bool
 | [], [] => true
 | a :: r, b :: r' => eqD a b && eqDs r r'
 | [], _ :: _ => false
 | _ :: _, [] => false
end
theorem eqDs_len : ∀ {l m : List Datum}, l.length ≠ m.length → eqDs l m = false
 | [], [], h => absurd rfl h
 | [], _ :: _, _ => by simp only [eqDs]
 | _ :: _, [], _ => by simp only [eqDs]
 | a :: r, b :: r', h => by
  simp only [eqDs, eqDs_len (l := r) (m := r') (by simpa using h), Bool.and_false]
theorem c_Same_of (l : List Datum) (ih : ∀ d ∈ l, ∀ (e : Datum) (st : St), VCalls Tryz.prog TT 10 [.agg (encD d), .agg (encD e)] st fun r st' => r = .ret (.bool (eqD d e)) ∧ st' = st) (m : List Datum) (st : St) :
  VCalls Tryz.prog TT 29 [lstD l, lstD m] st fun r st' => r = .ret (.bool (eqDs l m)) ∧ st' = st := by
 refine vfun TT_ok (an := anL []) (L := [0, 1, 4, 5, 12, 13]) (rs := [.tmp 4]) Tryz.func29 rfl (by kernel_rfl) rfl Tryz.ntmps29 rfl rfl (Nat.le_refl _) fun hst ha hf => ?_
 simp only [lstD, fitL, V.fit, List.length_map] at hf ⊢
 have hkl : l.length ≤ 9223372036854775807 := by simp at hf; omega
 simp only [gw0, reduceEqDiff, ↓reduceIte, reduceAdd, reduceLT, reduceLeDiff, reduceMul, List.length_map]
 refine iK_split (fun h => ?_) (fun h => ?_)
 ·simp only [gw0, reduceEqDiff, ↓reduceIte, reduceAdd, reduceLT, reduceLeDiff, reduceMul]
  refine gives_bool ?_ hst
  rw [eqDs_len]
  simp at h
  omega
 have hlen : l.length = m.length := by simp at h; omega
 simp only [gw0, reduceEqDiff, ↓reduceIte, reduceAdd, reduceLT, reduceLeDiff, reduceMul, List.length_map]
 refine vfor (σ := Nat) [0, 1, 4, 12, 13] (fun i => [(0, true, lstD l), (1, true, lstD m), (4, true, .bool false), (12, true, .int .i64 l.length), (13, true, .int .i64 i)]) (fun i => st) (fun i => l.length - i) (fun i => i ≤ l.length ∧ eqDs l m = eqDs (l.drop i) (m.drop i)) 0 rfl TT_ok ⟨Nat.zero_le _, rfl⟩ rfl rfl ?_
 rintro i ⟨hi, hx⟩
 rw [hx]
 simp only [lstD]
 rcases at_or_end l i hi with ⟨rfl, hd⟩ | ⟨a, hlt, hget, hdr⟩
 ·have hd2 : m.drop l.length = [] := List.drop_of_length_le (by omega)
  simp only [gw0, reduceEqDiff, ↓reduceIte, reduceAdd, reduceLT, reduceLeDiff, reduceMul, lt_no, hd, hd2, eqDs]
  exact gives_bool rfl hst
 ·rcases at_or_end m i (by omega) with ⟨e, hd⟩ | ⟨b, hlt2, hget2, hdr2⟩
  ·omega
  simp only [gw0, reduceEqDiff, ↓reduceIte, reduceAdd, reduceLT, reduceLeDiff, reduceMul, lt_yes hlt, hdr, hdr2, eqDs, List.length_map, Int.ofNat_lt.mpr hlt]
  refine vdraw TT_ok TT_mixed [0, 0, 0, 1, 0, 0, 0, 1, 0, 0] (by kernel_rfl) ?_
  simp only [gw0, reduceEqDiff, ↓reduceIte, reduceAdd, reduceLT, reduceLeDiff, reduceMul, List.length_map, getD_map hget, getD_map hget2, encD_take, encD_len, Int.ofNat_lt.mpr hlt, Int.ofNat_lt.mpr hlt2, Nat.le_refl]
  refine eK_free (ih a (List.mem_of_getElem? hget) b) (wkL_refl _) ?_
  simp only [gw0, reduceEqDiff, ↓reduceIte, reduceAdd, reduceLT, reduceLeDiff, reduceMul]
  refine iK_split (fun h5 => ?_) (fun h5 => ?_)
  ·simp only [gw0, reduceEqDiff, ↓reduceIte, reduceAdd, reduceLT, reduceLeDiff, reduceMul]
   exact gives_bool (by rw [not_yes h5]; rfl) hst
  ·simp only [gw0, reduceEqDiff, ↓reduceIte, reduceAdd, reduceLT, reduceLeDiff, reduceMul, Env.keep]
   exact ⟨i + 1, by rw [next_i64 hlt hkl], by omega, hlt, by rw [not_no h5]; rfl⟩
theorem c_Equal (d : Datum) : ∀ (e : Datum) (st : St), VCalls Tryz.prog TT 10 [.agg (encD d), .agg (encD e)] st fun r st' => r = .ret (.bool (eqD d e)) ∧ st' = st := by
 refine Datum.ind (p := fun d => ∀ (e : Datum) (st : St), VCalls Tryz.prog TT 10 [.agg (encD d), .agg (encD e)] st fun r st' => r = .ret (.bool (eqD d e)) ∧ st' = st) ?_ d
 intro k n nm s l kids ih e st
 obtain ⟨k', n', nm', s', l', kids'⟩ := e
 refine vfun TT_ok (an := anL [(2, 1), (3, 1)]) (L := [0, 1, 2, 3, 4, 11, 12]) (rs := [.tmp 4]) Tryz.func10 rfl (by kernel_rfl) rfl Tryz.ntmps10 rfl rfl (Nat.le_refl _) fun hst ha hf => ?_
 simp only [encD_mk]
 unfold eqD
 simp only [gw0, reduceEqDiff, ↓reduceIte, reduceAdd, reduceLT, reduceLeDiff, reduceMul]
 refine iK_split (fun h => ?_) (fun h => ?_)
 ·rw [not_yes h]
  simp only [gw0, reduceEqDiff, ↓reduceIte, reduceAdd, reduceLT, reduceLeDiff, reduceMul]
  exact gives_bool rfl hst
 rw [not_no h]
 simp only [gw0, reduceEqDiff, ↓reduceIte, reduceAdd, reduceLT, reduceLeDiff, reduceMul]
 refine iK_split (fun h1 => ?_) (fun h1 => ?_)
 ·rw [h1]
  simp only [gw0, reduceEqDiff, ↓reduceIte, reduceAdd, reduceLT, reduceLeDiff, reduceMul]
  exact gives_bool rfl hst
 rw [h1]
 simp only [gw0, reduceEqDiff, ↓reduceIte, reduceAdd, reduceLT, reduceLeDiff, reduceMul]
 refine iK_split (fun h2 => ?_) (fun h2 => ?_)
 ·rw [h2]
  simp only [gw0, reduceEqDiff, ↓reduceIte, reduceAdd, reduceLT, reduceLeDiff, reduceMul]
  exact gives_bool rfl hst
 rw [h2]
 simp only [gw0, reduceEqDiff, ↓reduceIte, reduceAdd, reduceLT, reduceLeDiff, reduceMul]
 refine iK_split (fun h3 => ?_) (fun h3 => ?_)
 ·rw [h3]
  simp only [gw0, reduceEqDiff, ↓reduceIte, reduceAdd, reduceLT, reduceLeDiff, reduceMul]
  exact gives_bool rfl hst
 rw [h3]
 simp only [gw0, reduceEqDiff, ↓reduceIte, reduceAdd, reduceLT, reduceLeDiff, reduceMul]
 refine iK_split (fun h4 => ?_) (fun h4 => ?_)
 ·rw [h4]
  simp only [gw0, reduceEqDiff, ↓reduceIte, reduceAdd, reduceLT, reduceLeDiff, reduceMul]
  refine (c_Same_of kids ih kids' st).use (wkL_refl _) fun _ => ?_
  simp only [gw0, reduceEqDiff, ↓reduceIte, reduceAdd, reduceLT, reduceLeDiff, reduceMul]
  exact gives_bool rfl hst
 ·rw [h4]
  simp only [gw0, reduceEqDiff, ↓reduceIte, reduceAdd, reduceLT, reduceLeDiff, reduceMul]
  exact gives_bool rfl hst
/-- The reader: its text, where it is, how many nodes there were. -/
def rdE (s : Str) (p n : Nat) : Ent := .box [.str s, .int .i64 p, .int .i64 n]
theorem rd_ok {st : St} {b p n : Nat} {s : Str} (h : St.ok st) : St.ok (st.set b (rdE s p n)) := by
 intro e he
 rw [List.length_set]
 rcases List.mem_or_eq_of_mem_set he with h' | rfl
 ·exact h e h'
 ·simp [rdE, Ent.lt, ltL, V.lt]
def isBlank (c : UInt8) : Bool := decide (c = 32) || decide (c = 9) || decide (c = 10)
/-- What is left behind blanks and notes. -/
def blk : Bool → Str → Str
 | _, [] => []
 | false, c :: r => bif isBlank c then blk false r else bif decide (c = 59) then blk true r else c :: r
 | true, c :: r => bif decide (c = 10) then blk false r else blk true r
theorem blk_le : ∀ (l : Str) (b : Bool), (blk b l).length ≤ l.length
 | [], b => by cases b <;> simp [blk]
 | c :: r, false => by
  simp only [blk]
  have := blk_le r false
  have := blk_le r true
  cases isBlank c <;> cases decide (c = 59) <;> simp <;> omega
 | c :: r, true => by
  simp only [blk]
  have := blk_le r false
  have := blk_le r true
  cases decide (c = 10) <;> simp <;> omega
theorem blk_drop : ∀ (l : Str) (b : Bool), blk b l = l.drop (l.length - (blk b l).length)
 | [], b => by cases b <;> simp [blk]
 | c :: r, false => by
  simp only [blk]
  have h1 := blk_drop r false
  have h2 := blk_drop r true
  have k1 := blk_le r false
  have k2 := blk_le r true
  cases isBlank c <;> cases decide (c = 59) <;> simp only [cond_true, cond_false, List.length_cons]
  ·simp
  ·rw [show r.length + 1 - (blk true r).length = (r.length - (blk true r).length) + 1 by omega, List.drop_succ_cons]; exact h2
  ·rw [show r.length + 1 - (blk false r).length = (r.length - (blk false r).length) + 1 by omega, List.drop_succ_cons]; exact h1
  ·rw [show r.length + 1 - (blk false r).length = (r.length - (blk false r).length) + 1 by omega, List.drop_succ_cons]; exact h1
 | c :: r, true => by
  simp only [blk]
  have h1 := blk_drop r false
  have h2 := blk_drop r true
  have k1 := blk_le r false
  have k2 := blk_le r true
  cases decide (c = 10) <;> simp only [cond_true, cond_false, List.length_cons]
  ·rw [show r.length + 1 - (blk true r).length = (r.length - (blk true r).length) + 1 by omega, List.drop_succ_cons]; exact h2
  ·rw [show r.length + 1 - (blk false r).length = (r.length - (blk false r).length) + 1 by omega, List.drop_succ_cons]; exact h1
theorem isBlank_int (c : UInt8) : (decide ((c.toNat : Int) = 32) || decide ((c.toNat : Int) = 9) || decide ((c.toNat : Int) = 10)) = isBlank c :=
 of_decide_eq_true (all_bytes (p := fun c => decide ((decide ((c.toNat : Int) = 32) || decide ((c.toNat : Int) = 9) || decide ((c.toNat : Int) = 10)) = isBlank c)) (by decide +kernel) c)
theorem byte_eq (c d : UInt8) : decide ((c.toNat : Int) = (d.toNat : Int)) = decide (c = d) := by
 by_cases h : c = d
 ·simp [h]
 ·have : ¬ (c.toNat : Int) = (d.toNat : Int) := fun e => h (UInt8.toNat_inj.1 (by omega))
  simp [h, this]
theorem c_blank (s : Str) (st : St) (b p n : Nat) (hb : st[b]? = some (rdE s p n)) (hp : p ≤ s.length) (hs : s.length ≤ 6000) :
  VCalls Tryz.prog TT 73 [.ptr b 0] st fun r st' => r = .ret (.tup []) ∧ st' = st.set b (rdE s (s.length - (blk false (s.drop p)).length) n) := by
 refine vfun TT_ok (an := anL []) (L := [0, 2]) (rs := []) Tryz.func73 rfl (by kernel_rfl) rfl Tryz.ntmps73 rfl rfl (Nat.le_of_eq (List.length_set ..).symm) fun hst ha hf => ?_
 have hlt : b < st.length := (List.getElem?_eq_some_iff.1 hb).1
 have hset : ∀ x, (st.set b (rdE s x n))[b]? = some (.box [.str s, .int .i64 x, .int .i64 n]) := fun c' => List.getElem?_set_self hlt
 have hend : ∀ x, x ≤ s.length → blk false (s.drop p) = s.drop x → Gives (.tup []) (st.set b (rdE s (s.length - (blk false (s.drop p)).length) n)) (.ret (.tup [])) (st.set b (rdE s x n)) := by
  intro x hx h
  rw [h, List.length_drop, show s.length - (s.length - x) = x by omega]
  exact gives_self (by simp [V.lt, ltL]) (rd_ok hst)
 simp only [gw0, reduceEqDiff, ↓reduceIte, reduceAdd, reduceLT, reduceLeDiff, reduceMul]
 refine vfor (σ := Nat) [0] (fun x => [(0, true, .ptr b 0)]) (fun x => st.set b (rdE s x n)) (fun x => s.length - x) (fun x => x ≤ s.length ∧ blk false (s.drop p) = blk false (s.drop x)) p rfl TT_ok ⟨hp, rfl⟩ rfl (set_self hb).symm ?_
 rintro x ⟨hx, hI⟩
 simp only [gw0, reduceEqDiff, ↓reduceIte, reduceAdd, reduceLT, reduceLeDiff, reduceMul]
 refine vdraw TT_ok TT_mixed [0, 0, 0, 1, 0, 0, 0, 1, 0, 0] (by kernel_rfl) ?_
 rcases at_or_end s x hx with ⟨rfl, hd⟩ | ⟨c, hltx, hget, hdr⟩
 ·simp only [gw0, reduceEqDiff, ↓reduceIte, reduceAdd, reduceLT, reduceLeDiff, reduceMul, hset, lt_no]
  exact hend _ (Nat.le_refl _) (by rw [hI, hd]; rfl)
 have h63 : s.length ≤ 9223372036854775807 := by omega
 simp only [gw0, reduceEqDiff, ↓reduceIte, reduceAdd, reduceLT, reduceLeDiff, reduceMul, hset, lt_yes hltx]
 refine vdraw TT_ok TT_mixed [0, 0, 0, 1, 0, 0, 0, 1, 0, 0] (by kernel_rfl) ?_
 simp only [gw0, reduceEqDiff, ↓reduceIte, reduceAdd, reduceLT, reduceLeDiff, reduceMul, hset, getD_at hget, Int.ofNat_lt.mpr hltx]
 rw [isBlank_int]
 have hstep : ∀ y, y < s.length → (Tryz.prog = Tryz.prog) → IntKind.i64.wrap ((y : Int) + 1) = ((y + 1 : Nat) : Int) := fun y hy _ => next_i64 hy h63
 have hblk : blk false (s.drop x) = bif isBlank c then blk false (s.drop (x + 1)) else bif decide (c = 59) then blk true (s.drop (x + 1)) else s.drop x := by
  rw [hdr]; simp only [blk]
 refine iK_split (fun h => ?_) (fun h => ?_)
 ·simp only [gw0, reduceEqDiff, ↓reduceIte, reduceAdd, reduceLT, reduceLeDiff, reduceMul, hset, hstep x hltx rfl]
  simp only [gw0, reduceEqDiff, ↓reduceIte, reduceAdd, reduceLT, reduceLeDiff, reduceMul, Env.keep]
  exact ⟨x + 1, by rw [List.set_set]; rfl, by omega, by omega, by rw [hI, hblk, h]; rfl⟩
 ·have h59 : decide ((c.toNat : Int) = 59) = decide (c = 59) := byte_eq c 59
  simp only [gw0, reduceEqDiff, ↓reduceIte, reduceAdd, reduceLT, reduceLeDiff, reduceMul]
  rw [h59]
  refine iK_split (fun h2 => ?_) (fun h2 => ?_)
  ·simp only [gw0, reduceEqDiff, ↓reduceIte, reduceAdd, reduceLT, reduceLeDiff, reduceMul]
   have h2' := of_decide_eq_true h2
   subst h2'
   refine vfor (σ := Nat) [0] (fun y => [(0, true, .ptr b 0)]) (fun y => st.set b (rdE s y n)) (fun y => s.length - y) (fun y => x ≤ y ∧ y ≤ s.length ∧ blk false (s.drop p) = blk true (s.drop y)) x rfl TT_ok ⟨Nat.le_refl _, hx, by rw [hI, hdr]; simp [blk, isBlank]⟩ rfl rfl ?_
   rintro y ⟨hxy, hy, hJ⟩
   simp only [gw0, reduceEqDiff, ↓reduceIte, reduceAdd, reduceLT, reduceLeDiff, reduceMul]
   refine vdraw TT_ok TT_mixed [0, 0, 0, 1, 0, 0, 0, 1, 0, 0, 0, 0, 0, 0, 1, 0, 0, 0, 1, 0, 0, 0] (by kernel_rfl) ?_
   rcases at_or_end s y hy with ⟨rfl, hd⟩ | ⟨e, hlty, hgety, hdry⟩
   ·simp only [gw0, reduceEqDiff, ↓reduceIte, reduceAdd, reduceLT, reduceLeDiff, reduceMul, hset, lt_no]
    simp only [gw0, reduceEqDiff, ↓reduceIte, reduceAdd, reduceLT, reduceLeDiff, reduceMul, Env.keep]
    exact ⟨s.length, rfl, by omega, Nat.le_refl _, by rw [hJ, hd]; rfl⟩
   ·have h10 : decide ((e.toNat : Int) = 10) = decide (e = 10) := byte_eq e 10
    simp only [gw0, reduceEqDiff, ↓reduceIte, reduceAdd, reduceLT, reduceLeDiff, reduceMul, hset, lt_yes hlty, getD_at hgety, Int.ofNat_lt.mpr hlty]
    rw [h10]
    refine iK_split (fun h3 => ?_) (fun h3 => ?_)
    ·simp only [gw0, reduceEqDiff, ↓reduceIte, reduceAdd, reduceLT, reduceLeDiff, reduceMul, hset, hstep y hlty rfl]
     simp only [gw0, reduceEqDiff, ↓reduceIte, reduceAdd, reduceLT, reduceLeDiff, reduceMul, Env.keep]
     have h3' : ¬ e = 10 := by simpa using h3
     exact ⟨y + 1, by rw [List.set_set]; rfl, by omega, by omega, by omega, by rw [hJ, hdry]; simp [blk, h3']⟩
    ·simp only [gw0, reduceEqDiff, ↓reduceIte, reduceAdd, reduceLT, reduceLeDiff, reduceMul, Env.keep]
     have h3' : e = 10 := by simpa using h3
     subst h3'
     have hne : x ≠ y := by rintro rfl; rw [hget] at hgety; cases hgety
     exact ⟨y, rfl, by omega, hy, by rw [hJ, hdry]; simp [blk, isBlank]⟩
  ·simp only [gw0, reduceEqDiff, ↓reduceIte, reduceAdd, reduceLT, reduceLeDiff, reduceMul]
   exact hend x hx (by rw [hI, hblk, h, h2]; rfl)
theorem Ext.below {g : G} {w w' : World} (hb : Go.RowKit.Below w.heap.size w w') : Ext g w g w' :=
 ⟨hb.os, hb.tape, hb.output, hb.size, Nat.le_refl _, fun _ _ => rfl, fun _ _ => Nat.le_refl _, fun _ _ _ => rfl, fun b h1 h2 => ⟨hb.block b h1, h2⟩, fun b k h1 h2 => ⟨fun off _ => cell_of_block (hb.block b h1), fun k' h3 => by rw [h2] at h3; cases h3; exact Nat.le_refl _⟩, fun b h1 => shape_of_block (hb.block b h1)⟩
/-- A call of the library that leaves what there was, and makes perhaps something; it may look at the tables. -/
theorem VCalls.ofBelowA {P : Program} {T : Nat → TI} {f : FuncId} {args : List V} {st : St} {X : V} (he : Gw.Enters P f)
  (h : ∀ (g : G) (w : World) (vals : List Value), Amb g w → SimVs g w args vals → ∃ val, (∀ g' w', SimV g' w' X val) ∧ Calls P f vals.toArray w fun e w' => e = .returned val ∧ Go.RowKit.Below w.heap.size w w') : VCalls P T f args st fun r s => r = .ret X ∧ s = st :=
 ⟨he, fun g w vals h1 h2 => by
  obtain ⟨val, h3, h4⟩ := h g w vals h1.amb h2
  refine h4.mono ?_
  rintro e w' ⟨rfl, hb⟩
  exact ⟨.ret X, st, g, ⟨rfl, rfl⟩, ⟨val, rfl, h3 _ _⟩, h1.keep (Ext.below hb) rfl (fun _ _ => rfl) (fun b h5 _ => ⟨hb.block b h5, rfl⟩), Ext.below hb⟩⟩
/-- Where the tables are nothing to it. -/
theorem VCalls.ofBelow {P : Program} {T : Nat → TI} {f : FuncId} {args : List V} {st : St} {X : V} (he : Gw.Enters P f)
  (h : ∀ (g : G) (w : World) (vals : List Value), SimVs g w args vals → ∃ val, (∀ g' w', SimV g' w' X val) ∧ Calls P f vals.toArray w fun e w' => e = .returned val ∧ Go.RowKit.Below w.heap.size w w') : VCalls P T f args st fun r s => r = .ret X ∧ s = st :=
 VCalls.ofBelowA he fun g w vals _ hv => h g w vals hv
open Go.Proofs Go.Shelf in
shelf_lay LaysC.n174 Nm 174 at Tryz as YtpllcpbhjglpaaaGreatDoor.laysPI
theorem c_ParseInt (st : St) (s : Str) (v : Int) (h : Lib.parseIntB 64 s = .ok v) (hs : s.length ≤ 6000) :
  VCalls Tryz.prog TT 101 [.str s, .int .i64 10, .int .i64 64] st fun r st' => r = .ret (.tup [.int .i64 v, .nili]) ∧ st' = st := by
 refine VCalls.ofBelow ⟨_, Tryz.func101, by kernel_rfl, by kernel_rfl⟩ fun g w vals hv => ?_
 simp only [SimVs, SimV] at hv
 obtain ⟨_, _, rfl, ⟨rfl, _⟩, _, _, rfl, rfl, _, _, rfl, rfl, rfl⟩ := hv
 refine ⟨.tuple #[.int .i64 v, .nilIface], fun g' w' => by simp only [SimV, SimVs]; exact ⟨[.int .i64 v, .nilIface], rfl, _, _, rfl, rfl, _, _, rfl, rfl, rfl⟩, ?_⟩
 refine (Go.Proofs.Any.strconv_ParseInt_10_at64_ok YtpllcpbhjglpaaaGreatDoor.laysPI ⟨s.toArray⟩ (by simp [ByteArray.size]; omega) v (by simpa using h) w).mono ?_
 rintro e w' ⟨rfl, hw⟩
 refine ⟨rfl, ?_⟩
 rcases hw with rfl | ⟨t, rfl⟩
 ·exact Go.RowKit.Below.refl _ _
 ·exact Go.Lib.bytesWorld_below w _ t
/-- The number that digits spell. -/
def numN (r : Str) : Nat := r.foldl (fun a c => a * 10 + (c.toNat - 48)) 0
def numV : Str → Int
 | 45 :: r => -(numN r : Int)
 | r => numN r
theorem parse_digits : ∀ (r : Str) (k acc : Nat), digits r = true → acc < 10 ^ k → k + r.length ≤ 17 → Lib.parseUintM (2 ^ 64 - 1) acc r = .ok (r.foldl (fun a c => a * 10 + (c.toNat - 48)) acc) ∧ r.foldl (fun a c => a * 10 + (c.toNat - 48)) acc < 10 ^ (k + r.length)
 | [], k, acc, _, h, _ => by simpa [Lib.parseUintM] using h
 | c :: r, k, acc, hd, h, hl => by
  simp only [digits, List.all_cons, Bool.and_eq_true, decide_eq_true_eq] at hd
  obtain ⟨⟨h1, h2⟩, hd⟩ := hd
  simp only [List.length_cons] at hl
  have hacc : acc * 10 + (c.toNat - 48) < 10 ^ (k + 1) := by rw [Nat.pow_succ]; omega
  have hp : 10 ^ (k + 1) ≤ 10 ^ 17 := Nat.pow_le_pow_right (by decide) (by omega)
  have ih := parse_digits r (k + 1) (acc * 10 + (c.toNat - 48)) hd hacc (by omega)
  simp only [List.foldl_cons, List.length_cons]
  rw [show k + (r.length + 1) = k + 1 + r.length by omega]
  refine ⟨?_, ih.2⟩
  rw [← ih.1]
  conv => lhs; unfold Lib.parseUintM
  rw [if_pos ⟨h1, h2⟩, if_neg (by omega), if_neg (by omega)]
theorem looks_inv {s : Str} (h : looksB s = true) : (∃ r, s = 45 :: r ∧ digits r = true ∧ r ≠ []) ∨ ((∀ r, s ≠ 45 :: r) ∧ digits s = true ∧ s ≠ []) := by
 unfold looksB at h
 split at h
 ·rename_i r
  simp only [Bool.and_eq_true, Bool.not_eq_true', List.isEmpty_eq_false_iff] at h
  exact .inl ⟨r, rfl, h.1, h.2⟩
 ·rename_i hno
  simp only [Bool.and_eq_true, Bool.not_eq_true', List.isEmpty_eq_false_iff] at h
  exact .inr ⟨hno, h.1, h.2⟩
theorem parse_ok {s : Str} (h : looksB s = true) (hl : s.length ≤ 17) : Lib.parseIntB 64 s = .ok (numV s) ∧ -100000000000000000 ≤ numV s ∧ numV s ≤ 100000000000000000 := by
 rcases looks_inv h with ⟨r, rfl, hd, hne⟩ | ⟨hno, hd, hne⟩
 ·have hp := parse_digits r 0 0 hd (by decide) (by simp at hl; omega)
  have hb : (10 : Nat) ^ (0 + r.length) ≤ 10 ^ 17 := Nat.pow_le_pow_right (by decide) (by simp at hl; omega)
  have hlt := hp.2
  have hu : Lib.parseUintB 64 r = .ok (numN r) := by unfold Lib.parseUintB; rw [if_neg hne]; exact hp.1
  refine ⟨?_, ?_⟩
  ·unfold Lib.parseIntB
   have hn : ¬ 2 ^ (64 - 1) < numN r := by unfold numN; omega
   simp only [show (45 : UInt8).toNat = 45 from rfl, or_true, if_true]
   rw [hu]
   simp only [not_true_eq_false, false_and, if_false, true_and, if_neg hn]
   simp [numV]
  ·simp only [numV, numN]; omega
 ·cases s with
  | nil => exact absurd rfl hne
  | cons c r =>
   have hp := parse_digits (c :: r) 0 0 hd (by decide) (by simp at hl ⊢; omega)
   have hb : (10 : Nat) ^ (0 + (c :: r).length) ≤ 10 ^ 17 := Nat.pow_le_pow_right (by decide) (by simp at hl ⊢; omega)
   have hlt := hp.2
   have hu : Lib.parseUintB 64 (c :: r) = .ok (numN (c :: r)) := by unfold Lib.parseUintB; rw [if_neg hne]; exact hp.1
   have hd' := hd
   simp only [digits, List.all_cons, Bool.and_eq_true, decide_eq_true_eq] at hd'
   have hnv : numV (c :: r) = numN (c :: r) := by
    unfold numV
    split
    ·rename_i r' e; exact absurd e (hno r')
    ·rfl
   refine ⟨?_, ?_⟩
   ·unfold Lib.parseIntB
    have h1 : ¬ (c.toNat = 43 ∨ c.toNat = 45) := by omega
    have h2 : ¬ c.toNat = 45 := by omega
    have hn : ¬ 2 ^ (64 - 1) ≤ numN (c :: r) := by unfold numN; omega
    simp only [if_neg h1]
    rw [hu]
    simp only [h2, not_false_eq_true, true_and, if_neg hn, false_and, if_false]
    rw [hnv]
   ·rw [hnv]; simp only [numN]; omega
def faultV (e p : Int) : V := .iface 110 (.agg [.int .i64 e, .int .i64 p])
theorem c_fail (st : St) (e p : Int) : VCalls Tryz.prog TT 90 [.int .i64 e, .int .i64 p] st fun r st' => r = .panic (faultV e p) ∧ st' = st := by
 refine vfunP TT_ok (an := anL []) (L := [0, 1]) (rs := []) Tryz.func90 rfl (by kernel_rfl) rfl Tryz.ntmps90 rfl rfl (Nat.le_refl _) fun hst ha hf => ?_
 simp only [gw0, reduceEqDiff, ↓reduceIte, reduceAdd, reduceLT, reduceLeDiff, reduceMul]
 exact givesP_self (by simp [faultV, V.lt, ltL]) hst
theorem c_node_ok (s : Str) (st : St) (b p n : Nat) (deep q : Int) (hb : st[b]? = some (rdE s p n)) (h : ¬ 2000 < n + 1 ∧ ¬ 40 < deep) :
  VCalls Tryz.prog TT 89 [.ptr b 0, .int .i64 deep, .int .i64 q] st fun r st' => r = .ret (.tup []) ∧ st' = st.set b (rdE s p (n + 1)) := by
 refine vfun TT_ok (an := anL []) (L := [0, 1, 2]) (rs := []) Tryz.func89 rfl (by kernel_rfl) rfl Tryz.ntmps89 rfl rfl (Nat.le_of_eq (List.length_set ..).symm) fun hst ha hf => ?_
 have hlt : b < st.length := (List.getElem?_eq_some_iff.1 hb).1
 have hset : (st.set b (.box [.str s, .int .i64 p, .int .i64 (n + 1)]))[b]? = some (.box [.str s, .int .i64 p, .int .i64 (n + 1)]) := List.getElem?_set_self hlt
 simp only [rdE] at hb
 simp only [gw0, reduceEqDiff, ↓reduceIte, reduceAdd, reduceLT, reduceLeDiff, reduceMul, hb, wrap_i64 (show -9223372036854775808 ≤ (n : Int) + 1 by omega) (show (n : Int) + 1 ≤ 9223372036854775807 by omega), hset]
 refine iK_split (fun h2 => ?_) (fun h2 => ?_)
 ·exfalso
  simp at h2
  omega
 ·simp only [gw0, reduceEqDiff, ↓reduceIte, reduceAdd, reduceLT, reduceLeDiff, reduceMul]
  exact gives_self (by simp [V.lt, ltL]) (rd_ok hst)
theorem c_node_err (s : Str) (st : St) (b p n : Nat) (deep q : Int) (hb : st[b]? = some (rdE s p n)) (hn : n ≤ 2000) (h : 2000 < n + 1 ∨ 40 < deep) :
  VCalls Tryz.prog TT 89 [.ptr b 0, .int .i64 deep, .int .i64 q] st fun r st' => r = .panic (faultV 4 q) ∧ st' = st.set b (rdE s p (n + 1)) := by
 refine vfunP TT_ok (an := anL []) (L := [0, 1, 2]) (rs := []) Tryz.func89 rfl (by kernel_rfl) rfl Tryz.ntmps89 rfl rfl (Nat.le_of_eq (List.length_set ..).symm) fun hst ha hf => ?_
 have hlt : b < st.length := (List.getElem?_eq_some_iff.1 hb).1
 have hset : (st.set b (.box [.str s, .int .i64 p, .int .i64 (n + 1)]))[b]? = some (.box [.str s, .int .i64 p, .int .i64 (n + 1)]) := List.getElem?_set_self hlt
 simp only [rdE] at hb
 simp only [gw0, reduceEqDiff, ↓reduceIte, reduceAdd, reduceLT, reduceLeDiff, reduceMul, hb, wrap_i64 (show -9223372036854775808 ≤ (n : Int) + 1 by omega) (show (n : Int) + 1 ≤ 9223372036854775807 by omega), hset]
 refine iK_split (fun h2 => ?_) (fun h2 => ?_)
 ·simp only [gw0, reduceEqDiff, ↓reduceIte, reduceAdd, reduceLT, reduceLeDiff, reduceMul]
  refine (c_fail _ 4 q).useP (wkL_refl _) ?_
  simp only [gw0, reduceEqDiff, ↓reduceIte, reduceAdd, reduceLT, reduceLeDiff, reduceMul]
  exact givesP_self (by simp [faultV, V.lt, ltL]) (rd_ok hst)
 ·exfalso
  simp at h2
  omega
/-- What an atom is; or what is wrong with it. -/
def atomR (s : Str) : Sum Int Datum :=
 bif looksB s then (bif decide ((17 : Int) < s.length) then .inl 3 else bif decide (1000000000000000 < numV s) || decide (numV s < -1000000000000000) then .inl 3 else .inr (.mk 1 (numV s) [] 0 0 []))
 else bif decide ((20 : Int) < s.length) then .inl 7 else .inr (.mk 3 0 s 0 0 [])
theorem wk6 (a b c d e : V) : wkL [a, b, c, d, e, .nils] [a, b, c, d, e, .lst 6 none []] :=
 wkL_cons (wk_refl _) (wkL_cons (wk_refl _) (wkL_cons (wk_refl _) (wkL_cons (wk_refl _) (wkL_cons (wk_refl _) (wkL_cons (wk_nils _) wkL_nil)))))
theorem c_atom_ok (s : Str) (st : St) (q : Int) (d : Datum) (hs : s.length ≤ 6000) (h : atomR s = .inr d) :
  VCalls Tryz.prog TT 92 [.str s, .int .i64 q] st fun r st' => r = .ret (.agg (encD d)) ∧ st' = st := by
 refine vfun TT_ok (an := anL []) (L := [0, 1, 4, 5]) (rs := [.cell 4 26]) Tryz.func92 rfl (by kernel_rfl) rfl Tryz.ntmps92 rfl rfl (Nat.le_refl _) fun hst ha hf => ?_
 simp only [gw0, reduceEqDiff, ↓reduceIte, reduceAdd, reduceLT, reduceLeDiff, reduceMul]
 refine (c_number _ s).use (wkL_refl _) fun _ => ?_
 simp only [gw0, reduceEqDiff, ↓reduceIte, reduceAdd, reduceLT, reduceLeDiff, reduceMul]
 unfold atomR at h
 refine iK_split (fun hl => ?_) (fun hl => ?_)
 ·rw [hl] at h
  simp only [cond_true] at h
  simp only [gw0, reduceEqDiff, ↓reduceIte, reduceAdd, reduceLT, reduceLeDiff, reduceMul]
  refine iK_split (fun h17 => ?_) (fun h17 => ?_)
  ·exfalso
   rw [h17] at h
   cases h
  ·have h17' : s.length ≤ 17 := by simp at h17; omega
   rw [h17] at h
   simp only [cond_false] at h
   obtain ⟨p1, p2, p3⟩ := parse_ok hl h17'
   simp only [gw0, reduceEqDiff, ↓reduceIte, reduceAdd, reduceLT, reduceLeDiff, reduceMul]
   refine (c_ParseInt _ s (numV s) p1 hs).use (wkL_refl _) fun _ => ?_
   simp only [gw0, reduceEqDiff, ↓reduceIte, reduceAdd, reduceLT, reduceLeDiff, reduceMul]
   refine iK_split (fun h1 => ?_) (fun h1 => ?_)
   ·exfalso
    rw [h1] at h
    cases h
   ·rw [h1] at h
    simp only [cond_false, Sum.inr.injEq] at h
    subst h
    simp only [gw0, reduceEqDiff, ↓reduceIte, reduceAdd, reduceLT, reduceLeDiff, reduceMul, encD_mk]
    exact gives_of (wk_agg (wk6 ..)) (wkSt_refl _) (by simp only [V.lt]; exact encD_lt _ (.mk 1 (numV s) [] 0 0 [])) hst
 ·rw [hl] at h
  simp only [cond_false] at h
  simp only [gw0, reduceEqDiff, ↓reduceIte, reduceAdd, reduceLT, reduceLeDiff, reduceMul]
  refine iK_split (fun h20 => ?_) (fun h20 => ?_)
  ·exfalso
   rw [h20] at h
   cases h
  ·rw [h20] at h
   simp only [cond_false, Sum.inr.injEq] at h
   subst h
   simp only [gw0, reduceEqDiff, ↓reduceIte, reduceAdd, reduceLT, reduceLeDiff, reduceMul, encD_mk]
   exact gives_of (wk_agg (wk6 ..)) (wkSt_refl _) (by simp only [V.lt]; exact encD_lt _ (.mk 3 0 s 0 0 [])) hst
theorem c_atom_err (s : Str) (st : St) (q : Int) (e : Int) (hs : s.length ≤ 6000) (h : atomR s = .inl e) :
  VCalls Tryz.prog TT 92 [.str s, .int .i64 q] st fun r st' => r = .panic (faultV e q) ∧ st' = st := by
 refine vfunP TT_ok (an := anL []) (L := [0, 1, 4, 5]) (rs := [.cell 4 26]) Tryz.func92 rfl (by kernel_rfl) rfl Tryz.ntmps92 rfl rfl (Nat.le_refl _) fun hst ha hf => ?_
 simp only [gw0, reduceEqDiff, ↓reduceIte, reduceAdd, reduceLT, reduceLeDiff, reduceMul]
 refine (c_number _ s).use (wkL_refl _) fun _ => ?_
 simp only [gw0, reduceEqDiff, ↓reduceIte, reduceAdd, reduceLT, reduceLeDiff, reduceMul]
 unfold atomR at h
 have fin : ∀ ex, GivesP (faultV e q) st (.panic (faultV e q)) (st ++ ex) := fun ex => givesP_of (wk_refl _) (wkSt_refl _) (by simp [faultV, V.lt, ltL]) hst
 refine iK_split (fun hl => ?_) (fun hl => ?_)
 ·rw [hl] at h
  simp only [cond_true] at h
  simp only [gw0, reduceEqDiff, ↓reduceIte, reduceAdd, reduceLT, reduceLeDiff, reduceMul]
  refine iK_split (fun h17 => ?_) (fun h17 => ?_)
  ·rw [h17] at h
   simp only [cond_true, Sum.inl.injEq] at h
   subst h
   simp only [gw0, reduceEqDiff, ↓reduceIte, reduceAdd, reduceLT, reduceLeDiff, reduceMul]
   refine (c_fail _ 3 q).useP (wkL_refl _) ?_
   simp only [gw0, reduceEqDiff, ↓reduceIte, reduceAdd, reduceLT, reduceLeDiff, reduceMul]
   exact fin _
  ·have h17' : s.length ≤ 17 := by simp at h17; omega
   rw [h17] at h
   simp only [cond_false] at h
   obtain ⟨p1, p2, p3⟩ := parse_ok hl h17'
   simp only [gw0, reduceEqDiff, ↓reduceIte, reduceAdd, reduceLT, reduceLeDiff, reduceMul]
   refine (c_ParseInt _ s (numV s) p1 hs).use (wkL_refl _) fun _ => ?_
   simp only [gw0, reduceEqDiff, ↓reduceIte, reduceAdd, reduceLT, reduceLeDiff, reduceMul]
   refine iK_split (fun h1 => ?_) (fun h1 => ?_)
   ·rw [h1] at h
    simp only [cond_true, Sum.inl.injEq] at h
    subst h
    simp only [gw0, reduceEqDiff, ↓reduceIte, reduceAdd, reduceLT, reduceLeDiff, reduceMul]
    refine (c_fail _ 3 q).useP (wkL_refl _) ?_
    simp only [gw0, reduceEqDiff, ↓reduceIte, reduceAdd, reduceLT, reduceLeDiff, reduceMul]
    exact fin _
   ·exfalso
    rw [h1] at h
    cases h
 ·rw [hl] at h
  simp only [cond_false] at h
  simp only [gw0, reduceEqDiff, ↓reduceIte, reduceAdd, reduceLT, reduceLeDiff, reduceMul]
  refine iK_split (fun h20 => ?_) (fun h20 => ?_)
  ·rw [h20] at h
   simp only [cond_true, Sum.inl.injEq] at h
   subst h
   simp only [gw0, reduceEqDiff, ↓reduceIte, reduceAdd, reduceLT, reduceLeDiff, reduceMul]
   refine (c_fail _ 7 q).useP (wkL_refl _) ?_
   simp only [gw0, reduceEqDiff, ↓reduceIte, reduceAdd, reduceLT, reduceLeDiff, reduceMul]
   exact fin _
  ·exfalso
   rw [h20] at h
   cases h
end Go.Proofs.YtpllcpbhjglpaaaGreatDoor.Gx
