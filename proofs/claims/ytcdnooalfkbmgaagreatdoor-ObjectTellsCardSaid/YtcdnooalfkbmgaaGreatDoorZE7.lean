/- The table of the types of this place, as the engine wants it: each row held against the program. Contracts: what the small functions on strings and on lists of strings give. Contracts: letters, numbers, names. Contracts: what is wrong with data. Contracts: what is wrong with lists of data. Contracts: what is wrong with lists of data (the document's answer); the base's names; a datum without what its kinds have not. Contracts: a datum without what its kinds have not. Contracts: a datum without what its kinds have not (the document's answer); when data are the same. Contracts: when data are the same. -/
import Derived.Test.YtcdnooalfkbmgaaGreatDoorZE6
import Derived.Test.YtcdnooalfkbmgaaGreatDoorProg
import Derived.KernelRfl
import Derived.Lib.Strings
import Derived.Lib.Walk
import Derived.Lib.Bytealg
namespace Go.Proofs.YtcdnooalfkbmgaaGreatDoor.Gw
open Go
def tab : List TI := [
 ⟨.other, 0, 0, []⟩,
 ⟨.func, 1, 8, [.nilf]⟩,
 ⟨.int .i64, 1, 8, [.int .i64 0]⟩,
 ⟨.int .i64, 1, 8, [.int .i64 0]⟩,
 ⟨.bool, 1, 1, [.bool false]⟩,
 ⟨.int .u8, 1, 1, [.int .u8 0]⟩,
 ⟨.int .u8, 1, 1, [.int .u8 0]⟩,
 ⟨.struct [(0, 2), (1, 3), (2, 4), (3, 6)], 4, 24, [.int .i64 0, .int .i64 0, .bool false, .int .u8 0]⟩,
 ⟨.struct [(0, 2), (1, 3), (2, 4), (3, 6)], 4, 24, [.int .i64 0, .int .i64 0, .bool false, .int .u8 0]⟩,
 ⟨.str, 1, 16, [.str []]⟩,
 ⟨.str, 1, 16, [.str []]⟩,
 ⟨.str, 1, 16, [.str []]⟩,
 ⟨.int .u64, 1, 8, [.int .u64 0]⟩,
 ⟨.other, 0, 0, []⟩,
 ⟨.other, 0, 0, []⟩,
 ⟨.ptr 201, 1, 8, [.nilp]⟩,
 ⟨.ptr 204, 1, 8, [.nilp]⟩,
 ⟨.ptr 211, 1, 8, [.nilp]⟩,
 ⟨.other, 0, 0, []⟩,
 ⟨.other, 0, 0, []⟩,
 ⟨.iface, 1, 16, [.nili]⟩,
 ⟨.int .i32, 1, 4, [.int .i32 0]⟩,
 ⟨.slice 46, 1, 24, [.nils]⟩,
 ⟨.struct [(0, 9), (1, 22)], 2, 40, [.str [], .nils]⟩,
 ⟨.struct [(0, 9), (1, 22)], 2, 40, [.str [], .nils]⟩,
 ⟨.slice 5, 1, 24, [.nils]⟩,
 ⟨.int .i64, 1, 8, [.int .i64 0]⟩,
 ⟨.func, 1, 8, [.nilf]⟩,
 ⟨.other, 0, 0, []⟩,
 ⟨.func, 1, 8, [.nilf]⟩,
 ⟨.func, 1, 8, [.nilf]⟩,
 ⟨.other, 0, 0, []⟩,
 ⟨.func, 1, 8, [.nilf]⟩,
 ⟨.func, 1, 8, [.nilf]⟩,
 ⟨.func, 1, 8, [.nilf]⟩,
 ⟨.slice 96, 1, 24, [.nils]⟩,
 ⟨.struct [(0, 9), (1, 35)], 2, 40, [.str [], .nils]⟩,
 ⟨.struct [(0, 9), (1, 35)], 2, 40, [.str [], .nils]⟩,
 ⟨.func, 1, 8, [.nilf]⟩,
 ⟨.func, 1, 8, [.nilf]⟩,
 ⟨.struct [(0, 26), (1, 3)], 2, 16, [.int .i64 0, .int .i64 0]⟩,
 ⟨.struct [(0, 26), (1, 3)], 2, 16, [.int .i64 0, .int .i64 0]⟩,
 ⟨.func, 1, 8, [.nilf]⟩,
 ⟨.slice 37, 1, 24, [.nils]⟩,
 ⟨.slice 51, 1, 24, [.nils]⟩,
 ⟨.struct [(0, 3), (1, 44)], 2, 32, [.int .i64 0, .nils]⟩,
 ⟨.struct [(0, 3), (1, 44)], 2, 32, [.int .i64 0, .nils]⟩,
 ⟨.slice 49, 1, 24, [.nils]⟩,
 ⟨.struct [(0, 3), (1, 2), (2, 9), (3, 3), (4, 3), (5, 47)], 6, 72, [.int .i64 0, .int .i64 0, .str [], .int .i64 0, .int .i64 0, .nils]⟩,
 ⟨.struct [(0, 3), (1, 2), (2, 9), (3, 3), (4, 3), (5, 47)], 6, 72, [.int .i64 0, .int .i64 0, .str [], .int .i64 0, .int .i64 0, .nils]⟩,
 ⟨.struct [(0, 3), (1, 3), (2, 2), (3, 9), (4, 9), (5, 49)], 11, 128, [.int .i64 0, .int .i64 0, .int .i64 0, .str [], .str [], .int .i64 0, .int .i64 0, .str [], .int .i64 0, .int .i64 0, .nils]⟩,
 ⟨.struct [(0, 3), (1, 3), (2, 2), (3, 9), (4, 9), (5, 49)], 11, 128, [.int .i64 0, .int .i64 0, .int .i64 0, .str [], .str [], .int .i64 0, .int .i64 0, .str [], .int .i64 0, .int .i64 0, .nils]⟩,
 ⟨.func, 1, 8, [.nilf]⟩,
 ⟨.func, 1, 8, [.nilf]⟩,
 ⟨.func, 1, 8, [.nilf]⟩,
 ⟨.func, 1, 8, [.nilf]⟩,
 ⟨.ptr 59, 1, 8, [.nilp]⟩,
 ⟨.slice 3, 1, 24, [.nils]⟩,
 ⟨.struct [(0, 22), (1, 57), (2, 3)], 3, 56, [.nils, .nils, .int .i64 0]⟩,
 ⟨.struct [(0, 22), (1, 57), (2, 3)], 3, 56, [.nils, .nils, .int .i64 0]⟩,
 ⟨.func, 1, 8, [.nilf]⟩,
 ⟨.func, 1, 8, [.nilf]⟩,
 ⟨.ptr 67, 1, 8, [.nilp]⟩,
 ⟨.ptr 65, 1, 8, [.nilp]⟩,
 ⟨.struct [(0, 63), (1, 25)], 2, 32, [.nilp, .nils]⟩,
 ⟨.struct [(0, 63), (1, 25)], 2, 32, [.nilp, .nils]⟩,
 ⟨.struct [(0, 65)], 2, 32, [.nilp, .nils]⟩,
 ⟨.struct [(0, 65)], 2, 32, [.nilp, .nils]⟩,
 ⟨.func, 1, 8, [.nilf]⟩,
 ⟨.func, 1, 8, [.nilf]⟩,
 ⟨.func, 1, 8, [.nilf]⟩,
 ⟨.ptr 51, 1, 8, [.nilp]⟩,
 ⟨.func, 1, 8, [.nilf]⟩,
 ⟨.func, 1, 8, [.nilf]⟩,
 ⟨.func, 1, 8, [.nilf]⟩,
 ⟨.func, 1, 8, [.nilf]⟩,
 ⟨.func, 1, 8, [.nilf]⟩,
 ⟨.other, 0, 0, []⟩,
 ⟨.func, 1, 8, [.nilf]⟩,
 ⟨.ptr 81, 1, 8, [.nilp]⟩,
 ⟨.struct [(0, 9), (1, 4)], 2, 24, [.str [], .bool false]⟩,
 ⟨.struct [(0, 9), (1, 4)], 2, 24, [.str [], .bool false]⟩,
 ⟨.func, 1, 8, [.nilf]⟩,
 ⟨.func, 1, 8, [.nilf]⟩,
 ⟨.other, 0, 0, []⟩,
 ⟨.func, 1, 8, [.nilf]⟩,
 ⟨.other, 0, 0, []⟩,
 ⟨.func, 1, 8, [.nilf]⟩,
 ⟨.func, 1, 8, [.nilf]⟩,
 ⟨.func, 1, 8, [.nilf]⟩,
 ⟨.ptr 92, 1, 8, [.nilp]⟩,
 ⟨.struct [(0, 22)], 1, 24, [.nils]⟩,
 ⟨.struct [(0, 22)], 1, 24, [.nils]⟩,
 ⟨.func, 1, 8, [.nilf]⟩,
 ⟨.ptr 96, 1, 8, [.nilp]⟩,
 ⟨.struct [(0, 3), (1, 3), (2, 2), (3, 9), (4, 9), (5, 49), (11, 35)], 12, 152, [.int .i64 0, .int .i64 0, .int .i64 0, .str [], .str [], .int .i64 0, .int .i64 0, .str [], .int .i64 0, .int .i64 0, .nils, .nils]⟩,
 ⟨.struct [(0, 3), (1, 3), (2, 2), (3, 9), (4, 9), (5, 49), (11, 35)], 12, 152, [.int .i64 0, .int .i64 0, .int .i64 0, .str [], .str [], .int .i64 0, .int .i64 0, .str [], .int .i64 0, .int .i64 0, .nils, .nils]⟩,
 ⟨.func, 1, 8, [.nilf]⟩,
 ⟨.func, 1, 8, [.nilf]⟩,
 ⟨.ptr 3, 1, 8, [.nilp]⟩,
 ⟨.func, 1, 8, [.nilf]⟩,
 ⟨.func, 1, 8, [.nilf]⟩,
 ⟨.func, 1, 8, [.nilf]⟩,
 ⟨.func, 1, 8, [.nilf]⟩,
 ⟨.func, 1, 8, [.nilf]⟩,
 ⟨.map 3 3, 1, 8, [.nilm]⟩,
 ⟨.map 3 4, 1, 8, [.nilm]⟩,
 ⟨.other, 0, 0, []⟩,
 ⟨.func, 1, 8, [.nilf]⟩,
 ⟨.other, 0, 0, []⟩,
 ⟨.other, 0, 0, []⟩,
 ⟨.other, 0, 0, []⟩,
 ⟨.func, 1, 8, [.nilf]⟩,
 ⟨.int .u64, 1, 8, [.int .u64 0]⟩,
 ⟨.int .u64, 1, 8, [.int .u64 0]⟩,
 ⟨.func, 1, 8, [.nilf]⟩,
 ⟨.ptr 5, 1, 8, [.nilp]⟩,
 ⟨.func, 1, 8, [.nilf]⟩,
 ⟨.func, 1, 8, [.nilf]⟩,
 ⟨.ptr 121, 1, 8, [.nilp]⟩,
 ⟨.struct [(0, 9), (1, 3), (2, 3), (3, 41)], 5, 48, [.str [], .int .i64 0, .int .i64 0, .int .i64 0, .int .i64 0]⟩,
 ⟨.struct [(0, 9), (1, 3), (2, 3), (3, 41)], 5, 48, [.str [], .int .i64 0, .int .i64 0, .int .i64 0, .int .i64 0]⟩,
 ⟨.func, 1, 8, [.nilf]⟩,
 ⟨.func, 1, 8, [.nilf]⟩,
 ⟨.func, 1, 8, [.nilf]⟩,
 ⟨.other, 0, 0, []⟩,
 ⟨.func, 1, 8, [.nilf]⟩,
 ⟨.func, 1, 8, [.nilf]⟩,
 ⟨.ptr 44, 1, 8, [.nilp]⟩,
 ⟨.func, 1, 8, [.nilf]⟩,
 ⟨.func, 1, 8, [.nilf]⟩,
 ⟨.func, 1, 8, [.nilf]⟩,
 ⟨.slice 9, 1, 24, [.nils]⟩,
 ⟨.func, 1, 8, [.nilf]⟩,
 ⟨.func, 1, 8, [.nilf]⟩,
 ⟨.func, 1, 8, [.nilf]⟩,
 ⟨.other, 0, 0, []⟩,
 ⟨.func, 1, 8, [.nilf]⟩,
 ⟨.func, 1, 8, [.nilf]⟩,
 ⟨.struct [(0, 3), (1, 3)], 2, 16, [.int .i64 0, .int .i64 0]⟩,
 ⟨.struct [(0, 3), (1, 3)], 2, 16, [.int .i64 0, .int .i64 0]⟩,
 ⟨.slice 140, 1, 24, [.nils]⟩,
 ⟨.func, 1, 8, [.nilf]⟩,
 ⟨.ptr 49, 1, 8, [.nilp]⟩,
 ⟨.func, 1, 8, [.nilf]⟩,
 ⟨.func, 1, 8, [.nilf]⟩,
 ⟨.func, 1, 8, [.nilf]⟩,
 ⟨.func, 1, 8, [.nilf]⟩,
 ⟨.func, 1, 8, [.nilf]⟩,
 ⟨.func, 1, 8, [.nilf]⟩,
 ⟨.func, 1, 8, [.nilf]⟩,
 ⟨.func, 1, 8, [.nilf]⟩,
 ⟨.ptr 154, 1, 8, [.nilp]⟩,
 ⟨.struct [(0, 3)], 1, 8, [.int .i64 0]⟩,
 ⟨.struct [(0, 3)], 1, 8, [.int .i64 0]⟩,
 ⟨.func, 1, 8, [.nilf]⟩,
 ⟨.func, 1, 8, [.nilf]⟩,
 ⟨.other, 0, 0, []⟩,
 ⟨.func, 1, 8, [.nilf]⟩,
 ⟨.struct [(0, 41)], 2, 16, [.int .i64 0, .int .i64 0]⟩,
 ⟨.struct [(0, 41)], 2, 16, [.int .i64 0, .int .i64 0]⟩,
 ⟨.ptr 163, 1, 8, [.nilp]⟩,
 ⟨.struct [(0, 9), (1, 3), (2, 3)], 3, 32, [.str [], .int .i64 0, .int .i64 0]⟩,
 ⟨.struct [(0, 9), (1, 3), (2, 3)], 3, 32, [.str [], .int .i64 0, .int .i64 0]⟩,
 ⟨.func, 1, 8, [.nilf]⟩,
 ⟨.other, 0, 0, []⟩,
 ⟨.func, 1, 8, [.nilf]⟩,
 ⟨.func, 1, 8, [.nilf]⟩,
 ⟨.other, 0, 0, []⟩,
 ⟨.func, 1, 8, [.nilf]⟩,
 ⟨.func, 1, 8, [.nilf]⟩,
 ⟨.func, 1, 8, [.nilf]⟩,
 ⟨.func, 1, 8, [.nilf]⟩,
 ⟨.func, 1, 8, [.nilf]⟩,
 ⟨.other, 0, 0, []⟩,
 ⟨.int .u32, 1, 4, [.int .u32 0]⟩,
 ⟨.other, 0, 0, []⟩,
 ⟨.func, 1, 8, [.nilf]⟩,
 ⟨.func, 1, 8, [.nilf]⟩,
 ⟨.other, 0, 0, []⟩,
 ⟨.func, 1, 8, [.nilf]⟩,
 ⟨.func, 1, 8, [.nilf]⟩,
 ⟨.func, 1, 8, [.nilf]⟩,
 ⟨.func, 1, 8, [.nilf]⟩,
 ⟨.other, 0, 0, []⟩,
 ⟨.other, 0, 0, []⟩,
 ⟨.int .i64, 1, 8, [.int .i64 0]⟩,
 ⟨.other, 0, 0, []⟩,
 ⟨.func, 1, 8, [.nilf]⟩,
 ⟨.ptr 195, 1, 8, [.nilp]⟩,
 ⟨.func, 1, 8, [.nilf]⟩,
 ⟨.func, 1, 8, [.nilf]⟩,
 ⟨.func, 1, 8, [.nilf]⟩,
 ⟨.func, 1, 8, [.nilf]⟩,
 ⟨.other, 0, 0, []⟩,
 ⟨.other, 0, 0, []⟩,
 ⟨.func, 1, 8, [.nilf]⟩,
 ⟨.ptr 199, 1, 8, [.nilp]⟩,
 ⟨.struct [(0, 9)], 1, 16, [.str []]⟩,
 ⟨.struct [(0, 9)], 1, 16, [.str []]⟩,
 ⟨.other, 0, 0, []⟩,
 ⟨.other, 0, 0, []⟩,
 ⟨.other, 0, 0, []⟩,
 ⟨.other, 0, 0, []⟩,
 ⟨.other, 0, 0, []⟩,
 ⟨.int .u8, 1, 1, [.int .u8 0]⟩,
 ⟨.int .u8, 1, 1, [.int .u8 0]⟩,
 ⟨.func, 1, 8, [.nilf]⟩,
 ⟨.int .i32, 1, 4, [.int .i32 0]⟩,
 ⟨.int .i32, 1, 4, [.int .i32 0]⟩,
 ⟨.other, 0, 0, []⟩,
 ⟨.other, 0, 0, []⟩]
def TT (t : Nat) : TI := (tab[t]?).getD ⟨.other, 0, 0, []⟩
def rowsOk (P : Program) : Nat → List TI → Prop
 | _, [] => True
 | k, i :: r => (i.kind ≠ .other → TI.ok P k i) ∧ rowsOk P (k + 1) r
theorem rowsOk_get {P : Program} : ∀ (l : List TI) (k t : Nat) (i : TI), rowsOk P k l → l[t]? = some i → i.kind ≠ .other → TI.ok P (k + t) i
 | [], k, t, i, _, h, _ => by simp at h
 | j :: r, k, 0, i, h, h2, h3 => by simp at h2; subst h2; exact h.1 h3
 | j :: r, k, t + 1, i, h, h2, h3 => by
  have := rowsOk_get r (k + 1) t i h.2 (by simpa using h2) h3
  rw [show k + (t + 1) = k + 1 + t by omega]; exact this
theorem row_1 : TI.ok Tryz.prog 1 (TT 1) := ⟨by kernel_rfl, by kernel_rfl, by kernel_rfl, by kernel_rfl, (by intro h; first | rfl | cases h), (by intro h; first | kernel_rfl | cases h)⟩
theorem row_2 : TI.ok Tryz.prog 2 (TT 2) := ⟨by kernel_rfl, by kernel_rfl, by kernel_rfl, by kernel_rfl, (by intro h; first | rfl | cases h), (by intro h; first | kernel_rfl | cases h)⟩
theorem row_3 : TI.ok Tryz.prog 3 (TT 3) := ⟨by kernel_rfl, by kernel_rfl, by kernel_rfl, by kernel_rfl, (by intro h; first | rfl | cases h), (by intro h; first | kernel_rfl | cases h)⟩
theorem row_4 : TI.ok Tryz.prog 4 (TT 4) := ⟨by kernel_rfl, by kernel_rfl, by kernel_rfl, by kernel_rfl, (by intro h; first | rfl | cases h), (by intro h; first | kernel_rfl | cases h)⟩
theorem row_5 : TI.ok Tryz.prog 5 (TT 5) := ⟨by kernel_rfl, by kernel_rfl, by kernel_rfl, by kernel_rfl, (by intro h; first | rfl | cases h), (by intro h; first | kernel_rfl | cases h)⟩
theorem row_6 : TI.ok Tryz.prog 6 (TT 6) := ⟨by kernel_rfl, by kernel_rfl, by kernel_rfl, by kernel_rfl, (by intro h; first | rfl | cases h), (by intro h; first | kernel_rfl | cases h)⟩
theorem row_7 : TI.ok Tryz.prog 7 (TT 7) := ⟨by kernel_rfl, by kernel_rfl, by kernel_rfl, by kernel_rfl, (by intro h; first | rfl | cases h), (by intro h; first | kernel_rfl | cases h)⟩
theorem row_8 : TI.ok Tryz.prog 8 (TT 8) := ⟨by kernel_rfl, by kernel_rfl, by kernel_rfl, by kernel_rfl, (by intro h; first | rfl | cases h), (by intro h; first | kernel_rfl | cases h)⟩
theorem row_9 : TI.ok Tryz.prog 9 (TT 9) := ⟨by kernel_rfl, by kernel_rfl, by kernel_rfl, by kernel_rfl, (by intro h; first | rfl | cases h), (by intro h; first | kernel_rfl | cases h)⟩
theorem row_10 : TI.ok Tryz.prog 10 (TT 10) := ⟨by kernel_rfl, by kernel_rfl, by kernel_rfl, by kernel_rfl, (by intro h; first | rfl | cases h), (by intro h; first | kernel_rfl | cases h)⟩
theorem row_11 : TI.ok Tryz.prog 11 (TT 11) := ⟨by kernel_rfl, by kernel_rfl, by kernel_rfl, by kernel_rfl, (by intro h; first | rfl | cases h), (by intro h; first | kernel_rfl | cases h)⟩
theorem row_12 : TI.ok Tryz.prog 12 (TT 12) := ⟨by kernel_rfl, by kernel_rfl, by kernel_rfl, by kernel_rfl, (by intro h; first | rfl | cases h), (by intro h; first | kernel_rfl | cases h)⟩
theorem row_15 : TI.ok Tryz.prog 15 (TT 15) := ⟨by kernel_rfl, by kernel_rfl, by kernel_rfl, by kernel_rfl, (by intro h; first | rfl | cases h), (by intro h; first | kernel_rfl | cases h)⟩
theorem row_16 : TI.ok Tryz.prog 16 (TT 16) := ⟨by kernel_rfl, by kernel_rfl, by kernel_rfl, by kernel_rfl, (by intro h; first | rfl | cases h), (by intro h; first | kernel_rfl | cases h)⟩
theorem row_17 : TI.ok Tryz.prog 17 (TT 17) := ⟨by kernel_rfl, by kernel_rfl, by kernel_rfl, by kernel_rfl, (by intro h; first | rfl | cases h), (by intro h; first | kernel_rfl | cases h)⟩
theorem row_20 : TI.ok Tryz.prog 20 (TT 20) := ⟨by kernel_rfl, by kernel_rfl, by kernel_rfl, by kernel_rfl, (by intro h; first | rfl | cases h), (by intro h; first | kernel_rfl | cases h)⟩
theorem row_21 : TI.ok Tryz.prog 21 (TT 21) := ⟨by kernel_rfl, by kernel_rfl, by kernel_rfl, by kernel_rfl, (by intro h; first | rfl | cases h), (by intro h; first | kernel_rfl | cases h)⟩
theorem row_22 : TI.ok Tryz.prog 22 (TT 22) := ⟨by kernel_rfl, by kernel_rfl, by kernel_rfl, by kernel_rfl, (by intro h; first | rfl | cases h), (by intro h; first | kernel_rfl | cases h)⟩
theorem row_23 : TI.ok Tryz.prog 23 (TT 23) := ⟨by kernel_rfl, by kernel_rfl, by kernel_rfl, by kernel_rfl, (by intro h; first | rfl | cases h), (by intro h; first | kernel_rfl | cases h)⟩
theorem row_24 : TI.ok Tryz.prog 24 (TT 24) := ⟨by kernel_rfl, by kernel_rfl, by kernel_rfl, by kernel_rfl, (by intro h; first | rfl | cases h), (by intro h; first | kernel_rfl | cases h)⟩
theorem row_25 : TI.ok Tryz.prog 25 (TT 25) := ⟨by kernel_rfl, by kernel_rfl, by kernel_rfl, by kernel_rfl, (by intro h; first | rfl | cases h), (by intro h; first | kernel_rfl | cases h)⟩
theorem row_26 : TI.ok Tryz.prog 26 (TT 26) := ⟨by kernel_rfl, by kernel_rfl, by kernel_rfl, by kernel_rfl, (by intro h; first | rfl | cases h), (by intro h; first | kernel_rfl | cases h)⟩
theorem row_27 : TI.ok Tryz.prog 27 (TT 27) := ⟨by kernel_rfl, by kernel_rfl, by kernel_rfl, by kernel_rfl, (by intro h; first | rfl | cases h), (by intro h; first | kernel_rfl | cases h)⟩
theorem row_29 : TI.ok Tryz.prog 29 (TT 29) := ⟨by kernel_rfl, by kernel_rfl, by kernel_rfl, by kernel_rfl, (by intro h; first | rfl | cases h), (by intro h; first | kernel_rfl | cases h)⟩
theorem row_30 : TI.ok Tryz.prog 30 (TT 30) := ⟨by kernel_rfl, by kernel_rfl, by kernel_rfl, by kernel_rfl, (by intro h; first | rfl | cases h), (by intro h; first | kernel_rfl | cases h)⟩
theorem row_32 : TI.ok Tryz.prog 32 (TT 32) := ⟨by kernel_rfl, by kernel_rfl, by kernel_rfl, by kernel_rfl, (by intro h; first | rfl | cases h), (by intro h; first | kernel_rfl | cases h)⟩
theorem row_33 : TI.ok Tryz.prog 33 (TT 33) := ⟨by kernel_rfl, by kernel_rfl, by kernel_rfl, by kernel_rfl, (by intro h; first | rfl | cases h), (by intro h; first | kernel_rfl | cases h)⟩
theorem row_34 : TI.ok Tryz.prog 34 (TT 34) := ⟨by kernel_rfl, by kernel_rfl, by kernel_rfl, by kernel_rfl, (by intro h; first | rfl | cases h), (by intro h; first | kernel_rfl | cases h)⟩
theorem row_35 : TI.ok Tryz.prog 35 (TT 35) := ⟨by kernel_rfl, by kernel_rfl, by kernel_rfl, by kernel_rfl, (by intro h; first | rfl | cases h), (by intro h; first | kernel_rfl | cases h)⟩
theorem row_36 : TI.ok Tryz.prog 36 (TT 36) := ⟨by kernel_rfl, by kernel_rfl, by kernel_rfl, by kernel_rfl, (by intro h; first | rfl | cases h), (by intro h; first | kernel_rfl | cases h)⟩
theorem row_37 : TI.ok Tryz.prog 37 (TT 37) := ⟨by kernel_rfl, by kernel_rfl, by kernel_rfl, by kernel_rfl, (by intro h; first | rfl | cases h), (by intro h; first | kernel_rfl | cases h)⟩
theorem row_38 : TI.ok Tryz.prog 38 (TT 38) := ⟨by kernel_rfl, by kernel_rfl, by kernel_rfl, by kernel_rfl, (by intro h; first | rfl | cases h), (by intro h; first | kernel_rfl | cases h)⟩
theorem row_39 : TI.ok Tryz.prog 39 (TT 39) := ⟨by kernel_rfl, by kernel_rfl, by kernel_rfl, by kernel_rfl, (by intro h; first | rfl | cases h), (by intro h; first | kernel_rfl | cases h)⟩
theorem row_40 : TI.ok Tryz.prog 40 (TT 40) := ⟨by kernel_rfl, by kernel_rfl, by kernel_rfl, by kernel_rfl, (by intro h; first | rfl | cases h), (by intro h; first | kernel_rfl | cases h)⟩
theorem row_41 : TI.ok Tryz.prog 41 (TT 41) := ⟨by kernel_rfl, by kernel_rfl, by kernel_rfl, by kernel_rfl, (by intro h; first | rfl | cases h), (by intro h; first | kernel_rfl | cases h)⟩
theorem row_42 : TI.ok Tryz.prog 42 (TT 42) := ⟨by kernel_rfl, by kernel_rfl, by kernel_rfl, by kernel_rfl, (by intro h; first | rfl | cases h), (by intro h; first | kernel_rfl | cases h)⟩
theorem row_43 : TI.ok Tryz.prog 43 (TT 43) := ⟨by kernel_rfl, by kernel_rfl, by kernel_rfl, by kernel_rfl, (by intro h; first | rfl | cases h), (by intro h; first | kernel_rfl | cases h)⟩
theorem row_44 : TI.ok Tryz.prog 44 (TT 44) := ⟨by kernel_rfl, by kernel_rfl, by kernel_rfl, by kernel_rfl, (by intro h; first | rfl | cases h), (by intro h; first | kernel_rfl | cases h)⟩
theorem row_45 : TI.ok Tryz.prog 45 (TT 45) := ⟨by kernel_rfl, by kernel_rfl, by kernel_rfl, by kernel_rfl, (by intro h; first | rfl | cases h), (by intro h; first | kernel_rfl | cases h)⟩
theorem row_46 : TI.ok Tryz.prog 46 (TT 46) := ⟨by kernel_rfl, by kernel_rfl, by kernel_rfl, by kernel_rfl, (by intro h; first | rfl | cases h), (by intro h; first | kernel_rfl | cases h)⟩
theorem row_47 : TI.ok Tryz.prog 47 (TT 47) := ⟨by kernel_rfl, by kernel_rfl, by kernel_rfl, by kernel_rfl, (by intro h; first | rfl | cases h), (by intro h; first | kernel_rfl | cases h)⟩
theorem row_48 : TI.ok Tryz.prog 48 (TT 48) := ⟨by kernel_rfl, by kernel_rfl, by kernel_rfl, by kernel_rfl, (by intro h; first | rfl | cases h), (by intro h; first | kernel_rfl | cases h)⟩
theorem row_49 : TI.ok Tryz.prog 49 (TT 49) := ⟨by kernel_rfl, by kernel_rfl, by kernel_rfl, by kernel_rfl, (by intro h; first | rfl | cases h), (by intro h; first | kernel_rfl | cases h)⟩
theorem row_50 : TI.ok Tryz.prog 50 (TT 50) := ⟨by kernel_rfl, by kernel_rfl, by kernel_rfl, by kernel_rfl, (by intro h; first | rfl | cases h), (by intro h; first | kernel_rfl | cases h)⟩
theorem row_51 : TI.ok Tryz.prog 51 (TT 51) := ⟨by kernel_rfl, by kernel_rfl, by kernel_rfl, by kernel_rfl, (by intro h; first | rfl | cases h), (by intro h; first | kernel_rfl | cases h)⟩
theorem row_52 : TI.ok Tryz.prog 52 (TT 52) := ⟨by kernel_rfl, by kernel_rfl, by kernel_rfl, by kernel_rfl, (by intro h; first | rfl | cases h), (by intro h; first | kernel_rfl | cases h)⟩
theorem row_53 : TI.ok Tryz.prog 53 (TT 53) := ⟨by kernel_rfl, by kernel_rfl, by kernel_rfl, by kernel_rfl, (by intro h; first | rfl | cases h), (by intro h; first | kernel_rfl | cases h)⟩
theorem row_54 : TI.ok Tryz.prog 54 (TT 54) := ⟨by kernel_rfl, by kernel_rfl, by kernel_rfl, by kernel_rfl, (by intro h; first | rfl | cases h), (by intro h; first | kernel_rfl | cases h)⟩
theorem row_55 : TI.ok Tryz.prog 55 (TT 55) := ⟨by kernel_rfl, by kernel_rfl, by kernel_rfl, by kernel_rfl, (by intro h; first | rfl | cases h), (by intro h; first | kernel_rfl | cases h)⟩
theorem row_56 : TI.ok Tryz.prog 56 (TT 56) := ⟨by kernel_rfl, by kernel_rfl, by kernel_rfl, by kernel_rfl, (by intro h; first | rfl | cases h), (by intro h; first | kernel_rfl | cases h)⟩
theorem row_57 : TI.ok Tryz.prog 57 (TT 57) := ⟨by kernel_rfl, by kernel_rfl, by kernel_rfl, by kernel_rfl, (by intro h; first | rfl | cases h), (by intro h; first | kernel_rfl | cases h)⟩
theorem row_58 : TI.ok Tryz.prog 58 (TT 58) := ⟨by kernel_rfl, by kernel_rfl, by kernel_rfl, by kernel_rfl, (by intro h; first | rfl | cases h), (by intro h; first | kernel_rfl | cases h)⟩
theorem row_59 : TI.ok Tryz.prog 59 (TT 59) := ⟨by kernel_rfl, by kernel_rfl, by kernel_rfl, by kernel_rfl, (by intro h; first | rfl | cases h), (by intro h; first | kernel_rfl | cases h)⟩
theorem row_60 : TI.ok Tryz.prog 60 (TT 60) := ⟨by kernel_rfl, by kernel_rfl, by kernel_rfl, by kernel_rfl, (by intro h; first | rfl | cases h), (by intro h; first | kernel_rfl | cases h)⟩
theorem row_61 : TI.ok Tryz.prog 61 (TT 61) := ⟨by kernel_rfl, by kernel_rfl, by kernel_rfl, by kernel_rfl, (by intro h; first | rfl | cases h), (by intro h; first | kernel_rfl | cases h)⟩
theorem row_62 : TI.ok Tryz.prog 62 (TT 62) := ⟨by kernel_rfl, by kernel_rfl, by kernel_rfl, by kernel_rfl, (by intro h; first | rfl | cases h), (by intro h; first | kernel_rfl | cases h)⟩
theorem row_63 : TI.ok Tryz.prog 63 (TT 63) := ⟨by kernel_rfl, by kernel_rfl, by kernel_rfl, by kernel_rfl, (by intro h; first | rfl | cases h), (by intro h; first | kernel_rfl | cases h)⟩
theorem row_64 : TI.ok Tryz.prog 64 (TT 64) := ⟨by kernel_rfl, by kernel_rfl, by kernel_rfl, by kernel_rfl, (by intro h; first | rfl | cases h), (by intro h; first | kernel_rfl | cases h)⟩
theorem row_65 : TI.ok Tryz.prog 65 (TT 65) := ⟨by kernel_rfl, by kernel_rfl, by kernel_rfl, by kernel_rfl, (by intro h; first | rfl | cases h), (by intro h; first | kernel_rfl | cases h)⟩
theorem row_66 : TI.ok Tryz.prog 66 (TT 66) := ⟨by kernel_rfl, by kernel_rfl, by kernel_rfl, by kernel_rfl, (by intro h; first | rfl | cases h), (by intro h; first | kernel_rfl | cases h)⟩
theorem row_67 : TI.ok Tryz.prog 67 (TT 67) := ⟨by kernel_rfl, by kernel_rfl, by kernel_rfl, by kernel_rfl, (by intro h; first | rfl | cases h), (by intro h; first | kernel_rfl | cases h)⟩
theorem row_68 : TI.ok Tryz.prog 68 (TT 68) := ⟨by kernel_rfl, by kernel_rfl, by kernel_rfl, by kernel_rfl, (by intro h; first | rfl | cases h), (by intro h; first | kernel_rfl | cases h)⟩
theorem row_69 : TI.ok Tryz.prog 69 (TT 69) := ⟨by kernel_rfl, by kernel_rfl, by kernel_rfl, by kernel_rfl, (by intro h; first | rfl | cases h), (by intro h; first | kernel_rfl | cases h)⟩
theorem row_70 : TI.ok Tryz.prog 70 (TT 70) := ⟨by kernel_rfl, by kernel_rfl, by kernel_rfl, by kernel_rfl, (by intro h; first | rfl | cases h), (by intro h; first | kernel_rfl | cases h)⟩
theorem row_71 : TI.ok Tryz.prog 71 (TT 71) := ⟨by kernel_rfl, by kernel_rfl, by kernel_rfl, by kernel_rfl, (by intro h; first | rfl | cases h), (by intro h; first | kernel_rfl | cases h)⟩
theorem row_72 : TI.ok Tryz.prog 72 (TT 72) := ⟨by kernel_rfl, by kernel_rfl, by kernel_rfl, by kernel_rfl, (by intro h; first | rfl | cases h), (by intro h; first | kernel_rfl | cases h)⟩
theorem row_73 : TI.ok Tryz.prog 73 (TT 73) := ⟨by kernel_rfl, by kernel_rfl, by kernel_rfl, by kernel_rfl, (by intro h; first | rfl | cases h), (by intro h; first | kernel_rfl | cases h)⟩
theorem row_74 : TI.ok Tryz.prog 74 (TT 74) := ⟨by kernel_rfl, by kernel_rfl, by kernel_rfl, by kernel_rfl, (by intro h; first | rfl | cases h), (by intro h; first | kernel_rfl | cases h)⟩
theorem row_75 : TI.ok Tryz.prog 75 (TT 75) := ⟨by kernel_rfl, by kernel_rfl, by kernel_rfl, by kernel_rfl, (by intro h; first | rfl | cases h), (by intro h; first | kernel_rfl | cases h)⟩
theorem row_76 : TI.ok Tryz.prog 76 (TT 76) := ⟨by kernel_rfl, by kernel_rfl, by kernel_rfl, by kernel_rfl, (by intro h; first | rfl | cases h), (by intro h; first | kernel_rfl | cases h)⟩
theorem row_78 : TI.ok Tryz.prog 78 (TT 78) := ⟨by kernel_rfl, by kernel_rfl, by kernel_rfl, by kernel_rfl, (by intro h; first | rfl | cases h), (by intro h; first | kernel_rfl | cases h)⟩
theorem row_79 : TI.ok Tryz.prog 79 (TT 79) := ⟨by kernel_rfl, by kernel_rfl, by kernel_rfl, by kernel_rfl, (by intro h; first | rfl | cases h), (by intro h; first | kernel_rfl | cases h)⟩
theorem row_80 : TI.ok Tryz.prog 80 (TT 80) := ⟨by kernel_rfl, by kernel_rfl, by kernel_rfl, by kernel_rfl, (by intro h; first | rfl | cases h), (by intro h; first | kernel_rfl | cases h)⟩
theorem row_81 : TI.ok Tryz.prog 81 (TT 81) := ⟨by kernel_rfl, by kernel_rfl, by kernel_rfl, by kernel_rfl, (by intro h; first | rfl | cases h), (by intro h; first | kernel_rfl | cases h)⟩
theorem row_82 : TI.ok Tryz.prog 82 (TT 82) := ⟨by kernel_rfl, by kernel_rfl, by kernel_rfl, by kernel_rfl, (by intro h; first | rfl | cases h), (by intro h; first | kernel_rfl | cases h)⟩
theorem row_83 : TI.ok Tryz.prog 83 (TT 83) := ⟨by kernel_rfl, by kernel_rfl, by kernel_rfl, by kernel_rfl, (by intro h; first | rfl | cases h), (by intro h; first | kernel_rfl | cases h)⟩
theorem row_85 : TI.ok Tryz.prog 85 (TT 85) := ⟨by kernel_rfl, by kernel_rfl, by kernel_rfl, by kernel_rfl, (by intro h; first | rfl | cases h), (by intro h; first | kernel_rfl | cases h)⟩
theorem row_87 : TI.ok Tryz.prog 87 (TT 87) := ⟨by kernel_rfl, by kernel_rfl, by kernel_rfl, by kernel_rfl, (by intro h; first | rfl | cases h), (by intro h; first | kernel_rfl | cases h)⟩
theorem row_88 : TI.ok Tryz.prog 88 (TT 88) := ⟨by kernel_rfl, by kernel_rfl, by kernel_rfl, by kernel_rfl, (by intro h; first | rfl | cases h), (by intro h; first | kernel_rfl | cases h)⟩
theorem row_89 : TI.ok Tryz.prog 89 (TT 89) := ⟨by kernel_rfl, by kernel_rfl, by kernel_rfl, by kernel_rfl, (by intro h; first | rfl | cases h), (by intro h; first | kernel_rfl | cases h)⟩
theorem row_90 : TI.ok Tryz.prog 90 (TT 90) := ⟨by kernel_rfl, by kernel_rfl, by kernel_rfl, by kernel_rfl, (by intro h; first | rfl | cases h), (by intro h; first | kernel_rfl | cases h)⟩
theorem row_91 : TI.ok Tryz.prog 91 (TT 91) := ⟨by kernel_rfl, by kernel_rfl, by kernel_rfl, by kernel_rfl, (by intro h; first | rfl | cases h), (by intro h; first | kernel_rfl | cases h)⟩
theorem row_92 : TI.ok Tryz.prog 92 (TT 92) := ⟨by kernel_rfl, by kernel_rfl, by kernel_rfl, by kernel_rfl, (by intro h; first | rfl | cases h), (by intro h; first | kernel_rfl | cases h)⟩
theorem row_93 : TI.ok Tryz.prog 93 (TT 93) := ⟨by kernel_rfl, by kernel_rfl, by kernel_rfl, by kernel_rfl, (by intro h; first | rfl | cases h), (by intro h; first | kernel_rfl | cases h)⟩
theorem row_94 : TI.ok Tryz.prog 94 (TT 94) := ⟨by kernel_rfl, by kernel_rfl, by kernel_rfl, by kernel_rfl, (by intro h; first | rfl | cases h), (by intro h; first | kernel_rfl | cases h)⟩
theorem row_95 : TI.ok Tryz.prog 95 (TT 95) := ⟨by kernel_rfl, by kernel_rfl, by kernel_rfl, by kernel_rfl, (by intro h; first | rfl | cases h), (by intro h; first | kernel_rfl | cases h)⟩
theorem row_96 : TI.ok Tryz.prog 96 (TT 96) := ⟨by kernel_rfl, by kernel_rfl, by kernel_rfl, by kernel_rfl, (by intro h; first | rfl | cases h), (by intro h; first | kernel_rfl | cases h)⟩
theorem row_97 : TI.ok Tryz.prog 97 (TT 97) := ⟨by kernel_rfl, by kernel_rfl, by kernel_rfl, by kernel_rfl, (by intro h; first | rfl | cases h), (by intro h; first | kernel_rfl | cases h)⟩
theorem row_98 : TI.ok Tryz.prog 98 (TT 98) := ⟨by kernel_rfl, by kernel_rfl, by kernel_rfl, by kernel_rfl, (by intro h; first | rfl | cases h), (by intro h; first | kernel_rfl | cases h)⟩
theorem row_99 : TI.ok Tryz.prog 99 (TT 99) := ⟨by kernel_rfl, by kernel_rfl, by kernel_rfl, by kernel_rfl, (by intro h; first | rfl | cases h), (by intro h; first | kernel_rfl | cases h)⟩
theorem row_100 : TI.ok Tryz.prog 100 (TT 100) := ⟨by kernel_rfl, by kernel_rfl, by kernel_rfl, by kernel_rfl, (by intro h; first | rfl | cases h), (by intro h; first | kernel_rfl | cases h)⟩
theorem row_101 : TI.ok Tryz.prog 101 (TT 101) := ⟨by kernel_rfl, by kernel_rfl, by kernel_rfl, by kernel_rfl, (by intro h; first | rfl | cases h), (by intro h; first | kernel_rfl | cases h)⟩
theorem row_102 : TI.ok Tryz.prog 102 (TT 102) := ⟨by kernel_rfl, by kernel_rfl, by kernel_rfl, by kernel_rfl, (by intro h; first | rfl | cases h), (by intro h; first | kernel_rfl | cases h)⟩
theorem row_103 : TI.ok Tryz.prog 103 (TT 103) := ⟨by kernel_rfl, by kernel_rfl, by kernel_rfl, by kernel_rfl, (by intro h; first | rfl | cases h), (by intro h; first | kernel_rfl | cases h)⟩
theorem row_104 : TI.ok Tryz.prog 104 (TT 104) := ⟨by kernel_rfl, by kernel_rfl, by kernel_rfl, by kernel_rfl, (by intro h; first | rfl | cases h), (by intro h; first | kernel_rfl | cases h)⟩
theorem row_105 : TI.ok Tryz.prog 105 (TT 105) := ⟨by kernel_rfl, by kernel_rfl, by kernel_rfl, by kernel_rfl, (by intro h; first | rfl | cases h), (by intro h; first | kernel_rfl | cases h)⟩
theorem row_106 : TI.ok Tryz.prog 106 (TT 106) := ⟨by kernel_rfl, by kernel_rfl, by kernel_rfl, by kernel_rfl, (by intro h; first | rfl | cases h), (by intro h; first | kernel_rfl | cases h)⟩
theorem row_108 : TI.ok Tryz.prog 108 (TT 108) := ⟨by kernel_rfl, by kernel_rfl, by kernel_rfl, by kernel_rfl, (by intro h; first | rfl | cases h), (by intro h; first | kernel_rfl | cases h)⟩
theorem row_112 : TI.ok Tryz.prog 112 (TT 112) := ⟨by kernel_rfl, by kernel_rfl, by kernel_rfl, by kernel_rfl, (by intro h; first | rfl | cases h), (by intro h; first | kernel_rfl | cases h)⟩
theorem row_113 : TI.ok Tryz.prog 113 (TT 113) := ⟨by kernel_rfl, by kernel_rfl, by kernel_rfl, by kernel_rfl, (by intro h; first | rfl | cases h), (by intro h; first | kernel_rfl | cases h)⟩
theorem row_114 : TI.ok Tryz.prog 114 (TT 114) := ⟨by kernel_rfl, by kernel_rfl, by kernel_rfl, by kernel_rfl, (by intro h; first | rfl | cases h), (by intro h; first | kernel_rfl | cases h)⟩
theorem row_115 : TI.ok Tryz.prog 115 (TT 115) := ⟨by kernel_rfl, by kernel_rfl, by kernel_rfl, by kernel_rfl, (by intro h; first | rfl | cases h), (by intro h; first | kernel_rfl | cases h)⟩
theorem row_116 : TI.ok Tryz.prog 116 (TT 116) := ⟨by kernel_rfl, by kernel_rfl, by kernel_rfl, by kernel_rfl, (by intro h; first | rfl | cases h), (by intro h; first | kernel_rfl | cases h)⟩
theorem row_117 : TI.ok Tryz.prog 117 (TT 117) := ⟨by kernel_rfl, by kernel_rfl, by kernel_rfl, by kernel_rfl, (by intro h; first | rfl | cases h), (by intro h; first | kernel_rfl | cases h)⟩
theorem row_118 : TI.ok Tryz.prog 118 (TT 118) := ⟨by kernel_rfl, by kernel_rfl, by kernel_rfl, by kernel_rfl, (by intro h; first | rfl | cases h), (by intro h; first | kernel_rfl | cases h)⟩
theorem row_119 : TI.ok Tryz.prog 119 (TT 119) := ⟨by kernel_rfl, by kernel_rfl, by kernel_rfl, by kernel_rfl, (by intro h; first | rfl | cases h), (by intro h; first | kernel_rfl | cases h)⟩
theorem row_120 : TI.ok Tryz.prog 120 (TT 120) := ⟨by kernel_rfl, by kernel_rfl, by kernel_rfl, by kernel_rfl, (by intro h; first | rfl | cases h), (by intro h; first | kernel_rfl | cases h)⟩
theorem row_121 : TI.ok Tryz.prog 121 (TT 121) := ⟨by kernel_rfl, by kernel_rfl, by kernel_rfl, by kernel_rfl, (by intro h; first | rfl | cases h), (by intro h; first | kernel_rfl | cases h)⟩
theorem row_122 : TI.ok Tryz.prog 122 (TT 122) := ⟨by kernel_rfl, by kernel_rfl, by kernel_rfl, by kernel_rfl, (by intro h; first | rfl | cases h), (by intro h; first | kernel_rfl | cases h)⟩
theorem row_123 : TI.ok Tryz.prog 123 (TT 123) := ⟨by kernel_rfl, by kernel_rfl, by kernel_rfl, by kernel_rfl, (by intro h; first | rfl | cases h), (by intro h; first | kernel_rfl | cases h)⟩
theorem row_124 : TI.ok Tryz.prog 124 (TT 124) := ⟨by kernel_rfl, by kernel_rfl, by kernel_rfl, by kernel_rfl, (by intro h; first | rfl | cases h), (by intro h; first | kernel_rfl | cases h)⟩
theorem row_126 : TI.ok Tryz.prog 126 (TT 126) := ⟨by kernel_rfl, by kernel_rfl, by kernel_rfl, by kernel_rfl, (by intro h; first | rfl | cases h), (by intro h; first | kernel_rfl | cases h)⟩
theorem row_127 : TI.ok Tryz.prog 127 (TT 127) := ⟨by kernel_rfl, by kernel_rfl, by kernel_rfl, by kernel_rfl, (by intro h; first | rfl | cases h), (by intro h; first | kernel_rfl | cases h)⟩
theorem row_128 : TI.ok Tryz.prog 128 (TT 128) := ⟨by kernel_rfl, by kernel_rfl, by kernel_rfl, by kernel_rfl, (by intro h; first | rfl | cases h), (by intro h; first | kernel_rfl | cases h)⟩
theorem row_129 : TI.ok Tryz.prog 129 (TT 129) := ⟨by kernel_rfl, by kernel_rfl, by kernel_rfl, by kernel_rfl, (by intro h; first | rfl | cases h), (by intro h; first | kernel_rfl | cases h)⟩
theorem row_130 : TI.ok Tryz.prog 130 (TT 130) := ⟨by kernel_rfl, by kernel_rfl, by kernel_rfl, by kernel_rfl, (by intro h; first | rfl | cases h), (by intro h; first | kernel_rfl | cases h)⟩
theorem row_131 : TI.ok Tryz.prog 131 (TT 131) := ⟨by kernel_rfl, by kernel_rfl, by kernel_rfl, by kernel_rfl, (by intro h; first | rfl | cases h), (by intro h; first | kernel_rfl | cases h)⟩
theorem row_132 : TI.ok Tryz.prog 132 (TT 132) := ⟨by kernel_rfl, by kernel_rfl, by kernel_rfl, by kernel_rfl, (by intro h; first | rfl | cases h), (by intro h; first | kernel_rfl | cases h)⟩
theorem row_133 : TI.ok Tryz.prog 133 (TT 133) := ⟨by kernel_rfl, by kernel_rfl, by kernel_rfl, by kernel_rfl, (by intro h; first | rfl | cases h), (by intro h; first | kernel_rfl | cases h)⟩
theorem row_134 : TI.ok Tryz.prog 134 (TT 134) := ⟨by kernel_rfl, by kernel_rfl, by kernel_rfl, by kernel_rfl, (by intro h; first | rfl | cases h), (by intro h; first | kernel_rfl | cases h)⟩
theorem row_135 : TI.ok Tryz.prog 135 (TT 135) := ⟨by kernel_rfl, by kernel_rfl, by kernel_rfl, by kernel_rfl, (by intro h; first | rfl | cases h), (by intro h; first | kernel_rfl | cases h)⟩
theorem row_137 : TI.ok Tryz.prog 137 (TT 137) := ⟨by kernel_rfl, by kernel_rfl, by kernel_rfl, by kernel_rfl, (by intro h; first | rfl | cases h), (by intro h; first | kernel_rfl | cases h)⟩
theorem row_138 : TI.ok Tryz.prog 138 (TT 138) := ⟨by kernel_rfl, by kernel_rfl, by kernel_rfl, by kernel_rfl, (by intro h; first | rfl | cases h), (by intro h; first | kernel_rfl | cases h)⟩
theorem row_139 : TI.ok Tryz.prog 139 (TT 139) := ⟨by kernel_rfl, by kernel_rfl, by kernel_rfl, by kernel_rfl, (by intro h; first | rfl | cases h), (by intro h; first | kernel_rfl | cases h)⟩
theorem row_140 : TI.ok Tryz.prog 140 (TT 140) := ⟨by kernel_rfl, by kernel_rfl, by kernel_rfl, by kernel_rfl, (by intro h; first | rfl | cases h), (by intro h; first | kernel_rfl | cases h)⟩
theorem row_141 : TI.ok Tryz.prog 141 (TT 141) := ⟨by kernel_rfl, by kernel_rfl, by kernel_rfl, by kernel_rfl, (by intro h; first | rfl | cases h), (by intro h; first | kernel_rfl | cases h)⟩
theorem row_142 : TI.ok Tryz.prog 142 (TT 142) := ⟨by kernel_rfl, by kernel_rfl, by kernel_rfl, by kernel_rfl, (by intro h; first | rfl | cases h), (by intro h; first | kernel_rfl | cases h)⟩
theorem row_143 : TI.ok Tryz.prog 143 (TT 143) := ⟨by kernel_rfl, by kernel_rfl, by kernel_rfl, by kernel_rfl, (by intro h; first | rfl | cases h), (by intro h; first | kernel_rfl | cases h)⟩
theorem row_144 : TI.ok Tryz.prog 144 (TT 144) := ⟨by kernel_rfl, by kernel_rfl, by kernel_rfl, by kernel_rfl, (by intro h; first | rfl | cases h), (by intro h; first | kernel_rfl | cases h)⟩
theorem row_145 : TI.ok Tryz.prog 145 (TT 145) := ⟨by kernel_rfl, by kernel_rfl, by kernel_rfl, by kernel_rfl, (by intro h; first | rfl | cases h), (by intro h; first | kernel_rfl | cases h)⟩
theorem row_146 : TI.ok Tryz.prog 146 (TT 146) := ⟨by kernel_rfl, by kernel_rfl, by kernel_rfl, by kernel_rfl, (by intro h; first | rfl | cases h), (by intro h; first | kernel_rfl | cases h)⟩
theorem row_147 : TI.ok Tryz.prog 147 (TT 147) := ⟨by kernel_rfl, by kernel_rfl, by kernel_rfl, by kernel_rfl, (by intro h; first | rfl | cases h), (by intro h; first | kernel_rfl | cases h)⟩
theorem row_148 : TI.ok Tryz.prog 148 (TT 148) := ⟨by kernel_rfl, by kernel_rfl, by kernel_rfl, by kernel_rfl, (by intro h; first | rfl | cases h), (by intro h; first | kernel_rfl | cases h)⟩
theorem row_149 : TI.ok Tryz.prog 149 (TT 149) := ⟨by kernel_rfl, by kernel_rfl, by kernel_rfl, by kernel_rfl, (by intro h; first | rfl | cases h), (by intro h; first | kernel_rfl | cases h)⟩
theorem row_150 : TI.ok Tryz.prog 150 (TT 150) := ⟨by kernel_rfl, by kernel_rfl, by kernel_rfl, by kernel_rfl, (by intro h; first | rfl | cases h), (by intro h; first | kernel_rfl | cases h)⟩
theorem row_151 : TI.ok Tryz.prog 151 (TT 151) := ⟨by kernel_rfl, by kernel_rfl, by kernel_rfl, by kernel_rfl, (by intro h; first | rfl | cases h), (by intro h; first | kernel_rfl | cases h)⟩
theorem row_152 : TI.ok Tryz.prog 152 (TT 152) := ⟨by kernel_rfl, by kernel_rfl, by kernel_rfl, by kernel_rfl, (by intro h; first | rfl | cases h), (by intro h; first | kernel_rfl | cases h)⟩
theorem row_153 : TI.ok Tryz.prog 153 (TT 153) := ⟨by kernel_rfl, by kernel_rfl, by kernel_rfl, by kernel_rfl, (by intro h; first | rfl | cases h), (by intro h; first | kernel_rfl | cases h)⟩
theorem row_154 : TI.ok Tryz.prog 154 (TT 154) := ⟨by kernel_rfl, by kernel_rfl, by kernel_rfl, by kernel_rfl, (by intro h; first | rfl | cases h), (by intro h; first | kernel_rfl | cases h)⟩
theorem row_155 : TI.ok Tryz.prog 155 (TT 155) := ⟨by kernel_rfl, by kernel_rfl, by kernel_rfl, by kernel_rfl, (by intro h; first | rfl | cases h), (by intro h; first | kernel_rfl | cases h)⟩
theorem row_156 : TI.ok Tryz.prog 156 (TT 156) := ⟨by kernel_rfl, by kernel_rfl, by kernel_rfl, by kernel_rfl, (by intro h; first | rfl | cases h), (by intro h; first | kernel_rfl | cases h)⟩
theorem row_158 : TI.ok Tryz.prog 158 (TT 158) := ⟨by kernel_rfl, by kernel_rfl, by kernel_rfl, by kernel_rfl, (by intro h; first | rfl | cases h), (by intro h; first | kernel_rfl | cases h)⟩
theorem row_159 : TI.ok Tryz.prog 159 (TT 159) := ⟨by kernel_rfl, by kernel_rfl, by kernel_rfl, by kernel_rfl, (by intro h; first | rfl | cases h), (by intro h; first | kernel_rfl | cases h)⟩
theorem row_160 : TI.ok Tryz.prog 160 (TT 160) := ⟨by kernel_rfl, by kernel_rfl, by kernel_rfl, by kernel_rfl, (by intro h; first | rfl | cases h), (by intro h; first | kernel_rfl | cases h)⟩
theorem row_161 : TI.ok Tryz.prog 161 (TT 161) := ⟨by kernel_rfl, by kernel_rfl, by kernel_rfl, by kernel_rfl, (by intro h; first | rfl | cases h), (by intro h; first | kernel_rfl | cases h)⟩
theorem row_162 : TI.ok Tryz.prog 162 (TT 162) := ⟨by kernel_rfl, by kernel_rfl, by kernel_rfl, by kernel_rfl, (by intro h; first | rfl | cases h), (by intro h; first | kernel_rfl | cases h)⟩
theorem row_163 : TI.ok Tryz.prog 163 (TT 163) := ⟨by kernel_rfl, by kernel_rfl, by kernel_rfl, by kernel_rfl, (by intro h; first | rfl | cases h), (by intro h; first | kernel_rfl | cases h)⟩
theorem row_164 : TI.ok Tryz.prog 164 (TT 164) := ⟨by kernel_rfl, by kernel_rfl, by kernel_rfl, by kernel_rfl, (by intro h; first | rfl | cases h), (by intro h; first | kernel_rfl | cases h)⟩
theorem row_166 : TI.ok Tryz.prog 166 (TT 166) := ⟨by kernel_rfl, by kernel_rfl, by kernel_rfl, by kernel_rfl, (by intro h; first | rfl | cases h), (by intro h; first | kernel_rfl | cases h)⟩
theorem row_167 : TI.ok Tryz.prog 167 (TT 167) := ⟨by kernel_rfl, by kernel_rfl, by kernel_rfl, by kernel_rfl, (by intro h; first | rfl | cases h), (by intro h; first | kernel_rfl | cases h)⟩
theorem row_169 : TI.ok Tryz.prog 169 (TT 169) := ⟨by kernel_rfl, by kernel_rfl, by kernel_rfl, by kernel_rfl, (by intro h; first | rfl | cases h), (by intro h; first | kernel_rfl | cases h)⟩
theorem row_170 : TI.ok Tryz.prog 170 (TT 170) := ⟨by kernel_rfl, by kernel_rfl, by kernel_rfl, by kernel_rfl, (by intro h; first | rfl | cases h), (by intro h; first | kernel_rfl | cases h)⟩
theorem row_171 : TI.ok Tryz.prog 171 (TT 171) := ⟨by kernel_rfl, by kernel_rfl, by kernel_rfl, by kernel_rfl, (by intro h; first | rfl | cases h), (by intro h; first | kernel_rfl | cases h)⟩
theorem row_172 : TI.ok Tryz.prog 172 (TT 172) := ⟨by kernel_rfl, by kernel_rfl, by kernel_rfl, by kernel_rfl, (by intro h; first | rfl | cases h), (by intro h; first | kernel_rfl | cases h)⟩
theorem row_173 : TI.ok Tryz.prog 173 (TT 173) := ⟨by kernel_rfl, by kernel_rfl, by kernel_rfl, by kernel_rfl, (by intro h; first | rfl | cases h), (by intro h; first | kernel_rfl | cases h)⟩
theorem row_175 : TI.ok Tryz.prog 175 (TT 175) := ⟨by kernel_rfl, by kernel_rfl, by kernel_rfl, by kernel_rfl, (by intro h; first | rfl | cases h), (by intro h; first | kernel_rfl | cases h)⟩
theorem row_177 : TI.ok Tryz.prog 177 (TT 177) := ⟨by kernel_rfl, by kernel_rfl, by kernel_rfl, by kernel_rfl, (by intro h; first | rfl | cases h), (by intro h; first | kernel_rfl | cases h)⟩
theorem row_178 : TI.ok Tryz.prog 178 (TT 178) := ⟨by kernel_rfl, by kernel_rfl, by kernel_rfl, by kernel_rfl, (by intro h; first | rfl | cases h), (by intro h; first | kernel_rfl | cases h)⟩
theorem row_180 : TI.ok Tryz.prog 180 (TT 180) := ⟨by kernel_rfl, by kernel_rfl, by kernel_rfl, by kernel_rfl, (by intro h; first | rfl | cases h), (by intro h; first | kernel_rfl | cases h)⟩
theorem row_181 : TI.ok Tryz.prog 181 (TT 181) := ⟨by kernel_rfl, by kernel_rfl, by kernel_rfl, by kernel_rfl, (by intro h; first | rfl | cases h), (by intro h; first | kernel_rfl | cases h)⟩
theorem row_182 : TI.ok Tryz.prog 182 (TT 182) := ⟨by kernel_rfl, by kernel_rfl, by kernel_rfl, by kernel_rfl, (by intro h; first | rfl | cases h), (by intro h; first | kernel_rfl | cases h)⟩
theorem row_183 : TI.ok Tryz.prog 183 (TT 183) := ⟨by kernel_rfl, by kernel_rfl, by kernel_rfl, by kernel_rfl, (by intro h; first | rfl | cases h), (by intro h; first | kernel_rfl | cases h)⟩
theorem row_186 : TI.ok Tryz.prog 186 (TT 186) := ⟨by kernel_rfl, by kernel_rfl, by kernel_rfl, by kernel_rfl, (by intro h; first | rfl | cases h), (by intro h; first | kernel_rfl | cases h)⟩
theorem row_188 : TI.ok Tryz.prog 188 (TT 188) := ⟨by kernel_rfl, by kernel_rfl, by kernel_rfl, by kernel_rfl, (by intro h; first | rfl | cases h), (by intro h; first | kernel_rfl | cases h)⟩
theorem row_189 : TI.ok Tryz.prog 189 (TT 189) := ⟨by kernel_rfl, by kernel_rfl, by kernel_rfl, by kernel_rfl, (by intro h; first | rfl | cases h), (by intro h; first | kernel_rfl | cases h)⟩
theorem row_190 : TI.ok Tryz.prog 190 (TT 190) := ⟨by kernel_rfl, by kernel_rfl, by kernel_rfl, by kernel_rfl, (by intro h; first | rfl | cases h), (by intro h; first | kernel_rfl | cases h)⟩
theorem row_191 : TI.ok Tryz.prog 191 (TT 191) := ⟨by kernel_rfl, by kernel_rfl, by kernel_rfl, by kernel_rfl, (by intro h; first | rfl | cases h), (by intro h; first | kernel_rfl | cases h)⟩
theorem row_192 : TI.ok Tryz.prog 192 (TT 192) := ⟨by kernel_rfl, by kernel_rfl, by kernel_rfl, by kernel_rfl, (by intro h; first | rfl | cases h), (by intro h; first | kernel_rfl | cases h)⟩
theorem row_193 : TI.ok Tryz.prog 193 (TT 193) := ⟨by kernel_rfl, by kernel_rfl, by kernel_rfl, by kernel_rfl, (by intro h; first | rfl | cases h), (by intro h; first | kernel_rfl | cases h)⟩
theorem row_196 : TI.ok Tryz.prog 196 (TT 196) := ⟨by kernel_rfl, by kernel_rfl, by kernel_rfl, by kernel_rfl, (by intro h; first | rfl | cases h), (by intro h; first | kernel_rfl | cases h)⟩
theorem row_197 : TI.ok Tryz.prog 197 (TT 197) := ⟨by kernel_rfl, by kernel_rfl, by kernel_rfl, by kernel_rfl, (by intro h; first | rfl | cases h), (by intro h; first | kernel_rfl | cases h)⟩
theorem row_198 : TI.ok Tryz.prog 198 (TT 198) := ⟨by kernel_rfl, by kernel_rfl, by kernel_rfl, by kernel_rfl, (by intro h; first | rfl | cases h), (by intro h; first | kernel_rfl | cases h)⟩
theorem row_199 : TI.ok Tryz.prog 199 (TT 199) := ⟨by kernel_rfl, by kernel_rfl, by kernel_rfl, by kernel_rfl, (by intro h; first | rfl | cases h), (by intro h; first | kernel_rfl | cases h)⟩
theorem row_205 : TI.ok Tryz.prog 205 (TT 205) := ⟨by kernel_rfl, by kernel_rfl, by kernel_rfl, by kernel_rfl, (by intro h; first | rfl | cases h), (by intro h; first | kernel_rfl | cases h)⟩
theorem row_206 : TI.ok Tryz.prog 206 (TT 206) := ⟨by kernel_rfl, by kernel_rfl, by kernel_rfl, by kernel_rfl, (by intro h; first | rfl | cases h), (by intro h; first | kernel_rfl | cases h)⟩
theorem row_207 : TI.ok Tryz.prog 207 (TT 207) := ⟨by kernel_rfl, by kernel_rfl, by kernel_rfl, by kernel_rfl, (by intro h; first | rfl | cases h), (by intro h; first | kernel_rfl | cases h)⟩
theorem row_208 : TI.ok Tryz.prog 208 (TT 208) := ⟨by kernel_rfl, by kernel_rfl, by kernel_rfl, by kernel_rfl, (by intro h; first | rfl | cases h), (by intro h; first | kernel_rfl | cases h)⟩
theorem row_209 : TI.ok Tryz.prog 209 (TT 209) := ⟨by kernel_rfl, by kernel_rfl, by kernel_rfl, by kernel_rfl, (by intro h; first | rfl | cases h), (by intro h; first | kernel_rfl | cases h)⟩
set_option maxRecDepth 100000 in
theorem rows_ok : rowsOk Tryz.prog 0 tab := by
 refine ⟨fun h => absurd rfl h, fun _ => row_1, fun _ => row_2, fun _ => row_3, fun _ => row_4, fun _ => row_5, fun _ => row_6, fun _ => row_7, fun _ => row_8, fun _ => row_9, fun _ => row_10, fun _ => row_11, fun _ => row_12, fun h => absurd rfl h, fun h => absurd rfl h, fun _ => row_15, fun _ => row_16, fun _ => row_17, fun h => absurd rfl h, fun h => absurd rfl h, fun _ => row_20, fun _ => row_21, fun _ => row_22, fun _ => row_23, fun _ => row_24, fun _ => row_25, fun _ => row_26, fun _ => row_27, fun h => absurd rfl h, fun _ => row_29, fun _ => row_30, fun h => absurd rfl h, fun _ => row_32, fun _ => row_33, fun _ => row_34, fun _ => row_35, fun _ => row_36, fun _ => row_37, fun _ => row_38, fun _ => row_39, fun _ => row_40, fun _ => row_41, fun _ => row_42, fun _ => row_43, fun _ => row_44, fun _ => row_45, fun _ => row_46, fun _ => row_47, fun _ => row_48, fun _ => row_49, fun _ => row_50, fun _ => row_51, fun _ => row_52, fun _ => row_53, fun _ => row_54, fun _ => row_55, fun _ => row_56, fun _ => row_57, fun _ => row_58, fun _ => row_59, fun _ => row_60, fun _ => row_61, fun _ => row_62, fun _ => row_63, fun _ => row_64, fun _ => row_65, fun _ => row_66, fun _ => row_67, fun _ => row_68, fun _ => row_69, fun _ => row_70, fun _ => row_71, fun _ => row_72, fun _ => row_73, fun _ => row_74, fun _ => row_75, fun _ => row_76, fun h => absurd rfl h, fun _ => row_78, fun _ => row_79, fun _ => row_80, fun _ => row_81, fun _ => row_82, fun _ => row_83, fun h => absurd rfl h, fun _ => row_85, fun h => absurd rfl h, fun _ => row_87, fun _ => row_88, fun _ => row_89, fun _ => row_90, fun _ => row_91, fun _ => row_92, fun _ => row_93, fun _ => row_94, fun _ => row_95, fun _ => row_96, fun _ => row_97, fun _ => row_98, fun _ => row_99, fun _ => row_100, fun _ => row_101, fun _ => row_102, fun _ => row_103, fun _ => row_104, fun _ => row_105, fun _ => row_106, fun h => absurd rfl h, fun _ => row_108, fun h => absurd rfl h, fun h => absurd rfl h, fun h => absurd rfl h, fun _ => row_112, fun _ => row_113, fun _ => row_114, fun _ => row_115, fun _ => row_116, fun _ => row_117, fun _ => row_118, fun _ => row_119, fun _ => row_120, fun _ => row_121, fun _ => row_122, fun _ => row_123, fun _ => row_124, fun h => absurd rfl h, fun _ => row_126, fun _ => row_127, fun _ => row_128, fun _ => row_129, fun _ => row_130, fun _ => row_131, fun _ => row_132, fun _ => row_133, fun _ => row_134, fun _ => row_135, fun h => absurd rfl h, fun _ => row_137, fun _ => row_138, fun _ => row_139, fun _ => row_140, fun _ => row_141, fun _ => row_142, fun _ => row_143, fun _ => row_144, fun _ => row_145, fun _ => row_146, fun _ => row_147, fun _ => row_148, fun _ => row_149, fun _ => row_150, fun _ => row_151, fun _ => row_152, fun _ => row_153, fun _ => row_154, fun _ => row_155, fun _ => row_156, fun h => absurd rfl h, fun _ => row_158, fun _ => row_159, fun _ => row_160, fun _ => row_161, fun _ => row_162, fun _ => row_163, fun _ => row_164, fun h => absurd rfl h, fun _ => row_166, fun _ => row_167, fun h => absurd rfl h, fun _ => row_169, fun _ => row_170, fun _ => row_171, fun _ => row_172, fun _ => row_173, fun h => absurd rfl h, fun _ => row_175, fun h => absurd rfl h, fun _ => row_177, fun _ => row_178, fun h => absurd rfl h, fun _ => row_180, fun _ => row_181, fun _ => row_182, fun _ => row_183, fun h => absurd rfl h, fun h => absurd rfl h, fun _ => row_186, fun h => absurd rfl h, fun _ => row_188, fun _ => row_189, fun _ => row_190, fun _ => row_191, fun _ => row_192, fun _ => row_193, fun h => absurd rfl h, fun h => absurd rfl h, fun _ => row_196, fun _ => row_197, fun _ => row_198, fun _ => row_199, fun h => absurd rfl h, fun h => absurd rfl h, fun h => absurd rfl h, fun h => absurd rfl h, fun h => absurd rfl h, fun _ => row_205, fun _ => row_206, fun _ => row_207, fun _ => row_208, fun _ => row_209, fun h => absurd rfl h, fun h => absurd rfl h, trivial⟩
set_option maxRecDepth 100000 in
theorem gwTT :
  (TT 1 = ⟨.func, 1, 8, [.nilf]⟩) ∧
  (TT 2 = ⟨.int .i64, 1, 8, [.int .i64 0]⟩) ∧
  (TT 3 = ⟨.int .i64, 1, 8, [.int .i64 0]⟩) ∧
  (TT 4 = ⟨.bool, 1, 1, [.bool false]⟩) ∧
  (TT 5 = ⟨.int .u8, 1, 1, [.int .u8 0]⟩) ∧
  (TT 6 = ⟨.int .u8, 1, 1, [.int .u8 0]⟩) ∧
  (TT 7 = ⟨.struct [(0, 2), (1, 3), (2, 4), (3, 6)], 4, 24, [.int .i64 0, .int .i64 0, .bool false, .int .u8 0]⟩) ∧
  (TT 8 = ⟨.struct [(0, 2), (1, 3), (2, 4), (3, 6)], 4, 24, [.int .i64 0, .int .i64 0, .bool false, .int .u8 0]⟩) ∧
  (TT 9 = ⟨.str, 1, 16, [.str []]⟩) ∧
  (TT 10 = ⟨.str, 1, 16, [.str []]⟩) ∧
  (TT 11 = ⟨.str, 1, 16, [.str []]⟩) ∧
  (TT 12 = ⟨.int .u64, 1, 8, [.int .u64 0]⟩) ∧
  (TT 15 = ⟨.ptr 201, 1, 8, [.nilp]⟩) ∧
  (TT 16 = ⟨.ptr 204, 1, 8, [.nilp]⟩) ∧
  (TT 17 = ⟨.ptr 211, 1, 8, [.nilp]⟩) ∧
  (TT 20 = ⟨.iface, 1, 16, [.nili]⟩) ∧
  (TT 21 = ⟨.int .i32, 1, 4, [.int .i32 0]⟩) ∧
  (TT 22 = ⟨.slice 46, 1, 24, [.nils]⟩) ∧
  (TT 23 = ⟨.struct [(0, 9), (1, 22)], 2, 40, [.str [], .nils]⟩) ∧
  (TT 24 = ⟨.struct [(0, 9), (1, 22)], 2, 40, [.str [], .nils]⟩) ∧
  (TT 25 = ⟨.slice 5, 1, 24, [.nils]⟩) ∧
  (TT 26 = ⟨.int .i64, 1, 8, [.int .i64 0]⟩) ∧
  (TT 27 = ⟨.func, 1, 8, [.nilf]⟩) ∧
  (TT 29 = ⟨.func, 1, 8, [.nilf]⟩) ∧
  (TT 30 = ⟨.func, 1, 8, [.nilf]⟩) ∧
  (TT 32 = ⟨.func, 1, 8, [.nilf]⟩) ∧
  (TT 33 = ⟨.func, 1, 8, [.nilf]⟩) ∧
  (TT 34 = ⟨.func, 1, 8, [.nilf]⟩) ∧
  (TT 35 = ⟨.slice 96, 1, 24, [.nils]⟩) ∧
  (TT 36 = ⟨.struct [(0, 9), (1, 35)], 2, 40, [.str [], .nils]⟩) ∧
  (TT 37 = ⟨.struct [(0, 9), (1, 35)], 2, 40, [.str [], .nils]⟩) ∧
  (TT 38 = ⟨.func, 1, 8, [.nilf]⟩) ∧
  (TT 39 = ⟨.func, 1, 8, [.nilf]⟩) ∧
  (TT 40 = ⟨.struct [(0, 26), (1, 3)], 2, 16, [.int .i64 0, .int .i64 0]⟩) ∧
  (TT 41 = ⟨.struct [(0, 26), (1, 3)], 2, 16, [.int .i64 0, .int .i64 0]⟩) ∧
  (TT 42 = ⟨.func, 1, 8, [.nilf]⟩) ∧
  (TT 43 = ⟨.slice 37, 1, 24, [.nils]⟩) ∧
  (TT 44 = ⟨.slice 51, 1, 24, [.nils]⟩) ∧
  (TT 45 = ⟨.struct [(0, 3), (1, 44)], 2, 32, [.int .i64 0, .nils]⟩) ∧
  (TT 46 = ⟨.struct [(0, 3), (1, 44)], 2, 32, [.int .i64 0, .nils]⟩) ∧
  (TT 47 = ⟨.slice 49, 1, 24, [.nils]⟩) ∧
  (TT 48 = ⟨.struct [(0, 3), (1, 2), (2, 9), (3, 3), (4, 3), (5, 47)], 6, 72, [.int .i64 0, .int .i64 0, .str [], .int .i64 0, .int .i64 0, .nils]⟩) ∧
  (TT 49 = ⟨.struct [(0, 3), (1, 2), (2, 9), (3, 3), (4, 3), (5, 47)], 6, 72, [.int .i64 0, .int .i64 0, .str [], .int .i64 0, .int .i64 0, .nils]⟩) ∧
  (TT 50 = ⟨.struct [(0, 3), (1, 3), (2, 2), (3, 9), (4, 9), (5, 49)], 11, 128, [.int .i64 0, .int .i64 0, .int .i64 0, .str [], .str [], .int .i64 0, .int .i64 0, .str [], .int .i64 0, .int .i64 0, .nils]⟩) ∧
  (TT 51 = ⟨.struct [(0, 3), (1, 3), (2, 2), (3, 9), (4, 9), (5, 49)], 11, 128, [.int .i64 0, .int .i64 0, .int .i64 0, .str [], .str [], .int .i64 0, .int .i64 0, .str [], .int .i64 0, .int .i64 0, .nils]⟩) ∧
  (TT 52 = ⟨.func, 1, 8, [.nilf]⟩) ∧
  (TT 53 = ⟨.func, 1, 8, [.nilf]⟩) ∧
  (TT 54 = ⟨.func, 1, 8, [.nilf]⟩) ∧
  (TT 55 = ⟨.func, 1, 8, [.nilf]⟩) ∧
  (TT 56 = ⟨.ptr 59, 1, 8, [.nilp]⟩) ∧
  (TT 57 = ⟨.slice 3, 1, 24, [.nils]⟩) ∧
  (TT 58 = ⟨.struct [(0, 22), (1, 57), (2, 3)], 3, 56, [.nils, .nils, .int .i64 0]⟩) ∧
  (TT 59 = ⟨.struct [(0, 22), (1, 57), (2, 3)], 3, 56, [.nils, .nils, .int .i64 0]⟩) ∧
  (TT 60 = ⟨.func, 1, 8, [.nilf]⟩) ∧
  (TT 61 = ⟨.func, 1, 8, [.nilf]⟩) ∧
  (TT 62 = ⟨.ptr 67, 1, 8, [.nilp]⟩) ∧
  (TT 63 = ⟨.ptr 65, 1, 8, [.nilp]⟩) ∧
  (TT 64 = ⟨.struct [(0, 63), (1, 25)], 2, 32, [.nilp, .nils]⟩) ∧
  (TT 65 = ⟨.struct [(0, 63), (1, 25)], 2, 32, [.nilp, .nils]⟩) ∧
  (TT 66 = ⟨.struct [(0, 65)], 2, 32, [.nilp, .nils]⟩) ∧
  (TT 67 = ⟨.struct [(0, 65)], 2, 32, [.nilp, .nils]⟩) ∧
  (TT 68 = ⟨.func, 1, 8, [.nilf]⟩) ∧
  (TT 69 = ⟨.func, 1, 8, [.nilf]⟩) ∧
  (TT 70 = ⟨.func, 1, 8, [.nilf]⟩) ∧
  (TT 71 = ⟨.ptr 51, 1, 8, [.nilp]⟩) ∧
  (TT 72 = ⟨.func, 1, 8, [.nilf]⟩) ∧
  (TT 73 = ⟨.func, 1, 8, [.nilf]⟩) ∧
  (TT 74 = ⟨.func, 1, 8, [.nilf]⟩) ∧
  (TT 75 = ⟨.func, 1, 8, [.nilf]⟩) ∧
  (TT 76 = ⟨.func, 1, 8, [.nilf]⟩) ∧
  (TT 78 = ⟨.func, 1, 8, [.nilf]⟩) ∧
  (TT 79 = ⟨.ptr 81, 1, 8, [.nilp]⟩) ∧
  (TT 80 = ⟨.struct [(0, 9), (1, 4)], 2, 24, [.str [], .bool false]⟩) ∧
  (TT 81 = ⟨.struct [(0, 9), (1, 4)], 2, 24, [.str [], .bool false]⟩) ∧
  (TT 82 = ⟨.func, 1, 8, [.nilf]⟩) ∧
  (TT 83 = ⟨.func, 1, 8, [.nilf]⟩) ∧
  (TT 85 = ⟨.func, 1, 8, [.nilf]⟩) ∧
  (TT 87 = ⟨.func, 1, 8, [.nilf]⟩) ∧
  (TT 88 = ⟨.func, 1, 8, [.nilf]⟩) ∧
  (TT 89 = ⟨.func, 1, 8, [.nilf]⟩) ∧
  (TT 90 = ⟨.ptr 92, 1, 8, [.nilp]⟩) ∧
  (TT 91 = ⟨.struct [(0, 22)], 1, 24, [.nils]⟩) ∧
  (TT 92 = ⟨.struct [(0, 22)], 1, 24, [.nils]⟩) ∧
  (TT 93 = ⟨.func, 1, 8, [.nilf]⟩) ∧
  (TT 94 = ⟨.ptr 96, 1, 8, [.nilp]⟩) ∧
  (TT 95 = ⟨.struct [(0, 3), (1, 3), (2, 2), (3, 9), (4, 9), (5, 49), (11, 35)], 12, 152, [.int .i64 0, .int .i64 0, .int .i64 0, .str [], .str [], .int .i64 0, .int .i64 0, .str [], .int .i64 0, .int .i64 0, .nils, .nils]⟩) ∧
  (TT 96 = ⟨.struct [(0, 3), (1, 3), (2, 2), (3, 9), (4, 9), (5, 49), (11, 35)], 12, 152, [.int .i64 0, .int .i64 0, .int .i64 0, .str [], .str [], .int .i64 0, .int .i64 0, .str [], .int .i64 0, .int .i64 0, .nils, .nils]⟩) ∧
  (TT 97 = ⟨.func, 1, 8, [.nilf]⟩) ∧
  (TT 98 = ⟨.func, 1, 8, [.nilf]⟩) ∧
  (TT 99 = ⟨.ptr 3, 1, 8, [.nilp]⟩) ∧
  (TT 100 = ⟨.func, 1, 8, [.nilf]⟩) ∧
  (TT 101 = ⟨.func, 1, 8, [.nilf]⟩) ∧
  (TT 102 = ⟨.func, 1, 8, [.nilf]⟩) ∧
  (TT 103 = ⟨.func, 1, 8, [.nilf]⟩) ∧
  (TT 104 = ⟨.func, 1, 8, [.nilf]⟩) ∧
  (TT 105 = ⟨.map 3 3, 1, 8, [.nilm]⟩) ∧
  (TT 106 = ⟨.map 3 4, 1, 8, [.nilm]⟩) ∧
  (TT 108 = ⟨.func, 1, 8, [.nilf]⟩) ∧
  (TT 112 = ⟨.func, 1, 8, [.nilf]⟩) ∧
  (TT 113 = ⟨.int .u64, 1, 8, [.int .u64 0]⟩) ∧
  (TT 114 = ⟨.int .u64, 1, 8, [.int .u64 0]⟩) ∧
  (TT 115 = ⟨.func, 1, 8, [.nilf]⟩) ∧
  (TT 116 = ⟨.ptr 5, 1, 8, [.nilp]⟩) ∧
  (TT 117 = ⟨.func, 1, 8, [.nilf]⟩) ∧
  (TT 118 = ⟨.func, 1, 8, [.nilf]⟩) ∧
  (TT 119 = ⟨.ptr 121, 1, 8, [.nilp]⟩) ∧
  (TT 120 = ⟨.struct [(0, 9), (1, 3), (2, 3), (3, 41)], 5, 48, [.str [], .int .i64 0, .int .i64 0, .int .i64 0, .int .i64 0]⟩) ∧
  (TT 121 = ⟨.struct [(0, 9), (1, 3), (2, 3), (3, 41)], 5, 48, [.str [], .int .i64 0, .int .i64 0, .int .i64 0, .int .i64 0]⟩) ∧
  (TT 122 = ⟨.func, 1, 8, [.nilf]⟩) ∧
  (TT 123 = ⟨.func, 1, 8, [.nilf]⟩) ∧
  (TT 124 = ⟨.func, 1, 8, [.nilf]⟩) ∧
  (TT 126 = ⟨.func, 1, 8, [.nilf]⟩) ∧
  (TT 127 = ⟨.func, 1, 8, [.nilf]⟩) ∧
  (TT 128 = ⟨.ptr 44, 1, 8, [.nilp]⟩) ∧
  (TT 129 = ⟨.func, 1, 8, [.nilf]⟩) ∧
  (TT 130 = ⟨.func, 1, 8, [.nilf]⟩) ∧
  (TT 131 = ⟨.func, 1, 8, [.nilf]⟩) ∧
  (TT 132 = ⟨.slice 9, 1, 24, [.nils]⟩) ∧
  (TT 133 = ⟨.func, 1, 8, [.nilf]⟩) ∧
  (TT 134 = ⟨.func, 1, 8, [.nilf]⟩) ∧
  (TT 135 = ⟨.func, 1, 8, [.nilf]⟩) ∧
  (TT 137 = ⟨.func, 1, 8, [.nilf]⟩) ∧
  (TT 138 = ⟨.func, 1, 8, [.nilf]⟩) ∧
  (TT 139 = ⟨.struct [(0, 3), (1, 3)], 2, 16, [.int .i64 0, .int .i64 0]⟩) ∧
  (TT 140 = ⟨.struct [(0, 3), (1, 3)], 2, 16, [.int .i64 0, .int .i64 0]⟩) ∧
  (TT 141 = ⟨.slice 140, 1, 24, [.nils]⟩) ∧
  (TT 142 = ⟨.func, 1, 8, [.nilf]⟩) ∧
  (TT 143 = ⟨.ptr 49, 1, 8, [.nilp]⟩) ∧
  (TT 144 = ⟨.func, 1, 8, [.nilf]⟩) ∧
  (TT 145 = ⟨.func, 1, 8, [.nilf]⟩) ∧
  (TT 146 = ⟨.func, 1, 8, [.nilf]⟩) ∧
  (TT 147 = ⟨.func, 1, 8, [.nilf]⟩) ∧
  (TT 148 = ⟨.func, 1, 8, [.nilf]⟩) ∧
  (TT 149 = ⟨.func, 1, 8, [.nilf]⟩) ∧
  (TT 150 = ⟨.func, 1, 8, [.nilf]⟩) ∧
  (TT 151 = ⟨.func, 1, 8, [.nilf]⟩) ∧
  (TT 152 = ⟨.ptr 154, 1, 8, [.nilp]⟩) ∧
  (TT 153 = ⟨.struct [(0, 3)], 1, 8, [.int .i64 0]⟩) ∧
  (TT 154 = ⟨.struct [(0, 3)], 1, 8, [.int .i64 0]⟩) ∧
  (TT 155 = ⟨.func, 1, 8, [.nilf]⟩) ∧
  (TT 156 = ⟨.func, 1, 8, [.nilf]⟩) ∧
  (TT 158 = ⟨.func, 1, 8, [.nilf]⟩) ∧
  (TT 159 = ⟨.struct [(0, 41)], 2, 16, [.int .i64 0, .int .i64 0]⟩) ∧
  (TT 160 = ⟨.struct [(0, 41)], 2, 16, [.int .i64 0, .int .i64 0]⟩) ∧
  (TT 161 = ⟨.ptr 163, 1, 8, [.nilp]⟩) ∧
  (TT 162 = ⟨.struct [(0, 9), (1, 3), (2, 3)], 3, 32, [.str [], .int .i64 0, .int .i64 0]⟩) ∧
  (TT 163 = ⟨.struct [(0, 9), (1, 3), (2, 3)], 3, 32, [.str [], .int .i64 0, .int .i64 0]⟩) ∧
  (TT 164 = ⟨.func, 1, 8, [.nilf]⟩) ∧
  (TT 166 = ⟨.func, 1, 8, [.nilf]⟩) ∧
  (TT 167 = ⟨.func, 1, 8, [.nilf]⟩) ∧
  (TT 169 = ⟨.func, 1, 8, [.nilf]⟩) ∧
  (TT 170 = ⟨.func, 1, 8, [.nilf]⟩) ∧
  (TT 171 = ⟨.func, 1, 8, [.nilf]⟩) ∧
  (TT 172 = ⟨.func, 1, 8, [.nilf]⟩) ∧
  (TT 173 = ⟨.func, 1, 8, [.nilf]⟩) ∧
  (TT 175 = ⟨.int .u32, 1, 4, [.int .u32 0]⟩) ∧
  (TT 177 = ⟨.func, 1, 8, [.nilf]⟩) ∧
  (TT 178 = ⟨.func, 1, 8, [.nilf]⟩) ∧
  (TT 180 = ⟨.func, 1, 8, [.nilf]⟩) ∧
  (TT 181 = ⟨.func, 1, 8, [.nilf]⟩) ∧
  (TT 182 = ⟨.func, 1, 8, [.nilf]⟩) ∧
  (TT 183 = ⟨.func, 1, 8, [.nilf]⟩) ∧
  (TT 186 = ⟨.int .i64, 1, 8, [.int .i64 0]⟩) ∧
  (TT 188 = ⟨.func, 1, 8, [.nilf]⟩) ∧
  (TT 189 = ⟨.ptr 195, 1, 8, [.nilp]⟩) ∧
  (TT 190 = ⟨.func, 1, 8, [.nilf]⟩) ∧
  (TT 191 = ⟨.func, 1, 8, [.nilf]⟩) ∧
  (TT 192 = ⟨.func, 1, 8, [.nilf]⟩) ∧
  (TT 193 = ⟨.func, 1, 8, [.nilf]⟩) ∧
  (TT 196 = ⟨.func, 1, 8, [.nilf]⟩) ∧
  (TT 197 = ⟨.ptr 199, 1, 8, [.nilp]⟩) ∧
  (TT 198 = ⟨.struct [(0, 9)], 1, 16, [.str []]⟩) ∧
  (TT 199 = ⟨.struct [(0, 9)], 1, 16, [.str []]⟩) ∧
  (TT 205 = ⟨.int .u8, 1, 1, [.int .u8 0]⟩) ∧
  (TT 206 = ⟨.int .u8, 1, 1, [.int .u8 0]⟩) ∧
  (TT 207 = ⟨.func, 1, 8, [.nilf]⟩) ∧
  (TT 208 = ⟨.int .i32, 1, 4, [.int .i32 0]⟩) ∧
  (TT 209 = ⟨.int .i32, 1, 4, [.int .i32 0]⟩) := by
 refine ⟨rfl, rfl, rfl, rfl, rfl, rfl, rfl, rfl, rfl, rfl, rfl, rfl, rfl, rfl, rfl, rfl, rfl, rfl, rfl, rfl, rfl, rfl, rfl, rfl, rfl, rfl, rfl, rfl, rfl, rfl, rfl, rfl, rfl, rfl, rfl, rfl, rfl, rfl, rfl, rfl, rfl, rfl, rfl, rfl, rfl, rfl, rfl, rfl, rfl, rfl, rfl, rfl, rfl, rfl, rfl, rfl, rfl, rfl, rfl, rfl, rfl, rfl, rfl, rfl, rfl, rfl, rfl, rfl, rfl, rfl, rfl, rfl, rfl, rfl, rfl, rfl, rfl, rfl, rfl, rfl, rfl, rfl, rfl, rfl, rfl, rfl, rfl, rfl, rfl, rfl, rfl, rfl, rfl, rfl, rfl, rfl, rfl, rfl, rfl, rfl, rfl, rfl, rfl, rfl, rfl, rfl, rfl, rfl, rfl, rfl, rfl, rfl, rfl, rfl, rfl, rfl, rfl, rfl, rfl, rfl, rfl, rfl, rfl, rfl, rfl, rfl, rfl, rfl, rfl, rfl, rfl, rfl, rfl, rfl, rfl, rfl, rfl, rfl, rfl, rfl, rfl, rfl, rfl, rfl, rfl, rfl, rfl, rfl, rfl, rfl, rfl, rfl, rfl, rfl, rfl, rfl, rfl, rfl, rfl, rfl, rfl, rfl, rfl, rfl, rfl, rfl, rfl, rfl, rfl, rfl, rfl, rfl, rfl, rfl, rfl, rfl, rfl, rfl⟩
theorem TT_ok : Tab Tryz.prog TT := by
 intro t h
 unfold TT at h ⊢
 cases ht : tab[t]? with
 | none => rw [ht] at h; exact absurd rfl h
 | some i =>
  rw [ht] at h
  have := rowsOk_get tab 0 t i rows_ok ht h
  simpa using this
theorem TT_mixed : Tryz.prog.follows .mixedOrders = true := by kernel_rfl
end Go.Proofs.YtcdnooalfkbmgaaGreatDoor.Gw
namespace Go.Proofs.YtcdnooalfkbmgaaGreatDoor.Gw
open Go
theorem gw0 : type_of% gwL ∧ type_of% gwB ∧ type_of% gwD ∧ type_of% gwE ∧ type_of% gwS ∧ type_of% gwTT ∧ type_of% gwZ ∧ type_of% gwN ∧ type_of% gwC := ⟨gwL, gwB, gwD, gwE, gwS, gwTT, gwZ, gwN, gwC⟩
end Go.Proofs.YtcdnooalfkbmgaaGreatDoor.Gw
namespace Go.Proofs.YtcdnooalfkbmgaaGreatDoor.Gx
open Go Go.Proofs.YtcdnooalfkbmgaaGreatDoor.Gw
open Nat (reduceEqDiff reduceAdd reduceLT reduceLeDiff reduceMul)
set_option linter.unusedSimpArgs false
set_option linter.unusedVariables false
abbrev Str := List UInt8
def encS (l : List Str) : V := .lst 1 none (l.map fun s => [.str s])
-- strings.IndexByte: the model's own entry stands where the library has no body
set_option maxHeartbeats 1000000 in
set_option maxRecDepth 100000 in
theorem r_IndexByte (s : ByteArray) (c : Int) (w : World) :
  Calls Tryz.prog 115 #[.string s, .int .u8 c] w fun e w' => e = .returned (.int .i64 (Lib.indexByte s.data.toList c.toNat.toUInt8)) ∧ w' = w := by
 go_enter Tryz.func115, Tryz.ntmps115
 go_wp2
 rw [run_callFunc_extern Tryz.func121 (by kernel_rfl) (by kernel_rfl) (by kernel_rfl) (e := Extern.BytealgIndexByte.indexByte) (by kernel_rfl), Lib.run_indexByteString]
 simp only [Result.andThen]
 rw [Oper.upon_value]
 go_wp2
 go_ret
 exact ⟨rfl, rfl⟩
theorem c_IndexByte0 (st : St) (s : Str) (c : Int) : VCalls Tryz.prog TT 115 [.str s, .int .u8 c] st fun r st' => r = .ret (.int .i64 (Lib.indexByte s c.toNat.toUInt8)) ∧ st' = st := by
 refine VCalls.ofReal ⟨_, Tryz.func115, by kernel_rfl, by kernel_rfl⟩ fun g w vals h => ?_
 simp only [SimVs, SimV] at h
 obtain ⟨_, _, rfl, ⟨rfl, _⟩, _, _, rfl, rfl, rfl⟩ := h
 exact ⟨_, by simp only [SimV], r_IndexByte ⟨s.toArray⟩ c w⟩
theorem c_IndexByte (st : St) (s : Str) (c : Int) : VCalls Tryz.prog TT 107 [.str s, .int .u8 c] st fun r st' => r = .ret (.int .i64 (Lib.indexByte s c.toNat.toUInt8)) ∧ st' = st := by
 refine vfun TT_ok (an := anL []) (L := [0, 1, 4]) (rs := [.tmp 4]) Tryz.func107 rfl (by kernel_rfl) rfl Tryz.ntmps107 rfl rfl (Nat.le_refl _) fun hst ha hf => ?_
 simp only [gw0, reduceEqDiff, ↓reduceIte, reduceAdd, reduceLT, reduceLeDiff, reduceMul]
 refine (c_IndexByte0 st s c).use (wkL_refl _) fun _ => ?_
 simp only [gw0, reduceEqDiff, ↓reduceIte, reduceAdd, reduceLT, reduceLeDiff, reduceMul]
 exact gives_int rfl hst
-- slices.Index, slices.Contains
def idxOf (s : Str) : Nat → List Str → Int
 | _, [] => -1
 | i, a :: r => bif decide (s = a) then (i : Int) else idxOf s (i + 1) r
theorem c_Index (st : St) (l : List Str) (s : Str) : VCalls Tryz.prog TT 91 [encS l, .str s] st fun r st' => r = .ret (.int .i64 (idxOf s 0 l)) ∧ st' = st := by
 refine vfun TT_ok (an := anL []) (L := [0, 1, 4, 5, 7, 8]) (rs := [.tmp 4]) Tryz.func91 rfl (by kernel_rfl) rfl Tryz.ntmps91 rfl rfl (Nat.le_refl _) fun hst ha hf => ?_
 simp only [encS, fitL, V.fit, List.length_map] at hf
 simp only [encS]
 simp only [gw0, reduceEqDiff, ↓reduceIte, reduceAdd, reduceLT, reduceLeDiff, reduceMul, List.length_map]
 refine vfor (σ := Nat) [0, 1, 4, 7, 8] (fun i => [(0, true, encS l), (1, true, .str s), (4, true, .int .i64 0), (7, true, .int .i64 l.length), (8, true, .int .i64 i)]) (fun i => st) (fun i => l.length - i) (fun i => i ≤ l.length ∧ idxOf s 0 l = idxOf s i (l.drop i)) 0 rfl TT_ok ⟨Nat.zero_le _, rfl⟩ rfl rfl ?_
 rintro i ⟨hi, hx⟩
 rw [hx]
 rcases at_or_end l i hi with ⟨rfl, hd⟩ | ⟨a, hlt, hget, hdr⟩
 ·simp only [gw0, reduceEqDiff, ↓reduceIte, reduceAdd, reduceLT, reduceLeDiff, reduceMul, lt_no, hd, idxOf]
  exact gives_int rfl hst
 ·simp only [encS]
  simp only [gw0, reduceEqDiff, ↓reduceIte, reduceAdd, reduceLT, reduceLeDiff, reduceMul, lt_yes hlt, hdr, idxOf, List.length_map, getD_map hget, Int.ofNat_lt.mpr hlt]
  refine iK_split (fun h => ?_) (fun h => ?_)
  ·simp only [gw0, reduceEqDiff, ↓reduceIte, reduceAdd, reduceLT, reduceLeDiff, reduceMul, h]
   exact gives_int rfl hst
  ·simp only [gw0, reduceEqDiff, ↓reduceIte, reduceAdd, reduceLT, reduceLeDiff, reduceMul, h, Env.keep]
   exact ⟨i + 1, by rw [next_i64 hlt hf.1.1], by omega, hlt, rfl⟩
theorem idxOf_ge (s : Str) : ∀ (l : List Str) (i : Nat), decide (0 ≤ idxOf s i l) = decide (s ∈ l)
 | [], i => by simp [idxOf]
 | a :: r, i => by
  have := idxOf_ge s r (i + 1)
  by_cases h : s = a
  ·subst h; simp [idxOf]
  ·simp only [idxOf, h, decide_false, cond_false, this, List.mem_cons, false_or]
theorem c_Contains (st : St) (l : List Str) (s : Str) : VCalls Tryz.prog TT 73 [encS l, .str s] st fun r st' => r = .ret (.bool (decide (s ∈ l))) ∧ st' = st := by
 refine vfun TT_ok (an := anL []) (L := [0, 1, 4]) (rs := [.tmp 4]) Tryz.func73 rfl (by kernel_rfl) rfl Tryz.ntmps73 rfl rfl (Nat.le_refl _) fun hst ha hf => ?_
 simp only [encS]
 simp only [gw0, reduceEqDiff, ↓reduceIte, reduceAdd, reduceLT, reduceLeDiff, reduceMul]
 refine (c_Index st l s).use (by simp only [encS]; exact wkL_refl _) fun _ => ?_
 simp only [gw0, reduceEqDiff, ↓reduceIte, reduceAdd, reduceLT, reduceLeDiff, reduceMul, idxOf_ge]
 exact gives_bool rfl hst
theorem c_in (st : St) (l : List Str) (s : Str) : VCalls Tryz.prog TT 69 [encS l, .str s] st fun r st' => r = .ret (.bool (decide (s ∈ l))) ∧ st' = st := by
 refine vfun TT_ok (an := anL []) (L := [0, 1, 4, 6, 7, 8, 9]) (rs := [.tmp 4]) Tryz.func69 rfl (by kernel_rfl) rfl Tryz.ntmps69 rfl rfl (Nat.le_refl _) fun hst ha hf => ?_
 simp only [encS, fitL, V.fit, List.length_map] at hf
 simp only [encS]
 simp only [gw0, reduceEqDiff, ↓reduceIte, reduceAdd, reduceLT, reduceLeDiff, reduceMul, List.length_map]
 refine vfor (σ := Nat) [0, 1, 4, 8, 7, 9] (fun i => [(0, true, encS l), (1, true, .str s), (4, true, .bool false), (8, true, .int .i64 l.length), (7, true, encS l), (9, true, .int .i64 i)]) (fun i => st) (fun i => l.length - i) (fun i => i ≤ l.length ∧ decide (s ∈ l) = decide (s ∈ l.drop i)) 0 rfl TT_ok ⟨Nat.zero_le _, rfl⟩ rfl rfl ?_
 rintro i ⟨hi, hx⟩
 rw [hx]
 rcases at_or_end l i hi with ⟨rfl, hd⟩ | ⟨a, hlt, hget, hdr⟩
 ·simp only [gw0, reduceEqDiff, ↓reduceIte, reduceAdd, reduceLT, reduceLeDiff, reduceMul, lt_no, hd]
  exact gives_bool (by simp) hst
 ·simp only [encS]
  simp only [gw0, reduceEqDiff, ↓reduceIte, reduceAdd, reduceLT, reduceLeDiff, reduceMul, lt_yes hlt, hdr, List.length_map, getD_map hget, Int.ofNat_lt.mpr hlt]
  refine iK_split (fun h => ?_) (fun h => ?_)
  ·have h' := of_decide_eq_true h
   simp only [gw0, reduceEqDiff, ↓reduceIte, reduceAdd, reduceLT, reduceLeDiff, reduceMul]
   exact gives_bool (by simp [h']) hst
  ·have h' := of_decide_eq_false h
   simp only [gw0, reduceEqDiff, ↓reduceIte, reduceAdd, reduceLT, reduceLeDiff, reduceMul, Env.keep]
   exact ⟨i + 1, by rw [next_i64 hlt hf.1.1], by omega, hlt, by simp [Ne.symm h']⟩
-- strings.HasPrefix, TrimPrefix
def hasPre (s p : Str) : Bool := decide (p.length ≤ s.length) && decide (s.take p.length = p)
theorem c_HasPrefix (st : St) (s p : Str) : VCalls Tryz.prog TT 122 [.str s, .str p] st fun r st' => r = .ret (.bool (hasPre s p)) ∧ st' = st := by
 refine vfun TT_ok (an := anL []) (L := [0, 1, 4]) (rs := [.tmp 4]) Tryz.func122 rfl (by kernel_rfl) rfl Tryz.ntmps122 rfl rfl (Nat.le_refl _) fun hst ha hf => ?_
 simp only [gw0, reduceEqDiff, ↓reduceIte, reduceAdd, reduceLT, reduceLeDiff, reduceMul, Int.ofNat_le, Int.toNat_natCast]
 refine ⟨fun h => of_decide_eq_true h, gives_bool ?_ hst⟩
 rfl
def trimPre (s p : Str) : Str := bif hasPre s p then s.drop p.length else s
theorem c_TrimPrefix0 (st : St) (s p : Str) : VCalls Tryz.prog TT 116 [.str s, .str p] st fun r st' => r = .ret (.str (trimPre s p)) ∧ st' = st := by
 refine vfun TT_ok (an := anL []) (L := [0, 1, 4]) (rs := [.tmp 4]) Tryz.func116 rfl (by kernel_rfl) rfl Tryz.ntmps116 rfl rfl (Nat.le_refl _) fun hst ha hf => ?_
 simp only [gw0, reduceEqDiff, ↓reduceIte, reduceAdd, reduceLT, reduceLeDiff, reduceMul, List.length_nil]
 refine (c_HasPrefix st s p).use (wkL_refl _) fun _ => ?_
 simp only [gw0, reduceEqDiff, ↓reduceIte, reduceAdd, reduceLT, reduceLeDiff, reduceMul]
 refine iK_split (fun h => ?_) (fun h => ?_)
 ·have h2 : p.length ≤ s.length := by simp only [hasPre, Bool.and_eq_true, decide_eq_true_eq] at h; exact h.1
  simp only [gw0, reduceEqDiff, ↓reduceIte, reduceAdd, reduceLT, reduceLeDiff, reduceMul, Int.ofNat_le, Int.toNat_natCast]
  exact ⟨h2, gives_str (by simp [trimPre, h]) hst⟩
 ·simp only [gw0, reduceEqDiff, ↓reduceIte, reduceAdd, reduceLT, reduceLeDiff, reduceMul]
  exact gives_str (by simp [trimPre, h]) hst
theorem c_TrimPrefix (st : St) (s p : Str) : VCalls Tryz.prog TT 108 [.str s, .str p] st fun r st' => r = .ret (.str (trimPre s p)) ∧ st' = st := by
 refine vfun TT_ok (an := anL []) (L := [0, 1, 4]) (rs := [.tmp 4]) Tryz.func108 rfl (by kernel_rfl) rfl Tryz.ntmps108 rfl rfl (Nat.le_refl _) fun hst ha hf => ?_
 simp only [gw0, reduceEqDiff, ↓reduceIte, reduceAdd, reduceLT, reduceLeDiff, reduceMul, List.length_nil]
 refine (c_TrimPrefix0 st s p).use (wkL_refl _) fun _ => ?_
 simp only [gw0, reduceEqDiff, ↓reduceIte, reduceAdd, reduceLT, reduceLeDiff, reduceMul]
 exact gives_str rfl hst
-- letters and names
def letters : Str := [97, 98, 99, 100, 101, 102, 103, 104, 105, 106, 107, 108, 109, 110, 111, 112, 113, 114, 115, 116, 117, 118, 119, 120, 121, 122, 48, 49, 50, 51, 52, 53, 54, 55, 56, 57, 33, 63, 42, 43, 45, 47, 60, 61, 62, 95, 46]
def letterB (b : UInt8) : Bool := letters.contains b
theorem all_bytes {p : UInt8 → Bool} (h : (List.range 256).all (fun n => p (UInt8.ofNat n)) = true) (b : UInt8) : p b = true := by
 have := List.all_eq_true.1 h b.toNat (by simpa using b.toNat_lt)
 simpa using this
theorem c_letter (st : St) (b : UInt8) : VCalls Tryz.prog TT 97 [.int .u8 b.toNat] st fun r st' => r = .ret (.bool (letterB b)) ∧ st' = st := by
 refine vfun TT_ok (an := anL []) (L := [0, 2]) (rs := [.tmp 2]) Tryz.func97 rfl (by kernel_rfl) rfl Tryz.ntmps97 rfl rfl (Nat.le_refl _) fun hst ha hf => ?_
 simp only [gw0, reduceEqDiff, ↓reduceIte, reduceAdd, reduceLT, reduceLeDiff, reduceMul]
 refine ⟨by cases decide (97 ≤ (b.toNat : Int)) <;> cases decide ((b.toNat : Int) ≤ 122) <;> simp, ?_⟩
 refine rK_guarded (.int .i64 (Lib.indexByte [33, 63, 42, 43, 45, 47, 60, 61, 62, 95, 46] b)) (fun _ => ?_) ?_
 ·have := c_IndexByte st [33, 63, 42, 43, 45, 47, 60, 61, 62, 95, 46] b.toNat
  simpa using this
 simp only [gw0, reduceEqDiff, ↓reduceIte, reduceAdd, reduceLT, reduceLeDiff, reduceMul]
 refine gives_bool ?_ hst
 refine of_decide_eq_true (all_bytes (p := fun b => decide ((((decide (97 ≤ (b.toNat : Int)) && decide ((b.toNat : Int) ≤ 122)) || (decide (48 ≤ (b.toNat : Int)) && decide ((b.toNat : Int) ≤ 57))) || decide (0 ≤ Lib.indexByte [33, 63, 42, 43, 45, 47, 60, 61, 62, 95, 46] b)) = letterB b)) (by kernel_rfl) b)
theorem c_Letter (st : St) (b : UInt8) : VCalls Tryz.prog TT 67 [.int .u8 b.toNat] st fun r st' => r = .ret (.bool (letterB b)) ∧ st' = st := by
 refine vfun TT_ok (an := anL [(5, 1)]) (L := [0, 2, 4, 6, 7, 8]) (rs := [.tmp 2]) Tryz.func67 rfl (by kernel_rfl) rfl Tryz.ntmps67 rfl rfl (Nat.le_refl _) fun hst ha hf => ?_
 simp only [decide_true, decide_false, gwL, gwB, gwD, gwE, gwS, gwTT, gwZ, initG, Nat.reduceEqDiff, ↓reduceIte, Nat.reduceAdd, Nat.reduceLT, Nat.reduceLeDiff, List.map_cons, List.map_nil, builtS, builtinV, pureR, binV, aggEq, eqFs, eqCell, Option.bind_some, Option.map_some, and_self, List.headD_cons, sliceV, pickV, evO, Env.look, find, V.ofConst, resV, resOne, tupV, loadV, fillV, buildV, mkIface, litS, litRows, List.reverse_cons, List.reverse_nil, Nat.reduceMul, appS, memA, appendV, rowsOf, V.cells, TI.sized, TI.known, TI.agg, anL, List.length_cons, List.length_nil, List.append_nil, List.cons_append, List.nil_append, List.drop_succ_cons, List.drop_zero, List.drop_nil, List.take_succ_cons, List.take_zero, List.take_nil, List.getElem?_cons_zero, List.getElem?_cons_succ, List.all_cons, List.all_nil, List.replicate_succ, List.replicate_zero, List.set_cons_zero, List.set_cons_succ, eq_self, true_or, ne_eq, not_false_eq_true, Nat.reduceEqDiff]
 refine rK_lit (byteRows letters) (by kernel_rfl) ?_
 simp only [decide_true, decide_false, gwL, gwB, gwD, gwE, gwS, gwTT, gwZ, initG, Nat.reduceEqDiff, ↓reduceIte, Nat.reduceAdd, Nat.reduceLT, Nat.reduceLeDiff, List.map_cons, List.map_nil, builtS, builtinV, pureR, binV, aggEq, eqFs, eqCell, Option.bind_some, Option.map_some, and_self, List.headD_cons, sliceV, pickV, evO, Env.look, find, V.ofConst, resV, resOne, tupV, loadV, fillV, buildV, mkIface, litM, litS, litRows, List.reverse_cons, List.reverse_nil, Nat.reduceMul, appS, memA, appendV, rowsOf, V.cells, TI.sized, TI.known, TI.agg, anL, List.length_cons, List.length_nil, List.append_nil, List.cons_append, List.nil_append, List.drop_succ_cons, List.drop_zero, List.drop_nil, List.take_succ_cons, List.take_zero, List.take_nil, List.getElem?_cons_zero, List.getElem?_cons_succ, List.all_cons, List.all_nil, List.replicate_succ, List.replicate_zero, List.set_cons_zero, List.set_cons_succ, eq_self, true_or, ne_eq, not_false_eq_true, Nat.reduceEqDiff, convV, Nat.lt_irrefl]
 refine ⟨rfl, ?_⟩
 have hll : (byteRows letters).length = letters.length := by simp [byteRows]
 refine vfor (σ := Nat) [0, 2, 6, 7, 8] (fun i => [(0, true, .int .u8 b.toNat), (2, true, .bool false), (6, true, .lst 1 none (byteRows letters)), (7, true, .int .i64 (byteRows letters).length), (8, true, .int .i64 i)]) (fun i => st ++ [.gone]) (fun i => letters.length - i) (fun i => i ≤ letters.length ∧ letterB b = (letters.drop i).contains b) 0 rfl TT_ok ⟨Nat.zero_le _, rfl⟩ rfl rfl ?_
 rintro i ⟨hi, hx⟩
 rw [hx]
 rcases at_or_end letters i hi with ⟨rfl, hd⟩ | ⟨a, hlt, hget, hdr⟩
 ·rw [hll]
  simp only [gw0, reduceEqDiff, ↓reduceIte, reduceAdd, reduceLT, reduceLeDiff, reduceMul, lt_no, hd]
  exact gives_bool' (by simp) hst
 ·rw [hll]
  have hg : (byteRows letters).getD i [] = [V.int .u8 a.toNat] := getD_map hget
  simp only [gw0, reduceEqDiff, ↓reduceIte, reduceAdd, reduceLT, reduceLeDiff, reduceMul, lt_yes hlt, hdr, hll, hg, Int.ofNat_lt.mpr hlt]
  refine iK_split (fun h => ?_) (fun h => ?_)
  ·have h' : a = b := UInt8.toNat_inj.mp (by simpa [Int.natCast_inj] using h)
   simp only [gw0, reduceEqDiff, ↓reduceIte, reduceAdd, reduceLT, reduceLeDiff, reduceMul]
   exact gives_bool' (by simp [h']) hst
  ·have h' : ¬ a = b := fun e => by simp [e] at h
   simp only [gw0, reduceEqDiff, ↓reduceIte, reduceAdd, reduceLT, reduceLeDiff, reduceMul, Env.keep]
   have h'' : ¬ b = a := fun e => h' e.symm
   exact ⟨i + 1, by rw [next_i64 hlt (by decide)], by omega, hlt, by simp [List.contains_cons, h'']⟩
def digits : Str → Bool := fun s => s.all fun b => decide (48 ≤ b.toNat) && decide (b.toNat ≤ 57)
/-- Does a text look like a number? -/
def looksB (s : Str) : Bool := (match s with | 45 :: r => digits r && !r.isEmpty | r => digits r && !r.isEmpty)
theorem trimPre_minus (s : Str) : (digits (trimPre s [45]) && !(trimPre s [45]).isEmpty) = looksB s := by
 unfold trimPre hasPre looksB
 cases s with
 | nil => rfl
 | cons a r =>
  by_cases h : a = 45
  ·subst h; simp
  ·simp only [List.take_succ_cons, List.take_zero, List.length_cons, List.length_nil]
   simp [h]
theorem c_number (st : St) (s : Str) : VCalls Tryz.prog TT 98 [.str s] st fun r st' => r = .ret (.bool (looksB s)) ∧ st' = st := by
 refine vfun TT_ok (an := anL []) (L := [0, 2, 3, 7, 8]) (rs := [.tmp 2]) Tryz.func98 rfl (by kernel_rfl) rfl Tryz.ntmps98 rfl rfl (Nat.le_refl _) fun hst ha hf => ?_
 simp only [gw0, reduceEqDiff, ↓reduceIte, reduceAdd, reduceLT, reduceLeDiff, reduceMul]
 refine (c_TrimPrefix st s [45]).use (wkL_refl _) fun hfx => ?_
 rw [← trimPre_minus s]
 simp only [V.fit] at hfx
 generalize trimPre s [45] = t at hfx ⊢
 simp only [gw0, reduceEqDiff, ↓reduceIte, reduceAdd, reduceLT, reduceLeDiff, reduceMul]
 refine vfor (σ := Nat) [0, 2, 7, 8] (fun i => [(0, true, .str t), (2, true, .bool false), (7, true, .int .i64 t.length), (8, true, .int .i64 i)]) (fun i => st) (fun i => t.length - i) (fun i => i ≤ t.length ∧ digits t = digits (t.drop i)) 0 rfl TT_ok ⟨Nat.zero_le _, rfl⟩ rfl rfl ?_
 rintro i ⟨hi, hx⟩
 rw [hx]
 rcases at_or_end t i hi with ⟨rfl, hd⟩ | ⟨a, hlt, hget, hdr⟩
 ·simp only [gw0, reduceEqDiff, ↓reduceIte, reduceAdd, reduceLT, reduceLeDiff, reduceMul, lt_no, hd]
  exact gives_bool (by cases t <;> simp [digits]) hst
 ·simp only [gw0, reduceEqDiff, ↓reduceIte, reduceAdd, reduceLT, reduceLeDiff, reduceMul, lt_yes hlt, hdr, getD_at hget, Int.ofNat_lt.mpr hlt]
  refine iK_split (fun h => ?_) (fun h => ?_)
  ·simp only [gw0, reduceEqDiff, ↓reduceIte, reduceAdd, reduceLT, reduceLeDiff, reduceMul]
   refine gives_bool ?_ hst
   have : ¬ (48 ≤ a.toNat ∧ a.toNat ≤ 57) := by
    intro ⟨h1, h2⟩
    have e1 : decide ((a.toNat : Int) < 48) = false := by simp; omega
    have e2 : decide (57 < (a.toNat : Int)) = false := by simp; omega
    rw [e1, e2] at h; cases h
   simp only [digits, List.all_cons]
   rcases Nat.lt_or_ge a.toNat 48 with h1 | h1
   ·simp [show ¬ 48 ≤ a.toNat by omega]
   ·simp [show ¬ a.toNat ≤ 57 by omega]
  ·have : 48 ≤ a.toNat ∧ a.toNat ≤ 57 := by
    constructor
    ·refine Nat.le_of_not_lt fun h1 => ?_
     have e1 : decide ((a.toNat : Int) < 48) = true := by simp; omega
     rw [e1] at h; cases h
    ·refine Nat.le_of_not_lt fun h1 => ?_
     have e2 : decide (57 < (a.toNat : Int)) = true := by simp; omega
     rw [e2] at h; revert h; cases decide ((a.toNat : Int) < 48) <;> simp
   simp only [gw0, reduceEqDiff, ↓reduceIte, reduceAdd, reduceLT, reduceLeDiff, reduceMul, Env.keep]
   exact ⟨i + 1, by rw [next_i64 hlt hfx], by omega, hlt, by simp [digits, this]⟩
theorem digit_yes {a : UInt8} (h : (decide ((a.toNat : Int) < 48) || decide (57 < (a.toNat : Int))) = true) : ∀ r, digits (a :: r) = false := by
 intro r
 simp only [digits, List.all_cons]
 rcases Nat.lt_or_ge a.toNat 48 with h1 | h1
 ·simp [show ¬ 48 ≤ a.toNat by omega]
 ·have e1 : decide ((a.toNat : Int) < 48) = false := by simp; omega
  rw [e1] at h
  have h2 : 57 < a.toNat := by simp only [Bool.false_or, decide_eq_true_eq] at h; omega
  simp [show ¬ a.toNat ≤ 57 by omega]
theorem digit_no {a : UInt8} (h : (decide ((a.toNat : Int) < 48) || decide (57 < (a.toNat : Int))) = false) : ∀ r, digits (a :: r) = digits r := by
 intro r
 have : 48 ≤ a.toNat ∧ a.toNat ≤ 57 := by
  constructor
  ·refine Nat.le_of_not_lt fun h1 => ?_
   have e1 : decide ((a.toNat : Int) < 48) = true := by simp; omega
   rw [e1] at h; cases h
  ·refine Nat.le_of_not_lt fun h1 => ?_
   have e2 : decide (57 < (a.toNat : Int)) = true := by simp; omega
   rw [e2] at h; revert h; cases decide ((a.toNat : Int) < 48) <;> simp
 simp [digits, this]
theorem c_Looks (st : St) (s : Str) : VCalls Tryz.prog TT 68 [.str s] st fun r st' => r = .ret (.bool (looksB s)) ∧ st' = st := by
 refine vfun TT_ok (an := anL []) (L := [0, 2, 4, 16, 17, 18]) (rs := [.tmp 2]) Tryz.func68 rfl (by kernel_rfl) rfl Tryz.ntmps68 rfl rfl (Nat.le_refl _) fun hst ha hf => ?_
 simp only [fitL, V.fit] at hf
 simp only [gw0, reduceEqDiff, ↓reduceIte, reduceAdd, reduceLT, reduceLeDiff, reduceMul]
 refine ⟨fun h => ⟨Int.le_refl _, of_decide_eq_true h⟩, iK_split (fun h => ?_) (fun h => ?_)⟩
 ·have hs : ∃ r, s = 45 :: r := by
   cases s with
   | nil => simp at h
   | cons a r =>
    have : a = 45 := UInt8.toNat_inj.mp (by simp at h; show a.toNat = 45; omega)
    exact ⟨r, by rw [this]⟩
  obtain ⟨r, rfl⟩ := hs
  have e : looksB (45 :: r) = (digits r && !r.isEmpty) := rfl
  have hl : r.length ≤ 9223372036854775807 := by have := hf.1; simp at this; omega
  rw [e]
  simp only [gw0, reduceEqDiff, ↓reduceIte, reduceAdd, reduceLT, reduceLeDiff, reduceMul, convV, List.drop_succ_cons, List.drop_zero, Int.toNat_one]
  clear e hf ha h
  generalize r = t at hl ⊢
  refine ⟨⟨by omega, by omega⟩, ?_⟩
  have hll : (byteRows t).length = t.length := by simp [byteRows]
  refine vfor (σ := Nat) [0, 2, 16, 17, 18] (fun i => [(0, true, .str t), (2, true, .bool false), (16, true, .lst 1 none (byteRows t)), (17, true, .int .i64 (byteRows t).length), (18, true, .int .i64 i)]) (fun i => st) (fun i => t.length - i) (fun i => i ≤ t.length ∧ digits t = digits (t.drop i)) 0 rfl TT_ok ⟨Nat.zero_le _, rfl⟩ rfl rfl ?_
  rintro i ⟨hi, hx⟩
  rw [hx]
  rcases at_or_end t i hi with ⟨rfl, hd⟩ | ⟨a, hlt, hget, hdr⟩
  ·rw [hll]
   simp only [gw0, reduceEqDiff, ↓reduceIte, reduceAdd, reduceLT, reduceLeDiff, reduceMul, lt_no, hd]
   exact gives_bool (by cases t <;> simp [digits]) hst
  ·rw [hll]
   have hg : (byteRows t).getD i [] = [V.int .u8 a.toNat] := getD_map hget
   simp only [gw0, reduceEqDiff, ↓reduceIte, reduceAdd, reduceLT, reduceLeDiff, reduceMul, lt_yes hlt, hdr, hll, hg, Int.ofNat_lt.mpr hlt]
   refine iK_split (fun h => ?_) (fun h => ?_)
   ·simp only [gw0, reduceEqDiff, ↓reduceIte, reduceAdd, reduceLT, reduceLeDiff, reduceMul]
    exact gives_bool (by rw [digit_yes h]; rfl) hst
   ·simp only [gw0, reduceEqDiff, ↓reduceIte, reduceAdd, reduceLT, reduceLeDiff, reduceMul, Env.keep]
    exact ⟨i + 1, by rw [next_i64 hlt hl], by omega, hlt, digit_no h _⟩
 ·have e : looksB s = (digits s && !s.isEmpty) := by
   unfold looksB
   split
   ·simp at h
   ·rfl
  have hl := hf.1
  rw [e]
  simp only [gw0, reduceEqDiff, ↓reduceIte, reduceAdd, reduceLT, reduceLeDiff, reduceMul, convV]
  clear e hf ha h
  generalize s = t at hl ⊢
  have hll : (byteRows t).length = t.length := by simp [byteRows]
  refine vfor (σ := Nat) [0, 2, 16, 17, 18] (fun i => [(0, true, .str t), (2, true, .bool false), (16, true, .lst 1 none (byteRows t)), (17, true, .int .i64 (byteRows t).length), (18, true, .int .i64 i)]) (fun i => st) (fun i => t.length - i) (fun i => i ≤ t.length ∧ digits t = digits (t.drop i)) 0 rfl TT_ok ⟨Nat.zero_le _, rfl⟩ rfl rfl ?_
  rintro i ⟨hi, hx⟩
  rw [hx]
  rcases at_or_end t i hi with ⟨rfl, hd⟩ | ⟨a, hlt, hget, hdr⟩
  ·rw [hll]
   simp only [gw0, reduceEqDiff, ↓reduceIte, reduceAdd, reduceLT, reduceLeDiff, reduceMul, lt_no, hd]
   exact gives_bool (by cases t <;> simp [digits]) hst
  ·rw [hll]
   have hg : (byteRows t).getD i [] = [V.int .u8 a.toNat] := getD_map hget
   simp only [gw0, reduceEqDiff, ↓reduceIte, reduceAdd, reduceLT, reduceLeDiff, reduceMul, lt_yes hlt, hdr, hll, hg, Int.ofNat_lt.mpr hlt]
   refine iK_split (fun h => ?_) (fun h => ?_)
   ·simp only [gw0, reduceEqDiff, ↓reduceIte, reduceAdd, reduceLT, reduceLeDiff, reduceMul]
    exact gives_bool (by rw [digit_yes h]; rfl) hst
   ·simp only [gw0, reduceEqDiff, ↓reduceIte, reduceAdd, reduceLT, reduceLeDiff, reduceMul, Env.keep]
    exact ⟨i + 1, by rw [next_i64 hlt hl], by omega, hlt, digit_no h _⟩
def namedB (s : Str) : Bool := s.all letterB && (decide (0 < s.length) && decide (s.length ≤ 20) && !looksB s)
theorem c_text_Named (st : St) (s : Str) : VCalls Tryz.prog TT 90 [.str s] st fun r st' => r = .ret (.bool (namedB s)) ∧ st' = st := by
 refine vfun TT_ok (an := anL []) (L := [0, 2, 3, 13, 14]) (rs := [.tmp 2]) Tryz.func90 rfl (by kernel_rfl) rfl Tryz.ntmps90 rfl rfl (Nat.le_refl _) fun hst ha hf => ?_
 simp only [gw0, reduceEqDiff, ↓reduceIte, reduceAdd, reduceLT, reduceLeDiff, reduceMul]
 refine iK_split (fun h => ?_) (fun h => ?_)
 ·simp only [gw0, reduceEqDiff, ↓reduceIte, reduceAdd, reduceLT, reduceLeDiff, reduceMul]
  refine gives_bool ?_ hst
  have : ¬ (0 < s.length ∧ s.length ≤ 20) := by
   intro ⟨h1, h2⟩
   have e1 : decide ((s.length : Int) < 1) = false := by simp; omega
   have e2 : decide (20 < (s.length : Int)) = false := by simp; omega
   rw [e1, e2] at h; cases h
  rcases Nat.lt_or_ge 0 s.length with h1 | h1
  ·simp [namedB, show ¬ s.length ≤ 20 from fun h2 => this ⟨h1, h2⟩]
  ·simp [namedB, show ¬ 0 < s.length by omega]
 ·have hl : 0 < s.length ∧ s.length ≤ 20 := by
   constructor
   ·refine Nat.lt_of_not_le fun h1 => ?_
    have e1 : decide ((s.length : Int) < 1) = true := by simp; omega
    rw [e1] at h; cases h
   ·refine Nat.le_of_not_lt fun h1 => ?_
    have e2 : decide (20 < (s.length : Int)) = true := by simp; omega
    rw [e2] at h; revert h; cases decide ((s.length : Int) < 1) <;> simp
  have e : namedB s = (s.all letterB && !looksB s) := by simp [namedB, hl]
  rw [e]
  simp only [gw0, reduceEqDiff, ↓reduceIte, reduceAdd, reduceLT, reduceLeDiff, reduceMul]
  refine vfor (σ := Nat) [0, 2, 13, 14] (fun i => [(0, true, .str s), (2, true, .bool false), (13, true, .int .i64 s.length), (14, true, .int .i64 i)]) (fun i => st) (fun i => s.length - i) (fun i => i ≤ s.length ∧ s.all letterB = (s.drop i).all letterB) 0 rfl TT_ok ⟨Nat.zero_le _, rfl⟩ rfl rfl ?_
  rintro i ⟨hi, hx⟩
  rw [hx]
  rcases at_or_end s i hi with ⟨rfl, hd⟩ | ⟨a, hlt, hget, hdr⟩
  ·simp only [gw0, reduceEqDiff, ↓reduceIte, reduceAdd, reduceLT, reduceLeDiff, reduceMul, lt_no, hd]
   refine (c_number st s).use (wkL_refl _) fun _ => ?_
   simp only [gw0, reduceEqDiff, ↓reduceIte, reduceAdd, reduceLT, reduceLeDiff, reduceMul]
   exact gives_bool (by simp) hst
  ·simp only [gw0, reduceEqDiff, ↓reduceIte, reduceAdd, reduceLT, reduceLeDiff, reduceMul, lt_yes hlt, hdr, getD_at hget, Int.ofNat_lt.mpr hlt]
   refine (c_letter st a).use (wkL_refl _) fun _ => ?_
   simp only [gw0, reduceEqDiff, ↓reduceIte, reduceAdd, reduceLT, reduceLeDiff, reduceMul]
   refine iK_split (fun h => ?_) (fun h => ?_)
   ·simp only [gw0, reduceEqDiff, ↓reduceIte, reduceAdd, reduceLT, reduceLeDiff, reduceMul]
    exact gives_bool (by simp at h; simp [h]) hst
   ·simp only [gw0, reduceEqDiff, ↓reduceIte, reduceAdd, reduceLT, reduceLeDiff, reduceMul, Env.keep]
    exact ⟨i + 1, by rw [next_i64 hlt (by omega)], by omega, hlt, by simp at h; simp [h]⟩
theorem c_ref_Named (st : St) (s : Str) : VCalls Tryz.prog TT 48 [.str s] st fun r st' => r = .ret (.bool (namedB s)) ∧ st' = st := by
 refine vfun TT_ok (an := anL []) (L := [0, 2, 4, 6, 7, 8]) (rs := [.tmp 2]) Tryz.func48 rfl (by kernel_rfl) rfl Tryz.ntmps48 rfl rfl (Nat.le_refl _) fun hst ha hf => ?_
 simp only [fitL, V.fit] at hf
 simp only [gw0, reduceEqDiff, ↓reduceIte, reduceAdd, reduceLT, reduceLeDiff, reduceMul, convV]
 have hll : (byteRows s).length = s.length := by simp [byteRows]
 refine vfor (σ := Nat) [0, 2, 6, 7, 8] (fun i => [(0, true, .str s), (2, true, .bool false), (6, true, .lst 1 none (byteRows s)), (7, true, .int .i64 (byteRows s).length), (8, true, .int .i64 i)]) (fun i => st) (fun i => s.length - i) (fun i => i ≤ s.length ∧ s.all letterB = (s.drop i).all letterB) 0 rfl TT_ok ⟨Nat.zero_le _, rfl⟩ rfl rfl ?_
 rintro i ⟨hi, hx⟩
 unfold namedB
 rw [hx]
 rcases at_or_end s i hi with ⟨rfl, hd⟩ | ⟨a, hlt, hget, hdr⟩
 ·rw [hll]
  simp only [gw0, reduceEqDiff, ↓reduceIte, reduceAdd, reduceLT, reduceLeDiff, reduceMul, lt_no, hd]
  refine rK_guarded (.bool (looksB s)) (fun _ => c_Looks st s) ?_
  simp only [gw0, reduceEqDiff, ↓reduceIte, reduceAdd, reduceLT, reduceLeDiff, reduceMul]
  refine gives_bool ?_ hst
  have e1 : decide (0 < (s.length : Int)) = decide (0 < s.length) := by simp
  have e2 : decide ((s.length : Int) ≤ 20) = decide (s.length ≤ 20) := decide_eq_decide.mpr (by omega)
  rw [e1, e2]
 ·rw [hll]
  have hg : (byteRows s).getD i [] = [V.int .u8 a.toNat] := getD_map hget
  simp only [gw0, reduceEqDiff, ↓reduceIte, reduceAdd, reduceLT, reduceLeDiff, reduceMul, lt_yes hlt, hdr, hll, hg, Int.ofNat_lt.mpr hlt]
  refine (c_Letter st a).use (wkL_refl _) fun _ => ?_
  simp only [gw0, reduceEqDiff, ↓reduceIte, reduceAdd, reduceLT, reduceLeDiff, reduceMul]
  refine iK_split (fun h => ?_) (fun h => ?_)
  ·simp only [gw0, reduceEqDiff, ↓reduceIte, reduceAdd, reduceLT, reduceLeDiff, reduceMul]
   exact gives_bool (by simp at h; simp [h]) hst
  ·simp only [gw0, reduceEqDiff, ↓reduceIte, reduceAdd, reduceLT, reduceLeDiff, reduceMul, Env.keep]
   exact ⟨i + 1, by rw [next_i64 hlt hf.1], by omega, hlt, by simp at h; simp [h]⟩
/-- A datum. -/
inductive Datum where
 | mk (kind n : Int) (name : Str) (stamp lib : Int) (kids : List Datum)
mutual
def encD : Datum → List V
 | .mk k n nm s l kids => [.int .i64 k, .int .i64 n, .str nm, .int .i64 s, .int .i64 l, .lst 6 none (encDs kids)]
def encDs : List Datum → List (List V)
 | [] => []
 | d :: r => encD d :: encDs r
end
theorem encDs_map : ∀ l : List Datum, encDs l = l.map encD
 | [] => rfl
 | d :: r => by simp only [encDs, List.map_cons, encDs_map r]
theorem encD_mk (k n : Int) (nm : Str) (s l : Int) (kids : List Datum) : encD (.mk k n nm s l kids) = [.int .i64 k, .int .i64 n, .str nm, .int .i64 s, .int .i64 l, .lst 6 none (kids.map encD)] := by
 simp only [encD, encDs_map]
theorem encD_len (d : Datum) : (encD d).length = 6 := by cases d; rfl
mutual
theorem encD_lt (n : Nat) : ∀ d : Datum, ltL n (encD d)
 | .mk k m nm s l kids => by
  simp only [encD, ltL, V.lt, true_and, and_true]
  exact ⟨fun e h => (by cases h), encDs_lt n kids⟩
theorem encDs_lt (n : Nat) : ∀ l : List Datum, ltRows n (encDs l)
 | [] => trivial
 | d :: r => ⟨encD_lt n d, encDs_lt n r⟩
end
theorem Datum.ind {p : Datum → Prop} (h : ∀ k n nm s l kids, (∀ d ∈ kids, p d) → p (.mk k n nm s l kids)) (d : Datum) : p d :=
 Datum.rec (motive_1 := p) (motive_2 := fun l => ∀ d ∈ l, p d) h (by simp) (fun d r h1 h2 x hx => by rcases List.mem_cons.1 hx with rfl | hx; exact h1; exact h2 x hx) d
mutual
/-- What is wrong with a datum, so many nodes behind; and how many nodes then. -/
def shapeD : Datum → Int → Int → Int × Int
 | .mk k n nm s l kids, deep, c =>
  bif decide (2000 < c + 1) || decide (40 < deep) then (4, c + 1)
  else bif decide (k = 1) then (bif decide (1000000000000000 < n) || decide (n < -1000000000000000) then (3, c + 1) else (0, c + 1))
  else bif decide (k = 2) then (bif decide (n = 0) || decide (n = 1) then (0, c + 1) else (3, c + 1))
  else bif decide (k = 3) then (bif !namedB nm then (7, c + 1) else bif decide (s = 0) && decide (l = 0) then (0, c + 1) else (8, c + 1))
  else bif decide (k = 4) then shapeDs kids (deep + 1) (c + 1)
  else (1, c + 1)
def shapeDs : List Datum → Int → Int → Int × Int
 | [], _, c => (0, c)
 | d :: r, deep, c => bif decide ((shapeD d deep c).1 = 0) then shapeDs r deep (shapeD d deep c).2 else shapeD d deep c
end
mutual
theorem shapeD_ok : ∀ (d : Datum) (deep c : Int), 0 ≤ c → (shapeD d deep c).1 = 0 → c ≤ (shapeD d deep c).2 ∧ (shapeD d deep c).2 ≤ 2000
 | .mk k n nm s l kids, deep, c, h0, h => by
  unfold shapeD at h ⊢
  cases h1 : (decide (2000 < c + 1) || decide (40 < deep)) with
  | true => rw [h1] at h; simp at h
  | false =>
   have hc : c + 1 ≤ 2000 := by simp at h1; omega
   rw [h1] at h
   simp only [cond_false] at h ⊢
   cases h2 : decide (k = 1) <;> rw [h2] at h <;> simp only [cond_false, cond_true] at h ⊢
   ·cases h3 : decide (k = 2) <;> rw [h3] at h <;> simp only [cond_false, cond_true] at h ⊢
    ·cases h4 : decide (k = 3) <;> rw [h4] at h <;> simp only [cond_false, cond_true] at h ⊢
     ·cases h5 : decide (k = 4) <;> rw [h5] at h <;> simp only [cond_false, cond_true] at h ⊢
      ·simp at h
      ·have := shapeDs_ok kids (deep + 1) (c + 1) (by omega) hc h
       exact ⟨by omega, this.2⟩
     ·revert h
      cases namedB nm <;> cases (decide (s = 0) && decide (l = 0)) <;> simp <;> omega
    ·revert h
     cases (decide (n = 0) || decide (n = 1)) <;> simp <;> omega
   ·revert h
    cases (decide (1000000000000000 < n) || decide (n < -1000000000000000)) <;> simp <;> omega
theorem shapeDs_ok : ∀ (l : List Datum) (deep c : Int), 0 ≤ c → c ≤ 2000 → (shapeDs l deep c).1 = 0 → c ≤ (shapeDs l deep c).2 ∧ (shapeDs l deep c).2 ≤ 2000
 | [], deep, c, h0, h1, h => by simp only [shapeDs]; omega
 | d :: r, deep, c, h0, h1, h => by
  simp only [shapeDs] at h ⊢
  cases h2 : decide ((shapeD d deep c).1 = 0) with
  | true =>
   rw [h2] at h
   simp only [cond_true] at h ⊢
   have k1 := shapeD_ok d deep c h0 (of_decide_eq_true h2)
   have k2 := shapeDs_ok r deep _ (by omega) k1.2 h
   omega
  | false =>
   rw [h2] at h
   simp only [cond_false] at h
   exact absurd h (of_decide_eq_false h2)
end
/-- A mark in a box is counted up. -/
theorem set_self {st : St} {o : Nat} {e : Ent} (h : st[o]? = some e) : st.set o e = st := by
 apply List.ext_getElem?
 intro i
 by_cases hi : o = i
 ·subst hi; rw [List.getElem?_set_self (List.getElem?_eq_some_iff.1 h).1, h]
 ·rw [List.getElem?_set_ne hi]
theorem or_no {a b : Bool} (h : (!a && !b) = true) : (a || b) = false := by revert h; cases a <;> cases b <;> simp
theorem or_yes {a b : Bool} (h : (!a && !b) = false) : (a || b) = true := by revert h; cases a <;> cases b <;> simp
theorem and_no {a b : Bool} (h : (!a || !b) = true) : (a && b) = false := by revert h; cases a <;> cases b <;> simp
theorem and_yes {a b : Bool} (h : (!a || !b) = false) : (a && b) = true := by revert h; cases a <;> cases b <;> simp
theorem not_yes {a : Bool} (h : (!a) = true) : a = false := by revert h; cases a <;> simp
theorem not_no {a : Bool} (h : (!a) = false) : a = true := by revert h; cases a <;> simp
theorem c_shape (d : Datum) : ∀ (st : St) (o : Nat) (c deep : Int), st[o]? = some (.box [.int .i64 c]) → 0 ≤ c → c ≤ 2000 → 0 ≤ deep → deep ≤ 41 →
  VCalls Tryz.prog TT 89 [.ptr o 0, .ref (encD d), .int .i64 deep] st fun r st' => r = .ret (.int .i64 (shapeD d deep c).1) ∧ st' = st.set o (.box [.int .i64 (shapeD d deep c).2]) := by
 refine Datum.ind (p := fun d => ∀ (st : St) (o : Nat) (c deep : Int), st[o]? = some (.box [.int .i64 c]) → 0 ≤ c → c ≤ 2000 → 0 ≤ deep → deep ≤ 41 →
  VCalls Tryz.prog TT 89 [.ptr o 0, .ref (encD d), .int .i64 deep] st fun r st' => r = .ret (.int .i64 (shapeD d deep c).1) ∧ st' = st.set o (.box [.int .i64 (shapeD d deep c).2])) ?_ d
 intro k n nm s l kids ih st o c deep ho h0 h1 h2 h3
 refine vfun TT_ok (an := anL []) (L := [0, 1, 2, 6, 7, 8, 28, 83, 84]) (rs := [.tmp 6]) Tryz.func89 rfl (by kernel_rfl) rfl Tryz.ntmps89 rfl rfl (Nat.le_of_eq (List.length_set ..).symm) fun hst ha hf => ?_
 have hlt : o < st.length := (List.getElem?_eq_some_iff.1 ho).1
 have hset : ∀ c', (st.set o (.box [.int .i64 c']))[o]? = some (.box [.int .i64 c']) := fun c' => List.getElem?_set_self hlt
 simp only [encD_mk]
 simp only [gw0, reduceEqDiff, ↓reduceIte, reduceAdd, reduceLT, reduceLeDiff, reduceMul, ho, hset, wrap_i64 (show -9223372036854775808 ≤ c + 1 by omega) (show c + 1 ≤ 9223372036854775807 by omega)]
 have hok : ∀ c', St.ok (st.set o (.box [.int .i64 c'])) := by
  intro c' e he
  rw [List.length_set]
  rcases List.mem_or_eq_of_mem_set he with h | rfl
  ·exact hst e h
  ·simp [Ent.lt, ltL, V.lt]
 have hgv : ∀ (e c' e' c'' : Int), (e, c') = (e', c'') → Gives (.int .i64 e') (st.set o (.box [.int .i64 c''])) (.ret (.int .i64 e)) (st.set o (.box [.int .i64 c'])) := by
  intro e c' e' c'' h
  cases h
  exact gives_int rfl (hok c')
 unfold shapeD
 refine iK_split (fun h => ?_) (fun h => ?_)
 ·rw [h]
  simp only [gw0, reduceEqDiff, ↓reduceIte, reduceAdd, reduceLT, reduceLeDiff, reduceMul]
  exact hgv _ _ _ _ rfl
 rw [h]
 have hc : c + 1 ≤ 2000 ∧ deep ≤ 40 := by simp at h; omega
 simp only [gw0, reduceEqDiff, ↓reduceIte, reduceAdd, reduceLT, reduceLeDiff, reduceMul]
 refine iK_split (fun h1 => ?_) (fun h1 => ?_)
 ·rw [h1]
  simp only [gw0, reduceEqDiff, ↓reduceIte, reduceAdd, reduceLT, reduceLeDiff, reduceMul]
  refine iK_split (fun h2 => ?_) (fun h2 => ?_)
  ·rw [h2]
   simp only [gw0, reduceEqDiff, ↓reduceIte, reduceAdd, reduceLT, reduceLeDiff, reduceMul]
   exact hgv _ _ _ _ rfl
  ·rw [h2]
   simp only [gw0, reduceEqDiff, ↓reduceIte, reduceAdd, reduceLT, reduceLeDiff, reduceMul]
   exact hgv _ _ _ _ rfl
 rw [h1]
 simp only [gw0, reduceEqDiff, ↓reduceIte, reduceAdd, reduceLT, reduceLeDiff, reduceMul]
 refine iK_split (fun h2 => ?_) (fun h2 => ?_)
 ·rw [h2]
  simp only [gw0, reduceEqDiff, ↓reduceIte, reduceAdd, reduceLT, reduceLeDiff, reduceMul]
  refine iK_split (fun h3 => ?_) (fun h3 => ?_)
  ·rw [or_no h3]
   simp only [gw0, reduceEqDiff, ↓reduceIte, reduceAdd, reduceLT, reduceLeDiff, reduceMul]
   exact hgv _ _ _ _ rfl
  ·rw [or_yes h3]
   simp only [gw0, reduceEqDiff, ↓reduceIte, reduceAdd, reduceLT, reduceLeDiff, reduceMul]
   exact hgv _ _ _ _ rfl
 rw [h2]
 simp only [gw0, reduceEqDiff, ↓reduceIte, reduceAdd, reduceLT, reduceLeDiff, reduceMul]
 refine iK_split (fun h3 => ?_) (fun h3 => ?_)
 ·rw [h3]
  simp only [gw0, reduceEqDiff, ↓reduceIte, reduceAdd, reduceLT, reduceLeDiff, reduceMul]
  refine (c_text_Named _ nm).use (wkL_refl _) fun _ => ?_
  simp only [gw0, reduceEqDiff, ↓reduceIte, reduceAdd, reduceLT, reduceLeDiff, reduceMul]
  refine iK_split (fun h4 => ?_) (fun h4 => ?_)
  ·rw [h4]
   simp only [gw0, reduceEqDiff, ↓reduceIte, reduceAdd, reduceLT, reduceLeDiff, reduceMul]
   exact hgv _ _ _ _ rfl
  rw [h4]
  simp only [gw0, reduceEqDiff, ↓reduceIte, reduceAdd, reduceLT, reduceLeDiff, reduceMul]
  refine iK_split (fun h5 => ?_) (fun h5 => ?_)
  ·rw [and_no h5]
   simp only [gw0, reduceEqDiff, ↓reduceIte, reduceAdd, reduceLT, reduceLeDiff, reduceMul]
   exact hgv _ _ _ _ rfl
  ·rw [and_yes h5]
   simp only [gw0, reduceEqDiff, ↓reduceIte, reduceAdd, reduceLT, reduceLeDiff, reduceMul]
   exact hgv _ _ _ _ rfl
 rw [h3]
 simp only [gw0, reduceEqDiff, ↓reduceIte, reduceAdd, reduceLT, reduceLeDiff, reduceMul]
 refine iK_split (fun h4 => ?_) (fun h4 => ?_)
 ·rw [h4]
  simp only [gw0, reduceEqDiff, ↓reduceIte, reduceAdd, reduceLT, reduceLeDiff, reduceMul, List.length_map]
  simp only [encD_mk, fitL, V.fit, List.length_map] at hf
  have hkl : kids.length ≤ 9223372036854775807 := by simp at hf; omega
  refine vfor (σ := Nat × Int) [0, 1, 2, 6, 83, 84] (fun x => [(0, true, .ptr o 0), (1, true, .ref (encD (.mk k n nm s l kids))), (2, true, .int .i64 deep), (6, true, .int .i64 0), (83, true, .int .i64 kids.length), (84, true, .int .i64 x.1)]) (fun x => st.set o (.box [.int .i64 x.2])) (fun x => kids.length - x.1) (fun x => x.1 ≤ kids.length ∧ 0 ≤ x.2 ∧ x.2 ≤ 2000 ∧ shapeDs kids (deep + 1) (c + 1) = shapeDs (kids.drop x.1) (deep + 1) x.2) (0, c + 1) rfl TT_ok ⟨Nat.zero_le _, by omega, by omega, rfl⟩ (by rw [encD_mk]; rfl) rfl ?_
  rintro ⟨i, ci⟩ ⟨hi, hc0, hc1, hx⟩
  simp only at hi hc0 hc1 hx
  rw [hx]
  simp only [encD_mk]
  rcases at_or_end kids i hi with ⟨rfl, hd⟩ | ⟨a, hlt2, hget, hdr⟩
  ·simp only [gw0, reduceEqDiff, ↓reduceIte, reduceAdd, reduceLT, reduceLeDiff, reduceMul, lt_no, hd, shapeDs]
   exact hgv _ _ _ _ rfl
  ·simp only [gw0, reduceEqDiff, ↓reduceIte, reduceAdd, reduceLT, reduceLeDiff, reduceMul, lt_yes hlt2, hdr, shapeDs, List.length_map, getD_map hget, Int.ofNat_lt.mpr hlt2, wrap_i64 (show -9223372036854775808 ≤ deep + 1 by omega) (show deep + 1 ≤ 9223372036854775807 by omega)]
   refine (ih a (List.mem_of_getElem? hget) (st.set o (.box [.int .i64 ci])) o ci (deep + 1) (hset ci) hc0 hc1 (by omega) (by omega)).use (wkL_refl _) fun _ => ?_
   simp only [gw0, reduceEqDiff, ↓reduceIte, reduceAdd, reduceLT, reduceLeDiff, reduceMul, List.set_set]
   refine iK_split (fun h5 => ?_) (fun h5 => ?_)
   ·rw [not_yes h5]
    simp only [gw0, reduceEqDiff, ↓reduceIte, reduceAdd, reduceLT, reduceLeDiff, reduceMul]
    exact hgv _ _ _ _ rfl
   ·have h6 : decide ((shapeD a (deep + 1) ci).1 = 0) = true := by simpa using h5
    have h7 := shapeD_ok a (deep + 1) ci hc0 (of_decide_eq_true h6)
    rw [h6]
    simp only [gw0, reduceEqDiff, ↓reduceIte, reduceAdd, reduceLT, reduceLeDiff, reduceMul, Env.keep]
    exact ⟨(i + 1, (shapeD a (deep + 1) ci).2), by rw [next_i64 hlt2 hkl], rfl, by simp only; omega, by simp only; omega, by simp only; omega, h7.2, rfl⟩
 ·rw [h4]
  simp only [gw0, reduceEqDiff, ↓reduceIte, reduceAdd, reduceLT, reduceLeDiff, reduceMul]
  exact hgv _ _ _ _ rfl
def fltV (f : Int × Int) : V := .agg [.int .i64 f.1, .int .i64 f.2]
/-- What is wrong with data, and with which. -/
def wrongL : List Datum → Nat → Int → Int × Int
 | [], _, _ => (0, 0)
 | d :: r, i, c => bif decide ((shapeD d 1 c).1 = 0) then wrongL r (i + 1) (shapeD d 1 c).2 else ((shapeD d 1 c).1, (i : Int))
def lstD (l : List Datum) : V := .lst 6 none (l.map encD)
theorem c_text_Wrong (st : St) (l : List Datum) : VCalls Tryz.prog TT 70 [lstD l] st fun r st' => r = .ret (fltV (wrongL l 0 0)) ∧ st' = st := by
 refine vfun TT_ok (an := anL []) (L := [0, 2, 3, 4, 5, 9, 10]) (rs := [.cell 2 41]) Tryz.func70 rfl (by kernel_rfl) rfl Tryz.ntmps70 rfl rfl (Nat.le_refl _) fun hst ha hf => ?_
 simp only [lstD, fltV, fitL, V.fit, List.length_map] at hf ⊢
 have hkl : l.length ≤ 9223372036854775807 := by simp at hf; omega
 simp only [gw0, reduceEqDiff, ↓reduceIte, reduceAdd, reduceLT, reduceLeDiff, reduceMul, List.length_map]
 refine vfor (σ := Nat × Int) [0, 2, 3, 9, 10] (fun x => [(0, true, lstD l), (2, true, .ptr st.length 0), (3, true, .ptr (st.length + 1) 0), (9, true, .int .i64 l.length), (10, true, .int .i64 x.1)]) (fun x => st ++ [.box [.int .i64 0, .int .i64 0], .box [.int .i64 x.2]]) (fun x => l.length - x.1) (fun x => x.1 ≤ l.length ∧ 0 ≤ x.2 ∧ x.2 ≤ 2000 ∧ wrongL l 0 0 = wrongL (l.drop x.1) x.1 x.2) (0, 0) rfl TT_ok ⟨Nat.zero_le _, by omega, by omega, rfl⟩ rfl rfl ?_
 rintro ⟨i, c⟩ ⟨hi, hc0, hc1, hx⟩
 simp only at hi hc0 hc1 hx
 rw [hx]
 simp only [lstD]
 rcases at_or_end l i hi with ⟨rfl, hd⟩ | ⟨a, hlt, hget, hdr⟩
 ·simp only [gw0, reduceEqDiff, ↓reduceIte, reduceAdd, reduceLT, reduceLeDiff, reduceMul, lt_no, hd, wrongL]
  exact gives_of (wk_refl _) (wkSt_refl _) (by simp [V.lt, ltL]) hst
 ·simp only [gw0, reduceEqDiff, ↓reduceIte, reduceAdd, reduceLT, reduceLeDiff, reduceMul, lt_yes hlt, hdr, wrongL, List.length_map, getD_map hget, Int.ofNat_lt.mpr hlt]
  refine (c_shape a (st ++ [.box [.int .i64 0, .int .i64 0], .box [.int .i64 c]]) (st.length + 1) c 1 (by simp only [gwL]) hc0 hc1 (by omega) (by omega)).use (wkL_refl _) fun _ => ?_
  simp only [gw0, reduceEqDiff, ↓reduceIte, reduceAdd, reduceLT, reduceLeDiff, reduceMul]
  refine iK_split (fun h5 => ?_) (fun h5 => ?_)
  ·rw [not_yes h5]
   simp only [gw0, reduceEqDiff, ↓reduceIte, reduceAdd, reduceLT, reduceLeDiff, reduceMul]
   exact gives_of (wk_refl _) (wkSt_refl _) (by simp [V.lt, ltL]) hst
  ·have h6 : decide ((shapeD a 1 c).1 = 0) = true := by simpa using h5
   have h7 := shapeD_ok a 1 c hc0 (of_decide_eq_true h6)
   rw [h6]
   simp only [gw0, reduceEqDiff, ↓reduceIte, reduceAdd, reduceLT, reduceLeDiff, reduceMul, Env.keep]
   exact ⟨(i + 1, (shapeD a 1 c).2), by rw [next_i64 hlt hkl], rfl, by simp only; omega, by simp only; omega, by simp only; omega, h7.2, rfl⟩
theorem encD_take (d : Datum) : (encD d).take 6 = encD d := List.take_of_length_le (by rw [encD_len]; exact Nat.le_refl _)
theorem encD_drop (d : Datum) : (encD d).drop 6 = [] := List.drop_of_length_le (by rw [encD_len]; exact Nat.le_refl _)
theorem lt_box {st : St} {o : Nat} {k : IntKind} {c : Int} (hst : St.ok st) : St.ok (st.set o (.box [.int k c])) := by
 intro e he
 rw [List.length_set]
 rcases List.mem_or_eq_of_mem_set he with h | rfl
 ·exact hst e h
 ·simp [Ent.lt, ltL, V.lt]
theorem or_lt {n : Int} : (decide (n < -1000000000000000) || decide (1000000000000000 < n)) = (decide (1000000000000000 < n) || decide (n < -1000000000000000)) := Bool.or_comm _ _
theorem or_bit {n : Int} : (decide (n < 0) || decide (1 < n)) = !(decide (n = 0) || decide (n = 1)) := by
 by_cases h0 : n = 0
 ·subst h0; rfl
 ·by_cases h1 : n = 1
  ·subst h1; rfl
  ·simp [h0, h1]; omega
theorem c_Shape (d : Datum) : ∀ (st : St) (o : Nat) (c deep : Int), st[o]? = some (.box [.int .i64 c]) → 0 ≤ c → c ≤ 2000 → 0 ≤ deep → deep ≤ 41 →
  VCalls Tryz.prog TT 66 [.agg (encD d), .int .i64 deep, .ptr o 0] st fun r st' => r = .ret (.int .i64 (shapeD d deep c).1) ∧ st' = st.set o (.box [.int .i64 (shapeD d deep c).2]) := by
 refine Datum.ind (p := fun d => ∀ (st : St) (o : Nat) (c deep : Int), st[o]? = some (.box [.int .i64 c]) → 0 ≤ c → c ≤ 2000 → 0 ≤ deep → deep ≤ 41 →
  VCalls Tryz.prog TT 66 [.agg (encD d), .int .i64 deep, .ptr o 0] st fun r st' => r = .ret (.int .i64 (shapeD d deep c).1) ∧ st' = st.set o (.box [.int .i64 (shapeD d deep c).2])) ?_ d
 intro k n nm s l kids ih st o c deep ho h0 h1 h2 h3
 refine vfun TT_ok (an := anL [(3, 1)]) (L := [0, 1, 2, 3, 6, 8, 9, 25, 63, 64, 65]) (rs := [.tmp 6]) Tryz.func66 rfl (by kernel_rfl) rfl Tryz.ntmps66 rfl rfl (Nat.le_of_eq (List.length_set ..).symm) fun hst ha hf => ?_
 have hlt : o < st.length := (List.getElem?_eq_some_iff.1 ho).1
 have hset : ∀ c', (st.set o (.box [.int .i64 c']))[o]? = some (.box [.int .i64 c']) := fun c' => List.getElem?_set_self hlt
 simp only [encD_mk]
 simp only [gw0, reduceEqDiff, ↓reduceIte, reduceAdd, reduceLT, reduceLeDiff, reduceMul, ho, hset, wrap_i64 (show -9223372036854775808 ≤ c + 1 by omega) (show c + 1 ≤ 9223372036854775807 by omega)]
 have hgv : ∀ (e c' e' c'' : Int), (e, c') = (e', c'') → Gives (.int .i64 e') (st.set o (.box [.int .i64 c''])) (.ret (.int .i64 e)) (st.set o (.box [.int .i64 c'])) := by
  intro e c' e' c'' h
  cases h
  exact gives_int rfl (lt_box hst)
 unfold shapeD
 refine iK_split (fun h => ?_) (fun h => ?_)
 ·rw [h]
  simp only [gw0, reduceEqDiff, ↓reduceIte, reduceAdd, reduceLT, reduceLeDiff, reduceMul]
  exact hgv _ _ _ _ rfl
 rw [h]
 have hc : c + 1 ≤ 2000 ∧ deep ≤ 40 := by simp at h; omega
 simp only [gw0, reduceEqDiff, ↓reduceIte, reduceAdd, reduceLT, reduceLeDiff, reduceMul]
 refine iK_split (fun h1 => ?_) (fun h1 => ?_)
 ·rw [h1]
  simp only [gw0, reduceEqDiff, ↓reduceIte, reduceAdd, reduceLT, reduceLeDiff, reduceMul, or_lt]
  refine iK_split (fun h2 => ?_) (fun h2 => ?_)
  ·rw [h2]
   simp only [gw0, reduceEqDiff, ↓reduceIte, reduceAdd, reduceLT, reduceLeDiff, reduceMul]
   exact hgv _ _ _ _ rfl
  ·rw [h2]
   simp only [gw0, reduceEqDiff, ↓reduceIte, reduceAdd, reduceLT, reduceLeDiff, reduceMul]
   exact hgv _ _ _ _ rfl
 rw [h1]
 simp only [gw0, reduceEqDiff, ↓reduceIte, reduceAdd, reduceLT, reduceLeDiff, reduceMul]
 refine iK_split (fun h2 => ?_) (fun h2 => ?_)
 ·rw [h2]
  simp only [gw0, reduceEqDiff, ↓reduceIte, reduceAdd, reduceLT, reduceLeDiff, reduceMul, or_bit]
  refine iK_split (fun h3 => ?_) (fun h3 => ?_)
  ·rw [not_yes h3]
   simp only [gw0, reduceEqDiff, ↓reduceIte, reduceAdd, reduceLT, reduceLeDiff, reduceMul]
   exact hgv _ _ _ _ rfl
  ·rw [not_no h3]
   simp only [gw0, reduceEqDiff, ↓reduceIte, reduceAdd, reduceLT, reduceLeDiff, reduceMul]
   exact hgv _ _ _ _ rfl
 rw [h2]
 simp only [gw0, reduceEqDiff, ↓reduceIte, reduceAdd, reduceLT, reduceLeDiff, reduceMul]
 refine iK_split (fun h3 => ?_) (fun h3 => ?_)
 ·rw [h3]
  simp only [gw0, reduceEqDiff, ↓reduceIte, reduceAdd, reduceLT, reduceLeDiff, reduceMul]
  refine (c_ref_Named _ nm).use (wkL_refl _) fun _ => ?_
  simp only [gw0, reduceEqDiff, ↓reduceIte, reduceAdd, reduceLT, reduceLeDiff, reduceMul]
  refine iK_split (fun h4 => ?_) (fun h4 => ?_)
  ·rw [h4]
   simp only [gw0, reduceEqDiff, ↓reduceIte, reduceAdd, reduceLT, reduceLeDiff, reduceMul]
   exact hgv _ _ _ _ rfl
  rw [h4]
  simp only [gw0, reduceEqDiff, ↓reduceIte, reduceAdd, reduceLT, reduceLeDiff, reduceMul]
  refine iK_split (fun h5 => ?_) (fun h5 => ?_)
  ·rw [and_no h5]
   simp only [gw0, reduceEqDiff, ↓reduceIte, reduceAdd, reduceLT, reduceLeDiff, reduceMul]
   exact hgv _ _ _ _ rfl
  ·rw [and_yes h5]
   simp only [gw0, reduceEqDiff, ↓reduceIte, reduceAdd, reduceLT, reduceLeDiff, reduceMul]
   exact hgv _ _ _ _ rfl
 rw [h3]
 simp only [gw0, reduceEqDiff, ↓reduceIte, reduceAdd, reduceLT, reduceLeDiff, reduceMul]
 refine iK_split (fun h4 => ?_) (fun h4 => ?_)
 ·rw [h4]
  simp only [gw0, reduceEqDiff, ↓reduceIte, reduceAdd, reduceLT, reduceLeDiff, reduceMul, List.length_map]
  simp only [encD_mk, fitL, V.fit, List.length_map] at hf
  have hkl : kids.length ≤ 9223372036854775807 := by simp at hf; omega
  refine vforD (σ := Nat × Int) [0, 1, 2, 6, 63, 64, 65] (fun x => [(0, true, .agg (encD (.mk k n nm s l kids))), (1, true, .int .i64 deep), (2, true, .ptr o 0), (6, true, .int .i64 0), (63, true, lstD kids), (64, true, .int .i64 kids.length), (65, true, .int .i64 x.1)]) (fun x => st.set o (.box [.int .i64 x.2])) (fun x => kids.length - x.1) (fun x => x.1 ≤ kids.length ∧ 0 ≤ x.2 ∧ x.2 ≤ 2000 ∧ shapeDs kids (deep + 1) (c + 1) = shapeDs (kids.drop x.1) (deep + 1) x.2) (0, c + 1) rfl TT_ok ⟨Nat.zero_le _, by omega, by omega, rfl⟩ (by rw [encD_mk]; exact wkE_refl _) rfl ?_
  rintro ⟨i, ci⟩ ⟨hi, hc0, hc1, hx⟩
  simp only at hi hc0 hc1 hx
  rw [hx]
  simp only [lstD]
  rcases at_or_end kids i hi with ⟨rfl, hd⟩ | ⟨a, hlt2, hget, hdr⟩
  ·simp only [gw0, reduceEqDiff, ↓reduceIte, reduceAdd, reduceLT, reduceLeDiff, reduceMul, lt_no, hd, shapeDs]
   exact hgv _ _ _ _ rfl
  ·simp only [gw0, reduceEqDiff, ↓reduceIte, reduceAdd, reduceLT, reduceLeDiff, reduceMul, lt_yes hlt2, hdr, shapeDs, List.length_map, getD_map hget, encD_take, encD_len, encD_drop, Int.ofNat_lt.mpr hlt2, wrap_i64 (show -9223372036854775808 ≤ deep + 1 by omega) (show deep + 1 ≤ 9223372036854775807 by omega), Nat.le_refl]
   refine (ih a (List.mem_of_getElem? hget) (st.set o (.box [.int .i64 ci]) ++ [.box (encD a)]) o ci (deep + 1) (by rw [st_old (by rw [List.length_set]; exact hlt)]; exact hset ci) hc0 hc1 (by omega) (by omega)).use (wkL_refl _) fun _ => ?_
   simp only [gw0, reduceEqDiff, ↓reduceIte, reduceAdd, reduceLT, reduceLeDiff, reduceMul, st_oldset (show o < (st.set o (.box [.int .i64 ci])).length by rw [List.length_set]; exact hlt), List.set_set]
   refine iK_split (fun h5 => ?_) (fun h5 => ?_)
   ·rw [not_yes h5]
    simp only [gw0, reduceEqDiff, ↓reduceIte, reduceAdd, reduceLT, reduceLeDiff, reduceMul]
    exact gives_int' rfl (lt_box hst)
   ·have h6 : decide ((shapeD a (deep + 1) ci).1 = 0) = true := by simpa using h5
    have h7 := shapeD_ok a (deep + 1) ci hc0 (of_decide_eq_true h6)
    rw [h6]
    simp only [gw0, reduceEqDiff, ↓reduceIte, reduceAdd, reduceLT, reduceLeDiff, reduceMul]
    refine ⟨(i + 1, (shapeD a (deep + 1) ci).2), ⟨?_, _, _, rfl, wkSt_refl _, ?_, lt_box hst, by simp only [List.length_set]; exact Nat.le_refl _⟩, by simp only; omega, by simp only; omega, by simp only; omega, h7.2, rfl⟩
    ·simp only [gw0, reduceEqDiff, ↓reduceIte, reduceAdd, reduceLT, reduceLeDiff, reduceMul, Env.keep, next_i64 hlt2 hkl]
     exact wkE_refl _
    ·simp only [ltE, V.lt, List.length_set, lstD]
     exact ⟨encD_lt _ _, trivial, hlt, trivial, ⟨fun e h => (by cases h), by rw [← encDs_map]; exact encDs_lt _ _⟩, trivial, trivial, trivial⟩
 ·rw [h4]
  simp only [gw0, reduceEqDiff, ↓reduceIte, reduceAdd, reduceLT, reduceLeDiff, reduceMul]
  exact hgv _ _ _ _ rfl
theorem lstD_lt (n : Nat) (l : List Datum) : (lstD l).lt n := by
 simp only [lstD, V.lt]
 exact ⟨fun e h => (by cases h), by rw [← encDs_map]; exact encDs_lt _ _⟩
theorem c_ref_Wrong (st : St) (l : List Datum) : VCalls Tryz.prog TT 47 [lstD l] st fun r st' => r = .ret (fltV (wrongL l 0 0)) ∧ st' = st := by
 refine vfun TT_ok (an := anL []) (L := [0, 2, 3, 4, 5, 6, 7, 8, 9]) (rs := [.cell 2 41]) Tryz.func47 rfl (by kernel_rfl) rfl Tryz.ntmps47 rfl rfl (Nat.le_refl _) fun hst ha hf => ?_
 simp only [lstD, fltV, fitL, V.fit, List.length_map] at hf ⊢
 have hkl : l.length ≤ 9223372036854775807 := by simp at hf; omega
 simp only [gw0, reduceEqDiff, ↓reduceIte, reduceAdd, reduceLT, reduceLeDiff, reduceMul, List.length_map]
 refine vforD (σ := Nat × Int) [0, 2, 3, 7, 8, 9] (fun x => [(0, true, lstD l), (2, true, .ptr st.length 0), (3, true, .ptr (st.length + 1) 0), (7, true, lstD l), (8, true, .int .i64 l.length), (9, true, .int .i64 x.1)]) (fun x => st ++ [.box [.int .i64 0, .int .i64 0], .box [.int .i64 x.2]]) (fun x => l.length - x.1) (fun x => x.1 ≤ l.length ∧ 0 ≤ x.2 ∧ x.2 ≤ 2000 ∧ wrongL l 0 0 = wrongL (l.drop x.1) x.1 x.2) (0, 0) rfl TT_ok ⟨Nat.zero_le _, by omega, by omega, rfl⟩ (wkE_refl _) rfl ?_
 rintro ⟨i, c⟩ ⟨hi, hc0, hc1, hx⟩
 simp only at hi hc0 hc1 hx
 rw [hx]
 simp only [lstD]
 rcases at_or_end l i hi with ⟨rfl, hd⟩ | ⟨a, hlt, hget, hdr⟩
 ·simp only [gw0, reduceEqDiff, ↓reduceIte, reduceAdd, reduceLT, reduceLeDiff, reduceMul, lt_no, hd, wrongL]
  exact gives_of (wk_refl _) (wkSt_refl _) (by simp [V.lt, ltL]) hst
 ·simp only [gw0, reduceEqDiff, ↓reduceIte, reduceAdd, reduceLT, reduceLeDiff, reduceMul, lt_yes hlt, hdr, wrongL, List.length_map, getD_map hget, encD_take, encD_len, encD_drop, Int.ofNat_lt.mpr hlt, Nat.le_refl]
  refine (c_Shape a (st ++ [.box [.int .i64 0, .int .i64 0], .box [.int .i64 c], .box (encD a)]) (st.length + 1) c 1 (by simp only [gwL]) hc0 hc1 (by omega) (by omega)).use (wkL_refl _) fun _ => ?_
  simp only [gw0, reduceEqDiff, ↓reduceIte, reduceAdd, reduceLT, reduceLeDiff, reduceMul]
  refine iK_split (fun h5 => ?_) (fun h5 => ?_)
  ·rw [not_yes h5]
   simp only [gw0, reduceEqDiff, ↓reduceIte, reduceAdd, reduceLT, reduceLeDiff, reduceMul]
   exact gives_of (wk_refl _) (wkSt_refl _) (by simp [V.lt, ltL]) hst
  ·have h6 : decide ((shapeD a 1 c).1 = 0) = true := by simpa using h5
   have h7 := shapeD_ok a 1 c hc0 (of_decide_eq_true h6)
   rw [h6]
   simp only [gw0, reduceEqDiff, ↓reduceIte, reduceAdd, reduceLT, reduceLeDiff, reduceMul]
   refine ⟨(i + 1, (shapeD a 1 c).2), ⟨?_, st ++ [.box [.int .i64 0, .int .i64 0], .box [.int .i64 (shapeD a 1 c).2]], [.box (encD a)], by simp only [gwL], wkSt_refl _, ?_, ?_, by simp⟩, by simp only; omega, by simp only; omega, by simp only; omega, h7.2, rfl⟩
   ·simp only [gw0, reduceEqDiff, ↓reduceIte, reduceAdd, reduceLT, reduceLeDiff, reduceMul, Env.keep, next_i64 hlt hkl]
    exact wkE_refl _
   ·simp only [ltE, V.lt, gwL, lstD_lt, and_true, true_and]
    exact ⟨lstD_lt _ _, by omega, by omega, lstD_lt _ _⟩
   ·exact ok_app hst (by simp [ltEs, Ent.lt, ltL, V.lt])
def prims : List Str := [[42], [43], [45], [60], [61], [99, 97, 114], [99, 100, 114], [99, 111, 110, 115], [101, 113, 63], [110, 111, 116], [110, 117, 108, 108, 63], [111, 117, 116], [112, 97, 105, 114, 63]]
theorem encS_lt (n : Nat) (l : List Str) : (encS l).lt n := by
 simp only [encS, V.lt]
 refine ⟨fun e h => (by cases h), ltRows_map fun x _ => ?_⟩
 simp [ltL, V.lt]
theorem c_Prims (st : St) : VCalls Tryz.prog TT 74 [] st fun r st' => r = .ret (encS prims) ∧ st' = st := by
 refine vfun TT_ok (an := anL []) (L := [0]) (rs := [.tmp 0]) Tryz.func74 rfl (by kernel_rfl) rfl Tryz.ntmps74 rfl rfl (Nat.le_refl _) fun hst ha hf => ?_
 simp only [gw0, reduceEqDiff, ↓reduceIte, reduceAdd, reduceLT, reduceLeDiff, reduceMul]
 exact gives_self (encS_lt _ _) hst
theorem c_Prim (st : St) (s : Str) : VCalls Tryz.prog TT 49 [.str s] st fun r st' => r = .ret (.bool (decide (s ∈ prims))) ∧ st' = st := by
 refine vfun TT_ok (an := anL []) (L := [0, 2]) (rs := [.tmp 2]) Tryz.func49 rfl (by kernel_rfl) rfl Tryz.ntmps49 rfl rfl (Nat.le_refl _) fun hst ha hf => ?_
 simp only [gw0, reduceEqDiff, ↓reduceIte, reduceAdd, reduceLT, reduceLeDiff, reduceMul]
 refine (c_in st prims s).use (wkL_refl _) fun _ => ?_
 simp only [gw0, reduceEqDiff, ↓reduceIte, reduceAdd, reduceLT, reduceLeDiff, reduceMul]
 exact gives_bool rfl hst
theorem take_next {α : Type} {l : List α} {i : Nat} {a : α} (h : l[i]? = some a) : l.take (i + 1) = l.take i ++ [a] := by
 rw [List.take_add_one, h]; rfl
set_option linter.unusedVariables false
mutual
def eqD : Datum → Datum → Bool
 | .mk k n nm s l kids, .mk k' n' nm' s' l' kids' =>
  bif decide (k = k') then
   bif decide (k = 1) then decide (n = n') else bif decide (k = 2) then decide (n = n')
   else bif decide (k = 3) then (decide (nm = nm') && decide (s = s')) && decide (l = l')
   else bif decide (k = 4) then eqDs kids kids' else true
  else false
def eqDs : List Datum → List Datum → Bool
 | [], [] => true
 | a :: r, b :: r' => eqD a b && eqDs r r'
 | [], _ :: _ => false
 | _ :: _, [] => false
end
theorem eqDs_len : ∀ {l m : List Datum}, l.length ≠ m.length → eqDs l m = false
 | [], [], h => absurd rfl h
 | [], _ :: _, _ => by simp only [eqDs]
 | _ :: _, [], _ => by simp only [eqDs]
 | a :: r, b :: r', h => by
  simp only [eqDs, eqDs_len (l := r) (m := r') (by simpa using h), Bool.and_false]
theorem c_Same_of (l : List Datum) (ih : ∀ d ∈ l, ∀ (e : Datum) (st : St), VCalls Tryz.prog TT 62 [.agg (encD d), .agg (encD e)] st fun r st' => r = .ret (.bool (eqD d e)) ∧ st' = st) (m : List Datum) (st : St) :
  VCalls Tryz.prog TT 87 [lstD l, lstD m] st fun r st' => r = .ret (.bool (eqDs l m)) ∧ st' = st := by
 refine vfun TT_ok (an := anL []) (L := [0, 1, 4, 5, 12, 13]) (rs := [.tmp 4]) Tryz.func87 rfl (by kernel_rfl) rfl Tryz.ntmps87 rfl rfl (Nat.le_refl _) fun hst ha hf => ?_
 simp only [lstD, fitL, V.fit, List.length_map] at hf ⊢
 have hkl : l.length ≤ 9223372036854775807 := by simp at hf; omega
 simp only [gw0, reduceEqDiff, ↓reduceIte, reduceAdd, reduceLT, reduceLeDiff, reduceMul, List.length_map]
 refine iK_split (fun h => ?_) (fun h => ?_)
 ·simp only [gw0, reduceEqDiff, ↓reduceIte, reduceAdd, reduceLT, reduceLeDiff, reduceMul]
  refine gives_bool ?_ hst
  rw [eqDs_len]
  simp at h
  omega
 have hlen : l.length = m.length := by simp at h; omega
 simp only [gw0, reduceEqDiff, ↓reduceIte, reduceAdd, reduceLT, reduceLeDiff, reduceMul, List.length_map]
 refine vfor (σ := Nat) [0, 1, 4, 12, 13] (fun i => [(0, true, lstD l), (1, true, lstD m), (4, true, .bool false), (12, true, .int .i64 l.length), (13, true, .int .i64 i)]) (fun i => st) (fun i => l.length - i) (fun i => i ≤ l.length ∧ eqDs l m = eqDs (l.drop i) (m.drop i)) 0 rfl TT_ok ⟨Nat.zero_le _, rfl⟩ rfl rfl ?_
 rintro i ⟨hi, hx⟩
 rw [hx]
 simp only [lstD]
 rcases at_or_end l i hi with ⟨rfl, hd⟩ | ⟨a, hlt, hget, hdr⟩
 ·have hd2 : m.drop l.length = [] := List.drop_of_length_le (by omega)
  simp only [gw0, reduceEqDiff, ↓reduceIte, reduceAdd, reduceLT, reduceLeDiff, reduceMul, lt_no, hd, hd2, eqDs]
  exact gives_bool rfl hst
 ·rcases at_or_end m i (by omega) with ⟨e, hd⟩ | ⟨b, hlt2, hget2, hdr2⟩
  ·omega
  simp only [gw0, reduceEqDiff, ↓reduceIte, reduceAdd, reduceLT, reduceLeDiff, reduceMul, lt_yes hlt, hdr, hdr2, eqDs, List.length_map, Int.ofNat_lt.mpr hlt]
  refine vdraw TT_ok TT_mixed [0, 0, 0, 1, 0, 0, 0, 1, 0, 0] (by kernel_rfl) ?_
  simp only [gw0, reduceEqDiff, ↓reduceIte, reduceAdd, reduceLT, reduceLeDiff, reduceMul, List.length_map, getD_map hget, getD_map hget2, encD_take, encD_len, Int.ofNat_lt.mpr hlt, Int.ofNat_lt.mpr hlt2, Nat.le_refl]
  refine eK_free (ih a (List.mem_of_getElem? hget) b) (wkL_refl _) ?_
  simp only [gw0, reduceEqDiff, ↓reduceIte, reduceAdd, reduceLT, reduceLeDiff, reduceMul]
  refine iK_split (fun h5 => ?_) (fun h5 => ?_)
  ·simp only [gw0, reduceEqDiff, ↓reduceIte, reduceAdd, reduceLT, reduceLeDiff, reduceMul]
   exact gives_bool (by rw [not_yes h5]; rfl) hst
  ·simp only [gw0, reduceEqDiff, ↓reduceIte, reduceAdd, reduceLT, reduceLeDiff, reduceMul, Env.keep]
   exact ⟨i + 1, by rw [next_i64 hlt hkl], by omega, hlt, by rw [not_no h5]; rfl⟩
theorem c_Equal (d : Datum) : ∀ (e : Datum) (st : St), VCalls Tryz.prog TT 62 [.agg (encD d), .agg (encD e)] st fun r st' => r = .ret (.bool (eqD d e)) ∧ st' = st := by
 refine Datum.ind (p := fun d => ∀ (e : Datum) (st : St), VCalls Tryz.prog TT 62 [.agg (encD d), .agg (encD e)] st fun r st' => r = .ret (.bool (eqD d e)) ∧ st' = st) ?_ d
 intro k n nm s l kids ih e st
 obtain ⟨k', n', nm', s', l', kids'⟩ := e
 refine vfun TT_ok (an := anL [(2, 1), (3, 1)]) (L := [0, 1, 2, 3, 4, 11, 12]) (rs := [.tmp 4]) Tryz.func62 rfl (by kernel_rfl) rfl Tryz.ntmps62 rfl rfl (Nat.le_refl _) fun hst ha hf => ?_
 simp only [encD_mk]
 unfold eqD
 simp only [gw0, reduceEqDiff, ↓reduceIte, reduceAdd, reduceLT, reduceLeDiff, reduceMul]
 refine iK_split (fun h => ?_) (fun h => ?_)
 ·rw [not_yes h]
  simp only [gw0, reduceEqDiff, ↓reduceIte, reduceAdd, reduceLT, reduceLeDiff, reduceMul]
  exact gives_bool rfl hst
 rw [not_no h]
 simp only [gw0, reduceEqDiff, ↓reduceIte, reduceAdd, reduceLT, reduceLeDiff, reduceMul]
 refine iK_split (fun h1 => ?_) (fun h1 => ?_)
 ·rw [h1]
  simp only [gw0, reduceEqDiff, ↓reduceIte, reduceAdd, reduceLT, reduceLeDiff, reduceMul]
  exact gives_bool rfl hst
 rw [h1]
 simp only [gw0, reduceEqDiff, ↓reduceIte, reduceAdd, reduceLT, reduceLeDiff, reduceMul]
 refine iK_split (fun h2 => ?_) (fun h2 => ?_)
 ·rw [h2]
  simp only [gw0, reduceEqDiff, ↓reduceIte, reduceAdd, reduceLT, reduceLeDiff, reduceMul]
  exact gives_bool rfl hst
 rw [h2]
 simp only [gw0, reduceEqDiff, ↓reduceIte, reduceAdd, reduceLT, reduceLeDiff, reduceMul]
 refine iK_split (fun h3 => ?_) (fun h3 => ?_)
 ·rw [h3]
  simp only [gw0, reduceEqDiff, ↓reduceIte, reduceAdd, reduceLT, reduceLeDiff, reduceMul]
  exact gives_bool rfl hst
 rw [h3]
 simp only [gw0, reduceEqDiff, ↓reduceIte, reduceAdd, reduceLT, reduceLeDiff, reduceMul]
 refine iK_split (fun h4 => ?_) (fun h4 => ?_)
 ·rw [h4]
  simp only [gw0, reduceEqDiff, ↓reduceIte, reduceAdd, reduceLT, reduceLeDiff, reduceMul]
  refine (c_Same_of kids ih kids' st).use (wkL_refl _) fun _ => ?_
  simp only [gw0, reduceEqDiff, ↓reduceIte, reduceAdd, reduceLT, reduceLeDiff, reduceMul]
  exact gives_bool rfl hst
 ·rw [h4]
  simp only [gw0, reduceEqDiff, ↓reduceIte, reduceAdd, reduceLT, reduceLeDiff, reduceMul]
  exact gives_bool rfl hst
end Go.Proofs.YtcdnooalfkbmgaaGreatDoor.Gx
