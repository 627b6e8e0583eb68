/- The table of the types of this place, as the engine wants it: each row held against the program. Contracts: what the small functions on strings and on lists of strings give. -/
import Derived.Test.YtlblgbfpdlfedaaZO4
import Derived.Test.YtlblgbfpdlfedaaProg
import Derived.KernelRfl
import Derived.Lib.Strings
import Derived.Lib.Walk
import Derived.Lib.Bytealg

namespace Go.Proofs.Ytlblgbfpdlfedaa.Gw
open Go

def tab : List TI := [
  ⟨.other, 0, 0, []⟩,
  ⟨.func, 1, 8, [.nilf]⟩,
  ⟨.int .i64, 1, 8, [.int .i64 0]⟩,
  ⟨.int .i64, 1, 8, [.int .i64 0]⟩,
  ⟨.bool, 1, 1, [.bool false]⟩,
  ⟨.int .u8, 1, 1, [.int .u8 0]⟩,
  ⟨.int .u8, 1, 1, [.int .u8 0]⟩,
  ⟨.struct [(0, 2), (1, 3), (2, 4), (3, 6)], 4, 24, [.int .i64 0, .int .i64 0, .bool false, .int .u8 0]⟩,
  ⟨.struct [(0, 2), (1, 3), (2, 4), (3, 6)], 4, 24, [.int .i64 0, .int .i64 0, .bool false, .int .u8 0]⟩,
  ⟨.str, 1, 16, [.str []]⟩,
  ⟨.str, 1, 16, [.str []]⟩,
  ⟨.str, 1, 16, [.str []]⟩,
  ⟨.int .u64, 1, 8, [.int .u64 0]⟩,
  ⟨.other, 0, 0, []⟩,
  ⟨.other, 0, 0, []⟩,
  ⟨.ptr 117, 1, 8, [.nilp]⟩,
  ⟨.ptr 120, 1, 8, [.nilp]⟩,
  ⟨.ptr 130, 1, 8, [.nilp]⟩,
  ⟨.other, 0, 0, []⟩,
  ⟨.other, 0, 0, []⟩,
  ⟨.iface, 1, 16, [.nili]⟩,
  ⟨.int .i32, 1, 4, [.int .i32 0]⟩,
  ⟨.slice 37, 1, 24, [.nils]⟩,
  ⟨.slice 40, 1, 24, [.nils]⟩,
  ⟨.slice 46, 1, 24, [.nils]⟩,
  ⟨.slice 3, 1, 24, [.nils]⟩,
  ⟨.struct [(0, 23), (1, 24), (2, 25)], 3, 72, [.nils, .nils, .nils]⟩,
  ⟨.struct [(0, 23), (1, 24), (2, 25)], 3, 72, [.nils, .nils, .nils]⟩,
  ⟨.int .i64, 1, 8, [.int .i64 0]⟩,
  ⟨.struct [(0, 28), (1, 3)], 2, 16, [.int .i64 0, .int .i64 0]⟩,
  ⟨.struct [(0, 28), (1, 3)], 2, 16, [.int .i64 0, .int .i64 0]⟩,
  ⟨.other, 0, 0, []⟩,
  ⟨.func, 1, 8, [.nilf]⟩,
  ⟨.func, 1, 8, [.nilf]⟩,
  ⟨.func, 1, 8, [.nilf]⟩,
  ⟨.func, 1, 8, [.nilf]⟩,
  ⟨.struct [(0, 9), (1, 24)], 2, 40, [.str [], .nils]⟩,
  ⟨.struct [(0, 9), (1, 24)], 2, 40, [.str [], .nils]⟩,
  ⟨.map 40 4, 1, 8, [.nilm]⟩,
  ⟨.struct [(0, 9), (1, 9), (2, 9)], 3, 48, [.str [], .str [], .str []]⟩,
  ⟨.struct [(0, 9), (1, 9), (2, 9)], 3, 48, [.str [], .str [], .str []]⟩,
  ⟨.func, 1, 8, [.nilf]⟩,
  ⟨.func, 1, 8, [.nilf]⟩,
  ⟨.func, 1, 8, [.nilf]⟩,
  ⟨.slice 51, 1, 24, [.nils]⟩,
  ⟨.struct [(0, 3), (1, 44)], 2, 32, [.int .i64 0, .nils]⟩,
  ⟨.struct [(0, 3), (1, 44)], 2, 32, [.int .i64 0, .nils]⟩,
  ⟨.slice 49, 1, 24, [.nils]⟩,
  ⟨.struct [(0, 3), (1, 2), (2, 9), (3, 3), (4, 3), (5, 47)], 6, 72, [.int .i64 0, .int .i64 0, .str [], .int .i64 0, .int .i64 0, .nils]⟩,
  ⟨.struct [(0, 3), (1, 2), (2, 9), (3, 3), (4, 3), (5, 47)], 6, 72, [.int .i64 0, .int .i64 0, .str [], .int .i64 0, .int .i64 0, .nils]⟩,
  ⟨.struct [(0, 3), (1, 3), (2, 2), (3, 9), (4, 9), (5, 49)], 11, 128, [.int .i64 0, .int .i64 0, .int .i64 0, .str [], .str [], .int .i64 0, .int .i64 0, .str [], .int .i64 0, .int .i64 0, .nils]⟩,
  ⟨.struct [(0, 3), (1, 3), (2, 2), (3, 9), (4, 9), (5, 49)], 11, 128, [.int .i64 0, .int .i64 0, .int .i64 0, .str [], .str [], .int .i64 0, .int .i64 0, .str [], .int .i64 0, .int .i64 0, .nils]⟩,
  ⟨.func, 1, 8, [.nilf]⟩,
  ⟨.ptr 55, 1, 8, [.nilp]⟩,
  ⟨.struct [(0, 27)], 3, 72, [.nils, .nils, .nils]⟩,
  ⟨.struct [(0, 27)], 3, 72, [.nils, .nils, .nils]⟩,
  ⟨.func, 1, 8, [.nilf]⟩,
  ⟨.func, 1, 8, [.nilf]⟩,
  ⟨.func, 1, 8, [.nilf]⟩,
  ⟨.ptr 37, 1, 8, [.nilp]⟩,
  ⟨.func, 1, 8, [.nilf]⟩,
  ⟨.map 40 3, 1, 8, [.nilm]⟩,
  ⟨.other, 0, 0, []⟩,
  ⟨.func, 1, 8, [.nilf]⟩,
  ⟨.func, 1, 8, [.nilf]⟩,
  ⟨.func, 1, 8, [.nilf]⟩,
  ⟨.func, 1, 8, [.nilf]⟩,
  ⟨.func, 1, 8, [.nilf]⟩,
  ⟨.func, 1, 8, [.nilf]⟩,
  ⟨.func, 1, 8, [.nilf]⟩,
  ⟨.ptr 72, 1, 8, [.nilp]⟩,
  ⟨.struct [(0, 24), (1, 25), (2, 3)], 3, 56, [.nils, .nils, .int .i64 0]⟩,
  ⟨.struct [(0, 24), (1, 25), (2, 3)], 3, 56, [.nils, .nils, .int .i64 0]⟩,
  ⟨.func, 1, 8, [.nilf]⟩,
  ⟨.func, 1, 8, [.nilf]⟩,
  ⟨.func, 1, 8, [.nilf]⟩,
  ⟨.other, 0, 0, []⟩,
  ⟨.func, 1, 8, [.nilf]⟩,
  ⟨.ptr 51, 1, 8, [.nilp]⟩,
  ⟨.map 3 3, 1, 8, [.nilm]⟩,
  ⟨.map 3 4, 1, 8, [.nilm]⟩,
  ⟨.func, 1, 8, [.nilf]⟩,
  ⟨.func, 1, 8, [.nilf]⟩,
  ⟨.func, 1, 8, [.nilf]⟩,
  ⟨.func, 1, 8, [.nilf]⟩,
  ⟨.func, 1, 8, [.nilf]⟩,
  ⟨.func, 1, 8, [.nilf]⟩,
  ⟨.func, 1, 8, [.nilf]⟩,
  ⟨.slice 5, 1, 24, [.nils]⟩,
  ⟨.func, 1, 8, [.nilf]⟩,
  ⟨.func, 1, 8, [.nilf]⟩,
  ⟨.struct [(0, 3), (1, 3)], 2, 16, [.int .i64 0, .int .i64 0]⟩,
  ⟨.struct [(0, 3), (1, 3)], 2, 16, [.int .i64 0, .int .i64 0]⟩,
  ⟨.slice 92, 1, 24, [.nils]⟩,
  ⟨.func, 1, 8, [.nilf]⟩,
  ⟨.func, 1, 8, [.nilf]⟩,
  ⟨.func, 1, 8, [.nilf]⟩,
  ⟨.slice 9, 1, 24, [.nils]⟩,
  ⟨.func, 1, 8, [.nilf]⟩,
  ⟨.func, 1, 8, [.nilf]⟩,
  ⟨.other, 0, 0, []⟩,
  ⟨.func, 1, 8, [.nilf]⟩,
  ⟨.func, 1, 8, [.nilf]⟩,
  ⟨.func, 1, 8, [.nilf]⟩,
  ⟨.ptr 3, 1, 8, [.nilp]⟩,
  ⟨.func, 1, 8, [.nilf]⟩,
  ⟨.ptr 108, 1, 8, [.nilp]⟩,
  ⟨.struct [(0, 3)], 1, 8, [.int .i64 0]⟩,
  ⟨.struct [(0, 3)], 1, 8, [.int .i64 0]⟩,
  ⟨.func, 1, 8, [.nilf]⟩,
  ⟨.ptr 49, 1, 8, [.nilp]⟩,
  ⟨.func, 1, 8, [.nilf]⟩,
  ⟨.func, 1, 8, [.nilf]⟩,
  ⟨.func, 1, 8, [.nilf]⟩,
  ⟨.func, 1, 8, [.nilf]⟩,
  ⟨.func, 1, 8, [.nilf]⟩,
  ⟨.other, 0, 0, []⟩,
  ⟨.other, 0, 0, []⟩,
  ⟨.other, 0, 0, []⟩,
  ⟨.other, 0, 0, []⟩,
  ⟨.other, 0, 0, []⟩,
  ⟨.func, 1, 8, [.nilf]⟩,
  ⟨.int .u32, 1, 4, [.int .u32 0]⟩,
  ⟨.int .u8, 1, 1, [.int .u8 0]⟩,
  ⟨.int .u8, 1, 1, [.int .u8 0]⟩,
  ⟨.func, 1, 8, [.nilf]⟩,
  ⟨.ptr 5, 1, 8, [.nilp]⟩,
  ⟨.int .i32, 1, 4, [.int .i32 0]⟩,
  ⟨.int .i32, 1, 4, [.int .i32 0]⟩,
  ⟨.other, 0, 0, []⟩,
  ⟨.other, 0, 0, []⟩,
  ⟨.other, 0, 0, []⟩]

def TT (t : Nat) : TI := (tab[t]?).getD ⟨.other, 0, 0, []⟩


def rowsOk (P : Program) : Nat → List TI → Prop
  | _, [] => True
  | k, i :: r => (i.kind ≠ .other → TI.ok P k i) ∧ rowsOk P (k + 1) r

theorem rowsOk_get {P : Program} : ∀ (l : List TI) (k t : Nat) (i : TI), rowsOk P k l → l[t]? = some i → i.kind ≠ .other → TI.ok P (k + t) i
  | [], k, t, i, _, h, _ => by simp at h
  | j :: r, k, 0, i, h, h2, h3 => by simp at h2; subst h2; exact h.1 h3
  | j :: r, k, t + 1, i, h, h2, h3 => by
    have := rowsOk_get r (k + 1) t i h.2 (by simpa using h2) h3
    rw [show k + (t + 1) = k + 1 + t by omega]; exact this

theorem row_1 : TI.ok Try.prog 1 (TT 1) := ⟨by kernel_rfl, by kernel_rfl, by kernel_rfl, by kernel_rfl, (by intro h; first | rfl | cases h), (by intro h; first | kernel_rfl | cases h)⟩
theorem row_2 : TI.ok Try.prog 2 (TT 2) := ⟨by kernel_rfl, by kernel_rfl, by kernel_rfl, by kernel_rfl, (by intro h; first | rfl | cases h), (by intro h; first | kernel_rfl | cases h)⟩
theorem row_3 : TI.ok Try.prog 3 (TT 3) := ⟨by kernel_rfl, by kernel_rfl, by kernel_rfl, by kernel_rfl, (by intro h; first | rfl | cases h), (by intro h; first | kernel_rfl | cases h)⟩
theorem row_4 : TI.ok Try.prog 4 (TT 4) := ⟨by kernel_rfl, by kernel_rfl, by kernel_rfl, by kernel_rfl, (by intro h; first | rfl | cases h), (by intro h; first | kernel_rfl | cases h)⟩
theorem row_5 : TI.ok Try.prog 5 (TT 5) := ⟨by kernel_rfl, by kernel_rfl, by kernel_rfl, by kernel_rfl, (by intro h; first | rfl | cases h), (by intro h; first | kernel_rfl | cases h)⟩
theorem row_6 : TI.ok Try.prog 6 (TT 6) := ⟨by kernel_rfl, by kernel_rfl, by kernel_rfl, by kernel_rfl, (by intro h; first | rfl | cases h), (by intro h; first | kernel_rfl | cases h)⟩
theorem row_7 : TI.ok Try.prog 7 (TT 7) := ⟨by kernel_rfl, by kernel_rfl, by kernel_rfl, by kernel_rfl, (by intro h; first | rfl | cases h), (by intro h; first | kernel_rfl | cases h)⟩
theorem row_8 : TI.ok Try.prog 8 (TT 8) := ⟨by kernel_rfl, by kernel_rfl, by kernel_rfl, by kernel_rfl, (by intro h; first | rfl | cases h), (by intro h; first | kernel_rfl | cases h)⟩
theorem row_9 : TI.ok Try.prog 9 (TT 9) := ⟨by kernel_rfl, by kernel_rfl, by kernel_rfl, by kernel_rfl, (by intro h; first | rfl | cases h), (by intro h; first | kernel_rfl | cases h)⟩
theorem row_10 : TI.ok Try.prog 10 (TT 10) := ⟨by kernel_rfl, by kernel_rfl, by kernel_rfl, by kernel_rfl, (by intro h; first | rfl | cases h), (by intro h; first | kernel_rfl | cases h)⟩
theorem row_11 : TI.ok Try.prog 11 (TT 11) := ⟨by kernel_rfl, by kernel_rfl, by kernel_rfl, by kernel_rfl, (by intro h; first | rfl | cases h), (by intro h; first | kernel_rfl | cases h)⟩
theorem row_12 : TI.ok Try.prog 12 (TT 12) := ⟨by kernel_rfl, by kernel_rfl, by kernel_rfl, by kernel_rfl, (by intro h; first | rfl | cases h), (by intro h; first | kernel_rfl | cases h)⟩
theorem row_15 : TI.ok Try.prog 15 (TT 15) := ⟨by kernel_rfl, by kernel_rfl, by kernel_rfl, by kernel_rfl, (by intro h; first | rfl | cases h), (by intro h; first | kernel_rfl | cases h)⟩
theorem row_16 : TI.ok Try.prog 16 (TT 16) := ⟨by kernel_rfl, by kernel_rfl, by kernel_rfl, by kernel_rfl, (by intro h; first | rfl | cases h), (by intro h; first | kernel_rfl | cases h)⟩
theorem row_17 : TI.ok Try.prog 17 (TT 17) := ⟨by kernel_rfl, by kernel_rfl, by kernel_rfl, by kernel_rfl, (by intro h; first | rfl | cases h), (by intro h; first | kernel_rfl | cases h)⟩
theorem row_20 : TI.ok Try.prog 20 (TT 20) := ⟨by kernel_rfl, by kernel_rfl, by kernel_rfl, by kernel_rfl, (by intro h; first | rfl | cases h), (by intro h; first | kernel_rfl | cases h)⟩
theorem row_21 : TI.ok Try.prog 21 (TT 21) := ⟨by kernel_rfl, by kernel_rfl, by kernel_rfl, by kernel_rfl, (by intro h; first | rfl | cases h), (by intro h; first | kernel_rfl | cases h)⟩
theorem row_22 : TI.ok Try.prog 22 (TT 22) := ⟨by kernel_rfl, by kernel_rfl, by kernel_rfl, by kernel_rfl, (by intro h; first | rfl | cases h), (by intro h; first | kernel_rfl | cases h)⟩
theorem row_23 : TI.ok Try.prog 23 (TT 23) := ⟨by kernel_rfl, by kernel_rfl, by kernel_rfl, by kernel_rfl, (by intro h; first | rfl | cases h), (by intro h; first | kernel_rfl | cases h)⟩
theorem row_24 : TI.ok Try.prog 24 (TT 24) := ⟨by kernel_rfl, by kernel_rfl, by kernel_rfl, by kernel_rfl, (by intro h; first | rfl | cases h), (by intro h; first | kernel_rfl | cases h)⟩
theorem row_25 : TI.ok Try.prog 25 (TT 25) := ⟨by kernel_rfl, by kernel_rfl, by kernel_rfl, by kernel_rfl, (by intro h; first | rfl | cases h), (by intro h; first | kernel_rfl | cases h)⟩
theorem row_26 : TI.ok Try.prog 26 (TT 26) := ⟨by kernel_rfl, by kernel_rfl, by kernel_rfl, by kernel_rfl, (by intro h; first | rfl | cases h), (by intro h; first | kernel_rfl | cases h)⟩
theorem row_27 : TI.ok Try.prog 27 (TT 27) := ⟨by kernel_rfl, by kernel_rfl, by kernel_rfl, by kernel_rfl, (by intro h; first | rfl | cases h), (by intro h; first | kernel_rfl | cases h)⟩
theorem row_28 : TI.ok Try.prog 28 (TT 28) := ⟨by kernel_rfl, by kernel_rfl, by kernel_rfl, by kernel_rfl, (by intro h; first | rfl | cases h), (by intro h; first | kernel_rfl | cases h)⟩
theorem row_29 : TI.ok Try.prog 29 (TT 29) := ⟨by kernel_rfl, by kernel_rfl, by kernel_rfl, by kernel_rfl, (by intro h; first | rfl | cases h), (by intro h; first | kernel_rfl | cases h)⟩
theorem row_30 : TI.ok Try.prog 30 (TT 30) := ⟨by kernel_rfl, by kernel_rfl, by kernel_rfl, by kernel_rfl, (by intro h; first | rfl | cases h), (by intro h; first | kernel_rfl | cases h)⟩
theorem row_32 : TI.ok Try.prog 32 (TT 32) := ⟨by kernel_rfl, by kernel_rfl, by kernel_rfl, by kernel_rfl, (by intro h; first | rfl | cases h), (by intro h; first | kernel_rfl | cases h)⟩
theorem row_33 : TI.ok Try.prog 33 (TT 33) := ⟨by kernel_rfl, by kernel_rfl, by kernel_rfl, by kernel_rfl, (by intro h; first | rfl | cases h), (by intro h; first | kernel_rfl | cases h)⟩
theorem row_34 : TI.ok Try.prog 34 (TT 34) := ⟨by kernel_rfl, by kernel_rfl, by kernel_rfl, by kernel_rfl, (by intro h; first | rfl | cases h), (by intro h; first | kernel_rfl | cases h)⟩
theorem row_35 : TI.ok Try.prog 35 (TT 35) := ⟨by kernel_rfl, by kernel_rfl, by kernel_rfl, by kernel_rfl, (by intro h; first | rfl | cases h), (by intro h; first | kernel_rfl | cases h)⟩
theorem row_36 : TI.ok Try.prog 36 (TT 36) := ⟨by kernel_rfl, by kernel_rfl, by kernel_rfl, by kernel_rfl, (by intro h; first | rfl | cases h), (by intro h; first | kernel_rfl | cases h)⟩
theorem row_37 : TI.ok Try.prog 37 (TT 37) := ⟨by kernel_rfl, by kernel_rfl, by kernel_rfl, by kernel_rfl, (by intro h; first | rfl | cases h), (by intro h; first | kernel_rfl | cases h)⟩
theorem row_38 : TI.ok Try.prog 38 (TT 38) := ⟨by kernel_rfl, by kernel_rfl, by kernel_rfl, by kernel_rfl, (by intro h; first | rfl | cases h), (by intro h; first | kernel_rfl | cases h)⟩
theorem row_39 : TI.ok Try.prog 39 (TT 39) := ⟨by kernel_rfl, by kernel_rfl, by kernel_rfl, by kernel_rfl, (by intro h; first | rfl | cases h), (by intro h; first | kernel_rfl | cases h)⟩
theorem row_40 : TI.ok Try.prog 40 (TT 40) := ⟨by kernel_rfl, by kernel_rfl, by kernel_rfl, by kernel_rfl, (by intro h; first | rfl | cases h), (by intro h; first | kernel_rfl | cases h)⟩
theorem row_41 : TI.ok Try.prog 41 (TT 41) := ⟨by kernel_rfl, by kernel_rfl, by kernel_rfl, by kernel_rfl, (by intro h; first | rfl | cases h), (by intro h; first | kernel_rfl | cases h)⟩
theorem row_42 : TI.ok Try.prog 42 (TT 42) := ⟨by kernel_rfl, by kernel_rfl, by kernel_rfl, by kernel_rfl, (by intro h; first | rfl | cases h), (by intro h; first | kernel_rfl | cases h)⟩
theorem row_43 : TI.ok Try.prog 43 (TT 43) := ⟨by kernel_rfl, by kernel_rfl, by kernel_rfl, by kernel_rfl, (by intro h; first | rfl | cases h), (by intro h; first | kernel_rfl | cases h)⟩
theorem row_44 : TI.ok Try.prog 44 (TT 44) := ⟨by kernel_rfl, by kernel_rfl, by kernel_rfl, by kernel_rfl, (by intro h; first | rfl | cases h), (by intro h; first | kernel_rfl | cases h)⟩
theorem row_45 : TI.ok Try.prog 45 (TT 45) := ⟨by kernel_rfl, by kernel_rfl, by kernel_rfl, by kernel_rfl, (by intro h; first | rfl | cases h), (by intro h; first | kernel_rfl | cases h)⟩
theorem row_46 : TI.ok Try.prog 46 (TT 46) := ⟨by kernel_rfl, by kernel_rfl, by kernel_rfl, by kernel_rfl, (by intro h; first | rfl | cases h), (by intro h; first | kernel_rfl | cases h)⟩
theorem row_47 : TI.ok Try.prog 47 (TT 47) := ⟨by kernel_rfl, by kernel_rfl, by kernel_rfl, by kernel_rfl, (by intro h; first | rfl | cases h), (by intro h; first | kernel_rfl | cases h)⟩
theorem row_48 : TI.ok Try.prog 48 (TT 48) := ⟨by kernel_rfl, by kernel_rfl, by kernel_rfl, by kernel_rfl, (by intro h; first | rfl | cases h), (by intro h; first | kernel_rfl | cases h)⟩
theorem row_49 : TI.ok Try.prog 49 (TT 49) := ⟨by kernel_rfl, by kernel_rfl, by kernel_rfl, by kernel_rfl, (by intro h; first | rfl | cases h), (by intro h; first | kernel_rfl | cases h)⟩
theorem row_50 : TI.ok Try.prog 50 (TT 50) := ⟨by kernel_rfl, by kernel_rfl, by kernel_rfl, by kernel_rfl, (by intro h; first | rfl | cases h), (by intro h; first | kernel_rfl | cases h)⟩
theorem row_51 : TI.ok Try.prog 51 (TT 51) := ⟨by kernel_rfl, by kernel_rfl, by kernel_rfl, by kernel_rfl, (by intro h; first | rfl | cases h), (by intro h; first | kernel_rfl | cases h)⟩
theorem row_52 : TI.ok Try.prog 52 (TT 52) := ⟨by kernel_rfl, by kernel_rfl, by kernel_rfl, by kernel_rfl, (by intro h; first | rfl | cases h), (by intro h; first | kernel_rfl | cases h)⟩
theorem row_53 : TI.ok Try.prog 53 (TT 53) := ⟨by kernel_rfl, by kernel_rfl, by kernel_rfl, by kernel_rfl, (by intro h; first | rfl | cases h), (by intro h; first | kernel_rfl | cases h)⟩
theorem row_54 : TI.ok Try.prog 54 (TT 54) := ⟨by kernel_rfl, by kernel_rfl, by kernel_rfl, by kernel_rfl, (by intro h; first | rfl | cases h), (by intro h; first | kernel_rfl | cases h)⟩
theorem row_55 : TI.ok Try.prog 55 (TT 55) := ⟨by kernel_rfl, by kernel_rfl, by kernel_rfl, by kernel_rfl, (by intro h; first | rfl | cases h), (by intro h; first | kernel_rfl | cases h)⟩
theorem row_56 : TI.ok Try.prog 56 (TT 56) := ⟨by kernel_rfl, by kernel_rfl, by kernel_rfl, by kernel_rfl, (by intro h; first | rfl | cases h), (by intro h; first | kernel_rfl | cases h)⟩
theorem row_57 : TI.ok Try.prog 57 (TT 57) := ⟨by kernel_rfl, by kernel_rfl, by kernel_rfl, by kernel_rfl, (by intro h; first | rfl | cases h), (by intro h; first | kernel_rfl | cases h)⟩
theorem row_58 : TI.ok Try.prog 58 (TT 58) := ⟨by kernel_rfl, by kernel_rfl, by kernel_rfl, by kernel_rfl, (by intro h; first | rfl | cases h), (by intro h; first | kernel_rfl | cases h)⟩
theorem row_59 : TI.ok Try.prog 59 (TT 59) := ⟨by kernel_rfl, by kernel_rfl, by kernel_rfl, by kernel_rfl, (by intro h; first | rfl | cases h), (by intro h; first | kernel_rfl | cases h)⟩
theorem row_60 : TI.ok Try.prog 60 (TT 60) := ⟨by kernel_rfl, by kernel_rfl, by kernel_rfl, by kernel_rfl, (by intro h; first | rfl | cases h), (by intro h; first | kernel_rfl | cases h)⟩
theorem row_61 : TI.ok Try.prog 61 (TT 61) := ⟨by kernel_rfl, by kernel_rfl, by kernel_rfl, by kernel_rfl, (by intro h; first | rfl | cases h), (by intro h; first | kernel_rfl | cases h)⟩
theorem row_63 : TI.ok Try.prog 63 (TT 63) := ⟨by kernel_rfl, by kernel_rfl, by kernel_rfl, by kernel_rfl, (by intro h; first | rfl | cases h), (by intro h; first | kernel_rfl | cases h)⟩
theorem row_64 : TI.ok Try.prog 64 (TT 64) := ⟨by kernel_rfl, by kernel_rfl, by kernel_rfl, by kernel_rfl, (by intro h; first | rfl | cases h), (by intro h; first | kernel_rfl | cases h)⟩
theorem row_65 : TI.ok Try.prog 65 (TT 65) := ⟨by kernel_rfl, by kernel_rfl, by kernel_rfl, by kernel_rfl, (by intro h; first | rfl | cases h), (by intro h; first | kernel_rfl | cases h)⟩
theorem row_66 : TI.ok Try.prog 66 (TT 66) := ⟨by kernel_rfl, by kernel_rfl, by kernel_rfl, by kernel_rfl, (by intro h; first | rfl | cases h), (by intro h; first | kernel_rfl | cases h)⟩
theorem row_67 : TI.ok Try.prog 67 (TT 67) := ⟨by kernel_rfl, by kernel_rfl, by kernel_rfl, by kernel_rfl, (by intro h; first | rfl | cases h), (by intro h; first | kernel_rfl | cases h)⟩
theorem row_68 : TI.ok Try.prog 68 (TT 68) := ⟨by kernel_rfl, by kernel_rfl, by kernel_rfl, by kernel_rfl, (by intro h; first | rfl | cases h), (by intro h; first | kernel_rfl | cases h)⟩
theorem row_69 : TI.ok Try.prog 69 (TT 69) := ⟨by kernel_rfl, by kernel_rfl, by kernel_rfl, by kernel_rfl, (by intro h; first | rfl | cases h), (by intro h; first | kernel_rfl | cases h)⟩
theorem row_70 : TI.ok Try.prog 70 (TT 70) := ⟨by kernel_rfl, by kernel_rfl, by kernel_rfl, by kernel_rfl, (by intro h; first | rfl | cases h), (by intro h; first | kernel_rfl | cases h)⟩
theorem row_71 : TI.ok Try.prog 71 (TT 71) := ⟨by kernel_rfl, by kernel_rfl, by kernel_rfl, by kernel_rfl, (by intro h; first | rfl | cases h), (by intro h; first | kernel_rfl | cases h)⟩
theorem row_72 : TI.ok Try.prog 72 (TT 72) := ⟨by kernel_rfl, by kernel_rfl, by kernel_rfl, by kernel_rfl, (by intro h; first | rfl | cases h), (by intro h; first | kernel_rfl | cases h)⟩
theorem row_73 : TI.ok Try.prog 73 (TT 73) := ⟨by kernel_rfl, by kernel_rfl, by kernel_rfl, by kernel_rfl, (by intro h; first | rfl | cases h), (by intro h; first | kernel_rfl | cases h)⟩
theorem row_74 : TI.ok Try.prog 74 (TT 74) := ⟨by kernel_rfl, by kernel_rfl, by kernel_rfl, by kernel_rfl, (by intro h; first | rfl | cases h), (by intro h; first | kernel_rfl | cases h)⟩
theorem row_75 : TI.ok Try.prog 75 (TT 75) := ⟨by kernel_rfl, by kernel_rfl, by kernel_rfl, by kernel_rfl, (by intro h; first | rfl | cases h), (by intro h; first | kernel_rfl | cases h)⟩
theorem row_77 : TI.ok Try.prog 77 (TT 77) := ⟨by kernel_rfl, by kernel_rfl, by kernel_rfl, by kernel_rfl, (by intro h; first | rfl | cases h), (by intro h; first | kernel_rfl | cases h)⟩
theorem row_78 : TI.ok Try.prog 78 (TT 78) := ⟨by kernel_rfl, by kernel_rfl, by kernel_rfl, by kernel_rfl, (by intro h; first | rfl | cases h), (by intro h; first | kernel_rfl | cases h)⟩
theorem row_79 : TI.ok Try.prog 79 (TT 79) := ⟨by kernel_rfl, by kernel_rfl, by kernel_rfl, by kernel_rfl, (by intro h; first | rfl | cases h), (by intro h; first | kernel_rfl | cases h)⟩
theorem row_80 : TI.ok Try.prog 80 (TT 80) := ⟨by kernel_rfl, by kernel_rfl, by kernel_rfl, by kernel_rfl, (by intro h; first | rfl | cases h), (by intro h; first | kernel_rfl | cases h)⟩
theorem row_81 : TI.ok Try.prog 81 (TT 81) := ⟨by kernel_rfl, by kernel_rfl, by kernel_rfl, by kernel_rfl, (by intro h; first | rfl | cases h), (by intro h; first | kernel_rfl | cases h)⟩
theorem row_82 : TI.ok Try.prog 82 (TT 82) := ⟨by kernel_rfl, by kernel_rfl, by kernel_rfl, by kernel_rfl, (by intro h; first | rfl | cases h), (by intro h; first | kernel_rfl | cases h)⟩
theorem row_83 : TI.ok Try.prog 83 (TT 83) := ⟨by kernel_rfl, by kernel_rfl, by kernel_rfl, by kernel_rfl, (by intro h; first | rfl | cases h), (by intro h; first | kernel_rfl | cases h)⟩
theorem row_84 : TI.ok Try.prog 84 (TT 84) := ⟨by kernel_rfl, by kernel_rfl, by kernel_rfl, by kernel_rfl, (by intro h; first | rfl | cases h), (by intro h; first | kernel_rfl | cases h)⟩
theorem row_85 : TI.ok Try.prog 85 (TT 85) := ⟨by kernel_rfl, by kernel_rfl, by kernel_rfl, by kernel_rfl, (by intro h; first | rfl | cases h), (by intro h; first | kernel_rfl | cases h)⟩
theorem row_86 : TI.ok Try.prog 86 (TT 86) := ⟨by kernel_rfl, by kernel_rfl, by kernel_rfl, by kernel_rfl, (by intro h; first | rfl | cases h), (by intro h; first | kernel_rfl | cases h)⟩
theorem row_87 : TI.ok Try.prog 87 (TT 87) := ⟨by kernel_rfl, by kernel_rfl, by kernel_rfl, by kernel_rfl, (by intro h; first | rfl | cases h), (by intro h; first | kernel_rfl | cases h)⟩
theorem row_88 : TI.ok Try.prog 88 (TT 88) := ⟨by kernel_rfl, by kernel_rfl, by kernel_rfl, by kernel_rfl, (by intro h; first | rfl | cases h), (by intro h; first | kernel_rfl | cases h)⟩
theorem row_89 : TI.ok Try.prog 89 (TT 89) := ⟨by kernel_rfl, by kernel_rfl, by kernel_rfl, by kernel_rfl, (by intro h; first | rfl | cases h), (by intro h; first | kernel_rfl | cases h)⟩
theorem row_90 : TI.ok Try.prog 90 (TT 90) := ⟨by kernel_rfl, by kernel_rfl, by kernel_rfl, by kernel_rfl, (by intro h; first | rfl | cases h), (by intro h; first | kernel_rfl | cases h)⟩
theorem row_91 : TI.ok Try.prog 91 (TT 91) := ⟨by kernel_rfl, by kernel_rfl, by kernel_rfl, by kernel_rfl, (by intro h; first | rfl | cases h), (by intro h; first | kernel_rfl | cases h)⟩
theorem row_92 : TI.ok Try.prog 92 (TT 92) := ⟨by kernel_rfl, by kernel_rfl, by kernel_rfl, by kernel_rfl, (by intro h; first | rfl | cases h), (by intro h; first | kernel_rfl | cases h)⟩
theorem row_93 : TI.ok Try.prog 93 (TT 93) := ⟨by kernel_rfl, by kernel_rfl, by kernel_rfl, by kernel_rfl, (by intro h; first | rfl | cases h), (by intro h; first | kernel_rfl | cases h)⟩
theorem row_94 : TI.ok Try.prog 94 (TT 94) := ⟨by kernel_rfl, by kernel_rfl, by kernel_rfl, by kernel_rfl, (by intro h; first | rfl | cases h), (by intro h; first | kernel_rfl | cases h)⟩
theorem row_95 : TI.ok Try.prog 95 (TT 95) := ⟨by kernel_rfl, by kernel_rfl, by kernel_rfl, by kernel_rfl, (by intro h; first | rfl | cases h), (by intro h; first | kernel_rfl | cases h)⟩
theorem row_96 : TI.ok Try.prog 96 (TT 96) := ⟨by kernel_rfl, by kernel_rfl, by kernel_rfl, by kernel_rfl, (by intro h; first | rfl | cases h), (by intro h; first | kernel_rfl | cases h)⟩
theorem row_97 : TI.ok Try.prog 97 (TT 97) := ⟨by kernel_rfl, by kernel_rfl, by kernel_rfl, by kernel_rfl, (by intro h; first | rfl | cases h), (by intro h; first | kernel_rfl | cases h)⟩
theorem row_98 : TI.ok Try.prog 98 (TT 98) := ⟨by kernel_rfl, by kernel_rfl, by kernel_rfl, by kernel_rfl, (by intro h; first | rfl | cases h), (by intro h; first | kernel_rfl | cases h)⟩
theorem row_99 : TI.ok Try.prog 99 (TT 99) := ⟨by kernel_rfl, by kernel_rfl, by kernel_rfl, by kernel_rfl, (by intro h; first | rfl | cases h), (by intro h; first | kernel_rfl | cases h)⟩
theorem row_101 : TI.ok Try.prog 101 (TT 101) := ⟨by kernel_rfl, by kernel_rfl, by kernel_rfl, by kernel_rfl, (by intro h; first | rfl | cases h), (by intro h; first | kernel_rfl | cases h)⟩
theorem row_102 : TI.ok Try.prog 102 (TT 102) := ⟨by kernel_rfl, by kernel_rfl, by kernel_rfl, by kernel_rfl, (by intro h; first | rfl | cases h), (by intro h; first | kernel_rfl | cases h)⟩
theorem row_103 : TI.ok Try.prog 103 (TT 103) := ⟨by kernel_rfl, by kernel_rfl, by kernel_rfl, by kernel_rfl, (by intro h; first | rfl | cases h), (by intro h; first | kernel_rfl | cases h)⟩
theorem row_104 : TI.ok Try.prog 104 (TT 104) := ⟨by kernel_rfl, by kernel_rfl, by kernel_rfl, by kernel_rfl, (by intro h; first | rfl | cases h), (by intro h; first | kernel_rfl | cases h)⟩
theorem row_105 : TI.ok Try.prog 105 (TT 105) := ⟨by kernel_rfl, by kernel_rfl, by kernel_rfl, by kernel_rfl, (by intro h; first | rfl | cases h), (by intro h; first | kernel_rfl | cases h)⟩
theorem row_106 : TI.ok Try.prog 106 (TT 106) := ⟨by kernel_rfl, by kernel_rfl, by kernel_rfl, by kernel_rfl, (by intro h; first | rfl | cases h), (by intro h; first | kernel_rfl | cases h)⟩
theorem row_107 : TI.ok Try.prog 107 (TT 107) := ⟨by kernel_rfl, by kernel_rfl, by kernel_rfl, by kernel_rfl, (by intro h; first | rfl | cases h), (by intro h; first | kernel_rfl | cases h)⟩
theorem row_108 : TI.ok Try.prog 108 (TT 108) := ⟨by kernel_rfl, by kernel_rfl, by kernel_rfl, by kernel_rfl, (by intro h; first | rfl | cases h), (by intro h; first | kernel_rfl | cases h)⟩
theorem row_109 : TI.ok Try.prog 109 (TT 109) := ⟨by kernel_rfl, by kernel_rfl, by kernel_rfl, by kernel_rfl, (by intro h; first | rfl | cases h), (by intro h; first | kernel_rfl | cases h)⟩
theorem row_110 : TI.ok Try.prog 110 (TT 110) := ⟨by kernel_rfl, by kernel_rfl, by kernel_rfl, by kernel_rfl, (by intro h; first | rfl | cases h), (by intro h; first | kernel_rfl | cases h)⟩
theorem row_111 : TI.ok Try.prog 111 (TT 111) := ⟨by kernel_rfl, by kernel_rfl, by kernel_rfl, by kernel_rfl, (by intro h; first | rfl | cases h), (by intro h; first | kernel_rfl | cases h)⟩
theorem row_112 : TI.ok Try.prog 112 (TT 112) := ⟨by kernel_rfl, by kernel_rfl, by kernel_rfl, by kernel_rfl, (by intro h; first | rfl | cases h), (by intro h; first | kernel_rfl | cases h)⟩
theorem row_113 : TI.ok Try.prog 113 (TT 113) := ⟨by kernel_rfl, by kernel_rfl, by kernel_rfl, by kernel_rfl, (by intro h; first | rfl | cases h), (by intro h; first | kernel_rfl | cases h)⟩
theorem row_114 : TI.ok Try.prog 114 (TT 114) := ⟨by kernel_rfl, by kernel_rfl, by kernel_rfl, by kernel_rfl, (by intro h; first | rfl | cases h), (by intro h; first | kernel_rfl | cases h)⟩
theorem row_115 : TI.ok Try.prog 115 (TT 115) := ⟨by kernel_rfl, by kernel_rfl, by kernel_rfl, by kernel_rfl, (by intro h; first | rfl | cases h), (by intro h; first | kernel_rfl | cases h)⟩
theorem row_121 : TI.ok Try.prog 121 (TT 121) := ⟨by kernel_rfl, by kernel_rfl, by kernel_rfl, by kernel_rfl, (by intro h; first | rfl | cases h), (by intro h; first | kernel_rfl | cases h)⟩
theorem row_122 : TI.ok Try.prog 122 (TT 122) := ⟨by kernel_rfl, by kernel_rfl, by kernel_rfl, by kernel_rfl, (by intro h; first | rfl | cases h), (by intro h; first | kernel_rfl | cases h)⟩
theorem row_123 : TI.ok Try.prog 123 (TT 123) := ⟨by kernel_rfl, by kernel_rfl, by kernel_rfl, by kernel_rfl, (by intro h; first | rfl | cases h), (by intro h; first | kernel_rfl | cases h)⟩
theorem row_124 : TI.ok Try.prog 124 (TT 124) := ⟨by kernel_rfl, by kernel_rfl, by kernel_rfl, by kernel_rfl, (by intro h; first | rfl | cases h), (by intro h; first | kernel_rfl | cases h)⟩
theorem row_125 : TI.ok Try.prog 125 (TT 125) := ⟨by kernel_rfl, by kernel_rfl, by kernel_rfl, by kernel_rfl, (by intro h; first | rfl | cases h), (by intro h; first | kernel_rfl | cases h)⟩
theorem row_126 : TI.ok Try.prog 126 (TT 126) := ⟨by kernel_rfl, by kernel_rfl, by kernel_rfl, by kernel_rfl, (by intro h; first | rfl | cases h), (by intro h; first | kernel_rfl | cases h)⟩
theorem row_127 : TI.ok Try.prog 127 (TT 127) := ⟨by kernel_rfl, by kernel_rfl, by kernel_rfl, by kernel_rfl, (by intro h; first | rfl | cases h), (by intro h; first | kernel_rfl | cases h)⟩
theorem row_128 : TI.ok Try.prog 128 (TT 128) := ⟨by kernel_rfl, by kernel_rfl, by kernel_rfl, by kernel_rfl, (by intro h; first | rfl | cases h), (by intro h; first | kernel_rfl | cases h)⟩

theorem rows_ok : rowsOk Try.prog 0 tab := by
  refine ⟨fun h => absurd rfl h, fun _ => row_1, fun _ => row_2, fun _ => row_3, fun _ => row_4, fun _ => row_5, fun _ => row_6, fun _ => row_7, fun _ => row_8, fun _ => row_9, fun _ => row_10, fun _ => row_11, fun _ => row_12, fun h => absurd rfl h, fun h => absurd rfl h, fun _ => row_15, fun _ => row_16, fun _ => row_17, fun h => absurd rfl h, fun h => absurd rfl h, fun _ => row_20, fun _ => row_21, fun _ => row_22, fun _ => row_23, fun _ => row_24, fun _ => row_25, fun _ => row_26, fun _ => row_27, fun _ => row_28, fun _ => row_29, fun _ => row_30, fun h => absurd rfl h, fun _ => row_32, fun _ => row_33, fun _ => row_34, fun _ => row_35, fun _ => row_36, fun _ => row_37, fun _ => row_38, fun _ => row_39, fun _ => row_40, fun _ => row_41, fun _ => row_42, fun _ => row_43, fun _ => row_44, fun _ => row_45, fun _ => row_46, fun _ => row_47, fun _ => row_48, fun _ => row_49, fun _ => row_50, fun _ => row_51, fun _ => row_52, fun _ => row_53, fun _ => row_54, fun _ => row_55, fun _ => row_56, fun _ => row_57, fun _ => row_58, fun _ => row_59, fun _ => row_60, fun _ => row_61, fun h => absurd rfl h, fun _ => row_63, fun _ => row_64, fun _ => row_65, fun _ => row_66, fun _ => row_67, fun _ => row_68, fun _ => row_69, fun _ => row_70, fun _ => row_71, fun _ => row_72, fun _ => row_73, fun _ => row_74, fun _ => row_75, fun h => absurd rfl h, fun _ => row_77, fun _ => row_78, fun _ => row_79, fun _ => row_80, fun _ => row_81, fun _ => row_82, fun _ => row_83, fun _ => row_84, fun _ => row_85, fun _ => row_86, fun _ => row_87, fun _ => row_88, fun _ => row_89, fun _ => row_90, fun _ => row_91, fun _ => row_92, fun _ => row_93, fun _ => row_94, fun _ => row_95, fun _ => row_96, fun _ => row_97, fun _ => row_98, fun _ => row_99, fun h => absurd rfl h, fun _ => row_101, fun _ => row_102, fun _ => row_103, fun _ => row_104, fun _ => row_105, fun _ => row_106, fun _ => row_107, fun _ => row_108, fun _ => row_109, fun _ => row_110, fun _ => row_111, fun _ => row_112, fun _ => row_113, fun _ => row_114, fun _ => row_115, fun h => absurd rfl h, fun h => absurd rfl h, fun h => absurd rfl h, fun h => absurd rfl h, fun h => absurd rfl h, fun _ => row_121, fun _ => row_122, fun _ => row_123, fun _ => row_124, fun _ => row_125, fun _ => row_126, fun _ => row_127, fun _ => row_128, fun h => absurd rfl h, fun h => absurd rfl h, fun h => absurd rfl h, trivial⟩

theorem gwTT :
    (TT 1 = ⟨.func, 1, 8, [.nilf]⟩) ∧
    (TT 2 = ⟨.int .i64, 1, 8, [.int .i64 0]⟩) ∧
    (TT 3 = ⟨.int .i64, 1, 8, [.int .i64 0]⟩) ∧
    (TT 4 = ⟨.bool, 1, 1, [.bool false]⟩) ∧
    (TT 5 = ⟨.int .u8, 1, 1, [.int .u8 0]⟩) ∧
    (TT 6 = ⟨.int .u8, 1, 1, [.int .u8 0]⟩) ∧
    (TT 7 = ⟨.struct [(0, 2), (1, 3), (2, 4), (3, 6)], 4, 24, [.int .i64 0, .int .i64 0, .bool false, .int .u8 0]⟩) ∧
    (TT 8 = ⟨.struct [(0, 2), (1, 3), (2, 4), (3, 6)], 4, 24, [.int .i64 0, .int .i64 0, .bool false, .int .u8 0]⟩) ∧
    (TT 9 = ⟨.str, 1, 16, [.str []]⟩) ∧
    (TT 10 = ⟨.str, 1, 16, [.str []]⟩) ∧
    (TT 11 = ⟨.str, 1, 16, [.str []]⟩) ∧
    (TT 12 = ⟨.int .u64, 1, 8, [.int .u64 0]⟩) ∧
    (TT 15 = ⟨.ptr 117, 1, 8, [.nilp]⟩) ∧
    (TT 16 = ⟨.ptr 120, 1, 8, [.nilp]⟩) ∧
    (TT 17 = ⟨.ptr 130, 1, 8, [.nilp]⟩) ∧
    (TT 20 = ⟨.iface, 1, 16, [.nili]⟩) ∧
    (TT 21 = ⟨.int .i32, 1, 4, [.int .i32 0]⟩) ∧
    (TT 22 = ⟨.slice 37, 1, 24, [.nils]⟩) ∧
    (TT 23 = ⟨.slice 40, 1, 24, [.nils]⟩) ∧
    (TT 24 = ⟨.slice 46, 1, 24, [.nils]⟩) ∧
    (TT 25 = ⟨.slice 3, 1, 24, [.nils]⟩) ∧
    (TT 26 = ⟨.struct [(0, 23), (1, 24), (2, 25)], 3, 72, [.nils, .nils, .nils]⟩) ∧
    (TT 27 = ⟨.struct [(0, 23), (1, 24), (2, 25)], 3, 72, [.nils, .nils, .nils]⟩) ∧
    (TT 28 = ⟨.int .i64, 1, 8, [.int .i64 0]⟩) ∧
    (TT 29 = ⟨.struct [(0, 28), (1, 3)], 2, 16, [.int .i64 0, .int .i64 0]⟩) ∧
    (TT 30 = ⟨.struct [(0, 28), (1, 3)], 2, 16, [.int .i64 0, .int .i64 0]⟩) ∧
    (TT 32 = ⟨.func, 1, 8, [.nilf]⟩) ∧
    (TT 33 = ⟨.func, 1, 8, [.nilf]⟩) ∧
    (TT 34 = ⟨.func, 1, 8, [.nilf]⟩) ∧
    (TT 35 = ⟨.func, 1, 8, [.nilf]⟩) ∧
    (TT 36 = ⟨.struct [(0, 9), (1, 24)], 2, 40, [.str [], .nils]⟩) ∧
    (TT 37 = ⟨.struct [(0, 9), (1, 24)], 2, 40, [.str [], .nils]⟩) ∧
    (TT 38 = ⟨.map 40 4, 1, 8, [.nilm]⟩) ∧
    (TT 39 = ⟨.struct [(0, 9), (1, 9), (2, 9)], 3, 48, [.str [], .str [], .str []]⟩) ∧
    (TT 40 = ⟨.struct [(0, 9), (1, 9), (2, 9)], 3, 48, [.str [], .str [], .str []]⟩) ∧
    (TT 41 = ⟨.func, 1, 8, [.nilf]⟩) ∧
    (TT 42 = ⟨.func, 1, 8, [.nilf]⟩) ∧
    (TT 43 = ⟨.func, 1, 8, [.nilf]⟩) ∧
    (TT 44 = ⟨.slice 51, 1, 24, [.nils]⟩) ∧
    (TT 45 = ⟨.struct [(0, 3), (1, 44)], 2, 32, [.int .i64 0, .nils]⟩) ∧
    (TT 46 = ⟨.struct [(0, 3), (1, 44)], 2, 32, [.int .i64 0, .nils]⟩) ∧
    (TT 47 = ⟨.slice 49, 1, 24, [.nils]⟩) ∧
    (TT 48 = ⟨.struct [(0, 3), (1, 2), (2, 9), (3, 3), (4, 3), (5, 47)], 6, 72, [.int .i64 0, .int .i64 0, .str [], .int .i64 0, .int .i64 0, .nils]⟩) ∧
    (TT 49 = ⟨.struct [(0, 3), (1, 2), (2, 9), (3, 3), (4, 3), (5, 47)], 6, 72, [.int .i64 0, .int .i64 0, .str [], .int .i64 0, .int .i64 0, .nils]⟩) ∧
    (TT 50 = ⟨.struct [(0, 3), (1, 3), (2, 2), (3, 9), (4, 9), (5, 49)], 11, 128, [.int .i64 0, .int .i64 0, .int .i64 0, .str [], .str [], .int .i64 0, .int .i64 0, .str [], .int .i64 0, .int .i64 0, .nils]⟩) ∧
    (TT 51 = ⟨.struct [(0, 3), (1, 3), (2, 2), (3, 9), (4, 9), (5, 49)], 11, 128, [.int .i64 0, .int .i64 0, .int .i64 0, .str [], .str [], .int .i64 0, .int .i64 0, .str [], .int .i64 0, .int .i64 0, .nils]⟩) ∧
    (TT 52 = ⟨.func, 1, 8, [.nilf]⟩) ∧
    (TT 53 = ⟨.ptr 55, 1, 8, [.nilp]⟩) ∧
    (TT 54 = ⟨.struct [(0, 27)], 3, 72, [.nils, .nils, .nils]⟩) ∧
    (TT 55 = ⟨.struct [(0, 27)], 3, 72, [.nils, .nils, .nils]⟩) ∧
    (TT 56 = ⟨.func, 1, 8, [.nilf]⟩) ∧
    (TT 57 = ⟨.func, 1, 8, [.nilf]⟩) ∧
    (TT 58 = ⟨.func, 1, 8, [.nilf]⟩) ∧
    (TT 59 = ⟨.ptr 37, 1, 8, [.nilp]⟩) ∧
    (TT 60 = ⟨.func, 1, 8, [.nilf]⟩) ∧
    (TT 61 = ⟨.map 40 3, 1, 8, [.nilm]⟩) ∧
    (TT 63 = ⟨.func, 1, 8, [.nilf]⟩) ∧
    (TT 64 = ⟨.func, 1, 8, [.nilf]⟩) ∧
    (TT 65 = ⟨.func, 1, 8, [.nilf]⟩) ∧
    (TT 66 = ⟨.func, 1, 8, [.nilf]⟩) ∧
    (TT 67 = ⟨.func, 1, 8, [.nilf]⟩) ∧
    (TT 68 = ⟨.func, 1, 8, [.nilf]⟩) ∧
    (TT 69 = ⟨.func, 1, 8, [.nilf]⟩) ∧
    (TT 70 = ⟨.ptr 72, 1, 8, [.nilp]⟩) ∧
    (TT 71 = ⟨.struct [(0, 24), (1, 25), (2, 3)], 3, 56, [.nils, .nils, .int .i64 0]⟩) ∧
    (TT 72 = ⟨.struct [(0, 24), (1, 25), (2, 3)], 3, 56, [.nils, .nils, .int .i64 0]⟩) ∧
    (TT 73 = ⟨.func, 1, 8, [.nilf]⟩) ∧
    (TT 74 = ⟨.func, 1, 8, [.nilf]⟩) ∧
    (TT 75 = ⟨.func, 1, 8, [.nilf]⟩) ∧
    (TT 77 = ⟨.func, 1, 8, [.nilf]⟩) ∧
    (TT 78 = ⟨.ptr 51, 1, 8, [.nilp]⟩) ∧
    (TT 79 = ⟨.map 3 3, 1, 8, [.nilm]⟩) ∧
    (TT 80 = ⟨.map 3 4, 1, 8, [.nilm]⟩) ∧
    (TT 81 = ⟨.func, 1, 8, [.nilf]⟩) ∧
    (TT 82 = ⟨.func, 1, 8, [.nilf]⟩) ∧
    (TT 83 = ⟨.func, 1, 8, [.nilf]⟩) ∧
    (TT 84 = ⟨.func, 1, 8, [.nilf]⟩) ∧
    (TT 85 = ⟨.func, 1, 8, [.nilf]⟩) ∧
    (TT 86 = ⟨.func, 1, 8, [.nilf]⟩) ∧
    (TT 87 = ⟨.func, 1, 8, [.nilf]⟩) ∧
    (TT 88 = ⟨.slice 5, 1, 24, [.nils]⟩) ∧
    (TT 89 = ⟨.func, 1, 8, [.nilf]⟩) ∧
    (TT 90 = ⟨.func, 1, 8, [.nilf]⟩) ∧
    (TT 91 = ⟨.struct [(0, 3), (1, 3)], 2, 16, [.int .i64 0, .int .i64 0]⟩) ∧
    (TT 92 = ⟨.struct [(0, 3), (1, 3)], 2, 16, [.int .i64 0, .int .i64 0]⟩) ∧
    (TT 93 = ⟨.slice 92, 1, 24, [.nils]⟩) ∧
    (TT 94 = ⟨.func, 1, 8, [.nilf]⟩) ∧
    (TT 95 = ⟨.func, 1, 8, [.nilf]⟩) ∧
    (TT 96 = ⟨.func, 1, 8, [.nilf]⟩) ∧
    (TT 97 = ⟨.slice 9, 1, 24, [.nils]⟩) ∧
    (TT 98 = ⟨.func, 1, 8, [.nilf]⟩) ∧
    (TT 99 = ⟨.func, 1, 8, [.nilf]⟩) ∧
    (TT 101 = ⟨.func, 1, 8, [.nilf]⟩) ∧
    (TT 102 = ⟨.func, 1, 8, [.nilf]⟩) ∧
    (TT 103 = ⟨.func, 1, 8, [.nilf]⟩) ∧
    (TT 104 = ⟨.ptr 3, 1, 8, [.nilp]⟩) ∧
    (TT 105 = ⟨.func, 1, 8, [.nilf]⟩) ∧
    (TT 106 = ⟨.ptr 108, 1, 8, [.nilp]⟩) ∧
    (TT 107 = ⟨.struct [(0, 3)], 1, 8, [.int .i64 0]⟩) ∧
    (TT 108 = ⟨.struct [(0, 3)], 1, 8, [.int .i64 0]⟩) ∧
    (TT 109 = ⟨.func, 1, 8, [.nilf]⟩) ∧
    (TT 110 = ⟨.ptr 49, 1, 8, [.nilp]⟩) ∧
    (TT 111 = ⟨.func, 1, 8, [.nilf]⟩) ∧
    (TT 112 = ⟨.func, 1, 8, [.nilf]⟩) ∧
    (TT 113 = ⟨.func, 1, 8, [.nilf]⟩) ∧
    (TT 114 = ⟨.func, 1, 8, [.nilf]⟩) ∧
    (TT 115 = ⟨.func, 1, 8, [.nilf]⟩) ∧
    (TT 121 = ⟨.func, 1, 8, [.nilf]⟩) ∧
    (TT 122 = ⟨.int .u32, 1, 4, [.int .u32 0]⟩) ∧
    (TT 123 = ⟨.int .u8, 1, 1, [.int .u8 0]⟩) ∧
    (TT 124 = ⟨.int .u8, 1, 1, [.int .u8 0]⟩) ∧
    (TT 125 = ⟨.func, 1, 8, [.nilf]⟩) ∧
    (TT 126 = ⟨.ptr 5, 1, 8, [.nilp]⟩) ∧
    (TT 127 = ⟨.int .i32, 1, 4, [.int .i32 0]⟩) ∧
    (TT 128 = ⟨.int .i32, 1, 4, [.int .i32 0]⟩) := by
  refine ⟨rfl, rfl, rfl, rfl, rfl, rfl, rfl, rfl, rfl, rfl, rfl, rfl, rfl, rfl, rfl, rfl, rfl, rfl, rfl, rfl, rfl, rfl, rfl, rfl, rfl, rfl, rfl, rfl, rfl, rfl, rfl, rfl, rfl, rfl, rfl, rfl, rfl, rfl, rfl, rfl, rfl, rfl, rfl, rfl, rfl, rfl, rfl, rfl, rfl, rfl, rfl, rfl, rfl, rfl, rfl, rfl, rfl, rfl, rfl, rfl, rfl, rfl, rfl, rfl, rfl, rfl, rfl, rfl, rfl, rfl, rfl, rfl, rfl, rfl, rfl, rfl, rfl, rfl, rfl, rfl, rfl, rfl, rfl, rfl, rfl, rfl, rfl, rfl, rfl, rfl, rfl, rfl, rfl, rfl, rfl, rfl, rfl, rfl, rfl, rfl, rfl, rfl, rfl, rfl, rfl, rfl, rfl, rfl, rfl, rfl, rfl, rfl, rfl, rfl, rfl⟩

theorem TT_ok : Tab Try.prog TT := by
  intro t h
  unfold TT at h ⊢
  cases ht : tab[t]? with
  | none => rw [ht] at h; exact absurd rfl h
  | some i =>
    rw [ht] at h
    have := rowsOk_get tab 0 t i rows_ok ht h
    simpa using this
theorem TT_mixed : Try.prog.follows .mixedOrders = true := by kernel_rfl
end Go.Proofs.Ytlblgbfpdlfedaa.Gw

namespace Go.Proofs.Ytlblgbfpdlfedaa.Gx
open Go Go.Proofs.Ytlblgbfpdlfedaa.Gw
set_option linter.unusedSimpArgs false
set_option linter.unusedVariables false

abbrev Str := List UInt8
def encS (l : List Str) : V := .lst 1 none (l.map fun s => [.str s])

-- strings.IndexByte: the model's own entry stands where the library has no body
set_option maxHeartbeats 1000000 in
set_option maxRecDepth 100000 in
theorem r_IndexByte (s : ByteArray) (c : Int) (w : World) :
    Calls Try.prog 63 #[.string s, .int .u8 c] w fun e w' => e = .returned (.int .i64 (Lib.indexByte s.data.toList c.toNat.toUInt8)) ∧ w' = w := by
  go_enter Try.func63, Try.ntmps63
  go_wp2
  rw [run_callFunc_extern Try.func65 (by kernel_rfl) (by kernel_rfl) (by kernel_rfl) (e := Extern.BytealgIndexByte.indexByte) (by kernel_rfl), Lib.run_indexByteString]
  simp only [Result.andThen]
  rw [Oper.upon_value]
  go_wp2
  go_ret
  exact ⟨rfl, rfl⟩
theorem c_IndexByte0 (st : St) (s : Str) (c : Int) : VCalls Try.prog TT 63 [.str s, .int .u8 c] st fun r st' => r = .ret (.int .i64 (Lib.indexByte s c.toNat.toUInt8)) ∧ st' = st := by
  refine VCalls.ofReal ⟨_, Try.func63, by kernel_rfl, by kernel_rfl⟩ fun g w vals h => ?_
  simp only [SimVs, SimV] at h
  obtain ⟨_, _, rfl, ⟨rfl, _⟩, _, _, rfl, rfl, rfl⟩ := h
  exact ⟨_, by simp only [SimV], r_IndexByte ⟨s.toArray⟩ c w⟩
theorem c_IndexByte (st : St) (s : Str) (c : Int) : VCalls Try.prog TT 61 [.str s, .int .u8 c] st fun r st' => r = .ret (.int .i64 (Lib.indexByte s c.toNat.toUInt8)) ∧ st' = st := by
  refine vfun TT_ok (an := anL []) (L := [0, 1, 4]) (rs := [.tmp 4]) Try.func61 rfl (by kernel_rfl) rfl Try.ntmps61 rfl rfl (Nat.le_refl _) fun hst ha hf => ?_
  simp only [decide_true, decide_false, gwL, gwB, gwD, gwE, gwS, gwTT, gwZ, initG, Nat.reduceEqDiff, ↓reduceIte, Nat.reduceAdd, Nat.reduceLT, Nat.reduceLeDiff, List.map_cons, List.map_nil, builtS, builtinV, pureR, binV, aggEq, eqFs, eqCell, Option.bind_some, Option.map_some, and_self, List.headD_cons, sliceV, pickV, evO, Env.look, find, V.ofConst, resV, resOne, tupV, loadV, fillV, buildV, mkIface, litM, litS, litR, litRows, List.reverse_cons, List.reverse_nil, Nat.reduceMul, appS, memA, appendV, rowsOf, V.cells, TI.sized, TI.known, TI.agg, anL, List.length_cons, List.length_nil, List.append_nil, List.cons_append, List.nil_append, List.drop_succ_cons, List.drop_zero, List.drop_nil, List.take_succ_cons, List.take_zero, List.take_nil, List.getElem?_cons_zero, List.getElem?_cons_succ, List.all_cons, List.all_nil, List.replicate_succ, List.replicate_zero, List.set_cons_zero, List.set_cons_succ, eq_self, true_or, ne_eq, not_false_eq_true, Nat.reduceEqDiff]
  refine (c_IndexByte0 st s c).use (wkL_refl _) fun _ => ?_
  simp only [decide_true, decide_false, gwL, gwB, gwD, gwE, gwS, gwTT, gwZ, initG, Nat.reduceEqDiff, ↓reduceIte, Nat.reduceAdd, Nat.reduceLT, Nat.reduceLeDiff, List.map_cons, List.map_nil, builtS, builtinV, pureR, binV, aggEq, eqFs, eqCell, Option.bind_some, Option.map_some, and_self, List.headD_cons, sliceV, pickV, evO, Env.look, find, V.ofConst, resV, resOne, tupV, loadV, fillV, buildV, mkIface, litM, litS, litR, litRows, List.reverse_cons, List.reverse_nil, Nat.reduceMul, appS, memA, appendV, rowsOf, V.cells, TI.sized, TI.known, TI.agg, anL, List.length_cons, List.length_nil, List.append_nil, List.cons_append, List.nil_append, List.drop_succ_cons, List.drop_zero, List.drop_nil, List.take_succ_cons, List.take_zero, List.take_nil, List.getElem?_cons_zero, List.getElem?_cons_succ, List.all_cons, List.all_nil, List.replicate_succ, List.replicate_zero, List.set_cons_zero, List.set_cons_succ, eq_self, true_or, ne_eq, not_false_eq_true, Nat.reduceEqDiff]
  exact gives_int rfl hst

-- slices.Index, slices.Contains
def idxOf (s : Str) : Nat → List Str → Int
  | _, [] => -1
  | i, a :: r => bif decide (s = a) then (i : Int) else idxOf s (i + 1) r
theorem c_Index (st : St) (l : List Str) (s : Str) : VCalls Try.prog TT 58 [encS l, .str s] st fun r st' => r = .ret (.int .i64 (idxOf s 0 l)) ∧ st' = st := by
  refine vfun TT_ok (an := anL []) (L := [0, 1, 4, 5, 7, 8]) (rs := [.tmp 4]) Try.func58 rfl (by kernel_rfl) rfl Try.ntmps58 rfl rfl (Nat.le_refl _) fun hst ha hf => ?_
  simp only [encS, fitL, V.fit, List.length_map] at hf
  simp only [encS]
  simp only [decide_true, decide_false, gwL, gwB, gwD, gwE, gwS, gwTT, gwZ, initG, Nat.reduceEqDiff, ↓reduceIte, Nat.reduceAdd, Nat.reduceLT, Nat.reduceLeDiff, List.map_cons, List.map_nil, builtS, builtinV, pureR, binV, aggEq, eqFs, eqCell, Option.bind_some, Option.map_some, and_self, List.headD_cons, sliceV, pickV, evO, Env.look, find, V.ofConst, resV, resOne, tupV, loadV, fillV, buildV, mkIface, litM, litS, litR, litRows, List.reverse_cons, List.reverse_nil, Nat.reduceMul, appS, memA, appendV, rowsOf, V.cells, TI.sized, TI.known, TI.agg, anL, List.length_cons, List.length_nil, List.append_nil, List.cons_append, List.nil_append, List.drop_succ_cons, List.drop_zero, List.drop_nil, List.take_succ_cons, List.take_zero, List.take_nil, List.getElem?_cons_zero, List.getElem?_cons_succ, List.all_cons, List.all_nil, List.replicate_succ, List.replicate_zero, List.set_cons_zero, List.set_cons_succ, eq_self, true_or, ne_eq, not_false_eq_true, Nat.reduceEqDiff, List.length_map]
  refine vfor (σ := Nat) [0, 1, 4, 7, 8] (fun i => [(0, true, encS l), (1, true, .str s), (4, true, .int .i64 0), (7, true, .int .i64 l.length), (8, true, .int .i64 i)]) (fun i => st) (fun i => l.length - i) (fun i => i ≤ l.length ∧ idxOf s 0 l = idxOf s i (l.drop i)) 0 rfl TT_ok ⟨Nat.zero_le _, rfl⟩ rfl rfl ?_
  rintro i ⟨hi, hx⟩
  rw [hx]
  rcases at_or_end l i hi with ⟨rfl, hd⟩ | ⟨a, hlt, hget, hdr⟩
  · simp only [decide_true, decide_false, gwL, gwB, gwD, gwE, gwS, gwTT, gwZ, initG, Nat.reduceEqDiff, ↓reduceIte, Nat.reduceAdd, Nat.reduceLT, Nat.reduceLeDiff, List.map_cons, List.map_nil, builtS, builtinV, pureR, binV, aggEq, eqFs, eqCell, Option.bind_some, Option.map_some, and_self, List.headD_cons, sliceV, pickV, evO, Env.look, find, V.ofConst, resV, resOne, tupV, loadV, fillV, buildV, mkIface, litM, litS, litR, litRows, List.reverse_cons, List.reverse_nil, Nat.reduceMul, appS, memA, appendV, rowsOf, V.cells, TI.sized, TI.known, TI.agg, anL, List.length_cons, List.length_nil, List.append_nil, List.cons_append, List.nil_append, List.drop_succ_cons, List.drop_zero, List.drop_nil, List.take_succ_cons, List.take_zero, List.take_nil, List.getElem?_cons_zero, List.getElem?_cons_succ, List.all_cons, List.all_nil, List.replicate_succ, List.replicate_zero, List.set_cons_zero, List.set_cons_succ, eq_self, true_or, ne_eq, not_false_eq_true, Nat.reduceEqDiff, lt_no, hd, idxOf]
    exact gives_int rfl hst
  · simp only [encS]
    simp only [decide_true, decide_false, gwL, gwB, gwD, gwE, gwS, gwTT, gwZ, initG, Nat.reduceEqDiff, ↓reduceIte, Nat.reduceAdd, Nat.reduceLT, Nat.reduceLeDiff, List.map_cons, List.map_nil, builtS, builtinV, pureR, binV, aggEq, eqFs, eqCell, Option.bind_some, Option.map_some, and_self, List.headD_cons, sliceV, pickV, evO, Env.look, find, V.ofConst, resV, resOne, tupV, loadV, fillV, buildV, mkIface, litM, litS, litR, litRows, List.reverse_cons, List.reverse_nil, Nat.reduceMul, appS, memA, appendV, rowsOf, V.cells, TI.sized, TI.known, TI.agg, anL, List.length_cons, List.length_nil, List.append_nil, List.cons_append, List.nil_append, List.drop_succ_cons, List.drop_zero, List.drop_nil, List.take_succ_cons, List.take_zero, List.take_nil, List.getElem?_cons_zero, List.getElem?_cons_succ, List.all_cons, List.all_nil, List.replicate_succ, List.replicate_zero, List.set_cons_zero, List.set_cons_succ, eq_self, true_or, ne_eq, not_false_eq_true, Nat.reduceEqDiff, lt_yes hlt, hdr, idxOf, List.length_map, getD_map hget, Int.ofNat_lt.mpr hlt]
    refine iK_split (fun h => ?_) (fun h => ?_)
    · simp only [decide_true, decide_false, gwL, gwB, gwD, gwE, gwS, gwTT, gwZ, initG, Nat.reduceEqDiff, ↓reduceIte, Nat.reduceAdd, Nat.reduceLT, Nat.reduceLeDiff, List.map_cons, List.map_nil, builtS, builtinV, pureR, binV, aggEq, eqFs, eqCell, Option.bind_some, Option.map_some, and_self, List.headD_cons, sliceV, pickV, evO, Env.look, find, V.ofConst, resV, resOne, tupV, loadV, fillV, buildV, mkIface, litM, litS, litR, litRows, List.reverse_cons, List.reverse_nil, Nat.reduceMul, appS, memA, appendV, rowsOf, V.cells, TI.sized, TI.known, TI.agg, anL, List.length_cons, List.length_nil, List.append_nil, List.cons_append, List.nil_append, List.drop_succ_cons, List.drop_zero, List.drop_nil, List.take_succ_cons, List.take_zero, List.take_nil, List.getElem?_cons_zero, List.getElem?_cons_succ, List.all_cons, List.all_nil, List.replicate_succ, List.replicate_zero, List.set_cons_zero, List.set_cons_succ, eq_self, true_or, ne_eq, not_false_eq_true, Nat.reduceEqDiff, h]
      exact gives_int rfl hst
    · simp only [decide_true, decide_false, gwL, gwB, gwD, gwE, gwS, gwTT, gwZ, initG, Nat.reduceEqDiff, ↓reduceIte, Nat.reduceAdd, Nat.reduceLT, Nat.reduceLeDiff, List.map_cons, List.map_nil, builtS, builtinV, pureR, binV, aggEq, eqFs, eqCell, Option.bind_some, Option.map_some, and_self, List.headD_cons, sliceV, pickV, evO, Env.look, find, V.ofConst, resV, resOne, tupV, loadV, fillV, buildV, mkIface, litM, litS, litR, litRows, List.reverse_cons, List.reverse_nil, Nat.reduceMul, appS, memA, appendV, rowsOf, V.cells, TI.sized, TI.known, TI.agg, anL, List.length_cons, List.length_nil, List.append_nil, List.cons_append, List.nil_append, List.drop_succ_cons, List.drop_zero, List.drop_nil, List.take_succ_cons, List.take_zero, List.take_nil, List.getElem?_cons_zero, List.getElem?_cons_succ, List.all_cons, List.all_nil, List.replicate_succ, List.replicate_zero, List.set_cons_zero, List.set_cons_succ, eq_self, true_or, ne_eq, not_false_eq_true, Nat.reduceEqDiff, h, Env.keep]
      exact ⟨i + 1, by rw [next_i64 hlt hf.1.1], by omega, hlt, rfl⟩
theorem idxOf_ge (s : Str) : ∀ (l : List Str) (i : Nat), decide (0 ≤ idxOf s i l) = decide (s ∈ l)
  | [], i => by simp [idxOf]
  | a :: r, i => by
    have := idxOf_ge s r (i + 1)
    by_cases h : s = a
    · subst h; simp [idxOf]
    · simp only [idxOf, h, decide_false, cond_false, this, List.mem_cons, false_or]
theorem c_Contains (st : St) (l : List Str) (s : Str) : VCalls Try.prog TT 47 [encS l, .str s] st fun r st' => r = .ret (.bool (decide (s ∈ l))) ∧ st' = st := by
  refine vfun TT_ok (an := anL []) (L := [0, 1, 4]) (rs := [.tmp 4]) Try.func47 rfl (by kernel_rfl) rfl Try.ntmps47 rfl rfl (Nat.le_refl _) fun hst ha hf => ?_
  simp only [encS]
  simp only [decide_true, decide_false, gwL, gwB, gwD, gwE, gwS, gwTT, gwZ, initG, Nat.reduceEqDiff, ↓reduceIte, Nat.reduceAdd, Nat.reduceLT, Nat.reduceLeDiff, List.map_cons, List.map_nil, builtS, builtinV, pureR, binV, aggEq, eqFs, eqCell, Option.bind_some, Option.map_some, and_self, List.headD_cons, sliceV, pickV, evO, Env.look, find, V.ofConst, resV, resOne, tupV, loadV, fillV, buildV, mkIface, litM, litS, litR, litRows, List.reverse_cons, List.reverse_nil, Nat.reduceMul, appS, memA, appendV, rowsOf, V.cells, TI.sized, TI.known, TI.agg, anL, List.length_cons, List.length_nil, List.append_nil, List.cons_append, List.nil_append, List.drop_succ_cons, List.drop_zero, List.drop_nil, List.take_succ_cons, List.take_zero, List.take_nil, List.getElem?_cons_zero, List.getElem?_cons_succ, List.all_cons, List.all_nil, List.replicate_succ, List.replicate_zero, List.set_cons_zero, List.set_cons_succ, eq_self, true_or, ne_eq, not_false_eq_true, Nat.reduceEqDiff]
  refine (c_Index st l s).use (by simp only [encS]; exact wkL_refl _) fun _ => ?_
  simp only [decide_true, decide_false, gwL, gwB, gwD, gwE, gwS, gwTT, gwZ, initG, Nat.reduceEqDiff, ↓reduceIte, Nat.reduceAdd, Nat.reduceLT, Nat.reduceLeDiff, List.map_cons, List.map_nil, builtS, builtinV, pureR, binV, aggEq, eqFs, eqCell, Option.bind_some, Option.map_some, and_self, List.headD_cons, sliceV, pickV, evO, Env.look, find, V.ofConst, resV, resOne, tupV, loadV, fillV, buildV, mkIface, litM, litS, litR, litRows, List.reverse_cons, List.reverse_nil, Nat.reduceMul, appS, memA, appendV, rowsOf, V.cells, TI.sized, TI.known, TI.agg, anL, List.length_cons, List.length_nil, List.append_nil, List.cons_append, List.nil_append, List.drop_succ_cons, List.drop_zero, List.drop_nil, List.take_succ_cons, List.take_zero, List.take_nil, List.getElem?_cons_zero, List.getElem?_cons_succ, List.all_cons, List.all_nil, List.replicate_succ, List.replicate_zero, List.set_cons_zero, List.set_cons_succ, eq_self, true_or, ne_eq, not_false_eq_true, Nat.reduceEqDiff, idxOf_ge]
  exact gives_bool rfl hst
theorem c_in (st : St) (l : List Str) (s : Str) : VCalls Try.prog TT 55 [encS l, .str s] st fun r st' => r = .ret (.bool (decide (s ∈ l))) ∧ st' = st := by
  refine vfun TT_ok (an := anL []) (L := [0, 1, 4, 6, 7, 8, 9]) (rs := [.tmp 4]) Try.func55 rfl (by kernel_rfl) rfl Try.ntmps55 rfl rfl (Nat.le_refl _) fun hst ha hf => ?_
  simp only [encS, fitL, V.fit, List.length_map] at hf
  simp only [encS]
  simp only [decide_true, decide_false, gwL, gwB, gwD, gwE, gwS, gwTT, gwZ, initG, Nat.reduceEqDiff, ↓reduceIte, Nat.reduceAdd, Nat.reduceLT, Nat.reduceLeDiff, List.map_cons, List.map_nil, builtS, builtinV, pureR, binV, aggEq, eqFs, eqCell, Option.bind_some, Option.map_some, and_self, List.headD_cons, sliceV, pickV, evO, Env.look, find, V.ofConst, resV, resOne, tupV, loadV, fillV, buildV, mkIface, litM, litS, litR, litRows, List.reverse_cons, List.reverse_nil, Nat.reduceMul, appS, memA, appendV, rowsOf, V.cells, TI.sized, TI.known, TI.agg, anL, List.length_cons, List.length_nil, List.append_nil, List.cons_append, List.nil_append, List.drop_succ_cons, List.drop_zero, List.drop_nil, List.take_succ_cons, List.take_zero, List.take_nil, List.getElem?_cons_zero, List.getElem?_cons_succ, List.all_cons, List.all_nil, List.replicate_succ, List.replicate_zero, List.set_cons_zero, List.set_cons_succ, eq_self, true_or, ne_eq, not_false_eq_true, Nat.reduceEqDiff, List.length_map]
  refine vfor (σ := Nat) [0, 1, 4, 8, 7, 9] (fun i => [(0, true, encS l), (1, true, .str s), (4, true, .bool false), (8, true, .int .i64 l.length), (7, true, encS l), (9, true, .int .i64 i)]) (fun i => st) (fun i => l.length - i) (fun i => i ≤ l.length ∧ decide (s ∈ l) = decide (s ∈ l.drop i)) 0 rfl TT_ok ⟨Nat.zero_le _, rfl⟩ rfl rfl ?_
  rintro i ⟨hi, hx⟩
  rw [hx]
  rcases at_or_end l i hi with ⟨rfl, hd⟩ | ⟨a, hlt, hget, hdr⟩
  · simp only [decide_true, decide_false, gwL, gwB, gwD, gwE, gwS, gwTT, gwZ, initG, Nat.reduceEqDiff, ↓reduceIte, Nat.reduceAdd, Nat.reduceLT, Nat.reduceLeDiff, List.map_cons, List.map_nil, builtS, builtinV, pureR, binV, aggEq, eqFs, eqCell, Option.bind_some, Option.map_some, and_self, List.headD_cons, sliceV, pickV, evO, Env.look, find, V.ofConst, resV, resOne, tupV, loadV, fillV, buildV, mkIface, litM, litS, litR, litRows, List.reverse_cons, List.reverse_nil, Nat.reduceMul, appS, memA, appendV, rowsOf, V.cells, TI.sized, TI.known, TI.agg, anL, List.length_cons, List.length_nil, List.append_nil, List.cons_append, List.nil_append, List.drop_succ_cons, List.drop_zero, List.drop_nil, List.take_succ_cons, List.take_zero, List.take_nil, List.getElem?_cons_zero, List.getElem?_cons_succ, List.all_cons, List.all_nil, List.replicate_succ, List.replicate_zero, List.set_cons_zero, List.set_cons_succ, eq_self, true_or, ne_eq, not_false_eq_true, Nat.reduceEqDiff, lt_no, hd]
    exact gives_bool (by simp) hst
  · simp only [encS]
    simp only [decide_true, decide_false, gwL, gwB, gwD, gwE, gwS, gwTT, gwZ, initG, Nat.reduceEqDiff, ↓reduceIte, Nat.reduceAdd, Nat.reduceLT, Nat.reduceLeDiff, List.map_cons, List.map_nil, builtS, builtinV, pureR, binV, aggEq, eqFs, eqCell, Option.bind_some, Option.map_some, and_self, List.headD_cons, sliceV, pickV, evO, Env.look, find, V.ofConst, resV, resOne, tupV, loadV, fillV, buildV, mkIface, litM, litS, litR, litRows, List.reverse_cons, List.reverse_nil, Nat.reduceMul, appS, memA, appendV, rowsOf, V.cells, TI.sized, TI.known, TI.agg, anL, List.length_cons, List.length_nil, List.append_nil, List.cons_append, List.nil_append, List.drop_succ_cons, List.drop_zero, List.drop_nil, List.take_succ_cons, List.take_zero, List.take_nil, List.getElem?_cons_zero, List.getElem?_cons_succ, List.all_cons, List.all_nil, List.replicate_succ, List.replicate_zero, List.set_cons_zero, List.set_cons_succ, eq_self, true_or, ne_eq, not_false_eq_true, Nat.reduceEqDiff, lt_yes hlt, hdr, List.length_map, getD_map hget, Int.ofNat_lt.mpr hlt]
    refine iK_split (fun h => ?_) (fun h => ?_)
    · have h' := of_decide_eq_true h
      simp only [decide_true, decide_false, gwL, gwB, gwD, gwE, gwS, gwTT, gwZ, initG, Nat.reduceEqDiff, ↓reduceIte, Nat.reduceAdd, Nat.reduceLT, Nat.reduceLeDiff, List.map_cons, List.map_nil, builtS, builtinV, pureR, binV, aggEq, eqFs, eqCell, Option.bind_some, Option.map_some, and_self, List.headD_cons, sliceV, pickV, evO, Env.look, find, V.ofConst, resV, resOne, tupV, loadV, fillV, buildV, mkIface, litM, litS, litR, litRows, List.reverse_cons, List.reverse_nil, Nat.reduceMul, appS, memA, appendV, rowsOf, V.cells, TI.sized, TI.known, TI.agg, anL, List.length_cons, List.length_nil, List.append_nil, List.cons_append, List.nil_append, List.drop_succ_cons, List.drop_zero, List.drop_nil, List.take_succ_cons, List.take_zero, List.take_nil, List.getElem?_cons_zero, List.getElem?_cons_succ, List.all_cons, List.all_nil, List.replicate_succ, List.replicate_zero, List.set_cons_zero, List.set_cons_succ, eq_self, true_or, ne_eq, not_false_eq_true, Nat.reduceEqDiff]
      exact gives_bool (by simp [h']) hst
    · have h' := of_decide_eq_false h
      simp only [decide_true, decide_false, gwL, gwB, gwD, gwE, gwS, gwTT, gwZ, initG, Nat.reduceEqDiff, ↓reduceIte, Nat.reduceAdd, Nat.reduceLT, Nat.reduceLeDiff, List.map_cons, List.map_nil, builtS, builtinV, pureR, binV, aggEq, eqFs, eqCell, Option.bind_some, Option.map_some, and_self, List.headD_cons, sliceV, pickV, evO, Env.look, find, V.ofConst, resV, resOne, tupV, loadV, fillV, buildV, mkIface, litM, litS, litR, litRows, List.reverse_cons, List.reverse_nil, Nat.reduceMul, appS, memA, appendV, rowsOf, V.cells, TI.sized, TI.known, TI.agg, anL, List.length_cons, List.length_nil, List.append_nil, List.cons_append, List.nil_append, List.drop_succ_cons, List.drop_zero, List.drop_nil, List.take_succ_cons, List.take_zero, List.take_nil, List.getElem?_cons_zero, List.getElem?_cons_succ, List.all_cons, List.all_nil, List.replicate_succ, List.replicate_zero, List.set_cons_zero, List.set_cons_succ, eq_self, true_or, ne_eq, not_false_eq_true, Nat.reduceEqDiff, Env.keep]
      exact ⟨i + 1, by rw [next_i64 hlt hf.1.1], by omega, hlt, by simp [Ne.symm h']⟩

-- strings.HasPrefix, TrimPrefix
def hasPre (s p : Str) : Bool := decide (p.length ≤ s.length) && decide (s.take p.length = p)
theorem c_HasPrefix (st : St) (s p : Str) : VCalls Try.prog TT 66 [.str s, .str p] st fun r st' => r = .ret (.bool (hasPre s p)) ∧ st' = st := by
  refine vfun TT_ok (an := anL []) (L := [0, 1, 4]) (rs := [.tmp 4]) Try.func66 rfl (by kernel_rfl) rfl Try.ntmps66 rfl rfl (Nat.le_refl _) fun hst ha hf => ?_
  simp only [decide_true, decide_false, gwL, gwB, gwD, gwE, gwS, gwTT, gwZ, initG, Nat.reduceEqDiff, ↓reduceIte, Nat.reduceAdd, Nat.reduceLT, Nat.reduceLeDiff, List.map_cons, List.map_nil, builtS, builtinV, pureR, binV, aggEq, eqFs, eqCell, Option.bind_some, Option.map_some, and_self, List.headD_cons, sliceV, pickV, evO, Env.look, find, V.ofConst, resV, resOne, tupV, loadV, fillV, buildV, mkIface, litM, litS, litR, litRows, List.reverse_cons, List.reverse_nil, Nat.reduceMul, appS, memA, appendV, rowsOf, V.cells, TI.sized, TI.known, TI.agg, anL, List.length_cons, List.length_nil, List.append_nil, List.cons_append, List.nil_append, List.drop_succ_cons, List.drop_zero, List.drop_nil, List.take_succ_cons, List.take_zero, List.take_nil, List.getElem?_cons_zero, List.getElem?_cons_succ, List.all_cons, List.all_nil, List.replicate_succ, List.replicate_zero, List.set_cons_zero, List.set_cons_succ, eq_self, true_or, ne_eq, not_false_eq_true, Nat.reduceEqDiff, Int.ofNat_le, Int.toNat_natCast]
  refine ⟨fun h => of_decide_eq_true h, gives_bool ?_ hst⟩
  rfl
def trimPre (s p : Str) : Str := bif hasPre s p then s.drop p.length else s
theorem c_TrimPrefix0 (st : St) (s p : Str) : VCalls Try.prog TT 64 [.str s, .str p] st fun r st' => r = .ret (.str (trimPre s p)) ∧ st' = st := by
  refine vfun TT_ok (an := anL []) (L := [0, 1, 4]) (rs := [.tmp 4]) Try.func64 rfl (by kernel_rfl) rfl Try.ntmps64 rfl rfl (Nat.le_refl _) fun hst ha hf => ?_
  simp only [decide_true, decide_false, gwL, gwB, gwD, gwE, gwS, gwTT, gwZ, initG, Nat.reduceEqDiff, ↓reduceIte, Nat.reduceAdd, Nat.reduceLT, Nat.reduceLeDiff, List.map_cons, List.map_nil, builtS, builtinV, pureR, binV, aggEq, eqFs, eqCell, Option.bind_some, Option.map_some, and_self, List.headD_cons, sliceV, pickV, evO, Env.look, find, V.ofConst, resV, resOne, tupV, loadV, fillV, buildV, mkIface, litM, litS, litR, litRows, List.reverse_cons, List.reverse_nil, Nat.reduceMul, appS, memA, appendV, rowsOf, V.cells, TI.sized, TI.known, TI.agg, anL, List.length_cons, List.length_nil, List.append_nil, List.cons_append, List.nil_append, List.drop_succ_cons, List.drop_zero, List.drop_nil, List.take_succ_cons, List.take_zero, List.take_nil, List.getElem?_cons_zero, List.getElem?_cons_succ, List.all_cons, List.all_nil, List.replicate_succ, List.replicate_zero, List.set_cons_zero, List.set_cons_succ, eq_self, true_or, ne_eq, not_false_eq_true, Nat.reduceEqDiff, List.length_nil]
  refine (c_HasPrefix st s p).use (wkL_refl _) fun _ => ?_
  simp only [decide_true, decide_false, gwL, gwB, gwD, gwE, gwS, gwTT, gwZ, initG, Nat.reduceEqDiff, ↓reduceIte, Nat.reduceAdd, Nat.reduceLT, Nat.reduceLeDiff, List.map_cons, List.map_nil, builtS, builtinV, pureR, binV, aggEq, eqFs, eqCell, Option.bind_some, Option.map_some, and_self, List.headD_cons, sliceV, pickV, evO, Env.look, find, V.ofConst, resV, resOne, tupV, loadV, fillV, buildV, mkIface, litM, litS, litR, litRows, List.reverse_cons, List.reverse_nil, Nat.reduceMul, appS, memA, appendV, rowsOf, V.cells, TI.sized, TI.known, TI.agg, anL, List.length_cons, List.length_nil, List.append_nil, List.cons_append, List.nil_append, List.drop_succ_cons, List.drop_zero, List.drop_nil, List.take_succ_cons, List.take_zero, List.take_nil, List.getElem?_cons_zero, List.getElem?_cons_succ, List.all_cons, List.all_nil, List.replicate_succ, List.replicate_zero, List.set_cons_zero, List.set_cons_succ, eq_self, true_or, ne_eq, not_false_eq_true, Nat.reduceEqDiff]
  refine iK_split (fun h => ?_) (fun h => ?_)
  · have h2 : p.length ≤ s.length := by simp only [hasPre, Bool.and_eq_true, decide_eq_true_eq] at h; exact h.1
    simp only [decide_true, decide_false, gwL, gwB, gwD, gwE, gwS, gwTT, gwZ, initG, Nat.reduceEqDiff, ↓reduceIte, Nat.reduceAdd, Nat.reduceLT, Nat.reduceLeDiff, List.map_cons, List.map_nil, builtS, builtinV, pureR, binV, aggEq, eqFs, eqCell, Option.bind_some, Option.map_some, and_self, List.headD_cons, sliceV, pickV, evO, Env.look, find, V.ofConst, resV, resOne, tupV, loadV, fillV, buildV, mkIface, litM, litS, litR, litRows, List.reverse_cons, List.reverse_nil, Nat.reduceMul, appS, memA, appendV, rowsOf, V.cells, TI.sized, TI.known, TI.agg, anL, List.length_cons, List.length_nil, List.append_nil, List.cons_append, List.nil_append, List.drop_succ_cons, List.drop_zero, List.drop_nil, List.take_succ_cons, List.take_zero, List.take_nil, List.getElem?_cons_zero, List.getElem?_cons_succ, List.all_cons, List.all_nil, List.replicate_succ, List.replicate_zero, List.set_cons_zero, List.set_cons_succ, eq_self, true_or, ne_eq, not_false_eq_true, Nat.reduceEqDiff, Int.ofNat_le, Int.toNat_natCast]
    exact ⟨h2, gives_str (by simp [trimPre, h]) hst⟩
  · simp only [decide_true, decide_false, gwL, gwB, gwD, gwE, gwS, gwTT, gwZ, initG, Nat.reduceEqDiff, ↓reduceIte, Nat.reduceAdd, Nat.reduceLT, Nat.reduceLeDiff, List.map_cons, List.map_nil, builtS, builtinV, pureR, binV, aggEq, eqFs, eqCell, Option.bind_some, Option.map_some, and_self, List.headD_cons, sliceV, pickV, evO, Env.look, find, V.ofConst, resV, resOne, tupV, loadV, fillV, buildV, mkIface, litM, litS, litR, litRows, List.reverse_cons, List.reverse_nil, Nat.reduceMul, appS, memA, appendV, rowsOf, V.cells, TI.sized, TI.known, TI.agg, anL, List.length_cons, List.length_nil, List.append_nil, List.cons_append, List.nil_append, List.drop_succ_cons, List.drop_zero, List.drop_nil, List.take_succ_cons, List.take_zero, List.take_nil, List.getElem?_cons_zero, List.getElem?_cons_succ, List.all_cons, List.all_nil, List.replicate_succ, List.replicate_zero, List.set_cons_zero, List.set_cons_succ, eq_self, true_or, ne_eq, not_false_eq_true, Nat.reduceEqDiff]
    exact gives_str (by simp [trimPre, h]) hst
theorem c_TrimPrefix (st : St) (s p : Str) : VCalls Try.prog TT 62 [.str s, .str p] st fun r st' => r = .ret (.str (trimPre s p)) ∧ st' = st := by
  refine vfun TT_ok (an := anL []) (L := [0, 1, 4]) (rs := [.tmp 4]) Try.func62 rfl (by kernel_rfl) rfl Try.ntmps62 rfl rfl (Nat.le_refl _) fun hst ha hf => ?_
  simp only [decide_true, decide_false, gwL, gwB, gwD, gwE, gwS, gwTT, gwZ, initG, Nat.reduceEqDiff, ↓reduceIte, Nat.reduceAdd, Nat.reduceLT, Nat.reduceLeDiff, List.map_cons, List.map_nil, builtS, builtinV, pureR, binV, aggEq, eqFs, eqCell, Option.bind_some, Option.map_some, and_self, List.headD_cons, sliceV, pickV, evO, Env.look, find, V.ofConst, resV, resOne, tupV, loadV, fillV, buildV, mkIface, litM, litS, litR, litRows, List.reverse_cons, List.reverse_nil, Nat.reduceMul, appS, memA, appendV, rowsOf, V.cells, TI.sized, TI.known, TI.agg, anL, List.length_cons, List.length_nil, List.append_nil, List.cons_append, List.nil_append, List.drop_succ_cons, List.drop_zero, List.drop_nil, List.take_succ_cons, List.take_zero, List.take_nil, List.getElem?_cons_zero, List.getElem?_cons_succ, List.all_cons, List.all_nil, List.replicate_succ, List.replicate_zero, List.set_cons_zero, List.set_cons_succ, eq_self, true_or, ne_eq, not_false_eq_true, Nat.reduceEqDiff, List.length_nil]
  refine (c_TrimPrefix0 st s p).use (wkL_refl _) fun _ => ?_
  simp only [decide_true, decide_false, gwL, gwB, gwD, gwE, gwS, gwTT, gwZ, initG, Nat.reduceEqDiff, ↓reduceIte, Nat.reduceAdd, Nat.reduceLT, Nat.reduceLeDiff, List.map_cons, List.map_nil, builtS, builtinV, pureR, binV, aggEq, eqFs, eqCell, Option.bind_some, Option.map_some, and_self, List.headD_cons, sliceV, pickV, evO, Env.look, find, V.ofConst, resV, resOne, tupV, loadV, fillV, buildV, mkIface, litM, litS, litR, litRows, List.reverse_cons, List.reverse_nil, Nat.reduceMul, appS, memA, appendV, rowsOf, V.cells, TI.sized, TI.known, TI.agg, anL, List.length_cons, List.length_nil, List.append_nil, List.cons_append, List.nil_append, List.drop_succ_cons, List.drop_zero, List.drop_nil, List.take_succ_cons, List.take_zero, List.take_nil, List.getElem?_cons_zero, List.getElem?_cons_succ, List.all_cons, List.all_nil, List.replicate_succ, List.replicate_zero, List.set_cons_zero, List.set_cons_succ, eq_self, true_or, ne_eq, not_false_eq_true, Nat.reduceEqDiff]
  exact gives_str rfl hst

-- letters and names
def letters : Str := [97, 98, 99, 100, 101, 102, 103, 104, 105, 106, 107, 108, 109, 110, 111, 112, 113, 114, 115, 116, 117, 118, 119, 120, 121, 122, 48, 49, 50, 51, 52, 53, 54, 55, 56, 57, 33, 63, 42, 43, 45, 47, 60, 61, 62, 95, 46]
def letterB (b : UInt8) : Bool := letters.contains b
theorem all_bytes {p : UInt8 → Bool} (h : (List.range 256).all (fun n => p (UInt8.ofNat n)) = true) (b : UInt8) : p b = true := by
  have := List.all_eq_true.1 h b.toNat (by simpa using b.toNat_lt)
  simpa using this
theorem c_letter (st : St) (b : UInt8) : VCalls Try.prog TT 59 [.int .u8 b.toNat] st fun r st' => r = .ret (.bool (letterB b)) ∧ st' = st := by
  refine vfun TT_ok (an := anL []) (L := [0, 2]) (rs := [.tmp 2]) Try.func59 rfl (by kernel_rfl) rfl Try.ntmps59 rfl rfl (Nat.le_refl _) fun hst ha hf => ?_
  simp only [decide_true, decide_false, gwL, gwB, gwD, gwE, gwS, gwTT, gwZ, initG, Nat.reduceEqDiff, ↓reduceIte, Nat.reduceAdd, Nat.reduceLT, Nat.reduceLeDiff, List.map_cons, List.map_nil, builtS, builtinV, pureR, binV, aggEq, eqFs, eqCell, Option.bind_some, Option.map_some, and_self, List.headD_cons, sliceV, pickV, evO, Env.look, find, V.ofConst, resV, resOne, tupV, loadV, fillV, buildV, mkIface, litM, litS, litR, litRows, List.reverse_cons, List.reverse_nil, Nat.reduceMul, appS, memA, appendV, rowsOf, V.cells, TI.sized, TI.known, TI.agg, anL, List.length_cons, List.length_nil, List.append_nil, List.cons_append, List.nil_append, List.drop_succ_cons, List.drop_zero, List.drop_nil, List.take_succ_cons, List.take_zero, List.take_nil, List.getElem?_cons_zero, List.getElem?_cons_succ, List.all_cons, List.all_nil, List.replicate_succ, List.replicate_zero, List.set_cons_zero, List.set_cons_succ, eq_self, true_or, ne_eq, not_false_eq_true, Nat.reduceEqDiff]
  refine ⟨by cases decide (97 ≤ (b.toNat : Int)) <;> cases decide ((b.toNat : Int) ≤ 122) <;> simp, ?_⟩
  refine rK_guarded (.int .i64 (Lib.indexByte [33, 63, 42, 43, 45, 47, 60, 61, 62, 95, 46] b)) (fun _ => ?_) ?_
  · have := c_IndexByte st [33, 63, 42, 43, 45, 47, 60, 61, 62, 95, 46] b.toNat
    simpa using this
  simp only [decide_true, decide_false, gwL, gwB, gwD, gwE, gwS, gwTT, gwZ, initG, Nat.reduceEqDiff, ↓reduceIte, Nat.reduceAdd, Nat.reduceLT, Nat.reduceLeDiff, List.map_cons, List.map_nil, builtS, builtinV, pureR, binV, aggEq, eqFs, eqCell, Option.bind_some, Option.map_some, and_self, List.headD_cons, sliceV, pickV, evO, Env.look, find, V.ofConst, resV, resOne, tupV, loadV, fillV, buildV, mkIface, litM, litS, litR, litRows, List.reverse_cons, List.reverse_nil, Nat.reduceMul, appS, memA, appendV, rowsOf, V.cells, TI.sized, TI.known, TI.agg, anL, List.length_cons, List.length_nil, List.append_nil, List.cons_append, List.nil_append, List.drop_succ_cons, List.drop_zero, List.drop_nil, List.take_succ_cons, List.take_zero, List.take_nil, List.getElem?_cons_zero, List.getElem?_cons_succ, List.all_cons, List.all_nil, List.replicate_succ, List.replicate_zero, List.set_cons_zero, List.set_cons_succ, eq_self, true_or, ne_eq, not_false_eq_true, Nat.reduceEqDiff]
  refine gives_bool ?_ hst
  refine of_decide_eq_true (all_bytes (p := fun b => decide ((((decide (97 ≤ (b.toNat : Int)) && decide ((b.toNat : Int) ≤ 122)) || (decide (48 ≤ (b.toNat : Int)) && decide ((b.toNat : Int) ≤ 57))) || decide (0 ≤ Lib.indexByte [33, 63, 42, 43, 45, 47, 60, 61, 62, 95, 46] b)) = letterB b)) (by kernel_rfl) b)
end Go.Proofs.Ytlblgbfpdlfedaa.Gx
