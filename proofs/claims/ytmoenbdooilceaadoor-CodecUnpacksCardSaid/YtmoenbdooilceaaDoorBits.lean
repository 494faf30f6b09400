/-
  Bits of integers as the walk spells them.
-/
import Derived.WalkKit
namespace Go.Proofs.YtmoenbdooilceaaDoor
open Go.RowKit

theorem wrap_u64 {a : Nat} (h : a < 2 ^ 64) : IntKind.u64.wrap (a : Int) = (a : Int) := by
  unfold IntKind.wrap; simp [IntKind.signed, IntKind.bits]; omega
theorem wrap_u32 {a : Nat} (h : a < 2 ^ 32) : IntKind.u32.wrap (a : Int) = (a : Int) := by
  unfold IntKind.wrap; simp [IntKind.signed, IntKind.bits]; omega
theorem wrap_u8 {a : Nat} (h : a < 2 ^ 8) : IntKind.u8.wrap (a : Int) = (a : Int) := by
  unfold IntKind.wrap; simp [IntKind.signed, IntKind.bits]; omega
theorem or_u64 {a b : Nat} (ha : a < 2 ^ 64) (hb : b < 2 ^ 64) : bits .or .u64 (a : Int) (b : Int) = ((a ||| b : Nat) : Int) := by
  show IntKind.u64.wrap ((BitVec.ofInt 64 (a : Int) ||| BitVec.ofInt 64 (b : Int)).toNat : Int) = _
  rw [BitVec.ofInt_natCast, BitVec.ofInt_natCast, BitVec.toNat_or, BitVec.toNat_ofNat, BitVec.toNat_ofNat, Nat.mod_eq_of_lt ha, Nat.mod_eq_of_lt hb]
  exact wrap_u64 (Nat.or_lt_two_pow ha hb)
theorem or_byte {g x : Nat} (hg : g < 2 ^ 56) (hx : x < 256) : bits .or .u64 (IntKind.u64.wrap ((g : Int) * 256)) (x : Int) = ((g * 256 + x : Nat) : Int) := by
  rw [show (g : Int) * 256 = ((g * 256 : Nat) : Int) by omega, wrap_u64 (by omega), or_u64 (by omega) (by omega)]
  have := Nat.shiftLeft_add_eq_or_of_lt (i := 8) (show x < 2 ^ 8 from hx) g
  rw [Nat.shiftLeft_eq] at this
  rw [← this]
theorem sub_u64 {a b : Nat} : IntKind.u64.wrap ((a : Int) - (b : Int)) = (((a + (2 ^ 64 - b % 2 ^ 64)) % 2 ^ 64 : Nat) : Int) := by
  unfold IntKind.wrap; simp [IntKind.signed, IntKind.bits]; omega
theorem add_u64 {a b : Nat} : IntKind.u64.wrap ((a : Int) + (b : Int)) = (((a + b) % 2 ^ 64 : Nat) : Int) := by
  unfold IntKind.wrap; simp [IntKind.signed, IntKind.bits]
theorem or_u8 {a b : Nat} (ha : a < 256) (hb : b < 256) : bits .or .u8 (a : Int) (b : Int) = ((a ||| b : Nat) : Int) := by
  show IntKind.u8.wrap ((BitVec.ofInt 8 (a : Int) ||| BitVec.ofInt 8 (b : Int)).toNat : Int) = _
  rw [BitVec.ofInt_natCast, BitVec.ofInt_natCast, BitVec.toNat_or, BitVec.toNat_ofNat, BitVec.toNat_ofNat, Nat.mod_eq_of_lt (show a < 2 ^ 8 from ha), Nat.mod_eq_of_lt (show b < 2 ^ 8 from hb)]
  exact wrap_u8 (Nat.or_lt_two_pow (n := 8) ha hb)
theorem or_i64 {a b : Nat} (ha : a < 2 ^ 40) (hb : b < 256) : bits .or .i64 ((a : Int) * 256) (b : Int) = ((a * 256 + b : Nat) : Int) := by
  show IntKind.i64.wrap ((BitVec.ofInt 64 ((a : Int) * 256) ||| BitVec.ofInt 64 (b : Int)).toNat : Int) = _
  rw [show (a : Int) * 256 = ((a * 256 : Nat) : Int) by omega, BitVec.ofInt_natCast, BitVec.ofInt_natCast, BitVec.toNat_or, BitVec.toNat_ofNat, BitVec.toNat_ofNat, Nat.mod_eq_of_lt (show a * 256 < 2 ^ 64 by omega), Nat.mod_eq_of_lt (show b < 2 ^ 64 by omega)]
  have := Nat.shiftLeft_add_eq_or_of_lt (i := 8) (show b < 2 ^ 8 from hb) a
  rw [Nat.shiftLeft_eq] at this
  rw [← this]
  unfold IntKind.wrap
  simp [IntKind.signed, IntKind.bits]
  omega
end Go.Proofs.YtmoenbdooilceaaDoor
