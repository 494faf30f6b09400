/-
  The bytes of integers: plain mathematics.
-/
import Derived.Test.YtmoenbdooilceaaDoorBy
import Derived.Test.YtmoenbdooilceaaDoorBits
namespace Go.Proofs.YtmoenbdooilceaaDoor.By
open Go.RowKit

/-- One bit is set. -/
def putbit (l : List Nat) (i : Nat) : List Nat := l.set (i / 8) (l.getD (i / 8) 0 ||| 2 ^ (i % 8))
/-- The bits of the first i values. -/
def bm (fl : List Bool) : Nat → List Nat
  | 0 => List.replicate ((fl.length + 7) / 8) 0
  | i + 1 => if fl.getD i false then putbit (bm fl i) i else bm fl i
theorem putbit_len (l : List Nat) (i : Nat) : (putbit l i).length = l.length := by simp [putbit]
theorem bm_len (fl : List Bool) : ∀ i, (bm fl i).length = (fl.length + 7) / 8
  | 0 => by simp [bm]
  | i + 1 => by
    rw [bm]; split
    · rw [putbit_len, bm_len fl i]
    · exact bm_len fl i
theorem pow_bit (i : Nat) : 2 ^ (i % 8) < 256 := by
  have h : 2 ^ (i % 8) ≤ 2 ^ 7 := Nat.pow_le_pow_right (by decide) (by omega)
  omega
theorem or_lt {a b : Nat} (ha : a < 256) (hb : b < 256) : a ||| b < 256 := Nat.or_lt_two_pow (n := 8) ha hb
theorem putbit_bytes {l : List Nat} (h : Bytes l) (i : Nat) : Bytes (putbit l i) := fun x hx => by
  rcases List.mem_or_eq_of_mem_set hx with h1 | h1
  · exact h x h1
  · rw [h1]; exact or_lt (h.at_ _) (pow_bit i)
theorem bm_bytes (fl : List Bool) : ∀ i, Bytes (bm fl i)
  | 0 => fun x hx => by rw [List.eq_of_mem_replicate hx]; decide
  | i + 1 => by
    rw [bm]; split
    · exact putbit_bytes (bm_bytes fl i) i
    · exact bm_bytes fl i
/-- The bytes of the first i numbers. -/
def pv (W : Nat) (ns : List Int) : Nat → List Nat
  | 0 => []
  | i + 1 => pv W ns i ++ gb W ((ns.getD i 0) % 18446744073709551616).toNat
theorem pv_len (W : Nat) (ns : List Int) : ∀ i, (pv W ns i).length = i * W
  | 0 => by simp [pv]
  | i + 1 => by rw [pv, List.length_append, pv_len W ns i, gb_len, Nat.succ_mul]
theorem pv_bytes (W : Nat) (ns : List Int) : ∀ i, Bytes (pv W ns i)
  | 0 => bytes_nil
  | i + 1 => (pv_bytes W ns i).app (gb_bytes _ _)
/-- What stands in memory in front of value i. -/
def putI (W : Nat) (fl : List Bool) (ns : List Int) (i : Nat) : List Nat := bm fl i ++ pv W ns i
theorem putI_len (W : Nat) (fl : List Bool) (ns : List Int) (i : Nat) : (putI W fl ns i).length = (fl.length + 7) / 8 + i * W := by
  unfold putI; rw [List.length_append, bm_len, pv_len]
theorem putI_bytes (W : Nat) (fl : List Bool) (ns : List Int) (i : Nat) : Bytes (putI W fl ns i) := (bm_bytes _ _).app (pv_bytes _ _ _)
theorem putbit_left {l m : List Nat} {i : Nat} (h : i / 8 < l.length) : putbit (l ++ m) i = putbit l i ++ m := by
  unfold putbit
  rw [List.set_append_left _ _ h]
  congr 2
  simp [List.getD_eq_getElem?_getD, List.getElem?_append_left h]
theorem putI_flag {W : Nat} {fl : List Bool} {ns : List Int} {i : Nat} (h : i < fl.length) : (if fl.getD i false = true then putbit (putI W fl ns i) i else putI W fl ns i) ++ gb W ((ns.getD i 0) % 18446744073709551616).toNat = putI W fl ns (i + 1) := by
  unfold putI
  rw [bm, pv]
  by_cases hf : fl.getD i false = true
  · rw [if_pos hf, if_pos hf, putbit_left (by rw [bm_len]; omega), List.append_assoc]
  · rw [if_neg hf, if_neg hf, List.append_assoc]
/-- A byte of a number in two's complement. -/
theorem byte_of (n : Int) {s : Nat} (h : s ≤ 7) : n / 2 ^ (8 * s) % 256 = (((n % 18446744073709551616).toNat / 256 ^ s % 256 : Nat) : Int) := by
  have e : (256 : Nat) ^ s = 2 ^ (8 * s) := by rw [show (256 : Nat) = 2 ^ 8 from rfl, Nat.pow_mul]
  rw [e]
  have h0 : 0 ≤ n % 18446744073709551616 := Int.emod_nonneg _ (by decide)
  generalize hX : (n % 18446744073709551616).toNat = X
  have hx : n % 18446744073709551616 = (X : Int) := by rw [← hX]; omega
  have hn : n = (X : Int) + 18446744073709551616 * (n / 18446744073709551616) := by omega
  generalize n / 18446744073709551616 = q at hn
  have hp : (0 : Int) < 2 ^ (8 * s) := Int.pow_pos (by decide)
  have hd : (18446744073709551616 : Int) = 2 ^ (8 * s) * (256 * 2 ^ (56 - 8 * s)) := by
    have : (18446744073709551616 : Int) = 2 ^ (8 * s + (8 + (56 - 8 * s))) := by
      rw [show 8 * s + (8 + (56 - 8 * s)) = 64 by omega]; rfl
    rw [this, Int.pow_add, Int.pow_add]; rfl
  rw [hn, hd, Int.mul_assoc, Int.add_mul_ediv_left _ _ (Int.ne_of_gt hp), Int.mul_assoc 256, Int.add_mul_emod_self_left]
  have e3 : ((2 : Int) ^ (8 * s)) = ((2 ^ (8 * s) : Nat) : Int) := by simp
  rw [e3, ← Int.natCast_ediv]
  exact (Int.natCast_emod _ _).symm
end Go.Proofs.YtmoenbdooilceaaDoor.By
