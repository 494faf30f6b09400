/-
  Plain law: the sizes of numbers and of their texts.
-/
import Derived.Test.YtpkhgdnkkdhlcaaGreatDoorFracF
namespace Go.Proofs.YtpkhgdnkkdhlcaaGreatDoor
open Go.RowKit Ar

theorem sz_nr (s : Bool) (n d : Nat) (hd : 0 < d) : sz (nr s n d) ≤ max (limbs n).length (limbs d).length := by
  unfold sz nm dn
  rw [nr_abs s hd, nr_den s hd]
  have h1 := len_mono (Nat.div_le_self n (Nat.gcd n d))
  have h2 := len_mono (Nat.div_le_self d (Nat.gcd n d))
  omega
theorem sz_mul (p q : Rat) : sz (p * q) ≤ sz p + sz q := by
  rw [mul_nr]
  refine Nat.le_trans (sz_nr _ _ _ (Nat.mul_pos (dn_pos p) (dn_pos q))) ?_
  have h1 := len_mul_le (nm p) (nm q)
  have h2 := len_mul_le (dn p) (dn q)
  have := sz_nm p; have := sz_nm q; have := sz_dn p; have := sz_dn q
  omega
theorem sz_add (p q : Rat) : sz (p + q) ≤ sz p + sz q + 1 := by
  have h1 := len_mul_le (nm p) (dn q)
  have h2 := len_mul_le (nm q) (dn p)
  have h3 := len_mul_le (dn p) (dn q)
  have h4 := len_add_le (nm p * dn q) (nm q * dn p)
  have := sz_nm p; have := sz_nm q; have := sz_dn p; have := sz_dn q
  have hd := Nat.mul_pos (dn_pos p) (dn_pos q)
  by_cases hs : sg p = sg q
  · rw [add_same p q hs]
    refine Nat.le_trans (sz_nr _ _ _ hd) ?_
    omega
  · by_cases hge : nm q * dn p ≤ nm p * dn q
    · rw [add_ge p q hs hge]
      refine Nat.le_trans (sz_nr _ _ _ hd) ?_
      have := len_mono (Nat.sub_le (nm p * dn q) (nm q * dn p))
      omega
    · rw [add_lt p q hs (by omega)]
      refine Nat.le_trans (sz_nr _ _ _ hd) ?_
      have := len_mono (Nat.sub_le (nm q * dn p) (nm p * dn q))
      omega
theorem sz_sub (p q : Rat) : sz (p - q) ≤ sz p + sz q + 1 := by
  rw [Rat.sub_eq_add_neg]
  have := sz_add p (-q)
  rw [sz_neg] at this
  exact this
theorem sz_div (p q : Rat) (h : q ≠ 0) : sz (p / q) ≤ sz p + sz q := by
  rw [div_nr p q h]
  have h1 := len_mul_le (nm p) (dn q)
  have h2 := len_mul_le (dn p) (nm q)
  have := sz_nm p; have := sz_nm q; have := sz_dn p; have := sz_dn q
  refine Nat.le_trans (sz_nr _ _ _ (Nat.mul_pos (dn_pos p) ?_)) (by omega)
  exact Nat.pos_of_ne_zero fun e => h (nm_zero.1 e)
theorem sz_small (n : Int) (h : n.natAbs < 1000000000) : sz (n : Rat) ≤ 1 := by
  unfold sz nm dn
  rw [Rat.num_intCast, Rat.den_intCast]
  have h1 : (limbs 1).length ≤ 1 := limbs_len_le (by decide)
  have h2 : (limbs n.natAbs).length ≤ 1 := limbs_len_le (by show n.natAbs < B ^ 1; unfold B; omega)
  omega
theorem ratText_len (q : Rat) : (ratText q).length ≤ 18 * sz q + 4 := by
  rw [ratText_parts]
  have h1 := text_len (nm q)
  have h2 := text_len (dn q)
  have h3 := sz_nm q
  have h4 := sz_dn q
  rw [List.length_append, List.length_append]
  have e1 : (if sg q = true then [45] else [] : List UInt8).length ≤ 1 := by split <;> simp
  have e2 : (if dn q = 1 then [] else 47 :: Lib.decDigits (dn q) : List UInt8).length ≤ (Lib.decDigits (dn q)).length + 1 := by split <;> simp
  omega
end Go.Proofs.YtpkhgdnkkdhlcaaGreatDoor

