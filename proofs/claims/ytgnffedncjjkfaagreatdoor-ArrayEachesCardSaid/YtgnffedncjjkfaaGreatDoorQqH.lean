/-
  Walks: the reference's texts of numbers: digits, Long: the number of a text of any length, or none.
-/
import Derived.Test.YtgnffedncjjkfaaGreatDoorQqN
namespace Go.Proofs.YtgnffedncjjkfaaGreatDoor
open Go.RowKit Ar


/-- What stands below the stroke; 1 without one. -/
def lowOf (u : List UInt8) : List UInt8 := match (cut47 u).2 with
  | none => [49]
  | some m => m
theorem textRat_eq (l : List UInt8) : textRat l = nr (isNeg l) (dval (cut47 (unsign l)).1) (dval (lowOf (unsign l))) := by
  unfold textRat lowOf
  cases (cut47 (unsign l)).2 with
  | none => rfl
  | some m => rfl
theorem isText_digs {l : List UInt8} (h : IsText l) : Digs (cut47 (unsign l)).1 ∧ Digs (lowOf (unsign l)) ∧ 0 < (cut47 (unsign l)).1.length ∧ 0 < (lowOf (unsign l)).length ∧ 0 < dval (lowOf (unsign l)) := by
  have h1 := h.above
  refine ⟨h1.1, ?_⟩
  unfold lowOf
  cases hc : (cut47 (unsign l)).2 with
  | none => exact ⟨(show Digs [49] from fun b hb => by simp at hb; subst hb; decide), List.length_pos_iff.2 h1.2.1, (show 0 < [49].length by decide), (show 0 < dval [49] by decide)⟩
  | some m =>
    obtain ⟨h2, h3, _⟩ := h.below m hc
    exact ⟨h2.1, List.length_pos_iff.2 h1.2.1, List.length_pos_iff.2 h2.2.1, dval_pos h2 h3⟩
theorem dval_limbs {l : List UInt8} (h : Digs l) : (limbs (dval l)).length ≤ l.length / 9 + 1 := limbs_len_le (by
  rw [← ten_nine]
  exact Nat.lt_of_lt_of_le (dval_lt h) (Nat.pow_le_pow_right (by decide) (by omega)))
theorem ba_ext {a b : ByteArray} (h : a.data.toList = b.data.toList) : a = b := by
  apply ByteArray.ext
  exact Array.ext' h
theorem cut_at {u : List UInt8} {k : Nat} (hk : k < u.length) (h0 : ∀ j, j < k → u[j]? ≠ some 47) (h1 : u[k]? = some 47) : cut47 u = (u.take k, some (u.drop (k + 1))) := by
  have e : u = u.take k ++ 47 :: u.drop (k + 1) := by
    conv => lhs; rw [← List.take_append_drop k u]
    congr 1
    rw [List.drop_eq_getElem_cons hk]
    congr 1
    rw [List.getElem?_eq_getElem hk] at h1
    injection h1
  conv => lhs; rw [e]
  refine cut47_some (fun hm => ?_) _
  obtain ⟨j, hj⟩ := List.getElem?_of_mem hm
  rw [List.getElem?_take] at hj
  split at hj
  · rename_i h2; exact h0 j h2 hj
  · cases hj
theorem cut_none {u : List UInt8} (h0 : ∀ j, j < u.length → u[j]? ≠ some 47) : cut47 u = (u, none) := cut47_none fun hm => by
  obtain ⟨j, hj⟩ := List.getElem?_of_mem hm
  exact h0 j (List.getElem?_eq_some_iff.1 hj).1 hj

end Go.Proofs.YtgnffedncjjkfaaGreatDoor
