/-
  Walks: the reference's texts of numbers: digits, Long: the number of a text of any length, or none.
-/
import Derived.Test.YtpkhgdnkkdhlcaaGreatDoorQqN
namespace Go.Proofs.YtpkhgdnkkdhlcaaGreatDoor
open Go.RowKit Ar


/-- What stands below the stroke; 1 without one. -/
def lowOf (u : List UInt8) : List UInt8 := match (cut47 u).2 with
  | none => [49]
  | some m => m
theorem isText_digs {l : List UInt8} (h : IsText l) : Digs (cut47 (unsign l)).1 ∧ Digs (lowOf (unsign l)) ∧ 0 < (cut47 (unsign l)).1.length ∧ 0 < (lowOf (unsign l)).length ∧ 0 < dval (lowOf (unsign l)) := by
  have h1 := h.above
  refine ⟨h1.1, ?_⟩
  unfold lowOf
  cases hc : (cut47 (unsign l)).2 with
  | none => exact ⟨(show Digs [49] from fun b hb => by simp at hb; subst hb; decide), List.length_pos_iff.2 h1.2.1, (show 0 < [49].length by decide), (show 0 < dval [49] by decide)⟩
  | some m =>
    obtain ⟨h2, h3, _⟩ := h.below m hc
    exact ⟨h2.1, List.length_pos_iff.2 h1.2.1, List.length_pos_iff.2 h2.2.1, dval_pos h2 h3⟩
theorem ba_ext {a b : ByteArray} (h : a.data.toList = b.data.toList) : a = b := by
  apply ByteArray.ext
  exact Array.ext' h
end Go.Proofs.YtpkhgdnkkdhlcaaGreatDoor

