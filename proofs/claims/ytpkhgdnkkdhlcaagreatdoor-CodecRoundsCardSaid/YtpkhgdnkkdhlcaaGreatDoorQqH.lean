/-
  Walks: the reference's texts of numbers: digits, Long: the number of a text of any length, or none.
-/
import Derived.Test.YtpkhgdnkkdhlcaaGreatDoorQqN
namespace Go.Proofs.YtpkhgdnkkdhlcaaGreatDoor
open Go.RowKit Ar


theorem ba_ext {a b : ByteArray} (h : a.data.toList = b.data.toList) : a = b := by
  apply ByteArray.ext
  exact Array.ext' h
end Go.Proofs.YtpkhgdnkkdhlcaaGreatDoor

