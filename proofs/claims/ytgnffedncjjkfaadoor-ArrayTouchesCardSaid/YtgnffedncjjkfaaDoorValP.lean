/-
  Plain law: the texts that the reference reads as numbers are the canonical ones.
-/
import Derived.Test.YtgnffedncjjkfaaDoorTxt
namespace Go.Proofs.YtgnffedncjjkfaaDoor.Ar
open Go.Lib

/-- The texts of numbers of at most 40 digits above and below. -/
def IsNum (l : List UInt8) : Prop := IsText l ∧ (cut47 (unsign l)).1.length ≤ 40 ∧ ((cut47 (unsign l)).2.getD []).length ≤ 40
end Go.Proofs.YtgnffedncjjkfaaDoor.Ar

