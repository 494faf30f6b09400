/-
  Walks: package ratio's fractions: Int, Minus, Sign.
  Walks: package ratio's fractions: Minus, Add, Sub, Cmp.
-/
import Derived.Test.YtgnffedncjjkfaaDoorFracB
namespace Go.Proofs.YtgnffedncjjkfaaDoor
open Go.RowKit Ar

theorem sg_int (n : Int) : sg (n : Rat) = decide (n < 0) := by
  unfold sg
  rw [Bool.eq_iff_iff, decide_eq_true_eq, decide_eq_true_eq]
  exact Rat.intCast_neg_iff
theorem IsF.int {w : World} {B : Nat} {N D : Value} (b : Bool) (n : Int) (hb : decide (n < 0) = b) (h : IsN w B .u32 N n.natAbs) (h' : IsN w B .u32 D 1) : IsF w B (.agg #[.bool b, N, D]) (n : Rat) :=
  IsF.of (by rw [sg_int]; exact hb) rfl rfl h h'

end Go.Proofs.YtgnffedncjjkfaaDoor

namespace Go.Proofs.YtgnffedncjjkfaaDoor
open Go.RowKit Ar

end Go.Proofs.YtgnffedncjjkfaaDoor

