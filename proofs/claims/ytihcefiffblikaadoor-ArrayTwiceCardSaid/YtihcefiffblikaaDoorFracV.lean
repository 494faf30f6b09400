/-
  Walks: package ratio's fractions: Int, Minus, Sign.
  Walks: package ratio's fractions: Minus, Add, Sub, Cmp.
-/
import Derived.Test.YtihcefiffblikaaDoorFracB
namespace Go.Proofs.YtihcefiffblikaaDoor
open Go.RowKit Ar

/-- The sign of a rational number. -/
def sgQ (q : Rat) : Int := if q = 0 then 0 else if q < 0 then -1 else 1


theorem nm_int (n : Int) : nm (n : Rat) = n.natAbs := rfl
theorem dn_int (n : Int) : dn (n : Rat) = 1 := rfl
theorem sg_int (n : Int) : sg (n : Rat) = decide (n < 0) := by
  unfold sg
  rw [Bool.eq_iff_iff, decide_eq_true_eq, decide_eq_true_eq]
  exact Rat.intCast_neg_iff
theorem wrap_neg (m : Nat) (h : 0 < m) (h' : m ≤ 1000000000000000) : IntKind.u64.wrap (-IntKind.u64.wrap (-(m : Int))) = (m : Int) := by
  simp [IntKind.wrap, IntKind.bits, IntKind.signed]
  omega
theorem IsF.int {w : World} {B : Nat} {N D : Value} (b : Bool) (n : Int) (hb : decide (n < 0) = b) (h : IsN w B .u32 N n.natAbs) (h' : IsN w B .u32 D 1) : IsF w B (.agg #[.bool b, N, D]) (n : Rat) :=
  IsF.of (by rw [sg_int]; exact hb) rfl rfl h h'

end Go.Proofs.YtihcefiffblikaaDoor

namespace Go.Proofs.YtihcefiffblikaaDoor
open Go.RowKit Ar

end Go.Proofs.YtihcefiffblikaaDoor
