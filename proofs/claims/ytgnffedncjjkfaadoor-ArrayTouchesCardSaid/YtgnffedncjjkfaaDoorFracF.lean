/-
  Walks: package ratio's fractions: Sub, Long.
-/
import Derived.Test.YtgnffedncjjkfaaDoorFracE
import Derived.Test.YtgnffedncjjkfaaDoorNatS
namespace Go.Proofs.YtgnffedncjjkfaaDoor
open Go.RowKit Ar

theorem IsF.drew {w : World} {v : Value} {q : Rat} (h : IsF w w.heap.size v q) : IsF w.drew w.drew.heap.size v q := h

end Go.Proofs.YtgnffedncjjkfaaDoor

