/-
  Walks: package ratio's fractions: Add.
-/
import Derived.Test.YtgnffedncjjkfaaDoorFracV
namespace Go.Proofs.YtgnffedncjjkfaaDoor
open Go.RowKit Ar

theorem IsN.drew {w : World} {k : IntKind} {v : Value} {n : Nat} (h : IsN w w.heap.size k v n) : IsN w.drew w.drew.heap.size k v n := h
theorem IsN.drewN {w : World} {k : IntKind} {v : Value} {n : Nat} (h : IsN w w.heap.size k v n) (m : Nat) : IsN (w.drewN m) (w.drewN m).heap.size k v n := h

end Go.Proofs.YtgnffedncjjkfaaDoor

