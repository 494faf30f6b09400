/-
  Words: the reference's rational numbers in memory. Walks: one, den, Make, Sgn, Opp.
  Walks: the reference's rational numbers: Plus.
  Walks: the reference's rational numbers: Minus, Cmp, IntQ, Whole.
-/
import Derived.Test.YtgnffedncjjkfaaDoorQnX
import Derived.Test.YtgnffedncjjkfaaDoorFracV
import Derived.Test.YtgnffedncjjkfaaDoorFracE
import Derived.Test.YtgnffedncjjkfaaDoorFracF
import Derived.Test.YtgnffedncjjkfaaDoorOwnI
namespace Go.Proofs.YtgnffedncjjkfaaDoor
open Go.RowKit Ar

/-- A rational number of the reference in memory: an empty denominator stands for 1. -/
def IsQ (w : World) (B : Nat) (v : Value) (q : Rat) : Prop := ∃ N D d, v = .agg #[.bool (sg q), N, D] ∧ IsN w B .u64 N (nm q) ∧ IsN w B .u64 D d ∧ (d = dn q ∨ (d = 0 ∧ dn q = 1))
section
variable {w w' : World} {B B' : Nat} {v : Value} {q : Rat}
theorem IsQ.more (h : IsQ w B v q) (hB : B ≤ B') : IsQ w B' v q := by
  obtain ⟨N, D, d, e, h1, h2, h3⟩ := h; exact ⟨N, D, d, e, h1.more hB, h2.more hB, h3⟩
theorem IsQ.below (h : IsQ w B v q) (hb : Below B w w') : IsQ w' B v q := by
  obtain ⟨N, D, d, e, h1, h2, h3⟩ := h; exact ⟨N, D, d, e, h1.below hb, h2.below hb, h3⟩
theorem IsQ.next (h : IsQ w w.heap.size v q) (hb : Below w.heap.size w w') : IsQ w' w'.heap.size v q := (h.below hb).more hb.size
theorem IsQ.drew (h : IsQ w w.heap.size v q) : IsQ w.drew w.drew.heap.size v q := h
theorem IsQ.form (h : IsQ w B v q) : ∃ s A l c A' l' c', v = .agg #[.bool s, .slice A l c, .slice A' l' c'] := by
  obtain ⟨N, D, d, e, h1, h2, _⟩ := h
  obtain ⟨A, l, c, rfl⟩ := h1.form
  obtain ⟨A', l', c', rfl⟩ := h2.form
  exact ⟨_, _, _, _, _, _, _, e⟩
theorem IsQ.set3 {b : Nat} (h : IsQ w B v q) {T : TypeId} {f : Bool} {A0 A1 : Option Addr} {l0 l1 c0 c1 : Nat} (hb : Bk w b T #[.bool f, .slice A0 l0 c0, .slice A1 l1 c1]) (x y z : Value) : IsQ (set3 w b x y z) B v q := by
  obtain ⟨N, D, d, e, h1, h2, h3⟩ := h
  exact ⟨N, D, d, e, h1.set3 hb x y z, h2.set3 hb x y z, h3⟩
theorem IsQ.zero (w : World) (B : Nat) : IsQ w B (.agg #[.bool false, .slice none 0 0, .slice none 0 0]) 0 :=
  ⟨_, _, 0, rfl, IsN.nil _ _ _, IsN.nil _ _ _, .inr ⟨rfl, rfl⟩⟩
end

end Go.Proofs.YtgnffedncjjkfaaDoor

namespace Go.Proofs.YtgnffedncjjkfaaDoor
open Go.RowKit Ar

section
variable {w W W' : World} {u1 u2 u3 v1 v2 v3 : Value}
end
end Go.Proofs.YtgnffedncjjkfaaDoor

namespace Go.Proofs.YtgnffedncjjkfaaDoor
open Go.RowKit Ar

end Go.Proofs.YtgnffedncjjkfaaDoor

