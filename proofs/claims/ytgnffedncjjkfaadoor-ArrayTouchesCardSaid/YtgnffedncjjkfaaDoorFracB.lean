/-
  Walks: package ratio's fractions: Int, Mul, Div, Minus, Sign, Add, Sub, Cmp.
-/
import Derived.Test.YtgnffedncjjkfaaDoorFracU
namespace Go.Proofs.YtgnffedncjjkfaaDoor
open Go.RowKit Ar

/-- The size of a fraction. -/
def sz (q : Rat) : Nat := max (limbs (nm q)).length (limbs (dn q)).length
/-- The world under one name. -/
theorem wp_name {P : Program} {c : Code} {Q : Exit → Act → World → Prop} {a : Act} {w : World} (F : World → Prop) (hF : F w) (h : ∀ W, F W → c.wp P Q a W) : c.wp P Q a w := h w hF

theorem IsF.form {w : World} {B : Nat} {v : Value} {q : Rat} (h : IsF w B v q) : ∃ s A l c A' l' c', v = .agg #[.bool s, .slice A l c, .slice A' l' c'] := by
  obtain ⟨N, D, e, h1, h2⟩ := h
  obtain ⟨A, l, c, rfl⟩ := h1.form
  obtain ⟨A', l', c', rfl⟩ := h2.form
  exact ⟨_, _, _, _, _, _, _, e⟩
theorem bk3 {w : World} {b : Nat} {T : TypeId} {x y z : Value} (h : Bk w b T #[x, y, z]) : w.cell? ⟨b, 0, none⟩ = some x ∧ w.cell? ⟨b, 1, none⟩ = some y ∧ w.cell? ⟨b, 2, none⟩ = some z := ⟨h.cell 0, h.cell 1, h.cell 2⟩
theorem bk_far3 {w : World} {b b' : Nat} {T : TypeId} {cs : Array Value} {x y z : Value} (h : Bk w b T cs) (hne : b ≠ b') : Bk (set3 w b' x y z) b T cs := ((h.far (by exact hne) x).far (by exact hne) y).far (by exact hne) z
end Go.Proofs.YtgnffedncjjkfaaDoor

