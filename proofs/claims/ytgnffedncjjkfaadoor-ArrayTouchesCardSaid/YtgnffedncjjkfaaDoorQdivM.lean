/-
  Plain mathematics: the reference's long division, and its texts of numbers.
-/
import Derived.Test.YtgnffedncjjkfaaDoorNum
import Derived.Test.YtgnffedncjjkfaaDoorTxt
open Go Go.Lib
namespace Go.Proofs.YtgnffedncjjkfaaDoor.Ar

/-- The state of the reference's division: what is left, and the digits found so far. -/
structure QS (U V m J R : Nat) (qs : List Nat) : Prop where
  ql : qs.length = m
  qsm : Small qs
  sum : U = V * val qs + R
  top : R < V * B ^ J
  low : ∀ i, i < J → qs.getD i 0 = 0
theorem QS.start {U V m : Nat} (h : U < V * B ^ m) : QS U V m m U (List.replicate m 0) :=
  ⟨by simp, Small.replicate _, by rw [val_replicate]; simp, h, fun i _ => by rw [List.getD_eq_getElem?_getD, List.getElem?_replicate]; split <;> rfl⟩
theorem QS.next {U V m j R g : Nat} {qs : List Nat} (h : QS U V m (j + 1) R qs) (hj : j < m) (h1 : V * B ^ j * g ≤ R) (h2 : R / (V * B ^ j) ≤ g) (hV : 0 < V) :
    QS U V m j (R - V * B ^ j * g) (qs.set j g) ∧ g < B := by
  have hp : 0 < V * B ^ j := Nat.mul_pos hV (Nat.pow_pos B_pos)
  have hg : R / (V * B ^ j) = g := div_eq_of h1 h2 hp
  have hgB : g < B := by
    rw [← hg]
    apply Nat.div_lt_of_lt_mul
    have := h.top
    rw [Nat.pow_succ, ← Nat.mul_assoc] at this
    exact this
  refine ⟨⟨by simpa using h.ql, h.qsm.set hgB, ?_, ?_, ?_⟩, hgB⟩
  · have e2 := val_set qs j g (by rw [h.ql]; exact hj)
    rw [h.low j (by omega), Nat.mul_zero, Nat.add_zero] at e2
    have e3 := h.sum
    have e4 : V * (B ^ j * g) = V * B ^ j * g := by rw [Nat.mul_assoc]
    rw [e2, Nat.mul_add, e4]
    omega
  · rw [mod_of_div hg]; exact Nat.mod_lt _ hp
  · intro i hi
    rw [List.getD_eq_getElem?_getD, List.getElem?_set_ne (by omega), ← List.getD_eq_getElem?_getD]
    exact h.low i (by omega)
theorem QS.done {a b f m R : Nat} {qs : List Nat} (h : QS (a * f) (b * f) m 0 R qs) (hf : 0 < f) (hb : 0 < b) : val qs = a / b ∧ R / f = a % b := by
  have ht := h.top
  rw [Nat.pow_zero, Nat.mul_one] at ht
  have hp : 0 < b * f := Nat.mul_pos hb hf
  have e1 : a * f / (b * f) = val qs := by rw [h.sum, Nat.mul_add_div hp, Nat.div_eq_of_lt ht, Nat.add_zero]
  have e2 : a * f % (b * f) = R := by rw [h.sum, Nat.mul_add_mod, Nat.mod_eq_of_lt ht]
  rw [Nat.mul_div_mul_right a b hf] at e1
  rw [Nat.mul_mod_mul_right] at e2
  exact ⟨e1.symm, by rw [← e2, Nat.mul_div_cancel _ hf]⟩
theorem Digs.drop {l : List UInt8} (h : Digs l) (k : Nat) : Digs (l.drop k) := fun b hb => h b (List.mem_of_mem_drop hb)
theorem Digs.take {l : List UInt8} (h : Digs l) (k : Nat) : Digs (l.take k) := fun b hb => h b (List.mem_of_mem_take hb)
end Go.Proofs.YtgnffedncjjkfaaDoor.Ar

