/-
  Walks: package ratio's natural numbers: Mul.
-/
import Derived.Test.YtihcefiffblikaaDoorNatV
namespace Go.Proofs.YtihcefiffblikaaDoor
open Go.RowKit Ar

theorem mul_inner {Z Z' c p x y r s T m : Nat} (h : Z + c * p = T) (hs : s = x * y + r + c) (hset : Z' + p * r = Z + p * (s % B)) (hm : m = p * (x * y)) : Z' + s / B * (p * B) = T + m := by
  have := Nat.mod_add_div s B
  have e : p * (s % B + B * (s / B)) = p * s := by rw [this]
  rw [Nat.mul_add] at e
  have e2 : s / B * (p * B) = p * (B * (s / B)) := by grind
  rw [e2]
  subst hs
  have : p * (x * y + r + c) = p * (x * y) + p * r + c * p := by grind
  omega

end Go.Proofs.YtihcefiffblikaaDoor
