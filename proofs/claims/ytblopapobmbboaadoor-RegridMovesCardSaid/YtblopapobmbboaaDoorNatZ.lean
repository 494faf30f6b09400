/-
  Walks: package ratio's natural numbers: Zero.
-/
import Derived.Test.YtblopapobmbboaaDoorNatA
namespace Go.Proofs.YtblopapobmbboaaDoor
open Go.RowKit Ar

set_option maxHeartbeats 400000 in
theorem zero_any (n : Nat) (v : Value) (w : World) (h : IsN w w.heap.size .u32 v n) :
    Calls Tryd.prog 90 #[v] w fun e w' => w = w' ∧ e = .returned (.bool (decide (n = 0))) := by
  obtain ⟨A, c, rfl, h1, h3⟩ := h
  have e : decide (n = 0) = (((limbs n).length : Int) == 0) := by
    rw [Bool.eq_iff_iff, beq_iff_eq, decide_eq_true_eq, ← limbs_len_zero]; omega
  rw [e]
  clear e
  generalize (limbs n).length = m at *
  go_enter Tryd.func90, Tryd.ntmps90
  go_wp2
  go_ret
  exact ⟨rfl, rfl⟩
end Go.Proofs.YtblopapobmbboaaDoor
