/-
  Walks: package regrid: place, turn, sign, on.
-/
import Derived.Test.YtbddmkklkbkliaaGreatDoorFracF
namespace Go.Proofs.YtbddmkklkbkliaaGreatDoor
open Go.RowKit

theorem max_two (x y : Int) : (if y > x then y else x) = max x y := by split <;> omega
theorem min_two (x y : Int) : (if y < x then y else x) = min x y := by split <;> omega
theorem run_max_int4 {P : Program} (w : World) (ts : Array TypeId) (t : TypeId) (k k' k2 k3 : IntKind) (x y z u : Int) : (Builtin.max_ ts t #[.int k x, .int k' y, .int k2 z, .int k3 u]).run P w = .ok (.int k (max (max (max x y) z) u)) w := by
  rw [← max_two (max (max x y) z) u, ← max_two (max x y) z, ← max_two x y]
  simp [Builtin.max_, Builtin.max2]
theorem run_min_int4 {P : Program} (w : World) (ts : Array TypeId) (t : TypeId) (k k' k2 k3 : IntKind) (x y z u : Int) : (Builtin.min_ ts t #[.int k x, .int k' y, .int k2 z, .int k3 u]).run P w = .ok (.int k (min (min (min x y) z) u)) w := by
  rw [← min_two (min (min x y) z) u, ← min_two (min x y) z, ← min_two x y]
  simp [Builtin.min_, Builtin.min2]
attribute [local go_sem] run_max_int4 run_min_int4

/-- A place as a value. -/
def pv (p : Int × Int) : Value := .agg #[.int .i64 p.1, .int .i64 p.2]
/-- Within the limits. -/
def okP (p : Int × Int) : Prop := -1048576 ≤ p.1 ∧ p.1 ≤ 1048576 ∧ -1048576 ≤ p.2 ∧ p.2 ≤ 1048576
instance (p : Int × Int) : Decidable (okP p) := by unfold okP; infer_instance
/-- The integers of 64 bits. -/
def in64 (n : Int) : Prop := -9223372036854775808 ≤ n ∧ n ≤ 9223372036854775807
/-- The cross product of b - a and c - a. -/
def trn (a b c : Int × Int) : Int := (b.1 - a.1) * (c.2 - a.2) - (b.2 - a.2) * (c.1 - a.1)
def sgn (n : Int) : Int := if n < 0 then -1 else if n = 0 then 0 else 1

theorem mul_in {x y : Int} (hx : -2097152 ≤ x ∧ x ≤ 2097152) (hy : -2097152 ≤ y ∧ y ≤ 2097152) : -4398046511104 ≤ x * y ∧ x * y ≤ 4398046511104 := by
  have h : (x * y).natAbs ≤ 4398046511104 := by
    rw [Int.natAbs_mul]
    exact Nat.le_trans (Nat.mul_le_mul (show x.natAbs ≤ 2097152 by omega) (show y.natAbs ≤ 2097152 by omega)) (by decide)
  omega
set_option maxHeartbeats 800000 in
theorem sign_any (n : Int) (w : World) :
    Calls Tryz.prog 157 #[.int .i64 n] w fun e w' => w' = w ∧ e = .returned (.int .i64 (sgn n)) := by
  have h : min (max n (-1)) 1 = sgn n := by
    unfold sgn
    split
    · omega
    · split <;> omega
  go_enter Tryz.func157, Tryz.ntmps157
  go_wp2
  go_ret
  exact ⟨rfl, by rw [← h]; rfl⟩

set_option maxHeartbeats 800000 in
theorem turn_any (a b c : Int × Int) (w : World) (ha : okP a) (hb : okP b) (hc : okP c) :
    Calls Tryz.prog 132 #[pv a, pv b, pv c] w fun e w' => Below w.heap.size w w' ∧ e = .returned (.int .i64 (trn a b c)) := by
  unfold okP at *
  obtain ⟨a1, a2⟩ := a
  obtain ⟨b1, b2⟩ := b
  obtain ⟨c1, c2⟩ := c
  unfold pv trn
  simp only at *
  have e1 : IntKind.i64.wrap (b1 - a1) = b1 - a1 := IntWalk.i64_in _ (by omega)
  have e2 : IntKind.i64.wrap (b2 - a2) = b2 - a2 := IntWalk.i64_in _ (by omega)
  have e3 : IntKind.i64.wrap (c1 - a1) = c1 - a1 := IntWalk.i64_in _ (by omega)
  have e4 : IntKind.i64.wrap (c2 - a2) = c2 - a2 := IntWalk.i64_in _ (by omega)
  have m1 := mul_in (x := b1 - a1) (y := c2 - a2) (by omega) (by omega)
  have m2 := mul_in (x := b2 - a2) (y := c1 - a1) (by omega) (by omega)
  have e5 : IntKind.i64.wrap ((b1 - a1) * (c2 - a2)) = (b1 - a1) * (c2 - a2) := IntWalk.i64_in _ (by omega)
  have e6 : IntKind.i64.wrap ((b2 - a2) * (c1 - a1)) = (b2 - a2) * (c1 - a1) := IntWalk.i64_in _ (by omega)
  have e7 : IntKind.i64.wrap ((b1 - a1) * (c2 - a2) - (b2 - a2) * (c1 - a1)) = (b1 - a1) * (c2 - a2) - (b2 - a2) * (c1 - a1) := IntWalk.i64_in _ (by omega)
  go_enter Tryz.func132, Tryz.ntmps132
  go_wp2
  go_ret
  exact ⟨((below_alloc w _).alloc (by simp) _).alloc (by simp; omega) _, rfl⟩

theorem ret_boolR {b q : Bool} (h : b = true ↔ q = true) : Ending.returned (Value.bool b) = Ending.returned (Value.bool q) := by rw [Bool.eq_iff_iff.2 h]
theorem wrap64_neg {x : Int} (h : in64 x) : (x = -9223372036854775808 ∧ wrap64 (-x) = x) ∨ (x ≠ -9223372036854775808 ∧ wrap64 (-x) = -x) := by
  unfold in64 at h
  rcases Classical.em (x = -9223372036854775808) with rfl | h0
  · exact .inl ⟨rfl, by simp [wrap64]⟩
  · exact .inr ⟨h0, by unfold wrap64; omega⟩
set_option maxHeartbeats 1600000 in
theorem place_any (p : Int × Int) (w : World) (h1 : in64 p.1) (h2 : in64 p.2) (q : Bool) (hq : decide (okP p) = q) :
    Calls Tryz.prog 131 #[pv p] w fun e w' => Below w.heap.size w w' ∧ e = .returned (.bool q) := by
  have HQ : Hid (q = true ↔ okP p) := by rw [← hq]; exact decide_eq_true_iff
  clear hq
  obtain ⟨x, y⟩ := p
  have hx := Lib.hid (wrap64_neg h1)
  have hy := Lib.hid (wrap64_neg h2)
  unfold in64 at *
  unfold pv
  simp only at *
  go_enter Tryz.func131, Tryz.ntmps131
  go_wp2
  all_goals
    go_ret
    refine ⟨below_alloc _ _, ?_⟩
    refine ret_boolR ?_
    rw [HQ.out]
    unfold okP
    simp only [decide_eq_true_eq, Bool.false_eq_true, false_iff]
    have hx := hx.out
    have hy := hy.out
    generalize wrap64 (-x) = u at *
    generalize wrap64 (-y) = v at *
    omega

/-- Between two places, for one on the line through them. -/
def onP (a b c : Int × Int) : Prop := min a.1 b.1 ≤ c.1 ∧ c.1 ≤ max a.1 b.1 ∧ min a.2 b.2 ≤ c.2 ∧ c.2 ≤ max a.2 b.2
instance (a b c : Int × Int) : Decidable (onP a b c) := by unfold onP; infer_instance
set_option maxHeartbeats 1600000 in
theorem on_any (a b c : Int × Int) (w : World) (q : Bool) (hq : decide (onP a b c) = q) :
    Calls Tryz.prog 158 #[pv a, pv b, pv c] w fun e w' => Below w.heap.size w w' ∧ e = .returned (.bool q) := by
  have HQ : Hid (q = true ↔ onP a b c) := by rw [← hq]; exact decide_eq_true_iff
  clear hq
  obtain ⟨a1, a2⟩ := a
  obtain ⟨b1, b2⟩ := b
  obtain ⟨c1, c2⟩ := c
  unfold pv
  simp only
  go_enter Tryz.func158, Tryz.ntmps158
  go_wp2
  all_goals
    go_ret
    refine ⟨((below_alloc w _).alloc (by simp) _).alloc (by simp; omega) _, ?_⟩
    refine ret_boolR ?_
    rw [HQ.out]
    unfold onP
    simp only [decide_eq_true_eq, Bool.false_eq_true, false_iff]
    omega
end Go.Proofs.YtbddmkklkbkliaaGreatDoor
