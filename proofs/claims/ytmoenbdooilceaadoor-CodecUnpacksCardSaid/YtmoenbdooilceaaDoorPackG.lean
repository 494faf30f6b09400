/-
  Walk: the reference's unpacked.
-/
import Derived.Test.YtmoenbdooilceaaDoorPackF
import Derived.OwnWalk
namespace Go.Proofs.YtmoenbdooilceaaDoor
open Go.RowKit By

/-- When the reference's unpacked takes the bytes. -/
def ukOkR (b : List Nat) (n : Nat) : Prop := 4 ≤ b.length ∧ (ukN b = 0 ∨ (ukN b ≤ 1048576 ∧ n + 1 ≤ (b.drop 4).length ∧ ukW b n ≤ 64 ∧ ukS b n ≤ (ukF b n).length))

set_option maxRecDepth 100000 in
set_option maxHeartbeats 800000 in
theorem runpacked_short (A : Option Addr) (c n : Nat) (b : List Nat) (w : World) (hs : b.length < 4) :
    Calls Tryd.prog 54 #[.slice A b.length c, .int .i64 n] w fun e w' => w = w' ∧ e = .returned (.tuple #[.slice none 0 0, .slice none 0 0, .bool false]) := by
  go_enter Tryd.func54, Tryd.ntmps54
  go_wp2
  go_ret3
  exact ⟨rfl, rfl⟩

set_option maxRecDepth 100000 in
set_option maxHeartbeats 800000 in
theorem runpacked_none (A : Option Addr) (c n : Nat) (b : List Nat) (w : World) (hl : Bytes b) (hs : 4 ≤ b.length) (hc : b.length ≤ c) (h0 : ukN b = 0) (h : Rd w w.heap.size A (ints .u8 b)) :
    Calls Tryd.prog 54 #[.slice A b.length c, .int .i64 n] w fun e w' => Below w.heap.size w w' ∧ ∃ u, e = .returned (.tuple #[.slice none 0 0, u, .bool true]) ∧ IsL w' w'.heap.size .u8 u (b.drop 4) := by
  obtain ⟨ad, rfl, hab, _⟩ := h.int (j := 0) (by omega)
  have hrd : Rd w w.heap.size (some ad) (ints .u8 (b.take 4)) := by
    have := h.sub 0 4
    rw [List.drop_zero] at this
    exact this
  have hd : Rd w w.heap.size (some (ad.add 4)) (ints .u8 (b.drop 4)) := by
    have := h.sub 4 (b.length - 4)
    rwa [List.take_of_length_le (by simp)] at this
  have HG : Hid (gv (b.take 4) = 0) := h0
  have HD : Hid (IsL w w.heap.size .u8 (.slice (some (ad.add 4)) (b.length - 4) (c - 4)) (b.drop 4)) := ⟨_, _, by rw [List.length_drop], by rw [List.length_drop]; omega, hd⟩
  go_enter Tryd.func54, Tryd.ntmps54
  go_wp2_with fail
  refine (rread_any (some ad) c 4 (b.take 4) _ (by simp; omega) (by omega) (hl.take _) hrd).mono ?_
  rintro e w5 ⟨rfl, rfl⟩
  rw [HG.out]
  have q1 : 4 ≤ c := by omega
  by_cases q2 : c = 4
  · have HZ : Hid (IsL w w.heap.size .u8 (.slice (some ad) 0 0) (b.drop 4)) := by
      have e : b.drop 4 = [] := List.drop_eq_nil_of_le (by omega)
      show IsL _ _ _ _ _
      rw [e]
      exact ⟨_, _, rfl, Nat.le_refl _, fun hn => absurd rfl hn⟩
    subst q2
    go_wp2
    go_still (by kernel_rfl)
    go_wp2
    go_ret3
    exact ⟨(Below.refl _ _).drew, _, rfl, HZ.out⟩
  · go_wp2
    go_still (by kernel_rfl)
    go_wp2
    go_ret3
    exact ⟨(Below.refl _ _).drew, _, rfl, HD.out⟩
end Go.Proofs.YtmoenbdooilceaaDoor
