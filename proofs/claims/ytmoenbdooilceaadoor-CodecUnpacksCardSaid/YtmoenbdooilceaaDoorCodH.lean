/-
  Walks: package codec's differences and sums, and the reference's: errors.
-/
import Derived.Test.YtmoenbdooilceaaDoorCodG
import Derived.Test.YtmoenbdooilceaaDoorSaneC
namespace Go.Proofs.YtmoenbdooilceaaDoor
open Go.RowKit By

theorem grE_cases (n : Int) (m : Nat) : grE n m = 0 ∨ grE n m = 2 ∨ grE n m = 4 := by
  unfold grE; split
  · exact .inr (.inl rfl)
  · split
    · exact .inr (.inr rfl)
    · exact .inl rfl
theorem grE_zero {n : Int} {m : Nat} (h : grE n m = 0) : 1 ≤ n ∧ n ≤ 8 ∧ m ≤ 1048576 := by
  unfold grE at h
  split at h
  · cases h
  · split at h
    · cases h
    · omega

set_option maxRecDepth 100000 in
set_option maxHeartbeats 800000 in
theorem delta_err (A : Option Addr) (m c : Nat) (n g : Int) (w : World) (hg : grE n m = g) (h0 : g = 2 ∨ g = 4) (hm : m ≤ 4000000000000) :
    Calls Tryd.prog 16 #[.slice A m c, .int .i64 n] w fun e w' => w = w' ∧ e = .returned (.tuple #[.slice none 0 0, .int .i64 g]) := by
  rcases h0 with rfl | rfl
  all_goals
    go_enter Tryd.func16, Tryd.ntmps16
    go_wp2_with fail
    refine (grouped_any _ _ _ _ _ hm).mono ?_
    rintro e w1 ⟨rfl, rfl⟩
    rw [hg]
    clear hg
    go_wp2
    go_ret2
    exact ⟨rfl, rfl⟩
set_option maxRecDepth 100000 in
set_option maxHeartbeats 800000 in
theorem undelta_err (A : Option Addr) (m c : Nat) (n g : Int) (w : World) (hg : grE n m = g) (h0 : g = 2 ∨ g = 4) (hm : m ≤ 4000000000000) :
    Calls Tryd.prog 18 #[.slice A m c, .int .i64 n] w fun e w' => w = w' ∧ e = .returned (.tuple #[.slice none 0 0, .int .i64 g]) := by
  rcases h0 with rfl | rfl
  all_goals
    go_enter Tryd.func18, Tryd.ntmps18
    go_wp2_with fail
    refine (grouped_any _ _ _ _ _ hm).mono ?_
    rintro e w1 ⟨rfl, rfl⟩
    rw [hg]
    clear hg
    go_wp2
    go_ret2
    exact ⟨rfl, rfl⟩
set_option maxRecDepth 100000 in
set_option maxHeartbeats 800000 in
theorem rdelta_err (A : Option Addr) (m c : Nat) (n g : Int) (w : World) (hg : grE n m = g) (h0 : g = 2 ∨ g = 4) (hm : m ≤ 4000000000000) :
    Calls Tryd.prog 17 #[.slice A m c, .int .i64 n] w fun e w' => w = w' ∧ e = .returned (.tuple #[.slice none 0 0, .int .i64 g]) := by
  rcases h0 with rfl | rfl
  all_goals
    go_enter Tryd.func17, Tryd.ntmps17
    go_wp2_with fail
    refine (asked_any _ _ _ _ _ hm).mono ?_
    rintro e w1 ⟨rfl, rfl⟩
    rw [hg]
    clear hg
    go_wp2
    go_ret2
    exact ⟨rfl, rfl⟩
set_option maxRecDepth 100000 in
set_option maxHeartbeats 800000 in
theorem rundelta_err (A : Option Addr) (m c : Nat) (n g : Int) (w : World) (hg : grE n m = g) (h0 : g = 2 ∨ g = 4) (hm : m ≤ 4000000000000) :
    Calls Tryd.prog 19 #[.slice A m c, .int .i64 n] w fun e w' => w = w' ∧ e = .returned (.tuple #[.slice none 0 0, .int .i64 g]) := by
  rcases h0 with rfl | rfl
  all_goals
    go_enter Tryd.func19, Tryd.ntmps19
    go_wp2_with fail
    refine (asked_any _ _ _ _ _ hm).mono ?_
    rintro e w1 ⟨rfl, rfl⟩
    rw [hg]
    clear hg
    go_wp2
    go_ret2
    exact ⟨rfl, rfl⟩
end Go.Proofs.YtmoenbdooilceaaDoor
