/-
  Walks: what Pack and Unpack answer to a size or a length that they refuse.
-/
import Derived.Test.YtmoenbdooilceaaDoorPackE
namespace Go.Proofs.YtmoenbdooilceaaDoor
open Go.RowKit By

set_option maxRecDepth 100000 in
set_option maxHeartbeats 800000 in
theorem rpack_err (A : Option Addr) (m c : Nat) (n g : Int) (w : World) (hg : grE n m = g) (h0 : g = 2 ∨ g = 4) (hm : m ≤ 4000000000000) :
    Calls Tryd.prog 28 #[.slice A m c, .int .i64 n] w fun e w' => w = w' ∧ e = .returned (.tuple #[.slice none 0 0, .int .i64 g]) := by
  rcases h0 with rfl | rfl
  all_goals
    go_enter Tryd.func28, Tryd.ntmps28
    go_wp2_with fail
    refine (asked_any _ _ _ _ _ hm).mono ?_
    rintro e w1 ⟨rfl, rfl⟩
    rw [hg]
    clear hg
    go_wp2
    go_ret2
    exact ⟨rfl, rfl⟩
set_option maxRecDepth 100000 in
set_option maxHeartbeats 800000 in
theorem runpack_err (A : Option Addr) (m c : Nat) (n g : Int) (w : World) (hg : grE n m = g) (h0 : g = 2 ∨ g = 4) (hm : m ≤ 4000000000000) :
    Calls Tryd.prog 30 #[.slice A m c, .int .i64 n] w fun e w' => w = w' ∧ e = .returned (.tuple #[.slice none 0 0, .int .i64 g]) := by
  rcases h0 with rfl | rfl
  all_goals
    go_enter Tryd.func30, Tryd.ntmps30
    go_wp2_with fail
    refine (asked_any _ _ _ _ _ hm).mono ?_
    rintro e w1 ⟨rfl, rfl⟩
    rw [hg]
    clear hg
    go_wp2
    go_ret2
    exact ⟨rfl, rfl⟩
set_option maxRecDepth 100000 in
set_option maxHeartbeats 800000 in
theorem pack_err (A : Option Addr) (m c : Nat) (n g : Int) (w : World) (hg : grE n m = g) (h0 : g = 2 ∨ g = 4) (hm : m ≤ 4000000000000) :
    Calls Tryd.prog 27 #[.slice A m c, .int .i64 n] w fun e w' => w = w' ∧ e = .returned (.tuple #[.slice none 0 0, .int .i64 g]) := by
  rcases h0 with rfl | rfl
  all_goals
    go_enter Tryd.func27, Tryd.ntmps27
    go_wp2_with fail
    refine (grouped_any _ _ _ _ _ hm).mono ?_
    rintro e w1 ⟨rfl, rfl⟩
    rw [hg]
    clear hg
    go_wp2
    go_ret2
    exact ⟨rfl, rfl⟩
set_option maxRecDepth 100000 in
set_option maxHeartbeats 800000 in
theorem unpack_err (A : Option Addr) (m c : Nat) (n g : Int) (w : World) (hg : grE n m = g) (h0 : g = 2 ∨ g = 4) (hm : m ≤ 4000000000000) :
    Calls Tryd.prog 29 #[.slice A m c, .int .i64 n] w fun e w' => w = w' ∧ e = .returned (.tuple #[.slice none 0 0, .int .i64 g]) := by
  rcases h0 with rfl | rfl
  all_goals
    go_enter Tryd.func29, Tryd.ntmps29
    go_wp2_with fail
    refine (grouped_any _ _ _ _ _ hm).mono ?_
    rintro e w1 ⟨rfl, rfl⟩
    rw [hg]
    clear hg
    go_wp2
    go_ret2
    exact ⟨rfl, rfl⟩
end Go.Proofs.YtmoenbdooilceaaDoor
