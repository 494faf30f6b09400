/-
  Walks: the reference's bits, least, packed.
-/
import Derived.Test.YtmoenbdooilceaaDoorPackB
import Derived.Test.YtmoenbdooilceaaDoorCodE
namespace Go.Proofs.YtmoenbdooilceaaDoor
open Go.RowKit By

set_option maxRecDepth 100000 in
set_option maxHeartbeats 800000 in
theorem rbits_any (X : Nat) (w : World) (hX : X < 2 ^ 64) :
    Calls Tryd.prog 66 #[.int .u64 (X : Int)] w fun e w' => w = w' ∧ e = .returned (.int .i64 ((bl X : Nat) : Int)) := by
  have hb : bl X ≤ 64 := bl_le.2 hX
  go_enter Tryd.func66, Tryd.ntmps66
  go_wp2
  go_loop [0, 3] (fun x i => ∃ k Y : Nat, bl X = k + bl Y ∧ Y ≤ X ∧ i = .int .i64 (k : Int) ∧ x = .int .u64 (Y : Int)) (fun x _ => (intOf x).toNat)
  case atStart => exact ⟨0, X, by omega, Nat.le_refl _, rfl, rfl⟩
  case round =>
    obtain ⟨k, Y, hk, hY, rfl, rfl⟩ := hrel
    by_cases h0 : Y = 0
    · subst h0
      have HE : Hid (bl X = k) := by show _ = _; rw [hk, bl_zero]; rfl
      clear hk
      go_wp2
      go_ret
      exact ⟨rfl, by rw [HE.out]; rfl⟩
    · have h1 := bl_half h0
      have HK : Hid (bl X = k + 1 + bl (Y / 2)) := by show _ = _; omega
      have hk2 : k + 1 ≤ 64 := by omega
      clear hk h1
      go_wp2
      go_round
      case rel => exact ⟨k + 1, Y / 2, HK.out, by omega, by go_num, by go_num⟩
      case measure => simp [intOf]; omega

set_option maxRecDepth 100000 in
set_option maxHeartbeats 800000 in
theorem rleast_any (A : Option Addr) (c n : Nat) (l : List Nat) (w : World) (hn : l.length = n) (h0 : 0 < n) (hm : n ≤ 4000000000000) (h : Rd w w.heap.size A (ints .u64 l)) :
    Calls Tryd.prog 65 #[.slice A n c] w fun e w' => w = w' ∧ e = .returned (.int .u64 ((lo (el l) n : Nat) : Int)) := by
  subst hn
  obtain ⟨ad, rfl, hb, hcell⟩ := h.int (j := 0) h0
  rw [addr_zero, show l.getD 0 0 = el l 0 from rfl] at hcell
  go_enter Tryd.func65, Tryd.ntmps65
  go_wp2
  go_loop [3, 4] (fun m i => ∃ k : Nat, k ≤ l.length ∧ i = .int .i64 k ∧ m = .int .u64 ((lo (el l) k : Nat) : Int)) (fun _ i => l.length - (intOf i).toNat)
  case atStart => exact ⟨0, Nat.zero_le _, rfl, rfl⟩
  case round =>
    obtain ⟨k, hk, rfl, rfl⟩ := hrel
    by_cases hlt : k < l.length
    · obtain ⟨ad2, e2, hb2, hcell2⟩ := h.int (j := k) hlt
      cases e2
      have HN : Hid (lo (el l) (k + 1) = min (lo (el l) k) (l.getD k 0)) := rfl
      generalize l.getD k 0 = x at *
      generalize lo (el l) k = m at *
      go_wp2
      go_round
      case rel => exact ⟨k + 1, by omega, by go_num, by rw [HN.out]; congr 1; split <;> omega⟩
      case measure => simp [intOf]; omega
    · obtain rfl : k = l.length := by omega
      go_wp2
      go_ret
      exact ⟨rfl, rfl⟩
end Go.Proofs.YtmoenbdooilceaaDoor
