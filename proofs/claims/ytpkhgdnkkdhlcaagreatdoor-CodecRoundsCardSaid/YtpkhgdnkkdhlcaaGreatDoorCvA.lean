/-
  Walks of package codec and of its reference: which pipelines are valid for a type, and how much they may lose.
-/
import Derived.Test.YtpkhgdnkkdhlcaaGreatDoorEaA
namespace Go.Proofs.YtpkhgdnkkdhlcaaGreatDoor
open Go.RowKit Ar

/-! ### plain -/
noncomputable def posT (s : ByteArray) : Bool := (numB s && numB ⟨#[48]⟩) && decide (0 < cmpT s ⟨#[48]⟩)
def typB (k : Int) : Bool := decide (1 ≤ k) && decide (k ≤ 5)
/-! ### the program -/
set_option maxRecDepth 100000 in
set_option maxHeartbeats 800000 in
theorem ppos_any (s : ByteArray) (w : World) (hs : s.size ≤ 4000000) (he : Env w) :
    Calls Tryz.prog 43 #[.string s] w fun e w' => Below w.heap.size w w' ∧ e = .returned (.bool (posT s)) := by
  obtain ⟨q, hq⟩ : ∃ q, (numB s && numB ⟨#[48]⟩) = q := ⟨_, rfl⟩
  have C := Lib.hid (pcompare_any s ⟨#[48]⟩ w hs (by decide) he q hq)
  have hR : posT s = (q && decide (0 < cmpT s ⟨#[48]⟩)) := by unfold posT; rw [hq]
  rw [hR]
  clear hq hR he hs
  generalize cmpT s ⟨#[48]⟩ = z at *
  go_enter Tryz.func43, Tryz.ntmps43
  go_wp2_with fail
  refine C.out.mono ?_
  rintro e w1 ⟨hb1, c, rfl, hc⟩
  cases q
  · go_wp2
    go_ret
    exact ⟨hb1, rfl⟩
  · obtain rfl := hc rfl
    go_wp2
    go_ret
    exact ⟨hb1, rfl⟩
set_option maxRecDepth 100000 in
set_option maxHeartbeats 800000 in
theorem rpos_any (s : ByteArray) (w : World) (hs : s.size ≤ 4000000) :
    Calls Tryz.prog 46 #[.string s] w fun e w' => Below w.heap.size w w' ∧ e = .returned (.bool (posT s)) := by
  obtain ⟨q, hq⟩ : ∃ q, (numB s && numB ⟨#[48]⟩) = q := ⟨_, rfl⟩
  have C := Lib.hid (rcompare_any s ⟨#[48]⟩ w hs (by decide) q hq)
  have hR : posT s = (q && decide (0 < cmpT s ⟨#[48]⟩)) := by unfold posT; rw [hq]
  rw [hR]
  show Calls _ _ _ _ (fun e w' => Below w.heap.size w w' ∧ e = .returned (.bool (q && decide (0 < cmpQ (textRat s.data.toList) (textRat (ByteArray.mk #[48]).data.toList)))))
  clear hq hR hs
  generalize cmpQ (textRat s.data.toList) (textRat (ByteArray.mk #[48]).data.toList) = z at *
  go_enter Tryz.func46, Tryz.ntmps46
  go_wp2_with fail
  refine C.out.mono ?_
  rintro e w1 ⟨hb1, c, rfl, hc⟩
  cases q
  · go_wp2
    go_ret
    exact ⟨hb1, rfl⟩
  · obtain rfl := hc rfl
    go_wp2
    go_ret
    exact ⟨hb1, rfl⟩
-- GEN (cvgen.py)
set_option maxRecDepth 100000 in
set_option maxHeartbeats 800000 in
theorem ptyped_any (k : Int) (w : World) : Calls Tryz.prog 36 #[.int .i64 k] w fun e w' => w = w' ∧ e = .returned (.bool (typB k)) := by
  by_cases h1 : 1 ≤ k
  · have hR : typB k = decide (k ≤ 5) := by simp [typB, h1]
    rw [hR]
    go_enter Tryz.func36, Tryz.ntmps36
    go_wp2
    go_ret
    exact ⟨rfl, rfl⟩
  · have hR : typB k = false := by simp [typB, h1]
    rw [hR]
    go_enter Tryz.func36, Tryz.ntmps36
    go_wp2
    go_ret
    exact ⟨rfl, rfl⟩
set_option maxRecDepth 100000 in
set_option maxHeartbeats 800000 in
theorem rtyped_any (k : Int) (w : World) : Calls Tryz.prog 39 #[.int .i64 k] w fun e w' => w = w' ∧ e = .returned (.bool (typB k)) := by
  by_cases h1 : 1 ≤ k
  · have hR : typB k = decide (k ≤ 5) := by simp [typB, h1]
    rw [hR]
    go_enter Tryz.func39, Tryz.ntmps39
    go_wp2
    go_ret
    exact ⟨rfl, rfl⟩
  · have hR : typB k = false := by simp [typB, h1]
    rw [hR]
    go_enter Tryz.func39, Tryz.ntmps39
    go_wp2
    go_ret
    exact ⟨rfl, rfl⟩
end Go.Proofs.YtpkhgdnkkdhlcaaGreatDoor

