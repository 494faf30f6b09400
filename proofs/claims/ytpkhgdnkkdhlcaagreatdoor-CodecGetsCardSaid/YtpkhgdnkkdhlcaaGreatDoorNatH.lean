/-
  Walks: package ratio's natural numbers: GCD.
-/
import Derived.Test.YtpkhgdnkkdhlcaaGreatDoorNatG
namespace Go.Proofs.YtpkhgdnkkdhlcaaGreatDoor
open Go.RowKit Ar

theorem IsN.inj {w : World} {B B' : Nat} {k : IntKind} {v : Value} {n n' : Nat} (h : IsN w B k v n) (h' : IsN w B' k v n') : n = n' := by
  obtain ⟨A, c, e, _, h3⟩ := h
  obtain ⟨A', c', e', _, k3⟩ := h'
  rw [e] at e'
  injection e' with e1 e2 e3
  subst e1
  have : limbs n = limbs n' := by
    apply List.ext_getElem e2
    intro j h1 h2
    obtain ⟨ad, e4, _, h5⟩ := h3.int h1
    obtain ⟨ad', e6, _, h7⟩ := k3.int h2
    rw [e4] at e6
    injection e6 with e6
    subst e6
    rw [h5] at h7
    injection h7 with h7
    injection h7 with _ h7
    rw [List.getD_eq_getElem?_getD, List.getElem?_eq_getElem h1, List.getD_eq_getElem?_getD, List.getElem?_eq_getElem h2] at h7
    simp at h7; omega
  rw [← val_limbs n, ← val_limbs n', this]
open Classical in
/-- The number in memory. -/
noncomputable def numOf (w : World) (v : Value) : Nat := if h : ∃ y, IsN w w.heap.size .u32 v y then h.choose else 0
theorem numOf_eq {w : World} {v : Value} {y : Nat} (h : IsN w w.heap.size .u32 v y) : numOf w v = y := by
  have h' : ∃ y, IsN w w.heap.size .u32 v y := ⟨y, h⟩
  unfold numOf
  rw [dif_pos h']
  exact h'.choose_spec.inj h

set_option maxHeartbeats 400000 in
theorem gcd_any (a b : Nat) (v u : Value) (w : World) (h : IsN w w.heap.size .u32 v a) (h' : IsN w w.heap.size .u32 u b) (hl : (limbs a).length ≤ 500000000000) (hl' : (limbs b).length ≤ 500000000000) :
    Calls Tryz.prog 139 #[v, u] w fun e w' => Below w.heap.size w w' ∧ ∃ v, e = .returned v ∧ IsN w' w'.heap.size .u32 v (Nat.gcd a b) := by
  go_enter Tryz.func139, Tryz.ntmps139
  go_wp2_with fail
  go_loopw [0, 1] (fun va vb wr => ∃ x y : Nat, IsN wr wr.heap.size .u32 va x ∧ IsN wr wr.heap.size .u32 vb y ∧ Hid (Nat.gcd x y = Nat.gcd a b) ∧ (limbs x).length ≤ 500000000000 ∧ (limbs y).length ≤ 500000000000 ∧ Below w.heap.size w wr) (fun _ vb wr => numOf wr vb)
  case atStart => exact ⟨a, b, h, h', rfl, hl, hl', Below.refl _ _⟩
  case round =>
    obtain ⟨x, y, hx, hy, HG, hlx, hly, hbel⟩ := hrel
    have HY := Lib.hid hy
    have HX := Lib.hid hx
    obtain ⟨A, c, rfl, h1, h3⟩ := hy
    rcases Nat.eq_zero_or_pos y with rfl | hy0
    · have HO : IsN wr wr.heap.size .u32 u0 (Nat.gcd a b) := by rw [← HG.out, Nat.gcd_zero_right]; exact hx
      rw [limbs_zero]
      clear h1 h3 hx
      go_wp2
      go_ret
      exact ⟨hbel, _, rfl, HO⟩
    · have hyl := limbs_len_pos hy0
      have hm := Nat.mod_lt x hy0
      have hml := len_mono (Nat.le_of_lt hm)
      have HM := Lib.hid hm
      generalize hln : (limbs y).length = m at *
      have HLN := Lib.hid hln
      clear hln hm h3 hx
      go_wp2_with fail
      refine (div_any x y _ _ wr hy0 HX.out HY.out hlx (by rw [HLN.out]; exact hly)).mono ?_
      rintro e w2 ⟨hb2, q, r, rfl, hq, hr⟩
      go_wp2
      go_roundw
      case rel => exact ⟨y, x % y, HY.out.next hb2, hr, by show _ = _; rw [gcd_step]; exact HG.out, by rw [HLN.out]; exact hly, by omega, hbel.trans (hb2.mono hbel.size)⟩
      case measure =>
        rw [numOf_eq hr, numOf_eq HY.out]
        exact HM.out
end Go.Proofs.YtpkhgdnkkdhlcaaGreatDoor

