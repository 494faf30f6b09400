/-
  Walks: package ratio's fractions: Int, Minus, Sign.
  Walks: package ratio's fractions: Minus, Add, Sub, Cmp.
-/
import Derived.Test.YtpkhgdnkkdhlcaaGreatDoorFracB
namespace Go.Proofs.YtpkhgdnkkdhlcaaGreatDoor
open Go.RowKit Ar

/-- The sign of a rational number. -/
def sgQ (q : Rat) : Int := if q = 0 then 0 else if q < 0 then -1 else 1

set_option maxHeartbeats 800000 in
theorem fsign_any (p : Rat) (v : Value) (w : World) (h : IsF w w.heap.size v p) :
    Calls Tryz.prog 78 #[v] w fun e w' => Below w.heap.size w w' ∧ e = .returned (.int .i64 (sgQ p)) := by
  obtain ⟨N1, D1, rfl, hN1, hD1⟩ := h
  obtain ⟨A1, l1, c1, rfl⟩ := hN1.form
  obtain ⟨A2, l2, c2, rfl⟩ := hD1.form
  by_cases hz : p = 0
  · have e : sgQ p = 0 := if_pos hz
    have hn : decide (nm p = 0) = true := decide_eq_true (nm_zero.2 hz)
    rw [e]
    clear e hz hD1
    generalize sg p = s at *
    go_enter Tryz.func78, Tryz.ntmps78
    go_wp2_with fail
    refine (zero_any _ _ _ (hN1.alloc _)).mono ?_
    rintro e w1 ⟨rfl, rfl⟩
    rw [hn]
    clear hn
    go_wp2
    go_ret
    exact ⟨below_alloc _ _, rfl⟩
  · have hn : decide (nm p = 0) = false := decide_eq_false (fun e => hz (nm_zero.1 e))
    by_cases hs : p < 0
    · have e : sgQ p = -1 := by unfold sgQ; rw [if_neg hz, if_pos hs]
      have hs' : sg p = true := decide_eq_true hs
      rw [e, hs']
      clear e hz hD1 hs hs'
      go_enter Tryz.func78, Tryz.ntmps78
      go_wp2_with fail
      refine (zero_any _ _ _ (hN1.alloc _)).mono ?_
      rintro e w1 ⟨rfl, rfl⟩
      rw [hn]
      clear hn
      go_wp2
      go_ret
      exact ⟨below_alloc _ _, rfl⟩
    · have e : sgQ p = 1 := by unfold sgQ; rw [if_neg hz, if_neg hs]
      have hs' : sg p = false := decide_eq_false hs
      rw [e, hs']
      clear e hz hD1 hs hs'
      go_enter Tryz.func78, Tryz.ntmps78
      go_wp2_with fail
      refine (zero_any _ _ _ (hN1.alloc _)).mono ?_
      rintro e w1 ⟨rfl, rfl⟩
      rw [hn]
      clear hn
      go_wp2
      go_ret
      exact ⟨below_alloc _ _, rfl⟩

theorem nm_int (n : Int) : nm (n : Rat) = n.natAbs := rfl
theorem dn_int (n : Int) : dn (n : Rat) = 1 := rfl
theorem sg_int (n : Int) : sg (n : Rat) = decide (n < 0) := by
  unfold sg
  rw [Bool.eq_iff_iff, decide_eq_true_eq, decide_eq_true_eq]
  exact Rat.intCast_neg_iff
theorem wrap_neg (m : Nat) (h : 0 < m) (h' : m ≤ 1000000000000000) : IntKind.u64.wrap (-IntKind.u64.wrap (-(m : Int))) = (m : Int) := by
  simp [IntKind.wrap, IntKind.bits, IntKind.signed]
  omega
theorem IsF.int {w : World} {B : Nat} {N D : Value} (b : Bool) (n : Int) (hb : decide (n < 0) = b) (h : IsN w B .u32 N n.natAbs) (h' : IsN w B .u32 D 1) : IsF w B (.agg #[.bool b, N, D]) (n : Rat) :=
  IsF.of (by rw [sg_int]; exact hb) rfl rfl h h'

end Go.Proofs.YtpkhgdnkkdhlcaaGreatDoor

namespace Go.Proofs.YtpkhgdnkkdhlcaaGreatDoor
open Go.RowKit Ar

set_option maxHeartbeats 800000 in
theorem fminus_any (p : Rat) (v : Value) (w : World) (h : IsF w w.heap.size v p) :
    Calls Tryz.prog 214 #[v] w fun e w' => Below w.heap.size w w' ∧ ∃ v, e = .returned v ∧ IsF w' w'.heap.size v (-p) := by
  obtain ⟨N1, D1, rfl, hN1, hD1⟩ := h
  obtain ⟨A1, l1, c1, rfl⟩ := hN1.form
  obtain ⟨A2, l2, c2, rfl⟩ := hD1.form
  have hs := sg_neg p
  have hN := Lib.hid (nm_neg p)
  have hD := Lib.hid (dn_neg p)
  by_cases h1 : sg p = true
  · rw [h1] at hs ⊢
    simp only [Bool.not_true, Bool.false_and] at hs
    have HS := Lib.hid hs
    clear hs h1
    go_enter Tryz.func214, Tryz.ntmps214
    go_wp2
    refine bodyPost_ret (v := .agg #[.bool false, .slice A1 l1 c1, .slice A2 l2 c2]) (by simp [results, Tryz.results214, go_sem]) rfl ?_
    exact ⟨(below_alloc w _).alloc (by simp) _, _, rfl, IsF.of HS.out hN.out hD.out ((hN1.alloc _).alloc _) ((hD1.alloc _).alloc _)⟩
  · have h1' : sg p = false := by simpa using h1
    by_cases hz : nm p = 0
    · rw [h1', hz] at hs
      simp only [ne_eq, not_true_eq_false, decide_false, Bool.and_false] at hs
      have HS := Lib.hid hs
      have hd : decide (nm p = 0) = true := decide_eq_true hz
      rw [h1']
      clear hs h1 h1' hz
      go_enter Tryz.func214, Tryz.ntmps214
      go_wp2_with fail
      refine (zero_any _ _ _ ((hN1.alloc _).alloc _)).mono ?_
      rintro e w1 ⟨rfl, rfl⟩
      rw [hd]
      clear hd
      go_wp2
      refine bodyPost_ret (v := .agg #[.bool false, .slice A1 l1 c1, .slice A2 l2 c2]) (by simp [results, Tryz.results214, go_sem]) rfl ?_
      exact ⟨(below_alloc w _).alloc (by simp) _, _, rfl, IsF.of HS.out hN.out hD.out ((hN1.alloc _).alloc _) ((hD1.alloc _).alloc _)⟩
    · rw [h1'] at hs
      simp only [Bool.not_false, Bool.true_and, ne_eq, hz, not_false_eq_true, decide_true] at hs
      have HS := Lib.hid hs
      have hd : decide (nm p = 0) = false := decide_eq_false hz
      rw [h1']
      clear hs h1 h1' hz
      go_enter Tryz.func214, Tryz.ntmps214
      go_wp2_with fail
      refine (zero_any _ _ _ ((hN1.alloc _).alloc _)).mono ?_
      rintro e w1 ⟨rfl, rfl⟩
      rw [hd]
      clear hd
      go_wp2
      refine bodyPost_ret (v := .agg #[.bool true, .slice A1 l1 c1, .slice A2 l2 c2]) (by simp [results, Tryz.results214, go_sem]) rfl ?_
      exact ⟨(below_alloc w _).alloc (by simp) _, _, rfl, IsF.of HS.out hN.out hD.out ((hN1.alloc _).alloc _) ((hD1.alloc _).alloc _)⟩
end Go.Proofs.YtpkhgdnkkdhlcaaGreatDoor

