/-
  Walks: package ratio's fractions: Minus, Add, Sub, Cmp.
-/
import Derived.Test.YtblopapobmbboaaDoorFracC
namespace Go.Proofs.YtblopapobmbboaaDoor
open Go.RowKit Ar

set_option maxHeartbeats 800000 in
theorem fminus_any (p : Rat) (v : Value) (w : World) (h : IsF w w.heap.size v p) :
    Calls Tryd.prog 101 #[v] w fun e w' => Below w.heap.size w w' ∧ ∃ v, e = .returned v ∧ IsF w' w'.heap.size v (-p) := by
  obtain ⟨N1, D1, rfl, hN1, hD1⟩ := h
  obtain ⟨A1, l1, c1, rfl⟩ := hN1.form
  obtain ⟨A2, l2, c2, rfl⟩ := hD1.form
  have hs := sg_neg p
  have hN := Lib.hid (nm_neg p)
  have hD := Lib.hid (dn_neg p)
  by_cases h1 : sg p = true
  · rw [h1] at hs ⊢
    simp only [Bool.not_true, Bool.false_and] at hs
    have HS := Lib.hid hs
    clear hs h1
    go_enter Tryd.func101, Tryd.ntmps101
    go_wp2
    refine bodyPost_ret (v := .agg #[.bool false, .slice A1 l1 c1, .slice A2 l2 c2]) (by simp [results, Tryd.results101, go_sem]) rfl ?_
    exact ⟨(below_alloc w _).alloc (by simp) _, _, rfl, IsF.of HS.out hN.out hD.out ((hN1.alloc _).alloc _) ((hD1.alloc _).alloc _)⟩
  · have h1' : sg p = false := by simpa using h1
    by_cases hz : nm p = 0
    · rw [h1', hz] at hs
      simp only [ne_eq, not_true_eq_false, decide_false, Bool.and_false] at hs
      have HS := Lib.hid hs
      have hd : decide (nm p = 0) = true := decide_eq_true hz
      rw [h1']
      clear hs h1 h1' hz
      go_enter Tryd.func101, Tryd.ntmps101
      go_wp2_with fail
      refine (zero_any _ _ _ ((hN1.alloc _).alloc _)).mono ?_
      rintro e w1 ⟨rfl, rfl⟩
      rw [hd]
      clear hd
      go_wp2
      refine bodyPost_ret (v := .agg #[.bool false, .slice A1 l1 c1, .slice A2 l2 c2]) (by simp [results, Tryd.results101, go_sem]) rfl ?_
      exact ⟨(below_alloc w _).alloc (by simp) _, _, rfl, IsF.of HS.out hN.out hD.out ((hN1.alloc _).alloc _) ((hD1.alloc _).alloc _)⟩
    · rw [h1'] at hs
      simp only [Bool.not_false, Bool.true_and, ne_eq, hz, not_false_eq_true, decide_true] at hs
      have HS := Lib.hid hs
      have hd : decide (nm p = 0) = false := decide_eq_false hz
      rw [h1']
      clear hs h1 h1' hz
      go_enter Tryd.func101, Tryd.ntmps101
      go_wp2_with fail
      refine (zero_any _ _ _ ((hN1.alloc _).alloc _)).mono ?_
      rintro e w1 ⟨rfl, rfl⟩
      rw [hd]
      clear hd
      go_wp2
      refine bodyPost_ret (v := .agg #[.bool true, .slice A1 l1 c1, .slice A2 l2 c2]) (by simp [results, Tryd.results101, go_sem]) rfl ?_
      exact ⟨(below_alloc w _).alloc (by simp) _, _, rfl, IsF.of HS.out hN.out hD.out ((hN1.alloc _).alloc _) ((hD1.alloc _).alloc _)⟩
end Go.Proofs.YtblopapobmbboaaDoor
