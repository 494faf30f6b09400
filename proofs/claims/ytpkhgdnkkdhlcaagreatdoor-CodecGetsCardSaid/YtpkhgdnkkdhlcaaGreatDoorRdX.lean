/-
  Plain: the greatest integer not above a number; the multiple of a step that is nearest.
  Walks: rounding to multiples of a step: the program.
  Walks: rounding to multiples of a step: the program's Round, the reference's.
  Walks: rounded values, on both sides.
  Walks: what the laws of package codec ask of lists of texts.
-/
import Derived.Test.YtpkhgdnkkdhlcaaGreatDoorSzQ
import Derived.Test.YtpkhgdnkkdhlcaaGreatDoorEaA
import Derived.Test.YtpkhgdnkkdhlcaaGreatDoorHeldN
import Derived.Test.YtpkhgdnkkdhlcaaGreatDoorHeldT
import Derived.Test.YtpkhgdnkkdhlcaaGreatDoorFtX
namespace Go.Proofs.YtpkhgdnkkdhlcaaGreatDoor
open Ar

def floorQ (q : Rat) : Int := q.num / (q.den : Int)
/-- The greatest integer that is not greater. -/
def flQ (q : Rat) : Rat := ((floorQ q : Int) : Rat)
/-- The same without its sign. -/
def flM (q : Rat) : Nat := if sg q = true ∧ nm q % dn q ≠ 0 then nm q / dn q + 1 else nm q / dn q
/-- The multiple of s that is nearest to x. -/
def rdQ (x s : Rat) : Rat := flQ (x / s + nr false 1 2) * s

theorem floor_nr (q : Rat) : nr (sg q) (flM q) 1 = flQ q := by
  unfold flQ floorQ nr
  rw [Rat.mkRat_one]
  congr 1
  have hd : (0 : Int) < (q.den : Int) := by have := dn_pos q; unfold dn at this; omega
  have hdm := Nat.div_add_mod (nm q) (dn q)
  have hlt := Nat.mod_lt (nm q) (dn_pos q)
  cases hs : sg q with
  | false =>
    have hn : ¬ q.num < 0 := fun h => by
      have := num_neg_iff.1 h
      unfold sg at hs
      rw [decide_eq_true this] at hs; cases hs
    have hq : q.num = (nm q : Int) := by unfold nm; omega
    unfold flM
    rw [hs, if_neg (by simp), if_neg (by simp), hq]
    rfl
  | true =>
    have hn : q.num < 0 := num_neg_iff.2 (by unfold sg at hs; exact of_decide_eq_true hs)
    have hq : q.num = -(nm q : Int) := by unfold nm; omega
    unfold flM
    rw [hs, if_pos rfl, hq]
    have hdd : (q.den : Int) = (dn q : Int) := rfl
    rw [hdd] at hd ⊢
    generalize nm q = a at *
    generalize dn q = b at *
    have hmul : ((b * (a / b) : Nat) : Int) = (b : Int) * ((a / b : Nat) : Int) := Int.natCast_mul _ _
    by_cases hr : a % b = 0
    · rw [if_neg (by simp [hr])]
      symm
      refine ((Int.ediv_emod_unique (r := 0) (q := -((a / b : Nat) : Int)) hd).2 ⟨?_, by omega, hd⟩).1
      rw [Int.mul_neg]
      omega
    · rw [if_pos ⟨rfl, hr⟩]
      symm
      refine ((Int.ediv_emod_unique (r := (b : Int) - ((a % b : Nat) : Int)) (q := -((a / b + 1 : Nat) : Int)) hd).2 ⟨?_, by omega, by omega⟩).1
      rw [Int.mul_neg, Int.natCast_add, Int.mul_add]
      omega
theorem flM_zero {q : Rat} (h : flM q = 0) : flQ q = 0 := by rw [← floor_nr, h, nr_zero]
theorem floor_sign (q : Rat) : nr (sg q && decide (flM q ≠ 0)) (flM q) 1 = flQ q := by
  by_cases h : flM q = 0
  · rw [flM_zero h, h, nr_zero]
  · rw [decide_eq_true h, Bool.and_true, floor_nr]
theorem len_flM (q : Rat) : (limbs (flM q)).length ≤ sz q + 1 := by
  have h1 : nm q / dn q ≤ nm q := Nat.div_le_self _ _
  have h2 := sz_nm q
  have h3 := len_add_le (nm q) 1
  have h4 : (limbs 1).length = 1 := by rw [limbs_one]; rfl
  have h5 : flM q ≤ nm q + 1 := by unfold flM; split <;> omega
  have h6 := len_mono h5
  have h7 := limbs_len_pos (dn_pos q)
  have h8 := sz_dn q
  omega
theorem sz_fl (q : Rat) : sz (flQ q) ≤ sz q + 1 := by
  rw [← floor_nr]
  have h1 := sz_nr (sg q) (flM q) 1 (by decide)
  have h2 := len_flM q
  have h4 : (limbs 1).length = 1 := by rw [limbs_one]; rfl
  have h5 : max (limbs (flM q)).length (limbs 1).length ≤ sz q + 1 := by omega
  exact Nat.le_trans h1 h5
theorem sz_half : sz (nr false 1 2) ≤ 1 := by
  have h1 := sz_nr false 1 2 (by decide)
  have h2 : (limbs 2).length ≤ 1 := limbs_len_le (by rw [B_eq]; omega)
  have h4 : (limbs 1).length = 1 := by rw [limbs_one]; rfl
  omega
theorem sz_rd (x s : Rat) (h : s ≠ 0) : sz (rdQ x s) ≤ sz x + 2 * sz s + 10 := by
  unfold rdQ
  have h1 := sz_mul (flQ (x / s + nr false 1 2)) s
  have h2 := sz_fl (x / s + nr false 1 2)
  have h3 := sz_add (x / s) (nr false 1 2)
  have h4 := sz_div x s h
  have h5 := sz_half
  omega

/-! ### order -/
theorem half_eq : nr false 1 2 + nr false 1 2 = 1 := by decide +kernel
theorem floor_bounds (q : Rat) : flQ q ≤ q ∧ q < flQ q + 1 := by
  have hd : (0 : Int) < (q.den : Int) := by have := dn_pos q; unfold dn at this; omega
  have hdr : (0 : Rat) < ((q.den : Int) : Rat) := Rat.intCast_pos.2 hd
  have hq : q * ((q.den : Int) : Rat) = ((q.num : Int) : Rat) := by
    have h1 := Rat.mkRat_self q
    rw [Rat.mkRat_eq_div] at h1
    have h2 : ((q.den : Nat) : Rat) = ((q.den : Int) : Rat) := rfl
    have h3 : ((q.den : Int) : Rat) ≠ 0 := by grind
    rw [h2] at h1
    have h4 := Rat.div_mul_cancel (a := (q.num : Rat)) h3
    rw [h1] at h4
    exact h4
  have e := Int.mul_ediv_add_emod q.num (q.den : Int)
  have r0 := Int.emod_nonneg q.num (show (q.den : Int) ≠ 0 by omega)
  have r1 := Int.emod_lt_of_pos q.num hd
  unfold flQ floorQ
  have e2 : ((q.den : Int) : Rat) * (((q.num / (q.den : Int)) : Int) : Rat) + (((q.num % (q.den : Int)) : Int) : Rat) = ((q.num : Int) : Rat) := by
    rw [← Rat.intCast_mul, ← Rat.intCast_add, e]
  have r0' : (0 : Rat) ≤ (((q.num % (q.den : Int)) : Int) : Rat) := by
    have := Rat.intCast_le_intCast.2 r0
    simpa using this
  have r1' : (((q.num % (q.den : Int)) : Int) : Rat) < ((q.den : Int) : Rat) := Rat.intCast_lt_intCast.2 r1
  generalize ((q.den : Int) : Rat) = D at *
  generalize (((q.num / (q.den : Int)) : Int) : Rat) = F at *
  generalize (((q.num % (q.den : Int)) : Int) : Rat) = R at *
  generalize ((q.num : Int) : Rat) = N at *
  constructor
  · apply Rat.not_lt.1
    intro h
    have := Rat.mul_pos (a := F - q) (b := D) (by grind) hdr
    grind
  · apply Rat.not_le.1
    intro h
    have := Rat.mul_nonneg (a := q - (F + 1)) (b := D) (by grind) (by grind)
    grind
theorem floor_uniq {q : Rat} {z : Int} (h1 : (z : Rat) ≤ q) (h2 : q < (z : Rat) + 1) : floorQ q = z := by
  obtain ⟨b1, b2⟩ := floor_bounds q
  unfold flQ at b1 b2
  have c1 : ((floorQ q : Int) : Rat) < ((z + 1 : Int) : Rat) := by rw [Rat.intCast_add]; simp only [Rat.intCast_one]; grind
  have c2 : ((z : Int) : Rat) < ((floorQ q + 1 : Int) : Rat) := by rw [Rat.intCast_add]; simp only [Rat.intCast_one]; grind
  have d1 := Rat.intCast_lt_intCast.1 c1
  have d2 := Rat.intCast_lt_intCast.1 c2
  omega
/-- A number moves by at most half a step. -/
theorem rd_near {x s : Rat} (h : 0 < s) : (x - rdQ x s) + (x - rdQ x s) ≤ s ∧ -s ≤ (x - rdQ x s) + (x - rdQ x s) := by
  unfold rdQ
  obtain ⟨b1, b2⟩ := floor_bounds (x / s + nr false 1 2)
  have hh := half_eq
  have hx : x / s * s = x := Rat.div_mul_cancel (by grind)
  generalize flQ (x / s + nr false 1 2) = F at *
  generalize x / s = t at *
  generalize nr false 1 2 = H at *
  have m1 := Rat.mul_nonneg (a := t + H - F) (b := s) (by grind) (by grind)
  have m2 := Rat.mul_pos (a := F + 1 - (t + H)) (b := s) (by grind) h
  have hh2 : H * s + H * s = s := by rw [← Rat.add_mul, hh, Rat.one_mul]
  constructor
  · grind
  · grind
/-- What is rounded stays. -/
theorem rd_again {x s : Rat} (h : 0 < s) : rdQ (rdQ x s) s = rdQ x s := by
  have hs : s ≠ 0 := by grind
  have key : ∀ z : Int, flQ (((z : Int) : Rat) * s / s + nr false 1 2) = ((z : Int) : Rat) := fun z => by
    have e : ((z : Int) : Rat) * s / s = (z : Rat) := Rat.mul_div_cancel hs
    rw [e]
    have hh := half_eq
    unfold flQ
    rw [floor_uniq (z := z)]
    · grind
    · grind
  unfold rdQ
  have := key (floorQ (x / s + nr false 1 2))
  show flQ (((floorQ (x / s + nr false 1 2) : Int) : Rat) * s / s + nr false 1 2) * s = _
  rw [this]
  rfl
end Go.Proofs.YtpkhgdnkkdhlcaaGreatDoor

namespace Go.Proofs.YtpkhgdnkkdhlcaaGreatDoor
open Go.RowKit Ar

theorem IsN.new_two (w : World) (t : TypeId) : IsN (w.alloc (.cells #[.int .u32 2] t)) (w.heap.size + 1) .u32 (.slice (some ⟨w.heap.size, 0, none⟩) 1 1) 2 := by
  have e : limbs 2 = [2] := limbs_single (by decide) (by rw [B_eq]; decide)
  exact ⟨_, 1, by rw [e]; rfl, by rw [e]; exact Nat.le_refl _, by rw [e]; exact Rd.of_new w [.int .u32 2] t⟩
set_option maxRecDepth 100000 in
set_option maxHeartbeats 3200000 in
theorem ffloor_any (p : Rat) (v : Value) (w : World) (h : IsF w w.heap.size v p) (hl : sz p ≤ 1000000000) :
    Calls Tryz.prog 82 #[v] w fun e w' => Below w.heap.size w w' ∧ ∃ v, e = .returned v ∧ IsF w' w'.heap.size v (flQ p) := by
  obtain ⟨N1, D1, rfl, hN1, hD1⟩ := h
  obtain ⟨A1, l1, c1, rfl⟩ := hN1.form
  obtain ⟨A2, l2, c2, rfl⟩ := hD1.form
  have B0 : BxW w [(w.heap.size, 102, #[.bool (sg p), .slice A1 l1 c1, .slice A2 l2 c2]), (w.heap.size + 1, 102, #[.bool false, .slice none 0 0, .slice none 0 0])] ((w.alloc (.cells #[.bool (sg p), .slice A1 l1 c1, .slice A2 l2 c2] 102)).alloc (.cells #[.bool false, .slice none 0 0, .slice none 0 0] 102)) := by
    have h := ((BxW.nil w).new 102 #[.bool (sg p), .slice A1 l1 c1, .slice A2 l2 c2]).new 102 #[.bool false, .slice none 0 0, .slice none 0 0]
    simpa using h
  have DV := Lib.hid (div_any (nm p) (dn p) _ _ _ (dn_pos p) (hN1.next B0.below) (hD1.next B0.below) (by have := sz_nm p; omega) (by have := sz_dn p; omega))
  have HM : Hid (flM p = if sg p = true ∧ nm p % dn p ≠ 0 then nm p / dn p + 1 else nm p / dn p) := rfl
  have HF := Lib.hid (floor_sign p)
  have hlq : (limbs (nm p / dn p)).length ≤ sz p := Nat.le_trans (len_mono (Nat.div_le_self _ _)) (sz_nm p)
  clear hN1 hD1
  generalize flQ p = F at *
  generalize flM p = m at *
  generalize sg p = s at *
  generalize nm p / dn p = q0 at *
  generalize nm p % dn p = r0 at *
  generalize dn p = dp at *
  generalize nm p = np at *
  obtain ⟨x0, x1, x2⟩ := bk3 B0.one
  cases s
  · obtain rfl : m = q0 := by have := HM.out; rw [if_neg (by simp)] at this; exact this
    clear HM
    go_enter Tryz.func82, Tryz.ntmps82
    go_wp2_with fail
    generalize (w.alloc (.cells #[.bool false, .slice A1 l1 c1, .slice A2 l2 c2] 102)).alloc (.cells #[.bool false, .slice none 0 0, .slice none 0 0] 102) = W0 at *
    refine DV.out.mono ?_
    rintro e w1 ⟨hb1, qv, rv, rfl, hq, hr⟩
    obtain ⟨A3, l3, c3, rfl⟩ := hq.form
    obtain ⟨A4, l4, c4, rfl⟩ := hr.form
    have B1 := B0.next hb1
    clear x0 x1 x2 B0 hb1 DV
    obtain ⟨x0, x1, x2⟩ := bk3 B1.one
    have bq := below_alloc w1 (.cells #[.int .u32 1] 105)
    have hone := IsN.new_one w1 105
    have hF2 : IsF (w1.alloc (.cells #[.int .u32 1] 105)) (w1.alloc (.cells #[.int .u32 1] 105)).heap.size (.agg #[.bool false, .slice A3 l3 c3, .slice (some ⟨w1.heap.size, 0, none⟩) 1 1]) F := by
      have hz := parts_isF false m 1 (by decide) (Nat.gcd_one_right _) (fun _ => rfl) (hq.next bq) (by simpa using hone)
      rw [show nr false m 1 = F from by rw [← HF.out]; simp] at hz
      exact hz
    have B9 := B1.next bq
    have k3 := B9.two
    have hB := set3_below B9.below (b := w.heap.size + 1) (x := .bool false) (y := .slice A3 l3 c3) (z := .slice (some ⟨w1.heap.size, 0, none⟩) 1 1) (by omega)
    have hr3 := (hF2.set3 k3 (.bool false) (.slice A3 l3 c3) (.slice (some ⟨w1.heap.size, 0, none⟩) 1 1)).more (Nat.le_of_eq (set3_size (w1.alloc (.cells #[.int .u32 1] 105)) (w.heap.size + 1) (.bool false) (.slice A3 l3 c3) (.slice (some ⟨w1.heap.size, 0, none⟩) 1 1)).symm)
    have f0 := k3.frozen 0
    have f1 := k3.frozen 1
    have f2 := k3.frozen 2
    obtain ⟨e0, e1, e2⟩ := bk3 k3
    clear hr HF k3 hF2 hone
    go_wp2
    refine bodyPost_ret (v := .agg #[.bool false, .slice A3 l3 c3, .slice (some ⟨w1.heap.size, 0, none⟩) 1 1]) (by simp [results, Tryz.results82, go_sem, e0, e1, e2]) rfl ?_
    exact ⟨hB, _, rfl, hr3⟩
  by_cases h0 : r0 = 0
  · obtain rfl : m = q0 := by have := HM.out; rw [if_neg (by simp [h0])] at this; exact this
    clear HM
    go_enter Tryz.func82, Tryz.ntmps82
    go_wp2_with fail
    generalize (w.alloc (.cells #[.bool true, .slice A1 l1 c1, .slice A2 l2 c2] 102)).alloc (.cells #[.bool false, .slice none 0 0, .slice none 0 0] 102) = W0 at *
    refine DV.out.mono ?_
    rintro e w1 ⟨hb1, qv, rv, rfl, hq, hr⟩
    obtain ⟨A3, l3, c3, rfl⟩ := hq.form
    obtain ⟨A4, l4, c4, rfl⟩ := hr.form
    have B1 := B0.next hb1
    clear x0 x1 x2 B0 hb1 DV
    obtain ⟨x0, x1, x2⟩ := bk3 B1.one
    go_wp2_with fail
    refine (zero_any r0 _ _ hr).mono ?_
    rintro e w2 ⟨rfl, rfl⟩
    rw [decide_eq_true h0]
    go_wp2_with fail
    refine (zero_any m _ _ hq).mono ?_
    rintro e w2 ⟨rfl, rfl⟩
    obtain ⟨z, hz0⟩ : ∃ z, decide (m = 0) = z := ⟨_, rfl⟩
    have HZ := Lib.hid hz0
    rw [hz0]
    clear hz0 h0
    have bq := below_alloc w1 (.cells #[.int .u32 1] 105)
    have hone := IsN.new_one w1 105
    have hF2 : IsF (w1.alloc (.cells #[.int .u32 1] 105)) (w1.alloc (.cells #[.int .u32 1] 105)).heap.size (.agg #[.bool (!z), .slice A3 l3 c3, .slice (some ⟨w1.heap.size, 0, none⟩) 1 1]) F := by
      have hz := parts_isF (!z) m 1 (by decide) (Nat.gcd_one_right _) (fun h => by rw [← HZ.out, h]; rfl) (hq.next bq) (by simpa using hone)
      rw [show nr (!z) m 1 = F from by rw [← HF.out, ← HZ.out]; simp] at hz
      exact hz
    have B9 := B1.next bq
    have k3 := B9.two
    have hB := set3_below B9.below (b := w.heap.size + 1) (x := .bool (!z)) (y := .slice A3 l3 c3) (z := .slice (some ⟨w1.heap.size, 0, none⟩) 1 1) (by omega)
    have hr3 := (hF2.set3 k3 (.bool (!z)) (.slice A3 l3 c3) (.slice (some ⟨w1.heap.size, 0, none⟩) 1 1)).more (Nat.le_of_eq (set3_size (w1.alloc (.cells #[.int .u32 1] 105)) (w.heap.size + 1) (.bool (!z)) (.slice A3 l3 c3) (.slice (some ⟨w1.heap.size, 0, none⟩) 1 1)).symm)
    have f0 := k3.frozen 0
    have f1 := k3.frozen 1
    have f2 := k3.frozen 2
    obtain ⟨e0, e1, e2⟩ := bk3 k3
    clear hr HF k3 hF2 hone
    go_wp2
    refine bodyPost_ret (v := .agg #[.bool (!z), .slice A3 l3 c3, .slice (some ⟨w1.heap.size, 0, none⟩) 1 1]) (by simp [results, Tryz.results82, go_sem, e0, e1, e2]) rfl ?_
    exact ⟨hB, _, rfl, hr3⟩
  · obtain rfl : m = q0 + 1 := by have := HM.out; rw [if_pos ⟨rfl, h0⟩] at this; exact this
    clear HM
    go_enter Tryz.func82, Tryz.ntmps82
    go_wp2_with fail
    generalize (w.alloc (.cells #[.bool true, .slice A1 l1 c1, .slice A2 l2 c2] 102)).alloc (.cells #[.bool false, .slice none 0 0, .slice none 0 0] 102) = W0 at *
    refine DV.out.mono ?_
    rintro e w1 ⟨hb1, qv, rv, rfl, hq, hr⟩
    obtain ⟨A3, l3, c3, rfl⟩ := hq.form
    obtain ⟨A4, l4, c4, rfl⟩ := hr.form
    have B1 := B0.next hb1
    clear x0 x1 x2 B0 hb1 DV
    obtain ⟨x0, x1, x2⟩ := bk3 B1.one
    go_wp2_with fail
    refine (zero_any r0 _ _ hr).mono ?_
    rintro e w2 ⟨rfl, rfl⟩
    rw [decide_eq_false h0]
    have ba := below_alloc w1 (.cells #[.int .u32 1] 105)
    have ho := IsN.new_one w1 105
    have hq2 := hq.next ba
    have B2 := B1.next ba
    clear x0 x1 x2 B1 hq hr h0 ba
    go_wp2_with fail
    refine (add_any q0 1 _ _ _ hq2 (by simpa using ho) (by omega) (by rw [limbs_one]; decide)).mono ?_
    rintro e w3 ⟨hb3, x3, rfl, hx3⟩
    have hq3 := hx3.is
    obtain ⟨A5, l5, c5, rfl⟩ := hq3.form
    have B3 := B2.next hb3
    clear B2 hb3 hq2 ho hx3
    obtain ⟨x0, x1, x2⟩ := bk3 B3.one
    go_wp2_with fail
    refine (zero_any (q0 + 1) _ _ hq3).mono ?_
    rintro e w2 ⟨rfl, rfl⟩
    rw [decide_eq_false (show ¬ q0 + 1 = 0 by omega)]
    have bq := below_alloc w3 (.cells #[.int .u32 1] 105)
    have hone := IsN.new_one w3 105
    have hF2 : IsF (w3.alloc (.cells #[.int .u32 1] 105)) (w3.alloc (.cells #[.int .u32 1] 105)).heap.size (.agg #[.bool true, .slice A5 l5 c5, .slice (some ⟨w3.heap.size, 0, none⟩) 1 1]) F := by
      have hz := parts_isF true (q0 + 1) 1 (by decide) (Nat.gcd_one_right _) (fun h => by omega) (hq3.next bq) (by simpa using hone)
      rw [show nr true (q0 + 1) 1 = F from by rw [← HF.out]; simp] at hz
      exact hz
    have B9 := B3.next bq
    have k3 := B9.two
    have hB := set3_below B9.below (b := w.heap.size + 1) (x := .bool true) (y := .slice A5 l5 c5) (z := .slice (some ⟨w3.heap.size, 0, none⟩) 1 1) (by omega)
    have hr3 := (hF2.set3 k3 (.bool true) (.slice A5 l5 c5) (.slice (some ⟨w3.heap.size, 0, none⟩) 1 1)).more (Nat.le_of_eq (set3_size (w3.alloc (.cells #[.int .u32 1] 105)) (w.heap.size + 1) (.bool true) (.slice A5 l5 c5) (.slice (some ⟨w3.heap.size, 0, none⟩) 1 1)).symm)
    have f0 := k3.frozen 0
    have f1 := k3.frozen 1
    have f2 := k3.frozen 2
    obtain ⟨e0, e1, e2⟩ := bk3 k3
    clear hlq HF k3 hF2 hone
    go_wp2
    refine bodyPost_ret (v := .agg #[.bool true, .slice A5 l5 c5, .slice (some ⟨w3.heap.size, 0, none⟩) 1 1]) (by simp [results, Tryz.results82, go_sem, e0, e1, e2]) rfl ?_
    exact ⟨hB, _, rfl, hr3⟩
set_option maxRecDepth 100000 in
set_option maxHeartbeats 3200000 in
theorem pround1_any (p q : Rat) (u v : Value) (w : World) (hu : IsF w w.heap.size u p) (hv : IsF w w.heap.size v q) (hp : sz p ≤ 200) (hq : sz q ≤ 200) :
    Calls Tryz.prog 77 #[u, v] w fun e w' => Below w.heap.size w w' ∧ ∃ r, e = .returned (.tuple #[r, .bool (decide (0 < q))]) ∧ Got (decide (0 < q)) r w' (rdQ p q) := by
  obtain ⟨s1, A1, l1, c1, A2, l2, c2, rfl⟩ := hu.form
  obtain ⟨s2, A3, l3, c3, A4, l4, c4, rfl⟩ := hv.form
  have B0 := BxW.start3 w 102 102 102 #[.bool s1, .slice A1 l1 c1, .slice A2 l2 c2] #[.bool s2, .slice A3 l3 c3, .slice A4 l4 c4] #[.bool false, .slice none 0 0, .slice none 0 0]
  have SG := Lib.hid (fsign_any q _ _ (hv.next B0.below))
  have HU := Lib.hid (fun W (hW : Below w.heap.size w W) => hu.next hW)
  have HV := Lib.hid (fun W (hW : Below w.heap.size w W) => hv.next hW)
  have hsg : sgQ q ≤ 0 ↔ ¬ 0 < q := by
    unfold sgQ
    split
    · rename_i h; subst h; simp
    · split
      · rename_i h1 h2; exact ⟨fun _ h => by grind, fun _ => by omega⟩
      · rename_i h1 h2; exact ⟨fun h => by omega, fun h => by grind⟩
  obtain ⟨x0, x1, x2⟩ := bk3 B0.two
  clear hu hv
  by_cases h0 : 0 < q
  rotate_left
  · have hsg' : sgQ q ≤ 0 := hsg.2 h0
    rw [decide_eq_false h0]
    clear h0 hsg hp hq HU HV
    generalize rdQ p q = z at *
    go_enter Tryz.func77, Tryz.ntmps77
    go_wp2_with fail
    generalize (((w.alloc (.cells #[.bool s1, .slice A1 l1 c1, .slice A2 l2 c2] 102)).alloc (.cells #[.bool s2, .slice A3 l3 c3, .slice A4 l4 c4] 102)).alloc (.cells #[.bool false, .slice none 0 0, .slice none 0 0] 102)) = W0 at *
    refine SG.out.mono ?_
    rintro e w1 ⟨hb1, rfl⟩
    have B1 := B0.next hb1
    have k3 := B1.three
    have hB := set3_below B1.below (b := w.heap.size + 2) (x := .bool s1) (y := .slice A1 l1 c1) (z := .slice A2 l2 c2) (by omega)
    have f0 := k3.frozen 0
    have f1 := k3.frozen 1
    have f2 := k3.frozen 2
    obtain ⟨e0, e1, e2⟩ := bk3 k3
    obtain ⟨g0, g1, g2⟩ := bk3 B1.one
    generalize sgQ q = sg at *
    clear x0 x1 x2 B0 hb1 SG k3
    go_wp2
    refine bodyPost_ret (v := .tuple #[.agg #[.bool s1, .slice A1 l1 c1, .slice A2 l2 c2], .bool false]) (by simp [results, Tryz.results77, go_sem, e0, e1, e2]) rfl ?_
    exact ⟨hB, _, rfl, ⟨_, _, _, _, _, _, _, rfl⟩, fun h => (by cases h)⟩
  have hsg' : ¬ sgQ q ≤ 0 := fun h => hsg.1 h h0
  have hq0 : q ≠ 0 := by grind
  rw [decide_eq_true h0]
  have hsd := sz_div p q hq0
  have hsa := sz_add (p / q) (nr false 1 2)
  have hsh := sz_half
  have hsf := sz_fl (p / q + nr false 1 2)
  have HRD : Hid (rdQ p q = flQ (p / q + nr false 1 2) * q) := rfl
  have HH0 : Hid (∀ W (a b : Value), IsN W W.heap.size .u32 a 1 → IsN W W.heap.size .u32 b 2 → Calls Tryz.prog 79 #[.bool false, a, b] W fun e w' => Below W.heap.size W w' ∧ ∃ v, e = .returned v ∧ IsF w' w'.heap.size v (nr false 1 2)) :=
    fun W a b ha hb => make_any false 1 2 a b W (by decide) ha hb (by rw [limbs_one]; decide) (Nat.le_trans (limbs_len_le (k := 1) (by rw [B_eq]; omega)) (by decide))
  clear h0 hsg
  generalize rdQ p q = z at *
  generalize nr false 1 2 = H at *
  go_enter Tryz.func77, Tryz.ntmps77
  go_wp2_with fail
  generalize (((w.alloc (.cells #[.bool s1, .slice A1 l1 c1, .slice A2 l2 c2] 102)).alloc (.cells #[.bool s2, .slice A3 l3 c3, .slice A4 l4 c4] 102)).alloc (.cells #[.bool false, .slice none 0 0, .slice none 0 0] 102)) = W0 at *
  refine SG.out.mono ?_
  rintro e w1 ⟨hb1, rfl⟩
  have B1 := B0.next hb1
  generalize sgQ q = sg at *
  clear x0 x1 x2 B0 hb1 SG
  have ba := below_alloc w1 (.cells #[.int .u32 1] 105)
  have bb := below_alloc (w1.alloc (.cells #[.int .u32 1] 105)) (.cells #[.int .u32 2] 105)
  have ho : IsN _ _ .u32 _ 1 := (show IsN (w1.alloc (.cells #[.int .u32 1] 105)) (w1.alloc (.cells #[.int .u32 1] 105)).heap.size .u32 (.slice (some ⟨w1.heap.size, 0, none⟩) 1 1) 1 from by simpa using IsN.new_one w1 105).next bb
  have ht : IsN ((w1.alloc (.cells #[.int .u32 1] 105)).alloc (.cells #[.int .u32 2] 105)) ((w1.alloc (.cells #[.int .u32 1] 105)).alloc (.cells #[.int .u32 2] 105)).heap.size .u32 (.slice (some ⟨w1.heap.size + 1, 0, none⟩) 1 1) 2 := by
    simpa using IsN.new_two (w1.alloc (.cells #[.int .u32 1] 105)) 105
  have B2 := (B1.next ba).next bb
  clear ba bb B1
  go_wp2_with fail
  generalize (w1.alloc (.cells #[.int .u32 1] 105)).alloc (.cells #[.int .u32 2] 105) = w2 at *
  refine (HH0.out w2 _ _ ho ht).mono ?_
  rintro e w3 ⟨hb3, xh, rfl, hh⟩
  obtain ⟨s5, A5, l5, c5, A6, l6, c6, rfl⟩ := hh.form
  have B4 := (B2.next hb3).new 102 #[.bool s5, .slice A5 l5 c5, .slice A6 l6 c6]
  have HH : Hid (IsF _ _ _ H) := hh.next (below_alloc w3 (.cells #[.bool s5, .slice A5 l5 c5, .slice A6 l6 c6] 102))
  have hbh := (B2.next hb3).three.lt
  simp only at hbh
  clear B2 hb3 hh ho ht HH0
  obtain ⟨g0, g1, g2⟩ := bk3 B4.one
  obtain ⟨x0, x1, x2⟩ := bk3 B4.two
  obtain ⟨y0, y1, y2⟩ := bk3 (B4.keep (w3.heap.size, 102, #[.bool s5, .slice A5 l5 c5, .slice A6 l6 c6]) (by simp))
  go_wp2_with fail
  generalize w3.alloc (.cells #[.bool s5, .slice A5 l5 c5, .slice A6 l6 c6] 102) = w4 at *
  generalize w3.heap.size = bh at *
  have C9 := Lib.hid (fun W (h : BxW w ([(w.heap.size, 102, #[.bool s1, .slice A1 l1 c1, .slice A2 l2 c2]), (w.heap.size + 1, 102, #[.bool s2, .slice A3 l3 c3, .slice A4 l4 c4]), (w.heap.size + 2, 102, #[.bool false, .slice none 0 0, .slice none 0 0])] ++ [(bh, 102, #[.bool s5, .slice A5 l5 c5, .slice A6 l6 c6])]) W) => show (fun Y => (((Y.cell? ⟨w.heap.size, 0, none⟩ = some (.bool s1) ∧ Y.cell? ⟨w.heap.size, 1, none⟩ = some (.slice A1 l1 c1)) ∧ Y.cell? ⟨w.heap.size, 2, none⟩ = some (.slice A2 l2 c2)) ∧ ((Y.cell? ⟨w.heap.size + 1, 0, none⟩ = some (.bool s2) ∧ Y.cell? ⟨w.heap.size + 1, 1, none⟩ = some (.slice A3 l3 c3)) ∧ Y.cell? ⟨w.heap.size + 1, 2, none⟩ = some (.slice A4 l4 c4))) ∧ ((Y.cell? ⟨bh, 0, none⟩ = some (.bool s5) ∧ Y.cell? ⟨bh, 1, none⟩ = some (.slice A5 l5 c5)) ∧ Y.cell? ⟨bh, 2, none⟩ = some (.slice A6 l6 c6))) W from by
    obtain ⟨g0, g1, g2⟩ := bk3 h.one
    obtain ⟨x0, x1, x2⟩ := bk3 h.two
    obtain ⟨y0, y1, y2⟩ := bk3 (h.keep (bh, 102, #[.bool s5, .slice A5 l5 c5, .slice A6 l6 c6]) (by simp))
    exact ⟨⟨⟨⟨g0, g1⟩, g2⟩, ⟨x0, x1⟩, x2⟩, ⟨y0, y1⟩, y2⟩)
  refine wp_region_held_drew (S := fun Y => (((Y.cell? ⟨w.heap.size, 0, none⟩ = some (.bool s1) ∧ Y.cell? ⟨w.heap.size, 1, none⟩ = some (.slice A1 l1 c1)) ∧ Y.cell? ⟨w.heap.size, 2, none⟩ = some (.slice A2 l2 c2)) ∧ ((Y.cell? ⟨w.heap.size + 1, 0, none⟩ = some (.bool s2) ∧ Y.cell? ⟨w.heap.size + 1, 1, none⟩ = some (.slice A3 l3 c3)) ∧ Y.cell? ⟨w.heap.size + 1, 2, none⟩ = some (.slice A4 l4 c4))) ∧ ((Y.cell? ⟨bh, 0, none⟩ = some (.bool s5) ∧ Y.cell? ⟨bh, 1, none⟩ = some (.slice A5 l5 c5)) ∧ Y.cell? ⟨bh, 2, none⟩ = some (.slice A6 l6 c6))) (by kernel_rfl) ⟨⟨⟨⟨g0, g1⟩, g2⟩, ⟨x0, x1⟩, x2⟩, ⟨y0, y1⟩, y2⟩ (fun hS0 => ?_)
  clear g0 g1 g2 x0 x1 x2 y0 y1 y2
  have B5 := B4.drew
  have HH5 : Hid (IsF w4.drew w4.drew.heap.size _ H) := HH.out
  clear B4 HH
  generalize w4.drew = w5 at *
  refine takeA (i := 0) (v := ?_) rfl (by kernel_rfl) (by kernel_rfl) (by kernel_rfl) (fun _ _ _ h => h) (by rfl) (by assumption) ?_ ?_
  rotate_left
  · intro w hSw; (try dsimp only at hSw); go_simp <;> with_reducible rfl
  try simp only [Act.put, List.setIfInBounds_toArray, List.set_cons_zero, List.set_cons_succ]
  refine takeA (i := 1) (v := ?_) rfl (by kernel_rfl) (by kernel_rfl) (by kernel_rfl) (fun _ _ _ h => h) (by rfl) (by assumption) ?_ ?_
  rotate_left
  · intro w hSw; (try dsimp only at hSw); go_simp <;> with_reducible rfl
  try simp only [Act.put, List.setIfInBounds_toArray, List.set_cons_zero, List.set_cons_succ]
  refine takeA (i := 3) (v := ?_) rfl (by kernel_rfl) (by kernel_rfl) (by kernel_rfl) (fun _ _ _ h => h) (by rfl) (by assumption) ?_ ?_
  rotate_left
  · intro w hSw; (try dsimp only at hSw); go_simp <;> with_reducible rfl
  try simp only [Act.put, List.setIfInBounds_toArray, List.set_cons_zero, List.set_cons_succ]
  refine takeA (i := 6) (v := ?_) rfl (by kernel_rfl) (by kernel_rfl) (by kernel_rfl) (fun _ _ _ h => h) (by rfl) (by assumption) ?_ ?_
  rotate_left
  · intro w hSw; (try dsimp only at hSw); go_simp <;> with_reducible rfl
  try simp only [Act.put, List.setIfInBounds_toArray, List.set_cons_zero, List.set_cons_succ]
  clear hS0
  refine stepA (i := 2) rfl (by kernel_rfl) (fun K0 hK0 => ?_)
  go_simp
  refine (fdiv_any p q _ _ w5 hq0 (HU.out _ B5.below) (HV.out _ B5.below) (by omega) (by omega)).mono ?_
  rintro e w6 ⟨hbx, x6, rfl, h6⟩
  obtain ⟨s6, Aa, la, ca, Ab, lb, cb, rfl⟩ := h6.form
  have B6 := B5.next hbx
  have hS6 := C9.out _ B6
  dsimp only
  refine hK0.out _ _ hS6 (fun _ => ?_)
  try simp only [Act.put, List.setIfInBounds_toArray, List.set_cons_zero, List.set_cons_succ]
  have HH6 : Hid (IsF _ _ _ H) := HH5.out.next hbx
  clear hK0 K0 B5 hbx HH5 hS6
  refine stepA (i := 4) rfl (by kernel_rfl) (fun K0 hK0 => ?_)
  go_simp
  refine (fadd_any (p / q) H _ _ w6 h6 HH6.out (by omega) (by omega)).mono ?_
  rintro e w7 ⟨hbx, x7, rfl, h7⟩
  obtain ⟨s7, Ac, lc, cc, Ad, ld, cd, rfl⟩ := h7.form
  have B7 := B6.next hbx
  have hS7 := C9.out _ B7
  dsimp only
  refine hK0.out _ _ hS7 (fun _ => ?_)
  try simp only [Act.put, List.setIfInBounds_toArray, List.set_cons_zero, List.set_cons_succ]
  clear hK0 K0 B6 hbx HH6 hS7 h6
  refine stepA (i := 5) rfl (by kernel_rfl) (fun K0 hK0 => ?_)
  go_simp
  refine (ffloor_any (p / q + H) _ w7 h7 (by omega)).mono ?_
  rintro e w8 ⟨hbx, x8, rfl, h8⟩
  obtain ⟨s8, Ae, le, ce, Af, lf, cf, rfl⟩ := h8.form
  have B8 := B7.next hbx
  have hS8 := C9.out _ B8
  dsimp only
  refine hK0.out _ _ hS8 (fun _ => ?_)
  try simp only [Act.put, List.setIfInBounds_toArray, List.set_cons_zero, List.set_cons_succ]
  clear hK0 K0 B7 hbx hS8 h7
  refine stepA (i := 7) rfl (by kernel_rfl) (fun K0 hK0 => ?_)
  go_simp
  refine (fmul_any (flQ (p / q + H)) q _ _ w8 h8 (HV.out _ B8.below) (by omega) (by omega)).mono ?_
  rintro e w9 ⟨hbx, x9, rfl, h9⟩
  obtain ⟨s9, Ag, lg, cg, Ai, li, ci, rfl⟩ := h9.form
  have B9 := B8.next hbx
  have hS9 := C9.out _ B9
  dsimp only
  refine hK0.out _ _ hS9 (fun _ => ?_)
  try simp only [Act.put, List.setIfInBounds_toArray, List.set_cons_zero, List.set_cons_succ]
  clear hK0 K0 B8 hbx hS9 h8
  rw [← HRD.out] at h9
  have k3 := B9.three
  have hB := set3_below B9.below (b := w.heap.size + 2) (x := .bool s9) (y := .slice Ag lg cg) (z := .slice Ai li ci) (by omega)
  have hr3 := (h9.set3 k3 (.bool s9) (.slice Ag lg cg) (.slice Ai li ci)).more (Nat.le_of_eq (set3_size w9 (w.heap.size + 2) (.bool s9) (.slice Ag lg cg) (.slice Ai li ci)).symm)
  have f0 := k3.frozen 0
  have f1 := k3.frozen 1
  have f2 := k3.frozen 2
  obtain ⟨e0, e1, e2⟩ := bk3 k3
  have hS10 : (fun Y => (((Y.cell? ⟨w.heap.size, 0, none⟩ = some (.bool s1) ∧ Y.cell? ⟨w.heap.size, 1, none⟩ = some (.slice A1 l1 c1)) ∧ Y.cell? ⟨w.heap.size, 2, none⟩ = some (.slice A2 l2 c2)) ∧ ((Y.cell? ⟨w.heap.size + 1, 0, none⟩ = some (.bool s2) ∧ Y.cell? ⟨w.heap.size + 1, 1, none⟩ = some (.slice A3 l3 c3)) ∧ Y.cell? ⟨w.heap.size + 1, 2, none⟩ = some (.slice A4 l4 c4))) ∧ ((Y.cell? ⟨bh, 0, none⟩ = some (.bool s5) ∧ Y.cell? ⟨bh, 1, none⟩ = some (.slice A5 l5 c5)) ∧ Y.cell? ⟨bh, 2, none⟩ = some (.slice A6 l6 c6))) (set3 w9 (w.heap.size + 2) (.bool s9) (.slice Ag lg cg) (.slice Ai li ci)) := by
    obtain ⟨g0, g1, g2⟩ := bk3 (bk_far3 (b' := w.heap.size + 2) (x := .bool s9) (y := .slice Ag lg cg) (z := .slice Ai li ci) B9.one (by simp only; omega))
    obtain ⟨x0, x1, x2⟩ := bk3 (bk_far3 (b' := w.heap.size + 2) (x := .bool s9) (y := .slice Ag lg cg) (z := .slice Ai li ci) B9.two (by simp only; omega))
    obtain ⟨y0, y1, y2⟩ := bk3 (bk_far3 (b' := w.heap.size + 2) (x := .bool s9) (y := .slice Ag lg cg) (z := .slice Ai li ci) (B9.keep (bh, 102, #[.bool s5, .slice A5 l5 c5, .slice A6 l6 c6]) (by simp)) (by simp only; omega))
    exact ⟨⟨⟨⟨g0, g1⟩, g2⟩, ⟨x0, x1⟩, x2⟩, ⟨y0, y1⟩, y2⟩
  refine stepA (i := 8) rfl (by kernel_rfl) (fun K0 hK0 => ?_)
  go_simp
  refine hK0.out _ _ hS10 (fun _ => ?_)
  clear hK0 K0
  try simp only [Act.put, List.setIfInBounds_toArray, List.set_cons_zero, List.set_cons_succ]
  refine takeA (i := 9) (v := ?_) rfl (by kernel_rfl) (by kernel_rfl) (by kernel_rfl) (fun _ _ _ h => h) (by rfl) (by assumption) ?_ ?_
  rotate_left
  · intro w hSw; (try dsimp only at hSw); go_simp <;> with_reducible rfl
  try simp only [Act.put, List.setIfInBounds_toArray, List.set_cons_zero, List.set_cons_succ]
  refine wpAnyH_done (by kernel_rfl) ?_ _
  clear k3 h9 B9 C9 HU HV HRD hS10
  go_wp2
  refine bodyPost_ret (v := .tuple #[.agg #[.bool s9, .slice Ag lg cg, .slice Ai li ci], .bool true]) (by simp [results, Tryz.results77, go_sem, e0, e1, e2]) rfl ?_
  exact ⟨hB, _, rfl, ⟨_, _, _, _, _, _, _, rfl⟩, fun _ => hr3⟩
end Go.Proofs.YtpkhgdnkkdhlcaaGreatDoor

namespace Go.Proofs.YtpkhgdnkkdhlcaaGreatDoor
open Go.RowKit Ar

/-- What Round says of two texts. -/
noncomputable def rndV (s t : ByteArray) : ByteArray := if (numB s && numB t) = true then (if decide (0 < textRat t.data.toList) = true then putT (rdQ (textRat s.data.toList) (textRat t.data.toList)) else ⟨#[]⟩) else ⟨#[]⟩
set_option maxRecDepth 100000 in
set_option maxHeartbeats 1600000 in
theorem pround_any (s t : ByteArray) (w : World) (hs : s.size ≤ 4000000) (ht : t.size ≤ 4000000) (he : Env w) (her : EnvR w) :
    Calls Tryz.prog 44 #[.string s, .string t] w fun e w' => Below w.heap.size w w' ∧ e = .returned (.string (rndV s t)) := by
  have TW := Lib.hid (ptwo_any s t (rdQ (textRat s.data.toList) (textRat t.data.toList)) (decide (0 < textRat t.data.toList)) 77 #[] (enters_of Tryz.func77 (by kernel_rfl) rfl) w hs ht he her
    (fun h1 h2 h0 => by
      have h0' := of_decide_eq_true h0
      have := sz_rd (textRat s.data.toList) (textRat t.data.toList) (by grind)
      have := num_sz h1
      have := num_sz h2
      omega)
    (fun h1 h2 W' u v hW' hu hv => pround1_any _ _ u v W' hu hv (num_sz h1) (num_sz h2)) (rndV s t) rfl)
  clear he her hs ht
  generalize rndV s t = R at *
  go_enter Tryz.func44, Tryz.ntmps44
  go_wp2_with fail
  refine TW.out.mono ?_
  rintro e w2 ⟨hb2, rfl⟩
  go_wp2
  go_ret
  exact ⟨hb2, rfl⟩

set_option maxRecDepth 100000 in
set_option maxHeartbeats 3200000 in
theorem qbot_any (p : Rat) (v : Value) (w : World) (h : IsQ w w.heap.size v p) (hl : sz p ≤ 1000000000) :
    Calls Tryz.prog 146 #[v] w fun e w' => Below w.heap.size w w' ∧ ∃ v, e = .returned v ∧ IsQ w' w'.heap.size v (flQ p) := by
  have hh := h
  obtain ⟨N1, D1, d, rfl, hN1, hD1, -⟩ := h
  obtain ⟨A1, l1, c1, rfl⟩ := hN1.form
  obtain ⟨A2, l2, c2, rfl⟩ := hD1.form
  have B0 : BxW w [(w.heap.size, 74, #[.bool (sg p), .slice A1 l1 c1, .slice A2 l2 c2]), (w.heap.size + 1, 74, #[.bool false, .slice none 0 0, .slice none 0 0])] ((w.alloc (.cells #[.bool (sg p), .slice A1 l1 c1, .slice A2 l2 c2] 74)).alloc (.cells #[.bool false, .slice none 0 0, .slice none 0 0] 74)) := by
    have h := ((BxW.nil w).new 74 #[.bool (sg p), .slice A1 l1 c1, .slice A2 l2 c2]).new 74 #[.bool false, .slice none 0 0, .slice none 0 0]
    simpa using h
  have DN := Lib.hid (fun W (hW : Below w.heap.size w W) => qden_any p _ W (hh.next hW) (by omega))
  have DV := Lib.hid (fun W u (hW : Below w.heap.size w W) (hu : IsN W W.heap.size .u64 u (dn p)) => ndiv_any (nm p) (dn p) _ u W (dn_pos p) (hN1.next hW) hu (by have := sz_nm p; omega))
  have HM : Hid (flM p = if sg p = true ∧ nm p % dn p ≠ 0 then nm p / dn p + 1 else nm p / dn p) := rfl
  have HF := Lib.hid (floor_nr p)
  have hlq : (limbs (nm p / dn p)).length ≤ sz p := Nat.le_trans (len_mono (Nat.div_le_self _ _)) (sz_nm p)
  have hlm := len_flM p
  clear hN1 hD1 hh
  generalize flQ p = F at *
  generalize flM p = m at *
  generalize sg p = s at *
  generalize nm p / dn p = q0 at *
  generalize nm p % dn p = r0 at *
  generalize dn p = dp at *
  generalize nm p = np at *
  cases s
  · obtain rfl : m = q0 := by have := HM.out; rw [if_neg (by simp)] at this; exact this
    clear HM
    obtain ⟨x0, x1, x2⟩ := bk3 B0.one
    have C9 := Lib.hid (fun W (h : BxW w [(w.heap.size, 74, #[.bool false, .slice A1 l1 c1, .slice A2 l2 c2]), (w.heap.size + 1, 74, #[.bool false, .slice none 0 0, .slice none 0 0])] W) => show (fun Y => (Y.cell? ⟨w.heap.size, 0, none⟩ = some (.bool false) ∧ Y.cell? ⟨w.heap.size, 1, none⟩ = some (.slice A1 l1 c1)) ∧ Y.cell? ⟨w.heap.size, 2, none⟩ = some (.slice A2 l2 c2)) W from by
      obtain ⟨x0, x1, x2⟩ := bk3 h.one
      exact ⟨⟨x0, x1⟩, x2⟩)
    go_enter Tryz.func146, Tryz.ntmps146
    go_wp2_with fail
    generalize ((w.alloc (.cells #[.bool false, .slice A1 l1 c1, .slice A2 l2 c2] 74)).alloc (.cells #[.bool false, .slice none 0 0, .slice none 0 0] 74)) = W0 at *
    refine wp_region_held_drew (S := fun Y => (Y.cell? ⟨w.heap.size, 0, none⟩ = some (.bool false) ∧ Y.cell? ⟨w.heap.size, 1, none⟩ = some (.slice A1 l1 c1)) ∧ Y.cell? ⟨w.heap.size, 2, none⟩ = some (.slice A2 l2 c2)) (by kernel_rfl) ⟨⟨x0, x1⟩, x2⟩ (fun hS0 => ?_)
    clear x0 x1 x2
    have B1 := B0.drew
    clear B0
    generalize W0.drew = w1 at *
    refine takeA (i := 0) (v := ?_) rfl (by kernel_rfl) (by kernel_rfl) (by kernel_rfl) (fun _ _ _ h => h) (by rfl) (by assumption) ?_ ?_
    rotate_left
    · intro w hSw; (try dsimp only at hSw); go_simp <;> with_reducible rfl
    try simp only [Act.put, List.setIfInBounds_toArray, List.set_cons_zero, List.set_cons_succ]
    refine takeA (i := 1) (v := ?_) rfl (by kernel_rfl) (by kernel_rfl) (by kernel_rfl) (fun _ _ _ h => h) (by rfl) (by assumption) ?_ ?_
    rotate_left
    · intro w hSw; (try dsimp only at hSw); go_simp <;> with_reducible rfl
    try simp only [Act.put, List.setIfInBounds_toArray, List.set_cons_zero, List.set_cons_succ]
    refine takeA (i := 2) (v := ?_) rfl (by kernel_rfl) (by kernel_rfl) (by kernel_rfl) (fun _ _ _ h => h) (by rfl) (by assumption) ?_ ?_
    rotate_left
    · intro w hSw; (try dsimp only at hSw); go_simp <;> with_reducible rfl
    try simp only [Act.put, List.setIfInBounds_toArray, List.set_cons_zero, List.set_cons_succ]
    refine stepA (i := 3) rfl (by kernel_rfl) (fun K0 hK0 => ?_)
    go_simp
    refine (DN.out w1 B1.below).mono ?_
    rintro e w2 ⟨hbx, dv, rfl, hdv⟩
    obtain ⟨A3, l3, c3, rfl⟩ := hdv.form
    have B2 := B1.next hbx
    have hS2 := C9.out _ B2
    dsimp only
    refine hK0.out _ _ hS2 (fun _ => ?_)
    clear hK0 K0 B1 hbx hS0
    try simp only [Act.put, List.setIfInBounds_toArray, List.set_cons_zero, List.set_cons_succ]
    refine stepA (i := 4) rfl (by kernel_rfl) (fun K0 hK0 => ?_)
    go_simp
    refine (DV.out w2 _ B2.below hdv).mono ?_
    rintro e w3 ⟨hbx, qv, rv, rfl, hq, hr⟩
    obtain ⟨A4, l4, c4, rfl⟩ := hq.form
    obtain ⟨A5, c5, rfl, -, -⟩ := hr
    have B3 := B2.next hbx
    have hS3 := C9.out _ B3
    dsimp only
    refine hK0.out _ _ hS3 (fun _ => ?_)
    clear hK0 K0 B2 hbx hS2 hdv DN DV
    try simp only [Act.put, List.setIfInBounds_toArray, List.set_cons_zero, List.set_cons_succ]
    refine takeA (i := 5) (v := ?_) rfl (by kernel_rfl) (by kernel_rfl) (by kernel_rfl) (fun _ _ _ h => h) (by rfl) (by assumption) ?_ ?_
    rotate_left
    · intro w hSw; (try dsimp only at hSw); go_simp <;> with_reducible rfl
    try simp only [Act.put, List.setIfInBounds_toArray, List.set_cons_zero, List.set_cons_succ]
    refine takeA (i := 6) (v := ?_) rfl (by kernel_rfl) (by kernel_rfl) (by kernel_rfl) (fun _ _ _ h => h) (by rfl) (by assumption) ?_ ?_
    rotate_left
    · intro w hSw; (try dsimp only at hSw); go_simp <;> with_reducible rfl
    try simp only [Act.put, List.setIfInBounds_toArray, List.set_cons_zero, List.set_cons_succ]
    refine takeA (i := 7) (v := ?_) rfl (by kernel_rfl) (by kernel_rfl) (by kernel_rfl) (fun _ _ _ h => h) (by rfl) (by assumption) ?_ ?_
    rotate_left
    · intro w hSw; (try dsimp only at hSw); go_simp <;> with_reducible rfl
    try simp only [Act.put, List.setIfInBounds_toArray, List.set_cons_zero, List.set_cons_succ]
    refine takeA (i := 8) (v := ?_) rfl (by kernel_rfl) (by kernel_rfl) (by kernel_rfl) (fun _ _ _ h => h) (by rfl) (by assumption) ?_ ?_
    rotate_left
    · intro w hSw; (try dsimp only at hSw); go_simp <;> with_reducible rfl
    try simp only [Act.put, List.setIfInBounds_toArray, List.set_cons_zero, List.set_cons_succ]
    refine takeA (i := 9) (v := ?_) rfl (by kernel_rfl) (by kernel_rfl) (by kernel_rfl) (fun _ _ _ h => h) (by rfl) (by assumption) ?_ ?_
    rotate_left
    · intro w hSw; (try dsimp only at hSw); go_simp <;> with_reducible rfl
    try simp only [Act.put, List.setIfInBounds_toArray, List.set_cons_zero, List.set_cons_succ]
    refine wpAnyH_done (by kernel_rfl) ?_ _
    clear hS3
    obtain ⟨x0, x1, x2⟩ := bk3 B3.one
    go_wp2_with fail
    refine wp_region_held_drew (S := fun Y => (Y.cell? ⟨w.heap.size, 0, none⟩ = some (.bool false) ∧ Y.cell? ⟨w.heap.size, 1, none⟩ = some (.slice A1 l1 c1)) ∧ Y.cell? ⟨w.heap.size, 2, none⟩ = some (.slice A2 l2 c2)) (by kernel_rfl) ⟨⟨x0, x1⟩, x2⟩ (fun hS0 => ?_)
    clear x0 x1 x2
    have B5 := B3.drew
    have hq5 : IsN w3.drew w3.drew.heap.size .u64 (.slice A4 l4 c4) m := hq
    clear B3 hq
    generalize w3.drew = w5 at *
    refine takeA (i := 0) (v := ?_) rfl (by kernel_rfl) (by kernel_rfl) (by kernel_rfl) (fun _ _ _ h => h) (by rfl) (by assumption) ?_ ?_
    rotate_left
    · intro w hSw; (try dsimp only at hSw); go_simp <;> with_reducible rfl
    try simp only [Act.put, List.setIfInBounds_toArray, List.set_cons_zero, List.set_cons_succ]
    refine takeA (i := 1) (v := ?_) rfl (by kernel_rfl) (by kernel_rfl) (by kernel_rfl) (fun _ _ _ h => h) (by rfl) (by assumption) ?_ ?_
    rotate_left
    · intro w hSw; (try dsimp only at hSw); go_simp <;> with_reducible rfl
    try simp only [Act.put, List.setIfInBounds_toArray, List.set_cons_zero, List.set_cons_succ]
    refine takeA (i := 2) (v := ?_) rfl (by kernel_rfl) (by kernel_rfl) (by kernel_rfl) (fun _ _ _ h => h) (by rfl) (by assumption) ?_ ?_
    rotate_left
    · intro w hSw; (try dsimp only at hSw); go_simp <;> with_reducible rfl
    try simp only [Act.put, List.setIfInBounds_toArray, List.set_cons_zero, List.set_cons_succ]
    refine stepA (i := 3) rfl (by kernel_rfl) (fun K0 hK0 => ?_)
    go_simp
    refine (qone_any w5).mono ?_
    rintro e w6 ⟨hbx, x6, rfl, h6⟩
    obtain ⟨Aa, la, ca, rfl⟩ := h6.form
    have B6 := B5.next hbx
    have hS6 := C9.out _ B6
    dsimp only
    refine hK0.out _ _ hS6 (fun _ => ?_)
    try simp only [Act.put, List.setIfInBounds_toArray, List.set_cons_zero, List.set_cons_succ]
    have hq6 := hq5.next hbx
    clear hK0 K0 B5 hbx hS0 hq5
    refine stepA (i := 4) rfl (by kernel_rfl) (fun K0 hK0 => ?_)
    go_simp
    refine (qmake_any false m 1 _ _ w6 hq6 h6 (by omega) (by rw [limbs_one]; decide)).mono ?_
    rintro e w7 ⟨hbx, x7, rfl, h7⟩
    obtain ⟨s7, Ab, lb, cb, Ac, lc, cc, rfl⟩ := h7.form
    have B7 := B6.next hbx
    have hS7 := C9.out _ B7
    have hS7c := hS7
    rw [HF.out] at h7
    dsimp only
    refine hK0.out _ _ hS7 (fun _ => ?_)
    try simp only [Act.put, List.setIfInBounds_toArray, List.set_cons_zero, List.set_cons_succ]
    clear hK0 K0 B6 hbx hS6 h6 hq6
    have k3 := B7.two
    have hB := set3_below B7.below (b := w.heap.size + 1) (x := .bool s7) (y := .slice Ab lb cb) (z := .slice Ac lc cc) (by omega)
    have hr3 := (h7.set3 k3 (.bool s7) (.slice Ab lb cb) (.slice Ac lc cc)).more (Nat.le_of_eq (set3_size w7 (w.heap.size + 1) (.bool s7) (.slice Ab lb cb) (.slice Ac lc cc)).symm)
    have f0 := k3.frozen 0
    have f1 := k3.frozen 1
    have f2 := k3.frozen 2
    obtain ⟨e0, e1, e2⟩ := bk3 k3
    have hS10 : (fun Y => (Y.cell? ⟨w.heap.size, 0, none⟩ = some (.bool false) ∧ Y.cell? ⟨w.heap.size, 1, none⟩ = some (.slice A1 l1 c1)) ∧ Y.cell? ⟨w.heap.size, 2, none⟩ = some (.slice A2 l2 c2)) (set3 w7 (w.heap.size + 1) (.bool s7) (.slice Ab lb cb) (.slice Ac lc cc)) := by
      obtain ⟨x0, x1, x2⟩ := bk3 (bk_far3 (b' := w.heap.size + 1) (x := .bool s7) (y := .slice Ab lb cb) (z := .slice Ac lc cc) B7.one (by simp only; omega))
      exact ⟨⟨x0, x1⟩, x2⟩
    refine stepA (i := 5) rfl (by kernel_rfl) (fun K0 hK0 => ?_)
    go_simp
    refine hK0.out _ _ hS10 (fun _ => ?_)
    clear hK0 K0
    try simp only [Act.put, List.setIfInBounds_toArray, List.set_cons_zero, List.set_cons_succ]
    refine wpAnyH_done (by kernel_rfl) ?_ _
    clear k3 h7 B7 C9 hS10 hS7 hS7c
    go_wp2
    refine bodyPost_ret (v := .agg #[.bool s7, .slice Ab lb cb, .slice Ac lc cc]) (by simp [results, Tryz.results146, go_sem, e0, e1, e2]) rfl ?_
    exact ⟨hB, _, rfl, hr3⟩
  by_cases h0 : r0 = 0
  · obtain rfl : m = q0 := by have := HM.out; rw [if_neg (by simp [h0])] at this; exact this
    subst h0
    clear HM
    obtain ⟨x0, x1, x2⟩ := bk3 B0.one
    have C9 := Lib.hid (fun W (h : BxW w [(w.heap.size, 74, #[.bool true, .slice A1 l1 c1, .slice A2 l2 c2]), (w.heap.size + 1, 74, #[.bool false, .slice none 0 0, .slice none 0 0])] W) => show (fun Y => (Y.cell? ⟨w.heap.size, 0, none⟩ = some (.bool true) ∧ Y.cell? ⟨w.heap.size, 1, none⟩ = some (.slice A1 l1 c1)) ∧ Y.cell? ⟨w.heap.size, 2, none⟩ = some (.slice A2 l2 c2)) W from by
      obtain ⟨x0, x1, x2⟩ := bk3 h.one
      exact ⟨⟨x0, x1⟩, x2⟩)
    go_enter Tryz.func146, Tryz.ntmps146
    go_wp2_with fail
    generalize ((w.alloc (.cells #[.bool true, .slice A1 l1 c1, .slice A2 l2 c2] 74)).alloc (.cells #[.bool false, .slice none 0 0, .slice none 0 0] 74)) = W0 at *
    refine wp_region_held_drew (S := fun Y => (Y.cell? ⟨w.heap.size, 0, none⟩ = some (.bool true) ∧ Y.cell? ⟨w.heap.size, 1, none⟩ = some (.slice A1 l1 c1)) ∧ Y.cell? ⟨w.heap.size, 2, none⟩ = some (.slice A2 l2 c2)) (by kernel_rfl) ⟨⟨x0, x1⟩, x2⟩ (fun hS0 => ?_)
    clear x0 x1 x2
    have B1 := B0.drew
    clear B0
    generalize W0.drew = w1 at *
    refine takeA (i := 0) (v := ?_) rfl (by kernel_rfl) (by kernel_rfl) (by kernel_rfl) (fun _ _ _ h => h) (by rfl) (by assumption) ?_ ?_
    rotate_left
    · intro w hSw; (try dsimp only at hSw); go_simp <;> with_reducible rfl
    try simp only [Act.put, List.setIfInBounds_toArray, List.set_cons_zero, List.set_cons_succ]
    refine takeA (i := 1) (v := ?_) rfl (by kernel_rfl) (by kernel_rfl) (by kernel_rfl) (fun _ _ _ h => h) (by rfl) (by assumption) ?_ ?_
    rotate_left
    · intro w hSw; (try dsimp only at hSw); go_simp <;> with_reducible rfl
    try simp only [Act.put, List.setIfInBounds_toArray, List.set_cons_zero, List.set_cons_succ]
    refine takeA (i := 2) (v := ?_) rfl (by kernel_rfl) (by kernel_rfl) (by kernel_rfl) (fun _ _ _ h => h) (by rfl) (by assumption) ?_ ?_
    rotate_left
    · intro w hSw; (try dsimp only at hSw); go_simp <;> with_reducible rfl
    try simp only [Act.put, List.setIfInBounds_toArray, List.set_cons_zero, List.set_cons_succ]
    refine stepA (i := 3) rfl (by kernel_rfl) (fun K0 hK0 => ?_)
    go_simp
    refine (DN.out w1 B1.below).mono ?_
    rintro e w2 ⟨hbx, dv, rfl, hdv⟩
    obtain ⟨A3, l3, c3, rfl⟩ := hdv.form
    have B2 := B1.next hbx
    have hS2 := C9.out _ B2
    dsimp only
    refine hK0.out _ _ hS2 (fun _ => ?_)
    clear hK0 K0 B1 hbx hS0
    try simp only [Act.put, List.setIfInBounds_toArray, List.set_cons_zero, List.set_cons_succ]
    refine stepA (i := 4) rfl (by kernel_rfl) (fun K0 hK0 => ?_)
    go_simp
    refine (DV.out w2 _ B2.below hdv).mono ?_
    rintro e w3 ⟨hbx, qv, rv, rfl, hq, hr⟩
    obtain ⟨A4, l4, c4, rfl⟩ := hq.form
    obtain ⟨A5, c5, rfl, -, -⟩ := hr
    have B3 := B2.next hbx
    have hS3 := C9.out _ B3
    dsimp only
    refine hK0.out _ _ hS3 (fun _ => ?_)
    clear hK0 K0 B2 hbx hS2 hdv DN DV
    try simp only [Act.put, List.setIfInBounds_toArray, List.set_cons_zero, List.set_cons_succ]
    refine takeA (i := 5) (v := ?_) rfl (by kernel_rfl) (by kernel_rfl) (by kernel_rfl) (fun _ _ _ h => h) (by rfl) (by assumption) ?_ ?_
    rotate_left
    · intro w hSw; (try dsimp only at hSw); go_simp <;> with_reducible rfl
    try simp only [Act.put, List.setIfInBounds_toArray, List.set_cons_zero, List.set_cons_succ]
    refine takeA (i := 6) (v := ?_) rfl (by kernel_rfl) (by kernel_rfl) (by kernel_rfl) (fun _ _ _ h => h) (by rfl) (by assumption) ?_ ?_
    rotate_left
    · intro w hSw; (try dsimp only at hSw); go_simp <;> with_reducible rfl
    try simp only [Act.put, List.setIfInBounds_toArray, List.set_cons_zero, List.set_cons_succ]
    refine takeA (i := 7) (v := ?_) rfl (by kernel_rfl) (by kernel_rfl) (by kernel_rfl) (fun _ _ _ h => h) (by rfl) (by assumption) ?_ ?_
    rotate_left
    · intro w hSw; (try dsimp only at hSw); go_simp <;> with_reducible rfl
    try simp only [Act.put, List.setIfInBounds_toArray, List.set_cons_zero, List.set_cons_succ]
    refine takeA (i := 8) (v := ?_) rfl (by kernel_rfl) (by kernel_rfl) (by kernel_rfl) (fun _ _ _ h => h) (by rfl) (by assumption) ?_ ?_
    rotate_left
    · intro w hSw; (try dsimp only at hSw); go_simp <;> with_reducible rfl
    try simp only [Act.put, List.setIfInBounds_toArray, List.set_cons_zero, List.set_cons_succ]
    refine takeA (i := 9) (v := ?_) rfl (by kernel_rfl) (by kernel_rfl) (by kernel_rfl) (fun _ _ _ h => h) (by rfl) (by assumption) ?_ ?_
    rotate_left
    · intro w hSw; (try dsimp only at hSw); go_simp <;> with_reducible rfl
    try simp only [Act.put, List.setIfInBounds_toArray, List.set_cons_zero, List.set_cons_succ]
    refine wpAnyH_done (by kernel_rfl) ?_ _
    clear hS3
    obtain ⟨x0, x1, x2⟩ := bk3 B3.one
    rw [show (limbs 0).length = 0 by rw [limbs_zero]; rfl]
    go_wp2_with fail
    refine wp_region_held_drew (S := fun Y => (Y.cell? ⟨w.heap.size, 0, none⟩ = some (.bool true) ∧ Y.cell? ⟨w.heap.size, 1, none⟩ = some (.slice A1 l1 c1)) ∧ Y.cell? ⟨w.heap.size, 2, none⟩ = some (.slice A2 l2 c2)) (by kernel_rfl) ⟨⟨x0, x1⟩, x2⟩ (fun hS0 => ?_)
    clear x0 x1 x2
    have B5 := B3.drew
    have hq5 : IsN w3.drew w3.drew.heap.size .u64 (.slice A4 l4 c4) m := hq
    clear B3 hq
    generalize w3.drew = w5 at *
    refine takeA (i := 0) (v := ?_) rfl (by kernel_rfl) (by kernel_rfl) (by kernel_rfl) (fun _ _ _ h => h) (by rfl) (by assumption) ?_ ?_
    rotate_left
    · intro w hSw; (try dsimp only at hSw); go_simp <;> with_reducible rfl
    try simp only [Act.put, List.setIfInBounds_toArray, List.set_cons_zero, List.set_cons_succ]
    refine takeA (i := 1) (v := ?_) rfl (by kernel_rfl) (by kernel_rfl) (by kernel_rfl) (fun _ _ _ h => h) (by rfl) (by assumption) ?_ ?_
    rotate_left
    · intro w hSw; (try dsimp only at hSw); go_simp <;> with_reducible rfl
    try simp only [Act.put, List.setIfInBounds_toArray, List.set_cons_zero, List.set_cons_succ]
    refine takeA (i := 2) (v := ?_) rfl (by kernel_rfl) (by kernel_rfl) (by kernel_rfl) (fun _ _ _ h => h) (by rfl) (by assumption) ?_ ?_
    rotate_left
    · intro w hSw; (try dsimp only at hSw); go_simp <;> with_reducible rfl
    try simp only [Act.put, List.setIfInBounds_toArray, List.set_cons_zero, List.set_cons_succ]
    refine stepA (i := 3) rfl (by kernel_rfl) (fun K0 hK0 => ?_)
    go_simp
    refine (qone_any w5).mono ?_
    rintro e w6 ⟨hbx, x6, rfl, h6⟩
    obtain ⟨Aa, la, ca, rfl⟩ := h6.form
    have B6 := B5.next hbx
    have hS6 := C9.out _ B6
    dsimp only
    refine hK0.out _ _ hS6 (fun _ => ?_)
    try simp only [Act.put, List.setIfInBounds_toArray, List.set_cons_zero, List.set_cons_succ]
    have hq6 := hq5.next hbx
    clear hK0 K0 B5 hbx hS0 hq5
    refine stepA (i := 4) rfl (by kernel_rfl) (fun K0 hK0 => ?_)
    go_simp
    refine (qmake_any true m 1 _ _ w6 hq6 h6 (by omega) (by rw [limbs_one]; decide)).mono ?_
    rintro e w7 ⟨hbx, x7, rfl, h7⟩
    obtain ⟨s7, Ab, lb, cb, Ac, lc, cc, rfl⟩ := h7.form
    have B7 := B6.next hbx
    have hS7 := C9.out _ B7
    have hS7c := hS7
    rw [HF.out] at h7
    dsimp only
    refine hK0.out _ _ hS7 (fun _ => ?_)
    try simp only [Act.put, List.setIfInBounds_toArray, List.set_cons_zero, List.set_cons_succ]
    clear hK0 K0 B6 hbx hS6 h6 hq6
    have k3 := B7.two
    have hB := set3_below B7.below (b := w.heap.size + 1) (x := .bool s7) (y := .slice Ab lb cb) (z := .slice Ac lc cc) (by omega)
    have hr3 := (h7.set3 k3 (.bool s7) (.slice Ab lb cb) (.slice Ac lc cc)).more (Nat.le_of_eq (set3_size w7 (w.heap.size + 1) (.bool s7) (.slice Ab lb cb) (.slice Ac lc cc)).symm)
    have f0 := k3.frozen 0
    have f1 := k3.frozen 1
    have f2 := k3.frozen 2
    obtain ⟨e0, e1, e2⟩ := bk3 k3
    have hS10 : (fun Y => (Y.cell? ⟨w.heap.size, 0, none⟩ = some (.bool true) ∧ Y.cell? ⟨w.heap.size, 1, none⟩ = some (.slice A1 l1 c1)) ∧ Y.cell? ⟨w.heap.size, 2, none⟩ = some (.slice A2 l2 c2)) (set3 w7 (w.heap.size + 1) (.bool s7) (.slice Ab lb cb) (.slice Ac lc cc)) := by
      obtain ⟨x0, x1, x2⟩ := bk3 (bk_far3 (b' := w.heap.size + 1) (x := .bool s7) (y := .slice Ab lb cb) (z := .slice Ac lc cc) B7.one (by simp only; omega))
      exact ⟨⟨x0, x1⟩, x2⟩
    refine stepA (i := 5) rfl (by kernel_rfl) (fun K0 hK0 => ?_)
    go_simp
    refine hK0.out _ _ hS10 (fun _ => ?_)
    clear hK0 K0
    try simp only [Act.put, List.setIfInBounds_toArray, List.set_cons_zero, List.set_cons_succ]
    refine wpAnyH_done (by kernel_rfl) ?_ _
    clear k3 h7 B7 C9 hS10 hS7 hS7c
    go_wp2
    refine bodyPost_ret (v := .agg #[.bool s7, .slice Ab lb cb, .slice Ac lc cc]) (by simp [results, Tryz.results146, go_sem, e0, e1, e2]) rfl ?_
    exact ⟨hB, _, rfl, hr3⟩
  · obtain rfl : m = q0 + 1 := by have := HM.out; rw [if_pos ⟨rfl, h0⟩] at this; exact this
    clear HM
    have hr0 : 0 < (limbs r0).length := limbs_len_pos (by omega)
    generalize hnr : (limbs r0).length = nr0 at *
    have HNR := Lib.hid hnr
    clear hnr
    obtain ⟨x0, x1, x2⟩ := bk3 B0.one
    have C9 := Lib.hid (fun W (h : BxW w [(w.heap.size, 74, #[.bool true, .slice A1 l1 c1, .slice A2 l2 c2]), (w.heap.size + 1, 74, #[.bool false, .slice none 0 0, .slice none 0 0])] W) => show (fun Y => (Y.cell? ⟨w.heap.size, 0, none⟩ = some (.bool true) ∧ Y.cell? ⟨w.heap.size, 1, none⟩ = some (.slice A1 l1 c1)) ∧ Y.cell? ⟨w.heap.size, 2, none⟩ = some (.slice A2 l2 c2)) W from by
      obtain ⟨x0, x1, x2⟩ := bk3 h.one
      exact ⟨⟨x0, x1⟩, x2⟩)
    go_enter Tryz.func146, Tryz.ntmps146
    go_wp2_with fail
    generalize ((w.alloc (.cells #[.bool true, .slice A1 l1 c1, .slice A2 l2 c2] 74)).alloc (.cells #[.bool false, .slice none 0 0, .slice none 0 0] 74)) = W0 at *
    refine wp_region_held_drew (S := fun Y => (Y.cell? ⟨w.heap.size, 0, none⟩ = some (.bool true) ∧ Y.cell? ⟨w.heap.size, 1, none⟩ = some (.slice A1 l1 c1)) ∧ Y.cell? ⟨w.heap.size, 2, none⟩ = some (.slice A2 l2 c2)) (by kernel_rfl) ⟨⟨x0, x1⟩, x2⟩ (fun hS0 => ?_)
    clear x0 x1 x2
    have B1 := B0.drew
    clear B0
    generalize W0.drew = w1 at *
    refine takeA (i := 0) (v := ?_) rfl (by kernel_rfl) (by kernel_rfl) (by kernel_rfl) (fun _ _ _ h => h) (by rfl) (by assumption) ?_ ?_
    rotate_left
    · intro w hSw; (try dsimp only at hSw); go_simp <;> with_reducible rfl
    try simp only [Act.put, List.setIfInBounds_toArray, List.set_cons_zero, List.set_cons_succ]
    refine takeA (i := 1) (v := ?_) rfl (by kernel_rfl) (by kernel_rfl) (by kernel_rfl) (fun _ _ _ h => h) (by rfl) (by assumption) ?_ ?_
    rotate_left
    · intro w hSw; (try dsimp only at hSw); go_simp <;> with_reducible rfl
    try simp only [Act.put, List.setIfInBounds_toArray, List.set_cons_zero, List.set_cons_succ]
    refine takeA (i := 2) (v := ?_) rfl (by kernel_rfl) (by kernel_rfl) (by kernel_rfl) (fun _ _ _ h => h) (by rfl) (by assumption) ?_ ?_
    rotate_left
    · intro w hSw; (try dsimp only at hSw); go_simp <;> with_reducible rfl
    try simp only [Act.put, List.setIfInBounds_toArray, List.set_cons_zero, List.set_cons_succ]
    refine stepA (i := 3) rfl (by kernel_rfl) (fun K0 hK0 => ?_)
    go_simp
    refine (DN.out w1 B1.below).mono ?_
    rintro e w2 ⟨hbx, dv, rfl, hdv⟩
    obtain ⟨A3, l3, c3, rfl⟩ := hdv.form
    have B2 := B1.next hbx
    have hS2 := C9.out _ B2
    dsimp only
    refine hK0.out _ _ hS2 (fun _ => ?_)
    clear hK0 K0 B1 hbx hS0
    try simp only [Act.put, List.setIfInBounds_toArray, List.set_cons_zero, List.set_cons_succ]
    refine stepA (i := 4) rfl (by kernel_rfl) (fun K0 hK0 => ?_)
    go_simp
    refine (DV.out w2 _ B2.below hdv).mono ?_
    rintro e w3 ⟨hbx, qv, rv, rfl, hq, hr⟩
    obtain ⟨A4, l4, c4, rfl⟩ := hq.form
    obtain ⟨A5, c5, rfl, -, -⟩ := hr
    rw [HNR.out] at *
    have B3 := B2.next hbx
    have hS3 := C9.out _ B3
    dsimp only
    refine hK0.out _ _ hS3 (fun _ => ?_)
    clear hK0 K0 B2 hbx hS2 hdv DN DV
    try simp only [Act.put, List.setIfInBounds_toArray, List.set_cons_zero, List.set_cons_succ]
    refine takeA (i := 5) (v := ?_) rfl (by kernel_rfl) (by kernel_rfl) (by kernel_rfl) (fun _ _ _ h => h) (by rfl) (by assumption) ?_ ?_
    rotate_left
    · intro w hSw; (try dsimp only at hSw); go_simp <;> with_reducible rfl
    try simp only [Act.put, List.setIfInBounds_toArray, List.set_cons_zero, List.set_cons_succ]
    refine takeA (i := 6) (v := ?_) rfl (by kernel_rfl) (by kernel_rfl) (by kernel_rfl) (fun _ _ _ h => h) (by rfl) (by assumption) ?_ ?_
    rotate_left
    · intro w hSw; (try dsimp only at hSw); go_simp <;> with_reducible rfl
    try simp only [Act.put, List.setIfInBounds_toArray, List.set_cons_zero, List.set_cons_succ]
    refine takeA (i := 7) (v := ?_) rfl (by kernel_rfl) (by kernel_rfl) (by kernel_rfl) (fun _ _ _ h => h) (by rfl) (by assumption) ?_ ?_
    rotate_left
    · intro w hSw; (try dsimp only at hSw); go_simp <;> with_reducible rfl
    try simp only [Act.put, List.setIfInBounds_toArray, List.set_cons_zero, List.set_cons_succ]
    refine takeA (i := 8) (v := ?_) rfl (by kernel_rfl) (by kernel_rfl) (by kernel_rfl) (fun _ _ _ h => h) (by rfl) (by assumption) ?_ ?_
    rotate_left
    · intro w hSw; (try dsimp only at hSw); go_simp <;> with_reducible rfl
    try simp only [Act.put, List.setIfInBounds_toArray, List.set_cons_zero, List.set_cons_succ]
    refine takeA (i := 9) (v := ?_) rfl (by kernel_rfl) (by kernel_rfl) (by kernel_rfl) (fun _ _ _ h => h) (by rfl) (by assumption) ?_ ?_
    rotate_left
    · intro w hSw; (try dsimp only at hSw); go_simp <;> with_reducible rfl
    try simp only [Act.put, List.setIfInBounds_toArray, List.set_cons_zero, List.set_cons_succ]
    refine wpAnyH_done (by kernel_rfl) ?_ _
    clear hS3
    obtain ⟨x0, x1, x2⟩ := bk3 B3.one
    have hr1 : (0 : Int) < (nr0 : Int) := by omega
    go_wp2_with fail
    refine (qone_any w3).mono ?_
    rintro e wy ⟨hb4, x4, rfl, hx4⟩
    obtain ⟨A6, l6, c6, rfl⟩ := hx4.form
    have By := B3.next hb4
    have hq4 := hq.next hb4
    clear x0 x1 x2 B3 hb4 hq
    go_wp2_with fail
    refine (nadd_any q0 1 _ _ wy hq4 hx4 (by omega) (by rw [limbs_one]; decide)).mono ?_
    rintro e wz ⟨hb5, x5, rfl, hx5⟩
    obtain ⟨A7, l7, c7, rfl⟩ := hx5.form
    have Bz := By.next hb5
    clear By hb5 hq4 hx4
    obtain ⟨x0, x1, x2⟩ := bk3 Bz.one
    go_wp2_with fail
    refine wp_region_held_drew (S := fun Y => (Y.cell? ⟨w.heap.size, 0, none⟩ = some (.bool true) ∧ Y.cell? ⟨w.heap.size, 1, none⟩ = some (.slice A1 l1 c1)) ∧ Y.cell? ⟨w.heap.size, 2, none⟩ = some (.slice A2 l2 c2)) (by kernel_rfl) ⟨⟨x0, x1⟩, x2⟩ (fun hS0 => ?_)
    clear x0 x1 x2
    have B5 := Bz.drew
    have hq5 : IsN wz.drew wz.drew.heap.size .u64 (.slice A7 l7 c7) (q0 + 1) := hx5
    clear Bz hx5
    generalize wz.drew = w5 at *
    refine takeA (i := 0) (v := ?_) rfl (by kernel_rfl) (by kernel_rfl) (by kernel_rfl) (fun _ _ _ h => h) (by rfl) (by assumption) ?_ ?_
    rotate_left
    · intro w hSw; (try dsimp only at hSw); go_simp <;> with_reducible rfl
    try simp only [Act.put, List.setIfInBounds_toArray, List.set_cons_zero, List.set_cons_succ]
    refine takeA (i := 1) (v := ?_) rfl (by kernel_rfl) (by kernel_rfl) (by kernel_rfl) (fun _ _ _ h => h) (by rfl) (by assumption) ?_ ?_
    rotate_left
    · intro w hSw; (try dsimp only at hSw); go_simp <;> with_reducible rfl
    try simp only [Act.put, List.setIfInBounds_toArray, List.set_cons_zero, List.set_cons_succ]
    refine takeA (i := 2) (v := ?_) rfl (by kernel_rfl) (by kernel_rfl) (by kernel_rfl) (fun _ _ _ h => h) (by rfl) (by assumption) ?_ ?_
    rotate_left
    · intro w hSw; (try dsimp only at hSw); go_simp <;> with_reducible rfl
    try simp only [Act.put, List.setIfInBounds_toArray, List.set_cons_zero, List.set_cons_succ]
    refine stepA (i := 3) rfl (by kernel_rfl) (fun K0 hK0 => ?_)
    go_simp
    refine (qone_any w5).mono ?_
    rintro e w6 ⟨hbx, x6, rfl, h6⟩
    obtain ⟨Aa, la, ca, rfl⟩ := h6.form
    have B6 := B5.next hbx
    have hS6 := C9.out _ B6
    dsimp only
    refine hK0.out _ _ hS6 (fun _ => ?_)
    try simp only [Act.put, List.setIfInBounds_toArray, List.set_cons_zero, List.set_cons_succ]
    have hq6 := hq5.next hbx
    clear hK0 K0 B5 hbx hS0 hq5
    refine stepA (i := 4) rfl (by kernel_rfl) (fun K0 hK0 => ?_)
    go_simp
    refine (qmake_any true (q0 + 1) 1 _ _ w6 hq6 h6 (by omega) (by rw [limbs_one]; decide)).mono ?_
    rintro e w7 ⟨hbx, x7, rfl, h7⟩
    obtain ⟨s7, Ab, lb, cb, Ac, lc, cc, rfl⟩ := h7.form
    have B7 := B6.next hbx
    have hS7 := C9.out _ B7
    have hS7c := hS7
    rw [HF.out] at h7
    dsimp only
    refine hK0.out _ _ hS7 (fun _ => ?_)
    try simp only [Act.put, List.setIfInBounds_toArray, List.set_cons_zero, List.set_cons_succ]
    clear hK0 K0 B6 hbx hS6 h6 hq6
    have k3 := B7.two
    have hB := set3_below B7.below (b := w.heap.size + 1) (x := .bool s7) (y := .slice Ab lb cb) (z := .slice Ac lc cc) (by omega)
    have hr3 := (h7.set3 k3 (.bool s7) (.slice Ab lb cb) (.slice Ac lc cc)).more (Nat.le_of_eq (set3_size w7 (w.heap.size + 1) (.bool s7) (.slice Ab lb cb) (.slice Ac lc cc)).symm)
    have f0 := k3.frozen 0
    have f1 := k3.frozen 1
    have f2 := k3.frozen 2
    obtain ⟨e0, e1, e2⟩ := bk3 k3
    have hS10 : (fun Y => (Y.cell? ⟨w.heap.size, 0, none⟩ = some (.bool true) ∧ Y.cell? ⟨w.heap.size, 1, none⟩ = some (.slice A1 l1 c1)) ∧ Y.cell? ⟨w.heap.size, 2, none⟩ = some (.slice A2 l2 c2)) (set3 w7 (w.heap.size + 1) (.bool s7) (.slice Ab lb cb) (.slice Ac lc cc)) := by
      obtain ⟨x0, x1, x2⟩ := bk3 (bk_far3 (b' := w.heap.size + 1) (x := .bool s7) (y := .slice Ab lb cb) (z := .slice Ac lc cc) B7.one (by simp only; omega))
      exact ⟨⟨x0, x1⟩, x2⟩
    refine stepA (i := 5) rfl (by kernel_rfl) (fun K0 hK0 => ?_)
    go_simp
    refine hK0.out _ _ hS10 (fun _ => ?_)
    clear hK0 K0
    try simp only [Act.put, List.setIfInBounds_toArray, List.set_cons_zero, List.set_cons_succ]
    refine wpAnyH_done (by kernel_rfl) ?_ _
    clear k3 h7 B7 C9 hS10 hS7 hS7c
    go_wp2
    refine bodyPost_ret (v := .agg #[.bool s7, .slice Ab lb cb, .slice Ac lc cc]) (by simp [results, Tryz.results146, go_sem, e0, e1, e2]) rfl ?_
    exact ⟨hB, _, rfl, hr3⟩

theorem half_frac : (1 : Rat) / 2 = nr false 1 2 := by decide +kernel
set_option maxRecDepth 100000 in
set_option maxHeartbeats 1600000 in
theorem qhalf_any (w : World) : Calls Tryz.prog 147 #[.int .i64 1, .int .i64 2] w fun e w' => Below w.heap.size w w' ∧ ∃ v, e = .returned v ∧ IsQ w' w'.heap.size v (nr false 1 2) := by
  have B0 : BxW w [(w.heap.size, 74, #[.bool false, .slice none 0 0, .slice none 0 0])] (w.alloc (.cells #[.bool false, .slice none 0 0, .slice none 0 0] 74)) := (BxW.nil w).new _ _
  have I1 := Lib.hid (fun W => intQ_any 1 W (by decide))
  have I2 := Lib.hid (fun W => intQ_any 2 W (by decide))
  have s1 : sz ((1 : Int) : Rat) ≤ 1 := by
    have h : ((1 : Int) : Rat) = nr false 1 1 := by decide +kernel
    rw [h]
    have h1 := sz_nr false 1 1 (by decide)
    have h4 : (limbs 1).length = 1 := by rw [limbs_one]; rfl
    omega
  have s2 : sz ((2 : Int) : Rat) ≤ 1 := by
    have h : ((2 : Int) : Rat) = nr false 2 1 := by decide +kernel
    rw [h]
    have h1 := sz_nr false 2 1 (by decide)
    have h4 : (limbs 1).length = 1 := by rw [limbs_one]; rfl
    have h2 : (limbs 2).length ≤ 1 := limbs_len_le (by rw [B_eq]; omega)
    omega
  have HQ : Hid (((1 : Int) : Rat) / ((2 : Int) : Rat) = nr false 1 2) := by show _ = _; decide +kernel
  generalize ((1 : Int) : Rat) = u1 at *
  generalize ((2 : Int) : Rat) = u2 at *
  generalize nr false 1 2 = HH at *
  go_enter Tryz.func147, Tryz.ntmps147
  go_wp2_with fail
  generalize w.alloc (.cells #[.bool false, .slice none 0 0, .slice none 0 0] 74) = W0 at *
  refine (I1.out W0).mono ?_
  rintro e w1 ⟨hb1, x1, rfl, h1⟩
  obtain ⟨q1, A1, l1, c1, A2, l2, c2, rfl⟩ := h1.form
  have B1 := B0.next hb1
  clear B0 hb1
  go_wp2_with fail
  refine (I2.out w1).mono ?_
  rintro e w2 ⟨hb2, x2, rfl, h2⟩
  obtain ⟨q2, A3, l3, c3, A4, l4, c4, rfl⟩ := h2.form
  have B2 := B1.next hb2
  have h1' := h1.next hb2
  clear B1 hb2 h1
  go_wp2_with fail
  refine (qquot_any u1 u2 _ _ w2 h1' h2 (by omega) (by omega)).mono ?_
  rintro e w7 ⟨hb7, x7, rfl, h7⟩
  rw [HQ.out] at h7
  obtain ⟨s7, Ab, lb, cb, Ac, lc, cc, rfl⟩ := h7.form
  have B7 := B2.next hb7
  have k3 := B7.one
  have hB := set3_below B7.below (b := w.heap.size) (x := .bool s7) (y := .slice Ab lb cb) (z := .slice Ac lc cc) (by omega)
  have hr3 := (h7.set3 k3 (.bool s7) (.slice Ab lb cb) (.slice Ac lc cc)).more (Nat.le_of_eq (set3_size w7 w.heap.size (.bool s7) (.slice Ab lb cb) (.slice Ac lc cc)).symm)
  have f0 := k3.frozen 0
  have f1 := k3.frozen 1
  have f2 := k3.frozen 2
  obtain ⟨e0, e1, e2⟩ := bk3 k3
  clear k3 h7 B7 B2 hb7 h1' h2 I1 I2
  go_wp2
  refine bodyPost_ret (v := .agg #[.bool s7, .slice Ab lb cb, .slice Ac lc cc]) (by simp [results, Tryz.results147, go_sem, e0, e1, e2]) rfl ?_
  exact ⟨hB, _, rfl, hr3⟩

set_option maxRecDepth 100000 in
set_option maxHeartbeats 3200000 in
theorem qrounded_any (p q : Rat) (u v : Value) (w : World) (hu : IsQ w w.heap.size u p) (hv : IsQ w w.heap.size v q) (hq0 : q ≠ 0) (hp : sz p ≤ 200) (hq : sz q ≤ 200) :
    Calls Tryz.prog 90 #[u, v] w fun e w' => Below w.heap.size w w' ∧ ∃ v, e = .returned v ∧ IsQ w' w'.heap.size v (rdQ p q) := by
  obtain ⟨s1, A1, l1, c1, A2, l2, c2, rfl⟩ := hu.form
  obtain ⟨s2, A3, l3, c3, A4, l4, c4, rfl⟩ := hv.form
  have B0 := BxW.start3 w 74 74 74 #[.bool s1, .slice A1 l1 c1, .slice A2 l2 c2] #[.bool s2, .slice A3 l3 c3, .slice A4 l4 c4] #[.bool false, .slice none 0 0, .slice none 0 0]
  have HU := Lib.hid (fun W (hW : Below w.heap.size w W) => hu.next hW)
  have HV := Lib.hid (fun W (hW : Below w.heap.size w W) => hv.next hW)
  have HH0 := Lib.hid (fun W => qhalf_any W)
  have hsd := sz_div p q hq0
  have hsa := sz_add (p / q) (nr false 1 2)
  have hsh := sz_half
  have hsf := sz_fl (p / q + nr false 1 2)
  have HRD : Hid (rdQ p q = flQ (p / q + nr false 1 2) * q) := rfl
  clear hu hv
  generalize rdQ p q = z at *
  generalize nr false 1 2 = H at *
  obtain ⟨g0, g1, g2⟩ := bk3 B0.one
  obtain ⟨x0, x1, x2⟩ := bk3 B0.two
  have C9 := Lib.hid (fun W (h : BxW w [(w.heap.size, 74, #[.bool s1, .slice A1 l1 c1, .slice A2 l2 c2]), (w.heap.size + 1, 74, #[.bool s2, .slice A3 l3 c3, .slice A4 l4 c4]), (w.heap.size + 2, 74, #[.bool false, .slice none 0 0, .slice none 0 0])] W) => show (fun Y => ((Y.cell? ⟨w.heap.size, 0, none⟩ = some (.bool s1) ∧ Y.cell? ⟨w.heap.size, 1, none⟩ = some (.slice A1 l1 c1)) ∧ Y.cell? ⟨w.heap.size, 2, none⟩ = some (.slice A2 l2 c2)) ∧ ((Y.cell? ⟨w.heap.size + 1, 0, none⟩ = some (.bool s2) ∧ Y.cell? ⟨w.heap.size + 1, 1, none⟩ = some (.slice A3 l3 c3)) ∧ Y.cell? ⟨w.heap.size + 1, 2, none⟩ = some (.slice A4 l4 c4))) W from by
    obtain ⟨g0, g1, g2⟩ := bk3 h.one
    obtain ⟨x0, x1, x2⟩ := bk3 h.two
    exact ⟨⟨⟨g0, g1⟩, g2⟩, ⟨x0, x1⟩, x2⟩)
  go_enter Tryz.func90, Tryz.ntmps90
  go_wp2_with fail
  generalize (((w.alloc (.cells #[.bool s1, .slice A1 l1 c1, .slice A2 l2 c2] 74)).alloc (.cells #[.bool s2, .slice A3 l3 c3, .slice A4 l4 c4] 74)).alloc (.cells #[.bool false, .slice none 0 0, .slice none 0 0] 74)) = W0 at *
  refine wp_region_held_drew (S := fun Y => ((Y.cell? ⟨w.heap.size, 0, none⟩ = some (.bool s1) ∧ Y.cell? ⟨w.heap.size, 1, none⟩ = some (.slice A1 l1 c1)) ∧ Y.cell? ⟨w.heap.size, 2, none⟩ = some (.slice A2 l2 c2)) ∧ ((Y.cell? ⟨w.heap.size + 1, 0, none⟩ = some (.bool s2) ∧ Y.cell? ⟨w.heap.size + 1, 1, none⟩ = some (.slice A3 l3 c3)) ∧ Y.cell? ⟨w.heap.size + 1, 2, none⟩ = some (.slice A4 l4 c4))) (by kernel_rfl) ⟨⟨⟨g0, g1⟩, g2⟩, ⟨x0, x1⟩, x2⟩ (fun hS0 => ?_)
  clear g0 g1 g2 x0 x1 x2
  have B5 := B0.drew
  clear B0
  generalize W0.drew = w5 at *
  refine takeA (i := 0) (v := ?_) rfl (by kernel_rfl) (by kernel_rfl) (by kernel_rfl) (fun _ _ _ h => h) (by rfl) (by assumption) ?_ ?_
  rotate_left
  · intro w hSw; (try dsimp only at hSw); go_simp <;> with_reducible rfl
  try simp only [Act.put, List.setIfInBounds_toArray, List.set_cons_zero, List.set_cons_succ]
  refine takeA (i := 1) (v := ?_) rfl (by kernel_rfl) (by kernel_rfl) (by kernel_rfl) (fun _ _ _ h => h) (by rfl) (by assumption) ?_ ?_
  rotate_left
  · intro w hSw; (try dsimp only at hSw); go_simp <;> with_reducible rfl
  try simp only [Act.put, List.setIfInBounds_toArray, List.set_cons_zero, List.set_cons_succ]
  refine takeA (i := 6) (v := ?_) rfl (by kernel_rfl) (by kernel_rfl) (by kernel_rfl) (fun _ _ _ h => h) (by rfl) (by assumption) ?_ ?_
  rotate_left
  · intro w hSw; (try dsimp only at hSw); go_simp <;> with_reducible rfl
  try simp only [Act.put, List.setIfInBounds_toArray, List.set_cons_zero, List.set_cons_succ]
  refine stepA (i := 2) rfl (by kernel_rfl) (fun K0 hK0 => ?_)
  go_simp
  refine (qquot_any p q _ _ w5 (HU.out _ B5.below) (HV.out _ B5.below) (by omega) (by omega)).mono ?_
  rintro e w6 ⟨hbx, x6, rfl, h6⟩
  obtain ⟨s6, Aa, la, ca, Ab, lb, cb, rfl⟩ := h6.form
  have B6 := B5.next hbx
  have hS6 := C9.out _ B6
  dsimp only
  refine hK0.out _ _ hS6 (fun _ => ?_)
  try simp only [Act.put, List.setIfInBounds_toArray, List.set_cons_zero, List.set_cons_succ]
  clear hK0 K0 B5 hbx hS0
  refine stepA (i := 3) rfl (by kernel_rfl) (fun K0 hK0 => ?_)
  go_simp
  refine (HH0.out w6).mono ?_
  rintro e w7 ⟨hbx, x7, rfl, h7⟩
  obtain ⟨s7, Ac, lc, cc, Ad, ld, cd, rfl⟩ := h7.form
  have B7 := B6.next hbx
  have hS7 := C9.out _ B7
  have h6b := h6.next hbx
  dsimp only
  refine hK0.out _ _ hS7 (fun _ => ?_)
  try simp only [Act.put, List.setIfInBounds_toArray, List.set_cons_zero, List.set_cons_succ]
  clear hK0 K0 B6 hbx hS6 h6
  refine stepA (i := 4) rfl (by kernel_rfl) (fun K0 hK0 => ?_)
  go_simp
  refine (qplus_any (p / q) H _ _ w7 h6b h7 (by omega) (by omega)).mono ?_
  rintro e w8 ⟨hbx, x8, rfl, h8⟩
  obtain ⟨s8, Ae, le, ce, Af, lf, cf, rfl⟩ := h8.form
  have B8 := B7.next hbx
  have hS8 := C9.out _ B8
  dsimp only
  refine hK0.out _ _ hS8 (fun _ => ?_)
  try simp only [Act.put, List.setIfInBounds_toArray, List.set_cons_zero, List.set_cons_succ]
  clear hK0 K0 B7 hbx hS7 h7 h6b
  refine stepA (i := 5) rfl (by kernel_rfl) (fun K0 hK0 => ?_)
  go_simp
  refine (qbot_any (p / q + H) _ w8 h8 (by omega)).mono ?_
  rintro e w9 ⟨hbx, x9, rfl, h9⟩
  obtain ⟨s9, Ag, lg, cg, Ai, li, ci, rfl⟩ := h9.form
  have B9 := B8.next hbx
  have hS9 := C9.out _ B9
  dsimp only
  refine hK0.out _ _ hS9 (fun _ => ?_)
  try simp only [Act.put, List.setIfInBounds_toArray, List.set_cons_zero, List.set_cons_succ]
  clear hK0 K0 B8 hbx hS8 h8
  refine stepA (i := 7) rfl (by kernel_rfl) (fun K0 hK0 => ?_)
  go_simp
  refine (qprod_any (flQ (p / q + H)) q _ _ w9 h9 (HV.out _ B9.below) (by omega) (by omega)).mono ?_
  rintro e w10 ⟨hbx, x10, rfl, h10⟩
  obtain ⟨sa, Aj, lj, cj, Ak, lk, ck, rfl⟩ := h10.form
  have B10 := B9.next hbx
  have hS10 := C9.out _ B10
  dsimp only
  refine hK0.out _ _ hS10 (fun _ => ?_)
  try simp only [Act.put, List.setIfInBounds_toArray, List.set_cons_zero, List.set_cons_succ]
  clear hK0 K0 B9 hbx hS9 h9
  rw [← HRD.out] at h10
  have k3 := B10.three
  have hB := set3_below B10.below (b := w.heap.size + 2) (x := .bool sa) (y := .slice Aj lj cj) (z := .slice Ak lk ck) (by omega)
  have hr3 := (h10.set3 k3 (.bool sa) (.slice Aj lj cj) (.slice Ak lk ck)).more (Nat.le_of_eq (set3_size w10 (w.heap.size + 2) (.bool sa) (.slice Aj lj cj) (.slice Ak lk ck)).symm)
  have f0 := k3.frozen 0
  have f1 := k3.frozen 1
  have f2 := k3.frozen 2
  obtain ⟨e0, e1, e2⟩ := bk3 k3
  have hS11 : (fun Y => ((Y.cell? ⟨w.heap.size, 0, none⟩ = some (.bool s1) ∧ Y.cell? ⟨w.heap.size, 1, none⟩ = some (.slice A1 l1 c1)) ∧ Y.cell? ⟨w.heap.size, 2, none⟩ = some (.slice A2 l2 c2)) ∧ ((Y.cell? ⟨w.heap.size + 1, 0, none⟩ = some (.bool s2) ∧ Y.cell? ⟨w.heap.size + 1, 1, none⟩ = some (.slice A3 l3 c3)) ∧ Y.cell? ⟨w.heap.size + 1, 2, none⟩ = some (.slice A4 l4 c4))) (set3 w10 (w.heap.size + 2) (.bool sa) (.slice Aj lj cj) (.slice Ak lk ck)) := by
    obtain ⟨g0, g1, g2⟩ := bk3 (bk_far3 (b' := w.heap.size + 2) (x := .bool sa) (y := .slice Aj lj cj) (z := .slice Ak lk ck) B10.one (by simp only; omega))
    obtain ⟨x0, x1, x2⟩ := bk3 (bk_far3 (b' := w.heap.size + 2) (x := .bool sa) (y := .slice Aj lj cj) (z := .slice Ak lk ck) B10.two (by simp only; omega))
    exact ⟨⟨⟨g0, g1⟩, g2⟩, ⟨x0, x1⟩, x2⟩
  refine stepA (i := 8) rfl (by kernel_rfl) (fun K0 hK0 => ?_)
  go_simp
  refine hK0.out _ _ hS11 (fun _ => ?_)
  clear hK0 K0
  try simp only [Act.put, List.setIfInBounds_toArray, List.set_cons_zero, List.set_cons_succ]
  refine wpAnyH_done (by kernel_rfl) ?_ _
  clear k3 h10 B10 C9 hS10 hS11 HU HV HH0 HRD
  go_wp2
  refine bodyPost_ret (v := .agg #[.bool sa, .slice Aj lj cj, .slice Ak lk ck]) (by simp [results, Tryz.results90, go_sem, e0, e1, e2]) rfl ?_
  exact ⟨hB, _, rfl, hr3⟩

set_option maxRecDepth 100000 in
set_option maxHeartbeats 3200000 in
theorem rround_any (s t : ByteArray) (w : World) (hs : s.size ≤ 4000000) (ht : t.size ≤ 4000000) :
    Calls Tryz.prog 47 #[.string s, .string t] w fun e w' => Below w.heap.size w w' ∧ e = .returned (.string (rndV s t)) := by
  obtain ⟨q, hq⟩ : ∃ q, (numB s && numB t) = q := ⟨_, rfl⟩
  have TW := rtwo_any s t w hs ht
  rw [hq] at TW
  have HR : Hid (rndV s t = if q = true then (if decide (0 < textRat t.data.toList) = true then putT (rdQ (textRat s.data.toList) (textRat t.data.toList)) else ⟨#[]⟩) else ⟨#[]⟩) := by show _ = _; unfold rndV; rw [hq]
  have HQ := Lib.hid hq
  generalize rndV s t = R at *
  clear hq
  go_enter Tryz.func47, Tryz.ntmps47
  go_wp2_with fail
  refine TW.mono ?_
  rintro e w2 ⟨hb2, gv, xv, rfl, ⟨⟨p0, hp0⟩, hg⟩, ⟨p1, hp1⟩, hx⟩
  obtain ⟨gb, gA, gn, gc, gA', gn', gc', rfl⟩ := hp0.form
  obtain ⟨xb, xA, xn, xc, xA', xn', xc', rfl⟩ := hp1.form
  have hA := (below_alloc w2 (.cells #[.bool gb, .slice gA gn gc, .slice gA' gn' gc'] 74)).alloc (by simp) (.cells #[.bool xb, .slice xA xn xc, .slice xA' xn' xc'] 74)
  have hB := hb2.trans (hA.mono hb2.size)
  have kg := (Bk.new w2 74 #[Value.bool gb, .slice gA gn gc, .slice gA' gn' gc']).alloc (.cells #[.bool xb, .slice xA xn xc, .slice xA' xn' xc'] 74)
  have kx := Bk.new2 w2 (.cells #[.bool gb, .slice gA gn gc, .slice gA' gn' gc'] 74) 74 #[Value.bool xb, .slice xA xn xc, .slice xA' xn' xc']
  cases q
  · have e0 := HR.out
    rw [if_neg (by decide)] at e0
    subst e0
    clear TW hp0 hp1 hg hx kg kx HQ hA HR
    go_wp2
    go_ret
    exact ⟨hB, rfl⟩
  have e0 := HR.out
  rw [if_pos rfl] at e0
  obtain ⟨h1, h2⟩ := Bool.and_eq_true_iff.1 HQ.out
  have ss := num_sz h1
  have st := num_sz h2
  have SG := Lib.hid (qsgn_any _ _ _ ((hx h2).next hA) (by omega))
  have HG := Lib.hid ((hg h1).next hA)
  have HX := Lib.hid ((hx h2).next hA)
  have hsz0 : (w2.alloc (.cells #[.bool gb, .slice gA gn gc, .slice gA' gn' gc'] 74)).heap.size = w2.heap.size + 1 := by simp
  obtain ⟨g0, g1, g2⟩ := bk3 kg
  obtain ⟨x0, x1, x2⟩ := bk3 kx
  clear TW hp0 hp1 hg hx hA HQ HR h1 h2 hsz0
  have hsg : sgQ (textRat t.data.toList) ≤ 0 ↔ ¬ 0 < textRat t.data.toList := by
    generalize textRat t.data.toList = q
    unfold sgQ
    split
    · rename_i h; subst h; simp
    · split
      · rename_i h1 h2; exact ⟨fun _ h => by grind, fun _ => by omega⟩
      · rename_i h1 h2; exact ⟨fun h => by omega, fun h => by grind⟩
  go_wp2_with fail
  generalize ((w2.alloc (.cells #[.bool gb, .slice gA gn gc, .slice gA' gn' gc'] 74)).alloc (.cells #[.bool xb, .slice xA xn xc, .slice xA' xn' xc'] 74)) = W2 at *
  generalize w2.heap.size = b2 at *
  refine SG.out.mono ?_
  rintro e w3 ⟨hb3, rfl⟩
  have hB3 := hB.trans (hb3.mono hB.size)
  by_cases hz : 0 < textRat t.data.toList
  rotate_left
  · have hsg' : sgQ (textRat t.data.toList) ≤ 0 := hsg.2 hz
    rw [if_neg (by simp [hz])] at e0
    subst e0
    clear hsg hz
    generalize sgQ (textRat t.data.toList) = sg at *
    clear g0 g1 g2 x0 x1 x2 kg kx SG HG HX hB
    go_wp2
    go_ret
    exact ⟨hB3, rfl⟩
  have hsg' : ¬ sgQ (textRat t.data.toList) ≤ 0 := fun h => hsg.1 h hz
  rw [if_pos (by simp [hz])] at e0
  subst e0
  have hzz : textRat t.data.toList ≠ 0 := by grind
  have hsd := sz_rd (textRat s.data.toList) (textRat t.data.toList) hzz
  have CC := Lib.hid (qrounded_any _ _ _ _ w3 (HG.out.next hb3) (HX.out.next hb3) hzz ss st)
  have kg3 := kg.next' hb3
  have kx3 := kx.next' hb3
  clear g0 g1 g2 x0 x1 x2 kg kx SG HG HX hB hb3 hsg hz hzz
  obtain ⟨g0, g1, g2⟩ := bk3 kg3
  obtain ⟨x0, x1, x2⟩ := bk3 kx3
  generalize sgQ (textRat t.data.toList) = sg at *
  go_wp2_with fail
  refine CC.out.mono ?_
  rintro e w4 ⟨hb4, v, rfl, hv⟩
  have hB4 := hB3.trans (hb4.mono hB3.size)
  clear g0 g1 g2 x0 x1 x2 hb4 hB3 kg3 kx3
  go_wp2_with fail
  refine (rput_any _ _ w4 hv (by omega)).mono ?_
  rintro e w5 ⟨hb5, rfl⟩
  go_wp2
  go_ret
  exact ⟨hB4.trans (hb5.mono hB4.size), rfl⟩
end Go.Proofs.YtpkhgdnkkdhlcaaGreatDoor

namespace Go.Proofs.YtpkhgdnkkdhlcaaGreatDoor
open Go.RowKit Ar

theorem Tryz.rstr_info : (Tryz.prog.info? 9).map (fun i => (i.zero, i.size, i.bytes)) = some (some (.string ⟨#[]⟩), 1, 16) := by kernel_rfl
theorem putT_size (q : Rat) : (putT q).size ≤ 82 := by
  unfold putT
  split
  · rename_i h
    have := isNum_len ((isNum_text q).2 h)
    show (ratText q).toArray.size ≤ 82
    simpa using this
  · decide
theorem rndV_size (s t : ByteArray) : (rndV s t).size ≤ 82 := by
  unfold rndV
  split
  · split
    · exact putT_size _
    · decide
  · decide
theorem num_ne {s : ByteArray} (h : numB s = true) : s.toList ≠ [] := fun e => by
  rw [bs_toList] at e
  have h1 := ratText_textRat ((numB_iff s).1 h).1
  rw [e] at h1
  unfold ratText at h1
  exact decDigits_ne _ (List.append_eq_nil_iff.1 (List.append_eq_nil_iff.1 h1).2).1
theorem rndV_emp {s t : ByteArray} (h : s.toList.isEmpty = true) : rndV s t = ⟨#[]⟩ := by
  have hn : numB s = false := by
    cases hb : numB s
    · rfl
    · exact absurd (List.isEmpty_iff.1 h) (num_ne hb)
  unfold rndV
  rw [hn]
  rfl
/-- A value can be rounded. -/
noncomputable def rok (k : Int) (st s : ByteArray) : Bool := s.toList.isEmpty || (!(rndV s st).toList.isEmpty && fitK k (rndV s st))
noncomputable def rndE (k : Int) (L : List ByteArray) (st : ByteArray) : Int := if (typB k && posT st) = true then (if accE k L = 0 then (if L.all (rok k st) = true then 0 else 41) else accE k L) else 2
noncomputable def rndL (k : Int) (L : List ByteArray) (st : ByteArray) : List ByteArray := if rndE k L st = 0 then L.map (fun s => rndV s st) else []
theorem rnd_arg {k : Int} {L : List ByteArray} {st : ByteArray} (h : (typB k && posT st) = false) : rndE k L st = 2 ∧ rndL k L st = [] := by
  have e : rndE k L st = 2 := by unfold rndE; rw [if_neg (by rw [h]; decide)]
  exact ⟨e, by unfold rndL; rw [e, if_neg (by decide)]⟩
theorem rnd_acc {k : Int} {L : List ByteArray} {st : ByteArray} (h : (typB k && posT st) = true) (h2 : accE k L ≠ 0) : rndE k L st = accE k L ∧ rndL k L st = [] := by
  have e : rndE k L st = accE k L := by unfold rndE; rw [if_pos h, if_neg h2]
  exact ⟨e, by unfold rndL; rw [e, if_neg h2]⟩
theorem rnd_bad {k : Int} {L : List ByteArray} {st : ByteArray} (h : (typB k && posT st) = true) (h2 : accE k L = 0) (h3 : L.all (rok k st) = false) : rndE k L st = 41 ∧ rndL k L st = [] := by
  have e : rndE k L st = 41 := by unfold rndE; rw [if_pos h, if_pos h2, if_neg (by rw [h3]; decide)]
  exact ⟨e, by unfold rndL; rw [e, if_neg (by decide)]⟩
theorem rnd_ok {k : Int} {L : List ByteArray} {st : ByteArray} (h : (typB k && posT st) = true) (h2 : accE k L = 0) (h3 : L.all (rok k st) = true) : rndE k L st = 0 ∧ rndL k L st = L.map (fun s => rndV s st) := by
  have e : rndE k L st = 0 := by unfold rndE; rw [if_pos h, if_pos h2, if_pos h3]
  exact ⟨e, by unfold rndL; rw [e, if_pos rfl]⟩
set_option maxRecDepth 100000 in
set_option maxHeartbeats 6400000 in
theorem prounded_any (k : Int) (A : Option Addr) (c : Nat) (L : List ByteArray) (st : ByteArray) (w : World) (h : Rd w w.heap.size A (strs L)) (hL : L.length ≤ 1000000) (hs : ∀ s ∈ L, s.size ≤ 4000000) (ht : st.size ≤ 4000000) (he : Env w) (her : EnvR w) (hg : EnvG w) :
    Calls Tryz.prog 17 #[.int .i64 k, .slice A L.length c, .string st] w fun e w' => Below w.heap.size w w' ∧ ∃ v, e = .returned (.tuple #[v, .int .i64 (rndE k L st)]) ∧ IsT w' w'.heap.size v (rndL k L st) := by
  obtain ⟨i0, hi0, hz0, hz1, hz2⟩ := info_parts Tryz.rstr_info
  have TY := Lib.hid (ptyped_any k)
  have PO := Lib.hid (fun W (hW : Below w.heap.size w W) => ppos_any st W ht (he.next hW))
  have AC := Lib.hid (fun W (hW : Below w.heap.size w W) => accepted_any k A c L W ((h.below hW).more hW.size) hL hs (he.next hW) (hg.next hW))
  have RN := Lib.hid (fun s (hm : s ∈ L) W (hW : Below w.heap.size w W) => pround_any s st W (hs s hm) ht (he.next hW) (her.next hW))
  have FT := Lib.hid (fun s W (hW : Below w.heap.size w W) => pfits_any k (rndV s st) W (by have := rndV_size s st; omega) (he.next hW) (hg.next hW))
  have VE := Lib.hid (fun (s : ByteArray) (h : s.toList.isEmpty = true) => rndV_emp (t := st) h)
  clear he her hg
  clear hs ht
  cases hq1 : typB k
  · obtain ⟨e1, e2⟩ := rnd_arg (k := k) (L := L) (st := st) (by rw [hq1]; rfl)
    rw [e1, e2]
    rw [hq1] at TY
    clear e1 e2 hq1 h PO AC RN FT
    go_enter Tryz.func17, Tryz.ntmps17
    go_wp2_with fail
    refine (TY.out _).mono ?_
    rintro e w1 ⟨rfl, rfl⟩
    go_wp2
    go_ret2
    exact ⟨Below.refl _ _, _, rfl, IsT.nil _ _⟩
  cases hq2 : posT st
  · obtain ⟨e1, e2⟩ := rnd_arg (k := k) (L := L) (st := st) (by rw [hq1, hq2]; rfl)
    rw [e1, e2]
    rw [hq1] at TY
    rw [hq2] at PO
    clear e1 e2 hq1 hq2 h AC RN FT
    go_enter Tryz.func17, Tryz.ntmps17
    go_wp2_with fail
    refine (TY.out _).mono ?_
    rintro e w1 ⟨rfl, rfl⟩
    go_wp2_with fail
    refine (PO.out w (Below.refl _ _)).mono ?_
    rintro e w1 ⟨hb1, rfl⟩
    go_wp2
    go_ret2
    exact ⟨hb1, _, rfl, IsT.nil _ _⟩
  have hT : (typB k && posT st) = true := by rw [hq1, hq2]; rfl
  rw [hq1] at TY
  rw [hq2] at PO
  by_cases ha : accE k L = 0
  rotate_left
  · obtain ⟨e1, e2⟩ := rnd_acc (st := st) hT ha
    rw [e1, e2]
    clear e1 e2 hq1 hq2 h RN FT hT
    generalize accE k L = g at *
    have hg' : (g != 0) = true := by simp [ha]
    go_enter Tryz.func17, Tryz.ntmps17
    go_wp2_with fail
    refine (TY.out _).mono ?_
    rintro e w1 ⟨rfl, rfl⟩
    go_wp2_with fail
    refine (PO.out w (Below.refl _ _)).mono ?_
    rintro e w1 ⟨hb1, rfl⟩
    go_wp2_with fail
    refine (AC.out w1 hb1).mono ?_
    rintro e w2 ⟨hb2, rfl⟩
    go_wp2
    go_ret2
    exact ⟨hb1.trans (hb2.mono hb1.size), _, rfl, IsT.nil _ _⟩
  rw [ha] at AC
  have hfe : fitK k ⟨#[]⟩ = true := fitK_emp hq1 (by rw [bs_toList]; rfl)
  obtain ⟨RE, hRE⟩ : ∃ r, rndE k L st = r := ⟨_, rfl⟩
  obtain ⟨RL, hRL⟩ : ∃ r, rndL k L st = r := ⟨_, rfl⟩
  have HBAD := Lib.hid (fun s (hm : s ∈ L) (hb : rok k st s = false) => show RE = 41 ∧ RL = [] from by
    rw [← hRE, ← hRL]
    refine rnd_bad hT ha ?_
    rw [List.all_eq_false]
    exact ⟨s, hm, by rw [hb]; exact Bool.false_ne_true⟩)
  have HOK := Lib.hid (fun (hb : (L.take L.length).all (rok k st) = true) => show RE = 0 ∧ RL = (L.take L.length).map (fun s => rndV s st) from by
    rw [← hRE, ← hRL]
    rw [List.take_length] at hb ⊢
    exact rnd_ok hT ha hb)
  rw [hRE, hRL]
  clear hRE hRL hT ha hq1 hq2
  have HFE := Lib.hid hfe
  clear hfe
  go_enter Tryz.func17, Tryz.ntmps17
  go_wp2_with fail
  refine (TY.out _).mono ?_
  rintro e w1 ⟨rfl, rfl⟩
  go_wp2_with fail
  refine (PO.out w (Below.refl _ _)).mono ?_
  rintro e w1 ⟨hb1, rfl⟩
  go_wp2_with fail
  refine (AC.out w1 hb1).mono ?_
  rintro e w2 ⟨hb2, rfl⟩
  have hB2 := hb1.trans (hb2.mono hb1.size)
  clear hb1 hb2 TY PO AC
  go_wp2_with fail
  go_loopw [9, 29] (fun v i wr => ∃ j : Nat, j ≤ L.length ∧ i = .int .i64 j ∧ wr.ownsRow w2.heap.size 9 1 v j (strs ((L.take j).map (fun s => rndV s st))) ∧ Below w2.heap.size w2 wr ∧ Hid ((L.take j).all (rok k st) = true)) (fun _ i _ => L.length - (intOf i).toNat)
  case atStart => exact ⟨0, Nat.zero_le _, rfl, World.ownsRow_nil _ _ _ _, Below.refl _ _, rfl⟩
  case round =>
    obtain ⟨j, hj, rfl, hO, hC, HN⟩ := hrel
    have hB := hB2.trans (hC.mono hB2.size)
    by_cases hlt : j < L.length
    · obtain ⟨ad, rfl, hab, hcell⟩ := (h.below hB).str hlt
      have hmem : L[j] ∈ L := List.getElem_mem _
      have HAL : Hid (rok k st L[j] = true → (L.take (j + 1)).all (rok k st) = true) := fun e => by
        rw [List.take_succ_eq_append_getElem hlt, List.all_append, HN.out]; simp [e]
      have HMP : Hid ((L.take (j + 1)).map (fun s => rndV s st) = (L.take j).map (fun s => rndV s st) ++ [rndV L[j] st]) := by
        show _ = _
        rw [List.take_succ_eq_append_getElem hlt, List.map_append]; rfl
      have HF := Lib.hid (HBAD.out L[j] hmem)
      have RJ := Lib.hid (RN.out L[j] hmem)
      have FJ := Lib.hid (FT.out L[j])
      have VJ := Lib.hid (VE.out L[j])
      have HROK : Hid (rok k st L[j] = (L[j].toList.isEmpty || (!(rndV L[j] st).toList.isEmpty && fitK k (rndV L[j] st)))) := rfl
      have b1 : (0 : Int) ≤ (j : Int) := by omega
      have b2 : (j : Int) < (L.length : Int) := by omega
      obtain ⟨uA, uc, rfl, -⟩ := own_slice hO
      have hj6 : j ≤ 1000000 := by omega
      clear hmem RN FT HBAD HOK HN VE
      generalize L[j] = s at *
      generalize rok k st s = ok at *
      generalize rndV s st = r at *
      go_wp2_with fail
      refine (RJ.out wr hB).mono ?_
      rintro e w3 ⟨hb3, rfl⟩
      have hB3 := hB.trans (hb3.mono hB.size)
      cases hE : s.toList.isEmpty
      · have hn : s.toList ≠ [] := fun e => by rw [e] at hE; cases hE
        cases hr : r.toList.isEmpty
        · have hrn : r.toList ≠ [] := fun e => by rw [e] at hr; cases hr
          have HROK' := HROK.out
          rw [hE, hr] at HROK'
          clear HROK VJ
          go_wp2_with fail
          refine (FJ.out w3 hB3).mono ?_
          rintro e w4 ⟨hb4, rfl⟩
          have hB4 := hB3.trans (hb4.mono hB3.size)
          have hb34 := hb3.trans (hb4.mono hb3.size)
          generalize fitK k r = q at *
          cases q
          · obtain ⟨rfl, rfl⟩ := HF.out (by rw [HROK']; rfl)
            clear hO hC hB HMP HAL
            go_wp2
            go_ret2
            exact ⟨hB4, _, rfl, IsT.nil _ _⟩
          · have HOKJ : Hid (ok = true) := by show _ = _; rw [HROK']; rfl
            clear HROK' HF FJ RJ hb3 hb4 hB3
            have HOA := Lib.hid ((own_next hO hb34).alloc (.cells #[.string r] 9))
            have hC3 := hC.trans (hb34.mono hC.size)
            clear hO hC hB
            go_wp2_with (at_builtin; go_loud (have hz := hC3.size; refine wpL_append _ rfl (.tmp 47) (.tmp 49) _ rfl w2.heap.size 9 i0 _ 1 16 Tryz.underlying22 hi0 hz0 hz1 hz2 rfl (by omega) _ j _ rfl HOA.out _ 1 1 [.string r] rfl rfl (Rd.of_new w4 [.string r] 9) (strs_one [r]) (by unfold maxLen; omega) (by omega) (by simp only [World.size_alloc]; omega) ?_; intro v1 w7 hown2 hg1 hat1; have hB7 := below_app (hC3.alloc hz _) hg1 (by simp only [World.size_alloc]; omega) HOA.out (Nat.le_refl _); clear hg1 hat1))
            have HO2 : Hid (w7.ownsRow w2.heap.size 9 1 v1 (j + 1) (strs ((L.take (j + 1)).map (fun s => rndV s st)))) := by
              show w7.ownsRow _ _ _ _ _ _
              rw [HMP.out, strs_app]; exact hown2
            have HA2 := Lib.hid (HAL.out HOKJ.out)
            clear hown2 HOA HMP HAL
            go_wp2
            go_roundw
            case rel => exact ⟨j + 1, by omega, by go_num, HO2.out, hB7, HA2.out⟩
            case measure => simp [intOf]; omega
        · have hrn : r.toList = [] := List.isEmpty_iff.1 hr
          have HROK' := HROK.out
          rw [hE, hr] at HROK'
          obtain ⟨rfl, rfl⟩ := HF.out (by rw [HROK']; rfl)
          clear hO hC hB HMP HAL HROK HROK' VJ FJ
          go_wp2
          go_ret2
          exact ⟨hB3, _, rfl, IsT.nil _ _⟩
      · have hn : s.toList = [] := List.isEmpty_iff.1 hE
        have hre := VJ.out hE
        have HROK' := HROK.out
        rw [hE] at HROK'
        have HOKJ : Hid (ok = true) := by show _ = _; rw [HROK']; rfl
        have FJE := FJ.out w3 hB3
        rw [hre, HFE.out] at FJE
        have FJ3 := Lib.hid FJE
        subst hre
        clear VJ HROK HROK' HF FJ RJ FJE
        go_wp2_with fail
        refine FJ3.out.mono ?_
        rintro e w4 ⟨hb4, rfl⟩
        have hB4 := hB3.trans (hb4.mono hB3.size)
        have hb34 := hb3.trans (hb4.mono hb3.size)
        clear hb3 hb4 hB3 FJ3
        have HOA := Lib.hid ((own_next hO hb34).alloc (.cells #[.string ⟨#[]⟩] 9))
        have hC3 := hC.trans (hb34.mono hC.size)
        clear hO hC hB
        go_wp2_with (at_builtin; go_loud (have hz := hC3.size; refine wpL_append _ rfl (.tmp 47) (.tmp 49) _ rfl w2.heap.size 9 i0 _ 1 16 Tryz.underlying22 hi0 hz0 hz1 hz2 rfl (by omega) _ j _ rfl HOA.out _ 1 1 [.string ⟨#[]⟩] rfl rfl (Rd.of_new w4 [.string ⟨#[]⟩] 9) (strs_one [⟨#[]⟩]) (by unfold maxLen; omega) (by omega) (by simp only [World.size_alloc]; omega) ?_; intro v1 w7 hown2 hg1 hat1; have hB7 := below_app (hC3.alloc hz _) hg1 (by simp only [World.size_alloc]; omega) HOA.out (Nat.le_refl _); clear hg1 hat1))
        have HO2 : Hid (w7.ownsRow w2.heap.size 9 1 v1 (j + 1) (strs ((L.take (j + 1)).map (fun s => rndV s st)))) := by
          show w7.ownsRow _ _ _ _ _ _
          rw [HMP.out, strs_app]; exact hown2
        have HA2 := Lib.hid (HAL.out HOKJ.out)
        clear hown2 HOA HMP HAL
        go_wp2
        go_roundw
        case rel => exact ⟨j + 1, by omega, by go_num, HO2.out, hB7, HA2.out⟩
        case measure => simp [intOf]; omega
    · obtain rfl : j = L.length := by omega
      obtain ⟨rfl, rfl⟩ := HOK.out HN.out
      have hT := Lib.hid (IsT.of_own hO)
      clear hO RN FT HBAD HOK VE
      go_wp2
      go_ret2
      exact ⟨hB, _, rfl, hT.out⟩
set_option maxRecDepth 100000 in
set_option maxHeartbeats 6400000 in
theorem rrounded_any (k : Int) (A : Option Addr) (c : Nat) (L : List ByteArray) (st : ByteArray) (w : World) (h : Rd w w.heap.size A (strs L)) (hL : L.length ≤ 1000000) (hs : ∀ s ∈ L, s.size ≤ 4000000) (ht : st.size ≤ 4000000) :
    Calls Tryz.prog 18 #[.int .i64 k, .slice A L.length c, .string st] w fun e w' => Below w.heap.size w w' ∧ ∃ v, e = .returned (.tuple #[v, .int .i64 (rndE k L st)]) ∧ IsT w' w'.heap.size v (rndL k L st) := by
  obtain ⟨i0, hi0, hz0, hz1, hz2⟩ := info_parts Tryz.rstr_info
  have TY := Lib.hid (rtyped_any k)
  have PO := Lib.hid (fun W (hW : Below w.heap.size w W) => rpos_any st W ht)
  have AC := Lib.hid (fun W (hW : Below w.heap.size w W) => unwell_any k A c L W ((h.below hW).more hW.size) hL hs)
  have RN := Lib.hid (fun s (hm : s ∈ L) W (hW : Below w.heap.size w W) => rround_any s st W (hs s hm) ht)
  have FT := Lib.hid (fun s W (hW : Below w.heap.size w W) => rfits_any k (rndV s st) W (by have := rndV_size s st; omega))
  have VE := Lib.hid (fun (s : ByteArray) (h : s.toList.isEmpty = true) => rndV_emp (t := st) h)
  clear hs ht
  cases hq1 : typB k
  · obtain ⟨e1, e2⟩ := rnd_arg (k := k) (L := L) (st := st) (by rw [hq1]; rfl)
    rw [e1, e2]
    rw [hq1] at TY
    clear e1 e2 hq1 h PO AC RN FT
    go_enter Tryz.func18, Tryz.ntmps18
    go_wp2_with fail
    refine (TY.out _).mono ?_
    rintro e w1 ⟨rfl, rfl⟩
    go_wp2
    go_ret2
    exact ⟨Below.refl _ _, _, rfl, IsT.nil _ _⟩
  cases hq2 : posT st
  · obtain ⟨e1, e2⟩ := rnd_arg (k := k) (L := L) (st := st) (by rw [hq1, hq2]; rfl)
    rw [e1, e2]
    rw [hq1] at TY
    rw [hq2] at PO
    clear e1 e2 hq1 hq2 h AC RN FT
    go_enter Tryz.func18, Tryz.ntmps18
    go_wp2_with fail
    refine (TY.out _).mono ?_
    rintro e w1 ⟨rfl, rfl⟩
    go_wp2_with fail
    refine (PO.out w (Below.refl _ _)).mono ?_
    rintro e w1 ⟨hb1, rfl⟩
    go_wp2
    go_ret2
    exact ⟨hb1, _, rfl, IsT.nil _ _⟩
  have hT : (typB k && posT st) = true := by rw [hq1, hq2]; rfl
  rw [hq1] at TY
  rw [hq2] at PO
  by_cases ha : accE k L = 0
  rotate_left
  · obtain ⟨e1, e2⟩ := rnd_acc (st := st) hT ha
    rw [e1, e2]
    clear e1 e2 hq1 hq2 h RN FT hT
    generalize accE k L = g at *
    have hg' : (g != 0) = true := by simp [ha]
    go_enter Tryz.func18, Tryz.ntmps18
    go_wp2_with fail
    refine (TY.out _).mono ?_
    rintro e w1 ⟨rfl, rfl⟩
    go_wp2_with fail
    refine (PO.out w (Below.refl _ _)).mono ?_
    rintro e w1 ⟨hb1, rfl⟩
    go_wp2_with fail
    refine (AC.out w1 hb1).mono ?_
    rintro e w2 ⟨hb2, rfl⟩
    go_wp2
    go_ret2
    exact ⟨hb1.trans (hb2.mono hb1.size), _, rfl, IsT.nil _ _⟩
  rw [ha] at AC
  have hfe : fitK k ⟨#[]⟩ = true := fitK_emp hq1 (by rw [bs_toList]; rfl)
  obtain ⟨RE, hRE⟩ : ∃ r, rndE k L st = r := ⟨_, rfl⟩
  obtain ⟨RL, hRL⟩ : ∃ r, rndL k L st = r := ⟨_, rfl⟩
  have HBAD := Lib.hid (fun s (hm : s ∈ L) (hb : rok k st s = false) => show RE = 41 ∧ RL = [] from by
    rw [← hRE, ← hRL]
    refine rnd_bad hT ha ?_
    rw [List.all_eq_false]
    exact ⟨s, hm, by rw [hb]; exact Bool.false_ne_true⟩)
  have HOK := Lib.hid (fun (hb : (L.take L.length).all (rok k st) = true) => show RE = 0 ∧ RL = (L.take L.length).map (fun s => rndV s st) from by
    rw [← hRE, ← hRL]
    rw [List.take_length] at hb ⊢
    exact rnd_ok hT ha hb)
  rw [hRE, hRL]
  clear hRE hRL hT ha hq1 hq2
  have HFE := Lib.hid hfe
  clear hfe
  go_enter Tryz.func18, Tryz.ntmps18
  go_wp2_with fail
  refine (TY.out _).mono ?_
  rintro e w1 ⟨rfl, rfl⟩
  go_wp2_with fail
  refine (PO.out w (Below.refl _ _)).mono ?_
  rintro e w1 ⟨hb1, rfl⟩
  go_wp2_with fail
  refine (AC.out w1 hb1).mono ?_
  rintro e w2 ⟨hb2, rfl⟩
  have hB2 := hb1.trans (hb2.mono hb1.size)
  clear hb1 hb2 TY PO AC
  go_wp2_with fail
  go_loopw [9, 10] (fun v i wr => ∃ j : Nat, j ≤ L.length ∧ i = .int .i64 j ∧ wr.ownsRow w2.heap.size 9 1 v j (strs ((L.take j).map (fun s => rndV s st))) ∧ Below w2.heap.size w2 wr ∧ Hid ((L.take j).all (rok k st) = true)) (fun _ i _ => L.length - (intOf i).toNat)
  case atStart => exact ⟨0, Nat.zero_le _, rfl, World.ownsRow_nil _ _ _ _, Below.refl _ _, rfl⟩
  case round =>
    obtain ⟨j, hj, rfl, hO, hC, HN⟩ := hrel
    have hB := hB2.trans (hC.mono hB2.size)
    by_cases hlt : j < L.length
    · obtain ⟨ad, rfl, hab, hcell⟩ := (h.below hB).str hlt
      have hmem : L[j] ∈ L := List.getElem_mem _
      have HAL : Hid (rok k st L[j] = true → (L.take (j + 1)).all (rok k st) = true) := fun e => by
        rw [List.take_succ_eq_append_getElem hlt, List.all_append, HN.out]; simp [e]
      have HMP : Hid ((L.take (j + 1)).map (fun s => rndV s st) = (L.take j).map (fun s => rndV s st) ++ [rndV L[j] st]) := by
        show _ = _
        rw [List.take_succ_eq_append_getElem hlt, List.map_append]; rfl
      have HF := Lib.hid (HBAD.out L[j] hmem)
      have RJ := Lib.hid (RN.out L[j] hmem)
      have FJ := Lib.hid (FT.out L[j])
      have VJ := Lib.hid (VE.out L[j])
      have HROK : Hid (rok k st L[j] = (L[j].toList.isEmpty || (!(rndV L[j] st).toList.isEmpty && fitK k (rndV L[j] st)))) := rfl
      have b1 : (0 : Int) ≤ (j : Int) := by omega
      have b2 : (j : Int) < (L.length : Int) := by omega
      obtain ⟨uA, uc, rfl, -⟩ := own_slice hO
      have hj6 : j ≤ 1000000 := by omega
      clear hmem RN FT HBAD HOK HN VE
      generalize L[j] = s at *
      generalize rok k st s = ok at *
      generalize rndV s st = r at *
      cases hE : s.toList.isEmpty
      · have hn : s.toList ≠ [] := fun e => by rw [e] at hE; cases hE
        go_wp2_with fail
        refine (RJ.out wr hB).mono ?_
        rintro e w3 ⟨hb3, rfl⟩
        have hB3 := hB.trans (hb3.mono hB.size)
        cases hr : r.toList.isEmpty
        · have hrn : r.toList ≠ [] := fun e => by rw [e] at hr; cases hr
          have HROK' := HROK.out
          rw [hE, hr] at HROK'
          clear HROK VJ
          go_wp2_with fail
          refine (FJ.out w3 hB3).mono ?_
          rintro e w4 ⟨hb4, rfl⟩
          have hB4 := hB3.trans (hb4.mono hB3.size)
          have hb34 := hb3.trans (hb4.mono hb3.size)
          generalize fitK k r = q at *
          cases q
          · obtain ⟨rfl, rfl⟩ := HF.out (by rw [HROK']; rfl)
            clear hO hC hB HMP HAL
            go_wp2
            go_ret2
            exact ⟨hB4, _, rfl, IsT.nil _ _⟩
          · have HOKJ : Hid (ok = true) := by show _ = _; rw [HROK']; rfl
            clear HROK' HF FJ RJ hb3 hb4 hB3
            have HOA := Lib.hid ((own_next hO hb34).alloc (.cells #[.string r] 9))
            have hC3 := hC.trans (hb34.mono hC.size)
            clear hO hC hB
            go_wp2_with (at_builtin; go_loud (have hz := hC3.size; refine wpL_append _ rfl (.tmp 51) (.tmp 53) _ rfl w2.heap.size 9 i0 _ 1 16 Tryz.underlying22 hi0 hz0 hz1 hz2 rfl (by omega) _ j _ rfl HOA.out _ 1 1 [.string r] rfl rfl (Rd.of_new w4 [.string r] 9) (strs_one [r]) (by unfold maxLen; omega) (by omega) (by simp only [World.size_alloc]; omega) ?_; intro v1 w7 hown2 hg1 hat1; have hB7 := below_app (hC3.alloc hz _) hg1 (by simp only [World.size_alloc]; omega) HOA.out (Nat.le_refl _); clear hg1 hat1))
            have HO2 : Hid (w7.ownsRow w2.heap.size 9 1 v1 (j + 1) (strs ((L.take (j + 1)).map (fun s => rndV s st)))) := by
              show w7.ownsRow _ _ _ _ _ _
              rw [HMP.out, strs_app]; exact hown2
            have HA2 := Lib.hid (HAL.out HOKJ.out)
            clear hown2 HOA HMP HAL
            go_wp2
            go_roundw
            case rel => exact ⟨j + 1, by omega, by go_num, HO2.out, hB7, HA2.out⟩
            case measure => simp [intOf]; omega
        · have hrn : r.toList = [] := List.isEmpty_iff.1 hr
          have HROK' := HROK.out
          rw [hE, hr] at HROK'
          obtain ⟨rfl, rfl⟩ := HF.out (by rw [HROK']; rfl)
          clear hO hC hB HMP HAL HROK HROK' VJ FJ
          go_wp2
          go_ret2
          exact ⟨hB3, _, rfl, IsT.nil _ _⟩
      · have hn : s.toList = [] := List.isEmpty_iff.1 hE
        have hre := VJ.out hE
        have HROK' := HROK.out
        rw [hE] at HROK'
        have HOKJ : Hid (ok = true) := by show _ = _; rw [HROK']; rfl
        subst hre
        have hb34 : Below wr.heap.size wr wr := Below.refl _ _
        clear VJ HROK HROK' HF FJ RJ
        have HOA := Lib.hid ((own_next hO hb34).alloc (.cells #[.string ⟨#[]⟩] 9))
        have hC3 := hC.trans (hb34.mono hC.size)
        clear hO hC hB
        go_wp2_with (at_builtin; go_loud (have hz := hC3.size; refine wpL_append _ rfl (.tmp 51) (.tmp 53) _ rfl w2.heap.size 9 i0 _ 1 16 Tryz.underlying22 hi0 hz0 hz1 hz2 rfl (by omega) _ j _ rfl HOA.out _ 1 1 [.string ⟨#[]⟩] rfl rfl (Rd.of_new wr [.string ⟨#[]⟩] 9) (strs_one [⟨#[]⟩]) (by unfold maxLen; omega) (by omega) (by simp only [World.size_alloc]; omega) ?_; intro v1 w7 hown2 hg1 hat1; have hB7 := below_app (hC3.alloc hz _) hg1 (by simp only [World.size_alloc]; omega) HOA.out (Nat.le_refl _); clear hg1 hat1))
        have HO2 : Hid (w7.ownsRow w2.heap.size 9 1 v1 (j + 1) (strs ((L.take (j + 1)).map (fun s => rndV s st)))) := by
          show w7.ownsRow _ _ _ _ _ _
          rw [HMP.out, strs_app]; exact hown2
        have HA2 := Lib.hid (HAL.out HOKJ.out)
        clear hown2 HOA HMP HAL
        go_wp2
        go_roundw
        case rel => exact ⟨j + 1, by omega, by go_num, HO2.out, hB7, HA2.out⟩
        case measure => simp [intOf]; omega
    · obtain rfl : j = L.length := by omega
      obtain ⟨rfl, rfl⟩ := HOK.out HN.out
      have hT := Lib.hid (IsT.of_own hO)
      clear hO RN FT HBAD HOK VE
      go_wp2
      go_ret2
      exact ⟨hB, _, rfl, hT.out⟩
end Go.Proofs.YtpkhgdnkkdhlcaaGreatDoor

namespace Go.Proofs.YtpkhgdnkkdhlcaaGreatDoor
open Go.RowKit Ar

set_option maxRecDepth 100000 in
set_option maxHeartbeats 1600000 in
theorem long_any (L : List ByteArray) (A : Option Addr) (c : Nat) (w : World) (h : Rd w w.heap.size A (strs L)) (hL : L.length ≤ maxLen) (z : Bool) (hz : z = true ↔ 100 < L.length ∨ ∃ s ∈ L, 200 < s.size) (hm : ∀ s ∈ L, s.size ≤ maxLen) :
    Calls Tryz.prog 10 #[.slice A L.length c] w fun e w' => w = w' ∧ e = .returned (.bool z) := by
  unfold maxLen at hm hL
  have HZ := Lib.hid hz
  clear hz
  by_cases hbig : 100 < L.length
  · have hzt : z = true := HZ.out.2 (.inl hbig)
    subst hzt
    clear hm
    go_enter Tryz.func10, Tryz.ntmps10
    go_wp2
    go_ret
    exact ⟨rfl, rfl⟩
  have HM := Lib.hid hm
  clear hm
  go_enter Tryz.func10, Tryz.ntmps10
  go_wp2_with fail
  go_loop [3] (fun i => ∃ k : Nat, k ≤ L.length ∧ i = .int .i64 k ∧ Hid (∀ s ∈ L.take k, s.size ≤ 200)) (fun i => L.length - (intOf i).toNat)
  case atStart => exact ⟨0, Nat.zero_le _, rfl, (fun x h => by simp at h)⟩
  case round =>
    obtain ⟨k, hk, rfl, H0⟩ := hrel
    rcases Nat.lt_or_ge k L.length with hlt | hge
    · obtain ⟨ad, rfl, hab, hcell⟩ := h.str hlt
      have hmk := HM.out _ (List.getElem_mem hlt)
      have HN : Hid (L[k].size ≤ 200 → ∀ s ∈ L.take (k + 1), s.size ≤ 200) := fun h1 x hx => by
        rw [List.take_add_one, List.getElem?_eq_getElem hlt] at hx
        rcases List.mem_append.1 hx with h2 | h2
        · exact H0.out x h2
        · simp at h2; subst h2; exact h1
      have HY : Hid (200 < L[k].size → z = true) := fun h1 => HZ.out.2 (.inr ⟨_, List.getElem_mem hlt, h1⟩)
      have b1 : (0 : Int) ≤ (k : Int) := by omega
      have b2 : (k : Int) < (L.length : Int) := by omega
      generalize L[k] = y at *
      by_cases hl : y.size ≤ 200
      · have hl' : ¬ (200 : Int) < y.size := by omega
        have HL := Lib.hid (HN.out hl)
        clear HN HY
        go_wp2
        go_round
        case rel => exact ⟨k + 1, by omega, by go_num, HL.out⟩
        case measure => simp [intOf]; omega
      · have hl' : (200 : Int) < y.size := by omega
        have hzt : z = true := HY.out (by omega)
        subst hzt
        clear HN HY
        go_wp2
        go_ret
        exact ⟨rfl, rfl⟩
    · have hkl : k = L.length := by omega
      subst hkl
      have hzf : z = false := by
        cases hzz : z
        · rfl
        · rcases HZ.out.1 hzz with h | ⟨x, hx, h⟩
          · exact absurd h hbig
          · have := H0.out x (by rw [List.take_length]; exact hx)
            omega
      subst hzf
      go_wp2
      go_ret
      exact ⟨rfl, rfl⟩
set_option maxRecDepth 100000 in
set_option maxHeartbeats 1600000 in
theorem csame_any (l : List ByteArray) (A A' : Option Addr) (c c' : Nat) (w : World) (hl : l.length ≤ 1000000) (h : Rd w w.heap.size A (strs l)) (h' : Rd w w.heap.size A' (strs l)) :
    Calls Tryz.prog 15 #[.slice A l.length c, .slice A' l.length c'] w fun e w' => Below w.heap.size w w' ∧ e = .returned (.bool true) := by
  go_enter Tryz.func15, Tryz.ntmps15
  go_wp2_with fail
  go_loopw [5] (fun x wr => ∃ i : Nat, i ≤ l.length ∧ x = .int .i64 i ∧ Below w.heap.size w wr) (fun x _ => l.length - (intOf x).toNat)
  case atStart => exact ⟨0, Nat.zero_le _, rfl, Below.refl _ _⟩
  case round =>
    obtain ⟨i, hi, rfl, hB⟩ := hrel
    rcases Nat.lt_or_ge i l.length with hlt | hge
    · obtain ⟨ad, rfl, hab, d1⟩ := (h.below hB).str hlt
      obtain ⟨ad', rfl, hab', d4⟩ := (h'.below hB).str hlt
      have b1 : (0 : Int) ≤ (i : Int) := by omega
      have b2 : (i : Int) < (l.length : Int) := by omega
      generalize l[i] = x at *
      go_wp2_with fail
      go_quiet (fail)
      go_wp2
      go_roundw
      case rel => exact ⟨i + 1, by omega, by go_num, below_drewN hB nq⟩
      case measure => simp [intOf]; omega
    · have hkl : i = l.length := by omega
      subst hkl
      go_wp2
      go_ret
      exact ⟨hB, rfl⟩
set_option maxRecDepth 100000 in
set_option maxHeartbeats 1600000 in
theorem get_emp (w : World) :
    Calls Tryz.prog 49 #[.string ⟨#[]⟩] w fun e w' => Below w.heap.size w w' ∧ ∃ v, e = .returned (.tuple #[v, .bool false]) ∧ IsQ w' w'.heap.size v 0 := by
  go_enter Tryz.func49, Tryz.ntmps49
  go_wp2_with fail
  have hB1 := below_alloc w (.cells #[.bool false, .slice none 0 0, .slice none 0 0] 74)
  have k1 := Bk.new w 74 #[Value.bool false, .slice none 0 0, .slice none 0 0]
  generalize w.alloc (.cells #[.bool false, .slice none 0 0, .slice none 0 0] 74) = W1 at *
  refine (rplain_any ⟨#[]⟩ W1 (by decide)).mono ?_
  rintro e w2 ⟨hb2, v, z, q, rfl, hq, hpl⟩
  obtain ⟨b, A, n, c, A', n', c', rfl⟩ := hq.form
  have k2 := k1.below hb2 k1.lt
  have hB2 := hB1.trans (hb2.mono hB1.size)
  have hz : z = false := by
    cases z
    · rfl
    · have h2 : refPlain [] = some q := hpl
      have h3 : refPlain [] = none := by decide +kernel
      rw [h3] at h2; cases h2
  subst hz
  clear hpl hb2 k1 hB1 hq
  have k3 := k2.alloc (.cells #[.bool b, .slice A n c, .slice A' n' c'] 74)
  obtain ⟨d0, d1, d2⟩ := bk3 k3
  have f0 := k3.frozen 0
  have f1 := k3.frozen 1
  have f2 := k3.frozen 2
  go_wp2
  refine bodyPost_ret (v := .tuple #[.agg #[.bool false, .slice none 0 0, .slice none 0 0], .bool false]) (by simp [results, Tryz.results49, go_sem, d0, d1, d2]) rfl ?_
  exact ⟨set3_below ((hB2.alloc hB2.size _)) (Nat.le_refl _), _, rfl, IsQ.zero _ _⟩
set_option maxRecDepth 100000 in
set_option maxHeartbeats 6400000 in
theorem near_any (L M : List ByteArray) (A A' : Option Addr) (c c' : Nat) (st : ByteArray) (w : World) (h : Rd w w.heap.size A (strs L)) (h' : Rd w w.heap.size A' (strs M)) (hLM : M.length = L.length) (hL : L.length ≤ 1000000) (ht : st.size ≤ 4000000) (hst : numB st = true)
    (hv : ∀ (j : Nat) (h1 : j < L.length) (h2 : j < M.length), (L[j] = ⟨#[]⟩ ∧ M[j] = ⟨#[]⟩) ∨ (numB L[j] = true ∧ numB M[j] = true ∧
      (textRat L[j].data.toList - textRat M[j].data.toList) + (textRat L[j].data.toList - textRat M[j].data.toList) ≤ textRat st.data.toList ∧ -textRat st.data.toList ≤ (textRat L[j].data.toList - textRat M[j].data.toList) + (textRat L[j].data.toList - textRat M[j].data.toList))) :
    Calls Tryz.prog 19 #[.slice A L.length c, .slice A' L.length c', .string st] w fun e w' => Below w.heap.size w w' ∧ e = .returned (.bool true) := by
  have G1 := Lib.hid (fun W => rget_any st W ht true (by rw [← numB_iff, hst]))
  have hsy := num_sz hst
  have HV := Lib.hid hv
  have hsz0 : ∀ s : ByteArray, numB s = true → s.size ≤ 4000000 := fun s hn => by
    have := isNum_len ((numB_iff s).1 hn)
    rw [size_list'] at this
    omega
  have hson := sz_neg (textRat st.data.toList)
  have CP : Hid (∀ p q : Rat, p ≤ q → cmpQ p q ≤ 0) := fun p q hpq => by
    unfold cmpQ
    rcases Int.lt_or_le 0 (sgQ (p - q)) with h | h
    · exfalso
      have := (sgQ_ltZ (q - p)).2
      unfold sgQ at h
      split at h
      · omega
      · split at h
        · omega
        · grind
    · exact h
  have CQ : Hid (∀ p q : Rat, q ≤ p → 0 ≤ cmpQ p q) := fun p q hpq => (sgQ_geZ _).2 (by grind)
  clear hst hv
  generalize textRat st.data.toList = y at *
  go_enter Tryz.func19, Tryz.ntmps19
  go_wp2_with fail
  refine (G1.out w).mono ?_
  rintro e w1 ⟨hb1, sv, rfl, ⟨p0, hp0⟩, hgq⟩
  obtain ⟨sb, sA, sn, sc, sA', sn', sc', rfl⟩ := hp0.form
  have B2 := ((BxW.nil w).next hb1).new 74 #[.bool sb, .slice sA sn sc, .slice sA' sn' sc']
  have HQ2 : Hid (IsQ _ _ _ y) := (hgq rfl).next (below_alloc w1 (.cells #[.bool sb, .slice sA sn sc, .slice sA' sn' sc'] 74))
  clear G1 hb1 hp0 hgq
  go_wp2_with fail
  generalize w1.alloc (.cells #[.bool sb, .slice sA sn sc, .slice sA' sn' sc'] 74) = w2 at *
  generalize w1.heap.size = bs at *
  go_loopw [9] (fun i wr => ∃ j : Nat, j ≤ L.length ∧ i = .int .i64 j ∧ BxW w [(bs, 74, #[.bool sb, .slice sA sn sc, .slice sA' sn' sc'])] wr ∧ Hid (IsQ wr wr.heap.size (.agg #[.bool sb, .slice sA sn sc, .slice sA' sn' sc']) y)) (fun i _ => L.length - (intOf i).toNat)
  case atStart => exact ⟨0, Nat.zero_le _, rfl, B2, HQ2⟩
  case round =>
    clear B2 HQ2
    obtain ⟨j, hj, rfl, B, HQ⟩ := hrel
    by_cases hlt : j < L.length
    · obtain ⟨ad, rfl, hab, hc1⟩ := (h.below B.below).str hlt
      have hlt2 : j < M.length := by omega
      obtain ⟨ad', rfl, hab', hc2⟩ := (h'.below B.below).str hlt2
      have b1 : (0 : Int) ≤ (j : Int) := by omega
      have b2 : (j : Int) < (L.length : Int) := by omega
      have FC := Lib.hid (fun W (hW : Below wr.heap.size wr W) => show W.cell? (ad'.add j) = some (.string M[j]) from (hW.cell (p := ad'.add j) (World.block_lt_of_cell? _ _ hc2)).trans hc2)
      have HVJ := HV.out j hlt hlt2
      clear HV
      generalize L[j] = s at *
      generalize M[j] = r at *
      clear hc2
      rcases HVJ with ⟨rfl, rfl⟩ | ⟨n1, n2, q1, q2⟩
      · go_wp2_with fail
        refine (get_emp wr).mono ?_
        rintro e w3 ⟨hb3, xv, rfl, hx⟩
        obtain ⟨xb, xA, xn, xc, xA', xn', xc', rfl⟩ := hx.form
        have B3 := (B.next hb3).new 74 #[.bool xb, .slice xA xn xc, .slice xA' xn' xc']
        have bax := below_alloc w3 (.cells #[.bool xb, .slice xA xn xc, .slice xA' xn' xc'] 74)
        have hc2 := FC.out _ (hb3.trans (bax.mono hb3.size))
        have HQ3 : Hid (IsQ _ _ _ y) := (HQ.out.next hb3).next bax
        have hx3 := hx.next bax
        clear FC B HQ hb3 hx bax
        go_wp2_with fail
        generalize w3.alloc (.cells #[.bool xb, .slice xA xn xc, .slice xA' xn' xc'] 74) = w4 at *
        generalize w3.heap.size = bx at *
        refine (get_emp w4).mono ?_
        rintro e w5 ⟨hb5, zv, rfl, hz⟩
        obtain ⟨zb, zA, zn, zc, zA', zn', zc', rfl⟩ := hz.form
        have B5 := (B3.next hb5).new 74 #[.bool zb, .slice zA zn zc, .slice zA' zn' zc']
        have baz := below_alloc w5 (.cells #[.bool zb, .slice zA zn zc, .slice zA' zn' zc'] 74)
        have HQ5 : Hid (IsQ _ _ _ y) := (HQ3.out.next hb5).next baz
        have hx5 := (hx3.next hb5).next baz
        have hz5 := hz.next baz
        clear B3 HQ3 hb5 hx3 hz baz
        obtain ⟨x0, x1, x2⟩ := bk3 B5.two
        obtain ⟨z0, z1, z2⟩ := bk3 B5.three
        go_wp2_with fail
        generalize w5.alloc (.cells #[.bool zb, .slice zA zn zc, .slice zA' zn' zc'] 74) = w6 at *
        generalize w5.heap.size = bz at *
        refine (qminus_any 0 0 _ _ w6 hx5 hz5 (by decide +kernel) (by decide +kernel)).mono ?_
        rintro e w7 ⟨hb7, dv, rfl, hd⟩
        obtain ⟨db, dA, dn', dc, dA', dn'', dc', rfl⟩ := hd.form
        have B7 := (B5.next hb7).new 74 #[.bool db, .slice dA dn' dc, .slice dA' dn'' dc']
        have HQ7 : Hid (IsQ _ _ _ y) := (HQ5.out.next hb7).next (below_alloc w7 (.cells #[.bool db, .slice dA dn' dc, .slice dA' dn'' dc'] 74))
        clear B5 HQ5 hb7 hx5 hz5 hd x0 x1 x2 z0 z1 z2
        go_wp2_with fail
        refine wp_region_held_drew (S := fun _ => True) (by kernel_rfl) trivial (fun hS0 => ?_)
        have B8 : BxW w _ _ := B7.drew
        have HQ8 : Hid (IsQ _ _ _ y) := HQ7.out.drew
        refine takeA (i := 0) (v := ?_) rfl (by kernel_rfl) (by kernel_rfl) (by kernel_rfl) (fun _ _ _ h => h) (by rfl) (by assumption) ?_ ?_
        rotate_left
        · intro w hSw; (try dsimp only at hSw); go_simp <;> with_reducible rfl
        try simp only [Act.put, List.setIfInBounds_toArray, List.set_cons_zero, List.set_cons_succ]
        refine takeA (i := 1) (v := .bool false) rfl (by kernel_rfl) (by kernel_rfl) (by kernel_rfl) (fun _ _ _ h => h) (by rfl) (by assumption) ?_ ?_
        · intro w hSw; go_simp <;> with_reducible rfl
        try simp only [Act.put, List.setIfInBounds_toArray, List.set_cons_zero, List.set_cons_succ]
        refine skipA (i := 2) rfl (by kernel_rfl) (by kernel_rfl) (by kernel_rfl) (fun _ _ _ h => h) (by rfl) (by assumption) ?_
        try simp only [Act.put, List.setIfInBounds_toArray, List.set_cons_zero, List.set_cons_succ]
        refine skipA (i := 3) rfl (by kernel_rfl) (by kernel_rfl) (by kernel_rfl) (fun _ _ _ h => h) (by rfl) (by assumption) ?_
        try simp only [Act.put, List.setIfInBounds_toArray, List.set_cons_zero, List.set_cons_succ]
        refine skipA (i := 4) rfl (by kernel_rfl) (by kernel_rfl) (by kernel_rfl) (fun _ _ _ h => h) (by rfl) (by assumption) ?_
        try simp only [Act.put, List.setIfInBounds_toArray, List.set_cons_zero, List.set_cons_succ]
        refine skipA (i := 5) rfl (by kernel_rfl) (by kernel_rfl) (by kernel_rfl) (fun _ _ _ h => h) (by rfl) (by assumption) ?_
        try simp only [Act.put, List.setIfInBounds_toArray, List.set_cons_zero, List.set_cons_succ]
        refine skipA (i := 6) rfl (by kernel_rfl) (by kernel_rfl) (by kernel_rfl) (fun _ _ _ h => h) (by rfl) (by assumption) ?_
        try simp only [Act.put, List.setIfInBounds_toArray, List.set_cons_zero, List.set_cons_succ]
        refine skipA (i := 7) rfl (by kernel_rfl) (by kernel_rfl) (by kernel_rfl) (fun _ _ _ h => h) (by rfl) (by assumption) ?_
        try simp only [Act.put, List.setIfInBounds_toArray, List.set_cons_zero, List.set_cons_succ]
        refine skipA (i := 8) rfl (by kernel_rfl) (by kernel_rfl) (by kernel_rfl) (fun _ _ _ h => h) (by rfl) (by assumption) ?_
        try simp only [Act.put, List.setIfInBounds_toArray, List.set_cons_zero, List.set_cons_succ]
        refine skipA (i := 9) rfl (by kernel_rfl) (by kernel_rfl) (by kernel_rfl) (fun _ _ _ h => h) (by rfl) (by assumption) ?_
        try simp only [Act.put, List.setIfInBounds_toArray, List.set_cons_zero, List.set_cons_succ]
        refine skipA (i := 10) rfl (by kernel_rfl) (by kernel_rfl) (by kernel_rfl) (fun _ _ _ h => h) (by rfl) (by assumption) ?_
        try simp only [Act.put, List.setIfInBounds_toArray, List.set_cons_zero, List.set_cons_succ]
        refine skipA (i := 11) rfl (by kernel_rfl) (by kernel_rfl) (by kernel_rfl) (fun _ _ _ h => h) (by rfl) (by assumption) ?_
        try simp only [Act.put, List.setIfInBounds_toArray, List.set_cons_zero, List.set_cons_succ]
        refine skipA (i := 12) rfl (by kernel_rfl) (by kernel_rfl) (by kernel_rfl) (fun _ _ _ h => h) (by rfl) (by assumption) ?_
        try simp only [Act.put, List.setIfInBounds_toArray, List.set_cons_zero, List.set_cons_succ]
        refine skipA (i := 13) rfl (by kernel_rfl) (by kernel_rfl) (by kernel_rfl) (fun _ _ _ h => h) (by rfl) (by assumption) ?_
        try simp only [Act.put, List.setIfInBounds_toArray, List.set_cons_zero, List.set_cons_succ]
        refine skipA (i := 14) rfl (by kernel_rfl) (by kernel_rfl) (by kernel_rfl) (fun _ _ _ h => h) (by rfl) (by assumption) ?_
        try simp only [Act.put, List.setIfInBounds_toArray, List.set_cons_zero, List.set_cons_succ]
        refine skipA (i := 15) rfl (by kernel_rfl) (by kernel_rfl) (by kernel_rfl) (fun _ _ _ h => h) (by rfl) (by assumption) ?_
        try simp only [Act.put, List.setIfInBounds_toArray, List.set_cons_zero, List.set_cons_succ]
        refine skipA (i := 16) rfl (by kernel_rfl) (by kernel_rfl) (by kernel_rfl) (fun _ _ _ h => h) (by rfl) (by assumption) ?_
        try simp only [Act.put, List.setIfInBounds_toArray, List.set_cons_zero, List.set_cons_succ]
        refine takeA (i := 17) (v := ?_) rfl (by kernel_rfl) (by kernel_rfl) (by kernel_rfl) (fun _ _ _ h => h) (by rfl) (by assumption) ?_ ?_
        rotate_left
        · intro w hSw; (try dsimp only at hSw); go_simp <;> with_reducible rfl
        try simp only [Act.put, List.setIfInBounds_toArray, List.set_cons_zero, List.set_cons_succ]
        refine wpAnyH_done (by kernel_rfl) ?_ _
        clear B7 HQ7
        go_wp2
        go_roundw
        case rel => exact ⟨j + 1, by omega, by go_num, ⟨B8.below, fun p hp => B8.keep p (by rw [List.mem_singleton] at hp; subst hp; simp)⟩, HQ8⟩
        case measure => simp [intOf]; omega
      · have sx := num_sz n1
        have sz' := num_sz n2
        have G2 := Lib.hid (fun W => rget_any s W (hsz0 s n1) true (by rw [← numB_iff, n1]))
        have G3 := Lib.hid (fun W => rget_any r W (hsz0 r n2) true (by rw [← numB_iff, n2]))
        clear n1 n2
        have hdd := sz_sub (textRat s.data.toList) (textRat r.data.toList)
        have hdp := sz_add (textRat s.data.toList - textRat r.data.toList) (textRat s.data.toList - textRat r.data.toList)
        have c1 := CP.out _ _ q1
        have c2 := CQ.out _ _ q2
        clear q1 q2
        obtain ⟨dd, hdq⟩ : ∃ d, d = textRat s.data.toList - textRat r.data.toList := ⟨_, rfl⟩
        rw [← hdq] at hdd hdp c1 c2
        have HDQ := Lib.hid hdq
        clear hdq
        generalize textRat s.data.toList = xs at *
        generalize textRat r.data.toList = zs at *
        go_wp2_with fail
        refine (G2.out wr).mono ?_
        rintro e w3 ⟨hb3, xv, rfl, ⟨p1, hp1⟩, hx⟩
        obtain ⟨xb, xA, xn, xc, xA', xn', xc', rfl⟩ := hp1.form
        have B3 := (B.next hb3).new 74 #[.bool xb, .slice xA xn xc, .slice xA' xn' xc']
        have bax := below_alloc w3 (.cells #[.bool xb, .slice xA xn xc, .slice xA' xn' xc'] 74)
        have hc2 := FC.out _ (hb3.trans (bax.mono hb3.size))
        have HQ3 : Hid (IsQ _ _ _ y) := (HQ.out.next hb3).next bax
        have hx3 := (hx rfl).next bax
        clear FC B HQ hb3 hx bax hp1 G2
        go_wp2_with fail
        generalize w3.alloc (.cells #[.bool xb, .slice xA xn xc, .slice xA' xn' xc'] 74) = w4 at *
        generalize w3.heap.size = bx at *
        refine (G3.out w4).mono ?_
        rintro e w5 ⟨hb5, zv, rfl, ⟨p2, hp2⟩, hz⟩
        obtain ⟨zb, zA, zn, zc, zA', zn', zc', rfl⟩ := hp2.form
        have B5 := (B3.next hb5).new 74 #[.bool zb, .slice zA zn zc, .slice zA' zn' zc']
        have baz := below_alloc w5 (.cells #[.bool zb, .slice zA zn zc, .slice zA' zn' zc'] 74)
        have HQ5 : Hid (IsQ _ _ _ y) := (HQ3.out.next hb5).next baz
        have hx5 := (hx3.next hb5).next baz
        have hz5 := (hz rfl).next baz
        clear B3 HQ3 hb5 hx3 hz baz hp2 G3
        obtain ⟨x0, x1, x2⟩ := bk3 B5.two
        obtain ⟨z0, z1, z2⟩ := bk3 B5.three
        go_wp2_with fail
        generalize w5.alloc (.cells #[.bool zb, .slice zA zn zc, .slice zA' zn' zc'] 74) = w6 at *
        generalize w5.heap.size = bz at *
        refine (qminus_any xs zs _ _ w6 hx5 hz5 (by omega) (by omega)).mono ?_
        rintro e w7 ⟨hb7, dv, rfl, hd⟩
        rw [← HDQ.out] at hd
        obtain ⟨db, dA, dn, dc, dA', dn', dc', rfl⟩ := hd.form
        have B7 := (B5.next hb7).new 74 #[.bool db, .slice dA dn dc, .slice dA' dn' dc']
        have bad := below_alloc w7 (.cells #[.bool db, .slice dA dn dc, .slice dA' dn' dc'] 74)
        have HQ7 : Hid (IsQ _ _ _ y) := (HQ5.out.next hb7).next bad
        have HD7 : Hid (IsQ _ _ _ dd) := hd.next bad
        clear B5 HQ5 hb7 hx5 hz5 hd x0 x1 x2 z0 z1 z2 bad
        have hk7 : ∃ KS, KS = [(bs, 74, #[.bool sb, .slice sA sn sc, .slice sA' sn' sc'])] ∧ BxW w (KS ++ [(w7.heap.size, 74, #[.bool db, .slice dA dn dc, .slice dA' dn' dc'])]) (w7.alloc (.cells #[.bool db, .slice dA dn dc, .slice dA' dn' dc'] 74)) := ⟨_, rfl, ⟨B7.below, fun p hp => B7.keep p (by
          rcases List.mem_append.1 hp with h | h
          · rw [List.mem_singleton] at h; subst h; simp
          · rw [List.mem_singleton] at h; subst h; simp)⟩⟩
        obtain ⟨KS, rfl, B7⟩ := hk7
        go_wp2_with fail
        generalize w7.alloc (.cells #[.bool db, .slice dA dn dc, .slice dA' dn' dc'] 74) = w8 at *
        generalize w7.heap.size = bd at *
        have C9 := Lib.hid (fun W (h : BxW w ([(bs, 74, #[.bool sb, .slice sA sn sc, .slice sA' sn' sc'])] ++ [(bd, 74, #[.bool db, .slice dA dn dc, .slice dA' dn' dc'])]) W) => show (fun Y => ((Y.cell? ⟨bs, 0, none⟩ = some (.bool sb) ∧ Y.cell? ⟨bs, 1, none⟩ = some (.slice sA sn sc)) ∧ Y.cell? ⟨bs, 2, none⟩ = some (.slice sA' sn' sc')) ∧ ((Y.cell? ⟨bd, 0, none⟩ = some (.bool db) ∧ Y.cell? ⟨bd, 1, none⟩ = some (.slice dA dn dc)) ∧ Y.cell? ⟨bd, 2, none⟩ = some (.slice dA' dn' dc'))) W from by
          obtain ⟨s0, s1, s2⟩ := bk3 h.one
          obtain ⟨d0, d1, d2⟩ := bk3 h.two
          exact ⟨⟨⟨s0, s1⟩, s2⟩, ⟨d0, d1⟩, d2⟩)
        refine wp_region_held_drew (S := fun Y => ((Y.cell? ⟨bs, 0, none⟩ = some (.bool sb) ∧ Y.cell? ⟨bs, 1, none⟩ = some (.slice sA sn sc)) ∧ Y.cell? ⟨bs, 2, none⟩ = some (.slice sA' sn' sc')) ∧ ((Y.cell? ⟨bd, 0, none⟩ = some (.bool db) ∧ Y.cell? ⟨bd, 1, none⟩ = some (.slice dA dn dc)) ∧ Y.cell? ⟨bd, 2, none⟩ = some (.slice dA' dn' dc'))) (by kernel_rfl) (C9.out _ B7.drew) (fun hS0 => ?_)
        have B8 := B7.drew
        have HQ8 : Hid (IsQ _ _ _ y) := HQ7.out.drew
        have HD8 : Hid (IsQ _ _ _ dd) := HD7.out.drew
        clear B7 HQ7 HD7
        generalize w8.drew = w8' at *
        refine takeA (i := 0) (v := ?_) rfl (by kernel_rfl) (by kernel_rfl) (by kernel_rfl) (fun _ _ _ h => h) (by rfl) (by assumption) ?_ ?_
        rotate_left
        · intro w hSw; (try dsimp only at hSw); go_simp <;> with_reducible rfl
        try simp only [Act.put, List.setIfInBounds_toArray, List.set_cons_zero, List.set_cons_succ]
        refine takeA (i := 1) (v := .bool true) rfl (by kernel_rfl) (by kernel_rfl) (by kernel_rfl) (fun _ _ _ h => h) (by rfl) (by assumption) ?_ ?_
        · intro w hSw; go_simp <;> with_reducible rfl
        try simp only [Act.put, List.setIfInBounds_toArray, List.set_cons_zero, List.set_cons_succ]
        refine takeA (i := 2) (v := ?_) rfl (by kernel_rfl) (by kernel_rfl) (by kernel_rfl) (fun _ _ _ h => h) (by rfl) (by assumption) ?_ ?_
        rotate_left
        · intro w hSw; (try dsimp only at hSw); go_simp <;> with_reducible rfl
        try simp only [Act.put, List.setIfInBounds_toArray, List.set_cons_zero, List.set_cons_succ]
        refine takeA (i := 3) (v := ?_) rfl (by kernel_rfl) (by kernel_rfl) (by kernel_rfl) (fun _ _ _ h => h) (by rfl) (by assumption) ?_ ?_
        rotate_left
        · intro w hSw; (try dsimp only at hSw); go_simp <;> with_reducible rfl
        try simp only [Act.put, List.setIfInBounds_toArray, List.set_cons_zero, List.set_cons_succ]
        refine takeA (i := 5) (v := ?_) rfl (by kernel_rfl) (by kernel_rfl) (by kernel_rfl) (fun _ _ _ h => h) (by rfl) (by assumption) ?_ ?_
        rotate_left
        · intro w hSw; (try dsimp only at hSw); go_simp <;> with_reducible rfl
        try simp only [Act.put, List.setIfInBounds_toArray, List.set_cons_zero, List.set_cons_succ]
        clear hS0
        refine stepA (i := 4) rfl (by kernel_rfl) (fun K0 hK0 => ?_)
        go_simp
        refine (qplus_any dd dd _ _ w8' HD8.out HD8.out (by omega) (by omega)).mono ?_
        rintro e w9 ⟨hbx, x9, rfl, h9⟩
        obtain ⟨ea, eb, ec, ed, ee, ef, eg, rfl⟩ := h9.form
        have B9 := B8.next hbx
        have hS9 := C9.out _ B9
        have HQ9 : Hid (IsQ _ _ _ y) := HQ8.out.next hbx
        have HD9 : Hid (IsQ _ _ _ dd) := HD8.out.next hbx
        dsimp only
        refine hK0.out _ _ hS9 (fun _ => ?_)
        try simp only [Act.put, List.setIfInBounds_toArray, List.set_cons_zero, List.set_cons_succ]
        clear hK0 K0 B8 hbx HQ8 HD8 hS9
        refine stepA (i := 6) rfl (by kernel_rfl) (fun K0 hK0 => ?_)
        go_simp
        refine (qcmp_any (dd + dd) y _ _ w9 h9 HQ9.out (by omega) (by omega)).mono ?_
        rintro e w10 ⟨hbx, rfl⟩
        have B10 := B9.next hbx
        have hS10 := C9.out _ B10
        have HQ10 : Hid (IsQ _ _ _ y) := HQ9.out.next hbx
        have HD10 : Hid (IsQ _ _ _ dd) := HD9.out.next hbx
        dsimp only
        refine hK0.out _ _ hS10 (fun _ => ?_)
        try simp only [Act.put, List.setIfInBounds_toArray, List.set_cons_zero, List.set_cons_succ]
        clear hK0 K0 B9 hbx HQ9 HD9 h9
        have c1' : ¬ 0 < cmpQ (dd + dd) y := by omega
        generalize cmpQ (dd + dd) y = k1 at *
        refine takeA (i := 7) (v := .bool false) rfl (by kernel_rfl) (by kernel_rfl) (by kernel_rfl) (fun _ _ _ h => h) (by rfl) (by assumption) ?_ ?_
        · intro w hSw; (try dsimp only at hSw); go_simp <;> first | with_reducible rfl | simp [*]
        try simp only [Act.put, List.setIfInBounds_toArray, List.set_cons_zero, List.set_cons_succ]
        refine takeA (i := 8) (v := .bool false) rfl (by kernel_rfl) (by kernel_rfl) (by kernel_rfl) (fun _ _ _ h => h) (by rfl) (by assumption) ?_ ?_
        · intro w hSw; (try dsimp only at hSw); go_simp <;> first | with_reducible rfl | simp [*]
        try simp only [Act.put, List.setIfInBounds_toArray, List.set_cons_zero, List.set_cons_succ]
        refine takeA (i := 9) (v := ?_) rfl (by kernel_rfl) (by kernel_rfl) (by kernel_rfl) (fun _ _ _ h => h) (by rfl) (by assumption) ?_ ?_
        rotate_left
        · intro w hSw; (try dsimp only at hSw); go_simp <;> with_reducible rfl
        try simp only [Act.put, List.setIfInBounds_toArray, List.set_cons_zero, List.set_cons_succ]
        refine takeA (i := 10) (v := ?_) rfl (by kernel_rfl) (by kernel_rfl) (by kernel_rfl) (fun _ _ _ h => h) (by rfl) (by assumption) ?_ ?_
        rotate_left
        · intro w hSw; (try dsimp only at hSw); go_simp <;> with_reducible rfl
        try simp only [Act.put, List.setIfInBounds_toArray, List.set_cons_zero, List.set_cons_succ]
        refine takeA (i := 12) (v := ?_) rfl (by kernel_rfl) (by kernel_rfl) (by kernel_rfl) (fun _ _ _ h => h) (by rfl) (by assumption) ?_ ?_
        rotate_left
        · intro w hSw; (try dsimp only at hSw); go_simp <;> with_reducible rfl
        try simp only [Act.put, List.setIfInBounds_toArray, List.set_cons_zero, List.set_cons_succ]
        clear hS10
        refine stepA (i := 11) rfl (by kernel_rfl) (fun K0 hK0 => ?_)
        go_simp
        refine (qplus_any dd dd _ _ w10 HD10.out HD10.out (by omega) (by omega)).mono ?_
        rintro e w11 ⟨hbx, x11, rfl, h11⟩
        obtain ⟨fa, fb, fc, fd, fe, ff, fg, rfl⟩ := h11.form
        have B11 := B10.next hbx
        have hS11 := C9.out _ B11
        have HQ11 : Hid (IsQ _ _ _ y) := HQ10.out.next hbx
        have HD11 : Hid (IsQ _ _ _ dd) := HD10.out.next hbx
        dsimp only
        refine hK0.out _ _ hS11 (fun _ => ?_)
        try simp only [Act.put, List.setIfInBounds_toArray, List.set_cons_zero, List.set_cons_succ]
        clear hK0 K0 B10 hbx HQ10 HD10 hS11
        refine stepA (i := 13) rfl (by kernel_rfl) (fun K0 hK0 => ?_)
        go_simp
        refine (qopp_any y _ w11 HQ11.out (by omega)).mono ?_
        rintro e w12 ⟨hbx, x12, rfl, h12⟩
        obtain ⟨ga, gb, gc, gd, ge, gf, gg, rfl⟩ := h12.form
        have B12 := B11.next hbx
        have hS12 := C9.out _ B12
        have HQ12 : Hid (IsQ _ _ _ y) := HQ11.out.next hbx
        have HD12 : Hid (IsQ _ _ _ dd) := HD11.out.next hbx
        have h11b := h11.next hbx
        dsimp only
        refine hK0.out _ _ hS12 (fun _ => ?_)
        try simp only [Act.put, List.setIfInBounds_toArray, List.set_cons_zero, List.set_cons_succ]
        clear hK0 K0 B11 hbx HQ11 HD11 hS12 h11
        refine stepA (i := 14) rfl (by kernel_rfl) (fun K0 hK0 => ?_)
        go_simp
        refine (qcmp_any (dd + dd) (-y) _ _ w12 h11b h12 (by omega) (by omega)).mono ?_
        rintro e w13 ⟨hbx, rfl⟩
        have B13 := B12.next hbx
        have hS13 := C9.out _ B13
        have HQ13 : Hid (IsQ _ _ _ y) := HQ12.out.next hbx
        have HD13 : Hid (IsQ _ _ _ dd) := HD12.out.next hbx
        dsimp only
        refine hK0.out _ _ hS13 (fun _ => ?_)
        try simp only [Act.put, List.setIfInBounds_toArray, List.set_cons_zero, List.set_cons_succ]
        clear hK0 K0 B12 hbx HQ12 HD12 h12 h11b
        have c2' : ¬ cmpQ (dd + dd) (-y) < 0 := by omega
        generalize cmpQ (dd + dd) (-y) = k2 at *
        refine takeA (i := 15) (v := .bool false) rfl (by kernel_rfl) (by kernel_rfl) (by kernel_rfl) (fun _ _ _ h => h) (by rfl) (by assumption) ?_ ?_
        · intro w hSw; (try dsimp only at hSw); go_simp <;> first | with_reducible rfl | simp [*]
        try simp only [Act.put, List.setIfInBounds_toArray, List.set_cons_zero, List.set_cons_succ]
        refine takeA (i := 16) (v := ?_) rfl (by kernel_rfl) (by kernel_rfl) (by kernel_rfl) (fun _ _ _ h => h) (by rfl) (by assumption) ?_ ?_
        rotate_left
        · intro w hSw; (try dsimp only at hSw); go_simp <;> with_reducible rfl
        try simp only [Act.put, List.setIfInBounds_toArray, List.set_cons_zero, List.set_cons_succ]
        refine takeA (i := 17) (v := ?_) rfl (by kernel_rfl) (by kernel_rfl) (by kernel_rfl) (fun _ _ _ h => h) (by rfl) (by assumption) ?_ ?_
        rotate_left
        · intro w hSw; (try dsimp only at hSw); go_simp <;> with_reducible rfl
        try simp only [Act.put, List.setIfInBounds_toArray, List.set_cons_zero, List.set_cons_succ]
        refine wpAnyH_done (by kernel_rfl) ?_ _
        clear hS13 C9 HD13
        go_wp2
        go_roundw
        case rel => exact ⟨j + 1, by omega, by go_num, ⟨B13.below, fun p hp => B13.keep p (by rw [List.mem_singleton] at hp; subst hp; simp)⟩, HQ13⟩
        case measure => simp [intOf]; omega
    · obtain rfl : j = L.length := by omega
      have hB := B.below
      clear B HQ HV
      go_wp2
      go_ret
      exact ⟨hB, rfl⟩
end Go.Proofs.YtpkhgdnkkdhlcaaGreatDoor
