/-
  Walks: package ratio's fractions: Add.
-/
import Derived.Test.YtpkhgdnkkdhlcaaGreatDoorFracV
namespace Go.Proofs.YtpkhgdnkkdhlcaaGreatDoor
open Go.RowKit Ar

theorem IsN.drew {w : World} {k : IntKind} {v : Value} {n : Nat} (h : IsN w w.heap.size k v n) : IsN w.drew w.drew.heap.size k v n := h
theorem IsN.drewN {w : World} {k : IntKind} {v : Value} {n : Nat} (h : IsN w w.heap.size k v n) (m : Nat) : IsN (w.drewN m) (w.drewN m).heap.size k v n := h

set_option maxRecDepth 100000 in
set_option maxHeartbeats 6400000 in
theorem fadd_any (p q : Rat) (v u : Value) (w : World) (h : IsF w w.heap.size v p) (h' : IsF w w.heap.size u q) (hl : sz p ≤ 200000000000) (hl' : sz q ≤ 200000000000) :
    Calls Tryz.prog 81 #[v, u] w fun e w' => Below w.heap.size w w' ∧ ∃ v, e = .returned v ∧ IsF w' w'.heap.size v (p + q) := by
  obtain ⟨N1, D1, rfl, hN1, hD1⟩ := h
  obtain ⟨N2, D2, rfl, hN2, hD2⟩ := h'
  obtain ⟨A1, l1, c1, rfl⟩ := hN1.form
  obtain ⟨A2, l2, c2, rfl⟩ := hD1.form
  obtain ⟨A3, l3, c3, rfl⟩ := hN2.form
  obtain ⟨A4, l4, c4, rfl⟩ := hD2.form
  go_enter Tryz.func81, Tryz.ntmps81
  go_wp2_with fail
  refine wp_name (fun W => Below w.heap.size w W ∧ Bk W w.heap.size 102 #[.bool (sg p), .slice A1 l1 c1, .slice A2 l2 c2] ∧ Bk W (w.heap.size + 1) 102 #[.bool (sg q), .slice A3 l3 c3, .slice A4 l4 c4] ∧
    Bk W (w.heap.size + 1 + 1) 102 #[.bool false, .slice none 0 0, .slice none 0 0]) ⟨((below_alloc w _).alloc (by simp) _).alloc (by simp; omega) _, ((Bk.new _ _ _).alloc _).alloc _, (by simpa using ((Bk.new (w.alloc _) _ _).alloc _)), (by simpa using (Bk.new ((w.alloc _).alloc _) _ _))⟩ ?_
  rintro W ⟨hB, k1, k2, k3⟩
  have HK1 := Lib.hid k1
  have HK2 := Lib.hid k2
  have HK3 := Lib.hid k3
  obtain ⟨a0, a1, a2⟩ := bk3 k1
  obtain ⟨b0, b1, b2⟩ := bk3 k2
  have hlt := k3.lt
  have HB := Lib.hid hB
  have M1 : Hid (∀ X, Below w.heap.size w X → Calls Tryz.prog 141 #[.slice A1 l1 c1, .slice A4 l4 c4] X fun e w' => Below X.heap.size X w' ∧ ∃ v, e = .returned v ∧ IsN w' w'.heap.size .u32 v (nm p * dn q)) := fun X hX => mul_any _ _ _ _ X ((hN1.below hX).more hX.size) ((hD2.below hX).more hX.size) (by have := sz_nm p; omega) (by have := sz_dn q; omega)
  have M2 : Hid (∀ X, Below w.heap.size w X → Calls Tryz.prog 141 #[.slice A3 l3 c3, .slice A2 l2 c2] X fun e w' => Below X.heap.size X w' ∧ ∃ v, e = .returned v ∧ IsN w' w'.heap.size .u32 v (nm q * dn p)) := fun X hX => mul_any _ _ _ _ X ((hN2.below hX).more hX.size) ((hD1.below hX).more hX.size) (by have := sz_nm q; omega) (by have := sz_dn p; omega)
  have M3 : Hid (∀ X, Below w.heap.size w X → Calls Tryz.prog 141 #[.slice A2 l2 c2, .slice A4 l4 c4] X fun e w' => Below X.heap.size X w' ∧ ∃ v, e = .returned v ∧ IsN w' w'.heap.size .u32 v (dn p * dn q)) := fun X hX => mul_any _ _ _ _ X ((hD1.below hX).more hX.size) ((hD2.below hX).more hX.size) (by have := sz_dn p; omega) (by have := sz_dn q; omega)
  have hsz1 : (limbs (nm p * dn q)).length ≤ 400000000000 := by have := len_mul_le (nm p) (dn q); have := sz_nm p; have := sz_dn q; omega
  have hsz2 : (limbs (nm q * dn p)).length ≤ 400000000000 := by have := len_mul_le (nm q) (dn p); have := sz_nm q; have := sz_dn p; omega
  have hsz3 : (limbs (dn p * dn q)).length ≤ 500000000000 := by have := len_mul_le (dn p) (dn q); have := sz_dn p; have := sz_dn q; omega
  have hd0 : 0 < dn p * dn q := Nat.mul_pos (dn_pos p) (dn_pos q)
  have R1 := Lib.hid (add_same p q)
  have R2 := Lib.hid (add_ge p q)
  have R3 := Lib.hid (add_lt p q)
  clear k1 k2 k3 hB hN1 hN2 hD1 hD2 hl hl'
  generalize sg p = s1 at *
  generalize sg q = s2 at *
  generalize nm p * dn q = x at *
  generalize nm q * dn p = y at *
  generalize dn p * dn q = d at *
  go_region_held3 (fun w' => w'.cell? ⟨w.heap.size, 0, none⟩ = some (.bool s1) ∧ w'.cell? ⟨w.heap.size, 1, none⟩ = some (.slice A1 l1 c1) ∧ w'.cell? ⟨w.heap.size, 2, none⟩ = some (.slice A2 l2 c2) ∧
      w'.cell? ⟨w.heap.size + 1, 0, none⟩ = some (.bool s2) ∧ w'.cell? ⟨w.heap.size + 1, 1, none⟩ = some (.slice A3 l3 c3) ∧ w'.cell? ⟨w.heap.size + 1, 2, none⟩ = some (.slice A4 l4 c4)) (first | with_reducible exact bk6 k11 k21 | with_reducible exact bk6 k12 k22 | go_keep)
    (first
      | (go_at_call 141; ((with_reducible refine (M1.out _ (HB.out.drew)).mono ?_)); rintro e w1 ⟨hb1, x1, rfl, hx1⟩; have k11 := HK1.out.drew.below hb1 HK1.out.lt; have k21 := HK2.out.drew.below hb1 HK2.out.lt; have hB1 := HB.out.drew.trans (hb1.mono HB.out.size))
      | (go_at_call 141; ((with_reducible refine (M2.out _ hB1).mono ?_)); rintro e w2 ⟨hb2, x2, rfl, hx2⟩; have k12 := k11.below hb2 k11.lt; have k22 := k21.below hb2 k21.lt; have hB2 := hB1.trans (hb2.mono hB1.size)))
  have k32 := (HK3.out.drew.below hb1 HK3.out.lt).below hb2 (Nat.lt_of_lt_of_le HK3.out.lt hb1.size)
  have hy1 := hx1.next hb2
  obtain ⟨g0, g1, g2⟩ := bk3 k12
  obtain ⟨i0, i1, i2⟩ := bk3 k22
  clear a0 a1 a2 b0 b1 b2 k11 k21 hx1 HK1 HK2 HK3 M1 M2
  go_wp2_with fail
  refine (M3.out _ hB2).mono ?_
  rintro e w3 ⟨hb3, x3, rfl, hx3⟩
  have k13 := k12.below hb3 k12.lt
  have k23 := k22.below hb3 k22.lt
  have k33 := k32.below hb3 k32.lt
  have hy13 := hy1.next hb3
  have hy23 := hx2.next hb3
  have hB3 := hB2.trans (hb3.mono hB2.size)
  clear g0 g1 g2 i0 i1 i2 k12 k22 k32 hy1 hx2
  obtain ⟨g0, g1, g2⟩ := bk3 k13
  obtain ⟨i0, i1, i2⟩ := bk3 k23
  by_cases hs : s1 = s2
  · have hr := R1.out hs
    subst hs
    clear R1 R2 R3
    have hsz4 : (limbs (x + y)).length ≤ 500000000000 := by have := len_add_le x y; omega
    go_wp2_with fail
    go_region_held3 (fun w' => w'.cell? ⟨w.heap.size, 0, none⟩ = some (.bool s1)) (first | exact k14.cell 0 | exact k15.cell 0 | exact kk1.cell 0 | go_keep)
      (first
        | (go_at_call 142; ((with_reducible refine (add_any x y _ _ _ hy13.drew hy23.drew (by omega) (by omega)).mono ?_)); rintro e w4 ⟨hb4, x4, rfl, hx4⟩; have k14 := k13.drew.below hb4 k13.lt; have k34 := k33.drew.below hb4 k33.lt; have hB4 := hB3.drew.trans (hb4.mono hB3.size); have hx4 := hx4.is)
        | (go_at_call 79; ((with_reducible refine (make_any _ (x + y) d _ _ _ hd0 hx4 (hx3.drew.next hb4) hsz4 hsz3).mono ?_)); rintro e w5 ⟨hb5, x5, rfl, hx5⟩; have k15 := k14.below hb5 k14.lt; have k35 := k34.below hb5 k34.lt; have hB5 := hB4.trans (hb5.mono hB4.size); obtain ⟨t5, A5, l5, c5, A6, l6, c6, rfl⟩ := hx5.form; obtain ⟨d0, d1, d2⟩ := bk3 k35; have f0 := k35.frozen 0; have f1 := k35.frozen 1; have f2 := k35.frozen 2; have kk1 := bk_far3 (b' := w.heap.size + 1 + 1) (x := .bool t5) (y := .slice A5 l5 c5) (z := .slice A6 l6 c6) k15 (by omega)))
    go_wp2
    refine bodyPost_ret (v := .agg #[.bool t5, .slice A5 l5 c5, .slice A6 l6 c6]) (by simp [results, Tryz.results81, go_sem, d0, d1, d2]) rfl ?_
    refine ⟨set3_below hB5 (by omega), _, rfl, ?_⟩
    rw [hr]
    exact (hx5.set3 k35 (.bool t5) (.slice A5 l5 c5) (.slice A6 l6 c6)).more (by rw [show (World.setCell _ _ _) = set3 w5 (w.heap.size + 1 + 1) (.bool t5) (.slice A5 l5 c5) (.slice A6 l6 c6) from rfl, set3_size]; exact Nat.le_refl _)
  · have hsb : (s1 == s2) = false := by simpa using hs
    have hcm := cmp_any x y _ _ w3 hy13 hy23 (by omega)
    by_cases hxy : y ≤ x
    · have hr := R2.out hs hxy
      have hz : 0 ≤ cmpN x y := by unfold cmpN; rw [if_neg (by omega)]; split <;> omega
      have hsz4 : (limbs (x - y)).length ≤ 500000000000 := by have := len_mono (Nat.sub_le x y); omega
      have HXY := Lib.hid hxy
      generalize cmpN x y = z at *
      have HC := Lib.hid hcm
      have HRR := Lib.hid hr
      clear R1 R2 R3 hxy hs hcm hr
      go_wp2_with fail
      refine HC.out.mono ?_
      rintro e w4' ⟨rfl, nq, rfl⟩
      have hr := HRR.out
      clear g0 g1 g2 i0 i1 i2
      replace hy13 := hy13.drewN nq
      replace hy23 := hy23.drewN nq
      replace hx3 := hx3.drewN nq
      replace k13 := k13.drewN nq
      replace k23 := k23.drewN nq
      replace k33 := k33.drewN nq
      replace hB3 := below_drewN hB3 nq
      clear hb3
      clear HC
      generalize w3.drewN nq = wc at *
      obtain ⟨g0, g1, g2⟩ := bk3 k13
      obtain ⟨i0, i1, i2⟩ := bk3 k23
      go_wp2_with fail
      go_region_held3 (fun w' => w'.cell? ⟨w.heap.size, 0, none⟩ = some (.bool s1)) (first | exact k14.cell 0 | exact k15.cell 0 | exact kk1.cell 0 | go_keep)
        (first
          | (go_at_call 144; ((with_reducible refine (sub_any x y _ _ _ hy13.drew hy23.drew HXY.out (by omega)).mono ?_)); rintro e w4 ⟨hb4, x4, rfl, hx4⟩; have k14 := k13.drew.below hb4 k13.lt; have k34 := k33.drew.below hb4 k33.lt; have hB4 := hB3.drew.trans (hb4.mono hB3.size))
          | (go_at_call 79; ((with_reducible refine (make_any _ (x - y) d _ _ _ hd0 hx4 (hx3.drew.next hb4) hsz4 hsz3).mono ?_)); rintro e w5 ⟨hb5, x5, rfl, hx5⟩; have k15 := k14.below hb5 k14.lt; have k35 := k34.below hb5 k34.lt; have hB5 := hB4.trans (hb5.mono hB4.size); obtain ⟨t5, A5, l5, c5, A6, l6, c6, rfl⟩ := hx5.form; obtain ⟨d0, d1, d2⟩ := bk3 k35; have f0 := k35.frozen 0; have f1 := k35.frozen 1; have f2 := k35.frozen 2; have kk1 := bk_far3 (b' := w.heap.size + 1 + 1) (x := .bool t5) (y := .slice A5 l5 c5) (z := .slice A6 l6 c6) k15 (by omega)))
      go_wp2
      refine bodyPost_ret (v := .agg #[.bool t5, .slice A5 l5 c5, .slice A6 l6 c6]) (by simp [results, Tryz.results81, go_sem, d0, d1, d2]) rfl ?_
      refine ⟨set3_below hB5 (by omega), _, rfl, ?_⟩
      rw [hr]
      exact (hx5.set3 k35 (.bool t5) (.slice A5 l5 c5) (.slice A6 l6 c6)).more (by rw [show (World.setCell _ _ _) = set3 w5 (w.heap.size + 1 + 1) (.bool t5) (.slice A5 l5 c5) (.slice A6 l6 c6) from rfl, set3_size]; exact Nat.le_refl _)
    · have hr := R3.out hs (by omega)
      have hz : cmpN x y = -1 := cmpN_lt (by omega)
      have hsz4 : (limbs (y - x)).length ≤ 500000000000 := by have := len_mono (Nat.sub_le y x); omega
      have HXY : Hid (x ≤ y) := (show x ≤ y by omega)
      rw [hz] at hcm
      have HC := Lib.hid hcm
      have HRR := Lib.hid hr
      clear R1 R2 R3 hxy hs hcm hr hz
      go_wp2_with fail
      refine HC.out.mono ?_
      rintro e w4' ⟨rfl, nq, rfl⟩
      have hr := HRR.out
      clear g0 g1 g2 i0 i1 i2
      replace hy13 := hy13.drewN nq
      replace hy23 := hy23.drewN nq
      replace hx3 := hx3.drewN nq
      replace k13 := k13.drewN nq
      replace k23 := k23.drewN nq
      replace k33 := k33.drewN nq
      replace hB3 := below_drewN hB3 nq
      clear hb3
      clear HC
      generalize w3.drewN nq = wc at *
      obtain ⟨g0, g1, g2⟩ := bk3 k13
      obtain ⟨i0, i1, i2⟩ := bk3 k23
      go_wp2_with fail
      go_region_held3 (fun w' => w'.cell? ⟨w.heap.size + 1, 0, none⟩ = some (.bool s2)) (first | exact k14.cell 0 | exact k15.cell 0 | exact kk1.cell 0 | go_keep)
        (first
          | (go_at_call 144; ((with_reducible refine (sub_any y x _ _ _ hy23.drew hy13.drew HXY.out (by omega)).mono ?_)); rintro e w4 ⟨hb4, x4, rfl, hx4⟩; have k14 := k23.drew.below hb4 k23.lt; have k34 := k33.drew.below hb4 k33.lt; have hB4 := hB3.drew.trans (hb4.mono hB3.size))
          | (go_at_call 79; ((with_reducible refine (make_any _ (y - x) d _ _ _ hd0 hx4 (hx3.drew.next hb4) hsz4 hsz3).mono ?_)); rintro e w5 ⟨hb5, x5, rfl, hx5⟩; have k15 := k14.below hb5 k14.lt; have k35 := k34.below hb5 k34.lt; have hB5 := hB4.trans (hb5.mono hB4.size); obtain ⟨t5, A5, l5, c5, A6, l6, c6, rfl⟩ := hx5.form; obtain ⟨d0, d1, d2⟩ := bk3 k35; have f0 := k35.frozen 0; have f1 := k35.frozen 1; have f2 := k35.frozen 2; have kk1 := bk_far3 (b' := w.heap.size + 1 + 1) (x := .bool t5) (y := .slice A5 l5 c5) (z := .slice A6 l6 c6) k15 (by omega)))
      go_wp2
      refine bodyPost_ret (v := .agg #[.bool t5, .slice A5 l5 c5, .slice A6 l6 c6]) (by simp [results, Tryz.results81, go_sem, d0, d1, d2]) rfl ?_
      refine ⟨set3_below hB5 (by omega), _, rfl, ?_⟩
      rw [hr]
      exact (hx5.set3 k35 (.bool t5) (.slice A5 l5 c5) (.slice A6 l6 c6)).more (by rw [show (World.setCell _ _ _) = set3 w5 (w.heap.size + 1 + 1) (.bool t5) (.slice A5 l5 c5) (.slice A6 l6 c6) from rfl, set3_size]; exact Nat.le_refl _)
end Go.Proofs.YtpkhgdnkkdhlcaaGreatDoor

