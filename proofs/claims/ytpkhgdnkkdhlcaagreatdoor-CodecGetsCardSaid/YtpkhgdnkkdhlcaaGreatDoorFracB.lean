/-
  Walks: package ratio's fractions: Int, Mul, Div, Minus, Sign, Add, Sub, Cmp.
-/
import Derived.Test.YtpkhgdnkkdhlcaaGreatDoorFracU
namespace Go.Proofs.YtpkhgdnkkdhlcaaGreatDoor
open Go.RowKit Ar

/-- The size of a fraction. -/
def sz (q : Rat) : Nat := max (limbs (nm q)).length (limbs (dn q)).length
theorem sz_nm (q : Rat) : (limbs (nm q)).length ≤ sz q := Nat.le_max_left _ _
theorem sz_dn (q : Rat) : (limbs (dn q)).length ≤ sz q := Nat.le_max_right _ _

theorem below_drew {B : Nat} {a w : World} (h : Below B a w) : Below B a w.drew := h.drew

/-- The world under one name. -/
theorem wp_name {P : Program} {c : Code} {Q : Exit → Act → World → Prop} {a : Act} {w : World} (F : World → Prop) (hF : F w) (h : ∀ W, F W → c.wp P Q a W) : c.wp P Q a w := h w hF

theorem IsF.form {w : World} {B : Nat} {v : Value} {q : Rat} (h : IsF w B v q) : ∃ s A l c A' l' c', v = .agg #[.bool s, .slice A l c, .slice A' l' c'] := by
  obtain ⟨N, D, e, h1, h2⟩ := h
  obtain ⟨A, l, c, rfl⟩ := h1.form
  obtain ⟨A', l', c', rfl⟩ := h2.form
  exact ⟨_, _, _, _, _, _, _, e⟩
theorem bk3 {w : World} {b : Nat} {T : TypeId} {x y z : Value} (h : Bk w b T #[x, y, z]) : w.cell? ⟨b, 0, none⟩ = some x ∧ w.cell? ⟨b, 1, none⟩ = some y ∧ w.cell? ⟨b, 2, none⟩ = some z := ⟨h.cell 0, h.cell 1, h.cell 2⟩
theorem bk_far3 {w : World} {b b' : Nat} {T : TypeId} {cs : Array Value} {x y z : Value} (h : Bk w b T cs) (hne : b ≠ b') : Bk (set3 w b' x y z) b T cs := ((h.far (by exact hne) x).far (by exact hne) y).far (by exact hne) z
theorem bk6 {w : World} {b b' : Nat} {T T' : TypeId} {x y z x' y' z' : Value} (h : Bk w b T #[x, y, z]) (h' : Bk w b' T' #[x', y', z']) :
    w.cell? ⟨b, 0, none⟩ = some x ∧ w.cell? ⟨b, 1, none⟩ = some y ∧ w.cell? ⟨b, 2, none⟩ = some z ∧ w.cell? ⟨b', 0, none⟩ = some x' ∧ w.cell? ⟨b', 1, none⟩ = some y' ∧ w.cell? ⟨b', 2, none⟩ = some z' := ⟨h.cell 0, h.cell 1, h.cell 2, bk3 h'⟩

set_option maxRecDepth 100000 in
set_option maxHeartbeats 3200000 in
theorem fmul_any (p q : Rat) (v u : Value) (w : World) (h : IsF w w.heap.size v p) (h' : IsF w w.heap.size u q) (hl : sz p ≤ 200000000000) (hl' : sz q ≤ 200000000000) :
    Calls Tryz.prog 83 #[v, u] w fun e w' => Below w.heap.size w w' ∧ ∃ v, e = .returned v ∧ IsF w' w'.heap.size v (p * q) := by
  obtain ⟨N1, D1, rfl, hN1, hD1⟩ := h
  obtain ⟨N2, D2, rfl, hN2, hD2⟩ := h'
  obtain ⟨A1, l1, c1, rfl⟩ := hN1.form
  obtain ⟨A2, l2, c2, rfl⟩ := hD1.form
  obtain ⟨A3, l3, c3, rfl⟩ := hN2.form
  obtain ⟨A4, l4, c4, rfl⟩ := hD2.form
  go_enter Tryz.func83, Tryz.ntmps83
  go_wp2_with fail
  refine wp_name (fun W => Below w.heap.size w W ∧ Bk W w.heap.size 102 #[.bool (sg p), .slice A1 l1 c1, .slice A2 l2 c2] ∧ Bk W (w.heap.size + 1) 102 #[.bool (sg q), .slice A3 l3 c3, .slice A4 l4 c4] ∧
    Bk W (w.heap.size + 1 + 1) 102 #[.bool false, .slice none 0 0, .slice none 0 0]) ⟨((below_alloc w _).alloc (by simp) _).alloc (by simp; omega) _, ((Bk.new _ _ _).alloc _).alloc _, (by simpa using ((Bk.new (w.alloc _) _ _).alloc _)), (by simpa using (Bk.new ((w.alloc _).alloc _) _ _))⟩ ?_
  rintro W ⟨hB, k1, k2, k3⟩
  have HK1 := Lib.hid k1
  have HK2 := Lib.hid k2
  have HK3 := Lib.hid k3
  have a0 := k1.cell 0
  have a1 := k1.cell 1
  have a2 := k1.cell 2
  have b0 := k2.cell 0
  have b1 := k2.cell 1
  have b2 := k2.cell 2
  simp only [List.getElem?_toArray, List.getElem?_cons_zero, List.getElem?_cons_succ] at a0 a1 a2 b0 b1 b2
  have hlt := k3.lt
  have HB := Lib.hid hB
  have M1 : Hid (∀ X, Below w.heap.size w X → Calls Tryz.prog 141 #[.slice A1 l1 c1, .slice A3 l3 c3] X fun e w' => Below X.heap.size X w' ∧ ∃ v, e = .returned v ∧ IsN w' w'.heap.size .u32 v (nm p * nm q)) := fun X hX => mul_any _ _ _ _ X ((hN1.below hX).more hX.size) ((hN2.below hX).more hX.size) (by have := sz_nm p; omega) (by have := sz_nm q; omega)
  have M2 : Hid (∀ X, Below w.heap.size w X → Calls Tryz.prog 141 #[.slice A2 l2 c2, .slice A4 l4 c4] X fun e w' => Below X.heap.size X w' ∧ ∃ v, e = .returned v ∧ IsN w' w'.heap.size .u32 v (dn p * dn q)) := fun X hX => mul_any _ _ _ _ X ((hD1.below hX).more hX.size) ((hD2.below hX).more hX.size) (by have := sz_dn p; omega) (by have := sz_dn q; omega)
  have hsz1 : (limbs (nm p * nm q)).length ≤ 500000000000 := by have := len_mul_le (nm p) (nm q); have := sz_nm p; have := sz_nm q; omega
  have hsz2 : (limbs (dn p * dn q)).length ≤ 500000000000 := by have := len_mul_le (dn p) (dn q); have := sz_dn p; have := sz_dn q; omega
  have hd0 : 0 < dn p * dn q := Nat.mul_pos (dn_pos p) (dn_pos q)
  have HR := Lib.hid (mul_nr p q)
  clear k1 k2 k3 hB hN1 hN2 hD1 hD2 hl hl'
  generalize sg p = s1 at *
  generalize sg q = s2 at *
  generalize nm p * nm q = n at *
  generalize dn p * dn q = d at *
  go_region_held3 (fun w' => w'.cell? ⟨w.heap.size, 0, none⟩ = some (.bool s1) ∧ w'.cell? ⟨w.heap.size, 1, none⟩ = some (.slice A1 l1 c1) ∧ w'.cell? ⟨w.heap.size, 2, none⟩ = some (.slice A2 l2 c2) ∧
      w'.cell? ⟨w.heap.size + 1, 0, none⟩ = some (.bool s2) ∧ w'.cell? ⟨w.heap.size + 1, 1, none⟩ = some (.slice A3 l3 c3) ∧ w'.cell? ⟨w.heap.size + 1, 2, none⟩ = some (.slice A4 l4 c4)) (first | with_reducible exact bk6 k11 k21 | with_reducible exact bk6 k12 k22 | with_reducible exact bk6 k13 k23 | exact bk6 kk1 kk2 | go_keep)
    (first
      | (go_at_call 141; ((with_reducible refine (M1.out _ (HB.out.drew)).mono ?_)); rintro e w1 ⟨hb1, x1, rfl, hx1⟩; have k11 := HK1.out.drew.below hb1 HK1.out.lt; have k21 := HK2.out.drew.below hb1 HK2.out.lt; have hB1 := HB.out.drew.trans (hb1.mono HB.out.size))
      | (go_at_call 141; ((with_reducible refine (M2.out _ hB1).mono ?_)); rintro e w2 ⟨hb2, x2, rfl, hx2⟩; have k12 := k11.below hb2 k11.lt; have k22 := k21.below hb2 k21.lt; have hB2 := hB1.trans (hb2.mono hB1.size))
      | (go_at_call 79; ((with_reducible refine (make_any _ n d _ _ _ hd0 (hx1.next hb2) hx2 hsz1 hsz2).mono ?_)); rintro e w3 ⟨hb3, x3, rfl, hx3⟩; have k13 := k12.below hb3 k12.lt; have k23 := k22.below hb3 k22.lt; have hB3 := hB2.trans (hb3.mono hB2.size); have k33 := ((HK3.out.drew.below hb1 HK3.out.lt).below hb2 (Nat.lt_of_lt_of_le HK3.out.lt hb1.size)).below hb3 (Nat.lt_of_lt_of_le HK3.out.lt (Nat.le_trans hb1.size hb2.size)); obtain ⟨t3, A5, l5, c5, A6, l6, c6, rfl⟩ := hx3.form; obtain ⟨d0, d1, d2⟩ := bk3 k33; have f0 := k33.frozen 0; have f1 := k33.frozen 1; have f2 := k33.frozen 2; have kk1 := bk_far3 (b' := w.heap.size + 1 + 1) (x := .bool t3) (y := .slice A5 l5 c5) (z := .slice A6 l6 c6) k13 (by omega); have kk2 := bk_far3 (b' := w.heap.size + 1 + 1) (x := .bool t3) (y := .slice A5 l5 c5) (z := .slice A6 l6 c6) k23 (by omega)))
  go_wp2
  refine bodyPost_ret (v := .agg #[.bool t3, .slice A5 l5 c5, .slice A6 l6 c6]) (by simp [results, Tryz.results83, go_sem, d0, d1, d2]) rfl ?_
  refine ⟨set3_below hB3 (by omega), _, rfl, ?_⟩
  have e : p * q = nr (!s1 == s2) n d := HR.out
  rw [e]
  exact (hx3.set3 k33 (.bool t3) (.slice A5 l5 c5) (.slice A6 l6 c6)).more (by rw [show (World.setCell _ _ _) = set3 w3 (w.heap.size + 1 + 1) (.bool t3) (.slice A5 l5 c5) (.slice A6 l6 c6) from rfl, set3_size]; exact Nat.le_refl _)
set_option maxRecDepth 100000 in
set_option maxHeartbeats 3200000 in
theorem fdiv_any (p q : Rat) (v u : Value) (w : World) (hq0 : q ≠ 0) (h : IsF w w.heap.size v p) (h' : IsF w w.heap.size u q) (hl : sz p ≤ 200000000000) (hl' : sz q ≤ 200000000000) :
    Calls Tryz.prog 80 #[v, u] w fun e w' => Below w.heap.size w w' ∧ ∃ v, e = .returned v ∧ IsF w' w'.heap.size v (p / q) := by
  obtain ⟨N1, D1, rfl, hN1, hD1⟩ := h
  obtain ⟨N2, D2, rfl, hN2, hD2⟩ := h'
  obtain ⟨A1, l1, c1, rfl⟩ := hN1.form
  obtain ⟨A2, l2, c2, rfl⟩ := hD1.form
  obtain ⟨A3, l3, c3, rfl⟩ := hN2.form
  obtain ⟨A4, l4, c4, rfl⟩ := hD2.form
  go_enter Tryz.func80, Tryz.ntmps80
  go_wp2_with fail
  refine wp_name (fun W => Below w.heap.size w W ∧ Bk W w.heap.size 102 #[.bool (sg p), .slice A1 l1 c1, .slice A2 l2 c2] ∧ Bk W (w.heap.size + 1) 102 #[.bool (sg q), .slice A3 l3 c3, .slice A4 l4 c4] ∧
    Bk W (w.heap.size + 1 + 1) 102 #[.bool false, .slice none 0 0, .slice none 0 0]) ⟨((below_alloc w _).alloc (by simp) _).alloc (by simp; omega) _, ((Bk.new _ _ _).alloc _).alloc _, (by simpa using ((Bk.new (w.alloc _) _ _).alloc _)), (by simpa using (Bk.new ((w.alloc _).alloc _) _ _))⟩ ?_
  rintro W ⟨hB, k1, k2, k3⟩
  have HK1 := Lib.hid k1
  have HK2 := Lib.hid k2
  have HK3 := Lib.hid k3
  have a0 := k1.cell 0
  have a1 := k1.cell 1
  have a2 := k1.cell 2
  have b0 := k2.cell 0
  have b1 := k2.cell 1
  have b2 := k2.cell 2
  simp only [List.getElem?_toArray, List.getElem?_cons_zero, List.getElem?_cons_succ] at a0 a1 a2 b0 b1 b2
  have hlt := k3.lt
  have HB := Lib.hid hB
  have M1 : Hid (∀ X, Below w.heap.size w X → Calls Tryz.prog 141 #[.slice A1 l1 c1, .slice A4 l4 c4] X fun e w' => Below X.heap.size X w' ∧ ∃ v, e = .returned v ∧ IsN w' w'.heap.size .u32 v (nm p * dn q)) := fun X hX => mul_any _ _ _ _ X ((hN1.below hX).more hX.size) ((hD2.below hX).more hX.size) (by have := sz_nm p; omega) (by have := sz_dn q; omega)
  have M2 : Hid (∀ X, Below w.heap.size w X → Calls Tryz.prog 141 #[.slice A2 l2 c2, .slice A3 l3 c3] X fun e w' => Below X.heap.size X w' ∧ ∃ v, e = .returned v ∧ IsN w' w'.heap.size .u32 v (dn p * nm q)) := fun X hX => mul_any _ _ _ _ X ((hD1.below hX).more hX.size) ((hN2.below hX).more hX.size) (by have := sz_dn p; omega) (by have := sz_nm q; omega)
  have hsz1 : (limbs (nm p * dn q)).length ≤ 500000000000 := by have := len_mul_le (nm p) (dn q); have := sz_nm p; have := sz_dn q; omega
  have hsz2 : (limbs (dn p * nm q)).length ≤ 500000000000 := by have := len_mul_le (dn p) (nm q); have := sz_dn p; have := sz_nm q; omega
  have hd0 : 0 < dn p * nm q := Nat.mul_pos (dn_pos p) (Nat.pos_of_ne_zero fun e => hq0 (nm_zero.1 e))
  have HR := Lib.hid (div_nr p q hq0)
  clear k1 k2 k3 hB hN1 hN2 hD1 hD2 hl hl'
  generalize sg p = s1 at *
  generalize sg q = s2 at *
  generalize nm p * dn q = n at *
  generalize dn p * nm q = d at *
  go_region_held3 (fun w' => w'.cell? ⟨w.heap.size, 0, none⟩ = some (.bool s1) ∧ w'.cell? ⟨w.heap.size, 1, none⟩ = some (.slice A1 l1 c1) ∧ w'.cell? ⟨w.heap.size, 2, none⟩ = some (.slice A2 l2 c2) ∧
      w'.cell? ⟨w.heap.size + 1, 0, none⟩ = some (.bool s2) ∧ w'.cell? ⟨w.heap.size + 1, 1, none⟩ = some (.slice A3 l3 c3) ∧ w'.cell? ⟨w.heap.size + 1, 2, none⟩ = some (.slice A4 l4 c4)) (first | with_reducible exact bk6 k11 k21 | with_reducible exact bk6 k12 k22 | with_reducible exact bk6 k13 k23 | exact bk6 kk1 kk2 | go_keep)
    (first
      | (go_at_call 141; ((with_reducible refine (M1.out _ (HB.out.drew)).mono ?_)); rintro e w1 ⟨hb1, x1, rfl, hx1⟩; have k11 := HK1.out.drew.below hb1 HK1.out.lt; have k21 := HK2.out.drew.below hb1 HK2.out.lt; have hB1 := HB.out.drew.trans (hb1.mono HB.out.size))
      | (go_at_call 141; ((with_reducible refine (M2.out _ hB1).mono ?_)); rintro e w2 ⟨hb2, x2, rfl, hx2⟩; have k12 := k11.below hb2 k11.lt; have k22 := k21.below hb2 k21.lt; have hB2 := hB1.trans (hb2.mono hB1.size))
      | (go_at_call 79; ((with_reducible refine (make_any _ n d _ _ _ hd0 (hx1.next hb2) hx2 hsz1 hsz2).mono ?_)); rintro e w3 ⟨hb3, x3, rfl, hx3⟩; have k13 := k12.below hb3 k12.lt; have k23 := k22.below hb3 k22.lt; have hB3 := hB2.trans (hb3.mono hB2.size); have k33 := ((HK3.out.drew.below hb1 HK3.out.lt).below hb2 (Nat.lt_of_lt_of_le HK3.out.lt hb1.size)).below hb3 (Nat.lt_of_lt_of_le HK3.out.lt (Nat.le_trans hb1.size hb2.size)); obtain ⟨t3, A5, l5, c5, A6, l6, c6, rfl⟩ := hx3.form; obtain ⟨d0, d1, d2⟩ := bk3 k33; have f0 := k33.frozen 0; have f1 := k33.frozen 1; have f2 := k33.frozen 2; have kk1 := bk_far3 (b' := w.heap.size + 1 + 1) (x := .bool t3) (y := .slice A5 l5 c5) (z := .slice A6 l6 c6) k13 (by omega); have kk2 := bk_far3 (b' := w.heap.size + 1 + 1) (x := .bool t3) (y := .slice A5 l5 c5) (z := .slice A6 l6 c6) k23 (by omega)))
  go_wp2
  refine bodyPost_ret (v := .agg #[.bool t3, .slice A5 l5 c5, .slice A6 l6 c6]) (by simp [results, Tryz.results80, go_sem, d0, d1, d2]) rfl ?_
  refine ⟨set3_below hB3 (by omega), _, rfl, ?_⟩
  have e : p / q = nr (!s1 == s2) n d := HR.out
  rw [e]
  exact (hx3.set3 k33 (.bool t3) (.slice A5 l5 c5) (.slice A6 l6 c6)).more (by rw [show (World.setCell _ _ _) = set3 w3 (w.heap.size + 1 + 1) (.bool t3) (.slice A5 l5 c5) (.slice A6 l6 c6) from rfl, set3_size]; exact Nat.le_refl _)
end Go.Proofs.YtpkhgdnkkdhlcaaGreatDoor

