/-
  Walks: the reference's Prod, Quot; a number of the reference in a block.
-/
import Derived.Test.YtpkhgdnkkdhlcaaGreatDoorQqU
namespace Go.Proofs.YtpkhgdnkkdhlcaaGreatDoor
open Go.RowKit Ar

theorem quot_nr (p q : Rat) : p / q = nr (sg p != sg q) (nm p * dn q) (dn p * nm q) := by
  by_cases h : q = 0
  · subst h
    rw [Rat.div_def, Rat.inv_zero, Rat.mul_zero, nm_0, Nat.mul_zero]
    unfold nr
    exact (Rat.mkRat_zero _).symm
  · exact div_nr p q h

set_option maxRecDepth 100000 in
set_option maxHeartbeats 6400000 in
theorem qprod_any (p q : Rat) (v u : Value) (w : World) (h : IsQ w w.heap.size v p) (h' : IsQ w w.heap.size u q) (hl : sz p ≤ 200000000000) (hl' : sz q ≤ 200000000000) :
    Calls Tryz.prog 145 #[v, u] w fun e w' => Below w.heap.size w w' ∧ ∃ v, e = .returned v ∧ IsQ w' w'.heap.size v (p * q) := by
  have hp := h
  have hq := h'
  obtain ⟨N1, D1, d1, rfl, hN1, hD1, _⟩ := h
  obtain ⟨N2, D2, d2, rfl, hN2, hD2, _⟩ := h'
  obtain ⟨A1, l1, c1, rfl⟩ := hN1.form
  obtain ⟨A2, l2, c2, rfl⟩ := hD1.form
  obtain ⟨A3, l3, c3, rfl⟩ := hN2.form
  obtain ⟨A4, l4, c4, rfl⟩ := hD2.form
  have DP : Hid (∀ X, Below w.heap.size w X → Calls Tryz.prog 99 #[.agg #[.bool (sg p), .slice A1 l1 c1, .slice A2 l2 c2]] X fun e w' => Below X.heap.size X w' ∧ ∃ v, e = .returned v ∧ IsN w' w'.heap.size .u64 v (dn p)) := fun X hX => qden_any p _ X (hp.next hX) (by omega)
  have DQ : Hid (∀ X, Below w.heap.size w X → Calls Tryz.prog 99 #[.agg #[.bool (sg q), .slice A3 l3 c3, .slice A4 l4 c4]] X fun e w' => Below X.heap.size X w' ∧ ∃ v, e = .returned v ∧ IsN w' w'.heap.size .u64 v (dn q)) := fun X hX => qden_any q _ X (hq.next hX) (by omega)
  have M1 : Hid (∀ X, Below w.heap.size w X → Calls Tryz.prog 93 #[.slice A1 l1 c1, .slice A3 l3 c3] X fun e w' => Below X.heap.size X w' ∧ ∃ v, e = .returned v ∧ IsN w' w'.heap.size .u64 v (nm p * nm q)) := fun X hX => nmul_any _ _ _ _ X (hN1.next hX) (hN2.next hX) (by have := sz_nm p; omega) (by have := sz_nm q; omega)
  have M2 : Hid (∀ X y z, IsN X X.heap.size .u64 y (dn p) → IsN X X.heap.size .u64 z (dn q) → Calls Tryz.prog 93 #[y, z] X fun e w' => Below X.heap.size X w' ∧ ∃ v, e = .returned v ∧ IsN w' w'.heap.size .u64 v (dn p * dn q)) := fun X y z hy hz => nmul_any _ _ _ _ X hy hz (by have := sz_dn p; omega) (by have := sz_dn q; omega)
  have hsz1 : (limbs (nm p * nm q)).length ≤ 400000000000 := by have := len_mul_le (nm p) (nm q); have := sz_nm p; have := sz_nm q; omega
  have hsz2 : (limbs (dn p * dn q)).length ≤ 400000000000 := by have := len_mul_le (dn p) (dn q); have := sz_dn p; have := sz_dn q; omega
  have HR := Lib.hid (mul_nr p q)
  clear hN1 hN2 hD1 hD2 hl hl' hp hq
  generalize sg p = s1 at *
  generalize sg q = s2 at *
  generalize nm p * nm q = n at *
  generalize dn p * dn q = d at *
  go_enter Tryz.func145, Tryz.ntmps145
  go_wp2_with fail
  refine wp_name (fun W => P2 w (.bool s1) (.slice A1 l1 c1) (.slice A2 l2 c2) (.bool s2) (.slice A3 l3 c3) (.slice A4 l4 c4) W) (P2.start _ _ _ _ _ _ _) ?_
  intro W Z0
  have C0 := Z0.cells
  have hlt := Z0.k3.lt
  go_region_held3 (fun w' => w'.cell? ⟨w.heap.size, 0, none⟩ = some (.bool s1) ∧ w'.cell? ⟨w.heap.size, 1, none⟩ = some (.slice A1 l1 c1) ∧ w'.cell? ⟨w.heap.size, 2, none⟩ = some (.slice A2 l2 c2) ∧
      w'.cell? ⟨w.heap.size + 1, 0, none⟩ = some (.bool s2) ∧ w'.cell? ⟨w.heap.size + 1, 1, none⟩ = some (.slice A3 l3 c3) ∧ w'.cell? ⟨w.heap.size + 1, 2, none⟩ = some (.slice A4 l4 c4))
    (first | with_reducible exact Z1.cells | with_reducible exact Z2.cells | with_reducible exact Z3.cells | with_reducible exact Z4.cells | with_reducible exact Z5.cells | exact bk6 kk1 kk2 | go_keep)
    (first
      | (go_at_call 93; ((with_reducible refine (M1.out _ Z0.drew.below).mono ?_)); rintro e w1 ⟨hb1, x1, rfl, hx1⟩; have Z1 := Z0.drew.next hb1)
      | (go_at_call 99; ((with_reducible refine (DP.out _ Z1.below).mono ?_)); rintro e w2 ⟨hb2, x2, rfl, hx2⟩; have Z2 := Z1.next hb2)
      | (go_at_call 99; ((with_reducible refine (DQ.out _ Z2.below).mono ?_)); rintro e w3 ⟨hb3, x3, rfl, hx3⟩; have Z3 := Z2.next hb3)
      | (go_at_call 93; ((with_reducible refine (M2.out _ _ _ (hx2.next hb3) hx3).mono ?_)); rintro e w4 ⟨hb4, x4, rfl, hx4⟩; have Z4 := Z3.next hb4; have HN4 := ((hx1.next hb2).next hb3).next hb4; have HD4 := hx4)
      | (go_at_call 95; ((with_reducible refine (qmake_any _ n d _ _ _ HN4 HD4 hsz1 hsz2).mono ?_)); rintro e w5 ⟨hb5, x5, rfl, hx5⟩; have Z5 := Z4.next hb5; obtain ⟨t3, A5, l5, c5, A6, l6, c6, rfl⟩ := hx5.form; obtain ⟨e0, e1, e2⟩ := bk3 Z5.k3; have f0 := Z5.k3.frozen 0; have f1 := Z5.k3.frozen 1; have f2 := Z5.k3.frozen 2; have kk1 := bk_far3 (b' := w.heap.size + 1 + 1) (x := .bool t3) (y := .slice A5 l5 c5) (z := .slice A6 l6 c6) Z5.k1 (by omega); have kk2 := bk_far3 (b' := w.heap.size + 1 + 1) (x := .bool t3) (y := .slice A5 l5 c5) (z := .slice A6 l6 c6) Z5.k2 (by omega)))
  go_wp2
  refine bodyPost_ret (v := .agg #[.bool t3, .slice A5 l5 c5, .slice A6 l6 c6]) (by simp [results, Tryz.results145, go_sem, e0, e1, e2]) rfl ?_
  have ST := hx5.stored (w := w) Z5.k3 Z5.below (by omega)
  refine ⟨ST.1, _, rfl, ?_⟩
  have e : p * q = nr (!s1 == s2) n d := HR.out
  rw [e]
  exact ST.2

set_option maxRecDepth 100000 in
set_option maxHeartbeats 6400000 in
theorem qquot_any (p q : Rat) (v u : Value) (w : World) (h : IsQ w w.heap.size v p) (h' : IsQ w w.heap.size u q) (hl : sz p ≤ 200000000000) (hl' : sz q ≤ 200000000000) :
    Calls Tryz.prog 104 #[v, u] w fun e w' => Below w.heap.size w w' ∧ ∃ v, e = .returned v ∧ IsQ w' w'.heap.size v (p / q) := by
  have hp := h
  have hq := h'
  obtain ⟨N1, D1, d1, rfl, hN1, hD1, _⟩ := h
  obtain ⟨N2, D2, d2, rfl, hN2, hD2, _⟩ := h'
  obtain ⟨A1, l1, c1, rfl⟩ := hN1.form
  obtain ⟨A2, l2, c2, rfl⟩ := hD1.form
  obtain ⟨A3, l3, c3, rfl⟩ := hN2.form
  obtain ⟨A4, l4, c4, rfl⟩ := hD2.form
  have DP : Hid (∀ X, Below w.heap.size w X → Calls Tryz.prog 99 #[.agg #[.bool (sg p), .slice A1 l1 c1, .slice A2 l2 c2]] X fun e w' => Below X.heap.size X w' ∧ ∃ v, e = .returned v ∧ IsN w' w'.heap.size .u64 v (dn p)) := fun X hX => qden_any p _ X (hp.next hX) (by omega)
  have DQ : Hid (∀ X, Below w.heap.size w X → Calls Tryz.prog 99 #[.agg #[.bool (sg q), .slice A3 l3 c3, .slice A4 l4 c4]] X fun e w' => Below X.heap.size X w' ∧ ∃ v, e = .returned v ∧ IsN w' w'.heap.size .u64 v (dn q)) := fun X hX => qden_any q _ X (hq.next hX) (by omega)
  have M1 : Hid (∀ X y, Below w.heap.size w X → IsN X X.heap.size .u64 y (dn q) → Calls Tryz.prog 93 #[.slice A1 l1 c1, y] X fun e w' => Below X.heap.size X w' ∧ ∃ v, e = .returned v ∧ IsN w' w'.heap.size .u64 v (nm p * dn q)) := fun X y hX hy => nmul_any _ _ _ _ X (hN1.next hX) hy (by have := sz_nm p; omega) (by have := sz_dn q; omega)
  have M2 : Hid (∀ X y, Below w.heap.size w X → IsN X X.heap.size .u64 y (dn p) → Calls Tryz.prog 93 #[y, .slice A3 l3 c3] X fun e w' => Below X.heap.size X w' ∧ ∃ v, e = .returned v ∧ IsN w' w'.heap.size .u64 v (dn p * nm q)) := fun X y hX hy => nmul_any _ _ _ _ X hy (hN2.next hX) (by have := sz_dn p; omega) (by have := sz_nm q; omega)
  have hsz1 : (limbs (nm p * dn q)).length ≤ 400000000000 := by have := len_mul_le (nm p) (dn q); have := sz_nm p; have := sz_dn q; omega
  have hsz2 : (limbs (dn p * nm q)).length ≤ 400000000000 := by have := len_mul_le (dn p) (nm q); have := sz_dn p; have := sz_nm q; omega
  have HR := Lib.hid (quot_nr p q)
  clear hN1 hN2 hD1 hD2 hl hl' hp hq
  generalize sg p = s1 at *
  generalize sg q = s2 at *
  generalize nm p * dn q = n at *
  generalize dn p * nm q = d at *
  go_enter Tryz.func104, Tryz.ntmps104
  go_wp2_with fail
  refine wp_name (fun W => P2 w (.bool s1) (.slice A1 l1 c1) (.slice A2 l2 c2) (.bool s2) (.slice A3 l3 c3) (.slice A4 l4 c4) W) (P2.start _ _ _ _ _ _ _) ?_
  intro W Z0
  have C0 := Z0.cells
  have hlt := Z0.k3.lt
  go_region_held3 (fun w' => w'.cell? ⟨w.heap.size, 0, none⟩ = some (.bool s1) ∧ w'.cell? ⟨w.heap.size, 1, none⟩ = some (.slice A1 l1 c1) ∧ w'.cell? ⟨w.heap.size, 2, none⟩ = some (.slice A2 l2 c2) ∧
      w'.cell? ⟨w.heap.size + 1, 0, none⟩ = some (.bool s2) ∧ w'.cell? ⟨w.heap.size + 1, 1, none⟩ = some (.slice A3 l3 c3) ∧ w'.cell? ⟨w.heap.size + 1, 2, none⟩ = some (.slice A4 l4 c4))
    (first | with_reducible exact Z1.cells | with_reducible exact Z2.cells | with_reducible exact Z3.cells | with_reducible exact Z4.cells | with_reducible exact Z5.cells | exact bk6 kk1 kk2 | go_keep)
    (first
      | (go_at_call 99; ((with_reducible refine (DQ.out _ Z0.drew.below).mono ?_)); rintro e w1 ⟨hb1, x1, rfl, hx1⟩; have Z1 := Z0.drew.next hb1)
      | (go_at_call 93; ((with_reducible refine (M1.out _ _ Z1.below hx1).mono ?_)); rintro e w2 ⟨hb2, x2, rfl, hx2⟩; have Z2 := Z1.next hb2)
      | (go_at_call 99; ((with_reducible refine (DP.out _ Z2.below).mono ?_)); rintro e w3 ⟨hb3, x3, rfl, hx3⟩; have Z3 := Z2.next hb3)
      | (go_at_call 93; ((with_reducible refine (M2.out _ _ Z3.below hx3).mono ?_)); rintro e w4 ⟨hb4, x4, rfl, hx4⟩; have Z4 := Z3.next hb4; have HN4 := (hx2.next hb3).next hb4; have HD4 := hx4)
      | (go_at_call 95; ((with_reducible refine (qmake_any _ n d _ _ _ HN4 HD4 hsz1 hsz2).mono ?_)); rintro e w5 ⟨hb5, x5, rfl, hx5⟩; have Z5 := Z4.next hb5; obtain ⟨t3, A5, l5, c5, A6, l6, c6, rfl⟩ := hx5.form; obtain ⟨e0, e1, e2⟩ := bk3 Z5.k3; have f0 := Z5.k3.frozen 0; have f1 := Z5.k3.frozen 1; have f2 := Z5.k3.frozen 2; have kk1 := bk_far3 (b' := w.heap.size + 1 + 1) (x := .bool t3) (y := .slice A5 l5 c5) (z := .slice A6 l6 c6) Z5.k1 (by omega); have kk2 := bk_far3 (b' := w.heap.size + 1 + 1) (x := .bool t3) (y := .slice A5 l5 c5) (z := .slice A6 l6 c6) Z5.k2 (by omega)))
  go_wp2
  refine bodyPost_ret (v := .agg #[.bool t3, .slice A5 l5 c5, .slice A6 l6 c6]) (by simp [results, Tryz.results104, go_sem, e0, e1, e2]) rfl ?_
  have ST := hx5.stored (w := w) Z5.k3 Z5.below (by omega)
  refine ⟨ST.1, _, rfl, ?_⟩
  have e : p / q = nr (!s1 == s2) n d := HR.out
  rw [e]
  exact ST.2
/-- A number of the reference in a block. -/
def QAt (w : World) (b : Nat) (q : Rat) : Prop := ∃ s A l c A' l' c', Bk w b 74 #[.bool s, .slice A l c, .slice A' l' c'] ∧ IsQ w w.heap.size (.agg #[.bool s, .slice A l c, .slice A' l' c']) q
theorem QAt.next {w w' : World} {b : Nat} {q : Rat} (h : QAt w b q) (hb : Below w.heap.size w w') : QAt w' b q := by
  obtain ⟨s, A, l, c, A', l', c', h1, h2⟩ := h
  exact ⟨s, A, l, c, A', l', c', h1.below hb h1.lt, h2.next hb⟩
theorem QAt.lt {w : World} {b : Nat} {q : Rat} (h : QAt w b q) : b < w.heap.size := by
  obtain ⟨s, A, l, c, A', l', c', h1, h2⟩ := h
  exact h1.lt
section
variable {w : World} {s t : Bool} {A A' C C' : Option Addr} {l k l' k' n j n' j' : Nat} {p q : Rat} {b b2 : Nat}
theorem qatN (hp : IsQ w w.heap.size (.agg #[.bool s, .slice A l k, .slice A' l' k']) p) : QAt (w.alloc (.cells #[.bool s, .slice A l k, .slice A' l' k'] 74)) w.heap.size p :=
  ⟨_, _, _, _, _, _, _, Bk.new _ _ _, hp.next (below_alloc w _)⟩
theorem qatS (kA : Bk w b 74 #[.bool false, .slice none 0 0, .slice none 0 0]) (hp : IsQ w w.heap.size (.agg #[.bool s, .slice A l k, .slice A' l' k']) p) :
    QAt (((w.setCell ⟨b, 0, none⟩ (.bool s)).setCell ⟨b, 1, none⟩ (.slice A l k)).setCell ⟨b, 2, none⟩ (.slice A' l' k')) b p :=
  ⟨_, _, _, _, _, _, _, set3_bk kA, by
    have e := set3_size w b (.bool s) (.slice A l k) (.slice A' l' k')
    have hp1 := hp.set3 kA (.bool s) (.slice A l k) (.slice A' l' k')
    rw [← e] at hp1
    exact hp1⟩
end
end Go.Proofs.YtpkhgdnkkdhlcaaGreatDoor

