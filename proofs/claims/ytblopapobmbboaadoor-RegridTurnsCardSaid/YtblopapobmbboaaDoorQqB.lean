/-
  Walks: the reference's rational numbers: Plus.
-/
import Derived.Test.YtblopapobmbboaaDoorQqA
import Derived.Test.YtblopapobmbboaaDoorFracE
namespace Go.Proofs.YtblopapobmbboaaDoor
open Go.RowKit Ar

theorem IsN.drew'' {w : World} {k : IntKind} {v : Value} {n : Nat} (h : IsN w w.heap.size k v n) : IsN w.drew w.drew.heap.size k v n := h
/-- Two operands and the result in blocks of the call's own. -/
structure P2 (w : World) (u1 u2 u3 v1 v2 v3 : Value) (W : World) : Prop where
  below : Below w.heap.size w W
  k1 : Bk W w.heap.size 35 #[u1, u2, u3]
  k2 : Bk W (w.heap.size + 1) 35 #[v1, v2, v3]
  k3 : Bk W (w.heap.size + 1 + 1) 35 #[.bool false, .slice none 0 0, .slice none 0 0]
section
variable {w W W' : World} {u1 u2 u3 v1 v2 v3 : Value}
theorem P2.next (h : P2 w u1 u2 u3 v1 v2 v3 W) (hb : Below W.heap.size W W') : P2 w u1 u2 u3 v1 v2 v3 W' :=
  ⟨h.below.trans (hb.mono h.below.size), h.k1.below hb h.k1.lt, h.k2.below hb h.k2.lt, h.k3.below hb h.k3.lt⟩
theorem P2.drew (h : P2 w u1 u2 u3 v1 v2 v3 W) : P2 w u1 u2 u3 v1 v2 v3 W.drew := ⟨h.below.drew, h.k1.drew, h.k2.drew, h.k3.drew⟩
theorem P2.drewN (h : P2 w u1 u2 u3 v1 v2 v3 W) (n : Nat) : P2 w u1 u2 u3 v1 v2 v3 (W.drewN n) := ⟨below_drewN h.below n, h.k1.drewN n, h.k2.drewN n, h.k3.drewN n⟩
theorem P2.start (w : World) (u1 u2 u3 v1 v2 v3 : Value) : P2 w u1 u2 u3 v1 v2 v3 (((w.alloc (.cells #[u1, u2, u3] 35)).alloc (.cells #[v1, v2, v3] 35)).alloc (.cells #[.bool false, .slice none 0 0, .slice none 0 0] 35)) :=
  ⟨((below_alloc w _).alloc (by simp) _).alloc (by simp; omega) _, ((Bk.new _ _ _).alloc _).alloc _, (by simpa using ((Bk.new (w.alloc _) _ _).alloc _)), (by simpa using (Bk.new ((w.alloc _).alloc _) _ _))⟩
theorem P2.cells (h : P2 w u1 u2 u3 v1 v2 v3 W) : W.cell? ⟨w.heap.size, 0, none⟩ = some u1 ∧ W.cell? ⟨w.heap.size, 1, none⟩ = some u2 ∧ W.cell? ⟨w.heap.size, 2, none⟩ = some u3 ∧
    W.cell? ⟨w.heap.size + 1, 0, none⟩ = some v1 ∧ W.cell? ⟨w.heap.size + 1, 1, none⟩ = some v2 ∧ W.cell? ⟨w.heap.size + 1, 2, none⟩ = some v3 := bk6 h.k1 h.k2
end
/-- The end of a walk that stores its result. -/
theorem IsQ.stored {w W : World} {b : Nat} {s : Bool} {A A' : Option Addr} {l c l' c' : Nat} {q : Rat} (h : IsQ W W.heap.size (.agg #[.bool s, .slice A l c, .slice A' l' c']) q) (hk : Bk W b 35 #[.bool false, .slice none 0 0, .slice none 0 0]) (hb : Below w.heap.size w W) (hw : w.heap.size ≤ b) :
    Below w.heap.size w (((W.setCell ⟨b, 0, none⟩ (.bool s)).setCell ⟨b, 1, none⟩ (.slice A l c)).setCell ⟨b, 2, none⟩ (.slice A' l' c')) ∧
      IsQ (((W.setCell ⟨b, 0, none⟩ (.bool s)).setCell ⟨b, 1, none⟩ (.slice A l c)).setCell ⟨b, 2, none⟩ (.slice A' l' c')) (((W.setCell ⟨b, 0, none⟩ (.bool s)).setCell ⟨b, 1, none⟩ (.slice A l c)).setCell ⟨b, 2, none⟩ (.slice A' l' c')).heap.size (.agg #[.bool s, .slice A l c, .slice A' l' c']) q := by
  refine ⟨set3_below hb hw, ?_⟩
  exact (h.set3 hk (.bool s) (.slice A l c) (.slice A' l' c')).more (by rw [show (World.setCell _ _ _) = Go.Proofs.YtblopapobmbboaaDoor.set3 W b (.bool s) (.slice A l c) (.slice A' l' c') from rfl, set3_size]; exact Nat.le_refl _)

set_option maxRecDepth 100000 in
set_option maxHeartbeats 6400000 in
theorem qplus_any (p q : Rat) (v u : Value) (w : World) (h : IsQ w w.heap.size v p) (h' : IsQ w w.heap.size u q) (hl : sz p ≤ 100000000000) (hl' : sz q ≤ 100000000000) :
    Calls Tryd.prog 38 #[v, u] w fun e w' => Below w.heap.size w w' ∧ ∃ v, e = .returned v ∧ IsQ w' w'.heap.size v (p + q) := by
  have hp := h
  have hq := h'
  obtain ⟨N1, D1, d1, rfl, hN1, hD1, _⟩ := h
  obtain ⟨N2, D2, d2, rfl, hN2, hD2, _⟩ := h'
  obtain ⟨A1, l1, c1, rfl⟩ := hN1.form
  obtain ⟨A2, l2, c2, rfl⟩ := hD1.form
  obtain ⟨A3, l3, c3, rfl⟩ := hN2.form
  obtain ⟨A4, l4, c4, rfl⟩ := hD2.form
  have DP : Hid (∀ X, Below w.heap.size w X → Calls Tryd.prog 64 #[.agg #[.bool (sg p), .slice A1 l1 c1, .slice A2 l2 c2]] X fun e w' => Below X.heap.size X w' ∧ ∃ v, e = .returned v ∧ IsN w' w'.heap.size .u64 v (dn p)) := fun X hX => qden_any p _ X (hp.next hX) (by omega)
  have DQ : Hid (∀ X, Below w.heap.size w X → Calls Tryd.prog 64 #[.agg #[.bool (sg q), .slice A3 l3 c3, .slice A4 l4 c4]] X fun e w' => Below X.heap.size X w' ∧ ∃ v, e = .returned v ∧ IsN w' w'.heap.size .u64 v (dn q)) := fun X hX => qden_any q _ X (hq.next hX) (by omega)
  have MA : Hid (∀ X y, Below w.heap.size w X → IsN X X.heap.size .u64 y (dn q) → Calls Tryd.prog 63 #[.slice A1 l1 c1, y] X fun e w' => Below X.heap.size X w' ∧ ∃ v, e = .returned v ∧ IsN w' w'.heap.size .u64 v (nm p * dn q)) := fun X y hX hy => nmul_any _ _ _ _ X (hN1.next hX) hy (by have := sz_nm p; omega) (by have := sz_dn q; omega)
  have MB : Hid (∀ X y, Below w.heap.size w X → IsN X X.heap.size .u64 y (dn p) → Calls Tryd.prog 63 #[.slice A3 l3 c3, y] X fun e w' => Below X.heap.size X w' ∧ ∃ v, e = .returned v ∧ IsN w' w'.heap.size .u64 v (nm q * dn p)) := fun X y hX hy => nmul_any _ _ _ _ X (hN2.next hX) hy (by have := sz_nm q; omega) (by have := sz_dn p; omega)
  have MD : Hid (∀ X y z, IsN X X.heap.size .u64 y (dn p) → IsN X X.heap.size .u64 z (dn q) → Calls Tryd.prog 63 #[y, z] X fun e w' => Below X.heap.size X w' ∧ ∃ v, e = .returned v ∧ IsN w' w'.heap.size .u64 v (dn p * dn q)) := fun X y z hy hz => nmul_any _ _ _ _ X hy hz (by have := sz_dn p; omega) (by have := sz_dn q; omega)
  have hsz1 : (limbs (nm p * dn q)).length ≤ 200000000000 := by have := len_mul_le (nm p) (dn q); have := sz_nm p; have := sz_dn q; omega
  have hsz2 : (limbs (nm q * dn p)).length ≤ 200000000000 := by have := len_mul_le (nm q) (dn p); have := sz_nm q; have := sz_dn p; omega
  have hsz3 : (limbs (dn p * dn q)).length ≤ 400000000000 := by have := len_mul_le (dn p) (dn q); have := sz_dn p; have := sz_dn q; omega
  have R1 := Lib.hid (add_same p q)
  have R2 := Lib.hid (add_ge p q)
  have R3 := Lib.hid (add_lt p q)
  clear hN1 hN2 hD1 hD2 hl hl' hp hq
  generalize sg p = s1 at *
  generalize sg q = s2 at *
  generalize nm p * dn q = x at *
  generalize nm q * dn p = y at *
  generalize dn p * dn q = d at *
  go_enter Tryd.func38, Tryd.ntmps38
  go_wp2_with fail
  refine wp_name (fun W => P2 w (.bool s1) (.slice A1 l1 c1) (.slice A2 l2 c2) (.bool s2) (.slice A3 l3 c3) (.slice A4 l4 c4) W) (P2.start _ _ _ _ _ _ _) ?_
  intro W Z0
  have C0 := Z0.cells
  go_region_held3 (fun w' => w'.cell? ⟨w.heap.size, 0, none⟩ = some (.bool s1) ∧ w'.cell? ⟨w.heap.size, 1, none⟩ = some (.slice A1 l1 c1) ∧ w'.cell? ⟨w.heap.size, 2, none⟩ = some (.slice A2 l2 c2) ∧
      w'.cell? ⟨w.heap.size + 1, 0, none⟩ = some (.bool s2) ∧ w'.cell? ⟨w.heap.size + 1, 1, none⟩ = some (.slice A3 l3 c3) ∧ w'.cell? ⟨w.heap.size + 1, 2, none⟩ = some (.slice A4 l4 c4))
    (first | with_reducible exact Z1.cells | with_reducible exact Z2.cells | with_reducible exact Z3.cells | with_reducible exact Z4.cells | go_keep)
    (first
      | (go_at_call 64; ((with_reducible refine (DQ.out _ Z0.drew.below).mono ?_)); rintro e w1 ⟨hb1, x1, rfl, hx1⟩; have Z1 := Z0.drew.next hb1)
      | (go_at_call 63; ((with_reducible refine (MA.out _ _ Z1.below hx1).mono ?_)); rintro e w2 ⟨hb2, x2, rfl, hx2⟩; have Z2 := Z1.next hb2)
      | (go_at_call 64; ((with_reducible refine (DP.out _ Z2.below).mono ?_)); rintro e w3 ⟨hb3, x3, rfl, hx3⟩; have Z3 := Z2.next hb3)
      | (go_at_call 63; ((with_reducible refine (MB.out _ _ Z3.below hx3).mono ?_)); rintro e w4 ⟨hb4, x4, rfl, hx4⟩; have Z4 := Z3.next hb4))
  have ha4 := (hx2.next hb3).next hb4
  clear hx1 hx2 hx3 hb1 hb2 hb3 hb4 Z0 Z1 Z2 Z3 C0
  have C4 := Z4.cells
  obtain ⟨g0, g1, g2, i0, i1, i2⟩ := C4
  go_wp2_with fail
  go_region_held3 (fun w' => w'.cell? ⟨w.heap.size, 0, none⟩ = some (.bool s1) ∧ w'.cell? ⟨w.heap.size, 1, none⟩ = some (.slice A1 l1 c1) ∧ w'.cell? ⟨w.heap.size, 2, none⟩ = some (.slice A2 l2 c2) ∧
      w'.cell? ⟨w.heap.size + 1, 0, none⟩ = some (.bool s2) ∧ w'.cell? ⟨w.heap.size + 1, 1, none⟩ = some (.slice A3 l3 c3) ∧ w'.cell? ⟨w.heap.size + 1, 2, none⟩ = some (.slice A4 l4 c4))
    (first | with_reducible exact Z5.cells | with_reducible exact Z6.cells | with_reducible exact Z7.cells | go_keep)
    (first
      | (go_at_call 64; ((with_reducible refine (DP.out _ Z4.drew.below).mono ?_)); rintro e w5 ⟨hb5, x5, rfl, hx5⟩; have Z5 := Z4.drew.next hb5)
      | (go_at_call 64; ((with_reducible refine (DQ.out _ Z5.below).mono ?_)); rintro e w6 ⟨hb6, x6, rfl, hx6⟩; have Z6 := Z5.next hb6)
      | (go_at_call 63; ((with_reducible refine (MD.out _ _ _ (hx5.next hb6) hx6).mono ?_)); rintro e w7 ⟨hb7, x7, rfl, hx7⟩; have Z7 := Z6.next hb7))
  have ha7 := ((ha4.drew''.next hb5).next hb6).next hb7
  have hb7' := ((hx4.drew''.next hb5).next hb6).next hb7
  clear hx5 hx6 hb5 hb6 hb7 Z4 Z5 Z6 ha4 hx4 g0 g1 g2 i0 i1 i2 DP DQ MA MB MD
  obtain ⟨g0, g1, g2, i0, i1, i2⟩ := Z7.cells
  have hlt := Z7.k3.lt
  by_cases hs : s1 = s2
  · have hr := Lib.hid (R1.out hs)
    subst hs
    clear R1 R2 R3
    have hsz4 : (limbs (x + y)).length ≤ 400000000000 := by have := len_add_le x y; omega
    go_wp2_with fail
    go_region_held3 (fun w' => w'.cell? ⟨w.heap.size, 0, none⟩ = some (.bool s1)) (first | exact ka5.cell 0 | exact ka6.cell 0 | exact ka9.cell 0 | go_keep)
      (first
        | (go_at_call 65; ((with_reducible refine (nadd_any x y _ _ _ ha7.drew'' hb7'.drew'' (by omega) (by omega)).mono ?_)); rintro e w8 ⟨hb8, x8, rfl, hx8⟩; have Z8 := Z7.drew.next hb8; have ka5 := Z8.k1)
        | (go_at_call 30; ((with_reducible refine (qmake_any _ (x + y) d _ _ _ hx8 (hx7.drew''.next hb8) (by omega) hsz3).mono ?_)); rintro e w9 ⟨hb9, x9, rfl, hx9⟩; have Z9 := Z8.next hb9; have ka6 := Z9.k1; obtain ⟨t5, A5, l5, c5, A6, l6, c6, rfl⟩ := hx9.form; obtain ⟨e0, e1, e2⟩ := bk3 Z9.k3; have f0 := Z9.k3.frozen 0; have f1 := Z9.k3.frozen 1; have f2 := Z9.k3.frozen 2; have ka9 := bk_far3 (b' := w.heap.size + 1 + 1) (x := .bool t5) (y := .slice A5 l5 c5) (z := .slice A6 l6 c6) Z9.k1 (by omega)))
    go_wp2
    refine bodyPost_ret (v := .agg #[.bool t5, .slice A5 l5 c5, .slice A6 l6 c6]) (by simp [results, Tryd.results38, go_sem, e0, e1, e2]) rfl ?_
    have ST := hx9.stored (w := w) Z9.k3 Z9.below (by omega)
    refine ⟨ST.1, _, rfl, ?_⟩
    rw [hr.out]
    exact ST.2
  · have hsb : (s1 == s2) = false := by simpa using hs
    have hcm := ncmp_any x y _ _ w7 ha7 hb7' (by omega)
    by_cases hxy : y ≤ x
    · have hr := Lib.hid (R2.out hs hxy)
      have hz : 0 ≤ cmpN x y := by unfold cmpN; rw [if_neg (by omega)]; split <;> omega
      have hsz4 : (limbs (x - y)).length ≤ 400000000000 := by have := len_mono (Nat.sub_le x y); omega
      have HXY := Lib.hid hxy
      generalize cmpN x y = z at *
      clear R1 R2 R3 hxy hs
      go_wp2_with fail
      refine hcm.mono ?_
      rintro e w8' ⟨rfl, nq, rfl⟩
      clear g0 g1 g2 i0 i1 i2 hcm
      replace ha7 := ha7.drewN nq
      replace hb7' := hb7'.drewN nq
      replace hx7 := hx7.drewN nq
      replace Z7 := Z7.drewN nq
      generalize w7.drewN nq = wc at *
      obtain ⟨g0, g1, g2, i0, i1, i2⟩ := Z7.cells
      have hlt := Z7.k3.lt
      go_wp2_with fail
      go_region_held3 (fun w' => w'.cell? ⟨w.heap.size, 0, none⟩ = some (.bool s1)) (first | exact ka5.cell 0 | exact ka6.cell 0 | exact ka9.cell 0 | go_keep)
        (first
          | (go_at_call 67; ((with_reducible refine (nsub_any x y _ _ _ ha7.drew'' hb7'.drew'' HXY.out (by omega)).mono ?_)); rintro e w8 ⟨hb8, x8, rfl, hx8, _⟩; have Z8 := Z7.drew.next hb8; have ka5 := Z8.k1)
          | (go_at_call 30; ((with_reducible refine (qmake_any _ (x - y) d _ _ _ hx8 (hx7.drew''.next hb8) (by omega) hsz3).mono ?_)); rintro e w9 ⟨hb9, x9, rfl, hx9⟩; have Z9 := Z8.next hb9; have ka6 := Z9.k1; obtain ⟨t5, A5, l5, c5, A6, l6, c6, rfl⟩ := hx9.form; obtain ⟨e0, e1, e2⟩ := bk3 Z9.k3; have f0 := Z9.k3.frozen 0; have f1 := Z9.k3.frozen 1; have f2 := Z9.k3.frozen 2; have ka9 := bk_far3 (b' := w.heap.size + 1 + 1) (x := .bool t5) (y := .slice A5 l5 c5) (z := .slice A6 l6 c6) Z9.k1 (by omega)))
      go_wp2
      refine bodyPost_ret (v := .agg #[.bool t5, .slice A5 l5 c5, .slice A6 l6 c6]) (by simp [results, Tryd.results38, go_sem, e0, e1, e2]) rfl ?_
      have ST := hx9.stored (w := w) Z9.k3 Z9.below (by omega)
      refine ⟨ST.1, _, rfl, ?_⟩
      rw [hr.out]
      exact ST.2

    · have hr := Lib.hid (R3.out hs (by omega))
      have hz : cmpN x y = -1 := cmpN_lt (by omega)
      have hsz4 : (limbs (y - x)).length ≤ 400000000000 := by have := len_mono (Nat.sub_le y x); omega
      have HXY : Hid (x ≤ y) := (show x ≤ y by omega)
      rw [hz] at hcm
      clear R1 R2 R3 hxy hs hz
      go_wp2_with fail
      refine hcm.mono ?_
      rintro e w8' ⟨rfl, nq, rfl⟩
      clear g0 g1 g2 i0 i1 i2 hcm
      replace ha7 := ha7.drewN nq
      replace hb7' := hb7'.drewN nq
      replace hx7 := hx7.drewN nq
      replace Z7 := Z7.drewN nq
      generalize w7.drewN nq = wc at *
      obtain ⟨g0, g1, g2, i0, i1, i2⟩ := Z7.cells
      have hlt := Z7.k3.lt
      go_wp2_with fail
      go_region_held3 (fun w' => w'.cell? ⟨w.heap.size + 1, 0, none⟩ = some (.bool s2)) (first | exact ka5.cell 0 | exact ka6.cell 0 | exact ka9.cell 0 | go_keep)
        (first
          | (go_at_call 67; ((with_reducible refine (nsub_any y x _ _ _ hb7'.drew'' ha7.drew'' HXY.out (by omega)).mono ?_)); rintro e w8 ⟨hb8, x8, rfl, hx8, _⟩; have Z8 := Z7.drew.next hb8; have ka5 := Z8.k2)
          | (go_at_call 30; ((with_reducible refine (qmake_any _ (y - x) d _ _ _ hx8 (hx7.drew''.next hb8) (by omega) hsz3).mono ?_)); rintro e w9 ⟨hb9, x9, rfl, hx9⟩; have Z9 := Z8.next hb9; have ka6 := Z9.k2; obtain ⟨t5, A5, l5, c5, A6, l6, c6, rfl⟩ := hx9.form; obtain ⟨e0, e1, e2⟩ := bk3 Z9.k3; have f0 := Z9.k3.frozen 0; have f1 := Z9.k3.frozen 1; have f2 := Z9.k3.frozen 2; have ka9 := bk_far3 (b' := w.heap.size + 1 + 1) (x := .bool t5) (y := .slice A5 l5 c5) (z := .slice A6 l6 c6) Z9.k2 (by omega)))
      go_wp2
      refine bodyPost_ret (v := .agg #[.bool t5, .slice A5 l5 c5, .slice A6 l6 c6]) (by simp [results, Tryd.results38, go_sem, e0, e1, e2]) rfl ?_
      have ST := hx9.stored (w := w) Z9.k3 Z9.below (by omega)
      refine ⟨ST.1, _, rfl, ?_⟩
      rw [hr.out]
      exact ST.2
end Go.Proofs.YtblopapobmbboaaDoor
