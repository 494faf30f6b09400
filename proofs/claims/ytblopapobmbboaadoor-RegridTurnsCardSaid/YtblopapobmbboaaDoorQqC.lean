/-
  Walks: the reference's rational numbers: Minus, Cmp, IntQ, Whole.
-/
import Derived.Test.YtblopapobmbboaaDoorQqB
import Derived.Test.YtblopapobmbboaaDoorRegV
namespace Go.Proofs.YtblopapobmbboaaDoor
open Go.RowKit Ar

set_option maxRecDepth 100000 in
set_option maxHeartbeats 3200000 in
theorem qminus_any (p q : Rat) (v u : Value) (w : World) (h : IsQ w w.heap.size v p) (h' : IsQ w w.heap.size u q) (hl : sz p ≤ 100000000000) (hl' : sz q ≤ 100000000000) :
    Calls Tryd.prog 32 #[v, u] w fun e w' => Below w.heap.size w w' ∧ ∃ v, e = .returned v ∧ IsQ w' w'.heap.size v (p - q) := by
  obtain ⟨s1, A1, l1, c1, A2, l2, c2, rfl⟩ := h.form
  obtain ⟨s2, A3, l3, c3, A4, l4, c4, rfl⟩ := h'.form
  have hR := Lib.hid (Rat.sub_eq_add_neg p q)
  have hl2 : sz (-q) ≤ 100000000000 := by rw [sz_neg]; exact hl'
  go_enter Tryd.func32, Tryd.ntmps32
  go_wp2_with fail
  refine wp_name (fun W => P2 w (.bool s1) (.slice A1 l1 c1) (.slice A2 l2 c2) (.bool s2) (.slice A3 l3 c3) (.slice A4 l4 c4) W) (P2.start _ _ _ _ _ _ _) ?_
  intro W Z0
  obtain ⟨g0, g1, g2, i0, i1, i2⟩ := Z0.cells
  have hlt := Z0.k3.lt
  have hp := (h.next Z0.below).drew
  have hq := (h'.next Z0.below).drew
  go_region_held3 (fun w' => w'.cell? ⟨w.heap.size, 0, none⟩ = some (.bool s1) ∧ w'.cell? ⟨w.heap.size, 1, none⟩ = some (.slice A1 l1 c1) ∧ w'.cell? ⟨w.heap.size, 2, none⟩ = some (.slice A2 l2 c2) ∧
      w'.cell? ⟨w.heap.size + 1, 0, none⟩ = some (.bool s2) ∧ w'.cell? ⟨w.heap.size + 1, 1, none⟩ = some (.slice A3 l3 c3) ∧ w'.cell? ⟨w.heap.size + 1, 2, none⟩ = some (.slice A4 l4 c4))
    (first | with_reducible exact Z1.cells | with_reducible exact Z2.cells | exact bk6 kk1 kk2 | go_keep)
    (first
      | (go_at_call 58; ((with_reducible refine (qopp_any q _ _ hq (by omega)).mono ?_)); rintro e w1 ⟨hb1, x1, rfl, hx1⟩; have Z1 := Z0.drew.next hb1; have hp1 := hp.next hb1)
      | (go_at_call 38; ((with_reducible refine (qplus_any p (-q) _ _ _ hp1 hx1 hl hl2).mono ?_)); rintro e w2 ⟨hb2, x2, rfl, hx2⟩; obtain ⟨t2, A7, l7, c7, A8, l8, c8, rfl⟩ := hx2.form; have Z2 := Z1.next hb2; obtain ⟨d0, d1, d2⟩ := bk3 Z2.k3; have f0 := Z2.k3.frozen 0; have f1 := Z2.k3.frozen 1; have f2 := Z2.k3.frozen 2; have kk1 := bk_far3 (b' := w.heap.size + 1 + 1) (x := .bool t2) (y := .slice A7 l7 c7) (z := .slice A8 l8 c8) Z2.k1 (by omega); have kk2 := bk_far3 (b' := w.heap.size + 1 + 1) (x := .bool t2) (y := .slice A7 l7 c7) (z := .slice A8 l8 c8) Z2.k2 (by omega)))
  go_wp2
  refine bodyPost_ret (v := .agg #[.bool t2, .slice A7 l7 c7, .slice A8 l8 c8]) (by simp [results, Tryd.results32, go_sem, d0, d1, d2]) rfl ?_
  have ST := hx2.stored (w := w) Z2.k3 Z2.below (by omega)
  refine ⟨ST.1, _, rfl, ?_⟩
  rw [hR.out]
  exact ST.2

/-- The sign of a difference. -/
def cmpQ (p q : Rat) : Int := sgQ (p - q)

set_option maxRecDepth 100000 in
set_option maxHeartbeats 1600000 in
theorem qcmp_any (p q : Rat) (v u : Value) (w : World) (h : IsQ w w.heap.size v p) (h' : IsQ w w.heap.size u q) (hl : sz p ≤ 100000000000) (hl' : sz q ≤ 100000000000) :
    Calls Tryd.prog 13 #[v, u] w fun e w' => Below w.heap.size w w' ∧ e = .returned (.int .i64 (cmpQ p q)) := by
  obtain ⟨s1, A1, l1, c1, A2, l2, c2, rfl⟩ := h.form
  obtain ⟨s2, A3, l3, c3, A4, l4, c4, rfl⟩ := h'.form
  have hsz : sz (p - q) ≤ 1000000000000 := by have := sz_sub p q; omega
  go_enter Tryd.func13, Tryd.ntmps13
  go_wp2_with fail
  have hb0 : Below w.heap.size w ((w.alloc (.cells #[.bool s1, .slice A1 l1 c1, .slice A2 l2 c2] 35)).alloc (.cells #[.bool s2, .slice A3 l3 c3, .slice A4 l4 c4] 35)) := (below_alloc w _).alloc (by simp) _
  refine (qminus_any p q _ _ _ (h.next hb0) (h'.next hb0) hl hl').mono ?_
  rintro e w1 ⟨hb1, x1, rfl, hx1⟩
  have hB1 := hb0.trans (hb1.mono hb0.size)
  go_wp2_with fail
  refine (qsgn_any (p - q) _ _ hx1 hsz).mono ?_
  rintro e w2 ⟨hb2, rfl⟩
  go_wp2
  go_ret
  exact ⟨hB1.trans (hb2.mono hB1.size), rfl⟩

set_option maxRecDepth 100000 in
set_option maxHeartbeats 1600000 in
theorem qwhole_any (q : Rat) (v : Value) (w : World) (h : IsQ w w.heap.size v q) (hl : sz q ≤ 1000000000000) :
    Calls Tryd.prog 57 #[v] w fun e w' => Below w.heap.size w w' ∧ e = .returned (.bool (decide (dn q = 1))) := by
  obtain ⟨s1, A1, l1, c1, A2, l2, c2, rfl⟩ := h.form
  have hlen := sz_dn q
  have hc : decide (dn q = 1) = (cmpN (dn q) 1 == 0) := by
    unfold cmpN
    have := dn_pos q
    by_cases h1 : dn q = 1
    · simp [h1]
    · have h2 : ¬ dn q < 1 := by omega
      have h3 : 1 < dn q := by omega
      simp [h1, h2, h3]
  rw [hc]
  clear hc
  go_enter Tryd.func57, Tryd.ntmps57
  go_wp2_with fail
  have hb0 := below_alloc w (.cells #[.bool s1, .slice A1 l1 c1, .slice A2 l2 c2] 35)
  refine (qden_any q _ _ (h.next hb0) hl).mono ?_
  rintro e w1 ⟨hb1, x1, rfl, hx1⟩
  have hB1 := hb0.trans (hb1.mono hb0.size)
  go_wp2_with fail
  refine (qone_any w1).mono ?_
  rintro e w2 ⟨hb2, x2, rfl, hx2⟩
  have hB2 := hB1.trans (hb2.mono hB1.size)
  go_wp2_with fail
  refine (ncmp_any (dn q) 1 _ _ w2 (hx1.next hb2) hx2 (by omega)).mono ?_
  rintro e w3 ⟨rfl, n, rfl⟩
  go_wp2
  go_ret
  exact ⟨below_drewN hB2 n, rfl⟩

set_option maxRecDepth 100000 in
set_option maxHeartbeats 3200000 in
theorem intQ_any (n : Int) (w : World) (hn : -1000000000000000 ≤ n ∧ n ≤ 1000000000000000) :
    Calls Tryd.prog 37 #[.int .i64 n] w fun e w' => Below w.heap.size w w' ∧ ∃ v, e = .returned v ∧ IsQ w' w'.heap.size v (n : Rat) := by
  obtain ⟨hn1, hn2⟩ := hn
  have HR := Lib.hid (int_nr n)
  by_cases hs : n < 0
  · obtain ⟨m, rfl⟩ : ∃ m : Nat, n = -((m : Int) + 1) := ⟨n.natAbs - 1, by omega⟩
    have hR : Hid (((-((m : Int) + 1) : Int) : Rat) = nr true (m + 1) 1) := by
      have := HR.out
      rw [decide_eq_true hs, show (-((m : Int) + 1)).natAbs = m + 1 by omega] at this
      exact this
    have e1 : -((m : Int) + 1) + 1 = -(m : Int) := by omega
    have e2 : -(-((m : Int) + 1) + 1) = (m : Int) := by omega
    go_enter Tryd.func37, Tryd.ntmps37
    go_wp2_with fail
    rw [show ((m : Int) + 1) = ((m + 1 : Nat) : Int) by omega]
    refine (natOf_any (m + 1) _ (by omega)).mono ?_
    rintro e w1 ⟨hb1, x1, rfl, hx1⟩
    have hb0 := below_alloc w (.cells #[.bool false, .slice none 0 0, .slice none 0 0] 35)
    have hk0 := Bk.new w 35 #[Value.bool false, .slice none 0 0, .slice none 0 0]
    have hB1 := hb0.trans (hb1.mono hb0.size)
    have hk1 := hk0.below hb1 (by simp)
    go_wp2_with fail
    refine (qone_any w1).mono ?_
    rintro e w2 ⟨hb2, x2, rfl, hx2⟩
    have hB2 := hB1.trans (hb2.mono hB1.size)
    have hk2 := hk1.below hb2 hk1.lt
    go_wp2_with fail
    refine (qmake_any true (m + 1) 1 _ _ w2 (hx1.next hb2) hx2 (Nat.le_trans (limbs_len_le (k := 2) (by have : B ^ 2 = 1000000000000000000 := rfl; omega)) (by omega)) (by rw [limbs_one]; decide)).mono ?_
    rintro e w3 ⟨hb3, x3, rfl, hx3⟩
    have hB3 := hB2.trans (hb3.mono hB2.size)
    have hk3 := hk2.below hb3 hk2.lt
    obtain ⟨t3, A5, l5, c5, A6, l6, c6, rfl⟩ := hx3.form
    obtain ⟨d0, d1, d2⟩ := bk3 hk3
    have f0 := hk3.frozen 0
    have f1 := hk3.frozen 1
    have f2 := hk3.frozen 2
    have hlt := hk3.lt
    clear hk0 hk1 hk2 hb0 hb1 hb2 hb3 hx1 hx2
    go_wp2
    refine bodyPost_ret (v := .agg #[.bool t3, .slice A5 l5 c5, .slice A6 l6 c6]) (by simp [results, Tryd.results37, go_sem, d0, d1, d2]) rfl ?_
    have ST := hx3.stored (w := w) hk3 hB3 (Nat.le_refl _)
    refine ⟨ST.1, _, rfl, ?_⟩
    rw [hR.out]
    exact ST.2
  · obtain ⟨m, rfl⟩ : ∃ m : Nat, n = (m : Int) := ⟨n.toNat, by omega⟩
    have hR : Hid ((((m : Int) : Int) : Rat) = nr false m 1) := by
      have := HR.out
      rw [decide_eq_false hs, show ((m : Int)).natAbs = m by omega] at this
      exact this
    go_enter Tryd.func37, Tryd.ntmps37
    go_wp2_with fail
    refine (natOf_any m _ (by omega)).mono ?_
    rintro e w1 ⟨hb1, x1, rfl, hx1⟩
    have hb0 := below_alloc w (.cells #[.bool false, .slice none 0 0, .slice none 0 0] 35)
    have hk0 := Bk.new w 35 #[Value.bool false, .slice none 0 0, .slice none 0 0]
    have hB1 := hb0.trans (hb1.mono hb0.size)
    have hk1 := hk0.below hb1 (by simp)
    go_wp2_with fail
    refine (qone_any w1).mono ?_
    rintro e w2 ⟨hb2, x2, rfl, hx2⟩
    have hB2 := hB1.trans (hb2.mono hB1.size)
    have hk2 := hk1.below hb2 hk1.lt
    go_wp2_with fail
    refine (qmake_any false m 1 _ _ w2 (hx1.next hb2) hx2 (Nat.le_trans (limbs_len_le (k := 2) (by have : B ^ 2 = 1000000000000000000 := rfl; omega)) (by omega)) (by rw [limbs_one]; decide)).mono ?_
    rintro e w3 ⟨hb3, x3, rfl, hx3⟩
    have hB3 := hB2.trans (hb3.mono hB2.size)
    have hk3 := hk2.below hb3 hk2.lt
    obtain ⟨t3, A5, l5, c5, A6, l6, c6, rfl⟩ := hx3.form
    obtain ⟨d0, d1, d2⟩ := bk3 hk3
    have f0 := hk3.frozen 0
    have f1 := hk3.frozen 1
    have f2 := hk3.frozen 2
    have hlt := hk3.lt
    clear hk0 hk1 hk2 hb0 hb1 hb2 hb3 hx1 hx2
    go_wp2
    refine bodyPost_ret (v := .agg #[.bool t3, .slice A5 l5 c5, .slice A6 l6 c6]) (by simp [results, Tryd.results37, go_sem, d0, d1, d2]) rfl ?_
    have ST := hx3.stored (w := w) hk3 hB3 (Nat.le_refl _)
    refine ⟨ST.1, _, rfl, ?_⟩
    rw [hR.out]
    exact ST.2
end Go.Proofs.YtblopapobmbboaaDoor
