/-
  Sizes of fractions; the walk of package regrid's cross.
-/
import Derived.Test.YtblopapobmbboaaDoorRegH
namespace Go.Proofs.YtblopapobmbboaaDoor
open Go.RowKit Ar

theorem sz_nr (s : Bool) (n d : Nat) (hd : 0 < d) : sz (nr s n d) ≤ max (limbs n).length (limbs d).length := by
  unfold sz nm dn
  rw [nr_abs s hd, nr_den s hd]
  have h1 := len_mono (Nat.div_le_self n (Nat.gcd n d))
  have h2 := len_mono (Nat.div_le_self d (Nat.gcd n d))
  omega
theorem sz_mul (p q : Rat) : sz (p * q) ≤ sz p + sz q := by
  rw [mul_nr]
  refine Nat.le_trans (sz_nr _ _ _ (Nat.mul_pos (dn_pos p) (dn_pos q))) ?_
  have h1 := len_mul_le (nm p) (nm q)
  have h2 := len_mul_le (dn p) (dn q)
  have := sz_nm p; have := sz_nm q; have := sz_dn p; have := sz_dn q
  omega
theorem sz_add (p q : Rat) : sz (p + q) ≤ sz p + sz q + 1 := by
  have h1 := len_mul_le (nm p) (dn q)
  have h2 := len_mul_le (nm q) (dn p)
  have h3 := len_mul_le (dn p) (dn q)
  have h4 := len_add_le (nm p * dn q) (nm q * dn p)
  have := sz_nm p; have := sz_nm q; have := sz_dn p; have := sz_dn q
  have hd := Nat.mul_pos (dn_pos p) (dn_pos q)
  by_cases hs : sg p = sg q
  · rw [add_same p q hs]
    refine Nat.le_trans (sz_nr _ _ _ hd) ?_
    omega
  · by_cases hge : nm q * dn p ≤ nm p * dn q
    · rw [add_ge p q hs hge]
      refine Nat.le_trans (sz_nr _ _ _ hd) ?_
      have := len_mono (Nat.sub_le (nm p * dn q) (nm q * dn p))
      omega
    · rw [add_lt p q hs (by omega)]
      refine Nat.le_trans (sz_nr _ _ _ hd) ?_
      have := len_mono (Nat.sub_le (nm q * dn p) (nm p * dn q))
      omega
theorem sz_sub (p q : Rat) : sz (p - q) ≤ sz p + sz q + 1 := by
  rw [Rat.sub_eq_add_neg]
  have := sz_add p (-q)
  rw [sz_neg] at this
  exact this
theorem sz_div (p q : Rat) (h : q ≠ 0) : sz (p / q) ≤ sz p + sz q := by
  rw [div_nr p q h]
  have h1 := len_mul_le (nm p) (dn q)
  have h2 := len_mul_le (dn p) (nm q)
  have := sz_nm p; have := sz_nm q; have := sz_dn p; have := sz_dn q
  refine Nat.le_trans (sz_nr _ _ _ (Nat.mul_pos (dn_pos p) ?_)) (by omega)
  exact Nat.pos_of_ne_zero fun e => h (nm_zero.1 e)
/-- The size of a point. -/
def szp (p : Qp) : Nat := max (sz p.1) (sz p.2)
/-- The cross product of b - a and c - a. -/
def crossQ (a b c : Qp) : Rat := (b.1 - a.1) * (c.2 - a.2) - (b.2 - a.2) * (c.1 - a.1)

theorem IsPt.x {w : World} {B : Nat} {s : Sx} {p : Qp} (h : IsPt w B s p) : IsF w B (.agg #[.bool s.b1, s.n1, s.d1]) p.1 := h.1
theorem IsPt.y {w : World} {B : Nat} {s : Sx} {p : Qp} (h : IsPt w B s p) : IsF w B (.agg #[.bool s.b2, s.n2, s.d2]) p.2 := h.2
/-- Three points in blocks of a call's own. -/
structure Tri (T : TypeId) (sa sb sc : Sx) (a b c : Qp) (w W : World) : Prop where
  below : Below w.heap.size w W
  k1 : Bk W w.heap.size T sa.cells.toArray
  k2 : Bk W (w.heap.size + 1) T sb.cells.toArray
  k3 : Bk W (w.heap.size + 1 + 1) T sc.cells.toArray
  p1 : IsPt W W.heap.size sa a
  p2 : IsPt W W.heap.size sb b
  p3 : IsPt W W.heap.size sc c
theorem Tri.next {T : TypeId} {sa sb sc : Sx} {a b c : Qp} {w W W' : World} (h : Tri T sa sb sc a b c w W) (hb : Below W.heap.size W W') : Tri T sa sb sc a b c w W' :=
  ⟨h.below.trans (hb.mono h.below.size), h.k1.below hb h.k1.lt, h.k2.below hb h.k2.lt, h.k3.below hb h.k3.lt, h.p1.next hb, h.p2.next hb, h.p3.next hb⟩
theorem Tri.drew {T : TypeId} {sa sb sc : Sx} {a b c : Qp} {w W : World} (h : Tri T sa sb sc a b c w W) : Tri T sa sb sc a b c w W.drew := ⟨h.below.drew, h.k1, h.k2, h.k3, h.p1, h.p2, h.p3⟩
theorem bk6c {w : World} {b : Nat} {T : TypeId} {s : Sx} (h : Bk w b T s.cells.toArray) :
    w.cell? ⟨b, 0, none⟩ = some (.bool s.b1) ∧ w.cell? ⟨b, 1, none⟩ = some s.n1 ∧ w.cell? ⟨b, 2, none⟩ = some s.d1 ∧ w.cell? ⟨b, 3, none⟩ = some (.bool s.b2) ∧ w.cell? ⟨b, 4, none⟩ = some s.n2 ∧ w.cell? ⟨b, 5, none⟩ = some s.d2 :=
  ⟨h.cell 0, h.cell 1, h.cell 2, h.cell 3, h.cell 4, h.cell 5⟩
theorem Tri.cells {T : TypeId} {sa sb sc : Sx} {a b c : Qp} {w W : World} (h : Tri T sa sb sc a b c w W) :
    (W.cell? ⟨w.heap.size, 0, none⟩ = some (.bool sa.b1) ∧ W.cell? ⟨w.heap.size, 1, none⟩ = some sa.n1 ∧ W.cell? ⟨w.heap.size, 2, none⟩ = some sa.d1 ∧ W.cell? ⟨w.heap.size, 3, none⟩ = some (.bool sa.b2) ∧ W.cell? ⟨w.heap.size, 4, none⟩ = some sa.n2 ∧ W.cell? ⟨w.heap.size, 5, none⟩ = some sa.d2) ∧
    (W.cell? ⟨w.heap.size + 1, 0, none⟩ = some (.bool sb.b1) ∧ W.cell? ⟨w.heap.size + 1, 1, none⟩ = some sb.n1 ∧ W.cell? ⟨w.heap.size + 1, 2, none⟩ = some sb.d1 ∧ W.cell? ⟨w.heap.size + 1, 3, none⟩ = some (.bool sb.b2) ∧ W.cell? ⟨w.heap.size + 1, 4, none⟩ = some sb.n2 ∧ W.cell? ⟨w.heap.size + 1, 5, none⟩ = some sb.d2) ∧
    (W.cell? ⟨w.heap.size + 1 + 1, 0, none⟩ = some (.bool sc.b1) ∧ W.cell? ⟨w.heap.size + 1 + 1, 1, none⟩ = some sc.n1 ∧ W.cell? ⟨w.heap.size + 1 + 1, 2, none⟩ = some sc.d1 ∧ W.cell? ⟨w.heap.size + 1 + 1, 3, none⟩ = some (.bool sc.b2) ∧ W.cell? ⟨w.heap.size + 1 + 1, 4, none⟩ = some sc.n2 ∧ W.cell? ⟨w.heap.size + 1 + 1, 5, none⟩ = some sc.d2) :=
  ⟨bk6c h.k1, bk6c h.k2, bk6c h.k3⟩

set_option maxRecDepth 100000 in
set_option maxHeartbeats 6400000 in
theorem cross_any (a b c : Qp) (sa sb sc : Sx) (w : World) (ha : IsPt w w.heap.size sa a) (hb : IsPt w w.heap.size sb b) (hc : IsPt w w.heap.size sc c) (la : szp a ≤ 20000000000) (lb : szp b ≤ 20000000000) (lc : szp c ≤ 20000000000) :
    Calls Tryd.prog 51 #[sa.val, sb.val, sc.val] w fun e w' => Below w.heap.size w w' ∧ ∃ v, e = .returned v ∧ IsF w' w'.heap.size v (crossQ a b c) := by
  unfold szp at *
  have s1 := sz_sub b.1 a.1
  have s2 := sz_sub c.2 a.2
  have s3 := sz_mul (b.1 - a.1) (c.2 - a.2)
  have s4 := sz_sub b.2 a.2
  have s5 := sz_sub c.1 a.1
  have s6 := sz_mul (b.2 - a.2) (c.1 - a.1)
  have l1 : sz a.1 ≤ 20000000000 := by omega
  have l2 : sz a.2 ≤ 20000000000 := by omega
  have l3 : sz b.1 ≤ 20000000000 := by omega
  have l4 : sz b.2 ≤ 20000000000 := by omega
  have l5 : sz c.1 ≤ 20000000000 := by omega
  have l6 : sz c.2 ≤ 20000000000 := by omega
  have m1 : sz (b.1 - a.1) ≤ 200000000000 := by omega
  have m2 : sz (c.2 - a.2) ≤ 200000000000 := by omega
  have m3 : sz ((b.1 - a.1) * (c.2 - a.2)) ≤ 200000000000 := by omega
  have m4 : sz (b.2 - a.2) ≤ 200000000000 := by omega
  have m5 : sz (c.1 - a.1) ≤ 200000000000 := by omega
  have m6 : sz ((b.2 - a.2) * (c.1 - a.1)) ≤ 200000000000 := by omega
  have L1 : sz a.1 ≤ 200000000000 := by omega
  have L2 : sz a.2 ≤ 200000000000 := by omega
  have L3 : sz b.1 ≤ 200000000000 := by omega
  have L4 : sz b.2 ≤ 200000000000 := by omega
  have L5 : sz c.1 ≤ 200000000000 := by omega
  have L6 : sz c.2 ≤ 200000000000 := by omega
  clear s1 s2 s3 s4 s5 s6 la lb lc l1 l2 l3 l4 l5 l6
  unfold Sx.val
  go_enter Tryd.func51, Tryd.ntmps51
  go_wp2_with fail
  refine wp_name (fun W => Tri 84 sa sb sc a b c w W ∧ Bk W (w.heap.size + 1 + 1 + 1) 62 #[.bool false, .slice none 0 0, .slice none 0 0]) ⟨?_, ?_⟩ ?_
  · have hB : Below w.heap.size w ((((w.alloc (.cells sa.cells.toArray 84)).alloc (.cells sb.cells.toArray 84)).alloc (.cells sc.cells.toArray 84)).alloc (.cells #[.bool false, .slice none 0 0, .slice none 0 0] 62)) := (((below_alloc w _).alloc (by simp) _).alloc (by simp; omega) _).alloc (by simp; omega) _
    exact ⟨hB, (((Bk.new _ _ _).alloc _).alloc _).alloc _, (by simpa [Sx.cells] using (((Bk.new (w.alloc _) _ _).alloc _).alloc _)), (by simpa [Sx.cells] using ((Bk.new ((w.alloc _).alloc _) _ _).alloc _)), ha.next hB, hb.next hB, hc.next hB⟩
  · simpa using (Bk.new (((w.alloc _).alloc _).alloc _) _ _)
  rintro W ⟨q0, k0⟩
  clear ha hb hc
  have hlt := k0.lt
  replace k0 := k0.drew
  obtain ⟨⟨a0, a1, a2, a3, a4, a5⟩, ⟨b0, b1, b2, b3, b4, b5⟩, c0, c1, c2, c3, c4, c5⟩ := q0.cells
  go_region_held3 (fun W => (W.cell? ⟨w.heap.size, 0, none⟩ = some (.bool sa.b1) ∧ W.cell? ⟨w.heap.size, 1, none⟩ = some sa.n1 ∧ W.cell? ⟨w.heap.size, 2, none⟩ = some sa.d1 ∧ W.cell? ⟨w.heap.size, 3, none⟩ = some (.bool sa.b2) ∧ W.cell? ⟨w.heap.size, 4, none⟩ = some sa.n2 ∧ W.cell? ⟨w.heap.size, 5, none⟩ = some sa.d2) ∧ (W.cell? ⟨w.heap.size + 1, 0, none⟩ = some (.bool sb.b1) ∧ W.cell? ⟨w.heap.size + 1, 1, none⟩ = some sb.n1 ∧ W.cell? ⟨w.heap.size + 1, 2, none⟩ = some sb.d1 ∧ W.cell? ⟨w.heap.size + 1, 3, none⟩ = some (.bool sb.b2) ∧ W.cell? ⟨w.heap.size + 1, 4, none⟩ = some sb.n2 ∧ W.cell? ⟨w.heap.size + 1, 5, none⟩ = some sb.d2) ∧ (W.cell? ⟨w.heap.size + 1 + 1, 0, none⟩ = some (.bool sc.b1) ∧ W.cell? ⟨w.heap.size + 1 + 1, 1, none⟩ = some sc.n1 ∧ W.cell? ⟨w.heap.size + 1 + 1, 2, none⟩ = some sc.d1 ∧ W.cell? ⟨w.heap.size + 1 + 1, 3, none⟩ = some (.bool sc.b2) ∧ W.cell? ⟨w.heap.size + 1 + 1, 4, none⟩ = some sc.n2 ∧ W.cell? ⟨w.heap.size + 1 + 1, 5, none⟩ = some sc.d2))
    (first | with_reducible exact q0.drew.cells | with_reducible exact q1.cells | with_reducible exact q2.cells | with_reducible exact q3.cells | with_reducible exact q4.cells | with_reducible exact q5.cells | with_reducible exact q6.cells | with_reducible exact q7.cells | exact ⟨bk6c kk1, bk6c kk2, bk6c kk3⟩)
    (first
      | (go_at_call 85; (with_reducible refine (fsub_any b.1 a.1 _ _ _ q0.drew.p2.x q0.drew.p1.x L3 L1).mono ?_); rintro e w1 ⟨hb1, x1, rfl, y1⟩; obtain ⟨t1, A1, l1', c1, A1', n1, c1', rfl⟩ := y1.form; have q1 := q0.drew.next hb1; have k1 := k0.below hb1 k0.lt)
      | (go_at_call 85; (with_reducible refine (fsub_any c.2 a.2 _ _ _ q1.p3.y q1.p1.y L6 L2).mono ?_); rintro e w2 ⟨hb2, x2, rfl, y2⟩; obtain ⟨t2, A2, l2', c2, A2', n2, c2', rfl⟩ := y2.form; have q2 := q1.next hb2; have k2 := k1.below hb2 k1.lt; have y12 := y1.next hb2)
      | (go_at_call 86; (with_reducible refine (fmul_any (b.1 - a.1) (c.2 - a.2) _ _ _ y12 y2 m1 m2).mono ?_); rintro e w3 ⟨hb3, x3, rfl, y3⟩; obtain ⟨t3, A3, l3', c3, A3', n3, c3', rfl⟩ := y3.form; have q3 := q2.next hb3; have k3 := k2.below hb3 k2.lt)
      | (go_at_call 85; (with_reducible refine (fsub_any b.2 a.2 _ _ _ q3.p2.y q3.p1.y L4 L2).mono ?_); rintro e w4 ⟨hb4, x4, rfl, y4⟩; obtain ⟨t4, A4, l4', c4, A4', n4, c4', rfl⟩ := y4.form; have q4 := q3.next hb4; have k4 := k3.below hb4 k3.lt; have y34 := y3.next hb4)
      | (go_at_call 85; (with_reducible refine (fsub_any c.1 a.1 _ _ _ q4.p3.x q4.p1.x L5 L1).mono ?_); rintro e w5 ⟨hb5, x5, rfl, y5⟩; obtain ⟨t5, A5, l5', c5, A5', n5, c5', rfl⟩ := y5.form; have q5 := q4.next hb5; have k5 := k4.below hb5 k4.lt; have y35 := y34.next hb5; have y45 := y4.next hb5)
      | (go_at_call 86; (with_reducible refine (fmul_any (b.2 - a.2) (c.1 - a.1) _ _ _ y45 y5 m4 m5).mono ?_); rintro e w6 ⟨hb6, x6, rfl, y6⟩; obtain ⟨t6, A6, l6', c6, A6', n6, c6', rfl⟩ := y6.form; have q6 := q5.next hb6; have k6 := k5.below hb6 k5.lt; have y36 := y35.next hb6)
      | (go_at_call 85; (with_reducible refine (fsub_any ((b.1 - a.1) * (c.2 - a.2)) ((b.2 - a.2) * (c.1 - a.1)) _ _ _ y36 y6 m3 m6).mono ?_); rintro e w7 ⟨hb7, x7, rfl, y7⟩; obtain ⟨t7, A7, l7', c7, A7', n7, c7', rfl⟩ := y7.form; have q7 := q6.next hb7; have k7 := k6.below hb7 k6.lt; obtain ⟨d0, d1, d2⟩ := bk3 k7; have f0 := k7.frozen 0; have f1 := k7.frozen 1; have f2 := k7.frozen 2; have kk1 := bk_far3 (b' := w.heap.size + 1 + 1 + 1) (x := .bool t7) (y := .slice A7 l7' c7) (z := .slice A7' n7 c7') q7.k1 (by omega); have kk2 := bk_far3 (b' := w.heap.size + 1 + 1 + 1) (x := .bool t7) (y := .slice A7 l7' c7) (z := .slice A7' n7 c7') q7.k2 (by omega); have kk3 := bk_far3 (b' := w.heap.size + 1 + 1 + 1) (x := .bool t7) (y := .slice A7 l7' c7) (z := .slice A7' n7 c7') q7.k3 (by omega)))
  go_wp2
  refine bodyPost_ret (v := .agg #[.bool t7, .slice A7 l7' c7, .slice A7' n7 c7']) (by simp [results, Tryd.results51, go_sem, d0, d1, d2]) rfl ?_
  refine ⟨set3_below q7.below (by omega), _, rfl, ?_⟩
  exact (y7.set3 k7 (.bool t7) (.slice A7 l7' c7) (.slice A7' n7 c7')).more (by rw [show (World.setCell _ _ _) = set3 w7 (w.heap.size + 1 + 1 + 1) (.bool t7) (.slice A7 l7' c7) (.slice A7' n7 c7') from rfl, set3_size]; exact Nat.le_refl _)
end Go.Proofs.YtblopapobmbboaaDoor
