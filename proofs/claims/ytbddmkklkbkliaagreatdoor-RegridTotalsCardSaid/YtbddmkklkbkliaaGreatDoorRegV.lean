/-
  Walk: package regrid's polygon.
  Sizes of fractions; the walk of package regrid's cross.
-/
import Derived.Test.YtbddmkklkbkliaaGreatDoorSzQ
import Derived.Test.YtbddmkklkbkliaaGreatDoorRegU
namespace Go.Proofs.YtbddmkklkbkliaaGreatDoor
open Go.RowKit Ar

theorem Tryz.point_info : (Tryz.prog.info? 146).map (fun i => (i.zero, i.size, i.bytes)) = some (some (.agg #[.bool false, .slice none 0 0, .slice none 0 0, .bool false, .slice none 0 0, .slice none 0 0]), 6, 112) := by kernel_rfl
def zpt : Value := .agg #[.bool false, .slice none 0 0, .slice none 0 0, .bool false, .slice none 0 0, .slice none 0 0]
theorem zpt_no : ∀ u ∈ zpt.cells.toList, noInt u := by
  intro u hu k i
  simp [zpt, Value.cells] at hu
  rcases hu with rfl | rfl | rfl | rfl <;> simp
theorem new_cells (w : World) (cs : List Value) (t : TypeId) : ∀ j u, cs[j]? = some u → (w.alloc (.cells cs.toArray t)).cell? ((⟨w.heap.size, 0, none⟩ : Addr).add j) = some u := fun j u hu => by
  obtain ⟨ad, e, _, hc⟩ := Rd.of_new w cs t (by rintro rfl; simp at hu)
  injection e with e
  subst e
  exact hc j u hu
/-- A point from its coordinates. -/
def qp (p : Pl) (dx : Int) : Qp := (((p.1 + dx : Int) : Rat), ((p.2 : Int) : Rat))

set_option maxRecDepth 100000 in
set_option maxHeartbeats 3200000 in
theorem polygon_any (l : List Pl) (m : Bool) (v : Value) (dx : Int) (w : World) (h : IsC w w.heap.size v l m) (hm : l.length ≤ 1000000) (hdx : -100000000 ≤ dx ∧ dx ≤ 100000000) (hok : ∀ p ∈ l, okP p) :
    Calls Tryz.prog 108 #[v, .int .i64 dx] w fun e w' => Below w.heap.size w w' ∧ ∃ v, e = .returned v ∧ IsPoly w' w'.heap.size v (l.map fun p => qp p dx) := by
  obtain ⟨A, c, rfl, hc, hcm, hin, hr⟩ := h
  obtain ⟨i0, hi0, hz0, hz1, hz2⟩ := info_parts Tryz.point_info
  go_enter Tryz.func108, Tryz.ntmps108
  go_wp2_with fail
  have hB0 := below_alloc w (.cells #[.slice A l.length c, .bool m] 60)
  go_loopw [5, 11] (fun u i wr => ∃ k : Nat, k ≤ l.length ∧ i = .int .i64 k ∧ OwnPoly wr w.heap.size u ((l.take k).map fun p => qp p dx) ∧ Below w.heap.size w wr) (fun _ i _ => l.length - (intOf i).toNat)
  case atStart => exact ⟨0, Nat.zero_le _, rfl, OwnPoly.nil _ _, hB0⟩
  case round =>
    obtain ⟨k, hk, rfl, hO, hB⟩ := hrel
    rcases Nat.lt_or_ge k l.length with hlt | hge
    · obtain ⟨ad, rfl, hab, d1, d2⟩ := (hr.below hB).place (cn_at (l := l) (i := k) hlt)
      have hokk := cn_ok hok hlt
      unfold okP at hokk
      have HL : Hid ((l.take (k + 1)).map (fun p => qp p dx) = (l.take k).map (fun p => qp p dx) ++ [qp (cn l k) dx]) := by
        show _ = _
        rw [List.take_add_one, cn_at hlt, List.map_append]
        rfl
      generalize cn l k = p at *
      obtain ⟨x, y⟩ := p
      simp only at d1 d2 hokk
      have hlen : ((l.take k).map (fun p => qp p dx)).length = k := by rw [List.length_map, List.length_take]; omega
      generalize (l.take k).map (fun p => qp p dx) = pts at *
      have ww : IntKind.i64.wrap (x + dx) = x + dx := IntWalk.i64_in _ (by omega)
      go_wp2_with fail
      refine wp_name (fun W => Below wr.heap.size wr W ∧ Bk W wr.heap.size 57 #[.int .i64 x, .int .i64 y]) ⟨below_alloc _ _, Bk.new _ _ _⟩ ?_
      rintro W ⟨hbW, kp⟩
      have hO0 := (hO.keep hbW)
      have hBW := hB.trans (hbW.mono hB.size)
      obtain ⟨g0, g1⟩ := bk2 kp
      clear d1 d2 hO hbW
      go_region_held3 (fun W => W.cell? ⟨wr.heap.size, 0, none⟩ = some (.int .i64 x) ∧ W.cell? ⟨wr.heap.size, 1, none⟩ = some (.int .i64 y))
        (first | with_reducible exact bk2 kp.drew | with_reducible exact bk2 q1 | with_reducible exact bk2 q2 | with_reducible exact bk2 q3 | exact q4 | go_keep)
        (first
          | (go_at_call 40; (with_reducible refine (fint_any (x + dx) _ (by omega)).mono ?_); rintro e w1 ⟨hb1, f1, rfl, hf1⟩; have q1 := kp.drew.below hb1 kp.drew.lt; have hO1 := hO0.keep (Below.drew (Below.refl _ _) |>.trans hb1); have hB1 := hBW.drew.trans (hb1.mono hBW.size); obtain ⟨s1, A1, l1, c1, A2, l2, c2, rfl⟩ := hf1.form)
          | (go_at_call 40; (with_reducible refine (fint_any y _ (by omega)).mono ?_); rintro e w2 ⟨hb2, f2, rfl, hf2⟩; have q2 := q1.below hb2 q1.lt; have hO2 := hO1.keep hb2; have hB2 := hB1.trans (hb2.mono hB1.size); have hf12 := hf1.next hb2; obtain ⟨s2, A3, l3, c3, A4, l4, c4, rfl⟩ := hf2.form; have q3 := q2.alloc (.cells #[.bool s1, .slice A1 l1 c1, .slice A2 l2 c2, .bool s2, .slice A3 l3 c3, .slice A4 l4 c4] 146); have hO3 := hO2.keep (below_alloc w2 (.cells #[.bool s1, .slice A1 l1 c1, .slice A2 l2 c2, .bool s2, .slice A3 l3 c3, .slice A4 l4 c4] 146)); obtain ⟨S, hS1, hS2, hS3, hS4⟩ := hO3)
          | (refine step_append (.tmp 15) (.tmp 25) 143 rfl w.heap.size 146 i0 zpt 6 112 Tryz.underlying143 hi0 hz0 hz1 hz2 rfl (by omega) _ pts.length (srow S) rfl hS2 hS3 zpt_no ⟨w2.heap.size, 0, none⟩ 1 1 [.bool s1, .slice A1 l1 c1, .slice A2 l2 c2, .bool s2, .slice A3 l3 c3, .slice A4 l4 c4] rfl rfl (new_cells w2 _ _) (by intro u hu; simp at hu; rcases hu with rfl | rfl | rfl | rfl | rfl | rfl <;> rfl) (by intro u hu k0 i1; simp at hu; rcases hu with rfl | rfl | rfl | rfl | rfl | rfl <;> simp) (by omega) (by unfold maxLen; omega) (by omega) (by have := hB2.size; simp; omega) ?_; intro v5 w5 hw1 hw2 hw3; have q4 := And.intro (ints_grown hw2 hS3 _ _ _ (q3.cell 0)) (ints_grown hw2 hS3 _ _ _ (q3.cell 1))))
      have hbA := below_alloc w2 (.cells #[.bool s1, .slice A1 l1 c1, .slice A2 l2 c2, .bool s2, .slice A3 l3 c3, .slice A4 l4 c4] 146)
      have hPt : IsPt (w2.alloc (.cells #[.bool s1, .slice A1 l1 c1, .slice A2 l2 c2, .bool s2, .slice A3 l3 c3, .slice A4 l4 c4] 146)) (w2.alloc (.cells #[.bool s1, .slice A1 l1 c1, .slice A2 l2 c2, .bool s2, .slice A3 l3 c3, .slice A4 l4 c4] 146)).heap.size ⟨s1, .slice A1 l1 c1, .slice A2 l2 c2, s2, .slice A3 l3 c3, .slice A4 l4 c4⟩ (qp (x, y) dx) := ⟨hf12.next hbA, hf2.next hbA⟩
      have HO : Hid (OwnPoly w5 w.heap.size v5 (pts ++ [qp (x, y) dx])) := OwnPoly.add hS1 hS3 hS4 hPt hw1 hw2 hw3
      have hB5 : Below w.heap.size w w5 := below_app (hB2.trans (hbA.mono hB2.size)) hw2 (by have := hB2.size; simp; omega) hS2 (Nat.le_refl _)
      clear hw1 hw2 hw3 hPt hbA hS1 hS2 hS3 hS4 q1 q2 q3 q4 kp g0 g1 hO0 hO1 hO2 hf1 hf2 hf12 hb1 hb2 hB1 hB2 hBW
      go_wp2
      go_roundw
      case rel => exact ⟨k + 1, by omega, by go_num, by rw [HL.out]; exact HO.out, hB5⟩
      case measure => simp [intOf]; omega
    · have hkl : k = l.length := by omega
      subst hkl
      rw [List.take_length] at hO
      have hP := hO.is
      have hP := Lib.hid hP
      clear hO
      go_wp2
      go_ret
      exact ⟨hB, _, rfl, hP.out⟩
end Go.Proofs.YtbddmkklkbkliaaGreatDoor

namespace Go.Proofs.YtbddmkklkbkliaaGreatDoor
open Go.RowKit Ar

/-- The size of a point. -/
def szp (p : Qp) : Nat := max (sz p.1) (sz p.2)
/-- The cross product of b - a and c - a. -/
def crossQ (a b c : Qp) : Rat := (b.1 - a.1) * (c.2 - a.2) - (b.2 - a.2) * (c.1 - a.1)

theorem IsPt.x {w : World} {B : Nat} {s : Sx} {p : Qp} (h : IsPt w B s p) : IsF w B (.agg #[.bool s.b1, s.n1, s.d1]) p.1 := h.1
theorem IsPt.y {w : World} {B : Nat} {s : Sx} {p : Qp} (h : IsPt w B s p) : IsF w B (.agg #[.bool s.b2, s.n2, s.d2]) p.2 := h.2
/-- Three points in blocks of a call's own. -/
structure Tri (T : TypeId) (sa sb sc : Sx) (a b c : Qp) (w W : World) : Prop where
  below : Below w.heap.size w W
  k1 : Bk W w.heap.size T sa.cells.toArray
  k2 : Bk W (w.heap.size + 1) T sb.cells.toArray
  k3 : Bk W (w.heap.size + 1 + 1) T sc.cells.toArray
  p1 : IsPt W W.heap.size sa a
  p2 : IsPt W W.heap.size sb b
  p3 : IsPt W W.heap.size sc c
theorem Tri.next {T : TypeId} {sa sb sc : Sx} {a b c : Qp} {w W W' : World} (h : Tri T sa sb sc a b c w W) (hb : Below W.heap.size W W') : Tri T sa sb sc a b c w W' :=
  ⟨h.below.trans (hb.mono h.below.size), h.k1.below hb h.k1.lt, h.k2.below hb h.k2.lt, h.k3.below hb h.k3.lt, h.p1.next hb, h.p2.next hb, h.p3.next hb⟩
theorem Tri.drew {T : TypeId} {sa sb sc : Sx} {a b c : Qp} {w W : World} (h : Tri T sa sb sc a b c w W) : Tri T sa sb sc a b c w W.drew := ⟨h.below.drew, h.k1, h.k2, h.k3, h.p1, h.p2, h.p3⟩
theorem bk6c {w : World} {b : Nat} {T : TypeId} {s : Sx} (h : Bk w b T s.cells.toArray) :
    w.cell? ⟨b, 0, none⟩ = some (.bool s.b1) ∧ w.cell? ⟨b, 1, none⟩ = some s.n1 ∧ w.cell? ⟨b, 2, none⟩ = some s.d1 ∧ w.cell? ⟨b, 3, none⟩ = some (.bool s.b2) ∧ w.cell? ⟨b, 4, none⟩ = some s.n2 ∧ w.cell? ⟨b, 5, none⟩ = some s.d2 :=
  ⟨h.cell 0, h.cell 1, h.cell 2, h.cell 3, h.cell 4, h.cell 5⟩
theorem Tri.cells {T : TypeId} {sa sb sc : Sx} {a b c : Qp} {w W : World} (h : Tri T sa sb sc a b c w W) :
    (W.cell? ⟨w.heap.size, 0, none⟩ = some (.bool sa.b1) ∧ W.cell? ⟨w.heap.size, 1, none⟩ = some sa.n1 ∧ W.cell? ⟨w.heap.size, 2, none⟩ = some sa.d1 ∧ W.cell? ⟨w.heap.size, 3, none⟩ = some (.bool sa.b2) ∧ W.cell? ⟨w.heap.size, 4, none⟩ = some sa.n2 ∧ W.cell? ⟨w.heap.size, 5, none⟩ = some sa.d2) ∧
    (W.cell? ⟨w.heap.size + 1, 0, none⟩ = some (.bool sb.b1) ∧ W.cell? ⟨w.heap.size + 1, 1, none⟩ = some sb.n1 ∧ W.cell? ⟨w.heap.size + 1, 2, none⟩ = some sb.d1 ∧ W.cell? ⟨w.heap.size + 1, 3, none⟩ = some (.bool sb.b2) ∧ W.cell? ⟨w.heap.size + 1, 4, none⟩ = some sb.n2 ∧ W.cell? ⟨w.heap.size + 1, 5, none⟩ = some sb.d2) ∧
    (W.cell? ⟨w.heap.size + 1 + 1, 0, none⟩ = some (.bool sc.b1) ∧ W.cell? ⟨w.heap.size + 1 + 1, 1, none⟩ = some sc.n1 ∧ W.cell? ⟨w.heap.size + 1 + 1, 2, none⟩ = some sc.d1 ∧ W.cell? ⟨w.heap.size + 1 + 1, 3, none⟩ = some (.bool sc.b2) ∧ W.cell? ⟨w.heap.size + 1 + 1, 4, none⟩ = some sc.n2 ∧ W.cell? ⟨w.heap.size + 1 + 1, 5, none⟩ = some sc.d2) :=
  ⟨bk6c h.k1, bk6c h.k2, bk6c h.k3⟩

set_option maxRecDepth 100000 in
set_option maxHeartbeats 6400000 in
theorem cross_any (a b c : Qp) (sa sb sc : Sx) (w : World) (ha : IsPt w w.heap.size sa a) (hb : IsPt w w.heap.size sb b) (hc : IsPt w w.heap.size sc c) (la : szp a ≤ 20000000000) (lb : szp b ≤ 20000000000) (lc : szp c ≤ 20000000000) :
    Calls Tryz.prog 134 #[sa.val, sb.val, sc.val] w fun e w' => Below w.heap.size w w' ∧ ∃ v, e = .returned v ∧ IsF w' w'.heap.size v (crossQ a b c) := by
  unfold szp at *
  have s1 := sz_sub b.1 a.1
  have s2 := sz_sub c.2 a.2
  have s3 := sz_mul (b.1 - a.1) (c.2 - a.2)
  have s4 := sz_sub b.2 a.2
  have s5 := sz_sub c.1 a.1
  have s6 := sz_mul (b.2 - a.2) (c.1 - a.1)
  have l1 : sz a.1 ≤ 20000000000 := by omega
  have l2 : sz a.2 ≤ 20000000000 := by omega
  have l3 : sz b.1 ≤ 20000000000 := by omega
  have l4 : sz b.2 ≤ 20000000000 := by omega
  have l5 : sz c.1 ≤ 20000000000 := by omega
  have l6 : sz c.2 ≤ 20000000000 := by omega
  have m1 : sz (b.1 - a.1) ≤ 200000000000 := by omega
  have m2 : sz (c.2 - a.2) ≤ 200000000000 := by omega
  have m3 : sz ((b.1 - a.1) * (c.2 - a.2)) ≤ 200000000000 := by omega
  have m4 : sz (b.2 - a.2) ≤ 200000000000 := by omega
  have m5 : sz (c.1 - a.1) ≤ 200000000000 := by omega
  have m6 : sz ((b.2 - a.2) * (c.1 - a.1)) ≤ 200000000000 := by omega
  have L1 : sz a.1 ≤ 200000000000 := by omega
  have L2 : sz a.2 ≤ 200000000000 := by omega
  have L3 : sz b.1 ≤ 200000000000 := by omega
  have L4 : sz b.2 ≤ 200000000000 := by omega
  have L5 : sz c.1 ≤ 200000000000 := by omega
  have L6 : sz c.2 ≤ 200000000000 := by omega
  clear s1 s2 s3 s4 s5 s6 la lb lc l1 l2 l3 l4 l5 l6
  unfold Sx.val
  go_enter Tryz.func134, Tryz.ntmps134
  go_wp2_with fail
  refine wp_name (fun W => Tri 146 sa sb sc a b c w W ∧ Bk W (w.heap.size + 1 + 1 + 1) 66 #[.bool false, .slice none 0 0, .slice none 0 0]) ⟨?_, ?_⟩ ?_
  · have hB : Below w.heap.size w ((((w.alloc (.cells sa.cells.toArray 146)).alloc (.cells sb.cells.toArray 146)).alloc (.cells sc.cells.toArray 146)).alloc (.cells #[.bool false, .slice none 0 0, .slice none 0 0] 66)) := (((below_alloc w _).alloc (by simp) _).alloc (by simp; omega) _).alloc (by simp; omega) _
    exact ⟨hB, (((Bk.new _ _ _).alloc _).alloc _).alloc _, (by simpa [Sx.cells] using (((Bk.new (w.alloc _) _ _).alloc _).alloc _)), (by simpa [Sx.cells] using ((Bk.new ((w.alloc _).alloc _) _ _).alloc _)), ha.next hB, hb.next hB, hc.next hB⟩
  · simpa using (Bk.new (((w.alloc _).alloc _).alloc _) _ _)
  rintro W ⟨q0, k0⟩
  clear ha hb hc
  have hlt := k0.lt
  replace k0 := k0.drew
  obtain ⟨⟨a0, a1, a2, a3, a4, a5⟩, ⟨b0, b1, b2, b3, b4, b5⟩, c0, c1, c2, c3, c4, c5⟩ := q0.cells
  go_region_held3 (fun W => (W.cell? ⟨w.heap.size, 0, none⟩ = some (.bool sa.b1) ∧ W.cell? ⟨w.heap.size, 1, none⟩ = some sa.n1 ∧ W.cell? ⟨w.heap.size, 2, none⟩ = some sa.d1 ∧ W.cell? ⟨w.heap.size, 3, none⟩ = some (.bool sa.b2) ∧ W.cell? ⟨w.heap.size, 4, none⟩ = some sa.n2 ∧ W.cell? ⟨w.heap.size, 5, none⟩ = some sa.d2) ∧ (W.cell? ⟨w.heap.size + 1, 0, none⟩ = some (.bool sb.b1) ∧ W.cell? ⟨w.heap.size + 1, 1, none⟩ = some sb.n1 ∧ W.cell? ⟨w.heap.size + 1, 2, none⟩ = some sb.d1 ∧ W.cell? ⟨w.heap.size + 1, 3, none⟩ = some (.bool sb.b2) ∧ W.cell? ⟨w.heap.size + 1, 4, none⟩ = some sb.n2 ∧ W.cell? ⟨w.heap.size + 1, 5, none⟩ = some sb.d2) ∧ (W.cell? ⟨w.heap.size + 1 + 1, 0, none⟩ = some (.bool sc.b1) ∧ W.cell? ⟨w.heap.size + 1 + 1, 1, none⟩ = some sc.n1 ∧ W.cell? ⟨w.heap.size + 1 + 1, 2, none⟩ = some sc.d1 ∧ W.cell? ⟨w.heap.size + 1 + 1, 3, none⟩ = some (.bool sc.b2) ∧ W.cell? ⟨w.heap.size + 1 + 1, 4, none⟩ = some sc.n2 ∧ W.cell? ⟨w.heap.size + 1 + 1, 5, none⟩ = some sc.d2))
    (first | with_reducible exact q0.drew.cells | with_reducible exact q1.cells | with_reducible exact q2.cells | with_reducible exact q3.cells | with_reducible exact q4.cells | with_reducible exact q5.cells | with_reducible exact q6.cells | with_reducible exact q7.cells | exact ⟨bk6c kk1, bk6c kk2, bk6c kk3⟩)
    (first
      | (go_at_call 159; (with_reducible refine (fsub_any b.1 a.1 _ _ _ q0.drew.p2.x q0.drew.p1.x L3 L1).mono ?_); rintro e w1 ⟨hb1, x1, rfl, y1⟩; obtain ⟨t1, A1, l1', c1, A1', n1, c1', rfl⟩ := y1.form; have q1 := q0.drew.next hb1; have k1 := k0.below hb1 k0.lt)
      | (go_at_call 159; (with_reducible refine (fsub_any c.2 a.2 _ _ _ q1.p3.y q1.p1.y L6 L2).mono ?_); rintro e w2 ⟨hb2, x2, rfl, y2⟩; obtain ⟨t2, A2, l2', c2, A2', n2, c2', rfl⟩ := y2.form; have q2 := q1.next hb2; have k2 := k1.below hb2 k1.lt; have y12 := y1.next hb2)
      | (go_at_call 27; (with_reducible refine (fmul_any (b.1 - a.1) (c.2 - a.2) _ _ _ y12 y2 m1 m2).mono ?_); rintro e w3 ⟨hb3, x3, rfl, y3⟩; obtain ⟨t3, A3, l3', c3, A3', n3, c3', rfl⟩ := y3.form; have q3 := q2.next hb3; have k3 := k2.below hb3 k2.lt)
      | (go_at_call 159; (with_reducible refine (fsub_any b.2 a.2 _ _ _ q3.p2.y q3.p1.y L4 L2).mono ?_); rintro e w4 ⟨hb4, x4, rfl, y4⟩; obtain ⟨t4, A4, l4', c4, A4', n4, c4', rfl⟩ := y4.form; have q4 := q3.next hb4; have k4 := k3.below hb4 k3.lt; have y34 := y3.next hb4)
      | (go_at_call 159; (with_reducible refine (fsub_any c.1 a.1 _ _ _ q4.p3.x q4.p1.x L5 L1).mono ?_); rintro e w5 ⟨hb5, x5, rfl, y5⟩; obtain ⟨t5, A5, l5', c5, A5', n5, c5', rfl⟩ := y5.form; have q5 := q4.next hb5; have k5 := k4.below hb5 k4.lt; have y35 := y34.next hb5; have y45 := y4.next hb5)
      | (go_at_call 27; (with_reducible refine (fmul_any (b.2 - a.2) (c.1 - a.1) _ _ _ y45 y5 m4 m5).mono ?_); rintro e w6 ⟨hb6, x6, rfl, y6⟩; obtain ⟨t6, A6, l6', c6, A6', n6, c6', rfl⟩ := y6.form; have q6 := q5.next hb6; have k6 := k5.below hb6 k5.lt; have y36 := y35.next hb6)
      | (go_at_call 159; (with_reducible refine (fsub_any ((b.1 - a.1) * (c.2 - a.2)) ((b.2 - a.2) * (c.1 - a.1)) _ _ _ y36 y6 m3 m6).mono ?_); rintro e w7 ⟨hb7, x7, rfl, y7⟩; obtain ⟨t7, A7, l7', c7, A7', n7, c7', rfl⟩ := y7.form; have q7 := q6.next hb7; have k7 := k6.below hb7 k6.lt; obtain ⟨d0, d1, d2⟩ := bk3 k7; have f0 := k7.frozen 0; have f1 := k7.frozen 1; have f2 := k7.frozen 2; have kk1 := bk_far3 (b' := w.heap.size + 1 + 1 + 1) (x := .bool t7) (y := .slice A7 l7' c7) (z := .slice A7' n7 c7') q7.k1 (by omega); have kk2 := bk_far3 (b' := w.heap.size + 1 + 1 + 1) (x := .bool t7) (y := .slice A7 l7' c7) (z := .slice A7' n7 c7') q7.k2 (by omega); have kk3 := bk_far3 (b' := w.heap.size + 1 + 1 + 1) (x := .bool t7) (y := .slice A7 l7' c7) (z := .slice A7' n7 c7') q7.k3 (by omega)))
  go_wp2
  refine bodyPost_ret (v := .agg #[.bool t7, .slice A7 l7' c7, .slice A7' n7 c7']) (by simp [results, Tryz.results134, go_sem, d0, d1, d2]) rfl ?_
  refine ⟨set3_below q7.below (by omega), _, rfl, ?_⟩
  exact (y7.set3 k7 (.bool t7) (.slice A7 l7' c7) (.slice A7' n7 c7')).more (by rw [show (World.setCell _ _ _) = set3 w7 (w.heap.size + 1 + 1 + 1) (.bool t7) (.slice A7 l7' c7) (.slice A7' n7 c7') from rfl, set3_size]; exact Nat.le_refl _)
end Go.Proofs.YtbddmkklkbkliaaGreatDoor
