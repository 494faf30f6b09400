/-
  Walks: package regrid: touch.
-/
import Derived.Test.YtbddmkklkbkliaaGreatDoorRegA
namespace Go.Proofs.YtbddmkklkbkliaaGreatDoor
open Go.RowKit

/-- Two segments have a place in common. -/
def tch (a b c d : Int × Int) : Prop :=
  (sgn (trn a b c) * sgn (trn a b d) < 0 ∧ sgn (trn c d a) * sgn (trn c d b) < 0) ∨ (sgn (trn a b c) = 0 ∧ onP a b c) ∨ (sgn (trn a b d) = 0 ∧ onP a b d) ∨ (sgn (trn c d a) = 0 ∧ onP c d a) ∨ (sgn (trn c d b) = 0 ∧ onP c d b)
instance (a b c d : Int × Int) : Decidable (tch a b c d) := by unfold tch; infer_instance
theorem sgn_in (n : Int) : -1 ≤ sgn n ∧ sgn n ≤ 1 := by
  unfold sgn
  split
  · omega
  · split <;> omega
theorem unit_mul {p q : Int} (hp : -1 ≤ p ∧ p ≤ 1) (hq : -1 ≤ q ∧ q ≤ 1) : -1 ≤ p * q ∧ p * q ≤ 1 := by
  rcases (show p = -1 ∨ p = 0 ∨ p = 1 by omega) with rfl | rfl | rfl <;> omega
theorem bk2 {w : World} {b : Nat} {T : TypeId} {x y : Value} (h : Bk w b T #[x, y]) : w.cell? ⟨b, 0, none⟩ = some x ∧ w.cell? ⟨b, 1, none⟩ = some y := ⟨h.cell 0, h.cell 1⟩
theorem bk8 {w : World} {b c d e : Nat} {T : TypeId} {x y x' y' z u z' u' : Value} (h : Bk w b T #[x, y]) (h2 : Bk w c T #[x', y']) (h3 : Bk w d T #[z, u]) (h4 : Bk w e T #[z', u']) :
    w.cell? ⟨b, 0, none⟩ = some x ∧ w.cell? ⟨b, 1, none⟩ = some y ∧ w.cell? ⟨c, 0, none⟩ = some x' ∧ w.cell? ⟨c, 1, none⟩ = some y' ∧ w.cell? ⟨d, 0, none⟩ = some z ∧ w.cell? ⟨d, 1, none⟩ = some u ∧ w.cell? ⟨e, 0, none⟩ = some z' ∧ w.cell? ⟨e, 1, none⟩ = some u' :=
  ⟨h.cell 0, h.cell 1, h2.cell 0, h2.cell 1, h3.cell 0, h3.cell 1, bk2 h4⟩

/-- Four places in blocks of a call's own. -/
structure Quad (T : TypeId) (x y x' y' z u z' u' : Value) (w W : World) : Prop where
  below : Below w.heap.size w W
  k1 : Bk W w.heap.size T #[x, y]
  k2 : Bk W (w.heap.size + 1) T #[x', y']
  k3 : Bk W (w.heap.size + 1 + 1) T #[z, u]
  k4 : Bk W (w.heap.size + 1 + 1 + 1) T #[z', u']
theorem Quad.next {T : TypeId} {x y x' y' z u z' u' : Value} {w W W' : World} (h : Quad T x y x' y' z u z' u' w W) (hb : Below W.heap.size W W') : Quad T x y x' y' z u z' u' w W' :=
  ⟨h.below.trans (hb.mono h.below.size), h.k1.below hb h.k1.lt, h.k2.below hb h.k2.lt, h.k3.below hb h.k3.lt, h.k4.below hb h.k4.lt⟩
theorem Quad.drew {T : TypeId} {x y x' y' z u z' u' : Value} {w W : World} (h : Quad T x y x' y' z u z' u' w W) : Quad T x y x' y' z u z' u' w W.drew := ⟨h.below.drew, h.k1.drew, h.k2.drew, h.k3.drew, h.k4.drew⟩
theorem Quad.cells {T : TypeId} {x y x' y' z u z' u' : Value} {w W : World} (h : Quad T x y x' y' z u z' u' w W) :
    W.cell? ⟨w.heap.size, 0, none⟩ = some x ∧ W.cell? ⟨w.heap.size, 1, none⟩ = some y ∧ W.cell? ⟨w.heap.size + 1, 0, none⟩ = some x' ∧ W.cell? ⟨w.heap.size + 1, 1, none⟩ = some y' ∧ W.cell? ⟨w.heap.size + 1 + 1, 0, none⟩ = some z ∧ W.cell? ⟨w.heap.size + 1 + 1, 1, none⟩ = some u ∧ W.cell? ⟨w.heap.size + 1 + 1 + 1, 0, none⟩ = some z' ∧ W.cell? ⟨w.heap.size + 1 + 1 + 1, 1, none⟩ = some u' :=
  bk8 h.k1 h.k2 h.k3 h.k4

set_option maxRecDepth 100000 in
set_option maxHeartbeats 6400000 in
theorem touch_any (a b c d : Int × Int) (w : World) (ha : okP a) (hb : okP b) (hc : okP c) (hd : okP d) (z : Bool) (hz : decide (tch a b c d) = z) :
    Calls Tryz.prog 133 #[pv a, pv b, pv c, pv d] w fun e w' => Below w.heap.size w w' ∧ e = .returned (.bool z) := by
  have HZ : Hid (z = true ↔ tch a b c d) := by rw [← hz]; exact decide_eq_true_iff
  clear hz
  have T1 := Lib.hid (fun W => turn_any a b c W ha hb hc)
  have T2 := Lib.hid (fun W => turn_any a b d W ha hb hd)
  have T3 := Lib.hid (fun W => turn_any c d a W hc hd ha)
  have T4 := Lib.hid (fun W => turn_any c d b W hc hd hb)
  obtain ⟨o1, ho1⟩ : ∃ o, decide (onP a b c) = o := ⟨_, rfl⟩
  obtain ⟨o2, ho2⟩ : ∃ o, decide (onP a b d) = o := ⟨_, rfl⟩
  obtain ⟨o3, ho3⟩ : ∃ o, decide (onP c d a) = o := ⟨_, rfl⟩
  obtain ⟨o4, ho4⟩ : ∃ o, decide (onP c d b) = o := ⟨_, rfl⟩
  have O1 := Lib.hid (fun W => on_any a b c W o1 ho1)
  have O2 := Lib.hid (fun W => on_any a b d W o2 ho2)
  have O3 := Lib.hid (fun W => on_any c d a W o3 ho3)
  have O4 := Lib.hid (fun W => on_any c d b W o4 ho4)
  have HZ2 : Hid (z = true ↔ (sgn (trn a b c) * sgn (trn a b d) < 0 ∧ sgn (trn c d a) * sgn (trn c d b) < 0) ∨ (sgn (trn a b c) = 0 ∧ o1 = true) ∨ (sgn (trn a b d) = 0 ∧ o2 = true) ∨ (sgn (trn c d a) = 0 ∧ o3 = true) ∨ (sgn (trn c d b) = 0 ∧ o4 = true)) := by
    show _ ↔ _
    rw [HZ.out, ← ho1, ← ho2, ← ho3, ← ho4]
    simp only [decide_eq_true_eq, tch]
  clear ho1 ho2 ho3 ho4 HZ ha hb hc hd
  have S1 := Lib.hid (fun W => sign_any (trn a b c) W)
  have S2 := Lib.hid (fun W => sign_any (trn a b d) W)
  have S3 := Lib.hid (fun W => sign_any (trn c d a) W)
  have S4 := Lib.hid (fun W => sign_any (trn c d b) W)
  obtain ⟨a1, a2⟩ := a
  obtain ⟨b1, b2⟩ := b
  obtain ⟨c1, c2⟩ := c
  obtain ⟨d1, d2⟩ := d
  unfold pv at *
  simp only at T1 T2 T3 T4 O1 O2 O3 O4 ⊢
  have p1 := sgn_in (trn (a1, a2) (b1, b2) (c1, c2))
  have p2 := sgn_in (trn (a1, a2) (b1, b2) (d1, d2))
  have p3 := sgn_in (trn (c1, c2) (d1, d2) (a1, a2))
  have p4 := sgn_in (trn (c1, c2) (d1, d2) (b1, b2))
  have u1 := unit_mul p1 p2
  have u2 := unit_mul p3 p4
  generalize sgn (trn (a1, a2) (b1, b2) (c1, c2)) = s1 at *
  generalize sgn (trn (a1, a2) (b1, b2) (d1, d2)) = s2 at *
  generalize sgn (trn (c1, c2) (d1, d2) (a1, a2)) = s3 at *
  generalize sgn (trn (c1, c2) (d1, d2) (b1, b2)) = s4 at *
  generalize trn (a1, a2) (b1, b2) (c1, c2) = t1 at *
  generalize trn (a1, a2) (b1, b2) (d1, d2) = t2 at *
  generalize trn (c1, c2) (d1, d2) (a1, a2) = t3 at *
  generalize trn (c1, c2) (d1, d2) (b1, b2) = t4 at *
  have w1 : IntKind.i64.wrap (s1 * s2) = s1 * s2 := IntWalk.i64_in _ (by omega)
  have w2 : IntKind.i64.wrap (s3 * s4) = s3 * s4 := IntWalk.i64_in _ (by omega)
  go_enter Tryz.func133, Tryz.ntmps133
  go_wp2_with fail
  refine wp_name (fun W => Quad 57 (.int .i64 a1) (.int .i64 a2) (.int .i64 b1) (.int .i64 b2) (.int .i64 c1) (.int .i64 c2) (.int .i64 d1) (.int .i64 d2) w W)
    ⟨(((below_alloc w _).alloc (by simp) _).alloc (by simp; omega) _).alloc (by simp; omega) _, (((Bk.new _ _ _).alloc _).alloc _).alloc _, (by simpa using (((Bk.new (w.alloc _) _ _).alloc _).alloc _)), (by simpa using ((Bk.new ((w.alloc _).alloc _) _ _).alloc _)), (by simpa using (Bk.new (((w.alloc _).alloc _).alloc _) _ _))⟩ ?_
  rintro W q0
  go_region_held3 (fun W => W.cell? ⟨w.heap.size, 0, none⟩ = some (.int .i64 a1) ∧ W.cell? ⟨w.heap.size, 1, none⟩ = some (.int .i64 a2) ∧ W.cell? ⟨w.heap.size + 1, 0, none⟩ = some (.int .i64 b1) ∧ W.cell? ⟨w.heap.size + 1, 1, none⟩ = some (.int .i64 b2) ∧ W.cell? ⟨w.heap.size + 1 + 1, 0, none⟩ = some (.int .i64 c1) ∧ W.cell? ⟨w.heap.size + 1 + 1, 1, none⟩ = some (.int .i64 c2) ∧ W.cell? ⟨w.heap.size + 1 + 1 + 1, 0, none⟩ = some (.int .i64 d1) ∧ W.cell? ⟨w.heap.size + 1 + 1 + 1, 1, none⟩ = some (.int .i64 d2))
    (first | assumption | with_reducible exact q4.cells | with_reducible exact q3.cells | with_reducible exact q2.cells | with_reducible exact q1.cells | with_reducible exact q0.drew.cells)
    (first
      | (go_at_call 132; (with_reducible refine (T1.out _).mono ?_); rintro e w1 ⟨hb1, rfl⟩; have q1 := q0.drew.next hb1)
      | (go_at_call 132; (with_reducible refine (T2.out _).mono ?_); rintro e w2 ⟨hb2, rfl⟩; have q2 := q1.next hb2)
      | (go_at_call 132; (with_reducible refine (T3.out _).mono ?_); rintro e w3 ⟨hb3, rfl⟩; have q3 := q2.next hb3)
      | (go_at_call 132; (with_reducible refine (T4.out _).mono ?_); rintro e w4 ⟨hb4, rfl⟩; have q4 := q3.next hb4)
      | (go_at_call 157; (with_reducible refine (S1.out _).mono ?_); rintro e w5 ⟨rfl, rfl⟩)
      | (go_at_call 157; (with_reducible refine (S2.out _).mono ?_); rintro e w5 ⟨rfl, rfl⟩)
      | (go_at_call 157; (with_reducible refine (S3.out _).mono ?_); rintro e w5 ⟨rfl, rfl⟩)
      | (go_at_call 157; (with_reducible refine (S4.out _).mono ?_); rintro e w5 ⟨rfl, rfl⟩))
  clear T1 T2 T3 T4 S1 S2 S3 S4 q0 q1 q2 q3 hb1 hb2 hb3 hb4 p1 p2 p3 p4
  obtain ⟨g1, g2, g3, g4, g5, g6, g7, g8⟩ := q4.cells
  go_wp2_with (first
    | (go_at_call 158; (with_reducible refine (O1.out _).mono ?_); rintro e w5 ⟨hb5, rfl⟩; have q5 := Quad.next (by assumption) hb5; clear hb5; obtain ⟨h1, h2, h3, h4, h5, h6, h7, h8⟩ := q5.cells)
    | (go_at_call 158; (with_reducible refine (O2.out _).mono ?_); rintro e w5 ⟨hb5, rfl⟩; have q5 := Quad.next (by assumption) hb5; clear hb5; obtain ⟨h1, h2, h3, h4, h5, h6, h7, h8⟩ := q5.cells)
    | (go_at_call 158; (with_reducible refine (O3.out _).mono ?_); rintro e w5 ⟨hb5, rfl⟩; have q5 := Quad.next (by assumption) hb5; clear hb5; obtain ⟨h1, h2, h3, h4, h5, h6, h7, h8⟩ := q5.cells)
    | (go_at_call 158; (with_reducible refine (O4.out _).mono ?_); rintro e w5 ⟨hb5, rfl⟩; have q5 := Quad.next (by assumption) hb5; clear hb5; obtain ⟨h1, h2, h3, h4, h5, h6, h7, h8⟩ := q5.cells))
  all_goals
    go_ret
    refine ⟨Quad.below (by assumption), ret_boolR ?_⟩
    rw [HZ2.out]
    grind
end Go.Proofs.YtbddmkklkbkliaaGreatDoor
