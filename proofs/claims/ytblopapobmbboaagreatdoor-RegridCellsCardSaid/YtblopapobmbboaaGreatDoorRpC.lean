/-
  Walks: the reference's cross, left, between (printed by rpgen.py).
-/
import Derived.Test.YtblopapobmbboaaGreatDoorRpA
import Derived.Test.YtblopapobmbboaaGreatDoorRegL
namespace Go.Proofs.YtblopapobmbboaaGreatDoor
open Go.RowKit Ar

/-- A number of the reference in a block. -/
def QAt (w : World) (b : Nat) (q : Rat) : Prop := ∃ s A l c A' l' c', Bk w b 59 #[.bool s, .slice A l c, .slice A' l' c'] ∧ IsQ w w.heap.size (.agg #[.bool s, .slice A l c, .slice A' l' c']) q
theorem QAt.next {w w' : World} {b : Nat} {q : Rat} (h : QAt w b q) (hb : Below w.heap.size w w') : QAt w' b q := by
  obtain ⟨s, A, l, c, A', l', c', h1, h2⟩ := h
  exact ⟨s, A, l, c, A', l', c', h1.below hb h1.lt, h2.next hb⟩
theorem QAt.lt {w : World} {b : Nat} {q : Rat} (h : QAt w b q) : b < w.heap.size := by
  obtain ⟨s, A, l, c, A', l', c', h1, h2⟩ := h
  exact h1.lt
section
variable {w : World} {s t : Bool} {A A' C C' : Option Addr} {l k l' k' n j n' j' : Nat} {p q : Rat} {b b2 : Nat}
theorem qatN (hp : IsQ w w.heap.size (.agg #[.bool s, .slice A l k, .slice A' l' k']) p) : QAt (w.alloc (.cells #[.bool s, .slice A l k, .slice A' l' k'] 59)) w.heap.size p :=
  ⟨_, _, _, _, _, _, _, Bk.new _ _ _, hp.next (below_alloc w _)⟩
theorem qatS (kA : Bk w b 59 #[.bool false, .slice none 0 0, .slice none 0 0]) (hp : IsQ w w.heap.size (.agg #[.bool s, .slice A l k, .slice A' l' k']) p) :
    QAt (((w.setCell ⟨b, 0, none⟩ (.bool s)).setCell ⟨b, 1, none⟩ (.slice A l k)).setCell ⟨b, 2, none⟩ (.slice A' l' k')) b p :=
  ⟨_, _, _, _, _, _, _, set3_bk kA, by
    have e := set3_size w b (.bool s) (.slice A l k) (.slice A' l' k')
    have hp1 := hp.set3 kA (.bool s) (.slice A l k) (.slice A' l' k')
    rw [← e] at hp1
    exact hp1⟩
end
/-- Three points of the reference in blocks of a call's own. -/
structure Trq (sa sb sc : Sx) (a b c : Qp) (w W : World) : Prop where
  below : Below w.heap.size w W
  k1 : Bk W w.heap.size 119 sa.cells.toArray
  k2 : Bk W (w.heap.size + 1) 119 sb.cells.toArray
  k3 : Bk W (w.heap.size + 1 + 1) 119 sc.cells.toArray
  p1 : IsRt W W.heap.size sa a
  p2 : IsRt W W.heap.size sb b
  p3 : IsRt W W.heap.size sc c
section
variable {sa sb sc : Sx} {a b c : Qp} {w W W' : World}
theorem Trq.next (h : Trq sa sb sc a b c w W) (hb : Below W.heap.size W W') : Trq sa sb sc a b c w W' :=
  ⟨h.below.trans (hb.mono h.below.size), h.k1.below hb h.k1.lt, h.k2.below hb h.k2.lt, h.k3.below hb h.k3.lt, h.p1.next hb, h.p2.next hb, h.p3.next hb⟩
theorem Trq.drew (h : Trq sa sb sc a b c w W) : Trq sa sb sc a b c w W.drew := ⟨h.below.drew, h.k1, h.k2, h.k3, h.p1, h.p2, h.p3⟩
theorem Trq.cells (h : Trq sa sb sc a b c w W) :
    (W.cell? ⟨w.heap.size, 0, none⟩ = some (.bool sa.b1) ∧ W.cell? ⟨w.heap.size, 1, none⟩ = some sa.n1 ∧ W.cell? ⟨w.heap.size, 2, none⟩ = some sa.d1 ∧ W.cell? ⟨w.heap.size, 3, none⟩ = some (.bool sa.b2) ∧ W.cell? ⟨w.heap.size, 4, none⟩ = some sa.n2 ∧ W.cell? ⟨w.heap.size, 5, none⟩ = some sa.d2) ∧ (W.cell? ⟨w.heap.size + 1, 0, none⟩ = some (.bool sb.b1) ∧ W.cell? ⟨w.heap.size + 1, 1, none⟩ = some sb.n1 ∧ W.cell? ⟨w.heap.size + 1, 2, none⟩ = some sb.d1 ∧ W.cell? ⟨w.heap.size + 1, 3, none⟩ = some (.bool sb.b2) ∧ W.cell? ⟨w.heap.size + 1, 4, none⟩ = some sb.n2 ∧ W.cell? ⟨w.heap.size + 1, 5, none⟩ = some sb.d2) ∧ (W.cell? ⟨w.heap.size + 1 + 1, 0, none⟩ = some (.bool sc.b1) ∧ W.cell? ⟨w.heap.size + 1 + 1, 1, none⟩ = some sc.n1 ∧ W.cell? ⟨w.heap.size + 1 + 1, 2, none⟩ = some sc.d1 ∧ W.cell? ⟨w.heap.size + 1 + 1, 3, none⟩ = some (.bool sc.b2) ∧ W.cell? ⟨w.heap.size + 1 + 1, 4, none⟩ = some sc.n2 ∧ W.cell? ⟨w.heap.size + 1 + 1, 5, none⟩ = some sc.d2) :=
  ⟨bk6c h.k1, bk6c h.k2, bk6c h.k3⟩
theorem Trq.start (ha : IsRt w w.heap.size sa a) (hb : IsRt w w.heap.size sb b) (hc : IsRt w w.heap.size sc c) : Trq sa sb sc a b c w (((w.alloc (.cells sa.cells.toArray 119)).alloc (.cells sb.cells.toArray 119)).alloc (.cells sc.cells.toArray 119)) := by
  have hB : Below w.heap.size w (((w.alloc (.cells sa.cells.toArray 119)).alloc (.cells sb.cells.toArray 119)).alloc (.cells sc.cells.toArray 119)) := ((below_alloc w _).alloc (by simp) _).alloc (by simp; omega) _
  exact ⟨hB, ((Bk.new _ _ _).alloc _).alloc _, (by simpa [Sx.cells] using ((Bk.new (w.alloc _) _ _).alloc _)), (by simpa [Sx.cells] using (Bk.new ((w.alloc _).alloc _) _ _)), ha.next hB, hb.next hB, hc.next hB⟩
end

set_option maxRecDepth 100000 in
set_option maxHeartbeats 6400000 in
theorem qcross_any (a b c : Qp) (sa sb sc : Sx) (w : World) (ha : IsRt w w.heap.size sa a) (hb : IsRt w w.heap.size sb b) (hc : IsRt w w.heap.size sc c) (la : szp a ≤ 10000000000) (lb : szp b ≤ 10000000000) (lc : szp c ≤ 10000000000) :
    Calls Tryz.prog 125 #[sa.val, sb.val, sc.val] w fun e w' => Below w.heap.size w w' ∧ ∃ v, e = .returned v ∧ IsQ w' w'.heap.size v (crossQ a b c) := by
  unfold szp at *
  have l1 : sz a.1 ≤ 100000000000 := by omega
  have l2 : sz a.2 ≤ 100000000000 := by omega
  have l3 : sz b.1 ≤ 100000000000 := by omega
  have l4 : sz b.2 ≤ 100000000000 := by omega
  have l5 : sz c.1 ≤ 100000000000 := by omega
  have l6 : sz c.2 ≤ 100000000000 := by omega
  have m1 : sz (b.1 - a.1) ≤ 200000000000 := by have := sz_sub b.1 a.1; omega
  have m2 : sz (c.2 - a.2) ≤ 200000000000 := by have := sz_sub c.2 a.2; omega
  have m3 : sz (b.2 - a.2) ≤ 200000000000 := by have := sz_sub b.2 a.2; omega
  have m4 : sz (c.1 - a.1) ≤ 200000000000 := by have := sz_sub c.1 a.1; omega
  have n1 : sz ((b.1 - a.1) * (c.2 - a.2)) ≤ 100000000000 := by have := sz_mul (b.1 - a.1) (c.2 - a.2); have := sz_sub b.1 a.1; have := sz_sub c.2 a.2; omega
  have n2 : sz ((b.2 - a.2) * (c.1 - a.1)) ≤ 100000000000 := by have := sz_mul (b.2 - a.2) (c.1 - a.1); have := sz_sub b.2 a.2; have := sz_sub c.1 a.1; omega
  have HC : Hid (crossQ a b c = (b.1 - a.1) * (c.2 - a.2) - (b.2 - a.2) * (c.1 - a.1)) := rfl
  clear la lb lc
  unfold Sx.val
  go_enter Tryz.func125, Tryz.ntmps125
  go_wp2_with fail
  refine wp_name (fun W => Trq sa sb sc a b c w W ∧ Bk W (w.heap.size + 1 + 1 + 1) 59 #[.bool false, .slice none 0 0, .slice none 0 0]) ⟨?_, ?_⟩ ?_
  · exact (Trq.start ha hb hc).next (below_alloc _ _)
  · simpa using (Bk.new (((w.alloc _).alloc _).alloc _) _ _)
  rintro W ⟨q0, k0⟩
  clear ha hb hc
  have C1 := Lib.hid (fun X (h : Below W.heap.size W X) => qminus_any (b.1) (a.1) _ _ X (q0.next h).p2.x (q0.next h).p1.x (by assumption) (by assumption))
  have C2 := Lib.hid (fun X (h : Below W.heap.size W X) => qminus_any (c.2) (a.2) _ _ X (q0.next h).p3.y (q0.next h).p1.y (by assumption) (by assumption))
  obtain ⟨⟨a0, a1, a2, a3, a4, a5⟩, ⟨b0, b1, b2, b3, b4, b5⟩, c0, c1, c2, c3, c4, c5⟩ := q0.cells
  have bb0 := Below.refl W.heap.size W
  have hbs0 := bb0.size
  go_cut [7] from 9 to 33 (fun x wx => ∃ bp, x = .pointer (some ⟨bp, 0, none⟩) ∧ QAt wx bp ((b.1 - a.1) * (c.2 - a.2)) ∧ Below W.heap.size W wx ∧ W.heap.size ≤ bp)
  case first =>
    go_region_held3 (fun X => (X.cell? ⟨w.heap.size, 0, none⟩ = some (.bool sa.b1) ∧ X.cell? ⟨w.heap.size, 1, none⟩ = some sa.n1 ∧ X.cell? ⟨w.heap.size, 2, none⟩ = some sa.d1 ∧ X.cell? ⟨w.heap.size, 3, none⟩ = some (.bool sa.b2) ∧ X.cell? ⟨w.heap.size, 4, none⟩ = some sa.n2 ∧ X.cell? ⟨w.heap.size, 5, none⟩ = some sa.d2) ∧ (X.cell? ⟨w.heap.size + 1, 0, none⟩ = some (.bool sb.b1) ∧ X.cell? ⟨w.heap.size + 1, 1, none⟩ = some sb.n1 ∧ X.cell? ⟨w.heap.size + 1, 2, none⟩ = some sb.d1 ∧ X.cell? ⟨w.heap.size + 1, 3, none⟩ = some (.bool sb.b2) ∧ X.cell? ⟨w.heap.size + 1, 4, none⟩ = some sb.n2 ∧ X.cell? ⟨w.heap.size + 1, 5, none⟩ = some sb.d2) ∧ (X.cell? ⟨w.heap.size + 1 + 1, 0, none⟩ = some (.bool sc.b1) ∧ X.cell? ⟨w.heap.size + 1 + 1, 1, none⟩ = some sc.n1 ∧ X.cell? ⟨w.heap.size + 1 + 1, 2, none⟩ = some sc.d1 ∧ X.cell? ⟨w.heap.size + 1 + 1, 3, none⟩ = some (.bool sc.b2) ∧ X.cell? ⟨w.heap.size + 1 + 1, 4, none⟩ = some sc.n2 ∧ X.cell? ⟨w.heap.size + 1 + 1, 5, none⟩ = some sc.d2))
      (((with_reducible refine (q0.next ?_).cells); repeat' (first | (with_reducible exact bb3) | (with_reducible exact bb2) | (with_reducible exact bb1) | (with_reducible exact bb0) | ((with_reducible refine Below.setCell ?_ ?_ _); rotate_left; (focus first | omega | (simp; done) | (simp; omega) | (unfold World.setCell; simp; omega))) | ((with_reducible refine Below.alloc ?_ ?_ _); rotate_left; (focus first | omega | (simp; done) | (simp; omega) | (unfold World.setCell; simp; omega))) | (with_reducible refine Below.drew ?_))))
      (first
        | (go_at_call 92; (with_reducible refine (C1.out _ ?_).mono ?_); (focus repeat' (first | (with_reducible exact bb0) | ((with_reducible refine Below.setCell ?_ ?_ _); rotate_left; (focus first | omega | (simp; done) | (simp; omega) | (unfold World.setCell; simp; omega))) | ((with_reducible refine Below.alloc ?_ ?_ _); rotate_left; (focus first | omega | (simp; done) | (simp; omega) | (unfold World.setCell; simp; omega))) | (with_reducible refine Below.drew ?_))); rintro e w1 ⟨hb1, v1, rfl, y1⟩; have bb1 : Below W.heap.size W w1 := below_step (by repeat' (first | (with_reducible exact bb0) | ((with_reducible refine Below.setCell ?_ ?_ _); rotate_left; (focus first | omega | (simp; done) | (simp; omega) | (unfold World.setCell; simp; omega))) | ((with_reducible refine Below.alloc ?_ ?_ _); rotate_left; (focus first | omega | (simp; done) | (simp; omega) | (unfold World.setCell; simp; omega))) | (with_reducible refine Below.drew ?_))) hb1; have hbs1 := bb1.size; have rw1 := Below.refl w1.heap.size w1; obtain ⟨t1, A1, l1, e1, A1', l1', e1', rfl⟩ := y1.form; (first | (with_reducible have ka := (Bk.new W 59 #[.bool false, .slice none 0 0, .slice none 0 0]).drew.next' hb1; have la := ka.lt) | skip))
        | (go_at_call 92; (with_reducible refine (C2.out _ ?_).mono ?_); (focus repeat' (first | (with_reducible exact bb1) | (with_reducible exact bb0) | ((with_reducible refine Below.setCell ?_ ?_ _); rotate_left; (focus first | omega | (simp; done) | (simp; omega) | (unfold World.setCell; simp; omega))) | ((with_reducible refine Below.alloc ?_ ?_ _); rotate_left; (focus first | omega | (simp; done) | (simp; omega) | (unfold World.setCell; simp; omega))) | (with_reducible refine Below.drew ?_))); rintro e w2 ⟨hb2, v2, rfl, y2⟩; have bb2 : Below W.heap.size W w2 := below_step (by repeat' (first | (with_reducible exact bb1) | (with_reducible exact bb0) | ((with_reducible refine Below.setCell ?_ ?_ _); rotate_left; (focus first | omega | (simp; done) | (simp; omega) | (unfold World.setCell; simp; omega))) | ((with_reducible refine Below.alloc ?_ ?_ _); rotate_left; (focus first | omega | (simp; done) | (simp; omega) | (unfold World.setCell; simp; omega))) | (with_reducible refine Below.drew ?_))) hb2; have hbs2 := bb2.size; have rw2 := Below.refl w2.heap.size w2; obtain ⟨t2, A2, l2, e2, A2', l2', e2', rfl⟩ := y2.form; have y12 := y1.next (below_step (by repeat' (first | (with_reducible exact rw1) | ((with_reducible refine Below.setCell ?_ ?_ _); rotate_left; (focus first | omega | (simp; done) | (simp; omega) | (unfold World.setCell; simp; omega))) | ((with_reducible refine Below.alloc ?_ ?_ _); rotate_left; (focus first | omega | (simp; done) | (simp; omega) | (unfold World.setCell; simp; omega))) | (with_reducible refine Below.drew ?_))) hb2); have C3 := Lib.hid (fun X (h : Below w2.heap.size w2 X) => qprod_any (b.1 - a.1) (c.2 - a.2) _ _ X (y12.next h) (y2.next h) (by assumption) (by assumption)); (first | (with_reducible have ka := ka.next' hb2; have la := ka.lt) | (with_reducible have ka := (Bk.new w1 59 #[.bool false, .slice none 0 0, .slice none 0 0]).next' hb2; have la := ka.lt) | skip))
        | (go_at_call 91; (with_reducible refine (C3.out _ ?_).mono ?_); (focus repeat' (first | (with_reducible exact rw2) | ((with_reducible refine Below.setCell ?_ ?_ _); rotate_left; (focus first | omega | (simp; done) | (simp; omega) | (unfold World.setCell; simp; omega))) | ((with_reducible refine Below.alloc ?_ ?_ _); rotate_left; (focus first | omega | (simp; done) | (simp; omega) | (unfold World.setCell; simp; omega))) | (with_reducible refine Below.drew ?_))); rintro e w3 ⟨hb3, v3, rfl, y3⟩; have bb3 : Below W.heap.size W w3 := below_step (by repeat' (first | (with_reducible exact bb2) | (with_reducible exact bb1) | (with_reducible exact bb0) | ((with_reducible refine Below.setCell ?_ ?_ _); rotate_left; (focus first | omega | (simp; done) | (simp; omega) | (unfold World.setCell; simp; omega))) | ((with_reducible refine Below.alloc ?_ ?_ _); rotate_left; (focus first | omega | (simp; done) | (simp; omega) | (unfold World.setCell; simp; omega))) | (with_reducible refine Below.drew ?_))) hb3; have hbs3 := bb3.size; have rw3 := Below.refl w3.heap.size w3; obtain ⟨t3, A3, l3, e3, A3', l3', e3', rfl⟩ := y3.form; (first | (with_reducible have ka := ka.next' hb3; have la := ka.lt) | (with_reducible have ka := (Bk.new w2 59 #[.bool false, .slice none 0 0, .slice none 0 0]).next' hb3; have la := ka.lt) | skip); (first | (obtain ⟨i0, i1, i2⟩ := bk3 ka; have f0 := ka.frozen 0; have f1 := ka.frozen 1; have f2 := ka.frozen 2) | skip)))
    all_goals (go_wp2_with fail)
    all_goals go_meet
    all_goals
      refine ⟨_, rfl, ?_, ?_, by omega⟩
      · first | (with_reducible exact qatN y3) | (with_reducible exact qatS ka y3)
      · repeat' (first | (with_reducible exact bb3) | (with_reducible exact bb2) | (with_reducible exact bb1) | (with_reducible exact bb0) | ((with_reducible refine Below.setCell ?_ ?_ _); rotate_left; (focus first | omega | (simp; done) | (simp; omega) | (unfold World.setCell; simp; omega))) | ((with_reducible refine Below.alloc ?_ ?_ _); rotate_left; (focus first | omega | (simp; done) | (simp; omega) | (unfold World.setCell; simp; omega))) | (with_reducible refine Below.drew ?_))
  case rest =>
  obtain ⟨bp, rfl, hP, hbc, hbp⟩ := hcut
  have q1 := q0.next hbc
  have k1 := k0.next' hbc
  clear q0 k0 C1 C2 bb0 hbs0 a0 a1 a2 a3 a4 a5 b0 b1 b2 b3 b4 b5 c0 c1 c2 c3 c4 c5
  have hcs := hbc.size
  have hbpl := hP.lt
  go_wp2_with fail
  have C1 := Lib.hid (fun X (h : Below wc.heap.size wc X) => qminus_any (b.2) (a.2) _ _ X (q1.next h).p2.y (q1.next h).p1.y (by assumption) (by assumption))
  have C2 := Lib.hid (fun X (h : Below wc.heap.size wc X) => qminus_any (c.1) (a.1) _ _ X (q1.next h).p3.x (q1.next h).p1.x (by assumption) (by assumption))
  obtain ⟨⟨a0, a1, a2, a3, a4, a5⟩, ⟨b0, b1, b2, b3, b4, b5⟩, c0, c1, c2, c3, c4, c5⟩ := q1.cells
  have bb0 := Below.refl wc.heap.size wc
  have hbs0 := bb0.size
  go_cut [8] from 9 to 33 (fun x wx => ∃ bq, x = .pointer (some ⟨bq, 0, none⟩) ∧ QAt wx bq ((b.2 - a.2) * (c.1 - a.1)) ∧ Below wc.heap.size wc wx ∧ wc.heap.size ≤ bq)
  case first =>
    go_region_held3 (fun X => (X.cell? ⟨w.heap.size, 0, none⟩ = some (.bool sa.b1) ∧ X.cell? ⟨w.heap.size, 1, none⟩ = some sa.n1 ∧ X.cell? ⟨w.heap.size, 2, none⟩ = some sa.d1 ∧ X.cell? ⟨w.heap.size, 3, none⟩ = some (.bool sa.b2) ∧ X.cell? ⟨w.heap.size, 4, none⟩ = some sa.n2 ∧ X.cell? ⟨w.heap.size, 5, none⟩ = some sa.d2) ∧ (X.cell? ⟨w.heap.size + 1, 0, none⟩ = some (.bool sb.b1) ∧ X.cell? ⟨w.heap.size + 1, 1, none⟩ = some sb.n1 ∧ X.cell? ⟨w.heap.size + 1, 2, none⟩ = some sb.d1 ∧ X.cell? ⟨w.heap.size + 1, 3, none⟩ = some (.bool sb.b2) ∧ X.cell? ⟨w.heap.size + 1, 4, none⟩ = some sb.n2 ∧ X.cell? ⟨w.heap.size + 1, 5, none⟩ = some sb.d2) ∧ (X.cell? ⟨w.heap.size + 1 + 1, 0, none⟩ = some (.bool sc.b1) ∧ X.cell? ⟨w.heap.size + 1 + 1, 1, none⟩ = some sc.n1 ∧ X.cell? ⟨w.heap.size + 1 + 1, 2, none⟩ = some sc.d1 ∧ X.cell? ⟨w.heap.size + 1 + 1, 3, none⟩ = some (.bool sc.b2) ∧ X.cell? ⟨w.heap.size + 1 + 1, 4, none⟩ = some sc.n2 ∧ X.cell? ⟨w.heap.size + 1 + 1, 5, none⟩ = some sc.d2))
      (((with_reducible refine (q1.next ?_).cells); repeat' (first | (with_reducible exact bb3) | (with_reducible exact bb2) | (with_reducible exact bb1) | (with_reducible exact bb0) | ((with_reducible refine Below.setCell ?_ ?_ _); rotate_left; (focus first | omega | (simp; done) | (simp; omega) | (unfold World.setCell; simp; omega))) | ((with_reducible refine Below.alloc ?_ ?_ _); rotate_left; (focus first | omega | (simp; done) | (simp; omega) | (unfold World.setCell; simp; omega))) | (with_reducible refine Below.drew ?_))))
      (first
        | (go_at_call 92; (with_reducible refine (C1.out _ ?_).mono ?_); (focus repeat' (first | (with_reducible exact bb0) | ((with_reducible refine Below.setCell ?_ ?_ _); rotate_left; (focus first | omega | (simp; done) | (simp; omega) | (unfold World.setCell; simp; omega))) | ((with_reducible refine Below.alloc ?_ ?_ _); rotate_left; (focus first | omega | (simp; done) | (simp; omega) | (unfold World.setCell; simp; omega))) | (with_reducible refine Below.drew ?_))); rintro e w1 ⟨hb1, v1, rfl, y1⟩; have bb1 : Below wc.heap.size wc w1 := below_step (by repeat' (first | (with_reducible exact bb0) | ((with_reducible refine Below.setCell ?_ ?_ _); rotate_left; (focus first | omega | (simp; done) | (simp; omega) | (unfold World.setCell; simp; omega))) | ((with_reducible refine Below.alloc ?_ ?_ _); rotate_left; (focus first | omega | (simp; done) | (simp; omega) | (unfold World.setCell; simp; omega))) | (with_reducible refine Below.drew ?_))) hb1; have hbs1 := bb1.size; have rw1 := Below.refl w1.heap.size w1; obtain ⟨t1, A1, l1, e1, A1', l1', e1', rfl⟩ := y1.form; (first | (with_reducible have ka := (Bk.new wc 59 #[.bool false, .slice none 0 0, .slice none 0 0]).drew.next' hb1; have la := ka.lt) | skip))
        | (go_at_call 92; (with_reducible refine (C2.out _ ?_).mono ?_); (focus repeat' (first | (with_reducible exact bb1) | (with_reducible exact bb0) | ((with_reducible refine Below.setCell ?_ ?_ _); rotate_left; (focus first | omega | (simp; done) | (simp; omega) | (unfold World.setCell; simp; omega))) | ((with_reducible refine Below.alloc ?_ ?_ _); rotate_left; (focus first | omega | (simp; done) | (simp; omega) | (unfold World.setCell; simp; omega))) | (with_reducible refine Below.drew ?_))); rintro e w2 ⟨hb2, v2, rfl, y2⟩; have bb2 : Below wc.heap.size wc w2 := below_step (by repeat' (first | (with_reducible exact bb1) | (with_reducible exact bb0) | ((with_reducible refine Below.setCell ?_ ?_ _); rotate_left; (focus first | omega | (simp; done) | (simp; omega) | (unfold World.setCell; simp; omega))) | ((with_reducible refine Below.alloc ?_ ?_ _); rotate_left; (focus first | omega | (simp; done) | (simp; omega) | (unfold World.setCell; simp; omega))) | (with_reducible refine Below.drew ?_))) hb2; have hbs2 := bb2.size; have rw2 := Below.refl w2.heap.size w2; obtain ⟨t2, A2, l2, e2, A2', l2', e2', rfl⟩ := y2.form; have y12 := y1.next (below_step (by repeat' (first | (with_reducible exact rw1) | ((with_reducible refine Below.setCell ?_ ?_ _); rotate_left; (focus first | omega | (simp; done) | (simp; omega) | (unfold World.setCell; simp; omega))) | ((with_reducible refine Below.alloc ?_ ?_ _); rotate_left; (focus first | omega | (simp; done) | (simp; omega) | (unfold World.setCell; simp; omega))) | (with_reducible refine Below.drew ?_))) hb2); have C3 := Lib.hid (fun X (h : Below w2.heap.size w2 X) => qprod_any (b.2 - a.2) (c.1 - a.1) _ _ X (y12.next h) (y2.next h) (by assumption) (by assumption)); (first | (with_reducible have ka := ka.next' hb2; have la := ka.lt) | (with_reducible have ka := (Bk.new w1 59 #[.bool false, .slice none 0 0, .slice none 0 0]).next' hb2; have la := ka.lt) | skip))
        | (go_at_call 91; (with_reducible refine (C3.out _ ?_).mono ?_); (focus repeat' (first | (with_reducible exact rw2) | ((with_reducible refine Below.setCell ?_ ?_ _); rotate_left; (focus first | omega | (simp; done) | (simp; omega) | (unfold World.setCell; simp; omega))) | ((with_reducible refine Below.alloc ?_ ?_ _); rotate_left; (focus first | omega | (simp; done) | (simp; omega) | (unfold World.setCell; simp; omega))) | (with_reducible refine Below.drew ?_))); rintro e w3 ⟨hb3, v3, rfl, y3⟩; have bb3 : Below wc.heap.size wc w3 := below_step (by repeat' (first | (with_reducible exact bb2) | (with_reducible exact bb1) | (with_reducible exact bb0) | ((with_reducible refine Below.setCell ?_ ?_ _); rotate_left; (focus first | omega | (simp; done) | (simp; omega) | (unfold World.setCell; simp; omega))) | ((with_reducible refine Below.alloc ?_ ?_ _); rotate_left; (focus first | omega | (simp; done) | (simp; omega) | (unfold World.setCell; simp; omega))) | (with_reducible refine Below.drew ?_))) hb3; have hbs3 := bb3.size; have rw3 := Below.refl w3.heap.size w3; obtain ⟨t3, A3, l3, e3, A3', l3', e3', rfl⟩ := y3.form; (first | (with_reducible have ka := ka.next' hb3; have la := ka.lt) | (with_reducible have ka := (Bk.new w2 59 #[.bool false, .slice none 0 0, .slice none 0 0]).next' hb3; have la := ka.lt) | skip); (first | (obtain ⟨i0, i1, i2⟩ := bk3 ka; have f0 := ka.frozen 0; have f1 := ka.frozen 1; have f2 := ka.frozen 2) | skip)))
    all_goals (go_wp2_with fail)
    all_goals go_meet
    all_goals
      refine ⟨_, rfl, ?_, ?_, by omega⟩
      · first | (with_reducible exact qatN y3) | (with_reducible exact qatS ka y3)
      · repeat' (first | (with_reducible exact bb3) | (with_reducible exact bb2) | (with_reducible exact bb1) | (with_reducible exact bb0) | ((with_reducible refine Below.setCell ?_ ?_ _); rotate_left; (focus first | omega | (simp; done) | (simp; omega) | (unfold World.setCell; simp; omega))) | ((with_reducible refine Below.alloc ?_ ?_ _); rotate_left; (focus first | omega | (simp; done) | (simp; omega) | (unfold World.setCell; simp; omega))) | (with_reducible refine Below.drew ?_))
  case rest =>
  obtain ⟨bq, rfl, hQ, hbd, hbq⟩ := hcut
  have q2 := q1.next hbd
  have k2 := k1.next' hbd
  have hP2 := hP.next hbd
  clear q1 k1 C1 C2 bb0 hbs0 a0 a1 a2 a3 a4 a5 b0 b1 b2 b3 b4 b5 c0 c1 c2 c3 c4 c5 hP
  obtain ⟨s1, A1, l1, c1, A1', l1', c1', kP, fP⟩ := hP2
  obtain ⟨s2, A2, l2, c2, A2', l2', c2', kQ, fQ⟩ := hQ
  obtain ⟨i0, i1, i2⟩ := bk3 kP
  obtain ⟨j0, j1, j2⟩ := bk3 kQ
  go_wp2_with fail
  refine (qminus_any _ _ _ _ _ fP fQ n1 n2).mono ?_
  rintro e w3 ⟨hb3, v3, rfl, y3⟩
  obtain ⟨t3, A5, l5, c5, A6, l6, c6, rfl⟩ := y3.form
  have k3 := k2.next' hb3
  have q3 := q2.next hb3
  have hlt := k3.lt
  obtain ⟨e0, e1, e2⟩ := bk3 k3
  have f0 := k3.frozen 0
  have f1 := k3.frozen 1
  have f2 := k3.frozen 2
  clear i0 i1 i2 j0 j1 j2 kP kQ
  go_wp2
  refine bodyPost_ret (v := .agg #[.bool t3, .slice A5 l5 c5, .slice A6 l6 c6]) (by simp [results, Tryz.results125, go_sem, e0, e1, e2]) rfl ?_
  have ST := y3.stored (w := w) k3 q3.below (by omega)
  refine ⟨ST.1, _, rfl, ?_⟩
  rw [HC.out]
  exact ST.2

theorem sz_cross' {a b c : Qp} (la : szp a ≤ 10000000000) (lb : szp b ≤ 10000000000) (lc : szp c ≤ 10000000000) : sz (crossQ a b c) ≤ 100000000000 := by
  have := sz_cross la lb lc
  omega
set_option maxRecDepth 100000 in
set_option maxHeartbeats 3200000 in
theorem left_any (a b c : Qp) (sa sb sc : Sx) (w : World) (ha : IsRt w w.heap.size sa a) (hb : IsRt w w.heap.size sb b) (hc : IsRt w w.heap.size sc c) (la : szp a ≤ 10000000000) (lb : szp b ≤ 10000000000) (lc : szp c ≤ 10000000000) :
    Calls Tryz.prog 113 #[sa.val, sb.val, sc.val] w fun e w' => Below w.heap.size w w' ∧ e = .returned (.int .i64 (sgQ (crossQ a b c))) := by
  have HZ := Lib.hid (sz_cross' la lb lc)
  have q0 := Trq.start ha hb hc
  clear ha hb hc
  have C1 := qcross_any a b c sa sb sc _ q0.p1 q0.p2 q0.p3 la lb lc
  unfold Sx.val at *
  go_enter Tryz.func113, Tryz.ntmps113
  go_wp2_with fail
  refine C1.mono ?_
  rintro e w1 ⟨hb1, v1, rfl, y1⟩
  clear C1
  go_wp2_with fail
  refine (qsgn_any _ _ _ y1 (Nat.le_trans HZ.out (by omega))).mono ?_
  rintro e w2 ⟨hb2, rfl⟩
  have q2 := (q0.next hb1).next hb2
  go_wp2
  go_ret
  exact ⟨q2.below, rfl⟩

/-- What 'between' looks at. -/
def btwR (a b c : Qp) : Rat := (c.1 - a.1) * (c.1 - b.1) + (c.2 - a.2) * (c.2 - b.2)
set_option maxRecDepth 100000 in
set_option maxHeartbeats 6400000 in
theorem between_any (a b c : Qp) (sa sb sc : Sx) (w : World) (ha : IsRt w w.heap.size sa a) (hb : IsRt w w.heap.size sb b) (hc : IsRt w w.heap.size sc c) (la : szp a ≤ 10000000000) (lb : szp b ≤ 10000000000) (lc : szp c ≤ 10000000000) :
    Calls Tryz.prog 114 #[sa.val, sb.val, sc.val] w fun e w' => Below w.heap.size w w' ∧ e = .returned (.bool (decide (sgQ (btwR a b c) < 0))) := by
  unfold szp at *
  have l1 : sz a.1 ≤ 100000000000 := by omega
  have l2 : sz a.2 ≤ 100000000000 := by omega
  have l3 : sz b.1 ≤ 100000000000 := by omega
  have l4 : sz b.2 ≤ 100000000000 := by omega
  have l5 : sz c.1 ≤ 100000000000 := by omega
  have l6 : sz c.2 ≤ 100000000000 := by omega
  have m1 : sz (c.1 - a.1) ≤ 200000000000 := by have := sz_sub c.1 a.1; omega
  have m2 : sz (c.1 - b.1) ≤ 200000000000 := by have := sz_sub c.1 b.1; omega
  have m3 : sz (c.2 - a.2) ≤ 200000000000 := by have := sz_sub c.2 a.2; omega
  have m4 : sz (c.2 - b.2) ≤ 200000000000 := by have := sz_sub c.2 b.2; omega
  have n1 : sz ((c.1 - a.1) * (c.1 - b.1)) ≤ 100000000000 := by have := sz_mul (c.1 - a.1) (c.1 - b.1); have := sz_sub c.1 a.1; have := sz_sub c.1 b.1; omega
  have n2 : sz ((c.2 - a.2) * (c.2 - b.2)) ≤ 100000000000 := by have := sz_mul (c.2 - a.2) (c.2 - b.2); have := sz_sub c.2 a.2; have := sz_sub c.2 b.2; omega
  have n3 : sz ((c.1 - a.1) * (c.1 - b.1) + (c.2 - a.2) * (c.2 - b.2)) ≤ 1000000000000 := by have := sz_add ((c.1 - a.1) * (c.1 - b.1)) ((c.2 - a.2) * (c.2 - b.2)); omega
  have HC : Hid (btwR a b c = (c.1 - a.1) * (c.1 - b.1) + (c.2 - a.2) * (c.2 - b.2)) := rfl
  clear la lb lc
  unfold Sx.val
  go_enter Tryz.func114, Tryz.ntmps114
  go_wp2_with fail
  refine wp_name (fun W => Trq sa sb sc a b c w W) (Trq.start ha hb hc) ?_
  rintro W q0
  clear ha hb hc
  have C1 := Lib.hid (fun X (h : Below W.heap.size W X) => qminus_any (c.1) (a.1) _ _ X (q0.next h).p3.x (q0.next h).p1.x (by assumption) (by assumption))
  have C2 := Lib.hid (fun X (h : Below W.heap.size W X) => qminus_any (c.1) (b.1) _ _ X (q0.next h).p3.x (q0.next h).p2.x (by assumption) (by assumption))
  obtain ⟨⟨a0, a1, a2, a3, a4, a5⟩, ⟨b0, b1, b2, b3, b4, b5⟩, c0, c1, c2, c3, c4, c5⟩ := q0.cells
  have bb0 := Below.refl W.heap.size W
  have hbs0 := bb0.size
  go_cut [7] from 9 to 35 (fun x wx => ∃ bp, x = .pointer (some ⟨bp, 0, none⟩) ∧ QAt wx bp ((c.1 - a.1) * (c.1 - b.1)) ∧ Below W.heap.size W wx ∧ W.heap.size ≤ bp)
  case first =>
    go_region_held3 (fun X => (X.cell? ⟨w.heap.size, 0, none⟩ = some (.bool sa.b1) ∧ X.cell? ⟨w.heap.size, 1, none⟩ = some sa.n1 ∧ X.cell? ⟨w.heap.size, 2, none⟩ = some sa.d1 ∧ X.cell? ⟨w.heap.size, 3, none⟩ = some (.bool sa.b2) ∧ X.cell? ⟨w.heap.size, 4, none⟩ = some sa.n2 ∧ X.cell? ⟨w.heap.size, 5, none⟩ = some sa.d2) ∧ (X.cell? ⟨w.heap.size + 1, 0, none⟩ = some (.bool sb.b1) ∧ X.cell? ⟨w.heap.size + 1, 1, none⟩ = some sb.n1 ∧ X.cell? ⟨w.heap.size + 1, 2, none⟩ = some sb.d1 ∧ X.cell? ⟨w.heap.size + 1, 3, none⟩ = some (.bool sb.b2) ∧ X.cell? ⟨w.heap.size + 1, 4, none⟩ = some sb.n2 ∧ X.cell? ⟨w.heap.size + 1, 5, none⟩ = some sb.d2) ∧ (X.cell? ⟨w.heap.size + 1 + 1, 0, none⟩ = some (.bool sc.b1) ∧ X.cell? ⟨w.heap.size + 1 + 1, 1, none⟩ = some sc.n1 ∧ X.cell? ⟨w.heap.size + 1 + 1, 2, none⟩ = some sc.d1 ∧ X.cell? ⟨w.heap.size + 1 + 1, 3, none⟩ = some (.bool sc.b2) ∧ X.cell? ⟨w.heap.size + 1 + 1, 4, none⟩ = some sc.n2 ∧ X.cell? ⟨w.heap.size + 1 + 1, 5, none⟩ = some sc.d2))
      (((with_reducible refine (q0.next ?_).cells); repeat' (first | (with_reducible exact bb3) | (with_reducible exact bb2) | (with_reducible exact bb1) | (with_reducible exact bb0) | ((with_reducible refine Below.setCell ?_ ?_ _); rotate_left; (focus first | omega | (simp; done) | (simp; omega) | (unfold World.setCell; simp; omega))) | ((with_reducible refine Below.alloc ?_ ?_ _); rotate_left; (focus first | omega | (simp; done) | (simp; omega) | (unfold World.setCell; simp; omega))) | (with_reducible refine Below.drew ?_))))
      (first
        | (go_at_call 92; (with_reducible refine (C1.out _ ?_).mono ?_); (focus repeat' (first | (with_reducible exact bb0) | ((with_reducible refine Below.setCell ?_ ?_ _); rotate_left; (focus first | omega | (simp; done) | (simp; omega) | (unfold World.setCell; simp; omega))) | ((with_reducible refine Below.alloc ?_ ?_ _); rotate_left; (focus first | omega | (simp; done) | (simp; omega) | (unfold World.setCell; simp; omega))) | (with_reducible refine Below.drew ?_))); rintro e w1 ⟨hb1, v1, rfl, y1⟩; have bb1 : Below W.heap.size W w1 := below_step (by repeat' (first | (with_reducible exact bb0) | ((with_reducible refine Below.setCell ?_ ?_ _); rotate_left; (focus first | omega | (simp; done) | (simp; omega) | (unfold World.setCell; simp; omega))) | ((with_reducible refine Below.alloc ?_ ?_ _); rotate_left; (focus first | omega | (simp; done) | (simp; omega) | (unfold World.setCell; simp; omega))) | (with_reducible refine Below.drew ?_))) hb1; have hbs1 := bb1.size; have rw1 := Below.refl w1.heap.size w1; obtain ⟨t1, A1, l1, e1, A1', l1', e1', rfl⟩ := y1.form; (first | (with_reducible have ka := (Bk.new W 59 #[.bool false, .slice none 0 0, .slice none 0 0]).drew.next' hb1; have la := ka.lt) | skip))
        | (go_at_call 92; (with_reducible refine (C2.out _ ?_).mono ?_); (focus repeat' (first | (with_reducible exact bb1) | (with_reducible exact bb0) | ((with_reducible refine Below.setCell ?_ ?_ _); rotate_left; (focus first | omega | (simp; done) | (simp; omega) | (unfold World.setCell; simp; omega))) | ((with_reducible refine Below.alloc ?_ ?_ _); rotate_left; (focus first | omega | (simp; done) | (simp; omega) | (unfold World.setCell; simp; omega))) | (with_reducible refine Below.drew ?_))); rintro e w2 ⟨hb2, v2, rfl, y2⟩; have bb2 : Below W.heap.size W w2 := below_step (by repeat' (first | (with_reducible exact bb1) | (with_reducible exact bb0) | ((with_reducible refine Below.setCell ?_ ?_ _); rotate_left; (focus first | omega | (simp; done) | (simp; omega) | (unfold World.setCell; simp; omega))) | ((with_reducible refine Below.alloc ?_ ?_ _); rotate_left; (focus first | omega | (simp; done) | (simp; omega) | (unfold World.setCell; simp; omega))) | (with_reducible refine Below.drew ?_))) hb2; have hbs2 := bb2.size; have rw2 := Below.refl w2.heap.size w2; obtain ⟨t2, A2, l2, e2, A2', l2', e2', rfl⟩ := y2.form; have y12 := y1.next (below_step (by repeat' (first | (with_reducible exact rw1) | ((with_reducible refine Below.setCell ?_ ?_ _); rotate_left; (focus first | omega | (simp; done) | (simp; omega) | (unfold World.setCell; simp; omega))) | ((with_reducible refine Below.alloc ?_ ?_ _); rotate_left; (focus first | omega | (simp; done) | (simp; omega) | (unfold World.setCell; simp; omega))) | (with_reducible refine Below.drew ?_))) hb2); have C3 := Lib.hid (fun X (h : Below w2.heap.size w2 X) => qprod_any (c.1 - a.1) (c.1 - b.1) _ _ X (y12.next h) (y2.next h) (by assumption) (by assumption)); (first | (with_reducible have ka := ka.next' hb2; have la := ka.lt) | (with_reducible have ka := (Bk.new w1 59 #[.bool false, .slice none 0 0, .slice none 0 0]).next' hb2; have la := ka.lt) | skip))
        | (go_at_call 91; (with_reducible refine (C3.out _ ?_).mono ?_); (focus repeat' (first | (with_reducible exact rw2) | ((with_reducible refine Below.setCell ?_ ?_ _); rotate_left; (focus first | omega | (simp; done) | (simp; omega) | (unfold World.setCell; simp; omega))) | ((with_reducible refine Below.alloc ?_ ?_ _); rotate_left; (focus first | omega | (simp; done) | (simp; omega) | (unfold World.setCell; simp; omega))) | (with_reducible refine Below.drew ?_))); rintro e w3 ⟨hb3, v3, rfl, y3⟩; have bb3 : Below W.heap.size W w3 := below_step (by repeat' (first | (with_reducible exact bb2) | (with_reducible exact bb1) | (with_reducible exact bb0) | ((with_reducible refine Below.setCell ?_ ?_ _); rotate_left; (focus first | omega | (simp; done) | (simp; omega) | (unfold World.setCell; simp; omega))) | ((with_reducible refine Below.alloc ?_ ?_ _); rotate_left; (focus first | omega | (simp; done) | (simp; omega) | (unfold World.setCell; simp; omega))) | (with_reducible refine Below.drew ?_))) hb3; have hbs3 := bb3.size; have rw3 := Below.refl w3.heap.size w3; obtain ⟨t3, A3, l3, e3, A3', l3', e3', rfl⟩ := y3.form; (first | (with_reducible have ka := ka.next' hb3; have la := ka.lt) | (with_reducible have ka := (Bk.new w2 59 #[.bool false, .slice none 0 0, .slice none 0 0]).next' hb3; have la := ka.lt) | skip); (first | (obtain ⟨i0, i1, i2⟩ := bk3 ka; have f0 := ka.frozen 0; have f1 := ka.frozen 1; have f2 := ka.frozen 2) | skip)))
    all_goals (go_wp2_with fail)
    all_goals go_meet
    all_goals
      refine ⟨_, rfl, ?_, ?_, by omega⟩
      · first | (with_reducible exact qatN y3) | (with_reducible exact qatS ka y3)
      · repeat' (first | (with_reducible exact bb3) | (with_reducible exact bb2) | (with_reducible exact bb1) | (with_reducible exact bb0) | ((with_reducible refine Below.setCell ?_ ?_ _); rotate_left; (focus first | omega | (simp; done) | (simp; omega) | (unfold World.setCell; simp; omega))) | ((with_reducible refine Below.alloc ?_ ?_ _); rotate_left; (focus first | omega | (simp; done) | (simp; omega) | (unfold World.setCell; simp; omega))) | (with_reducible refine Below.drew ?_))
  case rest =>
  obtain ⟨bp, rfl, hP, hbc, hbp⟩ := hcut
  have q1 := q0.next hbc
  clear q0 C1 C2 bb0 hbs0 a0 a1 a2 a3 a4 a5 b0 b1 b2 b3 b4 b5 c0 c1 c2 c3 c4 c5
  have hcs := hbc.size
  have hbpl := hP.lt
  go_wp2_with fail
  have C1 := Lib.hid (fun X (h : Below wc.heap.size wc X) => qminus_any (c.2) (a.2) _ _ X (q1.next h).p3.y (q1.next h).p1.y (by assumption) (by assumption))
  have C2 := Lib.hid (fun X (h : Below wc.heap.size wc X) => qminus_any (c.2) (b.2) _ _ X (q1.next h).p3.y (q1.next h).p2.y (by assumption) (by assumption))
  obtain ⟨⟨a0, a1, a2, a3, a4, a5⟩, ⟨b0, b1, b2, b3, b4, b5⟩, c0, c1, c2, c3, c4, c5⟩ := q1.cells
  have bb0 := Below.refl wc.heap.size wc
  have hbs0 := bb0.size
  go_cut [8] from 9 to 35 (fun x wx => ∃ bq, x = .pointer (some ⟨bq, 0, none⟩) ∧ QAt wx bq ((c.2 - a.2) * (c.2 - b.2)) ∧ Below wc.heap.size wc wx ∧ wc.heap.size ≤ bq)
  case first =>
    go_region_held3 (fun X => (X.cell? ⟨w.heap.size, 0, none⟩ = some (.bool sa.b1) ∧ X.cell? ⟨w.heap.size, 1, none⟩ = some sa.n1 ∧ X.cell? ⟨w.heap.size, 2, none⟩ = some sa.d1 ∧ X.cell? ⟨w.heap.size, 3, none⟩ = some (.bool sa.b2) ∧ X.cell? ⟨w.heap.size, 4, none⟩ = some sa.n2 ∧ X.cell? ⟨w.heap.size, 5, none⟩ = some sa.d2) ∧ (X.cell? ⟨w.heap.size + 1, 0, none⟩ = some (.bool sb.b1) ∧ X.cell? ⟨w.heap.size + 1, 1, none⟩ = some sb.n1 ∧ X.cell? ⟨w.heap.size + 1, 2, none⟩ = some sb.d1 ∧ X.cell? ⟨w.heap.size + 1, 3, none⟩ = some (.bool sb.b2) ∧ X.cell? ⟨w.heap.size + 1, 4, none⟩ = some sb.n2 ∧ X.cell? ⟨w.heap.size + 1, 5, none⟩ = some sb.d2) ∧ (X.cell? ⟨w.heap.size + 1 + 1, 0, none⟩ = some (.bool sc.b1) ∧ X.cell? ⟨w.heap.size + 1 + 1, 1, none⟩ = some sc.n1 ∧ X.cell? ⟨w.heap.size + 1 + 1, 2, none⟩ = some sc.d1 ∧ X.cell? ⟨w.heap.size + 1 + 1, 3, none⟩ = some (.bool sc.b2) ∧ X.cell? ⟨w.heap.size + 1 + 1, 4, none⟩ = some sc.n2 ∧ X.cell? ⟨w.heap.size + 1 + 1, 5, none⟩ = some sc.d2))
      (((with_reducible refine (q1.next ?_).cells); repeat' (first | (with_reducible exact bb3) | (with_reducible exact bb2) | (with_reducible exact bb1) | (with_reducible exact bb0) | ((with_reducible refine Below.setCell ?_ ?_ _); rotate_left; (focus first | omega | (simp; done) | (simp; omega) | (unfold World.setCell; simp; omega))) | ((with_reducible refine Below.alloc ?_ ?_ _); rotate_left; (focus first | omega | (simp; done) | (simp; omega) | (unfold World.setCell; simp; omega))) | (with_reducible refine Below.drew ?_))))
      (first
        | (go_at_call 92; (with_reducible refine (C1.out _ ?_).mono ?_); (focus repeat' (first | (with_reducible exact bb0) | ((with_reducible refine Below.setCell ?_ ?_ _); rotate_left; (focus first | omega | (simp; done) | (simp; omega) | (unfold World.setCell; simp; omega))) | ((with_reducible refine Below.alloc ?_ ?_ _); rotate_left; (focus first | omega | (simp; done) | (simp; omega) | (unfold World.setCell; simp; omega))) | (with_reducible refine Below.drew ?_))); rintro e w1 ⟨hb1, v1, rfl, y1⟩; have bb1 : Below wc.heap.size wc w1 := below_step (by repeat' (first | (with_reducible exact bb0) | ((with_reducible refine Below.setCell ?_ ?_ _); rotate_left; (focus first | omega | (simp; done) | (simp; omega) | (unfold World.setCell; simp; omega))) | ((with_reducible refine Below.alloc ?_ ?_ _); rotate_left; (focus first | omega | (simp; done) | (simp; omega) | (unfold World.setCell; simp; omega))) | (with_reducible refine Below.drew ?_))) hb1; have hbs1 := bb1.size; have rw1 := Below.refl w1.heap.size w1; obtain ⟨t1, A1, l1, e1, A1', l1', e1', rfl⟩ := y1.form; (first | (with_reducible have ka := (Bk.new wc 59 #[.bool false, .slice none 0 0, .slice none 0 0]).drew.next' hb1; have la := ka.lt) | skip))
        | (go_at_call 92; (with_reducible refine (C2.out _ ?_).mono ?_); (focus repeat' (first | (with_reducible exact bb1) | (with_reducible exact bb0) | ((with_reducible refine Below.setCell ?_ ?_ _); rotate_left; (focus first | omega | (simp; done) | (simp; omega) | (unfold World.setCell; simp; omega))) | ((with_reducible refine Below.alloc ?_ ?_ _); rotate_left; (focus first | omega | (simp; done) | (simp; omega) | (unfold World.setCell; simp; omega))) | (with_reducible refine Below.drew ?_))); rintro e w2 ⟨hb2, v2, rfl, y2⟩; have bb2 : Below wc.heap.size wc w2 := below_step (by repeat' (first | (with_reducible exact bb1) | (with_reducible exact bb0) | ((with_reducible refine Below.setCell ?_ ?_ _); rotate_left; (focus first | omega | (simp; done) | (simp; omega) | (unfold World.setCell; simp; omega))) | ((with_reducible refine Below.alloc ?_ ?_ _); rotate_left; (focus first | omega | (simp; done) | (simp; omega) | (unfold World.setCell; simp; omega))) | (with_reducible refine Below.drew ?_))) hb2; have hbs2 := bb2.size; have rw2 := Below.refl w2.heap.size w2; obtain ⟨t2, A2, l2, e2, A2', l2', e2', rfl⟩ := y2.form; have y12 := y1.next (below_step (by repeat' (first | (with_reducible exact rw1) | ((with_reducible refine Below.setCell ?_ ?_ _); rotate_left; (focus first | omega | (simp; done) | (simp; omega) | (unfold World.setCell; simp; omega))) | ((with_reducible refine Below.alloc ?_ ?_ _); rotate_left; (focus first | omega | (simp; done) | (simp; omega) | (unfold World.setCell; simp; omega))) | (with_reducible refine Below.drew ?_))) hb2); have C3 := Lib.hid (fun X (h : Below w2.heap.size w2 X) => qprod_any (c.2 - a.2) (c.2 - b.2) _ _ X (y12.next h) (y2.next h) (by assumption) (by assumption)); (first | (with_reducible have ka := ka.next' hb2; have la := ka.lt) | (with_reducible have ka := (Bk.new w1 59 #[.bool false, .slice none 0 0, .slice none 0 0]).next' hb2; have la := ka.lt) | skip))
        | (go_at_call 91; (with_reducible refine (C3.out _ ?_).mono ?_); (focus repeat' (first | (with_reducible exact rw2) | ((with_reducible refine Below.setCell ?_ ?_ _); rotate_left; (focus first | omega | (simp; done) | (simp; omega) | (unfold World.setCell; simp; omega))) | ((with_reducible refine Below.alloc ?_ ?_ _); rotate_left; (focus first | omega | (simp; done) | (simp; omega) | (unfold World.setCell; simp; omega))) | (with_reducible refine Below.drew ?_))); rintro e w3 ⟨hb3, v3, rfl, y3⟩; have bb3 : Below wc.heap.size wc w3 := below_step (by repeat' (first | (with_reducible exact bb2) | (with_reducible exact bb1) | (with_reducible exact bb0) | ((with_reducible refine Below.setCell ?_ ?_ _); rotate_left; (focus first | omega | (simp; done) | (simp; omega) | (unfold World.setCell; simp; omega))) | ((with_reducible refine Below.alloc ?_ ?_ _); rotate_left; (focus first | omega | (simp; done) | (simp; omega) | (unfold World.setCell; simp; omega))) | (with_reducible refine Below.drew ?_))) hb3; have hbs3 := bb3.size; have rw3 := Below.refl w3.heap.size w3; obtain ⟨t3, A3, l3, e3, A3', l3', e3', rfl⟩ := y3.form; (first | (with_reducible have ka := ka.next' hb3; have la := ka.lt) | (with_reducible have ka := (Bk.new w2 59 #[.bool false, .slice none 0 0, .slice none 0 0]).next' hb3; have la := ka.lt) | skip); (first | (obtain ⟨i0, i1, i2⟩ := bk3 ka; have f0 := ka.frozen 0; have f1 := ka.frozen 1; have f2 := ka.frozen 2) | skip)))
    all_goals (go_wp2_with fail)
    all_goals go_meet
    all_goals
      refine ⟨_, rfl, ?_, ?_, by omega⟩
      · first | (with_reducible exact qatN y3) | (with_reducible exact qatS ka y3)
      · repeat' (first | (with_reducible exact bb3) | (with_reducible exact bb2) | (with_reducible exact bb1) | (with_reducible exact bb0) | ((with_reducible refine Below.setCell ?_ ?_ _); rotate_left; (focus first | omega | (simp; done) | (simp; omega) | (unfold World.setCell; simp; omega))) | ((with_reducible refine Below.alloc ?_ ?_ _); rotate_left; (focus first | omega | (simp; done) | (simp; omega) | (unfold World.setCell; simp; omega))) | (with_reducible refine Below.drew ?_))
  case rest =>
  obtain ⟨bq, rfl, hQ, hbd, hbq⟩ := hcut
  have q2 := q1.next hbd
  have hP2 := hP.next hbd
  clear q1 C1 C2 bb0 hbs0 a0 a1 a2 a3 a4 a5 b0 b1 b2 b3 b4 b5 c0 c1 c2 c3 c4 c5 hP
  obtain ⟨s1, A1, l1, c1, A1', l1', c1', kP, fP⟩ := hP2
  obtain ⟨s2, A2, l2, c2, A2', l2', c2', kQ, fQ⟩ := hQ
  obtain ⟨i0, i1, i2⟩ := bk3 kP
  obtain ⟨j0, j1, j2⟩ := bk3 kQ
  go_wp2_with fail
  refine (qplus_any _ _ _ _ _ fP fQ n1 n2).mono ?_
  rintro e w3 ⟨hb3, v3, rfl, y3⟩
  have q3 := q2.next hb3
  clear i0 i1 i2 j0 j1 j2 kP kQ
  go_wp2_with fail
  refine (qsgn_any _ _ _ y3 n3).mono ?_
  rintro e w4 ⟨hb4, rfl⟩
  have q4 := q3.next hb4
  rw [← HC.out]
  go_wp2
  go_ret
  exact ⟨q4.below, rfl⟩

end Go.Proofs.YtblopapobmbboaaGreatDoor
