/-
  Walk: the reference's meeting (printed by rpgen.py).
-/
import Derived.Test.YtaihplgfbepgpaaGreatDoorRpW
import Derived.Test.YtaihplgfbepgpaaGreatDoorRegX
namespace Go.Proofs.YtaihplgfbepgpaaGreatDoor
open Go.RowKit Ar

section
variable {w : World} {s t : Bool} {A A' C C' : Option Addr} {l k l' k' n j n' j' : Nat} {p q : Rat} {b b2 : Nat}
theorem qformA (hp : IsQ w w.heap.size (.agg #[.bool s, .slice A l k, .slice A' l' k']) p) (hq : IsQ w w.heap.size (.agg #[.bool t, .slice C n j, .slice C' n' j']) q) :
    QAt ((w.alloc (.cells #[.bool s, .slice A l k, .slice A' l' k'] 66)).alloc (.cells #[.bool t, .slice C n j, .slice C' n' j'] 66)) w.heap.size p ∧ QAt ((w.alloc (.cells #[.bool s, .slice A l k, .slice A' l' k'] 66)).alloc (.cells #[.bool t, .slice C n j, .slice C' n' j'] 66)) (w.heap.size + 1) q := by
  have h1 := below_alloc w (.cells #[.bool s, .slice A l k, .slice A' l' k'] 66)
  have h2 := below_alloc (w.alloc (.cells #[.bool s, .slice A l k, .slice A' l' k'] 66)) (.cells #[.bool t, .slice C n j, .slice C' n' j'] 66)
  exact ⟨⟨_, _, _, _, _, _, _, (Bk.new _ _ _).alloc _, (hp.next h1).next h2⟩, ⟨_, _, _, _, _, _, _, Bk.new2 _ _ _ _, (hq.next h1).next h2⟩⟩
theorem qformC (kA : Bk w b 66 #[.bool false, .slice none 0 0, .slice none 0 0]) (hp : IsQ w w.heap.size (.agg #[.bool s, .slice A l k, .slice A' l' k']) p) (hq : IsQ w w.heap.size (.agg #[.bool t, .slice C n j, .slice C' n' j']) q) :
    QAt ((((w.setCell ⟨b, 0, none⟩ (.bool s)).setCell ⟨b, 1, none⟩ (.slice A l k)).setCell ⟨b, 2, none⟩ (.slice A' l' k')).alloc (.cells #[.bool t, .slice C n j, .slice C' n' j'] 66)) b p ∧
      QAt ((((w.setCell ⟨b, 0, none⟩ (.bool s)).setCell ⟨b, 1, none⟩ (.slice A l k)).setCell ⟨b, 2, none⟩ (.slice A' l' k')).alloc (.cells #[.bool t, .slice C n j, .slice C' n' j'] 66)) w.heap.size q := by
  have e := set3_size w b (.bool s) (.slice A l k) (.slice A' l' k')
  have h1 := below_alloc (set3 w b (.bool s) (.slice A l k) (.slice A' l' k')) (.cells #[.bool t, .slice C n j, .slice C' n' j'] 66)
  have hp1 : IsQ (set3 w b (.bool s) (.slice A l k) (.slice A' l' k')) (set3 w b (.bool s) (.slice A l k) (.slice A' l' k')).heap.size (.agg #[.bool s, .slice A l k, .slice A' l' k']) p := by rw [e]; exact hp.set3 kA _ _ _
  have hq1 : IsQ (set3 w b (.bool s) (.slice A l k) (.slice A' l' k')) (set3 w b (.bool s) (.slice A l k) (.slice A' l' k')).heap.size (.agg #[.bool t, .slice C n j, .slice C' n' j']) q := by rw [e]; exact hq.set3 kA _ _ _
  have kN := Bk.new (set3 w b (.bool s) (.slice A l k) (.slice A' l' k')) 66 #[.bool t, .slice C n j, .slice C' n' j']
  rw [e] at kN
  exact ⟨⟨s, A, l, k, A', l', k', (set3_bk kA).alloc _, hp1.next h1⟩, ⟨t, C, n, j, C', n', j', kN, hq1.next h1⟩⟩
theorem qformE (kA : Bk w b 66 #[.bool false, .slice none 0 0, .slice none 0 0]) (kB : Bk w b2 66 #[.bool false, .slice none 0 0, .slice none 0 0]) (hne : b ≠ b2) (hp : IsQ w w.heap.size (.agg #[.bool s, .slice A l k, .slice A' l' k']) p) (hq : IsQ w w.heap.size (.agg #[.bool t, .slice C n j, .slice C' n' j']) q) :
    QAt ((((((w.setCell ⟨b, 0, none⟩ (.bool s)).setCell ⟨b, 1, none⟩ (.slice A l k)).setCell ⟨b, 2, none⟩ (.slice A' l' k')).setCell ⟨b2, 0, none⟩ (.bool t)).setCell ⟨b2, 1, none⟩ (.slice C n j)).setCell ⟨b2, 2, none⟩ (.slice C' n' j')) b p ∧
      QAt ((((((w.setCell ⟨b, 0, none⟩ (.bool s)).setCell ⟨b, 1, none⟩ (.slice A l k)).setCell ⟨b, 2, none⟩ (.slice A' l' k')).setCell ⟨b2, 0, none⟩ (.bool t)).setCell ⟨b2, 1, none⟩ (.slice C n j)).setCell ⟨b2, 2, none⟩ (.slice C' n' j')) b2 q := by
  have e := set3_size w b (.bool s) (.slice A l k) (.slice A' l' k')
  have e2 := set3_size (set3 w b (.bool s) (.slice A l k) (.slice A' l' k')) b2 (.bool t) (.slice C n j) (.slice C' n' j')
  have kB2 := bk_far3 (x := .bool s) (y := .slice A l k) (z := .slice A' l' k') kB (Ne.symm hne)
  have hp1 := hp.set3 kA (.bool s) (.slice A l k) (.slice A' l' k')
  have hq1 := hq.set3 kA (.bool s) (.slice A l k) (.slice A' l' k')
  have hp2 := hp1.set3 kB2 (.bool t) (.slice C n j) (.slice C' n' j')
  have hq2 := hq1.set3 kB2 (.bool t) (.slice C n j) (.slice C' n' j')
  rw [← e, ← e2] at hp2 hq2
  exact ⟨⟨_, _, _, _, _, _, _, bk_far3 (set3_bk kA) hne, hp2⟩, ⟨_, _, _, _, _, _, _, set3_bk kB2, hq2⟩⟩
end
theorem QAt.far {w : World} {b b' : Nat} {q : Rat} {T : TypeId} {f : Bool} {A0 A1 : Option Addr} {l0 l1 c0 c1 : Nat} (h : QAt w b q) (hb : Bk w b' T #[.bool f, .slice A0 l0 c0, .slice A1 l1 c1]) (hne : b ≠ b') (x y z : Value) : QAt (set3 w b' x y z) b q := by
  obtain ⟨s, A, l, c, A', l', c', h1, h2⟩ := h
  have e := set3_size w b' x y z
  exact ⟨s, A, l, c, A', l', c', bk_far3 h1 hne, by rw [e]; exact h2.set3 hb x y z⟩
/-- Four points of the reference and a result in blocks of a call's own. -/
structure Me (sa sb sc sd : Sx) (a b c d : Qp) (w W : World) : Prop where
  below : Below w.heap.size w W
  k1 : Bk W (w.heap.size) 135 sa.cells.toArray
  k2 : Bk W (w.heap.size + 1) 135 sb.cells.toArray
  k3 : Bk W (w.heap.size + 1 + 1) 135 sc.cells.toArray
  k4 : Bk W (w.heap.size + 1 + 1 + 1) 135 sd.cells.toArray
  kr : Bk W (w.heap.size + 1 + 1 + 1 + 1) 135 szero.cells.toArray
  p1 : IsRt W W.heap.size sa a
  p2 : IsRt W W.heap.size sb b
  p3 : IsRt W W.heap.size sc c
  p4 : IsRt W W.heap.size sd d
section
variable {sa sb sc sd : Sx} {a b c d : Qp} {w W W' : World}
theorem Me.next (h : Me sa sb sc sd a b c d w W) (hb : Below W.heap.size W W') : Me sa sb sc sd a b c d w W' :=
  ⟨h.below.trans (hb.mono h.below.size), h.k1.next' hb, h.k2.next' hb, h.k3.next' hb, h.k4.next' hb, h.kr.next' hb, h.p1.next hb, h.p2.next hb, h.p3.next hb, h.p4.next hb⟩
theorem Me.cells (h : Me sa sb sc sd a b c d w W) :
    (W.cell? ⟨w.heap.size, 0, none⟩ = some (.bool sa.b1) ∧ W.cell? ⟨w.heap.size, 1, none⟩ = some sa.n1 ∧ W.cell? ⟨w.heap.size, 2, none⟩ = some sa.d1 ∧ W.cell? ⟨w.heap.size, 3, none⟩ = some (.bool sa.b2) ∧ W.cell? ⟨w.heap.size, 4, none⟩ = some sa.n2 ∧ W.cell? ⟨w.heap.size, 5, none⟩ = some sa.d2) ∧ (W.cell? ⟨w.heap.size + 1, 0, none⟩ = some (.bool sb.b1) ∧ W.cell? ⟨w.heap.size + 1, 1, none⟩ = some sb.n1 ∧ W.cell? ⟨w.heap.size + 1, 2, none⟩ = some sb.d1 ∧ W.cell? ⟨w.heap.size + 1, 3, none⟩ = some (.bool sb.b2) ∧ W.cell? ⟨w.heap.size + 1, 4, none⟩ = some sb.n2 ∧ W.cell? ⟨w.heap.size + 1, 5, none⟩ = some sb.d2) ∧ (W.cell? ⟨w.heap.size + 1 + 1, 0, none⟩ = some (.bool sc.b1) ∧ W.cell? ⟨w.heap.size + 1 + 1, 1, none⟩ = some sc.n1 ∧ W.cell? ⟨w.heap.size + 1 + 1, 2, none⟩ = some sc.d1 ∧ W.cell? ⟨w.heap.size + 1 + 1, 3, none⟩ = some (.bool sc.b2) ∧ W.cell? ⟨w.heap.size + 1 + 1, 4, none⟩ = some sc.n2 ∧ W.cell? ⟨w.heap.size + 1 + 1, 5, none⟩ = some sc.d2) ∧ (W.cell? ⟨w.heap.size + 1 + 1 + 1, 0, none⟩ = some (.bool sd.b1) ∧ W.cell? ⟨w.heap.size + 1 + 1 + 1, 1, none⟩ = some sd.n1 ∧ W.cell? ⟨w.heap.size + 1 + 1 + 1, 2, none⟩ = some sd.d1 ∧ W.cell? ⟨w.heap.size + 1 + 1 + 1, 3, none⟩ = some (.bool sd.b2) ∧ W.cell? ⟨w.heap.size + 1 + 1 + 1, 4, none⟩ = some sd.n2 ∧ W.cell? ⟨w.heap.size + 1 + 1 + 1, 5, none⟩ = some sd.d2) := ⟨bk6c h.k1, bk6c h.k2, bk6c h.k3, bk6c h.k4⟩
theorem Me.set3 (h : Me sa sb sc sd a b c d w W) {g : Nat} {T : TypeId} {f : Bool} {A0 A1 : Option Addr} {l0 l1 c0 c1 : Nat} (hb : Bk W g T #[.bool f, .slice A0 l0 c0, .slice A1 l1 c1]) (hlt : w.heap.size + 1 + 1 + 1 + 1 < g) (x y z : Value) : Me sa sb sc sd a b c d w (set3 W g x y z) := by
  have e := set3_size W g x y z
  exact ⟨set3_below h.below (by omega), bk_far3 h.k1 (by omega), bk_far3 h.k2 (by omega), bk_far3 h.k3 (by omega), bk_far3 h.k4 (by omega), bk_far3 h.kr (by omega), by rw [e]; exact h.p1.set3 hb x y z, by rw [e]; exact h.p2.set3 hb x y z, by rw [e]; exact h.p3.set3 hb x y z, by rw [e]; exact h.p4.set3 hb x y z⟩
theorem Me.start (ha : IsRt w w.heap.size sa a) (hb : IsRt w w.heap.size sb b) (hc : IsRt w w.heap.size sc c) (hd : IsRt w w.heap.size sd d) : Me sa sb sc sd a b c d w (((((w.alloc (.cells sa.cells.toArray 135)).alloc (.cells sb.cells.toArray 135)).alloc (.cells sc.cells.toArray 135)).alloc (.cells sd.cells.toArray 135)).alloc (.cells szero.cells.toArray 135)) := by
  have hB : Below w.heap.size w (((((w.alloc (.cells sa.cells.toArray 135)).alloc (.cells sb.cells.toArray 135)).alloc (.cells sc.cells.toArray 135)).alloc (.cells sd.cells.toArray 135)).alloc (.cells szero.cells.toArray 135)) := ((((below_alloc w _).alloc (by simp) _).alloc (by simp; omega) _).alloc (by simp; omega) _).alloc (by simp; omega) _
  exact ⟨hB, ((((Bk.new _ _ _).alloc _).alloc _).alloc _).alloc _, (by simpa [Sx.cells] using ((((Bk.new (w.alloc _) _ _).alloc _).alloc _).alloc _)), (by simpa [Sx.cells] using (((Bk.new ((w.alloc _).alloc _) _ _).alloc _).alloc _)), (by simpa [Sx.cells] using ((Bk.new (((w.alloc _).alloc _).alloc _) _ _).alloc _)), (by simpa [Sx.cells, szero] using (Bk.new ((((w.alloc _).alloc _).alloc _).alloc _) _ _)), ha.next hB, hb.next hB, hc.next hB, hd.next hB⟩
end
/-- The number by which the directions of two sides differ; where the lines through them meet. -/
def detQ (a b c d : Qp) : Rat := (b.1 - a.1) * (d.2 - c.2) - (b.2 - a.2) * (d.1 - c.1)
def alongQ (a c d : Qp) : Rat := (c.1 - a.1) * (d.2 - c.2) - (c.2 - a.2) * (d.1 - c.1)
def meetingQ (a b c d : Qp) : Qp := (a.1 + alongQ a c d / detQ a b c d * (b.1 - a.1), a.2 + alongQ a c d / detQ a b c d * (b.2 - a.2))

theorem qatS' {w : World} {b : Nat} {f s : Bool} {A0 A1 A A' : Option Addr} {l0 l1 c0 c1 l k l' k' : Nat} {p : Rat} (kA : Bk w b 66 #[.bool f, .slice A0 l0 c0, .slice A1 l1 c1]) (hp : IsQ w w.heap.size (.agg #[.bool s, .slice A l k, .slice A' l' k']) p) :
    QAt (set3 w b (.bool s) (.slice A l k) (.slice A' l' k')) b p :=
  ⟨_, _, _, _, _, _, _, set3_bk kA, by
    have e := set3_size w b (.bool s) (.slice A l k) (.slice A' l' k')
    have hp1 := hp.set3 kA (.bool s) (.slice A l k) (.slice A' l' k')
    rw [← e] at hp1
    exact hp1⟩
set_option maxRecDepth 100000 in
set_option maxHeartbeats 12800000 in
theorem meeting_any (a b c d : Qp) (sa sb sc sd : Sx) (w : World) (ha : IsRt w w.heap.size sa a) (hb : IsRt w w.heap.size sb b) (hc : IsRt w w.heap.size sc c) (hd : IsRt w w.heap.size sd d) (la : szp a ≤ 1000000000) (lb : szp b ≤ 1000000000) (lc : szp c ≤ 1000000000) (ld : szp d ≤ 1000000000) :
    Calls Tryz.prog 128 #[sa.val, sb.val, sc.val, sd.val] w fun e w' => Below w.heap.size w w' ∧ ∃ s : Sx, e = .returned (.tuple #[s.val, .bool (decide (detQ a b c d ≠ 0))]) ∧ (∃ t A l c A' l' c' t' A2 l2 c2 A3 l3 c3, s = ⟨t, .slice A l c, .slice A' l' c', t', .slice A2 l2 c2, .slice A3 l3 c3⟩) ∧ (detQ a b c d ≠ 0 → IsRt w' w'.heap.size s (meetingQ a b c d)) := by
  have HM : Hid (meetingQ a b c d = (a.1 + alongQ a c d / detQ a b c d * (b.1 - a.1), a.2 + alongQ a c d / detQ a b c d * (b.2 - a.2))) := rfl
  have HD : Hid (detQ a b c d = (b.1 - a.1) * (d.2 - c.2) - (b.2 - a.2) * (d.1 - c.1)) := rfl
  have HA : Hid (alongQ a c d = (c.1 - a.1) * (d.2 - c.2) - (c.2 - a.2) * (d.1 - c.1)) := rfl
  unfold szp at *
  have la1 : sz a.1 ≤ 1000000000 := by omega
  have la2 : sz a.2 ≤ 1000000000 := by omega
  have lb1 : sz b.1 ≤ 1000000000 := by omega
  have lb2 : sz b.2 ≤ 1000000000 := by omega
  have lc1 : sz c.1 ≤ 1000000000 := by omega
  have lc2 : sz c.2 ≤ 1000000000 := by omega
  have ld1 : sz d.1 ≤ 1000000000 := by omega
  have ld2 : sz d.2 ≤ 1000000000 := by omega
  have m1 : sz (b.1 - a.1) ≤ 2000000001 := by have := sz_sub b.1 a.1; omega
  have m2 : sz (b.2 - a.2) ≤ 2000000001 := by have := sz_sub b.2 a.2; omega
  have m3 : sz (d.1 - c.1) ≤ 2000000001 := by have := sz_sub d.1 c.1; omega
  have m4 : sz (d.2 - c.2) ≤ 2000000001 := by have := sz_sub d.2 c.2; omega
  have m5 : sz (c.1 - a.1) ≤ 2000000001 := by have := sz_sub c.1 a.1; omega
  have m6 : sz (c.2 - a.2) ≤ 2000000001 := by have := sz_sub c.2 a.2; omega
  have n1 : sz ((b.1 - a.1) * (d.2 - c.2)) ≤ 4000000002 := by have := sz_mul (b.1 - a.1) (d.2 - c.2); omega
  have n2 : sz ((b.2 - a.2) * (d.1 - c.1)) ≤ 4000000002 := by have := sz_mul (b.2 - a.2) (d.1 - c.1); omega
  have n3 : sz ((c.1 - a.1) * (d.2 - c.2)) ≤ 4000000002 := by have := sz_mul (c.1 - a.1) (d.2 - c.2); omega
  have n4 : sz ((c.2 - a.2) * (d.1 - c.1)) ≤ 4000000002 := by have := sz_mul (c.2 - a.2) (d.1 - c.1); omega
  have z1 : sz (detQ a b c d) ≤ 8000000005 := by rw [HD.out]; have := sz_sub ((b.1 - a.1) * (d.2 - c.2)) ((b.2 - a.2) * (d.1 - c.1)); omega
  have z2 : sz (alongQ a c d) ≤ 8000000005 := by rw [HA.out]; have := sz_sub ((c.1 - a.1) * (d.2 - c.2)) ((c.2 - a.2) * (d.1 - c.1)); omega
  clear la lb lc ld
  unfold Sx.val
  go_enter Tryz.func128, Tryz.ntmps128
  go_wp2_with fail
  refine wp_name (fun W => Me sa sb sc sd a b c d w W) (Me.start ha hb hc hd) ?_
  rintro W q0
  clear ha hb hc hd
  obtain ⟨⟨a0, a1, a2, a3, a4, a5⟩, ⟨b0, b1, b2, b3, b4, b5⟩, ⟨c0, c1, c2, c3, c4, c5⟩, d0, d1, d2, d3, d4, d5⟩ := q0.cells
  have C1 := Lib.hid (fun X (h : Below W.heap.size W X) => qminus_any b.1 a.1 _ _ X (q0.next h).p2.x (q0.next h).p1.x (by omega) (by omega))
  have C2 := Lib.hid (fun X (h : Below W.heap.size W X) => qminus_any b.2 a.2 _ _ X (q0.next h).p2.y (q0.next h).p1.y (by omega) (by omega))
  have bb0 := Below.refl W.heap.size W
  have hbs0 := bb0.size
  go_cut [10, 11] from 16 to 77 (fun x y wx => ∃ b10 b11, x = .pointer (some ⟨b10, 0, none⟩) ∧ y = .pointer (some ⟨b11, 0, none⟩) ∧ QAt wx b10 (b.1 - a.1) ∧ QAt wx b11 (b.2 - a.2) ∧ Below W.heap.size W wx ∧ W.heap.size ≤ b10 ∧ W.heap.size ≤ b11)
  case first =>
    go_region_held3 (fun X => (X.cell? ⟨w.heap.size, 0, none⟩ = some (.bool sa.b1) ∧ X.cell? ⟨w.heap.size, 1, none⟩ = some sa.n1 ∧ X.cell? ⟨w.heap.size, 2, none⟩ = some sa.d1 ∧ X.cell? ⟨w.heap.size, 3, none⟩ = some (.bool sa.b2) ∧ X.cell? ⟨w.heap.size, 4, none⟩ = some sa.n2 ∧ X.cell? ⟨w.heap.size, 5, none⟩ = some sa.d2) ∧ (X.cell? ⟨w.heap.size + 1, 0, none⟩ = some (.bool sb.b1) ∧ X.cell? ⟨w.heap.size + 1, 1, none⟩ = some sb.n1 ∧ X.cell? ⟨w.heap.size + 1, 2, none⟩ = some sb.d1 ∧ X.cell? ⟨w.heap.size + 1, 3, none⟩ = some (.bool sb.b2) ∧ X.cell? ⟨w.heap.size + 1, 4, none⟩ = some sb.n2 ∧ X.cell? ⟨w.heap.size + 1, 5, none⟩ = some sb.d2) ∧ (X.cell? ⟨w.heap.size + 1 + 1, 0, none⟩ = some (.bool sc.b1) ∧ X.cell? ⟨w.heap.size + 1 + 1, 1, none⟩ = some sc.n1 ∧ X.cell? ⟨w.heap.size + 1 + 1, 2, none⟩ = some sc.d1 ∧ X.cell? ⟨w.heap.size + 1 + 1, 3, none⟩ = some (.bool sc.b2) ∧ X.cell? ⟨w.heap.size + 1 + 1, 4, none⟩ = some sc.n2 ∧ X.cell? ⟨w.heap.size + 1 + 1, 5, none⟩ = some sc.d2) ∧ (X.cell? ⟨w.heap.size + 1 + 1 + 1, 0, none⟩ = some (.bool sd.b1) ∧ X.cell? ⟨w.heap.size + 1 + 1 + 1, 1, none⟩ = some sd.n1 ∧ X.cell? ⟨w.heap.size + 1 + 1 + 1, 2, none⟩ = some sd.d1 ∧ X.cell? ⟨w.heap.size + 1 + 1 + 1, 3, none⟩ = some (.bool sd.b2) ∧ X.cell? ⟨w.heap.size + 1 + 1 + 1, 4, none⟩ = some sd.n2 ∧ X.cell? ⟨w.heap.size + 1 + 1 + 1, 5, none⟩ = some sd.d2))
      (((with_reducible refine (q0.next ?_).cells); repeat' (first | (with_reducible exact bb2) | (with_reducible exact bb1) | (with_reducible exact bb0) | ((with_reducible refine Below.setCell ?_ ?_ _); rotate_left; (focus first | omega | (simp; done) | (simp; omega) | (unfold World.setCell; simp; omega))) | ((with_reducible refine Below.alloc ?_ ?_ _); rotate_left; (focus first | omega | (simp; done) | (simp; omega) | (unfold World.setCell; simp; omega))) | (with_reducible refine Below.drew ?_))))
      (first
        | (go_at_call 74; (with_reducible refine (C1.out _ ?_).mono ?_); (focus repeat' (first | (with_reducible exact bb0) | ((with_reducible refine Below.setCell ?_ ?_ _); rotate_left; (focus first | omega | (simp; done) | (simp; omega) | (unfold World.setCell; simp; omega))) | ((with_reducible refine Below.alloc ?_ ?_ _); rotate_left; (focus first | omega | (simp; done) | (simp; omega) | (unfold World.setCell; simp; omega))) | (with_reducible refine Below.drew ?_))); rintro e w1 ⟨hb1, v1, rfl, y1⟩; have bb1 : Below W.heap.size W w1 := below_step (by repeat' (first | (with_reducible exact bb0) | ((with_reducible refine Below.setCell ?_ ?_ _); rotate_left; (focus first | omega | (simp; done) | (simp; omega) | (unfold World.setCell; simp; omega))) | ((with_reducible refine Below.alloc ?_ ?_ _); rotate_left; (focus first | omega | (simp; done) | (simp; omega) | (unfold World.setCell; simp; omega))) | (with_reducible refine Below.drew ?_))) hb1; have hbs1 := bb1.size; have rw1 := Below.refl w1.heap.size w1; obtain ⟨t1, A1, l1, e1, A1', l1', e1', rfl⟩ := y1.form; (first | ((with_reducible have ka := ((Bk.new W 66 #[.bool false, .slice none 0 0, .slice none 0 0]).alloc (.cells #[.bool false, .slice none 0 0, .slice none 0 0] 66)).drew.next' hb1); (with_reducible have kb := (Bk.new2 W (.cells #[.bool false, .slice none 0 0, .slice none 0 0] 66) 66 #[.bool false, .slice none 0 0, .slice none 0 0]).drew.next' hb1); have la := ka.lt) | ((with_reducible have ka := (Bk.new W 66 #[.bool false, .slice none 0 0, .slice none 0 0]).drew.next' hb1); have la := ka.lt) | skip))
        | (go_at_call 74; (with_reducible refine (C2.out _ ?_).mono ?_); (focus repeat' (first | (with_reducible exact bb1) | (with_reducible exact bb0) | ((with_reducible refine Below.setCell ?_ ?_ _); rotate_left; (focus first | omega | (simp; done) | (simp; omega) | (unfold World.setCell; simp; omega))) | ((with_reducible refine Below.alloc ?_ ?_ _); rotate_left; (focus first | omega | (simp; done) | (simp; omega) | (unfold World.setCell; simp; omega))) | (with_reducible refine Below.drew ?_))); rintro e w2 ⟨hb2, v2, rfl, y2⟩; have bb2 : Below W.heap.size W w2 := below_step (by repeat' (first | (with_reducible exact bb1) | (with_reducible exact bb0) | ((with_reducible refine Below.setCell ?_ ?_ _); rotate_left; (focus first | omega | (simp; done) | (simp; omega) | (unfold World.setCell; simp; omega))) | ((with_reducible refine Below.alloc ?_ ?_ _); rotate_left; (focus first | omega | (simp; done) | (simp; omega) | (unfold World.setCell; simp; omega))) | (with_reducible refine Below.drew ?_))) hb2; have hbs2 := bb2.size; have rw2 := Below.refl w2.heap.size w2; have y12 := y1.next (below_step (by repeat' (first | (with_reducible exact rw1) | ((with_reducible refine Below.setCell ?_ ?_ _); rotate_left; (focus first | omega | (simp; done) | (simp; omega) | (unfold World.setCell; simp; omega))) | ((with_reducible refine Below.alloc ?_ ?_ _); rotate_left; (focus first | omega | (simp; done) | (simp; omega) | (unfold World.setCell; simp; omega))) | (with_reducible refine Below.drew ?_))) hb2); obtain ⟨t2, A2, l2, e2, A2', l2', e2', rfl⟩ := y2.form; (first | ((with_reducible have kA := ka.next' hb2); (with_reducible have kB := kb.next' hb2)) | (with_reducible have kA := ka.next' hb2) | ((with_reducible have kA := (ka.alloc (.cells #[.bool false, .slice none 0 0, .slice none 0 0] 66)).next' hb2); (with_reducible have kB := (Bk.new w1 66 #[.bool false, .slice none 0 0, .slice none 0 0]).next' hb2)) | ((with_reducible have kA := ((Bk.new w1 66 #[.bool false, .slice none 0 0, .slice none 0 0]).alloc (.cells #[.bool false, .slice none 0 0, .slice none 0 0] 66)).next' hb2); (with_reducible have kB := (Bk.new2 w1 (.cells #[.bool false, .slice none 0 0, .slice none 0 0] 66) 66 #[.bool false, .slice none 0 0, .slice none 0 0]).next' hb2)) | (with_reducible have kA := (Bk.new w1 66 #[.bool false, .slice none 0 0, .slice none 0 0]).next' hb2) | skip); (first | (obtain ⟨i0, i1, i2⟩ := bk3 kA; have f0 := kA.frozen 0; have f1 := kA.frozen 1; have f2 := kA.frozen 2; have lA := kA.lt; obtain ⟨j0, j1', j2⟩ := bk3 kB; have g0 := kB.frozen 0; have g1 := kB.frozen 1; have g2 := kB.frozen 2; have lB := kB.lt) | (obtain ⟨i0, i1, i2⟩ := bk3 kA; have f0 := kA.frozen 0; have f1 := kA.frozen 1; have f2 := kA.frozen 2; have lA := kA.lt) | skip)))
    all_goals (go_wp2_with fail)
    all_goals go_meet
    all_goals
      refine ⟨_, _, rfl, rfl, ?_, ?_, ?_, by omega, by omega⟩
      · first | (with_reducible exact (qformA y12 y2).1) | (with_reducible exact (qformA y2 y12).2) | (with_reducible exact (qformC kA y12 y2).1) | (with_reducible exact (qformC kA y2 y12).2) | (with_reducible exact (qformE kA kB (by omega) y12 y2).1) | (with_reducible exact (qformE kB kA (by omega) y12 y2).1) | (with_reducible exact (qformE kA kB (by omega) y2 y12).2) | (with_reducible exact (qformE kB kA (by omega) y2 y12).2)
      · first | (with_reducible exact (qformA y12 y2).2) | (with_reducible exact (qformA y2 y12).1) | (with_reducible exact (qformC kA y12 y2).2) | (with_reducible exact (qformC kA y2 y12).1) | (with_reducible exact (qformE kA kB (by omega) y12 y2).2) | (with_reducible exact (qformE kB kA (by omega) y12 y2).2) | (with_reducible exact (qformE kA kB (by omega) y2 y12).1) | (with_reducible exact (qformE kB kA (by omega) y2 y12).1)
      · repeat' (first | (with_reducible exact bb2) | (with_reducible exact bb1) | (with_reducible exact bb0) | ((with_reducible refine Below.setCell ?_ ?_ _); rotate_left; (focus first | omega | (simp; done) | (simp; omega) | (unfold World.setCell; simp; omega))) | ((with_reducible refine Below.alloc ?_ ?_ _); rotate_left; (focus first | omega | (simp; done) | (simp; omega) | (unfold World.setCell; simp; omega))) | (with_reducible refine Below.drew ?_))
  case rest =>
  obtain ⟨b10, b11, rfl, rfl, X10, X11, hbc, h10, h11⟩ := hcut
  have q1 := q0.next hbc
  have hs1 := hbc.size
  have hr0 := q0.kr.lt
  clear q0 C1 C2 bb0 hbs0 hbc a0 a1 a2 a3 a4 a5 b0 b1 b2 b3 b4 b5 c0 c1 c2 c3 c4 c5 d0 d1 d2 d3 d4 d5
  generalize wc = W1 at *
  go_wp2_with fail
  obtain ⟨⟨a0, a1, a2, a3, a4, a5⟩, ⟨b0, b1, b2, b3, b4, b5⟩, ⟨c0, c1, c2, c3, c4, c5⟩, d0, d1, d2, d3, d4, d5⟩ := q1.cells
  have C1 := Lib.hid (fun X (h : Below W1.heap.size W1 X) => qminus_any d.1 c.1 _ _ X (q1.next h).p4.x (q1.next h).p3.x (by omega) (by omega))
  have C2 := Lib.hid (fun X (h : Below W1.heap.size W1 X) => qminus_any d.2 c.2 _ _ X (q1.next h).p4.y (q1.next h).p3.y (by omega) (by omega))
  have bb0 := Below.refl W1.heap.size W1
  have hbs0 := bb0.size
  go_cut [12, 13] from 16 to 77 (fun x y wx => ∃ b12 b13, x = .pointer (some ⟨b12, 0, none⟩) ∧ y = .pointer (some ⟨b13, 0, none⟩) ∧ QAt wx b12 (d.1 - c.1) ∧ QAt wx b13 (d.2 - c.2) ∧ Below W1.heap.size W1 wx ∧ W1.heap.size ≤ b12 ∧ W1.heap.size ≤ b13)
  case first =>
    go_region_held3 (fun X => (X.cell? ⟨w.heap.size, 0, none⟩ = some (.bool sa.b1) ∧ X.cell? ⟨w.heap.size, 1, none⟩ = some sa.n1 ∧ X.cell? ⟨w.heap.size, 2, none⟩ = some sa.d1 ∧ X.cell? ⟨w.heap.size, 3, none⟩ = some (.bool sa.b2) ∧ X.cell? ⟨w.heap.size, 4, none⟩ = some sa.n2 ∧ X.cell? ⟨w.heap.size, 5, none⟩ = some sa.d2) ∧ (X.cell? ⟨w.heap.size + 1, 0, none⟩ = some (.bool sb.b1) ∧ X.cell? ⟨w.heap.size + 1, 1, none⟩ = some sb.n1 ∧ X.cell? ⟨w.heap.size + 1, 2, none⟩ = some sb.d1 ∧ X.cell? ⟨w.heap.size + 1, 3, none⟩ = some (.bool sb.b2) ∧ X.cell? ⟨w.heap.size + 1, 4, none⟩ = some sb.n2 ∧ X.cell? ⟨w.heap.size + 1, 5, none⟩ = some sb.d2) ∧ (X.cell? ⟨w.heap.size + 1 + 1, 0, none⟩ = some (.bool sc.b1) ∧ X.cell? ⟨w.heap.size + 1 + 1, 1, none⟩ = some sc.n1 ∧ X.cell? ⟨w.heap.size + 1 + 1, 2, none⟩ = some sc.d1 ∧ X.cell? ⟨w.heap.size + 1 + 1, 3, none⟩ = some (.bool sc.b2) ∧ X.cell? ⟨w.heap.size + 1 + 1, 4, none⟩ = some sc.n2 ∧ X.cell? ⟨w.heap.size + 1 + 1, 5, none⟩ = some sc.d2) ∧ (X.cell? ⟨w.heap.size + 1 + 1 + 1, 0, none⟩ = some (.bool sd.b1) ∧ X.cell? ⟨w.heap.size + 1 + 1 + 1, 1, none⟩ = some sd.n1 ∧ X.cell? ⟨w.heap.size + 1 + 1 + 1, 2, none⟩ = some sd.d1 ∧ X.cell? ⟨w.heap.size + 1 + 1 + 1, 3, none⟩ = some (.bool sd.b2) ∧ X.cell? ⟨w.heap.size + 1 + 1 + 1, 4, none⟩ = some sd.n2 ∧ X.cell? ⟨w.heap.size + 1 + 1 + 1, 5, none⟩ = some sd.d2))
      (((with_reducible refine (q1.next ?_).cells); repeat' (first | (with_reducible exact bb2) | (with_reducible exact bb1) | (with_reducible exact bb0) | ((with_reducible refine Below.setCell ?_ ?_ _); rotate_left; (focus first | omega | (simp; done) | (simp; omega) | (unfold World.setCell; simp; omega))) | ((with_reducible refine Below.alloc ?_ ?_ _); rotate_left; (focus first | omega | (simp; done) | (simp; omega) | (unfold World.setCell; simp; omega))) | (with_reducible refine Below.drew ?_))))
      (first
        | (go_at_call 74; (with_reducible refine (C1.out _ ?_).mono ?_); (focus repeat' (first | (with_reducible exact bb0) | ((with_reducible refine Below.setCell ?_ ?_ _); rotate_left; (focus first | omega | (simp; done) | (simp; omega) | (unfold World.setCell; simp; omega))) | ((with_reducible refine Below.alloc ?_ ?_ _); rotate_left; (focus first | omega | (simp; done) | (simp; omega) | (unfold World.setCell; simp; omega))) | (with_reducible refine Below.drew ?_))); rintro e w1 ⟨hb1, v1, rfl, y1⟩; have bb1 : Below W1.heap.size W1 w1 := below_step (by repeat' (first | (with_reducible exact bb0) | ((with_reducible refine Below.setCell ?_ ?_ _); rotate_left; (focus first | omega | (simp; done) | (simp; omega) | (unfold World.setCell; simp; omega))) | ((with_reducible refine Below.alloc ?_ ?_ _); rotate_left; (focus first | omega | (simp; done) | (simp; omega) | (unfold World.setCell; simp; omega))) | (with_reducible refine Below.drew ?_))) hb1; have hbs1 := bb1.size; have rw1 := Below.refl w1.heap.size w1; obtain ⟨t1, A1, l1, e1, A1', l1', e1', rfl⟩ := y1.form; (first | ((with_reducible have ka := ((Bk.new W1 66 #[.bool false, .slice none 0 0, .slice none 0 0]).alloc (.cells #[.bool false, .slice none 0 0, .slice none 0 0] 66)).drew.next' hb1); (with_reducible have kb := (Bk.new2 W1 (.cells #[.bool false, .slice none 0 0, .slice none 0 0] 66) 66 #[.bool false, .slice none 0 0, .slice none 0 0]).drew.next' hb1); have la := ka.lt) | ((with_reducible have ka := (Bk.new W1 66 #[.bool false, .slice none 0 0, .slice none 0 0]).drew.next' hb1); have la := ka.lt) | skip))
        | (go_at_call 74; (with_reducible refine (C2.out _ ?_).mono ?_); (focus repeat' (first | (with_reducible exact bb1) | (with_reducible exact bb0) | ((with_reducible refine Below.setCell ?_ ?_ _); rotate_left; (focus first | omega | (simp; done) | (simp; omega) | (unfold World.setCell; simp; omega))) | ((with_reducible refine Below.alloc ?_ ?_ _); rotate_left; (focus first | omega | (simp; done) | (simp; omega) | (unfold World.setCell; simp; omega))) | (with_reducible refine Below.drew ?_))); rintro e w2 ⟨hb2, v2, rfl, y2⟩; have bb2 : Below W1.heap.size W1 w2 := below_step (by repeat' (first | (with_reducible exact bb1) | (with_reducible exact bb0) | ((with_reducible refine Below.setCell ?_ ?_ _); rotate_left; (focus first | omega | (simp; done) | (simp; omega) | (unfold World.setCell; simp; omega))) | ((with_reducible refine Below.alloc ?_ ?_ _); rotate_left; (focus first | omega | (simp; done) | (simp; omega) | (unfold World.setCell; simp; omega))) | (with_reducible refine Below.drew ?_))) hb2; have hbs2 := bb2.size; have rw2 := Below.refl w2.heap.size w2; have y12 := y1.next (below_step (by repeat' (first | (with_reducible exact rw1) | ((with_reducible refine Below.setCell ?_ ?_ _); rotate_left; (focus first | omega | (simp; done) | (simp; omega) | (unfold World.setCell; simp; omega))) | ((with_reducible refine Below.alloc ?_ ?_ _); rotate_left; (focus first | omega | (simp; done) | (simp; omega) | (unfold World.setCell; simp; omega))) | (with_reducible refine Below.drew ?_))) hb2); obtain ⟨t2, A2, l2, e2, A2', l2', e2', rfl⟩ := y2.form; (first | ((with_reducible have kA := ka.next' hb2); (with_reducible have kB := kb.next' hb2)) | (with_reducible have kA := ka.next' hb2) | ((with_reducible have kA := (ka.alloc (.cells #[.bool false, .slice none 0 0, .slice none 0 0] 66)).next' hb2); (with_reducible have kB := (Bk.new w1 66 #[.bool false, .slice none 0 0, .slice none 0 0]).next' hb2)) | ((with_reducible have kA := ((Bk.new w1 66 #[.bool false, .slice none 0 0, .slice none 0 0]).alloc (.cells #[.bool false, .slice none 0 0, .slice none 0 0] 66)).next' hb2); (with_reducible have kB := (Bk.new2 w1 (.cells #[.bool false, .slice none 0 0, .slice none 0 0] 66) 66 #[.bool false, .slice none 0 0, .slice none 0 0]).next' hb2)) | (with_reducible have kA := (Bk.new w1 66 #[.bool false, .slice none 0 0, .slice none 0 0]).next' hb2) | skip); (first | (obtain ⟨i0, i1, i2⟩ := bk3 kA; have f0 := kA.frozen 0; have f1 := kA.frozen 1; have f2 := kA.frozen 2; have lA := kA.lt; obtain ⟨j0, j1', j2⟩ := bk3 kB; have g0 := kB.frozen 0; have g1 := kB.frozen 1; have g2 := kB.frozen 2; have lB := kB.lt) | (obtain ⟨i0, i1, i2⟩ := bk3 kA; have f0 := kA.frozen 0; have f1 := kA.frozen 1; have f2 := kA.frozen 2; have lA := kA.lt) | skip)))
    all_goals (go_wp2_with fail)
    all_goals go_meet
    all_goals
      refine ⟨_, _, rfl, rfl, ?_, ?_, ?_, by omega, by omega⟩
      · first | (with_reducible exact (qformA y12 y2).1) | (with_reducible exact (qformA y2 y12).2) | (with_reducible exact (qformC kA y12 y2).1) | (with_reducible exact (qformC kA y2 y12).2) | (with_reducible exact (qformE kA kB (by omega) y12 y2).1) | (with_reducible exact (qformE kB kA (by omega) y12 y2).1) | (with_reducible exact (qformE kA kB (by omega) y2 y12).2) | (with_reducible exact (qformE kB kA (by omega) y2 y12).2)
      · first | (with_reducible exact (qformA y12 y2).2) | (with_reducible exact (qformA y2 y12).1) | (with_reducible exact (qformC kA y12 y2).2) | (with_reducible exact (qformC kA y2 y12).1) | (with_reducible exact (qformE kA kB (by omega) y12 y2).2) | (with_reducible exact (qformE kB kA (by omega) y12 y2).2) | (with_reducible exact (qformE kA kB (by omega) y2 y12).1) | (with_reducible exact (qformE kB kA (by omega) y2 y12).1)
      · repeat' (first | (with_reducible exact bb2) | (with_reducible exact bb1) | (with_reducible exact bb0) | ((with_reducible refine Below.setCell ?_ ?_ _); rotate_left; (focus first | omega | (simp; done) | (simp; omega) | (unfold World.setCell; simp; omega))) | ((with_reducible refine Below.alloc ?_ ?_ _); rotate_left; (focus first | omega | (simp; done) | (simp; omega) | (unfold World.setCell; simp; omega))) | (with_reducible refine Below.drew ?_))
  case rest =>
  obtain ⟨b12, b13, rfl, rfl, X12, X13, hbc, h12, h13⟩ := hcut
  have q2 := q1.next hbc
  have hs2 := hbc.size
  replace X10 := X10.next hbc
  replace X11 := X11.next hbc
  clear q1 C1 C2 bb0 hbs0 hbc a0 a1 a2 a3 a4 a5 b0 b1 b2 b3 b4 b5 c0 c1 c2 c3 c4 c5 d0 d1 d2 d3 d4 d5
  generalize wc = W2 at *
  go_wp2_with fail
  obtain ⟨s10, A10, l10, c10, A10', l10', c10', k10, f10⟩ := X10
  obtain ⟨s11, A11, l11, c11, A11', l11', c11', k11, f11⟩ := X11
  obtain ⟨s12, A12, l12, c12, A12', l12', c12', k12, f12⟩ := X12
  obtain ⟨s13, A13, l13, c13, A13', l13', c13', k13, f13⟩ := X13
  have KK : Hid (∀ X, Below W2.heap.size W2 X → ((X.cell? ⟨b10, 0, none⟩ = some (.bool s10) ∧ X.cell? ⟨b10, 1, none⟩ = some (.slice A10 l10 c10) ∧ X.cell? ⟨b10, 2, none⟩ = some (.slice A10' l10' c10')) ∧ (X.cell? ⟨b11, 0, none⟩ = some (.bool s11) ∧ X.cell? ⟨b11, 1, none⟩ = some (.slice A11 l11 c11) ∧ X.cell? ⟨b11, 2, none⟩ = some (.slice A11' l11' c11')) ∧ (X.cell? ⟨b12, 0, none⟩ = some (.bool s12) ∧ X.cell? ⟨b12, 1, none⟩ = some (.slice A12 l12 c12) ∧ X.cell? ⟨b12, 2, none⟩ = some (.slice A12' l12' c12')) ∧ (X.cell? ⟨b13, 0, none⟩ = some (.bool s13) ∧ X.cell? ⟨b13, 1, none⟩ = some (.slice A13 l13 c13) ∧ X.cell? ⟨b13, 2, none⟩ = some (.slice A13' l13' c13')))) := fun X h => ⟨bk3 (k10.next' h), bk3 (k11.next' h), bk3 (k12.next' h), bk3 (k13.next' h)⟩
  obtain ⟨⟨a0, a1, a2⟩, ⟨b0, b1, b2⟩, ⟨c0, c1, c2⟩, d0, d1, d2⟩ := KK.out W2 (Below.refl _ _)
  have C1 := Lib.hid (fun X (h : Below W2.heap.size W2 X) => qprod_any (b.1 - a.1) (d.2 - c.2) _ _ X (f10.next h) (f13.next h) (by omega) (by omega))
  have C2 := Lib.hid (fun X (h : Below W2.heap.size W2 X) => qprod_any (b.2 - a.2) (d.1 - c.1) _ _ X (f11.next h) (f12.next h) (by omega) (by omega))
  have bb0 := Below.refl W2.heap.size W2
  have hbs0 := bb0.size
  go_cut [14] from 16 to 77 (fun x wx => ∃ b14, x = .pointer (some ⟨b14, 0, none⟩) ∧ QAt wx b14 (detQ a b c d) ∧ Below W2.heap.size W2 wx ∧ W2.heap.size ≤ b14)
  case first =>
    go_region_held3 (fun X => (X.cell? ⟨b10, 0, none⟩ = some (.bool s10) ∧ X.cell? ⟨b10, 1, none⟩ = some (.slice A10 l10 c10) ∧ X.cell? ⟨b10, 2, none⟩ = some (.slice A10' l10' c10')) ∧ (X.cell? ⟨b11, 0, none⟩ = some (.bool s11) ∧ X.cell? ⟨b11, 1, none⟩ = some (.slice A11 l11 c11) ∧ X.cell? ⟨b11, 2, none⟩ = some (.slice A11' l11' c11')) ∧ (X.cell? ⟨b12, 0, none⟩ = some (.bool s12) ∧ X.cell? ⟨b12, 1, none⟩ = some (.slice A12 l12 c12) ∧ X.cell? ⟨b12, 2, none⟩ = some (.slice A12' l12' c12')) ∧ (X.cell? ⟨b13, 0, none⟩ = some (.bool s13) ∧ X.cell? ⟨b13, 1, none⟩ = some (.slice A13 l13 c13) ∧ X.cell? ⟨b13, 2, none⟩ = some (.slice A13' l13' c13')))
      (((with_reducible refine KK.out _ ?_); repeat' (first | (with_reducible exact bb3) | (with_reducible exact bb2) | (with_reducible exact bb1) | (with_reducible exact bb0) | ((with_reducible refine Below.setCell ?_ ?_ _); rotate_left; (focus first | omega | (simp; done) | (simp; omega) | (unfold World.setCell; simp; omega))) | ((with_reducible refine Below.alloc ?_ ?_ _); rotate_left; (focus first | omega | (simp; done) | (simp; omega) | (unfold World.setCell; simp; omega))) | (with_reducible refine Below.drew ?_))))
      (first
        | (go_at_call 101; (with_reducible refine (C1.out _ ?_).mono ?_); (focus repeat' (first | (with_reducible exact bb0) | ((with_reducible refine Below.setCell ?_ ?_ _); rotate_left; (focus first | omega | (simp; done) | (simp; omega) | (unfold World.setCell; simp; omega))) | ((with_reducible refine Below.alloc ?_ ?_ _); rotate_left; (focus first | omega | (simp; done) | (simp; omega) | (unfold World.setCell; simp; omega))) | (with_reducible refine Below.drew ?_))); rintro e w1 ⟨hb1, v1, rfl, y1⟩; have bb1 : Below W2.heap.size W2 w1 := below_step (by repeat' (first | (with_reducible exact bb0) | ((with_reducible refine Below.setCell ?_ ?_ _); rotate_left; (focus first | omega | (simp; done) | (simp; omega) | (unfold World.setCell; simp; omega))) | ((with_reducible refine Below.alloc ?_ ?_ _); rotate_left; (focus first | omega | (simp; done) | (simp; omega) | (unfold World.setCell; simp; omega))) | (with_reducible refine Below.drew ?_))) hb1; have hbs1 := bb1.size; have rw1 := Below.refl w1.heap.size w1; obtain ⟨t1, A1, l1, e1, A1', l1', e1', rfl⟩ := y1.form; (first | (with_reducible have ka := (Bk.new W2 66 #[.bool false, .slice none 0 0, .slice none 0 0]).drew.next' hb1; have la := ka.lt) | skip))
        | (go_at_call 101; (with_reducible refine (C2.out _ ?_).mono ?_); (focus repeat' (first | (with_reducible exact bb1) | (with_reducible exact bb0) | ((with_reducible refine Below.setCell ?_ ?_ _); rotate_left; (focus first | omega | (simp; done) | (simp; omega) | (unfold World.setCell; simp; omega))) | ((with_reducible refine Below.alloc ?_ ?_ _); rotate_left; (focus first | omega | (simp; done) | (simp; omega) | (unfold World.setCell; simp; omega))) | (with_reducible refine Below.drew ?_))); rintro e w2 ⟨hb2, v2, rfl, y2⟩; have bb2 : Below W2.heap.size W2 w2 := below_step (by repeat' (first | (with_reducible exact bb1) | (with_reducible exact bb0) | ((with_reducible refine Below.setCell ?_ ?_ _); rotate_left; (focus first | omega | (simp; done) | (simp; omega) | (unfold World.setCell; simp; omega))) | ((with_reducible refine Below.alloc ?_ ?_ _); rotate_left; (focus first | omega | (simp; done) | (simp; omega) | (unfold World.setCell; simp; omega))) | (with_reducible refine Below.drew ?_))) hb2; have hbs2 := bb2.size; have rw2 := Below.refl w2.heap.size w2; obtain ⟨t2, A2, l2, e2, A2', l2', e2', rfl⟩ := y2.form; have y12 := y1.next (below_step (by repeat' (first | (with_reducible exact rw1) | ((with_reducible refine Below.setCell ?_ ?_ _); rotate_left; (focus first | omega | (simp; done) | (simp; omega) | (unfold World.setCell; simp; omega))) | ((with_reducible refine Below.alloc ?_ ?_ _); rotate_left; (focus first | omega | (simp; done) | (simp; omega) | (unfold World.setCell; simp; omega))) | (with_reducible refine Below.drew ?_))) hb2); have C3 := Lib.hid (fun X (h : Below w2.heap.size w2 X) => HD.out ▸ qminus_any ((b.1 - a.1) * (d.2 - c.2)) ((b.2 - a.2) * (d.1 - c.1)) _ _ X (y12.next h) (y2.next h) (by omega) (by omega)); (first | (with_reducible have ka := ka.next' hb2; have la := ka.lt) | (with_reducible have ka := (Bk.new w1 66 #[.bool false, .slice none 0 0, .slice none 0 0]).next' hb2; have la := ka.lt) | skip))
        | (go_at_call 74; (with_reducible refine (C3.out _ ?_).mono ?_); (focus repeat' (first | (with_reducible exact rw2) | ((with_reducible refine Below.setCell ?_ ?_ _); rotate_left; (focus first | omega | (simp; done) | (simp; omega) | (unfold World.setCell; simp; omega))) | ((with_reducible refine Below.alloc ?_ ?_ _); rotate_left; (focus first | omega | (simp; done) | (simp; omega) | (unfold World.setCell; simp; omega))) | (with_reducible refine Below.drew ?_))); rintro e w3 ⟨hb3, v3, rfl, y3⟩; have bb3 : Below W2.heap.size W2 w3 := below_step (by repeat' (first | (with_reducible exact bb2) | (with_reducible exact bb1) | (with_reducible exact bb0) | ((with_reducible refine Below.setCell ?_ ?_ _); rotate_left; (focus first | omega | (simp; done) | (simp; omega) | (unfold World.setCell; simp; omega))) | ((with_reducible refine Below.alloc ?_ ?_ _); rotate_left; (focus first | omega | (simp; done) | (simp; omega) | (unfold World.setCell; simp; omega))) | (with_reducible refine Below.drew ?_))) hb3; have hbs3 := bb3.size; have rw3 := Below.refl w3.heap.size w3; obtain ⟨t3, A3, l3, e3, A3', l3', e3', rfl⟩ := y3.form; (first | (with_reducible have ka := ka.next' hb3; have la := ka.lt) | (with_reducible have ka := (Bk.new w2 66 #[.bool false, .slice none 0 0, .slice none 0 0]).next' hb3; have la := ka.lt) | skip); (first | (obtain ⟨i0, i1, i2⟩ := bk3 ka; have f0 := ka.frozen 0; have f1 := ka.frozen 1; have f2 := ka.frozen 2) | skip)))
    all_goals (go_wp2_with fail)
    all_goals go_meet
    all_goals
      refine ⟨_, rfl, ?_, ?_, by omega⟩
      · first | (with_reducible exact qatN y3) | (with_reducible exact qatS ka y3)
      · repeat' (first | (with_reducible exact bb3) | (with_reducible exact bb2) | (with_reducible exact bb1) | (with_reducible exact bb0) | ((with_reducible refine Below.setCell ?_ ?_ _); rotate_left; (focus first | omega | (simp; done) | (simp; omega) | (unfold World.setCell; simp; omega))) | ((with_reducible refine Below.alloc ?_ ?_ _); rotate_left; (focus first | omega | (simp; done) | (simp; omega) | (unfold World.setCell; simp; omega))) | (with_reducible refine Below.drew ?_))
  case rest =>
  obtain ⟨b14, rfl, X14, hbc, h14⟩ := hcut
  have q3 := q2.next hbc
  have hs3 := hbc.size
  replace k10 := k10.next' hbc
  replace f10 := f10.next hbc
  replace k11 := k11.next' hbc
  replace f11 := f11.next hbc
  replace k12 := k12.next' hbc
  replace f12 := f12.next hbc
  replace k13 := k13.next' hbc
  replace f13 := f13.next hbc
  clear q2 KK C1 C2 bb0 hbs0 hbc a0 a1 a2 b0 b1 b2 c0 c1 c2 d0 d1 d2
  generalize wc = W3 at *
  obtain ⟨s14, A14, l14, c14, A14', l14', c14', k14, f14⟩ := X14
  obtain ⟨e0, e1, e2⟩ := bk3 k14
  go_wp2_with fail
  refine (qsgn_any _ _ _ f14 (by omega)).mono ?_
  rintro e W4 ⟨hbc, rfl⟩
  have q4 := q3.next hbc
  have hs4 := hbc.size
  replace k10 := k10.next' hbc
  replace f10 := f10.next hbc
  replace k11 := k11.next' hbc
  replace f11 := f11.next hbc
  replace k12 := k12.next' hbc
  replace f12 := f12.next hbc
  replace k13 := k13.next' hbc
  replace f13 := f13.next hbc
  replace k14 := k14.next' hbc
  replace f14 := f14.next hbc
  clear q3 hbc e0 e1 e2
  by_cases hdet : detQ a b c d = 0
  · have HR : Hid (decide (detQ a b c d ≠ 0) = false) := by show _ = _; simp [hdet]
    have HN := Lib.hid hdet
    have hsg : sgQ (detQ a b c d) = 0 := by rw [hdet]; exact sgQ_zero
    rw [hsg]
    have kr := q4.kr
    have hlt := kr.lt
    obtain ⟨g0, g1, g2, g3, g4, g5⟩ := bk6c kr
    have f0 := kr.frozen 0
    have f1 := kr.frozen 1
    have f2 := kr.frozen 2
    have f3 := kr.frozen 3
    have f4 := kr.frozen 4
    have f5 := kr.frozen 5
    clear hdet hsg
    go_wp2
    refine bodyPost_ret (v := .tuple #[szero.val, .bool false]) (by simp [results, Tryz.results128, go_sem, g0, g1, g2, g3, g4, g5, Sx.val, szero]) rfl ?_
    exact ⟨set6_below (s := szero) q4.below (by omega), szero, by rw [HR.out] <;> rfl, ⟨_, _, _, _, _, _, _, _, _, _, _, _, _, _, rfl⟩, fun h => absurd HN.out h⟩
  have HR : Hid (decide (detQ a b c d ≠ 0) = true) := by show _ = _; simp [hdet]
  have HN := Lib.hid hdet
  have hsg : (sgQ (detQ a b c d) == 0) = false := by
    rw [beq_eq_false_iff_ne]
    unfold sgQ
    rw [if_neg hdet]
    split <;> decide
  have z3 : sz (alongQ a c d / detQ a b c d) ≤ 16000000010 := by have := sz_div (alongQ a c d) (detQ a b c d) hdet; omega
  clear hdet
  have hl10 := k10.lt
  have hl11 := k11.lt
  go_wp2_with fail
  have KK : Hid (∀ X, Below W4.heap.size W4 X → ((X.cell? ⟨w.heap.size, 0, none⟩ = some (.bool sa.b1) ∧ X.cell? ⟨w.heap.size, 1, none⟩ = some sa.n1 ∧ X.cell? ⟨w.heap.size, 2, none⟩ = some sa.d1 ∧ X.cell? ⟨w.heap.size, 3, none⟩ = some (.bool sa.b2) ∧ X.cell? ⟨w.heap.size, 4, none⟩ = some sa.n2 ∧ X.cell? ⟨w.heap.size, 5, none⟩ = some sa.d2) ∧ (X.cell? ⟨w.heap.size + 1 + 1, 0, none⟩ = some (.bool sc.b1) ∧ X.cell? ⟨w.heap.size + 1 + 1, 1, none⟩ = some sc.n1 ∧ X.cell? ⟨w.heap.size + 1 + 1, 2, none⟩ = some sc.d1 ∧ X.cell? ⟨w.heap.size + 1 + 1, 3, none⟩ = some (.bool sc.b2) ∧ X.cell? ⟨w.heap.size + 1 + 1, 4, none⟩ = some sc.n2 ∧ X.cell? ⟨w.heap.size + 1 + 1, 5, none⟩ = some sc.d2) ∧ (X.cell? ⟨b12, 0, none⟩ = some (.bool s12) ∧ X.cell? ⟨b12, 1, none⟩ = some (.slice A12 l12 c12) ∧ X.cell? ⟨b12, 2, none⟩ = some (.slice A12' l12' c12')) ∧ (X.cell? ⟨b13, 0, none⟩ = some (.bool s13) ∧ X.cell? ⟨b13, 1, none⟩ = some (.slice A13 l13 c13) ∧ X.cell? ⟨b13, 2, none⟩ = some (.slice A13' l13' c13')))) := fun X h => ⟨bk6c (q4.next h).k1, bk6c (q4.next h).k3, bk3 (k12.next' h), bk3 (k13.next' h)⟩
  obtain ⟨⟨a0, a1, a2, a3, a4, a5⟩, ⟨b0, b1, b2, b3, b4, b5⟩, ⟨c0, c1, c2⟩, d0, d1, d2⟩ := KK.out W4 (Below.refl _ _)
  have C1 := Lib.hid (fun X (h : Below W4.heap.size W4 X) => qminus_any c.1 a.1 _ _ X (q4.next h).p3.x (q4.next h).p1.x (by omega) (by omega))
  have C3 := Lib.hid (fun X (h : Below W4.heap.size W4 X) => qminus_any c.2 a.2 _ _ X (q4.next h).p3.y (q4.next h).p1.y (by omega) (by omega))
  have bb0 := Below.refl W4.heap.size W4
  have hbs0 := bb0.size
  go_cut [15] from 16 to 77 (fun x wx => ∃ b15, x = .pointer (some ⟨b15, 0, none⟩) ∧ QAt wx b15 (alongQ a c d) ∧ Below W4.heap.size W4 wx ∧ W4.heap.size ≤ b15)
  case first =>
    go_region_held3 (fun X => (X.cell? ⟨w.heap.size, 0, none⟩ = some (.bool sa.b1) ∧ X.cell? ⟨w.heap.size, 1, none⟩ = some sa.n1 ∧ X.cell? ⟨w.heap.size, 2, none⟩ = some sa.d1 ∧ X.cell? ⟨w.heap.size, 3, none⟩ = some (.bool sa.b2) ∧ X.cell? ⟨w.heap.size, 4, none⟩ = some sa.n2 ∧ X.cell? ⟨w.heap.size, 5, none⟩ = some sa.d2) ∧ (X.cell? ⟨w.heap.size + 1 + 1, 0, none⟩ = some (.bool sc.b1) ∧ X.cell? ⟨w.heap.size + 1 + 1, 1, none⟩ = some sc.n1 ∧ X.cell? ⟨w.heap.size + 1 + 1, 2, none⟩ = some sc.d1 ∧ X.cell? ⟨w.heap.size + 1 + 1, 3, none⟩ = some (.bool sc.b2) ∧ X.cell? ⟨w.heap.size + 1 + 1, 4, none⟩ = some sc.n2 ∧ X.cell? ⟨w.heap.size + 1 + 1, 5, none⟩ = some sc.d2) ∧ (X.cell? ⟨b12, 0, none⟩ = some (.bool s12) ∧ X.cell? ⟨b12, 1, none⟩ = some (.slice A12 l12 c12) ∧ X.cell? ⟨b12, 2, none⟩ = some (.slice A12' l12' c12')) ∧ (X.cell? ⟨b13, 0, none⟩ = some (.bool s13) ∧ X.cell? ⟨b13, 1, none⟩ = some (.slice A13 l13 c13) ∧ X.cell? ⟨b13, 2, none⟩ = some (.slice A13' l13' c13')))
      (((with_reducible refine KK.out _ ?_); repeat' (first | (with_reducible exact bb5) | (with_reducible exact bb4) | (with_reducible exact bb3) | (with_reducible exact bb2) | (with_reducible exact bb1) | (with_reducible exact bb0) | ((with_reducible refine Below.setCell ?_ ?_ _); rotate_left; (focus first | omega | (simp; done) | (simp; omega) | (unfold World.setCell; simp; omega))) | ((with_reducible refine Below.alloc ?_ ?_ _); rotate_left; (focus first | omega | (simp; done) | (simp; omega) | (unfold World.setCell; simp; omega))) | (with_reducible refine Below.drew ?_))))
      (first
        | (go_at_call 74; (with_reducible refine (C1.out _ ?_).mono ?_); (focus repeat' (first | (with_reducible exact bb0) | ((with_reducible refine Below.setCell ?_ ?_ _); rotate_left; (focus first | omega | (simp; done) | (simp; omega) | (unfold World.setCell; simp; omega))) | ((with_reducible refine Below.alloc ?_ ?_ _); rotate_left; (focus first | omega | (simp; done) | (simp; omega) | (unfold World.setCell; simp; omega))) | (with_reducible refine Below.drew ?_))); rintro e w1 ⟨hb1, v1, rfl, y1⟩; have bb1 : Below W4.heap.size W4 w1 := below_step (by repeat' (first | (with_reducible exact bb0) | ((with_reducible refine Below.setCell ?_ ?_ _); rotate_left; (focus first | omega | (simp; done) | (simp; omega) | (unfold World.setCell; simp; omega))) | ((with_reducible refine Below.alloc ?_ ?_ _); rotate_left; (focus first | omega | (simp; done) | (simp; omega) | (unfold World.setCell; simp; omega))) | (with_reducible refine Below.drew ?_))) hb1; have hbs1 := bb1.size; have rw1 := Below.refl w1.heap.size w1; obtain ⟨t1, A1, l1, e1, A1', l1', e1', rfl⟩ := y1.form; have fE := f13.next bb1; have C2 := Lib.hid (fun X (h : Below w1.heap.size w1 X) => qprod_any (c.1 - a.1) (d.2 - c.2) _ _ X (y1.next h) (fE.next h) (by omega) (by omega)); (first | (with_reducible have ka := (Bk.new W4 66 #[.bool false, .slice none 0 0, .slice none 0 0]).drew.next' hb1; have la := ka.lt) | skip))
        | (go_at_call 101; (with_reducible refine (C2.out _ ?_).mono ?_); (focus repeat' (first | (with_reducible exact rw1) | ((with_reducible refine Below.setCell ?_ ?_ _); rotate_left; (focus first | omega | (simp; done) | (simp; omega) | (unfold World.setCell; simp; omega))) | ((with_reducible refine Below.alloc ?_ ?_ _); rotate_left; (focus first | omega | (simp; done) | (simp; omega) | (unfold World.setCell; simp; omega))) | (with_reducible refine Below.drew ?_))); rintro e w2 ⟨hb2, v2, rfl, y2⟩; have bb2 : Below W4.heap.size W4 w2 := below_step (by repeat' (first | (with_reducible exact bb1) | (with_reducible exact bb0) | ((with_reducible refine Below.setCell ?_ ?_ _); rotate_left; (focus first | omega | (simp; done) | (simp; omega) | (unfold World.setCell; simp; omega))) | ((with_reducible refine Below.alloc ?_ ?_ _); rotate_left; (focus first | omega | (simp; done) | (simp; omega) | (unfold World.setCell; simp; omega))) | (with_reducible refine Below.drew ?_))) hb2; have hbs2 := bb2.size; have rw2 := Below.refl w2.heap.size w2; obtain ⟨t2, A2, l2, e2, A2', l2', e2', rfl⟩ := y2.form; (first | (with_reducible have ka := ka.next' hb2; have la := ka.lt) | (with_reducible have ka := (Bk.new w1 66 #[.bool false, .slice none 0 0, .slice none 0 0]).next' hb2; have la := ka.lt) | skip))
        | (go_at_call 74; (with_reducible refine (C3.out _ ?_).mono ?_); (focus repeat' (first | (with_reducible exact bb2) | (with_reducible exact bb1) | (with_reducible exact bb0) | ((with_reducible refine Below.setCell ?_ ?_ _); rotate_left; (focus first | omega | (simp; done) | (simp; omega) | (unfold World.setCell; simp; omega))) | ((with_reducible refine Below.alloc ?_ ?_ _); rotate_left; (focus first | omega | (simp; done) | (simp; omega) | (unfold World.setCell; simp; omega))) | (with_reducible refine Below.drew ?_))); rintro e w3 ⟨hb3, v3, rfl, y3⟩; have bb3 : Below W4.heap.size W4 w3 := below_step (by repeat' (first | (with_reducible exact bb2) | (with_reducible exact bb1) | (with_reducible exact bb0) | ((with_reducible refine Below.setCell ?_ ?_ _); rotate_left; (focus first | omega | (simp; done) | (simp; omega) | (unfold World.setCell; simp; omega))) | ((with_reducible refine Below.alloc ?_ ?_ _); rotate_left; (focus first | omega | (simp; done) | (simp; omega) | (unfold World.setCell; simp; omega))) | (with_reducible refine Below.drew ?_))) hb3; have hbs3 := bb3.size; have rw3 := Below.refl w3.heap.size w3; obtain ⟨t3, A3, l3, e3, A3', l3', e3', rfl⟩ := y3.form; have y23 := y2.next (below_step (by repeat' (first | (with_reducible exact rw2) | ((with_reducible refine Below.setCell ?_ ?_ _); rotate_left; (focus first | omega | (simp; done) | (simp; omega) | (unfold World.setCell; simp; omega))) | ((with_reducible refine Below.alloc ?_ ?_ _); rotate_left; (focus first | omega | (simp; done) | (simp; omega) | (unfold World.setCell; simp; omega))) | (with_reducible refine Below.drew ?_))) hb3); have fX := f12.next bb3; have C4 := Lib.hid (fun X (h : Below w3.heap.size w3 X) => qprod_any (c.2 - a.2) (d.1 - c.1) _ _ X (y3.next h) (fX.next h) (by omega) (by omega)); (first | (with_reducible have ka := ka.next' hb3; have la := ka.lt) | (with_reducible have ka := (Bk.new w2 66 #[.bool false, .slice none 0 0, .slice none 0 0]).next' hb3; have la := ka.lt) | skip))
        | (go_at_call 101; (with_reducible refine (C4.out _ ?_).mono ?_); (focus repeat' (first | (with_reducible exact rw3) | ((with_reducible refine Below.setCell ?_ ?_ _); rotate_left; (focus first | omega | (simp; done) | (simp; omega) | (unfold World.setCell; simp; omega))) | ((with_reducible refine Below.alloc ?_ ?_ _); rotate_left; (focus first | omega | (simp; done) | (simp; omega) | (unfold World.setCell; simp; omega))) | (with_reducible refine Below.drew ?_))); rintro e w4 ⟨hb4, v4, rfl, y4⟩; have bb4 : Below W4.heap.size W4 w4 := below_step (by repeat' (first | (with_reducible exact bb3) | (with_reducible exact bb2) | (with_reducible exact bb1) | (with_reducible exact bb0) | ((with_reducible refine Below.setCell ?_ ?_ _); rotate_left; (focus first | omega | (simp; done) | (simp; omega) | (unfold World.setCell; simp; omega))) | ((with_reducible refine Below.alloc ?_ ?_ _); rotate_left; (focus first | omega | (simp; done) | (simp; omega) | (unfold World.setCell; simp; omega))) | (with_reducible refine Below.drew ?_))) hb4; have hbs4 := bb4.size; have rw4 := Below.refl w4.heap.size w4; obtain ⟨t4, A4, l4, e4, A4', l4', e4', rfl⟩ := y4.form; have y24 := y23.next (below_step (by repeat' (first | (with_reducible exact rw3) | ((with_reducible refine Below.setCell ?_ ?_ _); rotate_left; (focus first | omega | (simp; done) | (simp; omega) | (unfold World.setCell; simp; omega))) | ((with_reducible refine Below.alloc ?_ ?_ _); rotate_left; (focus first | omega | (simp; done) | (simp; omega) | (unfold World.setCell; simp; omega))) | (with_reducible refine Below.drew ?_))) hb4); have C5 := Lib.hid (fun X (h : Below w4.heap.size w4 X) => HA.out ▸ qminus_any ((c.1 - a.1) * (d.2 - c.2)) ((c.2 - a.2) * (d.1 - c.1)) _ _ X (y24.next h) (y4.next h) (by omega) (by omega)); (first | (with_reducible have ka := ka.next' hb4; have la := ka.lt) | (with_reducible have ka := (Bk.new w3 66 #[.bool false, .slice none 0 0, .slice none 0 0]).next' hb4; have la := ka.lt) | skip))
        | (go_at_call 74; (with_reducible refine (C5.out _ ?_).mono ?_); (focus repeat' (first | (with_reducible exact rw4) | ((with_reducible refine Below.setCell ?_ ?_ _); rotate_left; (focus first | omega | (simp; done) | (simp; omega) | (unfold World.setCell; simp; omega))) | ((with_reducible refine Below.alloc ?_ ?_ _); rotate_left; (focus first | omega | (simp; done) | (simp; omega) | (unfold World.setCell; simp; omega))) | (with_reducible refine Below.drew ?_))); rintro e w5 ⟨hb5, v5, rfl, y5⟩; have bb5 : Below W4.heap.size W4 w5 := below_step (by repeat' (first | (with_reducible exact bb4) | (with_reducible exact bb3) | (with_reducible exact bb2) | (with_reducible exact bb1) | (with_reducible exact bb0) | ((with_reducible refine Below.setCell ?_ ?_ _); rotate_left; (focus first | omega | (simp; done) | (simp; omega) | (unfold World.setCell; simp; omega))) | ((with_reducible refine Below.alloc ?_ ?_ _); rotate_left; (focus first | omega | (simp; done) | (simp; omega) | (unfold World.setCell; simp; omega))) | (with_reducible refine Below.drew ?_))) hb5; have hbs5 := bb5.size; have rw5 := Below.refl w5.heap.size w5; obtain ⟨t5, A5, l5, e5, A5', l5', e5', rfl⟩ := y5.form; (first | (with_reducible have ka := ka.next' hb5; have la := ka.lt) | (with_reducible have ka := (Bk.new w4 66 #[.bool false, .slice none 0 0, .slice none 0 0]).next' hb5; have la := ka.lt) | skip); (first | (obtain ⟨i0, i1, i2⟩ := bk3 ka; have f0 := ka.frozen 0; have f1 := ka.frozen 1; have f2 := ka.frozen 2) | skip)))
    all_goals (go_wp2_with fail)
    all_goals go_meet
    all_goals
      refine ⟨_, rfl, ?_, ?_, by omega⟩
      · first | (with_reducible exact qatN y5) | (with_reducible exact qatS ka y5)
      · repeat' (first | (with_reducible exact bb5) | (with_reducible exact bb4) | (with_reducible exact bb3) | (with_reducible exact bb2) | (with_reducible exact bb1) | (with_reducible exact bb0) | ((with_reducible refine Below.setCell ?_ ?_ _); rotate_left; (focus first | omega | (simp; done) | (simp; omega) | (unfold World.setCell; simp; omega))) | ((with_reducible refine Below.alloc ?_ ?_ _); rotate_left; (focus first | omega | (simp; done) | (simp; omega) | (unfold World.setCell; simp; omega))) | (with_reducible refine Below.drew ?_))
  case rest =>
  obtain ⟨b15, rfl, X15, hbc, h15⟩ := hcut
  have q5 := q4.next hbc
  have hs5 := hbc.size
  replace k10 := k10.next' hbc
  replace f10 := f10.next hbc
  replace k11 := k11.next' hbc
  replace f11 := f11.next hbc
  replace k14 := k14.next' hbc
  replace f14 := f14.next hbc
  clear q4 KK C1 C3 bb0 hbs0 hbc a0 a1 a2 a3 a4 a5 b0 b1 b2 b3 b4 b5 c0 c1 c2 d0 d1 d2
  generalize wc = W5 at *
  obtain ⟨s15, A15, l15, c15, A15', l15', c15', k15, f15⟩ := X15
  obtain ⟨e0, e1, e2⟩ := bk3 k14
  obtain ⟨i0, i1, i2⟩ := bk3 k15
  go_wp2_with fail
  refine (qquot_any _ _ _ _ _ f15 f14 (by omega) (by omega)).mono ?_
  rintro e W6 ⟨hbc, v6, rfl, y6⟩
  obtain ⟨s16, A16, l16, c16, A16', l16', c16', rfl⟩ := y6.form
  have q6 := q5.next hbc
  have hs6 := hbc.size
  replace k10 := k10.next' hbc
  replace f10 := f10.next hbc
  replace k11 := k11.next' hbc
  replace f11 := f11.next hbc
  replace k15 := k15.next' hbc
  replace f15 := f15.next hbc
  clear q5 hbc e0 e1 e2 i0 i1 i2 k14 f14
  obtain ⟨i0, i1, i2⟩ := bk3 k15
  have g0 := k15.frozen 0
  have g1 := k15.frozen 1
  have g2 := k15.frozen 2
  have hl15 := k15.lt
  have X10 : QAt (set3 W6 b15 (.bool s16) (.slice A16 l16 c16) (.slice A16' l16' c16')) b10 (b.1 - a.1) := QAt.far ⟨_, _, _, _, _, _, _, k10, f10⟩ k15 (by omega) _ _ _
  have X11 : QAt (set3 W6 b15 (.bool s16) (.slice A16 l16 c16) (.slice A16' l16' c16')) b11 (b.2 - a.2) := QAt.far ⟨_, _, _, _, _, _, _, k11, f11⟩ k15 (by omega) _ _ _
  have X15 := qatS' k15 y6
  have q7 := q6.set3 k15 (by omega) (.bool s16) (.slice A16 l16 c16) (.slice A16' l16' c16')
  clear q6 k10 f10 k11 f11 k15 f15 y6 k12 k13 f12 f13
  go_wp2_with fail
  refine wp_name (fun W7 => Me sa sb sc sd a b c d w W7 ∧ QAt W7 b10 (b.1 - a.1) ∧ QAt W7 b11 (b.2 - a.2) ∧ QAt W7 b15 (alongQ a c d / detQ a b c d)) ⟨q7, X10, X11, X15⟩ ?_
  clear q7 X10 X11 X15 i0 i1 i2 g0 g1 g2 hl15 hl10 hl11
  rintro W7 ⟨q7, ⟨s10, A10, l10, c10, A10', l10', c10', k10, f10⟩, ⟨s11, A11, l11, c11, A11', l11', c11', k11, f11⟩, ⟨s15, A15, l15, c15, A15', l15', c15', k15, f15⟩⟩
  have bb0 := Below.refl W7.heap.size W7
  have hbs0 := bb0.size
  have hkr := q7.kr.lt
  have KK : Hid (∀ X, Below W7.heap.size W7 X → ((X.cell? ⟨w.heap.size, 0, none⟩ = some (.bool sa.b1) ∧ X.cell? ⟨w.heap.size, 1, none⟩ = some sa.n1 ∧ X.cell? ⟨w.heap.size, 2, none⟩ = some sa.d1 ∧ X.cell? ⟨w.heap.size, 3, none⟩ = some (.bool sa.b2) ∧ X.cell? ⟨w.heap.size, 4, none⟩ = some sa.n2 ∧ X.cell? ⟨w.heap.size, 5, none⟩ = some sa.d2) ∧ (X.cell? ⟨b10, 0, none⟩ = some (.bool s10) ∧ X.cell? ⟨b10, 1, none⟩ = some (.slice A10 l10 c10) ∧ X.cell? ⟨b10, 2, none⟩ = some (.slice A10' l10' c10')) ∧ (X.cell? ⟨b11, 0, none⟩ = some (.bool s11) ∧ X.cell? ⟨b11, 1, none⟩ = some (.slice A11 l11 c11) ∧ X.cell? ⟨b11, 2, none⟩ = some (.slice A11' l11' c11')) ∧ (X.cell? ⟨b15, 0, none⟩ = some (.bool s15) ∧ X.cell? ⟨b15, 1, none⟩ = some (.slice A15 l15 c15) ∧ X.cell? ⟨b15, 2, none⟩ = some (.slice A15' l15' c15')))) := fun X h => ⟨bk6c (q7.next h).k1, bk3 (k10.next' h), bk3 (k11.next' h), bk3 (k15.next' h)⟩
  obtain ⟨⟨a0, a1, a2, a3, a4, a5⟩, ⟨b0, b1, b2⟩, ⟨c0, c1, c2⟩, d0, d1, d2⟩ := KK.out W7 (Below.refl _ _)
  have u1 : sz ((alongQ a c d / detQ a b c d) * (b.1 - a.1)) ≤ 18000000011 := by have := sz_mul (alongQ a c d / detQ a b c d) (b.1 - a.1); omega
  have u2 : sz ((alongQ a c d / detQ a b c d) * (b.2 - a.2)) ≤ 18000000011 := by have := sz_mul (alongQ a c d / detQ a b c d) (b.2 - a.2); omega
  have C1 := Lib.hid (fun X (h : Below W7.heap.size W7 X) => qprod_any (alongQ a c d / detQ a b c d) (b.1 - a.1) _ _ X (f15.next h) (f10.next h) (by omega) (by omega))
  have C3 := Lib.hid (fun X (h : Below W7.heap.size W7 X) => qprod_any (alongQ a c d / detQ a b c d) (b.2 - a.2) _ _ X (f15.next h) (f11.next h) (by omega) (by omega))
  go_region_held3 (fun X => (X.cell? ⟨w.heap.size, 0, none⟩ = some (.bool sa.b1) ∧ X.cell? ⟨w.heap.size, 1, none⟩ = some sa.n1 ∧ X.cell? ⟨w.heap.size, 2, none⟩ = some sa.d1 ∧ X.cell? ⟨w.heap.size, 3, none⟩ = some (.bool sa.b2) ∧ X.cell? ⟨w.heap.size, 4, none⟩ = some sa.n2 ∧ X.cell? ⟨w.heap.size, 5, none⟩ = some sa.d2) ∧ (X.cell? ⟨b10, 0, none⟩ = some (.bool s10) ∧ X.cell? ⟨b10, 1, none⟩ = some (.slice A10 l10 c10) ∧ X.cell? ⟨b10, 2, none⟩ = some (.slice A10' l10' c10')) ∧ (X.cell? ⟨b11, 0, none⟩ = some (.bool s11) ∧ X.cell? ⟨b11, 1, none⟩ = some (.slice A11 l11 c11) ∧ X.cell? ⟨b11, 2, none⟩ = some (.slice A11' l11' c11')) ∧ (X.cell? ⟨b15, 0, none⟩ = some (.bool s15) ∧ X.cell? ⟨b15, 1, none⟩ = some (.slice A15 l15 c15) ∧ X.cell? ⟨b15, 2, none⟩ = some (.slice A15' l15' c15')))
    (first | (with_reducible exact r5) | ((with_reducible refine KK.out _ ?_); repeat' (first | (with_reducible exact bb4) | (with_reducible exact bb3) | (with_reducible exact bb2) | (with_reducible exact bb1) | (with_reducible exact bb0) | ((with_reducible refine Below.setCell ?_ ?_ _); rotate_left; (focus first | omega | (simp; done) | (simp; omega) | (unfold World.setCell; simp; omega))) | ((with_reducible refine Below.alloc ?_ ?_ _); rotate_left; (focus first | omega | (simp; done) | (simp; omega) | (unfold World.setCell; simp; omega))) | (with_reducible refine Below.drew ?_))))
    (first
      | (go_at_call 101; (with_reducible refine (C1.out _ ?_).mono ?_); (focus repeat' (first | (with_reducible exact bb0) | ((with_reducible refine Below.setCell ?_ ?_ _); rotate_left; (focus first | omega | (simp; done) | (simp; omega) | (unfold World.setCell; simp; omega))) | ((with_reducible refine Below.alloc ?_ ?_ _); rotate_left; (focus first | omega | (simp; done) | (simp; omega) | (unfold World.setCell; simp; omega))) | (with_reducible refine Below.drew ?_))); rintro e w1 ⟨hb1, v1, rfl, y1⟩; have bb1 : Below W7.heap.size W7 w1 := below_step (by repeat' (first | (with_reducible exact bb0) | ((with_reducible refine Below.setCell ?_ ?_ _); rotate_left; (focus first | omega | (simp; done) | (simp; omega) | (unfold World.setCell; simp; omega))) | ((with_reducible refine Below.alloc ?_ ?_ _); rotate_left; (focus first | omega | (simp; done) | (simp; omega) | (unfold World.setCell; simp; omega))) | (with_reducible refine Below.drew ?_))) hb1; have hbs1 := bb1.size; have rw1 := Below.refl w1.heap.size w1; obtain ⟨t1, A1, l1, e1, A1', l1', e1', rfl⟩ := y1.form; have pa1 := (q7.next bb1).p1; have C2 := Lib.hid (fun X (h : Below w1.heap.size w1 X) => qplus_any a.1 ((alongQ a c d / detQ a b c d) * (b.1 - a.1)) _ _ X (pa1.x.next h) (y1.next h) (by omega) (by omega)))
      | (go_at_call 68; (with_reducible refine (C2.out _ ?_).mono ?_); (focus repeat' (first | (with_reducible exact rw1) | ((with_reducible refine Below.setCell ?_ ?_ _); rotate_left; (focus first | omega | (simp; done) | (simp; omega) | (unfold World.setCell; simp; omega))) | ((with_reducible refine Below.alloc ?_ ?_ _); rotate_left; (focus first | omega | (simp; done) | (simp; omega) | (unfold World.setCell; simp; omega))) | (with_reducible refine Below.drew ?_))); rintro e w2 ⟨hb2, v2, rfl, y2⟩; have bb2 : Below W7.heap.size W7 w2 := below_step (by repeat' (first | (with_reducible exact bb1) | (with_reducible exact bb0) | ((with_reducible refine Below.setCell ?_ ?_ _); rotate_left; (focus first | omega | (simp; done) | (simp; omega) | (unfold World.setCell; simp; omega))) | ((with_reducible refine Below.alloc ?_ ?_ _); rotate_left; (focus first | omega | (simp; done) | (simp; omega) | (unfold World.setCell; simp; omega))) | (with_reducible refine Below.drew ?_))) hb2; have hbs2 := bb2.size; have rw2 := Below.refl w2.heap.size w2; obtain ⟨t2, A2, l2, e2, A2', l2', e2', rfl⟩ := y2.form; skip)
      | (go_at_call 101; (with_reducible refine (C3.out _ ?_).mono ?_); (focus repeat' (first | (with_reducible exact bb2) | (with_reducible exact bb1) | (with_reducible exact bb0) | ((with_reducible refine Below.setCell ?_ ?_ _); rotate_left; (focus first | omega | (simp; done) | (simp; omega) | (unfold World.setCell; simp; omega))) | ((with_reducible refine Below.alloc ?_ ?_ _); rotate_left; (focus first | omega | (simp; done) | (simp; omega) | (unfold World.setCell; simp; omega))) | (with_reducible refine Below.drew ?_))); rintro e w3 ⟨hb3, v3, rfl, y3⟩; have bb3 : Below W7.heap.size W7 w3 := below_step (by repeat' (first | (with_reducible exact bb2) | (with_reducible exact bb1) | (with_reducible exact bb0) | ((with_reducible refine Below.setCell ?_ ?_ _); rotate_left; (focus first | omega | (simp; done) | (simp; omega) | (unfold World.setCell; simp; omega))) | ((with_reducible refine Below.alloc ?_ ?_ _); rotate_left; (focus first | omega | (simp; done) | (simp; omega) | (unfold World.setCell; simp; omega))) | (with_reducible refine Below.drew ?_))) hb3; have hbs3 := bb3.size; have rw3 := Below.refl w3.heap.size w3; obtain ⟨t3, A3, l3, e3, A3', l3', e3', rfl⟩ := y3.form; have y23 := y2.next hb3; have pa3 := (q7.next bb3).p1; have C4 := Lib.hid (fun X (h : Below w3.heap.size w3 X) => qplus_any a.2 ((alongQ a c d / detQ a b c d) * (b.2 - a.2)) _ _ X (pa3.y.next h) (y3.next h) (by omega) (by omega)))
      | (go_at_call 68; (with_reducible refine (C4.out _ ?_).mono ?_); (focus repeat' (first | (with_reducible exact rw3) | ((with_reducible refine Below.setCell ?_ ?_ _); rotate_left; (focus first | omega | (simp; done) | (simp; omega) | (unfold World.setCell; simp; omega))) | ((with_reducible refine Below.alloc ?_ ?_ _); rotate_left; (focus first | omega | (simp; done) | (simp; omega) | (unfold World.setCell; simp; omega))) | (with_reducible refine Below.drew ?_))); rintro e w4 ⟨hb4, v4, rfl, y4⟩; have bb4 : Below W7.heap.size W7 w4 := below_step (by repeat' (first | (with_reducible exact bb3) | (with_reducible exact bb2) | (with_reducible exact bb1) | (with_reducible exact bb0) | ((with_reducible refine Below.setCell ?_ ?_ _); rotate_left; (focus first | omega | (simp; done) | (simp; omega) | (unfold World.setCell; simp; omega))) | ((with_reducible refine Below.alloc ?_ ?_ _); rotate_left; (focus first | omega | (simp; done) | (simp; omega) | (unfold World.setCell; simp; omega))) | (with_reducible refine Below.drew ?_))) hb4; have hbs4 := bb4.size; have rw4 := Below.refl w4.heap.size w4; obtain ⟨t4, A4, l4, e4, A4', l4', e4', rfl⟩ := y4.form; have y24 := y23.next hb4; have q8 := q7.next bb4; obtain ⟨g0, g1, g2, g3, g4, g5⟩ := bk6c q8.kr; have f0 := q8.kr.frozen 0; have f1 := q8.kr.frozen 1; have f2 := q8.kr.frozen 2; have f3 := q8.kr.frozen 3; have f4 := q8.kr.frozen 4; have f5 := q8.kr.frozen 5; have r5 := (show ∀ X, X = ((((((w4.setCell ⟨w.heap.size + 1 + 1 + 1 + 1, 0, none⟩ (.bool t2)).setCell ⟨w.heap.size + 1 + 1 + 1 + 1, 1, none⟩ (.slice A2 l2 e2)).setCell ⟨w.heap.size + 1 + 1 + 1 + 1, 2, none⟩ (.slice A2' l2' e2')).setCell ⟨w.heap.size + 1 + 1 + 1 + 1, 3, none⟩ (.bool t4)).setCell ⟨w.heap.size + 1 + 1 + 1 + 1, 4, none⟩ (.slice A4 l4 e4)).setCell ⟨w.heap.size + 1 + 1 + 1 + 1, 5, none⟩ (.slice A4' l4' e4')) → ((X.cell? ⟨w.heap.size, 0, none⟩ = some (.bool sa.b1) ∧ X.cell? ⟨w.heap.size, 1, none⟩ = some sa.n1 ∧ X.cell? ⟨w.heap.size, 2, none⟩ = some sa.d1 ∧ X.cell? ⟨w.heap.size, 3, none⟩ = some (.bool sa.b2) ∧ X.cell? ⟨w.heap.size, 4, none⟩ = some sa.n2 ∧ X.cell? ⟨w.heap.size, 5, none⟩ = some sa.d2) ∧ (X.cell? ⟨b10, 0, none⟩ = some (.bool s10) ∧ X.cell? ⟨b10, 1, none⟩ = some (.slice A10 l10 c10) ∧ X.cell? ⟨b10, 2, none⟩ = some (.slice A10' l10' c10')) ∧ (X.cell? ⟨b11, 0, none⟩ = some (.bool s11) ∧ X.cell? ⟨b11, 1, none⟩ = some (.slice A11 l11 c11) ∧ X.cell? ⟨b11, 2, none⟩ = some (.slice A11' l11' c11')) ∧ (X.cell? ⟨b15, 0, none⟩ = some (.bool s15) ∧ X.cell? ⟨b15, 1, none⟩ = some (.slice A15 l15 c15) ∧ X.cell? ⟨b15, 2, none⟩ = some (.slice A15' l15' c15'))) from fun X e => by subst e; exact ⟨bk6c (set6_far (s := ⟨t2, .slice A2 l2 e2, .slice A2' l2' e2', t4, .slice A4 l4 e4, .slice A4' l4' e4'⟩) q8.k1 (show w.heap.size ≠ w.heap.size + 1 + 1 + 1 + 1 by omega)), bk3 (set6_far (s := ⟨t2, .slice A2 l2 e2, .slice A2' l2' e2', t4, .slice A4 l4 e4, .slice A4' l4' e4'⟩) (k10.next' bb4) (show b10 ≠ w.heap.size + 1 + 1 + 1 + 1 by omega)), bk3 (set6_far (s := ⟨t2, .slice A2 l2 e2, .slice A2' l2' e2', t4, .slice A4 l4 e4, .slice A4' l4' e4'⟩) (k11.next' bb4) (show b11 ≠ w.heap.size + 1 + 1 + 1 + 1 by omega)), bk3 (set6_far (s := ⟨t2, .slice A2 l2 e2, .slice A2' l2' e2', t4, .slice A4 l4 e4, .slice A4' l4' e4'⟩) (k15.next' bb4) (show b15 ≠ w.heap.size + 1 + 1 + 1 + 1 by omega))⟩) _ rfl))
  clear KK C1 C2 C3 C4 a0 a1 a2 a3 a4 a5 b0 b1 b2 c0 c1 c2 d0 d1 d2 r5 k10 k11 k15 f10 f11 f15
  go_wp2
  refine bodyPost_ret (v := .tuple #[Sx.val ⟨t2, .slice A2 l2 e2, .slice A2' l2' e2', t4, .slice A4 l4 e4, .slice A4' l4' e4'⟩, .bool true]) (by simp [results, Tryz.results128, go_sem, g0, g1, g2, g3, g4, g5, Sx.val]) rfl ?_
  refine ⟨set6_below (s := ⟨t2, .slice A2 l2 e2, .slice A2' l2' e2', t4, .slice A4 l4 e4, .slice A4' l4' e4'⟩) q8.below (by omega), ⟨t2, .slice A2 l2 e2, .slice A2' l2' e2', t4, .slice A4 l4 e4, .slice A4' l4' e4'⟩, by rw [HR.out] <;> rfl, ⟨_, _, _, _, _, _, _, _, _, _, _, _, _, _, rfl⟩, fun _ => ?_⟩
  have hI : Ints w4 (set6 w4 (w.heap.size + 1 + 1 + 1 + 1) ⟨t2, .slice A2 l2 e2, .slice A2' l2' e2', t4, .slice A4 l4 e4, .slice A4' l4' e4'⟩) := set6_ints q8.kr szero_plain
  rw [HM.out]
  exact IsRt.more ⟨y24.kept hI, y4.kept hI⟩ (by rw [show (World.setCell _ _ _) = set6 w4 (w.heap.size + 1 + 1 + 1 + 1) ⟨t2, .slice A2 l2 e2, .slice A2' l2' e2', t4, .slice A4 l4 e4, .slice A4' l4' e4'⟩ from rfl, set6_size]; exact Nat.le_refl _)
end Go.Proofs.YtaihplgfbepgpaaGreatDoor
