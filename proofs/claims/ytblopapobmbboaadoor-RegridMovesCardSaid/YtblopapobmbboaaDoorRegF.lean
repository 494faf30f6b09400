/-
  Walks: package regrid: the box around a cell.
-/
import Derived.Test.YtblopapobmbboaaDoorRegE
namespace Go.Proofs.YtblopapobmbboaaDoor
open Go.RowKit

/-- A box. -/
abbrev Bx := Int × Int × Int × Int
def bv (b : Bx) : Value := .agg #[.int .i64 b.1, .int .i64 b.2.1, .int .i64 b.2.2.1, .int .i64 b.2.2.2]
def bstep (b : Bx) (p : Pl) : Bx := (min b.1 p.1, max b.2.1 p.1, min b.2.2.1 p.2, max b.2.2.2 p.2)
def bbox (l : List Pl) : Bx := l.foldl bstep ((cn l 0).1, (cn l 0).1, (cn l 0).2, (cn l 0).2)
def set4 (w : World) (b : Nat) (x y z u : Value) : World := (((w.setCell ⟨b, 0, none⟩ x).setCell ⟨b, 1, none⟩ y).setCell ⟨b, 2, none⟩ z).setCell ⟨b, 3, none⟩ u
theorem set4_bk {w : World} {b : Nat} {T : TypeId} {x y z u x0 y0 z0 u0 : Value} (hb : Bk w b T #[x0, y0, z0, u0]) : Bk (set4 w b x y z u) b T #[x, y, z, u] := by
  have := (((hb.put 0 x).put 1 y).put 2 z).put 3 u
  simpa [set4] using this
theorem set4_below {w w0 : World} {B b : Nat} {x y z u : Value} (h : Below B w0 w) (hb : B ≤ b) : Below B w0 (set4 w b x y z u) := (((h.setCell (by exact hb) x).setCell (by exact hb) y).setCell (by exact hb) z).setCell (by exact hb) u
theorem bk4 {w : World} {b : Nat} {T : TypeId} {x y z u : Value} (h : Bk w b T #[x, y, z, u]) : w.cell? ⟨b, 0, none⟩ = some x ∧ w.cell? ⟨b, 1, none⟩ = some y ∧ w.cell? ⟨b, 2, none⟩ = some z ∧ w.cell? ⟨b, 3, none⟩ = some u := ⟨h.cell 0, h.cell 1, h.cell 2, h.cell 3⟩
theorem bk_far4 {w : World} {b b' : Nat} {T : TypeId} {cs : Array Value} {x y z u : Value} (h : Bk w b T cs) (hne : b ≠ b') : Bk (set4 w b' x y z u) b T cs := (((h.far (by exact hne) x).far (by exact hne) y).far (by exact hne) z).far (by exact hne) u

set_option maxRecDepth 100000 in
set_option maxHeartbeats 3200000 in
theorem around_any (l : List Pl) (m : Bool) (v : Value) (w : World) (h : IsC w w.heap.size v l m) (h0 : 0 < l.length) (hm : l.length ≤ 1000000000) :
    Calls Tryd.prog 44 #[v] w fun e w' => Below w.heap.size w w' ∧ e = .returned (bv (bbox l)) := by
  obtain ⟨A, c, rfl, hc, hcm, hin, hr⟩ := h
  obtain ⟨p0, hp0⟩ : ∃ p, cn l 0 = p := ⟨_, rfl⟩
  obtain ⟨ad, rfl, hab, d1, d2⟩ := hr.place (cn_at (l := l) (i := 0) h0)
  rw [hp0] at d1 d2
  have ea : ad.add (0 * 2) = ad := rfl
  rw [ea] at d1 d2
  have h0' : (0 : Int) < l.length := by omega
  go_enter Tryd.func44, Tryd.ntmps44
  go_wp2_with fail
  refine wp_name (fun W => Below w.heap.size w W ∧ Bk W (w.heap.size + 1) 79 #[.int .i64 0, .int .i64 0, .int .i64 0, .int .i64 0] ∧ Bk W (w.heap.size + 1 + 1 + 1) 79 #[.int .i64 p0.1, .int .i64 p0.1, .int .i64 p0.2, .int .i64 p0.2])
    ⟨(((below_alloc w _).alloc (by simp) _).alloc (by simp; omega) _).alloc (by simp; omega) _, (by simpa using (((Bk.new (w.alloc _) _ _).alloc _).alloc _)), (by simpa using (Bk.new (((w.alloc _).alloc _).alloc _) _ _))⟩ ?_
  rintro W ⟨hB0, k1, k2⟩
  have HP0 : Hid (bbox l = l.foldl bstep (p0.1, p0.1, p0.2, p0.2)) := by show _ = _; unfold bbox; rw [hp0]
  clear d1 d2 ea hp0
  go_loopw [23] (fun x wr => ∃ (k : Nat) (b : Bx), k ≤ l.length ∧ x = .int .i64 k ∧ Hid (b = (l.take k).foldl bstep (p0.1, p0.1, p0.2, p0.2)) ∧ Below w.heap.size w wr ∧ Bk wr (w.heap.size + 1) 79 #[.int .i64 0, .int .i64 0, .int .i64 0, .int .i64 0] ∧ Bk wr (w.heap.size + 1 + 1 + 1) 79 #[.int .i64 b.1, .int .i64 b.2.1, .int .i64 b.2.2.1, .int .i64 b.2.2.2]) (fun x _ => l.length - (intOf x).toNat)
  case atStart => exact ⟨0, (p0.1, p0.1, p0.2, p0.2), Nat.zero_le _, rfl, rfl, hB0, k1, k2⟩
  case round =>
    obtain ⟨k, b, hk, rfl, HB, hB, k1, k2⟩ := hrel
    obtain ⟨b1, b2, b3, b4⟩ := b
    simp only at k2
    rcases Nat.lt_or_ge k l.length with hlt | hge
    · obtain ⟨d1, d2⟩ := (hr.below hB).place' (cn_at (l := l) (i := k) hlt)
      have HB2 : Hid (bstep (b1, b2, b3, b4) (cn l k) = (l.take (k + 1)).foldl bstep (p0.1, p0.1, p0.2, p0.2)) := by
        show _ = _
        rw [List.take_add_one, cn_at hlt, List.foldl_append, ← HB.out]
        rfl
      obtain ⟨g0, g1, g2, g3⟩ := bk4 k2
      have f0 := k2.frozen 0
      have f1 := k2.frozen 1
      have f2 := k2.frozen 2
      have f3 := k2.frozen 3
      have hlt2 := k2.lt
      generalize cn l k = p at *
      obtain ⟨x, y⟩ := p
      simp only at d1 d2
      go_wp2_with fail
      go_roundw
      case rel =>
        have hS : Below w.heap.size w (set4 wr (w.heap.size + 1 + 1 + 1) (.int .i64 (min b1 x)) (.int .i64 (max b2 x)) (.int .i64 (min b3 y)) (.int .i64 (max b4 y))) := set4_below hB (by omega)
        refine ⟨k + 1, (min b1 x, max b2 x, min b3 y, max b4 y), by omega, by go_num, HB2.out, hS.alloc hS.size _, (bk_far4 k1 (by omega)).alloc _, (set4_bk k2).alloc _⟩
      case measure => simp [intOf]; omega
    · have hkl : k = l.length := by omega
      subst hkl
      have HB2 : Hid (bbox l = (b1, b2, b3, b4)) := by show _ = _; rw [HP0.out, HB.out, List.take_length]
      obtain ⟨g0, g1, g2, g3⟩ := bk4 k2
      obtain ⟨i0, i1, i2, i3⟩ := bk4 k1
      have f0 := k1.frozen 0
      have f1 := k1.frozen 1
      have f2 := k1.frozen 2
      have f3 := k1.frozen 3
      have hlt2 := k2.lt
      go_wp2_with fail
      refine bodyPost_ret (v := .agg #[.int .i64 b1, .int .i64 b2, .int .i64 b3, .int .i64 b4]) (by simp [results, Tryd.results44, go_sem, i0, i1, i2, i3]) rfl ?_
      refine ⟨set4_below hB (by omega), ?_⟩
      rw [HB2.out]; rfl

/-- No area in common. -/
def apartB (a b : Bx) : Prop := a.2.1 ≤ b.1 ∨ b.2.1 ≤ a.1 ∨ a.2.2.2 ≤ b.2.2.1 ∨ b.2.2.2 ≤ a.2.2.1
instance (a b : Bx) : Decidable (apartB a b) := by unfold apartB; infer_instance
set_option maxRecDepth 100000 in
set_option maxHeartbeats 1600000 in
theorem apart_any (a b : Bx) (w : World) (q : Bool) (hq : decide (apartB a b) = q) :
    Calls Tryd.prog 45 #[bv a, bv b] w fun e w' => Below w.heap.size w w' ∧ e = .returned (.bool q) := by
  have HQ : Hid (q = true ↔ apartB a b) := by rw [← hq]; exact decide_eq_true_iff
  clear hq
  obtain ⟨a1, a2, a3, a4⟩ := a
  obtain ⟨b1, b2, b3, b4⟩ := b
  unfold bv
  simp only
  go_enter Tryd.func45, Tryd.ntmps45
  go_wp2
  all_goals
    go_ret
    refine ⟨(below_alloc w _).alloc (by simp) _, ?_⟩
    refine ret_boolR ?_
    rw [HQ.out]
    unfold apartB
    grind
end Go.Proofs.YtblopapobmbboaaDoor
