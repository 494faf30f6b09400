/-
  Walk: package regrid's polygon.
-/
import Derived.Test.YtblopapobmbboaaDoorRegG
namespace Go.Proofs.YtblopapobmbboaaDoor
open Go.RowKit Ar

theorem Tryd.point_info : (Tryd.prog.info? 84).map (fun i => (i.zero, i.size, i.bytes)) = some (some (.agg #[.bool false, .slice none 0 0, .slice none 0 0, .bool false, .slice none 0 0, .slice none 0 0]), 6, 112) := by kernel_rfl
def zpt : Value := .agg #[.bool false, .slice none 0 0, .slice none 0 0, .bool false, .slice none 0 0, .slice none 0 0]
theorem zpt_no : ∀ u ∈ zpt.cells.toList, noInt u := by
  intro u hu k i
  simp [zpt, Value.cells] at hu
  rcases hu with rfl | rfl | rfl | rfl <;> simp
theorem new_cells (w : World) (cs : List Value) (t : TypeId) : ∀ j u, cs[j]? = some u → (w.alloc (.cells cs.toArray t)).cell? ((⟨w.heap.size, 0, none⟩ : Addr).add j) = some u := fun j u hu => by
  obtain ⟨ad, e, _, hc⟩ := Rd.of_new w cs t (by rintro rfl; simp at hu)
  injection e with e
  subst e
  exact hc j u hu
/-- A point from its coordinates. -/
def qp (p : Pl) (dx : Int) : Qp := (((p.1 + dx : Int) : Rat), ((p.2 : Int) : Rat))

set_option maxRecDepth 100000 in
set_option maxHeartbeats 3200000 in
theorem polygon_any (l : List Pl) (m : Bool) (v : Value) (dx : Int) (w : World) (h : IsC w w.heap.size v l m) (hm : l.length ≤ 1000000) (hdx : -100000000 ≤ dx ∧ dx ≤ 100000000) (hok : ∀ p ∈ l, okP p) :
    Calls Tryd.prog 27 #[v, .int .i64 dx] w fun e w' => Below w.heap.size w w' ∧ ∃ v, e = .returned v ∧ IsPoly w' w'.heap.size v (l.map fun p => qp p dx) := by
  obtain ⟨A, c, rfl, hc, hcm, hin, hr⟩ := h
  obtain ⟨i0, hi0, hz0, hz1, hz2⟩ := info_parts Tryd.point_info
  go_enter Tryd.func27, Tryd.ntmps27
  go_wp2_with fail
  have hB0 := below_alloc w (.cells #[.slice A l.length c, .bool m] 24)
  go_loopw [5, 11] (fun u i wr => ∃ k : Nat, k ≤ l.length ∧ i = .int .i64 k ∧ OwnPoly wr w.heap.size u ((l.take k).map fun p => qp p dx) ∧ Below w.heap.size w wr) (fun _ i _ => l.length - (intOf i).toNat)
  case atStart => exact ⟨0, Nat.zero_le _, rfl, OwnPoly.nil _ _, hB0⟩
  case round =>
    obtain ⟨k, hk, rfl, hO, hB⟩ := hrel
    rcases Nat.lt_or_ge k l.length with hlt | hge
    · obtain ⟨ad, rfl, hab, d1, d2⟩ := (hr.below hB).place (cn_at (l := l) (i := k) hlt)
      have hokk := cn_ok hok hlt
      unfold okP at hokk
      have HL : Hid ((l.take (k + 1)).map (fun p => qp p dx) = (l.take k).map (fun p => qp p dx) ++ [qp (cn l k) dx]) := by
        show _ = _
        rw [List.take_add_one, cn_at hlt, List.map_append]
        rfl
      generalize cn l k = p at *
      obtain ⟨x, y⟩ := p
      simp only at d1 d2 hokk
      have hlen : ((l.take k).map (fun p => qp p dx)).length = k := by rw [List.length_map, List.length_take]; omega
      generalize (l.take k).map (fun p => qp p dx) = pts at *
      have ww : IntKind.i64.wrap (x + dx) = x + dx := IntWalk.i64_in _ (by omega)
      go_wp2_with fail
      refine wp_name (fun W => Below wr.heap.size wr W ∧ Bk W wr.heap.size 42 #[.int .i64 x, .int .i64 y]) ⟨below_alloc _ _, Bk.new _ _ _⟩ ?_
      rintro W ⟨hbW, kp⟩
      have hO0 := (hO.keep hbW)
      have hBW := hB.trans (hbW.mono hB.size)
      obtain ⟨g0, g1⟩ := bk2 kp
      clear d1 d2 hO hbW
      go_region_held3 (fun W => W.cell? ⟨wr.heap.size, 0, none⟩ = some (.int .i64 x) ∧ W.cell? ⟨wr.heap.size, 1, none⟩ = some (.int .i64 y))
        (first | with_reducible exact bk2 kp.drew | with_reducible exact bk2 q1 | with_reducible exact bk2 q2 | with_reducible exact bk2 q3 | exact q4 | go_keep)
        (first
          | (go_at_call 46; (with_reducible refine (fint_any (x + dx) _ (by omega)).mono ?_); rintro e w1 ⟨hb1, f1, rfl, hf1⟩; have q1 := kp.drew.below hb1 kp.drew.lt; have hO1 := hO0.keep (Below.drew (Below.refl _ _) |>.trans hb1); have hB1 := hBW.drew.trans (hb1.mono hBW.size); obtain ⟨s1, A1, l1, c1, A2, l2, c2, rfl⟩ := hf1.form)
          | (go_at_call 46; (with_reducible refine (fint_any y _ (by omega)).mono ?_); rintro e w2 ⟨hb2, f2, rfl, hf2⟩; have q2 := q1.below hb2 q1.lt; have hO2 := hO1.keep hb2; have hB2 := hB1.trans (hb2.mono hB1.size); have hf12 := hf1.next hb2; obtain ⟨s2, A3, l3, c3, A4, l4, c4, rfl⟩ := hf2.form; have q3 := q2.alloc (.cells #[.bool s1, .slice A1 l1 c1, .slice A2 l2 c2, .bool s2, .slice A3 l3 c3, .slice A4 l4 c4] 84); have hO3 := hO2.keep (below_alloc w2 (.cells #[.bool s1, .slice A1 l1 c1, .slice A2 l2 c2, .bool s2, .slice A3 l3 c3, .slice A4 l4 c4] 84)); obtain ⟨S, hS1, hS2, hS3, hS4⟩ := hO3)
          | (refine step_append (.tmp 15) (.tmp 25) 66 rfl w.heap.size 84 i0 zpt 6 112 Tryd.underlying66 hi0 hz0 hz1 hz2 rfl (by omega) _ pts.length (srow S) rfl hS2 hS3 zpt_no ⟨w2.heap.size, 0, none⟩ 1 1 [.bool s1, .slice A1 l1 c1, .slice A2 l2 c2, .bool s2, .slice A3 l3 c3, .slice A4 l4 c4] rfl rfl (new_cells w2 _ _) (by intro u hu; simp at hu; rcases hu with rfl | rfl | rfl | rfl | rfl | rfl <;> rfl) (by intro u hu k0 i1; simp at hu; rcases hu with rfl | rfl | rfl | rfl | rfl | rfl <;> simp) (by omega) (by unfold maxLen; omega) (by omega) (by have := hB2.size; simp; omega) ?_; intro v5 w5 hw1 hw2 hw3; have q4 := And.intro (ints_grown hw2 hS3 _ _ _ (q3.cell 0)) (ints_grown hw2 hS3 _ _ _ (q3.cell 1))))
      have hbA := below_alloc w2 (.cells #[.bool s1, .slice A1 l1 c1, .slice A2 l2 c2, .bool s2, .slice A3 l3 c3, .slice A4 l4 c4] 84)
      have hPt : IsPt (w2.alloc (.cells #[.bool s1, .slice A1 l1 c1, .slice A2 l2 c2, .bool s2, .slice A3 l3 c3, .slice A4 l4 c4] 84)) (w2.alloc (.cells #[.bool s1, .slice A1 l1 c1, .slice A2 l2 c2, .bool s2, .slice A3 l3 c3, .slice A4 l4 c4] 84)).heap.size ⟨s1, .slice A1 l1 c1, .slice A2 l2 c2, s2, .slice A3 l3 c3, .slice A4 l4 c4⟩ (qp (x, y) dx) := ⟨hf12.next hbA, hf2.next hbA⟩
      have HO : Hid (OwnPoly w5 w.heap.size v5 (pts ++ [qp (x, y) dx])) := OwnPoly.add hS1 hS3 hS4 hPt hw1 hw2 hw3
      have hB5 : Below w.heap.size w w5 := below_app (hB2.trans (hbA.mono hB2.size)) hw2 (by have := hB2.size; simp; omega) hS2 (Nat.le_refl _)
      clear hw1 hw2 hw3 hPt hbA hS1 hS2 hS3 hS4 q1 q2 q3 q4 kp g0 g1 hO0 hO1 hO2 hf1 hf2 hf12 hb1 hb2 hB1 hB2 hBW
      go_wp2
      go_roundw
      case rel => exact ⟨k + 1, by omega, by go_num, by rw [HL.out]; exact HO.out, hB5⟩
      case measure => simp [intOf]; omega
    · have hkl : k = l.length := by omega
      subst hkl
      rw [List.take_length] at hO
      have hP := hO.is
      have hP := Lib.hid hP
      clear hO
      go_wp2
      go_ret
      exact ⟨hB, _, rfl, hP.out⟩
end Go.Proofs.YtblopapobmbboaaDoor
