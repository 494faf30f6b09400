/-
  Walks: the reference's at, corners.
-/
import Derived.Test.YtblopapobmbboaaGreatDoorRpA
import Derived.Test.YtblopapobmbboaaGreatDoorRegL
namespace Go.Proofs.YtblopapobmbboaaGreatDoor
open Go.RowKit Ar

theorem Tryz.rpoint_info : (Tryz.prog.info? 119).map (fun i => (i.zero, i.size, i.bytes)) = some (some (.agg #[.bool false, .slice none 0 0, .slice none 0 0, .bool false, .slice none 0 0, .slice none 0 0]), 6, 112) := by kernel_rfl

set_option maxRecDepth 100000 in
set_option maxHeartbeats 3200000 in
theorem at_any (x y : Int) (w : World) (hx : -1000000000000000 ≤ x ∧ x ≤ 1000000000000000) (hy : -1000000000000000 ≤ y ∧ y ≤ 1000000000000000) :
    Calls Tryz.prog 96 #[.agg #[.int .i64 x, .int .i64 y]] w fun e w' => Below w.heap.size w w' ∧ ∃ s : Sx, e = .returned s.val ∧ IsRt w' w'.heap.size s ((x : Rat), (y : Rat)) := by
  go_enter Tryz.func96, Tryz.ntmps96
  go_wp2_with fail
  refine wp_name (fun W => Below w.heap.size w W ∧ Bk W w.heap.size 33 #[.int .i64 x, .int .i64 y] ∧ Bk W (w.heap.size + 1) 119 szero.cells.toArray) ⟨(below_alloc w _).alloc (by simp) _, (Bk.new _ _ _).alloc _, by simpa [Sx.cells, szero] using (Bk.new (w.alloc _) _ _)⟩ ?_
  rintro W ⟨hB, kp, kr⟩
  obtain ⟨g0, g1⟩ := bk2 kp
  have hlt := kr.lt
  go_region_held3 (fun W => W.cell? ⟨w.heap.size, 0, none⟩ = some (.int .i64 x) ∧ W.cell? ⟨w.heap.size, 1, none⟩ = some (.int .i64 y))
    (first | with_reducible exact bk2 kp.drew | with_reducible exact bk2 p1 | with_reducible exact bk2 p2 | exact bk2 r5 | go_keep)
    (first
      | (go_at_call 61; (with_reducible refine (intQ_any x _ hx).mono ?_); rintro e w1 ⟨hb1, v1, rfl, y1⟩; have p1 := kp.drew.next' hb1; have k1 := kr.drew.next' hb1; have hB1 := below_step hB.drew hb1; obtain ⟨t1, A1, l1, c1, A1', l1', c1', rfl⟩ := y1.form)
      | (go_at_call 61; (with_reducible refine (intQ_any y _ hy).mono ?_); rintro e w2 ⟨hb2, v2, rfl, y2⟩; have p2 := p1.next' hb2; have k2 := k1.next' hb2; have hB2 := below_step hB1 hb2; have y12 := y1.next hb2; obtain ⟨t2, A2, l2, c2, A2', l2', c2', rfl⟩ := y2.form; obtain ⟨e0, e1, e2, e3, e4, e5⟩ := bk6c k2; have f0 := k2.frozen 0; have f1 := k2.frozen 1; have f2 := k2.frozen 2; have f3 := k2.frozen 3; have f4 := k2.frozen 4; have f5 := k2.frozen 5; have r5 := set6_far (s := ⟨t1, .slice A1 l1 c1, .slice A1' l1' c1', t2, .slice A2 l2 c2, .slice A2' l2' c2'⟩) p2 (show w.heap.size ≠ w.heap.size + 1 by omega)))
  go_wp2
  refine bodyPost_ret (v := .agg #[.bool t1, .slice A1 l1 c1, .slice A1' l1' c1', .bool t2, .slice A2 l2 c2, .slice A2' l2' c2']) (by simp [results, Tryz.results96, go_sem, e0, e1, e2, e3, e4, e5]) rfl ?_
  refine ⟨set6_below (s := ⟨t1, .slice A1 l1 c1, .slice A1' l1' c1', t2, .slice A2 l2 c2, .slice A2' l2' c2'⟩) hB2 (by omega), ⟨t1, .slice A1 l1 c1, .slice A1' l1' c1', t2, .slice A2 l2 c2, .slice A2' l2' c2'⟩, rfl, ?_⟩
  have hI : Ints w2 (set6 w2 (w.heap.size + 1) ⟨t1, .slice A1 l1 c1, .slice A1' l1' c1', t2, .slice A2 l2 c2, .slice A2' l2' c2'⟩) := set6_ints k2 szero_plain
  exact IsRt.more ⟨y12.kept hI, y2.kept hI⟩ (by rw [show (World.setCell _ _ _) = set6 w2 (w.heap.size + 1) ⟨t1, .slice A1 l1 c1, .slice A1' l1' c1', t2, .slice A2 l2 c2, .slice A2' l2' c2'⟩ from rfl, set6_size]; exact Nat.le_refl _)

theorem OwnRoly.lt_own {w : World} {base : Nat} {v : Value} {l : List Qp} (h : OwnRoly w base v l) {g : Nat} (hg : v.ownBlock = some g) : base ≤ g ∧ g < w.heap.size := by
  obtain ⟨S, _, hown, _⟩ := h
  rcases hown.2 with ⟨rfl, _⟩ | ⟨g', cap, cur, rfl, hb, hg', _⟩
  · simp [Value.ownBlock] at hg
  · have : g' = g := by simpa [Value.ownBlock] using hg
    subst this
    exact ⟨hb, (Array.getElem?_eq_some_iff.1 hg').1⟩

set_option maxRecDepth 100000 in
set_option maxHeartbeats 3200000 in
theorem corners_any (l : List Pl) (m : Bool) (v : Value) (dx : Int) (w : World) (h : IsC w w.heap.size v l m) (hm : l.length ≤ 1000000) (hdx : -100000000 ≤ dx ∧ dx ≤ 100000000) (hok : ∀ p ∈ l, okP p) :
    Calls Tryz.prog 65 #[v, .int .i64 dx] w fun e w' => Below w.heap.size w w' ∧ ∃ v, e = .returned v ∧ IsRoly w' w'.heap.size v (l.map fun p => qp p dx) := by
  obtain ⟨A, c, rfl, hc, hcm, hin, hr⟩ := h
  obtain ⟨i0, hi0, hz0, hz1, hz2⟩ := info_parts Tryz.rpoint_info
  go_enter Tryz.func65, Tryz.ntmps65
  go_wp2_with fail
  have hB0 := below_alloc w (.cells #[.slice A l.length c, .bool m] 24)
  go_loopw [5, 6] (fun u i wr => ∃ k : Nat, k ≤ l.length ∧ i = .int .i64 k ∧ OwnRoly wr (w.heap.size + 1) u ((l.take k).map fun p => qp p dx) ∧ Below w.heap.size w wr ∧ Bk wr w.heap.size 24 #[.slice A l.length c, .bool m]) (fun _ i _ => l.length - (intOf i).toNat)
  case atStart => exact ⟨0, Nat.zero_le _, rfl, OwnRoly.nil _ _, hB0, Bk.new _ _ _⟩
  case round =>
    obtain ⟨k, hk, rfl, hO, hB, kc⟩ := hrel
    obtain ⟨cc0, cc1⟩ := bk2 kc
    rcases Nat.lt_or_ge k l.length with hlt | hge
    · obtain ⟨ad, rfl, hab, d1, d2⟩ := (hr.below hB).place (cn_at (l := l) (i := k) hlt)
      have hokk := cn_ok hok hlt
      unfold okP at hokk
      have HL : Hid ((l.take (k + 1)).map (fun p => qp p dx) = (l.take k).map (fun p => qp p dx) ++ [qp (cn l k) dx]) := by
        show _ = _
        rw [List.take_add_one, cn_at hlt, List.map_append]
        rfl
      generalize cn l k = p at *
      obtain ⟨x, y⟩ := p
      simp only at d1 d2 hokk
      have hlen : ((l.take k).map (fun p => qp p dx)).length = k := by rw [List.length_map, List.length_take]; omega
      generalize (l.take k).map (fun p => qp p dx) = pts at *
      have ww : IntKind.i64.wrap (x + dx) = x + dx := IntWalk.i64_in _ (by omega)
      have hsz := kc.lt
      have hab0 : (ad.add (k * 2)).block = ad.block := by unfold Addr.add; split <;> rfl
      have hab' : (ad.add (k * 2)).block < wr.heap.size := by have := hB.size; omega
      clear hab0
      have hRT : Hid (qp (x, y) dx = (((x + dx : Int) : Rat), ((y : Int) : Rat))) := rfl
      have HOW : Hid (∀ g, u5.ownBlock = some g → w.heap.size + 1 ≤ g) := fun g hg => (hO.lt_own hg).1
      have CA := Lib.hid (fun X => at_any (x + dx) y X (by omega) (by omega))
      unfold Sx.val at CA
      go_wp2_with fail
      have r0 := And.intro (bk2 kc.drew) (And.intro (show wr.drew.cell? (ad.add (k * 2)) = some (.int .i64 x) from d1) (show wr.drew.cell? ⟨(ad.add (k * 2)).block, (ad.add (k * 2)).off + 1, none⟩ = some (.int .i64 y) from d2))
      go_region_held3 (fun W => (W.cell? ⟨w.heap.size, 0, none⟩ = some (.slice (some ad) l.length c) ∧ W.cell? ⟨w.heap.size, 1, none⟩ = some (.bool m)) ∧ W.cell? (ad.add (k * 2)) = some (.int .i64 x) ∧ W.cell? ⟨(ad.add (k * 2)).block, (ad.add (k * 2)).off + 1, none⟩ = some (.int .i64 y))
        (first | with_reducible exact r0 | with_reducible exact r1 | with_reducible exact r3 | exact r4 | go_keep)
        (first
          | (go_at_call 96; (with_reducible refine (CA.out _).mono ?_); rintro e w1 ⟨hb1, s1, rfl, hs1⟩; obtain ⟨t, A1, l1, c1, A1', l1', c1', t', A2, l2, c2, A3, l3, c3, rfl⟩ := hs1.form; have kc1 := kc.drew.next' hb1; have d11 := (hb1.cell (w := wr.drew) (p := ad.add (k * 2)) hab').trans d1; have d21 := (hb1.cell (w := wr.drew) (p := ⟨(ad.add (k * 2)).block, (ad.add (k * 2)).off + 1, none⟩) hab').trans d2; have r1 := And.intro (bk2 kc1) (And.intro d11 d21); have hO1 := hO.keep (Below.drew (Below.refl _ _) |>.trans hb1); have hB1 := below_step hB.drew hb1;
              have hba := below_alloc w1 (.cells #[.bool t, .slice A1 l1 c1, .slice A1' l1' c1', .bool t', .slice A2 l2 c2, .slice A3 l3 c3] 119); have hsz1 := hb1.size; have kc3 := kc1.next' hba; have d13 := (hba.cell (p := ad.add (k * 2)) (Nat.lt_of_lt_of_le hab' hsz1)).trans d11; have d23 := (hba.cell (p := ⟨(ad.add (k * 2)).block, (ad.add (k * 2)).off + 1, none⟩) (Nat.lt_of_lt_of_le hab' hsz1)).trans d21; have r3 := And.intro (bk2 kc3) (And.intro d13 d23); have hO3 := hO1.keep hba; have hB3 := below_step hB1 hba; obtain ⟨S, hS1, hS2, hS3, hS4⟩ := hO3)
          | (refine step_append (.tmp 14) (.tmp 31) 87 rfl (w.heap.size + 1) 119 i0 zpt 6 112 Tryz.underlying87 hi0 hz0 hz1 hz2 rfl (by omega) _ pts.length (srow S) rfl hS2 hS3 zpt_no ⟨w1.heap.size, 0, none⟩ 1 1 [.bool t, .slice A1 l1 c1, .slice A1' l1' c1', .bool t', .slice A2 l2 c2, .slice A3 l3 c3] rfl rfl (new_cells w1 _ _) (by intro u hu; simp at hu; rcases hu with rfl | rfl | rfl | rfl | rfl | rfl <;> rfl) (by intro u hu k0 i1; simp at hu; rcases hu with rfl | rfl | rfl | rfl | rfl | rfl <;> simp) (by omega) (by unfold maxLen; omega) (by omega) (by have := hB1.size; have := kc1.lt; simp; omega) ?_; intro v5 w5 hw1 hw2 hw3; have kc5 := kc3.grown hw2 (fun e => by have := HOW.out _ e.symm; omega); have r4 := And.intro (bk2 kc5) (And.intro (ints_grown hw2 hS3 _ _ _ d13) (ints_grown hw2 hS3 _ _ _ d23))))
      have hPt : IsRt _ _ _ (qp (x, y) dx) := hRT.out ▸ hs1.next hba
      have HO : Hid (OwnRoly w5 (w.heap.size + 1) v5 (pts ++ [qp (x, y) dx])) := OwnRoly.add hS1 hS3 hS4 hPt hw1 hw2 hw3
      have hB5 : Below w.heap.size w w5 := below_app hB3 hw2 (by have := hB1.size; have := kc1.lt; simp; omega) hS2 (by omega)
      clear hw1 hw2 hw3 hPt hba hS1 hS2 hS3 hS4 r0 r1 r3 r4 kc1 kc3 kc hO hO1 hB1 hB3 hs1 hb1 hB d1 d2 d11 d21 d13 d23 cc0 cc1
      go_wp2
      go_roundw
      case rel => exact ⟨k + 1, by omega, by go_num, by rw [HL.out]; exact HO.out, hB5, kc5⟩
      case measure => simp [intOf]; omega
    · have hkl : k = l.length := by omega
      subst hkl
      rw [List.take_length] at hO
      have hP := hO.is
      have hP := Lib.hid hP
      clear hO
      go_wp2
      go_ret
      exact ⟨hB, _, rfl, hP.out⟩
end Go.Proofs.YtblopapobmbboaaGreatDoor
