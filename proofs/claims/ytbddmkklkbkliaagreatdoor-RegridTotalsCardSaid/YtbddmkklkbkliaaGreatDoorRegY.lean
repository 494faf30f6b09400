/-
  Walk: package regrid's common.
  Walk: package regrid's Common.
-/
import Derived.Test.YtbddmkklkbkliaaGreatDoorRegX
namespace Go.Proofs.YtbddmkklkbkliaaGreatDoor
open Go.RowKit Ar

/-- Two cells and a result in blocks of the call's own. -/
structure Cm (w : World) (ua ub : Value) (ma mb : Bool) (W : World) : Prop where
  below : Below w.heap.size w W
  ka : Bk W w.heap.size 60 #[ua, .bool ma]
  kb : Bk W (w.heap.size + 1) 60 #[ub, .bool mb]
  kr : Bk W (w.heap.size + 1 + 1) 66 #[.bool false, .slice none 0 0, .slice none 0 0]
theorem Cm.next {w W W' : World} {ua ub : Value} {ma mb : Bool} (h : Cm w ua ub ma mb W) (hb : Below W.heap.size W W') : Cm w ua ub ma mb W' :=
  ⟨h.below.trans (hb.mono h.below.size), h.ka.next' hb, h.kb.next' hb, h.kr.next' hb⟩
theorem Cm.drew {w W : World} {ua ub : Value} {ma mb : Bool} (h : Cm w ua ub ma mb W) : Cm w ua ub ma mb W.drew := ⟨h.below.drew, h.ka, h.kb, h.kr⟩
theorem Cm.start (w : World) (ua ub : Value) (ma mb : Bool) : Cm w ua ub ma mb (((w.alloc (.cells #[ua, .bool ma] 60)).alloc (.cells #[ub, .bool mb] 60)).alloc (.cells #[.bool false, .slice none 0 0, .slice none 0 0] 66)) :=
  ⟨((below_alloc w _).alloc (by simp) _).alloc (by simp; omega) _, ((Bk.new _ _ _).alloc _).alloc _, (by simpa using ((Bk.new (w.alloc _) _ _).alloc _)), (by simpa using (Bk.new ((w.alloc _).alloc _) _ _))⟩

set_option maxRecDepth 100000 in
set_option maxHeartbeats 6400000 in
theorem common_any (la lb : List Pl) (ma mb : Bool) (va vb : Value) (dx : Int) (w : World) (ha : IsC w w.heap.size va la ma) (hb : IsC w w.heap.size vb lb mb) (ka : validC la) (kb : validC lb) (hdx : -100000000 ≤ dx ∧ dx ≤ 100000000) :
    Calls Tryz.prog 61 #[va, vb, .int .i64 dx] w fun e w' => Below w.heap.size w w' ∧ ∃ v, e = .returned v ∧ IsF w' w'.heap.size v (commonQ la lb dx) := by
  obtain ⟨A, ca, rfl⟩ := ha.form
  obtain ⟨A', cb, rfl⟩ := hb.form
  have a3 := ka.1
  have a8 := ka.2.1
  have b3 := kb.1
  have b8 := kb.2.1
  obtain ⟨xa, hxa⟩ : ∃ b, b = bbox la := ⟨_, rfl⟩
  obtain ⟨xb, hxb⟩ : ∃ b, b = bbox lb := ⟨_, rfl⟩
  have ia := bbox_in (by omega) ka.2.2.1
  have ib := bbox_in (by omega) kb.2.2.1
  rw [← hxa] at ia
  rw [← hxb] at ib
  obtain ⟨ia1, ia2, ia3, ia4⟩ := ia
  obtain ⟨ib1, ib2, ib3, ib4⟩ := ib
  have ww1 : IntKind.i64.wrap (xb.1 + dx) = xb.1 + dx := IntWalk.i64_in _ (by omega)
  have ww2 : IntKind.i64.wrap (xb.2.1 + dx) = xb.2.1 + dx := IntWalk.i64_in _ (by omega)
  have HXA := Lib.hid hxa
  have HXB := Lib.hid hxb
  clear hxa hxb
  go_enter Tryz.func61, Tryz.ntmps61
  go_wp2_with fail
  have c0 := Cm.start w (.slice A la.length ca) (.slice A' lb.length cb) ma mb
  generalize (((w.alloc (.cells #[.slice A la.length ca, .bool ma] 60)).alloc (.cells #[.slice A' lb.length cb, .bool mb] 60)).alloc (.cells #[.bool false, .slice none 0 0, .slice none 0 0] 66)) = w0 at *
  have hb0 := (hb.below c0.below).more c0.below.size
  refine (around_any lb mb _ _ hb0 (by omega) (by omega)).mono ?_
  rintro e w1 ⟨hb1, rfl⟩
  rw [← HXB.out]
  have c1 := c0.next hb1
  clear hb0 c0 hb1
  unfold bv
  go_wp2_with fail
  obtain ⟨bx, hbx⟩ : ∃ b, b = w1.heap.size := ⟨_, rfl⟩
  have hbA := below_alloc w1 (.cells #[.int .i64 (xb.1 + dx), .int .i64 (xb.2.1 + dx), .int .i64 xb.2.2.1, .int .i64 xb.2.2.2] 140)
  have c2 := c1.next hbA
  have kx := Bk.new w1 140 #[.int .i64 (xb.1 + dx), .int .i64 (xb.2.1 + dx), .int .i64 xb.2.2.1, .int .i64 xb.2.2.2]
  rw [← hbx] at kx ⊢
  generalize (w1.alloc (.cells #[.int .i64 (xb.1 + dx), .int .i64 (xb.2.1 + dx), .int .i64 xb.2.2.1, .int .i64 xb.2.2.2] 140)) = w2 at *
  clear hbA c1 hbx
  have ha2 := ((ha.below c2.below).more c2.below.size).drew
  obtain ⟨q, hq⟩ : ∃ q, decide (apartB xa (shiftB xb dx)) = q := ⟨_, rfl⟩
  have HQ := Lib.hid hq
  have r0 := And.intro (bk2 c2.ka.drew) (bk4 kx.drew)
  go_region_held3 (fun X => (X.cell? ⟨w.heap.size, 0, none⟩ = some (.slice A la.length ca) ∧ X.cell? ⟨w.heap.size, 1, none⟩ = some (.bool ma)) ∧ X.cell? ⟨bx, 0, none⟩ = some (.int .i64 (xb.1 + dx)) ∧ X.cell? ⟨bx, 1, none⟩ = some (.int .i64 (xb.2.1 + dx)) ∧ X.cell? ⟨bx, 2, none⟩ = some (.int .i64 xb.2.2.1) ∧ X.cell? ⟨bx, 3, none⟩ = some (.int .i64 xb.2.2.2))
    (first | (with_reducible exact r0) | (with_reducible exact r1) | (with_reducible exact r2))
    (first
      | (go_at_call 106; (with_reducible refine (around_any la ma _ _ ha2 (by omega) (by omega)).mono ?_); rintro e w3 ⟨hb3, rfl⟩; rw [← HXA.out]; unfold bv; have c3 := c2.drew.next hb3; have kx3 := kx.drew.next' hb3; have AP := apart_any xa (shiftB xb dx) w3 q hq; unfold bv shiftB at AP; have r1 := And.intro (bk2 c3.ka) (bk4 kx3))
      | (go_at_call 107; (with_reducible refine AP.mono ?_); rintro e w4 ⟨hb4, rfl⟩; have c4 := c3.next hb4; have kx4 := kx3.next' hb4; have r2 := And.intro (bk2 c4.ka) (bk4 kx4)))
  clear r0 r1 r2 AP kx kx3 kx4 c2 c3 ha2 hb3 hb4 hq
  cases q
  · have HR : Hid (commonQ la lb dx = areaQ (cutAll (poly la 0) (poly lb dx) (poly lb dx).length)) := by
      show _ = _
      unfold commonQ
      rw [← HXA.out, ← HXB.out, if_neg (of_decide_eq_false HQ.out), poly_len]
    have HCO : Hid (∀ k, k ≤ (poly lb dx).length → CutOk (poly la 0) (poly lb dx) k) := fun k hk => cutOk ka kb hdx k (by rw [poly_len] at hk; exact hk)
    have hS1 := poly_sz kb.2.2.1 hdx
    have hL3 : 3 ≤ (poly lb dx).length := by rw [poly_len]; exact b3
    have hL8 : (poly lb dx).length ≤ 8 := by rw [poly_len]; exact b8
    go_wp2_with fail
    have ha4 := ((ha.below c4.below).more c4.below.size).drew
    have hb4 := ((hb.below c4.below).more c4.below.size).drew
    have r0 := And.intro (bk2 c4.ka.drew) (bk2 c4.kb.drew)
    have oka := ka.2.2.1
    have okb := kb.2.2.1
    go_region_held3 (fun X => (X.cell? ⟨w.heap.size, 0, none⟩ = some (.slice A la.length ca) ∧ X.cell? ⟨w.heap.size, 1, none⟩ = some (.bool ma)) ∧ X.cell? ⟨w.heap.size + 1, 0, none⟩ = some (.slice A' lb.length cb) ∧ X.cell? ⟨w.heap.size + 1, 1, none⟩ = some (.bool mb))
      (first | (with_reducible exact r0) | (with_reducible exact r1) | (with_reducible exact r2))
      (first
        | (go_at_call 108; (with_reducible refine (polygon_any la ma _ 0 _ ha4 (by omega) (by omega) oka).mono ?_); rintro e w5 ⟨hb5, v5, rfl, p5⟩; have c5 := c4.drew.next hb5; have hb45 := hb4.next hb5; have r1 := And.intro (bk2 c5.ka) (bk2 c5.kb))
        | (go_at_call 108; (with_reducible refine (polygon_any lb mb _ dx _ hb45 (by omega) hdx okb).mono ?_); rintro e w6 ⟨hb6, v6, rfl, p6⟩; have c6 := c5.next hb6; have p56 := p5.next hb6; have r2 := And.intro (bk2 c6.ka) (bk2 c6.kb)))
    clear r0 r1 r2 c4 c5 ha4 hb4 hb45 hb5 hb6 p5
    have p56 : IsPoly w6 w6.heap.size v5 (poly la 0) := p56
    have p6 : IsPoly w6 w6.heap.size v6 (poly lb dx) := p6
    generalize poly la 0 = pa at *
    generalize poly lb dx = pb at *
    obtain ⟨A6, cp, Sl, rfl, hcp, hSl, hr, hS⟩ := p6
    have hB6 := Below.refl w6.heap.size w6
    go_wp2_with fail
    go_loopw [8, 36] (fun u i wr => ∃ k : Nat, k ≤ pb.length ∧ i = .int .i64 k ∧ IsPoly wr wr.heap.size u (cutAll pa pb k) ∧ Cm w (.slice A la.length ca) (.slice A' lb.length cb) ma mb wr ∧ Below w6.heap.size w6 wr) (fun _ i _ => pb.length - (intOf i).toNat)
    case atStart => exact ⟨0, Nat.zero_le _, rfl, p56, c6, hB6⟩
    case round =>
      obtain ⟨k, hk, rfl, hP, cr, hB⟩ := hrel
      have HC0 := HCO.out k hk
      have hsz := HC0.szs
      have hln := HC0.len
      have hpw : 2 ^ k ≤ 2 ^ 8 := Nat.pow_le_pow_right (by omega) (by omega)
      have hln2 : (cutAll pa pb k).length ≤ 1000000 := by omega
      have hK : szS k ≤ 1000000000 := Nat.le_trans (szS_mono (show k ≤ 8 by omega)) (by decide)
      have hK1 : 1 ≤ szS k := szS_mono (Nat.zero_le k)
      rcases Nat.lt_or_ge k pb.length with hlt | hge
      · obtain ⟨j1, hj1⟩ : ∃ j, j = (k + 1) % pb.length := ⟨_, rfl⟩
        have hl1 : j1 < pb.length := by rw [hj1]; exact Nat.mod_lt _ (by omega)
        have m1 : ((k : Int) + 1).tmod (pb.length : Int) = (j1 : Int) := by rw [hj1]; rfl
        have n0 : ¬ pb.length = 0 := by omega
        have ww3 : IntKind.i64.wrap ((k : Int) + 1) = (k : Int) + 1 := IntWalk.i64_in _ (by omega)
        obtain ⟨sc, hsc, hpc⟩ := hS k pb[k] (List.getElem?_eq_getElem hlt)
        obtain ⟨sd, hsd, hpd⟩ := hS j1 pb[j1] (List.getElem?_eq_getElem hl1)
        obtain ⟨ct, cA, cl, cc, cA', cl', cc', ct', cA2, cl2, cc2, cA3, cl3, cc3, rfl⟩ := hpc.form
        obtain ⟨dt, dA, dl, dc, dA', dl', dc', dt', dA2, dl2, dc2, dA3, dl3, dc3, rfl⟩ := hpd.form
        obtain ⟨ad, rfl, hab, x0, x1, x2, x3, x4, x5⟩ := (hr.below hB).point hsc
        have lc := Nat.le_trans (hS1 _ (List.getElem_mem hlt)) hK1
        have ld := Nat.le_trans (hS1 _ (List.getElem_mem hl1)) hK1
        have HC : Hid (cutQ (cutAll pa pb k) pb[k] pb[j1] (cutAll pa pb k).length = cutAll pa pb (k + 1)) := by
          show _ = _
          simp only [cutAll]
          rw [List.getD_eq_getElem?_getD, List.getElem?_eq_getElem hlt]
          unfold nx
          rw [← hj1, List.getD_eq_getElem?_getD, List.getElem?_eq_getElem hl1]
          rfl
        have hpc2 := (hpc.below hB).more hB.size
        have hpd2 := (hpd.below hB).more hB.size
        have Hsd := Lib.hid hsd
        generalize pb[k] = pc at *
        generalize pb[j1] = pd at *
        clear hpc hpd hsc hsd hj1
        go_wp2_with fail
        obtain ⟨bc, hbc⟩ : ∃ b, b = wr.heap.size := ⟨_, rfl⟩
        have hbA := below_alloc wr (.cells #[.bool ct, .slice cA cl cc, .slice cA' cl' cc', .bool ct', .slice cA2 cl2 cc2, .slice cA3 cl3 cc3] 146)
        have kc : Bk _ _ _ (Sx.cells ⟨ct, .slice cA cl cc, .slice cA' cl' cc', ct', .slice cA2 cl2 cc2, .slice cA3 cl3 cc3⟩).toArray := Bk.new wr 146 #[.bool ct, .slice cA cl cc, .slice cA' cl' cc', .bool ct', .slice cA2 cl2 cc2, .slice cA3 cl3 cc3]
        have cr2 := cr.next hbA
        have hP2 := hP.next hbA
        have hpc3 := hpc2.next hbA
        have hpd3 := hpd2.next hbA
        have hB2 := hB.trans (hbA.mono hB.size)
        rw [← hbc] at kc ⊢
        generalize (wr.alloc (.cells #[.bool ct, .slice cA cl cc, .slice cA' cl' cc', .bool ct', .slice cA2 cl2 cc2, .slice cA3 cl3 cc3] 146)) = w7 at *
        clear hbA cr hP hpc2 hpd2 hB hbc x0 x1 x2 x3 x4 x5
        have CL := clip_any (cutAll pa pb k) pc pd u8 ⟨ct, .slice cA cl cc, .slice cA' cl' cc', ct', .slice cA2 cl2 cc2, .slice cA3 cl3 cc3⟩ ⟨dt, .slice dA dl dc, .slice dA' dl' dc', dt', .slice dA2 dl2 dc2, .slice dA3 dl3 dc3⟩ (szS k) w7.drew hP2 hpc3 hpd3 hln2 hK lc ld hsz
        unfold Sx.val at CL
        rw [HC.out] at CL
        have r0 := And.intro (bk6c kc.drew) ((hr.below hB2.drew).pointAt Hsd.out)
        go_region_held3 (fun X => (X.cell? ⟨bc, 0, none⟩ = some (.bool ct) ∧ X.cell? ⟨bc, 1, none⟩ = some (.slice cA cl cc) ∧ X.cell? ⟨bc, 2, none⟩ = some (.slice cA' cl' cc') ∧ X.cell? ⟨bc, 3, none⟩ = some (.bool ct') ∧ X.cell? ⟨bc, 4, none⟩ = some (.slice cA2 cl2 cc2) ∧ X.cell? ⟨bc, 5, none⟩ = some (.slice cA3 cl3 cc3)) ∧ (X.cell? (ad.add (j1 * 6)) = some (.bool dt) ∧ X.cell? ⟨(ad.add (j1 * 6)).block, (ad.add (j1 * 6)).off + 1, none⟩ = some (.slice dA dl dc) ∧ X.cell? ⟨(ad.add (j1 * 6)).block, (ad.add (j1 * 6)).off + 2, none⟩ = some (.slice dA' dl' dc') ∧ X.cell? ⟨(ad.add (j1 * 6)).block, (ad.add (j1 * 6)).off + 3, none⟩ = some (.bool dt') ∧ X.cell? ⟨(ad.add (j1 * 6)).block, (ad.add (j1 * 6)).off + 4, none⟩ = some (.slice dA2 dl2 dc2) ∧ X.cell? ⟨(ad.add (j1 * 6)).block, (ad.add (j1 * 6)).off + 5, none⟩ = some (.slice dA3 dl3 dc3)))
          (first | exact r1 | exact r0)
          (first | (go_at_call 109; (with_reducible refine CL.mono ?_); rintro e w8 ⟨hb8, v8, rfl, p8⟩; have c8 := cr2.drew.next hb8; have kc8 := kc.drew.next' hb8; have hB8 := hB2.drew.trans (hb8.mono hB2.size); have r1 := And.intro (bk6c kc8) ((hr.below hB8).pointAt Hsd.out)))
        clear r0 r1 CL kc kc8 cr2 hP2 hpc3 hpd3 hB2 hb8
        go_wp2
        go_roundw
        case rel => exact ⟨k + 1, by omega, by go_num, p8, c8, hB8⟩
        case measure => simp [intOf]; omega
      · have hkl : k = pb.length := by omega
        subst hkl
        clear hB hr
        have AR := fun X (h : Below wr.heap.size wr X) => area_any _ u8 (szS pb.length) X (hP.next h) hln2 hK hsz (HC0.area (by omega))
        go_wp2_with fail
        refine (AR wr (Below.refl _ _)).mono ?_
        rintro e w9 ⟨hb9, v9, rfl, y9⟩
        obtain ⟨t5, A5, l5, c5, A5', l5', c5', rfl⟩ := y9.form
        have c9 := cr.next hb9
        have kr := c9.kr
        obtain ⟨d0, d1, d2⟩ := bk3 kr
        have g0 := kr.frozen 0
        have g1 := kr.frozen 1
        have g2 := kr.frozen 2
        clear AR hP hb9 cr
        go_wp2
        refine bodyPost_ret (v := .agg #[.bool t5, .slice A5 l5 c5, .slice A5' l5' c5']) (by simp [results, Tryz.results61, go_sem, d0, d1, d2]) rfl ?_
        refine ⟨set3_below c9.below (by omega), _, rfl, ?_⟩
        rw [HR.out]
        exact (y9.set3 kr (.bool t5) (.slice A5 l5 c5) (.slice A5' l5' c5')).more (by rw [show (World.setCell _ _ _) = set3 w9 (w.heap.size + 1 + 1) (.bool t5) (.slice A5 l5 c5) (.slice A5' l5' c5') from rfl, set3_size]; exact Nat.le_refl _)
  · have HR : Hid (commonQ la lb dx = 0) := by
      show _ = _
      unfold commonQ
      rw [← HXA.out, ← HXB.out, if_pos (of_decide_eq_true HQ.out)]
    go_wp2_with fail
    refine (fint_any 0 _ (by omega)).mono ?_
    rintro e w5 ⟨hb5, f5, rfl, y5⟩
    obtain ⟨t5, A5, l5, c5, A5', l5', c5', rfl⟩ := y5.form
    have c6 := c4.next hb5
    clear c4 hb5
    have kr := c6.kr
    obtain ⟨d0, d1, d2⟩ := bk3 kr
    have g0 := kr.frozen 0
    have g1 := kr.frozen 1
    have g2 := kr.frozen 2
    go_wp2
    refine bodyPost_ret (v := .agg #[.bool t5, .slice A5 l5 c5, .slice A5' l5' c5']) (by simp [results, Tryz.results61, go_sem, d0, d1, d2]) rfl ?_
    refine ⟨set3_below c6.below (by omega), _, rfl, ?_⟩
    rw [HR.out]
    exact (y5.set3 kr (.bool t5) (.slice A5 l5 c5) (.slice A5' l5' c5')).more (by rw [show (World.setCell _ _ _) = set3 w5 (w.heap.size + 1 + 1) (.bool t5) (.slice A5 l5 c5) (.slice A5' l5' c5') from rfl, set3_size]; exact Nat.le_refl _)
end Go.Proofs.YtbddmkklkbkliaaGreatDoor

namespace Go.Proofs.YtbddmkklkbkliaaGreatDoor
open Go.RowKit Ar

theorem sz_two {q : Rat} (h : sz q ≤ 200000000000) : sz (q / 2) ≤ 200000000001 := by
  have := sz_div q 2 (by decide)
  have := sz_small 2 (by decide)
  have e0 : ((2 : Int) : Rat) = 2 := rfl
  rw [e0] at this
  omega
theorem commonQ_sz {la lb : List Pl} (ka : validC la) (kb : validC lb) {dx : Int} (hdx : -100000000 ≤ dx ∧ dx ≤ 100000000) : sz (commonQ la lb dx) ≤ 200000000001 := by
  unfold commonQ
  split
  · have := sz_small 0 (by decide)
    have e0 : ((0 : Int) : Rat) = 0 := rfl
    rw [e0] at this
    omega
  · exact sz_two ((cutOk ka kb hdx _ (Nat.le_refl _)).area kb.2.1 _ (by omega))
theorem areaC_sz {l : List Pl} (h : validC l) : sz (areaQ (poly l 0)) ≤ 200000000001 := sz_two ((areaOk h (dx := 0) (by omega)).area (by omega) _ (by show _ ∨ _ ≤ (poly l 0).length; omega))
/-- A list of two cells. -/
theorem two_cells {w : World} {b : Nat} {ua ub : Value} {la lb : List Pl} {ma mb : Bool} (ha : IsC w w.heap.size (.agg #[ua, .bool ma]) la ma) (hb : IsC w w.heap.size (.agg #[ub, .bool mb]) lb mb) (hk : Bk w b 60 #[ua, .bool ma, ub, .bool mb]) :
    IsCs w w.heap.size (.slice (some ⟨b, 0, none⟩) 2 2) [(la, ma), (lb, mb)] := by
  refine ⟨_, 2, [(ua, ma), (ub, mb)], rfl, Nat.le_refl _, rfl, hk.rd, ?_⟩
  intro i x hx
  match i, hx with
  | 0, hx => simp at hx; subst hx; exact ⟨ua, rfl, ha⟩
  | 1, hx => simp at hx; subst hx; exact ⟨ub, rfl, hb⟩
theorem one_cell {w : World} {b : Nat} {ua : Value} {la : List Pl} {ma : Bool} (ha : IsC w w.heap.size (.agg #[ua, .bool ma]) la ma) (hk : Bk w b 60 #[ua, .bool ma]) :
    IsCs w w.heap.size (.slice (some ⟨b, 0, none⟩) 1 1) [(la, ma)] := by
  refine ⟨_, 1, [(ua, ma)], rfl, Nat.le_refl _, rfl, hk.rd, ?_⟩
  intro i x hx
  match i, hx with
  | 0, hx => simp at hx; subst hx; exact ⟨ua, rfl, ha⟩
theorem Bk.new3 (w : World) (o o' : Obj) (t : TypeId) (cs : Array Value) : Bk (((w.alloc o).alloc o').alloc (.cells cs t)) (w.heap.size + 1 + 1) t cs := by simpa using Bk.new ((w.alloc o).alloc o') t cs

set_option maxRecDepth 100000 in
set_option maxHeartbeats 3200000 in
theorem Common_any (la lb : List Pl) (ma mb : Bool) (va vb : Value) (w : World) (ha : IsC w w.heap.size va la ma) (hb : IsC w w.heap.size vb lb mb) (he : EnvR w) (ok : Bool) (hok : ok = true ↔ validC la ∧ validC lb) :
    Calls Tryz.prog 23 #[va, vb] w fun e w' => Below w.heap.size w w' ∧ e = .returned (.tuple #[.string ⟨(if ok then ratText (commonQ la lb 0) else []).toArray⟩, .int .i64 (if ok then 0 else 80)]) := by
  obtain ⟨A, ca, rfl⟩ := ha.form
  obtain ⟨A', cb, rfl⟩ := hb.form
  go_enter Tryz.func23, Tryz.ntmps23
  go_wp2_with fail
  have hB0 : Below w.heap.size w (((w.alloc (.cells #[.slice A la.length ca, .bool ma] 60)).alloc (.cells #[.slice A' lb.length cb, .bool mb] 60)).alloc (.cells #[.slice A la.length ca, .bool ma, .slice A' lb.length cb, .bool mb] 60)) := ((below_alloc w _).alloc (by simp) _).alloc (by simp; omega) _
  have k1 : Bk (((w.alloc (.cells #[.slice A la.length ca, .bool ma] 60)).alloc (.cells #[.slice A' lb.length cb, .bool mb] 60)).alloc (.cells #[.slice A la.length ca, .bool ma, .slice A' lb.length cb, .bool mb] 60)) w.heap.size 60 #[.slice A la.length ca, .bool ma] := ((Bk.new _ _ _).alloc _).alloc _
  have k2 : Bk (((w.alloc (.cells #[.slice A la.length ca, .bool ma] 60)).alloc (.cells #[.slice A' lb.length cb, .bool mb] 60)).alloc (.cells #[.slice A la.length ca, .bool ma, .slice A' lb.length cb, .bool mb] 60)) (w.heap.size + 1) 60 #[.slice A' lb.length cb, .bool mb] := (Bk.new2 _ _ _ _).alloc _
  have k3 := Bk.new3 w (.cells #[.slice A la.length ca, .bool ma] 60) (.cells #[.slice A' lb.length cb, .bool mb] 60) 60 #[.slice A la.length ca, .bool ma, .slice A' lb.length cb, .bool mb]
  generalize (((w.alloc (.cells #[.slice A la.length ca, .bool ma] 60)).alloc (.cells #[.slice A' lb.length cb, .bool mb] 60)).alloc (.cells #[.slice A la.length ca, .bool ma, .slice A' lb.length cb, .bool mb] 60)) = w0 at *
  have ha0 := (ha.below hB0).more hB0.size
  have hb0 := (hb.below hB0).more hB0.size
  have hcs := two_cells ha0 hb0 k3
  have CE := cells_any _ _ w0 (by simp) hcs (!ok) (by cases ok <;> simp at hok ⊢ <;> grind)
  refine CE.mono ?_
  rintro e w1 ⟨hb1, rfl⟩
  have k11 := k1.next' hb1
  have k21 := k2.next' hb1
  have ha1 := ha0.next hb1
  have hb1' := hb0.next hb1
  have hB1 := hB0.trans (hb1.mono hB0.size)
  have he1 := he.next hB1
  obtain ⟨x0, x1⟩ := bk2 k11
  obtain ⟨y0, y1⟩ := bk2 k21
  clear CE k1 k2 k3 hcs hb1 hB0 ha0 hb0
  cases ok
  · clear hok
    go_wp2
    go_ret2
    exact ⟨hB1, rfl⟩
  · obtain ⟨ka, kb⟩ := hok.1 rfl
    clear hok
    have hsz := commonQ_sz ka kb (dx := 0) (by omega)
    have CM := common_any la lb ma mb _ _ 0 w1 ha1 hb1' ka kb (by omega)
    go_wp2_with fail
    refine CM.mono ?_
    rintro e w2 ⟨hb2, v2, rfl, y2⟩
    have LG := flong_any _ v2 w2 y2 (by omega) (he1.next hb2)
    go_wp2_with fail
    refine LG.mono ?_
    rintro e w3 ⟨hb3, rfl⟩
    have hB3 := (hB1.trans (hb2.mono hB1.size)).trans (hb3.mono (hB1.trans (hb2.mono hB1.size)).size)
    go_wp2
    go_ret2
    exact ⟨hB3, rfl⟩

end Go.Proofs.YtbddmkklkbkliaaGreatDoor
