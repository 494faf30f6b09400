/-
  Walk: package regrid's area.
-/
import Derived.Test.YtbddmkklkbkliaaGreatDoorHeldM
namespace Go.Proofs.YtbddmkklkbkliaaGreatDoor
open Go.RowKit Ar

/-- The sum of the triangles of a fan. -/
def areaS (l : List Qp) : Nat → Rat
  | 0 => 0
  | k + 1 => areaS l k + crossQ (l.getD 0 (0, 0)) (l.getD (k + 1) (0, 0)) (l.getD (k + 2) (0, 0))
def areaQ (l : List Qp) : Rat := areaS l (l.length - 2) / 2
theorem Rd.pointAt {w : World} {B : Nat} {ad : Addr} {S : List Sx} (h : Rd w B (some ad) (srow S)) {i : Nat} {s : Sx} (hs : S[i]? = some s) : Six w (ad.add (i * 6)) s := by
  obtain ⟨ad', e, _, h⟩ := h.point hs
  cases e
  exact h
theorem getD_sz {l : List Qp} {K : Nat} (h : ∀ p ∈ l, szp p ≤ K) {i : Nat} (hi : i < l.length) : szp (l.getD i (0, 0)) ≤ K := by
  rw [List.getD_eq_getElem?_getD, List.getElem?_eq_getElem hi]
  exact h _ (List.getElem_mem hi)
theorem sz_areaS {l : List Qp} {K : Nat} (h : ∀ p ∈ l, szp p ≤ K) : ∀ k, k + 2 ≤ l.length ∨ k = 0 → sz (areaS l k) ≤ k * (8 * K + 6) + 1
  | 0, _ => by
    have := sz_small 0 (by decide)
    simp only [areaS]
    have e : ((0 : Int) : Rat) = 0 := rfl
    rw [e] at this
    omega
  | k + 1, hk => by
    have hk' : k + 3 ≤ l.length := by omega
    have h1 := sz_areaS h k (by omega)
    have h2 := sz_cross (getD_sz h (i := 0) (by omega)) (getD_sz h (i := k + 1) (by omega)) (getD_sz h (i := k + 2) (by omega))
    simp only [areaS]
    have h3 := sz_add (areaS l k) (crossQ (l.getD 0 (0, 0)) (l.getD (k + 1) (0, 0)) (l.getD (k + 2) (0, 0)))
    have e : (k + 1) * (8 * K + 6) = k * (8 * K + 6) + (8 * K + 6) := Nat.succ_mul _ _
    omega

set_option maxRecDepth 100000 in
set_option maxHeartbeats 6400000 in
theorem area_any (l : List Qp) (v : Value) (K : Nat) (w : World) (h : IsPoly w w.heap.size v l) (hm : l.length ≤ 1000000) (hK : K ≤ 1000000000) (lp : ∀ p ∈ l, szp p ≤ K) (hsz : ∀ k, k = 0 ∨ k + 2 ≤ l.length → sz (areaS l k) ≤ 200000000000) :
    Calls Tryz.prog 110 #[v] w fun e w' => Below w.heap.size w w' ∧ ∃ v, e = .returned v ∧ IsF w' w'.heap.size v (areaQ l) := by
  obtain ⟨A, cp, Sl, rfl, hcp, hSl, hr, hS⟩ := h
  go_enter Tryz.func110, Tryz.ntmps110
  go_wp2_with fail
  refine (fint_any 0 _ (by omega)).mono ?_
  rintro e w1 ⟨hb1, f1, rfl, hf1⟩
  obtain ⟨s1, A1, l1, c1, A1', l1', c1', rfl⟩ := hf1.form
  have hB1 := (below_alloc w (.cells #[.bool false, .slice none 0 0, .slice none 0 0] 66)).trans (hb1.mono (by simp))
  have k01 := (Bk.new w 66 #[.bool false, .slice none 0 0, .slice none 0 0]).below hb1 (by simp)
  have hbs0 := k01.lt
  go_wp2_with fail
  refine wp_name (fun W => ∃ bs, bs = w1.heap.size ∧ w.heap.size < bs ∧ Below w.heap.size w W ∧ Bk W w.heap.size 66 #[.bool false, .slice none 0 0, .slice none 0 0] ∧ Bk W bs 66 #[.bool s1, .slice A1 l1 c1, .slice A1' l1' c1'] ∧ IsF W W.heap.size (.agg #[.bool s1, .slice A1 l1 c1, .slice A1' l1' c1']) 0) ⟨_, rfl, hbs0, hB1.alloc (by omega) _, k01.alloc _, Bk.new _ _ _, hf1.next (below_alloc _ _)⟩ ?_
  rintro W ⟨bs, hbs, hbs1, hB0, k0, kS0, fS0⟩
  rw [← hbs]
  clear hb1 hf1 hB1 k01 hbs0 hbs
  go_loopw [4] (fun i wr => ∃ k : Nat, (k = 0 ∨ k + 2 ≤ l.length) ∧ i = .int .i64 ((k : Int) + 2) ∧ Below w.heap.size w wr ∧ Bk wr w.heap.size 66 #[.bool false, .slice none 0 0, .slice none 0 0] ∧ FracAt wr bs (areaS l k)) (fun i _ => l.length - (intOf i).toNat)
  case atStart => exact ⟨0, Or.inl rfl, rfl, hB0, k0, _, _, _, _, _, _, _, kS0, fS0⟩
  case round =>
    obtain ⟨k, hk, rfl, hB, kR, s, B1, n1, e1, B1', n1', e1', kS, fS⟩ := hrel
    rcases Nat.lt_or_ge (k + 2) l.length with hlt | hge
    · obtain ⟨K2, hK2⟩ : ∃ j, j = k + 2 := ⟨_, rfl⟩
      obtain ⟨K1, hK1⟩ : ∃ j, j = k + 1 := ⟨_, rfl⟩
      have c2 : ((k : Int) + 2) = (K2 : Int) := by omega
      rw [c2]
      have ww1 : IntKind.i64.wrap ((K2 : Int) - 1) = (K1 : Int) := by rw [IntWalk.i64_in _ (by omega)]; omega
      have ww2 : IntKind.i64.wrap ((K2 : Int) + 1) = (K2 : Int) + 1 := IntWalk.i64_in _ (by omega)
      have b0 : (0 : Int) ≤ (K2 : Int) := by omega
      have b1 : (K2 : Int) < (l.length : Int) := by omega
      have b2 : (0 : Int) ≤ (K1 : Int) := by omega
      have b3 : (K1 : Int) < (l.length : Int) := by omega
      have b4 : (0 : Int) < (l.length : Int) := by omega
      have b5 : K1 < l.length := by omega
      have b6 : K2 < l.length := by omega
      have b7 : 0 < l.length := by omega
      obtain ⟨sa, hsa, hpa⟩ := hS 0 l[0] (List.getElem?_eq_getElem b7)
      obtain ⟨sb, hsb, hpb⟩ := hS K1 l[K1] (List.getElem?_eq_getElem b5)
      obtain ⟨sc, hsc, hpc⟩ := hS K2 l[K2] (List.getElem?_eq_getElem b6)
      obtain ⟨at1, aA, al, ac, aA', al', ac', at2, aA2, al2, ac2, aA3, al3, ac3, rfl⟩ := hpa.form
      obtain ⟨bt1, bA, bl, bc, bA', bl', bc', bt2, bA2, bl2, bc2, bA3, bl3, bc3, rfl⟩ := hpb.form
      obtain ⟨ct1, cA, cl, cc, cA', cl', cc', ct2, cA2, cl2, cc2, cA3, cl3, cc3, rfl⟩ := hpc.form
      have hrr := hr.below hB
      obtain ⟨ad, rfl, hab, x0, x1, x2, x3, x4, x5⟩ := hrr.point hsa
      obtain ⟨_, ea, _, y0, y1, y2, y3, y4, y5⟩ := hrr.point hsb
      injection ea with ea
      subst ea
      obtain ⟨_, ea, _, z0, z1, z2, z3, z4, z5⟩ := hrr.point hsc
      injection ea with ea
      subst ea
      have la := lp _ (List.getElem_mem b7)
      have lb := lp _ (List.getElem_mem b5)
      have lc := lp _ (List.getElem_mem b6)
      have lcr := sz_cross la lb lc
      have lsm := hsz k hk
      have HA : Hid (areaS l (k + 1) = areaS l k + crossQ l[0] l[K1] l[K2]) := by
        show _ = _
        simp only [areaS]
        rw [List.getD_eq_getElem?_getD, List.getElem?_eq_getElem b7, List.getD_eq_getElem?_getD, List.getD_eq_getElem?_getD, ← hK1, ← hK2, List.getElem?_eq_getElem b5, List.getElem?_eq_getElem b6]
        rfl
      have hpa2 := (hpa.below hB).more hB.size
      have hpb2 := (hpb.below hB).more hB.size
      have hpc2 := (hpc.below hB).more hB.size
      have e0 : ad.add (0 * 6) = ad := rfl
      rw [e0] at x0 x1 x2 x3 x4 x5
      obtain ⟨f0, f1, f2⟩ := bk3 kS
      generalize l[0] = pa at *
      generalize l[K1] = pb at *
      generalize l[K2] = pc at *
      have HK2 := Lib.hid hK2
      have Hsa := Lib.hid hsa
      have Hsb := Lib.hid hsb
      have Hsc := Lib.hid hsc
      have HK1 := Lib.hid hK1
      clear hpa hpb hpc hsa hsb hsc hK1 hK2 c2 hlt
      go_wp2_with fail
      refine wp_region_M 15 (by kernel_rfl) (fun X => (X.cell? ⟨bs, 0, none⟩ = some (.bool s) ∧ X.cell? ⟨bs, 1, none⟩ = some (.slice B1 n1 e1) ∧ X.cell? ⟨bs, 2, none⟩ = some (.slice B1' n1' e1')) ∧ (X.cell? ad = some (.bool at1) ∧ X.cell? ⟨ad.block, ad.off + 1, none⟩ = some (.slice aA al ac) ∧ X.cell? ⟨ad.block, ad.off + 2, none⟩ = some (.slice aA' al' ac') ∧ X.cell? ⟨ad.block, ad.off + 3, none⟩ = some (.bool at2) ∧ X.cell? ⟨ad.block, ad.off + 4, none⟩ = some (.slice aA2 al2 ac2) ∧ X.cell? ⟨ad.block, ad.off + 5, none⟩ = some (.slice aA3 al3 ac3)) ∧ (X.cell? (ad.add (K1 * 6)) = some (.bool bt1) ∧ X.cell? ⟨(ad.add (K1 * 6)).block, (ad.add (K1 * 6)).off + 1, none⟩ = some (.slice bA bl bc) ∧ X.cell? ⟨(ad.add (K1 * 6)).block, (ad.add (K1 * 6)).off + 2, none⟩ = some (.slice bA' bl' bc') ∧ X.cell? ⟨(ad.add (K1 * 6)).block, (ad.add (K1 * 6)).off + 3, none⟩ = some (.bool bt2) ∧ X.cell? ⟨(ad.add (K1 * 6)).block, (ad.add (K1 * 6)).off + 4, none⟩ = some (.slice bA2 bl2 bc2) ∧ X.cell? ⟨(ad.add (K1 * 6)).block, (ad.add (K1 * 6)).off + 5, none⟩ = some (.slice bA3 bl3 bc3)) ∧ (X.cell? (ad.add (K2 * 6)) = some (.bool ct1) ∧ X.cell? ⟨(ad.add (K2 * 6)).block, (ad.add (K2 * 6)).off + 1, none⟩ = some (.slice cA cl cc) ∧ X.cell? ⟨(ad.add (K2 * 6)).block, (ad.add (K2 * 6)).off + 2, none⟩ = some (.slice cA' cl' cc') ∧ X.cell? ⟨(ad.add (K2 * 6)).block, (ad.add (K2 * 6)).off + 3, none⟩ = some (.bool ct2) ∧ X.cell? ⟨(ad.add (K2 * 6)).block, (ad.add (K2 * 6)).off + 4, none⟩ = some (.slice cA2 cl2 cc2) ∧ X.cell? ⟨(ad.add (K2 * 6)).block, (ad.add (K2 * 6)).off + 5, none⟩ = some (.slice cA3 cl3 cc3))) ⟨⟨f0, f1, f2⟩, ⟨x0, x1, x2, x3, x4, x5⟩, ⟨y0, y1, y2, y3, y4, y5⟩, z0, z1, z2, z3, z4, z5⟩ (fun hS0 => ?_)
      clear f0 f1 f2 x0 x1 x2 x3 x4 x5 y0 y1 y2 y3 y4 y5 z0 z1 z2 z3 z4 z5
      refine takeM (i := 0) (v := ?_) rfl (by kernel_rfl) (by decide) (by kernel_rfl) (by kernel_rfl) (by kernel_rfl) (fun _ _ _ h => h) (by rfl) (by assumption) ?_ ?_
      rotate_left
      · intro w hSw; (try dsimp only at hSw); go_simp <;> with_reducible rfl
      try simp only [Act.put, List.setIfInBounds_toArray, List.set_cons_zero, List.set_cons_succ]
      refine takeM (i := 1) (v := ?_) rfl (by kernel_rfl) (by decide) (by kernel_rfl) (by kernel_rfl) (by kernel_rfl) (fun _ _ _ h => h) (by rfl) (by assumption) ?_ ?_
      rotate_left
      · intro w hSw; (try dsimp only at hSw); go_simp <;> with_reducible rfl
      try simp only [Act.put, List.setIfInBounds_toArray, List.set_cons_zero, List.set_cons_succ]
      refine takeM (i := 2) (v := ?_) rfl (by kernel_rfl) (by decide) (by kernel_rfl) (by kernel_rfl) (by kernel_rfl) (fun _ _ _ h => h) (by rfl) (by assumption) ?_ ?_
      rotate_left
      · intro w hSw; (try dsimp only at hSw); go_simp <;> with_reducible rfl
      try simp only [Act.put, List.setIfInBounds_toArray, List.set_cons_zero, List.set_cons_succ]
      refine takeM (i := 3) (v := ?_) rfl (by kernel_rfl) (by decide) (by kernel_rfl) (by kernel_rfl) (by kernel_rfl) (fun _ _ _ h => h) (by rfl) (by assumption) ?_ ?_
      rotate_left
      · intro w hSw; (try dsimp only at hSw); go_simp <;> with_reducible rfl
      try simp only [Act.put, List.setIfInBounds_toArray, List.set_cons_zero, List.set_cons_succ]
      refine takeM (i := 4) (v := ?_) rfl (by kernel_rfl) (by decide) (by kernel_rfl) (by kernel_rfl) (by kernel_rfl) (fun _ _ _ h => h) (by rfl) (by assumption) ?_ ?_
      rotate_left
      · intro w hSw; (try dsimp only at hSw); go_simp <;> with_reducible rfl
      try simp only [Act.put, List.setIfInBounds_toArray, List.set_cons_zero, List.set_cons_succ]
      refine takeM (i := 5) (v := ?_) rfl (by kernel_rfl) (by decide) (by kernel_rfl) (by kernel_rfl) (by kernel_rfl) (fun _ _ _ h => h) (by rfl) (by assumption) ?_ ?_
      rotate_left
      · intro w hSw; (try dsimp only at hSw); go_simp <;> with_reducible rfl
      try simp only [Act.put, List.setIfInBounds_toArray, List.set_cons_zero, List.set_cons_succ]
      refine takeM (i := 6) (v := ?_) rfl (by kernel_rfl) (by decide) (by kernel_rfl) (by kernel_rfl) (by kernel_rfl) (fun _ _ _ h => h) (by rfl) (by assumption) ?_ ?_
      rotate_left
      · intro w hSw; (try dsimp only at hSw); go_simp <;> with_reducible rfl
      try simp only [Act.put, List.setIfInBounds_toArray, List.set_cons_zero, List.set_cons_succ]
      refine takeM (i := 7) (v := ?_) rfl (by kernel_rfl) (by decide) (by kernel_rfl) (by kernel_rfl) (by kernel_rfl) (fun _ _ _ h => h) (by rfl) (by assumption) ?_ ?_
      rotate_left
      · intro w hSw; (try dsimp only at hSw); go_simp <;> with_reducible rfl
      try simp only [Act.put, List.setIfInBounds_toArray, List.set_cons_zero, List.set_cons_succ]
      refine takeM (i := 8) (v := ?_) rfl (by kernel_rfl) (by decide) (by kernel_rfl) (by kernel_rfl) (by kernel_rfl) (fun _ _ _ h => h) (by rfl) (by assumption) ?_ ?_
      rotate_left
      · intro w hSw; (try dsimp only at hSw); go_simp <;> with_reducible rfl
      try simp only [Act.put, List.setIfInBounds_toArray, List.set_cons_zero, List.set_cons_succ]
      refine takeM (i := 9) (v := ?_) rfl (by kernel_rfl) (by decide) (by kernel_rfl) (by kernel_rfl) (by kernel_rfl) (fun _ _ _ h => h) (by rfl) (by assumption) ?_ ?_
      rotate_left
      · intro w hSw; (try dsimp only at hSw); go_simp <;> with_reducible rfl
      try simp only [Act.put, List.setIfInBounds_toArray, List.set_cons_zero, List.set_cons_succ]
      refine takeM (i := 10) (v := ?_) rfl (by kernel_rfl) (by decide) (by kernel_rfl) (by kernel_rfl) (by kernel_rfl) (fun _ _ _ h => h) (by rfl) (by assumption) ?_ ?_
      rotate_left
      · intro w hSw; (try dsimp only at hSw); go_simp <;> with_reducible rfl
      try simp only [Act.put, List.setIfInBounds_toArray, List.set_cons_zero, List.set_cons_succ]
      refine takeM (i := 11) (v := ?_) rfl (by kernel_rfl) (by decide) (by kernel_rfl) (by kernel_rfl) (by kernel_rfl) (fun _ _ _ h => h) (by rfl) (by assumption) ?_ ?_
      rotate_left
      · intro w hSw; (try dsimp only at hSw); go_simp <;> with_reducible rfl
      try simp only [Act.put, List.setIfInBounds_toArray, List.set_cons_zero, List.set_cons_succ]
      refine takeM (i := 12) (v := ?_) rfl (by kernel_rfl) (by decide) (by kernel_rfl) (by kernel_rfl) (by kernel_rfl) (fun _ _ _ h => h) (by rfl) (by assumption) ?_ ?_
      rotate_left
      · intro w hSw; (try dsimp only at hSw); go_simp <;> with_reducible rfl
      try simp only [Act.put, List.setIfInBounds_toArray, List.set_cons_zero, List.set_cons_succ]
      clear hS0
      refine stepM (i := 13) rfl (by kernel_rfl) (fun K0 hK0 => ?_)
      go_simp
      have CR := cross_any pa pb pc _ _ _ wr.drew hpa2 hpb2 hpc2 (by omega) (by omega) (by omega)
      unfold Sx.val at CR
      refine CR.mono ?_
      rintro e w2 ⟨hb2, v2, rfl, y2⟩
      obtain ⟨t2, A2, l2, c2, A2', l2', c2', rfl⟩ := y2.form
      have hB2 := hB.drew.trans (hb2.mono hB.size)
      have kR2 := kR.drew.below hb2 kR.lt
      have kS2 := kS.drew.below hb2 kS.lt
      have fS2 := (show IsF wr.drew wr.drew.heap.size _ _ from fS).next hb2
      have hr2 := hr.below hB2
      have hS2 := And.intro (bk3 kS2) (And.intro (hr2.pointAt Hsa.out) (And.intro (hr2.pointAt Hsb.out) (hr2.pointAt Hsc.out)))
      have fS3 := fadd_any _ _ _ _ w2 fS2 y2 (by omega) (by omega)
      clear CR hpa2 hpb2 hpc2 hb2 kR kS fS hB hrr
      dsimp only
      refine hK0.out _ _ (fun _ => hS2) (fun _ => ?_)
      clear hK0 K0
      try simp only [Act.put, List.setIfInBounds_toArray, List.set_cons_zero, List.set_cons_succ]
      refine stepM (i := 14) rfl (by kernel_rfl) (fun K0 hK0 => ?_)
      go_simp
      refine fS3.mono ?_
      rintro e w3 ⟨hb3, v3, rfl, y3⟩
      obtain ⟨t3, A3, l3, c3, A3', l3', c3', rfl⟩ := y3.form
      have hB3 := hB2.trans (hb3.mono hB2.size)
      have kR3 := kR2.below hb3 kR2.lt
      have kS3 := kS2.below hb3 kS2.lt
      have hr3 := hr.below hB3
      have hS3 := And.intro (bk3 kS3) (And.intro (hr3.pointAt Hsa.out) (And.intro (hr3.pointAt Hsb.out) (hr3.pointAt Hsc.out)))
      obtain ⟨d0, d1, d2⟩ := bk3 kS3
      have g0 := kS3.frozen 0
      have g1 := kS3.frozen 1
      have g2 := kS3.frozen 2
      clear fS3 hS2 kR2 kS2 fS2 hr2 hB2 hb3 y2
      dsimp only
      refine hK0.out _ _ (fun _ => hS3) (fun _ => ?_)
      clear hK0 K0
      try simp only [Act.put, List.setIfInBounds_toArray, List.set_cons_zero, List.set_cons_succ]
      refine stepM (i := 15) rfl (by kernel_rfl) (fun K0 hK0 => ?_)
      go_simp
      refine hK0.out _ _ (fun h => absurd rfl h) (fun _ => ?_)
      clear hK0 K0
      try simp only [Act.put, List.setIfInBounds_toArray, List.set_cons_zero, List.set_cons_succ]
      refine doneM (by kernel_rfl) ?_ _
      have hB4 := set3_below (x := .bool t3) (y := .slice A3 l3 c3) (z := .slice A3' l3' c3') hB3 (Nat.le_of_lt hbs1)
      have kR4 := bk_far3 (x := .bool t3) (y := .slice A3 l3 c3) (z := .slice A3' l3' c3') kR3 (Nat.ne_of_lt hbs1)
      have kS4 := set3_bk (x := .bool t3) (y := .slice A3 l3 c3) (z := .slice A3' l3' c3') kS3
      have y4 := (y3.set3 kS3 (.bool t3) (.slice A3 l3 c3) (.slice A3' l3' c3')).more (B' := (set3 w3 bs (.bool t3) (.slice A3 l3 c3) (.slice A3' l3' c3')).heap.size) (by rw [set3_size]; exact Nat.le_refl _)
      clear hS3 d0 d1 d2 g0 g1 g2 kR3 kS3 y3 hB3 hr3
      unfold set3 at hB4 kR4 kS4 y4
      rw [← HA.out] at y4
      generalize (((w3.setCell ⟨bs, 0, none⟩ (.bool t3)).setCell ⟨bs, 1, none⟩ (.slice A3 l3 c3)).setCell ⟨bs, 2, none⟩ (.slice A3' l3' c3')) = w4 at *
      go_wp2
      go_roundw
      case rel => exact ⟨k + 1, Or.inr (by have := HK2.out; omega), by have := HK2.out; go_num, hB4, kR4, _, _, _, _, _, _, _, kS4, y4⟩
      case measure => have := HK2.out; simp [intOf]; omega
    · have HA : Hid (areaS l k / 2 = areaQ l) := by
        show _ = _
        unfold areaQ
        rcases hk with rfl | hk
        · rw [show l.length - 2 = 0 by omega]
        · rw [show l.length - 2 = k by omega]
      obtain ⟨f0, f1, f2⟩ := bk3 kS
      have lsm := hsz k hk
      have c2 : ¬ ((k : Int) + 2 < (l.length : Int)) := by omega
      have sm2 := sz_small 2 (by decide)
      go_wp2_with fail
      have hrF := And.intro (bk3 kS.drew) True.intro
      go_region_held3 (fun X => (X.cell? ⟨bs, 0, none⟩ = some (.bool s) ∧ X.cell? ⟨bs, 1, none⟩ = some (.slice B1 n1 e1) ∧ X.cell? ⟨bs, 2, none⟩ = some (.slice B1' n1' e1')) ∧ True)
        (first | (with_reducible exact hrF) | (with_reducible exact r1) | (with_reducible exact r2) | (exact r3))
        (first
          | (go_at_call 40; (with_reducible refine (fint_any 2 _ (by omega)).mono ?_); rintro e w2 ⟨hb2, f2, rfl, hf2⟩; obtain ⟨t2, A2, l2, c2, A2', l2', c2', rfl⟩ := hf2.form; have kS2 := kS.drew.next' hb2; have kR2 := kR.drew.next' hb2; have hB2 := hB.drew.trans (hb2.mono hB.size); have fS2 := (show IsF wr.drew wr.drew.heap.size _ _ from fS).next hb2; have r1 := And.intro (bk3 kS2) True.intro)
          | (go_at_call 44; (with_reducible refine (fdiv_any _ _ _ _ w2 (by decide) fS2 hf2 (by omega) (by omega)).mono ?_); rintro e w3 ⟨hb3, x3, rfl, hx3⟩; obtain ⟨t3, A3, l3, c3, A3', l3', c3', rfl⟩ := hx3.form; have kS3 := kS2.next' hb3; have kR3 := kR2.next' hb3; have hB3 := hB2.trans (hb3.mono hB2.size); have r2 := And.intro (bk3 kS3) True.intro; obtain ⟨d0, d1, d2⟩ := bk3 kR3; have g0 := kR3.frozen 0; have g1 := kR3.frozen 1; have g2 := kR3.frozen 2; have r3 := And.intro (bk3 (bk_far3 (x := .bool t3) (y := .slice A3 l3 c3) (z := .slice A3' l3' c3') kS3 (Nat.ne_of_gt hbs1))) True.intro))
      go_wp2
      refine bodyPost_ret (v := .agg #[.bool t3, .slice A3 l3 c3, .slice A3' l3' c3']) (by simp [results, Tryz.results110, go_sem, d0, d1, d2]) rfl ?_
      refine ⟨set3_below hB3 (Nat.le_refl _), _, rfl, ?_⟩
      rw [← HA.out]
      exact (hx3.set3 kR3 (.bool t3) (.slice A3 l3 c3) (.slice A3' l3' c3')).more (by rw [show (World.setCell _ _ _) = set3 w3 w.heap.size (.bool t3) (.slice A3 l3 c3) (.slice A3' l3' c3') from rfl, set3_size]; exact Nat.le_refl _)
end Go.Proofs.YtbddmkklkbkliaaGreatDoor
