/-
  Walks: a grid of valid cells without a period; ValidGrid.
  The walk of the law RegridRectangles.
-/
import Derived.Test.YtblopapobmbboaaDoorRectE
namespace Go.Proofs.YtblopapobmbboaaDoor
open Go.RowKit Ar

/-- The first n cells have no part in common. -/
def flatTo (L : List Ce) (n : Nat) : Prop := ∀ (i k : Nat) (x y : Ce), i < n → L[i]? = some x → L[k]? = some y → k < i → ¬ 0 < commonQ x.1 y.1 0
theorem flatTo_all {L : List Ce} : flatG L ↔ flatTo L L.length :=
  ⟨fun h i k x y _ hx hy hk => h i k x y hx hy hk, fun h i k x y hx hy hk => h i k x y (List.getElem?_eq_some_iff.1 hx).1 hx hy hk⟩
theorem sgQ_gt (q : Rat) : 0 < sgQ q ↔ 0 < q := by
  rcases tri3 q with h | h | h
  · rw [sgQ_pos h]; exact ⟨fun _ => h, fun _ => by omega⟩
  · rw [h, sgQ_zero]; exact ⟨fun h1 => by omega, fun h1 => by grind⟩
  · rw [sgQ_neg h]; exact ⟨fun h1 => by omega, fun h1 => by grind⟩
theorem IsCs.cap {w : World} {B : Nat} {A : Option Addr} {n c : Nat} {L : List Ce} (h : IsCs w B (.slice A n c) L) : L.length ≤ c := by
  obtain ⟨A', c', S, e, h1, _⟩ := h
  injection e with _ _ e
  rw [e]; exact h1

set_option maxRecDepth 100000 in
set_option maxHeartbeats 3200000 in
theorem grid_any (L : List Ce) (v : Value) (w : World) (h : IsCs w w.heap.size v L) (hval : ∀ x ∈ L, validC x.1) (hL : L.length ≤ 1000000) (z : Bool) (hz : z = true ↔ L.length ≤ 64 ∧ flatG L) :
    Calls Tryd.prog 40 #[v, .int .i64 0] w fun e w' => Below w.heap.size w w' ∧ e = .returned (.bool z) := by
  obtain ⟨A, c, rfl⟩ := h.form
  have hcap := h.cap
  have HZ := Lib.hid hz
  have HV := Lib.hid hval
  clear hz hval
  by_cases h64 : 64 < L.length
  · have hzf : z = false := by
      cases hzz : z
      · rfl
      · have := (HZ.out.1 hzz).1; omega
    subst hzf
    have h64' : (64 : Int) < L.length := by omega
    go_enter Tryd.func40, Tryd.ntmps40
    go_wp2
    go_ret
    exact ⟨Below.refl _ _, rfl⟩
  have h64' : ¬ (64 : Int) < L.length := by omega
  go_enter Tryd.func40, Tryd.ntmps40
  go_wp2_with fail
  go_loopw [14] (fun i wr => ∃ k : Nat, k ≤ L.length ∧ i = .int .i64 k ∧ Hid (flatTo L k) ∧ Below w.heap.size w wr) (fun i _ => L.length - (intOf i).toNat)
  case atStart => exact ⟨0, Nat.zero_le _, rfl, (fun i k x y hi => absurd hi (Nat.not_lt_zero _)), Below.refl _ _⟩
  case round =>
    obtain ⟨k, hk, rfl, HF, hB⟩ := hrel
    rcases Nat.lt_or_ge k L.length with hlt | hge
    · obtain ⟨ad, A1, c1, rfl, hab, d1, d2, hC⟩ := (h.below hB).at (i := k) (List.getElem?_eq_getElem hlt)
      have hxv := HV.out _ (List.getElem_mem hlt)
      have HLK : Hid (L[k]? = some L[k]) := List.getElem?_eq_getElem hlt
      generalize L[k] = x at *
      obtain ⟨xl, xm⟩ := x
      simp only at d1 d2 hC hxv
      have HXV : Hid (validC xl) := hxv
      have b0 : Below w.heap.size w (wr.alloc (.cells #[.slice A1 xl.length c1, .bool xm] 24)) := hB.alloc hB.size _
      have k0 := Bk.new wr 24 #[.slice A1 xl.length c1, .bool xm]
      have hC0 : IsC (wr.alloc (.cells #[.slice A1 xl.length c1, .bool xm] 24)) (wr.alloc (.cells #[.slice A1 xl.length c1, .bool xm] 24)).heap.size (.agg #[.slice A1 xl.length c1, .bool xm]) xl xm := (hC.more hB.size).next (below_alloc wr _)
      have b1 : (k : Int) ≤ c := by omega
      have b2 : (0 : Int) ≤ k := by omega
      clear hC hxv
      go_wp2_with fail
      generalize hw1 : wr.alloc (.cells #[.slice A1 xl.length c1, .bool xm] 24) = w1 at *
      have hz1 : wr.heap.size < w1.heap.size := by rw [← hw1]; simp
      clear hw1
      obtain ⟨wo, hwo⟩ : ∃ wo : World, wo = wr := ⟨_, rfl⟩
      subst hwo
      go_loopw [23] (fun i wi => ∃ j : Nat, j ≤ k ∧ i = .int .i64 j ∧ Hid (∀ (m : Nat) (y : Ce), m < j → L[m]? = some y → ¬ 0 < commonQ xl y.1 0) ∧ Below w1.heap.size w1 wi) (fun i _ => k - (intOf i).toNat)
      case atStart => exact ⟨0, Nat.zero_le _, rfl, (fun m y hm => absurd hm (Nat.not_lt_zero _)), Below.refl _ _⟩
      case round =>
        obtain ⟨j, hj, rfl, HG, hB1⟩ := hrel
        rcases Nat.lt_or_ge j k with hltj | hgej
        · obtain ⟨ad', A2, c2, he2, hab2, d3, d4, hD⟩ := ((h.below (b0.trans (hB1.mono b0.size)))).at (i := j) (List.getElem?_eq_getElem (show j < L.length by omega))
          obtain rfl : ad = ad' := Option.some.inj he2
          have hyv := HV.out _ (List.getElem_mem (show j < L.length by omega))
          have HLJ : Hid (L[j]? = some (L[j]'(by omega))) := List.getElem?_eq_getElem (by omega)
          generalize (L[j]'(by omega)) = y at *
          obtain ⟨yl, ym⟩ := y
          simp only at d3 d4 hD hyv
          have hs1 := hB1.size
          have k1 := k0.below hB1 k0.lt
          have hwo : Below wr.heap.size wr (wr.alloc (.cells #[.slice A2 yl.length c2, .bool ym] 24)) := below_alloc wr _
          have kb := Bk.new wr 24 #[.slice A2 yl.length c2, .bool ym]
          have ka := k1.alloc (.cells #[.slice A2 yl.length c2, .bool ym] 24)
          have hCa := (hC0.next hB1).next hwo
          have hCb := (hD.more (Nat.le_trans b0.size hs1)).next hwo
          have hB4 := hB1.trans (hwo.mono hs1)
          obtain ⟨x0, x1⟩ := bk2 ka
          obtain ⟨y0, y1⟩ := bk2 kb
          have HYV : Hid (validC yl) := hyv
          clear hD hwo ka kb k1 hyv
          go_wp2_with fail
          refine (common_any xl yl xm ym _ _ 0 _ hCa hCb HXV.out HYV.out (by omega)).mono ?_
          rintro e w2 ⟨hb2, v2, rfl, hF⟩
          have hB5 := hB4.trans (hb2.mono hB4.size)
          clear hCa hCb hb2 x0 x1 y0 y1 hB4
          by_cases hpos : 0 < commonQ xl yl 0
          · have h1 : 0 < sgQ (commonQ xl yl 0) := (sgQ_gt _).2 hpos
            have hzf : z = false := by
              cases hzz : z
              · rfl
              · have h9 := (HZ.out.1 hzz).2 k j (xl, xm) (yl, ym) HLK.out HLJ.out hltj
                simp only at h9
                exact absurd hpos h9
            subst hzf
            clear hpos
            generalize commonQ xl yl 0 = qq at *
            go_wp2_with fail
            refine (fsign_any qq _ w2 hF).mono ?_
            rintro e w3 ⟨hb3, rfl⟩
            have hB6 := hB5.trans (hb3.mono hB5.size)
            generalize sgQ qq = sq at *
            clear hF hb3
            go_wp2
            go_ret
            exact ⟨b0.trans (hB6.mono b0.size), rfl⟩
          · have h1 : ¬ 0 < sgQ (commonQ xl yl 0) := fun h => hpos ((sgQ_gt _).1 h)
            have HN : Hid (∀ (m : Nat) (y : Ce), m < j + 1 → L[m]? = some y → ¬ 0 < commonQ xl y.1 0) := fun m y hm hy => by
              rcases Nat.lt_or_ge m j with h5 | h5
              · exact HG.out m y h5 hy
              · have : m = j := by omega
                subst this
                have := HLJ.out
                rw [hy] at this
                injection this with this
                subst this
                exact hpos
            clear hpos
            generalize commonQ xl yl 0 = qq at *
            go_wp2_with fail
            refine (fsign_any qq _ w2 hF).mono ?_
            rintro e w3 ⟨hb3, rfl⟩
            have hB6 := hB5.trans (hb3.mono hB5.size)
            generalize sgQ qq = sq at *
            clear hF hb3
            go_wp2
            go_roundw
            case rel => exact ⟨j + 1, by omega, by go_num, HN, hB6⟩
            case measure => simp [intOf]; omega
        · have hjk : j = k := by omega
          subst hjk
          have HN : Hid (flatTo L (j + 1)) := fun i m x y hi hx hy hm => by
            rcases Nat.lt_or_ge i j with h5 | h5
            · exact HF.out i m x y h5 hx hy hm
            · have : i = j := by omega
              subst this
              have := HLK.out
              rw [hx] at this
              injection this with this
              subst this
              exact HG.out m y hm hy
          go_wp2
          go_roundw
          case rel => exact ⟨j + 1, by omega, by go_num, HN, b0.trans (hB1.mono b0.size)⟩
          case measure => simp [intOf]; omega
    · have hkl : k = L.length := by omega
      subst hkl
      have hzt : z = true := HZ.out.2 ⟨by omega, flatTo_all.2 HF.out⟩
      subst hzt
      go_wp2
      go_ret
      exact ⟨hB, rfl⟩

set_option maxRecDepth 100000 in
theorem ValidGrid_true (L : List Ce) (v : Value) (w : World) (h : IsCs w w.heap.size v L) (hL : L.length ≤ 64) (hval : ∀ x ∈ L, validC x.1) (hfl : flatG L) :
    Calls Tryd.prog 22 #[v] w fun e w' => Below w.heap.size w w' ∧ e = .returned (.bool true) := by
  have C1 := cells_any v L w (by omega) h false (by
    constructor
    · intro h; cases h
    · rintro ⟨x, hx, h⟩; exact absurd (hval x hx) h)
  have C2 := Lib.hid (fun W (hb : Below w.heap.size w W) => grid_any L v W (h.next hb) hval (by omega) true ⟨fun _ => ⟨hL, hfl⟩, fun _ => rfl⟩)
  clear hval hfl h
  simp only [Bool.false_eq_true, if_false] at C1
  go_enter Tryd.func22, Tryd.ntmps22
  go_wp2_with fail
  refine C1.mono ?_
  rintro e w1 ⟨hb1, rfl⟩
  clear C1
  go_wp2_with fail
  refine (C2.out w1 hb1).mono ?_
  rintro e w2 ⟨hb2, rfl⟩
  clear C2
  go_wp2
  go_ret
  exact ⟨hb1.trans (hb2.mono hb1.size), rfl⟩
end Go.Proofs.YtblopapobmbboaaDoor

namespace Go.Proofs.YtblopapobmbboaaDoor
open Go.RowKit Ar

set_option maxRecDepth 100000 in
set_option maxHeartbeats 3200000 in
theorem rects_walk (A A' : Option Addr) (c c' : Nat) (xs ys : List Int) (w : World) (hcx : xs.length ≤ maxLen) (hcy : ys.length ≤ maxLen) (h : Rd w w.heap.size A (irow xs)) (h' : Rd w w.heap.size A' (irow ys)) (he : EnvR w) :
    Calls Tryd.prog 6 #[.slice A xs.length c, .slice A' ys.length c'] w fun e w' => Below w.heap.size w w' ∧ e = .returned (.bool true) := by
  unfold maxLen at hcx hcy
  have SN := sane_any w he
  by_cases hx : 80 < xs.length
  · go_enter Tryd.func6, Tryd.ntmps6
    go_wp2_with fail
    refine SN.mono ?_
    rintro e w1 ⟨hb1, rfl⟩
    go_wp2
    go_ret
    exact ⟨hb1, rfl⟩
  by_cases hy : 80 < ys.length
  · go_enter Tryd.func6, Tryd.ntmps6
    go_wp2_with fail
    refine SN.mono ?_
    rintro e w1 ⟨hb1, rfl⟩
    go_wp2
    go_ret
    exact ⟨hb1, rfl⟩
  obtain ⟨ok, hok⟩ : ∃ z : Bool, z = true ↔ ascP xs ∧ ascP ys ∧ (xs.length - 1) * (ys.length - 1) ≤ 64 := bool_of _
  have R1 := rects_any A A' c c' xs ys w (by omega) (by omega) h h' ok hok
  have R2 := fun W (hb : Below w.heap.size w W) => rrects_any A A' c c' xs ys W (by omega) (by omega) ((h.below hb).more hb.size) ((h'.below hb).more hb.size) ok hok
  have hx' : ¬ (80 : Int) < xs.length := by omega
  have hy' : ¬ (80 : Int) < ys.length := by omega
  clear SN h h'
  cases ok
  · simp only [Bool.false_eq_true, if_false] at R1 R2
    have HR2 := Lib.hid R2
    clear R2 hok
    go_enter Tryd.func6, Tryd.ntmps6
    go_wp2_with fail
    refine R1.mono ?_
    rintro e w1 ⟨hb1, v1, rfl, hI1⟩
    clear R1
    go_wp2_with fail
    refine (HR2.out w1 hb1).mono ?_
    rintro e w2 ⟨hb2, v2, rfl, hI2⟩
    have hB2 := hb1.trans (hb2.mono hb1.size)
    have hI1' := hI1.next hb2
    clear hI1 hb2 hb1
    obtain ⟨A1, c1, rfl⟩ := hI1'.form
    obtain ⟨A2, c2, rfl⟩ := hI2.form
    have SC := sameCells_true [] _ _ w2 hI1' hI2 (by simp) (fun x hx => by cases hx)
    clear hI2 hI1'
    go_wp2_with fail
    refine SC.mono ?_
    rintro e w3 ⟨hb3, rfl⟩
    have hB3 := hB2.trans (hb3.mono hB2.size)
    clear SC hB2 hb3
    have SN := sane_any w3 (he.next hB3)
    go_wp2_with fail
    refine SN.mono ?_
    rintro e w4 ⟨hb4, rfl⟩
    clear SN
    go_wp2
    go_ret
    exact ⟨hB3.trans (hb4.mono hB3.size), rfl⟩
  · simp only [if_true] at R1 R2
    have HR2 := Lib.hid R2
    obtain ⟨e1, e2, e3⟩ := hok.1 rfl
    have hval := recs_valid e1 e2
    have hfl := recs_flat e1 e2
    have hLl : (recN xs ys ((xs.length - 1) * (ys.length - 1))).length ≤ 64 := by rw [recN_len]; exact e3
    clear R2 hok e1 e2 e3
    generalize recN xs ys ((xs.length - 1) * (ys.length - 1)) = L at *
    have HV := Lib.hid hval
    have HF := Lib.hid hfl
    clear hval hfl
    go_enter Tryd.func6, Tryd.ntmps6
    go_wp2_with fail
    refine R1.mono ?_
    rintro e w1 ⟨hb1, v1, rfl, hI1⟩
    clear R1
    go_wp2_with fail
    refine (HR2.out w1 hb1).mono ?_
    rintro e w2 ⟨hb2, v2, rfl, hI2⟩
    have hB2 := hb1.trans (hb2.mono hb1.size)
    have hI1' := hI1.next hb2
    clear hI1 hb2 hb1
    obtain ⟨A1, c1, rfl⟩ := hI1'.form
    obtain ⟨A2, c2, rfl⟩ := hI2.form
    have SC := sameCells_true L _ _ w2 hI1' hI2 (by omega) (fun x hx => by have := (HV.out x hx).2.1; omega)
    clear hI2
    go_wp2_with fail
    refine SC.mono ?_
    rintro e w3 ⟨hb3, rfl⟩
    have hB3 := hB2.trans (hb3.mono hB2.size)
    have hI3 := hI1'.next hb3
    clear SC hI1' hB2 hb3
    have SN := sane_any w3 (he.next hB3)
    go_wp2_with fail
    refine SN.mono ?_
    rintro e w4 ⟨hb4, rfl⟩
    have hB4 := hB3.trans (hb4.mono hB3.size)
    have hI4 := hI3.next hb4
    clear SN hI3 hB3 hb4
    by_cases h20 : 20 < L.length
    · have h20' : (20 : Int) < L.length := by omega
      clear hI4
      go_wp2
      go_ret
      exact ⟨hB4, rfl⟩
    · have h20' : ¬ (20 : Int) < L.length := by omega
      have VG := ValidGrid_true L _ w4 hI4 hLl HV.out HF.out
      clear hI4
      go_wp2_with fail
      refine VG.mono ?_
      rintro e w5 ⟨hb5, rfl⟩
      clear VG
      go_wp2
      go_ret
      exact ⟨hB4.trans (hb5.mono hB4.size), rfl⟩
end Go.Proofs.YtblopapobmbboaaDoor
