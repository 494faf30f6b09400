/-
  Walks: the law's same; the reference's flat.
  Walks: ValidGrid on both sides.
  Walk: the reference's Areas.
  Walk: package regrid's Areas.
-/
import Derived.Test.YtaihplgfbepgpaaGreatDoorRcV
import Derived.Test.YtaihplgfbepgpaaGreatDoorRecT
import Derived.BigQuiet
import Derived.Deep.QuietTactic
namespace Go.Proofs.YtaihplgfbepgpaaGreatDoor
open Go.RowKit Ar

/-- A row of texts. -/
def trow (l : List (List UInt8)) : List Value := l.map fun q => .string ⟨q.toArray⟩
theorem trow_len (l : List (List UInt8)) : (trow l).length = l.length := by unfold trow; rw [List.length_map]
theorem trow_at {l : List (List UInt8)} {i : Nat} (h : i < l.length) : (trow l)[i]? = some (.string ⟨(l.getD i []).toArray⟩) := by
  unfold trow
  rw [List.getElem?_map, List.getElem?_eq_getElem h, List.getD_eq_getElem?_getD, List.getElem?_eq_getElem h]
  rfl

set_option maxRecDepth 100000 in
set_option maxHeartbeats 1600000 in
theorem same_any (l : List (List UInt8)) (A A' : Option Addr) (c c' : Nat) (w : World) (hl : l.length ≤ 1000000) (h : Rd w w.heap.size A (trow l)) (h' : Rd w w.heap.size A' (trow l)) :
    Calls Tryz.prog 13 #[.slice A l.length c, .slice A' l.length c'] w fun e w' => Below w.heap.size w w' ∧ e = .returned (.bool true) := by
  go_enter Tryz.func13, Tryz.ntmps13
  go_wp2_with fail
  go_loopw [5] (fun x wr => ∃ i : Nat, i ≤ l.length ∧ x = .int .i64 i ∧ Below w.heap.size w wr) (fun x _ => l.length - (intOf x).toNat)
  case atStart => exact ⟨0, Nat.zero_le _, rfl, Below.refl _ _⟩
  case round =>
    obtain ⟨i, hi, rfl, hB⟩ := hrel
    rcases Nat.lt_or_ge i l.length with hlt | hge
    · obtain ⟨ad, rfl, hab, d1⟩ := (h.below hB).at_ (k := i) (by rw [trow_len]; exact hlt)
      obtain ⟨ad', rfl, hab', d2⟩ := (h'.below hB).at_ (k := i) (by rw [trow_len]; exact hlt)
      have e1 : (trow l)[i]'(by rw [trow_len]; exact hlt) = .string ⟨(l.getD i []).toArray⟩ := by
        have := trow_at hlt
        rw [List.getElem?_eq_getElem (by rw [trow_len]; exact hlt)] at this
        injection this
      rw [e1] at d1 d2
      have b1 : (0 : Int) ≤ (i : Int) := by omega
      have b2 : (i : Int) < (l.length : Int) := by omega
      clear e1
      go_wp2_with fail
      go_quiet (fail)
      go_wp2
      go_roundw
      case rel => exact ⟨i + 1, by omega, by go_num, below_drewN hB nq⟩
      case measure => simp [intOf]; omega
    · have hkl : i = l.length := by omega
      subst hkl
      go_wp2
      go_ret
      exact ⟨hB, rfl⟩

theorem rcommon_sgn {xl yl : List Pl} (hx : validC xl) (hy : validC yl) : sgQ (rcommonQ xl yl 0) ≠ 0 ↔ 0 < commonQ xl yl 0 := by
  rw [rcommon_eq hx hy, Ne, sgQ_zero_iff]
  have h0 := (commonQ_bounds (la := xl) (lb := yl) hx hy).1
  constructor
  · intro h; grind
  · intro h e; grind

set_option maxRecDepth 100000 in
set_option maxHeartbeats 3200000 in
theorem rflat_any (L : List Ce) (v : Value) (w : World) (h : IsCs w w.heap.size v L) (hval : ∀ x ∈ L, validC x.1) (hL : L.length ≤ 1000000) (z : Bool) (hz : z = true ↔ flatG L) :
    Calls Tryz.prog 30 #[v] w fun e w' => Below w.heap.size w w' ∧ e = .returned (.bool z) := by
  obtain ⟨A, c, rfl⟩ := h.form
  have hcap := h.cap
  have HZ := Lib.hid hz
  have HV := Lib.hid hval
  clear hz hval
  go_enter Tryz.func30, Tryz.ntmps30
  go_wp2_with fail
  go_loopw [3] (fun i wr => ∃ k : Nat, k ≤ L.length ∧ i = .int .i64 k ∧ Hid (flatTo L k) ∧ Below w.heap.size w wr) (fun i _ => L.length - (intOf i).toNat)
  case atStart => exact ⟨0, Nat.zero_le _, rfl, (fun i k x y hi => absurd hi (Nat.not_lt_zero _)), Below.refl _ _⟩
  case round =>
    obtain ⟨k, hk, rfl, HF, hB⟩ := hrel
    rcases Nat.lt_or_ge k L.length with hlt | hge
    · obtain ⟨ad, A1, c1, rfl, hab, d1, d2, hC⟩ := h.at (i := k) (List.getElem?_eq_getElem hlt)
      have hxv := HV.out _ (List.getElem_mem hlt)
      have HLK : Hid (L[k]? = some L[k]) := List.getElem?_eq_getElem hlt
      generalize L[k] = x at *
      obtain ⟨xl, xm⟩ := x
      simp only at d1 d2 hC hxv
      have HXV : Hid (validC xl) := hxv
      have b1 : (k : Int) < L.length := by omega
      have b2 : (0 : Int) ≤ k := by omega
      clear hxv
      go_wp2_with fail
      go_loopw [4] (fun i wi => ∃ j : Nat, j ≤ k ∧ i = .int .i64 j ∧ Hid (∀ (m : Nat) (y : Ce), m < j → L[m]? = some y → ¬ 0 < commonQ xl y.1 0) ∧ Below w.heap.size w wi) (fun i _ => k - (intOf i).toNat)
      case atStart => exact ⟨0, Nat.zero_le _, rfl, (fun m y hm => absurd hm (Nat.not_lt_zero _)), hB⟩
      case round =>
        clear hB
        obtain ⟨j, hj, rfl, HG, hB⟩ := hrel
        rcases Nat.lt_or_ge j k with hltj | hgej
        · obtain ⟨ad', A2, c2, he2, hab2, d3, d4, hD⟩ := h.at (i := j) (List.getElem?_eq_getElem (show j < L.length by omega))
          obtain rfl : ad = ad' := Option.some.inj he2
          have hyv := HV.out _ (List.getElem_mem (show j < L.length by omega))
          have HLJ : Hid (L[j]? = some (L[j]'(by omega))) := List.getElem?_eq_getElem (by omega)
          generalize (L[j]'(by omega)) = y at *
          obtain ⟨yl, ym⟩ := y
          simp only at d3 d4 hD hyv
          have b3 : (j : Int) < L.length := by omega
          have b4 : (0 : Int) ≤ j := by omega
          have hs := hB.size
          have HS := Lib.hid (rcommon_sgn HXV.out hyv)
          have hsz := rcommonQ_sz HXV.out hyv (dx := 0) (by omega)
          have CM := Lib.hid (fun X (h : Below w.heap.size w X) => rcommon_any xl yl xm ym _ _ 0 X ((hC.below h).more h.size) ((hD.below h).more h.size) HXV.out hyv (by omega))
          have KK : Hid (∀ X, Below w.heap.size w X → ((X.cell? (ad.add (k * 2)) = some (.slice A1 xl.length c1) ∧ X.cell? ⟨(ad.add (k * 2)).block, (ad.add (k * 2)).off + 1, none⟩ = some (.bool xm)) ∧ (X.cell? (ad.add (j * 2)) = some (.slice A2 yl.length c2) ∧ X.cell? ⟨(ad.add (j * 2)).block, (ad.add (j * 2)).off + 1, none⟩ = some (.bool ym)))) := fun X h => ⟨⟨(h.cell (by rw [addr_block]; exact hab)).trans d1, (h.cell (p := ⟨(ad.add (k * 2)).block, (ad.add (k * 2)).off + 1, none⟩) (by show (ad.add (k * 2)).block < _; rw [addr_block]; exact hab)).trans d2⟩, ⟨(h.cell (by rw [addr_block]; exact hab)).trans d3, (h.cell (p := ⟨(ad.add (j * 2)).block, (ad.add (j * 2)).off + 1, none⟩) (by show (ad.add (j * 2)).block < _; rw [addr_block]; exact hab)).trans d4⟩⟩
          obtain ⟨⟨x0, x1⟩, y0, y1⟩ := KK.out wr hB
          generalize rcommonQ xl yl 0 = rq at *
          clear hyv hD
          go_wp2_with fail
          go_region_held3 (fun X => (X.cell? (ad.add (k * 2)) = some (.slice A1 xl.length c1) ∧ X.cell? ⟨(ad.add (k * 2)).block, (ad.add (k * 2)).off + 1, none⟩ = some (.bool xm)) ∧ (X.cell? (ad.add (j * 2)) = some (.slice A2 yl.length c2) ∧ X.cell? ⟨(ad.add (j * 2)).block, (ad.add (j * 2)).off + 1, none⟩ = some (.bool ym)))
            (first | exact KK.out _ hB.drew | exact KK.out _ hB1 | exact KK.out _ hB2)
            (first
              | (go_at_call 65; (with_reducible refine (CM.out _ hB.drew).mono ?_); rintro e w1 ⟨hb1, v1, rfl, z1⟩; have hB1 := hB.drew.trans (hb1.mono hs))
              | (go_at_call 40; (with_reducible refine (qsgn_any rq _ _ z1 (by omega)).mono ?_); rintro e w2 ⟨hb2, rfl⟩; have hB2 := hB1.trans (hb2.mono hB1.size)))
          clear KK CM x0 x1 y0 y1 z1 hb1 hb2 hB1
          by_cases hpos : sgQ rq = 0
          · have HN : Hid (∀ (m : Nat) (y : Ce), m < j + 1 → L[m]? = some y → ¬ 0 < commonQ xl y.1 0) := fun m y hm hy => by
              rcases Nat.lt_or_ge m j with h5 | h5
              · exact HG.out m y h5 hy
              · have : m = j := by omega
                subst this
                have := HLJ.out
                rw [hy] at this
                injection this with this
                subst this
                exact fun h => (HS.out.2 h) hpos
            rw [hpos]
            clear hpos HS
            go_wp2
            go_roundw
            case rel => exact ⟨j + 1, by omega, by go_num, HN, hB2⟩
            case measure => simp [intOf]; omega
          · have hzf : z = false := by
              cases hzz : z
              · rfl
              · have h9 := (HZ.out.1 hzz) k j (xl, xm) (yl, ym) HLK.out HLJ.out hltj
                exact absurd (HS.out.1 hpos) h9
            have hne : (sgQ rq != 0) = true := by simpa using hpos
            subst hzf
            clear hpos HS
            generalize sgQ rq = sq at *
            go_wp2
            go_ret
            exact ⟨hB2, rfl⟩
        · have hjk : j = k := by omega
          subst hjk
          have HN : Hid (flatTo L (j + 1)) := fun i m x y hi hx hy hm => by
            rcases Nat.lt_or_ge i j with h5 | h5
            · exact HF.out i m x y h5 hx hy hm
            · have : i = j := by omega
              subst this
              have := HLK.out
              rw [hx] at this
              injection this with this
              subst this
              exact HG.out m y hm hy
          go_wp2
          go_roundw
          case rel => exact ⟨j + 1, by omega, by go_num, HN, hB⟩
          case measure => simp [intOf]; omega
    · have hkl : k = L.length := by omega
      subst hkl
      have hzt : z = true := HZ.out.2 (flatTo_all.2 HF.out)
      subst hzt
      go_wp2
      go_ret
      exact ⟨hB, rfl⟩
end Go.Proofs.YtaihplgfbepgpaaGreatDoor

namespace Go.Proofs.YtaihplgfbepgpaaGreatDoor
open Go.RowKit Ar

set_option maxRecDepth 100000 in
set_option maxHeartbeats 1600000 in
theorem ValidGrid_any (L : List Ce) (v : Value) (w : World) (h : IsCs w w.heap.size v L) (hL : L.length ≤ 64) (bad z : Bool) (hbad : bad = true ↔ ∃ x ∈ L, ¬ validC x.1) (hz : bad = false → (z = true ↔ flatG L)) :
    Calls Tryz.prog 11 #[v] w fun e w' => Below w.heap.size w w' ∧ e = .returned (.bool (!bad && z)) := by
  have C1 := cells_any v L w (by omega) h bad hbad
  cases bad with
  | true =>
    simp only [if_true] at C1
    clear hbad hz
    go_enter Tryz.func11, Tryz.ntmps11
    go_wp2_with fail
    refine C1.mono ?_
    rintro e w1 ⟨hb1, rfl⟩
    clear C1
    go_wp2
    go_ret
    exact ⟨hb1, rfl⟩
  | false =>
    have hv : ∀ x ∈ L, validC x.1 := fun x hx => Classical.byContradiction fun h0 => by
      have := hbad.2 ⟨x, hx, h0⟩
      cases this
    have C2 := Lib.hid (fun W (hb : Below w.heap.size w W) => grid_any L v W (h.next hb) hv (by omega) z (by rw [hz rfl]; exact ⟨fun h => ⟨hL, h⟩, fun h => h.2⟩))
    simp only [Bool.false_eq_true, if_false] at C1
    clear hbad hz hv
    go_enter Tryz.func11, Tryz.ntmps11
    go_wp2_with fail
    refine C1.mono ?_
    rintro e w1 ⟨hb1, rfl⟩
    clear C1
    go_wp2_with fail
    refine (C2.out w1 hb1).mono ?_
    rintro e w2 ⟨hb2, rfl⟩
    clear C2
    go_wp2
    go_ret
    exact ⟨hb1.trans (hb2.mono hb1.size), rfl⟩

set_option maxRecDepth 100000 in
set_option maxHeartbeats 1600000 in
theorem RValidGrid_any (L : List Ce) (v : Value) (w : World) (h : IsCs w w.heap.size v L) (hL : L.length ≤ 64) (bad z : Bool) (hbad : bad = true ↔ ∃ x ∈ L, ¬ validC x.1) (hz : bad = false → (z = true ↔ flatG L)) :
    Calls Tryz.prog 12 #[v] w fun e w' => Below w.heap.size w w' ∧ e = .returned (.bool (!bad && z)) := by
  obtain ⟨A, c, rfl⟩ := h.form
  have hcap := h.cap
  have HBD := Lib.hid hbad
  have HZ := Lib.hid hz
  clear hbad hz
  go_enter Tryz.func12, Tryz.ntmps12
  go_wp2_with fail
  go_loopw [3] (fun i wr => ∃ k : Nat, k ≤ L.length ∧ i = .int .i64 k ∧ Hid (∀ (m : Nat) (y : Ce), m < k → L[m]? = some y → validC y.1) ∧ Below w.heap.size w wr) (fun i _ => L.length - (intOf i).toNat)
  case atStart => exact ⟨0, Nat.zero_le _, rfl, (fun m y hm => absurd hm (Nat.not_lt_zero _)), Below.refl _ _⟩
  case round =>
    obtain ⟨k, hk, rfl, HF, hB⟩ := hrel
    rcases Nat.lt_or_ge k L.length with hlt | hge
    · obtain ⟨ad, A1, c1, rfl, hab, d1, d2, hC⟩ := (h.below hB).at (i := k) (List.getElem?_eq_getElem hlt)
      have HLK : Hid (L[k]? = some L[k]) := List.getElem?_eq_getElem hlt
      have hmem := List.getElem_mem hlt
      generalize L[k] = x at *
      obtain ⟨xl, xm⟩ := x
      simp only at d1 d2 hC
      obtain ⟨q, hq⟩ := bool_of (validC xl)
      have V := rvalid_any xl xm _ wr (hC.more hB.size) q hq
      have b1 : (k : Int) < L.length := by omega
      have b2 : (0 : Int) ≤ k := by omega
      have HQ := Lib.hid hq
      clear hC hq
      go_wp2_with fail
      refine V.mono ?_
      rintro e w1 ⟨hb1, rfl⟩
      have hB1 := hB.trans (hb1.mono hB.size)
      clear V d1 d2 hB hb1
      cases q with
      | false =>
        have hbt : Hid (bad = true) := HBD.out.2 ⟨_, hmem, fun h0 => by have := HQ.out.2 h0; cases this⟩
        clear hmem
        go_wp2
        go_ret
        exact ⟨hB1, by rw [hbt.out] <;> rfl⟩
      | true =>
        have HN : Hid (∀ (m : Nat) (y : Ce), m < k + 1 → L[m]? = some y → validC y.1) := fun m y hm hy => by
          rcases Nat.lt_or_ge m k with h5 | h5
          · exact HF.out m y h5 hy
          · have : m = k := by omega
            subst this
            have := HLK.out
            rw [hy] at this
            injection this with this
            subst this
            exact HQ.out.1 rfl
        clear hmem
        go_wp2
        go_roundw
        case rel => exact ⟨k + 1, by omega, by go_num, HN, hB1⟩
        case measure => simp [intOf]; omega
    · have hkl : k = L.length := by omega
      subst hkl
      have hv : ∀ x ∈ L, validC x.1 := fun x hx => by
        obtain ⟨m, hm⟩ := List.getElem?_of_mem hx
        exact HF.out m x (List.getElem?_eq_some_iff.1 hm).1 hm
      have hbf : bad = false := by
        cases hbb : bad
        · rfl
        · obtain ⟨x, hx, h0⟩ := HBD.out.1 hbb
          exact absurd (hv x hx) h0
      have FL := rflat_any L _ wr ((h.below hB).more hB.size) hv (by omega) z (HZ.out hbf)
      have HB := Lib.hid hbf
      clear hv hbf
      go_wp2_with fail
      refine FL.mono ?_
      rintro e w1 ⟨hb1, rfl⟩
      have hB1 := hB.trans (hb1.mono hB.size)
      clear FL
      go_wp2
      go_ret
      exact ⟨hB1, by rw [HB.out]; simp⟩
end Go.Proofs.YtaihplgfbepgpaaGreatDoor

namespace Go.Proofs.YtaihplgfbepgpaaGreatDoor
open Go.RowKit Ar

theorem Tryz.rstring_info : (Tryz.prog.info? 9).map (fun i => (i.zero, i.size, i.bytes)) = some (some (.string ⟨#[]⟩), 1, 16) := by kernel_rfl
/-- The texts of the areas of cells. -/
def areaT (L : List Ce) : List (List UInt8) := L.map fun x => ratText (areaQ (poly x.1 0))
theorem areaT_take {L : List Ce} {k : Nat} {x : Ce} (h : L[k]? = some x) : trow (areaT (L.take (k + 1))) = trow (areaT (L.take k)) ++ [.string ⟨(ratText (areaQ (poly x.1 0))).toArray⟩] := by
  unfold areaT trow
  rw [List.take_add_one, h]
  simp

set_option maxRecDepth 100000 in
set_option maxHeartbeats 3200000 in
theorem RAreas_any (L : List Ce) (v : Value) (w : World) (h : IsCs w w.heap.size v L) (hL : L.length ≤ 64) (bad z : Bool) (hbad : bad = true ↔ ∃ x ∈ L, ¬ validC x.1) (hz : bad = false → (z = true ↔ flatG L)) :
    Calls Tryz.prog 10 #[v] w fun e w' => Below w.heap.size w w' ∧ ∃ (A : Option Addr) (c : Nat), e = .returned (.tuple #[.slice A (if bad then 0 else if z then L.length else 0) c, .int .i64 (if bad then 80 else if z then 0 else 81)]) ∧ Rd w' w'.heap.size A (trow (if bad then [] else if z then areaT L else [])) := by
  have VG := Lib.hid (fun X (hX : Below w.heap.size w X) => RValidGrid_any L v X ((h.below hX).more hX.size) hL bad z hbad hz)
  obtain ⟨A, c, rfl⟩ := h.form
  have hcap := h.cap
  have HBD := Lib.hid hbad
  clear hbad hz
  obtain ⟨i0, hi0, hz0, hz1, hz2⟩ := info_parts Tryz.rstring_info
  go_enter Tryz.func10, Tryz.ntmps10
  go_wp2_with fail
  go_loopw [4] (fun i wr => ∃ k : Nat, k ≤ L.length ∧ i = .int .i64 k ∧ Hid (∀ (m : Nat) (y : Ce), m < k → L[m]? = some y → validC y.1) ∧ Below w.heap.size w wr) (fun i _ => L.length - (intOf i).toNat)
  case atStart => exact ⟨0, Nat.zero_le _, rfl, (fun m y hm => absurd hm (Nat.not_lt_zero _)), Below.refl _ _⟩
  case round =>
    obtain ⟨k, hk, rfl, HF, hB⟩ := hrel
    rcases Nat.lt_or_ge k L.length with hlt | hge
    · obtain ⟨ad, A1, c1, rfl, hab, d1, d2, hC⟩ := (h.below hB).at (i := k) (List.getElem?_eq_getElem hlt)
      have HLK : Hid (L[k]? = some L[k]) := List.getElem?_eq_getElem hlt
      have hmem := List.getElem_mem hlt
      generalize L[k] = x at *
      obtain ⟨xl, xm⟩ := x
      simp only at d1 d2 hC
      obtain ⟨q, hq⟩ := bool_of (validC xl)
      have V := rvalid_any xl xm _ wr (hC.more hB.size) q hq
      have b1 : (k : Int) < L.length := by omega
      have b2 : (0 : Int) ≤ k := by omega
      have HQ := Lib.hid hq
      clear hC hq
      go_wp2_with fail
      refine V.mono ?_
      rintro e w1 ⟨hb1, rfl⟩
      have hB1 := hB.trans (hb1.mono hB.size)
      clear V d1 d2 hB hb1
      cases q with
      | false =>
        have hbt : Hid (bad = true) := HBD.out.2 ⟨_, hmem, fun h0 => by have := HQ.out.2 h0; cases this⟩
        clear hmem VG
        go_wp2
        go_ret2
        exact ⟨hB1, none, ⟨0, rfl⟩, fun h0 => absurd rfl h0⟩
      | true =>
        have HN : Hid (∀ (m : Nat) (y : Ce), m < k + 1 → L[m]? = some y → validC y.1) := fun m y hm hy => by
          rcases Nat.lt_or_ge m k with h5 | h5
          · exact HF.out m y h5 hy
          · have : m = k := by omega
            subst this
            have := HLK.out
            rw [hy] at this
            injection this with this
            subst this
            exact HQ.out.1 rfl
        clear hmem
        go_wp2
        go_roundw
        case rel => exact ⟨k + 1, by omega, by go_num, HN, hB1⟩
        case measure => simp [intOf]; omega
    · have hkl : k = L.length := by omega
      subst hkl
      have HV : Hid (∀ x ∈ L, validC x.1) := fun x hx => by
        obtain ⟨m, hm⟩ := List.getElem?_of_mem hx
        exact HF.out m x (List.getElem?_eq_some_iff.1 hm).1 hm
      have hbf : bad = false := by
        cases hbb : bad
        · rfl
        · obtain ⟨x, hx, h0⟩ := HBD.out.1 hbb
          exact absurd (HV.out x hx) h0
      subst hbf
      have VG1 := VG.out wr hB
      simp only [Bool.not_false, Bool.true_and] at VG1
      clear VG
      go_wp2_with fail
      refine VG1.mono ?_
      rintro e w2 ⟨hb2, rfl⟩
      have hB2 := hB.trans (hb2.mono hB.size)
      clear VG1 hb2 hB
      cases z with
      | false =>
        go_wp2
        go_ret2
        exact ⟨hB2, none, ⟨0, rfl⟩, fun h0 => absurd rfl h0⟩
      | true =>
        have hB20 := hB2
        go_wp2_with fail
        go_loopw [5, 6] (fun pv i wr => ∃ k : Nat, k ≤ L.length ∧ i = .int .i64 k ∧ wr.ownsRow w2.heap.size 9 1 pv k (trow (areaT (L.take k))) ∧ Below w2.heap.size w2 wr) (fun _ i _ => L.length - (intOf i).toNat)
        case atStart => exact ⟨0, Nat.zero_le _, rfl, by rw [List.take_zero]; exact World.ownsRow_nil _ _ _ _, Below.refl _ _⟩
        case round =>
          obtain ⟨k, hk, rfl, hown, hB⟩ := hrel
          have hBw := hB2.trans (hB.mono hB2.size)
          rcases Nat.lt_or_ge k L.length with hlt | hge
          · obtain ⟨ad, A1, c1, rfl, hab, d1, d2, hC⟩ := (h.below hBw).at (i := k) (List.getElem?_eq_getElem hlt)
            have hxv := HV.out _ (List.getElem_mem hlt)
            have HT := Lib.hid (areaT_take (List.getElem?_eq_getElem hlt))
            generalize L[k] = x at *
            obtain ⟨xl, xm⟩ := x
            simp only at d1 d2 hC hxv HT
            have AR := rarea_any xl xm _ wr (hC.more hBw.size) hxv
            have hsz := rareaQ_sz hxv
            rw [← rarea_eq hxv] at HT
            generalize rareaQ xl = qa at *
            have b1 : (k : Int) < L.length := by omega
            have b2 : (0 : Int) ≤ k := by omega
            clear hC hxv
            go_wp2_with fail
            refine AR.mono ?_
            rintro e w3 ⟨hb3, v3, rfl, z3⟩
            have hB3 := hB.trans (hb3.mono hB.size)
            have hown3 := own_next hown hb3
            clear AR d1 d2 hb3 hown hB
            go_wp2_with fail
            refine (qtext_any _ _ _ z3 (by omega)).mono ?_
            rintro e w4 ⟨hb4, rfl⟩
            have hB4 := hB3.trans (hb4.mono hB3.size)
            have hown4 := own_next hown3 hb4
            have hs4 := hB4.size
            generalize ratText qa = tx at *
            clear z3 hb4 hown3 hB3
            go_wp2_with (at_builtin; refine wpL_append _ rfl (.tmp 28) (.tmp 35) _ rfl w2.heap.size 9 i0 _ 1 16 Tryz.underlying25 hi0 hz0 hz1 hz2 rfl (by omega) _ k _ rfl (hown4.alloc _) (some ⟨w4.heap.size, 0, none⟩) 1 1 [.string ⟨tx.toArray⟩] rfl rfl (Rd.of_new w4 [.string ⟨tx.toArray⟩] 9) (by intro u hu; simp at hu; subst hu; rfl) (by unfold maxLen; omega) (by omega) (by simp; omega) ?_; intro v5 w5 hw1 hw2 _)
            have hB5 := below_app (hB4.alloc hs4 _) hw2 (by simp; omega) (hown4.alloc _) (Nat.le_refl _)
            rw [← HT.out] at hw1
            clear hown4 hw2 hB4 hs4
            go_roundw
            case rel => exact ⟨k + 1, by omega, by go_num, hw1, hB5⟩
            case measure => simp [intOf]; omega
          · obtain rfl : k = L.length := by omega
            rw [List.take_of_length_le (Nat.le_refl _)] at hown
            obtain ⟨Ap, cp, rfl, _⟩ := own_slice0 hown
            have hrdP := Lib.hid (Rd.of_own hown)
            clear hown
            go_wp2
            go_ret2
            exact ⟨hBw, Ap, ⟨cp, rfl⟩, hrdP.out⟩
end Go.Proofs.YtaihplgfbepgpaaGreatDoor

namespace Go.Proofs.YtaihplgfbepgpaaGreatDoor
open Go.RowKit Ar

set_option maxRecDepth 100000 in
set_option maxHeartbeats 3200000 in
theorem Areas_any (L : List Ce) (v : Value) (w : World) (h : IsCs w w.heap.size v L) (he : EnvR w) (hL : L.length ≤ 64) (bad z : Bool) (hbad : bad = true ↔ ∃ x ∈ L, ¬ validC x.1) (hz : bad = false → (z = true ↔ flatG L)) :
    Calls Tryz.prog 9 #[v] w fun e w' => Below w.heap.size w w' ∧ ∃ (A : Option Addr) (c : Nat), e = .returned (.tuple #[.slice A (if bad then 0 else if z then L.length else 0) c, .int .i64 (if bad then 80 else if z then 0 else 81)]) ∧ Rd w' w'.heap.size A (trow (if bad then [] else if z then areaT L else [])) := by
  have C1 := cells_any v L w (by omega) h bad hbad
  cases bad with
  | true =>
    simp only [if_true] at C1
    clear hbad hz
    go_enter Tryz.func9, Tryz.ntmps9
    go_wp2_with fail
    refine C1.mono ?_
    rintro e w1 ⟨hb1, rfl⟩
    clear C1
    go_wp2
    go_ret2
    exact ⟨hb1, none, ⟨0, rfl⟩, fun h0 => absurd rfl h0⟩
  | false =>
  have HV : Hid (∀ x ∈ L, validC x.1) := fun x hx => Classical.byContradiction fun h0 => by
    have := hbad.2 ⟨x, hx, h0⟩
    cases this
  have C2 := Lib.hid (fun W (hb : Below w.heap.size w W) => grid_any L v W (h.next hb) HV.out (by omega) z (by rw [hz rfl]; exact ⟨fun h => ⟨hL, h⟩, fun h => h.2⟩))
  simp only [Bool.false_eq_true, if_false] at C1
  obtain ⟨A, c, rfl⟩ := h.form
  have hcap := h.cap
  clear hbad hz
  obtain ⟨i0, hi0, hz0, hz1, hz2⟩ := info_parts Tryz.rstring_info
  go_enter Tryz.func9, Tryz.ntmps9
  go_wp2_with fail
  refine C1.mono ?_
  rintro e w1 ⟨hb1, rfl⟩
  clear C1
  go_wp2_with fail
  refine (C2.out w1 hb1).mono ?_
  rintro e w2 ⟨hb2, rfl⟩
  have hB2 := hb1.trans (hb2.mono hb1.size)
  clear C2 hb1 hb2
  cases z with
  | false =>
    go_wp2
    go_ret2
    exact ⟨hB2, none, ⟨0, rfl⟩, fun h0 => absurd rfl h0⟩
  | true =>
    go_wp2_with fail
    go_loopw [5, 18] (fun pv i wr => ∃ k : Nat, k ≤ L.length ∧ i = .int .i64 k ∧ wr.ownsRow w2.heap.size 9 1 pv k (trow (areaT (L.take k))) ∧ Below w2.heap.size w2 wr) (fun _ i _ => L.length - (intOf i).toNat)
    case atStart => exact ⟨0, Nat.zero_le _, rfl, by rw [List.take_zero]; exact World.ownsRow_nil _ _ _ _, Below.refl _ _⟩
    case round =>
      obtain ⟨k, hk, rfl, hown, hB⟩ := hrel
      have hBw := hB2.trans (hB.mono hB2.size)
      rcases Nat.lt_or_ge k L.length with hlt | hge
      · obtain ⟨ad, A1, c1, rfl, hab, d1, d2, hC⟩ := (h.below hBw).at (i := k) (List.getElem?_eq_getElem hlt)
        have hxv := HV.out _ (List.getElem_mem hlt)
        have HT := Lib.hid (areaT_take (List.getElem?_eq_getElem hlt))
        generalize L[k] = x at *
        obtain ⟨xl, xm⟩ := x
        simp only at d1 d2 hC hxv HT
        have hwo := below_alloc wr (.cells #[.slice A1 xl.length c1, .bool xm] 33)
        have hC0 := (hC.more hBw.size).next hwo
        have hBo := hB.trans (hwo.mono hB.size)
        have howno := own_next hown hwo
        have hBwo := hBw.trans (hwo.mono hBw.size)
        have hsz := areaC_sz hxv
        have CO := areaOk hxv (dx := 0) (by omega)
        have h8 := hxv.2.1
        have PG := polygon_any xl xm _ 0 _ hC0 (by omega) (by omega) hxv.2.2.1
        have HSZ := Lib.hid CO.szs
        have HAR := Lib.hid (CO.area (by omega))
        have b1 : (k : Int) < L.length := by omega
        have b2 : (0 : Int) ≤ k := by omega
        clear hC hxv hown hB CO
        go_wp2_with fail
        refine PG.mono ?_
        rintro e w3 ⟨hb3, v3, rfl, y3⟩
        have hB3 := hBo.trans (hb3.mono hBo.size)
        have hown3 := own_next howno hb3
        have he3 := (he.next hBwo).next hb3
        have AR := area_any (poly xl 0) v3 1 w3 y3 (by rw [poly_len]; omega) (by omega) HSZ.out HAR.out
        clear PG d1 d2 hb3 howno hBo hwo hC0 HSZ HAR y3 hBwo
        generalize areaQ (poly xl 0) = qa at *
        go_wp2_with fail
        refine AR.mono ?_
        rintro e w4 ⟨hb4, v4, rfl, y4⟩
        have hB4 := hB3.trans (hb4.mono hB3.size)
        have hown4 := own_next hown3 hb4
        have LG := flong_any _ v4 w4 y4 (by omega) (he3.next hb4)
        clear AR hb4 hown3 hB3 he3
        go_wp2_with fail
        refine LG.mono ?_
        rintro e w5 ⟨hb5, rfl⟩
        have hB5 := hB4.trans (hb5.mono hB4.size)
        have hown5 := own_next hown4 hb5
        have hs5 := hB5.size
        generalize ratText qa = tx at *
        clear LG hb5 hown4 hB4 y4
        go_wp2_with (at_builtin; refine wpL_append _ rfl (.tmp 22) (.tmp 27) _ rfl w2.heap.size 9 i0 _ 1 16 Tryz.underlying25 hi0 hz0 hz1 hz2 rfl (by omega) _ k _ rfl (hown5.alloc _) (some ⟨w5.heap.size, 0, none⟩) 1 1 [.string ⟨tx.toArray⟩] rfl rfl (Rd.of_new w5 [.string ⟨tx.toArray⟩] 9) (by intro u hu; simp at hu; subst hu; rfl) (by unfold maxLen; omega) (by omega) (by simp; omega) ?_; intro v6 w6 hw1 hw2 _)
        have hB6 := below_app (hB5.alloc hs5 _) hw2 (by simp; omega) (hown5.alloc _) (Nat.le_refl _)
        rw [← HT.out] at hw1
        clear hown5 hw2 hB5 hs5
        go_roundw
        case rel => exact ⟨k + 1, by omega, by go_num, hw1, hB6⟩
        case measure => simp [intOf]; omega
      · obtain rfl : k = L.length := by omega
        rw [List.take_of_length_le (Nat.le_refl _)] at hown
        obtain ⟨Ap, cp, rfl, _⟩ := own_slice0 hown
        have hrdP := Lib.hid (Rd.of_own hown)
        clear hown
        go_wp2
        go_ret2
        exact ⟨hBw, Ap, ⟨cp, rfl⟩, hrdP.out⟩
end Go.Proofs.YtaihplgfbepgpaaGreatDoor
