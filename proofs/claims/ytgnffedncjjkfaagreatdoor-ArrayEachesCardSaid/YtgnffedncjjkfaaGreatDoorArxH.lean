/-
  Walks: package arrayarchiveref06: Same; package arrayarchivelaw06: agrees.
  Walks: package arrayarchivelaw06: agrees, Wide, sane.
-/
import Derived.Test.YtgnffedncjjkfaaGreatDoorArxF
namespace Go.Proofs.YtgnffedncjjkfaaGreatDoor
open Go.RowKit Ix Ar

theorem bytes_same {x y : ByteArray} (h : x.toList = y.toList) : x = y := by
  rw [ByteArray.toList_eq, ByteArray.toList_eq] at h
  exact Go.WideShapes.bytes_inj h
/-- Two boxes of arrays. -/
structure SmB (w : World) (u1 u2 v1 v2 : Value) (W : World) : Prop where
  below : Below w.heap.size w W
  one : Bk W w.heap.size 25 #[u1, u2]
  two : Bk W (w.heap.size + 1) 25 #[v1, v2]
theorem SmB.drewN {w W : World} {u1 u2 v1 v2 : Value} (h : SmB w u1 u2 v1 v2 W) (n : Nat) : SmB w u1 u2 v1 v2 (W.drewN n) := ⟨below_drewN h.below n, h.one.drewN n, h.two.drewN n⟩
theorem SmB.next {w W W' : World} {u1 u2 v1 v2 : Value} (h : SmB w u1 u2 v1 v2 W) (hb : Below W.heap.size W W') : SmB w u1 u2 v1 v2 W' :=
  ⟨h.below.trans (hb.mono h.below.size), h.one.next' hb, h.two.next' hb⟩
theorem SmB.start (w : World) (u1 u2 v1 v2 : Value) : SmB w u1 u2 v1 v2 ((w.alloc (.cells #[u1, u2] 25)).alloc (.cells #[v1, v2] 25)) :=
  ⟨(below_alloc w _).alloc (by simp) _, (Bk.new w _ _).alloc _, Bk.new2 w _ _ _⟩

set_option maxRecDepth 100000 in
set_option maxHeartbeats 6400000 in
theorem same_any (a b : Arr) (u v : Value) (w : World) (ha : IsA w w.heap.size u a) (hb : IsA w w.heap.size v b) (hL : a.1.length ≤ maxLen) (hM : a.2.length ≤ maxLen) (q : Bool) (hq : q = true ↔ a = b) :
    Calls Tryz.prog 39 #[u, v] w fun e w' => Below w.heap.size w w' ∧ e = .returned (.bool q) := by
  unfold maxLen at hL hM
  obtain ⟨A1, c1, A2, c2, rfl, -, -⟩ := ha.form
  obtain ⟨A3, c3, A4, c4, rfl, -, -⟩ := hb.form
  obtain ⟨hs1, ht1⟩ := ha.parts
  obtain ⟨hs2, ht2⟩ := hb.parts
  replace hs1 := hs1.rd
  replace hs2 := hs2.rd
  replace ht1 := ht1.rd
  replace ht2 := ht2.rd
  clear ha hb
  obtain ⟨S, V⟩ := a
  obtain ⟨T, U⟩ := b
  simp only at hs1 hs2 ht1 ht2 hL hM
  have B0 := SmB.start w (.slice A1 S.length c1) (.slice A2 V.length c2) (.slice A3 T.length c3) (.slice A4 U.length c4)
  have HQ : Hid (q = true ↔ S = T ∧ V = U) := by
    show _ ↔ _
    rw [hq, Prod.mk.injEq]
  clear hq
  by_cases h1 : S.length = T.length
  rotate_left
  · have hqf : q = false := by
      cases hh : q with
      | false => rfl
      | true => exact absurd (congrArg List.length (HQ.out.1 hh).1) h1
    have hne : ((S.length : Int) != (T.length : Int)) = true := by simp; omega
    subst hqf
    clear HQ h1
    go_enter Tryz.func39, Tryz.ntmps39
    go_wp2
    go_ret
    exact ⟨B0.below, rfl⟩
  by_cases h2 : V.length = U.length
  rotate_left
  · have hqf : q = false := by
      cases hh : q with
      | false => rfl
      | true => exact absurd (congrArg List.length (HQ.out.1 hh).2) h2
    have hne : ((V.length : Int) != (U.length : Int)) = true := by simp; omega
    subst hqf
    rw [← h1] at B0 ⊢
    clear HQ h2 h1 hs1 hs2 ht1 ht2
    go_enter Tryz.func39, Tryz.ntmps39
    go_wp2
    go_ret
    exact ⟨B0.below, rfl⟩
  rw [← h1, ← h2] at B0 ⊢
  have H1 := Lib.hid h1
  have H2 := Lib.hid h2
  clear h1 h2
  go_enter Tryz.func39, Tryz.ntmps39
  go_wp2_with fail
  generalize ((w.alloc (.cells #[.slice A1 S.length c1, .slice A2 V.length c2] 25)).alloc (.cells #[.slice A3 S.length c3, .slice A4 V.length c4] 25)) = W0 at *
  go_loopw [5] (fun i wr => ∃ k : Nat, k ≤ S.length ∧ i = .int .i64 k ∧ Hid (∀ j, j < k → S[j]? = T[j]?) ∧ SmB w (.slice A1 S.length c1) (.slice A2 V.length c2) (.slice A3 S.length c3) (.slice A4 V.length c4) wr) (fun i _ => S.length - (intOf i).toNat)
  case atStart => exact ⟨0, Nat.zero_le _, rfl, (fun j hj => absurd hj (Nat.not_lt_zero _)), B0⟩
  case round =>
    clear B0
    obtain ⟨k, hk, rfl, HT, hB⟩ := hrel
    obtain ⟨b0, b1⟩ := bkA hB.one
    obtain ⟨d0, d1⟩ := bkA hB.two
    by_cases hlt : k < S.length
    · obtain ⟨ad, rfl, hab, hx⟩ := (hs1.below hB.below).zint (j := k) hlt
      obtain ⟨ad', rfl, hab', hy⟩ := (hs2.below hB.below).zint (j := k) (by rw [← H1.out]; exact hlt)
      have HN : Hid (S[k] = T[k]'(by rw [← H1.out]; exact hlt) → ∀ j, j < k + 1 → S[j]? = T[j]?) := fun h j hj => by
        rcases Nat.lt_or_ge j k with h1 | h1
        · exact HT.out j h1
        · obtain rfl : j = k := by omega
          rw [List.getElem?_eq_getElem hlt, List.getElem?_eq_getElem (by rw [← H1.out]; exact hlt), h]
      have HE : Hid (S[k] ≠ T[k]'(by rw [← H1.out]; exact hlt) → q = false) := fun h => by
        cases hh : q with
        | false => rfl
        | true => exact absurd (by have := (HQ.out.1 hh).1; subst this; rfl) h
      generalize S[k] = x at *
      generalize T[k]'(by rw [← H1.out]; exact hlt) = y at *
      by_cases hxy : x = y
      · subst hxy
        have y1 : (x != x) = false := by simp
        have HOK := Lib.hid (HN.out rfl)
        clear HN HE
        go_wp2_with fail
        go_quiet (fail)
        have hB2 := hB.drewN nq
        go_wp2
        go_roundw
        case rel => exact ⟨k + 1, by omega, by go_num, HOK.out, hB2⟩
        case measure => simp [intOf]; omega
      · have y1 : (x != y) = true := by simp [hxy]
        have hqf := HE.out hxy
        subst hqf
        clear HN HE
        go_wp2_with fail
        go_quiet (fail)
        go_wp2
        go_ret
        exact ⟨(hB.drewN nq).below, rfl⟩
    · have HS : Hid (S = T) := List.ext_getElem? fun j => by
        rcases Nat.lt_or_ge j k with h | h
        · exact HT.out j h
        · rw [List.getElem?_eq_none (by omega), List.getElem?_eq_none (by rw [← H1.out]; omega)]
      clear HT
      go_wp2_with fail
      go_loopw [6] (fun i wr => ∃ k : Nat, k ≤ V.length ∧ i = .int .i64 k ∧ Hid (∀ j, j < k → V[j]? = U[j]?) ∧ SmB w (.slice A1 S.length c1) (.slice A2 V.length c2) (.slice A3 S.length c3) (.slice A4 V.length c4) wr) (fun i _ => V.length - (intOf i).toNat)
      case atStart => exact ⟨0, Nat.zero_le _, rfl, (fun j hj => absurd hj (Nat.not_lt_zero _)), hB⟩
      case round =>
        clear hB b0 b1 d0 d1 hlt hk
        obtain ⟨k, hk, rfl, HT, hB⟩ := hrel
        obtain ⟨b0, b1⟩ := bkA hB.one
        obtain ⟨d0, d1⟩ := bkA hB.two
        by_cases hlt : k < V.length
        · obtain ⟨ad, rfl, hab, hx⟩ := (ht1.below hB.below).str (j := k) hlt
          obtain ⟨ad', rfl, hab', hy⟩ := (ht2.below hB.below).str (j := k) (by rw [← H2.out]; exact hlt)
          have HN : Hid (V[k] = U[k]'(by rw [← H2.out]; exact hlt) → ∀ j, j < k + 1 → V[j]? = U[j]?) := fun h j hj => by
            rcases Nat.lt_or_ge j k with h1 | h1
            · exact HT.out j h1
            · obtain rfl : j = k := by omega
              rw [List.getElem?_eq_getElem hlt, List.getElem?_eq_getElem (by rw [← H2.out]; exact hlt), h]
          have HE : Hid (V[k] ≠ U[k]'(by rw [← H2.out]; exact hlt) → q = false) := fun h => by
            cases hh : q with
            | false => rfl
            | true => exact absurd (by have := (HQ.out.1 hh).2; subst this; rfl) h
          generalize V[k] = x at *
          generalize U[k]'(by rw [← H2.out]; exact hlt) = y at *
          by_cases hxy : x = y
          · subst hxy
            have y1 : (x.toList == x.toList) = true := by simp
            have HOK := Lib.hid (HN.out rfl)
            clear HN HE
            go_wp2_with fail
            go_quiet (fail)
            have hB2 := hB.drewN nq
            go_wp2
            go_roundw
            case rel => exact ⟨k + 1, by omega, by go_num, HOK.out, hB2⟩
            case measure => simp [intOf]; omega
          · have y1 : (x.toList == y.toList) = false := by
              rw [beq_eq_false_iff_ne]
              exact fun h => hxy (bytes_same h)
            have hqf := HE.out hxy
            subst hqf
            clear HN HE
            go_wp2_with fail
            go_quiet (fail)
            go_wp2
            go_ret
            exact ⟨(hB.drewN nq).below, rfl⟩
        · have hqt : q = true := HQ.out.2 ⟨HS.out, List.ext_getElem? fun j => by
            rcases Nat.lt_or_ge j k with h | h
            · exact HT.out j h
            · rw [List.getElem?_eq_none (by omega), List.getElem?_eq_none (by rw [← H2.out]; omega)]⟩
          subst hqt
          clear HQ HT
          go_wp2
          go_ret
          exact ⟨hB.below, rfl⟩
end Go.Proofs.YtgnffedncjjkfaaGreatDoor

namespace Go.Proofs.YtgnffedncjjkfaaGreatDoor
open Go.RowKit Ix Ar

set_option maxRecDepth 100000 in
set_option maxHeartbeats 1600000 in
theorem agrees_any (a b : Arr) (u v : Value) (e f : Int) (w : World) (ha : IsA w w.heap.size u a) (hb : IsA w w.heap.size v b) (hL : a.1.length ≤ maxLen) (hM : a.2.length ≤ maxLen) (q : Bool) (hq : q = true ↔ e = f ∧ a = b) :
    Calls Tryz.prog 21 #[u, .int .i64 e, v, .int .i64 f] w fun r w' => Below w.heap.size w w' ∧ r = .returned (.bool q) := by
  obtain ⟨A1, c1, A2, c2, rfl, -, -⟩ := ha.form
  obtain ⟨A3, c3, A4, c4, rfl, -, -⟩ := hb.form
  have B0 := SmB.start w (.slice A1 a.1.length c1) (.slice A2 a.2.length c2) (.slice A3 b.1.length c3) (.slice A4 b.2.length c4)
  by_cases h : e = f
  · have SM := Lib.hid (fun W (hW : Below w.heap.size w W) => same_any a b _ _ W (ha.next hW) (hb.next hW) hL hM q (by rw [hq]; exact ⟨fun k => k.2, fun k => ⟨h, k⟩⟩))
    have y : (e == f) = true := by simp [h]
    clear hq h hL hM ha hb
    go_enter Tryz.func21, Tryz.ntmps21
    go_wp2_with fail
    refine (SM.out _ B0.below).mono ?_
    rintro r w1 ⟨hb1, rfl⟩
    go_wp2
    go_ret
    exact ⟨(B0.next hb1).below, rfl⟩
  · have hqf : q = false := by
      cases hh : q with
      | false => rfl
      | true => exact absurd (hq.1 hh).1 h
    have y : (e == f) = false := by simp [h]
    subst hqf
    clear hq h hL hM ha hb
    go_enter Tryz.func21, Tryz.ntmps21
    go_wp2
    go_ret
    exact ⟨B0.below, rfl⟩

/-- Small enough for a statement. -/
def Slim (a : Arr) : Prop := a.1.length ≤ 10 ∧ a.2.length ≤ 100 ∧ ∀ s ∈ a.2, s.size ≤ 200

set_option maxRecDepth 100000 in
set_option maxHeartbeats 3200000 in
theorem wide_any (a : Arr) (v : Value) (w : World) (h : IsA w w.heap.size v a) (hL : a.1.length ≤ maxLen) (hM : a.2.length ≤ maxLen) (q : Bool) (hq : q = true ↔ ¬ Slim a) :
    Calls Tryz.prog 15 #[v] w fun r w' => Below w.heap.size w w' ∧ r = .returned (.bool q) := by
  unfold maxLen at hL hM
  obtain ⟨A, c, A', c', rfl, -, -⟩ := h.form
  obtain ⟨hs, ht⟩ := h.parts
  replace ht := ht.rd
  clear hs h
  obtain ⟨S, V⟩ := a
  simp only at ht hL hM
  have B0 : Below w.heap.size w (w.alloc (.cells #[.slice A S.length c, .slice A' V.length c'] 25)) := below_alloc w _
  have K0 := Bk.new w 25 #[.slice A S.length c, .slice A' V.length c']
  by_cases h1 : 10 < S.length
  · have hqt : q = true := hq.2 fun h => by have := h.1; simp only at this; omega
    subst hqt
    clear hq
    go_enter Tryz.func15, Tryz.ntmps15
    go_wp2
    go_ret
    exact ⟨B0, rfl⟩
  by_cases h2 : 100 < V.length
  · have hqt : q = true := hq.2 fun h => by have := h.2.1; simp only at this; omega
    subst hqt
    clear hq
    go_enter Tryz.func15, Tryz.ntmps15
    go_wp2
    go_ret
    exact ⟨B0, rfl⟩
  have HQ := Lib.hid hq
  clear hq
  go_enter Tryz.func15, Tryz.ntmps15
  go_wp2_with fail
  generalize w.alloc (.cells #[.slice A S.length c, .slice A' V.length c'] 25) = W0 at *
  go_loopw [3] (fun i wr => ∃ k : Nat, k ≤ V.length ∧ i = .int .i64 k ∧ Hid (∀ j (hj : j < V.length), j < k → V[j].size ≤ 200) ∧ wr = W0) (fun i _ => V.length - (intOf i).toNat)
  case atStart => exact ⟨0, Nat.zero_le _, rfl, (fun j hj hk => absurd hk (Nat.not_lt_zero _)), rfl⟩
  case round =>
    obtain ⟨k, hk, rfl, HT, rfl⟩ := hrel
    obtain ⟨b0, b1⟩ := bkA K0
    by_cases hlt : k < V.length
    · obtain ⟨ad, rfl, hab, hx⟩ := (ht.below B0).str (j := k) hlt
      have HN : Hid (V[k].size ≤ 200 → ∀ j (hj : j < V.length), j < k + 1 → V[j].size ≤ 200) := fun h j hj hk => by
        rcases Nat.lt_or_ge j k with h1 | h1
        · exact HT.out j hj h1
        · obtain rfl : j = k := by omega
          exact h
      have HE : Hid (200 < V[k].size → q = true) := fun h => HQ.out.2 fun hh => by
        have := hh.2.2 V[k] (List.getElem_mem _); omega
      generalize V[k] = x at *
      by_cases hxy : 200 < x.size
      · have hqt := HE.out hxy
        subst hqt
        clear HN HE
        go_wp2
        go_ret
        exact ⟨B0, rfl⟩
      · have HOK := Lib.hid (HN.out (by omega))
        clear HN HE
        go_wp2
        go_roundw
        case rel => exact ⟨k + 1, by omega, by go_num, HOK.out, by trivial⟩
        case measure => simp [intOf]; omega
    · have hqf : q = false := by
        cases hh : q with
        | false => rfl
        | true => exact absurd ⟨by simp only; omega, by simp only; omega, fun s hs => by
            obtain ⟨j, hj, rfl⟩ := List.mem_iff_getElem.1 hs
            simp only at hj
            exact HT.out j hj (by omega)⟩ (HQ.out.1 hh)
      subst hqf
      clear HT HQ
      go_wp2
      go_ret
      exact ⟨B0, rfl⟩

theorem isVal_one (c : UInt8) (h1 : 48 ≤ c.toNat) (h2 : c.toNat ≤ 57) : IsVal [c] := by
  have hD : Digs [c] := fun b hb => by simp at hb; subst hb; exact ⟨h1, h2⟩
  have e : unsign [c] = [c] := by
    unfold unsign isNeg
    rw [if_neg]
    simp
    rintro rfl
    exact absurd h1 (by decide)
  have e2 : cut47 (unsign [c]) = ([c], none) := by rw [e]; exact cut47_none (digs_no47 hD)
  have hC : Canon [c] := ⟨hD, by simp, fun h => by simpa using h⟩
  refine .inr ⟨⟨by rw [e2]; exact hC, fun h => ?_, fun m hm => by rw [e2] at hm; cases hm⟩, by rw [e2]; simp, by rw [e2]; simp⟩
  unfold isNeg at h
  simp at h
  subst h
  exact absurd h1 (by decide)
theorem IsK.of_bk {w : World} {g : Nat} {T : TypeId} {l : List Cut} (h : Bk w g T (krow l).toArray) : IsK w w.heap.size (.slice (some ⟨g, 0, none⟩) l.length l.length) l := ⟨_, _, rfl, Nat.le_refl _, by simpa using h.rd⟩
/-- The small array of sane. -/
def saneA : Arr := ([2, 3], [⟨#[49]⟩, ⟨#[50]⟩, ⟨#[51]⟩, ⟨#[52]⟩, ⟨#[53]⟩, ⟨#[54]⟩])
def saneC : List Cut := [(0, 2, 1), (0, 2, 2)]
theorem saneA_valid : VA saneA := ⟨⟨by decide, by decide, by decide⟩, by decide, fun s hs => by
  simp [saneA] at hs
  rcases hs with rfl | rfl | rfl | rfl | rfl | rfl <;> exact isVal_one _ (by decide) (by decide)⟩
theorem saneC_fits : Fit saneA.1 saneC := ⟨⟨by decide, by decide, by decide, by decide, fun _ => by decide⟩, ⟨by decide, by decide, by decide, by decide, fun _ => by decide⟩, trivial⟩
theorem saneR : sliceR saneA saneC = (([2, 2], [⟨#[49]⟩, ⟨#[51]⟩, ⟨#[52]⟩, ⟨#[54]⟩]), 0) := by
  rw [sliceR_ok saneA_valid saneC_fits]
  rfl

set_option maxRecDepth 100000 in
set_option maxHeartbeats 3200000 in
theorem sane_any (w : World) (he : Env w) : Calls Tryz.prog 16 #[] w fun r w' => Below w.heap.size w w' ∧ r = .returned (.bool true) := by
  have hb0 : Below w.heap.size w ((((w.alloc (.cells (zints saneA.1).toArray 3)).alloc (.cells (strs saneA.2).toArray 9)).alloc (.cells #[.slice (some ⟨w.heap.size, 0, none⟩) 2 2, .slice (some ⟨w.heap.size + 1, 0, none⟩) 6 6] 25)).alloc (.cells (krow saneC).toArray 80)) :=
    (((below_alloc w _).alloc (by simp) _).alloc (by simp; omega) _).alloc (by simp; omega) _
  have k0 := (((Bk.new w 3 (zints saneA.1).toArray).alloc (.cells (strs saneA.2).toArray 9)).alloc (.cells #[.slice (some ⟨w.heap.size, 0, none⟩) 2 2, .slice (some ⟨w.heap.size + 1, 0, none⟩) 6 6] 25)).alloc (.cells (krow saneC).toArray 80)
  have k1 := ((Bk.new2 w (.cells (zints saneA.1).toArray 3) 9 (strs saneA.2).toArray).alloc (.cells #[.slice (some ⟨w.heap.size, 0, none⟩) 2 2, .slice (some ⟨w.heap.size + 1, 0, none⟩) 6 6] 25)).alloc (.cells (krow saneC).toArray 80)
  have k3 := Bk.new (((w.alloc (.cells (zints saneA.1).toArray 3)).alloc (.cells (strs saneA.2).toArray 9)).alloc (.cells #[.slice (some ⟨w.heap.size, 0, none⟩) 2 2, .slice (some ⟨w.heap.size + 1, 0, none⟩) 6 6] 25)) 80 (krow saneC).toArray
  have hz : (((w.alloc (.cells (zints saneA.1).toArray 3)).alloc (.cells (strs saneA.2).toArray 9)).alloc (.cells #[.slice (some ⟨w.heap.size, 0, none⟩) 2 2, .slice (some ⟨w.heap.size + 1, 0, none⟩) 6 6] 25)).heap.size = w.heap.size + 1 + 1 + 1 := by simp
  rw [hz] at k3
  have SL := Lib.hid (slice_any saneA saneC (.agg #[.slice (some ⟨w.heap.size, 0, none⟩) 2 2, .slice (some ⟨w.heap.size + 1, 0, none⟩) 6 6]) (.slice (some ⟨w.heap.size + 1 + 1 + 1, 0, none⟩) 2 2) _ ⟨_, _, rfl, IsI.of_bk k0, IsT.of_bk k1⟩ (IsK.of_bk k3) ⟨by decide, by decide, fun s hs => by
      simp [saneA] at hs
      rcases hs with rfl | rfl | rfl | rfl | rfl | rfl <;> decide⟩ (fun x hx => by
      simp [saneC] at hx
      rcases hx with rfl | rfl <;> exact ⟨by decide, by decide, by decide⟩) (by decide) (he.next hb0))
  clear k0 k1 k3 hz
  rw [saneR] at SL
  go_enter Tryz.func16, Tryz.ntmps16
  go_wp2_with fail
  refine SL.out.mono ?_
  rintro r w1 ⟨hb1, v, rfl, hv⟩
  have B1 := hb0.trans (hb1.mono hb0.size)
  clear SL hb0 hb1
  obtain ⟨A, c, A', c', rfl, hc, hc'⟩ := hv.form
  replace hv := hv.parts.2.rd
  obtain ⟨ad, rfl, hab, h1⟩ := hv.str (j := 1) (by decide)
  obtain ⟨_, e, _, h3⟩ := hv.str (j := 3) (by decide)
  cases e
  clear hv
  simp only [List.length_cons, List.length_nil, List.getElem_cons_succ, List.getElem_cons_zero, Nat.reduceAdd] at *
  have B2 := B1.alloc B1.size (.cells #[.slice A 2 c, .slice (some ad) 4 c'] 25)
  have k4 := Bk.new w1 25 #[.slice A 2 c, .slice (some ad) 4 c']
  have b0 : w1.cell? ⟨ad.block, ad.off + 1, none⟩ = some (.string ⟨#[51]⟩) := h1
  have b1 : w1.cell? ⟨ad.block, ad.off + 3, none⟩ = some (.string ⟨#[54]⟩) := h3
  clear h1 h3
  go_wp2
  go_ret
  exact ⟨B2, rfl⟩
end Go.Proofs.YtgnffedncjjkfaaGreatDoor
