/-
  Walks: package arrayarchiveref06: Same; package arrayarchivelaw06: agrees.
-/
import Derived.Test.YtihcefiffblikaaDoorArrG
namespace Go.Proofs.YtihcefiffblikaaDoor
open Go.RowKit Ix Ar

theorem bytes_same {x y : ByteArray} (h : x.toList = y.toList) : x = y := by
  rw [ByteArray.toList_eq, ByteArray.toList_eq] at h
  exact Go.WideShapes.bytes_inj h
/-- Two boxes of arrays. -/
structure SmB (w : World) (u1 u2 v1 v2 : Value) (W : World) : Prop where
  below : Below w.heap.size w W
  one : Bk W w.heap.size 25 #[u1, u2]
  two : Bk W (w.heap.size + 1) 25 #[v1, v2]
theorem SmB.drewN {w W : World} {u1 u2 v1 v2 : Value} (h : SmB w u1 u2 v1 v2 W) (n : Nat) : SmB w u1 u2 v1 v2 (W.drewN n) := ⟨below_drewN h.below n, h.one.drewN n, h.two.drewN n⟩
theorem SmB.next {w W W' : World} {u1 u2 v1 v2 : Value} (h : SmB w u1 u2 v1 v2 W) (hb : Below W.heap.size W W') : SmB w u1 u2 v1 v2 W' :=
  ⟨h.below.trans (hb.mono h.below.size), h.one.next' hb, h.two.next' hb⟩
theorem SmB.start (w : World) (u1 u2 v1 v2 : Value) : SmB w u1 u2 v1 v2 ((w.alloc (.cells #[u1, u2] 25)).alloc (.cells #[v1, v2] 25)) :=
  ⟨(below_alloc w _).alloc (by simp) _, (Bk.new w _ _).alloc _, Bk.new2 w _ _ _⟩

set_option maxRecDepth 100000 in
set_option maxHeartbeats 6400000 in
theorem same_any (a b : Arr) (u v : Value) (w : World) (ha : IsA w w.heap.size u a) (hb : IsA w w.heap.size v b) (hL : a.1.length ≤ maxLen) (hM : a.2.length ≤ maxLen) (q : Bool) (hq : q = true ↔ a = b) :
    Calls Tryd.prog 23 #[u, v] w fun e w' => Below w.heap.size w w' ∧ e = .returned (.bool q) := by
  unfold maxLen at hL hM
  obtain ⟨A1, c1, A2, c2, rfl, -, -⟩ := ha.form
  obtain ⟨A3, c3, A4, c4, rfl, -, -⟩ := hb.form
  obtain ⟨hs1, ht1⟩ := ha.parts
  obtain ⟨hs2, ht2⟩ := hb.parts
  replace hs1 := hs1.rd
  replace hs2 := hs2.rd
  replace ht1 := ht1.rd
  replace ht2 := ht2.rd
  clear ha hb
  obtain ⟨S, V⟩ := a
  obtain ⟨T, U⟩ := b
  simp only at hs1 hs2 ht1 ht2 hL hM
  have B0 := SmB.start w (.slice A1 S.length c1) (.slice A2 V.length c2) (.slice A3 T.length c3) (.slice A4 U.length c4)
  have HQ : Hid (q = true ↔ S = T ∧ V = U) := by
    show _ ↔ _
    rw [hq, Prod.mk.injEq]
  clear hq
  by_cases h1 : S.length = T.length
  rotate_left
  · have hqf : q = false := by
      cases hh : q with
      | false => rfl
      | true => exact absurd (congrArg List.length (HQ.out.1 hh).1) h1
    have hne : ((S.length : Int) != (T.length : Int)) = true := by simp; omega
    subst hqf
    clear HQ h1
    go_enter Tryd.func23, Tryd.ntmps23
    go_wp2
    go_ret
    exact ⟨B0.below, rfl⟩
  by_cases h2 : V.length = U.length
  rotate_left
  · have hqf : q = false := by
      cases hh : q with
      | false => rfl
      | true => exact absurd (congrArg List.length (HQ.out.1 hh).2) h2
    have hne : ((V.length : Int) != (U.length : Int)) = true := by simp; omega
    subst hqf
    rw [← h1] at B0 ⊢
    clear HQ h2 h1 hs1 hs2 ht1 ht2
    go_enter Tryd.func23, Tryd.ntmps23
    go_wp2
    go_ret
    exact ⟨B0.below, rfl⟩
  rw [← h1, ← h2] at B0 ⊢
  have H1 := Lib.hid h1
  have H2 := Lib.hid h2
  clear h1 h2
  go_enter Tryd.func23, Tryd.ntmps23
  go_wp2_with fail
  generalize ((w.alloc (.cells #[.slice A1 S.length c1, .slice A2 V.length c2] 25)).alloc (.cells #[.slice A3 S.length c3, .slice A4 V.length c4] 25)) = W0 at *
  go_loopw [5] (fun i wr => ∃ k : Nat, k ≤ S.length ∧ i = .int .i64 k ∧ Hid (∀ j, j < k → S[j]? = T[j]?) ∧ SmB w (.slice A1 S.length c1) (.slice A2 V.length c2) (.slice A3 S.length c3) (.slice A4 V.length c4) wr) (fun i _ => S.length - (intOf i).toNat)
  case atStart => exact ⟨0, Nat.zero_le _, rfl, (fun j hj => absurd hj (Nat.not_lt_zero _)), B0⟩
  case round =>
    clear B0
    obtain ⟨k, hk, rfl, HT, hB⟩ := hrel
    obtain ⟨b0, b1⟩ := bkA hB.one
    obtain ⟨d0, d1⟩ := bkA hB.two
    by_cases hlt : k < S.length
    · obtain ⟨ad, rfl, hab, hx⟩ := (hs1.below hB.below).zint (j := k) hlt
      obtain ⟨ad', rfl, hab', hy⟩ := (hs2.below hB.below).zint (j := k) (by rw [← H1.out]; exact hlt)
      have HN : Hid (S[k] = T[k]'(by rw [← H1.out]; exact hlt) → ∀ j, j < k + 1 → S[j]? = T[j]?) := fun h j hj => by
        rcases Nat.lt_or_ge j k with h1 | h1
        · exact HT.out j h1
        · obtain rfl : j = k := by omega
          rw [List.getElem?_eq_getElem hlt, List.getElem?_eq_getElem (by rw [← H1.out]; exact hlt), h]
      have HE : Hid (S[k] ≠ T[k]'(by rw [← H1.out]; exact hlt) → q = false) := fun h => by
        cases hh : q with
        | false => rfl
        | true => exact absurd (by have := (HQ.out.1 hh).1; subst this; rfl) h
      generalize S[k] = x at *
      generalize T[k]'(by rw [← H1.out]; exact hlt) = y at *
      by_cases hxy : x = y
      · subst hxy
        have y1 : (x != x) = false := by simp
        have HOK := Lib.hid (HN.out rfl)
        clear HN HE
        go_wp2_with fail
        go_quiet (fail)
        have hB2 := hB.drewN nq
        go_wp2
        go_roundw
        case rel => exact ⟨k + 1, by omega, by go_num, HOK.out, hB2⟩
        case measure => simp [intOf]; omega
      · have y1 : (x != y) = true := by simp [hxy]
        have hqf := HE.out hxy
        subst hqf
        clear HN HE
        go_wp2_with fail
        go_quiet (fail)
        go_wp2
        go_ret
        exact ⟨(hB.drewN nq).below, rfl⟩
    · have HS : Hid (S = T) := List.ext_getElem? fun j => by
        rcases Nat.lt_or_ge j k with h | h
        · exact HT.out j h
        · rw [List.getElem?_eq_none (by omega), List.getElem?_eq_none (by rw [← H1.out]; omega)]
      clear HT
      go_wp2_with fail
      go_loopw [6] (fun i wr => ∃ k : Nat, k ≤ V.length ∧ i = .int .i64 k ∧ Hid (∀ j, j < k → V[j]? = U[j]?) ∧ SmB w (.slice A1 S.length c1) (.slice A2 V.length c2) (.slice A3 S.length c3) (.slice A4 V.length c4) wr) (fun i _ => V.length - (intOf i).toNat)
      case atStart => exact ⟨0, Nat.zero_le _, rfl, (fun j hj => absurd hj (Nat.not_lt_zero _)), hB⟩
      case round =>
        clear hB b0 b1 d0 d1 hlt hk
        obtain ⟨k, hk, rfl, HT, hB⟩ := hrel
        obtain ⟨b0, b1⟩ := bkA hB.one
        obtain ⟨d0, d1⟩ := bkA hB.two
        by_cases hlt : k < V.length
        · obtain ⟨ad, rfl, hab, hx⟩ := (ht1.below hB.below).str (j := k) hlt
          obtain ⟨ad', rfl, hab', hy⟩ := (ht2.below hB.below).str (j := k) (by rw [← H2.out]; exact hlt)
          have HN : Hid (V[k] = U[k]'(by rw [← H2.out]; exact hlt) → ∀ j, j < k + 1 → V[j]? = U[j]?) := fun h j hj => by
            rcases Nat.lt_or_ge j k with h1 | h1
            · exact HT.out j h1
            · obtain rfl : j = k := by omega
              rw [List.getElem?_eq_getElem hlt, List.getElem?_eq_getElem (by rw [← H2.out]; exact hlt), h]
          have HE : Hid (V[k] ≠ U[k]'(by rw [← H2.out]; exact hlt) → q = false) := fun h => by
            cases hh : q with
            | false => rfl
            | true => exact absurd (by have := (HQ.out.1 hh).2; subst this; rfl) h
          generalize V[k] = x at *
          generalize U[k]'(by rw [← H2.out]; exact hlt) = y at *
          by_cases hxy : x = y
          · subst hxy
            have y1 : (x.toList == x.toList) = true := by simp
            have HOK := Lib.hid (HN.out rfl)
            clear HN HE
            go_wp2_with fail
            go_quiet (fail)
            have hB2 := hB.drewN nq
            go_wp2
            go_roundw
            case rel => exact ⟨k + 1, by omega, by go_num, HOK.out, hB2⟩
            case measure => simp [intOf]; omega
          · have y1 : (x.toList == y.toList) = false := by
              rw [beq_eq_false_iff_ne]
              exact fun h => hxy (bytes_same h)
            have hqf := HE.out hxy
            subst hqf
            clear HN HE
            go_wp2_with fail
            go_quiet (fail)
            go_wp2
            go_ret
            exact ⟨(hB.drewN nq).below, rfl⟩
        · have hqt : q = true := HQ.out.2 ⟨HS.out, List.ext_getElem? fun j => by
            rcases Nat.lt_or_ge j k with h | h
            · exact HT.out j h
            · rw [List.getElem?_eq_none (by omega), List.getElem?_eq_none (by rw [← H2.out]; omega)]⟩
          subst hqt
          clear HQ HT
          go_wp2
          go_ret
          exact ⟨hB.below, rfl⟩
end Go.Proofs.YtihcefiffblikaaDoor
