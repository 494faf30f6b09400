/-
  Walks: package regrid: ValidCell.
-/
import Derived.Test.YtbddmkklkbkliaaGreatDoorRegB
import Derived.Test.YtbddmkklkbkliaaGreatDoorRegC
namespace Go.Proofs.YtbddmkklkbkliaaGreatDoor
open Go.RowKit

/-- Corner i. -/
def cn (l : List Pl) (i : Nat) : Pl := l.getD i (0, 0)
/-- What a valid cell's corners are. -/
def validC (l : List Pl) : Prop :=
  3 ≤ l.length ∧ l.length ≤ 8 ∧ (∀ p ∈ l, okP p) ∧ ∀ i, i < l.length → 0 < trn (cn l i) (cn l ((i + 1) % l.length)) (cn l ((i + 2) % l.length)) ∧
    ∀ k, i + 2 ≤ k → k < l.length → (k + 1) % l.length ≠ i → ¬ tch (cn l i) (cn l (i + 1)) (cn l k) (cn l ((k + 1) % l.length))
/-- A cell in memory. -/
def IsC (w : World) (B : Nat) (v : Value) (l : List Pl) (m : Bool) : Prop := ∃ A c, v = .agg #[.slice A l.length c, .bool m] ∧ l.length ≤ c ∧ c ≤ maxLen ∧ (∀ p ∈ l, in64 p.1 ∧ in64 p.2) ∧ Rd w B A (prow l)
theorem Rd.place' {w : World} {B : Nat} {ad : Addr} {l : List Pl} (h : Rd w B (some ad) (prow l)) {i : Nat} {p : Pl} (hp : l[i]? = some p) :
    w.cell? (ad.add (i * 2)) = some (.int .i64 p.1) ∧ w.cell? ⟨(ad.add (i * 2)).block, (ad.add (i * 2)).off + 1, none⟩ = some (.int .i64 p.2) := by
  obtain ⟨_, e, _, h1, h2⟩ := h.place hp
  injection e with e
  subst e
  exact ⟨h1, h2⟩
theorem cn_ok {l : List Pl} (h : ∀ p ∈ l, okP p) {i : Nat} (hi : i < l.length) : okP (cn l i) := by
  unfold cn
  rw [List.getD_eq_getElem?_getD, List.getElem?_eq_getElem hi]
  exact h _ (List.getElem_mem hi)
theorem cn_at {l : List Pl} {i : Nat} (hi : i < l.length) : l[i]? = some (cn l i) := by
  unfold cn
  rw [List.getD_eq_getElem?_getD, List.getElem?_eq_getElem hi]
  rfl

set_option maxRecDepth 100000 in
set_option maxHeartbeats 3200000 in
theorem valid_any (l : List Pl) (m : Bool) (v : Value) (w : World) (h : IsC w w.heap.size v l m) (q : Bool) (hq : q = true ↔ validC l) :
    Calls Tryz.prog 105 #[v] w fun e w' => Below w.heap.size w w' ∧ e = .returned (.bool q) := by
  obtain ⟨A, c, rfl, hc, hcm, hin, hr⟩ := h
  unfold maxLen at hcm
  by_cases hlen : 3 ≤ l.length ∧ l.length ≤ 8
  · obtain ⟨h3, h8⟩ := hlen
    obtain ⟨z, hz⟩ : ∃ z : Bool, z = true ↔ ∃ p ∈ l, ¬ okP p := ⟨decide (∃ p ∈ l, ¬ okP p), by simp⟩
    have hrW := hr.alloc (Nat.le_refl _) (.cells #[.slice A l.length c, .bool m] 60)
    have hAP := anyNotPlace_any A c l _ hin (by omega) (hrW.more (by simp)) z hz
    have hB0 := below_alloc w (.cells #[.slice A l.length c, .bool m] 60)
    cases z
    · have hok : ∀ p ∈ l, okP p := fun p hp => Classical.byContradiction fun hn => absurd (hz.2 ⟨p, hp, hn⟩) (by decide)
      clear hz
      have HQ : Hid (q = true ↔ ∀ i, i < l.length → 0 < trn (cn l i) (cn l ((i + 1) % l.length)) (cn l ((i + 2) % l.length)) ∧
        ∀ k, i + 2 ≤ k → k < l.length → (k + 1) % l.length ≠ i → ¬ tch (cn l i) (cn l (i + 1)) (cn l k) (cn l ((k + 1) % l.length))) := by
        show _ ↔ _
        rw [hq]
        exact ⟨fun x => x.2.2.2, fun x => ⟨h3, h8, hok, x⟩⟩
      clear hq hin
      go_enter Tryz.func105, Tryz.ntmps105
      go_wp2_with fail
      refine hAP.mono ?_
      rintro e w1 ⟨hb1, rfl⟩
      have hB1 := hB0.trans (hb1.mono hB0.size)
      clear hAP hrW hb1 hB0
      obtain ⟨n, hn⟩ : ∃ n, l.length = n := ⟨_, rfl⟩
      have HN := Lib.hid hn
      rw [hn] at h3 h8 hc HQ ⊢
      go_wp2_with fail
      go_loopw [23] (fun x wr => ∃ i : Nat, i ≤ n ∧ x = .int .i64 i ∧ (∀ j, j < i → 0 < trn (cn l j) (cn l ((j + 1) % n)) (cn l ((j + 2) % n)) ∧ ∀ k, j + 2 ≤ k → k < n → (k + 1) % n ≠ j → ¬ tch (cn l j) (cn l (j + 1)) (cn l k) (cn l ((k + 1) % n))) ∧ Below w.heap.size w wr) (fun x _ => n - (intOf x).toNat)
      case atStart => exact ⟨0, Nat.zero_le _, rfl, (fun j hj => absurd hj (Nat.not_lt_zero _)), hB1⟩
      case round =>
        obtain ⟨i, hi, rfl, hall, hB⟩ := hrel
        rcases Nat.lt_or_ge i n with hlt | hge
        · obtain ⟨j1, hj1⟩ : ∃ j, j = (i + 1) % n := ⟨_, rfl⟩
          obtain ⟨j2, hj2⟩ : ∃ j, j = (i + 2) % n := ⟨_, rfl⟩
          have hl1 : j1 < n := by rw [hj1]; exact Nat.mod_lt _ (by omega)
          have hl2 : j2 < n := by rw [hj2]; exact Nat.mod_lt _ (by omega)
          have m1 : ((i : Int) + 1).tmod n = (j1 : Int) := by rw [hj1]; rfl
          have m2 : ((i : Int) + 2).tmod n = (j2 : Int) := by rw [hj2]; rfl
          have n0 : ¬ n = 0 := by omega
          have ww1 : IntKind.i64.wrap ((i : Int) + 1) = (i : Int) + 1 := IntWalk.i64_in _ (by omega)
          have ww2 : IntKind.i64.wrap ((i : Int) + 2) = (i : Int) + 2 := IntWalk.i64_in _ (by omega)
          obtain ⟨ad, rfl, hab, d1, d2⟩ := (hr.below hB).place (cn_at (by rw [hn]; exact hlt))
          obtain ⟨d3, d4⟩ := (hr.below hB).place' (cn_at (l := l) (i := j1) (by rw [hn]; exact hl1))
          obtain ⟨d5, d6⟩ := (hr.below hB).place' (cn_at (l := l) (i := j2) (by rw [hn]; exact hl2))
          have T := fun W => turn_any (cn l i) (cn l j1) (cn l j2) W (cn_ok hok (by rw [hn]; exact hlt)) (cn_ok hok (by rw [hn]; exact hl1)) (cn_ok hok (by rw [hn]; exact hl2))
          have HJ1 := Lib.hid hj1
          have HJ2 := Lib.hid hj2
          have HA := Lib.hid hall
          clear hj1 hj2 hall
          unfold pv at T
          go_wp2_with fail
          go_region_held3 (fun W => W.cell? (ad.add (i * 2)) = some (.int .i64 (cn l i).1) ∧ W.cell? ⟨(ad.add (i * 2)).block, (ad.add (i * 2)).off + 1, none⟩ = some (.int .i64 (cn l i).2) ∧ W.cell? (ad.add (j1 * 2)) = some (.int .i64 (cn l j1).1) ∧ W.cell? ⟨(ad.add (j1 * 2)).block, (ad.add (j1 * 2)).off + 1, none⟩ = some (.int .i64 (cn l j1).2) ∧ W.cell? (ad.add (j2 * 2)) = some (.int .i64 (cn l j2).1) ∧ W.cell? ⟨(ad.add (j2 * 2)).block, (ad.add (j2 * 2)).off + 1, none⟩ = some (.int .i64 (cn l j2).2))
            (first | exact ⟨d1, d2, d3, d4, d5, d6⟩ | exact ⟨f1, f2, f3, f4, f5, f6⟩)
            (first | (go_at_call 132; (with_reducible refine (T _).mono ?_); rintro e w2 ⟨hb2, rfl⟩; have hr2 := (hr.below hB).drew.below (hb2.mono hB.size); obtain ⟨f1, f2⟩ := hr2.place' (cn_at (l := l) (i := i) (by rw [hn]; exact hlt)); obtain ⟨f3, f4⟩ := hr2.place' (cn_at (l := l) (i := j1) (by rw [hn]; exact hl1)); obtain ⟨f5, f6⟩ := hr2.place' (cn_at (l := l) (i := j2) (by rw [hn]; exact hl2))))
          have hB2 := hB.drew.trans (hb2.mono hB.size)
          clear f1 f2 f3 f4 f5 f6 hr2 hb2 T d1 d2 d3 d4 d5 d6 hB
          have ht : (trn (cn l i) (cn l j1) (cn l j2) ≤ 0 ∧ q = false) ∨ ¬ (trn (cn l i) (cn l j1) (cn l j2) ≤ 0) := by
            rcases Int.lt_or_le 0 (trn (cn l i) (cn l j1) (cn l j2)) with h0 | h0
            · exact .inr (by omega)
            · refine .inl ⟨h0, ?_⟩
              cases hqq : q
              · rfl
              · have := (HQ.out.1 hqq i hlt).1
                rw [← HJ1.out, ← HJ2.out] at this
                omega
          rcases ht with ⟨ht, rfl⟩ | ht
          · go_wp2
            go_ret
            exact ⟨hB2, rfl⟩
          · have HT : Hid (0 < trn (cn l i) (cn l j1) (cn l j2)) := (show 0 < trn (cn l i) (cn l j1) (cn l j2) by omega)
            obtain ⟨tt, htt⟩ : ∃ tt, trn (cn l i) (cn l j1) (cn l j2) = tt := ⟨_, rfl⟩
            rw [htt] at ht ⊢
            clear htt
            go_wp2_with fail
            clear m1 m2
            go_loopw [6] (fun x wq => ∃ k : Nat, i + 2 ≤ k ∧ k ≤ n + 2 ∧ x = .int .i64 k ∧ (∀ k', i + 2 ≤ k' → k' < k → ¬ tch (cn l i) (cn l (i + 1)) (cn l k') (cn l ((k' + 1) % n))) ∧ Below w.heap.size w wq) (fun x _ => n + 2 - (intOf x).toNat)
            case atStart => exact ⟨i + 2, by omega, by omega, by go_num, (fun k' h1 h2 => by omega), hB2⟩
            case round =>
              obtain ⟨k, hk1, hk2, rfl, hin, hBk⟩ := hrel
              have HI := Lib.hid hin
              clear hin
              rcases Nat.lt_or_ge k n with hkn | hkn
              · obtain ⟨j3, hj3⟩ : ∃ j, j = (k + 1) % n := ⟨_, rfl⟩
                have hl3 : j3 < n := by rw [hj3]; exact Nat.mod_lt _ (by omega)
                have m3 : ((k : Int) + 1).tmod n = (j3 : Int) := by rw [hj3]; rfl
                have ww3 : IntKind.i64.wrap ((k : Int) + 1) = (k : Int) + 1 := IntWalk.i64_in _ (by omega)
                have hkn' : (k : Int) < n := by omega
                have HJ3 := Lib.hid hj3
                clear hj3
                by_cases hji : j3 = i
                · have HO : Hid (∀ k', i + 2 ≤ k' → k' < n → (k' + 1) % n ≠ i → ¬ tch (cn l i) (cn l (i + 1)) (cn l k') (cn l ((k' + 1) % n))) := fun k' h1 h2 h3 => by
                    rcases Nat.lt_or_ge k' k with h4 | h4
                    · exact HI.out k' h1 h4
                    · exfalso
                      have hkk : k + 1 = n := by
                        rcases Nat.lt_or_ge (k + 1) n with h5 | h5
                        · have := HJ3.out
                          rw [Nat.mod_eq_of_lt h5] at this
                          omega
                        · omega
                      have : k' = k := by omega
                      subst this
                      exact h3 (HJ3.out.symm.trans hji)
                  subst hji
                  go_wp2
                  go_roundw
                  case rel =>
                    refine ⟨j3 + 1, by omega, by go_num, fun j hj => ?_, hBk⟩
                    rcases Nat.lt_or_ge j j3 with h5 | h5
                    · exact HA.out j h5
                    · have : j = j3 := by omega
                      subst this
                      exact ⟨by rw [← HJ1.out, ← HJ2.out]; exact HT.out, HO.out⟩
                  case measure => simp [intOf]; omega
                · have hji' : ¬ (j3 : Int) = i := by omega
                  obtain ⟨z, hz⟩ : ∃ z, decide (tch (cn l i) (cn l (i + 1)) (cn l k) (cn l j3)) = z := ⟨_, rfl⟩
                  have T := fun W => touch_any (cn l i) (cn l (i + 1)) (cn l k) (cn l j3) W (cn_ok hok (by rw [hn]; exact hlt)) (cn_ok hok (by rw [hn]; omega)) (cn_ok hok (by rw [hn]; exact hkn)) (cn_ok hok (by rw [hn]; exact hl3)) z hz
                  have HZ := Lib.hid hz
                  clear hz
                  have hr3 := hr.below hBk
                  obtain ⟨d1, d2⟩ := hr3.place' (cn_at (l := l) (i := i) (by rw [hn]; exact hlt))
                  obtain ⟨d3, d4⟩ := hr3.place' (cn_at (l := l) (i := i + 1) (by rw [hn]; omega))
                  obtain ⟨d5, d6⟩ := hr3.place' (cn_at (l := l) (i := k) (by rw [hn]; exact hkn))
                  obtain ⟨d7, d8⟩ := hr3.place' (cn_at (l := l) (i := j3) (by rw [hn]; exact hl3))
                  unfold pv at T
                  have hi1 : i + 1 < n := by omega
                  have hi2 : (i : Int) + 1 < n := by omega
                  have hi3 : (0 : Int) ≤ (i : Int) + 1 := by omega
                  have hi4 : ((i : Int) + 1).toNat = i + 1 := by omega
                  go_wp2_with fail
                  go_region_held3 (fun W => W.cell? (ad.add (i * 2)) = some (.int .i64 (cn l i).1) ∧ W.cell? ⟨(ad.add (i * 2)).block, (ad.add (i * 2)).off + 1, none⟩ = some (.int .i64 (cn l i).2) ∧ W.cell? (ad.add ((i + 1) * 2)) = some (.int .i64 (cn l (i + 1)).1) ∧ W.cell? ⟨(ad.add ((i + 1) * 2)).block, (ad.add ((i + 1) * 2)).off + 1, none⟩ = some (.int .i64 (cn l (i + 1)).2) ∧ W.cell? (ad.add (k * 2)) = some (.int .i64 (cn l k).1) ∧ W.cell? ⟨(ad.add (k * 2)).block, (ad.add (k * 2)).off + 1, none⟩ = some (.int .i64 (cn l k).2) ∧ W.cell? (ad.add (j3 * 2)) = some (.int .i64 (cn l j3).1) ∧ W.cell? ⟨(ad.add (j3 * 2)).block, (ad.add (j3 * 2)).off + 1, none⟩ = some (.int .i64 (cn l j3).2))
                    (first | exact ⟨d1, d2, d3, d4, d5, d6, d7, d8⟩ | exact ⟨f1, f2, f3, f4, f5, f6, f7, f8⟩)
                    (first | (go_at_call 133; (with_reducible refine (T _).mono ?_); rintro e wt ⟨hbt, rfl⟩; have hr4 := hr3.drew.below (hbt.mono hBk.size); obtain ⟨f1, f2⟩ := hr4.place' (cn_at (l := l) (i := i) (by rw [hn]; exact hlt)); obtain ⟨f3, f4⟩ := hr4.place' (cn_at (l := l) (i := i + 1) (by rw [hn]; exact hi1)); obtain ⟨f5, f6⟩ := hr4.place' (cn_at (l := l) (i := k) (by rw [hn]; exact hkn)); obtain ⟨f7, f8⟩ := hr4.place' (cn_at (l := l) (i := j3) (by rw [hn]; exact hl3))))
                  have hBt := hBk.drew.trans (hbt.mono hBk.size)
                  clear f1 f2 f3 f4 f5 f6 f7 f8 d1 d2 d3 d4 d5 d6 d7 d8 hr3 hr4 T hbt
                  cases z
                  · have HK : Hid (¬ tch (cn l i) (cn l (i + 1)) (cn l k) (cn l ((k + 1) % n))) := by
                      have h9 := of_decide_eq_false HZ.out
                      rw [HJ3.out] at h9
                      exact h9
                    go_wp2
                    go_roundw
                    case rel =>
                      refine ⟨k + 1, by omega, by omega, by go_num, fun k' h1 h2 => ?_, hBt⟩
                      rcases Nat.lt_or_ge k' k with h4 | h4
                      · exact HI.out k' h1 h4
                      · have : k' = k := by omega
                        subst this
                        exact HK.out
                    case measure => simp [intOf]; omega
                  · have HK := of_decide_eq_true HZ.out
                    have hqf : q = false := by
                      cases hqq : q
                      · rfl
                      · exfalso
                        have h9 := (HQ.out.1 hqq i hlt).2 k hk1 hkn (by rw [← HJ3.out]; exact hji)
                        rw [← HJ3.out] at h9
                        exact h9 HK
                    subst hqf
                    clear HK
                    go_wp2
                    go_ret
                    exact ⟨hBt, rfl⟩
              · have HO : Hid (∀ k', i + 2 ≤ k' → k' < n → (k' + 1) % n ≠ i → ¬ tch (cn l i) (cn l (i + 1)) (cn l k') (cn l ((k' + 1) % n))) := fun k' h1 h2 _ => HI.out k' h1 (by omega)
                have hkn' : ¬ (k : Int) < n := by omega
                go_wp2
                go_roundw
                case rel =>
                  refine ⟨i + 1, by omega, by go_num, fun j hj => ?_, hBk⟩
                  rcases Nat.lt_or_ge j i with h5 | h5
                  · exact HA.out j h5
                  · have : j = i := by omega
                    subst this
                    exact ⟨by rw [← HJ1.out, ← HJ2.out]; exact HT.out, HO.out⟩
                case measure => simp [intOf]; omega
        · have hin : i = n := by omega
          subst hin
          have hqt : q = true := HQ.out.2 hall
          subst hqt
          clear hall
          go_wp2
          go_ret
          exact ⟨hB, rfl⟩
    · have hno : ¬ validC l := fun hx => by
        obtain ⟨p, hp, hn⟩ := hz.1 rfl
        exact hn (hx.2.2.1 p hp)
      have hqf : q = false := by
        cases q
        · rfl
        · exact absurd (hq.1 rfl) hno
      subst hqf
      clear hno hq hz
      go_enter Tryz.func105, Tryz.ntmps105
      go_wp2_with fail
      refine hAP.mono ?_
      rintro e w1 ⟨hb1, rfl⟩
      go_wp2
      go_ret
      exact ⟨hB0.trans (hb1.mono hB0.size), rfl⟩
  · have hno : ¬ validC l := fun hx => hlen ⟨hx.1, hx.2.1⟩
    have hqf : q = false := by
      cases q
      · rfl
      · exact absurd (hq.1 rfl) hno
    subst hqf
    clear hno hq
    have hB0 := below_alloc w (.cells #[.slice A l.length c, .bool m] 60)
    by_cases h3 : l.length < 3
    · go_enter Tryz.func105, Tryz.ntmps105
      go_wp2
      go_ret
      exact ⟨hB0, rfl⟩
    · have h8 : 8 < l.length := by omega
      have h3' : ¬ ((l.length : Int) < 3) := by omega
      have h8' : (8 : Int) < l.length := by omega
      go_enter Tryz.func105, Tryz.ntmps105
      go_wp2
      go_ret
      exact ⟨hB0, rfl⟩
end Go.Proofs.YtbddmkklkbkliaaGreatDoor
