/-
  Walks: package arrayarchiveref06: Valid.
-/
import Derived.Test.YtgnffedncjjkfaaGreatDoorArxJ
import Derived.Test.YtgnffedncjjkfaaGreatDoorValR
namespace Go.Proofs.YtgnffedncjjkfaaGreatDoor
open Go.RowKit Ix Ar

set_option maxRecDepth 100000 in
set_option maxHeartbeats 3200000 in
theorem rarr_any (a : Arr) (v : Value) (w : World) (h : IsA w w.heap.size v a) (hi : InA a) (q : Bool) (hq : q = true ↔ VA a) :
    Calls Tryz.prog 32 #[v] w fun e w' => Below w.heap.size w w' ∧ e = .returned (.bool q) := by
  obtain ⟨A, c, A', c', rfl, hc, hc'⟩ := h.form
  obtain ⟨h1, h2⟩ := h.parts
  obtain ⟨S, V⟩ := a
  simp only at h1 h2 hc hc' hq ⊢
  have i1 := hi.shape
  have i2 := hi.vals
  have i3 := hi.texts
  simp only at i1 i2 i3
  obtain ⟨qs, hqs⟩ : ∃ b : Bool, b = true ↔ VS S := by classical exact ⟨decide _, decide_eq_true_iff⟩
  have hA0 := below_alloc w (.cells #[.slice A S.length c, .slice A' V.length c'] 25)
  have k0 := Bk.new w 25 #[.slice A S.length c, .slice A' V.length c']
  have VS1 := Lib.hid (fun W (hW : Below w.heap.size w W) => rvalidshape_any S A c w.heap.size W (h1.rd.below hW) i1 qs hqs)
  unfold maxLen at i1
  obtain ⟨d0, d1⟩ := bkA k0
  cases hs : qs
  · have hqf : q = false := by
      cases hh : q with
      | false => rfl
      | true => have := hqs.2 (hq.1 hh).1; rw [hs] at this; cases this
    subst hqf
    subst hs
    clear hq hqs h h1 h2 hi i3
    go_enter Tryz.func32, Tryz.ntmps32
    go_wp2_with fail
    refine wp_region_held_drew (S := fun X => (X.cell? ⟨w.heap.size, 0, none⟩ = some (.slice A S.length c) ∧ X.cell? ⟨w.heap.size, 1, none⟩ = some (.slice A' V.length c')) ∧ Below w.heap.size w X) (by kernel_rfl) ⟨⟨d0, d1⟩, hA0.drew⟩ (fun hS => ?_)
    clear d0 d1 hA0 k0
    refine takeA (i := 0) (v := ?_) rfl (by kernel_rfl) (by kernel_rfl) (by kernel_rfl) (fun _ _ _ h => h) (by rfl) (by assumption) ?_ ?_
    rotate_left
    · intro w hSw; (try dsimp only at hSw); go_simp <;> with_reducible rfl
    try simp only [Act.put, List.setIfInBounds_toArray, List.set_cons_zero, List.set_cons_succ]
    refine takeA (i := 1) (v := ?_) rfl (by kernel_rfl) (by kernel_rfl) (by kernel_rfl) (fun _ _ _ h => h) (by rfl) (by assumption) ?_ ?_
    rotate_left
    · intro w hSw; (try dsimp only at hSw); go_simp <;> with_reducible rfl
    try simp only [Act.put, List.setIfInBounds_toArray, List.set_cons_zero, List.set_cons_succ]
    refine stepA (i := 2) rfl (by kernel_rfl) (fun K0 hK0 => ?_)
    go_simp
    refine (VS1.out _ hS.2).mono ?_
    rintro e w' ⟨rfl, rfl⟩
    dsimp only
    refine hK0.out _ _ hS (fun _ => ?_)
    clear hK0 K0
    try simp only [Act.put, List.setIfInBounds_toArray, List.set_cons_zero, List.set_cons_succ]
    refine takeA (i := 3) (v := ?_) rfl (by kernel_rfl) (by kernel_rfl) (by kernel_rfl) (fun _ _ _ h => h) (by rfl) (by assumption) ?_ ?_
    rotate_left
    · intro w hSw; (try dsimp only at hSw); go_simp <;> with_reducible rfl
    try simp only [Act.put, List.setIfInBounds_toArray, List.set_cons_zero, List.set_cons_succ]
    refine takeA (i := 4) (v := ?_) rfl (by kernel_rfl) (by kernel_rfl) (by kernel_rfl) (fun _ _ _ h => h) (by rfl) (by assumption) ?_ ?_
    rotate_left
    · intro w hSw; (try dsimp only at hSw); go_simp <;> with_reducible rfl
    try simp only [Act.put, List.setIfInBounds_toArray, List.set_cons_zero, List.set_cons_succ]
    refine skipA (i := 5) rfl (by kernel_rfl) (by kernel_rfl) (by kernel_rfl) (fun _ _ _ h => h) (by rfl) (by assumption) ?_
    try simp only [Act.put, List.setIfInBounds_toArray, List.set_cons_zero, List.set_cons_succ]
    refine skipA (i := 6) rfl (by kernel_rfl) (by kernel_rfl) (by kernel_rfl) (fun _ _ _ h => h) (by rfl) (by assumption) ?_
    try simp only [Act.put, List.setIfInBounds_toArray, List.set_cons_zero, List.set_cons_succ]
    refine skipA (i := 7) rfl (by kernel_rfl) (by kernel_rfl) (by kernel_rfl) (fun _ _ _ h => h) (by rfl) (by assumption) ?_
    try simp only [Act.put, List.setIfInBounds_toArray, List.set_cons_zero, List.set_cons_succ]
    refine skipA (i := 8) rfl (by kernel_rfl) (by kernel_rfl) (by kernel_rfl) (fun _ _ _ h => h) (by rfl) (by assumption) ?_
    try simp only [Act.put, List.setIfInBounds_toArray, List.set_cons_zero, List.set_cons_succ]
    refine skipA (i := 9) rfl (by kernel_rfl) (by kernel_rfl) (by kernel_rfl) (fun _ _ _ h => h) (by rfl) (by assumption) ?_
    try simp only [Act.put, List.setIfInBounds_toArray, List.set_cons_zero, List.set_cons_succ]
    refine skipA (i := 10) rfl (by kernel_rfl) (by kernel_rfl) (by kernel_rfl) (fun _ _ _ h => h) (by rfl) (by assumption) ?_
    try simp only [Act.put, List.setIfInBounds_toArray, List.set_cons_zero, List.set_cons_succ]
    refine skipA (i := 11) rfl (by kernel_rfl) (by kernel_rfl) (by kernel_rfl) (fun _ _ _ h => h) (by rfl) (by assumption) ?_
    try simp only [Act.put, List.setIfInBounds_toArray, List.set_cons_zero, List.set_cons_succ]
    refine takeA (i := 12) (v := ?_) rfl (by kernel_rfl) (by kernel_rfl) (by kernel_rfl) (fun _ _ _ h => h) (by rfl) (by assumption) ?_ ?_
    rotate_left
    · intro w hSw; (try dsimp only at hSw); go_simp <;> with_reducible rfl
    try simp only [Act.put, List.setIfInBounds_toArray, List.set_cons_zero, List.set_cons_succ]
    refine wpAnyH_done (by kernel_rfl) ?_ _
    go_wp2
    go_ret
    exact ⟨hS.2, rfl⟩
  · subst hs
    have hS0 := hqs.1 rfl
    have CC := Lib.hid (fun W (hW : Below w.heap.size w W) => rcount_any (S.map Int.toNat) A c w.heap.size W hS0.sz (by rw [← hS0.cells]; exact h1.rd.below hW))
    rw [List.length_map] at CC
    have hp := hS0.sz.prod
    have HV := Lib.hid (fun W (hW : Below w.heap.size w W) => (h2.rd.below hW))
    have HZ := Lib.hid i3
    have HQ : Hid (q = true ↔ V.length = Ix.prod (S.map Int.toNat) ∧ ∀ s ∈ V, IsVal s.data.toList) := by
      show _ ↔ _
      rw [hq]
      exact ⟨fun h => h.2, fun h => ⟨hS0, h⟩⟩
    generalize Ix.prod (S.map Int.toNat) = p at *
    clear hq hqs hS0 h h1 h2 hi i3
    obtain ⟨ql, hql⟩ : ∃ b : Bool, b = ((V.length : Int) != (p : Int)) := ⟨_, rfl⟩
    go_enter Tryz.func32, Tryz.ntmps32
    go_wp2_with fail
    refine wp_region_held_drew (S := fun X => (X.cell? ⟨w.heap.size, 0, none⟩ = some (.slice A S.length c) ∧ X.cell? ⟨w.heap.size, 1, none⟩ = some (.slice A' V.length c')) ∧ Below w.heap.size w X) (by kernel_rfl) ⟨⟨d0, d1⟩, hA0.drew⟩ (fun hS => ?_)
    refine takeA (i := 0) (v := ?_) rfl (by kernel_rfl) (by kernel_rfl) (by kernel_rfl) (fun _ _ _ h => h) (by rfl) (by assumption) ?_ ?_
    rotate_left
    · intro w hSw; (try dsimp only at hSw); go_simp <;> with_reducible rfl
    try simp only [Act.put, List.setIfInBounds_toArray, List.set_cons_zero, List.set_cons_succ]
    refine takeA (i := 1) (v := ?_) rfl (by kernel_rfl) (by kernel_rfl) (by kernel_rfl) (fun _ _ _ h => h) (by rfl) (by assumption) ?_ ?_
    rotate_left
    · intro w hSw; (try dsimp only at hSw); go_simp <;> with_reducible rfl
    try simp only [Act.put, List.setIfInBounds_toArray, List.set_cons_zero, List.set_cons_succ]
    refine stepA (i := 2) rfl (by kernel_rfl) (fun K0 hK0 => ?_)
    go_simp
    refine (VS1.out _ hS.2).mono ?_
    rintro e w' ⟨rfl, rfl⟩
    dsimp only
    refine hK0.out _ _ hS (fun _ => ?_)
    clear hK0 K0
    try simp only [Act.put, List.setIfInBounds_toArray, List.set_cons_zero, List.set_cons_succ]
    refine takeA (i := 3) (v := ?_) rfl (by kernel_rfl) (by kernel_rfl) (by kernel_rfl) (fun _ _ _ h => h) (by rfl) (by assumption) ?_ ?_
    rotate_left
    · intro w hSw; (try dsimp only at hSw); go_simp <;> with_reducible rfl
    try simp only [Act.put, List.setIfInBounds_toArray, List.set_cons_zero, List.set_cons_succ]
    refine takeA (i := 4) (v := ?_) rfl (by kernel_rfl) (by kernel_rfl) (by kernel_rfl) (fun _ _ _ h => h) (by rfl) (by assumption) ?_ ?_
    rotate_left
    · intro w hSw; (try dsimp only at hSw); go_simp <;> with_reducible rfl
    try simp only [Act.put, List.setIfInBounds_toArray, List.set_cons_zero, List.set_cons_succ]
    refine takeA (i := 5) (v := ?_) rfl (by kernel_rfl) (by kernel_rfl) (by kernel_rfl) (fun _ _ _ h => h) (by rfl) (by assumption) ?_ ?_
    rotate_left
    · intro w hSw; (try dsimp only at hSw); go_simp <;> with_reducible rfl
    try simp only [Act.put, List.setIfInBounds_toArray, List.set_cons_zero, List.set_cons_succ]
    refine takeA (i := 6) (v := ?_) rfl (by kernel_rfl) (by kernel_rfl) (by kernel_rfl) (fun _ _ _ h => h) (by rfl) (by assumption) ?_ ?_
    rotate_left
    · intro w hSw; (try dsimp only at hSw); go_simp <;> with_reducible rfl
    try simp only [Act.put, List.setIfInBounds_toArray, List.set_cons_zero, List.set_cons_succ]
    refine takeA (i := 7) (v := ?_) rfl (by kernel_rfl) (by kernel_rfl) (by kernel_rfl) (fun _ _ _ h => h) (by rfl) (by assumption) ?_ ?_
    rotate_left
    · intro w hSw; (try dsimp only at hSw); go_simp <;> with_reducible rfl
    try simp only [Act.put, List.setIfInBounds_toArray, List.set_cons_zero, List.set_cons_succ]
    refine takeA (i := 8) (v := ?_) rfl (by kernel_rfl) (by kernel_rfl) (by kernel_rfl) (fun _ _ _ h => h) (by rfl) (by assumption) ?_ ?_
    rotate_left
    · intro w hSw; (try dsimp only at hSw); go_simp <;> with_reducible rfl
    try simp only [Act.put, List.setIfInBounds_toArray, List.set_cons_zero, List.set_cons_succ]
    refine takeA (i := 9) (v := ?_) rfl (by kernel_rfl) (by kernel_rfl) (by kernel_rfl) (fun _ _ _ h => h) (by rfl) (by assumption) ?_ ?_
    rotate_left
    · intro w hSw; (try dsimp only at hSw); go_simp <;> with_reducible rfl
    try simp only [Act.put, List.setIfInBounds_toArray, List.set_cons_zero, List.set_cons_succ]
    refine stepA (i := 10) rfl (by kernel_rfl) (fun K0 hK0 => ?_)
    go_simp
    refine (CC.out _ hS.2).mono ?_
    rintro e w' ⟨rfl, rfl⟩
    dsimp only
    refine hK0.out _ _ hS (fun _ => ?_)
    clear hK0 K0
    try simp only [Act.put, List.setIfInBounds_toArray, List.set_cons_zero, List.set_cons_succ]
    refine takeA (i := 11) (v := ?_) rfl (by kernel_rfl) (by kernel_rfl) (by kernel_rfl) (fun _ _ _ h => h) (by rfl) (by assumption) ?_ ?_
    rotate_left
    · intro w hSw; (try dsimp only at hSw); go_simp <;> with_reducible rfl
    try simp only [Act.put, List.setIfInBounds_toArray, List.set_cons_zero, List.set_cons_succ]
    refine takeA (i := 12) (v := ?_) rfl (by kernel_rfl) (by kernel_rfl) (by kernel_rfl) (fun _ _ _ h => h) (by rfl) (by assumption) ?_ ?_
    rotate_left
    · intro w hSw; (try dsimp only at hSw); go_simp <;> with_reducible rfl
    try simp only [Act.put, List.setIfInBounds_toArray, List.set_cons_zero, List.set_cons_succ]
    refine wpAnyH_done (by kernel_rfl) ?_ _
    try simp only [← hql]
    have hS' := hS
    have kd := k0.drew
    clear hS hA0 k0 d0 d1 CC VS1
    by_cases hl : V.length = p
    rotate_left
    · have hqf : q = false := by
        cases hh : q with
        | false => rfl
        | true => exact absurd (HQ.out.1 hh).1 hl
      have hqt : ql = true := by rw [hql]; simp; omega
      subst hqf
      subst hqt
      clear HQ
      go_wp2
      go_ret
      exact ⟨hS'.2, rfl⟩
    have hqt : ql = false := by rw [hql, hl]; simp
    subst hqt
    subst hl
    have hB0 := hS'.2
    clear hql hS'
    go_wp2_with fail
    generalize (w.alloc (.cells #[.slice A S.length c, .slice A' V.length c'] 25)).drew = W1 at *
    go_loopw [3] (fun i wr => ∃ k : Nat, k ≤ V.length ∧ i = .int .i64 k ∧ Hid (∀ j (hj : j < V.length), j < k → IsVal V[j].data.toList) ∧ Below w.heap.size w wr ∧ Bk wr w.heap.size 25 #[.slice A S.length c, .slice A' V.length c']) (fun i _ => V.length - (intOf i).toNat)
    case atStart => exact ⟨0, Nat.zero_le _, rfl, (fun j hj hk => absurd hk (Nat.not_lt_zero _)), hB0, kd⟩
    case round =>
      clear hB0 kd
      obtain ⟨k, hk, rfl, HT, hB, kb⟩ := hrel
      obtain ⟨b0, b1⟩ := bkA kb
      by_cases hlt : k < V.length
      · obtain ⟨ad, rfl, hab, hx⟩ := (HV.out wr hB).str (j := k) hlt
        have HN : Hid (IsVal V[k].data.toList → ∀ j (hj : j < V.length), j < k + 1 → IsVal V[j].data.toList) := fun h j hj hk => by
          rcases Nat.lt_or_ge j k with h1 | h1
          · exact HT.out j hj h1
          · obtain rfl : j = k := by omega
            exact h
        have HE : Hid (¬ IsVal V[k].data.toList → q = false) := fun h => by
          cases hh : q with
          | false => rfl
          | true => exact absurd ((HQ.out.1 hh).2 _ (List.getElem_mem hlt)) h
        have RV := Lib.hid (rvalue_any V[k] wr (HZ.out _ (List.getElem_mem hlt)) (valB V[k]) (valB_iff _))
        generalize V[k] = x at *
        by_cases hxv : IsVal x.data.toList
        · have HOK := Lib.hid (HN.out hxv)
          have RV2 := RV.out
          rw [(valB_iff x).2 hxv] at RV2
          have RV3 := Lib.hid RV2
          clear HN HE RV RV2
          go_wp2_with fail
          refine RV3.out.mono ?_
          rintro e w3 ⟨hb3, rfl⟩
          have hB3 := hB.trans (hb3.mono hB.size)
          have kb3 := kb.next' hb3
          go_wp2
          go_roundw
          case rel => exact ⟨k + 1, by omega, by go_num, HOK.out, hB3, kb3⟩
          case measure => simp [intOf]; omega
        · have hqf := HE.out hxv
          have RV2 := RV.out
          rw [show valB x = false from by cases hh : valB x with | false => rfl | true => exact absurd ((valB_iff x).1 hh) hxv] at RV2
          have RV3 := Lib.hid RV2
          subst hqf
          clear HN HE RV RV2
          go_wp2_with fail
          refine RV3.out.mono ?_
          rintro e w3 ⟨hb3, rfl⟩
          have hB3 := hB.trans (hb3.mono hB.size)
          go_wp2
          go_ret
          exact ⟨hB3, rfl⟩
      · have hqt : q = true := HQ.out.2 ⟨trivial, fun s hs => by
          obtain ⟨j, hj, rfl⟩ := List.mem_iff_getElem.1 hs
          exact HT.out j hj (by omega)⟩
        subst hqt
        clear HT HQ
        go_wp2
        go_ret
        exact ⟨hB, rfl⟩
end Go.Proofs.YtgnffedncjjkfaaGreatDoor
