/-
  Walks: package array: which shapes and arrays are valid; how far elements lie from each other; places.
-/
import Derived.Test.YtihcefiffblikaaDoorArrA
namespace Go.Proofs.YtihcefiffblikaaDoor
open Go.RowKit Ix Ar

/-- Small sizes that came in as ints. -/
theorem VS.sz {S : List Int} (h : VS S) : Sz4 (S.map Int.toNat) := ⟨by rw [List.length_map]; exact h.1, fun s hs => by
  obtain ⟨x, hx, rfl⟩ := List.mem_map.1 hs
  have := h.2.1 x hx; omega⟩
theorem zints_nats {S : List Int} (h : ∀ s ∈ S, 0 ≤ s) : zints S = ints .i64 (S.map Int.toNat) := by rw [← zints_nat, nats_back h]

set_option maxRecDepth 100000 in
set_option maxHeartbeats 1600000 in
theorem validshape_any (S : List Int) (A : Option Addr) (c B : Nat) (w : World) (hr : Rd w B A (zints S)) (hL : S.length ≤ maxLen) (q : Bool) (hq : q = true ↔ VS S) :
    Calls Tryd.prog 32 #[.slice A S.length c] w fun e w' => w = w' ∧ e = .returned (.bool q) := by
  unfold maxLen at hL
  have HQ := Lib.hid hq
  clear hq
  by_cases h4 : 4 < S.length
  · have hqf : q = false := by
      cases hh : q with
      | false => rfl
      | true => have := (HQ.out.1 hh).1; omega
    subst hqf
    go_enter Tryd.func32, Tryd.ntmps32
    go_wp2
    go_ret
    exact ⟨rfl, rfl⟩
  go_enter Tryd.func32, Tryd.ntmps32
  go_wp2_with fail
  go_loop [10] (fun i => ∃ k : Nat, k ≤ S.length ∧ i = .int .i64 k ∧ Hid (∀ s ∈ S.take k, 0 ≤ s ∧ s ≤ 1024)) (fun i => S.length - (intOf i).toNat)
  case atStart => exact ⟨0, Nat.zero_le _, rfl, (fun s hs => by simp at hs)⟩
  case round =>
    obtain ⟨k, hk, rfl, HT⟩ := hrel
    by_cases hlt : k < S.length
    · obtain ⟨ad, rfl, hab, hcell⟩ := hr.zint hlt
      have hmem : S[k] ∈ S := List.getElem_mem _
      have HN : Hid (0 ≤ S[k] ∧ S[k] ≤ 1024 → ∀ s ∈ S.take (k + 1), 0 ≤ s ∧ s ≤ 1024) := fun h s hs => by
        rw [take_snocI hlt] at hs
        rcases List.mem_append.1 hs with h1 | h1
        · exact HT.out s h1
        · simp at h1; subst h1; exact h
      have HB : Hid (¬ (0 ≤ S[k] ∧ S[k] ≤ 1024) → q = false) := fun h => by
        cases hh : q with
        | false => rfl
        | true => exact absurd ((HQ.out.1 hh).2.1 _ hmem) h
      clear hmem
      generalize S[k] = s at *
      by_cases h0 : s < 0
      · have hqf := HB.out (by omega)
        subst hqf
        clear HN HB
        go_wp2
        go_ret
        exact ⟨rfl, rfl⟩
      by_cases h1 : 1024 < s
      · have hqf := HB.out (by omega)
        subst hqf
        clear HN HB
        go_wp2
        go_ret
        exact ⟨rfl, rfl⟩
      have HN2 := Lib.hid (HN.out ⟨by omega, by omega⟩)
      clear HN HB
      go_wp2
      go_round
      case rel => exact ⟨k + 1, by omega, by go_num, HN2.out⟩
      case measure => simp [intOf]; omega
    · have hall : ∀ s ∈ S, 0 ≤ s ∧ s ≤ 1024 := by have := HT.out; rwa [List.take_of_length_le (by omega)] at this
      have hz : Sz4 (S.map Int.toNat) := ⟨by rw [List.length_map]; omega, fun s hs => by
        obtain ⟨x, hx, rfl⟩ := List.mem_map.1 hs
        have := hall x hx; omega⟩
      have hr2 : Rd w B A (ints .i64 (S.map Int.toNat)) := by rw [← zints_nats fun s hs => (hall s hs).1]; exact hr
      have CC := cells_any (S.map Int.toNat) A c B w hz hr2
      rw [List.length_map] at CC
      have hp := hz.prod
      have HQ2 : Hid (q = decide (Ix.prod (S.map Int.toNat) ≤ 4096)) := by
        show _ = _
        rw [Bool.eq_iff_iff, HQ.out, decide_eq_true_eq]
        exact ⟨fun h => h.2.2, fun h => ⟨by omega, hall, h⟩⟩
      generalize Ix.prod (S.map Int.toNat) = p at *
      have CC := Lib.hid CC
      clear hall hz hr2 HQ HT
      by_cases hp2 : p ≤ 4096
      · have hqt := HQ2.out
        rw [decide_eq_true hp2] at hqt
        subst hqt
        clear HQ2
        go_wp2_with fail
        refine CC.out.mono ?_
        rintro e w' ⟨rfl, rfl⟩
        go_wp2
        go_ret
        exact ⟨rfl, ret_bool (decide_eq_true (by omega))⟩
      · have hqt := HQ2.out
        rw [decide_eq_false hp2] at hqt
        subst hqt
        clear HQ2
        go_wp2_with fail
        refine CC.out.mono ?_
        rintro e w' ⟨rfl, rfl⟩
        go_wp2
        go_ret
        exact ⟨rfl, ret_bool (decide_eq_false (by omega))⟩

/-- A valid array. -/
def VA (a : Arr) : Prop := VS a.1 ∧ a.2.length = Ix.prod (a.1.map Int.toNat) ∧ ∀ s ∈ a.2, IsVal s.data.toList
/-- What came in, in sizes that a machine has. -/
structure InA (a : Arr) : Prop where
  shape : a.1.length ≤ maxLen
  vals : a.2.length ≤ 4000000
  texts : ∀ s ∈ a.2, s.size ≤ 4000000
/-- Two cells of a block. -/
theorem bkA {w : World} {g : Nat} {t : TypeId} {x y : Value} (h : Bk w g t #[x, y]) : w.cell? ⟨g, 0, none⟩ = some x ∧ w.cell? ⟨g, 1, none⟩ = some y := ⟨h.cell 0, h.cell 1⟩

set_option maxRecDepth 100000 in
set_option maxHeartbeats 3200000 in
theorem valid_any (a : Arr) (v : Value) (w : World) (h : IsA w w.heap.size v a) (hi : InA a) (he : Env w) (q : Bool) (hq : q = true ↔ VA a) :
    Calls Tryd.prog 15 #[v] w fun e w' => Below w.heap.size w w' ∧ e = .returned (.bool q) := by
  obtain ⟨A, c, A', c', rfl, hc, hc'⟩ := h.form
  obtain ⟨h1, h2⟩ := h.parts
  obtain ⟨S, V⟩ := a
  simp only at h1 h2 hc hc' hq ⊢
  have i1 := hi.shape
  have i2 := hi.vals
  have i3 := hi.texts
  simp only at i1 i2 i3
  obtain ⟨qs, hqs⟩ : ∃ b : Bool, b = true ↔ VS S := by classical exact ⟨decide _, decide_eq_true_iff⟩
  obtain ⟨qv, hqv⟩ : ∃ b : Bool, b = true ↔ ∀ s ∈ V, IsVal s.data.toList := by classical exact ⟨decide _, decide_eq_true_iff⟩
  have hA0 := below_alloc w (.cells #[.slice A S.length c, .slice A' V.length c'] 25)
  have k0 := Bk.new w 25 #[.slice A S.length c, .slice A' V.length c']
  have VS1 := Lib.hid (fun W (hW : Below w.heap.size w W) => validshape_any S A c w.heap.size W (h1.rd.below hW) i1 qs hqs)
  have VV := Lib.hid (fun W (hW : Below w.heap.size w W) => values_any A' c' V W i2 (((h2.below hW).more hW.size).rd) i3 (he.next hW) qv hqv)
  unfold maxLen at i1
  obtain ⟨d0, d1⟩ := bkA k0
  cases hs : qs
  · have hqf : q = false := by
      cases hh : q with
      | false => rfl
      | true => have := hqs.2 (hq.1 hh).1; rw [hs] at this; cases this
    subst hqf
    subst hs
    clear hq hqs hqv h h1 h2 VV hi i3
    go_enter Tryd.func15, Tryd.ntmps15
    go_wp2_with fail
    refine wp_region_held_drew (S := fun X => (X.cell? ⟨w.heap.size, 0, none⟩ = some (.slice A S.length c) ∧ X.cell? ⟨w.heap.size, 1, none⟩ = some (.slice A' V.length c')) ∧ Below w.heap.size w X) (by kernel_rfl) ⟨⟨d0, d1⟩, hA0.drew⟩ (fun hS => ?_)
    clear d0 d1 hA0 k0
    refine takeA (i := 0) (v := ?_) rfl (by kernel_rfl) (by kernel_rfl) (by kernel_rfl) (fun _ _ _ h => h) (by rfl) (by assumption) ?_ ?_
    rotate_left
    · intro w hSw; (try dsimp only at hSw); go_simp <;> with_reducible rfl
    try simp only [Act.put, List.setIfInBounds_toArray, List.set_cons_zero, List.set_cons_succ]
    refine takeA (i := 1) (v := ?_) rfl (by kernel_rfl) (by kernel_rfl) (by kernel_rfl) (fun _ _ _ h => h) (by rfl) (by assumption) ?_ ?_
    rotate_left
    · intro w hSw; (try dsimp only at hSw); go_simp <;> with_reducible rfl
    try simp only [Act.put, List.setIfInBounds_toArray, List.set_cons_zero, List.set_cons_succ]
    refine stepA (i := 2) rfl (by kernel_rfl) (fun K0 hK0 => ?_)
    go_simp
    refine (VS1.out _ hS.2).mono ?_
    rintro e w' ⟨rfl, rfl⟩
    dsimp only
    refine hK0.out _ _ hS (fun _ => ?_)
    clear hK0 K0
    try simp only [Act.put, List.setIfInBounds_toArray, List.set_cons_zero, List.set_cons_succ]
    refine takeA (i := 3) (v := ?_) rfl (by kernel_rfl) (by kernel_rfl) (by kernel_rfl) (fun _ _ _ h => h) (by rfl) (by assumption) ?_ ?_
    rotate_left
    · intro w hSw; (try dsimp only at hSw); go_simp <;> with_reducible rfl
    try simp only [Act.put, List.setIfInBounds_toArray, List.set_cons_zero, List.set_cons_succ]
    refine skipA (i := 4) rfl (by kernel_rfl) (by kernel_rfl) (by kernel_rfl) (fun _ _ _ h => h) (by rfl) (by assumption) ?_
    try simp only [Act.put, List.setIfInBounds_toArray, List.set_cons_zero, List.set_cons_succ]
    refine skipA (i := 5) rfl (by kernel_rfl) (by kernel_rfl) (by kernel_rfl) (fun _ _ _ h => h) (by rfl) (by assumption) ?_
    try simp only [Act.put, List.setIfInBounds_toArray, List.set_cons_zero, List.set_cons_succ]
    refine skipA (i := 6) rfl (by kernel_rfl) (by kernel_rfl) (by kernel_rfl) (fun _ _ _ h => h) (by rfl) (by assumption) ?_
    try simp only [Act.put, List.setIfInBounds_toArray, List.set_cons_zero, List.set_cons_succ]
    refine skipA (i := 7) rfl (by kernel_rfl) (by kernel_rfl) (by kernel_rfl) (fun _ _ _ h => h) (by rfl) (by assumption) ?_
    try simp only [Act.put, List.setIfInBounds_toArray, List.set_cons_zero, List.set_cons_succ]
    refine skipA (i := 8) rfl (by kernel_rfl) (by kernel_rfl) (by kernel_rfl) (fun _ _ _ h => h) (by rfl) (by assumption) ?_
    try simp only [Act.put, List.setIfInBounds_toArray, List.set_cons_zero, List.set_cons_succ]
    refine skipA (i := 9) rfl (by kernel_rfl) (by kernel_rfl) (by kernel_rfl) (fun _ _ _ h => h) (by rfl) (by assumption) ?_
    try simp only [Act.put, List.setIfInBounds_toArray, List.set_cons_zero, List.set_cons_succ]
    refine skipA (i := 10) rfl (by kernel_rfl) (by kernel_rfl) (by kernel_rfl) (fun _ _ _ h => h) (by rfl) (by assumption) ?_
    try simp only [Act.put, List.setIfInBounds_toArray, List.set_cons_zero, List.set_cons_succ]
    refine takeA (i := 11) (v := ?_) rfl (by kernel_rfl) (by kernel_rfl) (by kernel_rfl) (fun _ _ _ h => h) (by rfl) (by assumption) ?_ ?_
    rotate_left
    · intro w hSw; (try dsimp only at hSw); go_simp <;> with_reducible rfl
    try simp only [Act.put, List.setIfInBounds_toArray, List.set_cons_zero, List.set_cons_succ]
    refine takeA (i := 12) (v := ?_) rfl (by kernel_rfl) (by kernel_rfl) (by kernel_rfl) (fun _ _ _ h => h) (by rfl) (by assumption) ?_ ?_
    rotate_left
    · intro w hSw; (try dsimp only at hSw); go_simp <;> with_reducible rfl
    try simp only [Act.put, List.setIfInBounds_toArray, List.set_cons_zero, List.set_cons_succ]
    refine skipA (i := 13) rfl (by kernel_rfl) (by kernel_rfl) (by kernel_rfl) (fun _ _ _ h => h) (by rfl) (by assumption) ?_
    try simp only [Act.put, List.setIfInBounds_toArray, List.set_cons_zero, List.set_cons_succ]
    refine skipA (i := 14) rfl (by kernel_rfl) (by kernel_rfl) (by kernel_rfl) (fun _ _ _ h => h) (by rfl) (by assumption) ?_
    try simp only [Act.put, List.setIfInBounds_toArray, List.set_cons_zero, List.set_cons_succ]
    refine skipA (i := 15) rfl (by kernel_rfl) (by kernel_rfl) (by kernel_rfl) (fun _ _ _ h => h) (by rfl) (by assumption) ?_
    try simp only [Act.put, List.setIfInBounds_toArray, List.set_cons_zero, List.set_cons_succ]
    refine takeA (i := 16) (v := ?_) rfl (by kernel_rfl) (by kernel_rfl) (by kernel_rfl) (fun _ _ _ h => h) (by rfl) (by assumption) ?_ ?_
    rotate_left
    · intro w hSw; (try dsimp only at hSw); go_simp <;> with_reducible rfl
    try simp only [Act.put, List.setIfInBounds_toArray, List.set_cons_zero, List.set_cons_succ]
    refine takeA (i := 17) (v := ?_) rfl (by kernel_rfl) (by kernel_rfl) (by kernel_rfl) (fun _ _ _ h => h) (by rfl) (by assumption) ?_ ?_
    rotate_left
    · intro w hSw; (try dsimp only at hSw); go_simp <;> with_reducible rfl
    try simp only [Act.put, List.setIfInBounds_toArray, List.set_cons_zero, List.set_cons_succ]
    refine wpAnyH_done (by kernel_rfl) ?_ _
    go_wp2
    go_ret
    exact ⟨hS.2, rfl⟩
  · subst hs
    have hS := hqs.1 rfl
    have CC := Lib.hid (fun W (hW : Below w.heap.size w W) => cells_any (S.map Int.toNat) A c w.heap.size W hS.sz (by rw [← hS.cells]; exact h1.rd.below hW))
    rw [List.length_map] at CC
    have hp := hS.sz.prod
    have HQ : Hid (q = true ↔ V.length = Ix.prod (S.map Int.toNat) ∧ qv = true) := by
      show _ ↔ _
      rw [hq, hqv]
      exact ⟨fun h => h.2, fun h => ⟨hS, h⟩⟩
    generalize Ix.prod (S.map Int.toNat) = p at *
    clear hq hqs hqv hS h h1 h2 hi i3
    by_cases hl : V.length = p
    · have HL := Lib.hid hl
      have hqq : q = qv := by rw [Bool.eq_iff_iff, HQ.out]; exact ⟨fun h => h.2, fun h => ⟨hl, h⟩⟩
      subst hqq
      rw [← hl] at CC
      clear hl HQ HL
      go_enter Tryd.func15, Tryd.ntmps15
      go_wp2_with fail
      go_region_held3 (fun X => (X.cell? ⟨w.heap.size, 0, none⟩ = some (.slice A S.length c) ∧ X.cell? ⟨w.heap.size, 1, none⟩ = some (.slice A' V.length c')))
        (first | with_reducible exact bkA k1 | go_keep)
        (first
          | (go_at_call 32; ((with_reducible refine (VS1.out _ hA0.drew).mono ?_)); rintro e w' ⟨rfl, rfl⟩)
          | (go_at_call 33; ((with_reducible refine (CC.out _ hA0.drew).mono ?_)); rintro e w' ⟨rfl, rfl⟩)
          | (go_at_call 34; ((with_reducible refine (VV.out _ hA0.drew).mono ?_)); rintro e w1 ⟨hb1, rfl⟩; have k1 := k0.drew.below hb1 (by simp)))
      go_wp2
      go_ret
      exact ⟨hA0.drew.trans (hb1.mono (by simp)), rfl⟩
    · have hqf : q = false := by
        cases hh : q with
        | false => rfl
        | true => exact absurd (HQ.out.1 hh).1 hl
      subst hqf
      have hl1 : ¬ (V.length : Int) = (p : Int) := by omega
      have hl2 : ((V.length : Int) == (p : Int)) = false := by simpa using hl1
      clear HQ VV
      go_enter Tryd.func15, Tryd.ntmps15
      go_wp2_with fail
      refine wp_region_held_drew (S := fun X => (X.cell? ⟨w.heap.size, 0, none⟩ = some (.slice A S.length c) ∧ X.cell? ⟨w.heap.size, 1, none⟩ = some (.slice A' V.length c')) ∧ Below w.heap.size w X) (by kernel_rfl) ⟨⟨d0, d1⟩, hA0.drew⟩ (fun hS => ?_)
      clear d0 d1 hA0 k0
      refine takeA (i := 0) (v := ?_) rfl (by kernel_rfl) (by kernel_rfl) (by kernel_rfl) (fun _ _ _ h => h) (by rfl) (by assumption) ?_ ?_
      rotate_left
      · intro w hSw; (try dsimp only at hSw); go_simp <;> with_reducible rfl
      try simp only [Act.put, List.setIfInBounds_toArray, List.set_cons_zero, List.set_cons_succ]
      refine takeA (i := 1) (v := ?_) rfl (by kernel_rfl) (by kernel_rfl) (by kernel_rfl) (fun _ _ _ h => h) (by rfl) (by assumption) ?_ ?_
      rotate_left
      · intro w hSw; (try dsimp only at hSw); go_simp <;> with_reducible rfl
      try simp only [Act.put, List.setIfInBounds_toArray, List.set_cons_zero, List.set_cons_succ]
      refine stepA (i := 2) rfl (by kernel_rfl) (fun K0 hK0 => ?_)
      go_simp
      refine (VS1.out _ hS.2).mono ?_
      rintro e w' ⟨rfl, rfl⟩
      dsimp only
      refine hK0.out _ _ hS (fun _ => ?_)
      clear hK0 K0
      try simp only [Act.put, List.setIfInBounds_toArray, List.set_cons_zero, List.set_cons_succ]
      refine takeA (i := 3) (v := ?_) rfl (by kernel_rfl) (by kernel_rfl) (by kernel_rfl) (fun _ _ _ h => h) (by rfl) (by assumption) ?_ ?_
      rotate_left
      · intro w hSw; (try dsimp only at hSw); go_simp <;> with_reducible rfl
      try simp only [Act.put, List.setIfInBounds_toArray, List.set_cons_zero, List.set_cons_succ]
      refine takeA (i := 4) (v := ?_) rfl (by kernel_rfl) (by kernel_rfl) (by kernel_rfl) (fun _ _ _ h => h) (by rfl) (by assumption) ?_ ?_
      rotate_left
      · intro w hSw; (try dsimp only at hSw); go_simp <;> with_reducible rfl
      try simp only [Act.put, List.setIfInBounds_toArray, List.set_cons_zero, List.set_cons_succ]
      refine takeA (i := 5) (v := ?_) rfl (by kernel_rfl) (by kernel_rfl) (by kernel_rfl) (fun _ _ _ h => h) (by rfl) (by assumption) ?_ ?_
      rotate_left
      · intro w hSw; (try dsimp only at hSw); go_simp <;> with_reducible rfl
      try simp only [Act.put, List.setIfInBounds_toArray, List.set_cons_zero, List.set_cons_succ]
      refine takeA (i := 6) (v := ?_) rfl (by kernel_rfl) (by kernel_rfl) (by kernel_rfl) (fun _ _ _ h => h) (by rfl) (by assumption) ?_ ?_
      rotate_left
      · intro w hSw; (try dsimp only at hSw); go_simp <;> with_reducible rfl
      try simp only [Act.put, List.setIfInBounds_toArray, List.set_cons_zero, List.set_cons_succ]
      refine takeA (i := 7) (v := ?_) rfl (by kernel_rfl) (by kernel_rfl) (by kernel_rfl) (fun _ _ _ h => h) (by rfl) (by assumption) ?_ ?_
      rotate_left
      · intro w hSw; (try dsimp only at hSw); go_simp <;> with_reducible rfl
      try simp only [Act.put, List.setIfInBounds_toArray, List.set_cons_zero, List.set_cons_succ]
      refine takeA (i := 8) (v := ?_) rfl (by kernel_rfl) (by kernel_rfl) (by kernel_rfl) (fun _ _ _ h => h) (by rfl) (by assumption) ?_ ?_
      rotate_left
      · intro w hSw; (try dsimp only at hSw); go_simp <;> with_reducible rfl
      try simp only [Act.put, List.setIfInBounds_toArray, List.set_cons_zero, List.set_cons_succ]
      refine stepA (i := 9) rfl (by kernel_rfl) (fun K0 hK0 => ?_)
      go_simp
      refine (CC.out _ hS.2).mono ?_
      rintro e w' ⟨rfl, rfl⟩
      dsimp only
      refine hK0.out _ _ hS (fun _ => ?_)
      clear hK0 K0
      try simp only [Act.put, List.setIfInBounds_toArray, List.set_cons_zero, List.set_cons_succ]
      refine takeA (i := 10) (v := ?_) rfl (by kernel_rfl) (by kernel_rfl) (by kernel_rfl) (fun _ _ _ h => h) (by rfl) (by assumption) ?_ ?_
      rotate_left
      · intro w hSw; (try dsimp only at hSw); go_simp <;> with_reducible rfl
      try simp only [Act.put, List.setIfInBounds_toArray, List.set_cons_zero, List.set_cons_succ]
      try simp only [hl2]
      refine takeA (i := 11) (v := ?_) rfl (by kernel_rfl) (by kernel_rfl) (by kernel_rfl) (fun _ _ _ h => h) (by rfl) (by assumption) ?_ ?_
      rotate_left
      · intro w hSw; (try dsimp only at hSw); go_simp <;> with_reducible rfl
      try simp only [Act.put, List.setIfInBounds_toArray, List.set_cons_zero, List.set_cons_succ]
      refine takeA (i := 12) (v := ?_) rfl (by kernel_rfl) (by kernel_rfl) (by kernel_rfl) (fun _ _ _ h => h) (by rfl) (by assumption) ?_ ?_
      rotate_left
      · intro w hSw; (try dsimp only at hSw); go_simp <;> with_reducible rfl
      try simp only [Act.put, List.setIfInBounds_toArray, List.set_cons_zero, List.set_cons_succ]
      refine skipA (i := 13) rfl (by kernel_rfl) (by kernel_rfl) (by kernel_rfl) (fun _ _ _ h => h) (by rfl) (by assumption) ?_
      try simp only [Act.put, List.setIfInBounds_toArray, List.set_cons_zero, List.set_cons_succ]
      refine skipA (i := 14) rfl (by kernel_rfl) (by kernel_rfl) (by kernel_rfl) (fun _ _ _ h => h) (by rfl) (by assumption) ?_
      try simp only [Act.put, List.setIfInBounds_toArray, List.set_cons_zero, List.set_cons_succ]
      refine skipA (i := 15) rfl (by kernel_rfl) (by kernel_rfl) (by kernel_rfl) (fun _ _ _ h => h) (by rfl) (by assumption) ?_
      try simp only [Act.put, List.setIfInBounds_toArray, List.set_cons_zero, List.set_cons_succ]
      refine takeA (i := 16) (v := ?_) rfl (by kernel_rfl) (by kernel_rfl) (by kernel_rfl) (fun _ _ _ h => h) (by rfl) (by assumption) ?_ ?_
      rotate_left
      · intro w hSw; (try dsimp only at hSw); go_simp <;> with_reducible rfl
      try simp only [Act.put, List.setIfInBounds_toArray, List.set_cons_zero, List.set_cons_succ]
      refine takeA (i := 17) (v := ?_) rfl (by kernel_rfl) (by kernel_rfl) (by kernel_rfl) (fun _ _ _ h => h) (by rfl) (by assumption) ?_ ?_
      rotate_left
      · intro w hSw; (try dsimp only at hSw); go_simp <;> with_reducible rfl
      try simp only [Act.put, List.setIfInBounds_toArray, List.set_cons_zero, List.set_cons_succ]
      refine wpAnyH_done (by kernel_rfl) ?_ _
      go_wp2
      go_ret
      exact ⟨hS.2, rfl⟩
end Go.Proofs.YtihcefiffblikaaDoor
