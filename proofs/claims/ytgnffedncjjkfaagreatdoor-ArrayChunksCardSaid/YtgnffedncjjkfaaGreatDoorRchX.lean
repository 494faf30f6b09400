/-
  Walks: the reference's sized, numbers, Chunks.
  Walks: the reference's box and Box; same, Indexes and sameSlab of things that are the same.
  Walks: the reference's Touched.
  Walks: the reference's Touched.
  The walk of the law ArrayChunks.
-/
import Derived.Test.YtgnffedncjjkfaaGreatDoorChkU
namespace Go.Proofs.YtgnffedncjjkfaaGreatDoor
open Go.RowKit Ix Ar

set_option maxRecDepth 100000 in
set_option maxHeartbeats 1600000 in
theorem rsized_any (S Z : List Int) (A A' : Option Addr) (c c' B' : Nat) (w : World) (hr' : Rd w B' A' (zints Z)) (hM : Z.length ≤ maxLen) (q : Bool) (hq : q = true ↔ Zs S Z) :
    Calls Tryz.prog 92 #[.slice A S.length c, .slice A' Z.length c'] w fun e w' => w = w' ∧ e = .returned (.bool q) := by
  unfold maxLen at hM
  by_cases hl : Z.length = S.length
  rotate_left
  · have hqf : q = false := bool_no hq fun h => hl h.1
    have hne : ((Z.length : Int) != (S.length : Int)) = true := by simp; omega
    subst hqf
    clear hq hr' hl
    go_enter Tryz.func92, Tryz.ntmps92
    go_wp2
    go_ret
    exact ⟨rfl, rfl⟩
  have hne : ((Z.length : Int) != (S.length : Int)) = false := by simp; omega
  have HQ := Lib.hid (fun (h : ∀ z ∈ Z, 1 ≤ z ∧ z ≤ 1024) => show q = true from hq.2 ⟨hl, h⟩)
  have HQ0 := Lib.hid (fun z (hz : z ∈ Z) (h : ¬ (1 ≤ z ∧ z ≤ 1024)) => show q = false from bool_no hq fun k => h (k.2 z hz))
  clear hq hl
  go_enter Tryz.func92, Tryz.ntmps92
  go_wp2_with fail
  go_loop [5] (fun i => ∃ k : Nat, k ≤ Z.length ∧ i = .int .i64 k ∧ Hid (∀ z ∈ Z.take k, 1 ≤ z ∧ z ≤ 1024)) (fun i => Z.length - (intOf i).toNat)
  case atStart => exact ⟨0, Nat.zero_le _, rfl, (fun z hz => by simp at hz)⟩
  case round =>
    obtain ⟨k, hk, rfl, HA⟩ := hrel
    by_cases hlt : k < Z.length
    · obtain ⟨ad, rfl, hab, hcell⟩ := hr'.zint hlt
      have HN := Lib.hid (fun (h : 1 ≤ Z[k] ∧ Z[k] ≤ 1024) => show ∀ z ∈ Z.take (k + 1), 1 ≤ z ∧ z ≤ 1024 from fun z hz => by
        rw [take_snocI hlt] at hz
        rcases List.mem_append.1 hz with h1 | h1
        · exact HA.out z h1
        · rw [List.mem_singleton.1 h1]; exact h)
      have HNO := Lib.hid (HQ0.out _ (List.getElem_mem hlt))
      generalize Z[k] = z at *
      by_cases c1 : z < 1
      · have y1 : decide (z < 1) = true := decide_eq_true c1
        have hqf := HNO.out (by omega)
        subst hqf
        clear HN HNO HQ HQ0
        go_wp2
        go_ret
        exact ⟨rfl, rfl⟩
      · have y1 : decide (z < 1) = false := decide_eq_false c1
        by_cases c2 : 1024 < z
        · have y2 : decide (1024 < z) = true := decide_eq_true c2
          have hqf := HNO.out (by omega)
          subst hqf
          clear HN HNO HQ HQ0
          go_wp2
          go_ret
          exact ⟨rfl, rfl⟩
        · have y2 : decide (1024 < z) = false := decide_eq_false c2
          have HOK := Lib.hid (HN.out ⟨by omega, by omega⟩)
          clear HN HNO
          go_wp2
          go_round
          case rel => exact ⟨k + 1, by omega, by go_num, HOK.out⟩
          case measure => simp [intOf]; omega
    · have hqt := HQ.out (by have := HA.out; rwa [List.take_of_length_le (by omega)] at this)
      subst hqt
      go_wp2
      go_ret
      exact ⟨rfl, rfl⟩
/-- In the middle of numbers. -/
def nmid (S Z : List Int) (k : Nat) : List Int := (numsI S Z).take k ++ List.replicate (S.length - k) 0
theorem nmid_next {S Z : List Int} (hS : ∀ s ∈ S, 0 ≤ s) (hZ : Zs S Z) {k : Nat} (hk : k < S.length) (hk2 : k < Z.length) : (nmid S Z k).set k ((S[k] + Z[k] - 1) / Z[k]) = nmid S Z (k + 1) := by
  unfold nmid
  rw [numsI_take hS hZ hk hk2, List.append_assoc, show S.length - k = (S.length - (k + 1)) + 1 by omega, List.replicate_succ]
  exact set_mid _ _ _ _ _ (by rw [List.length_take, numsI_len hZ.1]; omega)
theorem nmid_len {S Z : List Int} (hZ : Zs S Z) {k : Nat} (hk : k ≤ S.length) : (nmid S Z k).length = S.length := by
  unfold nmid
  rw [List.length_append, List.length_take, List.length_replicate, numsI_len hZ.1]; omega
set_option maxRecDepth 100000 in
set_option maxHeartbeats 3200000 in
theorem rnumbers_any (S Z : List Int) (A A' : Option Addr) (c c' B B' : Nat) (w : World) (hV : VS S) (hZ : Zs S Z) (hr : Rd w B A (zints S)) (hr' : Rd w B' A' (zints Z)) (hB : B ≤ w.heap.size) (hB' : B' ≤ w.heap.size) :
    Calls Tryz.prog 93 #[.slice A S.length c, .slice A' Z.length c'] w fun e w' => Below w.heap.size w w' ∧ e = .returned (.slice (some ⟨w.heap.size, 0, none⟩) S.length S.length) ∧ Bk w' w.heap.size 3 (zints (numsI S Z)).toArray := by
  obtain ⟨i0, hi0, hz0, hz1, hz2⟩ := info_parts Tryz.int_info
  have hl4 := hV.1
  have hlz := hZ.1
  have hmk := make_ints (P := Tryz.prog) 22 3 i0 .i64 Tryz.underlying22 hi0 hz0 hz1 (by omega) .i64 .i64 S.length (S.length : Int) rfl (by omega)
  have HW0 : Hid (ints .i64 (List.replicate S.length 0) = zints (nmid S Z 0)) := by
    show _ = _
    unfold nmid
    rw [List.take_zero, List.nil_append, Nat.sub_zero]
    simp [ints, zints]
  have HWE : Hid (nmid S Z S.length = numsI S Z) := by
    show _ = _
    unfold nmid
    rw [List.take_of_length_le (by rw [numsI_len hZ.1]; exact Nat.le_refl _), Nat.sub_self, List.replicate_zero, List.append_nil]
  have HT := Lib.hid (fun k (hk : k < S.length) (hk2 : k < Z.length) => nmid_next (fun s hs => (hV.2.1 s hs).1) hZ hk hk2)
  have HML := Lib.hid (fun k (hk : k ≤ S.length) => nmid_len (S := S) hZ hk)
  have HSB := Lib.hid hV.2.1
  have HZB := Lib.hid hZ.2
  have HR := Lib.hid (fun k (hk : k < S.length) => show ∃ ad, A = some ad ∧ ad.block < w.heap.size ∧ w.cell? (ad.add k) = some (.int .i64 S[k]) from by
    obtain ⟨ad, e1, e2, e3⟩ := hr.zint hk
    exact ⟨ad, e1, by omega, e3⟩)
  have HR' := Lib.hid (fun k (hk : k < Z.length) => show ∃ ad, A' = some ad ∧ ad.block < w.heap.size ∧ w.cell? (ad.add k) = some (.int .i64 Z[k]) from by
    obtain ⟨ad, e1, e2, e3⟩ := hr'.zint hk
    exact ⟨ad, e1, by omega, e3⟩)
  have HLZ := Lib.hid hlz
  clear hV hZ hr hr' hlz
  go_enter Tryz.func93, Tryz.ntmps93
  go_wp2_with fail
  have hB1 := below_alloc w (.cells (ints .i64 (List.replicate S.length 0)).toArray 3)
  have k1 : Bk (w.alloc (.cells (ints .i64 (List.replicate S.length 0)).toArray 3)) w.heap.size 3 (zints (nmid S Z 0)).toArray := by rw [← HW0.out]; exact Bk.new _ _ _
  clear hmk HW0
  generalize w.alloc (.cells (ints .i64 (List.replicate S.length 0)).toArray 3) = w1 at *
  go_loopw [6] (fun i wr => ∃ k : Nat, k ≤ S.length ∧ i = .int .i64 k ∧ Bk wr w.heap.size 3 (zints (nmid S Z k)).toArray ∧ Below w.heap.size w wr) (fun i _ => S.length - (intOf i).toNat)
  case atStart => exact ⟨0, Nat.zero_le _, rfl, k1, hB1⟩
  case round =>
    clear k1 hB1
    obtain ⟨k, hk, rfl, kb, hb⟩ := hrel
    by_cases hlt : k < S.length
    · have hlt' : k < Z.length := by rw [HLZ.out]; exact hlt
      obtain ⟨ad, rfl, hab, hsw⟩ := HR.out k hlt
      obtain ⟨ad', rfl, hab', hzw⟩ := HR'.out k hlt'
      have hz := (hb.cell (p := ad'.add k) (by rw [addr_block]; exact hab')).trans hzw
      have hs := (hb.cell (p := ad.add k) (by rw [addr_block]; exact hab)).trans hsw
      have HN := Lib.hid (HT.out k hlt hlt')
      have b1 := HSB.out _ (List.getElem_mem hlt)
      have b2 := HZB.out _ (List.getElem_mem hlt')
      generalize S[k] = s at *
      generalize Z[k] = z at *
      have w1' : IntKind.i64.wrap (s + z) = s + z := IntWalk.i64_in _ (by omega)
      have w2' : IntKind.i64.wrap (s + z - 1) = s + z - 1 := IntWalk.i64_in _ (by omega)
      have w5' : (s + z - 1).tdiv z = (s + z - 1) / z := Int.tdiv_eq_ediv_of_nonneg (by omega)
      have w6' : 0 ≤ (s + z - 1) / z := Int.ediv_nonneg (by omega) (by omega)
      have w7' : (s + z - 1) / z ≤ s + z - 1 := Int.ediv_le_self _ (by omega)
      have w4' : IntKind.i64.wrap ((s + z - 1) / z) = (s + z - 1) / z := IntWalk.i64_in _ (by omega)
      have hz0' : (z == 0) = false := by simp; omega
      have hz0'' : z ≠ 0 := by omega
      generalize hq : (s + z - 1) / z = q at *
      clear hq
      have k2 := (show Bk wr.drew w.heap.size 3 (zints (nmid S Z k)).toArray from kb).put k (.int .i64 q)
      rw [zints_set, HN.out] at k2
      have hc0 := kb.cell k
      rw [show (zints (nmid S Z k)).toArray[k]? = some (.int .i64 ((nmid S Z k).getD k 0)) from by
        have h := HML.out k hk
        simp [zints, List.getD_eq_getElem?_getD, List.getElem?_eq_getElem (show k < (nmid S Z k).length by omega)]] at hc0
      have hf0 := kb.frozen k
      have hb2 := hb.drew.setCell (p := ⟨w.heap.size, k, none⟩) (Nat.le_refl _) (.int .i64 q)
      have K2 := Lib.hid k2
      have HB2 := Lib.hid hb2
      clear k2 kb HN hb2
      go_wp2_with fail
      refine wp_region_M 18 (by kernel_rfl) (fun Y => Y.cell? (ad'.add k) = some (.int .i64 z) ∧ Y.cell? (ad.add k) = some (.int .i64 s)) ⟨hz, hs⟩ (fun hS0 => ?_)
      refine takeM (i := 0) (v := ?_) rfl (by kernel_rfl) (by decide) (by kernel_rfl) (by kernel_rfl) (by kernel_rfl) (fun _ _ _ h => h) (by rfl) (by assumption) ?_ ?_
      rotate_left
      · intro w hSw; (try dsimp only at hSw); go_simp <;> with_reducible rfl
      try simp only [Act.put, List.setIfInBounds_toArray, List.set_cons_zero, List.set_cons_succ]
      refine takeM (i := 1) (v := ?_) rfl (by kernel_rfl) (by decide) (by kernel_rfl) (by kernel_rfl) (by kernel_rfl) (fun _ _ _ h => h) (by rfl) (by assumption) ?_ ?_
      rotate_left
      · intro w hSw; (try dsimp only at hSw); go_simp <;> with_reducible rfl
      try simp only [Act.put, List.setIfInBounds_toArray, List.set_cons_zero, List.set_cons_succ]
      refine takeM (i := 2) (v := ?_) rfl (by kernel_rfl) (by decide) (by kernel_rfl) (by kernel_rfl) (by kernel_rfl) (fun _ _ _ h => h) (by rfl) (by assumption) ?_ ?_
      rotate_left
      · intro w hSw; (try dsimp only at hSw); go_simp <;> with_reducible rfl
      try simp only [Act.put, List.setIfInBounds_toArray, List.set_cons_zero, List.set_cons_succ]
      refine takeM (i := 3) (v := ?_) rfl (by kernel_rfl) (by decide) (by kernel_rfl) (by kernel_rfl) (by kernel_rfl) (fun _ _ _ h => h) (by rfl) (by assumption) ?_ ?_
      rotate_left
      · intro w hSw; (try dsimp only at hSw); go_simp <;> with_reducible rfl
      try simp only [Act.put, List.setIfInBounds_toArray, List.set_cons_zero, List.set_cons_succ]
      refine takeM (i := 4) (v := ?_) rfl (by kernel_rfl) (by decide) (by kernel_rfl) (by kernel_rfl) (by kernel_rfl) (fun _ _ _ h => h) (by rfl) (by assumption) ?_ ?_
      rotate_left
      · intro w hSw; (try dsimp only at hSw); go_simp <;> with_reducible rfl
      try simp only [Act.put, List.setIfInBounds_toArray, List.set_cons_zero, List.set_cons_succ]
      refine takeM (i := 5) (v := ?_) rfl (by kernel_rfl) (by decide) (by kernel_rfl) (by kernel_rfl) (by kernel_rfl) (fun _ _ _ h => h) (by rfl) (by assumption) ?_ ?_
      rotate_left
      · intro w hSw; (try dsimp only at hSw); go_simp <;> with_reducible rfl
      try simp only [Act.put, List.setIfInBounds_toArray, List.set_cons_zero, List.set_cons_succ]
      refine takeM (i := 6) (v := ?_) rfl (by kernel_rfl) (by decide) (by kernel_rfl) (by kernel_rfl) (by kernel_rfl) (fun _ _ _ h => h) (by rfl) (by assumption) ?_ ?_
      rotate_left
      · intro w hSw; (try dsimp only at hSw); go_simp <;> with_reducible rfl
      try simp only [Act.put, List.setIfInBounds_toArray, List.set_cons_zero, List.set_cons_succ]
      refine takeM (i := 7) (v := ?_) rfl (by kernel_rfl) (by decide) (by kernel_rfl) (by kernel_rfl) (by kernel_rfl) (fun _ _ _ h => h) (by rfl) (by assumption) ?_ ?_
      rotate_left
      · intro w hSw; (try dsimp only at hSw); go_simp <;> with_reducible rfl
      try simp only [Act.put, List.setIfInBounds_toArray, List.set_cons_zero, List.set_cons_succ]
      refine takeM (i := 8) (v := ?_) rfl (by kernel_rfl) (by decide) (by kernel_rfl) (by kernel_rfl) (by kernel_rfl) (fun _ _ _ h => h) (by rfl) (by assumption) ?_ ?_
      rotate_left
      · intro w hSw; (try dsimp only at hSw); go_simp <;> with_reducible rfl
      try simp only [Act.put, List.setIfInBounds_toArray, List.set_cons_zero, List.set_cons_succ]
      refine takeM (i := 9) (v := ?_) rfl (by kernel_rfl) (by decide) (by kernel_rfl) (by kernel_rfl) (by kernel_rfl) (fun _ _ _ h => h) (by rfl) (by assumption) ?_ ?_
      rotate_left
      · intro w hSw; (try dsimp only at hSw); go_simp <;> with_reducible rfl
      try simp only [Act.put, List.setIfInBounds_toArray, List.set_cons_zero, List.set_cons_succ]
      refine takeM (i := 10) (v := ?_) rfl (by kernel_rfl) (by decide) (by kernel_rfl) (by kernel_rfl) (by kernel_rfl) (fun _ _ _ h => h) (by rfl) (by assumption) ?_ ?_
      rotate_left
      · intro w hSw; (try dsimp only at hSw); go_simp <;> with_reducible rfl
      try simp only [Act.put, List.setIfInBounds_toArray, List.set_cons_zero, List.set_cons_succ]
      refine takeM (i := 11) (v := ?_) rfl (by kernel_rfl) (by decide) (by kernel_rfl) (by kernel_rfl) (by kernel_rfl) (fun _ _ _ h => h) (by rfl) (by assumption) ?_ ?_
      rotate_left
      · intro w hSw; (try dsimp only at hSw); go_simp <;> with_reducible rfl
      try simp only [Act.put, List.setIfInBounds_toArray, List.set_cons_zero, List.set_cons_succ]
      refine takeM (i := 12) (v := ?_) rfl (by kernel_rfl) (by decide) (by kernel_rfl) (by kernel_rfl) (by kernel_rfl) (fun _ _ _ h => h) (by rfl) (by assumption) ?_ ?_
      rotate_left
      · intro w hSw; (try dsimp only at hSw); go_simp <;> with_reducible rfl
      try simp only [Act.put, List.setIfInBounds_toArray, List.set_cons_zero, List.set_cons_succ]
      refine takeM (i := 13) (v := ?_) rfl (by kernel_rfl) (by decide) (by kernel_rfl) (by kernel_rfl) (by kernel_rfl) (fun _ _ _ h => h) (by rfl) (by assumption) ?_ ?_
      rotate_left
      · intro w hSw; (try dsimp only at hSw); go_simp <;> with_reducible rfl
      try simp only [Act.put, List.setIfInBounds_toArray, List.set_cons_zero, List.set_cons_succ]
      refine takeM (i := 14) (v := ?_) rfl (by kernel_rfl) (by decide) (by kernel_rfl) (by kernel_rfl) (by kernel_rfl) (fun _ _ _ h => h) (by rfl) (by assumption) ?_ ?_
      rotate_left
      · intro w hSw; (try dsimp only at hSw); go_simp <;> with_reducible rfl
      try simp only [Act.put, List.setIfInBounds_toArray, List.set_cons_zero, List.set_cons_succ]
      refine takeM (i := 15) (v := ?_) rfl (by kernel_rfl) (by decide) (by kernel_rfl) (by kernel_rfl) (by kernel_rfl) (fun _ _ _ h => h) (by rfl) (by assumption) ?_ ?_
      rotate_left
      · intro w hSw; (try dsimp only at hSw); go_simp <;> with_reducible rfl
      try simp only [Act.put, List.setIfInBounds_toArray, List.set_cons_zero, List.set_cons_succ]
      refine takeM (i := 16) (v := ?_) rfl (by kernel_rfl) (by decide) (by kernel_rfl) (by kernel_rfl) (by kernel_rfl) (fun _ _ _ h => h) (by rfl) (by assumption) ?_ ?_
      rotate_left
      · intro w hSw; (try dsimp only at hSw); go_simp <;> with_reducible rfl
      try simp only [Act.put, List.setIfInBounds_toArray, List.set_cons_zero, List.set_cons_succ]
      refine takeM (i := 17) (v := ?_) rfl (by kernel_rfl) (by decide) (by kernel_rfl) (by kernel_rfl) (by kernel_rfl) (fun _ _ _ h => h) (by rfl) (by assumption) ?_ ?_
      rotate_left
      · intro w hSw; (try dsimp only at hSw); go_simp <;> with_reducible rfl
      try simp only [Act.put, List.setIfInBounds_toArray, List.set_cons_zero, List.set_cons_succ]
      clear hS0
      refine stepM (i := 18) rfl (by kernel_rfl) (fun K0 hK0 => ?_)
      go_simp
      refine hK0.out _ _ (fun h => absurd rfl h) (fun _ => ?_)
      clear hK0 K0
      try simp only [Act.put, List.setIfInBounds_toArray, List.set_cons_zero, List.set_cons_succ]
      refine doneM (by kernel_rfl) ?_ _
      go_wp2
      go_roundw
      case rel => exact ⟨k + 1, by omega, by go_num, K2.out, HB2.out⟩
      case measure => simp [intOf]; omega
    · obtain rfl : k = S.length := by omega
      rw [HWE.out] at kb
      clear HWE
      go_wp2
      go_ret
      exact ⟨hb, rfl, kb⟩
set_option maxRecDepth 100000 in
set_option maxHeartbeats 6400000 in
theorem rchunks_any (S Z : List Int) (vs vz : Value) (w : World) (hS : IsI w w.heap.size vs S) (hZ : IsI w w.heap.size vz Z) (hL : S.length ≤ maxLen) (hM : Z.length ≤ maxLen) :
    Calls Tryz.prog 40 #[vs, vz] w fun e w' => Below w.heap.size w w' ∧ ∃ v, e = .returned (.tuple #[v, .int .i64 (chunksR S Z).2]) ∧ IsG w' w'.heap.size v (chunksR S Z).1 := by
  obtain ⟨A, c, rfl, hc⟩ := hS.form
  obtain ⟨A', c', rfl, hc'⟩ := hZ.form
  obtain ⟨qs, hqs⟩ : ∃ b : Bool, b = true ↔ VS S := by classical exact ⟨decide _, decide_eq_true_iff⟩
  obtain ⟨qz, hqz⟩ : ∃ b : Bool, b = true ↔ Zs S Z := by classical exact ⟨decide _, decide_eq_true_iff⟩
  have VV := Lib.hid (rvalidshape_any S A c w.heap.size w hS.rd hL qs hqs)
  cases hs : qs
  · have hno : ¬ VS S := fun h => by rw [hqs.2 h] at hs; cases hs
    rw [chunksR_no (by rw [sizedR_shape hno]; decide), sizedR_shape hno]
    subst hs
    clear hqs hqz hno hS hZ hL hM hc hc'
    go_enter Tryz.func40, Tryz.ntmps40
    go_wp2_with fail
    refine VV.out.mono ?_
    rintro e w1 ⟨rfl, rfl⟩
    go_wp2
    go_ret2
    exact ⟨Below.refl _ _, _, rfl, IsG.nil _ _⟩
  have hV := hqs.1 hs
  subst hs
  have h4 := hV.1
  have SZ := Lib.hid (rsized_any S Z A A' c c' w.heap.size w hZ.rd hM qz hqz)
  cases hz : qz
  · have hno : ¬ Zs S Z := fun h => by rw [hqz.2 h] at hz; cases hz
    rw [chunksR_no (by rw [sizedR_arg hV hno]; decide), sizedR_arg hV hno]
    subst hz
    clear hqs hqz hno hS hZ hL hM hc hc' hV
    go_enter Tryz.func40, Tryz.ntmps40
    go_wp2_with fail
    refine VV.out.mono ?_
    rintro e w1 ⟨rfl, rfl⟩
    go_wp2_with fail
    refine SZ.out.mono ?_
    rintro e w1 ⟨rfl, rfl⟩
    go_wp2
    go_ret2
    exact ⟨Below.refl _ _, _, rfl, IsG.nil _ _⟩
  have hZs := hqz.1 hz
  subst hz
  rw [chunksR_ok (sizedR_ok hV hZs)]
  have hlz := hZs.1
  have hnV := numsI_VS hV hZs
  have hnl := numsI_len (S := S) (Z := Z) hlz
  have NB := Lib.hid (rnumbers_any S Z A A' c c' w.heap.size w.heap.size w hV hZs hS.rd hZ.rd (Nat.le_refl _) (Nat.le_refl _))
  obtain ⟨nn, hnn⟩ : ∃ nn, nn = nums (S.map Int.toNat) (Z.map Int.toNat) := ⟨_, rfl⟩
  have hni : (numsI S Z).map Int.toNat = nn := by rw [numsI_nat, hnn]
  have hsz : Sz4 nn := by have := hnV.sz; rwa [hni] at this
  have hzn : zints (numsI S Z) = ints .i64 nn := by rw [hnV.cells, hni]
  have hnl2 : nn.length = S.length := by rw [← hni, List.length_map, hnl]
  have hch : chunkL S Z = ixs nn (Ix.prod nn) := by unfold chunkL ixs; rw [hnn]
  obtain ⟨N, hN⟩ : ∃ N, N = Ix.prod nn := ⟨_, rfl⟩
  have hN2 : N ≤ 4096 := by rw [hN, ← hni]; exact hnV.2.2
  rw [hch, ← hN]
  rw [hzn] at NB
  have CC := Lib.hid (fun (W : World) (g : Nat) (hg : Bk W g 3 (ints .i64 nn).toArray) => rcount_any nn (some ⟨g, 0, none⟩) nn.length W.heap.size W hsz (by simpa using hg.rd))
  rw [← hN] at CC
  have IX := Lib.hid (fun (W : World) (g : Nat) (hg : Bk W g 3 (ints .i64 nn).toArray) (k : Nat) (hk : k < N) => rindex_any nn k (some ⟨g, 0, none⟩) nn.length W hsz (by rw [← hN]; exact hk) (by simpa using hg.rd))
  have HIX := Lib.hid (fun k => ixs_next nn k)
  have HIL := Lib.hid (fun k => show ((idx nn k).map Int.ofNat).length = nn.length from by rw [List.length_map, idx_len])
  have HNL := Lib.hid hnl2
  have hn4 : nn.length ≤ 4 := by omega
  clear hS hZ hL hM hc hc' hV hZs hqs hqz hnV hnn hni hch hzn hnl hN hsz hlz hnl2
  go_enter Tryz.func40, Tryz.ntmps40
  go_wp2_with fail
  refine VV.out.mono ?_
  rintro e w1 ⟨rfl, rfl⟩
  go_wp2_with fail
  refine SZ.out.mono ?_
  rintro e w1 ⟨rfl, rfl⟩
  go_wp2_with fail
  refine NB.out.mono ?_
  rintro e w1 ⟨hb1, rfl, kn⟩
  clear NB SZ VV
  go_wp2_with fail
  go_loopw [7, 8] (fun v i wr => ∃ k : Nat, k ≤ N ∧ i = .int .i64 k ∧ Bk wr w.heap.size 3 (ints .i64 nn).toArray ∧ OwnG none wr w1.heap.size v (ixs nn k) ∧ Below w.heap.size w wr ∧ w1.heap.size ≤ wr.heap.size) (fun _ i _ => N - (intOf i).toNat)
  case atStart => exact ⟨0, Nat.zero_le _, rfl, kn, OwnG.nil _ _ _, hb1, Nat.le_refl _⟩
  case round =>
    have l0 := kn.lt
    clear kn hb1
    obtain ⟨k, hk, rfl, kn, hO, hB, hs1⟩ := hrel
    obtain ⟨vA, vc, rfl⟩ := hO.form
    rw [ixs_len] at hO
    rw [ixs_len]
    have CCk := Lib.hid (CC.out wr w.heap.size kn)
    rw [HNL.out] at CCk
    go_wp2_with fail
    refine CCk.out.mono ?_
    rintro e w' ⟨rfl, rfl⟩
    clear CCk
    by_cases hlt : k < N
    · have IXk := Lib.hid (IX.out wr w.heap.size kn k hlt)
      rw [HNL.out] at IXk
      go_wp2_with fail
      refine IXk.out.mono ?_
      rintro e w5 ⟨hb5, rfl, hX5⟩
      have hb6 := below_alloc w5 (.cells #[.slice (some ⟨wr.heap.size, 0, none⟩) S.length S.length] 22)
      have hb56 := hb5.trans (hb6.mono hb5.size)
      have kn6 := kn.next' hb56
      have hO6 := hO.keep hb56
      have hB6 := hB.trans (hb56.mono hB.size)
      have hX6 := hX5.next' hb6
      rw [← zints_nat] at hX6
      have hI6 := IsI.of_bk hX6
      rw [HIL.out k, HNL.out] at hI6
      have hz6 := hb56.size
      have l6 := kn6.lt
      have hNX := Lib.hid (HIX.out k)
      have c6 : (w5.alloc (.cells #[.slice (some ⟨wr.heap.size, 0, none⟩) S.length S.length] 22)).cell? ⟨w5.heap.size, 0, none⟩ = some (.slice (some ⟨wr.heap.size, 0, none⟩) S.length S.length) := (Bk.new w5 22 #[Value.slice (some ⟨wr.heap.size, 0, none⟩) S.length S.length]).cell 0
      clear IXk hb5 hb6 hb56 kn hO hB hX5 hX6
      go_wp2_with (at_builtin; refine wpL_append_list rfl (.tmp 25) (.tmp 29) rfl none w1.heap.size (.slice vA k vc) (ixs nn k) rfl hO6 (by omega) (by rw [ixs_len]; omega) ⟨w5.heap.size, 0, none⟩ ((idx nn k).map Int.ofNat) (.slice (some ⟨wr.heap.size, 0, none⟩) S.length S.length) rfl c6 hI6 (fun X e => by cases e) ?_; intro v8 w8 hO8 hg8 hb8; rw [← hNX.out] at hO8; have hz8 := hg8.size; have kn8 := kn6.grown hg8 (fun e => by have := hb8 _ e.symm; omega); have hB8 := hB6.grown hg8 hB6.size (fun r e => by have := hb8 r e; omega); clear hg8 hb8 hO6 hI6)
      go_roundw
      case rel => exact ⟨k + 1, by omega, by go_num, kn8, hO8, hB8, by omega⟩
      case measure => simp [intOf]; omega
    · obtain rfl : k = N := by omega
      have hI := hO.is
      go_wp2
      go_ret2
      exact ⟨hB, _, rfl, hI⟩
end Go.Proofs.YtgnffedncjjkfaaGreatDoor

namespace Go.Proofs.YtgnffedncjjkfaaGreatDoor
open Go.RowKit Ix Ar

theorem krow_set : ∀ (L : List Cut) (k : Nat) (a b c : Int), k < L.length → (((krow L).set (k * 3) (.int .i64 a)).set (k * 3 + 1) (.int .i64 b)).set (k * 3 + 2) (.int .i64 c) = krow (L.set k (a, b, c))
  | [], k, _, _, _, h => by simp at h
  | x :: L, 0, a, b, c, _ => by simp [krow]
  | x :: L, k + 1, a, b, c, h => by
    have ih := krow_set L k a b c (by simpa using h)
    show (((_ :: _ :: _ :: krow L).set ((k + 1) * 3) _).set ((k + 1) * 3 + 1) _).set ((k + 1) * 3 + 2) _ = _ :: _ :: _ :: krow (L.set k (a, b, c))
    rw [← ih, show (k + 1) * 3 = k * 3 + 1 + 1 + 1 by omega, show k * 3 + 1 + 1 + 1 + 1 = k * 3 + 1 + 1 + 1 + 1 from rfl]
    simp only [List.set_cons_succ]
theorem krow_zero (n : Nat) : krow (List.replicate n (0, 0, 0)) = List.replicate (n * 3) (.int .i64 0) := by
  induction n with
  | zero => rfl
  | succ n ih =>
    rw [List.replicate_succ, show (n + 1) * 3 = n * 3 + 1 + 1 + 1 by omega, List.replicate_succ, List.replicate_succ, List.replicate_succ, ← ih]
    rfl
theorem make_cuts (n : Nat) (hn : n ≤ 4000000) (w : World) :
    (Instr.makeSlice 26 (.int .i64 (n : Int)) (.int .i64 (n : Int))).run Tryz.prog w = .ok (.slice (some ⟨w.heap.size, 0, none⟩) n n) (w.alloc (.cells (krow (List.replicate n (0, 0, 0))).toArray 80)) := by
  obtain ⟨i0, hi0, hz0, hz1, hz2⟩ := info_parts Tryz.cut_info
  have hr := run_make (P := Tryz.prog) w 26 80 i0 (.agg #[.int .i64 0, .int .i64 0, .int .i64 0]) Tryz.underlying26 hi0 hz0 .i64 .i64 n n (by omega) (by omega) (by rw [hz2]; omega) (by omega)
  rw [hr, hz1]
  have e1 : madeCells (Value.cells (.agg #[.int .i64 0, .int .i64 0, .int .i64 0])) ((n : Int).toNat * 3) = (krow (List.replicate n (0, 0, 0))).toArray := by
    rw [krow_zero, Int.toNat_natCast]
    apply Array.ext'
    unfold madeCells
    apply List.ext_getElem (by simp)
    intro i h1 h2
    have h3 : i % 3 = 0 ∨ i % 3 = 1 ∨ i % 3 = 2 := by omega
    simp [Value.cells]
    rcases h3 with h3 | h3 | h3 <;> rw [h3] <;> rfl
  rw [e1]
  simp
/-- In the middle of box. -/
def bmid (C : List Cut) (n k : Nat) : List Cut := C.take k ++ List.replicate (n - k) (0, 0, 0)
theorem bmid_len {C : List Cut} {n k : Nat} (hn : C.length = n) (hk : k ≤ n) : (bmid C n k).length = n := by
  unfold bmid
  rw [List.length_append, List.length_take, List.length_replicate]; omega
theorem bmid_next {C : List Cut} {n k : Nat} {x : Cut} (hn : C.length = n) (hk : k < n) (h : C.take (k + 1) = C.take k ++ [x]) : (bmid C n k).set k x = bmid C n (k + 1) := by
  unfold bmid
  rw [h, List.append_assoc, show n - k = (n - (k + 1)) + 1 by omega, List.replicate_succ]
  exact set_mid _ _ _ _ _ (by rw [List.length_take]; omega)
theorem krow_int {l : List Cut} {v : Value} (h : v ∈ krow l) : ∃ i, v = .int .i64 i := by
  unfold krow at h
  obtain ⟨p, _, h⟩ := List.mem_flatMap.1 h
  simp only [List.mem_cons, List.not_mem_nil, or_false] at h
  rcases h with rfl | rfl | rfl <;> exact ⟨_, rfl⟩
theorem krow_some {l : List Cut} {j : Nat} (h : j < l.length * 3) : ∃ i, (krow l).toArray[j]? = some (.int .i64 i) := by
  have hj : j < (krow l).length := by rw [krow_len]; exact h
  obtain ⟨i, hi⟩ := krow_int (List.getElem_mem hj)
  exact ⟨i, by simp [List.getElem?_eq_getElem hj, hi]⟩
set_option maxRecDepth 100000 in
set_option maxHeartbeats 6400000 in
theorem rbox_any (S Z I : List Int) (A A' Ai : Option Addr) (c c' ci B : Nat) (w : World) (hV : VS S) (hZ : Zs S Z) (hI : InI (numsI S Z) I) (hr : Rd w B A (zints S)) (hr' : Rd w B A' (zints Z)) (hri : Rd w B Ai (zints I)) (hB : B ≤ w.heap.size) :
    Calls Tryz.prog 94 #[.slice A S.length c, .slice A' Z.length c', .slice Ai I.length ci] w fun e w' => Below w.heap.size w w' ∧ e = .returned (.slice (some ⟨w.heap.size, 0, none⟩) S.length S.length) ∧ Bk w' w.heap.size 80 (krow (boxC (S.map Int.toNat) (Z.map Int.toNat) (I.map Int.toNat))).toArray := by
  have hl4 := hV.1
  have hlz := hZ.1
  have hIl : I.length = S.length := by rw [hI.1, numsI_len hlz]
  have hmk := make_cuts S.length (by omega)
  have hCl : (boxC (S.map Int.toNat) (Z.map Int.toNat) (I.map Int.toNat)).length = S.length := by rw [box_len (zs_pos hZ) (zs_len hZ) hI.numsI, List.length_map]
  have HW0 : Hid (List.replicate S.length (0, 0, 0) = bmid (boxC (S.map Int.toNat) (Z.map Int.toNat) (I.map Int.toNat)) S.length 0) := by
    show _ = _
    unfold bmid
    rw [List.take_zero, List.nil_append, Nat.sub_zero]
  have HWE : Hid (bmid (boxC (S.map Int.toNat) (Z.map Int.toNat) (I.map Int.toNat)) S.length S.length = boxC (S.map Int.toNat) (Z.map Int.toNat) (I.map Int.toNat)) := by
    show _ = _
    unfold bmid
    rw [List.take_of_length_le (by rw [hCl]; exact Nat.le_refl _), Nat.sub_self, List.replicate_zero, List.append_nil]
  have HT := Lib.hid (fun k (h1 : k < S.length) (h2 : k < Z.length) (h3 : k < I.length) => And.intro (bmid_next hCl h1 (box_take hV hZ hI h1 h2 h3).1) (box_take hV hZ hI h1 h2 h3).2)
  have HML := Lib.hid (fun k (hk : k ≤ S.length) => bmid_len hCl hk)
  have HSB := Lib.hid hV.2.1
  have HZB := Lib.hid hZ.2
  have HR := Lib.hid (fun k (hk : k < S.length) => show ∃ ad, A = some ad ∧ ad.block < w.heap.size ∧ w.cell? (ad.add k) = some (.int .i64 S[k]) from by
    obtain ⟨ad, e1, e2, e3⟩ := hr.zint hk
    exact ⟨ad, e1, by omega, e3⟩)
  have HR' := Lib.hid (fun k (hk : k < Z.length) => show ∃ ad, A' = some ad ∧ ad.block < w.heap.size ∧ w.cell? (ad.add k) = some (.int .i64 Z[k]) from by
    obtain ⟨ad, e1, e2, e3⟩ := hr'.zint hk
    exact ⟨ad, e1, by omega, e3⟩)
  have HRi := Lib.hid (fun k (hk : k < I.length) => show ∃ ad, Ai = some ad ∧ ad.block < w.heap.size ∧ w.cell? (ad.add k) = some (.int .i64 I[k]) from by
    obtain ⟨ad, e1, e2, e3⟩ := hri.zint hk
    exact ⟨ad, e1, by omega, e3⟩)
  have HLZ := Lib.hid hlz
  have HIL := Lib.hid hIl
  clear hV hZ hI hr hr' hri hlz hIl hCl
  generalize boxC (S.map Int.toNat) (Z.map Int.toNat) (I.map Int.toNat) = C at *
  go_enter Tryz.func94, Tryz.ntmps94
  go_wp2_with fail
  have hB1 := below_alloc w (.cells (krow (List.replicate S.length (0, 0, 0))).toArray 80)
  have k1 : Bk (w.alloc (.cells (krow (List.replicate S.length (0, 0, 0))).toArray 80)) w.heap.size 80 (krow (bmid C S.length 0)).toArray := by rw [← HW0.out]; exact Bk.new _ _ _
  clear hmk HW0
  generalize w.alloc (.cells (krow (List.replicate S.length (0, 0, 0))).toArray 80) = w1 at *
  go_loopw [8] (fun i wr => ∃ k : Nat, k ≤ S.length ∧ i = .int .i64 k ∧ Bk wr w.heap.size 80 (krow (bmid C S.length k)).toArray ∧ Below w.heap.size w wr) (fun i _ => S.length - (intOf i).toNat)
  case atStart => exact ⟨0, Nat.zero_le _, rfl, k1, hB1⟩
  case round =>
    clear k1 hB1
    obtain ⟨k, hk, rfl, kb, hb⟩ := hrel
    by_cases hlt : k < S.length
    · have h2 : k < Z.length := by rw [HLZ.out]; exact hlt
      have h3 : k < I.length := by rw [HIL.out]; exact hlt
      obtain ⟨ad, rfl, hab, hsw⟩ := HR.out k hlt
      obtain ⟨ad', rfl, hab', hzw⟩ := HR'.out k h2
      obtain ⟨adi, rfl, habi, hiw⟩ := HRi.out k h3
      have hz := (hb.cell (p := ad'.add k) (by rw [addr_block]; exact hab')).trans hzw
      have hs := (hb.cell (p := ad.add k) (by rw [addr_block]; exact hab)).trans hsw
      have hi := (hb.cell (p := adi.add k) (by rw [addr_block]; exact habi)).trans hiw
      obtain ⟨t1, t2, t3, t4⟩ := HT.out k hlt h2 h3
      have b1 := HSB.out _ (List.getElem_mem hlt)
      have b2 := HZB.out _ (List.getElem_mem h2)
      have hml := HML.out k hk
      generalize S[k] = s at *
      generalize Z[k] = z at *
      generalize I[k] = y at *
      have w1' : IntKind.i64.wrap (y * z) = y * z := IntWalk.i64_in _ (by omega)
      obtain ⟨st, hst⟩ : ∃ st, st = y * z := ⟨_, rfl⟩
      rw [← hst] at t1 t3 t4
      replace w1' : IntKind.i64.wrap (y * z) = st := w1'.trans hst.symm
      clear hst
      have w2' : IntKind.i64.wrap (s - st) = s - st := IntWalk.i64_in _ (by omega)
      have k2 := ((kb.put (k * 3) (.int .i64 st)).put (k * 3 + 1) (.int .i64 (min z (s - st)))).put (k * 3 + 2) (.int .i64 1)
      have e2 : (((krow (bmid C S.length k)).toArray.setIfInBounds (k * 3) (.int .i64 st)).setIfInBounds (k * 3 + 1) (.int .i64 (min z (s - st)))).setIfInBounds (k * 3 + 2) (.int .i64 1) = (krow (bmid C S.length (k + 1))).toArray := by
        have h := krow_set (bmid C S.length k) k st (min z (s - st)) 1 (by omega)
        rw [t1] at h
        rw [← h]
        simp
      rw [e2] at k2
      obtain ⟨j0, hj0⟩ := krow_some (l := bmid C S.length k) (j := k * 3) (by omega)
      obtain ⟨j1, hj1⟩ := krow_some (l := bmid C S.length k) (j := k * 3 + 1) (by omega)
      obtain ⟨j2, hj2⟩ := krow_some (l := bmid C S.length k) (j := k * 3 + 2) (by omega)
      have hc0 := (kb.cell (k * 3)).trans hj0
      have hc1 := (kb.cell (k * 3 + 1)).trans hj1
      have hc2 := (kb.cell (k * 3 + 2)).trans hj2
      have hf0 := kb.frozen (k * 3)
      have hf1 := kb.frozen (k * 3 + 1)
      have hf2 := kb.frozen (k * 3 + 2)
      clear e2 hj0 hj1 hj2 t1 kb hml
      have K2 := Lib.hid k2
      clear k2
      go_wp2_with fail
      refine wp_region_M 9 (by kernel_rfl) (fun Y => Y.cell? (ad'.add k) = some (.int .i64 z) ∧ Y.cell? (adi.add k) = some (.int .i64 y)) ⟨hz, hi⟩ (fun hS0 => ?_)
      refine takeM (i := 0) (v := ?_) rfl (by kernel_rfl) (by decide) (by kernel_rfl) (by kernel_rfl) (by kernel_rfl) (fun _ _ _ h => h) (by rfl) (by assumption) ?_ ?_
      rotate_left
      · intro w hSw; (try dsimp only at hSw); go_simp <;> with_reducible rfl
      try simp only [Act.put, List.setIfInBounds_toArray, List.set_cons_zero, List.set_cons_succ]
      refine takeM (i := 1) (v := ?_) rfl (by kernel_rfl) (by decide) (by kernel_rfl) (by kernel_rfl) (by kernel_rfl) (fun _ _ _ h => h) (by rfl) (by assumption) ?_ ?_
      rotate_left
      · intro w hSw; (try dsimp only at hSw); go_simp <;> with_reducible rfl
      try simp only [Act.put, List.setIfInBounds_toArray, List.set_cons_zero, List.set_cons_succ]
      refine takeM (i := 2) (v := ?_) rfl (by kernel_rfl) (by decide) (by kernel_rfl) (by kernel_rfl) (by kernel_rfl) (fun _ _ _ h => h) (by rfl) (by assumption) ?_ ?_
      rotate_left
      · intro w hSw; (try dsimp only at hSw); go_simp <;> with_reducible rfl
      try simp only [Act.put, List.setIfInBounds_toArray, List.set_cons_zero, List.set_cons_succ]
      refine takeM (i := 3) (v := ?_) rfl (by kernel_rfl) (by decide) (by kernel_rfl) (by kernel_rfl) (by kernel_rfl) (fun _ _ _ h => h) (by rfl) (by assumption) ?_ ?_
      rotate_left
      · intro w hSw; (try dsimp only at hSw); go_simp <;> with_reducible rfl
      try simp only [Act.put, List.setIfInBounds_toArray, List.set_cons_zero, List.set_cons_succ]
      refine takeM (i := 4) (v := ?_) rfl (by kernel_rfl) (by decide) (by kernel_rfl) (by kernel_rfl) (by kernel_rfl) (fun _ _ _ h => h) (by rfl) (by assumption) ?_ ?_
      rotate_left
      · intro w hSw; (try dsimp only at hSw); go_simp <;> with_reducible rfl
      try simp only [Act.put, List.setIfInBounds_toArray, List.set_cons_zero, List.set_cons_succ]
      refine takeM (i := 5) (v := ?_) rfl (by kernel_rfl) (by decide) (by kernel_rfl) (by kernel_rfl) (by kernel_rfl) (fun _ _ _ h => h) (by rfl) (by assumption) ?_ ?_
      rotate_left
      · intro w hSw; (try dsimp only at hSw); go_simp <;> with_reducible rfl
      try simp only [Act.put, List.setIfInBounds_toArray, List.set_cons_zero, List.set_cons_succ]
      refine takeM (i := 6) (v := ?_) rfl (by kernel_rfl) (by decide) (by kernel_rfl) (by kernel_rfl) (by kernel_rfl) (fun _ _ _ h => h) (by rfl) (by assumption) ?_ ?_
      rotate_left
      · intro w hSw; (try dsimp only at hSw); go_simp <;> with_reducible rfl
      try simp only [Act.put, List.setIfInBounds_toArray, List.set_cons_zero, List.set_cons_succ]
      refine takeM (i := 7) (v := ?_) rfl (by kernel_rfl) (by decide) (by kernel_rfl) (by kernel_rfl) (by kernel_rfl) (fun _ _ _ h => h) (by rfl) (by assumption) ?_ ?_
      rotate_left
      · intro w hSw; (try dsimp only at hSw); go_simp <;> with_reducible rfl
      try simp only [Act.put, List.setIfInBounds_toArray, List.set_cons_zero, List.set_cons_succ]
      refine takeM (i := 8) (v := ?_) rfl (by kernel_rfl) (by decide) (by kernel_rfl) (by kernel_rfl) (by kernel_rfl) (fun _ _ _ h => h) (by rfl) (by assumption) ?_ ?_
      rotate_left
      · intro w hSw; (try dsimp only at hSw); go_simp <;> with_reducible rfl
      try simp only [Act.put, List.setIfInBounds_toArray, List.set_cons_zero, List.set_cons_succ]
      clear hS0
      refine stepM (i := 9) rfl (by kernel_rfl) (fun K0 hK0 => ?_)
      go_simp
      refine hK0.out _ _ (fun h => absurd rfl h) (fun _ => ?_)
      clear hK0 K0
      try simp only [Act.put, List.setIfInBounds_toArray, List.set_cons_zero, List.set_cons_succ]
      refine doneM (by kernel_rfl) ?_ _
      go_wp2_with fail
      refine wp_region_M 16 (by kernel_rfl) (fun Y => Y.cell? (ad'.add k) = some (.int .i64 z) ∧ Y.cell? (ad.add k) = some (.int .i64 s)) ⟨hz, hs⟩ (fun hS0 => ?_)
      refine takeM (i := 0) (v := ?_) rfl (by kernel_rfl) (by decide) (by kernel_rfl) (by kernel_rfl) (by kernel_rfl) (fun _ _ _ h => h) (by rfl) (by assumption) ?_ ?_
      rotate_left
      · intro w hSw; (try dsimp only at hSw); go_simp <;> with_reducible rfl
      try simp only [Act.put, List.setIfInBounds_toArray, List.set_cons_zero, List.set_cons_succ]
      refine takeM (i := 1) (v := ?_) rfl (by kernel_rfl) (by decide) (by kernel_rfl) (by kernel_rfl) (by kernel_rfl) (fun _ _ _ h => h) (by rfl) (by assumption) ?_ ?_
      rotate_left
      · intro w hSw; (try dsimp only at hSw); go_simp <;> with_reducible rfl
      try simp only [Act.put, List.setIfInBounds_toArray, List.set_cons_zero, List.set_cons_succ]
      refine takeM (i := 2) (v := ?_) rfl (by kernel_rfl) (by decide) (by kernel_rfl) (by kernel_rfl) (by kernel_rfl) (fun _ _ _ h => h) (by rfl) (by assumption) ?_ ?_
      rotate_left
      · intro w hSw; (try dsimp only at hSw); go_simp <;> with_reducible rfl
      try simp only [Act.put, List.setIfInBounds_toArray, List.set_cons_zero, List.set_cons_succ]
      refine takeM (i := 3) (v := ?_) rfl (by kernel_rfl) (by decide) (by kernel_rfl) (by kernel_rfl) (by kernel_rfl) (fun _ _ _ h => h) (by rfl) (by assumption) ?_ ?_
      rotate_left
      · intro w hSw; (try dsimp only at hSw); go_simp <;> with_reducible rfl
      try simp only [Act.put, List.setIfInBounds_toArray, List.set_cons_zero, List.set_cons_succ]
      refine takeM (i := 4) (v := ?_) rfl (by kernel_rfl) (by decide) (by kernel_rfl) (by kernel_rfl) (by kernel_rfl) (fun _ _ _ h => h) (by rfl) (by assumption) ?_ ?_
      rotate_left
      · intro w hSw; (try dsimp only at hSw); go_simp <;> with_reducible rfl
      try simp only [Act.put, List.setIfInBounds_toArray, List.set_cons_zero, List.set_cons_succ]
      refine takeM (i := 5) (v := ?_) rfl (by kernel_rfl) (by decide) (by kernel_rfl) (by kernel_rfl) (by kernel_rfl) (fun _ _ _ h => h) (by rfl) (by assumption) ?_ ?_
      rotate_left
      · intro w hSw; (try dsimp only at hSw); go_simp <;> with_reducible rfl
      try simp only [Act.put, List.setIfInBounds_toArray, List.set_cons_zero, List.set_cons_succ]
      refine takeM (i := 6) (v := ?_) rfl (by kernel_rfl) (by decide) (by kernel_rfl) (by kernel_rfl) (by kernel_rfl) (fun _ _ _ h => h) (by rfl) (by assumption) ?_ ?_
      rotate_left
      · intro w hSw; (try dsimp only at hSw); go_simp <;> with_reducible rfl
      try simp only [Act.put, List.setIfInBounds_toArray, List.set_cons_zero, List.set_cons_succ]
      refine takeM (i := 7) (v := ?_) rfl (by kernel_rfl) (by decide) (by kernel_rfl) (by kernel_rfl) (by kernel_rfl) (fun _ _ _ h => h) (by rfl) (by assumption) ?_ ?_
      rotate_left
      · intro w hSw; (try dsimp only at hSw); go_simp <;> with_reducible rfl
      try simp only [Act.put, List.setIfInBounds_toArray, List.set_cons_zero, List.set_cons_succ]
      refine takeM (i := 8) (v := ?_) rfl (by kernel_rfl) (by decide) (by kernel_rfl) (by kernel_rfl) (by kernel_rfl) (fun _ _ _ h => h) (by rfl) (by assumption) ?_ ?_
      rotate_left
      · intro w hSw; (try dsimp only at hSw); go_simp <;> with_reducible rfl
      try simp only [Act.put, List.setIfInBounds_toArray, List.set_cons_zero, List.set_cons_succ]
      refine takeM (i := 9) (v := ?_) rfl (by kernel_rfl) (by decide) (by kernel_rfl) (by kernel_rfl) (by kernel_rfl) (fun _ _ _ h => h) (by rfl) (by assumption) ?_ ?_
      rotate_left
      · intro w hSw; (try dsimp only at hSw); go_simp <;> with_reducible rfl
      try simp only [Act.put, List.setIfInBounds_toArray, List.set_cons_zero, List.set_cons_succ]
      refine takeM (i := 10) (v := ?_) rfl (by kernel_rfl) (by decide) (by kernel_rfl) (by kernel_rfl) (by kernel_rfl) (fun _ _ _ h => h) (by rfl) (by assumption) ?_ ?_
      rotate_left
      · intro w hSw; (try dsimp only at hSw); go_simp <;> with_reducible rfl
      try simp only [Act.put, List.setIfInBounds_toArray, List.set_cons_zero, List.set_cons_succ]
      refine takeM (i := 11) (v := ?_) rfl (by kernel_rfl) (by decide) (by kernel_rfl) (by kernel_rfl) (by kernel_rfl) (fun _ _ _ h => h) (by rfl) (by assumption) ?_ ?_
      rotate_left
      · intro w hSw; (try dsimp only at hSw); go_simp <;> with_reducible rfl
      try simp only [Act.put, List.setIfInBounds_toArray, List.set_cons_zero, List.set_cons_succ]
      refine takeM (i := 12) (v := ?_) rfl (by kernel_rfl) (by decide) (by kernel_rfl) (by kernel_rfl) (by kernel_rfl) (fun _ _ _ h => h) (by rfl) (by assumption) ?_ ?_
      rotate_left
      · intro w hSw; (try dsimp only at hSw); go_simp <;> with_reducible rfl
      try simp only [Act.put, List.setIfInBounds_toArray, List.set_cons_zero, List.set_cons_succ]
      refine takeM (i := 13) (v := ?_) rfl (by kernel_rfl) (by decide) (by kernel_rfl) (by kernel_rfl) (by kernel_rfl) (fun _ _ _ h => h) (by rfl) (by assumption) ?_ ?_
      rotate_left
      · intro w hSw; (try dsimp only at hSw); go_simp <;> with_reducible rfl
      try simp only [Act.put, List.setIfInBounds_toArray, List.set_cons_zero, List.set_cons_succ]
      refine takeM (i := 14) (v := ?_) rfl (by kernel_rfl) (by decide) (by kernel_rfl) (by kernel_rfl) (by kernel_rfl) (fun _ _ _ h => h) (by rfl) (by assumption) ?_ ?_
      rotate_left
      · intro w hSw; (try dsimp only at hSw); go_simp <;> with_reducible rfl
      try simp only [Act.put, List.setIfInBounds_toArray, List.set_cons_zero, List.set_cons_succ]
      refine takeM (i := 15) (v := ?_) rfl (by kernel_rfl) (by decide) (by kernel_rfl) (by kernel_rfl) (by kernel_rfl) (fun _ _ _ h => h) (by rfl) (by assumption) ?_ ?_
      rotate_left
      · intro w hSw; (try dsimp only at hSw); go_simp <;> with_reducible rfl
      try simp only [Act.put, List.setIfInBounds_toArray, List.set_cons_zero, List.set_cons_succ]
      clear hS0
      refine stepM (i := 16) rfl (by kernel_rfl) (fun K0 hK0 => ?_)
      go_simp
      refine hK0.out _ _ (fun h => absurd rfl h) (fun _ => ?_)
      clear hK0 K0
      try simp only [Act.put, List.setIfInBounds_toArray, List.set_cons_zero, List.set_cons_succ]
      refine doneM (by kernel_rfl) ?_ _
      have HB2 := Lib.hid (((hb.setCell (p := ⟨w.heap.size, k * 3, none⟩) (Nat.le_refl _) (.int .i64 st)).setCell (p := ⟨w.heap.size, k * 3 + 1, none⟩) (Nat.le_refl _) (.int .i64 (min z (s - st)))).setCell (p := ⟨w.heap.size, k * 3 + 2, none⟩) (Nat.le_refl _) (.int .i64 1))
      go_wp2
      go_roundw
      case rel => exact ⟨k + 1, by omega, by go_num, K2.out, HB2.out.drew.drew⟩
      case measure => simp [intOf]; omega
    · obtain rfl : k = S.length := by omega
      rw [HWE.out] at kb
      clear HWE
      go_wp2
      go_ret
      exact ⟨hb, rfl, kb⟩
set_option maxRecDepth 100000 in
set_option maxHeartbeats 6400000 in
theorem rBox_any (S Z I : List Int) (vs vz vi : Value) (w : World) (hS : IsI w w.heap.size vs S) (hZ : IsI w w.heap.size vz Z) (hI : IsI w w.heap.size vi I) (hL : S.length ≤ maxLen) (hM : Z.length ≤ maxLen) (hIL : I.length ≤ maxLen) :
    Calls Tryz.prog 41 #[vs, vz, vi] w fun e w' => Below w.heap.size w w' ∧ ∃ v, e = .returned (.tuple #[v, .int .i64 (boxR S Z I).2]) ∧ IsK w' w'.heap.size v (boxR S Z I).1 := by
  obtain ⟨A, c, rfl, hc⟩ := hS.form
  obtain ⟨A', c', rfl, hc'⟩ := hZ.form
  obtain ⟨Ai, ci, rfl, hci⟩ := hI.form
  obtain ⟨qs, hqs⟩ : ∃ b : Bool, b = true ↔ VS S := by classical exact ⟨decide _, decide_eq_true_iff⟩
  obtain ⟨qz, hqz⟩ : ∃ b : Bool, b = true ↔ Zs S Z := by classical exact ⟨decide _, decide_eq_true_iff⟩
  obtain ⟨qi, hqi⟩ : ∃ b : Bool, b = true ↔ InI (numsI S Z) I := by classical exact ⟨decide _, decide_eq_true_iff⟩
  have VV := Lib.hid (rvalidshape_any S A c w.heap.size w hS.rd hL qs hqs)
  cases hs : qs
  · have hno : ¬ VS S := fun h => by rw [hqs.2 h] at hs; cases hs
    rw [boxR_sized I (by rw [sizedR_shape hno]; decide), sizedR_shape hno]
    subst hs
    clear hqs hqz hqi hno hS hZ hI hL hM hc hc' hci
    go_enter Tryz.func41, Tryz.ntmps41
    go_wp2_with fail
    refine VV.out.mono ?_
    rintro e w1 ⟨rfl, rfl⟩
    go_wp2
    go_ret2
    exact ⟨Below.refl _ _, _, rfl, none, 0, rfl, Nat.le_refl _, fun h => absurd rfl h⟩
  have hV := hqs.1 hs
  subst hs
  have h4 := hV.1
  have SZ := Lib.hid (rsized_any S Z A A' c c' w.heap.size w hZ.rd hM qz hqz)
  cases hz : qz
  · have hno : ¬ Zs S Z := fun h => by rw [hqz.2 h] at hz; cases hz
    rw [boxR_sized I (by rw [sizedR_arg hV hno]; decide), sizedR_arg hV hno]
    subst hz
    clear hqs hqz hqi hno hS hZ hI hL hM hc hc' hci hV
    go_enter Tryz.func41, Tryz.ntmps41
    go_wp2_with fail
    refine VV.out.mono ?_
    rintro e w1 ⟨rfl, rfl⟩
    go_wp2_with fail
    refine SZ.out.mono ?_
    rintro e w1 ⟨rfl, rfl⟩
    go_wp2
    go_ret2
    exact ⟨Below.refl _ _, _, rfl, none, 0, rfl, Nat.le_refl _, fun h => absurd rfl h⟩
  have hZs := hqz.1 hz
  subst hz
  have hnl := numsI_len (S := S) (Z := Z) hZs.1
  have NB := Lib.hid (rnumbers_any S Z A A' c c' w.heap.size w.heap.size w hV hZs hS.rd hZ.rd (Nat.le_refl _) (Nat.le_refl _))
  have IN := Lib.hid (fun W (g : Nat) (hW : Below w.heap.size w W) (hg : Bk W g 3 (zints (numsI S Z)).toArray) => show Calls Tryz.prog 82 #[.slice (some ⟨g, 0, none⟩) S.length S.length, .slice Ai I.length ci] W fun e w' => Below W.heap.size W w' ∧ e = .returned (.bool qi) from by
    have h := risindex_any (numsI S Z) I (some ⟨g, 0, none⟩) Ai S.length ci W.heap.size w.heap.size W (by simpa using hg.rd) (hI.rd.below hW) (Nat.le_refl _) hW.size hIL qi hqi
    rw [hnl] at h
    exact h)
  cases hq : qi
  · have hno : ¬ InI (numsI S Z) I := fun h => by rw [hqi.2 h] at hq; cases hq
    rw [boxR_slab ⟨hV, hZs⟩ hno]
    subst hq
    clear hqs hqz hqi hno hS hZ hI hL hM hc hc' hci hV hZs hnl
    go_enter Tryz.func41, Tryz.ntmps41
    go_wp2_with fail
    refine VV.out.mono ?_
    rintro e w1 ⟨rfl, rfl⟩
    go_wp2_with fail
    refine SZ.out.mono ?_
    rintro e w1 ⟨rfl, rfl⟩
    go_wp2_with fail
    refine NB.out.mono ?_
    rintro e w2 ⟨hb2, rfl, kn⟩
    have IN2 := Lib.hid (IN.out w2 w.heap.size hb2 kn)
    go_wp2_with fail
    refine IN2.out.mono ?_
    rintro e w3 ⟨hb3, rfl⟩
    go_wp2
    go_ret2
    exact ⟨hb2.trans (hb3.mono hb2.size), _, rfl, none, 0, rfl, Nat.le_refl _, fun h => absurd rfl h⟩
  have hIn := hqi.1 hq
  subst hq
  rw [boxR_ok ⟨hV, hZs⟩ hIn]
  have hCl : (boxC (S.map Int.toNat) (Z.map Int.toNat) (I.map Int.toNat)).length = S.length := by rw [box_len (zs_pos hZs) (zs_len hZs) hIn.numsI, List.length_map]
  have RB := Lib.hid (fun W (hW : Below w.heap.size w W) => rbox_any S Z I A A' Ai c c' ci w.heap.size W hV hZs hIn (hS.rd.below hW) (hZ.rd.below hW) (hI.rd.below hW) hW.size)
  have HCL := Lib.hid hCl
  clear hqs hqz hqi hS hZ hI hL hM hc hc' hci hV hZs hnl hIn hCl
  generalize boxC (S.map Int.toNat) (Z.map Int.toNat) (I.map Int.toNat) = C at *
  go_enter Tryz.func41, Tryz.ntmps41
  go_wp2_with fail
  refine VV.out.mono ?_
  rintro e w1 ⟨rfl, rfl⟩
  go_wp2_with fail
  refine SZ.out.mono ?_
  rintro e w1 ⟨rfl, rfl⟩
  go_wp2_with fail
  refine NB.out.mono ?_
  rintro e w2 ⟨hb2, rfl, kn⟩
  have IN2 := Lib.hid (IN.out w2 w.heap.size hb2 kn)
  clear NB IN
  go_wp2_with fail
  refine IN2.out.mono ?_
  rintro e w4 ⟨hb4, rfl⟩
  have hb24 := hb2.trans (hb4.mono hb2.size)
  clear IN2 kn hb2 hb4
  go_wp2_with fail
  refine (RB.out w4 hb24).mono ?_
  rintro e w3 ⟨hb3, rfl, k3⟩
  have hK := IsK.of_bk k3
  rw [HCL.out] at hK
  have hB3 := hb24.trans (hb3.mono hb24.size)
  go_wp2
  go_ret2
  exact ⟨hB3, _, rfl, hK⟩

set_option maxRecDepth 100000 in
set_option maxHeartbeats 1600000 in
/-- The same list twice. -/
theorem lsame_any (l : List Int) (A A' : Option Addr) (c c' B B' : Nat) (w : World) (h : Rd w B A (zints l)) (h' : Rd w B' A' (zints l)) (hL : l.length ≤ maxLen) :
    Calls Tryz.prog 96 #[.slice A l.length c, .slice A' l.length c'] w fun e w' => Below w.heap.size w w' ∧ e = .returned (.bool true) := by
  unfold maxLen at hL
  have HR := Lib.hid (fun W (hW : Below w.heap.size w W) k (hk : k < l.length) => show ∃ ad, A = some ad ∧ W.cell? (ad.add k) = some (.int .i64 l[k]) from by
    obtain ⟨ad, e1, e2, e3⟩ := h.zint hk
    exact ⟨ad, e1, (hW.cell (p := ad.add k) (World.block_lt_of_cell? _ _ e3)).trans e3⟩)
  have HR' := Lib.hid (fun W (hW : Below w.heap.size w W) k (hk : k < l.length) => show ∃ ad, A' = some ad ∧ W.cell? (ad.add k) = some (.int .i64 l[k]) from by
    obtain ⟨ad, e1, e2, e3⟩ := h'.zint hk
    exact ⟨ad, e1, (hW.cell (p := ad.add k) (World.block_lt_of_cell? _ _ e3)).trans e3⟩)
  clear h h'
  go_enter Tryz.func96, Tryz.ntmps96
  go_wp2_with fail
  go_loopw [5] (fun i wr => ∃ k : Nat, k ≤ l.length ∧ i = .int .i64 k ∧ Below w.heap.size w wr) (fun i _ => l.length - (intOf i).toNat)
  case atStart => exact ⟨0, Nat.zero_le _, rfl, Below.refl _ _⟩
  case round =>
    obtain ⟨k, hk, rfl, hb⟩ := hrel
    by_cases hlt : k < l.length
    · obtain ⟨ad, rfl, h1⟩ := HR.out wr hb k hlt
      obtain ⟨ad', rfl, h2⟩ := HR'.out wr hb k hlt
      generalize l[k] = x at *
      have hxx : (x != x) = false := by simp
      go_wp2_with fail
      go_quiet (fail)
      have hb2 := below_drewN hb nq
      go_wp2
      go_roundw
      case rel => exact ⟨k + 1, by omega, by go_num, hb2⟩
      case measure => simp [intOf]; omega
    · obtain rfl : k = l.length := by omega
      go_wp2
      go_ret
      exact ⟨hb, rfl⟩
set_option maxRecDepth 100000 in
set_option maxHeartbeats 1600000 in
/-- The same lists twice. -/
theorem lindexes_any (L : List (List Int)) (va vb : Value) (w : World) (ha : IsG w w.heap.size va L) (hb : IsG w w.heap.size vb L) (hL : L.length ≤ 1000000) (hl : ∀ l ∈ L, l.length ≤ maxLen) :
    Calls Tryz.prog 44 #[va, vb] w fun e w' => Below w.heap.size w w' ∧ e = .returned (.bool true) := by
  obtain ⟨A, c, rfl⟩ := ha.form
  obtain ⟨A', c', rfl⟩ := hb.form
  have HR := Lib.hid (fun k (hk : k < L.length) => show ∃ ad A2 c2, A = some ad ∧ (ad.add k).block < w.heap.size ∧ w.cell? (ad.add k) = some (.slice A2 L[k].length c2) ∧ IsI w w.heap.size (.slice A2 L[k].length c2) L[k] from by
    obtain ⟨ad, A2, c2, e1, e2, e3, e4⟩ := ha.at (List.getElem?_eq_getElem hk)
    exact ⟨ad, A2, c2, e1, by rw [addr_block]; exact e2, e3, e4⟩)
  have HR' := Lib.hid (fun k (hk : k < L.length) => show ∃ ad A2 c2, A' = some ad ∧ (ad.add k).block < w.heap.size ∧ w.cell? (ad.add k) = some (.slice A2 L[k].length c2) ∧ IsI w w.heap.size (.slice A2 L[k].length c2) L[k] from by
    obtain ⟨ad, A2, c2, e1, e2, e3, e4⟩ := hb.at (List.getElem?_eq_getElem hk)
    exact ⟨ad, A2, c2, e1, by rw [addr_block]; exact e2, e3, e4⟩)
  have HL := Lib.hid hl
  clear ha hb hl
  go_enter Tryz.func44, Tryz.ntmps44
  go_wp2_with fail
  go_loopw [5] (fun i wr => ∃ k : Nat, k ≤ L.length ∧ i = .int .i64 k ∧ Below w.heap.size w wr) (fun i _ => L.length - (intOf i).toNat)
  case atStart => exact ⟨0, Nat.zero_le _, rfl, Below.refl _ _⟩
  case round =>
    obtain ⟨k, hk, rfl, hB⟩ := hrel
    by_cases hlt : k < L.length
    · obtain ⟨ad, A2, c2, rfl, b1, h1, i1⟩ := HR.out k hlt
      obtain ⟨ad', A3, c3, rfl, b2, h2, i2⟩ := HR'.out k hlt
      have hm := HL.out _ (List.getElem_mem hlt)
      have d1 := (hB.cell b1).trans h1
      have d2 := (hB.cell b2).trans h2
      generalize L[k] = l at *
      have Bd := hB.drew
      have SA := Lib.hid (lsame_any l A2 A3 c2 c3 w.heap.size w.heap.size wr.drew (i1.rd.below Bd) (i2.rd.below Bd) hm)
      go_wp2_with fail
      refine wp_region_held_drew (S := fun Y => Y.cell? (ad.add k) = some (.slice A2 l.length c2) ∧ Y.cell? (ad'.add k) = some (.slice A3 l.length c3)) (by kernel_rfl) ⟨d1, d2⟩ (fun hS => ?_)
      clear d1 d2 hB
      refine takeA (i := 0) (v := ?_) rfl (by kernel_rfl) (by kernel_rfl) (by kernel_rfl) (fun _ _ _ h => h) (by rfl) (by assumption) ?_ ?_
      rotate_left
      · intro w hSw; (try dsimp only at hSw); go_simp <;> with_reducible rfl
      try simp only [Act.put, List.setIfInBounds_toArray, List.set_cons_zero, List.set_cons_succ]
      refine takeA (i := 1) (v := ?_) rfl (by kernel_rfl) (by kernel_rfl) (by kernel_rfl) (fun _ _ _ h => h) (by rfl) (by assumption) ?_ ?_
      rotate_left
      · intro w hSw; (try dsimp only at hSw); go_simp <;> with_reducible rfl
      try simp only [Act.put, List.setIfInBounds_toArray, List.set_cons_zero, List.set_cons_succ]
      refine takeA (i := 2) (v := ?_) rfl (by kernel_rfl) (by kernel_rfl) (by kernel_rfl) (fun _ _ _ h => h) (by rfl) (by assumption) ?_ ?_
      rotate_left
      · intro w hSw; (try dsimp only at hSw); go_simp <;> with_reducible rfl
      try simp only [Act.put, List.setIfInBounds_toArray, List.set_cons_zero, List.set_cons_succ]
      refine takeA (i := 3) (v := ?_) rfl (by kernel_rfl) (by kernel_rfl) (by kernel_rfl) (fun _ _ _ h => h) (by rfl) (by assumption) ?_ ?_
      rotate_left
      · intro w hSw; (try dsimp only at hSw); go_simp <;> with_reducible rfl
      try simp only [Act.put, List.setIfInBounds_toArray, List.set_cons_zero, List.set_cons_succ]
      refine takeA (i := 4) (v := ?_) rfl (by kernel_rfl) (by kernel_rfl) (by kernel_rfl) (fun _ _ _ h => h) (by rfl) (by assumption) ?_ ?_
      rotate_left
      · intro w hSw; (try dsimp only at hSw); go_simp <;> with_reducible rfl
      try simp only [Act.put, List.setIfInBounds_toArray, List.set_cons_zero, List.set_cons_succ]
      refine takeA (i := 5) (v := ?_) rfl (by kernel_rfl) (by kernel_rfl) (by kernel_rfl) (fun _ _ _ h => h) (by rfl) (by assumption) ?_ ?_
      rotate_left
      · intro w hSw; (try dsimp only at hSw); go_simp <;> with_reducible rfl
      try simp only [Act.put, List.setIfInBounds_toArray, List.set_cons_zero, List.set_cons_succ]
      refine takeA (i := 6) (v := ?_) rfl (by kernel_rfl) (by kernel_rfl) (by kernel_rfl) (fun _ _ _ h => h) (by rfl) (by assumption) ?_ ?_
      rotate_left
      · intro w hSw; (try dsimp only at hSw); go_simp <;> with_reducible rfl
      try simp only [Act.put, List.setIfInBounds_toArray, List.set_cons_zero, List.set_cons_succ]
      refine takeA (i := 7) (v := ?_) rfl (by kernel_rfl) (by kernel_rfl) (by kernel_rfl) (fun _ _ _ h => h) (by rfl) (by assumption) ?_ ?_
      rotate_left
      · intro w hSw; (try dsimp only at hSw); go_simp <;> with_reducible rfl
      try simp only [Act.put, List.setIfInBounds_toArray, List.set_cons_zero, List.set_cons_succ]
      refine stepA (i := 8) rfl (by kernel_rfl) (fun K0 hK0 => ?_)
      go_simp
      refine SA.out.mono ?_
      rintro e w6 ⟨hb6, rfl⟩
      have B6 := Bd.trans (hb6.mono Bd.size)
      dsimp only
      refine hK0.out _ _ ⟨(B6.cell b1).trans h1, (B6.cell b2).trans h2⟩ (fun hS6 => ?_)
      clear hK0 K0 hS
      try simp only [Act.put, List.setIfInBounds_toArray, List.set_cons_zero, List.set_cons_succ]
      refine takeA (i := 9) (v := ?_) rfl (by kernel_rfl) (by kernel_rfl) (by kernel_rfl) (fun _ _ _ h => h) (by rfl) (by assumption) ?_ ?_
      rotate_left
      · intro w hSw; (try dsimp only at hSw); go_simp <;> with_reducible rfl
      try simp only [Act.put, List.setIfInBounds_toArray, List.set_cons_zero, List.set_cons_succ]
      refine wpAnyH_done (by kernel_rfl) ?_ _
      go_wp2
      go_roundw
      case rel => exact ⟨k + 1, by omega, by go_num, B6⟩
      case measure => simp [intOf]; omega
    · obtain rfl : k = L.length := by omega
      go_wp2
      go_ret
      exact ⟨hB, rfl⟩
set_option maxRecDepth 100000 in
set_option maxHeartbeats 1600000 in
/-- The same slab twice. -/
theorem lslab_any (l : List Cut) (va vb : Value) (w : World) (ha : IsK w w.heap.size va l) (hb : IsK w w.heap.size vb l) (hL : l.length ≤ maxLen) :
    Calls Tryz.prog 45 #[va, vb] w fun e w' => Below w.heap.size w w' ∧ e = .returned (.bool true) := by
  unfold maxLen at hL
  obtain ⟨A, c, rfl, -⟩ := ha.form
  obtain ⟨A', c', rfl, -⟩ := hb.form
  have HR := Lib.hid (fun W (hW : Below w.heap.size w W) k (hk : k < l.length) => (ha.rd.below hW).kut (i := k) hk)
  have HR' := Lib.hid (fun W (hW : Below w.heap.size w W) k (hk : k < l.length) => (hb.rd.below hW).kut (i := k) hk)
  clear ha hb
  go_enter Tryz.func45, Tryz.ntmps45
  go_wp2_with fail
  go_loopw [5] (fun i wr => ∃ k : Nat, k ≤ l.length ∧ i = .int .i64 k ∧ Below w.heap.size w wr) (fun i _ => l.length - (intOf i).toNat)
  case atStart => exact ⟨0, Nat.zero_le _, rfl, Below.refl _ _⟩
  case round =>
    obtain ⟨k, hk, rfl, hb⟩ := hrel
    by_cases hlt : k < l.length
    · obtain ⟨ad, rfl, b1, t0, t1, t2⟩ := HR.out wr hb k hlt
      obtain ⟨ad', rfl, b2, s0, s1, s2⟩ := HR'.out wr hb k hlt
      generalize l[k] = x at *
      obtain ⟨x0, x1, x2⟩ := x
      simp only at t0 t1 t2 s0 s1 s2
      go_wp2_with fail
      go_quiet (fail)
      have hb2 := below_drewN hb nq
      go_wp2
      go_roundw
      case rel => exact ⟨k + 1, by omega, by go_num, hb2⟩
      case measure => simp [intOf]; omega
    · obtain rfl : k = l.length := by omega
      go_wp2
      go_ret
      exact ⟨hb, rfl⟩
end Go.Proofs.YtgnffedncjjkfaaGreatDoor

namespace Go.Proofs.YtgnffedncjjkfaaGreatDoor
open Go.RowKit Ix Ar

theorem Tryz.bool_info' : (Tryz.prog.info? 4).map (fun i => (i.zero, i.size, i.bytes)) = some (some (.bool false), 1, 1) := by kernel_rfl
def blz (l : List Bool) : List Value := l.map Value.bool
theorem blz_len (l : List Bool) : (blz l).length = l.length := List.length_map _
theorem blz_set (l : List Bool) (i : Nat) (x : Bool) : (blz l).toArray.setIfInBounds i (.bool x) = (blz (l.set i x)).toArray := by simp [blz, List.map_set]
theorem blz_at {l : List Bool} {i : Nat} (h : i < l.length) : (blz l).toArray[i]? = some (.bool l[i]) := by simp [blz, List.getElem?_eq_getElem h]
theorem make_blz (n : Nat) (hn : n ≤ 4000000) (w : World) :
    (Instr.makeSlice 101 (.int .i64 (n : Int)) (.int .i64 (n : Int))).run Tryz.prog w = .ok (.slice (some ⟨w.heap.size, 0, none⟩) n n) (w.alloc (.cells (blz (List.replicate n false)).toArray 4)) := by
  obtain ⟨i0, hi0, hz0, hz1, hz2⟩ := info_parts Tryz.bool_info'
  have hr := run_make (P := Tryz.prog) w 101 4 i0 (.bool false) Tryz.underlying101 hi0 hz0 .i64 .i64 n n (by omega) (by omega) (by rw [hz2]; omega) (by omega)
  rw [hr, hz1]
  have e1 : madeCells (Value.cells (.bool false)) ((n : Int).toNat * 1) = (blz (List.replicate n false)).toArray := by
    apply Array.ext'
    have : Value.cells (.bool false) = #[.bool false] := rfl
    rw [this, toList_madeCells_one]
    simp [blz]
  rw [e1]
  simp
/-- Which chunks were hit by the first j elements. -/
def hitL (S Z : List Nat) (C : List Cut) (N j : Nat) : List Bool := (List.range N).map (hitB S Z C j)
theorem hitL_len (S Z : List Nat) (C : List Cut) (N j : Nat) : (hitL S Z C N j).length = N := by simp [hitL]
theorem hitL_zero (S Z : List Nat) (C : List Cut) (N : Nat) : hitL S Z C N 0 = List.replicate N false := by
  apply List.ext_getElem (by simp [hitL])
  intro i h1 h2
  simp [hitL, hitB]
theorem hitL_next (S Z : List Nat) (C : List Cut) (N j : Nat) : (hitL S Z C N j).set (place (nums S Z) (chk Z (thr C (idx (cnt C) j)))) true = hitL S Z C N (j + 1) := by
  apply List.ext_getElem (by simp [hitL])
  intro i h1 h2
  rw [List.getElem_set]
  have e : hitB S Z C (j + 1) i = (hitB S Z C j i || (place (nums S Z) (chk Z (thr C (idx (cnt C) j))) == i)) := by
    unfold hitB
    rw [List.range_succ, List.any_append]
    simp
  by_cases h : place (nums S Z) (chk Z (thr C (idx (cnt C) j))) = i
  · rw [if_pos h]
    simp [hitL, e, h]
  · rw [if_neg h]
    simp [hitL, e, h]
theorem chk_len : ∀ {Z Y : List Nat}, Y.length = Z.length → (chk Z Y).length = Z.length
  | [], [], _ => rfl
  | [], _ :: _, h => by simp at h
  | _ :: _, [], h => by simp at h
  | z :: Z, y :: Y, h => by show (chk Z Y).length + 1 = Z.length + 1; rw [chk_len (by simpa using h)]
theorem chk_at : ∀ {Z Y : List Nat} {k : Nat}, k < Z.length → k < Y.length → (chk Z Y)[k]? = some (Y.getD k 0 / Z.getD k 0)
  | [], _, _, h, _ => by simp at h
  | _ :: _, [], _, _, h => by simp at h
  | z :: Z, y :: Y, 0, _, _ => rfl
  | z :: Z, y :: Y, k + 1, h1, h2 => by simpa [chk] using chk_at (Z := Z) (Y := Y) (k := k) (by simpa using h1) (by simpa using h2)
/-- In the middle of the division. -/
def dvl (Z Y : List Nat) (k : Nat) : List Nat := (chk Z Y).take k ++ Y.drop k
theorem dvl_zero (Z Y : List Nat) : dvl Z Y 0 = Y := by simp [dvl]
theorem dvl_len {Z Y : List Nat} {k : Nat} (h : Y.length = Z.length) (hk : k ≤ Y.length) : (dvl Z Y k).length = Y.length := by
  unfold dvl
  rw [List.length_append, List.length_take, List.length_drop, chk_len h]; omega
theorem dvl_all {Z Y : List Nat} (h : Y.length = Z.length) : dvl Z Y Y.length = chk Z Y := by
  unfold dvl
  rw [List.drop_length, List.append_nil, List.take_of_length_le (by rw [chk_len h]; omega)]
theorem dvl_at {Z Y : List Nat} {k : Nat} (h : Y.length = Z.length) (hk : k < Y.length) : (dvl Z Y k).getD k 0 = Y.getD k 0 := by
  unfold dvl
  rw [List.getD_eq_getElem?_getD, List.getElem?_append_right (by rw [List.length_take]; omega), List.length_take, chk_len h, Nat.min_eq_left (by omega), Nat.sub_self, List.getElem?_drop, List.getD_eq_getElem?_getD]
  rfl
theorem dvl_next {Z Y : List Nat} {k : Nat} (h : Y.length = Z.length) (hk : k < Y.length) : (dvl Z Y k).set k (Y.getD k 0 / Z.getD k 0) = dvl Z Y (k + 1) := by
  unfold dvl
  have e1 : (chk Z Y).take (k + 1) = (chk Z Y).take k ++ [Y.getD k 0 / Z.getD k 0] := by rw [List.take_add_one, chk_at (by omega) hk]; rfl
  rw [e1, List.append_assoc, List.drop_eq_getElem_cons hk]
  exact set_mid _ _ _ _ _ (by rw [List.length_take, chk_len h]; omega)
/-- Of the first i indexes those that were hit. -/
def ixf (nn : List Nat) (p : Nat → Bool) (i : Nat) : List (List Int) := ((List.range i).filter p).map fun k => (idx nn k).map Int.ofNat
theorem ixf_next (nn : List Nat) (p : Nat → Bool) (i : Nat) : ixf nn p (i + 1) = if p i then ixf nn p i ++ [(idx nn i).map Int.ofNat] else ixf nn p i := by
  unfold ixf
  rw [List.range_succ, List.filter_append, List.map_append, List.filter_cons]
  cases p i <;> simp
theorem ixf_len (nn : List Nat) (p : Nat → Bool) (i : Nat) : (ixf nn p i).length ≤ i := by
  unfold ixf
  rw [List.length_map]
  have := List.length_filter_le p (List.range i)
  simpa using this
theorem ixf_all {S Z : List Int} {C : List Cut} (hV : VS S) (hZ : Zs S Z) (hF : Fit S C) : ixf (nums (S.map Int.toNat) (Z.map Int.toNat)) (hitB (S.map Int.toNat) (Z.map Int.toNat) C (Ix.prod (cnt C))) (Ix.prod (nums (S.map Int.toNat) (Z.map Int.toNat))) = (cart (tls C (Z.map Int.toNat))).map (List.map Int.ofNat) := by
  have hS : (S.map Int.toNat).map Int.ofNat = S := nats_back (fun s hs => (hV.2.1 s hs).1)
  have h := touched_eq (S := S.map Int.toNat) (Z := Z.map Int.toNat) (C := C) (L := tls C (Z.map Int.toNat)) (zs_pos hZ) (zs_len hZ) (by rw [hS]; exact hF) (tls_lines hF (by rw [List.length_map, hZ.1]))
  rw [← h, List.map_map]
  rfl
theorem chk_in {S Z : List Int} {C : List Cut} {J : List Nat} (hZ : Zs S Z) (hF : Fit S C) (hJ : Inside (cnt C) J) : Inside (nums (S.map Int.toNat) (Z.map Int.toNat)) (chk (Z.map Int.toNat) (thr C J)) :=
  (thr_chk (zs_pos hZ) (zs_len hZ) (thr_inside hF hJ)).1
end Go.Proofs.YtgnffedncjjkfaaGreatDoor

namespace Go.Proofs.YtgnffedncjjkfaaGreatDoor
open Go.RowKit Ix Ar

set_option maxRecDepth 100000 in
set_option maxHeartbeats 12800000 in
theorem rtouched_any (S Z : List Int) (C : List Cut) (vs vz vk : Value) (w : World) (hS : IsI w w.heap.size vs S) (hZ : IsI w w.heap.size vz Z) (hk : IsK w w.heap.size vk C) (hL : S.length ≤ maxLen) (hM : Z.length ≤ maxLen) (hC : ∀ x ∈ C, In64 x) (hCL : C.length ≤ maxLen) :
    Calls Tryz.prog 43 #[vs, vz, vk] w fun e w' => Below w.heap.size w w' ∧ ∃ v, e = .returned (.tuple #[v, .int .i64 (touchedR S Z C).2]) ∧ IsG w' w'.heap.size v (touchedR S Z C).1 := by
  obtain ⟨A, c, rfl, hc⟩ := hS.form
  obtain ⟨A', c', rfl, hc'⟩ := hZ.form
  obtain ⟨Ak, ck, rfl, hck⟩ := hk.form
  obtain ⟨qs, hqs⟩ : ∃ b : Bool, b = true ↔ VS S := by classical exact ⟨decide _, decide_eq_true_iff⟩
  obtain ⟨qz, hqz⟩ : ∃ b : Bool, b = true ↔ Zs S Z := by classical exact ⟨decide _, decide_eq_true_iff⟩
  obtain ⟨qf, hqf⟩ : ∃ b : Bool, b = true ↔ Fit S C := by classical exact ⟨decide _, decide_eq_true_iff⟩
  have VV := Lib.hid (rvalidshape_any S A c w.heap.size w hS.rd hL qs hqs)
  cases hs : qs
  · have hno : ¬ VS S := fun h => by rw [hqs.2 h] at hs; cases hs
    rw [touchedR_no C (by rw [sizedR_shape hno]; decide), sizedR_shape hno]
    subst hs
    clear hqs hqz hqf hno hS hZ hk hL hM hc hc' hck hC hCL
    go_enter Tryz.func43, Tryz.ntmps43
    go_wp2_with fail
    refine VV.out.mono ?_
    rintro e w1 ⟨rfl, rfl⟩
    go_wp2
    go_ret2
    exact ⟨Below.refl _ _, _, rfl, IsG.nil _ _⟩
  have hV := hqs.1 hs
  subst hs
  have h4 := hV.1
  have SZ := Lib.hid (rsized_any S Z A A' c c' w.heap.size w hZ.rd hM qz hqz)
  cases hz : qz
  · have hno : ¬ Zs S Z := fun h => by rw [hqz.2 h] at hz; cases hz
    rw [touchedR_no C (by rw [sizedR_arg hV hno]; decide), sizedR_arg hV hno]
    subst hz
    clear hqs hqz hqf hno hS hZ hk hL hM hc hc' hck hC hCL hV
    go_enter Tryz.func43, Tryz.ntmps43
    go_wp2_with fail
    refine VV.out.mono ?_
    rintro e w1 ⟨rfl, rfl⟩
    go_wp2_with fail
    refine SZ.out.mono ?_
    rintro e w1 ⟨rfl, rfl⟩
    go_wp2
    go_ret2
    exact ⟨Below.refl _ _, _, rfl, IsG.nil _ _⟩
  have hZs := hqz.1 hz
  subst hz
  have FF := Lib.hid (rfits_any C S Ak A ck c w hk.rd hS.rd hV.2.1 hC hCL qf hqf)
  cases hf : qf
  · have hno : ¬ Fit S C := fun h => by rw [hqf.2 h] at hf; cases hf
    rw [touchedR_slab (sizedR_ok hV hZs) hno]
    subst hf
    clear hqs hqz hqf hno hS hZ hk hL hM hc hc' hck hC hCL hV hZs
    go_enter Tryz.func43, Tryz.ntmps43
    go_wp2_with fail
    refine VV.out.mono ?_
    rintro e w1 ⟨rfl, rfl⟩
    go_wp2_with fail
    refine SZ.out.mono ?_
    rintro e w1 ⟨rfl, rfl⟩
    go_wp2_with fail
    refine FF.out.mono ?_
    rintro e w2 ⟨hb2, rfl⟩
    go_wp2
    go_ret2
    exact ⟨hb2, _, rfl, IsG.nil _ _⟩
  have hF := hqf.1 hf
  subst hf
  rw [touchedR_ok (sizedR_ok hV hZs) hF, ← ixf_all hV hZs hF]
  have hlz := hZs.1
  have hlC := fit_len hF
  have hnV := numsI_VS hV hZs
  have hcV := fit_VS hV hF
  have hnl := numsI_len (S := S) (Z := Z) hlz
  have NB := Lib.hid (fun W (hW : Below w.heap.size w W) => rnumbers_any S Z A A' c c' w.heap.size w.heap.size W hV hZs (hS.rd.below hW) (hZ.rd.below hW) hW.size hW.size)
  obtain ⟨nn, hnn⟩ : ∃ nn, nn = nums (S.map Int.toNat) (Z.map Int.toNat) := ⟨_, rfl⟩
  have hni : (numsI S Z).map Int.toNat = nn := by rw [numsI_nat, hnn]
  have hsz : Sz4 nn := by have := hnV.sz; rwa [hni] at this
  have hzn : zints (numsI S Z) = ints .i64 nn := by rw [hnV.cells, hni]
  have hnl2 : nn.length = S.length := by rw [← hni, List.length_map, hnl]
  obtain ⟨N, hN⟩ : ∃ N, N = Ix.prod nn := ⟨_, rfl⟩
  have hN2 : N ≤ 4096 := by rw [hN, ← hni]; exact hnV.2.2
  obtain ⟨P, hP⟩ : ∃ P, P = Ix.prod (cnt C) := ⟨_, rfl⟩
  have hP2 : P ≤ 4096 := by rw [hP, ← cntI_nat]; exact hcV.2.2
  have hzc : zints (cntI C) = ints .i64 (cnt C) := by rw [hcV.cells, cntI_nat]
  have hszc : Sz4 (cnt C) := by have := hcV.sz; rwa [cntI_nat] at this
  have hcl : (cnt C).length = C.length := by unfold cnt; rw [List.length_map]
  have hC4 : C.length ≤ 4 := by omega
  have hn4 : nn.length ≤ 4 := by omega
  rw [hzn] at NB
  rw [← hnn, ← hN, ← hP]
  have CCn := Lib.hid (fun (W : World) (g : Nat) (hg : Bk W g 3 (ints .i64 nn).toArray) => show Calls Tryz.prog 68 #[.slice (some ⟨g, 0, none⟩) S.length S.length] W fun e w' => W = w' ∧ e = .returned (.int .i64 N) from by
    have h := rcount_any nn (some ⟨g, 0, none⟩) S.length W.heap.size W hsz (by simpa using hg.rd)
    rw [hnl2, ← hN] at h
    exact h)
  have CN := Lib.hid (fun W (hW : Below w.heap.size w W) => rcounts_any C Ak ck W ((hk.below hW).more hW.size).rd (by omega))
  have CCc := Lib.hid (fun (W : World) (g : Nat) (hg : Bk W g 3 (zints (cntI C)).toArray) => show Calls Tryz.prog 68 #[.slice (some ⟨g, 0, none⟩) C.length C.length] W fun e w' => W = w' ∧ e = .returned (.int .i64 P) from by
    have h := rcount_any (cnt C) (some ⟨g, 0, none⟩) C.length W.heap.size W hszc (by rw [← hzc]; simpa using hg.rd)
    rw [hcl, ← hP] at h
    exact h)
  have IXc := Lib.hid (fun (W : World) (g : Nat) (hg : Bk W g 3 (zints (cntI C)).toArray) (k : Nat) (hk : k < P) => show Calls Tryz.prog 71 #[.slice (some ⟨g, 0, none⟩) C.length C.length, .int .i64 k] W fun e w' => Below W.heap.size W w' ∧ e = .returned (.slice (some ⟨W.heap.size, 0, none⟩) C.length C.length) ∧ Bk w' W.heap.size 3 (ints .i64 (idx (cnt C) k)).toArray from by
    have h := rindex_any (cnt C) k (some ⟨g, 0, none⟩) C.length W hszc (by rw [← hP]; exact hk) (by rw [← hzc]; simpa using hg.rd)
    rw [hcl] at h
    exact h)
  have IXn := Lib.hid (fun (W : World) (g : Nat) (hg : Bk W g 3 (ints .i64 nn).toArray) (k : Nat) (hk : k < N) => show Calls Tryz.prog 71 #[.slice (some ⟨g, 0, none⟩) S.length S.length, .int .i64 k] W fun e w' => Below W.heap.size W w' ∧ e = .returned (.slice (some ⟨W.heap.size, 0, none⟩) S.length S.length) ∧ Bk w' W.heap.size 3 (ints .i64 (idx nn k)).toArray from by
    have h := rindex_any nn k (some ⟨g, 0, none⟩) S.length W hsz (by rw [← hN]; exact hk) (by simpa using hg.rd)
    rw [hnl2] at h
    exact h)
  have TH := Lib.hid (fun (W : World) (hW : Below w.heap.size w W) (X k : Nat) (hk2 : k < P) (hX : Bk W X 3 (ints .i64 (idx (cnt C) k)).toArray) => show Calls Tryz.prog 70 #[.slice Ak C.length ck, .slice (some ⟨X, 0, none⟩) C.length C.length] W fun e w' => Below W.heap.size W w' ∧ e = .returned (.slice (some ⟨W.heap.size, 0, none⟩) C.length C.length) ∧ Bk w' W.heap.size 3 (ints .i64 (thr C (idx (cnt C) k))).toArray from by
    have h := rthrough_any C S (idx (cnt C) k) Ak (some ⟨X, 0, none⟩) ck C.length W ((hk.below hW).more hW.size).rd (by simpa using hX.rd) hF hV.2.1 (idx_inside _ k (by rw [← hP]; exact hk2)) (by omega) hC
    rw [idx_len, hcl] at h
    exact h)
  have PL := Lib.hid (fun (k : Nat) (hk2 : k < P) (X Y : Nat) (W : World) (hX : Bk W X 3 (ints .i64 nn).toArray) (hY : Bk W Y 3 (ints .i64 (chk (Z.map Int.toNat) (thr C (idx (cnt C) k)))).toArray) => show Calls Tryz.prog 69 #[.slice (some ⟨X, 0, none⟩) S.length S.length, .slice (some ⟨Y, 0, none⟩) C.length C.length] W fun e w' => Below W.heap.size W w' ∧ e = .returned (.int .i64 (place nn (chk (Z.map Int.toNat) (thr C (idx (cnt C) k))) : Nat)) from by
    have h := rplace_any nn (chk (Z.map Int.toNat) (thr C (idx (cnt C) k))) (some ⟨X, 0, none⟩) (some ⟨Y, 0, none⟩) S.length C.length W.heap.size W.heap.size W hsz (by rw [hnn]; exact chk_in hZs hF (idx_inside _ k (by rw [← hP]; exact hk2))) (by simpa using hX.rd) (by simpa using hY.rd) (Nat.le_refl _) (Nat.le_refl _)
    rw [hnl2, show Value.slice (some ⟨Y, 0, none⟩) S.length C.length = .slice (some ⟨Y, 0, none⟩) C.length C.length from by rw [hlC]] at h
    exact h)
  have PLT := Lib.hid (fun (k : Nat) (hk2 : k < P) => show place nn (chk (Z.map Int.toNat) (thr C (idx (cnt C) k))) < N from by
    rw [hN, hnn]; exact place_lt _ _ (chk_in hZs hF (idx_inside _ k (by rw [← hP]; exact hk2))))
  have HTL := Lib.hid (fun (k : Nat) (hk2 : k < P) => show (thr C (idx (cnt C) k)).length = C.length from thr_len (by rw [idx_len, hcl]))
  have HTB := Lib.hid (fun (k : Nat) (hk2 : k < P) (j : Nat) (hj : j < C.length) => show (thr C (idx (cnt C) k)).getD j 0 ≤ 1024 from by
    have h1 := thr_inside hF (idx_inside (cnt C) k (by rw [← hP]; exact hk2))
    have h2 := ((inside_iff _ _).1 h1).2 j (by rw [List.length_map]; omega)
    rw [getD_map, ← getD_zint (show j < S.length by omega)] at h2
    have := hV.2.1 _ (List.getElem_mem (show j < S.length by omega))
    omega)
  have HHN := Lib.hid (fun (k : Nat) => show (hitL (S.map Int.toNat) (Z.map Int.toNat) C N k).set (place nn (chk (Z.map Int.toNat) (thr C (idx (cnt C) k)))) true = hitL (S.map Int.toNat) (Z.map Int.toNat) C N (k + 1) from by rw [hnn]; exact hitL_next _ _ _ _ _)
  have HZL := Lib.hid (show (Z.map Int.toNat).length = C.length from by rw [List.length_map, hlz, hlC])
  have HZG := Lib.hid (fun j (hj : j < Z.length) => show (Z.map Int.toNat).getD j 0 = Z[j].toNat from by rw [getD_map, ← getD_zint hj])
  have HR' := Lib.hid (fun k (hk : k < Z.length) => show ∃ ad, A' = some ad ∧ (ad.add k).block < w.heap.size ∧ w.cell? (ad.add k) = some (.int .i64 Z[k]) from by
    obtain ⟨ad, e1, e2, e3⟩ := hZ.rd.zint hk
    exact ⟨ad, e1, by rw [addr_block]; exact e2, e3⟩)
  have HZB := Lib.hid hZs.2
  have HLZ := Lib.hid (show Z.length = C.length from by rw [hlz, hlC])
  have HIX := Lib.hid (fun k => ixf_next nn (hitB (S.map Int.toNat) (Z.map Int.toNat) C P) k)
  have HIL := Lib.hid (fun k => show ((idx nn k).map Int.ofNat).length = S.length from by rw [List.length_map, idx_len, hnl2])
  have hmk := make_blz N (by omega)
  clear hS hZ hk hL hM hc hc' hck hV hZs hF hqs hqz hqf hnV hcV hnn hni hzn hnl hnl2 hN hP hsz hzc hszc hcl hC hCL hlz hlC
  generalize Z.map Int.toNat = Zn at *
  go_enter Tryz.func43, Tryz.ntmps43
  go_wp2_with fail
  refine VV.out.mono ?_
  rintro e w1 ⟨rfl, rfl⟩
  go_wp2_with fail
  refine SZ.out.mono ?_
  rintro e w1 ⟨rfl, rfl⟩
  go_wp2_with fail
  refine FF.out.mono ?_
  rintro e w1 ⟨hb1, rfl⟩
  go_wp2_with fail
  refine (NB.out w1 hb1).mono ?_
  rintro e w2 ⟨hb2, rfl, kn⟩
  have hb12 := hb1.trans (hb2.mono hb1.size)
  clear NB SZ VV FF hb2
  go_wp2_with fail
  refine (CCn.out w2 _ kn).mono ?_
  rintro e w' ⟨rfl, rfl⟩
  go_wp2_with fail
  have hb3 := below_alloc w2 (.cells (blz (List.replicate N false)).toArray 4)
  have kh := Bk.new w2 4 (blz (List.replicate N false)).toArray
  have kn3 := kn.next' hb3
  have hb13 := hb12.trans (hb3.mono hb12.size)
  have ln := kn.lt
  have l1 := hb1.size
  clear hmk hb12 hb3 kn
  generalize w2.alloc (.cells (blz (List.replicate N false)).toArray 4) = w3 at *
  rw [← hitL_zero (S.map Int.toNat) Zn C N] at kh
  generalize w1.heap.size = nb at *
  generalize w2.heap.size = hb at *
  refine (CN.out w3 hb13).mono ?_
  rintro e w4 ⟨hb4, rfl, kc⟩
  have kn4 := kn3.next' hb4
  have kh4 := kh.next' hb4
  have lh := kh.lt
  have hb14 := hb13.trans (hb4.mono hb13.size)
  clear kn3 kh hb13 hb4 CN
  generalize w3.heap.size = cb at *
  go_wp2_with fail
  have lc := kc.lt
  have lhc : hb < cb := lh
  clear lh
  go_loopw [11] (fun i wr => ∃ j : Nat, j ≤ P ∧ i = .int .i64 j ∧ Bk wr nb 3 (ints .i64 nn).toArray ∧ Bk wr hb 4 (blz (hitL (S.map Int.toNat) Zn C N j)).toArray ∧ Bk wr cb 3 (zints (cntI C)).toArray ∧ Below w.heap.size w wr) (fun i _ => P - (intOf i).toNat)
  case atStart => exact ⟨0, Nat.zero_le _, rfl, kn4, kh4, kc, hb14⟩
  case round =>
    clear kn4 kh4 kc hb14 lc
    obtain ⟨j, hj, rfl, kn, kh, kc, hB⟩ := hrel
    go_wp2_with fail
    refine (CCc.out wr cb kc).mono ?_
    rintro e w' ⟨rfl, rfl⟩
    by_cases hlt : j < P
    · go_wp2_with fail
      refine (IXc.out wr cb kc j hlt).mono ?_
      rintro e w5 ⟨hb5, rfl, kx⟩
      have hB5 := hB.trans (hb5.mono hB.size)
      go_wp2_with fail
      refine (TH.out w5 hB5 _ j hlt kx).mono ?_
      rintro e w6 ⟨hb6, rfl, ky⟩
      have hb56 := hb5.trans (hb6.mono hb5.size)
      have kn6 := kn.next' hb56
      have kh6 := kh.next' hb56
      have kc6 := kc.next' hb56
      have hB6 := hB.trans (hb56.mono hB.size)
      have l5 := kc.lt
      have l6 := hb5.size
      have PLj := Lib.hid (PL.out j hlt)
      have PTj := PLT.out j hlt
      have HHj := HHN.out j
      have HTj := Lib.hid (HTL.out j hlt)
      have HBj := Lib.hid (HTB.out j hlt)
      clear kn kh kc hB hb5 hb6 hB5 hb56 kx
      generalize w5.heap.size = yb at *
      generalize thr C (idx (cnt C) j) = Y at *
      rw [← dvl_zero Zn Y] at ky
      have lyb : cb < yb := by omega
      clear l5 l6
      go_wp2_with fail
      go_loopw [13] (fun i wr => ∃ k : Nat, k ≤ C.length ∧ i = .int .i64 k ∧ Bk wr nb 3 (ints .i64 nn).toArray ∧ Bk wr hb 4 (blz (hitL (S.map Int.toNat) Zn C N j)).toArray ∧ Bk wr cb 3 (zints (cntI C)).toArray ∧ Bk wr yb 3 (ints .i64 (dvl Zn Y k)).toArray ∧ Below w.heap.size w wr) (fun i _ => C.length - (intOf i).toNat)
      case atStart => exact ⟨0, Nat.zero_le _, rfl, kn6, kh6, kc6, ky, hB6⟩
      case round =>
        clear kn6 kh6 kc6 ky hB6
        obtain ⟨k, hk, rfl, kn, kh, kc, ky, hB⟩ := hrel
        have hYZ : Hid (Y.length = Zn.length) := by show _ = _; rw [HTj.out, HZL.out]
        by_cases hlk : k < C.length
        · have hkz : k < Z.length := by rw [HLZ.out]; exact hlk
          have hkY : k < Y.length := by rw [HTj.out]; exact hlk
          obtain ⟨ad', rfl, hab, hzw⟩ := HR'.out k hkz
          have hz := (hB.cell hab).trans hzw
          have b2 := HZB.out _ (List.getElem_mem hkz)
          have HG := HZG.out k hkz
          have b1 := HBj.out k hlk
          have DN := dvl_next (Z := Zn) hYZ.out hkY
          rw [HG] at DN
          generalize Z[k] = z at *
          obtain ⟨zn, rfl⟩ : ∃ zn : Nat, z = (zn : Int) := ⟨z.toNat, by omega⟩
          rw [Int.toNat_natCast] at DN
          have hcY := ky.cell k
          rw [ints_getD .i64 _ (by rw [dvl_len hYZ.out (by omega)]; exact hkY), dvl_at hYZ.out hkY] at hcY
          have hfY := ky.frozen k
          generalize Y.getD k 0 = y at *
          obtain ⟨q, hq⟩ : ∃ q, q = y / zn := ⟨_, rfl⟩
          have hqy : q ≤ y := by rw [hq]; exact Nat.div_le_self _ _
          rw [← hq] at DN
          have w5' : (y : Int).tdiv (zn : Int) = (q : Int) := by rw [Int.tdiv_eq_ediv_of_nonneg (by omega), hq]; rfl
          have w4' : IntKind.i64.wrap (q : Int) = (q : Int) := IntWalk.i64_in _ (by omega)
          have hz0' : ((zn : Int) == 0) = false := by simp; omega
          have hz0'' : (zn : Int) ≠ 0 := by omega
          have hzn0 : zn ≠ 0 := by omega
          have k2 := (show Bk wr.drew yb 3 (ints .i64 (dvl Zn Y k)).toArray from ky).put k (.int .i64 (q : Int))
          rw [ints_set, DN] at k2
          have K1 := Lib.hid ((show Bk wr.drew nb 3 (ints .i64 nn).toArray from kn).far (p := ⟨yb, k, none⟩) (by show nb ≠ yb; omega) (.int .i64 (q : Int)))
          have K2 := Lib.hid k2
          have K3 := Lib.hid ((show Bk wr.drew hb 4 (blz (hitL (S.map Int.toNat) Zn C N j)).toArray from kh).far (p := ⟨yb, k, none⟩) (by show hb ≠ yb; omega) (.int .i64 (q : Int)))
          have K4 := Lib.hid ((show Bk wr.drew cb 3 (zints (cntI C)).toArray from kc).far (p := ⟨yb, k, none⟩) (by show cb ≠ yb; omega) (.int .i64 (q : Int)))
          have K5 := Lib.hid (hB.drew.setCell (p := ⟨yb, k, none⟩) (by show w.heap.size ≤ yb; omega) (.int .i64 (q : Int)))
          clear k2 kn kh kc ky hB DN HG hq
          go_wp2_with fail
          refine wp_region_M 12 (by kernel_rfl) (fun Y => Y.cell? (ad'.add k) = some (.int .i64 (zn : Int)) ∧ Y.cell? ⟨yb, k, none⟩ = some (.int .i64 (y : Int))) ⟨hz, hcY⟩ (fun hS0 => ?_)
          refine takeM (i := 0) (v := ?_) rfl (by kernel_rfl) (by decide) (by kernel_rfl) (by kernel_rfl) (by kernel_rfl) (fun _ _ _ h => h) (by rfl) (by assumption) ?_ ?_
          rotate_left
          · intro w hSw; (try dsimp only at hSw); go_simp <;> with_reducible rfl
          try simp only [Act.put, List.setIfInBounds_toArray, List.set_cons_zero, List.set_cons_succ]
          refine takeM (i := 1) (v := ?_) rfl (by kernel_rfl) (by decide) (by kernel_rfl) (by kernel_rfl) (by kernel_rfl) (fun _ _ _ h => h) (by rfl) (by assumption) ?_ ?_
          rotate_left
          · intro w hSw; (try dsimp only at hSw); go_simp <;> with_reducible rfl
          try simp only [Act.put, List.setIfInBounds_toArray, List.set_cons_zero, List.set_cons_succ]
          refine takeM (i := 2) (v := ?_) rfl (by kernel_rfl) (by decide) (by kernel_rfl) (by kernel_rfl) (by kernel_rfl) (fun _ _ _ h => h) (by rfl) (by assumption) ?_ ?_
          rotate_left
          · intro w hSw; (try dsimp only at hSw); go_simp <;> with_reducible rfl
          try simp only [Act.put, List.setIfInBounds_toArray, List.set_cons_zero, List.set_cons_succ]
          refine takeM (i := 3) (v := ?_) rfl (by kernel_rfl) (by decide) (by kernel_rfl) (by kernel_rfl) (by kernel_rfl) (fun _ _ _ h => h) (by rfl) (by assumption) ?_ ?_
          rotate_left
          · intro w hSw; (try dsimp only at hSw); go_simp <;> with_reducible rfl
          try simp only [Act.put, List.setIfInBounds_toArray, List.set_cons_zero, List.set_cons_succ]
          refine takeM (i := 4) (v := ?_) rfl (by kernel_rfl) (by decide) (by kernel_rfl) (by kernel_rfl) (by kernel_rfl) (fun _ _ _ h => h) (by rfl) (by assumption) ?_ ?_
          rotate_left
          · intro w hSw; (try dsimp only at hSw); go_simp <;> with_reducible rfl
          try simp only [Act.put, List.setIfInBounds_toArray, List.set_cons_zero, List.set_cons_succ]
          refine takeM (i := 5) (v := ?_) rfl (by kernel_rfl) (by decide) (by kernel_rfl) (by kernel_rfl) (by kernel_rfl) (fun _ _ _ h => h) (by rfl) (by assumption) ?_ ?_
          rotate_left
          · intro w hSw; (try dsimp only at hSw); go_simp <;> with_reducible rfl
          try simp only [Act.put, List.setIfInBounds_toArray, List.set_cons_zero, List.set_cons_succ]
          refine takeM (i := 6) (v := ?_) rfl (by kernel_rfl) (by decide) (by kernel_rfl) (by kernel_rfl) (by kernel_rfl) (fun _ _ _ h => h) (by rfl) (by assumption) ?_ ?_
          rotate_left
          · intro w hSw; (try dsimp only at hSw); go_simp <;> with_reducible rfl
          try simp only [Act.put, List.setIfInBounds_toArray, List.set_cons_zero, List.set_cons_succ]
          refine takeM (i := 7) (v := ?_) rfl (by kernel_rfl) (by decide) (by kernel_rfl) (by kernel_rfl) (by kernel_rfl) (fun _ _ _ h => h) (by rfl) (by assumption) ?_ ?_
          rotate_left
          · intro w hSw; (try dsimp only at hSw); go_simp <;> with_reducible rfl
          try simp only [Act.put, List.setIfInBounds_toArray, List.set_cons_zero, List.set_cons_succ]
          refine takeM (i := 8) (v := ?_) rfl (by kernel_rfl) (by decide) (by kernel_rfl) (by kernel_rfl) (by kernel_rfl) (fun _ _ _ h => h) (by rfl) (by assumption) ?_ ?_
          rotate_left
          · intro w hSw; (try dsimp only at hSw); go_simp <;> with_reducible rfl
          try simp only [Act.put, List.setIfInBounds_toArray, List.set_cons_zero, List.set_cons_succ]
          refine takeM (i := 9) (v := ?_) rfl (by kernel_rfl) (by decide) (by kernel_rfl) (by kernel_rfl) (by kernel_rfl) (fun _ _ _ h => h) (by rfl) (by assumption) ?_ ?_
          rotate_left
          · intro w hSw; (try dsimp only at hSw); go_simp <;> with_reducible rfl
          try simp only [Act.put, List.setIfInBounds_toArray, List.set_cons_zero, List.set_cons_succ]
          refine takeM (i := 10) (v := ?_) rfl (by kernel_rfl) (by decide) (by kernel_rfl) (by kernel_rfl) (by kernel_rfl) (fun _ _ _ h => h) (by rfl) (by assumption) ?_ ?_
          rotate_left
          · intro w hSw; (try dsimp only at hSw); go_simp <;> with_reducible rfl
          try simp only [Act.put, List.setIfInBounds_toArray, List.set_cons_zero, List.set_cons_succ]
          refine takeM (i := 11) (v := ?_) rfl (by kernel_rfl) (by decide) (by kernel_rfl) (by kernel_rfl) (by kernel_rfl) (fun _ _ _ h => h) (by rfl) (by assumption) ?_ ?_
          rotate_left
          · intro w hSw; (try dsimp only at hSw); go_simp <;> with_reducible rfl
          try simp only [Act.put, List.setIfInBounds_toArray, List.set_cons_zero, List.set_cons_succ]
          clear hS0
          refine stepM (i := 12) rfl (by kernel_rfl) (fun K0 hK0 => ?_)
          go_simp
          refine hK0.out _ _ (fun h => absurd rfl h) (fun _ => ?_)
          clear hK0 K0
          try simp only [Act.put, List.setIfInBounds_toArray, List.set_cons_zero, List.set_cons_succ]
          refine doneM (by kernel_rfl) ?_ _
          go_wp2
          go_roundw
          case rel => exact ⟨k + 1, by omega, by go_num, K1.out, K3.out, K4.out, K2.out, K5.out⟩
          case measure => simp [intOf]; omega
        · obtain rfl : k = C.length := by omega
          rw [show dvl Zn Y C.length = chk Zn Y from by rw [← HTj.out]; exact dvl_all hYZ.out] at ky
          have PLk := Lib.hid (PLj.out nb yb wr kn ky)
          generalize place nn (chk Zn Y) = p at *
          clear PLj ky HBj hYZ HTj
          go_wp2_with fail
          refine PLk.out.mono ?_
          rintro e w7 ⟨hb7, rfl⟩
          have kn7 := kn.next' hb7
          have kh7 := kh.next' hb7
          have kc7 := kc.next' hb7
          have hB7 := hB.trans (hb7.mono hB.size)
          have ip0 : (0 : Int) ≤ (p : Int) := by omega
          have ip1 : (p : Int) < (N : Int) := by omega
          have hc7 := kh7.cell p
          rw [blz_at (by rw [hitL_len]; exact PTj)] at hc7
          have hf7 := kh7.frozen p
          have k2 := kh7.put p (.bool true)
          rw [blz_set, HHj] at k2
          have K1 := Lib.hid (kn7.far (p := ⟨hb, p, none⟩) (by show nb ≠ hb; omega) (.bool true))
          have K2 := Lib.hid k2
          have K4 := Lib.hid (kc7.far (p := ⟨hb, p, none⟩) (by show cb ≠ hb; omega) (.bool true))
          have K5 := Lib.hid (hB7.setCell (p := ⟨hb, p, none⟩) (by show w.heap.size ≤ hb; omega) (.bool true))
          clear k2 kn kh kc hB kn7 kh7 kc7 hB7 PLk HHj
          go_wp2
          go_roundw
          case rel => exact ⟨j + 1, by omega, by go_num, K1.out, K2.out, K4.out, K5.out⟩
          case measure => simp [intOf]; omega
    · obtain rfl : j = P := by omega
      have lr := hB.size
      have l7 := kc.lt
      clear kc PL TH IXc CCc
      obtain ⟨lo, hlo⟩ : ∃ lo, lo = wr.heap.size := ⟨_, rfl⟩
      have hlo1 : cb < lo := by omega
      have hlo2 : lo ≤ wr.heap.size := by omega
      clear hlo
      go_wp2_with fail
      go_loopw [14, 15] (fun v i wr => ∃ k : Nat, k ≤ N ∧ i = .int .i64 k ∧ Bk wr nb 3 (ints .i64 nn).toArray ∧ Bk wr hb 4 (blz (hitL (S.map Int.toNat) Zn C N j)).toArray ∧ OwnG none wr lo v (ixf nn (hitB (S.map Int.toNat) Zn C j) k) ∧ Below w.heap.size w wr ∧ lo ≤ wr.heap.size) (fun _ i _ => N - (intOf i).toNat)
      case atStart => exact ⟨0, Nat.zero_le _, rfl, kn, kh, OwnG.nil _ _ _, hB, hlo2⟩
      case round =>
        clear kn kh hB hlo2 lr l7
        obtain ⟨k, hk, rfl, kn, kh, hO, hB, hs1⟩ := hrel
        obtain ⟨vA, vc, rfl⟩ := hO.form
        have hfl := ixf_len nn (hitB (S.map Int.toNat) Zn C j) k
        by_cases hlk : k < N
        · have hc := kh.cell k
          rw [blz_at (by rw [hitL_len]; exact hlk), show (hitL (S.map Int.toNat) Zn C N j)[k]'(by rw [hitL_len]; exact hlk) = hitB (S.map Int.toNat) Zn C j k from by simp [hitL]] at hc
          have hNX := HIX.out k
          cases hp : hitB (S.map Int.toNat) Zn C j k
          · rw [hp] at hNX hc
            rw [if_neg (by decide)] at hNX
            rw [← hNX] at hO ⊢
            have HO := Lib.hid hO
            clear hO hNX hp
            go_wp2
            go_roundw
            case rel => exact ⟨k + 1, by omega, by go_num, kn, kh, HO.out, hB, hs1⟩
            case measure => simp [intOf]; omega
          · rw [hp] at hNX hc
            rw [if_pos rfl] at hNX
            have HNX := Lib.hid hNX
            have IXk := Lib.hid (IXn.out wr nb kn k hlk)
            clear hNX hp
            go_wp2_with fail
            refine IXk.out.mono ?_
            rintro e w5 ⟨hb5, rfl, hX5⟩
            have hb6 := below_alloc w5 (.cells #[.slice (some ⟨wr.heap.size, 0, none⟩) S.length S.length] 22)
            have hb56 := hb5.trans (hb6.mono hb5.size)
            have kn6 := kn.next' hb56
            have kh6 := kh.next' hb56
            have hO6 := hO.keep hb56
            have hB6 := hB.trans (hb56.mono hB.size)
            have hX6 := hX5.next' hb6
            rw [← zints_nat] at hX6
            have hI6 := IsI.of_bk hX6
            rw [HIL.out k] at hI6
            have hz6 := hb56.size
            have l6 := kn6.lt
            have l8 := kh6.lt
            have c6 : (w5.alloc (.cells #[.slice (some ⟨wr.heap.size, 0, none⟩) S.length S.length] 22)).cell? ⟨w5.heap.size, 0, none⟩ = some (.slice (some ⟨wr.heap.size, 0, none⟩) S.length S.length) := (Bk.new w5 22 #[Value.slice (some ⟨wr.heap.size, 0, none⟩) S.length S.length]).cell 0
            clear IXk hb5 hb6 hb56 kn kh hO hB hX5 hX6
            generalize ixf nn (hitB (S.map Int.toNat) Zn C j) k = Lk at *
            go_wp2_with (at_builtin; refine wpL_append_list rfl (.tmp 79) (.tmp 83) rfl none lo (.slice vA Lk.length vc) Lk rfl hO6 (by omega) (by omega) ⟨w5.heap.size, 0, none⟩ ((idx nn k).map Int.ofNat) (.slice (some ⟨wr.heap.size, 0, none⟩) S.length S.length) rfl c6 hI6 (fun X e => by cases e) ?_; intro v8 w8 hO8 hg8 hb8; rw [← HNX.out] at hO8; have hz8 := hg8.size; have kn8 := kn6.grown hg8 (fun e => by have := hb8 _ e.symm; omega); have kh8 := kh6.grown hg8 (fun e => by have := hb8 _ e.symm; omega); have hB8 := hB6.grown hg8 hB6.size (fun r e => by have := hb8 r e; omega); clear hg8 hb8 hO6 hI6)
            go_roundw
            case rel => exact ⟨k + 1, by omega, by go_num, kn8, kh8, hO8, hB8, by omega⟩
            case measure => simp [intOf]; omega
        · obtain rfl : k = N := by omega
          have hI := hO.is
          go_wp2
          go_ret2
          exact ⟨hB, _, rfl, hI⟩
end Go.Proofs.YtgnffedncjjkfaaGreatDoor

namespace Go.Proofs.YtgnffedncjjkfaaGreatDoor
open Go.RowKit Ix Ar

theorem chunksR_small (S Z : List Int) : (chunksR S Z).1.length ≤ 1000000 ∧ ∀ l ∈ (chunksR S Z).1, l.length ≤ maxLen := by
  by_cases h : sizedR S Z = 0
  · obtain ⟨hV, hZ⟩ := sizedR_is h
    have h1 := numsI_VS hV hZ
    have h2 := h1.2.2
    rw [numsI_nat] at h2
    rw [chunksR_ok h]
    unfold chunkL
    refine ⟨by simp; omega, fun l hl => ?_⟩
    obtain ⟨k, _, rfl⟩ := List.mem_map.1 hl
    rw [List.length_map, idx_len, nums_len (zs_len hZ), List.length_map]
    have := hV.1
    unfold maxLen; omega
  · rw [chunksR_no h]
    exact ⟨by simp, fun l hl => by simp at hl⟩
theorem touchedR_small (S Z : List Int) (C : List Cut) : (touchedR S Z C).1.length ≤ 1000000 ∧ ∀ l ∈ (touchedR S Z C).1, l.length ≤ maxLen := by
  by_cases h : sizedR S Z = 0
  · obtain ⟨hV, hZ⟩ := sizedR_is h
    by_cases hF : Fit S C
    · have h1 := numsI_VS hV hZ
      have h2 := h1.2.2
      rw [numsI_nat] at h2
      rw [touchedR_ok h hF, ← ixf_all hV hZ hF]
      refine ⟨by have := ixf_len (nums (S.map Int.toNat) (Z.map Int.toNat)) (hitB (S.map Int.toNat) (Z.map Int.toNat) C (Ix.prod (cnt C))) (Ix.prod (nums (S.map Int.toNat) (Z.map Int.toNat))); show (ixf _ _ _).length ≤ _; omega, fun l hl => ?_⟩
      obtain ⟨k, _, rfl⟩ := List.mem_map.1 (show l ∈ (((List.range _).filter _).map fun k => (idx (nums (S.map Int.toNat) (Z.map Int.toNat)) k).map Int.ofNat) from hl)
      rw [List.length_map, idx_len, nums_len (zs_len hZ), List.length_map]
      have := hV.1
      unfold maxLen; omega
    · rw [touchedR_slab h hF]
      exact ⟨by simp, fun l hl => by simp at hl⟩
  · rw [touchedR_no C h]
    exact ⟨by simp, fun l hl => by simp at hl⟩
theorem boxR_small {S Z I : List Int} (hL : S.length ≤ maxLen) : (boxR S Z I).1.length ≤ maxLen := by
  by_cases h : sizedR S Z = 0
  · have hVZ := sizedR_is h
    by_cases hI : InI (numsI S Z) I
    · rw [boxR_ok hVZ hI]
      show (boxC _ _ _).length ≤ _
      rw [box_len (zs_pos hVZ.2) (zs_len hVZ.2) hI.numsI, List.length_map]; exact hL
    · rw [boxR_slab hVZ hI]; exact Nat.zero_le _
  · rw [boxR_sized I h]; exact Nat.zero_le _
theorem bk4 {w : World} {g : Nat} {t : TypeId} {a b c d : Value} (h : Bk w g t #[a, b, c, d]) : w.cell? ⟨g, 0, none⟩ = some a ∧ w.cell? ⟨g, 1, none⟩ = some b ∧ w.cell? ⟨g, 2, none⟩ = some c ∧ w.cell? ⟨g, 3, none⟩ = some d := ⟨h.cell 0, h.cell 1, h.cell 2, h.cell 3⟩
set_option maxRecDepth 100000 in
set_option maxHeartbeats 12800000 in
theorem chunks_walk (S Z I : List Int) (C : List Cut) (A Az Ai Ak : Option Addr) (c cz ci ck : Nat) (w : World) (hS : IsI w w.heap.size (.slice A S.length c) S) (hZ : IsI w w.heap.size (.slice Az Z.length cz) Z) (hI : IsI w w.heap.size (.slice Ai I.length ci) I) (hk : IsK w w.heap.size (.slice Ak C.length ck) C)
    (hSL : S.length ≤ maxLen) (hZL : Z.length ≤ maxLen) (hIL : I.length ≤ maxLen) (hC : ∀ x ∈ C, In64 x) (hCL : C.length ≤ maxLen) (he : Env w) :
    Calls Tryz.prog 8 #[.agg #[.slice A S.length c, .slice Az Z.length cz, .slice Ai I.length ci, .slice Ak C.length ck]] w fun r w' => Below w.heap.size w w' ∧ r = .returned (.bool true) := by
  obtain ⟨qb, hqb⟩ : ∃ b : Bool, b = true ↔ Bigs S := by classical exact ⟨decide _, decide_eq_true_iff⟩
  have BG := Lib.hid (fun W (hW : Below w.heap.size w W) => big_any S A c w.heap.size W (hS.rd.below hW) hSL qb hqb)
  have SN := Lib.hid (fun W (hW : Below w.heap.size w W) => sane_any W (he.next hW))
  have B0 : BxW w [(w.heap.size, 55, #[.slice A S.length c, .slice Az Z.length cz, .slice Ai I.length ci, .slice Ak C.length ck])] (w.alloc (.cells #[.slice A S.length c, .slice Az Z.length cz, .slice Ai I.length ci, .slice Ak C.length ck] 55)) := (BxW.nil w).new _ _
  have F1 := Lib.hid (fun W (hW : Below w.heap.size w W) => chunks_any S Z _ _ W (hS.next hW) (hZ.next hW) hSL hZL)
  have F2 := Lib.hid (fun W (hW : Below w.heap.size w W) => rchunks_any S Z _ _ W (hS.next hW) (hZ.next hW) hSL hZL)
  have F3 := Lib.hid (fun W (hW : Below w.heap.size w W) => box_any S Z I _ _ _ W (hS.next hW) (hZ.next hW) (hI.next hW) hSL hZL)
  have F4 := Lib.hid (fun W (hW : Below w.heap.size w W) => rBox_any S Z I _ _ _ W (hS.next hW) (hZ.next hW) (hI.next hW) hSL hZL hIL)
  have F5 := Lib.hid (fun W (hW : Below w.heap.size w W) => touched_any S Z C _ _ _ W (hS.next hW) (hZ.next hW) (hk.next hW) hSL hZL hC hCL)
  have F6 := Lib.hid (fun W (hW : Below w.heap.size w W) => rtouched_any S Z C _ _ _ W (hS.next hW) (hZ.next hW) (hk.next hW) hSL hZL hC hCL)
  have I1 := Lib.hid (fun W (u v : Value) (hu : IsG W W.heap.size u (chunksR S Z).1) (hv : IsG W W.heap.size v (chunksR S Z).1) => lindexes_any _ u v W hu hv (chunksR_small S Z).1 (chunksR_small S Z).2)
  have I2 := Lib.hid (fun W (u v : Value) (hu : IsK W W.heap.size u (boxR S Z I).1) (hv : IsK W W.heap.size v (boxR S Z I).1) => lslab_any _ u v W hu hv (boxR_small hSL))
  have I3 := Lib.hid (fun W (u v : Value) (hu : IsG W W.heap.size u (touchedR S Z C).1) (hv : IsG W W.heap.size v (touchedR S Z C).1) => lindexes_any _ u v W hu hv (touchedR_small S Z C).1 (touchedR_small S Z C).2)
  unfold maxLen at hSL hZL hIL hCL
  clear hS hZ hI hk hC he
  generalize (chunksR S Z).2 = e1 at *
  generalize (chunksR S Z).1 = l1 at *
  generalize (boxR S Z I).2 = e2 at *
  generalize (boxR S Z I).1 = l2 at *
  generalize (touchedR S Z C).2 = e3 at *
  generalize (touchedR S Z C).1 = l3 at *
  cases hb : qb
  rotate_left
  · subst hb
    clear hqb F1 F2 F3 F4 F5 F6 I1 I2 I3
    go_enter Tryz.func8, Tryz.ntmps8
    have k0 := bk4 B0.one
    go_wp2_with fail
    generalize w.alloc (.cells #[.slice A S.length c, .slice Az Z.length cz, .slice Ai I.length ci, .slice Ak C.length ck] 55) = W0 at *
    refine (BG.out W0 B0.below).mono ?_
    rintro r w' ⟨rfl, rfl⟩
    go_wp2_with fail
    refine (SN.out W0 B0.below).mono ?_
    rintro r w9 ⟨hb9, rfl⟩
    go_wp2
    go_ret
    exact ⟨(B0.next hb9).below, rfl⟩
  subst hb
  by_cases h1 : 10 < Z.length
  · clear hqb F1 F2 F3 F4 F5 F6 I1 I2 I3
    go_enter Tryz.func8, Tryz.ntmps8
    go_wp2_with fail
    generalize w.alloc (.cells #[.slice A S.length c, .slice Az Z.length cz, .slice Ai I.length ci, .slice Ak C.length ck] 55) = W0 at *
    obtain ⟨k0, k1, k2, k3⟩ := bk4 B0.one
    refine (BG.out W0 B0.below).mono ?_
    rintro r w' ⟨rfl, rfl⟩
    go_wp2_with fail
    refine (SN.out W0 B0.below).mono ?_
    rintro r w9 ⟨hb9, rfl⟩
    go_wp2
    go_ret
    exact ⟨(B0.next hb9).below, rfl⟩
  by_cases h2 : 10 < I.length
  · clear hqb F1 F2 F3 F4 F5 F6 I1 I2 I3
    go_enter Tryz.func8, Tryz.ntmps8
    go_wp2_with fail
    generalize w.alloc (.cells #[.slice A S.length c, .slice Az Z.length cz, .slice Ai I.length ci, .slice Ak C.length ck] 55) = W0 at *
    obtain ⟨k0, k1, k2, k3⟩ := bk4 B0.one
    refine (BG.out W0 B0.below).mono ?_
    rintro r w' ⟨rfl, rfl⟩
    go_wp2_with fail
    refine (SN.out W0 B0.below).mono ?_
    rintro r w9 ⟨hb9, rfl⟩
    go_wp2
    go_ret
    exact ⟨(B0.next hb9).below, rfl⟩
  by_cases h3 : 10 < C.length
  · clear hqb F1 F2 F3 F4 F5 F6 I1 I2 I3
    go_enter Tryz.func8, Tryz.ntmps8
    go_wp2_with fail
    generalize w.alloc (.cells #[.slice A S.length c, .slice Az Z.length cz, .slice Ai I.length ci, .slice Ak C.length ck] 55) = W0 at *
    obtain ⟨k0, k1, k2, k3⟩ := bk4 B0.one
    refine (BG.out W0 B0.below).mono ?_
    rintro r w' ⟨rfl, rfl⟩
    go_wp2_with fail
    refine (SN.out W0 B0.below).mono ?_
    rintro r w9 ⟨hb9, rfl⟩
    go_wp2
    go_ret
    exact ⟨(B0.next hb9).below, rfl⟩
  clear hqb
  have y1 : (e1 == e1) = true := by simp
  have y2 : (e2 == e2) = true := by simp
  have y3 : (e3 == e3) = true := by simp
  go_enter Tryz.func8, Tryz.ntmps8
  go_wp2_with fail
  generalize w.alloc (.cells #[.slice A S.length c, .slice Az Z.length cz, .slice Ai I.length ci, .slice Ak C.length ck] 55) = W0 at *
  obtain ⟨k0, k1, k2, k3⟩ := bk4 B0.one
  refine (BG.out W0 B0.below).mono ?_
  rintro r w' ⟨rfl, rfl⟩
  go_wp2_with fail
  refine (F1.out W0 B0.below).mono ?_
  rintro r w1 ⟨hb1, v1, rfl, hv1⟩
  have B1 := B0.next hb1
  clear k0 k1 k2 k3 hb1 B0 BG
  obtain ⟨k0, k1, k2, k3⟩ := bk4 B1.one
  go_wp2_with fail
  refine (F2.out w1 B1.below).mono ?_
  rintro r w2 ⟨hb2, v2, rfl, hv2⟩
  have B2 := B1.next hb2
  replace hv1 := hv1.next hb2
  clear k0 k1 k2 k3 hb2 B1
  obtain ⟨k0, k1, k2, k3⟩ := bk4 B2.one
  go_wp2_with fail
  refine (F3.out w2 B2.below).mono ?_
  rintro r w3 ⟨hb3, v3, rfl, hv3⟩
  have B3 := B2.next hb3
  replace hv1 := hv1.next hb3
  replace hv2 := hv2.next hb3
  clear k0 k1 k2 k3 hb3 B2
  obtain ⟨k0, k1, k2, k3⟩ := bk4 B3.one
  go_wp2_with fail
  refine (F4.out w3 B3.below).mono ?_
  rintro r w4 ⟨hb4, v4, rfl, hv4⟩
  have B4 := B3.next hb4
  replace hv1 := hv1.next hb4
  replace hv2 := hv2.next hb4
  replace hv3 := hv3.next hb4
  clear k0 k1 k2 k3 hb4 B3
  obtain ⟨k0, k1, k2, k3⟩ := bk4 B4.one
  go_wp2_with fail
  refine (F5.out w4 B4.below).mono ?_
  rintro r w5 ⟨hb5, v5, rfl, hv5⟩
  have B5 := B4.next hb5
  replace hv1 := hv1.next hb5
  replace hv2 := hv2.next hb5
  replace hv3 := hv3.next hb5
  replace hv4 := hv4.next hb5
  clear k0 k1 k2 k3 hb5 B4
  obtain ⟨k0, k1, k2, k3⟩ := bk4 B5.one
  go_wp2_with fail
  refine (F6.out w5 B5.below).mono ?_
  rintro r w6 ⟨hb6, v6, rfl, hv6⟩
  have B6 := B5.next hb6
  replace hv1 := hv1.next hb6
  replace hv2 := hv2.next hb6
  replace hv3 := hv3.next hb6
  replace hv4 := hv4.next hb6
  replace hv5 := hv5.next hb6
  clear k0 k1 k2 k3 hb6 B5 F1 F2 F3 F4 F5 F6
  go_wp2_with fail
  refine (I1.out w6 _ _ hv1 hv2).mono ?_
  rintro r w7 ⟨hb7, rfl⟩
  have B7 := B6.next hb7
  replace hv3 := hv3.next hb7
  replace hv4 := hv4.next hb7
  replace hv5 := hv5.next hb7
  replace hv6 := hv6.next hb7
  clear hb7 B6 hv1 hv2
  go_wp2_with fail
  refine (I2.out w7 _ _ hv3 hv4).mono ?_
  rintro r w8 ⟨hb8, rfl⟩
  have B8 := B7.next hb8
  replace hv5 := hv5.next hb8
  replace hv6 := hv6.next hb8
  clear hb8 B7 hv3 hv4
  go_wp2_with fail
  refine (I3.out w8 _ _ hv5 hv6).mono ?_
  rintro r w9 ⟨hb9, rfl⟩
  have B9 := B8.next hb9
  go_wp2_with fail
  refine (SN.out w9 B9.below).mono ?_
  rintro r w10 ⟨hb10, rfl⟩
  go_wp2
  go_ret
  exact ⟨(B9.next hb10).below, rfl⟩
end Go.Proofs.YtgnffedncjjkfaaGreatDoor
