/-
  Walks: package arrayarchiveref06: Count, ValidShape.
  Walks: package arrayarchiveref06: Place.
  Walks: package arrayarchiveref06: through.
  Walks: package arrayarchiveref06: Counts.
  Walks: package arrayarchiveref06: Index.
-/
import Derived.Test.YtgnffedncjjkfaaGreatDoorArxA
namespace Go.Proofs.YtgnffedncjjkfaaGreatDoor
open Go.RowKit Ix Ar

set_option maxRecDepth 100000 in
set_option maxHeartbeats 1600000 in
theorem rcount_any (S : List Nat) (A : Option Addr) (c B : Nat) (w : World) (hS : Sz4 S) (hr : Rd w B A (ints .i64 S)) :
    Calls Tryz.prog 68 #[.slice A S.length c] w fun e w' => w = w' ∧ e = .returned (.int .i64 (Ix.prod S : Nat)) := by
  have hl4 := hS.len
  go_enter Tryz.func68, Tryz.ntmps68
  go_wp2_with fail
  go_loop [3, 4] (fun n i => ∃ k : Nat, k ≤ S.length ∧ i = .int .i64 k ∧ n = .int .i64 (Ix.prod (S.take k) : Nat)) (fun _ i => S.length - (intOf i).toNat)
  case atStart => exact ⟨0, Nat.zero_le _, rfl, rfl⟩
  case round =>
    obtain ⟨k, hk, rfl, rfl⟩ := hrel
    by_cases hlt : k < S.length
    · obtain ⟨ad, rfl, hab, hcell⟩ := hr.int hlt
      have hs := hS.le _ (getD_mem hlt)
      have hp := (hS.take k).prod
      have hp2 := (hS.take (k + 1)).prod
      have HP : Hid (Ix.prod (S.take (k + 1)) = Ix.prod (S.take k) * S.getD k 0) := prod_take hlt
      rw [HP.out] at hp2
      generalize Ix.prod (S.take k) = p at *
      generalize S.getD k 0 = s at *
      obtain ⟨q, hq⟩ : ∃ q : Nat, q = p * s := ⟨_, rfl⟩
      have ww : IntKind.i64.wrap ((p : Int) * (s : Int)) = (q : Int) := by
        rw [show (p : Int) * (s : Int) = (q : Int) by rw [hq]; push_cast; rfl]
        exact IntWalk.i64_in _ (by omega)
      have HQ := Lib.hid (HP.out.trans hq.symm)
      clear HP hq hp2
      go_wp2
      go_round
      case rel => exact ⟨k + 1, by omega, by go_num, by rw [HQ.out]⟩
      case measure => simp [intOf]; omega
    · have hkl : k = S.length := by omega
      subst hkl
      go_wp2
      go_ret
      exact ⟨rfl, rfl⟩

set_option maxRecDepth 100000 in
set_option maxHeartbeats 1600000 in
theorem rvalidshape_any (S : List Int) (A : Option Addr) (c B : Nat) (w : World) (hr : Rd w B A (zints S)) (hL : S.length ≤ maxLen) (q : Bool) (hq : q = true ↔ VS S) :
    Calls Tryz.prog 30 #[.slice A S.length c] w fun e w' => w = w' ∧ e = .returned (.bool q) := by
  unfold maxLen at hL
  have HQ := Lib.hid hq
  clear hq
  by_cases h4 : 4 < S.length
  · have hqf : q = false := by
      cases hh : q with
      | false => rfl
      | true => have := (HQ.out.1 hh).1; omega
    subst hqf
    go_enter Tryz.func30, Tryz.ntmps30
    go_wp2
    go_ret
    exact ⟨rfl, rfl⟩
  go_enter Tryz.func30, Tryz.ntmps30
  go_wp2_with fail
  go_loop [3] (fun i => ∃ k : Nat, k ≤ S.length ∧ i = .int .i64 k ∧ Hid (∀ s ∈ S.take k, 0 ≤ s ∧ s ≤ 1024)) (fun i => S.length - (intOf i).toNat)
  case atStart => exact ⟨0, Nat.zero_le _, rfl, (fun s hs => by simp at hs)⟩
  case round =>
    obtain ⟨k, hk, rfl, HT⟩ := hrel
    by_cases hlt : k < S.length
    · obtain ⟨ad, rfl, hab, hcell⟩ := hr.zint hlt
      have hmem : S[k] ∈ S := List.getElem_mem _
      have HN : Hid (0 ≤ S[k] ∧ S[k] ≤ 1024 → ∀ s ∈ S.take (k + 1), 0 ≤ s ∧ s ≤ 1024) := fun h s hs => by
        rw [take_snocI hlt] at hs
        rcases List.mem_append.1 hs with h1 | h1
        · exact HT.out s h1
        · simp at h1; subst h1; exact h
      have HB : Hid (¬ (0 ≤ S[k] ∧ S[k] ≤ 1024) → q = false) := fun h => by
        cases hh : q with
        | false => rfl
        | true => exact absurd ((HQ.out.1 hh).2.1 _ hmem) h
      clear hmem
      generalize S[k] = s at *
      by_cases h0 : s < 0
      · have hqf := HB.out (by omega)
        subst hqf
        clear HN HB
        go_wp2
        go_ret
        exact ⟨rfl, rfl⟩
      by_cases h1 : 1024 < s
      · have hqf := HB.out (by omega)
        subst hqf
        clear HN HB
        go_wp2
        go_ret
        exact ⟨rfl, rfl⟩
      have HN2 := Lib.hid (HN.out ⟨by omega, by omega⟩)
      clear HN HB
      go_wp2
      go_round
      case rel => exact ⟨k + 1, by omega, by go_num, HN2.out⟩
      case measure => simp [intOf]; omega
    · have hall : ∀ s ∈ S, 0 ≤ s ∧ s ≤ 1024 := by have := HT.out; rwa [List.take_of_length_le (by omega)] at this
      have hz : Sz4 (S.map Int.toNat) := ⟨by rw [List.length_map]; omega, fun s hs => by
        obtain ⟨x, hx, rfl⟩ := List.mem_map.1 hs
        have := hall x hx; omega⟩
      have hr2 : Rd w B A (ints .i64 (S.map Int.toNat)) := by rw [← zints_nats fun s hs => (hall s hs).1]; exact hr
      have CC := rcount_any (S.map Int.toNat) A c B w hz hr2
      rw [List.length_map] at CC
      have hp := hz.prod
      have HQ2 : Hid (q = decide (Ix.prod (S.map Int.toNat) ≤ 4096)) := by
        show _ = _
        rw [Bool.eq_iff_iff, HQ.out, decide_eq_true_eq]
        exact ⟨fun h => h.2.2, fun h => ⟨by omega, hall, h⟩⟩
      generalize Ix.prod (S.map Int.toNat) = p at *
      have CC := Lib.hid CC
      clear hall hz hr2 HQ HT
      by_cases hp2 : p ≤ 4096
      · have hqt := HQ2.out
        rw [decide_eq_true hp2] at hqt
        subst hqt
        clear HQ2
        go_wp2_with fail
        refine CC.out.mono ?_
        rintro e w' ⟨rfl, rfl⟩
        go_wp2
        go_ret
        exact ⟨rfl, ret_bool (decide_eq_true (by omega))⟩
      · have hqt := HQ2.out
        rw [decide_eq_false hp2] at hqt
        subst hqt
        clear HQ2
        go_wp2_with fail
        refine CC.out.mono ?_
        rintro e w' ⟨rfl, rfl⟩
        go_wp2
        go_ret
        exact ⟨rfl, ret_bool (decide_eq_false (by omega))⟩
end Go.Proofs.YtgnffedncjjkfaaGreatDoor

namespace Go.Proofs.YtgnffedncjjkfaaGreatDoor
open Go.RowKit Ix Ar

theorem inside_take : ∀ {S I : List Nat}, Inside S I → ∀ k, Inside (S.take k) (I.take k)
  | [], [], _, k => by simp [Inside]
  | [], _ :: _, h, _ => h.elim
  | _ :: _, [], h, _ => h.elim
  | _ :: _, _ :: _, _, 0 => trivial
  | _ :: _, _ :: _, h, k + 1 => ⟨h.1, inside_take h.2 k⟩
theorem inside_length : ∀ {S I : List Nat}, Inside S I → I.length = S.length
  | [], [], _ => rfl
  | [], _ :: _, h => h.elim
  | _ :: _, [], h => h.elim
  | _ :: _, _ :: _, h => congrArg (· + 1) (inside_length h.2)
theorem place_take {S I : List Nat} (h : I.length = S.length) {k : Nat} (hk : k < S.length) : place (S.take (k + 1)) (I.take (k + 1)) = place (S.take k) (I.take k) * S.getD k 0 + I.getD k 0 := by
  rw [take_getD hk, take_getD (show k < I.length by omega)]
  exact place_snoc _ _ _ _ (by rw [List.length_take, List.length_take]; omega)

set_option maxRecDepth 100000 in
set_option maxHeartbeats 1600000 in
theorem rplace_any (S I : List Nat) (A A' : Option Addr) (c c' B B' : Nat) (w : World) (hS : Sz4 S) (hI : Inside S I) (hr : Rd w B A (ints .i64 S)) (hr' : Rd w B' A' (ints .i64 I)) (hB : B ≤ w.heap.size) (hB' : B' ≤ w.heap.size) :
    Calls Tryz.prog 69 #[.slice A S.length c, .slice A' S.length c'] w fun e w' => Below w.heap.size w w' ∧ e = .returned (.int .i64 (place S I : Nat)) := by
  have hl4 := hS.len
  have hl := inside_length hI
  have HI := Lib.hid hI
  have HLI := Lib.hid hl
  clear hI hl
  go_enter Tryz.func69, Tryz.ntmps69
  go_wp2_with fail
  go_loopw [5, 6] (fun n i wr => ∃ k : Nat, k ≤ S.length ∧ i = .int .i64 k ∧ n = .int .i64 (place (S.take k) (I.take k) : Nat) ∧ Below w.heap.size w wr) (fun _ i _ => S.length - (intOf i).toNat)
  case atStart => exact ⟨0, Nat.zero_le _, rfl, rfl, Below.refl _ _⟩
  case round =>
    obtain ⟨k, hk, rfl, rfl, hb⟩ := hrel
    by_cases hlt : k < S.length
    · obtain ⟨ad, rfl, hab, hcell⟩ := (hr.below (hb.mono hB)).int hlt
      obtain ⟨ad', rfl, hab', hcell'⟩ := (hr'.below (hb.mono hB')).int (j := k) (by rw [HLI.out]; exact hlt)
      have hs := hS.le _ (getD_mem hlt)
      have hp2 := Nat.lt_of_lt_of_le (place_lt _ _ (inside_take HI.out (k + 1))) (hS.take (k + 1)).prod
      have HP := Lib.hid (place_take HLI.out hlt)
      rw [HP.out] at hp2
      generalize place (S.take k) (I.take k) = p at *
      generalize S.getD k 0 = s at *
      generalize I.getD k 0 = i at *
      obtain ⟨q, hq⟩ : ∃ q : Nat, q = p * s := ⟨_, rfl⟩
      rw [← hq] at hp2
      have ww : IntKind.i64.wrap ((p : Int) * (s : Int)) = (q : Int) := by
        rw [show (p : Int) * (s : Int) = (q : Int) by rw [hq]; push_cast; rfl]
        exact IntWalk.i64_in _ (by omega)
      have ww2 : IntKind.i64.wrap ((q : Int) + (i : Int)) = (q : Int) + (i : Int) := IntWalk.i64_in _ (by omega)
      have HQ := Lib.hid (HP.out.trans (congrArg (· + i) hq.symm))
      clear HP hq hp2
      go_wp2_with fail
      go_quiet (fail)
      have hb2 := below_drewN hb nq
      go_wp2
      go_roundw
      case rel => exact ⟨k + 1, by omega, by go_num, by rw [HQ.out]; push_cast; rfl, hb2⟩
      case measure => simp [intOf]; omega
    · have hkl : k = S.length := by omega
      subst hkl
      have e2 : I.take S.length = I := List.take_of_length_le (by rw [HLI.out]; exact Nat.le_refl _)
      rw [List.take_length, e2]
      go_wp2
      go_ret
      exact ⟨hb, rfl⟩
end Go.Proofs.YtgnffedncjjkfaaGreatDoor

namespace Go.Proofs.YtgnffedncjjkfaaGreatDoor
open Go.RowKit Ix Ar

set_option maxRecDepth 100000 in
set_option maxHeartbeats 6400000 in
theorem rthrough_any (C : List Cut) (S : List Int) (I : List Nat) (A A' : Option Addr) (c c' : Nat) (w : World) (hr : Rd w w.heap.size A (krow C)) (hr' : Rd w w.heap.size A' (ints .i64 I)) (hF : Fit S C) (hS : ∀ s ∈ S, 0 ≤ s ∧ s ≤ 1024) (hI : Inside (cnt C) I) (h4 : C.length ≤ 4) (hC : ∀ x ∈ C, In64 x) :
    Calls Tryz.prog 70 #[.slice A C.length c, .slice A' I.length c'] w fun e w' => Below w.heap.size w w' ∧ e = .returned (.slice (some ⟨w.heap.size, 0, none⟩) I.length I.length) ∧ Bk w' w.heap.size 3 (ints .i64 (thr C I)).toArray := by
  have hlI : I.length = C.length := by have := inside_len _ _ hI; rw [this]; unfold cnt; rw [List.length_map]
  have hlS := fit_len hF
  obtain ⟨n, hn⟩ : ∃ n, n = I.length := ⟨_, rfl⟩
  have HB : Hid (∀ k, k < n → 0 ≤ (C.getD k (0, 0, 0)).1 ∧ 0 ≤ ((I.getD k 0 : Nat) : Int) * (C.getD k (0, 0, 0)).2.2 ∧ (C.getD k (0, 0, 0)).1 + ((I.getD k 0 : Nat) : Int) * (C.getD k (0, 0, 0)).2.2 ≤ 1024 ∧ (thr C I).getD k 0 = ((C.getD k (0, 0, 0)).1 + ((I.getD k 0 : Nat) : Int) * (C.getD k (0, 0, 0)).2.2).toNat) := fun k hk => by
    have f1 := ((fit_iff _ _).1 hF).2 k (by omega)
    have f2 := ((inside_iff _ _).1 hI).2 k (by unfold cnt; rw [List.length_map]; omega)
    rw [cnt_at (by omega)] at f2
    have f3 := fitC_at f1 (i := ((I.getD k 0 : Nat) : Int)) (by omega) (by omega)
    have f4 : S.getD k 0 ≤ 1024 := by
      rw [List.getD_eq_getElem?_getD, List.getElem?_eq_getElem (by omega)]
      exact (hS _ (List.getElem_mem _)).2
    exact ⟨f1.1, f3.1, by omega, thr_at (by omega) (by omega)⟩
  have HW : Hid (∀ k, k < n → (wmid C I k).set k ((thr C I).getD k 0) = wmid C I (k + 1)) := fun k hk => wmid_next hlI (by omega)
  have HWL : Hid (∀ k, k ≤ n → (wmid C I k).length = n) := fun k hk => (wmid_len hlI (by omega)).trans hn.symm
  have HWE : Hid (wmid C I n = thr C I) := by
    show _ = _
    unfold wmid
    rw [List.take_of_length_le (by rw [thr_len hlI]; omega), hn, Nat.sub_self, List.replicate_zero, List.append_nil]
  have HW0 : Hid (ints .i64 (List.replicate n 0) = ints .i64 (wmid C I 0)) := by
    show _ = _
    unfold wmid
    rw [List.take_zero, List.nil_append, hn, Nat.sub_zero]
  have HC : Hid (∀ j, In64 (C.getD j (0, 0, 0))) := fun j => by
    rcases Nat.lt_or_ge j C.length with h | h
    · rw [List.getD_eq_getElem?_getD, List.getElem?_eq_getElem h]; exact hC _ (List.getElem_mem _)
    · rw [List.getD_eq_getElem?_getD, List.getElem?_eq_none h]; unfold In64; decide
  have HN := Lib.hid hn
  have HLC : Hid (n = C.length) := hn.trans hlI
  have h4' : n ≤ 4 := by omega
  rw [← hlI, ← hn]
  obtain ⟨i0, hi0, hz0, hz1, hz2⟩ := info_parts Tryz.int_info
  have hmk := make_ints (P := Tryz.prog) 22 3 i0 .i64 Tryz.underlying22 hi0 hz0 hz1 (by omega) .i64 .i64 n (n : Int) rfl (by omega)
  have HR := Lib.hid hr
  have HR' := Lib.hid hr'
  clear hF hS hI hC hlI hlS hn h4 hr hr'
  go_enter Tryz.func70, Tryz.ntmps70
  go_wp2_with fail
  have hB1 := below_alloc w (.cells (ints .i64 (List.replicate n 0)).toArray 3)
  have k1 : Bk (w.alloc (.cells (ints .i64 (List.replicate n 0)).toArray 3)) w.heap.size 3 (ints .i64 (wmid C I 0)).toArray := by rw [← HW0.out]; exact Bk.new _ _ _
  clear hmk
  generalize w.alloc (.cells (ints .i64 (List.replicate n 0)).toArray 3) = w1 at *
  go_loopw [6] (fun i wr => ∃ k : Nat, k ≤ n ∧ i = .int .i64 k ∧ Bk wr w.heap.size 3 (ints .i64 (wmid C I k)).toArray ∧ Below w.heap.size w wr) (fun i _ => n - (intOf i).toNat)
  case atStart => exact ⟨0, Nat.zero_le _, rfl, k1, hB1⟩
  case round =>
    clear k1 hB1
    obtain ⟨k, hk, rfl, kb, hB⟩ := hrel
    by_cases hlt : k < n
    · obtain ⟨ad, rfl, hab, t0, t1, t2⟩ := (HR.out.below hB).kut (i := k) (by rw [← HLC.out]; exact hlt)
      obtain ⟨ad', rfl, hab', hs⟩ := (HR'.out.below hB).int (j := k) (by rw [← HN.out]; exact hlt)
      have e1 : C[k]'(by rw [← HLC.out]; exact hlt) = C.getD k (0, 0, 0) := by rw [List.getD_eq_getElem?_getD, List.getElem?_eq_getElem (by rw [← HLC.out]; exact hlt)]; rfl
      rw [e1] at t0 t1 t2
      obtain ⟨b1, b2, b3, b4⟩ := HB.out k hlt
      have k4 := kb.put k (.int .i64 (((thr C I).getD k 0 : Nat) : Int))
      rw [ints_set, HW.out k hlt] at k4
      have hc0 := kb.cell k
      rw [ints_getD .i64 _ (by rw [HWL.out k (by omega)]; exact hlt)] at hc0
      have hf0 := kb.frozen k
      have hcb := HC.out k
      generalize C.getD k (0, 0, 0) = x at *
      generalize I.getD k 0 = i at *
      generalize (thr C I).getD k 0 = y at *
      obtain ⟨a, b, d⟩ := x
      simp only at t0 t1 t2 b1 b2 b3 b4
      obtain ⟨⟨hc1, hc2⟩, ⟨hc3, hc4⟩, hc5, hc6⟩ := hcb
      simp only at hc1 hc2 hc3 hc4 hc5 hc6
      obtain ⟨m, hm⟩ : ∃ m, m = (i : Int) * d := ⟨_, rfl⟩
      have ww : IntKind.i64.wrap ((i : Int) * d) = m := by rw [IntWalk.i64_in _ (by omega)]; exact hm.symm
      rw [← hm] at b2 b3 b4
      have ww2 : IntKind.i64.wrap (a + m) = a + m := IntWalk.i64_in _ (by omega)
      have hy : (y : Int) = a + m := by omega
      rw [hy] at k4
      have hB4 := (hB.setCell (p := ⟨w.heap.size, k, none⟩) (Nat.le_refl _) (.int .i64 (a + m))).drew
      have K4 : Hid (Bk ((wr.setCell ⟨w.heap.size, k, none⟩ (.int .i64 (a + m))).drew) w.heap.size 3 (ints .i64 (wmid C I (k + 1))).toArray) := k4
      clear b4 hm hy k4 e1 kb
      go_wp2_with fail
      go_region
      go_wp2
      go_roundw
      case rel => exact ⟨k + 1, by omega, by go_num, K4.out, hB4⟩
      case measure => simp [intOf]; omega
    · have hkn : k = n := by omega
      subst hkn
      rw [HWE.out] at kb
      clear HWE HW0
      go_wp2
      go_ret
      exact ⟨hB, rfl, kb⟩
end Go.Proofs.YtgnffedncjjkfaaGreatDoor

namespace Go.Proofs.YtgnffedncjjkfaaGreatDoor
open Go.RowKit Ix Ar

/-- The counts are being written. -/
def cmid (C : List Cut) (k : Nat) : List Int := (cntI C).take k ++ List.replicate (C.length - k) 0
theorem cmid_next {C : List Cut} {k : Nat} (h : k < C.length) : (cmid C k).set k (C[k].2.1) = cmid C (k + 1) := by
  have h' : k < (cntI C).length := by rw [cntI_len]; exact h
  unfold cmid
  rw [List.set_append_right _ _ (by rw [List.length_take]; omega), List.length_take, Nat.min_eq_left (by omega), Nat.sub_self, show C.length - k = (C.length - (k + 1)) + 1 by omega, List.replicate_succ, List.set_cons_zero, take_snocI h', List.append_assoc]
  congr 1
  simp [cntI]
theorem cmid_len {C : List Cut} {k : Nat} (h : k ≤ C.length) : (cmid C k).length = C.length := by
  unfold cmid
  rw [List.length_append, List.length_take, List.length_replicate, cntI_len]; omega

set_option maxRecDepth 100000 in
set_option maxHeartbeats 3200000 in
theorem rcounts_any (C : List Cut) (A : Option Addr) (c : Nat) (w : World) (hr : Rd w w.heap.size A (krow C)) (hL : C.length ≤ 1000000) :
    Calls Tryz.prog 67 #[.slice A C.length c] w fun e w' => Below w.heap.size w w' ∧ e = .returned (.slice (some ⟨w.heap.size, 0, none⟩) C.length C.length) ∧ Bk w' w.heap.size 3 (zints (cntI C)).toArray := by
  obtain ⟨n, hn⟩ : ∃ n, n = C.length := ⟨_, rfl⟩
  have HW : Hid (∀ k (h : k < C.length), (zints (cmid C k)).toArray.setIfInBounds k (.int .i64 C[k].2.1) = (zints (cmid C (k + 1))).toArray) := fun k h => by rw [zints_set, cmid_next h]
  have HWL : Hid (∀ k, k ≤ n → (cmid C k).length = n) := fun k hk => (cmid_len (by omega)).trans hn.symm
  have HWE : Hid (cmid C n = cntI C) := by
    show _ = _
    unfold cmid
    rw [List.take_of_length_le (by rw [cntI_len]; omega), hn, Nat.sub_self, List.replicate_zero, List.append_nil]
  have HW0 : Hid (ints .i64 (List.replicate n 0) = zints (cmid C 0)) := by
    show _ = _
    unfold cmid
    rw [List.take_zero, List.nil_append, hn, Nat.sub_zero]
    simp [ints, zints]
  have HN := Lib.hid hn
  have hL' : n ≤ 1000000 := by omega
  rw [← hn]
  obtain ⟨i0, hi0, hz0, hz1, hz2⟩ := info_parts Tryz.int_info
  have hmk := make_ints (P := Tryz.prog) 22 3 i0 .i64 Tryz.underlying22 hi0 hz0 hz1 (by omega) .i64 .i64 n (n : Int) rfl (by omega)
  have HR := Lib.hid hr
  clear hL hn hr
  go_enter Tryz.func67, Tryz.ntmps67
  go_wp2_with fail
  have hB1 := below_alloc w (.cells (ints .i64 (List.replicate n 0)).toArray 3)
  have k1 : Bk (w.alloc (.cells (ints .i64 (List.replicate n 0)).toArray 3)) w.heap.size 3 (zints (cmid C 0)).toArray := by rw [← HW0.out]; exact Bk.new _ _ _
  clear hmk
  generalize w.alloc (.cells (ints .i64 (List.replicate n 0)).toArray 3) = w1 at *
  go_loopw [4] (fun i wr => ∃ k : Nat, k ≤ n ∧ i = .int .i64 k ∧ Bk wr w.heap.size 3 (zints (cmid C k)).toArray ∧ Below w.heap.size w wr) (fun i _ => n - (intOf i).toNat)
  case atStart => exact ⟨0, Nat.zero_le _, rfl, k1, hB1⟩
  case round =>
    clear k1 hB1
    obtain ⟨k, hk, rfl, kb, hB⟩ := hrel
    by_cases hlt : k < n
    · obtain ⟨ad, rfl, hab, t0, t1, t2⟩ := (HR.out.below hB).kut (i := k) (by rw [← HN.out]; exact hlt)
      have k4 := kb.put k (.int .i64 (C[k]'(by rw [← HN.out]; exact hlt)).2.1)
      rw [HW.out k (by rw [← HN.out]; exact hlt)] at k4
      have hc0 := kb.cell k
      rw [show (zints (cmid C k)).toArray[k]? = some (.int .i64 ((cmid C k).getD k 0)) from by
        have h := HWL.out k (by omega)
        simp [zints, List.getD_eq_getElem?_getD, List.getElem?_eq_getElem (show k < (cmid C k).length by omega)]] at hc0
      have hf0 := kb.frozen k
      generalize C[k]'(by rw [← HN.out]; exact hlt) = x at *
      obtain ⟨a, b, d⟩ := x
      simp only at t0 t1 t2 k4
      have hB4 := (hB.setCell (p := ⟨w.heap.size, k, none⟩) (Nat.le_refl _) (.int .i64 b))
      have K4 : Hid (Bk (wr.setCell ⟨w.heap.size, k, none⟩ (.int .i64 b)) w.heap.size 3 (zints (cmid C (k + 1))).toArray) := k4
      clear k4 kb
      go_wp2
      go_roundw
      case rel => exact ⟨k + 1, by omega, by go_num, K4.out, hB4⟩
      case measure => simp [intOf]; omega
    · have hkn : k = n := by omega
      subst hkn
      rw [HWE.out] at kb
      clear HWE HW0
      go_wp2
      go_ret
      exact ⟨hB, rfl, kb⟩
end Go.Proofs.YtgnffedncjjkfaaGreatDoor

namespace Go.Proofs.YtgnffedncjjkfaaGreatDoor
open Go.RowKit Ix Ar

/-- The index is being written, from the last dimension on. -/
def imid (S : List Nat) (k m : Nat) : List Nat := List.replicate m 0 ++ (idx S k).drop m
theorem imid_len {S : List Nat} {k m : Nat} (h : m ≤ S.length) : (imid S k m).length = S.length := by
  unfold imid
  rw [List.length_append, List.length_replicate, List.length_drop, idx_len]; omega
theorem imid_next {S : List Nat} {k m : Nat} (h : m < S.length) : (imid S k (m + 1)).set m ((idx S k).getD m 0) = imid S k m := by
  have hl := idx_len S k
  unfold imid
  rw [List.replicate_succ', List.append_assoc, List.set_append_right _ _ (by simp), List.length_replicate, Nat.sub_self]
  simp only [List.cons_append, List.nil_append, List.set_cons_zero]
  congr 1
  rw [List.drop_eq_getElem_cons (show m < (idx S k).length by omega), List.getD_eq_getElem?_getD, List.getElem?_eq_getElem (by omega)]
  rfl
theorem div_next {S : List Nat} {k m : Nat} (h : m < S.length) : k / Ix.prod (S.drop (m + 1)) / S.getD m 0 = k / Ix.prod (S.drop m) := by
  rw [List.drop_eq_getElem_cons h, Nat.div_div_eq_div_mul, List.getD_eq_getElem?_getD, List.getElem?_eq_getElem h]
  show _ = k / (S[m] * Ix.prod (S.drop (m + 1)))
  rw [Nat.mul_comm]; rfl

set_option maxRecDepth 100000 in
set_option maxHeartbeats 3200000 in
theorem rindex_any (S : List Nat) (k : Nat) (A : Option Addr) (c : Nat) (w : World) (hS : Sz4 S) (hk : k < Ix.prod S) (hr : Rd w w.heap.size A (ints .i64 S)) :
    Calls Tryz.prog 71 #[.slice A S.length c, .int .i64 k] w fun e w' => Below w.heap.size w w' ∧ e = .returned (.slice (some ⟨w.heap.size, 0, none⟩) S.length S.length) ∧ Bk w' w.heap.size 3 (ints .i64 (idx S k)).toArray := by
  have hl4 := hS.len
  have hk2 : k < 1099511627777 := by have := hS.prod; omega
  have HX : Hid (∀ m, m < S.length → (idx S k).getD m 0 = k / Ix.prod (S.drop (m + 1)) % S.getD m 0 ∧ 0 < S.getD m 0) := fun m hm => ⟨idx_at S k m hk hm, by
    have := ((inside_iff _ _).1 (idx_inside S k hk)).2 m hm
    omega⟩
  obtain ⟨n, hn⟩ : ∃ n, n = S.length := ⟨_, rfl⟩
  have HN := Lib.hid hn
  have HW0 : Hid (ints .i64 (List.replicate n 0) = ints .i64 (imid S k n)) := by
    show _ = _
    unfold imid
    rw [List.drop_of_length_le (by rw [idx_len]; omega), List.append_nil]
  have HD0 : Hid (k / Ix.prod (S.drop n) = k) := by
    show _ = _
    rw [List.drop_of_length_le (by omega)]; exact Nat.div_one k
  have HR := Lib.hid hr
  rw [← hn] at hl4 ⊢
  obtain ⟨i0, hi0, hz0, hz1, hz2⟩ := info_parts Tryz.int_info
  have hmk := make_ints (P := Tryz.prog) 22 3 i0 .i64 Tryz.underlying22 hi0 hz0 hz1 (by omega) .i64 .i64 n (n : Int) rfl (by omega)
  clear hS hk hr hn
  go_enter Tryz.func71, Tryz.ntmps71
  go_wp2_with fail
  have hB1 := below_alloc w (.cells (ints .i64 (List.replicate n 0)).toArray 3)
  have k1 : Bk (w.alloc (.cells (ints .i64 (List.replicate n 0)).toArray 3)) w.heap.size 3 (ints .i64 (imid S k n)).toArray := by rw [← HW0.out]; exact Bk.new _ _ _
  clear hmk
  generalize w.alloc (.cells (ints .i64 (List.replicate n 0)).toArray 3) = w1 at *
  go_loopw [1, 6] (fun v i wr => ∃ m : Nat, m ≤ n ∧ i = .int .i64 ((m : Int) - 1) ∧ v = .int .i64 (k / Ix.prod (S.drop m) : Nat) ∧ Bk wr w.heap.size 3 (ints .i64 (imid S k m)).toArray ∧ Below w.heap.size w wr) (fun _ i _ => (intOf i + 1).toNat)
  case atStart => exact ⟨n, Nat.le_refl _, rfl, by rw [HD0.out], k1, hB1⟩
  case round =>
    clear k1 hB1
    obtain ⟨m, hm, rfl, rfl, kb, hB⟩ := hrel
    cases m with
    | zero =>
      go_wp2
      go_ret
      exact ⟨hB, rfl, kb⟩
    | succ m =>
      rw [show ((m + 1 : Nat) : Int) - 1 = (m : Int) by push_cast; omega]
      have hlt : m < S.length := by rw [← HN.out]; omega
      obtain ⟨ad, rfl, hab, hs⟩ := (HR.out.below hB).int (j := m) hlt
      obtain ⟨x1, x2⟩ := HX.out m hlt
      have k4 := kb.put m (.int .i64 (((idx S k).getD m 0 : Nat) : Int))
      rw [ints_set, imid_next hlt, x1] at k4
      have hc0 := kb.cell m
      rw [ints_getD .i64 _ (by rw [imid_len (by omega)]; exact hlt)] at hc0
      have hf0 := kb.frozen m
      have HD := Lib.hid (div_next (k := k) hlt)
      have hq : k / Ix.prod (S.drop (m + 1)) ≤ k := Nat.div_le_self _ _
      generalize k / Ix.prod (S.drop (m + 1)) = q at *
      generalize S.getD m 0 = s at *
      have hr1 : 0 ≤ (q : Int) % (s : Int) ∧ (q : Int) % (s : Int) ≤ (q : Int) := ⟨Int.emod_nonneg _ (by omega), by exact_mod_cast Nat.mod_le q s⟩
      have hr2 : 0 ≤ (q : Int) / (s : Int) ∧ (q : Int) / (s : Int) ≤ (q : Int) := ⟨Int.ediv_nonneg (by omega) (by omega), by exact_mod_cast Nat.div_le_self q s⟩
      have e1 : (q : Int).tmod (s : Int) = (q : Int) % (s : Int) := Int.tmod_eq_emod_of_nonneg (by omega)
      have e2 : (q : Int).tdiv (s : Int) = (q : Int) / (s : Int) := Int.tdiv_eq_ediv_of_nonneg (by omega)
      have ww1 : IntKind.i64.wrap ((q : Int) % (s : Int)) = (q : Int) % (s : Int) := IntWalk.i64_in _ (by omega)
      have ww2 : IntKind.i64.wrap ((q : Int) / (s : Int)) = (q : Int) / (s : Int) := IntWalk.i64_in _ (by omega)
      have hB4 := hB.setCell (p := ⟨w.heap.size, m, none⟩) (Nat.le_refl _) (.int .i64 ((q : Int) % (s : Int)))
      push_cast at k4
      have hs4 := (World.cell?_setCell_other wr ⟨w.heap.size, m, none⟩ (ad.add m) (.int .i64 ((q : Int) % (s : Int))) (fun e => by
        have h1 : (ad.add m).block = w.heap.size := by first | exact congrArg Addr.block e.symm | exact congrArg Addr.block e
        rw [addr_block] at h1; omega)).trans hs
      clear x1 kb
      go_wp2
      go_roundw
      case rel => exact ⟨m, by omega, by go_num, by rw [← HD.out]; push_cast; rfl, k4, hB4⟩
      case measure => simp [intOf]
end Go.Proofs.YtgnffedncjjkfaaGreatDoor
