/-
  Walks: package arrayarchiveref06: Count, ValidShape.
  Walks: package arrayarchiveref06: Place.
  Walks: package arrayarchiveref06: through.
  Walks: package arrayarchiveref06: Counts.
  Walks: package arrayarchiveref06: Index.
  Walks: package arrayarchiveref06: Valid.
  Plain: what Paste, Fill, At, Resize say; what was pasted is cut out.
  Walks: package arrayarchiveref06: cutFits, Fits, sameShape, copied, isIndex; package array: inside; the law's Big.
  Walks: Fill, At, on both sides. Words: a struct whose list is appended to.
  Walks: At, on both sides.
  Words: known blocks that a walk keeps.
-/
import Derived.Test.YtgnffedncjjkfaaGreatDoorArxA
import Derived.Test.YtgnffedncjjkfaaGreatDoorValR
import Derived.Test.YtgnffedncjjkfaaGreatDoorArxF
import Derived.Test.YtgnffedncjjkfaaGreatDoorArxH
namespace Go.Proofs.YtgnffedncjjkfaaGreatDoor
open Go.RowKit Ix Ar

set_option maxRecDepth 100000 in
set_option maxHeartbeats 1600000 in
theorem rcount_any (S : List Nat) (A : Option Addr) (c B : Nat) (w : World) (hS : Sz4 S) (hr : Rd w B A (ints .i64 S)) :
    Calls Tryz.prog 68 #[.slice A S.length c] w fun e w' => w = w' ∧ e = .returned (.int .i64 (Ix.prod S : Nat)) := by
  have hl4 := hS.len
  go_enter Tryz.func68, Tryz.ntmps68
  go_wp2_with fail
  go_loop [3, 4] (fun n i => ∃ k : Nat, k ≤ S.length ∧ i = .int .i64 k ∧ n = .int .i64 (Ix.prod (S.take k) : Nat)) (fun _ i => S.length - (intOf i).toNat)
  case atStart => exact ⟨0, Nat.zero_le _, rfl, rfl⟩
  case round =>
    obtain ⟨k, hk, rfl, rfl⟩ := hrel
    by_cases hlt : k < S.length
    · obtain ⟨ad, rfl, hab, hcell⟩ := hr.int hlt
      have hs := hS.le _ (getD_mem hlt)
      have hp := (hS.take k).prod
      have hp2 := (hS.take (k + 1)).prod
      have HP : Hid (Ix.prod (S.take (k + 1)) = Ix.prod (S.take k) * S.getD k 0) := prod_take hlt
      rw [HP.out] at hp2
      generalize Ix.prod (S.take k) = p at *
      generalize S.getD k 0 = s at *
      obtain ⟨q, hq⟩ : ∃ q : Nat, q = p * s := ⟨_, rfl⟩
      have ww : IntKind.i64.wrap ((p : Int) * (s : Int)) = (q : Int) := by
        rw [show (p : Int) * (s : Int) = (q : Int) by rw [hq]; push_cast; rfl]
        exact IntWalk.i64_in _ (by omega)
      have HQ := Lib.hid (HP.out.trans hq.symm)
      clear HP hq hp2
      go_wp2
      go_round
      case rel => exact ⟨k + 1, by omega, by go_num, by rw [HQ.out]⟩
      case measure => simp [intOf]; omega
    · have hkl : k = S.length := by omega
      subst hkl
      go_wp2
      go_ret
      exact ⟨rfl, rfl⟩

set_option maxRecDepth 100000 in
set_option maxHeartbeats 1600000 in
theorem rvalidshape_any (S : List Int) (A : Option Addr) (c B : Nat) (w : World) (hr : Rd w B A (zints S)) (hL : S.length ≤ maxLen) (q : Bool) (hq : q = true ↔ VS S) :
    Calls Tryz.prog 30 #[.slice A S.length c] w fun e w' => w = w' ∧ e = .returned (.bool q) := by
  unfold maxLen at hL
  have HQ := Lib.hid hq
  clear hq
  by_cases h4 : 4 < S.length
  · have hqf : q = false := by
      cases hh : q with
      | false => rfl
      | true => have := (HQ.out.1 hh).1; omega
    subst hqf
    go_enter Tryz.func30, Tryz.ntmps30
    go_wp2
    go_ret
    exact ⟨rfl, rfl⟩
  go_enter Tryz.func30, Tryz.ntmps30
  go_wp2_with fail
  go_loop [3] (fun i => ∃ k : Nat, k ≤ S.length ∧ i = .int .i64 k ∧ Hid (∀ s ∈ S.take k, 0 ≤ s ∧ s ≤ 1024)) (fun i => S.length - (intOf i).toNat)
  case atStart => exact ⟨0, Nat.zero_le _, rfl, (fun s hs => by simp at hs)⟩
  case round =>
    obtain ⟨k, hk, rfl, HT⟩ := hrel
    by_cases hlt : k < S.length
    · obtain ⟨ad, rfl, hab, hcell⟩ := hr.zint hlt
      have hmem : S[k] ∈ S := List.getElem_mem _
      have HN : Hid (0 ≤ S[k] ∧ S[k] ≤ 1024 → ∀ s ∈ S.take (k + 1), 0 ≤ s ∧ s ≤ 1024) := fun h s hs => by
        rw [take_snocI hlt] at hs
        rcases List.mem_append.1 hs with h1 | h1
        · exact HT.out s h1
        · simp at h1; subst h1; exact h
      have HB : Hid (¬ (0 ≤ S[k] ∧ S[k] ≤ 1024) → q = false) := fun h => by
        cases hh : q with
        | false => rfl
        | true => exact absurd ((HQ.out.1 hh).2.1 _ hmem) h
      clear hmem
      generalize S[k] = s at *
      by_cases h0 : s < 0
      · have hqf := HB.out (by omega)
        subst hqf
        clear HN HB
        go_wp2
        go_ret
        exact ⟨rfl, rfl⟩
      by_cases h1 : 1024 < s
      · have hqf := HB.out (by omega)
        subst hqf
        clear HN HB
        go_wp2
        go_ret
        exact ⟨rfl, rfl⟩
      have HN2 := Lib.hid (HN.out ⟨by omega, by omega⟩)
      clear HN HB
      go_wp2
      go_round
      case rel => exact ⟨k + 1, by omega, by go_num, HN2.out⟩
      case measure => simp [intOf]; omega
    · have hall : ∀ s ∈ S, 0 ≤ s ∧ s ≤ 1024 := by have := HT.out; rwa [List.take_of_length_le (by omega)] at this
      have hz : Sz4 (S.map Int.toNat) := ⟨by rw [List.length_map]; omega, fun s hs => by
        obtain ⟨x, hx, rfl⟩ := List.mem_map.1 hs
        have := hall x hx; omega⟩
      have hr2 : Rd w B A (ints .i64 (S.map Int.toNat)) := by rw [← zints_nats fun s hs => (hall s hs).1]; exact hr
      have CC := rcount_any (S.map Int.toNat) A c B w hz hr2
      rw [List.length_map] at CC
      have hp := hz.prod
      have HQ2 : Hid (q = decide (Ix.prod (S.map Int.toNat) ≤ 4096)) := by
        show _ = _
        rw [Bool.eq_iff_iff, HQ.out, decide_eq_true_eq]
        exact ⟨fun h => h.2.2, fun h => ⟨by omega, hall, h⟩⟩
      generalize Ix.prod (S.map Int.toNat) = p at *
      have CC := Lib.hid CC
      clear hall hz hr2 HQ HT
      by_cases hp2 : p ≤ 4096
      · have hqt := HQ2.out
        rw [decide_eq_true hp2] at hqt
        subst hqt
        clear HQ2
        go_wp2_with fail
        refine CC.out.mono ?_
        rintro e w' ⟨rfl, rfl⟩
        go_wp2
        go_ret
        exact ⟨rfl, ret_bool (decide_eq_true (by omega))⟩
      · have hqt := HQ2.out
        rw [decide_eq_false hp2] at hqt
        subst hqt
        clear HQ2
        go_wp2_with fail
        refine CC.out.mono ?_
        rintro e w' ⟨rfl, rfl⟩
        go_wp2
        go_ret
        exact ⟨rfl, ret_bool (decide_eq_false (by omega))⟩
end Go.Proofs.YtgnffedncjjkfaaGreatDoor

namespace Go.Proofs.YtgnffedncjjkfaaGreatDoor
open Go.RowKit Ix Ar

theorem inside_take : ∀ {S I : List Nat}, Inside S I → ∀ k, Inside (S.take k) (I.take k)
  | [], [], _, k => by simp [Inside]
  | [], _ :: _, h, _ => h.elim
  | _ :: _, [], h, _ => h.elim
  | _ :: _, _ :: _, _, 0 => trivial
  | _ :: _, _ :: _, h, k + 1 => ⟨h.1, inside_take h.2 k⟩
theorem inside_length : ∀ {S I : List Nat}, Inside S I → I.length = S.length
  | [], [], _ => rfl
  | [], _ :: _, h => h.elim
  | _ :: _, [], h => h.elim
  | _ :: _, _ :: _, h => congrArg (· + 1) (inside_length h.2)
theorem place_take {S I : List Nat} (h : I.length = S.length) {k : Nat} (hk : k < S.length) : place (S.take (k + 1)) (I.take (k + 1)) = place (S.take k) (I.take k) * S.getD k 0 + I.getD k 0 := by
  rw [take_getD hk, take_getD (show k < I.length by omega)]
  exact place_snoc _ _ _ _ (by rw [List.length_take, List.length_take]; omega)

set_option maxRecDepth 100000 in
set_option maxHeartbeats 1600000 in
theorem rplace_any (S I : List Nat) (A A' : Option Addr) (c c' B B' : Nat) (w : World) (hS : Sz4 S) (hI : Inside S I) (hr : Rd w B A (ints .i64 S)) (hr' : Rd w B' A' (ints .i64 I)) (hB : B ≤ w.heap.size) (hB' : B' ≤ w.heap.size) :
    Calls Tryz.prog 69 #[.slice A S.length c, .slice A' S.length c'] w fun e w' => Below w.heap.size w w' ∧ e = .returned (.int .i64 (place S I : Nat)) := by
  have hl4 := hS.len
  have hl := inside_length hI
  have HI := Lib.hid hI
  have HLI := Lib.hid hl
  clear hI hl
  go_enter Tryz.func69, Tryz.ntmps69
  go_wp2_with fail
  go_loopw [5, 6] (fun n i wr => ∃ k : Nat, k ≤ S.length ∧ i = .int .i64 k ∧ n = .int .i64 (place (S.take k) (I.take k) : Nat) ∧ Below w.heap.size w wr) (fun _ i _ => S.length - (intOf i).toNat)
  case atStart => exact ⟨0, Nat.zero_le _, rfl, rfl, Below.refl _ _⟩
  case round =>
    obtain ⟨k, hk, rfl, rfl, hb⟩ := hrel
    by_cases hlt : k < S.length
    · obtain ⟨ad, rfl, hab, hcell⟩ := (hr.below (hb.mono hB)).int hlt
      obtain ⟨ad', rfl, hab', hcell'⟩ := (hr'.below (hb.mono hB')).int (j := k) (by rw [HLI.out]; exact hlt)
      have hs := hS.le _ (getD_mem hlt)
      have hp2 := Nat.lt_of_lt_of_le (place_lt _ _ (inside_take HI.out (k + 1))) (hS.take (k + 1)).prod
      have HP := Lib.hid (place_take HLI.out hlt)
      rw [HP.out] at hp2
      generalize place (S.take k) (I.take k) = p at *
      generalize S.getD k 0 = s at *
      generalize I.getD k 0 = i at *
      obtain ⟨q, hq⟩ : ∃ q : Nat, q = p * s := ⟨_, rfl⟩
      rw [← hq] at hp2
      have ww : IntKind.i64.wrap ((p : Int) * (s : Int)) = (q : Int) := by
        rw [show (p : Int) * (s : Int) = (q : Int) by rw [hq]; push_cast; rfl]
        exact IntWalk.i64_in _ (by omega)
      have ww2 : IntKind.i64.wrap ((q : Int) + (i : Int)) = (q : Int) + (i : Int) := IntWalk.i64_in _ (by omega)
      have HQ := Lib.hid (HP.out.trans (congrArg (· + i) hq.symm))
      clear HP hq hp2
      go_wp2_with fail
      go_quiet (fail)
      have hb2 := below_drewN hb nq
      go_wp2
      go_roundw
      case rel => exact ⟨k + 1, by omega, by go_num, by rw [HQ.out]; push_cast; rfl, hb2⟩
      case measure => simp [intOf]; omega
    · have hkl : k = S.length := by omega
      subst hkl
      have e2 : I.take S.length = I := List.take_of_length_le (by rw [HLI.out]; exact Nat.le_refl _)
      rw [List.take_length, e2]
      go_wp2
      go_ret
      exact ⟨hb, rfl⟩
end Go.Proofs.YtgnffedncjjkfaaGreatDoor

namespace Go.Proofs.YtgnffedncjjkfaaGreatDoor
open Go.RowKit Ix Ar

set_option maxRecDepth 100000 in
set_option maxHeartbeats 6400000 in
theorem rthrough_any (C : List Cut) (S : List Int) (I : List Nat) (A A' : Option Addr) (c c' : Nat) (w : World) (hr : Rd w w.heap.size A (krow C)) (hr' : Rd w w.heap.size A' (ints .i64 I)) (hF : Fit S C) (hS : ∀ s ∈ S, 0 ≤ s ∧ s ≤ 1024) (hI : Inside (cnt C) I) (h4 : C.length ≤ 4) (hC : ∀ x ∈ C, In64 x) :
    Calls Tryz.prog 70 #[.slice A C.length c, .slice A' I.length c'] w fun e w' => Below w.heap.size w w' ∧ e = .returned (.slice (some ⟨w.heap.size, 0, none⟩) I.length I.length) ∧ Bk w' w.heap.size 3 (ints .i64 (thr C I)).toArray := by
  have hlI : I.length = C.length := by have := inside_len _ _ hI; rw [this]; unfold cnt; rw [List.length_map]
  have hlS := fit_len hF
  obtain ⟨n, hn⟩ : ∃ n, n = I.length := ⟨_, rfl⟩
  have HB : Hid (∀ k, k < n → 0 ≤ (C.getD k (0, 0, 0)).1 ∧ 0 ≤ ((I.getD k 0 : Nat) : Int) * (C.getD k (0, 0, 0)).2.2 ∧ (C.getD k (0, 0, 0)).1 + ((I.getD k 0 : Nat) : Int) * (C.getD k (0, 0, 0)).2.2 ≤ 1024 ∧ (thr C I).getD k 0 = ((C.getD k (0, 0, 0)).1 + ((I.getD k 0 : Nat) : Int) * (C.getD k (0, 0, 0)).2.2).toNat) := fun k hk => by
    have f1 := ((fit_iff _ _).1 hF).2 k (by omega)
    have f2 := ((inside_iff _ _).1 hI).2 k (by unfold cnt; rw [List.length_map]; omega)
    rw [cnt_at (by omega)] at f2
    have f3 := fitC_at f1 (i := ((I.getD k 0 : Nat) : Int)) (by omega) (by omega)
    have f4 : S.getD k 0 ≤ 1024 := by
      rw [List.getD_eq_getElem?_getD, List.getElem?_eq_getElem (by omega)]
      exact (hS _ (List.getElem_mem _)).2
    exact ⟨f1.1, f3.1, by omega, thr_at (by omega) (by omega)⟩
  have HW : Hid (∀ k, k < n → (wmid C I k).set k ((thr C I).getD k 0) = wmid C I (k + 1)) := fun k hk => wmid_next hlI (by omega)
  have HWL : Hid (∀ k, k ≤ n → (wmid C I k).length = n) := fun k hk => (wmid_len hlI (by omega)).trans hn.symm
  have HWE : Hid (wmid C I n = thr C I) := by
    show _ = _
    unfold wmid
    rw [List.take_of_length_le (by rw [thr_len hlI]; omega), hn, Nat.sub_self, List.replicate_zero, List.append_nil]
  have HW0 : Hid (ints .i64 (List.replicate n 0) = ints .i64 (wmid C I 0)) := by
    show _ = _
    unfold wmid
    rw [List.take_zero, List.nil_append, hn, Nat.sub_zero]
  have HC : Hid (∀ j, In64 (C.getD j (0, 0, 0))) := fun j => by
    rcases Nat.lt_or_ge j C.length with h | h
    · rw [List.getD_eq_getElem?_getD, List.getElem?_eq_getElem h]; exact hC _ (List.getElem_mem _)
    · rw [List.getD_eq_getElem?_getD, List.getElem?_eq_none h]; unfold In64; decide
  have HN := Lib.hid hn
  have HLC : Hid (n = C.length) := hn.trans hlI
  have h4' : n ≤ 4 := by omega
  rw [← hlI, ← hn]
  obtain ⟨i0, hi0, hz0, hz1, hz2⟩ := info_parts Tryz.int_info
  have hmk := make_ints (P := Tryz.prog) 22 3 i0 .i64 Tryz.underlying22 hi0 hz0 hz1 (by omega) .i64 .i64 n (n : Int) rfl (by omega)
  have HR := Lib.hid hr
  have HR' := Lib.hid hr'
  clear hF hS hI hC hlI hlS hn h4 hr hr'
  go_enter Tryz.func70, Tryz.ntmps70
  go_wp2_with fail
  have hB1 := below_alloc w (.cells (ints .i64 (List.replicate n 0)).toArray 3)
  have k1 : Bk (w.alloc (.cells (ints .i64 (List.replicate n 0)).toArray 3)) w.heap.size 3 (ints .i64 (wmid C I 0)).toArray := by rw [← HW0.out]; exact Bk.new _ _ _
  clear hmk
  generalize w.alloc (.cells (ints .i64 (List.replicate n 0)).toArray 3) = w1 at *
  go_loopw [6] (fun i wr => ∃ k : Nat, k ≤ n ∧ i = .int .i64 k ∧ Bk wr w.heap.size 3 (ints .i64 (wmid C I k)).toArray ∧ Below w.heap.size w wr) (fun i _ => n - (intOf i).toNat)
  case atStart => exact ⟨0, Nat.zero_le _, rfl, k1, hB1⟩
  case round =>
    clear k1 hB1
    obtain ⟨k, hk, rfl, kb, hB⟩ := hrel
    by_cases hlt : k < n
    · obtain ⟨ad, rfl, hab, t0, t1, t2⟩ := (HR.out.below hB).kut (i := k) (by rw [← HLC.out]; exact hlt)
      obtain ⟨ad', rfl, hab', hs⟩ := (HR'.out.below hB).int (j := k) (by rw [← HN.out]; exact hlt)
      have e1 : C[k]'(by rw [← HLC.out]; exact hlt) = C.getD k (0, 0, 0) := by rw [List.getD_eq_getElem?_getD, List.getElem?_eq_getElem (by rw [← HLC.out]; exact hlt)]; rfl
      rw [e1] at t0 t1 t2
      obtain ⟨b1, b2, b3, b4⟩ := HB.out k hlt
      have k4 := kb.put k (.int .i64 (((thr C I).getD k 0 : Nat) : Int))
      rw [ints_set, HW.out k hlt] at k4
      have hc0 := kb.cell k
      rw [ints_getD .i64 _ (by rw [HWL.out k (by omega)]; exact hlt)] at hc0
      have hf0 := kb.frozen k
      have hcb := HC.out k
      generalize C.getD k (0, 0, 0) = x at *
      generalize I.getD k 0 = i at *
      generalize (thr C I).getD k 0 = y at *
      obtain ⟨a, b, d⟩ := x
      simp only at t0 t1 t2 b1 b2 b3 b4
      obtain ⟨⟨hc1, hc2⟩, ⟨hc3, hc4⟩, hc5, hc6⟩ := hcb
      simp only at hc1 hc2 hc3 hc4 hc5 hc6
      obtain ⟨m, hm⟩ : ∃ m, m = (i : Int) * d := ⟨_, rfl⟩
      have ww : IntKind.i64.wrap ((i : Int) * d) = m := by rw [IntWalk.i64_in _ (by omega)]; exact hm.symm
      rw [← hm] at b2 b3 b4
      have ww2 : IntKind.i64.wrap (a + m) = a + m := IntWalk.i64_in _ (by omega)
      have hy : (y : Int) = a + m := by omega
      rw [hy] at k4
      have hB4 := (hB.setCell (p := ⟨w.heap.size, k, none⟩) (Nat.le_refl _) (.int .i64 (a + m))).drew
      have K4 : Hid (Bk ((wr.setCell ⟨w.heap.size, k, none⟩ (.int .i64 (a + m))).drew) w.heap.size 3 (ints .i64 (wmid C I (k + 1))).toArray) := k4
      clear b4 hm hy k4 e1 kb
      go_wp2_with fail
      go_region
      go_wp2
      go_roundw
      case rel => exact ⟨k + 1, by omega, by go_num, K4.out, hB4⟩
      case measure => simp [intOf]; omega
    · have hkn : k = n := by omega
      subst hkn
      rw [HWE.out] at kb
      clear HWE HW0
      go_wp2
      go_ret
      exact ⟨hB, rfl, kb⟩
end Go.Proofs.YtgnffedncjjkfaaGreatDoor

namespace Go.Proofs.YtgnffedncjjkfaaGreatDoor
open Go.RowKit Ix Ar

/-- The counts are being written. -/
def cmid (C : List Cut) (k : Nat) : List Int := (cntI C).take k ++ List.replicate (C.length - k) 0
theorem cmid_next {C : List Cut} {k : Nat} (h : k < C.length) : (cmid C k).set k (C[k].2.1) = cmid C (k + 1) := by
  have h' : k < (cntI C).length := by rw [cntI_len]; exact h
  unfold cmid
  rw [List.set_append_right _ _ (by rw [List.length_take]; omega), List.length_take, Nat.min_eq_left (by omega), Nat.sub_self, show C.length - k = (C.length - (k + 1)) + 1 by omega, List.replicate_succ, List.set_cons_zero, take_snocI h', List.append_assoc]
  congr 1
  simp [cntI]
theorem cmid_len {C : List Cut} {k : Nat} (h : k ≤ C.length) : (cmid C k).length = C.length := by
  unfold cmid
  rw [List.length_append, List.length_take, List.length_replicate, cntI_len]; omega

set_option maxRecDepth 100000 in
set_option maxHeartbeats 3200000 in
theorem rcounts_any (C : List Cut) (A : Option Addr) (c : Nat) (w : World) (hr : Rd w w.heap.size A (krow C)) (hL : C.length ≤ 1000000) :
    Calls Tryz.prog 67 #[.slice A C.length c] w fun e w' => Below w.heap.size w w' ∧ e = .returned (.slice (some ⟨w.heap.size, 0, none⟩) C.length C.length) ∧ Bk w' w.heap.size 3 (zints (cntI C)).toArray := by
  obtain ⟨n, hn⟩ : ∃ n, n = C.length := ⟨_, rfl⟩
  have HW : Hid (∀ k (h : k < C.length), (zints (cmid C k)).toArray.setIfInBounds k (.int .i64 C[k].2.1) = (zints (cmid C (k + 1))).toArray) := fun k h => by rw [zints_set, cmid_next h]
  have HWL : Hid (∀ k, k ≤ n → (cmid C k).length = n) := fun k hk => (cmid_len (by omega)).trans hn.symm
  have HWE : Hid (cmid C n = cntI C) := by
    show _ = _
    unfold cmid
    rw [List.take_of_length_le (by rw [cntI_len]; omega), hn, Nat.sub_self, List.replicate_zero, List.append_nil]
  have HW0 : Hid (ints .i64 (List.replicate n 0) = zints (cmid C 0)) := by
    show _ = _
    unfold cmid
    rw [List.take_zero, List.nil_append, hn, Nat.sub_zero]
    simp [ints, zints]
  have HN := Lib.hid hn
  have hL' : n ≤ 1000000 := by omega
  rw [← hn]
  obtain ⟨i0, hi0, hz0, hz1, hz2⟩ := info_parts Tryz.int_info
  have hmk := make_ints (P := Tryz.prog) 22 3 i0 .i64 Tryz.underlying22 hi0 hz0 hz1 (by omega) .i64 .i64 n (n : Int) rfl (by omega)
  have HR := Lib.hid hr
  clear hL hn hr
  go_enter Tryz.func67, Tryz.ntmps67
  go_wp2_with fail
  have hB1 := below_alloc w (.cells (ints .i64 (List.replicate n 0)).toArray 3)
  have k1 : Bk (w.alloc (.cells (ints .i64 (List.replicate n 0)).toArray 3)) w.heap.size 3 (zints (cmid C 0)).toArray := by rw [← HW0.out]; exact Bk.new _ _ _
  clear hmk
  generalize w.alloc (.cells (ints .i64 (List.replicate n 0)).toArray 3) = w1 at *
  go_loopw [4] (fun i wr => ∃ k : Nat, k ≤ n ∧ i = .int .i64 k ∧ Bk wr w.heap.size 3 (zints (cmid C k)).toArray ∧ Below w.heap.size w wr) (fun i _ => n - (intOf i).toNat)
  case atStart => exact ⟨0, Nat.zero_le _, rfl, k1, hB1⟩
  case round =>
    clear k1 hB1
    obtain ⟨k, hk, rfl, kb, hB⟩ := hrel
    by_cases hlt : k < n
    · obtain ⟨ad, rfl, hab, t0, t1, t2⟩ := (HR.out.below hB).kut (i := k) (by rw [← HN.out]; exact hlt)
      have k4 := kb.put k (.int .i64 (C[k]'(by rw [← HN.out]; exact hlt)).2.1)
      rw [HW.out k (by rw [← HN.out]; exact hlt)] at k4
      have hc0 := kb.cell k
      rw [show (zints (cmid C k)).toArray[k]? = some (.int .i64 ((cmid C k).getD k 0)) from by
        have h := HWL.out k (by omega)
        simp [zints, List.getD_eq_getElem?_getD, List.getElem?_eq_getElem (show k < (cmid C k).length by omega)]] at hc0
      have hf0 := kb.frozen k
      generalize C[k]'(by rw [← HN.out]; exact hlt) = x at *
      obtain ⟨a, b, d⟩ := x
      simp only at t0 t1 t2 k4
      have hB4 := (hB.setCell (p := ⟨w.heap.size, k, none⟩) (Nat.le_refl _) (.int .i64 b))
      have K4 : Hid (Bk (wr.setCell ⟨w.heap.size, k, none⟩ (.int .i64 b)) w.heap.size 3 (zints (cmid C (k + 1))).toArray) := k4
      clear k4 kb
      go_wp2
      go_roundw
      case rel => exact ⟨k + 1, by omega, by go_num, K4.out, hB4⟩
      case measure => simp [intOf]; omega
    · have hkn : k = n := by omega
      subst hkn
      rw [HWE.out] at kb
      clear HWE HW0
      go_wp2
      go_ret
      exact ⟨hB, rfl, kb⟩
end Go.Proofs.YtgnffedncjjkfaaGreatDoor

namespace Go.Proofs.YtgnffedncjjkfaaGreatDoor
open Go.RowKit Ix Ar

/-- The index is being written, from the last dimension on. -/
def imid (S : List Nat) (k m : Nat) : List Nat := List.replicate m 0 ++ (idx S k).drop m
theorem imid_len {S : List Nat} {k m : Nat} (h : m ≤ S.length) : (imid S k m).length = S.length := by
  unfold imid
  rw [List.length_append, List.length_replicate, List.length_drop, idx_len]; omega
theorem imid_next {S : List Nat} {k m : Nat} (h : m < S.length) : (imid S k (m + 1)).set m ((idx S k).getD m 0) = imid S k m := by
  have hl := idx_len S k
  unfold imid
  rw [List.replicate_succ', List.append_assoc, List.set_append_right _ _ (by simp), List.length_replicate, Nat.sub_self]
  simp only [List.cons_append, List.nil_append, List.set_cons_zero]
  congr 1
  rw [List.drop_eq_getElem_cons (show m < (idx S k).length by omega), List.getD_eq_getElem?_getD, List.getElem?_eq_getElem (by omega)]
  rfl
theorem div_next {S : List Nat} {k m : Nat} (h : m < S.length) : k / Ix.prod (S.drop (m + 1)) / S.getD m 0 = k / Ix.prod (S.drop m) := by
  rw [List.drop_eq_getElem_cons h, Nat.div_div_eq_div_mul, List.getD_eq_getElem?_getD, List.getElem?_eq_getElem h]
  show _ = k / (S[m] * Ix.prod (S.drop (m + 1)))
  rw [Nat.mul_comm]; rfl

set_option maxRecDepth 100000 in
set_option maxHeartbeats 3200000 in
theorem rindex_any (S : List Nat) (k : Nat) (A : Option Addr) (c : Nat) (w : World) (hS : Sz4 S) (hk : k < Ix.prod S) (hr : Rd w w.heap.size A (ints .i64 S)) :
    Calls Tryz.prog 71 #[.slice A S.length c, .int .i64 k] w fun e w' => Below w.heap.size w w' ∧ e = .returned (.slice (some ⟨w.heap.size, 0, none⟩) S.length S.length) ∧ Bk w' w.heap.size 3 (ints .i64 (idx S k)).toArray := by
  have hl4 := hS.len
  have hk2 : k < 1099511627777 := by have := hS.prod; omega
  have HX : Hid (∀ m, m < S.length → (idx S k).getD m 0 = k / Ix.prod (S.drop (m + 1)) % S.getD m 0 ∧ 0 < S.getD m 0) := fun m hm => ⟨idx_at S k m hk hm, by
    have := ((inside_iff _ _).1 (idx_inside S k hk)).2 m hm
    omega⟩
  obtain ⟨n, hn⟩ : ∃ n, n = S.length := ⟨_, rfl⟩
  have HN := Lib.hid hn
  have HW0 : Hid (ints .i64 (List.replicate n 0) = ints .i64 (imid S k n)) := by
    show _ = _
    unfold imid
    rw [List.drop_of_length_le (by rw [idx_len]; omega), List.append_nil]
  have HD0 : Hid (k / Ix.prod (S.drop n) = k) := by
    show _ = _
    rw [List.drop_of_length_le (by omega)]; exact Nat.div_one k
  have HR := Lib.hid hr
  rw [← hn] at hl4 ⊢
  obtain ⟨i0, hi0, hz0, hz1, hz2⟩ := info_parts Tryz.int_info
  have hmk := make_ints (P := Tryz.prog) 22 3 i0 .i64 Tryz.underlying22 hi0 hz0 hz1 (by omega) .i64 .i64 n (n : Int) rfl (by omega)
  clear hS hk hr hn
  go_enter Tryz.func71, Tryz.ntmps71
  go_wp2_with fail
  have hB1 := below_alloc w (.cells (ints .i64 (List.replicate n 0)).toArray 3)
  have k1 : Bk (w.alloc (.cells (ints .i64 (List.replicate n 0)).toArray 3)) w.heap.size 3 (ints .i64 (imid S k n)).toArray := by rw [← HW0.out]; exact Bk.new _ _ _
  clear hmk
  generalize w.alloc (.cells (ints .i64 (List.replicate n 0)).toArray 3) = w1 at *
  go_loopw [1, 6] (fun v i wr => ∃ m : Nat, m ≤ n ∧ i = .int .i64 ((m : Int) - 1) ∧ v = .int .i64 (k / Ix.prod (S.drop m) : Nat) ∧ Bk wr w.heap.size 3 (ints .i64 (imid S k m)).toArray ∧ Below w.heap.size w wr) (fun _ i _ => (intOf i + 1).toNat)
  case atStart => exact ⟨n, Nat.le_refl _, rfl, by rw [HD0.out], k1, hB1⟩
  case round =>
    clear k1 hB1
    obtain ⟨m, hm, rfl, rfl, kb, hB⟩ := hrel
    cases m with
    | zero =>
      go_wp2
      go_ret
      exact ⟨hB, rfl, kb⟩
    | succ m =>
      rw [show ((m + 1 : Nat) : Int) - 1 = (m : Int) by push_cast; omega]
      have hlt : m < S.length := by rw [← HN.out]; omega
      obtain ⟨ad, rfl, hab, hs⟩ := (HR.out.below hB).int (j := m) hlt
      obtain ⟨x1, x2⟩ := HX.out m hlt
      have k4 := kb.put m (.int .i64 (((idx S k).getD m 0 : Nat) : Int))
      rw [ints_set, imid_next hlt, x1] at k4
      have hc0 := kb.cell m
      rw [ints_getD .i64 _ (by rw [imid_len (by omega)]; exact hlt)] at hc0
      have hf0 := kb.frozen m
      have HD := Lib.hid (div_next (k := k) hlt)
      have hq : k / Ix.prod (S.drop (m + 1)) ≤ k := Nat.div_le_self _ _
      generalize k / Ix.prod (S.drop (m + 1)) = q at *
      generalize S.getD m 0 = s at *
      have hr1 : 0 ≤ (q : Int) % (s : Int) ∧ (q : Int) % (s : Int) ≤ (q : Int) := ⟨Int.emod_nonneg _ (by omega), by exact_mod_cast Nat.mod_le q s⟩
      have hr2 : 0 ≤ (q : Int) / (s : Int) ∧ (q : Int) / (s : Int) ≤ (q : Int) := ⟨Int.ediv_nonneg (by omega) (by omega), by exact_mod_cast Nat.div_le_self q s⟩
      have e1 : (q : Int).tmod (s : Int) = (q : Int) % (s : Int) := Int.tmod_eq_emod_of_nonneg (by omega)
      have e2 : (q : Int).tdiv (s : Int) = (q : Int) / (s : Int) := Int.tdiv_eq_ediv_of_nonneg (by omega)
      have ww1 : IntKind.i64.wrap ((q : Int) % (s : Int)) = (q : Int) % (s : Int) := IntWalk.i64_in _ (by omega)
      have ww2 : IntKind.i64.wrap ((q : Int) / (s : Int)) = (q : Int) / (s : Int) := IntWalk.i64_in _ (by omega)
      have hB4 := hB.setCell (p := ⟨w.heap.size, m, none⟩) (Nat.le_refl _) (.int .i64 ((q : Int) % (s : Int)))
      push_cast at k4
      have hs4 := (World.cell?_setCell_other wr ⟨w.heap.size, m, none⟩ (ad.add m) (.int .i64 ((q : Int) % (s : Int))) (fun e => by
        have h1 : (ad.add m).block = w.heap.size := by first | exact congrArg Addr.block e.symm | exact congrArg Addr.block e
        rw [addr_block] at h1; omega)).trans hs
      clear x1 kb
      go_wp2
      go_roundw
      case rel => exact ⟨m, by omega, by go_num, by rw [← HD.out]; push_cast; rfl, k4, hB4⟩
      case measure => simp [intOf]
end Go.Proofs.YtgnffedncjjkfaaGreatDoor

namespace Go.Proofs.YtgnffedncjjkfaaGreatDoor
open Go.RowKit Ix Ar

set_option maxRecDepth 100000 in
set_option maxHeartbeats 3200000 in
theorem rarr_any (a : Arr) (v : Value) (w : World) (h : IsA w w.heap.size v a) (hi : InA a) (q : Bool) (hq : q = true ↔ VA a) :
    Calls Tryz.prog 32 #[v] w fun e w' => Below w.heap.size w w' ∧ e = .returned (.bool q) := by
  obtain ⟨A, c, A', c', rfl, hc, hc'⟩ := h.form
  obtain ⟨h1, h2⟩ := h.parts
  obtain ⟨S, V⟩ := a
  simp only at h1 h2 hc hc' hq ⊢
  have i1 := hi.shape
  have i2 := hi.vals
  have i3 := hi.texts
  simp only at i1 i2 i3
  obtain ⟨qs, hqs⟩ : ∃ b : Bool, b = true ↔ VS S := by classical exact ⟨decide _, decide_eq_true_iff⟩
  have hA0 := below_alloc w (.cells #[.slice A S.length c, .slice A' V.length c'] 25)
  have k0 := Bk.new w 25 #[.slice A S.length c, .slice A' V.length c']
  have VS1 := Lib.hid (fun W (hW : Below w.heap.size w W) => rvalidshape_any S A c w.heap.size W (h1.rd.below hW) i1 qs hqs)
  unfold maxLen at i1
  obtain ⟨d0, d1⟩ := bkA k0
  cases hs : qs
  · have hqf : q = false := by
      cases hh : q with
      | false => rfl
      | true => have := hqs.2 (hq.1 hh).1; rw [hs] at this; cases this
    subst hqf
    subst hs
    clear hq hqs h h1 h2 hi i3
    go_enter Tryz.func32, Tryz.ntmps32
    go_wp2_with fail
    refine wp_region_held_drew (S := fun X => (X.cell? ⟨w.heap.size, 0, none⟩ = some (.slice A S.length c) ∧ X.cell? ⟨w.heap.size, 1, none⟩ = some (.slice A' V.length c')) ∧ Below w.heap.size w X) (by kernel_rfl) ⟨⟨d0, d1⟩, hA0.drew⟩ (fun hS => ?_)
    clear d0 d1 hA0 k0
    refine takeA (i := 0) (v := ?_) rfl (by kernel_rfl) (by kernel_rfl) (by kernel_rfl) (fun _ _ _ h => h) (by rfl) (by assumption) ?_ ?_
    rotate_left
    · intro w hSw; (try dsimp only at hSw); go_simp <;> with_reducible rfl
    try simp only [Act.put, List.setIfInBounds_toArray, List.set_cons_zero, List.set_cons_succ]
    refine takeA (i := 1) (v := ?_) rfl (by kernel_rfl) (by kernel_rfl) (by kernel_rfl) (fun _ _ _ h => h) (by rfl) (by assumption) ?_ ?_
    rotate_left
    · intro w hSw; (try dsimp only at hSw); go_simp <;> with_reducible rfl
    try simp only [Act.put, List.setIfInBounds_toArray, List.set_cons_zero, List.set_cons_succ]
    refine stepA (i := 2) rfl (by kernel_rfl) (fun K0 hK0 => ?_)
    go_simp
    refine (VS1.out _ hS.2).mono ?_
    rintro e w' ⟨rfl, rfl⟩
    dsimp only
    refine hK0.out _ _ hS (fun _ => ?_)
    clear hK0 K0
    try simp only [Act.put, List.setIfInBounds_toArray, List.set_cons_zero, List.set_cons_succ]
    refine takeA (i := 3) (v := ?_) rfl (by kernel_rfl) (by kernel_rfl) (by kernel_rfl) (fun _ _ _ h => h) (by rfl) (by assumption) ?_ ?_
    rotate_left
    · intro w hSw; (try dsimp only at hSw); go_simp <;> with_reducible rfl
    try simp only [Act.put, List.setIfInBounds_toArray, List.set_cons_zero, List.set_cons_succ]
    refine takeA (i := 4) (v := ?_) rfl (by kernel_rfl) (by kernel_rfl) (by kernel_rfl) (fun _ _ _ h => h) (by rfl) (by assumption) ?_ ?_
    rotate_left
    · intro w hSw; (try dsimp only at hSw); go_simp <;> with_reducible rfl
    try simp only [Act.put, List.setIfInBounds_toArray, List.set_cons_zero, List.set_cons_succ]
    refine skipA (i := 5) rfl (by kernel_rfl) (by kernel_rfl) (by kernel_rfl) (fun _ _ _ h => h) (by rfl) (by assumption) ?_
    try simp only [Act.put, List.setIfInBounds_toArray, List.set_cons_zero, List.set_cons_succ]
    refine skipA (i := 6) rfl (by kernel_rfl) (by kernel_rfl) (by kernel_rfl) (fun _ _ _ h => h) (by rfl) (by assumption) ?_
    try simp only [Act.put, List.setIfInBounds_toArray, List.set_cons_zero, List.set_cons_succ]
    refine skipA (i := 7) rfl (by kernel_rfl) (by kernel_rfl) (by kernel_rfl) (fun _ _ _ h => h) (by rfl) (by assumption) ?_
    try simp only [Act.put, List.setIfInBounds_toArray, List.set_cons_zero, List.set_cons_succ]
    refine skipA (i := 8) rfl (by kernel_rfl) (by kernel_rfl) (by kernel_rfl) (fun _ _ _ h => h) (by rfl) (by assumption) ?_
    try simp only [Act.put, List.setIfInBounds_toArray, List.set_cons_zero, List.set_cons_succ]
    refine skipA (i := 9) rfl (by kernel_rfl) (by kernel_rfl) (by kernel_rfl) (fun _ _ _ h => h) (by rfl) (by assumption) ?_
    try simp only [Act.put, List.setIfInBounds_toArray, List.set_cons_zero, List.set_cons_succ]
    refine skipA (i := 10) rfl (by kernel_rfl) (by kernel_rfl) (by kernel_rfl) (fun _ _ _ h => h) (by rfl) (by assumption) ?_
    try simp only [Act.put, List.setIfInBounds_toArray, List.set_cons_zero, List.set_cons_succ]
    refine skipA (i := 11) rfl (by kernel_rfl) (by kernel_rfl) (by kernel_rfl) (fun _ _ _ h => h) (by rfl) (by assumption) ?_
    try simp only [Act.put, List.setIfInBounds_toArray, List.set_cons_zero, List.set_cons_succ]
    refine takeA (i := 12) (v := ?_) rfl (by kernel_rfl) (by kernel_rfl) (by kernel_rfl) (fun _ _ _ h => h) (by rfl) (by assumption) ?_ ?_
    rotate_left
    · intro w hSw; (try dsimp only at hSw); go_simp <;> with_reducible rfl
    try simp only [Act.put, List.setIfInBounds_toArray, List.set_cons_zero, List.set_cons_succ]
    refine wpAnyH_done (by kernel_rfl) ?_ _
    go_wp2
    go_ret
    exact ⟨hS.2, rfl⟩
  · subst hs
    have hS0 := hqs.1 rfl
    have CC := Lib.hid (fun W (hW : Below w.heap.size w W) => rcount_any (S.map Int.toNat) A c w.heap.size W hS0.sz (by rw [← hS0.cells]; exact h1.rd.below hW))
    rw [List.length_map] at CC
    have hp := hS0.sz.prod
    have HV := Lib.hid (fun W (hW : Below w.heap.size w W) => (h2.rd.below hW))
    have HZ := Lib.hid i3
    have HQ : Hid (q = true ↔ V.length = Ix.prod (S.map Int.toNat) ∧ ∀ s ∈ V, IsVal s.data.toList) := by
      show _ ↔ _
      rw [hq]
      exact ⟨fun h => h.2, fun h => ⟨hS0, h⟩⟩
    generalize Ix.prod (S.map Int.toNat) = p at *
    clear hq hqs hS0 h h1 h2 hi i3
    obtain ⟨ql, hql⟩ : ∃ b : Bool, b = ((V.length : Int) != (p : Int)) := ⟨_, rfl⟩
    go_enter Tryz.func32, Tryz.ntmps32
    go_wp2_with fail
    refine wp_region_held_drew (S := fun X => (X.cell? ⟨w.heap.size, 0, none⟩ = some (.slice A S.length c) ∧ X.cell? ⟨w.heap.size, 1, none⟩ = some (.slice A' V.length c')) ∧ Below w.heap.size w X) (by kernel_rfl) ⟨⟨d0, d1⟩, hA0.drew⟩ (fun hS => ?_)
    refine takeA (i := 0) (v := ?_) rfl (by kernel_rfl) (by kernel_rfl) (by kernel_rfl) (fun _ _ _ h => h) (by rfl) (by assumption) ?_ ?_
    rotate_left
    · intro w hSw; (try dsimp only at hSw); go_simp <;> with_reducible rfl
    try simp only [Act.put, List.setIfInBounds_toArray, List.set_cons_zero, List.set_cons_succ]
    refine takeA (i := 1) (v := ?_) rfl (by kernel_rfl) (by kernel_rfl) (by kernel_rfl) (fun _ _ _ h => h) (by rfl) (by assumption) ?_ ?_
    rotate_left
    · intro w hSw; (try dsimp only at hSw); go_simp <;> with_reducible rfl
    try simp only [Act.put, List.setIfInBounds_toArray, List.set_cons_zero, List.set_cons_succ]
    refine stepA (i := 2) rfl (by kernel_rfl) (fun K0 hK0 => ?_)
    go_simp
    refine (VS1.out _ hS.2).mono ?_
    rintro e w' ⟨rfl, rfl⟩
    dsimp only
    refine hK0.out _ _ hS (fun _ => ?_)
    clear hK0 K0
    try simp only [Act.put, List.setIfInBounds_toArray, List.set_cons_zero, List.set_cons_succ]
    refine takeA (i := 3) (v := ?_) rfl (by kernel_rfl) (by kernel_rfl) (by kernel_rfl) (fun _ _ _ h => h) (by rfl) (by assumption) ?_ ?_
    rotate_left
    · intro w hSw; (try dsimp only at hSw); go_simp <;> with_reducible rfl
    try simp only [Act.put, List.setIfInBounds_toArray, List.set_cons_zero, List.set_cons_succ]
    refine takeA (i := 4) (v := ?_) rfl (by kernel_rfl) (by kernel_rfl) (by kernel_rfl) (fun _ _ _ h => h) (by rfl) (by assumption) ?_ ?_
    rotate_left
    · intro w hSw; (try dsimp only at hSw); go_simp <;> with_reducible rfl
    try simp only [Act.put, List.setIfInBounds_toArray, List.set_cons_zero, List.set_cons_succ]
    refine takeA (i := 5) (v := ?_) rfl (by kernel_rfl) (by kernel_rfl) (by kernel_rfl) (fun _ _ _ h => h) (by rfl) (by assumption) ?_ ?_
    rotate_left
    · intro w hSw; (try dsimp only at hSw); go_simp <;> with_reducible rfl
    try simp only [Act.put, List.setIfInBounds_toArray, List.set_cons_zero, List.set_cons_succ]
    refine takeA (i := 6) (v := ?_) rfl (by kernel_rfl) (by kernel_rfl) (by kernel_rfl) (fun _ _ _ h => h) (by rfl) (by assumption) ?_ ?_
    rotate_left
    · intro w hSw; (try dsimp only at hSw); go_simp <;> with_reducible rfl
    try simp only [Act.put, List.setIfInBounds_toArray, List.set_cons_zero, List.set_cons_succ]
    refine takeA (i := 7) (v := ?_) rfl (by kernel_rfl) (by kernel_rfl) (by kernel_rfl) (fun _ _ _ h => h) (by rfl) (by assumption) ?_ ?_
    rotate_left
    · intro w hSw; (try dsimp only at hSw); go_simp <;> with_reducible rfl
    try simp only [Act.put, List.setIfInBounds_toArray, List.set_cons_zero, List.set_cons_succ]
    refine takeA (i := 8) (v := ?_) rfl (by kernel_rfl) (by kernel_rfl) (by kernel_rfl) (fun _ _ _ h => h) (by rfl) (by assumption) ?_ ?_
    rotate_left
    · intro w hSw; (try dsimp only at hSw); go_simp <;> with_reducible rfl
    try simp only [Act.put, List.setIfInBounds_toArray, List.set_cons_zero, List.set_cons_succ]
    refine takeA (i := 9) (v := ?_) rfl (by kernel_rfl) (by kernel_rfl) (by kernel_rfl) (fun _ _ _ h => h) (by rfl) (by assumption) ?_ ?_
    rotate_left
    · intro w hSw; (try dsimp only at hSw); go_simp <;> with_reducible rfl
    try simp only [Act.put, List.setIfInBounds_toArray, List.set_cons_zero, List.set_cons_succ]
    refine stepA (i := 10) rfl (by kernel_rfl) (fun K0 hK0 => ?_)
    go_simp
    refine (CC.out _ hS.2).mono ?_
    rintro e w' ⟨rfl, rfl⟩
    dsimp only
    refine hK0.out _ _ hS (fun _ => ?_)
    clear hK0 K0
    try simp only [Act.put, List.setIfInBounds_toArray, List.set_cons_zero, List.set_cons_succ]
    refine takeA (i := 11) (v := ?_) rfl (by kernel_rfl) (by kernel_rfl) (by kernel_rfl) (fun _ _ _ h => h) (by rfl) (by assumption) ?_ ?_
    rotate_left
    · intro w hSw; (try dsimp only at hSw); go_simp <;> with_reducible rfl
    try simp only [Act.put, List.setIfInBounds_toArray, List.set_cons_zero, List.set_cons_succ]
    refine takeA (i := 12) (v := ?_) rfl (by kernel_rfl) (by kernel_rfl) (by kernel_rfl) (fun _ _ _ h => h) (by rfl) (by assumption) ?_ ?_
    rotate_left
    · intro w hSw; (try dsimp only at hSw); go_simp <;> with_reducible rfl
    try simp only [Act.put, List.setIfInBounds_toArray, List.set_cons_zero, List.set_cons_succ]
    refine wpAnyH_done (by kernel_rfl) ?_ _
    try simp only [← hql]
    have hS' := hS
    have kd := k0.drew
    clear hS hA0 k0 d0 d1 CC VS1
    by_cases hl : V.length = p
    rotate_left
    · have hqf : q = false := by
        cases hh : q with
        | false => rfl
        | true => exact absurd (HQ.out.1 hh).1 hl
      have hqt : ql = true := by rw [hql]; simp; omega
      subst hqf
      subst hqt
      clear HQ
      go_wp2
      go_ret
      exact ⟨hS'.2, rfl⟩
    have hqt : ql = false := by rw [hql, hl]; simp
    subst hqt
    subst hl
    have hB0 := hS'.2
    clear hql hS'
    go_wp2_with fail
    generalize (w.alloc (.cells #[.slice A S.length c, .slice A' V.length c'] 25)).drew = W1 at *
    go_loopw [3] (fun i wr => ∃ k : Nat, k ≤ V.length ∧ i = .int .i64 k ∧ Hid (∀ j (hj : j < V.length), j < k → IsVal V[j].data.toList) ∧ Below w.heap.size w wr ∧ Bk wr w.heap.size 25 #[.slice A S.length c, .slice A' V.length c']) (fun i _ => V.length - (intOf i).toNat)
    case atStart => exact ⟨0, Nat.zero_le _, rfl, (fun j hj hk => absurd hk (Nat.not_lt_zero _)), hB0, kd⟩
    case round =>
      clear hB0 kd
      obtain ⟨k, hk, rfl, HT, hB, kb⟩ := hrel
      obtain ⟨b0, b1⟩ := bkA kb
      by_cases hlt : k < V.length
      · obtain ⟨ad, rfl, hab, hx⟩ := (HV.out wr hB).str (j := k) hlt
        have HN : Hid (IsVal V[k].data.toList → ∀ j (hj : j < V.length), j < k + 1 → IsVal V[j].data.toList) := fun h j hj hk => by
          rcases Nat.lt_or_ge j k with h1 | h1
          · exact HT.out j hj h1
          · obtain rfl : j = k := by omega
            exact h
        have HE : Hid (¬ IsVal V[k].data.toList → q = false) := fun h => by
          cases hh : q with
          | false => rfl
          | true => exact absurd ((HQ.out.1 hh).2 _ (List.getElem_mem hlt)) h
        have RV := Lib.hid (rvalue_any V[k] wr (HZ.out _ (List.getElem_mem hlt)) (valB V[k]) (valB_iff _))
        generalize V[k] = x at *
        by_cases hxv : IsVal x.data.toList
        · have HOK := Lib.hid (HN.out hxv)
          have RV2 := RV.out
          rw [(valB_iff x).2 hxv] at RV2
          have RV3 := Lib.hid RV2
          clear HN HE RV RV2
          go_wp2_with fail
          refine RV3.out.mono ?_
          rintro e w3 ⟨hb3, rfl⟩
          have hB3 := hB.trans (hb3.mono hB.size)
          have kb3 := kb.next' hb3
          go_wp2
          go_roundw
          case rel => exact ⟨k + 1, by omega, by go_num, HOK.out, hB3, kb3⟩
          case measure => simp [intOf]; omega
        · have hqf := HE.out hxv
          have RV2 := RV.out
          rw [show valB x = false from by cases hh : valB x with | false => rfl | true => exact absurd ((valB_iff x).1 hh) hxv] at RV2
          have RV3 := Lib.hid RV2
          subst hqf
          clear HN HE RV RV2
          go_wp2_with fail
          refine RV3.out.mono ?_
          rintro e w3 ⟨hb3, rfl⟩
          have hB3 := hB.trans (hb3.mono hB.size)
          go_wp2
          go_ret
          exact ⟨hB3, rfl⟩
      · have hqt : q = true := HQ.out.2 ⟨trivial, fun s hs => by
          obtain ⟨j, hj, rfl⟩ := List.mem_iff_getElem.1 hs
          exact HT.out j hj (by omega)⟩
        subst hqt
        clear HT HQ
        go_wp2
        go_ret
        exact ⟨hB, rfl⟩
end Go.Proofs.YtgnffedncjjkfaaGreatDoor

namespace Go.Proofs.YtgnffedncjjkfaaGreatDoor
open Go.RowKit Ix Ar

theorem cutOut_mem {S : List Nat} {C : List Cut} {V : List ByteArray} {s : ByteArray} (h : s ∈ cutOut S C V ⟨#[]⟩) : s ∈ V ∨ s = ⟨#[]⟩ := by
  unfold cutOut tab at h
  obtain ⟨j, _, rfl⟩ := List.mem_map.1 h
  dsimp only
  rw [List.getD_eq_getElem?_getD]
  cases e : V[place S (thr C (idx (cnt C) j))]? with
  | none => exact .inr rfl
  | some x => exact .inl (List.mem_of_getElem? e)
theorem paste_mem {S : List Nat} {C : List Cut} {V W : List ByteArray} {s : ByteArray} : ∀ n, s ∈ paste S C V W ⟨#[]⟩ n → s ∈ V ∨ s ∈ W ∨ s = ⟨#[]⟩
  | 0, h => .inl h
  | n + 1, h => by
    rcases List.mem_or_eq_of_mem_set h with h1 | h1
    · exact paste_mem n h1
    · subst h1
      rw [List.getD_eq_getElem?_getD]
      cases e : W[n]? with
      | none => exact .inr (.inr rfl)
      | some x => exact .inr (.inl (List.mem_of_getElem? e))
theorem isVal_empty : IsVal (⟨#[]⟩ : ByteArray).data.toList := .inl rfl
theorem OwnsRow_far {w : World} {base : Nat} {e : TypeId} {size : Nat} {v : Value} {n : Nat} {xs : List Value} (h : w.ownsRow base e size v n xs) {p : Addr} (hp : v.ownBlock ≠ some p.block) (u : Value) : (w.setCell p u).ownsRow base e size v n xs := by
  rcases h.2 with ⟨rfl, rfl⟩ | ⟨g, cap, cur, rfl, hbg, hg, hnc, hcm, hcs, htake⟩
  · exact ⟨h.1, .inl ⟨rfl, rfl⟩⟩
  · refine ⟨h.1, .inr ⟨g, cap, cur, rfl, hbg, ?_, hnc, hcm, hcs, htake⟩⟩
    exact (Below.heap_setCell w p u g (fun e => hp (by rw [← e]; rfl))).trans hg
theorem sliceR_err {a : Arr} {C : List Cut} (h : (sliceR a C).2 = 0) : VA a ∧ Fit a.1 C := by
  by_cases h1 : VA a
  · by_cases h2 : Fit a.1 C
    · exact ⟨h1, h2⟩
    · rw [sliceR_slab h1 h2] at h; exact absurd h (by decide)
  · rw [sliceR_shape h1] at h; exact absurd h (by decide)
theorem sliceR_in {a : Arr} {C : List Cut} (hi : InA a) : InA (sliceR a C).1 := by
  by_cases h1 : VA a
  · by_cases h2 : Fit a.1 C
    · rw [sliceR_ok h1 h2]
      refine ⟨?_, ?_, fun s hs => ?_⟩
      · show (cntI C).length ≤ _
        rw [cntI_len, fit_len h2]; exact hi.shape
      · show (cutOut _ _ _ _).length ≤ _
        unfold cutOut tab
        rw [List.length_map, List.length_range]
        have := (fit_VS h1.1 h2).2.2
        rw [cntI_nat] at this
        omega
      · unfold cutOut tab at hs
        obtain ⟨j, _, rfl⟩ := List.mem_map.1 hs
        show (List.getD a.2 (place (a.1.map Int.toNat) (thr C (idx (cnt C) j))) ⟨#[]⟩).size ≤ _
        rw [List.getD_eq_getElem?_getD]
        rcases Nat.lt_or_ge (place (a.1.map Int.toNat) (thr C (idx (cnt C) j))) a.2.length with h | h
        · rw [List.getElem?_eq_getElem h]; exact hi.texts _ (List.getElem_mem _)
        · rw [List.getElem?_eq_none h]; decide
    · rw [sliceR_slab h1 h2]; exact ⟨Nat.zero_le _, Nat.zero_le _, fun s hs => by cases hs⟩
  · rw [sliceR_shape h1]; exact ⟨Nat.zero_le _, Nat.zero_le _, fun s hs => by cases hs⟩
/-- What is said of pasting: the array, and the error. -/
noncomputable def pasteR (a : Arr) (C : List Cut) (b : Arr) : Arr × Int :=
  open Classical in if VA a ∧ VA b then (if Fit a.1 C then (if b.1 = cntI C then ((a.1, paste (a.1.map Int.toNat) C a.2 b.2 ⟨#[]⟩ (Ix.prod (cnt C))), 0) else (([], []), 60)) else (([], []), 61)) else (([], []), 60)
theorem pasteR_shape {a b : Arr} {C : List Cut} (h : ¬ (VA a ∧ VA b)) : pasteR a C b = (([], []), 60) := by unfold pasteR; rw [if_neg h]
theorem pasteR_slab {a b : Arr} {C : List Cut} (h : VA a ∧ VA b) (k : ¬ Fit a.1 C) : pasteR a C b = (([], []), 61) := by unfold pasteR; rw [if_pos h, if_neg k]
theorem pasteR_other {a b : Arr} {C : List Cut} (h : VA a ∧ VA b) (k : Fit a.1 C) (l : b.1 ≠ cntI C) : pasteR a C b = (([], []), 60) := by unfold pasteR; rw [if_pos h, if_pos k, if_neg l]
theorem pasteR_ok {a b : Arr} {C : List Cut} (h : VA a ∧ VA b) (k : Fit a.1 C) (l : b.1 = cntI C) : pasteR a C b = ((a.1, paste (a.1.map Int.toNat) C a.2 b.2 ⟨#[]⟩ (Ix.prod (cnt C))), 0) := by unfold pasteR; rw [if_pos h, if_pos k, if_pos l]
theorem pasteR_err {a b : Arr} {C : List Cut} (h : (pasteR a C b).2 = 0) : (VA a ∧ VA b) ∧ Fit a.1 C ∧ b.1 = cntI C := by
  by_cases h1 : VA a ∧ VA b
  · by_cases h2 : Fit a.1 C
    · by_cases h3 : b.1 = cntI C
      · exact ⟨h1, h2, h3⟩
      · rw [pasteR_other h1 h2 h3] at h; cases h
    · rw [pasteR_slab h1 h2] at h; cases h
  · rw [pasteR_shape h1] at h; cases h
theorem slice_VA {a : Arr} {C : List Cut} (h : VA a) (k : Fit a.1 C) : VA (cntI C, cutOut (a.1.map Int.toNat) C a.2 ⟨#[]⟩) := by
  refine ⟨fit_VS h.1 k, ?_, fun s hs => ?_⟩
  · show (cutOut _ _ _ _).length = Ix.prod ((cntI C).map Int.toNat)
    rw [cntI_nat]; exact tab_len _ _
  · rcases cutOut_mem hs with h1 | rfl
    · exact h.2.2 s h1
    · exact isVal_empty
theorem paste_VA {a b : Arr} {C : List Cut} (h : VA a) (k : VA b) (n : Nat) : VA (a.1, paste (a.1.map Int.toNat) C a.2 b.2 ⟨#[]⟩ n) := by
  refine ⟨h.1, ?_, fun s hs => ?_⟩
  · show (paste _ _ _ _ _ _).length = _
    rw [paste_len]; exact h.2.1
  · rcases paste_mem n hs with h1 | h1 | rfl
    · exact h.2.2 s h1
    · exact k.2.2 s h1
    · exact isVal_empty
/-- What was pasted is cut out. -/
theorem paste_law1 {a b : Arr} {C : List Cut} (h : (pasteR a C b).2 = 0) : sliceR (pasteR a C b).1 C = (b, 0) := by
  obtain ⟨⟨va, vb⟩, hF, e⟩ := pasteR_err h
  rw [pasteR_ok ⟨va, vb⟩ hF e]
  have hl : b.2.length = Ix.prod (cnt C) := by rw [vb.2.1, e, cntI_nat]
  rw [sliceR_ok (paste_VA va vb _) hF]
  show ((cntI C, cutOut (a.1.map Int.toNat) C (paste (a.1.map Int.toNat) C a.2 b.2 ⟨#[]⟩ (Ix.prod (cnt C))) ⟨#[]⟩), (0 : Int)) = (b, 0)
  rw [cut_paste hF a.2 b.2 ⟨#[]⟩ va.2.1 hl, ← e]
/-- .. and what was cut out is put back. -/
theorem paste_law2 {a b : Arr} {C : List Cut} (h : (pasteR a C b).2 = 0) : pasteR (pasteR a C b).1 C (sliceR a C).1 = (a, 0) := by
  obtain ⟨⟨va, vb⟩, hF, e⟩ := pasteR_err h
  rw [pasteR_ok ⟨va, vb⟩ hF e, sliceR_ok va hF, pasteR_ok ⟨paste_VA va vb _, slice_VA va hF⟩ hF rfl]
  show ((a.1, paste (a.1.map Int.toNat) C (paste (a.1.map Int.toNat) C a.2 b.2 ⟨#[]⟩ (Ix.prod (cnt C))) (cutOut (a.1.map Int.toNat) C a.2 ⟨#[]⟩) ⟨#[]⟩ (Ix.prod (cnt C))), (0 : Int)) = (a, 0)
  rw [paste_back hF a.2 b.2 ⟨#[]⟩ va.2.1]
/-- Sizes of results. -/
theorem pasteR_in {a b : Arr} {C : List Cut} (h : InA a) (k : InA b) : InA (pasteR a C b).1 := by
  have hz : InA (([], []) : Arr) := ⟨Nat.zero_le _, Nat.zero_le _, fun s hs => by cases hs⟩
  by_cases h1 : VA a ∧ VA b
  · by_cases h2 : Fit a.1 C
    · by_cases h3 : b.1 = cntI C
      · rw [pasteR_ok h1 h2 h3]
        refine ⟨h.shape, ?_, fun s hs => ?_⟩
        · show (paste _ _ _ _ _ _).length ≤ _
          rw [paste_len]; exact h.vals
        · rcases paste_mem _ hs with h4 | h4 | rfl
          · exact h.texts s h4
          · exact k.texts s h4
          · exact Nat.zero_le _
      · rw [pasteR_other h1 h2 h3]; exact hz
    · rw [pasteR_slab h1 h2]; exact hz
  · rw [pasteR_shape h1]; exact hz
/-- An index of a shape, in ints. -/
def InI (S I : List Int) : Prop := I.length = S.length ∧ ∀ j, j < S.length → 0 ≤ I.getD j 0 ∧ I.getD j 0 < S.getD j 0
theorem getD_map {l : List Int} {j : Nat} : (l.map Int.toNat).getD j 0 = (l.getD j 0).toNat := by
  rw [List.getD_eq_getElem?_getD, List.getD_eq_getElem?_getD, List.getElem?_map]
  cases l[j]? <;> rfl
theorem InI.nats {S I : List Int} (h : InI S I) : Inside (S.map Int.toNat) (I.map Int.toNat) := by
  refine (inside_iff _ _).2 ⟨by rw [List.length_map, List.length_map]; exact h.1, fun j hj => ?_⟩
  rw [List.length_map] at hj
  have := h.2 j hj
  rw [getD_map, getD_map]
  omega
theorem InI.pos {S I : List Int} (h : InI S I) : ∀ s ∈ I, 0 ≤ s := fun s hs => by
  obtain ⟨j, hj, rfl⟩ := List.mem_iff_getElem.1 hs
  have := (h.2 j (by rw [← h.1]; exact hj)).1
  rw [List.getD_eq_getElem?_getD, List.getElem?_eq_getElem hj] at this
  exact this
theorem inI_of {S : List Int} (hS : ∀ s ∈ S, 0 ≤ s) (I : List Nat) : InI S (I.map Int.ofNat) ↔ Inside (S.map Int.toNat) I := by
  have e : ∀ j, (I.map Int.ofNat).getD j 0 = ((I.getD j 0 : Nat) : Int) := fun j => by
    rw [List.getD_eq_getElem?_getD, List.getD_eq_getElem?_getD, List.getElem?_map]
    cases I[j]? <;> rfl
  have p : ∀ j, 0 ≤ S.getD j 0 := fun j => by
    rw [List.getD_eq_getElem?_getD]
    rcases Nat.lt_or_ge j S.length with h | h
    · rw [List.getElem?_eq_getElem h]; exact hS _ (List.getElem_mem _)
    · rw [List.getElem?_eq_none h]; exact Int.le_refl _
  unfold InI
  rw [inside_iff]
  simp only [List.length_map, e, getD_map]
  constructor
  · rintro ⟨h1, h2⟩
    exact ⟨h1, fun j hj => by have := h2 j hj; have := p j; omega⟩
  · rintro ⟨h1, h2⟩
    exact ⟨h1, fun j hj => by have := h2 j hj; have := p j; omega⟩
/-- What is said of Fill. -/
noncomputable def fillR (S : List Int) (v : ByteArray) : Arr × Int :=
  open Classical in if VS S then (if IsVal v.data.toList then ((S, List.replicate (Ix.prod (S.map Int.toNat)) v), 0) else (([], []), 2)) else (([], []), 60)
theorem fillR_shape {S : List Int} {v : ByteArray} (h : ¬ VS S) : fillR S v = (([], []), 60) := by unfold fillR; rw [if_neg h]
theorem fillR_arg {S : List Int} {v : ByteArray} (h : VS S) (k : ¬ IsVal v.data.toList) : fillR S v = (([], []), 2) := by unfold fillR; rw [if_pos h, if_neg k]
theorem fillR_ok {S : List Int} {v : ByteArray} (h : VS S) (k : IsVal v.data.toList) : fillR S v = ((S, List.replicate (Ix.prod (S.map Int.toNat)) v), 0) := by unfold fillR; rw [if_pos h, if_pos k]
theorem fillR_in {S : List Int} {v : ByteArray} (h : S.length ≤ maxLen) (k : v.size ≤ 4000000) : InA (fillR S v).1 := by
  have hz : InA (([], []) : Arr) := ⟨Nat.zero_le _, Nat.zero_le _, fun s hs => by cases hs⟩
  by_cases h1 : VS S
  · by_cases h2 : IsVal v.data.toList
    · rw [fillR_ok h1 h2]
      refine ⟨h, ?_, fun s hs => ?_⟩
      · show (List.replicate _ _).length ≤ _
        rw [List.length_replicate]; have := h1.2.2; omega
      · obtain ⟨_, rfl⟩ := List.mem_replicate.1 hs; exact k
    · rw [fillR_arg h1 h2]; exact hz
  · rw [fillR_shape h1]; exact hz
/-- What is said of At. -/
noncomputable def atR (a : Arr) (I : List Int) : ByteArray × Int :=
  open Classical in if VA a then (if InI a.1 I then (a.2.getD (place (a.1.map Int.toNat) (I.map Int.toNat)) ⟨#[]⟩, 0) else (⟨#[]⟩, 61)) else (⟨#[]⟩, 60)
theorem atR_shape {a : Arr} {I : List Int} (h : ¬ VA a) : atR a I = (⟨#[]⟩, 60) := by unfold atR; rw [if_neg h]
theorem atR_slab {a : Arr} {I : List Int} (h : VA a) (k : ¬ InI a.1 I) : atR a I = (⟨#[]⟩, 61) := by unfold atR; rw [if_pos h, if_neg k]
theorem atR_ok {a : Arr} {I : List Int} (h : VA a) (k : InI a.1 I) : atR a I = (a.2.getD (place (a.1.map Int.toNat) (I.map Int.toNat)) ⟨#[]⟩, 0) := by unfold atR; rw [if_pos h, if_pos k]
/-- What an element of a resized array is. -/
noncomputable def resAt (S : List Int) (V : List ByteArray) (v : ByteArray) (I : List Nat) : ByteArray :=
  open Classical in if Inside (S.map Int.toNat) I then V.getD (place (S.map Int.toNat) I) ⟨#[]⟩ else v
/-- What is said of Resize. -/
noncomputable def resizeR (a : Arr) (T : List Int) (v : ByteArray) : Arr × Int :=
  open Classical in if VA a ∧ VS T then (if IsVal v.data.toList then (if T.length = a.1.length then ((T, tab (T.map Int.toNat) (resAt a.1 a.2 v)), 0) else (([], []), 60)) else (([], []), 2)) else (([], []), 60)
theorem resizeR_shape {a : Arr} {T : List Int} {v : ByteArray} (h : ¬ (VA a ∧ VS T)) : resizeR a T v = (([], []), 60) := by unfold resizeR; rw [if_neg h]
theorem resizeR_arg {a : Arr} {T : List Int} {v : ByteArray} (h : VA a ∧ VS T) (k : ¬ IsVal v.data.toList) : resizeR a T v = (([], []), 2) := by unfold resizeR; rw [if_pos h, if_neg k]
theorem resizeR_other {a : Arr} {T : List Int} {v : ByteArray} (h : VA a ∧ VS T) (k : IsVal v.data.toList) (l : T.length ≠ a.1.length) : resizeR a T v = (([], []), 60) := by unfold resizeR; rw [if_pos h, if_pos k, if_neg l]
theorem resizeR_ok {a : Arr} {T : List Int} {v : ByteArray} (h : VA a ∧ VS T) (k : IsVal v.data.toList) (l : T.length = a.1.length) : resizeR a T v = ((T, tab (T.map Int.toNat) (resAt a.1 a.2 v)), 0) := by unfold resizeR; rw [if_pos h, if_pos k, if_pos l]
theorem resAt_size {S : List Int} {V : List ByteArray} {v : ByteArray} {I : List Nat} (h : ∀ s ∈ V, s.size ≤ 4000000) (k : v.size ≤ 4000000) : (resAt S V v I).size ≤ 4000000 := by
  unfold resAt
  split
  · rw [List.getD_eq_getElem?_getD]
    cases e : V[place (S.map Int.toNat) I]? with
    | none => exact Nat.zero_le _
    | some x => exact h x (List.mem_of_getElem? e)
  · exact k
theorem resizeR_in {a : Arr} {T : List Int} {v : ByteArray} (h : InA a) (hT : T.length ≤ maxLen) (k : v.size ≤ 4000000) : InA (resizeR a T v).1 := by
  have hz : InA (([], []) : Arr) := ⟨Nat.zero_le _, Nat.zero_le _, fun s hs => by cases hs⟩
  by_cases h1 : VA a ∧ VS T
  · by_cases h2 : IsVal v.data.toList
    · by_cases h3 : T.length = a.1.length
      · rw [resizeR_ok h1 h2 h3]
        refine ⟨hT, ?_, fun s hs => ?_⟩
        · show (tab _ _).length ≤ _
          rw [tab_len]; have := h1.2.2.2; omega
        · unfold tab at hs
          obtain ⟨j, _, rfl⟩ := List.mem_map.1 hs
          exact resAt_size h.texts k
      · rw [resizeR_other h1 h2 h3]; exact hz
    · rw [resizeR_arg h1 h2]; exact hz
  · rw [resizeR_shape h1]; exact hz
end Go.Proofs.YtgnffedncjjkfaaGreatDoor

namespace Go.Proofs.YtgnffedncjjkfaaGreatDoor
open Go.RowKit Ix Ar

theorem bool_no {q : Bool} {p : Prop} (h : q = true ↔ p) (n : ¬ p) : q = false := by
  cases hh : q with
  | false => rfl
  | true => exact absurd (h.1 hh) n
set_option maxRecDepth 100000 in
set_option maxHeartbeats 1600000 in
theorem rcutfits_any (a b d s : Int) (w : World) (hs : 0 ≤ s ∧ s ≤ 1024) (hx : In64 (a, b, d)) (q : Bool) (hq : q = true ↔ FitC (a, b, d) s) :
    Calls Tryz.prog 116 #[.agg #[.int .i64 a, .int .i64 b, .int .i64 d], .int .i64 s] w fun e w' => Below w.heap.size w w' ∧ e = .returned (.bool q) := by
  obtain ⟨⟨hc1, hc2⟩, ⟨hc3, hc4⟩, hc5, hc6⟩ := hx
  simp only at hc1 hc2 hc3 hc4 hc5 hc6
  have HFC : Hid (FitC (a, b, d) s ↔ 0 ≤ a ∧ 0 ≤ b ∧ 1 ≤ d ∧ a ≤ s ∧ (0 < b → a < s ∧ b - 1 ≤ (s - 1 - a) / d)) := Iff.rfl
  have hB := below_alloc w (.cells #[.int .i64 a, .int .i64 b, .int .i64 d] 80)
  have kx := Bk.new w 80 #[Value.int .i64 a, .int .i64 b, .int .i64 d]
  have x0 : _ = some (Value.int .i64 a) := kx.cell 0
  have x1 : _ = some (Value.int .i64 b) := kx.cell 1
  have x2 : _ = some (Value.int .i64 d) := kx.cell 2
  clear kx
  by_cases c1 : a < 0
  · have hqf := bool_no hq fun h => by have := HFC.out.1 h; omega
    subst hqf
    clear hq HFC
    go_enter Tryz.func116, Tryz.ntmps116
    go_wp2
    go_ret
    exact ⟨hB, rfl⟩
  by_cases c2 : b < 0
  · have hqf := bool_no hq fun h => by have := HFC.out.1 h; omega
    subst hqf
    clear hq HFC
    go_enter Tryz.func116, Tryz.ntmps116
    go_wp2
    go_ret
    exact ⟨hB, rfl⟩
  by_cases c3 : d < 1
  · have hqf := bool_no hq fun h => by have := HFC.out.1 h; omega
    subst hqf
    clear hq HFC
    go_enter Tryz.func116, Tryz.ntmps116
    go_wp2
    go_ret
    exact ⟨hB, rfl⟩
  by_cases c4 : s < a
  · have hqf := bool_no hq fun h => by have := HFC.out.1 h; omega
    subst hqf
    clear hq HFC
    go_enter Tryz.func116, Tryz.ntmps116
    go_wp2
    go_ret
    exact ⟨hB, rfl⟩
  by_cases c5 : b = 0
  · have hqt : q = true := hq.2 (HFC.out.2 ⟨by omega, by omega, by omega, by omega, fun h => by omega⟩)
    subst hqt
    subst c5
    clear hq HFC
    go_enter Tryz.func116, Tryz.ntmps116
    go_wp2
    go_ret
    exact ⟨hB, rfl⟩
  have y5 : (b == 0) = false := by simp [c5]
  have w1' : IntKind.i64.wrap (b - 1) = b - 1 := IntWalk.i64_in _ (by omega)
  have w2' : IntKind.i64.wrap (s - 1) = s - 1 := IntWalk.i64_in _ (by omega)
  obtain ⟨l, hl⟩ : ∃ l, l = s - 1 - a := ⟨_, rfl⟩
  have w3' : IntKind.i64.wrap (s - 1 - a) = l := by rw [IntWalk.i64_in _ (by omega)]; exact hl.symm
  rw [← hl] at HFC
  have hl1 : l ≤ s - 1 - a := by omega
  have hl2 : s - 1 - a ≤ l := by omega
  clear hl
  go_enter Tryz.func116, Tryz.ntmps116
  go_wp2_with fail
  generalize w.alloc (.cells #[.int .i64 a, .int .i64 b, .int .i64 d] 80) = w1 at *
  by_cases c6 : 0 ≤ l
  rotate_left
  · have y6 : decide (0 ≤ l) = false := decide_eq_false c6
    have hqf := bool_no hq fun h => by have := (HFC.out.1 h).2.2.2.2 (by omega); omega
    subst hqf
    clear hq HFC
    go_quiet (fail)
    go_wp2
    go_ret
    exact ⟨below_drewN hB _, rfl⟩
  have y6 : decide (0 ≤ l) = true := decide_eq_true c6
  have w6' : 0 ≤ l / d := Int.ediv_nonneg (by omega) (by omega)
  have w7' : l / d ≤ l := Int.ediv_le_self _ (by omega)
  by_cases c7 : b = 1
  · have hqt : q = true := hq.2 (HFC.out.2 ⟨by omega, by omega, by omega, by omega, fun h => ⟨by omega, by omega⟩⟩)
    have y7 : (b == 1) = true := by simp [c7]
    subst hqt
    clear hq HFC
    go_quiet (fail)
    go_wp2
    go_ret
    exact ⟨below_drewN hB _, rfl⟩
  have y7 : (b == 1) = false := by simp [c7]
  by_cases c8 : d ≤ l
  rotate_left
  · have y8 : decide (d ≤ l) = false := decide_eq_false c8
    have hqf := bool_no hq fun h => by
      have h1 := ((HFC.out.1 h).2.2.2.2 (by omega)).2
      rw [Int.ediv_eq_zero_of_lt (by omega) (by omega)] at h1
      omega
    subst hqf
    clear hq HFC
    go_quiet (fail)
    go_wp2
    go_ret
    exact ⟨below_drewN hB _, rfl⟩
  have y8 : decide (d ≤ l) = true := decide_eq_true c8
  have w5' : l.tdiv d = l / d := Int.tdiv_eq_ediv_of_nonneg (by omega)
  have w4' : IntKind.i64.wrap (l / d) = l / d := IntWalk.i64_in _ (by omega)
  generalize l / d = qd at *
  by_cases c9 : b - 1 ≤ qd
  · have y9 : decide (b - 1 ≤ qd) = true := decide_eq_true c9
    have hqt : q = true := hq.2 (HFC.out.2 ⟨by omega, by omega, by omega, by omega, fun h => ⟨by omega, by omega⟩⟩)
    subst hqt
    clear hq HFC
    go_quiet (fail)
    go_wp2
    go_ret
    exact ⟨below_drewN hB _, rfl⟩
  · have y9 : decide (b - 1 ≤ qd) = false := decide_eq_false c9
    have hqf := bool_no hq fun h => by have := (HFC.out.1 h).2.2.2.2 (by omega); omega
    subst hqf
    clear hq HFC
    go_quiet (fail)
    go_wp2
    go_ret
    exact ⟨below_drewN hB _, rfl⟩
noncomputable def fitB (c : Cut) (s : Int) : Bool := @decide (FitC c s) (Classical.propDecidable _)
theorem fitB_iff (c : Cut) (s : Int) : fitB c s = true ↔ FitC c s := by unfold fitB; exact @decide_eq_true_iff _ (Classical.propDecidable _)

set_option maxRecDepth 100000 in
set_option maxHeartbeats 3200000 in
theorem rfits_any (C : List Cut) (S : List Int) (A A' : Option Addr) (c c' : Nat) (w : World) (hr : Rd w w.heap.size A (krow C)) (hr' : Rd w w.heap.size A' (zints S)) (hS : ∀ s ∈ S, 0 ≤ s ∧ s ≤ 1024) (hC : ∀ x ∈ C, In64 x) (hL : C.length ≤ maxLen) (q : Bool) (hq : q = true ↔ Fit S C) :
    Calls Tryz.prog 66 #[.slice A' S.length c', .slice A C.length c] w fun e w' => Below w.heap.size w w' ∧ e = .returned (.bool q) := by
  unfold maxLen at hL
  by_cases hlen : C.length = S.length
  rotate_left
  · have hqf : q = false := bool_no hq fun h => hlen (fit_len h)
    have hne : ((C.length : Int) != (S.length : Int)) = true := by simp; omega
    subst hqf
    clear hq hS hC hlen
    go_enter Tryz.func66, Tryz.ntmps66
    go_wp2
    go_ret
    exact ⟨Below.refl _ _, rfl⟩
  obtain ⟨n, hn⟩ : ∃ n, n = C.length := ⟨_, rfl⟩
  have HQ : Hid (q = true ↔ ∀ j, j < n → FitC (C.getD j (0, 0, 0)) (S.getD j 0)) := by
    show _ ↔ _
    rw [hq, fit_iff, hn, ← hlen]
    exact ⟨fun h => h.2, fun h => ⟨rfl, h⟩⟩
  have HS : Hid (∀ j, 0 ≤ S.getD j 0 ∧ S.getD j 0 ≤ 1024) := fun j => by
    rcases Nat.lt_or_ge j S.length with h | h
    · rw [List.getD_eq_getElem?_getD, List.getElem?_eq_getElem h]; exact hS _ (List.getElem_mem _)
    · rw [List.getD_eq_getElem?_getD, List.getElem?_eq_none h]; decide
  have HC : Hid (∀ j, In64 (C.getD j (0, 0, 0))) := fun j => by
    rcases Nat.lt_or_ge j C.length with h | h
    · rw [List.getD_eq_getElem?_getD, List.getElem?_eq_getElem h]; exact hC _ (List.getElem_mem _)
    · rw [List.getD_eq_getElem?_getD, List.getElem?_eq_none h]; unfold In64; decide
  rw [← hlen, ← hn]
  have HL := Lib.hid hlen
  have HN := Lib.hid hn
  have hn63 : n ≤ 9223372036854775807 := by omega
  clear hq hS hC hlen hn hL
  go_enter Tryz.func66, Tryz.ntmps66
  go_wp2_with fail
  go_loopw [5] (fun i wr => ∃ k : Nat, k ≤ n ∧ i = .int .i64 k ∧ Hid (∀ j, j < k → FitC (C.getD j (0, 0, 0)) (S.getD j 0)) ∧ Below w.heap.size w wr) (fun i _ => n - (intOf i).toNat)
  case atStart => exact ⟨0, Nat.zero_le _, rfl, (fun j hj => absurd hj (Nat.not_lt_zero _)), Below.refl _ _⟩
  case round =>
    obtain ⟨k, hk, rfl, HT, hB⟩ := hrel
    by_cases hlt : k < n
    · obtain ⟨ad, rfl, hab, t0, t1, t2⟩ := (hr.below hB).kut (i := k) (by rw [← HN.out]; exact hlt)
      obtain ⟨ad', rfl, hab', hs⟩ := (hr'.below hB).zint (j := k) (by rw [← HL.out, ← HN.out]; exact hlt)
      have hsb := HS.out k
      have hcb := HC.out k
      have HNX : Hid (fitB (C.getD k (0, 0, 0)) (S.getD k 0) = true → ∀ j, j < k + 1 → FitC (C.getD j (0, 0, 0)) (S.getD j 0)) := fun h j hj => by
        rcases Nat.lt_or_ge j k with h1 | h1
        · exact HT.out j h1
        · obtain rfl : j = k := by omega
          exact (fitB_iff _ _).1 h
      have HBD : Hid (fitB (C.getD k (0, 0, 0)) (S.getD k 0) = false → q = false) := fun h => by
        cases hh : q with
        | false => rfl
        | true => rw [(fitB_iff _ _).2 (HQ.out.1 hh k hlt)] at h; cases h
      have e1 : C[k]'(by rw [← HN.out]; exact hlt) = C.getD k (0, 0, 0) := by rw [List.getD_eq_getElem?_getD, List.getElem?_eq_getElem (by rw [← HN.out]; exact hlt)]; rfl
      have e2 : S[k]'(by rw [← HL.out, ← HN.out]; exact hlt) = S.getD k 0 := by rw [List.getD_eq_getElem?_getD, List.getElem?_eq_getElem (by rw [← HL.out, ← HN.out]; exact hlt)]; rfl
      rw [e1] at t0 t1 t2
      rw [e2] at hs
      clear e1 e2
      have CF := Lib.hid (fun W => rcutfits_any (C.getD k (0, 0, 0)).1 (C.getD k (0, 0, 0)).2.1 (C.getD k (0, 0, 0)).2.2 (S.getD k 0) W hsb hcb (fitB (C.getD k (0, 0, 0)) (S.getD k 0)) (fitB_iff _ _))
      generalize fitB (C.getD k (0, 0, 0)) (S.getD k 0) = z at *
      generalize C.getD k (0, 0, 0) = x at *
      generalize S.getD k 0 = s at *
      obtain ⟨a, b, d⟩ := x
      simp only at t0 t1 t2 CF
      clear hcb hsb HT
      have ik0 : (0 : Int) ≤ (k : Int) := by omega
      have ik1 : (k : Int) < (n : Int) := by omega
      go_wp2_with fail
      refine wp_region_held_drew (S := fun X => (X.cell? (ad.add (k * 3)) = some (.int .i64 a) ∧ X.cell? ⟨(ad.add (k * 3)).block, (ad.add (k * 3)).off + 1, none⟩ = some (.int .i64 b) ∧ X.cell? ⟨(ad.add (k * 3)).block, (ad.add (k * 3)).off + 2, none⟩ = some (.int .i64 d) ∧ X.cell? (ad'.add k) = some (.int .i64 s)) ∧ Below w.heap.size w X) (by kernel_rfl) ⟨⟨t0, t1, t2, hs⟩, hB.drew⟩ (fun hS => ?_)
      clear t0 t1 t2 hs hB
      refine takeA (i := 0) (v := ?_) rfl (by kernel_rfl) (by kernel_rfl) (by kernel_rfl) (fun _ _ _ h => h) (by rfl) (by assumption) ?_ ?_
      rotate_left
      · intro w hSw; (try dsimp only at hSw); go_simp <;> with_reducible rfl
      try simp only [Act.put, List.setIfInBounds_toArray, List.set_cons_zero, List.set_cons_succ]
      refine takeA (i := 1) (v := ?_) rfl (by kernel_rfl) (by kernel_rfl) (by kernel_rfl) (fun _ _ _ h => h) (by rfl) (by assumption) ?_ ?_
      rotate_left
      · intro w hSw; (try dsimp only at hSw); go_simp <;> with_reducible rfl
      try simp only [Act.put, List.setIfInBounds_toArray, List.set_cons_zero, List.set_cons_succ]
      refine takeA (i := 2) (v := ?_) rfl (by kernel_rfl) (by kernel_rfl) (by kernel_rfl) (fun _ _ _ h => h) (by rfl) (by assumption) ?_ ?_
      rotate_left
      · intro w hSw; (try dsimp only at hSw); go_simp <;> with_reducible rfl
      try simp only [Act.put, List.setIfInBounds_toArray, List.set_cons_zero, List.set_cons_succ]
      refine takeA (i := 3) (v := ?_) rfl (by kernel_rfl) (by kernel_rfl) (by kernel_rfl) (fun _ _ _ h => h) (by rfl) (by assumption) ?_ ?_
      rotate_left
      · intro w hSw; (try dsimp only at hSw); go_simp <;> with_reducible rfl
      try simp only [Act.put, List.setIfInBounds_toArray, List.set_cons_zero, List.set_cons_succ]
      refine takeA (i := 4) (v := ?_) rfl (by kernel_rfl) (by kernel_rfl) (by kernel_rfl) (fun _ _ _ h => h) (by rfl) (by assumption) ?_ ?_
      rotate_left
      · intro w hSw; (try dsimp only at hSw); go_simp <;> with_reducible rfl
      try simp only [Act.put, List.setIfInBounds_toArray, List.set_cons_zero, List.set_cons_succ]
      refine takeA (i := 5) (v := ?_) rfl (by kernel_rfl) (by kernel_rfl) (by kernel_rfl) (fun _ _ _ h => h) (by rfl) (by assumption) ?_ ?_
      rotate_left
      · intro w hSw; (try dsimp only at hSw); go_simp <;> with_reducible rfl
      try simp only [Act.put, List.setIfInBounds_toArray, List.set_cons_zero, List.set_cons_succ]
      refine takeA (i := 6) (v := ?_) rfl (by kernel_rfl) (by kernel_rfl) (by kernel_rfl) (fun _ _ _ h => h) (by rfl) (by assumption) ?_ ?_
      rotate_left
      · intro w hSw; (try dsimp only at hSw); go_simp <;> with_reducible rfl
      try simp only [Act.put, List.setIfInBounds_toArray, List.set_cons_zero, List.set_cons_succ]
      refine takeA (i := 7) (v := ?_) rfl (by kernel_rfl) (by kernel_rfl) (by kernel_rfl) (fun _ _ _ h => h) (by rfl) (by assumption) ?_ ?_
      rotate_left
      · intro w hSw; (try dsimp only at hSw); go_simp <;> with_reducible rfl
      try simp only [Act.put, List.setIfInBounds_toArray, List.set_cons_zero, List.set_cons_succ]
      refine stepA (i := 8) rfl (by kernel_rfl) (fun K0 hK0 => ?_)
      go_simp
      refine (CF.out _).mono ?_
      rintro e w1 ⟨hb1, rfl⟩
      dsimp only
      have c1 := (hb1.mono hS.2.size)
      have f1 := hS.1
      refine hK0.out _ _ ⟨⟨(c1.cell (p := ad.add (k * 3)) (by rw [addr_block]; exact hab)).trans f1.1, (c1.cell (p := ⟨(ad.add (k * 3)).block, (ad.add (k * 3)).off + 1, none⟩) (by show (ad.add (k * 3)).block < _; rw [addr_block]; exact hab)).trans f1.2.1, (c1.cell (p := ⟨(ad.add (k * 3)).block, (ad.add (k * 3)).off + 2, none⟩) (by show (ad.add (k * 3)).block < _; rw [addr_block]; exact hab)).trans f1.2.2.1, (c1.cell (p := ad'.add k) (by rw [addr_block]; exact hab')).trans f1.2.2.2⟩, hS.2.trans c1⟩ (fun hS1 => ?_)
      clear hK0 K0 hS f1 c1 hb1
      try simp only [Act.put, List.setIfInBounds_toArray, List.set_cons_zero, List.set_cons_succ]
      refine takeA (i := 9) (v := ?_) rfl (by kernel_rfl) (by kernel_rfl) (by kernel_rfl) (fun _ _ _ h => h) (by rfl) (by assumption) ?_ ?_
      rotate_left
      · intro w hSw; (try dsimp only at hSw); go_simp <;> with_reducible rfl
      try simp only [Act.put, List.setIfInBounds_toArray, List.set_cons_zero, List.set_cons_succ]
      refine wpAnyH_done (by kernel_rfl) ?_ _
      have hB1 := hS1.2
      clear hS1
      cases z
      · have hqf := HBD.out rfl
        subst hqf
        clear HNX HBD HQ
        go_wp2
        go_ret
        exact ⟨hB1, rfl⟩
      · have HOK := Lib.hid (HNX.out rfl)
        clear HNX HBD
        go_wp2
        go_roundw
        case rel => exact ⟨k + 1, by omega, by go_num, HOK.out, hB1⟩
        case measure => simp [intOf]; omega
    · have hqt : q = true := HQ.out.2 fun j hj => HT.out j (by omega)
      subst hqt
      clear HQ HT
      go_wp2
      go_ret
      exact ⟨hB, rfl⟩

set_option maxRecDepth 100000 in
set_option maxHeartbeats 1600000 in
theorem sameshape_any (S T : List Int) (u v : Value) (w : World) (hS : IsI w w.heap.size u S) (hT : IsI w w.heap.size v T) (hL : S.length ≤ maxLen) (q : Bool) (hq : q = true ↔ S = T) :
    Calls Tryz.prog 76 #[u, v] w fun e w' => Below w.heap.size w w' ∧ e = .returned (.bool q) := by
  have SM := Lib.hid (same_any (S, []) (T, []) (.agg #[u, .slice none 0 0]) (.agg #[v, .slice none 0 0]) w ⟨_, _, rfl, hS, IsT.nil _ _⟩ ⟨_, _, rfl, hT, IsT.nil _ _⟩ hL (Nat.zero_le _) q (by rw [hq]; constructor <;> intro h <;> simp_all))
  obtain ⟨A, c, rfl, -⟩ := hS.form
  obtain ⟨A', c', rfl, -⟩ := hT.form
  clear hq hL hS hT
  go_enter Tryz.func76, Tryz.ntmps76
  go_wp2_with fail
  refine SM.out.mono ?_
  rintro e w1 ⟨hb1, rfl⟩
  go_wp2
  go_ret
  exact ⟨hb1, rfl⟩

set_option maxHeartbeats 800000 in
theorem copied_any (A : Option Addr) (n c : Nat) (l : List Int) (w : World) (hn : l.length = n) (hm : n ≤ 1000000) (h : Rd w w.heap.size A (zints l)) :
    Calls Tryz.prog 77 #[.slice A n c] w fun e w' => Below w.heap.size w w' ∧ ∃ v, e = .returned v ∧ w'.ownsRow w.heap.size 3 1 v n (zints l) := by
  obtain ⟨i0, hi0, hz0, hz1, hz2⟩ := info_parts Tryz.int_info
  have HN := Lib.hid hn
  clear hn
  go_enter Tryz.func77, Tryz.ntmps77
  go_wp2_with (at_builtin; refine wpL_append _ rfl (.tmp 3) (.tmp 4) _ rfl w.heap.size 3 i0 _ 1 8 Tryz.underlying22 hi0 hz0 hz1 hz2 rfl (by omega) _ 0 [] rfl (World.ownsRow_made _ _ 0 (Nat.le_refl _) (by unfold maxLen; omega) rfl) A n c (zints l) rfl (by rw [zints_len, Nat.mul_one]; exact HN.out) (h.alloc (Nat.le_refl _) _) (zints_one _) (by unfold maxLen; omega) (by omega) (by simp) ?_; intro v1 w1 hown1 hg1 hat1)
  go_ret
  refine ⟨below_app ((Below.refl _ _).alloc (Nat.le_refl _) _) hg1 (by simp) (World.ownsRow_made (base := w.heap.size) (e := 3) (size := 1) w #[] 0 (Nat.le_refl _) (by unfold maxLen; omega) rfl) (Nat.le_refl _), v1, rfl, ?_⟩
  simpa using hown1
theorem getD_zint {l : List Int} {k : Nat} (h : k < l.length) : l[k] = l.getD k 0 := by rw [List.getD_eq_getElem?_getD, List.getElem?_eq_getElem h]; rfl

set_option maxRecDepth 100000 in
set_option maxHeartbeats 1600000 in
theorem risindex_any (S I : List Int) (A A' : Option Addr) (c c' B B' : Nat) (w : World) (hr : Rd w B A (zints S)) (hr' : Rd w B' A' (zints I)) (hB : B ≤ w.heap.size) (hB' : B' ≤ w.heap.size) (hL : I.length ≤ maxLen) (q : Bool) (hq : q = true ↔ InI S I) :
    Calls Tryz.prog 82 #[.slice A S.length c, .slice A' I.length c'] w fun e w' => Below w.heap.size w w' ∧ e = .returned (.bool q) := by
  unfold maxLen at hL
  by_cases hlen : I.length = S.length
  rotate_left
  · have hqf : q = false := bool_no hq fun h => hlen h.1
    have hne : ((I.length : Int) != (S.length : Int)) = true := by simp; omega
    subst hqf
    clear hq hlen
    go_enter Tryz.func82, Tryz.ntmps82
    go_wp2
    go_ret
    exact ⟨Below.refl _ _, rfl⟩
  obtain ⟨n, hn⟩ : ∃ n, n = S.length := ⟨_, rfl⟩
  have HQ : Hid (q = true ↔ ∀ j, j < n → 0 ≤ I.getD j 0 ∧ I.getD j 0 < S.getD j 0) := by
    show _ ↔ _
    rw [hq, hn]
    exact ⟨fun h => h.2, fun h => ⟨hlen, h⟩⟩
  rw [hlen, ← hn]
  have HL := Lib.hid hlen
  have HN := Lib.hid hn
  have hn63 : n ≤ 9223372036854775807 := by omega
  clear hq hlen hn hL
  go_enter Tryz.func82, Tryz.ntmps82
  go_wp2_with fail
  go_loopw [5] (fun i wr => ∃ k : Nat, k ≤ n ∧ i = .int .i64 k ∧ Hid (∀ j, j < k → 0 ≤ I.getD j 0 ∧ I.getD j 0 < S.getD j 0) ∧ Below w.heap.size w wr) (fun i _ => n - (intOf i).toNat)
  case atStart => exact ⟨0, Nat.zero_le _, rfl, (fun j hj => absurd hj (Nat.not_lt_zero _)), Below.refl _ _⟩
  case round =>
    obtain ⟨k, hk, rfl, HT, hb⟩ := hrel
    by_cases hlt : k < n
    · obtain ⟨ad, rfl, hab, hs⟩ := (hr.below (hb.mono hB)).zint (j := k) (by rw [← HN.out]; exact hlt)
      obtain ⟨ad', rfl, hab', hi⟩ := (hr'.below (hb.mono hB')).zint (j := k) (by rw [HL.out, ← HN.out]; exact hlt)
      have HNX : Hid (0 ≤ I.getD k 0 ∧ I.getD k 0 < S.getD k 0 → ∀ j, j < k + 1 → 0 ≤ I.getD j 0 ∧ I.getD j 0 < S.getD j 0) := fun h j hj => by
        rcases Nat.lt_or_ge j k with h1 | h1
        · exact HT.out j h1
        · obtain rfl : j = k := by omega
          exact h
      have HBD : Hid (¬ (0 ≤ I.getD k 0 ∧ I.getD k 0 < S.getD k 0) → q = false) := fun h => bool_no HQ.out fun hh => h (hh k hlt)
      rw [getD_zint] at hs hi
      generalize I.getD k 0 = i at *
      generalize S.getD k 0 = s at *
      go_wp2_with fail
      by_cases c1 : i < 0
      · have y1 : decide (i < 0) = true := decide_eq_true c1
        have hqf := HBD.out (by omega)
        subst hqf
        clear HNX HBD
        go_quiet (fail)
        go_wp2
        go_ret
        exact ⟨below_drewN hb _, rfl⟩
      have y1 : decide (i < 0) = false := decide_eq_false c1
      by_cases c2 : s ≤ i
      · have y2 : decide (s ≤ i) = true := decide_eq_true c2
        have hqf := HBD.out (by omega)
        subst hqf
        clear HNX HBD
        go_quiet (fail)
        go_wp2
        go_ret
        exact ⟨below_drewN hb _, rfl⟩
      have y2 : decide (s ≤ i) = false := decide_eq_false c2
      have HOK := Lib.hid (HNX.out ⟨by omega, by omega⟩)
      clear HNX HBD
      go_quiet (fail)
      have hb2 := below_drewN hb nq
      go_wp2
      go_roundw
      case rel => exact ⟨k + 1, by omega, by go_num, HOK.out, hb2⟩
      case measure => simp [intOf]; omega
    · have hqt : q = true := HQ.out.2 fun j hj => HT.out j (by omega)
      subst hqt
      clear HQ HT
      go_wp2
      go_ret
      exact ⟨hb, rfl⟩

set_option maxRecDepth 100000 in
set_option maxHeartbeats 1600000 in
theorem inside_any (S I : List Int) (A A' : Option Addr) (c c' B B' : Nat) (w : World) (hr : Rd w B A (zints S)) (hr' : Rd w B' A' (zints I)) (hL : S.length ≤ maxLen) (q : Bool) (hq : q = true ↔ InI S I) :
    Calls Tryz.prog 80 #[.slice A' I.length c', .slice A S.length c] w fun e w' => w = w' ∧ e = .returned (.bool q) := by
  unfold maxLen at hL
  by_cases hlen : I.length = S.length
  rotate_left
  · have hqf : q = false := bool_no hq fun h => hlen h.1
    have hne : ((I.length : Int) != (S.length : Int)) = true := by simp; omega
    subst hqf
    clear hq hlen
    go_enter Tryz.func80, Tryz.ntmps80
    go_wp2
    go_ret
    exact ⟨rfl, rfl⟩
  obtain ⟨n, hn⟩ : ∃ n, n = S.length := ⟨_, rfl⟩
  have HQ : Hid (q = true ↔ ∀ j, j < n → 0 ≤ I.getD j 0 ∧ I.getD j 0 < S.getD j 0) := by
    show _ ↔ _
    rw [hq, hn]
    exact ⟨fun h => h.2, fun h => ⟨hlen, h⟩⟩
  rw [hlen, ← hn]
  have HL := Lib.hid hlen
  have HN := Lib.hid hn
  have hn63 : n ≤ 9223372036854775807 := by omega
  clear hq hlen hn hL
  go_enter Tryz.func80, Tryz.ntmps80
  go_wp2_with fail
  go_loop [14] (fun i => ∃ k : Nat, k ≤ n ∧ i = .int .i64 k ∧ Hid (∀ j, j < k → 0 ≤ I.getD j 0 ∧ I.getD j 0 < S.getD j 0)) (fun i => n - (intOf i).toNat)
  case atStart => exact ⟨0, Nat.zero_le _, rfl, (fun j hj => absurd hj (Nat.not_lt_zero _))⟩
  case round =>
    obtain ⟨k, hk, rfl, HT⟩ := hrel
    by_cases hlt : k < n
    · obtain ⟨ad, rfl, hab, hs⟩ := hr.zint (j := k) (by rw [← HN.out]; exact hlt)
      obtain ⟨ad', rfl, hab', hi⟩ := hr'.zint (j := k) (by rw [HL.out, ← HN.out]; exact hlt)
      have HNX : Hid (0 ≤ I.getD k 0 ∧ I.getD k 0 < S.getD k 0 → ∀ j, j < k + 1 → 0 ≤ I.getD j 0 ∧ I.getD j 0 < S.getD j 0) := fun h j hj => by
        rcases Nat.lt_or_ge j k with h1 | h1
        · exact HT.out j h1
        · obtain rfl : j = k := by omega
          exact h
      have HBD : Hid (¬ (0 ≤ I.getD k 0 ∧ I.getD k 0 < S.getD k 0) → q = false) := fun h => bool_no HQ.out fun hh => h (hh k hlt)
      rw [getD_zint] at hs hi
      generalize I.getD k 0 = i at *
      generalize S.getD k 0 = s at *
      by_cases c1 : i < 0
      · have hqf := HBD.out (by omega)
        subst hqf
        clear HNX HBD
        go_wp2
        go_ret
        exact ⟨rfl, rfl⟩
      by_cases c2 : s ≤ i
      · have hqf := HBD.out (by omega)
        subst hqf
        clear HNX HBD
        go_wp2
        go_ret
        exact ⟨rfl, rfl⟩
      have HOK := Lib.hid (HNX.out ⟨by omega, by omega⟩)
      clear HNX HBD
      go_wp2
      go_round
      case rel => exact ⟨k + 1, by omega, by go_num, HOK.out⟩
      case measure => simp [intOf]; omega
    · have hqt : q = true := HQ.out.2 fun j hj => HT.out j (by omega)
      subst hqt
      clear HQ HT
      go_wp2
      go_ret
      exact ⟨rfl, rfl⟩

/-- Too large for a statement. -/
def Bigs (S : List Int) : Prop := 10 < S.length ∨ (VS S ∧ 200 < Ix.prod (S.map Int.toNat))
set_option maxRecDepth 100000 in
set_option maxHeartbeats 1600000 in
theorem big_any (S : List Int) (A : Option Addr) (c B : Nat) (w : World) (hr : Rd w B A (zints S)) (hL : S.length ≤ maxLen) (q : Bool) (hq : q = true ↔ Bigs S) :
    Calls Tryz.prog 22 #[.slice A S.length c] w fun e w' => w = w' ∧ e = .returned (.bool q) := by
  obtain ⟨qs, hqs⟩ : ∃ b : Bool, b = true ↔ VS S := by classical exact ⟨decide _, decide_eq_true_iff⟩
  have VS1 := Lib.hid (rvalidshape_any S A c B w hr hL qs hqs)
  have HQ : Hid (q = true ↔ Bigs S) := hq
  have HC := Lib.hid (fun (h : VS S) => rcount_any (S.map Int.toNat) A c B w h.sz (by rw [← h.cells]; exact hr))
  have HP := Lib.hid (fun (h : VS S) => h.sz.prod)
  unfold maxLen at hL
  clear hq hr
  by_cases h10 : 10 < S.length
  · have hqt : q = true := HQ.out.2 (.inl h10)
    subst hqt
    clear HQ HC HP VS1 hqs
    go_enter Tryz.func22, Tryz.ntmps22
    go_wp2
    go_ret
    exact ⟨rfl, rfl⟩
  cases hs : qs
  · have hqf : q = false := bool_no HQ.out fun h => by
      rcases h with h | ⟨h, _⟩
      · exact h10 h
      · rw [hqs.2 h] at hs; cases hs
    subst hqf
    subst hs
    clear HQ HC HP hqs
    go_enter Tryz.func22, Tryz.ntmps22
    go_wp2_with fail
    refine VS1.out.mono ?_
    rintro e w' ⟨rfl, rfl⟩
    go_wp2
    go_ret
    exact ⟨rfl, ret_bool (decide_eq_false (by omega))⟩
  · have hVS := hqs.1 hs
    subst hs
    have CC := HC.out hVS
    rw [List.length_map] at CC
    have CC := Lib.hid CC
    have hp := HP.out hVS
    have HQ2 : Hid (q = decide (200 < Ix.prod (S.map Int.toNat))) := by
      show _ = _
      rw [Bool.eq_iff_iff, HQ.out, decide_eq_true_eq]
      exact ⟨fun h => by rcases h with h | h; exact absurd h h10; exact h.2, fun h => .inr ⟨hVS, h⟩⟩
    generalize Ix.prod (S.map Int.toNat) = p at *
    clear HQ HC HP hqs hVS
    by_cases hp2 : 200 < p
    · have hqt := HQ2.out
      rw [decide_eq_true hp2] at hqt
      subst hqt
      clear HQ2
      go_enter Tryz.func22, Tryz.ntmps22
      go_wp2_with fail
      refine VS1.out.mono ?_
      rintro e w' ⟨rfl, rfl⟩
      go_wp2_with fail
      refine CC.out.mono ?_
      rintro e w' ⟨rfl, rfl⟩
      go_wp2
      go_ret
      exact ⟨rfl, ret_bool (by simp only [Bool.or_eq_true, decide_eq_true_eq]; omega)⟩
    · have hqt := HQ2.out
      rw [decide_eq_false hp2] at hqt
      subst hqt
      clear HQ2
      go_enter Tryz.func22, Tryz.ntmps22
      go_wp2_with fail
      refine VS1.out.mono ?_
      rintro e w' ⟨rfl, rfl⟩
      go_wp2_with fail
      refine CC.out.mono ?_
      rintro e w' ⟨rfl, rfl⟩
      go_wp2
      go_ret
      exact ⟨rfl, ret_bool (by simp only [Bool.or_eq_false_iff, decide_eq_false_iff_not]; omega)⟩
end Go.Proofs.YtgnffedncjjkfaaGreatDoor

namespace Go.Proofs.YtgnffedncjjkfaaGreatDoor
open Go.RowKit Ix Ar

/-- A known block: its number, its element type, its cells. -/
abbrev Bx := Nat × TypeId × Array Value
/-- An array under way, in block ob: its values are a row of the call's own, from block lo on. -/
structure AppAt (w : World) (lo ob : Nat) (ks : List Bx) (sv : Value) (S : List Int) (v : Value) (l : List ByteArray) (W : World) : Prop where
  below : Below w.heap.size w W
  keep : ∀ p ∈ ks, Bk W p.1 p.2.1 p.2.2
  box : Bk W ob 25 #[sv, v]
  own : W.ownsRow lo 9 1 v l.length (strs l)
  shape : IsI W lo sv S
  size : lo ≤ W.heap.size
  ord : w.heap.size ≤ ob ∧ ob < lo ∧ ∀ p ∈ ks, p.1 < lo ∧ p.1 ≠ ob
section
variable {w W W' : World} {lo ob : Nat} {ks : List Bx} {sv : Value} {S : List Int} {v v' : Value} {l : List ByteArray}
theorem AppAt.drew (h : AppAt w lo ob ks sv S v l W) : AppAt w lo ob ks sv S v l W.drew := ⟨h.below.drew, h.keep, h.box, h.own, h.shape, h.size, h.ord⟩
theorem AppAt.next (h : AppAt w lo ob ks sv S v l W) (hb : Below W.heap.size W W') : AppAt w lo ob ks sv S v l W' :=
  ⟨h.below.trans (hb.mono h.below.size), fun p hp => (h.keep p hp).next' hb, h.box.next' hb, h.own.kept (grown_of_below hb none) (by cases v.ownBlock with | none => exact .inl rfl | some g => exact .inr (by simp)), h.shape.below (hb.mono h.size), Nat.le_trans h.size hb.size, h.ord⟩
theorem AppAt.alloc (h : AppAt w lo ob ks sv S v l W) (o : Obj) : AppAt w lo ob ks sv S v l (W.alloc o) := h.next (below_alloc W o)
theorem AppAt.isA (h : AppAt w lo ob ks sv S v l W) : IsA W W.heap.size (.agg #[sv, v]) (S, l) := ⟨_, _, rfl, h.shape.more h.size, IsT.of_own h.own⟩
/-- A text was appended; the list is not stored yet. -/
structure AppMid (w : World) (lo ob : Nat) (ks : List Bx) (sv : Value) (S : List Int) (v v' : Value) (l : List ByteArray) (W : World) : Prop where
  below : Below w.heap.size w W
  keep : ∀ p ∈ ks, Bk W p.1 p.2.1 p.2.2
  box : Bk W ob 25 #[sv, v]
  own : W.ownsRow lo 9 1 v' l.length (strs l)
  shape : IsI W lo sv S
  size : lo ≤ W.heap.size
  ord : w.heap.size ≤ ob ∧ ob < lo ∧ ∀ p ∈ ks, p.1 < lo ∧ p.1 ≠ ob
  form : ∃ A n c, v = .slice A n c
theorem own_formV {w : World} {base : Nat} {e : TypeId} {size n : Nat} {v : Value} {xs : List Value} (h : w.ownsRow base e size v n xs) : ∃ A c, v = .slice A n c := by
  rcases h.2 with ⟨rfl, rfl⟩ | ⟨g, cap, cur, rfl, _⟩
  · exact ⟨none, 0, rfl⟩
  · exact ⟨_, _, rfl⟩
theorem AppAt.app (h : AppAt w lo ob ks sv S v l W) {x : ByteArray} (hown : W'.ownsRow lo 9 1 v' (l.length + 1) (strs l ++ [.string x])) (hg : W.grownBy W' v.ownBlock) : AppMid w lo ob ks sv S v v' (l ++ [x]) W' := by
  have far : ∀ g, v.ownBlock = some g → lo ≤ g := fun g hgv => (h.own.lt g hgv).1
  have ne : ∀ j : Nat, j < lo → some j ≠ v.ownBlock := fun j hj e => by have := far j e.symm; omega
  obtain ⟨o1, o2, o3⟩ := h.ord
  refine ⟨h.below.grown hg h.below.size (fun g e => by have := far g e; omega), fun p hp => (h.keep p hp).grown hg (ne _ (o3 p hp).1), h.box.grown hg (ne _ o2), ?_, ?_, Nat.le_trans h.size hg.size, h.ord, by obtain ⟨A, c, e⟩ := own_formV h.own; exact ⟨A, _, c, e⟩⟩
  · rw [List.length_append, strs_app]; exact hown
  · obtain ⟨A, c, e, h1, h3⟩ := h.shape
    exact ⟨A, c, e, h1, h3.grown hg h.size far⟩
theorem AppMid.facts (h : AppMid w lo ob ks sv S v v' l W) : W.cell? ⟨ob, 0, none⟩ = some sv ∧ W.cell? ⟨ob, 1, none⟩ = some v ∧ W.frozen? ⟨ob, 1, none⟩ = false := ⟨h.box.cell 0, h.box.cell 1, h.box.frozen 1⟩
theorem AppMid.drew (h : AppMid w lo ob ks sv S v v' l W) : AppMid w lo ob ks sv S v v' l W.drew := ⟨h.below.drew, h.keep, h.box, h.own, h.shape, h.size, h.ord, h.form⟩
theorem AppMid.put (h : AppMid w lo ob ks sv S v v' l W) : AppAt w lo ob ks sv S v' l (W.setCell ⟨ob, 1, none⟩ v') := by
  obtain ⟨o1, o2, o3⟩ := h.ord
  refine ⟨h.below.setCell (p := ⟨ob, 1, none⟩) o1 _, fun p hp => (h.keep p hp).far (o3 p hp).2 _, ?_, OwnsRow_far h.own (fun e => by have := (h.own.lt ob e).1; omega) _, ?_, by have := h.size; simpa [World.setCell] using this, h.ord⟩
  · have := h.box.put 1 v'
    simpa using this
  · obtain ⟨A, c, e, h1, h3⟩ := h.shape
    have hc := h.facts.2.1
    obtain ⟨A0, n0, c0, rfl⟩ := h.form
    exact ⟨A, c, e, h1, h3.put_out hc (slice_out _ _ _ _) v'⟩
end
theorem AppAt.start {w W : World} {ob : Nat} {ks : List Bx} {sv : Value} {S : List Int} (hb : Below w.heap.size w W) (hk : ∀ p ∈ ks, Bk W p.1 p.2.1 p.2.2) (hx : Bk W ob 25 #[sv, .slice none 0 0]) (hs : IsI W W.heap.size sv S) (ho : w.heap.size ≤ ob) (hne : ∀ p ∈ ks, p.1 ≠ ob) : AppAt w W.heap.size ob ks sv S (.slice none 0 0) [] W :=
  ⟨hb, hk, hx, World.ownsRow_nil _ _ _ _, hs, Nat.le_refl _, ho, hx.lt, fun p hp => ⟨(hk p hp).lt, hne p hp⟩⟩
theorem map_snoc (f : Nat → ByteArray) (k : Nat) : (List.range (k + 1)).map f = (List.range k).map f ++ [f k] := by rw [List.range_succ, List.map_append]; rfl
theorem map_len (f : Nat → ByteArray) (k : Nat) : ((List.range k).map f).length = k := by rw [List.length_map, List.length_range]

theorem sz_setCell (w : World) (p : Addr) (u : Value) : (w.setCell p u).heap.size = w.heap.size := by simp [World.setCell]
/-- An array is handed back: its two cells are stored in a box. -/
theorem IsA.ret {w : World} {v : Value} {a : Arr} (h : IsA w w.heap.size v a) {g : Nat} {A A' : Option Addr} {n c n' c' : Nat} (h0 : w.cell? ⟨g, 0, none⟩ = some (.slice A n c)) (h1 : w.cell? ⟨g, 1, none⟩ = some (.slice A' n' c')) (x y : Value) : IsA ((w.setCell ⟨g, 0, none⟩ x).setCell ⟨g, 1, none⟩ y) ((w.setCell ⟨g, 0, none⟩ x).setCell ⟨g, 1, none⟩ y).heap.size v a := by
  rw [sz_setCell, sz_setCell]; exact h.put2 h0 h1 x y

/-- Fill's boxes. -/
structure FlB (w : World) (x : Value) (W : World) : Prop where
  below : Below w.heap.size w W
  box : Bk W w.heap.size 9 #[x]
  res : Bk W (w.heap.size + 1) 25 #[.slice none 0 0, .slice none 0 0]
theorem FlB.next {w W W' : World} {x : Value} (h : FlB w x W) (hb : Below W.heap.size W W') : FlB w x W' := ⟨h.below.trans (hb.mono h.below.size), h.box.next' hb, h.res.next' hb⟩
theorem FlB.start (w : World) (x : Value) : FlB w x ((w.alloc (.cells #[x] 9)).alloc (.cells #[.slice none 0 0, .slice none 0 0] 25)) :=
  ⟨(below_alloc w _).alloc (by simp) _, (Bk.new w _ _).alloc _, Bk.new2 w _ _ _⟩

set_option maxHeartbeats 400000 in
theorem fill1_any (v : ByteArray) (b n c : Nat) (A : Option Addr) (w : World) (h : w.cell? ⟨b, 0, none⟩ = some (.string v)) :
    Calls Tryz.prog 83 #[.slice A n c, .pointer (some ⟨b, 0, none⟩)] w fun e w' => Below w.heap.size w w' ∧ e = .returned (.string v) := by
  go_enter Tryz.func83, Tryz.ntmps83
  go_wp2
  go_ret
  exact ⟨Below.refl _ _, rfl⟩

set_option maxRecDepth 100000 in
set_option maxHeartbeats 3200000 in
theorem fill_any (S : List Int) (v : ByteArray) (u : Value) (w : World) (hS : IsI w w.heap.size u S) (hL : S.length ≤ maxLen) (hz : v.size ≤ 4000000) (he : Env w) :
    Calls Tryz.prog 25 #[u, .string v] w fun e w' => Below w.heap.size w w' ∧ ∃ x, e = .returned (.tuple #[x, .int .i64 (fillR S v).2]) ∧ IsA w' w'.heap.size x (fillR S v).1 := by
  obtain ⟨A, c, rfl, hc⟩ := hS.form
  obtain ⟨qs, hqs⟩ : ∃ b : Bool, b = true ↔ VS S := by classical exact ⟨decide _, decide_eq_true_iff⟩
  have VV := Lib.hid (fun W (hW : Below w.heap.size w W) => validshape_any S A c w.heap.size W (hS.rd.below hW) hL qs hqs)
  have VL := Lib.hid (fun W (hW : Below w.heap.size w W) => value_any v W hz (he.next hW) (valB v) (valB_iff v))
  have B0 := FlB.start w (.string v)
  cases hs : qs
  · have hna : ¬ VS S := fun h => by rw [hqs.2 h] at hs; cases hs
    rw [fillR_shape hna]
    subst hs
    clear hqs hna hS hL hz
    go_enter Tryz.func25, Tryz.ntmps25
    go_wp2_with fail
    generalize ((w.alloc (.cells #[.string v] 9)).alloc (.cells #[.slice none 0 0, .slice none 0 0] 25)) = W0 at *
    refine (VV.out W0 B0.below).mono ?_
    rintro e w' ⟨rfl, rfl⟩
    obtain ⟨d0, d1⟩ := bkA B0.res
    have f0 := B0.res.frozen 0
    have f1 := B0.res.frozen 1
    go_wp2
    refine bodyPost_ret (v := .tuple #[.agg #[.slice none 0 0, .slice none 0 0], .int .i64 60]) (by simp [results, Tryz.results25, go_sem, d0, d1]) rfl ?_
    exact ⟨(B0.below.setCell (p := ⟨w.heap.size + 1, 0, none⟩) (by simp) _).setCell (p := ⟨w.heap.size + 1, 1, none⟩) (by simp) _, _, rfl, IsA.zero _ _⟩
  have hVS := hqs.1 hs
  subst hs
  cases hv : valB v
  · have hna : ¬ IsVal v.data.toList := fun h => by rw [(valB_iff v).2 h] at hv; cases hv
    rw [fillR_arg hVS hna]
    rw [hv] at VL
    clear hqs hna hS hL hz hVS hv
    go_enter Tryz.func25, Tryz.ntmps25
    go_wp2_with fail
    generalize ((w.alloc (.cells #[.string v] 9)).alloc (.cells #[.slice none 0 0, .slice none 0 0] 25)) = W0 at *
    refine (VV.out W0 B0.below).mono ?_
    rintro e w' ⟨rfl, rfl⟩
    have s0 : _ = some (Value.string v) := B0.box.cell 0
    go_wp2_with fail
    refine (VL.out W0 B0.below).mono ?_
    rintro e w1 ⟨hb1, rfl⟩
    have B1 := B0.next hb1
    clear s0
    obtain ⟨d0, d1⟩ := bkA B1.res
    have f0 := B1.res.frozen 0
    have f1 := B1.res.frozen 1
    go_wp2
    refine bodyPost_ret (v := .tuple #[.agg #[.slice none 0 0, .slice none 0 0], .int .i64 2]) (by simp [results, Tryz.results25, go_sem, d0, d1]) rfl ?_
    exact ⟨(B1.below.setCell (p := ⟨w.heap.size + 1, 0, none⟩) (by simp) _).setCell (p := ⟨w.heap.size + 1, 1, none⟩) (by simp) _, _, rfl, IsA.zero _ _⟩
  have hya := (valB_iff v).1 hv
  rw [fillR_ok hVS hya]
  obtain ⟨M, hM⟩ : ∃ M, M = List.replicate (Ix.prod (S.map Int.toNat)) v := ⟨_, rfl⟩
  rw [← hM]
  rw [hv] at VL
  have HS := Lib.hid (fun W (hW : Below w.heap.size w W) => (hS.below hW).more hW.size)
  have HM := Lib.hid hM
  have HV := Lib.hid hVS
  clear hqs hS hL hz hv hVS hya hM
  go_enter Tryz.func25, Tryz.ntmps25
  go_wp2_with fail
  generalize ((w.alloc (.cells #[.string v] 9)).alloc (.cells #[.slice none 0 0, .slice none 0 0] 25)) = W0 at *
  refine (VV.out W0 B0.below).mono ?_
  rintro e w' ⟨rfl, rfl⟩
  have s0 : _ = some (Value.string v) := B0.box.cell 0
  go_wp2_with fail
  refine (VL.out W0 B0.below).mono ?_
  rintro e w1 ⟨hb1, rfl⟩
  have B1 := B0.next hb1
  clear s0
  have MK := Lib.hid (made_any S 83 #[.pointer (some ⟨w.heap.size, 0, none⟩)] (enters_of Tryz.func83 (by kernel_rfl) rfl) (fun _ => v) A c w1 HV.out (HS.out w1 B1.below).rd (fun k X W hW hk hX hbX => fill1_any v w.heap.size _ _ _ W ((B1.next hW).box.cell 0)))
  have HCL : Hid ((List.range (Ix.prod (S.map Int.toNat))).map (fun _ => v) = M) := by
    show _ = _
    rw [HM.out, List.map_const', List.length_range]
  go_wp2_with fail
  refine MK.out.mono ?_
  rintro e w6 ⟨hb6, v6, rfl, hv6⟩
  rw [HCL.out] at hv6
  have B6 := B1.next hb6
  clear MK HCL
  obtain ⟨A1, c1, A2, c2, rfl, hc1, hc2⟩ := hv6.form
  obtain ⟨d0, d1⟩ := bkA B6.res
  have f0 := B6.res.frozen 0
  have f1 := B6.res.frozen 1
  go_wp2
  refine bodyPost_ret (v := .tuple #[.agg #[.slice A1 S.length c1, .slice A2 M.length c2], .int .i64 0]) (by simp [results, Tryz.results25, go_sem, d0, d1]) rfl ?_
  exact ⟨(B6.below.setCell (p := ⟨w.heap.size + 1, 0, none⟩) (by simp) _).setCell (p := ⟨w.heap.size + 1, 1, none⟩) (by simp) _, _, rfl, hv6.ret d0 d1 _ _⟩

set_option maxRecDepth 100000 in
set_option maxHeartbeats 3200000 in
theorem rfill_any (S : List Int) (v : ByteArray) (u : Value) (w : World) (hS : IsI w w.heap.size u S) (hL : S.length ≤ maxLen) (hz : v.size ≤ 4000000) :
    Calls Tryz.prog 26 #[u, .string v] w fun e w' => Below w.heap.size w w' ∧ ∃ x, e = .returned (.tuple #[x, .int .i64 (fillR S v).2]) ∧ IsA w' w'.heap.size x (fillR S v).1 := by
  obtain ⟨A, c, rfl, hc⟩ := hS.form
  obtain ⟨i0, hi0, hz0, hz1, hz2⟩ := info_parts Tryz.str_info
  obtain ⟨qs, hqs⟩ : ∃ b : Bool, b = true ↔ VS S := by classical exact ⟨decide _, decide_eq_true_iff⟩
  have VV := Lib.hid (fun W (hW : Below w.heap.size w W) => rvalidshape_any S A c w.heap.size W (hS.rd.below hW) hL qs hqs)
  have VL := Lib.hid (fun W => rvalue_any v W hz (valB v) (valB_iff v))
  have B0 := below_alloc w (.cells #[.slice none 0 0, .slice none 0 0] 25)
  have K0 := Bk.new w 25 #[Value.slice none 0 0, .slice none 0 0]
  cases hs : qs
  · have hna : ¬ VS S := fun h => by rw [hqs.2 h] at hs; cases hs
    rw [fillR_shape hna]
    subst hs
    clear hqs hna hS hL hz
    go_enter Tryz.func26, Tryz.ntmps26
    go_wp2_with fail
    generalize w.alloc (.cells #[.slice none 0 0, .slice none 0 0] 25) = W0 at *
    refine (VV.out W0 B0).mono ?_
    rintro e w' ⟨rfl, rfl⟩
    obtain ⟨d0, d1⟩ := bkA K0
    have f0 := K0.frozen 0
    have f1 := K0.frozen 1
    go_wp2
    refine bodyPost_ret (v := .tuple #[.agg #[.slice none 0 0, .slice none 0 0], .int .i64 60]) (by simp [results, Tryz.results26, go_sem, d0, d1]) rfl ?_
    exact ⟨(B0.setCell (p := ⟨w.heap.size, 0, none⟩) (by simp) _).setCell (p := ⟨w.heap.size, 1, none⟩) (by simp) _, _, rfl, IsA.zero _ _⟩
  have hVS := hqs.1 hs
  subst hs
  cases hv : valB v
  · have hna : ¬ IsVal v.data.toList := fun h => by rw [(valB_iff v).2 h] at hv; cases hv
    rw [fillR_arg hVS hna]
    rw [hv] at VL
    clear hqs hna hS hL hz hVS hv
    go_enter Tryz.func26, Tryz.ntmps26
    go_wp2_with fail
    generalize w.alloc (.cells #[.slice none 0 0, .slice none 0 0] 25) = W0 at *
    refine (VV.out W0 B0).mono ?_
    rintro e w' ⟨rfl, rfl⟩
    go_wp2_with fail
    refine (VL.out W0).mono ?_
    rintro e w1 ⟨hb1, rfl⟩
    have K1 := K0.next' hb1
    have B1 := B0.trans (hb1.mono B0.size)
    obtain ⟨d0, d1⟩ := bkA K1
    have f0 := K1.frozen 0
    have f1 := K1.frozen 1
    go_wp2
    refine bodyPost_ret (v := .tuple #[.agg #[.slice none 0 0, .slice none 0 0], .int .i64 2]) (by simp [results, Tryz.results26, go_sem, d0, d1]) rfl ?_
    exact ⟨(B1.setCell (p := ⟨w.heap.size, 0, none⟩) (by simp) _).setCell (p := ⟨w.heap.size, 1, none⟩) (by simp) _, _, rfl, IsA.zero _ _⟩
  have hya := (valB_iff v).1 hv
  rw [fillR_ok hVS hya]
  rw [hv] at VL
  have HS := Lib.hid (fun W (hW : Below w.heap.size w W) => ((hS.below hW).more hW.size).rd)
  have CC := Lib.hid (fun W (hW : Below w.heap.size w W) => rcount_any (S.map Int.toNat) A c w.heap.size W hVS.sz (by rw [← hVS.cells]; exact hS.rd.below hW))
  rw [List.length_map] at CC
  obtain ⟨N, hN⟩ : ∃ N, N = Ix.prod (S.map Int.toNat) := ⟨_, rfl⟩
  have hN2 : N ≤ 4096 := by rw [hN]; exact hVS.2.2
  have hl4 := hVS.1
  rw [← hN] at CC ⊢
  clear hqs hS hL hz hv hVS hya hN
  go_enter Tryz.func26, Tryz.ntmps26
  go_wp2_with fail
  generalize w.alloc (.cells #[.slice none 0 0, .slice none 0 0] 25) = W0 at *
  refine (VV.out W0 B0).mono ?_
  rintro e w' ⟨rfl, rfl⟩
  go_wp2_with fail
  refine (VL.out W0).mono ?_
  rintro e w1 ⟨hb1, rfl⟩
  have K1 := K0.next' hb1
  have B1 := B0.trans (hb1.mono B0.size)
  clear K0 B0 hb1
  go_wp2_with fail
  refine (copied_any A S.length c S w1 rfl (by omega) (HS.out w1 B1)).mono ?_
  rintro e w2 ⟨hb2, v9, rfl, hown⟩
  have K2 := K1.next' hb2
  have B2 := B1.trans (hb2.mono B1.size)
  have hI := IsI.of_own hown
  obtain ⟨A9, c9, rfl, -⟩ := hI.form
  have hb3 := below_alloc w2 (.cells #[.slice A9 S.length c9, .slice none 0 0] 25)
  have M0 := AppAt.start (w := w) (ob := w2.heap.size) (ks := [(w.heap.size, 25, #[.slice none 0 0, .slice none 0 0])]) (B2.trans (hb3.mono B2.size)) (fun p hp => by simp at hp; subst hp; exact K2.next' hb3) (Bk.new w2 25 #[.slice A9 S.length c9, .slice none 0 0]) (hI.next hb3) B2.size (fun p hp => by simp at hp; subst hp; have := K2.lt; show w.heap.size ≠ w2.heap.size; omega)
  clear hown hI hb3 hb2 K2 B2 K1 B1
  go_wp2_with fail
  generalize w2.alloc (.cells #[.slice A9 S.length c9, .slice none 0 0] 25) = w3 at *
  go_loopw [7] (fun i wr => ∃ (k : Nat) (x : Value), k ≤ N ∧ i = .int .i64 k ∧ AppAt w w3.heap.size w2.heap.size [(w.heap.size, 25, #[.slice none 0 0, .slice none 0 0])] (.slice A9 S.length c9) S x (List.replicate k v) wr) (fun i _ => N - (intOf i).toNat)
  case atStart => exact ⟨0, _, Nat.zero_le _, rfl, M0⟩
  case round =>
    clear M0
    obtain ⟨k, x, hk, rfl, M⟩ := hrel
    go_wp2_with fail
    refine (CC.out wr M.below).mono ?_
    rintro e w' ⟨rfl, rfl⟩
    by_cases hlt : k < N
    · obtain ⟨b0, b1⟩ := bkA M.box
      have MA := M.alloc (.cells #[.string v] 9)
      have hlr : (List.replicate k v).length = k := List.length_replicate
      have hown0 := MA.own
      rw [hlr] at hown0
      clear hlr
      go_wp2_with (at_builtin; go_loud (refine wpL_append _ rfl (.tmp 26) (.tmp 28) _ rfl w3.heap.size 9 i0 _ 1 16 Tryz.underlying23 hi0 hz0 hz1 hz2 rfl (by omega) _ k _ rfl hown0 _ 1 1 [.string v] rfl rfl (Rd.of_new wr [.string v] 9) (strs_one [v]) (by unfold maxLen; omega) (by omega) MA.size ?_; intro v1 w5 hown1 hg1 hat1; obtain ⟨vA, vc, rfl⟩ := own_formV hown1; have MM := MA.app (x := v) (by rw [List.length_replicate]; exact hown1) hg1; obtain ⟨g0, g1, gf⟩ := MM.facts; clear hown1 hg1 hat1 b0 b1 hown0))
      have MP := MM.put
      have e1 : List.replicate k v ++ [v] = List.replicate (k + 1) v := by rw [List.replicate_succ']
      rw [e1] at MP
      go_roundw
      case rel => exact ⟨k + 1, _, by omega, by go_num, MP⟩
      case measure => simp [intOf]; omega
    · obtain rfl : k = N := by omega
      obtain ⟨xA, xc, rfl⟩ := own_formV M.own
      obtain ⟨b0, b1⟩ := bkA M.box
      have KR := M.keep _ (List.mem_singleton.2 rfl)
      obtain ⟨d0, d1⟩ := bkA KR
      have f0 := KR.frozen 0
      have f1 := KR.frozen 1
      have hA := M.isA
      have hb := M.below
      go_wp2
      refine bodyPost_ret (v := .tuple #[.agg #[.slice A9 S.length c9, .slice xA (List.replicate k v).length xc], .int .i64 0]) (by simp [results, Tryz.results26, go_sem, d0, d1]) rfl ?_
      exact ⟨(hb.setCell (p := ⟨w.heap.size, 0, none⟩) (by simp) _).setCell (p := ⟨w.heap.size, 1, none⟩) (by simp) _, _, rfl, hA.ret d0 d1 _ _⟩
end Go.Proofs.YtgnffedncjjkfaaGreatDoor

namespace Go.Proofs.YtgnffedncjjkfaaGreatDoor
open Go.RowKit Ix Ar

/-- The box of an array. -/
structure AtB (w : World) (sv vv : Value) (W : World) : Prop where
  below : Below w.heap.size w W
  arr : Bk W w.heap.size 25 #[sv, vv]
theorem AtB.next {w W W' : World} {sv vv : Value} (h : AtB w sv vv W) (hb : Below W.heap.size W W') : AtB w sv vv W' := ⟨h.below.trans (hb.mono h.below.size), h.arr.next' hb⟩
theorem AtB.start (w : World) (sv vv : Value) : AtB w sv vv (w.alloc (.cells #[sv, vv] 25)) := ⟨below_alloc w _, Bk.new w _ _⟩

set_option maxRecDepth 100000 in
set_option maxHeartbeats 3200000 in
theorem at_any (a : Arr) (I : List Int) (va vi : Value) (w : World) (ha : IsA w w.heap.size va a) (hI : IsI w w.heap.size vi I) (hi : InA a) (he : Env w) :
    Calls Tryz.prog 27 #[va, vi] w fun e w' => Below w.heap.size w w' ∧ e = .returned (.tuple #[.string (atR a I).1, .int .i64 (atR a I).2]) := by
  obtain ⟨A, c, A', c', rfl, hc, hc'⟩ := ha.form
  obtain ⟨Ai, ci, rfl, hci⟩ := hI.form
  have hha := ha
  obtain ⟨hS, hT⟩ := ha.parts
  obtain ⟨S, V⟩ := a
  simp only at hS hT hc hc'
  obtain ⟨qv, hqv⟩ : ∃ b : Bool, b = true ↔ VA (S, V) := by classical exact ⟨decide _, decide_eq_true_iff⟩
  obtain ⟨qf, hqf⟩ : ∃ b : Bool, b = true ↔ InI S I := by classical exact ⟨decide _, decide_eq_true_iff⟩
  have VV := Lib.hid (fun W (hW : Below w.heap.size w W) => valid_any (S, V) (.agg #[.slice A S.length c, .slice A' V.length c']) W (hha.next hW) hi (he.next hW) qv hqv)
  have FF := Lib.hid (fun W (hW : Below w.heap.size w W) => inside_any S I A Ai c ci w.heap.size w.heap.size W (hS.rd.below hW) (hI.rd.below hW) hi.shape qf hqf)
  have B0 := AtB.start w (.slice A S.length c) (.slice A' V.length c')
  cases hv : qv
  · have hna : ¬ VA (S, V) := fun h => by rw [hqv.2 h] at hv; cases hv
    rw [atR_shape hna]
    subst hv
    clear hqv hqf hna ha hha hI hS hT hi
    go_enter Tryz.func27, Tryz.ntmps27
    go_wp2_with fail
    generalize w.alloc (.cells #[.slice A S.length c, .slice A' V.length c'] 25) = W0 at *
    refine (VV.out W0 B0.below).mono ?_
    rintro e w1 ⟨hb1, rfl⟩
    have B1 := B0.next hb1
    go_wp2
    go_ret2
    exact ⟨B1.below, rfl⟩
  have hva := hqv.1 hv
  subst hv
  cases hf : qf
  · have hnf : ¬ InI S I := fun h => by rw [hqf.2 h] at hf; cases hf
    rw [atR_slab hva hnf]
    subst hf
    clear hqv hqf hnf hva ha hha hI hS hT hi
    go_enter Tryz.func27, Tryz.ntmps27
    go_wp2_with fail
    generalize w.alloc (.cells #[.slice A S.length c, .slice A' V.length c'] 25) = W0 at *
    refine (VV.out W0 B0.below).mono ?_
    rintro e w1 ⟨hb1, rfl⟩
    have B1 := B0.next hb1
    obtain ⟨b0, b1⟩ := bkA B1.arr
    go_wp2_with fail
    refine (FF.out w1 B1.below).mono ?_
    rintro e w' ⟨rfl, rfl⟩
    go_wp2
    go_ret2
    exact ⟨B1.below, rfl⟩
  have hF := hqf.1 hf
  subst hf
  rw [atR_ok hva hF]
  have hVS : VS S := hva.1
  have hl : V.length = Ix.prod (S.map Int.toNat) := hva.2.1
  have hin := hF.nats
  have hpl := place_lt _ _ hin
  have hnI : zints I = ints .i64 (I.map Int.toNat) := zints_nats hF.pos
  have hlI : I.length = S.length := hF.1
  have ST := Lib.hid (fun W (hW : Below w.heap.size w W) => strides_any (S.map Int.toNat) A c W hVS.sz (by rw [← hVS.cells]; exact ((hS.below hW).more hW.size).rd))
  rw [List.length_map] at ST
  have hdot := dot_eq (S.map Int.toNat) (I.map Int.toNat) (by rw [List.length_map, List.length_map]; exact hlI)
  have hp4 := hVS.2.2
  have hrI := hI.rd
  rw [hnI] at hrI
  have PL := Lib.hid (fun (W : World) (gw B : Nat) (hW : Below w.heap.size w W) (h4 : Rd W B (some ⟨gw, 0, none⟩) (ints .i64 (strides (S.map Int.toNat)))) =>
    place_any (I.map Int.toNat) (strides (S.map Int.toNat)) Ai (some ⟨gw, 0, none⟩) ci S.length w.heap.size B W (by rw [strides_len, List.length_map, List.length_map]; exact hlI) (by rw [List.length_map, hlI]; exact hVS.1) (by rw [hdot]; omega) (hrI.below hW) h4)
  rw [hdot, strides_len, List.length_map, List.length_map] at PL
  obtain ⟨m, hm⟩ : ∃ m, m = place (S.map Int.toNat) (I.map Int.toNat) := ⟨_, rfl⟩
  rw [← hm] at PL hpl ⊢
  have hmV : m < V.length := by rw [hl]; exact hpl
  obtain ⟨ad, rfl, hadb, hcv⟩ := hT.rd.str hmV
  have hgv : V.getD m ⟨#[]⟩ = V[m] := by rw [List.getD_eq_getElem?_getD, List.getElem?_eq_getElem hmV]; rfl
  rw [hgv]
  generalize V[m] = x at *
  have i1 : (0 : Int) ≤ (m : Int) := by omega
  have i2 : (m : Int) < (V.length : Int) := by omega
  clear hqv hqf hva hF ha hha hI hS hT hi hVS hl hin hpl hnI hlI hdot hp4 hrI hm hmV hgv
  go_enter Tryz.func27, Tryz.ntmps27
  go_wp2_with fail
  generalize w.alloc (.cells #[.slice A S.length c, .slice (some ad) V.length c'] 25) = W0 at *
  refine (VV.out W0 B0.below).mono ?_
  rintro e w1 ⟨hb1, rfl⟩
  have B1 := B0.next hb1
  obtain ⟨b0, b1⟩ := bkA B1.arr
  go_wp2_with fail
  refine (FF.out w1 B1.below).mono ?_
  rintro e w' ⟨rfl, rfl⟩
  go_wp2_with fail
  have hcv1 : w1.cell? (ad.add m) = some (.string x) := (B1.below.cell (p := ad.add m) (by rw [addr_block]; exact hadb)).trans hcv
  refine wp_region_held_drew (S := fun Y => ((Y.cell? ⟨w.heap.size, 0, none⟩ = some (.slice A S.length c) ∧ Y.cell? ⟨w.heap.size, 1, none⟩ = some (.slice (some ad) V.length c')) ∧ Y.cell? (ad.add m) = some (.string x)) ∧ Below w.heap.size w Y) (by kernel_rfl) ⟨⟨⟨b0, b1⟩, hcv1⟩, B1.below.drew⟩ (fun hS => ?_)
  refine takeA (i := 0) (v := ?_) rfl (by kernel_rfl) (by kernel_rfl) (by kernel_rfl) (fun _ _ _ h => h) (by rfl) (by assumption) ?_ ?_
  rotate_left
  · intro w hSw; (try dsimp only at hSw); go_simp <;> with_reducible rfl
  try simp only [Act.put, List.setIfInBounds_toArray, List.set_cons_zero, List.set_cons_succ]
  refine takeA (i := 1) (v := ?_) rfl (by kernel_rfl) (by kernel_rfl) (by kernel_rfl) (fun _ _ _ h => h) (by rfl) (by assumption) ?_ ?_
  rotate_left
  · intro w hSw; (try dsimp only at hSw); go_simp <;> with_reducible rfl
  try simp only [Act.put, List.setIfInBounds_toArray, List.set_cons_zero, List.set_cons_succ]
  refine takeA (i := 2) (v := ?_) rfl (by kernel_rfl) (by kernel_rfl) (by kernel_rfl) (fun _ _ _ h => h) (by rfl) (by assumption) ?_ ?_
  rotate_left
  · intro w hSw; (try dsimp only at hSw); go_simp <;> with_reducible rfl
  try simp only [Act.put, List.setIfInBounds_toArray, List.set_cons_zero, List.set_cons_succ]
  refine takeA (i := 3) (v := ?_) rfl (by kernel_rfl) (by kernel_rfl) (by kernel_rfl) (fun _ _ _ h => h) (by rfl) (by assumption) ?_ ?_
  rotate_left
  · intro w hSw; (try dsimp only at hSw); go_simp <;> with_reducible rfl
  try simp only [Act.put, List.setIfInBounds_toArray, List.set_cons_zero, List.set_cons_succ]
  refine takeA (i := 4) (v := ?_) rfl (by kernel_rfl) (by kernel_rfl) (by kernel_rfl) (fun _ _ _ h => h) (by rfl) (by assumption) ?_ ?_
  rotate_left
  · intro w hSw; (try dsimp only at hSw); go_simp <;> with_reducible rfl
  try simp only [Act.put, List.setIfInBounds_toArray, List.set_cons_zero, List.set_cons_succ]
  have B2 : AtB w (.slice A S.length c) (.slice (some ad) V.length c') w1.drew := ⟨B1.below.drew, B1.arr⟩
  refine stepA (i := 5) rfl (by kernel_rfl) (fun K0 hK0 => ?_)
  go_simp
  refine (ST.out _ hS.2).mono ?_
  rintro e w3 ⟨hb3, rfl, hg3⟩
  dsimp only
  have B3 := B2.next hb3
  have hcv3 : w3.cell? (ad.add m) = some (.string x) := (B3.below.cell (p := ad.add m) (by rw [addr_block]; exact hadb)).trans hcv
  refine hK0.out _ _ ⟨⟨bkA B3.arr, hcv3⟩, B3.below⟩ (fun hS1 => ?_)
  clear hK0 K0 hS
  try simp only [Act.put, List.setIfInBounds_toArray, List.set_cons_zero, List.set_cons_succ]
  have PL2 := Lib.hid (PL.out w3 w1.drew.heap.size w3.heap.size B3.below (by simpa using hg3.rd))
  refine stepA (i := 6) rfl (by kernel_rfl) (fun K0 hK0 => ?_)
  go_simp
  refine PL2.out.mono ?_
  rintro e w' ⟨rfl, rfl⟩
  dsimp only
  refine hK0.out _ _ hS1 (fun hS => ?_)
  clear hK0 K0 hS1
  try simp only [Act.put, List.setIfInBounds_toArray, List.set_cons_zero, List.set_cons_succ]
  refine takeA (i := 7) (v := ?_) rfl (by kernel_rfl) (by kernel_rfl) (by kernel_rfl) (fun _ _ _ h => h) (by rfl) (by assumption) ?_ ?_
  rotate_left
  · intro w hSw; (try dsimp only at hSw); go_simp <;> with_reducible rfl
  try simp only [Act.put, List.setIfInBounds_toArray, List.set_cons_zero, List.set_cons_succ]
  refine takeA (i := 8) (v := ?_) rfl (by kernel_rfl) (by kernel_rfl) (by kernel_rfl) (fun _ _ _ h => h) (by rfl) (by assumption) ?_ ?_
  rotate_left
  · intro w hSw; (try dsimp only at hSw); go_simp <;> with_reducible rfl
  try simp only [Act.put, List.setIfInBounds_toArray, List.set_cons_zero, List.set_cons_succ]
  refine takeA (i := 9) (v := ?_) rfl (by kernel_rfl) (by kernel_rfl) (by kernel_rfl) (fun _ _ _ h => h) (by rfl) (by assumption) ?_ ?_
  rotate_left
  · intro w hSw; (try dsimp only at hSw); go_simp <;> with_reducible rfl
  try simp only [Act.put, List.setIfInBounds_toArray, List.set_cons_zero, List.set_cons_succ]
  refine takeA (i := 10) (v := ?_) rfl (by kernel_rfl) (by kernel_rfl) (by kernel_rfl) (fun _ _ _ h => h) (by rfl) (by assumption) ?_ ?_
  rotate_left
  · intro w hSw; (try dsimp only at hSw); go_simp <;> with_reducible rfl
  try simp only [Act.put, List.setIfInBounds_toArray, List.set_cons_zero, List.set_cons_succ]
  refine wpAnyH_done (by kernel_rfl) ?_ _
  go_wp2
  go_ret2
  exact ⟨hS.2, rfl⟩

set_option maxRecDepth 100000 in
set_option maxHeartbeats 3200000 in
theorem rat_any (a : Arr) (I : List Int) (va vi : Value) (w : World) (ha : IsA w w.heap.size va a) (hI : IsI w w.heap.size vi I) (hi : InA a) (hL : I.length ≤ maxLen) :
    Calls Tryz.prog 28 #[va, vi] w fun e w' => Below w.heap.size w w' ∧ e = .returned (.tuple #[.string (atR a I).1, .int .i64 (atR a I).2]) := by
  obtain ⟨A, c, A', c', rfl, hc, hc'⟩ := ha.form
  obtain ⟨Ai, ci, rfl, hci⟩ := hI.form
  have hha := ha
  obtain ⟨hS, hT⟩ := ha.parts
  obtain ⟨S, V⟩ := a
  simp only at hS hT hc hc'
  obtain ⟨qv, hqv⟩ : ∃ b : Bool, b = true ↔ VA (S, V) := by classical exact ⟨decide _, decide_eq_true_iff⟩
  obtain ⟨qf, hqf⟩ : ∃ b : Bool, b = true ↔ InI S I := by classical exact ⟨decide _, decide_eq_true_iff⟩
  have VV := Lib.hid (fun W (hW : Below w.heap.size w W) => rarr_any (S, V) (.agg #[.slice A S.length c, .slice A' V.length c']) W (hha.next hW) hi qv hqv)
  have FF := Lib.hid (fun W (hW : Below w.heap.size w W) => risindex_any S I A Ai c ci w.heap.size w.heap.size W (hS.rd.below hW) (hI.rd.below hW) hW.size hW.size hL qf hqf)
  have B0 := AtB.start w (.slice A S.length c) (.slice A' V.length c')
  cases hv : qv
  · have hna : ¬ VA (S, V) := fun h => by rw [hqv.2 h] at hv; cases hv
    rw [atR_shape hna]
    subst hv
    clear hqv hqf hna ha hha hI hS hT hi hL
    go_enter Tryz.func28, Tryz.ntmps28
    go_wp2_with fail
    generalize w.alloc (.cells #[.slice A S.length c, .slice A' V.length c'] 25) = W0 at *
    refine (VV.out W0 B0.below).mono ?_
    rintro e w1 ⟨hb1, rfl⟩
    have B1 := B0.next hb1
    go_wp2
    go_ret2
    exact ⟨B1.below, rfl⟩
  have hva := hqv.1 hv
  subst hv
  cases hf : qf
  · have hnf : ¬ InI S I := fun h => by rw [hqf.2 h] at hf; cases hf
    rw [atR_slab hva hnf]
    subst hf
    clear hqv hqf hnf hva ha hha hI hS hT hi hL
    go_enter Tryz.func28, Tryz.ntmps28
    go_wp2_with fail
    generalize w.alloc (.cells #[.slice A S.length c, .slice A' V.length c'] 25) = W0 at *
    refine (VV.out W0 B0.below).mono ?_
    rintro e w1 ⟨hb1, rfl⟩
    have B1 := B0.next hb1
    obtain ⟨b0, b1⟩ := bkA B1.arr
    go_wp2_with fail
    refine (FF.out w1 B1.below).mono ?_
    rintro e w2 ⟨hb2, rfl⟩
    have B2 := B1.next hb2
    go_wp2
    go_ret2
    exact ⟨B2.below, rfl⟩
  have hF := hqf.1 hf
  subst hf
  rw [atR_ok hva hF]
  have hVS : VS S := hva.1
  have hl : V.length = Ix.prod (S.map Int.toNat) := hva.2.1
  have hin := hF.nats
  have hpl := place_lt _ _ hin
  have hnI : zints I = ints .i64 (I.map Int.toNat) := zints_nats hF.pos
  have hlI : I.length = S.length := hF.1
  have hp4 := hVS.2.2
  have hrI := hI.rd
  rw [hnI] at hrI
  have PL := Lib.hid (fun (W : World) (hW : Below w.heap.size w W) =>
    rplace_any (S.map Int.toNat) (I.map Int.toNat) A Ai c ci w.heap.size w.heap.size W hVS.sz hin (by rw [← hVS.cells]; exact hS.rd.below hW) (hrI.below hW) hW.size hW.size)
  rw [List.length_map] at PL
  obtain ⟨m, hm⟩ : ∃ m, m = place (S.map Int.toNat) (I.map Int.toNat) := ⟨_, rfl⟩
  rw [← hm] at PL hpl ⊢
  have hmV : m < V.length := by rw [hl]; exact hpl
  obtain ⟨ad, rfl, hadb, hcv⟩ := hT.rd.str hmV
  have hgv : V.getD m ⟨#[]⟩ = V[m] := by rw [List.getD_eq_getElem?_getD, List.getElem?_eq_getElem hmV]; rfl
  rw [hgv]
  generalize V[m] = x at *
  rw [hlI] at FF ⊢
  have i1 : (0 : Int) ≤ (m : Int) := by omega
  have i2 : (m : Int) < (V.length : Int) := by omega
  clear hqv hqf hva hF ha hha hI hS hT hi hL hVS hl hin hpl hnI hlI hp4 hrI hm hmV hgv
  go_enter Tryz.func28, Tryz.ntmps28
  go_wp2_with fail
  generalize w.alloc (.cells #[.slice A S.length c, .slice (some ad) V.length c'] 25) = W0 at *
  refine (VV.out W0 B0.below).mono ?_
  rintro e w1 ⟨hb1, rfl⟩
  have B1 := B0.next hb1
  obtain ⟨b0, b1⟩ := bkA B1.arr
  go_wp2_with fail
  refine (FF.out w1 B1.below).mono ?_
  rintro e w2 ⟨hb2, rfl⟩
  have B2 := B1.next hb2
  clear b0 b1
  obtain ⟨b0, b1⟩ := bkA B2.arr
  go_wp2_with fail
  have hcv1 : w2.cell? (ad.add m) = some (.string x) := (B2.below.cell (p := ad.add m) (by rw [addr_block]; exact hadb)).trans hcv
  refine wp_region_held_drew (S := fun Y => ((Y.cell? ⟨w.heap.size, 0, none⟩ = some (.slice A S.length c) ∧ Y.cell? ⟨w.heap.size, 1, none⟩ = some (.slice (some ad) V.length c')) ∧ Y.cell? (ad.add m) = some (.string x)) ∧ Below w.heap.size w Y) (by kernel_rfl) ⟨⟨⟨b0, b1⟩, hcv1⟩, B2.below.drew⟩ (fun hS => ?_)
  refine takeA (i := 0) (v := ?_) rfl (by kernel_rfl) (by kernel_rfl) (by kernel_rfl) (fun _ _ _ h => h) (by rfl) (by assumption) ?_ ?_
  rotate_left
  · intro w hSw; (try dsimp only at hSw); go_simp <;> with_reducible rfl
  try simp only [Act.put, List.setIfInBounds_toArray, List.set_cons_zero, List.set_cons_succ]
  refine takeA (i := 1) (v := ?_) rfl (by kernel_rfl) (by kernel_rfl) (by kernel_rfl) (fun _ _ _ h => h) (by rfl) (by assumption) ?_ ?_
  rotate_left
  · intro w hSw; (try dsimp only at hSw); go_simp <;> with_reducible rfl
  try simp only [Act.put, List.setIfInBounds_toArray, List.set_cons_zero, List.set_cons_succ]
  refine takeA (i := 2) (v := ?_) rfl (by kernel_rfl) (by kernel_rfl) (by kernel_rfl) (fun _ _ _ h => h) (by rfl) (by assumption) ?_ ?_
  rotate_left
  · intro w hSw; (try dsimp only at hSw); go_simp <;> with_reducible rfl
  try simp only [Act.put, List.setIfInBounds_toArray, List.set_cons_zero, List.set_cons_succ]
  refine takeA (i := 3) (v := ?_) rfl (by kernel_rfl) (by kernel_rfl) (by kernel_rfl) (fun _ _ _ h => h) (by rfl) (by assumption) ?_ ?_
  rotate_left
  · intro w hSw; (try dsimp only at hSw); go_simp <;> with_reducible rfl
  try simp only [Act.put, List.setIfInBounds_toArray, List.set_cons_zero, List.set_cons_succ]
  refine takeA (i := 4) (v := ?_) rfl (by kernel_rfl) (by kernel_rfl) (by kernel_rfl) (fun _ _ _ h => h) (by rfl) (by assumption) ?_ ?_
  rotate_left
  · intro w hSw; (try dsimp only at hSw); go_simp <;> with_reducible rfl
  try simp only [Act.put, List.setIfInBounds_toArray, List.set_cons_zero, List.set_cons_succ]
  have B3 : AtB w (.slice A S.length c) (.slice (some ad) V.length c') w2.drew := ⟨B2.below.drew, B2.arr⟩
  refine stepA (i := 5) rfl (by kernel_rfl) (fun K0 hK0 => ?_)
  go_simp
  refine (PL.out _ hS.2).mono ?_
  rintro e w3 ⟨hb3, rfl⟩
  dsimp only
  have B4 := B3.next hb3
  have hcv3 : w3.cell? (ad.add m) = some (.string x) := (B4.below.cell (p := ad.add m) (by rw [addr_block]; exact hadb)).trans hcv
  refine hK0.out _ _ ⟨⟨bkA B4.arr, hcv3⟩, B4.below⟩ (fun hS1 => ?_)
  clear hK0 K0 hS
  try simp only [Act.put, List.setIfInBounds_toArray, List.set_cons_zero, List.set_cons_succ]
  refine takeA (i := 6) (v := ?_) rfl (by kernel_rfl) (by kernel_rfl) (by kernel_rfl) (fun _ _ _ h => h) (by rfl) (by assumption) ?_ ?_
  rotate_left
  · intro w hSw; (try dsimp only at hSw); go_simp <;> with_reducible rfl
  try simp only [Act.put, List.setIfInBounds_toArray, List.set_cons_zero, List.set_cons_succ]
  refine takeA (i := 7) (v := ?_) rfl (by kernel_rfl) (by kernel_rfl) (by kernel_rfl) (fun _ _ _ h => h) (by rfl) (by assumption) ?_ ?_
  rotate_left
  · intro w hSw; (try dsimp only at hSw); go_simp <;> with_reducible rfl
  try simp only [Act.put, List.setIfInBounds_toArray, List.set_cons_zero, List.set_cons_succ]
  refine takeA (i := 8) (v := ?_) rfl (by kernel_rfl) (by kernel_rfl) (by kernel_rfl) (fun _ _ _ h => h) (by rfl) (by assumption) ?_ ?_
  rotate_left
  · intro w hSw; (try dsimp only at hSw); go_simp <;> with_reducible rfl
  try simp only [Act.put, List.setIfInBounds_toArray, List.set_cons_zero, List.set_cons_succ]
  refine takeA (i := 9) (v := ?_) rfl (by kernel_rfl) (by kernel_rfl) (by kernel_rfl) (fun _ _ _ h => h) (by rfl) (by assumption) ?_ ?_
  rotate_left
  · intro w hSw; (try dsimp only at hSw); go_simp <;> with_reducible rfl
  try simp only [Act.put, List.setIfInBounds_toArray, List.set_cons_zero, List.set_cons_succ]
  refine wpAnyH_done (by kernel_rfl) ?_ _
  go_wp2
  go_ret2
  exact ⟨hS1.2, rfl⟩
end Go.Proofs.YtgnffedncjjkfaaGreatDoor

namespace Go.Proofs.YtgnffedncjjkfaaGreatDoor
open Go.RowKit Ix Ar

/-- Known blocks. -/
structure BxW (w : World) (ks : List Bx) (W : World) : Prop where
  below : Below w.heap.size w W
  keep : ∀ p ∈ ks, Bk W p.1 p.2.1 p.2.2
section
variable {w W W' : World} {ks : List Bx}
theorem BxW.nil (w : World) : BxW w [] w := ⟨Below.refl _ _, fun p hp => by cases hp⟩
theorem BxW.next (h : BxW w ks W) (hb : Below W.heap.size W W') : BxW w ks W' := ⟨h.below.trans (hb.mono h.below.size), fun p hp => (h.keep p hp).next' hb⟩
theorem BxW.drew (h : BxW w ks W) : BxW w ks W.drew := ⟨h.below.drew, h.keep⟩
theorem BxW.new (h : BxW w ks W) (t : TypeId) (cs : Array Value) : BxW w (ks ++ [(W.heap.size, t, cs)]) (W.alloc (.cells cs t)) := ⟨h.below.alloc h.below.size _, fun p hp => by
  rcases List.mem_append.1 hp with h1 | h1
  · exact (h.keep p h1).alloc _
  · simp at h1; subst h1; exact Bk.new _ _ _⟩
theorem BxW.start2 (w : World) (t1 t2 : TypeId) (c1 c2 : Array Value) : BxW w [(w.heap.size, t1, c1), (w.heap.size + 1, t2, c2)] ((w.alloc (.cells c1 t1)).alloc (.cells c2 t2)) := by
  have h := ((BxW.nil w).new t1 c1).new t2 c2
  simpa using h
theorem BxW.start3 (w : World) (t1 t2 t3 : TypeId) (c1 c2 c3 : Array Value) : BxW w [(w.heap.size, t1, c1), (w.heap.size + 1, t2, c2), (w.heap.size + 2, t3, c3)] (((w.alloc (.cells c1 t1)).alloc (.cells c2 t2)).alloc (.cells c3 t3)) := by
  have h := (((BxW.nil w).new t1 c1).new t2 c2).new t3 c3
  simpa using h
theorem BxW.start4 (w : World) (t1 t2 t3 t4 : TypeId) (c1 c2 c3 c4 : Array Value) : BxW w [(w.heap.size, t1, c1), (w.heap.size + 1, t2, c2), (w.heap.size + 2, t3, c3), (w.heap.size + 3, t4, c4)] ((((w.alloc (.cells c1 t1)).alloc (.cells c2 t2)).alloc (.cells c3 t3)).alloc (.cells c4 t4)) := by
  have h := ((((BxW.nil w).new t1 c1).new t2 c2).new t3 c3).new t4 c4
  simpa using h
theorem BxW.one {p : Bx} (h : BxW w (p :: ks) W) : Bk W p.1 p.2.1 p.2.2 := h.keep _ List.mem_cons_self
theorem BxW.two {p q : Bx} (h : BxW w (p :: q :: ks) W) : Bk W q.1 q.2.1 q.2.2 := h.keep _ (by simp)
theorem BxW.three {p q r : Bx} (h : BxW w (p :: q :: r :: ks) W) : Bk W r.1 r.2.1 r.2.2 := h.keep _ (by simp)
theorem BxW.four {p q r s : Bx} (h : BxW w (p :: q :: r :: s :: ks) W) : Bk W s.1 s.2.1 s.2.2 := h.keep _ (by simp)
theorem BxW.five {p q r s t : Bx} (h : BxW w (p :: q :: r :: s :: t :: ks) W) : Bk W t.1 t.2.1 t.2.2 := h.keep _ (by simp)
end
end Go.Proofs.YtgnffedncjjkfaaGreatDoor
