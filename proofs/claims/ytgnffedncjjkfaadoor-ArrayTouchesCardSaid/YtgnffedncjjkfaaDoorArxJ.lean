/-
  Walks: package arrayarchiveref06: Count, ValidShape.
  Walks: package arrayarchiveref06: Place.
  Walks: package arrayarchiveref06: through.
  Walks: package arrayarchiveref06: Counts.
  Walks: package arrayarchiveref06: Index.
-/
import Derived.Test.YtgnffedncjjkfaaDoorArxA
namespace Go.Proofs.YtgnffedncjjkfaaDoor
open Go.RowKit Ix Ar

set_option maxRecDepth 100000 in
set_option maxHeartbeats 1600000 in
theorem rcount_any (S : List Nat) (A : Option Addr) (c B : Nat) (w : World) (hS : Sz4 S) (hr : Rd w B A (ints .i64 S)) :
    Calls Tryd.prog 12 #[.slice A S.length c] w fun e w' => w = w' ∧ e = .returned (.int .i64 (Ix.prod S : Nat)) := by
  have hl4 := hS.len
  go_enter Tryd.func12, Tryd.ntmps12
  go_wp2_with fail
  go_loop [3, 4] (fun n i => ∃ k : Nat, k ≤ S.length ∧ i = .int .i64 k ∧ n = .int .i64 (Ix.prod (S.take k) : Nat)) (fun _ i => S.length - (intOf i).toNat)
  case atStart => exact ⟨0, Nat.zero_le _, rfl, rfl⟩
  case round =>
    obtain ⟨k, hk, rfl, rfl⟩ := hrel
    by_cases hlt : k < S.length
    · obtain ⟨ad, rfl, hab, hcell⟩ := hr.int hlt
      have hs := hS.le _ (getD_mem hlt)
      have hp := (hS.take k).prod
      have hp2 := (hS.take (k + 1)).prod
      have HP : Hid (Ix.prod (S.take (k + 1)) = Ix.prod (S.take k) * S.getD k 0) := prod_take hlt
      rw [HP.out] at hp2
      generalize Ix.prod (S.take k) = p at *
      generalize S.getD k 0 = s at *
      obtain ⟨q, hq⟩ : ∃ q : Nat, q = p * s := ⟨_, rfl⟩
      have ww : IntKind.i64.wrap ((p : Int) * (s : Int)) = (q : Int) := by
        rw [show (p : Int) * (s : Int) = (q : Int) by rw [hq]; push_cast; rfl]
        exact IntWalk.i64_in _ (by omega)
      have HQ := Lib.hid (HP.out.trans hq.symm)
      clear HP hq hp2
      go_wp2
      go_round
      case rel => exact ⟨k + 1, by omega, by go_num, by rw [HQ.out]⟩
      case measure => simp [intOf]; omega
    · have hkl : k = S.length := by omega
      subst hkl
      go_wp2
      go_ret
      exact ⟨rfl, rfl⟩

set_option maxRecDepth 100000 in
set_option maxHeartbeats 1600000 in
theorem rvalidshape_any (S : List Int) (A : Option Addr) (c B : Nat) (w : World) (hr : Rd w B A (zints S)) (hL : S.length ≤ maxLen) (q : Bool) (hq : q = true ↔ VS S) :
    Calls Tryd.prog 11 #[.slice A S.length c] w fun e w' => w = w' ∧ e = .returned (.bool q) := by
  unfold maxLen at hL
  have HQ := Lib.hid hq
  clear hq
  by_cases h4 : 4 < S.length
  · have hqf : q = false := by
      cases hh : q with
      | false => rfl
      | true => have := (HQ.out.1 hh).1; omega
    subst hqf
    go_enter Tryd.func11, Tryd.ntmps11
    go_wp2
    go_ret
    exact ⟨rfl, rfl⟩
  go_enter Tryd.func11, Tryd.ntmps11
  go_wp2_with fail
  go_loop [3] (fun i => ∃ k : Nat, k ≤ S.length ∧ i = .int .i64 k ∧ Hid (∀ s ∈ S.take k, 0 ≤ s ∧ s ≤ 1024)) (fun i => S.length - (intOf i).toNat)
  case atStart => exact ⟨0, Nat.zero_le _, rfl, (fun s hs => by simp at hs)⟩
  case round =>
    obtain ⟨k, hk, rfl, HT⟩ := hrel
    by_cases hlt : k < S.length
    · obtain ⟨ad, rfl, hab, hcell⟩ := hr.zint hlt
      have hmem : S[k] ∈ S := List.getElem_mem _
      have HN : Hid (0 ≤ S[k] ∧ S[k] ≤ 1024 → ∀ s ∈ S.take (k + 1), 0 ≤ s ∧ s ≤ 1024) := fun h s hs => by
        rw [take_snocI hlt] at hs
        rcases List.mem_append.1 hs with h1 | h1
        · exact HT.out s h1
        · simp at h1; subst h1; exact h
      have HB : Hid (¬ (0 ≤ S[k] ∧ S[k] ≤ 1024) → q = false) := fun h => by
        cases hh : q with
        | false => rfl
        | true => exact absurd ((HQ.out.1 hh).2.1 _ hmem) h
      clear hmem
      generalize S[k] = s at *
      by_cases h0 : s < 0
      · have hqf := HB.out (by omega)
        subst hqf
        clear HN HB
        go_wp2
        go_ret
        exact ⟨rfl, rfl⟩
      by_cases h1 : 1024 < s
      · have hqf := HB.out (by omega)
        subst hqf
        clear HN HB
        go_wp2
        go_ret
        exact ⟨rfl, rfl⟩
      have HN2 := Lib.hid (HN.out ⟨by omega, by omega⟩)
      clear HN HB
      go_wp2
      go_round
      case rel => exact ⟨k + 1, by omega, by go_num, HN2.out⟩
      case measure => simp [intOf]; omega
    · have hall : ∀ s ∈ S, 0 ≤ s ∧ s ≤ 1024 := by have := HT.out; rwa [List.take_of_length_le (by omega)] at this
      have hz : Sz4 (S.map Int.toNat) := ⟨by rw [List.length_map]; omega, fun s hs => by
        obtain ⟨x, hx, rfl⟩ := List.mem_map.1 hs
        have := hall x hx; omega⟩
      have hr2 : Rd w B A (ints .i64 (S.map Int.toNat)) := by rw [← zints_nats fun s hs => (hall s hs).1]; exact hr
      have CC := rcount_any (S.map Int.toNat) A c B w hz hr2
      rw [List.length_map] at CC
      have hp := hz.prod
      have HQ2 : Hid (q = decide (Ix.prod (S.map Int.toNat) ≤ 4096)) := by
        show _ = _
        rw [Bool.eq_iff_iff, HQ.out, decide_eq_true_eq]
        exact ⟨fun h => h.2.2, fun h => ⟨by omega, hall, h⟩⟩
      generalize Ix.prod (S.map Int.toNat) = p at *
      have CC := Lib.hid CC
      clear hall hz hr2 HQ HT
      by_cases hp2 : p ≤ 4096
      · have hqt := HQ2.out
        rw [decide_eq_true hp2] at hqt
        subst hqt
        clear HQ2
        go_wp2_with fail
        refine CC.out.mono ?_
        rintro e w' ⟨rfl, rfl⟩
        go_wp2
        go_ret
        exact ⟨rfl, ret_bool (decide_eq_true (by omega))⟩
      · have hqt := HQ2.out
        rw [decide_eq_false hp2] at hqt
        subst hqt
        clear HQ2
        go_wp2_with fail
        refine CC.out.mono ?_
        rintro e w' ⟨rfl, rfl⟩
        go_wp2
        go_ret
        exact ⟨rfl, ret_bool (decide_eq_false (by omega))⟩
end Go.Proofs.YtgnffedncjjkfaaDoor

namespace Go.Proofs.YtgnffedncjjkfaaDoor
open Go.RowKit Ix Ar

end Go.Proofs.YtgnffedncjjkfaaDoor

namespace Go.Proofs.YtgnffedncjjkfaaDoor
open Go.RowKit Ix Ar

end Go.Proofs.YtgnffedncjjkfaaDoor

namespace Go.Proofs.YtgnffedncjjkfaaDoor
open Go.RowKit Ix Ar

end Go.Proofs.YtgnffedncjjkfaaDoor

namespace Go.Proofs.YtgnffedncjjkfaaDoor
open Go.RowKit Ix Ar

end Go.Proofs.YtgnffedncjjkfaaDoor

