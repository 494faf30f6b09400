/-
  Walks: slices.ContainsFunc at strings.
-/
import Derived.Test.YtmoenbdooilceaaDoorReadD
namespace Go.Proofs.YtmoenbdooilceaaDoor
open Go.RowKit Ar

/-- Strings as cells. -/
def strs (l : List ByteArray) : List Value := l.map Value.string
theorem strs_len (l : List ByteArray) : (strs l).length = l.length := List.length_map _
theorem Rd.str {w : World} {B : Nat} {A : Option Addr} {l : List ByteArray} (h : Rd w B A (strs l)) {j : Nat} (hj : j < l.length) : ∃ ad, A = some ad ∧ ad.block < B ∧ w.cell? (ad.add j) = some (.string l[j]) := by
  obtain ⟨ad, e, hb, hc⟩ := h.at_ (k := j) (by rw [strs_len]; exact hj)
  exact ⟨ad, e, hb, by rw [hc]; simp [strs]⟩

set_option maxRecDepth 100000 in
set_option maxHeartbeats 800000 in
theorem indexfunc_any (x : Value) (A : Option Addr) (c : Nat) (ss : List ByteArray) (p : ByteArray → Bool) (w : World) (hm : ss.length ≤ 4000000) (h : Rd w w.heap.size A (strs ss))
    (hf : ∀ W s, s ∈ ss → Below w.heap.size w W → Calls Tryd.prog 70 #[.string s, x] W fun e w' => Below W.heap.size W w' ∧ e = .returned (.bool (p s))) :
    Calls Tryd.prog 75 #[.slice A ss.length c, .func (.func 70) #[] #[x]] w fun e w' => Below w.heap.size w w' ∧ ∃ k : Int, e = .returned (.int .i64 k) ∧ -1 ≤ k ∧ (0 ≤ k ↔ ss.any p = true) := by
  have HF := Lib.hid hf
  clear hf
  go_enter Tryd.func75, Tryd.ntmps75
  go_wp2
  go_loopw [8] (fun i wr => ∃ k : Nat, k ≤ ss.length ∧ i = .int .i64 k ∧ Hid ((ss.take k).any p = false) ∧ Below w.heap.size w wr) (fun i _ => ss.length - (intOf i).toNat)
  case atStart => exact ⟨0, Nat.zero_le _, rfl, rfl, Below.refl _ _⟩
  case round =>
    obtain ⟨k, hk, rfl, HN, hB⟩ := hrel
    by_cases hlt : k < ss.length
    · obtain ⟨ad, rfl, hab, hcell⟩ := (h.below hB).str hlt
      have hmem : ss[k] ∈ ss := List.getElem_mem _
      have HT : Hid ((ss.take (k + 1)).any p = p ss[k]) := by
        show _ = _
        rw [List.take_succ_eq_append_getElem hlt, List.any_append, HN.out]; simp
      have HA : Hid (p ss[k] = true → ss.any p = true) := fun e => List.any_eq_true.2 ⟨_, hmem, e⟩
      have HC := Lib.hid (fun W hW => HF.out W ss[k] hmem hW)
      clear hmem
      generalize ss[k] = s at *
      go_wp2_with fail
      refine (HC.out wr hB).mono ?_
      rintro e w1 ⟨hb1, rfl⟩
      have hB1 := hB.trans (hb1.mono hB.size)
      cases hp : p s
      · have HN2 : Hid ((ss.take (k + 1)).any p = false) := by show _ = _; rw [HT.out]; exact hp
        clear hp
        go_wp2
        go_roundw
        case rel => exact ⟨k + 1, by omega, by go_num, HN2.out, hB1⟩
        case measure => simp [intOf]; omega
      · have HY := Lib.hid (HA.out hp)
        clear hp
        go_wp2
        go_ret
        exact ⟨hB1, _, rfl, by omega, fun _ => HY.out, fun _ => by omega⟩
    · have HE : Hid (ss.any p = false) := by
        have := HN.out
        rwa [List.take_of_length_le (by omega)] at this
      go_wp2
      go_ret
      exact ⟨hB, -1, rfl, by omega, fun h => by omega, fun h => by rw [HE.out] at h; cases h⟩

set_option maxRecDepth 100000 in
set_option maxHeartbeats 800000 in
theorem containsfunc_any (x : Value) (A : Option Addr) (c : Nat) (ss : List ByteArray) (p : ByteArray → Bool) (w : World) (hm : ss.length ≤ 4000000) (h : Rd w w.heap.size A (strs ss))
    (hf : ∀ W s, s ∈ ss → Below w.heap.size w W → Calls Tryd.prog 70 #[.string s, x] W fun e w' => Below W.heap.size W w' ∧ e = .returned (.bool (p s))) :
    Calls Tryd.prog 69 #[.slice A ss.length c, .func (.func 70) #[] #[x]] w fun e w' => Below w.heap.size w w' ∧ e = .returned (.bool (ss.any p)) := by
  have HI := Lib.hid (indexfunc_any x A c ss p w hm h hf)
  clear hf
  go_enter Tryd.func69, Tryd.ntmps69
  go_wp2_with fail
  refine HI.out.mono ?_
  rintro e w1 ⟨hb1, k, rfl, h1, h2⟩
  have HE : Hid (decide (0 ≤ k) = ss.any p) := by
    show _ = _
    rw [Bool.eq_iff_iff, decide_eq_true_eq]; exact h2
  clear h2
  go_wp2
  go_ret
  exact ⟨hb1, by rw [← HE.out]; rfl⟩
end Go.Proofs.YtmoenbdooilceaaDoor
