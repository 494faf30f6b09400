/-
  Walks: what the laws of package codec ask of lists of texts (long, same).
-/
import Derived.Test.YtpkhgdnkkdhlcaaGreatDoorFtX
import Derived.Test.YtpkhgdnkkdhlcaaGreatDoorTxtS
import Derived.Test.YtpkhgdnkkdhlcaaGreatDoorHlX
namespace Go.Proofs.YtpkhgdnkkdhlcaaGreatDoor
open Go.RowKit Ar

theorem Tryz.rstr_info : (Tryz.prog.info? 9).map (fun i => (i.zero, i.size, i.bytes)) = some (some (.string ⟨#[]⟩), 1, 16) := by kernel_rfl
set_option maxRecDepth 100000 in
set_option maxHeartbeats 1600000 in
theorem long_any (L : List ByteArray) (A : Option Addr) (c : Nat) (w : World) (h : Rd w w.heap.size A (strs L)) (hL : L.length ≤ maxLen) (z : Bool) (hz : z = true ↔ 100 < L.length ∨ ∃ s ∈ L, 200 < s.size) (hm : ∀ s ∈ L, s.size ≤ maxLen) :
    Calls Tryz.prog 10 #[.slice A L.length c] w fun e w' => w = w' ∧ e = .returned (.bool z) := by
  unfold maxLen at hm hL
  have HZ := Lib.hid hz
  clear hz
  by_cases hbig : 100 < L.length
  · have hzt : z = true := HZ.out.2 (.inl hbig)
    subst hzt
    clear hm
    go_enter Tryz.func10, Tryz.ntmps10
    go_wp2
    go_ret
    exact ⟨rfl, rfl⟩
  have HM := Lib.hid hm
  clear hm
  go_enter Tryz.func10, Tryz.ntmps10
  go_wp2_with fail
  go_loop [3] (fun i => ∃ k : Nat, k ≤ L.length ∧ i = .int .i64 k ∧ Hid (∀ s ∈ L.take k, s.size ≤ 200)) (fun i => L.length - (intOf i).toNat)
  case atStart => exact ⟨0, Nat.zero_le _, rfl, (fun x h => by simp at h)⟩
  case round =>
    obtain ⟨k, hk, rfl, H0⟩ := hrel
    rcases Nat.lt_or_ge k L.length with hlt | hge
    · obtain ⟨ad, rfl, hab, hcell⟩ := h.str hlt
      have hmk := HM.out _ (List.getElem_mem hlt)
      have HN : Hid (L[k].size ≤ 200 → ∀ s ∈ L.take (k + 1), s.size ≤ 200) := fun h1 x hx => by
        rw [List.take_add_one, List.getElem?_eq_getElem hlt] at hx
        rcases List.mem_append.1 hx with h2 | h2
        · exact H0.out x h2
        · simp at h2; subst h2; exact h1
      have HY : Hid (200 < L[k].size → z = true) := fun h1 => HZ.out.2 (.inr ⟨_, List.getElem_mem hlt, h1⟩)
      have b1 : (0 : Int) ≤ (k : Int) := by omega
      have b2 : (k : Int) < (L.length : Int) := by omega
      generalize L[k] = y at *
      by_cases hl : y.size ≤ 200
      · have hl' : ¬ (200 : Int) < y.size := by omega
        have HL := Lib.hid (HN.out hl)
        clear HN HY
        go_wp2
        go_round
        case rel => exact ⟨k + 1, by omega, by go_num, HL.out⟩
        case measure => simp [intOf]; omega
      · have hl' : (200 : Int) < y.size := by omega
        have hzt : z = true := HY.out (by omega)
        subst hzt
        clear HN HY
        go_wp2
        go_ret
        exact ⟨rfl, rfl⟩
    · have hkl : k = L.length := by omega
      subst hkl
      have hzf : z = false := by
        cases hzz : z
        · rfl
        · rcases HZ.out.1 hzz with h | ⟨x, hx, h⟩
          · exact absurd h hbig
          · have := H0.out x (by rw [List.take_length]; exact hx)
            omega
      subst hzf
      go_wp2
      go_ret
      exact ⟨rfl, rfl⟩
set_option maxRecDepth 100000 in
set_option maxHeartbeats 1600000 in
theorem csame_any (l : List ByteArray) (A A' : Option Addr) (c c' : Nat) (w : World) (hl : l.length ≤ 1000000) (h : Rd w w.heap.size A (strs l)) (h' : Rd w w.heap.size A' (strs l)) :
    Calls Tryz.prog 15 #[.slice A l.length c, .slice A' l.length c'] w fun e w' => Below w.heap.size w w' ∧ e = .returned (.bool true) := by
  go_enter Tryz.func15, Tryz.ntmps15
  go_wp2_with fail
  go_loopw [5] (fun x wr => ∃ i : Nat, i ≤ l.length ∧ x = .int .i64 i ∧ Below w.heap.size w wr) (fun x _ => l.length - (intOf x).toNat)
  case atStart => exact ⟨0, Nat.zero_le _, rfl, Below.refl _ _⟩
  case round =>
    obtain ⟨i, hi, rfl, hB⟩ := hrel
    rcases Nat.lt_or_ge i l.length with hlt | hge
    · obtain ⟨ad, rfl, hab, d1⟩ := (h.below hB).str hlt
      obtain ⟨ad', rfl, hab', d4⟩ := (h'.below hB).str hlt
      have b1 : (0 : Int) ≤ (i : Int) := by omega
      have b2 : (i : Int) < (l.length : Int) := by omega
      generalize l[i] = x at *
      go_wp2_with fail
      go_quiet (fail)
      go_wp2
      go_roundw
      case rel => exact ⟨i + 1, by omega, by go_num, below_drewN hB nq⟩
      case measure => simp [intOf]; omega
    · have hkl : i = l.length := by omega
      subst hkl
      go_wp2
      go_ret
      exact ⟨hB, rfl⟩
end Go.Proofs.YtpkhgdnkkdhlcaaGreatDoor

