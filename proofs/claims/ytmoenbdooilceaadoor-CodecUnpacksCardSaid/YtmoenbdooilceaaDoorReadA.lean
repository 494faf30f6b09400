/-
  Walks: texts of numbers: plain, Digits, and the reading of integers.
-/
import Derived.Test.YtmoenbdooilceaaDoorNatA
import Derived.Test.YtmoenbdooilceaaDoorTxt
import Derived.Outline
namespace Go.Proofs.YtmoenbdooilceaaDoor
open Go.RowKit Ar

/-- A bool that says whether. -/
def IsB (P : Prop) (e : Ending) : Prop := ∃ b : Bool, e = .returned (.bool b) ∧ (b = true ↔ P)
theorem digs_snoc {l : List UInt8} {b : UInt8} (h : Digs l) (h1 : ¬ b.toNat < 48) (h2 : ¬ 57 < b.toNat) : Digs (l ++ [b]) := fun c hc => by
  rcases List.mem_append.1 hc with h3 | h3
  · exact h c h3
  · simp at h3; subst h3; omega
theorem take_snoc (s : ByteArray) (k : Nat) (h : k < s.size) : s.data.toList.take (k + 1) = s.data.toList.take k ++ [s[k]] := by
  rw [List.take_succ_eq_append_getElem (by simpa using h)]; rfl
theorem bytes_at (s : ByteArray) (k : Nat) (h : k < s.size) : s[k] ∈ s.data.toList := by
  have : s[k] = s.data.toList[k]'(by simpa using h) := rfl
  rw [this]; exact List.getElem_mem _
theorem size_list (s : ByteArray) : s.data.toList.length = s.size := by rw [Array.length_toList]; rfl

theorem bs_toList (s : ByteArray) : s.toList = s.data.toList := by obtain ⟨⟨l⟩⟩ := s; simp
theorem head_of (s : ByteArray) (h : 0 < s.size) : s.data.toList.head? = some s[0] := by
  have e : s[0] = s.data.toList[0]'(by rw [size_list]; exact h) := rfl
  rw [e, List.head?_eq_getElem?, List.getElem?_eq_getElem]
theorem u8_eq {a b : UInt8} (h : a.toNat = b.toNat) : a = b := UInt8.toNat_inj.1 h
theorem plain_zero (s : ByteArray) (h : 0 < s.size) (hd : Digs s.data.toList) (h8 : s[0].toNat = 48) : ((!s.toList.isEmpty && s.toList == [48]) = true ↔ Canon s.data.toList) := by
  have e := head_of s h
  have e8 : s[0] = 48 := u8_eq h8
  rw [e8] at e
  rw [bs_toList]
  have hn : s.data.toList ≠ [] := by intro e0; rw [e0] at e; cases e
  constructor
  · intro h1
    simp only [Bool.and_eq_true, beq_iff_eq] at h1
    exact ⟨hd, hn, fun _ => h1.2⟩
  · intro hc
    rw [hc.2.2 e]; rfl
theorem plain_other (s : ByteArray) (h : 0 < s.size) (hd : Digs s.data.toList) (h8 : ¬ s[0].toNat = 48) : ((!s.toList.isEmpty) = true ↔ Canon s.data.toList) := by
  have e := head_of s h
  rw [bs_toList]
  have hn : s.data.toList ≠ [] := by intro e0; rw [e0] at e; cases e
  constructor
  · intro _
    refine ⟨hd, hn, fun e1 => ?_⟩
    rw [e] at e1
    injection e1 with e1
    rw [e1] at h8
    exact absurd rfl h8
  · intro _
    cases hl : s.data.toList with
    | nil => exact absurd hl hn
    | cons a b => rfl

set_option maxHeartbeats 800000 in
theorem plain_any (s : ByteArray) (w : World) (hs : s.size ≤ 4000000) :
    Calls Tryd.prog 96 #[.string s] w fun e w' => w = w' ∧ IsB (Canon s.data.toList) e := by
  go_enter Tryd.func96, Tryd.ntmps96
  go_wp2
  go_loop [6] (fun i => ∃ k : Nat, k ≤ s.size ∧ i = .int .i64 k ∧ Hid (Digs (s.data.toList.take k))) (fun i => s.size - (intOf i).toNat)
  case atStart => exact ⟨0, Nat.zero_le _, rfl, (show Digs _ from fun b hb => by simp at hb)⟩
  case round =>
    obtain ⟨k, hk, rfl, HD⟩ := hrel
    by_cases hlt : k < s.size
    · by_cases h1 : s[k].toNat < 48
      · have HN : Hid (¬ Canon s.data.toList) := fun hc => by have := hc.1 _ (bytes_at s k hlt); omega
        go_wp2
        go_ret
        exact ⟨rfl, false, rfl, by simpa using HN.out⟩
      · by_cases h2 : 57 < s[k].toNat
        · have HN : Hid (¬ Canon s.data.toList) := fun hc => by have := hc.1 _ (bytes_at s k hlt); omega
          go_wp2
          go_ret
          exact ⟨rfl, false, rfl, by simpa using HN.out⟩
        · have HD2 : Hid (Digs (s.data.toList.take (k + 1))) := by
            show Digs _
            rw [take_snoc s k hlt]; exact digs_snoc HD.out h1 h2
          go_wp2
          go_round
          case rel => exact ⟨k + 1, by omega, by go_num, HD2.out⟩
          case measure => simp [intOf]; omega
    · have HDs : Hid (Digs s.data.toList) := by
        have := HD.out
        rwa [List.take_of_length_le (by rw [size_list]; omega)] at this
      clear HD
      by_cases he : s.size = 0
      · have h0 : s.toList = [] := by rw [bs_toList]; exact List.eq_nil_of_length_eq_zero (by rw [size_list]; exact he)
        have HN : Hid (¬ Canon s.data.toList) := fun hc => hc.2.1 (List.eq_nil_of_length_eq_zero (by rw [size_list]; exact he))
        clear he
        go_wp2
        go_ret
        exact ⟨rfl, false, rfl, by simpa using HN.out⟩
      · have h0 : s.toList ≠ [] := by rw [bs_toList]; intro e; have := size_list s; rw [e] at this; exact he this.symm
        have hp : 0 < s.size := by omega
        by_cases h8 : s[0].toNat = 48
        · have h9 : ((s[0].toNat : Int) == 48) = true := by rw [h8]; rfl
          have h10 : ((s[0].toNat : Int) != 48) = false := by rw [h8]; rfl
          have HE := Lib.hid (plain_zero s hp HDs.out h8)
          go_wp2
          go_ret
          exact ⟨rfl, _, rfl, HE.out⟩
        · have h9 : ((s[0].toNat : Int) == 48) = false := by rw [beq_eq_false_iff_ne]; omega
          have h10 : ((s[0].toNat : Int) != 48) = true := by rw [bne_iff_ne]; omega
          have HE := Lib.hid (plain_other s hp HDs.out h8)
          go_wp2
          go_ret
          exact ⟨rfl, _, rfl, HE.out⟩
end Go.Proofs.YtmoenbdooilceaaDoor
