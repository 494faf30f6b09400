/-
  Walks: package ratio's natural numbers: trim, Zero, One, Cmp, Small, scale, short.
  Walks: package ratio's natural numbers: Zero.
-/
import Derived.Test.YtpkhgdnkkdhlcaaGreatDoorProg
import Derived.Test.YtpkhgdnkkdhlcaaGreatDoorWords
import Derived.Test.YtpkhgdnkkdhlcaaGreatDoorNum
import Derived.WalkKit
import Derived.WalkSpells
import Derived.WalkLawsBesides
import Derived.Deep.QuietTactic
import Derived.BigQuiet
namespace Go.Proofs.YtpkhgdnkkdhlcaaGreatDoor
open Go.RowKit Ar

/-- Up to k stand all limbs of a number. -/
def Trimmed (l : List Nat) (k : Nat) : Prop := k ≤ l.length ∧ (∀ j, k ≤ j → j < l.length → l.getD j 0 = 0) ∧ (k = 0 ∨ 0 < l.getD (k - 1) 0)
theorem Trimmed.eq {l : List Nat} {k : Nat} (h : Trimmed l k) (hs : Small l) : limbs (val l) = l.take k := limbs_take hs h.1 h.2.1 h.2.2
theorem Trimmed.len {l : List Nat} {k : Nat} (h : Trimmed l k) (hs : Small l) : k = (limbs (val l)).length := by rw [h.eq hs, List.length_take, Nat.min_eq_left h.1]

set_option maxHeartbeats 400000 in
theorem trim_any (A : Option Addr) (c n : Nat) (l : List Nat) (w : World) (hn : l.length = n) (hc : n ≤ c) (hm : n ≤ 4000000000000) (h : Rd w w.heap.size A (ints .u32 l)) :
    Calls Tryz.prog 193 #[.slice A n c] w fun e w' => w = w' ∧ ∃ k, Trimmed l k ∧ e = .returned (.slice A k c) := by
  subst hn
  go_enter Tryz.func193, Tryz.ntmps193
  go_wp2
  go_loop [3] (fun n => ∃ k : Nat, k ≤ l.length ∧ n = .int .i64 k ∧ ∀ j, k ≤ j → j < l.length → l.getD j 0 = 0) (fun n => (intOf n).toNat)
  case atStart => exact ⟨l.length, Nat.le_refl _, rfl, fun j h1 h2 => by omega⟩
  case round =>
    obtain ⟨k, hk, rfl, hz⟩ := hrel
    rcases Nat.eq_zero_or_pos k with rfl | hk0
    · have HT : Trimmed l 0 := ⟨Nat.zero_le _, hz, .inl rfl⟩
      clear hz
      go_wp2
      go_ret
      exact ⟨rfl, 0, HT, rfl⟩
    · obtain ⟨j, rfl⟩ : ∃ j, k = j + 1 := ⟨k - 1, by omega⟩
      obtain ⟨ad, rfl, hb, hcell⟩ := h.int (j := j) (by omega)
      by_cases h0 : l.getD j 0 = 0
      · have HZ : Hid (∀ i, j ≤ i → i < l.length → l.getD i 0 = 0) := fun i h1 h2 => by
          by_cases e : i = j
          · subst e; exact h0
          · exact hz i (by omega) h2
        rw [h0] at hcell
        clear hz h0 hk0
        go_wp2
        go_round
        case rel => exact ⟨j, by omega, by go_num, HZ.out⟩
        case measure => simp [intOf]
      · have HT : Trimmed l (j + 1) := ⟨hk, hz, .inr (Nat.pos_of_ne_zero h0)⟩
        generalize l.getD j 0 = x at *
        clear hz
        go_wp2
        go_ret
        exact ⟨rfl, j + 1, HT, rfl⟩

/-- A natural number in memory. -/
def IsN (w : World) (B : Nat) (k : IntKind) (v : Value) (n : Nat) : Prop :=
  ∃ A c, v = .slice A (limbs n).length c ∧ (limbs n).length ≤ c ∧ Rd w B A (ints k (limbs n))
section
variable {w w' : World} {B B' : Nat} {k : IntKind} {v : Value} {n : Nat}
theorem IsN.more (h : IsN w B k v n) (hB : B ≤ B') : IsN w B' k v n := by
  obtain ⟨A, c, e, h1, h3⟩ := h; exact ⟨A, c, e, h1, h3.more hB⟩
theorem IsN.below (h : IsN w B k v n) (hb : Below B w w') : IsN w' B k v n := by
  obtain ⟨A, c, e, h1, h3⟩ := h; exact ⟨A, c, e, h1, h3.below hb⟩
theorem IsN.next (h : IsN w w.heap.size k v n) (hb : Below w.heap.size w w') : IsN w' w'.heap.size k v n := (h.below hb).more hb.size
theorem IsN.nil (w : World) (B : Nat) (k : IntKind) : IsN w B k (.slice none 0 0) 0 := ⟨none, 0, by rw [limbs_zero]; rfl, by rw [limbs_zero]; exact Nat.le_refl _, by rw [limbs_zero]; exact Rd.nil⟩
end

/-- A natural number in a row of the call's own. -/
def OwnN (w : World) (base : Nat) (T : TypeId) (k : IntKind) (v : Value) (n : Nat) : Prop :=
  ∃ g c, v = .slice (some ⟨g, 0, none⟩) (limbs n).length c ∧ (limbs n).length ≤ c ∧ w.ownsRow base T 1 v (limbs n).length (ints k (limbs n))
theorem OwnN.is {w : World} {base : Nat} {T : TypeId} {k : IntKind} {v : Value} {n : Nat} (h : OwnN w base T k v n) : IsN w w.heap.size k v n := by
  obtain ⟨g, c, rfl, h1, h3⟩ := h
  exact ⟨_, c, rfl, h1, Rd.of_own h3⟩
theorem OwnN.of_trim {w : World} {g base cap j n : Nat} {T : TypeId} {k : IntKind} {zs : List Nat} (hb : Bk w g T (ints k zs).toArray) (hg : base ≤ g) (hc : zs.length = cap) (hm : cap ≤ 4000000000000) (hs : Small zs) (ht : Trimmed zs j) (hn : val zs = n) :
    OwnN w base T k (.slice (some ⟨g, 0, none⟩) j cap) n := by
  have hj := ht.len hs
  have he := ht.eq hs
  have h1 := ht.1
  rw [hn] at hj he
  have := hb.own (base := base) (size := 1) (n := j) (cap := cap) hg (by omega) (by unfold maxLen; omega) (by simp [ints_length, hc])
  rw [Nat.mul_one, List.toList_toArray, ← ints_take, ← he] at this
  exact ⟨g, cap, by rw [hj], by omega, by rw [← hj]; exact this⟩

set_option maxHeartbeats 400000 in
theorem one_any (n : Nat) (v : Value) (w : World) (h : IsN w w.heap.size .u32 v n) (hl : (limbs n).length ≤ 1000000000000) :
    Calls Tryz.prog 138 #[v] w fun e w' => w = w' ∧ e = .returned (.bool (decide (n = 1))) := by
  obtain ⟨A, c, rfl, h1, h3⟩ := h
  by_cases hl1 : (limbs n).length = 1
  · obtain ⟨x, hx⟩ : ∃ x, limbs n = [x] := List.length_eq_one_iff.1 hl1
    obtain ⟨ad, rfl, hb, hcell⟩ := h3.int (j := 0) (by omega)
    rw [hx] at hcell h1 ⊢
    have e : decide (n = 1) = ((x : Int) == 1) := by
      rw [Bool.eq_iff_iff, beq_iff_eq, decide_eq_true_eq]
      constructor
      · rintro rfl; rw [limbs_one] at hx; injection hx with hx; omega
      · intro h; exact eq_one_of_limbs (by rw [hx]; congr 1; omega)
    rw [e]
    simp only [List.getD_cons_zero, List.length_singleton, addr_zero] at hcell h1 ⊢
    clear hx e h3 hl1 hl
    go_enter Tryz.func138, Tryz.ntmps138
    go_wp2
    all_goals (go_ret; exact ⟨rfl, rfl⟩)
  · have e : decide (n = 1) = false := by
      simp; rintro rfl; exact hl1 (by rw [limbs_one]; rfl)
    rw [e]
    clear e h3
    generalize (limbs n).length = m at *
    go_enter Tryz.func138, Tryz.ntmps138
    go_wp2
    go_ret
    exact ⟨rfl, rfl⟩
end Go.Proofs.YtpkhgdnkkdhlcaaGreatDoor

namespace Go.Proofs.YtpkhgdnkkdhlcaaGreatDoor
open Go.RowKit Ar

set_option maxHeartbeats 400000 in
theorem zero_any (n : Nat) (v : Value) (w : World) (h : IsN w w.heap.size .u32 v n) :
    Calls Tryz.prog 137 #[v] w fun e w' => w = w' ∧ e = .returned (.bool (decide (n = 0))) := by
  obtain ⟨A, c, rfl, h1, h3⟩ := h
  have e : decide (n = 0) = (((limbs n).length : Int) == 0) := by
    rw [Bool.eq_iff_iff, beq_iff_eq, decide_eq_true_eq, ← limbs_len_zero]; omega
  rw [e]
  clear e
  generalize (limbs n).length = m at *
  go_enter Tryz.func137, Tryz.ntmps137
  go_wp2
  go_ret
  exact ⟨rfl, rfl⟩
end Go.Proofs.YtpkhgdnkkdhlcaaGreatDoor

