/-
  Words for memory: lists of texts.
-/
import Derived.Test.YtpkhgdnkkdhlcaaGreatDoorWordsB
namespace Go.Proofs.YtpkhgdnkkdhlcaaGreatDoor
open Go.RowKit

/-- Texts as cells. -/
def strs (l : List ByteArray) : List Value := l.map Value.string
theorem strs_len (l : List ByteArray) : (strs l).length = l.length := List.length_map _
theorem strs_app (l m : List ByteArray) : strs (l ++ m) = strs l ++ strs m := List.map_append
theorem strs_one (l : List ByteArray) : ∀ u ∈ strs l, u.oneCell' = true := by
  intro u hu; obtain ⟨x, _, rfl⟩ := List.mem_map.1 hu; rfl
theorem strs_set (l : List ByteArray) (i : Nat) (x : ByteArray) : (strs l).toArray.setIfInBounds i (.string x) = (strs (l.set i x)).toArray := by simp [strs, List.map_set]
theorem Rd.str {w : World} {B : Nat} {A : Option Addr} {l : List ByteArray} (h : Rd w B A (strs l)) {j : Nat} (hj : j < l.length) : ∃ ad, A = some ad ∧ ad.block < B ∧ w.cell? (ad.add j) = some (.string l[j]) := by
  obtain ⟨ad, e, hb, hc⟩ := h.at_ (k := j) (by rw [strs_len]; exact hj)
  exact ⟨ad, e, hb, by rw [hc]; simp [strs]⟩

/-- A list of texts in memory. -/
def IsT (w : World) (B : Nat) (v : Value) (l : List ByteArray) : Prop := ∃ A c, v = .slice A l.length c ∧ l.length ≤ c ∧ Rd w B A (strs l)
section
variable {w w' : World} {B B' : Nat} {v : Value}
theorem IsT.more {l : List ByteArray} (h : IsT w B v l) (hB : B ≤ B') : IsT w B' v l := by obtain ⟨A, c, e, h1, h3⟩ := h; exact ⟨A, c, e, h1, h3.more hB⟩
theorem IsT.below {l : List ByteArray} (h : IsT w B v l) (hb : Below B w w') : IsT w' B v l := by obtain ⟨A, c, e, h1, h3⟩ := h; exact ⟨A, c, e, h1, h3.below hb⟩
theorem IsT.next {l : List ByteArray} (h : IsT w w.heap.size v l) (hb : Below w.heap.size w w') : IsT w' w'.heap.size v l := (h.below hb).more hb.size
theorem IsT.form {l : List ByteArray} (h : IsT w B v l) : ∃ A c, v = .slice A l.length c ∧ l.length ≤ c := by obtain ⟨A, c, e, h1, _⟩ := h; exact ⟨A, c, e, h1⟩
theorem IsT.rd {l : List ByteArray} {A : Option Addr} {n c : Nat} (h : IsT w B (.slice A n c) l) : Rd w B A (strs l) := by
  obtain ⟨A', c', e, _, h3⟩ := h; cases e; exact h3
theorem IsT.nil (w : World) (B : Nat) : IsT w B (.slice none 0 0) [] := ⟨none, 0, rfl, Nat.le_refl _, Rd.nil⟩
theorem IsT.of_own {base : Nat} {T : TypeId} {n : Nat} {l : List ByteArray} (h : w.ownsRow base T 1 v n (strs l)) : IsT w w.heap.size v l := by
  have hl : l.length = n := by have := h.1; rwa [strs_len, Nat.mul_one] at this
  rcases h.2 with ⟨rfl, rfl⟩ | ⟨g, cap, cur, rfl, _, _, hc, _⟩
  · obtain rfl : l = [] := List.eq_nil_of_length_eq_zero hl
    exact IsT.nil _ _
  · exact ⟨_, cap, by rw [hl], by omega, Rd.of_own h⟩
theorem IsT.of_bk {g : Nat} {T : TypeId} {l : List ByteArray} (h : Bk w g T (strs l).toArray) : IsT w w.heap.size (.slice (some ⟨g, 0, none⟩) l.length l.length) l := ⟨_, _, rfl, Nat.le_refl _, by simpa using h.rd⟩
end
end Go.Proofs.YtpkhgdnkkdhlcaaGreatDoor

