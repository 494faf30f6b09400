/-
  Words for memory: lists of ints, of texts; arrays; slabs.
-/
import Derived.Test.YtgnffedncjjkfaaGreatDoorTxtS
import Derived.Test.YtgnffedncjjkfaaGreatDoorSlab
namespace Go.Proofs.YtgnffedncjjkfaaGreatDoor
open Go.RowKit Ix

/-- Ints as cells. -/
def zints (l : List Int) : List Value := l.map (Value.int .i64)
theorem zints_len (l : List Int) : (zints l).length = l.length := List.length_map _
theorem zints_app (l m : List Int) : zints (l ++ m) = zints l ++ zints m := List.map_append
theorem zints_one (l : List Int) : ∀ u ∈ zints l, u.oneCell' = true := by
  intro u hu; obtain ⟨x, _, rfl⟩ := List.mem_map.1 hu; rfl
theorem zints_set (l : List Int) (i : Nat) (x : Int) : (zints l).toArray.setIfInBounds i (.int .i64 x) = (zints (l.set i x)).toArray := by simp [zints, List.map_set]
theorem zints_nat (l : List Nat) : zints (l.map Int.ofNat) = ints .i64 l := by simp [zints, ints, List.map_map, Function.comp_def]
theorem Rd.zint {w : World} {B : Nat} {A : Option Addr} {l : List Int} (h : Rd w B A (zints l)) {j : Nat} (hj : j < l.length) : ∃ ad, A = some ad ∧ ad.block < B ∧ w.cell? (ad.add j) = some (.int .i64 l[j]) := by
  obtain ⟨ad, e, hb, hc⟩ := h.at_ (k := j) (by rw [zints_len]; exact hj)
  exact ⟨ad, e, hb, by rw [hc]; simp [zints]⟩

/-- A list of ints in memory. -/
def IsI (w : World) (B : Nat) (v : Value) (l : List Int) : Prop := ∃ A c, v = .slice A l.length c ∧ l.length ≤ c ∧ Rd w B A (zints l)
section
variable {w w' : World} {B B' : Nat} {v : Value}
theorem IsI.more {l : List Int} (h : IsI w B v l) (hB : B ≤ B') : IsI w B' v l := by obtain ⟨A, c, e, h1, h3⟩ := h; exact ⟨A, c, e, h1, h3.more hB⟩
theorem IsI.below {l : List Int} (h : IsI w B v l) (hb : Below B w w') : IsI w' B v l := by obtain ⟨A, c, e, h1, h3⟩ := h; exact ⟨A, c, e, h1, h3.below hb⟩
theorem IsI.next {l : List Int} (h : IsI w w.heap.size v l) (hb : Below w.heap.size w w') : IsI w' w'.heap.size v l := (h.below hb).more hb.size
theorem IsI.form {l : List Int} (h : IsI w B v l) : ∃ A c, v = .slice A l.length c ∧ l.length ≤ c := by obtain ⟨A, c, e, h1, _⟩ := h; exact ⟨A, c, e, h1⟩
theorem IsI.rd {l : List Int} {A : Option Addr} {n c : Nat} (h : IsI w B (.slice A n c) l) : Rd w B A (zints l) := by
  obtain ⟨A', c', e, _, h3⟩ := h; cases e; exact h3
theorem IsI.nil (w : World) (B : Nat) : IsI w B (.slice none 0 0) [] := ⟨none, 0, rfl, Nat.le_refl _, Rd.nil⟩
theorem IsI.of_own {base : Nat} {T : TypeId} {n : Nat} {l : List Int} (h : w.ownsRow base T 1 v n (zints l)) : IsI w w.heap.size v l := by
  have hl : l.length = n := by have := h.1; rwa [zints_len, Nat.mul_one] at this
  rcases h.2 with ⟨rfl, rfl⟩ | ⟨g, cap, cur, rfl, _, _, hc, _⟩
  · obtain rfl : l = [] := List.eq_nil_of_length_eq_zero hl
    exact IsI.nil _ _
  · exact ⟨_, cap, by rw [hl], by omega, Rd.of_own h⟩
theorem IsI.of_bk {g : Nat} {T : TypeId} {l : List Int} (h : Bk w g T (zints l).toArray) : IsI w w.heap.size (.slice (some ⟨g, 0, none⟩) l.length l.length) l := ⟨_, _, rfl, Nat.le_refl _, by simpa using h.rd⟩
end
/-- An array: its shape and its values. -/
abbrev Arr := List Int × List ByteArray
def IsA (w : World) (B : Nat) (v : Value) (a : Arr) : Prop := ∃ s t, v = .agg #[s, t] ∧ IsI w B s a.1 ∧ IsT w B t a.2
section
variable {w w' : World} {B B' : Nat} {v : Value} {a : Arr}
theorem IsA.more (h : IsA w B v a) (hB : B ≤ B') : IsA w B' v a := by obtain ⟨s, t, e, h1, h2⟩ := h; exact ⟨s, t, e, h1.more hB, h2.more hB⟩
theorem IsA.below (h : IsA w B v a) (hb : Below B w w') : IsA w' B v a := by obtain ⟨s, t, e, h1, h2⟩ := h; exact ⟨s, t, e, h1.below hb, h2.below hb⟩
theorem IsA.next (h : IsA w w.heap.size v a) (hb : Below w.heap.size w w') : IsA w' w'.heap.size v a := (h.below hb).more hb.size
theorem IsA.form (h : IsA w B v a) : ∃ A c A' c', v = .agg #[.slice A a.1.length c, .slice A' a.2.length c'] ∧ a.1.length ≤ c ∧ a.2.length ≤ c' := by
  obtain ⟨s, t, rfl, h1, h2⟩ := h
  obtain ⟨A, c, rfl, k1⟩ := h1.form
  obtain ⟨A', c', rfl, k2⟩ := h2.form
  exact ⟨A, c, A', c', rfl, k1, k2⟩
theorem IsA.parts {A A' : Option Addr} {n c n' c' : Nat} (h : IsA w B (.agg #[.slice A n c, .slice A' n' c']) a) : IsI w B (.slice A n c) a.1 ∧ IsT w B (.slice A' n' c') a.2 := by
  obtain ⟨s, t, e, h1, h2⟩ := h
  simp only [Value.agg.injEq, Array.mk.injEq, List.cons.injEq, and_true] at e
  obtain ⟨rfl, rfl⟩ := e
  exact ⟨h1, h2⟩
theorem IsA.zero (w : World) (B : Nat) : IsA w B (.agg #[.slice none 0 0, .slice none 0 0]) ([], []) := ⟨_, _, rfl, IsI.nil _ _, IsT.nil _ _⟩
end
/-- A valid shape. -/
def VS (S : List Int) : Prop := S.length ≤ 4 ∧ (∀ s ∈ S, 0 ≤ s ∧ s ≤ 1024) ∧ prod (S.map Int.toNat) ≤ 4096
theorem nats_back {S : List Int} (h : ∀ s ∈ S, 0 ≤ s) : (S.map Int.toNat).map Int.ofNat = S := by
  rw [List.map_map]
  calc S.map (Int.ofNat ∘ Int.toNat) = S.map id := List.map_congr_left fun s hs => by
        have := h s hs
        show ((s.toNat : Nat) : Int) = s
        omega
    _ = S := List.map_id _
theorem VS.cells {S : List Int} (h : VS S) : zints S = ints .i64 (S.map Int.toNat) := by
  rw [← zints_nat, nats_back fun s hs => (h.2.1 s hs).1]
end Go.Proofs.YtgnffedncjjkfaaGreatDoor
