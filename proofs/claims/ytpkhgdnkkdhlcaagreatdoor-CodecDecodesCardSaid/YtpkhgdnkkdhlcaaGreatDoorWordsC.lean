/-
  Words for memory, of no program: a row of numbers in a block of the call's own, whatever lies behind it.
-/
import Derived.Test.YtpkhgdnkkdhlcaaGreatDoorWordsB
namespace Go.Proofs.YtpkhgdnkkdhlcaaGreatDoor
open Go.RowKit

theorem own_next {w w' : World} {base : Nat} {e : TypeId} {size n : Nat} {v : Value} {xs : List Value} (h : w.ownsRow base e size v n xs) (hb : Below w.heap.size w w') : w'.ownsRow base e size v n xs :=
  h.kept (grown_of_below hb none) (by cases v.ownBlock <;> simp)
theorem own_slice {w : World} {base : Nat} {e : TypeId} {size n : Nat} {v : Value} {xs : List Value} (h : w.ownsRow base e size v n xs) : ∃ A c, v = .slice A n c ∧ n ≤ c := by
  rcases h.2 with ⟨rfl, h0⟩ | ⟨g, cap, cur, rfl, _, _, hc, _⟩
  · exact ⟨none, 0, by rw [h0], by omega⟩
  · exact ⟨_, cap, rfl, hc⟩
/-- A cell that held a number of another kind is written anew. -/
theorem Rd.put_kind {w : World} {B : Nat} {A : Option Addr} {k k' : IntKind} {l : List Nat} (h : Rd w B A (ints k l)) {p : Addr} {x : Int} (hc : w.cell? p = some (.int k' x)) (hk : k' ≠ k) (u : Value) : Rd (w.setCell p u) B A (ints k l) := fun hn => by
  obtain ⟨ad, e, hb, h2⟩ := h hn
  refine ⟨ad, e, hb, fun j y hy => ?_⟩
  rw [World.cell?_setCell_other w p _ u (fun e => ?_)]
  · exact h2 j y hy
  · have := h2 j y hy
    rw [← e, hc] at this
    injection this with this
    subst this
    have hm : Value.int k' x ∈ ints k l := List.mem_of_getElem? hy
    simp [ints] at hm
    obtain ⟨z, _, hz, _⟩ := hm
    exact hk hz.symm
/-- Some of the numbers of a slice. -/
theorem Rd.sub {w : World} {B : Nat} {ad : Addr} {k : IntKind} {l : List Nat} (h : Rd w B (some ad) (ints k l)) (o n : Nat) : Rd w B (some (ad.add o)) (ints k ((l.drop o).take n)) := fun hn => by
  have hl : o < l.length := by
    rcases Nat.lt_or_ge o l.length with h1 | h1
    · exact h1
    · rw [List.drop_eq_nil_of_le h1] at hn; simp [ints] at hn
  obtain ⟨ad', e, hb, hc⟩ := h (by intro e; have := congrArg List.length e; rw [ints_length, List.length_nil] at this; omega)
  injection e with e
  subst e
  refine ⟨_, rfl, by rw [addr_block]; exact hb, fun j u hu => ?_⟩
  rw [addr_add]
  refine hc _ u ?_
  obtain ⟨hj, hv⟩ := List.getElem?_eq_some_iff.1 hu
  rw [ints_length, List.length_take, List.length_drop] at hj
  rw [← hv]
  simp [ints, List.getElem?_eq_getElem (show o + j < l.length by omega)]
/-- Block g begins with the numbers l. -/
def Row (w : World) (g : Nat) (T : TypeId) (k : IntKind) (l : List Nat) : Prop := ∃ sp : List Value, Bk w g T (ints k l ++ sp).toArray
section
variable {w w' : World} {g : Nat} {T : TypeId} {k : IntKind} {l : List Nat}
theorem Row.lt (h : Row w g T k l) : g < w.heap.size := by obtain ⟨sp, h⟩ := h; exact h.lt
theorem Row.cell (h : Row w g T k l) {i : Nat} (hi : i < l.length) : w.cell? ⟨g, i, none⟩ = some (.int k ((l.getD i 0 : Nat) : Int)) := by
  obtain ⟨sp, h⟩ := h
  rw [h.cell, List.getElem?_toArray, List.getElem?_append_left (by rw [ints_length]; exact hi)]
  have := ints_getD k l hi
  rwa [List.getElem?_toArray] at this
theorem Row.frozen (h : Row w g T k l) (i : Nat) : w.frozen? ⟨g, i, none⟩ = false := by obtain ⟨sp, h⟩ := h; exact h.frozen i
theorem Row.put (h : Row w g T k l) {i : Nat} (hi : i < l.length) (x : Nat) : Row (w.setCell ⟨g, i, none⟩ (.int k (x : Int))) g T k (l.set i x) := by
  obtain ⟨sp, h⟩ := h
  refine ⟨sp, ?_⟩
  have := h.put i (.int k (x : Int))
  have e : (ints k l ++ sp).toArray.setIfInBounds i (.int k (x : Int)) = (ints k (l.set i x) ++ sp).toArray := by
    simp [ints, List.map_set, List.set_append_left, hi]
  rwa [e] at this
theorem Row.drewN (h : Row w g T k l) (n : Nat) : Row (w.drewN n) g T k l := h
theorem Row.drew (h : Row w g T k l) : Row w.drew g T k l := h
theorem Row.alloc (h : Row w g T k l) (o : Obj) : Row (w.alloc o) g T k l := by obtain ⟨sp, h⟩ := h; exact ⟨sp, h.alloc o⟩
theorem Row.far (h : Row w g T k l) {p : Addr} (hp : g ≠ p.block) (u : Value) : Row (w.setCell p u) g T k l := by obtain ⟨sp, h⟩ := h; exact ⟨sp, h.far hp u⟩
theorem Row.below {B : Nat} (h : Row w g T k l) (hb : Below B w w') (hg : g < B) : Row w' g T k l := by obtain ⟨sp, h⟩ := h; exact ⟨sp, h.below hb hg⟩
theorem Row.next (h : Row w g T k l) (hb : Below w.heap.size w w') : Row w' g T k l := h.below hb h.lt
theorem Row.grown {row : Option Nat} (h : Row w g T k l) (hb : w.grownBy w' row) (hg : some g ≠ row) : Row w' g T k l := by obtain ⟨sp, h⟩ := h; exact ⟨sp, h.grown hb hg⟩
/-- Some of the numbers, as a slice reads them. -/
theorem Row.rd (h : Row w g T k l) {o n : Nat} (hn : o + n ≤ l.length) : Rd w w.heap.size (some ⟨g, o, none⟩) (ints k ((l.drop o).take n)) := fun _ => ⟨_, rfl, h.lt, fun j u hu => by
  obtain ⟨hj, hv⟩ := List.getElem?_eq_some_iff.1 hu
  rw [ints_length, List.length_take, List.length_drop] at hj
  rw [addr_mk, h.cell (by omega), ← hv]
  simp [ints, List.getD_eq_getElem?_getD, List.getElem?_eq_getElem (show o + j < l.length by omega)]⟩
theorem Row.all (h : Row w g T k l) : Rd w w.heap.size (some ⟨g, 0, none⟩) (ints k l) := by
  have := h.rd (o := 0) (n := l.length) (by omega)
  rwa [List.drop_zero, List.take_of_length_le (Nat.le_refl _)] at this
theorem Row.of_bk {zs : List Nat} (h : Bk w g T (ints k zs).toArray) : Row w g T k zs := ⟨[], by rw [List.append_nil]; exact h⟩
theorem Row.of_own {base n : Nat} {v : Value} (h : w.ownsRow base T 1 v n (ints k l)) (hn : 0 < n) : ∃ g cap, v = .slice (some ⟨g, 0, none⟩) n cap ∧ base ≤ g ∧ n ≤ cap ∧ cap ≤ maxLen ∧ Row w g T k l := by
  rcases h.2 with ⟨_, hz⟩ | ⟨g, cap, cur, hv, hb, hg, hc, hm, hs, he⟩
  · omega
  · refine ⟨g, cap, hv, hb, hc, hm, cur.toList.drop (n * 1), ?_⟩
    rw [← he, List.take_append_drop]
    show Bk w g T cur
    exact hg
end
end Go.Proofs.YtpkhgdnkkdhlcaaGreatDoor

