/-
  Plain law: indexes, places, slabs.
  Words for memory: lists of ints, of texts; arrays; slabs.
  Walks: package array's cells, indexes and the iterator that it makes.
  Walks: package array: copies, equality; which shapes and arrays are valid.
  Walks: package array: which shapes and arrays are valid; how far elements lie from each other; places.
  Walks: package array: how far elements lie from each other; places; indexes in a shape.
  Words for memory: slabs. Walks: package array: fits, counts, within, inside.
  Walks: package array: counts, within, inside.
  Walks: package array: made.
  Walks: package array: Slice.
  Walks: package arrayarchiveref06: Same; package arrayarchivelaw06: agrees.
  Walks: package arrayarchivelaw06: agrees, Wide, sane.
  Walks: package arrayarchiveref06: Count, ValidShape.
  Walks: package arrayarchiveref06: Place.
  Walks: package arrayarchiveref06: through.
  Walks: package arrayarchiveref06: Counts.
  Walks: package arrayarchiveref06: Index.
  Walks: package arrayarchiveref06: Valid.
  Plain: what Paste, Fill, At, Resize say; what was pasted is cut out.
  Walks: package arrayarchiveref06: cutFits, Fits, sameShape, copied, isIndex; package array: inside; the law's Big.
  Walks: Fill, At, on both sides. Words: a struct whose list is appended to.
  Walks: At, on both sides.
  Words: known blocks that a walk keeps.
-/
import Derived.Test.YtpkhgdnkkdhlcaaGreatDoorTxtS
import Derived.Test.YtpkhgdnkkdhlcaaGreatDoorWords
import Derived.RangeFuncNested
import Derived.RangeFuncLeaves
import Derived.Test.YtpkhgdnkkdhlcaaGreatDoorProg
import Derived.Shelf.Abstract
import Derived.Shelf.RegionOpen
import Derived.OwnWalkIn
import Derived.TacticsInMore
import Derived.LoopNIn
import Derived.LoopIn
import Derived.LoopTactic
import Derived.WalkKit
import Derived.IntWalk
import Derived.Test.YtpkhgdnkkdhlcaaGreatDoorValA
import Derived.Test.YtpkhgdnkkdhlcaaGreatDoorHlX
import Derived.BigQuiet
import Derived.Deep.QuietTactic
import Derived.Test.YtpkhgdnkkdhlcaaGreatDoorFrX
import Derived.TacticsIn
import Derived.OrdersIn
import Derived.Lib.SmallJoins
import Derived.OneCell
import Derived.Test.YtpkhgdnkkdhlcaaGreatDoorValR
namespace Ix

/-- The product of sizes. -/
def prod : List Nat → Nat
  | [] => 1
  | s :: S => s * prod S
/-- The index at a place, in row-major order. -/
def idx : List Nat → Nat → List Nat
  | [], _ => []
  | _ :: S, k => k / prod S :: idx S (k % prod S)
/-- The place of an index. -/
def place : List Nat → List Nat → Nat
  | _ :: S, i :: I => i * prod S + place S I
  | _, _ => 0
theorem prod_le {M : Nat} : ∀ S : List Nat, (∀ s ∈ S, s ≤ M) → prod S ≤ M ^ S.length
  | [], _ => Nat.le_refl _
  | s :: S, h => by
    have h1 := prod_le S (fun x hx => h x (by simp [hx]))
    have h2 := h s (by simp)
    show s * prod S ≤ M ^ (S.length + 1)
    rw [Nat.pow_succ, Nat.mul_comm]
    exact Nat.mul_le_mul h1 h2

/-- A cut: start, count, step. -/
abbrev Cut := Int × Int × Int
/-- A cut of a cut. -/
def both1 (a b : Cut) : Cut := (if 0 < b.2.1 then a.1 + b.1 * a.2.2 else a.1, b.2.1, if 1 < b.2.1 then a.2.2 * b.2.2 else 1)
def both : List Cut → List Cut → List Cut
  | a :: A, b :: B => both1 a b :: both A B
  | _, _ => []
end Ix

namespace Go.Proofs.YtpkhgdnkkdhlcaaGreatDoor
open Go.RowKit Ix

/-- Ints as cells. -/
def zints (l : List Int) : List Value := l.map (Value.int .i64)
theorem zints_len (l : List Int) : (zints l).length = l.length := List.length_map _
theorem zints_nat (l : List Nat) : zints (l.map Int.ofNat) = ints .i64 l := by simp [zints, ints, List.map_map, Function.comp_def]
/-- A list of ints in memory. -/
def IsI (w : World) (B : Nat) (v : Value) (l : List Int) : Prop := ∃ A c, v = .slice A l.length c ∧ l.length ≤ c ∧ Rd w B A (zints l)
section
variable {w w' : World} {B B' : Nat} {v : Value}
theorem IsI.more {l : List Int} (h : IsI w B v l) (hB : B ≤ B') : IsI w B' v l := by obtain ⟨A, c, e, h1, h3⟩ := h; exact ⟨A, c, e, h1, h3.more hB⟩
theorem IsI.below {l : List Int} (h : IsI w B v l) (hb : Below B w w') : IsI w' B v l := by obtain ⟨A, c, e, h1, h3⟩ := h; exact ⟨A, c, e, h1, h3.below hb⟩
theorem IsI.next {l : List Int} (h : IsI w w.heap.size v l) (hb : Below w.heap.size w w') : IsI w' w'.heap.size v l := (h.below hb).more hb.size
theorem IsI.form {l : List Int} (h : IsI w B v l) : ∃ A c, v = .slice A l.length c ∧ l.length ≤ c := by obtain ⟨A, c, e, h1, _⟩ := h; exact ⟨A, c, e, h1⟩
theorem IsI.rd {l : List Int} {A : Option Addr} {n c : Nat} (h : IsI w B (.slice A n c) l) : Rd w B A (zints l) := by
  obtain ⟨A', c', e, _, h3⟩ := h; cases e; exact h3
theorem IsI.nil (w : World) (B : Nat) : IsI w B (.slice none 0 0) [] := ⟨none, 0, rfl, Nat.le_refl _, Rd.nil⟩
theorem IsI.of_own {base : Nat} {T : TypeId} {n : Nat} {l : List Int} (h : w.ownsRow base T 1 v n (zints l)) : IsI w w.heap.size v l := by
  have hl : l.length = n := by have := h.1; rwa [zints_len, Nat.mul_one] at this
  rcases h.2 with ⟨rfl, rfl⟩ | ⟨g, cap, cur, rfl, _, _, hc, _⟩
  · obtain rfl : l = [] := List.eq_nil_of_length_eq_zero hl
    exact IsI.nil _ _
  · exact ⟨_, cap, by rw [hl], by omega, Rd.of_own h⟩
theorem IsI.of_bk {g : Nat} {T : TypeId} {l : List Int} (h : Bk w g T (zints l).toArray) : IsI w w.heap.size (.slice (some ⟨g, 0, none⟩) l.length l.length) l := ⟨_, _, rfl, Nat.le_refl _, by simpa using h.rd⟩
end
/-- An array: its shape and its values. -/
abbrev Arr := List Int × List ByteArray
def IsA (w : World) (B : Nat) (v : Value) (a : Arr) : Prop := ∃ s t, v = .agg #[s, t] ∧ IsI w B s a.1 ∧ IsT w B t a.2
section
variable {w w' : World} {B B' : Nat} {v : Value} {a : Arr}
theorem IsA.more (h : IsA w B v a) (hB : B ≤ B') : IsA w B' v a := by obtain ⟨s, t, e, h1, h2⟩ := h; exact ⟨s, t, e, h1.more hB, h2.more hB⟩
theorem IsA.below (h : IsA w B v a) (hb : Below B w w') : IsA w' B v a := by obtain ⟨s, t, e, h1, h2⟩ := h; exact ⟨s, t, e, h1.below hb, h2.below hb⟩
theorem IsA.next (h : IsA w w.heap.size v a) (hb : Below w.heap.size w w') : IsA w' w'.heap.size v a := (h.below hb).more hb.size
theorem IsA.form (h : IsA w B v a) : ∃ A c A' c', v = .agg #[.slice A a.1.length c, .slice A' a.2.length c'] ∧ a.1.length ≤ c ∧ a.2.length ≤ c' := by
  obtain ⟨s, t, rfl, h1, h2⟩ := h
  obtain ⟨A, c, rfl, k1⟩ := h1.form
  obtain ⟨A', c', rfl, k2⟩ := h2.form
  exact ⟨A, c, A', c', rfl, k1, k2⟩
theorem IsA.parts {A A' : Option Addr} {n c n' c' : Nat} (h : IsA w B (.agg #[.slice A n c, .slice A' n' c']) a) : IsI w B (.slice A n c) a.1 ∧ IsT w B (.slice A' n' c') a.2 := by
  obtain ⟨s, t, e, h1, h2⟩ := h
  simp only [Value.agg.injEq, Array.mk.injEq, List.cons.injEq, and_true] at e
  obtain ⟨rfl, rfl⟩ := e
  exact ⟨h1, h2⟩
theorem IsA.zero (w : World) (B : Nat) : IsA w B (.agg #[.slice none 0 0, .slice none 0 0]) ([], []) := ⟨_, _, rfl, IsI.nil _ _, IsT.nil _ _⟩
end
/-- A valid shape. -/
def VS (S : List Int) : Prop := S.length ≤ 4 ∧ (∀ s ∈ S, 0 ≤ s ∧ s ≤ 1024) ∧ prod (S.map Int.toNat) ≤ 4096
theorem nats_back {S : List Int} (h : ∀ s ∈ S, 0 ≤ s) : (S.map Int.toNat).map Int.ofNat = S := by
  rw [List.map_map]
  calc S.map (Int.ofNat ∘ Int.toNat) = S.map id := List.map_congr_left fun s hs => by
        have := h s hs
        show ((s.toNat : Nat) : Int) = s
        omega
    _ = S := List.map_id _
theorem VS.cells {S : List Int} (h : VS S) : zints S = ints .i64 (S.map Int.toNat) := by
  rw [← zints_nat, nats_back fun s hs => (h.2.1 s hs).1]
end Go.Proofs.YtpkhgdnkkdhlcaaGreatDoor

namespace Go.Proofs.YtpkhgdnkkdhlcaaGreatDoor
open Go.RowKit Ix

/-- Small sizes. -/
structure Sz4 (S : List Nat) : Prop where
  len : S.length ≤ 4
  le : ∀ s ∈ S, s ≤ 1024
theorem Sz4.prod {S : List Nat} (h : Sz4 S) : prod S ≤ 1099511627776 := by
  have h1 := prod_le S h.le
  have h2 : 1024 ^ S.length ≤ 1024 ^ 4 := Nat.pow_le_pow_right (by decide) h.len
  omega
theorem Sz4.take {S : List Nat} (h : Sz4 S) (k : Nat) : Sz4 (S.take k) := ⟨by have := h.len; rw [List.length_take]; omega, fun s hs => h.le s (List.mem_of_mem_take hs)⟩
/-- What it wants kept. -/
def IdxKeep (S : List Nat) (Bs n₀ : Nat) (A : Option Addr) (c X k : Nat) (W : World) : Prop :=
  Bk W X 3 (ints .i64 (idx S k)).toArray ∧ W.cell? ⟨Bs, 0, none⟩ = some (.slice A S.length c) ∧ Rd W n₀ A (ints .i64 S)
end Go.Proofs.YtpkhgdnkkdhlcaaGreatDoor

namespace Go.Proofs.YtpkhgdnkkdhlcaaGreatDoor
open Go.RowKit Ix Ar

noncomputable def valB (s : ByteArray) : Bool := @decide (IsVal s.data.toList) (Classical.propDecidable _)
end Go.Proofs.YtpkhgdnkkdhlcaaGreatDoor

namespace Go.Proofs.YtpkhgdnkkdhlcaaGreatDoor
open Go.RowKit Ix Ar

/-- Small sizes that came in as ints. -/
theorem VS.sz {S : List Int} (h : VS S) : Sz4 (S.map Int.toNat) := ⟨by rw [List.length_map]; exact h.1, fun s hs => by
  obtain ⟨x, hx, rfl⟩ := List.mem_map.1 hs
  have := h.2.1 x hx; omega⟩
/-- A valid array. -/
def VA (a : Arr) : Prop := VS a.1 ∧ a.2.length = Ix.prod (a.1.map Int.toNat) ∧ ∀ s ∈ a.2, IsVal s.data.toList
end Go.Proofs.YtpkhgdnkkdhlcaaGreatDoor

namespace Go.Proofs.YtpkhgdnkkdhlcaaGreatDoor
open Go.RowKit Ix Ar

theorem Sz4.drop {S : List Nat} (h : Sz4 S) (k : Nat) : Sz4 (S.drop k) := ⟨by have := h.len; rw [List.length_drop]; omega, fun s hs => h.le s (List.mem_of_mem_drop hs)⟩

end Go.Proofs.YtpkhgdnkkdhlcaaGreatDoor

namespace Go.Proofs.YtpkhgdnkkdhlcaaGreatDoor
open Go.RowKit Ix Ar

/-- A slab's cells. -/
def krow (l : List Cut) : List Value := l.flatMap fun c => [.int .i64 c.1, .int .i64 c.2.1, .int .i64 c.2.2]
/-- A slab in memory. -/
def IsK (w : World) (B : Nat) (v : Value) (l : List Cut) : Prop := ∃ A c, v = .slice A l.length c ∧ l.length ≤ c ∧ Rd w B A (krow l)
section
variable {w w' : World} {B B' : Nat} {v : Value} {l : List Cut}
theorem IsK.more (h : IsK w B v l) (hB : B ≤ B') : IsK w B' v l := by obtain ⟨A, c, e, h1, h3⟩ := h; exact ⟨A, c, e, h1, h3.more hB⟩
theorem IsK.below (h : IsK w B v l) (hb : Below B w w') : IsK w' B v l := by obtain ⟨A, c, e, h1, h3⟩ := h; exact ⟨A, c, e, h1, h3.below hb⟩
theorem IsK.next (h : IsK w w.heap.size v l) (hb : Below w.heap.size w w') : IsK w' w'.heap.size v l := (h.below hb).more hb.size
theorem IsK.form (h : IsK w B v l) : ∃ A c, v = .slice A l.length c ∧ l.length ≤ c := by obtain ⟨A, c, e, h1, _⟩ := h; exact ⟨A, c, e, h1⟩
theorem IsK.rd {A : Option Addr} {n c : Nat} (h : IsK w B (.slice A n c) l) : Rd w B A (krow l) := by
  obtain ⟨A', c', e, _, h3⟩ := h; cases e; exact h3
theorem IsK.nil (w : World) (B : Nat) : IsK w B (.slice none 0 0) [] := ⟨none, 0, rfl, Nat.le_refl _, Rd.nil⟩
end
end Go.Proofs.YtpkhgdnkkdhlcaaGreatDoor

namespace Go.Proofs.YtpkhgdnkkdhlcaaGreatDoor
open Go.RowKit Ix Ar

end Go.Proofs.YtpkhgdnkkdhlcaaGreatDoor

namespace Go.Proofs.YtpkhgdnkkdhlcaaGreatDoor
open Go.RowKit Ix Ar
attribute [local go_sem] Oper.semAt_some

theorem Rd.own {W W' : World} {B : Nat} {A : Option Addr} {xs : List Value} (h : Rd W B A xs) {row : Option Nat} (hg : W.grownBy W' row) (hr : ∀ r, row = some r → ∃ o : Obj, W.heap[r]? = some o ∧ o.isCells = false) : Rd W' B A xs := fun hn => by
  obtain ⟨ad, e, hb, hc⟩ := h hn
  exact ⟨ad, e, hb, fun j u hu => cell_kept (hc j u hu) hg hr⟩
theorem IdxKeep.put {S : List Nat} {Bs n₀ : Nat} {A : Option Addr} {c X k : Nat} {W : World} (h : IdxKeep S Bs n₀ A c X k W) {l : Nat} {o : Obj} (o' : Obj) (hl : W.heap[l]? = some o) (ho : o.isCells = false) : IdxKeep S Bs n₀ A c X k (W.putObj l o') := by
  obtain ⟨h1, h2, h3⟩ := h
  have hg := grownBy_putObj' W l o'
  have hr : ∀ r, some l = some r → ∃ o : Obj, W.heap[r]? = some o ∧ o.isCells = false := fun r e => by cases e; exact ⟨o, hl, ho⟩
  refine ⟨h1.grown hg (fun e => ?_), cell_kept h2 hg hr, h3.own hg hr⟩
  cases e
  rw [show W.heap[X]? = _ from h1] at hl
  cases hl; cases ho

end Go.Proofs.YtpkhgdnkkdhlcaaGreatDoor

namespace Go.Proofs.YtpkhgdnkkdhlcaaGreatDoor
open Go.RowKit Ix Ar

end Go.Proofs.YtpkhgdnkkdhlcaaGreatDoor

namespace Go.Proofs.YtpkhgdnkkdhlcaaGreatDoor
open Go.RowKit Ix Ar

end Go.Proofs.YtpkhgdnkkdhlcaaGreatDoor

namespace Go.Proofs.YtpkhgdnkkdhlcaaGreatDoor
open Go.RowKit Ix Ar

theorem IsK.of_bk {w : World} {g : Nat} {T : TypeId} {l : List Cut} (h : Bk w g T (krow l).toArray) : IsK w w.heap.size (.slice (some ⟨g, 0, none⟩) l.length l.length) l := ⟨_, _, rfl, Nat.le_refl _, by simpa using h.rd⟩
end Go.Proofs.YtpkhgdnkkdhlcaaGreatDoor

namespace Go.Proofs.YtpkhgdnkkdhlcaaGreatDoor
open Go.RowKit Ix Ar

end Go.Proofs.YtpkhgdnkkdhlcaaGreatDoor

namespace Go.Proofs.YtpkhgdnkkdhlcaaGreatDoor
open Go.RowKit Ix Ar

end Go.Proofs.YtpkhgdnkkdhlcaaGreatDoor

namespace Go.Proofs.YtpkhgdnkkdhlcaaGreatDoor
open Go.RowKit Ix Ar

end Go.Proofs.YtpkhgdnkkdhlcaaGreatDoor

namespace Go.Proofs.YtpkhgdnkkdhlcaaGreatDoor
open Go.RowKit Ix Ar

end Go.Proofs.YtpkhgdnkkdhlcaaGreatDoor

namespace Go.Proofs.YtpkhgdnkkdhlcaaGreatDoor
open Go.RowKit Ix Ar

end Go.Proofs.YtpkhgdnkkdhlcaaGreatDoor

namespace Go.Proofs.YtpkhgdnkkdhlcaaGreatDoor
open Go.RowKit Ix Ar

end Go.Proofs.YtpkhgdnkkdhlcaaGreatDoor

namespace Go.Proofs.YtpkhgdnkkdhlcaaGreatDoor
open Go.RowKit Ix Ar

/-- An index of a shape, in ints. -/
def InI (S I : List Int) : Prop := I.length = S.length ∧ ∀ j, j < S.length → 0 ≤ I.getD j 0 ∧ I.getD j 0 < S.getD j 0
theorem InI.pos {S I : List Int} (h : InI S I) : ∀ s ∈ I, 0 ≤ s := fun s hs => by
  obtain ⟨j, hj, rfl⟩ := List.mem_iff_getElem.1 hs
  have := (h.2 j (by rw [← h.1]; exact hj)).1
  rw [List.getD_eq_getElem?_getD, List.getElem?_eq_getElem hj] at this
  exact this
end Go.Proofs.YtpkhgdnkkdhlcaaGreatDoor

namespace Go.Proofs.YtpkhgdnkkdhlcaaGreatDoor
open Go.RowKit Ix Ar

end Go.Proofs.YtpkhgdnkkdhlcaaGreatDoor

namespace Go.Proofs.YtpkhgdnkkdhlcaaGreatDoor
open Go.RowKit Ix Ar

/-- A known block: its number, its element type, its cells. -/
abbrev Bx := Nat × TypeId × Array Value
section
variable {w W W' : World} {lo ob : Nat} {ks : List Bx} {sv : Value} {S : List Int} {v v' : Value} {l : List ByteArray}
end
end Go.Proofs.YtpkhgdnkkdhlcaaGreatDoor

namespace Go.Proofs.YtpkhgdnkkdhlcaaGreatDoor
open Go.RowKit Ix Ar

end Go.Proofs.YtpkhgdnkkdhlcaaGreatDoor

namespace Go.Proofs.YtpkhgdnkkdhlcaaGreatDoor
open Go.RowKit Ix Ar

/-- Known blocks. -/
structure BxW (w : World) (ks : List Bx) (W : World) : Prop where
  below : Below w.heap.size w W
  keep : ∀ p ∈ ks, Bk W p.1 p.2.1 p.2.2
section
variable {w W W' : World} {ks : List Bx}
theorem BxW.nil (w : World) : BxW w [] w := ⟨Below.refl _ _, fun p hp => by cases hp⟩
theorem BxW.next (h : BxW w ks W) (hb : Below W.heap.size W W') : BxW w ks W' := ⟨h.below.trans (hb.mono h.below.size), fun p hp => (h.keep p hp).next' hb⟩
theorem BxW.drew (h : BxW w ks W) : BxW w ks W.drew := ⟨h.below.drew, h.keep⟩
theorem BxW.new (h : BxW w ks W) (t : TypeId) (cs : Array Value) : BxW w (ks ++ [(W.heap.size, t, cs)]) (W.alloc (.cells cs t)) := ⟨h.below.alloc h.below.size _, fun p hp => by
  rcases List.mem_append.1 hp with h1 | h1
  · exact (h.keep p h1).alloc _
  · simp at h1; subst h1; exact Bk.new _ _ _⟩
theorem BxW.start3 (w : World) (t1 t2 t3 : TypeId) (c1 c2 c3 : Array Value) : BxW w [(w.heap.size, t1, c1), (w.heap.size + 1, t2, c2), (w.heap.size + 2, t3, c3)] (((w.alloc (.cells c1 t1)).alloc (.cells c2 t2)).alloc (.cells c3 t3)) := by
  have h := (((BxW.nil w).new t1 c1).new t2 c2).new t3 c3
  simpa using h
theorem BxW.one {p : Bx} (h : BxW w (p :: ks) W) : Bk W p.1 p.2.1 p.2.2 := h.keep _ List.mem_cons_self
theorem BxW.two {p q : Bx} (h : BxW w (p :: q :: ks) W) : Bk W q.1 q.2.1 q.2.2 := h.keep _ (by simp)
theorem BxW.three {p q r : Bx} (h : BxW w (p :: q :: r :: ks) W) : Bk W r.1 r.2.1 r.2.2 := h.keep _ (by simp)
theorem BxW.four {p q r s : Bx} (h : BxW w (p :: q :: r :: s :: ks) W) : Bk W s.1 s.2.1 s.2.2 := h.keep _ (by simp)
end
end Go.Proofs.YtpkhgdnkkdhlcaaGreatDoor
