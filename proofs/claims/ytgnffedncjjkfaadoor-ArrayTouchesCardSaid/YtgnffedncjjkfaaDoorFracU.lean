/-
  Words for memory: fractions.
  Walks: package ratio's fractions: Make.
-/
import Derived.Test.YtgnffedncjjkfaaDoorNatU
import Derived.Test.YtgnffedncjjkfaaDoorTxt
import Derived.Test.YtgnffedncjjkfaaDoorNatH
import Derived.Deep.RegionHeld3
namespace Go.Proofs.YtgnffedncjjkfaaDoor
open Go.RowKit Ar

/-- A fraction in memory. -/
def IsF (w : World) (B : Nat) (v : Value) (q : Rat) : Prop := ∃ N D, v = .agg #[.bool (sg q), N, D] ∧ IsN w B .u32 N (nm q) ∧ IsN w B .u32 D (dn q)
section
variable {w w' : World} {B B' : Nat} {v : Value} {q : Rat}
theorem IsF.more (h : IsF w B v q) (hB : B ≤ B') : IsF w B' v q := by
  obtain ⟨N, D, e, h1, h2⟩ := h; exact ⟨N, D, e, h1.more hB, h2.more hB⟩
theorem IsF.below (h : IsF w B v q) (hb : Below B w w') : IsF w' B v q := by
  obtain ⟨N, D, e, h1, h2⟩ := h; exact ⟨N, D, e, h1.below hb, h2.below hb⟩
theorem IsF.next (h : IsF w w.heap.size v q) (hb : Below w.heap.size w w') : IsF w' w'.heap.size v q := (h.below hb).more hb.size
end
theorem IsF.of {w : World} {B : Nat} {N D : Value} {n d : Nat} {b : Bool} {q : Rat} (hs : sg q = b) (hn : nm q = n) (hd : dn q = d) (h1 : IsN w B .u32 N n) (h2 : IsN w B .u32 D d) : IsF w B (.agg #[.bool b, N, D]) q :=
  ⟨N, D, by rw [hs], by rw [hn]; exact h1, by rw [hd]; exact h2⟩
theorem IsN.form {w : World} {B : Nat} {k : IntKind} {v : Value} {n : Nat} (h : IsN w B k v n) : ∃ A l c, v = .slice A l c := by
  obtain ⟨A, c, e, _⟩ := h; exact ⟨A, _, c, e⟩
theorem below_alloc (w : World) (o : Obj) : Below w.heap.size w (w.alloc o) := (Below.refl _ _).alloc (Nat.le_refl _) _
theorem IsN.alloc {w : World} {k : IntKind} {v : Value} {n : Nat} (h : IsN w w.heap.size k v n) (o : Obj) : IsN (w.alloc o) (w.alloc o).heap.size k v n := h.next (below_alloc w o)
/-- A cell that held no number is written anew. -/
theorem Rd.put_far {w : World} {B : Nat} {A : Option Addr} {k : IntKind} {l : List Nat} (h : Rd w B A (ints k l)) {p : Addr} {u : Value} (hc : w.cell? p = some u) (hu : ∀ (k : IntKind) (i : Int), u ≠ .int k i) (x : Value) : Rd (w.setCell p x) B A (ints k l) := fun hn => by
  obtain ⟨ad, e, hb, h2⟩ := h hn
  refine ⟨ad, e, hb, fun j y hy => ?_⟩
  rw [World.cell?_setCell_other w p _ x (fun e => ?_)]
  · exact h2 j y hy
  · have := h2 j y hy
    rw [← e] at this
    rw [hc] at this
    injection this with this
    subst this
    have hm : u ∈ ints k l := List.mem_of_getElem? hy
    simp [ints] at hm
    obtain ⟨z, _, hz⟩ := hm
    exact hu _ _ hz.symm
theorem IsN.put_far {w : World} {B : Nat} {k : IntKind} {v : Value} {n : Nat} (h : IsN w B k v n) {p : Addr} {u : Value} (hc : w.cell? p = some u) (hu : ∀ (k : IntKind) (i : Int), u ≠ .int k i) (x : Value) : IsN (w.setCell p x) B k v n := by
  obtain ⟨A, c, e, h1, h3⟩ := h
  exact ⟨A, c, e, h1, h3.put_far hc hu x⟩
/-- Three fields are written. -/
def set3 (w : World) (b : Nat) (x y z : Value) : World := ((w.setCell ⟨b, 0, none⟩ x).setCell ⟨b, 1, none⟩ y).setCell ⟨b, 2, none⟩ z
theorem set3_bk {w : World} {b : Nat} {T : TypeId} {f x y z : Value} {N0 D0 : Value} (hb : Bk w b T #[f, N0, D0]) : Bk (set3 w b x y z) b T #[x, y, z] := by
  have := ((hb.put 0 x).put 1 y).put 2 z
  simpa [set3] using this
theorem set3_below {w w0 : World} {B b : Nat} {x y z : Value} (h : Below B w0 w) (hb : B ≤ b) : Below B w0 (set3 w b x y z) := ((h.setCell (by exact hb) x).setCell (by exact hb) y).setCell (by exact hb) z
theorem set3_size (w : World) (b : Nat) (x y z : Value) : (set3 w b x y z).heap.size = w.heap.size := by simp [set3, World.setCell]
theorem IsN.set3 {w : World} {B b : Nat} {k : IntKind} {v : Value} {n : Nat} (h : IsN w B k v n) {T : TypeId} {f : Bool} {A0 A1 : Option Addr} {l0 l1 c0 c1 : Nat} (hb : Bk w b T #[.bool f, .slice A0 l0 c0, .slice A1 l1 c1]) (x y z : Value)  : IsN (set3 w b x y z) B k v n := by
  have h0 := hb.cell 0
  have hb1 := hb.put 0 x
  have h1 := hb1.cell 1
  have hb2 := hb1.put 1 y
  have h2 := hb2.cell 2
  exact ((h.put_far h0 (fun _ _ e => by cases e) x).put_far h1 (fun _ _ e => by cases e) y).put_far h2 (fun _ _ e => by cases e) z
theorem IsF.set3 {w : World} {B b : Nat} {v : Value} {q : Rat} (h : IsF w B v q) {T : TypeId} {f : Bool} {A0 A1 : Option Addr} {l0 l1 c0 c1 : Nat} (hb : Bk w b T #[.bool f, .slice A0 l0 c0, .slice A1 l1 c1]) (x y z : Value) : IsF (set3 w b x y z) B v q := by
  obtain ⟨N, D, e, h1, h2⟩ := h
  exact ⟨N, D, e, h1.set3 hb x y z, h2.set3 hb x y z⟩
/-- The natural number 1 in a new block. -/
theorem IsN.new_one (w : World) (t : TypeId) : IsN (w.alloc (.cells #[.int .u32 1] t)) (w.heap.size + 1) .u32 (.slice (some ⟨w.heap.size, 0, none⟩) 1 1) 1 :=
  ⟨_, 1, by rw [limbs_one]; rfl, by rw [limbs_one]; exact Nat.le_refl _, by rw [limbs_one]; exact Rd.of_new w [.int .u32 1] t⟩
end Go.Proofs.YtgnffedncjjkfaaDoor

namespace Go.Proofs.YtgnffedncjjkfaaDoor
open Go.RowKit Ar

end Go.Proofs.YtgnffedncjjkfaaDoor

