/-
  Words: an append at an operation of a region that draws its order; two operations that may come up; such a region where a function is ranged over. A row of texts of the call's own that is written.
  Walk: slices.Equal of ints.
  Walk: the reference's Slice.
  Walk: package array: Paste. Words: a row of texts of the call's own that is written.
  Walk: package array: Paste, whole.
  Walk: the reference's Paste.
  Walk: the reference's Paste, whole.
-/
import Derived.Test.YtgnffedncjjkfaaDoorArxP
import Derived.Test.YtgnffedncjjkfaaDoorHeldN
import Derived.Sort.CutIn
namespace Go.Proofs.YtgnffedncjjkfaaDoor
open Go.RowKit Ix Ar

theorem step_append_own {P : Program} {w : World} {o : Oper} {a : Act} {K : Act → World → Prop} {Q : Exit → Act → World → Prop} (s x : Operand) (t : TypeId)
    (ho : o.op = .call { callee := .builtin .append, args := #[s, x], argTypes := #[t, t] })
    (base : Nat) (e : TypeId) (i : TypeInfo) (z : Value) (size bytes : Nat) (ht : P.underlying t = some (.slice e)) (hi : P.info? e = some i) (hz : i.zero = some z)
    (hsize : i.size = size) (hby : i.bytes = bytes) (hzs : z.cells.size = size) (hsz : 0 < size)
    (v : Value) (n : Nat) (xs : List Value) (hs : a.eval s = v) (hown : w.ownsRow base e size v n xs)
    (ad : Addr) (m c : Nat) (news : List Value) (hx : a.eval x = .slice (some ad) m c) (hl : news.length = m * size) (hnews : ∀ j u, news[j]? = some u → w.cell? (ad.add j) = some u) (h1 : ∀ u ∈ news, u.oneCell' = true)
    (h63 : n + m ≤ maxLen) (hbytes : (n + m) * bytes ≤ 140737488355328) (hbase : base ≤ w.heap.size)
    (h : ∀ v' w', w'.ownsRow base e size v' (n + m) (xs ++ news) → w.grownBy w' v.ownBlock → K (a.put o.dst v') w') :
    Oper.wp P o a w K Q := by
  obtain ⟨v', w', hr, h2, h3, _, _⟩ := run_append_own_at (P := P) w base t o.type e i z size bytes ht hi hz hsize hby hzs hsz v n xs hown ad m c news hl hnews h1 h63 hbytes hbase
  unfold Oper.wp execOp
  simp only [ho, resolve, invoke, builtin, Sem.run_bind, Sem.run_pure, Result.andThen_ok, List.map_toArray, List.map_cons, List.map_nil, hs, hx, hr]
  exact h v' w' h2 h3

section
variable {P : Program} {md : Region.Mode} {Q : Exit → Act → World → Prop} {S : World → Prop} {l : List Oper} {i j : Nat} {oi oj : Oper} {fuel : Nat} {listed : Array Bool} {a : Act} {w : World}
end
section
variable {P : Program} {ops : Array Oper} {Q : Exit → Act → World → Prop} {md : Region.Mode} {n : Nat}
end
/-- A text of a row of the call's own. -/
theorem own_text {w : World} {base : Nat} {T : TypeId} {v : Value} {l : List ByteArray} (h : w.ownsRow base T 1 v l.length (strs l)) {j : Nat} (hj : j < l.length) :
    ∃ g c, v = .slice (some ⟨g, 0, none⟩) l.length c ∧ base ≤ g ∧ w.cell? ⟨g, j, none⟩ = some (.string l[j]) ∧ w.frozen? ⟨g, j, none⟩ = false ∧ ∀ x, (w.setCell ⟨g, j, none⟩ (.string x)).ownsRow base T 1 v l.length (strs (l.set j x)) := by
  rcases h.2 with ⟨rfl, e⟩ | ⟨g, cap, cur, rfl, hbg, hg, hnc, hcm, hcs, htake⟩
  · rw [e] at hj; exact absurd hj (Nat.not_lt_zero _)
  have hb : Bk w g T cur := hg
  have hj2 : j < cur.size := by rw [hcs]; omega
  have hcell : cur[j]? = some (.string l[j]) := by
    have h1 : (cur.toList.take (l.length * 1))[j]? = (strs l)[j]? := by rw [htake]
    rw [List.getElem?_take_of_lt (by omega)] at h1
    rw [Array.getElem?_toList] at h1
    rw [h1]
    simp [strs, List.getElem?_eq_getElem hj]
  refine ⟨g, cap, rfl, hbg, (hb.cell j).trans hcell, hb.frozen j, fun x => ⟨by rw [strs_len, List.length_set, Nat.mul_one], .inr ⟨g, cap, cur.setIfInBounds j (.string x), rfl, hbg, hb.put j _, hnc, hcm, by rw [Array.size_setIfInBounds]; exact hcs, ?_⟩⟩⟩
  have e1 : strs (l.set j x) = (strs l).set j (.string x) := by simp [strs, List.map_set]
  rw [e1, ← htake, Array.toList_setIfInBounds, List.take_set]

end Go.Proofs.YtgnffedncjjkfaaDoor

namespace Go.Proofs.YtgnffedncjjkfaaDoor
open Go.RowKit Ix Ar

end Go.Proofs.YtgnffedncjjkfaaDoor

namespace Go.Proofs.YtgnffedncjjkfaaDoor
open Go.RowKit Ix Ar
attribute [local go_sem] Oper.semAt_some

/-- Known blocks, a shape, and a row of texts of the call's own. -/
structure PsAt (w : World) (lo base : Nat) (ks : List Bx) (sv vv : Value) (S : List Int) (l : List ByteArray) (W : World) : Prop where
  below : Below w.heap.size w W
  keep : ∀ p ∈ ks, Bk W p.1 p.2.1 p.2.2
  own : W.ownsRow base 9 1 vv l.length (strs l)
  shape : IsI W lo sv S
  size : lo ≤ W.heap.size
  wlo : w.heap.size ≤ lo
  wbase : w.heap.size ≤ base
  lt : ∀ p ∈ ks, p.1 < lo
  olt : ∀ g, vv.ownBlock = some g → g < lo ∧ ∀ p ∈ ks, p.1 ≠ g
section
variable {w W W' : World} {lo base : Nat} {ks : List Bx} {sv vv : Value} {S : List Int} {l : List ByteArray}
theorem PsAt.grown (h : PsAt w lo base ks sv vv S l W) {row : Option Nat} (hg : W.grownBy W' row) (hr : ∀ r, row = some r → lo ≤ r) : PsAt w lo base ks sv vv S l W' := by
  have far : ∀ j : Nat, j < lo → some j ≠ row := fun j hj e => by have := hr j e.symm; omega
  refine ⟨h.below.grown hg h.below.size (fun r e => Nat.le_trans h.wlo (hr r e)), fun p hp => (h.keep p hp).grown hg (far _ (h.lt p hp)), h.own.kept hg ?_, ?_, Nat.le_trans h.size hg.size, h.wlo, h.wbase, h.lt, h.olt⟩
  · cases e : vv.ownBlock with
    | none => exact .inl rfl
    | some g => exact .inr (far g (h.olt g e).1)
  · obtain ⟨A, c, e, h1, h3⟩ := h.shape
    exact ⟨A, c, e, h1, h3.grown hg h.size hr⟩
theorem PsAt.next (h : PsAt w lo base ks sv vv S l W) (hb : Below W.heap.size W W') : PsAt w lo base ks sv vv S l W' := h.grown (grown_of_below hb none) (fun r e => by cases e)
theorem PsAt.drew (h : PsAt w lo base ks sv vv S l W) : PsAt w lo base ks sv vv S l W.drew := ⟨h.below.drew, h.keep, h.own, h.shape, h.size, h.wlo, h.wbase, h.lt, h.olt⟩
theorem PsAt.add (h : PsAt w lo base ks sv vv S l W) (ps : List Bx) (hp : ∀ p ∈ ps, Bk W p.1 p.2.1 p.2.2) (hne : ∀ p ∈ ps, lo ≤ p.1) : PsAt w W.heap.size base (ks ++ ps) sv vv S l W := by
  refine ⟨h.below, fun q hq => ?_, h.own, h.shape.more h.size, Nat.le_refl _, h.below.size, h.wbase, fun q hq => ?_, fun g e => ⟨Nat.lt_of_lt_of_le (h.olt g e).1 h.size, fun q hq => ?_⟩⟩
  · rcases List.mem_append.1 hq with h1 | h1
    · exact h.keep q h1
    · exact hp q h1
  · rcases List.mem_append.1 hq with h1 | h1
    · exact Nat.lt_of_lt_of_le (h.lt q h1) h.size
    · exact (hp q h1).lt
  · rcases List.mem_append.1 hq with h1 | h1
    · exact (h.olt g e).2 q h1
    · have := (h.olt g e).1; have := hne q h1; omega
theorem PsAt.set (h : PsAt w lo base ks sv vv S l W) {j : Nat} (hj : j < l.length) : ∃ g c, vv = .slice (some ⟨g, 0, none⟩) l.length c ∧ g < lo ∧ w.heap.size ≤ g ∧ (∀ p ∈ ks, p.1 ≠ g) ∧ W.cell? ⟨g, j, none⟩ = some (.string l[j]) ∧ W.frozen? ⟨g, j, none⟩ = false ∧ ∀ x, PsAt w lo base ks sv vv S (l.set j x) (W.setCell ⟨g, j, none⟩ (.string x)) := by
  obtain ⟨g, c, e, hg, h1, h2, h3⟩ := own_text h.own hj
  have ho := h.olt g (by rw [e]; rfl)
  refine ⟨g, c, e, ho.1, Nat.le_trans h.wbase hg, ho.2, h1, h2, fun x => ⟨h.below.setCell (p := ⟨g, j, none⟩) (Nat.le_trans h.wbase hg) _, fun p hp => (h.keep p hp).far (ho.2 p hp) _, ?_, ?_, by rw [sz_setCell]; exact h.size, h.wlo, h.wbase, h.lt, h.olt⟩⟩
  · rw [List.length_set]; exact h3 x
  · obtain ⟨A, c', e', k1, k3⟩ := h.shape
    exact ⟨A, c', e', k1, k3.put_out h1 (by simp [zints]) _⟩
theorem IsA.own {B : Nat} {v : Value} {a : Arr} (h : IsA W B v a) {row : Option Nat} (hg : W.grownBy W' row) (hr : ∀ r, row = some r → ∃ o : Obj, W.heap[r]? = some o ∧ o.isCells = false) : IsA W' B v a := by
  obtain ⟨s, t, e, ⟨A1, c1, e1, l1, r1⟩, ⟨A2, c2, e2, l2, r2⟩⟩ := h
  exact ⟨s, t, e, ⟨A1, c1, e1, l1, r1.own hg hr⟩, ⟨A2, c2, e2, l2, r2.own hg hr⟩⟩
theorem PsAt.make {ob : Nat} {V : List ByteArray} (B : BxW w ks W) (kb : Bk W ob 41 #[.slice none 0 0, .slice none 0 0]) (hI : IsI W W.heap.size sv S) (own : W.ownsRow base 9 1 vv V.length (strs V)) (hbase : w.heap.size ≤ base)
    (hk : ∀ p ∈ ks, p.1 < base) (hk2 : ∀ p ∈ ks, p.1 < ob) (ho : ob < base ∨ ∀ g, vv.ownBlock = some g → g < ob) (hob : w.heap.size ≤ ob) :
    PsAt w ((W.setCell ⟨ob, 0, none⟩ sv).setCell ⟨ob, 1, none⟩ vv).heap.size base (ks ++ [(ob, 41, #[sv, vv])]) sv vv S V ((W.setCell ⟨ob, 0, none⟩ sv).setCell ⟨ob, 1, none⟩ vv) := by
  have e0 : ((W.setCell ⟨ob, 0, none⟩ sv).setCell ⟨ob, 1, none⟩ vv).heap.size = W.heap.size := by rw [sz_setCell, sz_setCell]
  rw [e0]
  have hne : ∀ g, vv.ownBlock = some g → g ≠ ob := fun g e => by
    have := (own.lt g e).1
    rcases ho with h | h
    · omega
    · have := h g e; omega
  obtain ⟨d0, d1⟩ := bkA kb
  have k1 := (kb.put 0 sv).put 1 vv
  refine ⟨(B.below.setCell (p := ⟨ob, 0, none⟩) hob _).setCell (p := ⟨ob, 1, none⟩) hob _, fun q hq => ?_, OwnsRow_far (OwnsRow_far own (fun e => hne ob e rfl) _) (fun e => hne ob e rfl) _, ?_, by rw [sz_setCell, sz_setCell]; exact Nat.le_refl _, B.below.size, hbase, fun q hq => ?_, fun g e => ⟨(own.lt g e).2, fun q hq => ?_⟩⟩
  · rcases List.mem_append.1 hq with h1 | h1
    · exact ((B.keep q h1).far (by have := hk2 q h1; show q.1 ≠ ob; omega) _).far (by have := hk2 q h1; show q.1 ≠ ob; omega) _
    · simp at h1; subst h1; simpa using k1
  · obtain ⟨A, c, e, l1, r1⟩ := hI
    exact ⟨A, c, e, l1, (r1.put_out d0 (slice_out _ _ _ _) _).put_out ((World.cell?_setCell_other W ⟨ob, 0, none⟩ ⟨ob, 1, none⟩ _ (fun e => by cases e)).trans d1) (slice_out _ _ _ _) _⟩
  · rcases List.mem_append.1 hq with h1 | h1
    · exact (B.keep q h1).lt
    · simp at h1; subst h1; exact kb.lt
  · rcases List.mem_append.1 hq with h1 | h1
    · have := (own.lt g e).1; have := hk q h1; omega
    · simp at h1; subst h1; exact fun e2 => hne g e e2.symm
end

end Go.Proofs.YtgnffedncjjkfaaDoor

namespace Go.Proofs.YtgnffedncjjkfaaDoor
open Go.RowKit Ix Ar

end Go.Proofs.YtgnffedncjjkfaaDoor

namespace Go.Proofs.YtgnffedncjjkfaaDoor
open Go.RowKit Ix Ar

theorem BxW.grown {w W W' : World} {ks : List Bx} (h : BxW w ks W) {row : Option Nat} (hg : W.grownBy W' row) (hr : ∀ r, row = some r → w.heap.size ≤ r ∧ ∀ p ∈ ks, p.1 ≠ r) : BxW w ks W' :=
  ⟨h.below.grown hg h.below.size (fun r e => (hr r e).1), fun p hp => (h.keep p hp).grown hg (fun e => (hr p.1 e.symm).2 p hp rfl)⟩
theorem PsAt.made {w W : World} {base ob : Nat} {ks : List Bx} {sv vv : Value} {S : List Int} {V : List ByteArray} (B : BxW w ks W) (kb : Bk W ob 41 #[.slice none 0 0, .slice none 0 0]) (hI : IsI W W.heap.size sv S) (own : W.ownsRow base 9 1 vv V.length (strs V)) (hbase : w.heap.size ≤ base)
    (hk : ∀ p ∈ ks, p.1 < base) (hk2 : ∀ p ∈ ks, p.1 < ob) (hne : ∀ g, vv.ownBlock = some g → g ≠ ob) (hob : w.heap.size ≤ ob) :
    PsAt w ((W.setCell ⟨ob, 0, none⟩ sv).setCell ⟨ob, 1, none⟩ vv).heap.size base (ks ++ [(ob, 41, #[sv, vv])]) sv vv S V ((W.setCell ⟨ob, 0, none⟩ sv).setCell ⟨ob, 1, none⟩ vv) := by
  have e0 : ((W.setCell ⟨ob, 0, none⟩ sv).setCell ⟨ob, 1, none⟩ vv).heap.size = W.heap.size := by rw [sz_setCell, sz_setCell]
  rw [e0]
  obtain ⟨d0, d1⟩ := bkA kb
  have k1 := (kb.put 0 sv).put 1 vv
  refine ⟨(B.below.setCell (p := ⟨ob, 0, none⟩) hob _).setCell (p := ⟨ob, 1, none⟩) hob _, fun q hq => ?_, OwnsRow_far (OwnsRow_far own (fun e => hne ob e rfl) _) (fun e => hne ob e rfl) _, ?_, by rw [sz_setCell, sz_setCell]; exact Nat.le_refl _, B.below.size, hbase, fun q hq => ?_, fun g e => ⟨(own.lt g e).2, fun q hq => ?_⟩⟩
  · rcases List.mem_append.1 hq with h1 | h1
    · exact ((B.keep q h1).far (by have := hk2 q h1; show q.1 ≠ ob; omega) _).far (by have := hk2 q h1; show q.1 ≠ ob; omega) _
    · simp at h1; subst h1; simpa using k1
  · obtain ⟨A, c, e, l1, r1⟩ := hI
    exact ⟨A, c, e, l1, (r1.put_out d0 (slice_out _ _ _ _) _).put_out ((World.cell?_setCell_other W ⟨ob, 0, none⟩ ⟨ob, 1, none⟩ _ (fun e => by cases e)).trans d1) (slice_out _ _ _ _) _⟩
  · rcases List.mem_append.1 hq with h1 | h1
    · exact (B.keep q h1).lt
    · simp at h1; subst h1; exact kb.lt
  · rcases List.mem_append.1 hq with h1 | h1
    · have := (own.lt g e).1; have := hk q h1; omega
    · simp at h1; subst h1; exact fun e2 => hne g e e2.symm

end Go.Proofs.YtgnffedncjjkfaaDoor

namespace Go.Proofs.YtgnffedncjjkfaaDoor
open Go.RowKit Ix Ar

end Go.Proofs.YtgnffedncjjkfaaDoor

