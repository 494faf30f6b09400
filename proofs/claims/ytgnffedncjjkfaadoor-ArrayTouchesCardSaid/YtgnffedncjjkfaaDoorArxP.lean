/-
  Plain: what Paste, Fill, At, Resize say; what was pasted is cut out.
  Walks: package arrayarchiveref06: cutFits, Fits, sameShape, copied, isIndex; package array: inside; the law's Big.
  Walks: Fill, At, on both sides. Words: a struct whose list is appended to.
  Walks: At, on both sides.
  Words: known blocks that a walk keeps.
-/
import Derived.Test.YtgnffedncjjkfaaDoorArxF
import Derived.Test.YtgnffedncjjkfaaDoorArxJ
import Derived.Test.YtgnffedncjjkfaaDoorQnX
import Derived.Test.YtgnffedncjjkfaaDoorFracU
import Derived.Test.YtgnffedncjjkfaaDoorQqU
import Derived.Laws.IdiomStrings
import Derived.Test.YtgnffedncjjkfaaDoorQdivM
import Derived.Deep.CutRange
import Derived.Deep.CutBlock
import Derived.Lib.IndexBytes
import Derived.Test.YtgnffedncjjkfaaDoorValP
import Derived.Test.YtgnffedncjjkfaaDoorFracF
import Derived.Lib.OthersKept
import Derived.Test.YtgnffedncjjkfaaDoorArxH
namespace Go.Proofs.YtgnffedncjjkfaaDoor
open Go.RowKit Ix Ar

theorem OwnsRow_far {w : World} {base : Nat} {e : TypeId} {size : Nat} {v : Value} {n : Nat} {xs : List Value} (h : w.ownsRow base e size v n xs) {p : Addr} (hp : v.ownBlock ≠ some p.block) (u : Value) : (w.setCell p u).ownsRow base e size v n xs := by
  rcases h.2 with ⟨rfl, rfl⟩ | ⟨g, cap, cur, rfl, hbg, hg, hnc, hcm, hcs, htake⟩
  · exact ⟨h.1, .inl ⟨rfl, rfl⟩⟩
  · refine ⟨h.1, .inr ⟨g, cap, cur, rfl, hbg, ?_, hnc, hcm, hcs, htake⟩⟩
    exact (Below.heap_setCell w p u g (fun e => hp (by rw [← e]; rfl))).trans hg
/-- An index of a shape, in ints. -/
def InI (S I : List Int) : Prop := I.length = S.length ∧ ∀ j, j < S.length → 0 ≤ I.getD j 0 ∧ I.getD j 0 < S.getD j 0
theorem getD_map {l : List Int} {j : Nat} : (l.map Int.toNat).getD j 0 = (l.getD j 0).toNat := by
  rw [List.getD_eq_getElem?_getD, List.getD_eq_getElem?_getD, List.getElem?_map]
  cases l[j]? <;> rfl
theorem InI.nats {S I : List Int} (h : InI S I) : Inside (S.map Int.toNat) (I.map Int.toNat) := by
  refine (inside_iff _ _).2 ⟨by rw [List.length_map, List.length_map]; exact h.1, fun j hj => ?_⟩
  rw [List.length_map] at hj
  have := h.2 j hj
  rw [getD_map, getD_map]
  omega
end Go.Proofs.YtgnffedncjjkfaaDoor

namespace Go.Proofs.YtgnffedncjjkfaaDoor
open Go.RowKit Ix Ar

theorem bool_no {q : Bool} {p : Prop} (h : q = true ↔ p) (n : ¬ p) : q = false := by
  cases hh : q with
  | false => rfl
  | true => exact absurd (h.1 hh) n
theorem getD_zint {l : List Int} {k : Nat} (h : k < l.length) : l[k] = l.getD k 0 := by rw [List.getD_eq_getElem?_getD, List.getElem?_eq_getElem h]; rfl

set_option maxRecDepth 100000 in
set_option maxHeartbeats 1600000 in
theorem inside_any (S I : List Int) (A A' : Option Addr) (c c' B B' : Nat) (w : World) (hr : Rd w B A (zints S)) (hr' : Rd w B' A' (zints I)) (hL : S.length ≤ maxLen) (q : Bool) (hq : q = true ↔ InI S I) :
    Calls Tryd.prog 20 #[.slice A' I.length c', .slice A S.length c] w fun e w' => w = w' ∧ e = .returned (.bool q) := by
  unfold maxLen at hL
  by_cases hlen : I.length = S.length
  rotate_left
  · have hqf : q = false := bool_no hq fun h => hlen h.1
    have hne : ((I.length : Int) != (S.length : Int)) = true := by simp; omega
    subst hqf
    clear hq hlen
    go_enter Tryd.func20, Tryd.ntmps20
    go_wp2
    go_ret
    exact ⟨rfl, rfl⟩
  obtain ⟨n, hn⟩ : ∃ n, n = S.length := ⟨_, rfl⟩
  have HQ : Hid (q = true ↔ ∀ j, j < n → 0 ≤ I.getD j 0 ∧ I.getD j 0 < S.getD j 0) := by
    show _ ↔ _
    rw [hq, hn]
    exact ⟨fun h => h.2, fun h => ⟨hlen, h⟩⟩
  rw [hlen, ← hn]
  have HL := Lib.hid hlen
  have HN := Lib.hid hn
  have hn63 : n ≤ 9223372036854775807 := by omega
  clear hq hlen hn hL
  go_enter Tryd.func20, Tryd.ntmps20
  go_wp2_with fail
  go_loop [14] (fun i => ∃ k : Nat, k ≤ n ∧ i = .int .i64 k ∧ Hid (∀ j, j < k → 0 ≤ I.getD j 0 ∧ I.getD j 0 < S.getD j 0)) (fun i => n - (intOf i).toNat)
  case atStart => exact ⟨0, Nat.zero_le _, rfl, (fun j hj => absurd hj (Nat.not_lt_zero _))⟩
  case round =>
    obtain ⟨k, hk, rfl, HT⟩ := hrel
    by_cases hlt : k < n
    · obtain ⟨ad, rfl, hab, hs⟩ := hr.zint (j := k) (by rw [← HN.out]; exact hlt)
      obtain ⟨ad', rfl, hab', hi⟩ := hr'.zint (j := k) (by rw [HL.out, ← HN.out]; exact hlt)
      have HNX : Hid (0 ≤ I.getD k 0 ∧ I.getD k 0 < S.getD k 0 → ∀ j, j < k + 1 → 0 ≤ I.getD j 0 ∧ I.getD j 0 < S.getD j 0) := fun h j hj => by
        rcases Nat.lt_or_ge j k with h1 | h1
        · exact HT.out j h1
        · obtain rfl : j = k := by omega
          exact h
      have HBD : Hid (¬ (0 ≤ I.getD k 0 ∧ I.getD k 0 < S.getD k 0) → q = false) := fun h => bool_no HQ.out fun hh => h (hh k hlt)
      rw [getD_zint] at hs hi
      generalize I.getD k 0 = i at *
      generalize S.getD k 0 = s at *
      by_cases c1 : i < 0
      · have hqf := HBD.out (by omega)
        subst hqf
        clear HNX HBD
        go_wp2
        go_ret
        exact ⟨rfl, rfl⟩
      by_cases c2 : s ≤ i
      · have hqf := HBD.out (by omega)
        subst hqf
        clear HNX HBD
        go_wp2
        go_ret
        exact ⟨rfl, rfl⟩
      have HOK := Lib.hid (HNX.out ⟨by omega, by omega⟩)
      clear HNX HBD
      go_wp2
      go_round
      case rel => exact ⟨k + 1, by omega, by go_num, HOK.out⟩
      case measure => simp [intOf]; omega
    · have hqt : q = true := HQ.out.2 fun j hj => HT.out j (by omega)
      subst hqt
      clear HQ HT
      go_wp2
      go_ret
      exact ⟨rfl, rfl⟩

/-- Too large for a statement. -/
def Bigs (S : List Int) : Prop := 10 < S.length ∨ (VS S ∧ 200 < Ix.prod (S.map Int.toNat))
set_option maxRecDepth 100000 in
set_option maxHeartbeats 1600000 in
theorem big_any (S : List Int) (A : Option Addr) (c B : Nat) (w : World) (hr : Rd w B A (zints S)) (hL : S.length ≤ maxLen) (q : Bool) (hq : q = true ↔ Bigs S) :
    Calls Tryd.prog 4 #[.slice A S.length c] w fun e w' => w = w' ∧ e = .returned (.bool q) := by
  obtain ⟨qs, hqs⟩ : ∃ b : Bool, b = true ↔ VS S := by classical exact ⟨decide _, decide_eq_true_iff⟩
  have VS1 := Lib.hid (rvalidshape_any S A c B w hr hL qs hqs)
  have HQ : Hid (q = true ↔ Bigs S) := hq
  have HC := Lib.hid (fun (h : VS S) => rcount_any (S.map Int.toNat) A c B w h.sz (by rw [← h.cells]; exact hr))
  have HP := Lib.hid (fun (h : VS S) => h.sz.prod)
  unfold maxLen at hL
  clear hq hr
  by_cases h10 : 10 < S.length
  · have hqt : q = true := HQ.out.2 (.inl h10)
    subst hqt
    clear HQ HC HP VS1 hqs
    go_enter Tryd.func4, Tryd.ntmps4
    go_wp2
    go_ret
    exact ⟨rfl, rfl⟩
  cases hs : qs
  · have hqf : q = false := bool_no HQ.out fun h => by
      rcases h with h | ⟨h, _⟩
      · exact h10 h
      · rw [hqs.2 h] at hs; cases hs
    subst hqf
    subst hs
    clear HQ HC HP hqs
    go_enter Tryd.func4, Tryd.ntmps4
    go_wp2_with fail
    refine VS1.out.mono ?_
    rintro e w' ⟨rfl, rfl⟩
    go_wp2
    go_ret
    exact ⟨rfl, ret_bool (decide_eq_false (by omega))⟩
  · have hVS := hqs.1 hs
    subst hs
    have CC := HC.out hVS
    rw [List.length_map] at CC
    have CC := Lib.hid CC
    have hp := HP.out hVS
    have HQ2 : Hid (q = decide (200 < Ix.prod (S.map Int.toNat))) := by
      show _ = _
      rw [Bool.eq_iff_iff, HQ.out, decide_eq_true_eq]
      exact ⟨fun h => by rcases h with h | h; exact absurd h h10; exact h.2, fun h => .inr ⟨hVS, h⟩⟩
    generalize Ix.prod (S.map Int.toNat) = p at *
    clear HQ HC HP hqs hVS
    by_cases hp2 : 200 < p
    · have hqt := HQ2.out
      rw [decide_eq_true hp2] at hqt
      subst hqt
      clear HQ2
      go_enter Tryd.func4, Tryd.ntmps4
      go_wp2_with fail
      refine VS1.out.mono ?_
      rintro e w' ⟨rfl, rfl⟩
      go_wp2_with fail
      refine CC.out.mono ?_
      rintro e w' ⟨rfl, rfl⟩
      go_wp2
      go_ret
      exact ⟨rfl, ret_bool (by simp only [Bool.or_eq_true, decide_eq_true_eq]; omega)⟩
    · have hqt := HQ2.out
      rw [decide_eq_false hp2] at hqt
      subst hqt
      clear HQ2
      go_enter Tryd.func4, Tryd.ntmps4
      go_wp2_with fail
      refine VS1.out.mono ?_
      rintro e w' ⟨rfl, rfl⟩
      go_wp2_with fail
      refine CC.out.mono ?_
      rintro e w' ⟨rfl, rfl⟩
      go_wp2
      go_ret
      exact ⟨rfl, ret_bool (by simp only [Bool.or_eq_false_iff, decide_eq_false_iff_not]; omega)⟩
end Go.Proofs.YtgnffedncjjkfaaDoor

namespace Go.Proofs.YtgnffedncjjkfaaDoor
open Go.RowKit Ix Ar

/-- A known block: its number, its element type, its cells. -/
abbrev Bx := Nat × TypeId × Array Value
/-- An array under way, in block ob: its values are a row of the call's own, from block lo on. -/
structure AppAt (w : World) (lo ob : Nat) (ks : List Bx) (sv : Value) (S : List Int) (v : Value) (l : List ByteArray) (W : World) : Prop where
  below : Below w.heap.size w W
  keep : ∀ p ∈ ks, Bk W p.1 p.2.1 p.2.2
  box : Bk W ob 41 #[sv, v]
  own : W.ownsRow lo 9 1 v l.length (strs l)
  shape : IsI W lo sv S
  size : lo ≤ W.heap.size
  ord : w.heap.size ≤ ob ∧ ob < lo ∧ ∀ p ∈ ks, p.1 < lo ∧ p.1 ≠ ob
section
variable {w W W' : World} {lo ob : Nat} {ks : List Bx} {sv : Value} {S : List Int} {v v' : Value} {l : List ByteArray}
theorem AppAt.drew (h : AppAt w lo ob ks sv S v l W) : AppAt w lo ob ks sv S v l W.drew := ⟨h.below.drew, h.keep, h.box, h.own, h.shape, h.size, h.ord⟩
theorem AppAt.next (h : AppAt w lo ob ks sv S v l W) (hb : Below W.heap.size W W') : AppAt w lo ob ks sv S v l W' :=
  ⟨h.below.trans (hb.mono h.below.size), fun p hp => (h.keep p hp).next' hb, h.box.next' hb, h.own.kept (grown_of_below hb none) (by cases v.ownBlock with | none => exact .inl rfl | some g => exact .inr (by simp)), h.shape.below (hb.mono h.size), Nat.le_trans h.size hb.size, h.ord⟩
theorem AppAt.alloc (h : AppAt w lo ob ks sv S v l W) (o : Obj) : AppAt w lo ob ks sv S v l (W.alloc o) := h.next (below_alloc W o)
/-- A text was appended; the list is not stored yet. -/
structure AppMid (w : World) (lo ob : Nat) (ks : List Bx) (sv : Value) (S : List Int) (v v' : Value) (l : List ByteArray) (W : World) : Prop where
  below : Below w.heap.size w W
  keep : ∀ p ∈ ks, Bk W p.1 p.2.1 p.2.2
  box : Bk W ob 41 #[sv, v]
  own : W.ownsRow lo 9 1 v' l.length (strs l)
  shape : IsI W lo sv S
  size : lo ≤ W.heap.size
  ord : w.heap.size ≤ ob ∧ ob < lo ∧ ∀ p ∈ ks, p.1 < lo ∧ p.1 ≠ ob
  form : ∃ A n c, v = .slice A n c
theorem own_formV {w : World} {base : Nat} {e : TypeId} {size n : Nat} {v : Value} {xs : List Value} (h : w.ownsRow base e size v n xs) : ∃ A c, v = .slice A n c := by
  rcases h.2 with ⟨rfl, rfl⟩ | ⟨g, cap, cur, rfl, _⟩
  · exact ⟨none, 0, rfl⟩
  · exact ⟨_, _, rfl⟩
theorem AppAt.app (h : AppAt w lo ob ks sv S v l W) {x : ByteArray} (hown : W'.ownsRow lo 9 1 v' (l.length + 1) (strs l ++ [.string x])) (hg : W.grownBy W' v.ownBlock) : AppMid w lo ob ks sv S v v' (l ++ [x]) W' := by
  have far : ∀ g, v.ownBlock = some g → lo ≤ g := fun g hgv => (h.own.lt g hgv).1
  have ne : ∀ j : Nat, j < lo → some j ≠ v.ownBlock := fun j hj e => by have := far j e.symm; omega
  obtain ⟨o1, o2, o3⟩ := h.ord
  refine ⟨h.below.grown hg h.below.size (fun g e => by have := far g e; omega), fun p hp => (h.keep p hp).grown hg (ne _ (o3 p hp).1), h.box.grown hg (ne _ o2), ?_, ?_, Nat.le_trans h.size hg.size, h.ord, by obtain ⟨A, c, e⟩ := own_formV h.own; exact ⟨A, _, c, e⟩⟩
  · rw [List.length_append, strs_app]; exact hown
  · obtain ⟨A, c, e, h1, h3⟩ := h.shape
    exact ⟨A, c, e, h1, h3.grown hg h.size far⟩
theorem AppMid.facts (h : AppMid w lo ob ks sv S v v' l W) : W.cell? ⟨ob, 0, none⟩ = some sv ∧ W.cell? ⟨ob, 1, none⟩ = some v ∧ W.frozen? ⟨ob, 1, none⟩ = false := ⟨h.box.cell 0, h.box.cell 1, h.box.frozen 1⟩
theorem AppMid.drew (h : AppMid w lo ob ks sv S v v' l W) : AppMid w lo ob ks sv S v v' l W.drew := ⟨h.below.drew, h.keep, h.box, h.own, h.shape, h.size, h.ord, h.form⟩
theorem AppMid.put (h : AppMid w lo ob ks sv S v v' l W) : AppAt w lo ob ks sv S v' l (W.setCell ⟨ob, 1, none⟩ v') := by
  obtain ⟨o1, o2, o3⟩ := h.ord
  refine ⟨h.below.setCell (p := ⟨ob, 1, none⟩) o1 _, fun p hp => (h.keep p hp).far (o3 p hp).2 _, ?_, OwnsRow_far h.own (fun e => by have := (h.own.lt ob e).1; omega) _, ?_, by have := h.size; simpa [World.setCell] using this, h.ord⟩
  · have := h.box.put 1 v'
    simpa using this
  · obtain ⟨A, c, e, h1, h3⟩ := h.shape
    have hc := h.facts.2.1
    obtain ⟨A0, n0, c0, rfl⟩ := h.form
    exact ⟨A, c, e, h1, h3.put_out hc (slice_out _ _ _ _) v'⟩
end
theorem AppAt.start {w W : World} {ob : Nat} {ks : List Bx} {sv : Value} {S : List Int} (hb : Below w.heap.size w W) (hk : ∀ p ∈ ks, Bk W p.1 p.2.1 p.2.2) (hx : Bk W ob 41 #[sv, .slice none 0 0]) (hs : IsI W W.heap.size sv S) (ho : w.heap.size ≤ ob) (hne : ∀ p ∈ ks, p.1 ≠ ob) : AppAt w W.heap.size ob ks sv S (.slice none 0 0) [] W :=
  ⟨hb, hk, hx, World.ownsRow_nil _ _ _ _, hs, Nat.le_refl _, ho, hx.lt, fun p hp => ⟨(hk p hp).lt, hne p hp⟩⟩
theorem sz_setCell (w : World) (p : Addr) (u : Value) : (w.setCell p u).heap.size = w.heap.size := by simp [World.setCell]
/-- An array is handed back: its two cells are stored in a box. -/
theorem IsA.ret {w : World} {v : Value} {a : Arr} (h : IsA w w.heap.size v a) {g : Nat} {A A' : Option Addr} {n c n' c' : Nat} (h0 : w.cell? ⟨g, 0, none⟩ = some (.slice A n c)) (h1 : w.cell? ⟨g, 1, none⟩ = some (.slice A' n' c')) (x y : Value) : IsA ((w.setCell ⟨g, 0, none⟩ x).setCell ⟨g, 1, none⟩ y) ((w.setCell ⟨g, 0, none⟩ x).setCell ⟨g, 1, none⟩ y).heap.size v a := by
  rw [sz_setCell, sz_setCell]; exact h.put2 h0 h1 x y

/-- Fill's boxes. -/
structure FlB (w : World) (x : Value) (W : World) : Prop where
  below : Below w.heap.size w W
  box : Bk W w.heap.size 9 #[x]
  res : Bk W (w.heap.size + 1) 41 #[.slice none 0 0, .slice none 0 0]
theorem FlB.next {w W W' : World} {x : Value} (h : FlB w x W) (hb : Below W.heap.size W W') : FlB w x W' := ⟨h.below.trans (hb.mono h.below.size), h.box.next' hb, h.res.next' hb⟩
theorem FlB.start (w : World) (x : Value) : FlB w x ((w.alloc (.cells #[x] 9)).alloc (.cells #[.slice none 0 0, .slice none 0 0] 41)) :=
  ⟨(below_alloc w _).alloc (by simp) _, (Bk.new w _ _).alloc _, Bk.new2 w _ _ _⟩

end Go.Proofs.YtgnffedncjjkfaaDoor

namespace Go.Proofs.YtgnffedncjjkfaaDoor
open Go.RowKit Ix Ar

/-- The box of an array. -/
structure AtB (w : World) (sv vv : Value) (W : World) : Prop where
  below : Below w.heap.size w W
  arr : Bk W w.heap.size 41 #[sv, vv]
theorem AtB.next {w W W' : World} {sv vv : Value} (h : AtB w sv vv W) (hb : Below W.heap.size W W') : AtB w sv vv W' := ⟨h.below.trans (hb.mono h.below.size), h.arr.next' hb⟩
theorem AtB.start (w : World) (sv vv : Value) : AtB w sv vv (w.alloc (.cells #[sv, vv] 41)) := ⟨below_alloc w _, Bk.new w _ _⟩

end Go.Proofs.YtgnffedncjjkfaaDoor

namespace Go.Proofs.YtgnffedncjjkfaaDoor
open Go.RowKit Ix Ar

/-- Known blocks. -/
structure BxW (w : World) (ks : List Bx) (W : World) : Prop where
  below : Below w.heap.size w W
  keep : ∀ p ∈ ks, Bk W p.1 p.2.1 p.2.2
section
variable {w W W' : World} {ks : List Bx}
theorem BxW.nil (w : World) : BxW w [] w := ⟨Below.refl _ _, fun p hp => by cases hp⟩
theorem BxW.next (h : BxW w ks W) (hb : Below W.heap.size W W') : BxW w ks W' := ⟨h.below.trans (hb.mono h.below.size), fun p hp => (h.keep p hp).next' hb⟩
theorem BxW.drew (h : BxW w ks W) : BxW w ks W.drew := ⟨h.below.drew, h.keep⟩
theorem BxW.new (h : BxW w ks W) (t : TypeId) (cs : Array Value) : BxW w (ks ++ [(W.heap.size, t, cs)]) (W.alloc (.cells cs t)) := ⟨h.below.alloc h.below.size _, fun p hp => by
  rcases List.mem_append.1 hp with h1 | h1
  · exact (h.keep p h1).alloc _
  · simp at h1; subst h1; exact Bk.new _ _ _⟩
theorem BxW.one {p : Bx} (h : BxW w (p :: ks) W) : Bk W p.1 p.2.1 p.2.2 := h.keep _ List.mem_cons_self
theorem BxW.two {p q : Bx} (h : BxW w (p :: q :: ks) W) : Bk W q.1 q.2.1 q.2.2 := h.keep _ (by simp)
theorem BxW.three {p q r : Bx} (h : BxW w (p :: q :: r :: ks) W) : Bk W r.1 r.2.1 r.2.2 := h.keep _ (by simp)
end
end Go.Proofs.YtgnffedncjjkfaaDoor

