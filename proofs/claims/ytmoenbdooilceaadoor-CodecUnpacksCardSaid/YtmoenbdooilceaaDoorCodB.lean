/-
  Walks: package codec: copies, the first error of groups, differences and sums.
-/
import Derived.Test.YtmoenbdooilceaaDoorCodA
import Derived.StillTailTactics
import Derived.IntWalk
namespace Go.Proofs.YtmoenbdooilceaaDoor
open Go.RowKit By

/-- Numbers as a slice, nil too. -/
def IsL (w : World) (B : Nat) (k : IntKind) (v : Value) (l : List Nat) : Prop := ∃ A c, v = .slice A l.length c ∧ l.length ≤ c ∧ Rd w B A (ints k l)
section
variable {w w' : World} {B B' : Nat} {k : IntKind} {v : Value} {l : List Nat}
theorem IsL.more (h : IsL w B k v l) (hB : B ≤ B') : IsL w B' k v l := by obtain ⟨A, c, e, h1, h3⟩ := h; exact ⟨A, c, e, h1, h3.more hB⟩
theorem IsL.below (h : IsL w B k v l) (hb : Below B w w') : IsL w' B k v l := by obtain ⟨A, c, e, h1, h3⟩ := h; exact ⟨A, c, e, h1, h3.below hb⟩
theorem IsL.next (h : IsL w w.heap.size k v l) (hb : Below w.heap.size w w') : IsL w' w'.heap.size k v l := (h.below hb).more hb.size
theorem IsL.nil (w : World) (B : Nat) (k : IntKind) : IsL w B k (.slice none 0 0) [] := ⟨none, 0, rfl, Nat.le_refl _, Rd.nil⟩
theorem IsL.of_own {base : Nat} {T : TypeId} {n : Nat} (h : w.ownsRow base T 1 v n (ints k l)) : IsL w w.heap.size k v l := by
  have hl : l.length = n := by have := h.1; rwa [ints_length, Nat.mul_one] at this
  rcases h.2 with ⟨rfl, rfl⟩ | ⟨g, cap, cur, rfl, _, _, hc, _⟩
  · obtain rfl : l = [] := List.eq_nil_of_length_eq_zero hl
    exact IsL.nil _ _ _
  · exact ⟨_, cap, by rw [hl], by omega, Rd.of_own h⟩
theorem IsL.drewN (h : IsL w B k v l) (n : Nat) : IsL (w.drewN n) B k v l := h
theorem IsL.alloc (h : IsL w w.heap.size k v l) (o : Obj) : IsL (w.alloc o) (w.alloc o).heap.size k v l := h.next ((Below.refl _ _).alloc (Nat.le_refl _) _)
theorem IsL.row {g : Nat} {T : TypeId} {c : Nat} (h : Row w g T k l) (hc : l.length ≤ c) : IsL w w.heap.size k (.slice (some ⟨g, 0, none⟩) l.length c) l := ⟨_, c, rfl, hc, h.all⟩
end

set_option maxHeartbeats 400000 in
theorem clone8_any (A : Option Addr) (n c : Nat) (l : List Nat) (w : World) (hn : l.length = n) (hm : n ≤ 4000000000000) (h : Rd w w.heap.size A (ints .u8 l)) :
    Calls Tryd.prog 35 #[.slice A n c] w fun e w' => Below w.heap.size w w' ∧ ∃ v, e = .returned v ∧ w'.ownsRow w.heap.size 5 1 v n (ints .u8 l) := by
  obtain ⟨i0, hi0, hz0, hz1, hz2⟩ := info_parts Tryd.u8_info
  have hnil := fun W => Lib.run_eql_slice_nil (P := Tryd.prog) W 22 5 A n c 0 0 Tryd.underlying22
  rcases A with _ | ad
  · have hl : l = [] := by
      rcases Classical.em (l = []) with h0 | h0
      · exact h0
      · obtain ⟨_, h2, _⟩ := h (by simpa [ints] using h0)
        cases h2
    subst hl
    obtain rfl : n = 0 := by simpa using hn.symm
    go_enter Tryd.func35, Tryd.ntmps35
    go_wp2
    go_ret
    exact ⟨Below.refl _ _, _, rfl, World.ownsRow_nil _ _ _ _⟩
  · have hle : l.length = n := hn
    have HN := Lib.hid hn
    clear hn
    go_enter Tryd.func35, Tryd.ntmps35
    go_wp2_with (at_builtin; refine wpL_append _ rfl (.tmp 5) (.tmp 6) _ rfl w.heap.size 5 i0 _ 1 1 Tryd.underlying22 hi0 hz0 hz1 hz2 rfl (by omega) _ 0 [] rfl (World.ownsRow_made _ _ 0 (Nat.le_refl _) (by unfold maxLen; omega) rfl) (some ad) n c (ints .u8 l) rfl (by rw [ints_length, Nat.mul_one]; exact HN.out) (h.alloc (Nat.le_refl _) _) (ints_one _ _) (by unfold maxLen; omega) (by omega) (by simp) ?_; intro v1 w1 hown1 hg1 hat1)
    go_ret
    refine ⟨below_app ((Below.refl _ _).alloc (Nat.le_refl _) _) hg1 (by simp) (World.ownsRow_made (base := w.heap.size) (e := 5) (size := 1) w #[] 0 (Nat.le_refl _) (by unfold maxLen; omega) rfl) (Nat.le_refl _), v1, rfl, ?_⟩
    simpa using hown1

/-- The first error of bytes in groups. -/
def grE (n : Int) (m : Nat) : Int := if n < 1 ∨ 8 < n then 2 else if 1048576 < m then 4 else 0
set_option maxHeartbeats 400000 in
theorem grouped_any (A : Option Addr) (m c : Nat) (n : Int) (w : World) (hm : m ≤ 4000000000000) :
    Calls Tryd.prog 34 #[.slice A m c, .int .i64 n] w fun e w' => w = w' ∧ e = .returned (.int .i64 (grE n m)) := by
  rcases Classical.em (n < 1) with h1 | h1
  · have e : grE n m = 2 := if_pos (.inl h1)
    rw [e]; clear e
    go_enter Tryd.func34, Tryd.ntmps34
    go_wp2
    go_ret
    exact ⟨rfl, rfl⟩
  · rcases Classical.em (8 < n) with h2 | h2
    · have e : grE n m = 2 := if_pos (.inr h2)
      rw [e]; clear e
      go_enter Tryd.func34, Tryd.ntmps34
      go_wp2
      go_ret
      exact ⟨rfl, rfl⟩
    · rcases Classical.em (1048576 < m) with h3 | h3
      · have e : grE n m = 4 := by unfold grE; rw [if_neg (by omega), if_pos h3]
        rw [e]; clear e
        go_enter Tryd.func34, Tryd.ntmps34
        go_wp2
        go_ret
        exact ⟨rfl, rfl⟩
      · have e : grE n m = 0 := by unfold grE; rw [if_neg (by omega), if_neg h3]
        rw [e]; clear e
        go_enter Tryd.func34, Tryd.ntmps34
        go_wp2
        go_ret
        exact ⟨rfl, rfl⟩
theorem still {P : Program} {f : FuncId} {args : Array Value} {w : World} {v : Value} (h : Calls P f args w fun e w' => w = w' ∧ e = .returned v) : Calls P f args w fun e w'' => e = .returned v ∧ w'' = w :=
  h.mono fun _ _ ⟨h1, h2⟩ => ⟨h2, h1.symm⟩
/-- Sums of places, as the walk spells them. -/
theorem at_sum {p n m : Nat} (h : p + n ≤ m) (hm : m ≤ 4000000000000) : IntKind.i64.wrap ((p : Int) + (n : Int)) = (p : Int) + (n : Int) ∧ ((p : Int) + (n : Int)).toNat = p + n ∧ 0 ≤ (p : Int) + (n : Int) :=
  ⟨IntWalk.i64_in _ (by omega), by omega, by omega⟩
theorem at_diff {p n m : Nat} (h : n ≤ p) (hp : p ≤ m) (hm : m ≤ 4000000000000) : IntKind.i64.wrap ((p : Int) - (n : Int)) = (p : Int) - (n : Int) ∧ ((p : Int) - (n : Int)).toNat = p - n ∧ 0 ≤ (p : Int) - (n : Int) :=
  ⟨IntWalk.i64_in _ (by omega), by omega, by omega⟩
end Go.Proofs.YtmoenbdooilceaaDoor
