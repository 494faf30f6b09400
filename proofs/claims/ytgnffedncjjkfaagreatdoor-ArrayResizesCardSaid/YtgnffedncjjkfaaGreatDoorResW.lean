/-
  The walk of the law ArrayResizes.
-/
import Derived.Test.YtgnffedncjjkfaaGreatDoorResB
namespace Go.Proofs.YtgnffedncjjkfaaGreatDoor
open Go.RowKit Ix Ar

theorem slim_in {a : Arr} (h : Slim a) : InA a := ⟨by have := h.1; unfold maxLen; omega, by have := h.2.1; omega, fun s hs => by have := h.2.2 s hs; omega⟩
theorem in_max {a : Arr} (h : InA a) : a.2.length ≤ maxLen := by have := h.vals; unfold maxLen; omega
set_option maxRecDepth 100000 in
set_option maxHeartbeats 12800000 in
theorem resizes_walk (a : Arr) (T : List Int) (v : ByteArray) (va vt : Value) (w : World) (ha : IsA w w.heap.size va a) (hL : a.1.length ≤ maxLen) (hM : a.2.length ≤ maxLen) (_ : ∀ s ∈ a.1, -9223372036854775808 ≤ s ∧ s ≤ 9223372036854775807) (hT : IsI w w.heap.size vt T) (hTL : T.length ≤ maxLen) (_ : ∀ s ∈ T, -9223372036854775808 ≤ s ∧ s ≤ 9223372036854775807) (hv : v.size ≤ maxLen) (he : Env w) :
    Calls Tryz.prog 4 #[va, vt, .string v] w fun r w' => Below w.heap.size w w' ∧ r = .returned (.bool true) := by
  obtain ⟨A, c, A', c', rfl, -, -⟩ := ha.form
  obtain ⟨At, ct, rfl, -⟩ := hT.form
  obtain ⟨qw, hqw⟩ : ∃ b : Bool, b = true ↔ ¬ Slim a := by classical exact ⟨decide _, decide_eq_true_iff⟩
  obtain ⟨qb, hqb⟩ : ∃ b : Bool, b = true ↔ Bigs T := by classical exact ⟨decide _, decide_eq_true_iff⟩
  have WD := Lib.hid (fun W (hW : Below w.heap.size w W) => wide_any a _ W (ha.next hW) hL hM qw hqw)
  have BG := Lib.hid (fun W (hW : Below w.heap.size w W) => big_any T At ct w.heap.size W (hT.rd.below hW) hTL qb hqb)
  have SN := Lib.hid (fun W (hW : Below w.heap.size w W) => sane_any W (he.next hW))
  have B0 : BxW w [(w.heap.size, 25, #[.slice A a.1.length c, .slice A' a.2.length c'])] (w.alloc (.cells #[.slice A a.1.length c, .slice A' a.2.length c'] 25)) := (BxW.nil w).new _ _
  unfold maxLen at hv
  cases hw : qw
  rotate_left
  · subst hw
    clear hqw hqb BG ha hT hTL hL hM he
    go_enter Tryz.func4, Tryz.ntmps4
    go_wp2_with fail
    generalize w.alloc (.cells #[.slice A a.1.length c, .slice A' a.2.length c'] 25) = W0 at *
    refine (WD.out W0 B0.below).mono ?_
    rintro r w1 ⟨hb1, rfl⟩
    have B1 := B0.next hb1
    go_wp2_with fail
    refine (SN.out w1 B1.below).mono ?_
    rintro r w2 ⟨hb2, rfl⟩
    go_wp2
    go_ret
    exact ⟨(B1.next hb2).below, rfl⟩
  cases hb : qb
  rotate_left
  · subst hw
    subst hb
    clear hqw hqb ha hT hTL hL hM he
    go_enter Tryz.func4, Tryz.ntmps4
    go_wp2_with fail
    generalize w.alloc (.cells #[.slice A a.1.length c, .slice A' a.2.length c'] 25) = W0 at *
    refine (WD.out W0 B0.below).mono ?_
    rintro r w1 ⟨hb1, rfl⟩
    have B1 := B0.next hb1
    go_wp2_with fail
    refine (BG.out w1 B1.below).mono ?_
    rintro r w' ⟨rfl, rfl⟩
    go_wp2_with fail
    refine (SN.out w1 B1.below).mono ?_
    rintro r w2 ⟨hb2, rfl⟩
    go_wp2
    go_ret
    exact ⟨(B1.next hb2).below, rfl⟩
  by_cases h200 : 200 < v.size
  · subst hw
    subst hb
    clear hqw hqb ha hT hTL hL hM he
    go_enter Tryz.func4, Tryz.ntmps4
    go_wp2_with fail
    generalize w.alloc (.cells #[.slice A a.1.length c, .slice A' a.2.length c'] 25) = W0 at *
    refine (WD.out W0 B0.below).mono ?_
    rintro r w1 ⟨hb1, rfl⟩
    have B1 := B0.next hb1
    go_wp2_with fail
    refine (BG.out w1 B1.below).mono ?_
    rintro r w' ⟨rfl, rfl⟩
    go_wp2_with fail
    refine (SN.out w1 B1.below).mono ?_
    rintro r w2 ⟨hb2, rfl⟩
    go_wp2
    go_ret
    exact ⟨(B1.next hb2).below, rfl⟩
  have hSl : Slim a := by
    by_cases h : Slim a
    · exact h
    · exact absurd (hqw.2 h) (by rw [hw]; decide)
  subst hw
  subst hb
  have hIn := slim_in hSl
  have hfi : InA (resizeR a T v).1 := resizeR_in hIn hTL (by omega)
  have F1 := Lib.hid (fun W (hW : Below w.heap.size w W) => resize_any a T v _ _ W (ha.next hW) (hT.next hW) hIn hTL (by omega) (he.next hW))
  have F2 := Lib.hid (fun W (hW : Below w.heap.size w W) => rresize_any a T v _ _ W (ha.next hW) (hT.next hW) hIn hTL (by omega))
  have AG := Lib.hid (fun W (u u' : Value) (hu : IsA W W.heap.size u (resizeR a T v).1) (hu' : IsA W W.heap.size u' (resizeR a T v).1) => agrees_any (resizeR a T v).1 (resizeR a T v).1 u u' (resizeR a T v).2 (resizeR a T v).2 W hu hu' hfi.shape (in_max hfi) true (by simp))
  clear hqw hqb ha hT hTL hL hM he hIn hSl hfi
  generalize (resizeR a T v).2 = fe at *
  generalize (resizeR a T v).1 = fa at *
  go_enter Tryz.func4, Tryz.ntmps4
  go_wp2_with fail
  generalize w.alloc (.cells #[.slice A a.1.length c, .slice A' a.2.length c'] 25) = W0 at *
  refine (WD.out W0 B0.below).mono ?_
  rintro r w1 ⟨hb1, rfl⟩
  have B1 := B0.next hb1
  obtain ⟨e0, e1⟩ := bkA B1.one
  go_wp2_with fail
  refine (BG.out w1 B1.below).mono ?_
  rintro r w' ⟨rfl, rfl⟩
  go_wp2_with fail
  refine (F1.out w1 B1.below).mono ?_
  rintro r w2 ⟨hb2, x1, rfl, hx1⟩
  have B2 := B1.next hb2
  clear e0 e1 WD BG F1 hb1 hb2 B0 B1
  obtain ⟨X1, k1, X2, k2, rfl, -, -⟩ := hx1.form
  have B3 : BxW w [(w.heap.size, 25, #[.slice A a.1.length c, .slice A' a.2.length c']), (w2.heap.size, 25, #[.slice X1 fa.1.length k1, .slice X2 fa.2.length k2])] (w2.alloc (.cells #[.slice X1 fa.1.length k1, .slice X2 fa.2.length k2] 25)) := B2.new _ _
  replace hx1 := hx1.next (below_alloc w2 (.cells #[.slice X1 fa.1.length k1, .slice X2 fa.2.length k2] 25))
  obtain ⟨e0, e1⟩ := bkA B3.one
  go_wp2_with fail
  generalize hw3 : w2.alloc (.cells #[.slice X1 fa.1.length k1, .slice X2 fa.2.length k2] 25) = w3 at *
  clear hw3
  refine (F2.out w3 B3.below).mono ?_
  rintro r w4 ⟨hb4, x2, rfl, hx2⟩
  have B4 := B3.next hb4
  replace hx1 := hx1.next hb4
  clear e0 e1 F2 hb4 B2 B3
  obtain ⟨Y1, l1, Y2, l2, rfl, -, -⟩ := hx2.form
  have B5 : BxW w [(w.heap.size, 25, #[.slice A a.1.length c, .slice A' a.2.length c']), (w2.heap.size, 25, #[.slice X1 fa.1.length k1, .slice X2 fa.2.length k2]), (w4.heap.size, 25, #[.slice Y1 fa.1.length l1, .slice Y2 fa.2.length l2])] (w4.alloc (.cells #[.slice Y1 fa.1.length l1, .slice Y2 fa.2.length l2] 25)) := B4.new _ _
  replace hx1 := hx1.next (below_alloc w4 (.cells #[.slice Y1 fa.1.length l1, .slice Y2 fa.2.length l2] 25))
  replace hx2 := hx2.next (below_alloc w4 (.cells #[.slice Y1 fa.1.length l1, .slice Y2 fa.2.length l2] 25))
  obtain ⟨f0, f1⟩ := bkA B5.two
  have AG2 := Lib.hid (AG.out _ _ _ hx1 hx2)
  go_wp2_with fail
  refine AG2.out.mono ?_
  rintro r w6 ⟨hb6, rfl⟩
  have B6 := B5.next hb6
  go_wp2_with fail
  refine (SN.out w6 B6.below).mono ?_
  rintro r w7 ⟨hb7, rfl⟩
  go_wp2
  go_ret
  exact ⟨(B6.next hb7).below, rfl⟩
end Go.Proofs.YtgnffedncjjkfaaGreatDoor
