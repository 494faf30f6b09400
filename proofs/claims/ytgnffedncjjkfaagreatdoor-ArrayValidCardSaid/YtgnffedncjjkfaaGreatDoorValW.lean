/-
  The walk of the law ArrayValid.
-/
import Derived.Test.YtgnffedncjjkfaaGreatDoorArxP
import Derived.Test.YtgnffedncjjkfaaGreatDoorArxP
namespace Go.Proofs.YtgnffedncjjkfaaGreatDoor
open Go.RowKit Ix Ar

theorem slim_in {a : Arr} (h : Slim a) : InA a := ⟨by have := h.1; unfold maxLen; omega, by have := h.2.1; omega, fun s hs => by have := h.2.2 s hs; omega⟩
theorem in_max {a : Arr} (h : InA a) : a.2.length ≤ maxLen := by have := h.vals; unfold maxLen; omega
set_option maxRecDepth 100000 in
set_option maxHeartbeats 12800000 in
theorem valid_walk (a : Arr) (v : ByteArray) (I : List Int) (va vi : Value) (w : World) (ha : IsA w w.heap.size va a) (hL : a.1.length ≤ maxLen) (hM : a.2.length ≤ maxLen) (_ : ∀ s ∈ a.1, -9223372036854775808 ≤ s ∧ s ≤ 9223372036854775807) (hv : v.size ≤ maxLen) (hI : IsI w w.heap.size vi I) (hIL : I.length ≤ maxLen) (_ : ∀ s ∈ I, -9223372036854775808 ≤ s ∧ s ≤ 9223372036854775807) (he : Env w) :
    Calls Tryz.prog 5 #[va, .string v, vi] w fun r w' => Below w.heap.size w w' ∧ r = .returned (.bool true) := by
  obtain ⟨A, c, A', c', rfl, -, -⟩ := ha.form
  obtain ⟨Ai, ci, rfl, -⟩ := hI.form
  obtain ⟨qw, hqw⟩ : ∃ b : Bool, b = true ↔ ¬ Slim a := by classical exact ⟨decide _, decide_eq_true_iff⟩
  obtain ⟨qb, hqb⟩ : ∃ b : Bool, b = true ↔ Bigs a.1 := by classical exact ⟨decide _, decide_eq_true_iff⟩
  have WD := Lib.hid (fun W (hW : Below w.heap.size w W) => wide_any a _ W (ha.next hW) hL hM qw hqw)
  have BG := Lib.hid (fun W (hW : Below w.heap.size w W) => big_any a.1 A c w.heap.size W (ha.parts.1.rd.below hW) hL qb hqb)
  have SN := Lib.hid (fun W (hW : Below w.heap.size w W) => sane_any W (he.next hW))
  have B0 : BxW w [(w.heap.size, 25, #[.slice A a.1.length c, .slice A' a.2.length c'])] (w.alloc (.cells #[.slice A a.1.length c, .slice A' a.2.length c'] 25)) := (BxW.nil w).new _ _
  unfold maxLen at hv hIL
  cases hw : qw
  rotate_left
  · subst hw
    clear hqw hqb BG ha hI hL hM he
    go_enter Tryz.func5, Tryz.ntmps5
    go_wp2_with fail
    generalize w.alloc (.cells #[.slice A a.1.length c, .slice A' a.2.length c'] 25) = W0 at *
    refine (WD.out W0 B0.below).mono ?_
    rintro r w1 ⟨hb1, rfl⟩
    have B1 := B0.next hb1
    obtain ⟨e0, e1⟩ := bkA B1.one
    go_wp2_with fail
    refine (SN.out w1 B1.below).mono ?_
    rintro r w2 ⟨hb2, rfl⟩
    go_wp2
    go_ret
    exact ⟨(B1.next hb2).below, rfl⟩
  cases hb : qb
  rotate_left
  · subst hw
    subst hb
    clear hqw hqb ha hI hL hM he
    go_enter Tryz.func5, Tryz.ntmps5
    go_wp2_with fail
    generalize w.alloc (.cells #[.slice A a.1.length c, .slice A' a.2.length c'] 25) = W0 at *
    refine (WD.out W0 B0.below).mono ?_
    rintro r w1 ⟨hb1, rfl⟩
    have B1 := B0.next hb1
    obtain ⟨e0, e1⟩ := bkA B1.one
    go_wp2_with fail
    refine (BG.out w1 B1.below).mono ?_
    rintro r w' ⟨rfl, rfl⟩
    go_wp2_with fail
    refine (SN.out w1 B1.below).mono ?_
    rintro r w2 ⟨hb2, rfl⟩
    go_wp2
    go_ret
    exact ⟨(B1.next hb2).below, rfl⟩
  by_cases h10 : 10 < I.length
  · subst hw
    subst hb
    clear hqw hqb ha hI hL hM he
    go_enter Tryz.func5, Tryz.ntmps5
    go_wp2_with fail
    generalize w.alloc (.cells #[.slice A a.1.length c, .slice A' a.2.length c'] 25) = W0 at *
    refine (WD.out W0 B0.below).mono ?_
    rintro r w1 ⟨hb1, rfl⟩
    have B1 := B0.next hb1
    obtain ⟨e0, e1⟩ := bkA B1.one
    go_wp2_with fail
    refine (BG.out w1 B1.below).mono ?_
    rintro r w' ⟨rfl, rfl⟩
    go_wp2_with fail
    refine (SN.out w1 B1.below).mono ?_
    rintro r w2 ⟨hb2, rfl⟩
    go_wp2
    go_ret
    exact ⟨(B1.next hb2).below, rfl⟩
  by_cases h200 : 200 < v.size
  · subst hw
    subst hb
    clear hqw hqb ha hI hL hM he
    go_enter Tryz.func5, Tryz.ntmps5
    go_wp2_with fail
    generalize w.alloc (.cells #[.slice A a.1.length c, .slice A' a.2.length c'] 25) = W0 at *
    refine (WD.out W0 B0.below).mono ?_
    rintro r w1 ⟨hb1, rfl⟩
    have B1 := B0.next hb1
    obtain ⟨e0, e1⟩ := bkA B1.one
    go_wp2_with fail
    refine (BG.out w1 B1.below).mono ?_
    rintro r w' ⟨rfl, rfl⟩
    go_wp2_with fail
    refine (SN.out w1 B1.below).mono ?_
    rintro r w2 ⟨hb2, rfl⟩
    go_wp2
    go_ret
    exact ⟨(B1.next hb2).below, rfl⟩
  have hSl : Slim a := by
    by_cases h : Slim a
    · exact h
    · exact absurd (hqw.2 h) (by rw [hw]; decide)
  subst hw
  subst hb
  have hIn := slim_in hSl
  have hfi : InA (fillR a.1 v).1 := fillR_in hL (by omega)
  have hIS := ha.parts.1
  obtain ⟨qs, hqs⟩ : ∃ b : Bool, b = true ↔ VS a.1 := by classical exact ⟨decide _, decide_eq_true_iff⟩
  obtain ⟨qv, hqv⟩ : ∃ b : Bool, b = true ↔ VA a := by classical exact ⟨decide _, decide_eq_true_iff⟩
  have F1 := Lib.hid (fun W (hW : Below w.heap.size w W) => fill_any a.1 v _ W (hIS.next hW) hL (by omega) (he.next hW))
  have F2 := Lib.hid (fun W (hW : Below w.heap.size w W) => rfill_any a.1 v _ W (hIS.next hW) hL (by omega))
  have A1 := Lib.hid (fun W (hW : Below w.heap.size w W) => at_any a I _ _ W (ha.next hW) (hI.next hW) hIn (he.next hW))
  have A2 := Lib.hid (fun W (hW : Below w.heap.size w W) => rat_any a I _ _ W (ha.next hW) (hI.next hW) hIn (by unfold maxLen; omega))
  have V1 := Lib.hid (fun W (hW : Below w.heap.size w W) => validshape_any a.1 A c w.heap.size W (hIS.rd.below hW) hL qs hqs)
  have V2 := Lib.hid (fun W (hW : Below w.heap.size w W) => rvalidshape_any a.1 A c w.heap.size W (hIS.rd.below hW) hL qs hqs)
  have V3 := Lib.hid (fun W (hW : Below w.heap.size w W) => valid_any a _ W (ha.next hW) hIn (he.next hW) qv hqv)
  have V4 := Lib.hid (fun W (hW : Below w.heap.size w W) => rarr_any a _ W (ha.next hW) hIn qv hqv)
  have AG := Lib.hid (fun W (u u' : Value) (hu : IsA W W.heap.size u (fillR a.1 v).1) (hu' : IsA W W.heap.size u' (fillR a.1 v).1) => agrees_any (fillR a.1 v).1 (fillR a.1 v).1 u u' (fillR a.1 v).2 (fillR a.1 v).2 W hu hu' hfi.shape (in_max hfi) true (by simp))
  obtain ⟨t, ht⟩ : ∃ t, t = atR a I := ⟨_, rfl⟩
  rw [← ht] at A1 A2
  obtain ⟨tx, te⟩ := t
  simp only at A1 A2
  clear hqw hqb ha hI hL hM he hIn hSl hfi hIS hqs hqv ht
  go_enter Tryz.func5, Tryz.ntmps5
  go_wp2_with fail
  generalize w.alloc (.cells #[.slice A a.1.length c, .slice A' a.2.length c'] 25) = W0 at *
  refine (WD.out W0 B0.below).mono ?_
  rintro r w1 ⟨hb1, rfl⟩
  have B1 := B0.next hb1
  obtain ⟨e0, e1⟩ := bkA B1.one
  go_wp2_with fail
  refine (BG.out w1 B1.below).mono ?_
  rintro r w' ⟨rfl, rfl⟩
  go_wp2_with fail
  refine (F1.out w1 B1.below).mono ?_
  rintro r w2 ⟨hb2, x1, rfl, hx1⟩
  have B2 := B1.next hb2
  clear e0 e1 WD BG F1 hb1 hb2 B0 B1
  generalize (fillR a.1 v).2 = fe at *
  generalize (fillR a.1 v).1 = fa at *
  obtain ⟨X1, k1, X2, k2, rfl, -, -⟩ := hx1.form
  have B3 : BxW w [(w.heap.size, 25, #[.slice A a.1.length c, .slice A' a.2.length c']), (w2.heap.size, 25, #[.slice X1 fa.1.length k1, .slice X2 fa.2.length k2])] (w2.alloc (.cells #[.slice X1 fa.1.length k1, .slice X2 fa.2.length k2] 25)) := B2.new _ _
  replace hx1 := hx1.next (below_alloc w2 (.cells #[.slice X1 fa.1.length k1, .slice X2 fa.2.length k2] 25))
  obtain ⟨e0, e1⟩ := bkA B3.one
  go_wp2_with fail
  generalize hw3 : w2.alloc (.cells #[.slice X1 fa.1.length k1, .slice X2 fa.2.length k2] 25) = w3 at *
  clear hw3
  refine (F2.out w3 B3.below).mono ?_
  rintro r w4 ⟨hb4, x2, rfl, hx2⟩
  have B4 := B3.next hb4
  replace hx1 := hx1.next hb4
  clear e0 e1 F2 hb4 B2 B3
  obtain ⟨Y1, l1, Y2, l2, rfl, -, -⟩ := hx2.form
  have B5 : BxW w [(w.heap.size, 25, #[.slice A a.1.length c, .slice A' a.2.length c']), (w2.heap.size, 25, #[.slice X1 fa.1.length k1, .slice X2 fa.2.length k2]), (w4.heap.size, 25, #[.slice Y1 fa.1.length l1, .slice Y2 fa.2.length l2])] (w4.alloc (.cells #[.slice Y1 fa.1.length l1, .slice Y2 fa.2.length l2] 25)) := B4.new _ _
  replace hx1 := hx1.next (below_alloc w4 (.cells #[.slice Y1 fa.1.length l1, .slice Y2 fa.2.length l2] 25))
  replace hx2 := hx2.next (below_alloc w4 (.cells #[.slice Y1 fa.1.length l1, .slice Y2 fa.2.length l2] 25))
  obtain ⟨e0, e1⟩ := bkA B5.one
  go_wp2_with fail
  generalize hw5 : w4.alloc (.cells #[.slice Y1 fa.1.length l1, .slice Y2 fa.2.length l2] 25) = w5 at *
  clear hw5
  refine (A1.out w5 B5.below).mono ?_
  rintro r w6 ⟨hb6, rfl⟩
  have B6 := B5.next hb6
  replace hx1 := hx1.next hb6
  replace hx2 := hx2.next hb6
  clear e0 e1 A1 hb6 B4 B5
  obtain ⟨e0, e1⟩ := bkA B6.one
  go_wp2_with fail
  refine (A2.out w6 B6.below).mono ?_
  rintro r w7 ⟨hb7, rfl⟩
  have B7 := B6.next hb7
  replace hx1 := hx1.next hb7
  replace hx2 := hx2.next hb7
  clear e0 e1 A2 hb7 B6
  generalize w2.heap.size = gf at *
  generalize w4.heap.size = gg at *
  obtain ⟨e0, e1⟩ := bkA B7.one
  obtain ⟨f0, f1⟩ := bkA B7.two
  obtain ⟨g0, g1⟩ := bkA B7.three
  go_wp2_with fail
  refine wp_region_held_drew (S := fun Y => (((Y.cell? ⟨w.heap.size, 0, none⟩ = some (.slice A a.1.length c) ∧ Y.cell? ⟨w.heap.size, 1, none⟩ = some (.slice A' a.2.length c')) ∧ (Y.cell? ⟨gf, 0, none⟩ = some (.slice X1 fa.1.length k1) ∧ Y.cell? ⟨gf, 1, none⟩ = some (.slice X2 fa.2.length k2))) ∧ (Y.cell? ⟨gg, 0, none⟩ = some (.slice Y1 fa.1.length l1) ∧ Y.cell? ⟨gg, 1, none⟩ = some (.slice Y2 fa.2.length l2))) ∧ Below w.heap.size w Y) (by kernel_rfl) ⟨⟨⟨⟨e0, e1⟩, ⟨f0, f1⟩⟩, ⟨g0, g1⟩⟩, B7.below.drew⟩ (fun hS => ?_)
  clear e0 e1 f0 f1 g0 g1
  have B8 := B7.drew
  have hx1d : IsA w7.drew w7.drew.heap.size _ _ := hx1
  have hx2d : IsA w7.drew w7.drew.heap.size _ _ := hx2
  clear B7 hx1 hx2
  refine takeA (i := 0) (v := ?_) rfl (by kernel_rfl) (by kernel_rfl) (by kernel_rfl) (fun _ _ _ h => h) (by rfl) (by assumption) ?_ ?_
  rotate_left
  · intro w hSw; (try dsimp only at hSw); go_simp <;> with_reducible rfl
  try simp only [Act.put, List.setIfInBounds_toArray, List.set_cons_zero, List.set_cons_succ]
  refine takeA (i := 1) (v := ?_) rfl (by kernel_rfl) (by kernel_rfl) (by kernel_rfl) (fun _ _ _ h => h) (by rfl) (by assumption) ?_ ?_
  rotate_left
  · intro w hSw; (try dsimp only at hSw); go_simp <;> with_reducible rfl
  try simp only [Act.put, List.setIfInBounds_toArray, List.set_cons_zero, List.set_cons_succ]
  refine takeA (i := 3) (v := ?_) rfl (by kernel_rfl) (by kernel_rfl) (by kernel_rfl) (fun _ _ _ h => h) (by rfl) (by assumption) ?_ ?_
  rotate_left
  · intro w hSw; (try dsimp only at hSw); go_simp <;> with_reducible rfl
  try simp only [Act.put, List.setIfInBounds_toArray, List.set_cons_zero, List.set_cons_succ]
  refine takeA (i := 4) (v := ?_) rfl (by kernel_rfl) (by kernel_rfl) (by kernel_rfl) (fun _ _ _ h => h) (by rfl) (by assumption) ?_ ?_
  rotate_left
  · intro w hSw; (try dsimp only at hSw); go_simp <;> with_reducible rfl
  try simp only [Act.put, List.setIfInBounds_toArray, List.set_cons_zero, List.set_cons_succ]
  refine stepA (i := 2) rfl (by kernel_rfl) (fun K0 hK0 => ?_)
  go_simp
  refine (V1.out _ hS.2).mono ?_
  rintro e w' ⟨rfl, rfl⟩
  dsimp only
  refine hK0.out _ _ hS (fun _ => ?_)
  clear hK0 K0
  try simp only [Act.put, List.setIfInBounds_toArray, List.set_cons_zero, List.set_cons_succ]
  refine stepA (i := 5) rfl (by kernel_rfl) (fun K0 hK0 => ?_)
  go_simp
  refine (V2.out _ hS.2).mono ?_
  rintro e w' ⟨rfl, rfl⟩
  dsimp only
  refine hK0.out _ _ hS (fun _ => ?_)
  clear hK0 K0
  try simp only [Act.put, List.setIfInBounds_toArray, List.set_cons_zero, List.set_cons_succ]
  refine takeA (i := 6) (v := ?_) rfl (by kernel_rfl) (by kernel_rfl) (by kernel_rfl) (fun _ _ _ h => h) (by rfl) (by assumption) ?_ ?_
  rotate_left
  · intro w hSw; (try dsimp only at hSw); go_simp <;> with_reducible rfl
  try simp only [Act.put, List.setIfInBounds_toArray, List.set_cons_zero, List.set_cons_succ]
  refine takeA (i := 7) (v := ?_) rfl (by kernel_rfl) (by kernel_rfl) (by kernel_rfl) (fun _ _ _ h => h) (by rfl) (by assumption) ?_ ?_
  rotate_left
  · intro w hSw; (try dsimp only at hSw); go_simp <;> with_reducible rfl
  try simp only [Act.put, List.setIfInBounds_toArray, List.set_cons_zero, List.set_cons_succ]
  refine takeA (i := 8) (v := ?_) rfl (by kernel_rfl) (by kernel_rfl) (by kernel_rfl) (fun _ _ _ h => h) (by rfl) (by assumption) ?_ ?_
  rotate_left
  · intro w hSw; (try dsimp only at hSw); go_simp <;> with_reducible rfl
  try simp only [Act.put, List.setIfInBounds_toArray, List.set_cons_zero, List.set_cons_succ]
  refine takeA (i := 10) (v := ?_) rfl (by kernel_rfl) (by kernel_rfl) (by kernel_rfl) (fun _ _ _ h => h) (by rfl) (by assumption) ?_ ?_
  rotate_left
  · intro w hSw; (try dsimp only at hSw); go_simp <;> with_reducible rfl
  try simp only [Act.put, List.setIfInBounds_toArray, List.set_cons_zero, List.set_cons_succ]
  refine stepA (i := 9) rfl (by kernel_rfl) (fun K0 hK0 => ?_)
  go_simp
  refine (V3.out _ hS.2).mono ?_
  rintro e w8 ⟨hb8, rfl⟩
  have B9 := B8.next hb8
  have hx19 := hx1d.next hb8
  have hx29 := hx2d.next hb8
  dsimp only
  refine hK0.out _ _ ⟨⟨⟨bkA B9.one, bkA B9.two⟩, bkA B9.three⟩, B9.below⟩ (fun hS9 => ?_)
  clear hK0 K0 hS B8 hb8 hx1d hx2d
  try simp only [Act.put, List.setIfInBounds_toArray, List.set_cons_zero, List.set_cons_succ]
  refine stepA (i := 11) rfl (by kernel_rfl) (fun K0 hK0 => ?_)
  go_simp
  refine (V4.out _ hS9.2).mono ?_
  rintro e w9 ⟨hb9, rfl⟩
  have B10 := B9.next hb9
  have hx1A := hx19.next hb9
  have hx2A := hx29.next hb9
  dsimp only
  refine hK0.out _ _ ⟨⟨⟨bkA B10.one, bkA B10.two⟩, bkA B10.three⟩, B10.below⟩ (fun hS10 => ?_)
  clear hK0 K0 hS9 B9 hb9 hx19 hx29
  try simp only [Act.put, List.setIfInBounds_toArray, List.set_cons_zero, List.set_cons_succ]
  refine takeA (i := 12) (v := ?_) rfl (by kernel_rfl) (by kernel_rfl) (by kernel_rfl) (fun _ _ _ h => h) (by rfl) (by assumption) ?_ ?_
  rotate_left
  · intro w hSw; (try dsimp only at hSw); go_simp <;> with_reducible rfl
  try simp only [Act.put, List.setIfInBounds_toArray, List.set_cons_zero, List.set_cons_succ]
  refine takeA (i := 13) (v := ?_) rfl (by kernel_rfl) (by kernel_rfl) (by kernel_rfl) (fun _ _ _ h => h) (by rfl) (by assumption) ?_ ?_
  rotate_left
  · intro w hSw; (try dsimp only at hSw); go_simp <;> with_reducible rfl
  try simp only [Act.put, List.setIfInBounds_toArray, List.set_cons_zero, List.set_cons_succ]
  refine takeA (i := 14) (v := ?_) rfl (by kernel_rfl) (by kernel_rfl) (by kernel_rfl) (fun _ _ _ h => h) (by rfl) (by assumption) ?_ ?_
  rotate_left
  · intro w hSw; (try dsimp only at hSw); go_simp <;> with_reducible rfl
  try simp only [Act.put, List.setIfInBounds_toArray, List.set_cons_zero, List.set_cons_succ]
  refine takeA (i := 15) (v := ?_) rfl (by kernel_rfl) (by kernel_rfl) (by kernel_rfl) (fun _ _ _ h => h) (by rfl) (by assumption) ?_ ?_
  rotate_left
  · intro w hSw; (try dsimp only at hSw); go_simp <;> with_reducible rfl
  try simp only [Act.put, List.setIfInBounds_toArray, List.set_cons_zero, List.set_cons_succ]
  refine takeA (i := 16) (v := ?_) rfl (by kernel_rfl) (by kernel_rfl) (by kernel_rfl) (fun _ _ _ h => h) (by rfl) (by assumption) ?_ ?_
  rotate_left
  · intro w hSw; (try dsimp only at hSw); go_simp <;> with_reducible rfl
  try simp only [Act.put, List.setIfInBounds_toArray, List.set_cons_zero, List.set_cons_succ]
  refine takeA (i := 17) (v := ?_) rfl (by kernel_rfl) (by kernel_rfl) (by kernel_rfl) (fun _ _ _ h => h) (by rfl) (by assumption) ?_ ?_
  rotate_left
  · intro w hSw; (try dsimp only at hSw); go_simp <;> with_reducible rfl
  try simp only [Act.put, List.setIfInBounds_toArray, List.set_cons_zero, List.set_cons_succ]
  refine takeA (i := 18) (v := ?_) rfl (by kernel_rfl) (by kernel_rfl) (by kernel_rfl) (fun _ _ _ h => h) (by rfl) (by assumption) ?_ ?_
  rotate_left
  · intro w hSw; (try dsimp only at hSw); go_simp <;> with_reducible rfl
  try simp only [Act.put, List.setIfInBounds_toArray, List.set_cons_zero, List.set_cons_succ]
  refine stepA (i := 19) rfl (by kernel_rfl) (fun K0 hK0 => ?_)
  go_simp
  refine (AG.out _ _ _ hx1A hx2A).mono ?_
  rintro e w10 ⟨hb10, rfl⟩
  have B11 := B10.next hb10
  dsimp only
  refine hK0.out _ _ ⟨⟨⟨bkA B11.one, bkA B11.two⟩, bkA B11.three⟩, B11.below⟩ (fun hS11 => ?_)
  clear hK0 K0 hS10 B10 hb10 hx1A hx2A
  try simp only [Act.put, List.setIfInBounds_toArray, List.set_cons_zero, List.set_cons_succ]
  refine takeA (i := 20) (v := ?_) rfl (by kernel_rfl) (by kernel_rfl) (by kernel_rfl) (fun _ _ _ h => h) (by rfl) (by assumption) ?_ ?_
  rotate_left
  · intro w hSw; (try dsimp only at hSw); go_simp <;> with_reducible rfl
  try simp only [Act.put, List.setIfInBounds_toArray, List.set_cons_zero, List.set_cons_succ]
  refine takeA (i := 21) (v := ?_) rfl (by kernel_rfl) (by kernel_rfl) (by kernel_rfl) (fun _ _ _ h => h) (by rfl) (by assumption) ?_ ?_
  rotate_left
  · intro w hSw; (try dsimp only at hSw); go_simp <;> with_reducible rfl
  try simp only [Act.put, List.setIfInBounds_toArray, List.set_cons_zero, List.set_cons_succ]
  refine takeA (i := 22) (v := ?_) rfl (by kernel_rfl) (by kernel_rfl) (by kernel_rfl) (fun _ _ _ h => h) (by rfl) (by assumption) ?_ ?_
  rotate_left
  · intro w hSw; (try dsimp only at hSw); go_simp <;> with_reducible rfl
  try simp only [Act.put, List.setIfInBounds_toArray, List.set_cons_zero, List.set_cons_succ]
  refine takeA (i := 23) (v := ?_) rfl (by kernel_rfl) (by kernel_rfl) (by kernel_rfl) (fun _ _ _ h => h) (by rfl) (by assumption) ?_ ?_
  rotate_left
  · intro w hSw; (try dsimp only at hSw); go_simp <;> with_reducible rfl
  try simp only [Act.put, List.setIfInBounds_toArray, List.set_cons_zero, List.set_cons_succ]
  refine takeA (i := 24) (v := ?_) rfl (by kernel_rfl) (by kernel_rfl) (by kernel_rfl) (fun _ _ _ h => h) (by rfl) (by assumption) ?_ ?_
  rotate_left
  · intro w hSw; (try dsimp only at hSw); go_simp <;> with_reducible rfl
  try simp only [Act.put, List.setIfInBounds_toArray, List.set_cons_zero, List.set_cons_succ]
  refine takeA (i := 25) (v := ?_) rfl (by kernel_rfl) (by kernel_rfl) (by kernel_rfl) (fun _ _ _ h => h) (by rfl) (by assumption) ?_ ?_
  rotate_left
  · intro w hSw; (try dsimp only at hSw); go_simp <;> with_reducible rfl
  try simp only [Act.put, List.setIfInBounds_toArray, List.set_cons_zero, List.set_cons_succ]
  refine takeA (i := 26) (v := ?_) rfl (by kernel_rfl) (by kernel_rfl) (by kernel_rfl) (fun _ _ _ h => h) (by rfl) (by assumption) ?_ ?_
  rotate_left
  · intro w hSw; (try dsimp only at hSw); go_simp <;> with_reducible rfl
  try simp only [Act.put, List.setIfInBounds_toArray, List.set_cons_zero, List.set_cons_succ]
  refine takeA (i := 27) (v := ?_) rfl (by kernel_rfl) (by kernel_rfl) (by kernel_rfl) (fun _ _ _ h => h) (by rfl) (by assumption) ?_ ?_
  rotate_left
  · intro w hSw; (try dsimp only at hSw); go_simp <;> with_reducible rfl
  try simp only [Act.put, List.setIfInBounds_toArray, List.set_cons_zero, List.set_cons_succ]
  refine takeA (i := 28) (v := ?_) rfl (by kernel_rfl) (by kernel_rfl) (by kernel_rfl) (fun _ _ _ h => h) (by rfl) (by assumption) ?_ ?_
  rotate_left
  · intro w hSw; (try dsimp only at hSw); go_simp <;> with_reducible rfl
  try simp only [Act.put, List.setIfInBounds_toArray, List.set_cons_zero, List.set_cons_succ]
  refine takeA (i := 29) (v := ?_) rfl (by kernel_rfl) (by kernel_rfl) (by kernel_rfl) (fun _ _ _ h => h) (by rfl) (by assumption) ?_ ?_
  rotate_left
  · intro w hSw; (try dsimp only at hSw); go_simp <;> with_reducible rfl
  try simp only [Act.put, List.setIfInBounds_toArray, List.set_cons_zero, List.set_cons_succ]
  refine takeA (i := 30) (v := ?_) rfl (by kernel_rfl) (by kernel_rfl) (by kernel_rfl) (fun _ _ _ h => h) (by rfl) (by assumption) ?_ ?_
  rotate_left
  · intro w hSw; (try dsimp only at hSw); go_simp <;> with_reducible rfl
  try simp only [Act.put, List.setIfInBounds_toArray, List.set_cons_zero, List.set_cons_succ]
  refine takeA (i := 31) (v := ?_) rfl (by kernel_rfl) (by kernel_rfl) (by kernel_rfl) (fun _ _ _ h => h) (by rfl) (by assumption) ?_ ?_
  rotate_left
  · intro w hSw; (try dsimp only at hSw); go_simp <;> with_reducible rfl
  try simp only [Act.put, List.setIfInBounds_toArray, List.set_cons_zero, List.set_cons_succ]
  refine stepA (i := 32) rfl (by kernel_rfl) (fun K0 hK0 => ?_)
  go_simp
  refine (SN.out _ hS11.2).mono ?_
  rintro e w11 ⟨hb11, rfl⟩
  have B12 := B11.next hb11
  dsimp only
  refine hK0.out _ _ ⟨⟨⟨bkA B12.one, bkA B12.two⟩, bkA B12.three⟩, B12.below⟩ (fun hS12 => ?_)
  clear hK0 K0 hS11 B11 hb11
  try simp only [Act.put, List.setIfInBounds_toArray, List.set_cons_zero, List.set_cons_succ]
  refine takeA (i := 33) (v := ?_) rfl (by kernel_rfl) (by kernel_rfl) (by kernel_rfl) (fun _ _ _ h => h) (by rfl) (by assumption) ?_ ?_
  rotate_left
  · intro w hSw; (try dsimp only at hSw); go_simp <;> with_reducible rfl
  try simp only [Act.put, List.setIfInBounds_toArray, List.set_cons_zero, List.set_cons_succ]
  refine takeA (i := 34) (v := ?_) rfl (by kernel_rfl) (by kernel_rfl) (by kernel_rfl) (fun _ _ _ h => h) (by rfl) (by assumption) ?_ ?_
  rotate_left
  · intro w hSw; (try dsimp only at hSw); go_simp <;> with_reducible rfl
  try simp only [Act.put, List.setIfInBounds_toArray, List.set_cons_zero, List.set_cons_succ]
  refine wpAnyH_done (by kernel_rfl) ?_ _
  go_wp2
  go_ret
  exact ⟨hS12.2, rfl⟩
end Go.Proofs.YtgnffedncjjkfaaGreatDoor
