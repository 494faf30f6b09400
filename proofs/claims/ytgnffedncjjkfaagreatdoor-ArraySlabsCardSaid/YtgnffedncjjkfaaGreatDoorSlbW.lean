/-
  The walk of the law ArraySlabs.
-/
import Derived.Test.YtgnffedncjjkfaaGreatDoorSlbX
namespace Go.Proofs.YtgnffedncjjkfaaGreatDoor
open Go.RowKit Ix Ar

theorem slim_in {a : Arr} (h : Slim a) : InA a := ⟨by have := h.1; unfold maxLen; omega, by have := h.2.1; omega, fun s hs => by have := h.2.2 s hs; omega⟩
theorem in_max {a : Arr} (h : InA a) : a.2.length ≤ maxLen := by have := h.vals; unfold maxLen; omega
theorem bk5 {w : World} {g : Nat} {t : TypeId} {a b c d e : Value} (h : Bk w g t #[a, b, c, d, e]) : w.cell? ⟨g, 0, none⟩ = some a ∧ w.cell? ⟨g, 1, none⟩ = some b ∧ w.cell? ⟨g, 2, none⟩ = some c ∧ w.cell? ⟨g, 3, none⟩ = some d ∧ w.cell? ⟨g, 4, none⟩ = some e := ⟨h.cell 0, h.cell 1, h.cell 2, h.cell 3, h.cell 4⟩
theorem BxW.nth {w W : World} {ks : List Bx} (h : BxW w ks W) (i : Nat) {p : Bx} (hp : ks[i]? = some p) : Bk W p.1 p.2.1 p.2.2 := h.keep p (List.mem_of_getElem? hp)
set_option maxRecDepth 100000 in
set_option maxHeartbeats 12800000 in
theorem slabs_walk (a : Arr) (C : List Cut) (b : Arr) (A A' Ak Ab Ab' : Option Addr) (c c' ck cb cb' : Nat) (w : World) (ha : IsA w w.heap.size (.agg #[.slice A a.1.length c, .slice A' a.2.length c']) a) (hk : IsK w w.heap.size (.slice Ak C.length ck) C) (hb : IsA w w.heap.size (.agg #[.slice Ab b.1.length cb, .slice Ab' b.2.length cb']) b)
    (hL : a.1.length ≤ maxLen) (hM : a.2.length ≤ maxLen) (hL' : b.1.length ≤ maxLen) (hM' : b.2.length ≤ maxLen) (hC : ∀ x ∈ C, In64 x) (hCL : C.length ≤ maxLen) (he : Env w) :
    Calls Tryz.prog 3 #[.agg #[.slice A a.1.length c, .slice A' a.2.length c', .slice Ak C.length ck, .slice Ab b.1.length cb, .slice Ab' b.2.length cb']] w fun r w' => Below w.heap.size w w' ∧ r = .returned (.bool true) := by
  obtain ⟨qw, hqw⟩ : ∃ q : Bool, q = true ↔ ¬ Slim a := by classical exact ⟨decide _, decide_eq_true_iff⟩
  obtain ⟨qb, hqb⟩ : ∃ q : Bool, q = true ↔ ¬ Slim b := by classical exact ⟨decide _, decide_eq_true_iff⟩
  have WD := Lib.hid (fun W (hW : Below w.heap.size w W) => wide_any a _ W (ha.next hW) hL hM qw hqw)
  have WB := Lib.hid (fun W (hW : Below w.heap.size w W) => wide_any b _ W (hb.next hW) hL' hM' qb hqb)
  have SN := Lib.hid (fun W (hW : Below w.heap.size w W) => sane_any W (he.next hW))
  have B0 : BxW w [(w.heap.size, 28, #[.slice A a.1.length c, .slice A' a.2.length c', .slice Ak C.length ck, .slice Ab b.1.length cb, .slice Ab' b.2.length cb'])] (w.alloc (.cells #[.slice A a.1.length c, .slice A' a.2.length c', .slice Ak C.length ck, .slice Ab b.1.length cb, .slice Ab' b.2.length cb'] 28)) := (BxW.nil w).new _ _
  unfold maxLen at hCL
  cases hw : qw
  rotate_left
  · subst hw
    clear hqw hqb WB ha hb hk hL hM hL' hM' he
    go_enter Tryz.func3, Tryz.ntmps3
    go_wp2_with fail
    generalize w.alloc (.cells #[.slice A a.1.length c, .slice A' a.2.length c', .slice Ak C.length ck, .slice Ab b.1.length cb, .slice Ab' b.2.length cb'] 28) = W0 at *
    refine (WD.out W0 B0.below).mono ?_
    rintro r w1 ⟨hb1, rfl⟩
    have B1 := B0.next hb1
    obtain ⟨e0, e1, e2, e3, e4⟩ := bk5 (B1.nth 0 rfl)
    go_wp2_with fail
    refine (SN.out w1 B1.below).mono ?_
    rintro r w9 ⟨hb9, rfl⟩
    go_wp2
    go_ret
    exact ⟨(B1.next hb9).below, rfl⟩
  cases hv : qb
  rotate_left
  · subst hw
    subst hv
    clear hqw hqb ha hb hk hL hM hL' hM' he
    go_enter Tryz.func3, Tryz.ntmps3
    go_wp2_with fail
    generalize w.alloc (.cells #[.slice A a.1.length c, .slice A' a.2.length c', .slice Ak C.length ck, .slice Ab b.1.length cb, .slice Ab' b.2.length cb'] 28) = W0 at *
    refine (WD.out W0 B0.below).mono ?_
    rintro r w1 ⟨hb1, rfl⟩
    have B1 := B0.next hb1
    obtain ⟨e0, e1, e2, e3, e4⟩ := bk5 (B1.nth 0 rfl)
    go_wp2_with fail
    refine (WB.out w1 B1.below).mono ?_
    rintro r w2 ⟨hb2, rfl⟩
    have B2 := B1.next hb2
    clear e0 e1 e2 e3 e4
    obtain ⟨e0, e1, e2, e3, e4⟩ := bk5 (B2.nth 0 rfl)
    go_wp2_with fail
    refine (SN.out w2 B2.below).mono ?_
    rintro r w9 ⟨hb9, rfl⟩
    go_wp2
    go_ret
    exact ⟨(B2.next hb9).below, rfl⟩
  by_cases h10 : 10 < C.length
  · subst hw
    subst hv
    clear hqw hqb ha hb hk hL hM hL' hM' he
    go_enter Tryz.func3, Tryz.ntmps3
    go_wp2_with fail
    generalize w.alloc (.cells #[.slice A a.1.length c, .slice A' a.2.length c', .slice Ak C.length ck, .slice Ab b.1.length cb, .slice Ab' b.2.length cb'] 28) = W0 at *
    refine (WD.out W0 B0.below).mono ?_
    rintro r w1 ⟨hb1, rfl⟩
    have B1 := B0.next hb1
    obtain ⟨e0, e1, e2, e3, e4⟩ := bk5 (B1.nth 0 rfl)
    go_wp2_with fail
    refine (WB.out w1 B1.below).mono ?_
    rintro r w2 ⟨hb2, rfl⟩
    have B2 := B1.next hb2
    clear e0 e1 e2 e3 e4
    obtain ⟨e0, e1, e2, e3, e4⟩ := bk5 (B2.nth 0 rfl)
    go_wp2_with fail
    refine (SN.out w2 B2.below).mono ?_
    rintro r w9 ⟨hb9, rfl⟩
    go_wp2
    go_ret
    exact ⟨(B2.next hb9).below, rfl⟩
  have hSa : Slim a := by
    by_cases h : Slim a
    · exact h
    · exact absurd (hqw.2 h) (by rw [hw]; decide)
  have hSb : Slim b := by
    by_cases h : Slim b
    · exact h
    · exact absurd (hqb.2 h) (by rw [hv]; decide)
  subst hw
  subst hv
  have hia := slim_in hSa
  have hib := slim_in hSb
  have hif : InA (sliceR a C).1 := sliceR_in hia
  have hip : InA (pasteR a C b).1 := pasteR_in hia hib
  have hcl : C.length ≤ maxLen := by unfold maxLen; omega
  have F1 := Lib.hid (fun W (hW : Below w.heap.size w W) => slice_any a C _ _ W (ha.next hW) (hk.next hW) hia hC hcl (he.next hW))
  have F2 := Lib.hid (fun W (hW : Below w.heap.size w W) => rslice_any a C _ _ W (ha.next hW) (hk.next hW) hia hC hcl)
  have F3 := Lib.hid (fun W (hW : Below w.heap.size w W) => paste_any a b C _ _ _ W (ha.next hW) (hk.next hW) (hb.next hW) hia hib hC hcl (he.next hW))
  have F4 := Lib.hid (fun W (hW : Below w.heap.size w W) => rpaste_any a b C _ _ _ W (ha.next hW) (hk.next hW) (hb.next hW) hia hib hC hcl)
  have F5 := Lib.hid (fun (h0 : (pasteR a C b).2 = 0) W (hW : Below w.heap.size w W) (v : Value) (hv : IsA W W.heap.size v (pasteR a C b).1) => show Calls Tryz.prog 17 #[v, .slice Ak C.length ck] W fun e w' => Below W.heap.size W w' ∧ ∃ v, e = .returned (.tuple #[v, .int .i64 0]) ∧ IsA w' w'.heap.size v b from by
    have h := slice_any (pasteR a C b).1 C v _ W hv (hk.next hW) hip hC hcl (he.next hW)
    rw [paste_law1 h0] at h
    exact h)
  have F6 := Lib.hid (fun (h0 : (pasteR a C b).2 = 0) W (hW : Below w.heap.size w W) (v u : Value) (hv : IsA W W.heap.size v (pasteR a C b).1) (hu : IsA W W.heap.size u (sliceR a C).1) => show Calls Tryz.prog 19 #[v, .slice Ak C.length ck, u] W fun e w' => Below W.heap.size W w' ∧ ∃ v, e = .returned (.tuple #[v, .int .i64 0]) ∧ IsA w' w'.heap.size v a from by
    have h := paste_any (pasteR a C b).1 (sliceR a C).1 C v _ u W hv (hk.next hW) hu hip hif hC hcl (he.next hW)
    rw [paste_law2 h0] at h
    exact h)
  have AG1 := Lib.hid (fun W (u u' : Value) (hu : IsA W W.heap.size u (sliceR a C).1) (hu' : IsA W W.heap.size u' (sliceR a C).1) => agrees_any (sliceR a C).1 (sliceR a C).1 u u' (sliceR a C).2 (sliceR a C).2 W hu hu' hif.shape (in_max hif) true (by simp))
  have AG2 := Lib.hid (fun W (u u' : Value) (hu : IsA W W.heap.size u (pasteR a C b).1) (hu' : IsA W W.heap.size u' (pasteR a C b).1) => agrees_any (pasteR a C b).1 (pasteR a C b).1 u u' (pasteR a C b).2 (pasteR a C b).2 W hu hu' hip.shape (in_max hip) true (by simp))
  have AG3 := Lib.hid (fun W (hW : Below w.heap.size w W) (u : Value) (hu : IsA W W.heap.size u b) => agrees_any b b u (.agg #[.slice Ab b.1.length cb, .slice Ab' b.2.length cb']) 0 0 W hu (hb.next hW) hib.shape (in_max hib) true (by simp))
  have AG4 := Lib.hid (fun W (hW : Below w.heap.size w W) (u : Value) (hu : IsA W W.heap.size u a) => agrees_any a a u (.agg #[.slice A a.1.length c, .slice A' a.2.length c']) 0 0 W hu (ha.next hW) hia.shape (in_max hia) true (by simp))
  clear hqw hqb ha hb hk hL hM hL' hM' he hSa hSb hia hib hif hip hcl
  generalize (sliceR a C).2 = fe at *
  generalize (sliceR a C).1 = fa at *
  generalize (pasteR a C b).2 = pe at *
  generalize (pasteR a C b).1 = pa at *
  go_enter Tryz.func3, Tryz.ntmps3
  go_wp2_with fail
  generalize w.alloc (.cells #[.slice A a.1.length c, .slice A' a.2.length c', .slice Ak C.length ck, .slice Ab b.1.length cb, .slice Ab' b.2.length cb'] 28) = W0 at *
  refine (WD.out W0 B0.below).mono ?_
  rintro r w1 ⟨hb1, rfl⟩
  have B1 := B0.next hb1
  obtain ⟨e0, e1, e2, e3, e4⟩ := bk5 (B1.nth 0 rfl)
  go_wp2_with fail
  refine (WB.out w1 B1.below).mono ?_
  rintro r w2 ⟨hb2, rfl⟩
  have B2 := B1.next hb2
  clear e0 e1 e2 e3 e4
  obtain ⟨e0, e1, e2, e3, e4⟩ := bk5 (B2.nth 0 rfl)
  clear e0 e1 e2 e3 e4 WD WB hb1 hb2 B0 B1
  obtain ⟨e0, e1, e2, e3, e4⟩ := bk5 (B2.nth 0 rfl)
  go_wp2_with fail
  refine (F1.out w2 B2.below).mono ?_
  rintro r v3 ⟨hb3, x3, rfl, hx3⟩
  have C3 := B2.next hb3
  clear e0 e1 e2 e3 e4 hb3 B2
  obtain ⟨X3, m3, Y3, n3, rfl, -, -⟩ := hx3.form
  have D3 : BxW w [(w.heap.size, 28, #[.slice A a.1.length c, .slice A' a.2.length c', .slice Ak C.length ck, .slice Ab b.1.length cb, .slice Ab' b.2.length cb']), (v3.heap.size, 25, #[.slice X3 fa.1.length m3, .slice Y3 fa.2.length n3])] (v3.alloc (.cells #[.slice X3 fa.1.length m3, .slice Y3 fa.2.length n3] 25)) := C3.new _ _
  replace hx3 := hx3.next (below_alloc v3 (.cells #[.slice X3 fa.1.length m3, .slice Y3 fa.2.length n3] 25))
  clear C3
  obtain ⟨e0, e1, e2, e3, e4⟩ := bk5 (D3.nth 0 rfl)
  go_wp2_with fail
  generalize hw3 : v3.alloc (.cells #[.slice X3 fa.1.length m3, .slice Y3 fa.2.length n3] 25) = u3 at *
  clear hw3
  refine (F2.out u3 D3.below).mono ?_
  rintro r v4 ⟨hb4, x4, rfl, hx4⟩
  have C4 := D3.next hb4
  replace hx3 := hx3.next hb4
  clear e0 e1 e2 e3 e4 hb4 D3
  obtain ⟨X4, m4, Y4, n4, rfl, -, -⟩ := hx4.form
  have D4 : BxW w [(w.heap.size, 28, #[.slice A a.1.length c, .slice A' a.2.length c', .slice Ak C.length ck, .slice Ab b.1.length cb, .slice Ab' b.2.length cb']), (v3.heap.size, 25, #[.slice X3 fa.1.length m3, .slice Y3 fa.2.length n3]), (v4.heap.size, 25, #[.slice X4 fa.1.length m4, .slice Y4 fa.2.length n4])] (v4.alloc (.cells #[.slice X4 fa.1.length m4, .slice Y4 fa.2.length n4] 25)) := C4.new _ _
  replace hx3 := hx3.next (below_alloc v4 (.cells #[.slice X4 fa.1.length m4, .slice Y4 fa.2.length n4] 25))
  replace hx4 := hx4.next (below_alloc v4 (.cells #[.slice X4 fa.1.length m4, .slice Y4 fa.2.length n4] 25))
  clear C4
  obtain ⟨e0, e1, e2, e3, e4⟩ := bk5 (D4.nth 0 rfl)
  go_wp2_with fail
  generalize hw4 : v4.alloc (.cells #[.slice X4 fa.1.length m4, .slice Y4 fa.2.length n4] 25) = u4 at *
  clear hw4
  refine (F3.out u4 D4.below).mono ?_
  rintro r v5 ⟨hb5, x5, rfl, hx5⟩
  have C5 := D4.next hb5
  replace hx3 := hx3.next hb5
  replace hx4 := hx4.next hb5
  clear e0 e1 e2 e3 e4 hb5 D4
  obtain ⟨X5, m5, Y5, n5, rfl, -, -⟩ := hx5.form
  have D5 : BxW w [(w.heap.size, 28, #[.slice A a.1.length c, .slice A' a.2.length c', .slice Ak C.length ck, .slice Ab b.1.length cb, .slice Ab' b.2.length cb']), (v3.heap.size, 25, #[.slice X3 fa.1.length m3, .slice Y3 fa.2.length n3]), (v4.heap.size, 25, #[.slice X4 fa.1.length m4, .slice Y4 fa.2.length n4]), (v5.heap.size, 25, #[.slice X5 pa.1.length m5, .slice Y5 pa.2.length n5])] (v5.alloc (.cells #[.slice X5 pa.1.length m5, .slice Y5 pa.2.length n5] 25)) := C5.new _ _
  replace hx3 := hx3.next (below_alloc v5 (.cells #[.slice X5 pa.1.length m5, .slice Y5 pa.2.length n5] 25))
  replace hx4 := hx4.next (below_alloc v5 (.cells #[.slice X5 pa.1.length m5, .slice Y5 pa.2.length n5] 25))
  replace hx5 := hx5.next (below_alloc v5 (.cells #[.slice X5 pa.1.length m5, .slice Y5 pa.2.length n5] 25))
  clear C5
  obtain ⟨e0, e1, e2, e3, e4⟩ := bk5 (D5.nth 0 rfl)
  go_wp2_with fail
  generalize hw5 : v5.alloc (.cells #[.slice X5 pa.1.length m5, .slice Y5 pa.2.length n5] 25) = u5 at *
  clear hw5
  refine (F4.out u5 D5.below).mono ?_
  rintro r v6 ⟨hb6, x6, rfl, hx6⟩
  have C6 := D5.next hb6
  replace hx3 := hx3.next hb6
  replace hx4 := hx4.next hb6
  replace hx5 := hx5.next hb6
  clear e0 e1 e2 e3 e4 hb6 D5
  obtain ⟨X6, m6, Y6, n6, rfl, -, -⟩ := hx6.form
  have D6 : BxW w [(w.heap.size, 28, #[.slice A a.1.length c, .slice A' a.2.length c', .slice Ak C.length ck, .slice Ab b.1.length cb, .slice Ab' b.2.length cb']), (v3.heap.size, 25, #[.slice X3 fa.1.length m3, .slice Y3 fa.2.length n3]), (v4.heap.size, 25, #[.slice X4 fa.1.length m4, .slice Y4 fa.2.length n4]), (v5.heap.size, 25, #[.slice X5 pa.1.length m5, .slice Y5 pa.2.length n5]), (v6.heap.size, 25, #[.slice X6 pa.1.length m6, .slice Y6 pa.2.length n6])] (v6.alloc (.cells #[.slice X6 pa.1.length m6, .slice Y6 pa.2.length n6] 25)) := C6.new _ _
  replace hx3 := hx3.next (below_alloc v6 (.cells #[.slice X6 pa.1.length m6, .slice Y6 pa.2.length n6] 25))
  replace hx4 := hx4.next (below_alloc v6 (.cells #[.slice X6 pa.1.length m6, .slice Y6 pa.2.length n6] 25))
  replace hx5 := hx5.next (below_alloc v6 (.cells #[.slice X6 pa.1.length m6, .slice Y6 pa.2.length n6] 25))
  replace hx6 := hx6.next (below_alloc v6 (.cells #[.slice X6 pa.1.length m6, .slice Y6 pa.2.length n6] 25))
  clear C6
  obtain ⟨r10, r11⟩ := bkA (D6.nth 1 rfl)
  obtain ⟨r20, r21⟩ := bkA (D6.nth 2 rfl)
  have G1 := Lib.hid (AG1.out _ _ _ hx3 hx4)
  go_wp2_with fail
  generalize hw6 : v6.alloc (.cells #[.slice X6 pa.1.length m6, .slice Y6 pa.2.length n6] 25) = u6 at *
  clear hw6
  refine G1.out.mono ?_
  rintro r u7 ⟨hb7, rfl⟩
  have D7 := D6.next hb7
  clear r10 r11 r20 r21
  replace hx3 := hx3.next hb7
  replace hx4 := hx4.next hb7
  replace hx5 := hx5.next hb7
  replace hx6 := hx6.next hb7
  clear hb7 D6 G1
  obtain ⟨r30, r31⟩ := bkA (D7.nth 3 rfl)
  obtain ⟨r40, r41⟩ := bkA (D7.nth 4 rfl)
  go_wp2_with fail
  refine (AG2.out _ _ _ hx5 hx6).mono ?_
  rintro r u8 ⟨hb8, rfl⟩
  have D8 := D7.next hb8
  replace hx3 := hx3.next hb8
  replace hx4 := hx4.next hb8
  replace hx5 := hx5.next hb8
  replace hx6 := hx6.next hb8
  clear r30 r31 r40 r41 hb8 D7
  go_wp2_with fail
  refine (SN.out u8 D8.below).mono ?_
  rintro r u9 ⟨hb9, rfl⟩
  have D9 := D8.next hb9
  replace hx3 := hx3.next hb9
  replace hx4 := hx4.next hb9
  replace hx5 := hx5.next hb9
  replace hx6 := hx6.next hb9
  clear hb9 D8
  by_cases hpe : pe = 0
  rotate_left
  · have y1 : (pe != 0) = true := by simp [hpe]
    clear F5 F6
    go_wp2
    go_ret
    exact ⟨D9.below, rfl⟩
  subst hpe
  obtain ⟨e0, e1, e2, e3, e4⟩ := bk5 (D9.nth 0 rfl)
  obtain ⟨r30, r31⟩ := bkA (D9.nth 3 rfl)
  go_wp2_with fail
  refine (F5.out trivial u9 D9.below _ hx5).mono ?_
  rintro r v10 ⟨hb10, x10, rfl, hx10⟩
  have C10 := D9.next hb10
  replace hx3 := hx3.next hb10
  replace hx4 := hx4.next hb10
  replace hx5 := hx5.next hb10
  replace hx6 := hx6.next hb10
  clear e0 e1 e2 e3 e4 r30 r31 hb10 D9
  obtain ⟨X10, m10, Y10, n10, rfl, -, -⟩ := hx10.form
  have D10 : BxW w [(w.heap.size, 28, #[.slice A a.1.length c, .slice A' a.2.length c', .slice Ak C.length ck, .slice Ab b.1.length cb, .slice Ab' b.2.length cb']), (v3.heap.size, 25, #[.slice X3 fa.1.length m3, .slice Y3 fa.2.length n3]), (v4.heap.size, 25, #[.slice X4 fa.1.length m4, .slice Y4 fa.2.length n4]), (v5.heap.size, 25, #[.slice X5 pa.1.length m5, .slice Y5 pa.2.length n5]), (v6.heap.size, 25, #[.slice X6 pa.1.length m6, .slice Y6 pa.2.length n6]), (v10.heap.size, 25, #[.slice X10 b.1.length m10, .slice Y10 b.2.length n10])] (v10.alloc (.cells #[.slice X10 b.1.length m10, .slice Y10 b.2.length n10] 25)) := C10.new _ _
  replace hx3 := hx3.next (below_alloc v10 (.cells #[.slice X10 b.1.length m10, .slice Y10 b.2.length n10] 25))
  replace hx4 := hx4.next (below_alloc v10 (.cells #[.slice X10 b.1.length m10, .slice Y10 b.2.length n10] 25))
  replace hx5 := hx5.next (below_alloc v10 (.cells #[.slice X10 b.1.length m10, .slice Y10 b.2.length n10] 25))
  replace hx6 := hx6.next (below_alloc v10 (.cells #[.slice X10 b.1.length m10, .slice Y10 b.2.length n10] 25))
  replace hx10 := hx10.next (below_alloc v10 (.cells #[.slice X10 b.1.length m10, .slice Y10 b.2.length n10] 25))
  clear C10
  obtain ⟨e0, e1, e2, e3, e4⟩ := bk5 (D10.nth 0 rfl)
  obtain ⟨r10, r11⟩ := bkA (D10.nth 1 rfl)
  obtain ⟨r30, r31⟩ := bkA (D10.nth 3 rfl)
  go_wp2_with fail
  generalize hw10 : v10.alloc (.cells #[.slice X10 b.1.length m10, .slice Y10 b.2.length n10] 25) = u10 at *
  clear hw10
  refine (F6.out trivial u10 D10.below _ _ hx5 hx3).mono ?_
  rintro r v11 ⟨hb11, x11, rfl, hx11⟩
  have C11 := D10.next hb11
  replace hx3 := hx3.next hb11
  replace hx4 := hx4.next hb11
  replace hx5 := hx5.next hb11
  replace hx6 := hx6.next hb11
  replace hx10 := hx10.next hb11
  clear e0 e1 e2 e3 e4 r10 r11 r30 r31 hb11 D10
  obtain ⟨X11, m11, Y11, n11, rfl, -, -⟩ := hx11.form
  have D11 : BxW w [(w.heap.size, 28, #[.slice A a.1.length c, .slice A' a.2.length c', .slice Ak C.length ck, .slice Ab b.1.length cb, .slice Ab' b.2.length cb']), (v3.heap.size, 25, #[.slice X3 fa.1.length m3, .slice Y3 fa.2.length n3]), (v4.heap.size, 25, #[.slice X4 fa.1.length m4, .slice Y4 fa.2.length n4]), (v5.heap.size, 25, #[.slice X5 pa.1.length m5, .slice Y5 pa.2.length n5]), (v6.heap.size, 25, #[.slice X6 pa.1.length m6, .slice Y6 pa.2.length n6]), (v10.heap.size, 25, #[.slice X10 b.1.length m10, .slice Y10 b.2.length n10]), (v11.heap.size, 25, #[.slice X11 a.1.length m11, .slice Y11 a.2.length n11])] (v11.alloc (.cells #[.slice X11 a.1.length m11, .slice Y11 a.2.length n11] 25)) := C11.new _ _
  replace hx3 := hx3.next (below_alloc v11 (.cells #[.slice X11 a.1.length m11, .slice Y11 a.2.length n11] 25))
  replace hx4 := hx4.next (below_alloc v11 (.cells #[.slice X11 a.1.length m11, .slice Y11 a.2.length n11] 25))
  replace hx5 := hx5.next (below_alloc v11 (.cells #[.slice X11 a.1.length m11, .slice Y11 a.2.length n11] 25))
  replace hx6 := hx6.next (below_alloc v11 (.cells #[.slice X11 a.1.length m11, .slice Y11 a.2.length n11] 25))
  replace hx10 := hx10.next (below_alloc v11 (.cells #[.slice X11 a.1.length m11, .slice Y11 a.2.length n11] 25))
  replace hx11 := hx11.next (below_alloc v11 (.cells #[.slice X11 a.1.length m11, .slice Y11 a.2.length n11] 25))
  clear C11
  obtain ⟨e0, e1, e2, e3, e4⟩ := bk5 (D11.nth 0 rfl)
  obtain ⟨r50, r51⟩ := bkA (D11.nth 5 rfl)
  have G3 := Lib.hid (AG3.out _ D11.below _ hx10)
  go_wp2_with fail
  generalize hw11 : v11.alloc (.cells #[.slice X11 a.1.length m11, .slice Y11 a.2.length n11] 25) = u11 at *
  clear hw11
  refine G3.out.mono ?_
  rintro r u12 ⟨hb12, rfl⟩
  have D12 := D11.next hb12
  replace hx11 := hx11.next hb12
  clear e0 e1 e2 e3 e4 r50 r51 hb12 D11 G3
  obtain ⟨e0, e1, e2, e3, e4⟩ := bk5 (D12.nth 0 rfl)
  obtain ⟨r60, r61⟩ := bkA (D12.nth 6 rfl)
  go_wp2_with fail
  refine (AG4.out u12 D12.below _ hx11).mono ?_
  rintro r u13 ⟨hb13, rfl⟩
  go_wp2
  go_ret
  exact ⟨(D12.next hb13).below, rfl⟩
end Go.Proofs.YtgnffedncjjkfaaGreatDoor
