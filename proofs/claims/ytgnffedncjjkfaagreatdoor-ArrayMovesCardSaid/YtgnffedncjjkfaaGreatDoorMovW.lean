/-
  The walk of the law ArrayMoves.
-/
import Derived.Test.YtgnffedncjjkfaaGreatDoorMovX
namespace Go.Proofs.YtgnffedncjjkfaaGreatDoor
open Go.RowKit Ix Ar

theorem slim_in {a : Arr} (h : Slim a) : InA a := ⟨by have := h.1; unfold maxLen; omega, by have := h.2.1; omega, fun s hs => by have := h.2.2 s hs; omega⟩
theorem in_max {a : Arr} (h : InA a) : a.2.length ≤ maxLen := by have := h.vals; unfold maxLen; omega
theorem BxW.nth {w W : World} {ks : List Bx} (h : BxW w ks W) (i : Nat) {p : Bx} (hp : ks[i]? = some p) : Bk W p.1 p.2.1 p.2.2 := h.keep p (List.mem_of_getElem? hp)
set_option maxRecDepth 100000 in
set_option maxHeartbeats 12800000 in
theorem movs_walk (a : Arr) (X T : List Int) (va vx vt : Value) (w : World) (ha : IsA w w.heap.size va a) (hL : a.1.length ≤ maxLen) (hM : a.2.length ≤ maxLen) (_ : ∀ s ∈ a.1, -9223372036854775808 ≤ s ∧ s ≤ 9223372036854775807) (hX : IsI w w.heap.size vx X) (hXL : X.length ≤ maxLen) (_ : ∀ s ∈ X, -9223372036854775808 ≤ s ∧ s ≤ 9223372036854775807) (hT : IsI w w.heap.size vt T) (hTL : T.length ≤ maxLen) (_ : ∀ s ∈ T, -9223372036854775808 ≤ s ∧ s ≤ 9223372036854775807) (he : Env w) :
    Calls Tryz.prog 6 #[va, vx, vt] w fun r w' => Below w.heap.size w w' ∧ r = .returned (.bool true) := by
  obtain ⟨A, c, A', c', rfl, -, -⟩ := ha.form
  obtain ⟨Ax, cx, rfl, -⟩ := hX.form
  obtain ⟨At, ct, rfl, -⟩ := hT.form
  obtain ⟨qw, hqw⟩ : ∃ b : Bool, b = true ↔ ¬ Slim a := by classical exact ⟨decide _, decide_eq_true_iff⟩
  obtain ⟨qb, hqb⟩ : ∃ b : Bool, b = true ↔ Bigs T := by classical exact ⟨decide _, decide_eq_true_iff⟩
  have WD := Lib.hid (fun W (hW : Below w.heap.size w W) => wide_any a _ W (ha.next hW) hL hM qw hqw)
  have BG := Lib.hid (fun W (hW : Below w.heap.size w W) => big_any T At ct w.heap.size W (hT.rd.below hW) hTL qb hqb)
  have SN := Lib.hid (fun W (hW : Below w.heap.size w W) => sane_any W (he.next hW))
  have B0 : BxW w [(w.heap.size, 25, #[.slice A a.1.length c, .slice A' a.2.length c'])] (w.alloc (.cells #[.slice A a.1.length c, .slice A' a.2.length c'] 25)) := (BxW.nil w).new _ _
  have hXL' := hXL
  unfold maxLen at hXL'
  cases hw : qw
  rotate_left
  · subst hw
    clear hqw hqb BG ha hX hT hXL hTL hL hM he
    go_enter Tryz.func6, Tryz.ntmps6
    go_wp2_with fail
    generalize w.alloc (.cells #[.slice A a.1.length c, .slice A' a.2.length c'] 25) = W0 at *
    refine (WD.out W0 B0.below).mono ?_
    rintro r w1 ⟨hb1, rfl⟩
    have B1 := B0.next hb1
    go_wp2_with fail
    refine (SN.out w1 B1.below).mono ?_
    rintro r w9 ⟨hb9, rfl⟩
    go_wp2
    go_ret
    exact ⟨(B1.next hb9).below, rfl⟩
  by_cases h10 : 10 < X.length
  · subst hw
    clear hqw hqb BG ha hX hT hXL hTL hL hM he
    go_enter Tryz.func6, Tryz.ntmps6
    go_wp2_with fail
    generalize w.alloc (.cells #[.slice A a.1.length c, .slice A' a.2.length c'] 25) = W0 at *
    refine (WD.out W0 B0.below).mono ?_
    rintro r w1 ⟨hb1, rfl⟩
    have B1 := B0.next hb1
    go_wp2_with fail
    refine (SN.out w1 B1.below).mono ?_
    rintro r w9 ⟨hb9, rfl⟩
    go_wp2
    go_ret
    exact ⟨(B1.next hb9).below, rfl⟩
  cases hb : qb
  rotate_left
  · subst hw
    subst hb
    clear hqw hqb ha hX hT hXL hTL hL hM he
    go_enter Tryz.func6, Tryz.ntmps6
    go_wp2_with fail
    generalize w.alloc (.cells #[.slice A a.1.length c, .slice A' a.2.length c'] 25) = W0 at *
    refine (WD.out W0 B0.below).mono ?_
    rintro r w1 ⟨hb1, rfl⟩
    have B1 := B0.next hb1
    go_wp2_with fail
    refine (BG.out w1 B1.below).mono ?_
    rintro r w' ⟨rfl, rfl⟩
    go_wp2_with fail
    refine (SN.out w1 B1.below).mono ?_
    rintro r w9 ⟨hb9, rfl⟩
    go_wp2
    go_ret
    exact ⟨(B1.next hb9).below, rfl⟩
  have hSa : Slim a := by
    by_cases h : Slim a
    · exact h
    · exact absurd (hqw.2 h) (by rw [hw]; decide)
  subst hw
  subst hb
  have hia := slim_in hSa
  have his : InA (spreadR a X T).1 := spreadR_in hia hTL
  have him : InA (moveR a X).1 := moveR_in hia hXL
  obtain ⟨i0, hi0, hz0, hz1, hz2⟩ := info_parts Tryz.int_info
  have hmk := make_ints (P := Tryz.prog) 22 3 i0 .i64 Tryz.underlying22 hi0 hz0 hz1 (by omega) .i64 .i64 X.length (X.length : Int) rfl (by omega)
  have F1 := Lib.hid (fun W (hW : Below w.heap.size w W) => spread_any a X T _ _ _ W (ha.next hW) (hX.next hW) (hT.next hW) hia hXL hTL (he.next hW))
  have F2 := Lib.hid (fun W (hW : Below w.heap.size w W) => rspread_any a X T _ _ _ W (ha.next hW) (hX.next hW) (hT.next hW) hia (by omega) hTL)
  have F3 := Lib.hid (fun W (hW : Below w.heap.size w W) => move_any a X _ _ W (ha.next hW) (hX.next hW) hia hXL (he.next hW))
  have F4 := Lib.hid (fun W (hW : Below w.heap.size w W) => rmove_any a X _ _ W (ha.next hW) (hX.next hW) hia (by omega))
  have F5 := Lib.hid (fun (h0 : (moveR a X).2 = 0) W (hW : Below w.heap.size w W) (v u : Value) (hv : IsA W W.heap.size v (moveR a X).1) (hu : IsI W W.heap.size u (ivI X)) => show Calls Tryz.prog 35 #[v, u] W fun e w' => Below W.heap.size W w' ∧ ∃ v, e = .returned (.tuple #[v, .int .i64 0]) ∧ IsA w' w'.heap.size v a from by
    have h := move_any (moveR a X).1 (ivI X) v u W hv hu him (by rw [ivI_len]; exact hXL) (he.next hW)
    rw [move_law h0] at h
    exact h)
  have AG1 := Lib.hid (fun W (u u' : Value) (hu : IsA W W.heap.size u (spreadR a X T).1) (hu' : IsA W W.heap.size u' (spreadR a X T).1) => agrees_any (spreadR a X T).1 (spreadR a X T).1 u u' (spreadR a X T).2 (spreadR a X T).2 W hu hu' his.shape (in_max his) true (by simp))
  have AG2 := Lib.hid (fun W (u u' : Value) (hu : IsA W W.heap.size u (moveR a X).1) (hu' : IsA W W.heap.size u' (moveR a X).1) => agrees_any (moveR a X).1 (moveR a X).1 u u' (moveR a X).2 (moveR a X).2 W hu hu' him.shape (in_max him) true (by simp))
  have AG3 := Lib.hid (fun W (hW : Below w.heap.size w W) (u : Value) (hu : IsA W W.heap.size u a) => agrees_any a a u (.agg #[.slice A a.1.length c, .slice A' a.2.length c']) 0 0 W hu (ha.next hW) hia.shape (in_max hia) true (by simp))
  have HD := Lib.hid (fun (h0 : (moveR a X).2 = 0) => (moveR_err h0).2)
  have HX := Lib.hid (fun W (hW : Below w.heap.size w W) => hX.rd.below hW)
  generalize hpe : (moveR a X).2 = pe at *
  clear hpe
  generalize (moveR a X).1 = pa at *
  generalize (spreadR a X T).2 = fe at *
  generalize (spreadR a X T).1 = fa at *
  clear hqw hqb ha hX hT hL hM he hSa hia his him hTL hXL
  go_enter Tryz.func6, Tryz.ntmps6
  go_wp2_with fail
  generalize w.alloc (.cells #[.slice A a.1.length c, .slice A' a.2.length c'] 25) = W0 at *
  refine (WD.out W0 B0.below).mono ?_
  rintro r w1 ⟨hb1, rfl⟩
  have B1 := B0.next hb1
  go_wp2_with fail
  refine (BG.out w1 B1.below).mono ?_
  rintro r w' ⟨rfl, rfl⟩
  clear WD BG hb1 B0
  obtain ⟨r00, r01⟩ := bkA (B1.nth 0 rfl)
  go_wp2_with fail
  refine (F1.out w1 B1.below).mono ?_
  rintro r v3 ⟨hb3, x3, rfl, hx3⟩
  have C3 := B1.next hb3
  clear r00 r01 hb3 B1
  obtain ⟨X3, m3, Y3, n3, rfl, -, -⟩ := hx3.form
  have D3 : BxW w [(w.heap.size, 25, #[.slice A a.1.length c, .slice A' a.2.length c']), (v3.heap.size, 25, #[.slice X3 fa.1.length m3, .slice Y3 fa.2.length n3])] (v3.alloc (.cells #[.slice X3 fa.1.length m3, .slice Y3 fa.2.length n3] 25)) := C3.new _ _
  replace hx3 := hx3.next (below_alloc v3 (.cells #[.slice X3 fa.1.length m3, .slice Y3 fa.2.length n3] 25))
  clear C3
  obtain ⟨r00, r01⟩ := bkA (D3.nth 0 rfl)
  go_wp2_with fail
  generalize hw3 : v3.alloc (.cells #[.slice X3 fa.1.length m3, .slice Y3 fa.2.length n3] 25) = u3 at *
  clear hw3
  refine (F2.out u3 D3.below).mono ?_
  rintro r v4 ⟨hb4, x4, rfl, hx4⟩
  have C4 := D3.next hb4
  replace hx3 := hx3.next hb4
  clear r00 r01 hb4 D3
  obtain ⟨X4, m4, Y4, n4, rfl, -, -⟩ := hx4.form
  have D4 : BxW w [(w.heap.size, 25, #[.slice A a.1.length c, .slice A' a.2.length c']), (v3.heap.size, 25, #[.slice X3 fa.1.length m3, .slice Y3 fa.2.length n3]), (v4.heap.size, 25, #[.slice X4 fa.1.length m4, .slice Y4 fa.2.length n4])] (v4.alloc (.cells #[.slice X4 fa.1.length m4, .slice Y4 fa.2.length n4] 25)) := C4.new _ _
  replace hx3 := hx3.next (below_alloc v4 (.cells #[.slice X4 fa.1.length m4, .slice Y4 fa.2.length n4] 25))
  replace hx4 := hx4.next (below_alloc v4 (.cells #[.slice X4 fa.1.length m4, .slice Y4 fa.2.length n4] 25))
  clear C4
  obtain ⟨r00, r01⟩ := bkA (D4.nth 0 rfl)
  go_wp2_with fail
  generalize hw4 : v4.alloc (.cells #[.slice X4 fa.1.length m4, .slice Y4 fa.2.length n4] 25) = u4 at *
  clear hw4
  refine (F3.out u4 D4.below).mono ?_
  rintro r v5 ⟨hb5, x5, rfl, hx5⟩
  have C5 := D4.next hb5
  replace hx3 := hx3.next hb5
  replace hx4 := hx4.next hb5
  clear r00 r01 hb5 D4
  obtain ⟨X5, m5, Y5, n5, rfl, -, -⟩ := hx5.form
  have D5 : BxW w [(w.heap.size, 25, #[.slice A a.1.length c, .slice A' a.2.length c']), (v3.heap.size, 25, #[.slice X3 fa.1.length m3, .slice Y3 fa.2.length n3]), (v4.heap.size, 25, #[.slice X4 fa.1.length m4, .slice Y4 fa.2.length n4]), (v5.heap.size, 25, #[.slice X5 pa.1.length m5, .slice Y5 pa.2.length n5])] (v5.alloc (.cells #[.slice X5 pa.1.length m5, .slice Y5 pa.2.length n5] 25)) := C5.new _ _
  replace hx3 := hx3.next (below_alloc v5 (.cells #[.slice X5 pa.1.length m5, .slice Y5 pa.2.length n5] 25))
  replace hx4 := hx4.next (below_alloc v5 (.cells #[.slice X5 pa.1.length m5, .slice Y5 pa.2.length n5] 25))
  replace hx5 := hx5.next (below_alloc v5 (.cells #[.slice X5 pa.1.length m5, .slice Y5 pa.2.length n5] 25))
  clear C5
  obtain ⟨r00, r01⟩ := bkA (D5.nth 0 rfl)
  go_wp2_with fail
  generalize hw5 : v5.alloc (.cells #[.slice X5 pa.1.length m5, .slice Y5 pa.2.length n5] 25) = u5 at *
  clear hw5
  refine (F4.out u5 D5.below).mono ?_
  rintro r v6 ⟨hb6, x6, rfl, hx6⟩
  have C6 := D5.next hb6
  replace hx3 := hx3.next hb6
  replace hx4 := hx4.next hb6
  replace hx5 := hx5.next hb6
  clear r00 r01 hb6 D5
  obtain ⟨X6, m6, Y6, n6, rfl, -, -⟩ := hx6.form
  have D6 : BxW w [(w.heap.size, 25, #[.slice A a.1.length c, .slice A' a.2.length c']), (v3.heap.size, 25, #[.slice X3 fa.1.length m3, .slice Y3 fa.2.length n3]), (v4.heap.size, 25, #[.slice X4 fa.1.length m4, .slice Y4 fa.2.length n4]), (v5.heap.size, 25, #[.slice X5 pa.1.length m5, .slice Y5 pa.2.length n5]), (v6.heap.size, 25, #[.slice X6 pa.1.length m6, .slice Y6 pa.2.length n6])] (v6.alloc (.cells #[.slice X6 pa.1.length m6, .slice Y6 pa.2.length n6] 25)) := C6.new _ _
  replace hx3 := hx3.next (below_alloc v6 (.cells #[.slice X6 pa.1.length m6, .slice Y6 pa.2.length n6] 25))
  replace hx4 := hx4.next (below_alloc v6 (.cells #[.slice X6 pa.1.length m6, .slice Y6 pa.2.length n6] 25))
  replace hx5 := hx5.next (below_alloc v6 (.cells #[.slice X6 pa.1.length m6, .slice Y6 pa.2.length n6] 25))
  replace hx6 := hx6.next (below_alloc v6 (.cells #[.slice X6 pa.1.length m6, .slice Y6 pa.2.length n6] 25))
  clear C6
  obtain ⟨r10, r11⟩ := bkA (D6.nth 1 rfl)
  obtain ⟨r20, r21⟩ := bkA (D6.nth 2 rfl)
  have G1 := Lib.hid (AG1.out _ _ _ hx3 hx4)
  go_wp2_with fail
  generalize hw6 : v6.alloc (.cells #[.slice X6 pa.1.length m6, .slice Y6 pa.2.length n6] 25) = u6 at *
  clear hw6
  refine G1.out.mono ?_
  rintro r u7 ⟨hb7, rfl⟩
  have D7 := D6.next hb7
  clear r10 r11 r20 r21
  replace hx3 := hx3.next hb7
  replace hx4 := hx4.next hb7
  replace hx5 := hx5.next hb7
  replace hx6 := hx6.next hb7
  clear hb7 D6 G1
  obtain ⟨r30, r31⟩ := bkA (D7.nth 3 rfl)
  obtain ⟨r40, r41⟩ := bkA (D7.nth 4 rfl)
  go_wp2_with fail
  refine (AG2.out _ _ _ hx5 hx6).mono ?_
  rintro r u8 ⟨hb8, rfl⟩
  have D8 := D7.next hb8
  replace hx3 := hx3.next hb8
  replace hx4 := hx4.next hb8
  replace hx5 := hx5.next hb8
  replace hx6 := hx6.next hb8
  clear r30 r31 r40 r41 hb8 D7
  go_wp2_with fail
  refine (SN.out u8 D8.below).mono ?_
  rintro r u9 ⟨hb9, rfl⟩
  have D9 := D8.next hb9
  replace hx3 := hx3.next hb9
  replace hx4 := hx4.next hb9
  replace hx5 := hx5.next hb9
  replace hx6 := hx6.next hb9
  clear hb9 D8
  by_cases hpe : pe = 0
  rotate_left
  · have y1 : (pe != 0) = true := by simp [hpe]
    clear F5
    go_wp2
    go_ret
    exact ⟨D9.below, rfl⟩
  subst hpe
  obtain ⟨hlen, hDX⟩ := HD.out (by first | trivial | rfl)
  have hp := dist_perm hlen hDX
  have HZ1 : Hid (List.replicate X.length 0 = scat (X.map Int.toNat) X.length id 0) := (scat_zero _ _ _).symm
  have HSC := Lib.hid (fun k (hk : k < X.length) => show (scat (X.map Int.toNat) X.length id k).set ((X.getD k 0).toNat) k = scat (X.map Int.toNat) X.length id (k + 1) from by
    have := scat_next (by rw [hlen]; exact hp) id hk
    rwa [getD_map] at this)
  have HSE : Hid (ints .i64 (scat (X.map Int.toNat) X.length id X.length) = zints (ivI X)) := by
    show _ = _
    rw [scat_all (by rw [hlen]; exact hp) id, List.map_id]
    unfold ivI
    rw [zints_nat]
  have HIL : Hid ((ivI X).length = X.length) := ivI_len X
  have HDX := Lib.hid hDX
  have HXS := Lib.hid hlen
  clear hp hDX hlen HD AG1 AG2 SN F1 F2 F3 F4 hx3 hx4 hx6
  go_wp2_with fail
  have KI0 := Bk.new u9 3 (ints .i64 (List.replicate X.length 0)).toArray
  have hba := below_alloc u9 (.cells (ints .i64 (List.replicate X.length 0)).toArray 3)
  have DA := D9.next hba
  replace hx5 := hx5.more (Nat.le_refl _)
  have hlu := D9.below.size
  generalize hwa : u9.alloc (.cells (ints .i64 (List.replicate X.length 0)).toArray 3) = ua at *
  rw [HZ1.out] at KI0
  clear hwa hmk HZ1
  go_loopw [16] (fun i wr => ∃ k : Nat, k ≤ X.length ∧ i = .int .i64 k ∧ Below u9.heap.size u9 wr ∧ Bk wr u9.heap.size 3 (ints .i64 (scat (X.map Int.toNat) X.length id k)).toArray) (fun i _ => X.length - (intOf i).toNat)
  case atStart => exact ⟨0, Nat.zero_le _, rfl, hba, KI0⟩
  case round =>
    clear KI0 hba DA
    obtain ⟨k, hk, rfl, hbr, KI⟩ := hrel
    have BR := D9.next hbr
    by_cases hlt : k < X.length
    · obtain ⟨adx, rfl, habx, hcx⟩ := (HX.out wr BR.below).zint hlt
      have hxr := HDX.out.1 _ (List.getElem_mem hlt)
      have HSN := Lib.hid (HSC.out k hlt)
      rw [← getD_zint hlt] at HSN
      generalize X[k] = x at *
      obtain ⟨m, rfl⟩ : ∃ m : Nat, x = (m : Int) := ⟨x.toNat, by omega⟩
      have hmX : m < X.length := by rw [HXS.out]; omega
      rw [Int.toNat_natCast] at HSN
      have k2 := KI.put m (.int .i64 (k : Int))
      rw [ints_set, HSN.out] at k2
      have hcI := KI.cell m
      rw [ints_getD .i64 _ (by rw [scat_len]; exact hmX)] at hcI
      have hfI := KI.frozen m
      have hbn := hbr.setCell (p := ⟨u9.heap.size, m, none⟩) (Nat.le_refl _) (.int .i64 (k : Int))
      have K2 := Lib.hid k2
      clear k2 KI HSN BR hxr
      go_wp2
      go_roundw
      case rel => exact ⟨k + 1, by omega, by go_num, hbn, K2.out⟩
      case measure => simp [intOf]; omega
    · obtain rfl : k = X.length := by omega
      rw [HSE.out] at KI
      have II := IsI.of_bk KI
      rw [HIL.out] at II
      replace hx5 := hx5.next hbr
      have F5' := Lib.hid (F5.out (by first | trivial | rfl) wr BR.below _ _ hx5 II)
      clear HSE II KI HSC hbr D9
      obtain ⟨r30, r31⟩ := bkA (BR.nth 3 rfl)
      go_wp2_with fail
      refine F5'.out.mono ?_
      rintro r v10 ⟨hb10, x10, rfl, hx10⟩
      have C10 := BR.next hb10
      clear r30 r31 hb10 BR
      obtain ⟨X10, m10, Y10, n10, rfl, -, -⟩ := hx10.form
      have D10 : BxW w [(w.heap.size, 25, #[.slice A a.1.length c, .slice A' a.2.length c']), (v3.heap.size, 25, #[.slice X3 fa.1.length m3, .slice Y3 fa.2.length n3]), (v4.heap.size, 25, #[.slice X4 fa.1.length m4, .slice Y4 fa.2.length n4]), (v5.heap.size, 25, #[.slice X5 pa.1.length m5, .slice Y5 pa.2.length n5]), (v6.heap.size, 25, #[.slice X6 pa.1.length m6, .slice Y6 pa.2.length n6]), (v10.heap.size, 25, #[.slice X10 a.1.length m10, .slice Y10 a.2.length n10])] (v10.alloc (.cells #[.slice X10 a.1.length m10, .slice Y10 a.2.length n10] 25)) := C10.new _ _
      replace hx10 := hx10.next (below_alloc v10 (.cells #[.slice X10 a.1.length m10, .slice Y10 a.2.length n10] 25))
      clear C10
      obtain ⟨r00, r01⟩ := bkA (D10.nth 0 rfl)
      obtain ⟨r50, r51⟩ := bkA (D10.nth 5 rfl)
      have G3 := Lib.hid (AG3.out _ D10.below _ hx10)
      go_wp2_with fail
      generalize hw10 : v10.alloc (.cells #[.slice X10 a.1.length m10, .slice Y10 a.2.length n10] 25) = u10 at *
      clear hw10
      refine G3.out.mono ?_
      rintro r u11 ⟨hb11, rfl⟩
      have D11 := D10.next hb11
      go_wp2
      go_ret
      exact ⟨D11.below, rfl⟩
end Go.Proofs.YtgnffedncjjkfaaGreatDoor
