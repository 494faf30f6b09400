/-
  Walks: the reference of package codec: Undict.
-/
import Derived.Test.YtmoenbdooilceaaDoorUndA
namespace Go.Proofs.YtmoenbdooilceaaDoor
open Go.RowKit By

set_option maxRecDepth 100000 in
set_option maxHeartbeats 6400000 in
theorem rundict_any (A : Option Addr) (c : Nat) (l : List Nat) (E : Nat) (R : List Nat) (w : World) (hl : Bytes l) (hc : l.length ≤ c) (hm : l.length ≤ 100000000) (hcc : c ≤ maxLen) (h : Rd w w.heap.size A (ints .u8 l)) (hu : und l [] = (E, R)) :
    Calls Tryd.prog 14 #[.slice A l.length c] w fun e w' => Below w.heap.size w w' ∧ ∃ v, e = .returned (.tuple #[v, .int .i64 (E : Int)]) ∧ IsL w' w'.heap.size .u8 v R := by
  unfold maxLen at hcc
  obtain ⟨i0, hi0, hz0, hz1, hz2⟩ := info_parts Tryd.u8_info
  have HU0 := Lib.hid hu
  clear hu
  go_enter Tryd.func14, Tryd.ntmps14
  go_wp2
  go_loopw [0, 4] (fun x v wr => ∃ (B : Option Addr) (cb : Nat) (r o : List Nat), x = .slice B r.length cb ∧ r.length ≤ cb ∧ r.length ≤ 100000000 ∧ cb ≤ 9223372036854775807 ∧ Bytes r ∧ Rd wr w.heap.size B (ints .u8 r) ∧ o.length ≤ 1048576 ∧ Bytes o ∧ wr.ownsRow w.heap.size 5 1 v o.length (ints .u8 o) ∧ Hid (und r o = (E, R)) ∧ Below w.heap.size w wr)
    (fun x _ _ => (match x with | .slice _ n _ => n | _ => 0))
  case atStart => exact ⟨A, c, l, [], rfl, hc, hm, hcc, hl, h, by decide, bytes_nil, World.ownsRow_nil _ _ _ _, HU0.out, Below.refl _ _⟩
  case round =>
    clear h hl hc hm hcc HU0
    obtain ⟨B, cb, r, o, rfl, hrc, hrm, hcb, hbr, hrd, ho, hbo, hown, HU, hB⟩ := hrel
    obtain ⟨A', c', rfl, hc'⟩ := own_slice hown
    rcases r with _ | ⟨x, t⟩
    · have HE : Hid (E = 0 ∧ R = o) := by
        have := HU.out
        rw [und_nil] at this
        injection this with e1 e2
        exact ⟨e1.symm, e2.symm⟩
      obtain ⟨rfl, rfl⟩ := HE.out
      have HL := Lib.hid (IsL.of_own hown)
      clear hown HE
      go_wp2
      go_ret2
      exact ⟨hB, _, rfl, HL.out⟩
    · have hx : x < 256 := hbr x (by simp)
      have hbt : Bytes t := fun y hy => hbr y (by simp [hy])
      obtain ⟨ad, rfl, hab, hcell⟩ := hrd.int (j := 0) (by simp)
      rw [addr_zero, List.getD_cons_zero] at hcell
      have hlen : (x :: t).length = t.length + 1 := rfl
      rw [hlen] at hrc hrm ⊢
      have HRD := Lib.hid hrd
      clear hrd hbr
      by_cases hx8 : x < 128
      · by_cases hsh : t.length < x + 1
        · have HE : Hid (E = 5 ∧ R = []) := by
            have := HU.out
            rw [und_lit_short hx8 hsh] at this
            injection this with e1 e2
            exact ⟨e1.symm, e2.symm⟩
          obtain ⟨rfl, rfl⟩ := HE.out
          clear HE hown
          go_wp2
          go_ret2
          exact ⟨hB, _, rfl, IsL.nil _ _ _⟩
        · by_cases hbig : o.length + (x + 1) > 1048576
          · have HE : Hid (E = 4 ∧ R = []) := by
              have := HU.out
              rw [und_lit_long hx8 hsh hbig] at this
              injection this with e1 e2
              exact ⟨e1.symm, e2.symm⟩
            obtain ⟨rfl, rfl⟩ := HE.out
            clear HE
            have hsub2 : Rd wr w.heap.size (some ⟨ad.block, ad.off + 1, none⟩) (ints .u8 (t.take (1 + x))) := HRD.out.sub 1 (1 + x)
            have htl : (t.take (1 + x)).length = 1 + x := by rw [List.length_take]; omega
            have HTL := Lib.hid htl
            clear htl hlen
            go_wp2_with (at_builtin; refine wpL_append _ rfl (.tmp 23) (.tmp 27) _ rfl w.heap.size 5 i0 _ 1 1 Tryd.underlying22 hi0 hz0 hz1 hz2 rfl (by omega) _ o.length (ints .u8 o) rfl hown (some ⟨ad.block, ad.off + 1, none⟩) (x + 2 - 1) (cb - 1) (ints .u8 (t.take (1 + x))) rfl (by rw [ints_length, HTL.out]; omega) hsub2 (ints_one _ _) (by unfold maxLen; omega) (by omega) hB.size ?_; intro v1 w1 hown1 hg1 hat1; obtain ⟨A2, c2, hv2, hc2⟩ := own_slice hown1; obtain ⟨N, hN⟩ : ∃ N, N = o.length + (x + 2 - 1) := ⟨_, rfl⟩; rw [← hN] at hv2 hc2 hown1; subst hv2; have hN3 : 1048576 < N := (by omega); have HN := Lib.hid hN; clear hN; have HG1 := Lib.hid hg1; have HW1 := Lib.hid hown1; clear hat1 hg1 hown1)
            all_goals
              have hB1 : Below w.heap.size w w1 := below_app hB HG1.out hB.size hown (Nat.le_refl _)
              go_ret2
              exact ⟨hB1, _, rfl, IsL.nil _ _ _⟩
          · have HU1 : Hid (und (t.drop (x + 1)) (o ++ t.take (1 + x)) = (E, R)) := by
              have := HU.out
              rw [und_lit hx8 hsh hbig, Nat.add_comm x 1] at this
              rw [Nat.add_comm x 1]; exact this
            have HBO : Hid (Bytes (o ++ t.take (1 + x))) := hbo.app (hbt.take _)
            have HBT : Hid (Bytes (t.drop (x + 1))) := hbt.drop _
            have HTD : Hid ((t.drop (x + 1)).length = t.length + 1 - (x + 2)) := by show _ = _; rw [List.length_drop]; omega
            have HCS := Lib.hid (fun w1 (h : Rd w1 w.heap.size (some ad) (ints .u8 (x :: t))) => cut_slice h (by rw [hlen]; exact hrc) (x + 2))
            have hsub2 : Rd wr w.heap.size (some ⟨ad.block, ad.off + 1, none⟩) (ints .u8 (t.take (1 + x))) := HRD.out.sub 1 (1 + x)
            have htl : (t.take (1 + x)).length = 1 + x := by rw [List.length_take]; omega
            have HTL := Lib.hid htl
            clear htl hlen
            go_wp2_with (at_builtin; refine wpL_append _ rfl (.tmp 23) (.tmp 27) _ rfl w.heap.size 5 i0 _ 1 1 Tryd.underlying22 hi0 hz0 hz1 hz2 rfl (by omega) _ o.length (ints .u8 o) rfl hown (some ⟨ad.block, ad.off + 1, none⟩) (x + 2 - 1) (cb - 1) (ints .u8 (t.take (1 + x))) rfl (by rw [ints_length, HTL.out]; omega) hsub2 (ints_one _ _) (by unfold maxLen; omega) (by omega) hB.size ?_; intro v1 w1 hown1 hg1 hat1; obtain ⟨A2, c2, hv2, hc2⟩ := own_slice hown1; obtain ⟨N, hN⟩ : ∃ N, N = o.length + (x + 2 - 1) := ⟨_, rfl⟩; rw [← hN] at hv2 hc2 hown1; subst hv2; have hN3 : N ≤ 1048576 := (by omega); have HN := Lib.hid hN; clear hN; have HG1 := Lib.hid hg1; have HW1 := Lib.hid hown1; clear hat1 hg1 hown1)
            have hB1 : Below w.heap.size w w1 := below_app hB HG1.out hB.size hown (Nat.le_refl _)
            have hoL : (o ++ t.take (1 + x)).length = N := by rw [List.length_append, HTL.out, HN.out]; omega
            have HRD1 : Rd w1 w.heap.size (some ad) (ints .u8 (x :: t)) := HRD.out.grown HG1.out hB.size fun g hg => (hown.lt g hg).1
            have HB2 : Hid (Rd w1 w.heap.size (if cb = x + 2 then some ad else some (ad.add (x + 2))) (ints .u8 (t.drop (x + 1)))) := by
              show Rd _ _ _ _
              split
              · exact (HCS.out w1 HRD1).1 (by assumption)
              · exact (HCS.out w1 HRD1).2 (by assumption)
            have HO : Hid (w1.ownsRow w.heap.size 5 1 (.slice A2 N c2) (o ++ t.take (1 + x)).length (ints .u8 (o ++ t.take (1 + x)))) := by
              show World.ownsRow _ _ _ _ _ _ _
              rw [hoL, ints_append]; exact HW1.out
            have HOLL : Hid ((o ++ t.take (1 + x)).length ≤ 1048576) := by show _ ≤ _; rw [hoL]; omega
            clear hown hsub2 hoL HRD1
            go_roundw
            case rel => exact ⟨_, cb - (x + 2), t.drop (x + 1), _, by rw [HTD.out], by rw [HTD.out]; omega, by rw [HTD.out]; omega, by omega, HBT.out, HB2.out, HOLL.out, HBO.out, HO.out, HU1.out, hB1⟩
            case measure => simp; omega
      · by_cases hsh : t.length < 2
        · have HE : Hid (E = 5 ∧ R = []) := by
            have := HU.out
            rw [und_rep_short hx8 hsh] at this
            injection this with e1 e2
            exact ⟨e1.symm, e2.symm⟩
          obtain ⟨rfl, rfl⟩ := HE.out
          clear HE hown
          go_wp2
          go_ret2
          exact ⟨hB, _, rfl, IsL.nil _ _ _⟩
        · obtain ⟨ad1, ha1, _, hcell1⟩ := HRD.out.int (j := 1) (by simp; omega)
          obtain ⟨ad2, ha2, _, hcell2⟩ := HRD.out.int (j := 2) (by simp; omega)
          injection ha1 with ha1
          injection ha2 with ha2
          subst ha1 ha2
          have ex1 : (x :: t).getD 1 0 = t.getD 0 0 := rfl
          have ex2 : (x :: t).getD 2 0 = t.getD 1 0 := rfl
          rw [ex1, show ad.add 1 = ⟨ad.block, ad.off + 1, none⟩ from rfl] at hcell1
          rw [ex2, show ad.add 2 = ⟨ad.block, ad.off + 2, none⟩ from rfl] at hcell2
          clear ex1 ex2
          have hd0 := hbt.at_ 0
          have hd1 := hbt.at_ 1
          obtain ⟨d, hd⟩ : ∃ d, d = t.getD 0 0 * 256 + t.getD 1 0 := ⟨_, rfl⟩
          have hdlt : d < 65536 := by omega
          have hor : bits .or .i64 (((t.getD 0 0 : Nat) : Int) * 256) ((t.getD 1 0 : Nat) : Int) = (d : Int) := by rw [hd]; exact or_i64 (by omega) hd1
          have HD := Lib.hid hd
          clear hd
          generalize t.getD 0 0 = p0 at hcell1 hd0 hor
          generalize t.getD 1 0 = p1 at hcell2 hd1 hor
          have hL : (x : Int) - 128 + 4 = ((x - 124 : Nat) : Int) := by omega
          obtain ⟨L, hLx⟩ : ∃ L, L = x - 124 := ⟨_, rfl⟩
          rw [← hLx] at hL
          have hL1 : L ≤ 131 := by omega
          have HLX := Lib.hid hLx
          clear hLx
          go_wp2
          go_quiet (fail)
          have hownq : (wr.drewN nq).ownsRow w.heap.size 5 1 (.slice A' o.length c') o.length (ints .u8 o) := hown
          have hBq := below_drewN hB nq
          have HR1 := Lib.hid (HRD.out.drewN nq)
          clear hown hB hcell HRD hcell1 hcell2 hor hd0 hd1
          generalize wr.drewN nq = wq at *
          by_cases hfar : d = 0 ∨ d > o.length
          · have HE : Hid (E = 5 ∧ R = []) := by
              have := HU.out
              rw [und_rep_far hx8 hsh (by rw [← HD.out]; exact hfar)] at this
              injection this with e1 e2
              exact ⟨e1.symm, e2.symm⟩
            obtain ⟨rfl, rfl⟩ := HE.out
            clear HE hownq hL
            rcases Nat.eq_zero_or_pos d with hd0 | hd0
            · have hd1 : (d : Int) = 0 := by omega
              clear hfar
              go_wp2
              go_ret2
              exact ⟨hBq, _, rfl, IsL.nil _ _ _⟩
            · have hd1 : o.length < d := by omega
              clear hfar
              go_wp2
              go_ret2
              exact ⟨hBq, _, rfl, IsL.nil _ _ _⟩
          · have hd0 : 0 < d := by omega
            have hd1 : d ≤ o.length := by omega
            have hdn : decide (o.length < d) = false := by rw [decide_eq_false_iff_not]; omega
            have hdz : ((d : Int) == 0) = false := by rw [beq_eq_false_iff_ne]; omega
            have HUC : Hid ((1048576 < o.length + L → E = 4 ∧ R = []) ∧ (¬ 1048576 < o.length + L → und (t.drop 2) (rep d o L) = (E, R))) := by
              have hU := HU.out
              constructor
              · intro hbig
                rw [und_rep_long hx8 hsh (by rw [← HD.out]; exact hfar) (by rw [← HLX.out]; exact hbig)] at hU
                injection hU with e1 e2
                exact ⟨e1.symm, e2.symm⟩
              · intro hbig
                rw [und_rep hx8 hsh (by rw [← HD.out]; exact hfar) (by rw [← HLX.out]; exact hbig), ← HD.out, ← HLX.out] at hU
                exact hU
            clear hfar
            go_wp2
            go_loopw [4, 7] (fun v i wr => ∃ j : Nat, j ≤ L ∧ i = .int .i64 j ∧ wr.ownsRow w.heap.size 5 1 v (o.length + j) (ints .u8 (rep d o j)) ∧ Below w.heap.size w wr ∧ Rd wr w.heap.size (some ad) (ints .u8 (x :: t))) (fun _ i _ => L - (intOf i).toNat)
            case atStart => exact ⟨0, Nat.zero_le _, rfl, hownq, hBq, HR1.out⟩
            case round =>
              clear hownq hBq HR1
              obtain ⟨j, hj, rfl, hown, hB, hrd⟩ := hrel
              by_cases hlt : j < L
              · obtain ⟨g, cap, rfl, hg, hcap, hcm, hrow⟩ := Row.of_own hown (by omega)
                have hRL := rep_len d o j
                have hc0 := hrow.cell (i := o.length + j - d) (by rw [hRL]; omega)
                have hownA := fun y : Nat => hown.alloc (Obj.cells #[.int .u8 (y : Int)] 5)
                have HRS : Hid (rep d o (j + 1) = rep d o j ++ [(rep d o j).getD (o.length + j - d) 0]) := by show _ = _; rw [rep, hRL]
                clear hrow hRL
                generalize (rep d o j).getD (o.length + j - d) 0 = y at *
                have m1 : IntKind.i64.wrap ((o.length : Int) + (j : Int) - (d : Int)) = (o.length : Int) + (j : Int) - (d : Int) := IntWalk.i64_in _ (by omega)
                have m2 : ((o.length : Int) + (j : Int) - (d : Int)).toNat = o.length + j - d := by omega
                have m3 : 0 ≤ (o.length : Int) + (j : Int) - (d : Int) := by omega
                have m4 : (o.length : Int) + (j : Int) - (d : Int) < (o.length : Int) + (j : Int) := by omega
                go_wp2_with (at_builtin; refine wpL_append _ rfl (.tmp 68) (.tmp 70) _ rfl w.heap.size 5 i0 _ 1 1 Tryd.underlying22 hi0 hz0 hz1 hz2 rfl (by omega) _ (o.length + j) (ints .u8 (rep d o j)) rfl (hown.alloc _) (some ⟨wr.heap.size, 0, none⟩) 1 1 [.int .u8 (y : Int)] rfl rfl (Rd.of_new wr [.int .u8 (y : Int)] 5) (by intro u hu; simp at hu; subst hu; rfl) (by unfold maxLen; omega) (by omega) (by have := hB.size; simp; omega) ?_; intro v1 w1 hown1 hg1 hat1)
                have HO : Hid (w1.ownsRow w.heap.size 5 1 v1 (o.length + (j + 1)) (ints .u8 (rep d o (j + 1)))) := by
                  show World.ownsRow _ _ _ _ _ _ _
                  rw [HRS.out, ints_append, ← Nat.add_assoc]; exact hown1
                have hB1 : Below w.heap.size w w1 := below_app (hB.alloc hB.size _) hg1 (by have := hB.size; simp; omega) (hown.alloc _) (Nat.le_refl _)
                have HR1 : Hid (Rd w1 w.heap.size (some ad) (ints .u8 (x :: t))) := (hrd.alloc hB.size _).grown hg1 (by have := hB.size; simp; omega) fun g hg => ((hownA y).lt g hg).1
                clear hown hown1 hownA hrd m1 m2 m3 m4 HRS
                go_wp2
                go_roundw
                case rel => exact ⟨j + 1, by omega, by go_num, HO.out, hB1, HR1.out⟩
                case measure => simp [intOf]; omega
              · obtain rfl : L = j := by omega
                have hRL := rep_len d o L
                have HBO : Hid (Bytes (rep d o L)) := rep_bytes hbo L
                have HBT : Hid (Bytes (t.drop 2)) := hbt.drop _
                have HTD : Hid ((t.drop 2).length = t.length - 2) := List.length_drop
                have HCS := Lib.hid (cut_slice hrd (by rw [hlen]; exact hrc) 3)
                obtain ⟨A2, c2, rfl, hc2⟩ := own_slice hown
                have HOW := Lib.hid hown
                have HRL := Lib.hid hRL
                have hlim : o.length + L ≤ 2000000 := by omega
                obtain ⟨N, hN⟩ : ∃ N, N = o.length + L := ⟨_, rfl⟩
                rw [← hN] at HOW HRL HUC hc2 hlim ⊢
                clear hN hrd hown hlen hRL
                by_cases hbig : 1048576 < N
                · obtain ⟨rfl, rfl⟩ := HUC.out.1 hbig
                  clear HUC HU
                  go_wp2
                  all_goals
                    go_ret2
                    exact ⟨hB, _, rfl, IsL.nil _ _ _⟩
                · have HU1 := Lib.hid (HUC.out.2 hbig)
                  have HOL : Hid ((rep d o L).length ≤ 1048576) := by show _ ≤ _; rw [HRL.out]; omega
                  clear HUC
                  go_wp2
                  go_roundw
                  case rel =>
                    refine ⟨if cb = 3 then some ad else some ⟨ad.block, ad.off + 3, none⟩, cb - 3, t.drop 2, _, by rw [HTD.out], by rw [HTD.out]; omega, by rw [HTD.out]; omega, by omega, HBT.out, ?_, HOL.out, HBO.out, by rw [HRL.out]; exact HOW.out, HU1.out, hB⟩
                    have h1 := HCS.out
                    split
                    · exact h1.1 (by assumption)
                    · exact h1.2 (by assumption)
                  case measure => simp; omega
end Go.Proofs.YtmoenbdooilceaaDoor
