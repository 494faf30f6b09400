/-
  Walks: package codec: Undict.
-/
import Derived.Test.YtmoenbdooilceaaDoorCodJ
namespace Go.Proofs.YtmoenbdooilceaaDoor
open Go.RowKit By

/-- A slice without its first numbers. -/
theorem cut_slice {w : World} {B : Nat} {A : Option Addr} {k : IntKind} {l : List Nat} {c : Nat} (h : Rd w B A (ints k l)) (hc : l.length ≤ c) (q : Nat) :
    (c = q → Rd w B A (ints k (l.drop q))) ∧ (¬ c = q → Rd w B (A.map (·.add q)) (ints k (l.drop q))) := by
  have hr := h.cut (k := q) (cap := c) (by rw [ints_length]; exact hc)
  rw [← ints_drop] at hr
  exact ⟨fun e => by rw [if_pos e] at hr; exact hr, fun e => by rw [if_neg e] at hr; exact hr⟩
theorem gv_two {t : List Nat} (h : 2 ≤ t.length) : gv (t.take 2) = t.getD 0 0 * 256 + t.getD 1 0 := by
  match t, h with
  | a :: b :: r, _ => simp [gv]

set_option maxRecDepth 100000 in
set_option maxHeartbeats 6400000 in
theorem undict_any (A : Option Addr) (c : Nat) (l : List Nat) (E : Nat) (R : List Nat) (w : World) (hl : Bytes l) (hc : l.length ≤ c) (hm : l.length ≤ 100000000) (hcc : c ≤ maxLen) (h : Rd w w.heap.size A (ints .u8 l)) (hu : und l [] = (E, R)) :
    Calls Tryd.prog 13 #[.slice A l.length c] w fun e w' => Below w.heap.size w w' ∧ ∃ v, e = .returned (.tuple #[v, .int .i64 (E : Int)]) ∧ IsL w' w'.heap.size .u8 v R := by
  unfold maxLen at hcc
  obtain ⟨i0, hi0, hz0, hz1, hz2⟩ := info_parts Tryd.u8_info
  have HU0 := Lib.hid hu
  clear hu
  go_enter Tryd.func13, Tryd.ntmps13
  go_wp2
  go_loopw [0, 4] (fun x v wr => ∃ (B : Option Addr) (cb : Nat) (r o : List Nat), x = .slice B r.length cb ∧ r.length ≤ cb ∧ r.length ≤ 100000000 ∧ cb ≤ 9223372036854775807 ∧ Bytes r ∧ Rd wr w.heap.size B (ints .u8 r) ∧ o.length ≤ 1048576 ∧ Bytes o ∧ wr.ownsRow w.heap.size 5 1 v o.length (ints .u8 o) ∧ Hid (und r o = (E, R)) ∧ Below w.heap.size w wr)
    (fun x _ _ => (match x with | .slice _ n _ => n | _ => 0))
  case atStart => exact ⟨A, c, l, [], rfl, hc, hm, hcc, hl, h, by decide, bytes_nil, World.ownsRow_nil _ _ _ _, HU0.out, Below.refl _ _⟩
  case round =>
    clear h hl hc hm hcc HU0
    obtain ⟨B, cb, r, o, rfl, hrc, hrm, hcb, hbr, hrd, ho, hbo, hown, HU, hB⟩ := hrel
    obtain ⟨A', c', rfl, hc'⟩ := own_slice hown
    rcases r with _ | ⟨x, t⟩
    · have HE : Hid (E = 0 ∧ R = o) := by
        have := HU.out
        rw [und_nil] at this
        injection this with e1 e2
        exact ⟨e1.symm, e2.symm⟩
      obtain ⟨rfl, rfl⟩ := HE.out
      have HL := Lib.hid (IsL.of_own hown)
      clear hown HE
      go_wp2
      go_ret2
      exact ⟨hB, _, rfl, HL.out⟩
    · have hx : x < 256 := hbr x (by simp)
      have hbt : Bytes t := fun y hy => hbr y (by simp [hy])
      obtain ⟨ad, rfl, hab, hcell⟩ := hrd.int (j := 0) (by simp)
      rw [addr_zero, List.getD_cons_zero] at hcell
      have hlen : (x :: t).length = t.length + 1 := rfl
      rw [hlen] at hrc hrm ⊢
      have HRD := Lib.hid hrd
      clear hrd hbr
      by_cases hx8 : x < 128
      · by_cases hsh : t.length < x + 1
        · have HE : Hid (E = 5 ∧ R = []) := by
            have := HU.out
            rw [und_lit_short hx8 hsh] at this
            injection this with e1 e2
            exact ⟨e1.symm, e2.symm⟩
          obtain ⟨rfl, rfl⟩ := HE.out
          clear HE hown
          go_wp2
          go_quiet (fail)
          go_wp2
          go_ret2
          exact ⟨below_drewN hB _, _, rfl, IsL.nil _ _ _⟩
        · by_cases hbig : o.length + (x + 1) > 1048576
          · have HE : Hid (E = 4 ∧ R = []) := by
              have := HU.out
              rw [und_lit_long hx8 hsh hbig] at this
              injection this with e1 e2
              exact ⟨e1.symm, e2.symm⟩
            obtain ⟨rfl, rfl⟩ := HE.out
            clear HE hown
            go_wp2
            go_quiet (fail)
            go_wp2
            go_ret2
            exact ⟨below_drewN hB _, _, rfl, IsL.nil _ _ _⟩
          · go_wp2
            go_quiet (fail)
            have hsub := (HRD.out.sub 1 (1 + x)).drewN nq
            have hsub2 : Rd (wr.drewN nq) w.heap.size (some ⟨ad.block, ad.off + 1, none⟩) (ints .u8 (t.take (1 + x))) := hsub
            have htl : (t.take (1 + x)).length = 1 + x := by rw [List.length_take]; omega
            have HTL := Lib.hid htl
            have hownq : (wr.drewN nq).ownsRow w.heap.size 5 1 (.slice A' o.length c') o.length (ints .u8 o) := hown
            have hBq := below_drewN hB nq
            have HR1 := HRD.out.drewN nq
            have hcq : (wr.drewN nq).cell? ad = some (.int .u8 (x : Int)) := hcell
            clear hcell
            clear hsub htl hown hB
            generalize wr.drewN nq = wq at *
            go_wp2_with (at_builtin; refine wpL_append _ rfl (.tmp 58) (.tmp 61) _ rfl w.heap.size 5 i0 _ 1 1 Tryd.underlying22 hi0 hz0 hz1 hz2 rfl (by omega) _ o.length (ints .u8 o) rfl hownq (some ⟨ad.block, ad.off + 1, none⟩) (2 + x - 1) (cb - 1) (ints .u8 (t.take (1 + x))) rfl (by rw [ints_length, HTL.out]; omega) hsub2 (ints_one _ _) (by unfold maxLen; omega) (by omega) hBq.size ?_; intro v1 w1 hown1 hg1 hat1)
            have hB1 : Below w.heap.size w w1 := below_app hBq hg1 hBq.size hownq (Nat.le_refl _)
            have HRD1 : Hid (Rd w1 w.heap.size (some ad) (ints .u8 (x :: t))) := HR1.grown hg1 hBq.size fun g hg => (hownq.lt g hg).1
            have hoL : (o ++ t.take (1 + x)).length = o.length + (2 + x - 1) := by rw [List.length_append, HTL.out]; omega
            have HO : Hid (w1.ownsRow w.heap.size 5 1 v1 (o ++ t.take (1 + x)).length (ints .u8 (o ++ t.take (1 + x)))) := by
              show World.ownsRow _ _ _ _ _ _ _
              rw [hoL, ints_append]; exact hown1
            have HOL := Lib.hid hoL
            have HU1 : Hid (und (t.drop (x + 1)) (o ++ t.take (1 + x)) = (E, R)) := by
              have := HU.out
              rw [und_lit hx8 hsh hbig, Nat.add_comm x 1] at this
              rw [Nat.add_comm x 1]; exact this
            clear hownq hown1 hsub2 hoL HR1
            go_wp2
            go_loop [4, 64] (fun v i => ∃ j : Nat, j ≤ 1 + x ∧ i = .int .i64 j ∧ v = v1) (fun _ i => 1 + x - (intOf i).toNat)
            case atStart => exact ⟨0, Nat.zero_le _, rfl, rfl⟩
            case round =>
              obtain ⟨j, hj, rfl, rfl⟩ := hrel
              by_cases hlt : j < 1 + x
              · go_wp2
                go_round
                case rel => exact ⟨j + 1, by omega, by go_num, rfl⟩
                case measure => simp [intOf]; omega
              · by_cases hq : cb = 2 + x
                · have hr2 := (cut_slice HRD1.out (by rw [hlen]; exact hrc) (2 + x)).1 hq
                  have HB2 : Hid (Rd w1 w.heap.size (some ad) (ints .u8 (t.drop (x + 1)))) := by
                    have e : (x :: t).drop (2 + x) = t.drop (x + 1) := by rw [show 2 + x = (x + 1) + 1 by omega]; rfl
                    rw [e] at hr2; exact hr2
                  have HBO : Hid (Bytes (o ++ t.take (1 + x))) := hbo.app (hbt.take _)
                  have HBT : Hid (Bytes (t.drop (x + 1))) := hbt.drop _
                  have HOLL : Hid ((o ++ t.take (1 + x)).length ≤ 1048576) := by show _ ≤ _; rw [HOL.out]; omega
                  have HTD : Hid ((t.drop (x + 1)).length = t.length + 1 - (2 + x)) := by show _ = _; rw [List.length_drop]; omega
                  clear hlen hr2
                  go_wp2
                  go_roundw
                  case rel => exact ⟨some ad, 2 + x - (2 + x), t.drop (x + 1), _, by rw [HTD.out], by rw [HTD.out]; omega, by rw [HTD.out]; omega, by omega, HBT.out, HB2.out, HOLL.out, HBO.out, HO.out, HU1.out, hB1⟩
                  case measure => simp; omega
                · have hr2 := (cut_slice HRD1.out (by rw [hlen]; exact hrc) (2 + x)).2 hq
                  have HB2 : Hid (Rd w1 w.heap.size (some (ad.add (2 + x))) (ints .u8 (t.drop (x + 1)))) := by
                    have e : (x :: t).drop (2 + x) = t.drop (x + 1) := by rw [show 2 + x = (x + 1) + 1 by omega]; rfl
                    rw [e] at hr2; exact hr2
                  have HBO : Hid (Bytes (o ++ t.take (1 + x))) := hbo.app (hbt.take _)
                  have HBT : Hid (Bytes (t.drop (x + 1))) := hbt.drop _
                  have HOLL : Hid ((o ++ t.take (1 + x)).length ≤ 1048576) := by show _ ≤ _; rw [HOL.out]; omega
                  have HTD : Hid ((t.drop (x + 1)).length = t.length + 1 - (2 + x)) := by show _ = _; rw [List.length_drop]; omega
                  clear hlen hr2
                  go_wp2
                  go_roundw
                  case rel => exact ⟨some (ad.add (2 + x)), cb - (2 + x), t.drop (x + 1), _, by rw [HTD.out], by rw [HTD.out]; omega, by rw [HTD.out]; omega, by omega, HBT.out, HB2.out, HOLL.out, HBO.out, HO.out, HU1.out, hB1⟩
                  case measure => simp; omega
      · by_cases hsh : t.length < 2
        · have HE : Hid (E = 5 ∧ R = []) := by
            have := HU.out
            rw [und_rep_short hx8 hsh] at this
            injection this with e1 e2
            exact ⟨e1.symm, e2.symm⟩
          obtain ⟨rfl, rfl⟩ := HE.out
          clear HE hown
          go_wp2
          go_quiet (fail)
          go_wp2
          go_quiet (fail)
          go_wp2
          go_ret2
          exact ⟨below_drewN hB _, _, rfl, IsL.nil _ _ _⟩
        · go_wp2
          go_quiet (fail)
          have hcq : (wr.drewN nq).cell? ad = some (.int .u8 (x : Int)) := hcell
          have hownq : (wr.drewN nq).ownsRow w.heap.size 5 1 (.slice A' o.length c') o.length (ints .u8 o) := hown
          have hBq := below_drewN hB nq
          have HR1 := Lib.hid (HRD.out.drewN nq)
          clear hown hB hcell HRD
          generalize wr.drewN nq = wq at *
          go_wp2
          go_quiet (fail)
          have hcell : (wq.drewN nq).cell? ad = some (.int .u8 (x : Int)) := hcq
          have hown : (wq.drewN nq).ownsRow w.heap.size 5 1 (.slice A' o.length c') o.length (ints .u8 o) := hownq
          have hB := below_drewN hBq nq
          have HRD := Lib.hid (HR1.out.drewN nq)
          clear hownq hBq hcq HR1
          generalize wq.drewN nq = wp at *
          have hsub2 : Rd wp wp.heap.size (some ⟨ad.block, ad.off + 1, none⟩) (ints .u8 (t.take 2)) := (HRD.out.sub 1 2).more hB.size
          have ht2 : (t.take 2).length = 2 := by rw [List.length_take]; omega
          obtain ⟨d, hd⟩ : ∃ d, d = t.getD 0 0 * 256 + t.getD 1 0 := ⟨_, rfl⟩
          have hdd : gv (t.take 2) = d := by rw [hd, gv_two (by omega)]
          have hdlt : d < 65536 := by
            have hd0 := hbt.at_ 0
            have hd1 := hbt.at_ 1
            omega
          have HD := Lib.hid hd
          clear hd
          go_wp2_with fail
          refine (number_any _ _ 2 (t.take 2) _ ht2 (by decide) (hbt.take _) hsub2).mono ?_
          rintro e w2 ⟨rfl, rfl⟩
          rw [hdd]
          clear hsub2 ht2 hdd
          have hL : (x : Int) - 128 + 4 = ((x - 124 : Nat) : Int) := by omega
          obtain ⟨L, hLx⟩ : ∃ L, L = x - 124 := ⟨_, rfl⟩
          rw [← hLx] at hL
          have hL1 : L ≤ 131 := by omega
          have HLX := Lib.hid hLx
          clear hLx
          by_cases hfar : d = 0 ∨ d > o.length
          · have HE : Hid (E = 5 ∧ R = []) := by
              have := HU.out
              rw [und_rep_far hx8 hsh (by rw [← HD.out]; exact hfar)] at this
              injection this with e1 e2
              exact ⟨e1.symm, e2.symm⟩
            obtain ⟨rfl, rfl⟩ := HE.out
            clear HE hown hL
            rcases Nat.eq_zero_or_pos d with hd0 | hd0
            · have hd1 : (d : Int) = 0 := by omega
              clear hfar
              go_wp2
              go_ret2
              exact ⟨hB, _, rfl, IsL.nil _ _ _⟩
            · have hd1 : o.length < d := by omega
              clear hfar
              go_wp2
              go_ret2
              exact ⟨hB, _, rfl, IsL.nil _ _ _⟩
          · have hd0 : 0 < d := by omega
            have hd1 : d ≤ o.length := by omega
            have hdn : decide (o.length < d) = false := by rw [decide_eq_false_iff_not]; omega
            have hdz : ((d : Int) == 0) = false := by rw [beq_eq_false_iff_ne]; omega
            by_cases hbig : o.length + L > 1048576
            · have HE : Hid (E = 4 ∧ R = []) := by
                have := HU.out
                rw [und_rep_long hx8 hsh (by rw [← HD.out]; exact hfar) (by rw [← HLX.out]; exact hbig)] at this
                injection this with e1 e2
                exact ⟨e1.symm, e2.symm⟩
              obtain ⟨rfl, rfl⟩ := HE.out
              clear HE hown hfar
              go_wp2
              go_ret2
              exact ⟨hB, _, rfl, IsL.nil _ _ _⟩
            · have HU1 : Hid (und (t.drop 2) (rep d o L) = (E, R)) := by
                have := HU.out
                rw [und_rep hx8 hsh (by rw [← HD.out]; exact hfar) (by rw [← HLX.out]; exact hbig), ← HD.out, ← HLX.out] at this
                exact this
              clear hfar
              go_wp2
              clear hL
              go_loopw [4, 64] (fun v i wr => ∃ j : Nat, j ≤ L ∧ i = .int .i64 j ∧ wr.ownsRow w.heap.size 5 1 v (o.length + j) (ints .u8 (rep d o j)) ∧ Below w.heap.size w wr ∧ Rd wr w.heap.size (some ad) (ints .u8 (x :: t))) (fun _ i _ => L - (intOf i).toNat)
              case atStart => exact ⟨0, Nat.zero_le _, rfl, hown, hB, HRD.out⟩
              case round =>
                clear hown hB HRD hcell
                obtain ⟨j, hj, rfl, hown, hB, hrd⟩ := hrel
                by_cases hlt : j < L
                · obtain ⟨g, cap, rfl, hg, hcap, hcm, hrow⟩ := Row.of_own hown (by omega)
                  have hRL := rep_len d o j
                  have hc0 := hrow.cell (i := o.length + j - d) (by rw [hRL]; omega)
                  have hownA := fun y : Nat => hown.alloc (Obj.cells #[.int .u8 (y : Int)] 5)
                  have HRS : Hid (rep d o (j + 1) = rep d o j ++ [(rep d o j).getD (o.length + j - d) 0]) := by show _ = _; rw [rep, hRL]
                  clear hrow hRL
                  generalize (rep d o j).getD (o.length + j - d) 0 = y at *
                  have m1 : IntKind.i64.wrap ((o.length : Int) + (j : Int) - (d : Int)) = (o.length : Int) + (j : Int) - (d : Int) := IntWalk.i64_in _ (by omega)
                  have m2 : ((o.length : Int) + (j : Int) - (d : Int)).toNat = o.length + j - d := by omega
                  have m3 : 0 ≤ (o.length : Int) + (j : Int) - (d : Int) := by omega
                  have m4 : (o.length : Int) + (j : Int) - (d : Int) < (o.length : Int) + (j : Int) := by omega
                  go_wp2_with (at_builtin; refine wpL_append _ rfl (.tmp 68) (.tmp 76) _ rfl w.heap.size 5 i0 _ 1 1 Tryd.underlying22 hi0 hz0 hz1 hz2 rfl (by omega) _ (o.length + j) (ints .u8 (rep d o j)) rfl (hown.alloc _) (some ⟨wr.heap.size, 0, none⟩) 1 1 [.int .u8 (y : Int)] rfl rfl (Rd.of_new wr [.int .u8 (y : Int)] 5) (by intro u hu; simp at hu; subst hu; rfl) (by unfold maxLen; omega) (by omega) (by have := hB.size; simp; omega) ?_; intro v1 w1 hown1 hg1 hat1)
                  have HO : Hid (w1.ownsRow w.heap.size 5 1 v1 (o.length + (j + 1)) (ints .u8 (rep d o (j + 1)))) := by
                    show World.ownsRow _ _ _ _ _ _ _
                    rw [HRS.out, ints_append, ← Nat.add_assoc]; exact hown1
                  have hB1 : Below w.heap.size w w1 := below_app (hB.alloc hB.size _) hg1 (by have := hB.size; simp; omega) (hown.alloc _) (Nat.le_refl _)
                  have HR1 : Hid (Rd w1 w.heap.size (some ad) (ints .u8 (x :: t))) := (hrd.alloc hB.size _).grown hg1 (by have := hB.size; simp; omega) fun g hg => ((hownA y).lt g hg).1
                  clear hown hown1 hownA hrd m1 m2 m3 m4 HRS
                  go_wp2
                  go_roundw
                  case rel => exact ⟨j + 1, by omega, by go_num, HO.out, hB1, HR1.out⟩
                  case measure => simp [intOf]; omega
                · obtain rfl : L = j := by omega
                  have hRL := rep_len d o L
                  have HOL : Hid ((rep d o L).length ≤ 1048576) := by show _ ≤ _; rw [hRL]; omega
                  have HBO : Hid (Bytes (rep d o L)) := rep_bytes hbo L
                  have HO : Hid (∀ v, wr.ownsRow w.heap.size 5 1 v (o.length + L) (ints .u8 (rep d o L)) → wr.ownsRow w.heap.size 5 1 v (rep d o L).length (ints .u8 (rep d o L))) := fun v h => by rw [hRL]; exact h
                  have HBT : Hid (Bytes (t.drop 2)) := hbt.drop _
                  have HTD : Hid ((t.drop 2).length = t.length - 2) := List.length_drop
                  clear hRL
                  have e3 : (x :: t).drop 3 = t.drop 2 := rfl
                  by_cases hq : cb = 3
                  · have hr2 := (cut_slice hrd (by rw [hlen]; exact hrc) 3).1 hq
                    rw [e3] at hr2
                    have HB2 := Lib.hid hr2
                    have HOW := Lib.hid (HO.out _ hown)
                    clear hlen hrd hown hr2 e3
                    go_wp2
                    go_roundw
                    case rel => exact ⟨some ad, 0, t.drop 2, _, by rw [HTD.out], by rw [HTD.out]; omega, by rw [HTD.out]; omega, by omega, HBT.out, HB2.out, HOL.out, HBO.out, HOW.out, HU1.out, hB⟩
                    case measure => simp; omega
                  · have hr2 := (cut_slice hrd (by rw [hlen]; exact hrc) 3).2 hq
                    rw [e3] at hr2
                    have HB2 : Hid (Rd wr w.heap.size (some ⟨ad.block, ad.off + 3, none⟩) (ints .u8 (t.drop 2))) := hr2
                    have HOW := Lib.hid (HO.out _ hown)
                    clear hlen hrd hown hr2 e3
                    go_wp2
                    go_roundw
                    case rel => exact ⟨some ⟨ad.block, ad.off + 3, none⟩, cb - 3, t.drop 2, _, by rw [HTD.out], by rw [HTD.out]; omega, by rw [HTD.out]; omega, by omega, HBT.out, HB2.out, HOL.out, HBO.out, HOW.out, HU1.out, hB⟩
                    case measure => simp; omega
end Go.Proofs.YtmoenbdooilceaaDoor
