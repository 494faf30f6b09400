/-
  Walks: the reference's texts of numbers: digits, Long: the number of a text of any length, or none.
-/
import Derived.Test.YtbddmkklkbkliaaGreatDoorQqN
namespace Go.Proofs.YtbddmkklkbkliaaGreatDoor
open Go.RowKit Ar

set_option maxRecDepth 100000 in
set_option maxHeartbeats 1600000 in
theorem rdigits_any (s : ByteArray) (w : World) (hs : s.size ≤ 100000000000000) (z : Bool) (hz : z = true ↔ Digs s.data.toList ∧ 0 < s.size) :
    Calls Tryz.prog 76 #[.string s] w fun e w' => w = w' ∧ e = .returned (.bool z) := by
  have HZ := Lib.hid hz
  clear hz
  go_enter Tryz.func76, Tryz.ntmps76
  go_wp2
  go_loop [3] (fun i => ∃ k : Nat, k ≤ s.size ∧ i = .int .i64 k ∧ Hid (Digs (s.data.toList.take k))) (fun i => s.size - (intOf i).toNat)
  case atStart => exact ⟨0, Nat.zero_le _, rfl, (show Digs _ from fun b hb => by simp at hb)⟩
  case round =>
    obtain ⟨k, hk, rfl, HD⟩ := hrel
    by_cases hlt : k < s.size
    · by_cases h1 : s[k].toNat < 48
      · have hzf : z = false := by
          cases hzz : z
          · rfl
          · have := (HZ.out.1 hzz).1 _ (bytes_at' s k hlt); omega
        subst hzf
        go_wp2
        go_ret
        exact ⟨rfl, rfl⟩
      · by_cases h2 : 57 < s[k].toNat
        · have hzf : z = false := by
            cases hzz : z
            · rfl
            · have := (HZ.out.1 hzz).1 _ (bytes_at' s k hlt); omega
          subst hzf
          go_wp2
          go_ret
          exact ⟨rfl, rfl⟩
        · have HD2 : Hid (Digs (s.data.toList.take (k + 1))) := by
            show Digs _
            rw [take_snoc' s k hlt]; exact digs_snoc' HD.out h1 h2
          go_wp2
          go_round
          case rel => exact ⟨k + 1, by omega, by go_num, HD2.out⟩
          case measure => simp [intOf]; omega
    · have HDs : Hid (Digs s.data.toList) := by
        have := HD.out
        rwa [List.take_of_length_le (by rw [size_list']; omega)] at this
      clear HD
      by_cases he : 0 < s.size
      · have hzt : z = true := HZ.out.2 ⟨HDs.out, he⟩
        subst hzt
        have he' : (0 : Int) < s.size := by omega
        go_wp2
        go_ret
        exact ⟨rfl, rfl⟩
      · have hzf : z = false := by
          cases hzz : z
          · rfl
          · exact absurd (HZ.out.1 hzz).2 he
        subst hzf
        have he' : ¬ (0 : Int) < s.size := by omega
        go_wp2
        go_ret
        exact ⟨rfl, rfl⟩

/-- What stands below the stroke; 1 without one. -/
def lowOf (u : List UInt8) : List UInt8 := match (cut47 u).2 with
  | none => [49]
  | some m => m
theorem textRat_eq (l : List UInt8) : textRat l = nr (isNeg l) (dval (cut47 (unsign l)).1) (dval (lowOf (unsign l))) := by
  unfold textRat lowOf
  cases (cut47 (unsign l)).2 with
  | none => rfl
  | some m => rfl
theorem isText_digs {l : List UInt8} (h : IsText l) : Digs (cut47 (unsign l)).1 ∧ Digs (lowOf (unsign l)) ∧ 0 < (cut47 (unsign l)).1.length ∧ 0 < (lowOf (unsign l)).length ∧ 0 < dval (lowOf (unsign l)) := by
  have h1 := h.above
  refine ⟨h1.1, ?_⟩
  unfold lowOf
  cases hc : (cut47 (unsign l)).2 with
  | none => exact ⟨(show Digs [49] from fun b hb => by simp at hb; subst hb; decide), List.length_pos_iff.2 h1.2.1, (show 0 < [49].length by decide), (show 0 < dval [49] by decide)⟩
  | some m =>
    obtain ⟨h2, h3, _⟩ := h.below m hc
    exact ⟨h2.1, List.length_pos_iff.2 h1.2.1, List.length_pos_iff.2 h2.2.1, dval_pos h2 h3⟩
theorem dval_limbs {l : List UInt8} (h : Digs l) : (limbs (dval l)).length ≤ l.length / 9 + 1 := limbs_len_le (by
  rw [← ten_nine]
  exact Nat.lt_of_lt_of_le (dval_lt h) (Nat.pow_le_pow_right (by decide) (by omega)))
theorem ba_ext {a b : ByteArray} (h : a.data.toList = b.data.toList) : a = b := by
  apply ByteArray.ext
  exact Array.ext' h
theorem cut_at {u : List UInt8} {k : Nat} (hk : k < u.length) (h0 : ∀ j, j < k → u[j]? ≠ some 47) (h1 : u[k]? = some 47) : cut47 u = (u.take k, some (u.drop (k + 1))) := by
  have e : u = u.take k ++ 47 :: u.drop (k + 1) := by
    conv => lhs; rw [← List.take_append_drop k u]
    congr 1
    rw [List.drop_eq_getElem_cons hk]
    congr 1
    rw [List.getElem?_eq_getElem hk] at h1
    injection h1
  conv => lhs; rw [e]
  refine cut47_some (fun hm => ?_) _
  obtain ⟨j, hj⟩ := List.getElem?_of_mem hm
  rw [List.getElem?_take] at hj
  split at hj
  · rename_i h2; exact h0 j h2 hj
  · cases hj
theorem cut_none {u : List UInt8} (h0 : ∀ j, j < u.length → u[j]? ≠ some 47) : cut47 u = (u, none) := cut47_none fun hm => by
  obtain ⟨j, hj⟩ := List.getElem?_of_mem hm
  exact h0 j (List.getElem?_eq_some_iff.1 hj).1 hj

set_option maxRecDepth 100000 in
set_option maxHeartbeats 6400000 in
theorem qlong_any (s : ByteArray) (w : World) (hs : s.size ≤ 500000000000) :
    Calls Tryz.prog 31 #[.string s] w fun e w' => Below w.heap.size w w' ∧ ∃ v z, e = .returned (.tuple #[v, .bool z]) ∧ (z = true ↔ IsText s.data.toList) ∧ ∃ q, IsQ w' w'.heap.size v q ∧ (z = true → q = textRat s.data.toList) := by
  obtain ⟨U, hU⟩ : ∃ U : ByteArray, U.data.toList = unsign s.data.toList := ⟨⟨(unsign s.data.toList).toArray⟩, rfl⟩
  obtain ⟨TP, hTP⟩ : ∃ U : ByteArray, U.data.toList = (cut47 (unsign s.data.toList)).1 := ⟨⟨(cut47 (unsign s.data.toList)).1.toArray⟩, rfl⟩
  obtain ⟨LW, hLW⟩ : ∃ U : ByteArray, U.data.toList = lowOf (unsign s.data.toList) := ⟨⟨(lowOf (unsign s.data.toList)).toArray⟩, rfl⟩
  obtain ⟨ng, hng⟩ : ∃ b, b = isNeg s.data.toList := ⟨_, rfl⟩
  have HU := Lib.hid hU
  have HTP := Lib.hid hTP
  have HLW := Lib.hid hLW
  have HNG := Lib.hid hng
  clear hU hTP hLW hng
  go_enter Tryz.func31, Tryz.ntmps31
  go_upto_region 2 with (fail)
  have hb0 := below_alloc w (.cells #[.bool false, .slice none 0 0, .slice none 0 0] 51)
  have k0 := Bk.new w 51 #[Value.bool false, .slice none 0 0, .slice none 0 0]
  generalize w.alloc (.cells #[.bool false, .slice none 0 0, .slice none 0 0] 51) = w1 at *
  go_cut [5] from 11 to 19 (fun v wx => v = .bool ng ∧ w1 = wx)
  case first =>
    rcases Nat.eq_zero_or_pos s.size with h0 | h0
    · have hngf : ng = false := by
        rw [HNG.out]
        have : s.data.toList = [] := List.eq_nil_of_length_eq_zero (by rw [size_list']; exact h0)
        rw [this]; rfl
      subst hngf
      go_wp2
      go_meet
      exact ⟨rfl, rfl⟩
    · have hh : s.data.toList.head? = some s[0] := by
        have e : s[0] = s.data.toList[0]'(by rw [size_list']; exact h0) := rfl
        rw [e, List.head?_eq_getElem?, List.getElem?_eq_getElem]
      have hnv : ng = ((s[0].toNat : Int) == 45) := by
        rw [HNG.out]
        unfold isNeg
        rw [hh, Bool.eq_iff_iff, beq_iff_eq, beq_iff_eq]
        constructor
        · intro h; injection h with h; rw [h]; rfl
        · intro h
          congr 1
          apply UInt8.toNat_inj.1
          show s[0].toNat = 45
          omega
      subst hnv
      clear hh
      go_wp2
      go_meet
      exact ⟨rfl, rfl⟩
  case rest =>
  obtain ⟨rfl, rfl⟩ := hcut
  go_upto_if 20 with (fail)
  go_cut [4] from 20 to 22 (fun v wx => v = .string U ∧ w1 = wx)
  case first =>
    cases hb : ng
    · have hUs : U = s := ba_ext (by rw [HU.out]; unfold unsign; rw [if_neg]; rw [← HNG.out, hb]; decide)
      subst hUs
      subst hb
      go_wp2
      go_meet
      exact ⟨rfl, rfl⟩
    · have hpos : 0 < s.size := by
        rcases Nat.eq_zero_or_pos s.size with h0 | h0
        · exfalso
          have := HNG.out
          rw [hb] at this
          have e : s.data.toList = [] := List.eq_nil_of_length_eq_zero (by rw [size_list']; exact h0)
          rw [e] at this
          cases this
        · exact h0
      have hUs : U = s.extract 1 s.size := ba_ext (by
        rw [HU.out, Lib.extract_to_end]; unfold unsign; rw [if_pos (by rw [← HNG.out, hb]), List.drop_one])
      subst hUs
      subst hb
      go_wp2
      go_meet
      exact ⟨rfl, rfl⟩
  case rest =>
  obtain ⟨rfl, rfl⟩ := hcut
  have hUsz : U.size ≤ s.size := by
    rw [← size_list' U, HU.out, ← size_list' s]
    unfold unsign
    split
    · rw [List.length_tail]; omega
    · exact Nat.le_refl _
  go_upto_block 0 with fail
  go_cut [6, 7] from 24 to 40 (fun v1 v2 wx => v1 = .string TP ∧ v2 = .string LW ∧ ∃ n, wx = w1.drewN n)
  case first =>
    go_wp2_with fail
    go_loop [6, 7, 8] (fun v1 v2 iv => v1 = .string U ∧ v2 = .string ⟨#[49]⟩ ∧ ∃ k : Nat, k ≤ U.size ∧ iv = .int .i64 k ∧ Hid (∀ j, j < k → U.data.toList[j]? ≠ some 47)) (fun _ _ iv => U.size - (intOf iv).toNat)
    case atStart => exact ⟨rfl, rfl, 0, Nat.zero_le _, rfl, fun j hj => absurd hj (Nat.not_lt_zero _)⟩
    case round =>
      obtain ⟨rfl, rfl, k, hk, rfl, HK⟩ := hrel
      rcases Nat.lt_or_ge k U.size with hlt | hge
      · have hg : U.data.toList[k]? = some U[k] := by
          rw [List.getElem?_eq_getElem (by rw [size_list']; exact hlt)]; rfl
        by_cases h47 : U[k].toNat = 47
        · have hg2 : U.data.toList[k]? = some 47 := by rw [hg]; congr 1; exact UInt8.toNat_inj.1 h47
          have hc := cut_at (by rw [size_list']; exact hlt) HK.out hg2
          have e1 : TP = U.extract 0 k := ba_ext (by rw [HTP.out, ← HU.out, hc, Lib.extract_data]; simp)
          have e2 : LW = U.extract (k + 1) U.size := ba_ext (by rw [HLW.out, ← HU.out]; unfold lowOf; rw [hc, Lib.extract_to_end])
          have t47 : ((U[k].toNat : Int) == 47) = true := by rw [h47]; rfl
          have b1 : (0 : Int) ≤ (k : Int) := by omega
          have b2 : (k : Int) ≤ U.size := by omega
          have b3 : (k : Int) + 1 ≤ U.size := by omega
          have b4 : (0 : Int) ≤ (k : Int) + 1 := by omega
          have b5 : ((k : Int) + 1).toNat = k + 1 := by omega
          have b6 : IntKind.i64.wrap ((k : Int) + 1) = (k : Int) + 1 := IntWalk.i64_in _ (by omega)
          have E1 := Lib.hid e1
          have E2 := Lib.hid e2
          clear hg hg2 hc e1 e2
          go_wp2
          go_quiet (fail)
          go_wp2
          go_meet
          exact ⟨by rw [E1.out], by rw [E2.out], _, rfl⟩
        · have t47 : ((U[k].toNat : Int) == 47) = false := by rw [beq_eq_false_iff_ne]; omega
          have HK1 : Hid (∀ j, j < k + 1 → U.data.toList[j]? ≠ some 47) := fun j hj => by
            rcases Nat.lt_or_ge j k with h5 | h5
            · exact HK.out j h5
            · rw [show j = k by omega, hg]
              intro e
              injection e with e
              exact h47 (by rw [e]; rfl)
          clear hg
          go_wp2
          go_round
          case rel => exact ⟨rfl, rfl, k + 1, by omega, by go_num, HK1⟩
          case measure => simp [intOf]; omega
      · obtain rfl : k = U.size := by omega
        have hc := cut_none (u := U.data.toList) (fun j hj => HK.out j (by rw [size_list'] at hj; exact hj))
        have e1 : TP = U := ba_ext (by rw [HTP.out, ← HU.out, hc])
        have e2 : LW = ⟨#[49]⟩ := ba_ext (by rw [HLW.out, ← HU.out]; unfold lowOf; rw [hc])
        have E1 := Lib.hid e1
        have E2 := Lib.hid e2
        clear hc e1 e2
        go_wp2
        go_meet
        exact ⟨by rw [E1.out], by rw [E2.out], 0, rfl⟩
  case rest =>
  obtain ⟨rfl, rfl, nq, rfl⟩ := hcut
  have hB2 := below_drewN hb0 nq
  have k2 := k0.drewN nq
  clear hb0 k0
  generalize w1.drewN nq = w2 at *
  have hTs : TP.size ≤ 500000000000 := by
    rw [← size_list' TP, HTP.out]
    have h1 := (cut47_eq (unsign s.data.toList)).2
    have h2 := congrArg List.length h1
    rw [List.length_append, ← HU.out, size_list', HU.out] at h2
    omega
  have hLs : LW.size ≤ 500000000001 := by
    rw [← size_list' LW, HLW.out]
    have h1 := (cut47_eq (unsign s.data.toList)).2
    have h2 := congrArg List.length h1
    rw [List.length_append, ← HU.out, size_list', HU.out] at h2
    unfold lowOf
    cases hc : (cut47 (unsign s.data.toList)).2 with
    | none => simp
    | some m => rw [hc] at h2; simp at h2 ⊢; omega
  have hTL : TP.data.toList.length = TP.size := size_list' TP
  have hLL : LW.data.toList.length = LW.size := size_list' LW
  have HTL := Lib.hid hTL
  have HLL := Lib.hid hLL
  clear hTL hLL
  have HNO : Hid (∀ W : World, Below w.heap.size w W → Bk W w.heap.size 51 #[Value.bool false, .slice none 0 0, .slice none 0 0] → ¬ IsText s.data.toList →
      Below w.heap.size w (set3 W w.heap.size (.bool false) (.slice none 0 0) (.slice none 0 0)) ∧ ∃ v z, Ending.returned (.tuple #[.agg #[.bool false, .slice none 0 0, .slice none 0 0], .bool false]) = .returned (.tuple #[v, .bool z]) ∧ (z = true ↔ IsText s.data.toList) ∧ ∃ q, IsQ (set3 W w.heap.size (.bool false) (.slice none 0 0) (.slice none 0 0)) (set3 W w.heap.size (.bool false) (.slice none 0 0) (.slice none 0 0)).heap.size v q ∧ (z = true → q = textRat s.data.toList)) := fun W hB _ hn =>
    ⟨set3_below hB (Nat.le_refl _), _, false, rfl, ⟨fun h => (by cases h), fun h => absurd h hn⟩, 0, IsQ.zero _ _, fun h => by cases h⟩
  obtain ⟨d0, d1, d2⟩ := bk3 k2
  have f0 := k2.frozen 0
  have f1 := k2.frozen 1
  have f2 := k2.frozen 2
  by_cases zt : Digs TP.data.toList ∧ 0 < TP.size
  rotate_left
  · have D1 := rdigits_any TP w2 (by omega) false ⟨fun h => (by cases h), fun h => absurd h zt⟩
    have HN : Hid (¬ IsText s.data.toList) := fun h => zt (by
      obtain ⟨h1, _, h3, _⟩ := isText_digs h
      rw [← HTP.out] at h1 h3
      exact ⟨h1, by rw [← HTL.out]; exact h3⟩)
    clear zt
    go_wp2_with fail
    refine D1.mono ?_
    rintro e w3 ⟨rfl, rfl⟩
    clear D1
    go_wp2
    refine bodyPost_ret (v := .tuple #[.agg #[.bool false, .slice none 0 0, .slice none 0 0], .bool false]) (by simp [results, Tryz.results31, go_sem, d0, d1, d2]) rfl ?_
    exact HNO.out w2 hB2 k2 HN.out
  have D1 := rdigits_any TP w2 (by omega) true ⟨fun _ => zt, fun _ => rfl⟩
  by_cases zl : Digs LW.data.toList ∧ 0 < LW.size
  rotate_left
  · have D2 := rdigits_any LW w2 (by omega) false ⟨fun h => (by cases h), fun h => absurd h zl⟩
    have HN : Hid (¬ IsText s.data.toList) := fun h => zl (by
      obtain ⟨_, h2, _, h4, _⟩ := isText_digs h
      rw [← HLW.out] at h2 h4
      exact ⟨h2, by rw [← HLL.out]; exact h4⟩)
    clear zl zt
    go_wp2_with fail
    refine D1.mono ?_
    rintro e w3 ⟨rfl, rfl⟩
    clear D1
    go_wp2_with fail
    refine D2.mono ?_
    rintro e w3 ⟨rfl, rfl⟩
    clear D2
    go_wp2
    refine bodyPost_ret (v := .tuple #[.agg #[.bool false, .slice none 0 0, .slice none 0 0], .bool false]) (by simp [results, Tryz.results31, go_sem, d0, d1, d2]) rfl ?_
    exact HNO.out w2 hB2 k2 HN.out
  have D2 := rdigits_any LW w2 (by omega) true ⟨fun _ => zl, fun _ => rfl⟩
  have hdt := zt.1
  have hdl := zl.1
  have NL := nread_any LW w2 (by omega) hdl
  have hlt := dval_limbs hdt
  have hll := dval_limbs hdl
  rw [HTL.out] at hlt
  rw [HLL.out] at hll
  have HDT := Lib.hid hdt
  clear zt zl hdt hdl
  go_wp2_with fail
  refine D1.mono ?_
  rintro e w3 ⟨rfl, rfl⟩
  clear D1
  go_wp2_with fail
  refine D2.mono ?_
  rintro e w3 ⟨rfl, rfl⟩
  clear D2
  go_wp2_with fail
  refine NL.mono ?_
  rintro e w3 ⟨hb3, dv, rfl, hdv⟩
  clear NL
  have k3 := k2.below hb3 k2.lt
  have hB3 := hB2.trans (hb3.mono hB2.size)
  clear d0 d1 d2 f0 f1 f2 k2 hb3 hB2
  obtain ⟨d0, d1, d2⟩ := bk3 k3
  have f0 := k3.frozen 0
  have f1 := k3.frozen 1
  have f2 := k3.frozen 2
  have HDV := Lib.hid hdv
  obtain ⟨A5, c5, rfl, _, _⟩ := hdv
  rcases Nat.eq_zero_or_pos (dval LW.data.toList) with hz | hz
  · have HN : Hid (¬ IsText s.data.toList) := fun h => by
      obtain ⟨_, _, _, _, h5⟩ := isText_digs h
      rw [← HLW.out, hz] at h5
      omega
    rw [hz, limbs_zero]
    clear hz hll hlt
    go_wp2
    refine bodyPost_ret (v := .tuple #[.agg #[.bool false, .slice none 0 0, .slice none 0 0], .bool false]) (by simp [results, Tryz.results31, go_sem, d0, d1, d2]) rfl ?_
    exact HNO.out w3 hB3 k3 HN.out
  have hlp := limbs_len_pos hz
  have HQE : Hid (textRat s.data.toList = nr ng (dval TP.data.toList) (dval LW.data.toList)) := by
    show _ = _
    rw [textRat_eq, HTP.out, HLW.out, HNG.out]
  have hz1 : (((limbs (dval LW.data.toList)).length : Int) == 0) = false := by rw [beq_eq_false_iff_ne]; omega
  have NT := nread_any TP w3 (by omega) HDT.out
  have hsz : sz (nr ng (dval TP.data.toList) (dval LW.data.toList)) ≤ 500000000000 := Nat.le_trans (sz_nr _ _ _ hz) (by omega)
  generalize dval TP.data.toList = dt at *
  generalize dval LW.data.toList = dl at *
  clear HNO hz
  generalize hgl : (limbs dl).length = ll at *
  have HLLL := Lib.hid hgl
  clear hgl
  go_wp2_with fail
  refine NT.mono ?_
  rintro e w4 ⟨hb4, tv, rfl, htv⟩
  clear NT
  have k4 := k3.below hb4 k3.lt
  have hB4 := hB3.trans (hb4.mono hB3.size)
  have hdv4 := HDV.out.next hb4
  clear d0 d1 d2 f0 f1 f2 k3 hb4 hB3
  go_wp2_with fail
  refine (qmake_any ng dt dl _ _ w4 htv hdv4 (by omega) (by rw [HLLL.out]; omega)).mono ?_
  rintro e w5 ⟨hb5, qv, rfl, hqv⟩
  have k5 := k4.below hb5 k4.lt
  have hB5 := hB4.trans (hb5.mono hB4.size)
  clear k4 hb5 hB4 htv hdv4
  obtain ⟨t6, A6, l6, c6, A7, l7, c7, rfl⟩ := hqv.form
  generalize nr ng dt dl = qq at *
  have kq := Bk.new w5 51 #[.bool t6, .slice A6 l6 c6, .slice A7 l7 c7]
  have hb6 := below_alloc w5 (.cells #[.bool t6, .slice A6 l6 c6, .slice A7 l7 c7] 51)
  have k6 := k5.below hb6 k5.lt
  have hq6 := hqv.next hb6
  have hB6 := hB5.trans (hb6.mono hB5.size)
  have hlt5 := k5.lt
  go_wp2_with fail
  have CT := Lib.hid (fun X (h : IsQ X X.heap.size (.agg #[.bool t6, .slice A6 l6 c6, .slice A7 l7 c7]) qq) => qtext_any qq _ X h hsz)
  have hlt6 : w.heap.size < (w5.alloc (.cells #[.bool t6, .slice A6 l6 c6, .slice A7 l7 c7] 51)).heap.size := k6.lt
  have HRES : Hid (∀ (W : World), Below w.heap.size w W → IsQ W W.heap.size (.agg #[.bool t6, .slice A6 l6 c6, .slice A7 l7 c7]) qq → ∀ z : Bool, (z = true ↔ (⟨(ratText qq).toArray⟩ : ByteArray) = s) →
      Below w.heap.size w W ∧ ∃ v z', Ending.returned (.tuple #[.agg #[.bool t6, .slice A6 l6 c6, .slice A7 l7 c7], .bool z]) = .returned (.tuple #[v, .bool z']) ∧ (z' = true ↔ IsText s.data.toList) ∧ ∃ q, IsQ W W.heap.size v q ∧ (z' = true → q = textRat s.data.toList)) := fun W hB hq z hz => by
    refine ⟨hB, _, z, rfl, ?_, qq, hq, fun _ => HQE.out.symm⟩
    rw [hz]
    constructor
    · rintro rfl
      exact (isText_ratText qq).1
    · intro h
      have := ratText_textRat h
      rw [HQE.out] at this
      exact ba_ext this
  clear hqv hb6 k5 hB5
  generalize w5.alloc (.cells #[.bool t6, .slice A6 l6 c6, .slice A7 l7 c7] 51) = W6 at *
  have ST0 := hq6.drew.stored (w := w) k6.drew hB6.drew (Nat.le_refl _)
  have kS := set3_bk (x := .bool t6) (y := .slice A6 l6 c6) (z := .slice A7 l7 c7) k6.drew
  have kqS := bk_far3 (b' := w.heap.size) (x := .bool t6) (y := .slice A6 l6 c6) (z := .slice A7 l7 c7) kq.drew (by omega)
  have HST := Lib.hid ST0
  have HKS := Lib.hid kS
  have HKQS := Lib.hid kqS
  obtain ⟨d0, d1, d2⟩ := bk3 k6.drew
  have f0 := k6.drew.frozen 0
  have f1 := k6.drew.frozen 1
  have f2 := k6.drew.frozen 2
  obtain ⟨g0, g1, g2⟩ := bk3 kq
  clear ST0 kS kqS
  go_region_held3 (fun W => W.cell? ⟨w5.heap.size, 0, none⟩ = some (.bool t6) ∧ W.cell? ⟨w5.heap.size, 1, none⟩ = some (.slice A6 l6 c6) ∧ W.cell? ⟨w5.heap.size, 2, none⟩ = some (.slice A7 l7 c7))
    (first | with_reducible exact bk3 kA | with_reducible exact bk3 kB | exact bk3 kC | exact bk3 HKQS.out | go_keep)
    (first
      | (go_at_call 36; ((with_reducible refine (CT.out _ hq6.drew).mono ?_)); rintro e w7 ⟨hb7, rfl⟩; have kA := kq.drew.below hb7 kq.lt; have kz := k6.drew.below hb7 k6.lt; have kC := bk_far3 (b' := w.heap.size) (x := .bool t6) (y := .slice A6 l6 c6) (z := .slice A7 l7 c7) kA (by omega); obtain ⟨e0, e1, e2⟩ := bk3 kz; have h0 := kz.frozen 0; have h1 := kz.frozen 1; have h2 := kz.frozen 2; have STA := (hq6.drew.next hb7).stored (w := w) kz (hB6.drew.trans (hb7.mono hB6.size)) (Nat.le_refl _))
      | (go_at_call 36; ((with_reducible refine (CT.out _ HST.out.2).mono ?_)); rintro e w7 ⟨hb7, rfl⟩; have kB := HKQS.out.below hb7 HKQS.out.lt; have kz := HKS.out.below hb7 HKS.out.lt; obtain ⟨e0, e1, e2⟩ := bk3 kz; have STA := And.intro (HST.out.1.trans (hb7.mono HST.out.1.size)) (HST.out.2.next hb7)))
  go_wp2
  refine bodyPost_ret (v := .tuple #[.agg #[.bool t6, .slice A6 l6 c6, .slice A7 l7 c7], .bool (ratText qq == s.toList)]) (by simp [results, Tryz.results31, go_sem, e0, e1, e2]) rfl ?_
  refine HRES.out _ STA.1 STA.2 _ ?_
  rw [beq_iff_eq, ByteArray.toList_eq]
  constructor
  · intro h
    exact ba_ext (by rw [← h])
  · rintro rfl
    rfl
end Go.Proofs.YtbddmkklkbkliaaGreatDoor
