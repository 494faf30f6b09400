/-
  Walk: codec.unpacked, the packed rows.
-/
import Derived.Test.YtmoenbdooilceaaDoorPackL
import Derived.StillTactics
namespace Go.Proofs.YtmoenbdooilceaaDoor
open Go.RowKit By

set_option maxRecDepth 100000 in
set_option maxHeartbeats 4000000 in
theorem unpacked_far (A : Option Addr) (c n : Nat) (b : List Nat) (w : World) (h1 : 1 ≤ n) (h8 : n ≤ 8) (hl : Bytes b) (hc : b.length ≤ c) (hm : b.length ≤ 1048576) (h0 : ukN b ≠ 0) (hg1 : n + 1 ≤ (b.drop 4).length) (hg2 : ukN b ≤ 1048576 / n) (hg3 : ukW b n ≤ 64) (hg4 : (ukF b n).length < ukS b n) (h : Rd w w.heap.size A (ints .u8 b)) :
    Calls Tryd.prog 52 #[.slice A b.length c, .int .i64 n] w fun e w' => Below w.heap.size w w' ∧ e = .returned (.tuple #[.slice none 0 0, .bool false]) := by
  have hd4l : (b.drop 4).length = b.length - 4 := List.length_drop
  rw [hd4l] at hg1
  obtain ⟨ad, rfl, hab, _⟩ := h.int (j := 0) (by omega)
  obtain ⟨i0, hi0, hz0, hz1, hz2⟩ := info_parts Tryd.u8_info
  have hrd : Rd w w.heap.size (some ad) (ints .u8 (b.take 4)) := by
    have := h.sub 0 4
    rw [List.drop_zero] at this
    exact this
  have hd : Rd w w.heap.size (some ⟨ad.block, ad.off + 4, none⟩) (ints .u8 (b.drop 4)) := by
    have := h.sub 4 (b.length - 4)
    rw [List.take_of_length_le (by simp)] at this
    exact this
  have hdn : Rd w w.heap.size (some ⟨ad.block, ad.off + 4, none⟩) (ints .u8 ((b.drop 4).take n)) := by
    have := hd.sub 0 n
    rw [List.drop_zero] at this
    exact this
  obtain ⟨ad2, e2, _, hcell⟩ := hd.int (j := n) (by omega)
  cases e2
  rw [addr_mk] at hcell
  have hcF := hd.cut (k := n + 1) (cap := c - 4) (by rw [ints_length]; omega)
  rw [← ints_drop] at hcF
  have hFb : Bytes (ukF b n) := (hl.drop _).drop _
  have hFl : (ukF b n).length = b.length - 4 - (n + 1) := by unfold ukF; rw [List.length_drop, hd4l]
  have hNlt := ukN_lt hl
  have HG : Hid (gv (b.take 4) = ukN b) := rfl
  have HGM : Hid (gv ((b.drop 4).take n) = ukM b n) := rfl
  have hM64 : ukM b n < 2 ^ 64 := gv_lt64 (by rw [List.length_take]; omega) ((hl.drop _).take _)
  have HGW : Hid (ukW b n = (b.drop 4).getD n 0) := rfl
  have HFd : Hid ((b.drop 4).drop (n + 1) = ukF b n) := rfl
  have HX : Hid (∀ j : Nat, IntKind.u64.wrap (((ukM b n : Nat) : Int) + ((rd (ukF b n) (j * ukW b n) (ukW b n) : Nat) : Int)) = ((ukG b n j : Nat) : Int)) := by
    intro j
    rw [add_u64]; rfl
  have HB : Hid (jn (ukG b n) n (ukN b) ++ (ukF b n).drop (ukS b n) = ukB b n) := by
    show _ = _
    unfold ukB ukR
    rw [if_neg h0]
  have HSd : Hid (ukS b n = (ukN b * ukW b n + 7) / 8) := rfl
  rw [← HGW.out] at hcell
  rw [HFd.out] at hcF
  have hGlt := Lib.hid (ukG_lt b n)
  have t0 : ((ukN b : Int) == 0) = false := by rw [beq_eq_false_iff_ne]; omega
  generalize ukS b n = S at *
  generalize ukG b n = G at *
  generalize ukF b n = Fl at *
  generalize ukN b = k at *
  generalize ukM b n = m at *
  generalize ukW b n = W at *
  obtain ⟨M, hM⟩ : ∃ M, M = 1048576 / n := ⟨_, rfl⟩
  have hMb : M ≤ 1048576 := by rw [hM]; exact Nat.div_le_self _ _
  have z4 : (1048576 : Int) / (n : Int) = (M : Int) := by rw [hM, Int.natCast_ediv]; rfl
  have q1 : ¬ n = 0 := by omega
  rw [← hM] at hg2
  have hkn : k * n ≤ 1048576 := by
    have := Nat.mul_le_mul_right n hg2
    have := Nat.div_mul_le_self 1048576 n
    rw [← hM] at this
    omega
  clear hM
  obtain ⟨y, hy⟩ : ∃ y, y = k * W := ⟨_, rfl⟩
  have hyb : y ≤ 67108864 := by rw [hy]; exact Nat.mul_le_mul (show k ≤ 1048576 from Nat.le_trans hg2 hMb) hg3
  have hS : S = (y + 7) / 8 := by rw [hy]; exact HSd.out
  have hSb : y ≤ 8 * S ∧ S ≤ 8388609 := by omega
  have m0 : IntKind.i64.wrap ((k : Int) * (W : Int)) = (y : Int) := by rw [← Int.natCast_mul, ← hy]; exact IntWalk.i64_in _ (by omega)
  have m2 : ((y : Int) + 7) / 8 = (S : Int) := by omega
  have HY := Lib.hid hy
  clear hy hS HSd
  have q2 : ¬ c = 4 := by omega
  have r1 : n ≤ c - 4 := by omega
  have w1 : IntKind.i64.wrap (W : Int) = (W : Int) := IntWalk.i64_in _ (by omega)
  have r2 : (n : Int) ≤ (n : Int) + 1 := by omega
  have HFL := Lib.hid hFl
  rw [hFl] at hg4
  by_cases hq : c - 4 = n + 1
  · rw [if_pos hq] at hcF
    have hb5 : b.length - 4 = n + 1 := by omega
    have hS0 : 0 < S := by omega
    go_enter Tryd.func52, Tryd.ntmps52
    go_wp2_with fail
    refine (number_any (some ad) c 4 (b.take 4) _ (by simp; omega) (by omega) (hl.take _) hrd).mono ?_
    rintro e w5 ⟨rfl, rfl⟩
    rw [HG.out]
    go_wp2
    refine wp_region_still_lit (by kernel_rfl) (by kernel_rfl) ?_
    repeat still_step
    still_call (still (number_any (some ⟨ad.block, ad.off + 4, none⟩) _ n ((b.drop 4).take n) _ (by rw [List.length_take, hd4l]; omega) h8 ((hl.drop _).take _) hdn))
    repeat still_step
    refine wpStill_nil ?_
    rw [HGM.out]
    go_wp2
    go_ret2
    exact ⟨(Below.refl _ _).drew, rfl⟩
  · rw [if_neg hq] at hcF
    go_enter Tryd.func52, Tryd.ntmps52
    go_wp2_with fail
    refine (number_any (some ad) c 4 (b.take 4) _ (by simp; omega) (by omega) (hl.take _) hrd).mono ?_
    rintro e w5 ⟨rfl, rfl⟩
    rw [HG.out]
    go_wp2
    refine wp_region_still_lit (by kernel_rfl) (by kernel_rfl) ?_
    repeat still_step
    still_call (still (number_any (some ⟨ad.block, ad.off + 4, none⟩) _ n ((b.drop 4).take n) _ (by rw [List.length_take, hd4l]; omega) h8 ((hl.drop _).take _) hdn))
    repeat still_step
    refine wpStill_nil ?_
    rw [HGM.out]
    go_wp2
    go_ret2
    exact ⟨(Below.refl _ _).drew, rfl⟩

set_option maxRecDepth 100000 in
set_option maxHeartbeats 4000000 in
theorem unpacked_good (A : Option Addr) (c n : Nat) (b : List Nat) (w : World) (h1 : 1 ≤ n) (h8 : n ≤ 8) (hl : Bytes b) (hc : b.length ≤ c) (hm : b.length ≤ 1048576) (h0 : ukN b ≠ 0) (hg1 : n + 1 ≤ (b.drop 4).length) (hg2 : ukN b ≤ 1048576 / n) (hg3 : ukW b n ≤ 64) (hg4 : ukS b n ≤ (ukF b n).length) (h : Rd w w.heap.size A (ints .u8 b)) :
    Calls Tryd.prog 52 #[.slice A b.length c, .int .i64 n] w fun e w' => Below w.heap.size w w' ∧ ∃ v, e = .returned (.tuple #[v, .bool true]) ∧ IsL w' w'.heap.size .u8 v (ukB b n) := by
  have hd4l : (b.drop 4).length = b.length - 4 := List.length_drop
  rw [hd4l] at hg1
  obtain ⟨ad, rfl, hab, _⟩ := h.int (j := 0) (by omega)
  obtain ⟨i0, hi0, hz0, hz1, hz2⟩ := info_parts Tryd.u8_info
  have hrd : Rd w w.heap.size (some ad) (ints .u8 (b.take 4)) := by
    have := h.sub 0 4
    rw [List.drop_zero] at this
    exact this
  have hd : Rd w w.heap.size (some ⟨ad.block, ad.off + 4, none⟩) (ints .u8 (b.drop 4)) := by
    have := h.sub 4 (b.length - 4)
    rw [List.take_of_length_le (by simp)] at this
    exact this
  have hdn : Rd w w.heap.size (some ⟨ad.block, ad.off + 4, none⟩) (ints .u8 ((b.drop 4).take n)) := by
    have := hd.sub 0 n
    rw [List.drop_zero] at this
    exact this
  obtain ⟨ad2, e2, _, hcell⟩ := hd.int (j := n) (by omega)
  cases e2
  rw [addr_mk] at hcell
  have hcF := hd.cut (k := n + 1) (cap := c - 4) (by rw [ints_length]; omega)
  rw [← ints_drop] at hcF
  have hFb : Bytes (ukF b n) := (hl.drop _).drop _
  have hFl : (ukF b n).length = b.length - 4 - (n + 1) := by unfold ukF; rw [List.length_drop, hd4l]
  have hNlt := ukN_lt hl
  have HG : Hid (gv (b.take 4) = ukN b) := rfl
  have HGM : Hid (gv ((b.drop 4).take n) = ukM b n) := rfl
  have hM64 : ukM b n < 2 ^ 64 := gv_lt64 (by rw [List.length_take]; omega) ((hl.drop _).take _)
  have HGW : Hid (ukW b n = (b.drop 4).getD n 0) := rfl
  have HFd : Hid ((b.drop 4).drop (n + 1) = ukF b n) := rfl
  have HX : Hid (∀ j : Nat, IntKind.u64.wrap (((ukM b n : Nat) : Int) + ((rd (ukF b n) (j * ukW b n) (ukW b n) : Nat) : Int)) = ((ukG b n j : Nat) : Int)) := by
    intro j
    rw [add_u64]; rfl
  have HB : Hid (jn (ukG b n) n (ukN b) ++ (ukF b n).drop (ukS b n) = ukB b n) := by
    show _ = _
    unfold ukB ukR
    rw [if_neg h0]
  have HSd : Hid (ukS b n = (ukN b * ukW b n + 7) / 8) := rfl
  rw [← HGW.out] at hcell
  rw [HFd.out] at hcF
  have hGlt := Lib.hid (ukG_lt b n)
  have t0 : ((ukN b : Int) == 0) = false := by rw [beq_eq_false_iff_ne]; omega
  generalize ukS b n = S at *
  generalize ukG b n = G at *
  generalize ukF b n = Fl at *
  generalize ukN b = k at *
  generalize ukM b n = m at *
  generalize ukW b n = W at *
  obtain ⟨M, hM⟩ : ∃ M, M = 1048576 / n := ⟨_, rfl⟩
  have hMb : M ≤ 1048576 := by rw [hM]; exact Nat.div_le_self _ _
  have z4 : (1048576 : Int) / (n : Int) = (M : Int) := by rw [hM, Int.natCast_ediv]; rfl
  have q1 : ¬ n = 0 := by omega
  rw [← hM] at hg2
  have hkn : k * n ≤ 1048576 := by
    have := Nat.mul_le_mul_right n hg2
    have := Nat.div_mul_le_self 1048576 n
    rw [← hM] at this
    omega
  clear hM
  obtain ⟨y, hy⟩ : ∃ y, y = k * W := ⟨_, rfl⟩
  have hyb : y ≤ 67108864 := by rw [hy]; exact Nat.mul_le_mul (show k ≤ 1048576 from Nat.le_trans hg2 hMb) hg3
  have hS : S = (y + 7) / 8 := by rw [hy]; exact HSd.out
  have hSb : y ≤ 8 * S ∧ S ≤ 8388609 := by omega
  have m0 : IntKind.i64.wrap ((k : Int) * (W : Int)) = (y : Int) := by rw [← Int.natCast_mul, ← hy]; exact IntWalk.i64_in _ (by omega)
  have m2 : ((y : Int) + 7) / 8 = (S : Int) := by omega
  have HY := Lib.hid hy
  clear hy hS HSd
  have q2 : ¬ c = 4 := by omega
  have r1 : n ≤ c - 4 := by omega
  have w1 : IntKind.i64.wrap (W : Int) = (W : Int) := IntWalk.i64_in _ (by omega)
  have r2 : (n : Int) ≤ (n : Int) + 1 := by omega
  have HFL := Lib.hid hFl
  rw [hFl] at hg4
  obtain ⟨P, hP⟩ : ∃ P, P = k * n := ⟨_, rfl⟩
  rw [← hP] at hkn
  have mP : IntKind.i64.wrap ((k : Int) * (n : Int)) = (P : Int) := by rw [← Int.natCast_mul, ← hP]; exact IntWalk.i64_in _ (by omega)
  have hmk := make_ints (P := Tryd.prog) 22 5 i0 .u8 Tryd.underlying22 hi0 hz0 hz1 (by omega) .i64 .i64 P (P : Int) rfl (by omega)
  have hrow0 : RowE (w.drew.alloc (.cells (ints .u8 (List.replicate P 0)).toArray 5)) w.heap.size 5 .u8 (par G n k 0) := by
    have e : par G n k 0 = List.replicate P 0 := by unfold par; rw [Nat.sub_zero, ← hP]; rfl
    rw [e]; exact Bk.new w.drew 5 (ints .u8 (List.replicate P 0)).toArray
  have hb0 : Below w.heap.size w (w.drew.alloc (.cells (ints .u8 (List.replicate P 0)).toArray 5)) := ((Below.refl _ _).drew).alloc (Nat.le_refl _) _
  have HP := Lib.hid hP
  clear hP
  by_cases hq : c - 4 = n + 1
  · rw [if_pos hq] at hcF
    have hb5 : b.length - 4 = n + 1 := by omega
    obtain rfl : S = 0 := by omega
    have m3 : ((y : Int) + 7) / 8 = 0 := m2
    have hFlx : Fl.length = 0 := by omega
    have HN : Hid (Fl.drop 0 = []) := List.drop_eq_nil_of_le (by omega)
    have HM2 := Lib.hid m3
    clear m2 m3
    go_enter Tryd.func52, Tryd.ntmps52
    go_wp2_with fail
    refine (number_any (some ad) c 4 (b.take 4) _ (by simp; omega) (by omega) (hl.take _) hrd).mono ?_
    rintro e w5 ⟨rfl, rfl⟩
    rw [HG.out]
    go_wp2
    refine wp_region_still_lit (by kernel_rfl) (by kernel_rfl) ?_
    repeat still_step
    still_call (still (number_any (some ⟨ad.block, ad.off + 4, none⟩) _ n ((b.drop 4).take n) _ (by rw [List.length_take, hd4l]; omega) h8 ((hl.drop _).take _) hdn))
    repeat still_step
    refine wpStill_nil ?_
    rw [HGM.out]
    go_wp2
    clear hmk mP m0 hcell
    go_loopw [70] (fun i wr => ∃ j : Nat, j ≤ k ∧ i = .int .i64 j ∧ Hid (RowE wr w.heap.size 5 .u8 (par G n k j)) ∧ Below w.heap.size w wr) (fun i _ => k - (intOf i).toNat)
    case atStart => exact ⟨0, Nat.zero_le _, rfl, hrow0, hb0⟩
    case round =>
      clear hrow0 hb0
      obtain ⟨j, hj, rfl, HRw, hBf⟩ := hrel
      by_cases hlt : j < k
      · have hjW : j * W + W ≤ y := by rw [HY.out, ← Nat.succ_mul]; exact Nat.mul_le_mul_right _ hlt
        have hjn : j * n + n ≤ P := by rw [HP.out, ← Nat.succ_mul]; exact Nat.mul_le_mul_right _ hlt
        have hst := par_step G (n := n) hlt
        have hpl := par_len G (n := n) hj
        rw [← HP.out] at hpl
        have HXj := HX.out j
        obtain ⟨q, hq'⟩ : ∃ q, q = j * W := ⟨_, rfl⟩
        obtain ⟨o, ho⟩ : ∃ o, o = j * n := ⟨_, rfl⟩
        have mq : IntKind.i64.wrap ((j : Int) * (W : Int)) = (q : Int) := by rw [← Int.natCast_mul, ← hq']; exact IntWalk.i64_in _ (by omega)
        have mo : IntKind.i64.wrap ((j : Int) * (n : Int)) = (o : Int) := by rw [← Int.natCast_mul, ← ho]; exact IntWalk.i64_in _ (by omega)
        rw [← hq'] at hjW HXj
        rw [← ho] at hjn hst
        obtain ⟨s1, s2, s3⟩ := at_sum hjn (by omega)
        have qo : ¬ P = o := by omega
        have ro : (o : Int) + n ≤ P := by omega
        have ro2 : o + n ≤ P := by omega
        have ro3 : o + n - o = n := by omega
        have HXj' := Lib.hid HXj
        have Hst := Lib.hid hst
        have hFr := hcF.below hBf
        clear hq' ho hst HXj
        go_wp2
        refine wp_region_still_tail 18 (by kernel_rfl) (by kernel_rfl) ?_
        simp only [List.take_succ_cons, List.take_zero, List.drop_succ_cons, List.drop_zero]
        repeat still_step
        still_call (still (bread_any (some ⟨ad.block, ad.off + 4, none⟩) 0 0 q W Fl _ hFlx (by omega) (by omega) hg3 hFb (hFr.more hBf.size)))
        repeat still_step
        refine wpStill_nil ?_
        clear s1 s2 s3 qo ro ro2 ro3 mq mo
        go_wp2_with fail
        rw [HXj'.out]
        have hput := pute_any w.heap.size o n (P - o) (G j) (par G n k j) wr.drew (by omega) (by omega) (hGlt.out j) HRw.out
        refine hput.mono ?_
        rintro e w2 ⟨⟨u2, rfl⟩, hg2', hs2, hr2⟩
        rw [Hst.out] at hr2
        have HR2 := Lib.hid hr2
        have hB2 : Below w.heap.size w w2 := below_of_grown hBf.drew hg2' hBf.size (Nat.le_refl _)
        clear hr2 hg2' hs2 hput
        go_wp2
        go_roundw
        case rel => exact ⟨j + 1, by omega, by go_num, HR2, hB2⟩
        case measure => simp [intOf]; omega
      · have hjk : j = k := by omega
        subst j
        have hrow := HRw.out
        rw [par_all] at hrow
        have hjl : (jn G n k).length = P := by rw [jn_len, HP.out]
        have hown := hrow.own (base := w.heap.size) (Nat.le_refl _) (by rw [hjl]; unfold maxLen; omega)
        rw [hjl] at hown
        have HJL := Lib.hid hjl
        have m2 := HM2.out
        have hFr := hcF.below hBf
        clear hrow HRw hjl
        go_wp2_with (at_builtin; refine wpL_append _ rfl (.tmp 93) (.tmp 96) _ rfl w.heap.size 5 i0 _ 1 1 Tryd.underlying22 hi0 hz0 hz1 hz2 rfl (by omega) _ P (ints .u8 (jn G n k)) rfl hown (some ⟨ad.block, ad.off + 4, none⟩) 0 0 (ints .u8 []) rfl rfl (show Rd wr w.heap.size (some ⟨ad.block, ad.off + 4, none⟩) (ints .u8 []) from fun hn => absurd rfl hn) (ints_one _ _) (by unfold maxLen; omega) (by omega) hBf.size ?_; intro v1 w2 hown1 hg1' hat1)
        have hB2 : Below w.heap.size w w2 := below_app hBf hg1' hBf.size hown (Nat.le_refl _)
        have HO : Hid (IsL w2 w2.heap.size .u8 v1 (ukB b n)) := by
          rw [← ints_append] at hown1
          show IsL _ _ _ _ _
          rw [← HB.out, HN.out]
          exact IsL.of_own' hown1 (by rw [List.length_append, HJL.out]; rfl)
        clear hown hown1
        go_wp2
        go_ret2
        exact ⟨hB2, _, rfl, HO.out⟩
  · rw [if_neg hq, Option.map_some, addr_mk] at hcF
    have hFlx := hFl
    have HM2 := Lib.hid m2
    clear m2
    have q5 : ¬ c - 4 - (n + 1) = 0 := by omega
    go_enter Tryd.func52, Tryd.ntmps52
    go_wp2_with fail
    refine (number_any (some ad) c 4 (b.take 4) _ (by simp; omega) (by omega) (hl.take _) hrd).mono ?_
    rintro e w5 ⟨rfl, rfl⟩
    rw [HG.out]
    go_wp2
    refine wp_region_still_lit (by kernel_rfl) (by kernel_rfl) ?_
    repeat still_step
    still_call (still (number_any (some ⟨ad.block, ad.off + 4, none⟩) _ n ((b.drop 4).take n) _ (by rw [List.length_take, hd4l]; omega) h8 ((hl.drop _).take _) hdn))
    repeat still_step
    refine wpStill_nil ?_
    rw [HGM.out]
    go_wp2
    clear hmk mP m0 hcell
    go_loopw [70] (fun i wr => ∃ j : Nat, j ≤ k ∧ i = .int .i64 j ∧ Hid (RowE wr w.heap.size 5 .u8 (par G n k j)) ∧ Below w.heap.size w wr) (fun i _ => k - (intOf i).toNat)
    case atStart => exact ⟨0, Nat.zero_le _, rfl, hrow0, hb0⟩
    case round =>
      clear hrow0 hb0
      obtain ⟨j, hj, rfl, HRw, hBf⟩ := hrel
      by_cases hlt : j < k
      · have hjW : j * W + W ≤ y := by rw [HY.out, ← Nat.succ_mul]; exact Nat.mul_le_mul_right _ hlt
        have hjn : j * n + n ≤ P := by rw [HP.out, ← Nat.succ_mul]; exact Nat.mul_le_mul_right _ hlt
        have hst := par_step G (n := n) hlt
        have hpl := par_len G (n := n) hj
        rw [← HP.out] at hpl
        have HXj := HX.out j
        obtain ⟨q, hq'⟩ : ∃ q, q = j * W := ⟨_, rfl⟩
        obtain ⟨o, ho⟩ : ∃ o, o = j * n := ⟨_, rfl⟩
        have mq : IntKind.i64.wrap ((j : Int) * (W : Int)) = (q : Int) := by rw [← Int.natCast_mul, ← hq']; exact IntWalk.i64_in _ (by omega)
        have mo : IntKind.i64.wrap ((j : Int) * (n : Int)) = (o : Int) := by rw [← Int.natCast_mul, ← ho]; exact IntWalk.i64_in _ (by omega)
        rw [← hq'] at hjW HXj
        rw [← ho] at hjn hst
        obtain ⟨s1, s2, s3⟩ := at_sum hjn (by omega)
        have qo : ¬ P = o := by omega
        have ro : (o : Int) + n ≤ P := by omega
        have ro2 : o + n ≤ P := by omega
        have ro3 : o + n - o = n := by omega
        have HXj' := Lib.hid HXj
        have Hst := Lib.hid hst
        have hFr := hcF.below hBf
        clear hq' ho hst HXj
        go_wp2
        refine wp_region_still_tail 18 (by kernel_rfl) (by kernel_rfl) ?_
        simp only [List.take_succ_cons, List.take_zero, List.drop_succ_cons, List.drop_zero]
        repeat still_step
        still_call (still (bread_any (some ⟨ad.block, ad.off + 4 + (n + 1), none⟩) (c - 4 - (n + 1)) (b.length - 4 - (n + 1)) q W Fl _ hFlx (by omega) (by omega) hg3 hFb (hFr.more hBf.size)))
        repeat still_step
        refine wpStill_nil ?_
        clear s1 s2 s3 qo ro ro2 ro3 mq mo
        go_wp2_with fail
        rw [HXj'.out]
        have hput := pute_any w.heap.size o n (P - o) (G j) (par G n k j) wr.drew (by omega) (by omega) (hGlt.out j) HRw.out
        refine hput.mono ?_
        rintro e w2 ⟨⟨u2, rfl⟩, hg2', hs2, hr2⟩
        rw [Hst.out] at hr2
        have HR2 := Lib.hid hr2
        have hB2 : Below w.heap.size w w2 := below_of_grown hBf.drew hg2' hBf.size (Nat.le_refl _)
        clear hr2 hg2' hs2 hput
        go_wp2
        go_roundw
        case rel => exact ⟨j + 1, by omega, by go_num, HR2, hB2⟩
        case measure => simp [intOf]; omega
      · have hjk : j = k := by omega
        subst j
        have hrow := HRw.out
        rw [par_all] at hrow
        have hjl : (jn G n k).length = P := by rw [jn_len, HP.out]
        have hown := hrow.own (base := w.heap.size) (Nat.le_refl _) (by rw [hjl]; unfold maxLen; omega)
        rw [hjl] at hown
        have HJL := Lib.hid hjl
        have m2 := HM2.out
        have hFr := hcF.below hBf
        clear hrow HRw hjl
        have hcut := hFr.cut (k := S) (cap := c - 4 - (n + 1)) (by rw [ints_length]; omega)
        rw [← ints_drop] at hcut
        by_cases hcs : c - 4 - (n + 1) = S
        · have HN : Hid (Fl.drop S = []) := List.drop_eq_nil_of_le (by omega)
          have hbs : b.length - 4 - (n + 1) = S := by omega
          go_wp2_with (at_builtin; refine wpL_append _ rfl (.tmp 93) (.tmp 96) _ rfl w.heap.size 5 i0 _ 1 1 Tryd.underlying22 hi0 hz0 hz1 hz2 rfl (by omega) _ P (ints .u8 (jn G n k)) rfl hown (some ⟨ad.block, ad.off + 4 + (n + 1), none⟩) 0 0 (ints .u8 []) rfl rfl (show Rd wr w.heap.size (some ⟨ad.block, ad.off + 4 + (n + 1), none⟩) (ints .u8 []) from fun hn => absurd rfl hn) (ints_one _ _) (by unfold maxLen; omega) (by omega) hBf.size ?_; intro v1 w2 hown1 hg1' hat1)
          have hB2 : Below w.heap.size w w2 := below_app hBf hg1' hBf.size hown (Nat.le_refl _)
          have HO : Hid (IsL w2 w2.heap.size .u8 v1 (ukB b n)) := by
            rw [← ints_append] at hown1
            show IsL _ _ _ _ _
            rw [← HB.out, HN.out]
            exact IsL.of_own' hown1 (by rw [List.length_append, HJL.out]; rfl)
          clear hown hown1
          go_wp2
          go_ret2
          exact ⟨hB2, _, rfl, HO.out⟩
        · rw [if_neg hcs, Option.map_some, addr_mk] at hcut
          go_wp2_with (at_builtin; refine wpL_append _ rfl (.tmp 93) (.tmp 96) _ rfl w.heap.size 5 i0 _ 1 1 Tryd.underlying22 hi0 hz0 hz1 hz2 rfl (by omega) _ P (ints .u8 (jn G n k)) rfl hown (some ⟨ad.block, ad.off + 4 + (n + 1) + S, none⟩) (b.length - 4 - (n + 1) - S) (c - 4 - (n + 1) - S) (ints .u8 (Fl.drop S)) rfl (by rw [ints_length, List.length_drop, HFL.out, Nat.mul_one]) hcut (ints_one _ _) (by unfold maxLen; omega) (by omega) hBf.size ?_; intro v1 w2 hown1 hg1' hat1)
          have hB2 : Below w.heap.size w w2 := below_app hBf hg1' hBf.size hown (Nat.le_refl _)
          have HO : Hid (IsL w2 w2.heap.size .u8 v1 (ukB b n)) := by
            rw [← ints_append] at hown1
            show IsL _ _ _ _ _
            rw [← HB.out]
            exact IsL.of_own' hown1 (by rw [List.length_append, HJL.out, List.length_drop, HFL.out])
          clear hown hown1
          go_wp2
          go_ret2
          exact ⟨hB2, _, rfl, HO.out⟩
end Go.Proofs.YtmoenbdooilceaaDoor
