/-
  Walk: the reference's unpacked, the packed rows.
-/
import Derived.Test.YtmoenbdooilceaaDoorPackL
import Derived.StillTactics
import Derived.OwnWalk
namespace Go.Proofs.YtmoenbdooilceaaDoor
open Go.RowKit By

theorem or_bit0 {R b : Nat} {B : Int} (hR : R < 2 ^ 63) (hB : B = ((b % 2 : Nat) : Int)) : bits .or .u64 ((R : Int) * 2) B = ((2 * R + b % 2 : Nat) : Int) := by
  subst hB
  have h := or_bit (b := b) hR rfl
  have e : IntKind.u64.wrap ((R : Int) * 2) = (R : Int) * 2 := by
    rw [show (R : Int) * 2 = ((2 * R : Nat) : Int) by omega]; exact wrap_u64 (by omega)
  rwa [e, wrap_u64 (by omega)] at h
theorem IsL.of_own64 {w : World} {base k : Nat} {v : Value} {l : List Nat} (h : w.ownsRow base 40 1 v k (ints .u64 l)) (hk : l.length = k) : IsL w w.heap.size .u64 v l := by
  subst hk; exact IsL.of_own h

set_option maxRecDepth 100000 in
set_option maxHeartbeats 4000000 in
theorem runpacked_far (A : Option Addr) (c n : Nat) (b : List Nat) (w : World) (h1 : 1 ≤ n) (h8 : n ≤ 8) (hl : Bytes b) (hc : b.length ≤ c) (hm : b.length ≤ 1048576) (h0 : ukN b ≠ 0) (hg2 : ukN b ≤ 1048576) (hg1 : n + 1 ≤ (b.drop 4).length) (hg3 : ukW b n ≤ 64) (hg4 : (ukF b n).length < ukS b n) (h : Rd w w.heap.size A (ints .u8 b)) :
    Calls Tryd.prog 54 #[.slice A b.length c, .int .i64 n] w fun e w' => Below w.heap.size w w' ∧ e = .returned (.tuple #[.slice none 0 0, .slice none 0 0, .bool false]) := by
  have hd4l : (b.drop 4).length = b.length - 4 := List.length_drop
  rw [hd4l] at hg1
  obtain ⟨ad, rfl, hab, _⟩ := h.int (j := 0) (by omega)
  obtain ⟨i0, hi0, hz0, hz1, hz2⟩ := info_parts Tryd.u64_info
  have hrd : Rd w w.heap.size (some ad) (ints .u8 (b.take 4)) := by
    have := h.sub 0 4
    rw [List.drop_zero] at this
    exact this
  have hdn : Rd w w.heap.size (some ⟨ad.block, ad.off + 4, none⟩) (ints .u8 ((b.drop 4).take n)) := h.sub 4 n
  obtain ⟨ad2, e2, _, hcell⟩ := h.int (j := 4 + n) (by omega)
  cases e2
  have hcF := h.cut (k := 5 + n) (cap := c) (by rw [ints_length]; omega)
  rw [← ints_drop] at hcF
  have hFe : b.drop (5 + n) = ukF b n := by unfold ukF; rw [List.drop_drop]; congr 1; omega
  rw [hFe] at hcF
  have hFb : Bytes (ukF b n) := (hl.drop _).drop _
  have hFl : (ukF b n).length = b.length - (5 + n) := by rw [← hFe, List.length_drop]
  have hNlt := ukN_lt hl
  have HG : Hid (gv (b.take 4) = ukN b) := rfl
  have HGM : Hid (gv ((b.drop 4).take n) = ukM b n) := rfl
  have hM64 : ukM b n < 2 ^ 64 := gv_lt64 (by rw [List.length_take]; omega) ((hl.drop _).take _)
  have hGW : ukW b n = b.getD (4 + n) 0 := by unfold ukW; simp [List.getD_eq_getElem?_getD]
  have HX : Hid (∀ j : Nat, IntKind.u64.wrap (((ukM b n : Nat) : Int) + ((rd (ukF b n) (j * ukW b n) (ukW b n) : Nat) : Int)) = ((ukG b n j : Nat) : Int)) := by
    intro j
    rw [add_u64]; rfl
  have HB : Hid ((ukF b n).drop (ukS b n) = ukR b n) := by
    show _ = _
    unfold ukR
    rw [if_neg h0]
  have HSd : Hid (ukS b n = (ukN b * ukW b n + 7) / 8) := rfl
  rw [← hGW] at hcell
  clear hFe hGW
  have t0 : ((ukN b : Int) == 0) = false := by rw [beq_eq_false_iff_ne]; omega
  generalize ukS b n = S at *
  generalize ukG b n = G at *
  generalize ukF b n = Fl at *
  generalize ukN b = k at *
  generalize ukM b n = m at *
  generalize ukW b n = W at *
  generalize ukR b n = R at *
  obtain ⟨y, hy⟩ : ∃ y, y = k * W := ⟨_, rfl⟩
  have hyb : y ≤ 67108864 := by rw [hy]; exact Nat.mul_le_mul hg2 hg3
  have hS : S = (y + 7) / 8 := by rw [hy]; exact HSd.out
  have hSb : y ≤ 8 * S ∧ S ≤ 8388609 := by omega
  have m0 : IntKind.i64.wrap ((k : Int) * (W : Int)) = (y : Int) := by rw [← Int.natCast_mul, ← hy]; exact IntWalk.i64_in _ (by omega)
  have m2 : ((y : Int) + 7) / 8 = (S : Int) := by omega
  have HM2 := Lib.hid m2
  have HY := Lib.hid hy
  clear hy hS HSd m2
  have z1 : IntKind.i64.wrap ((4 : Int) + (n : Int)) = ((4 + n : Nat) : Int) := IntWalk.i64_in _ (by omega)
  have z2 : IntKind.i64.wrap ((5 : Int) + (n : Int)) = ((5 + n : Nat) : Int) := IntWalk.i64_in _ (by omega)
  have r1 : 4 + n ≤ c := by omega
  have r2 : 4 ≤ 4 + n := by omega
  have r3 : 4 + n - 4 = n := by omega
  have q2 : ¬ c = 4 := by omega
  have r4 : 4 + n < b.length := by omega
  have w1 : IntKind.i64.wrap (W : Int) = (W : Int) := IntWalk.i64_in _ (by omega)
  have HFL := Lib.hid hFl
  rw [hFl] at hg4
  have m2 := HM2.out
  by_cases hq : c = 5 + n
  · have hS0 : 0 < S := by omega
    have Hb5 : Hid (b.length = 5 + n) := by show _ = _; omega
    have HQ := Lib.hid hq
    clear hq
    go_enter Tryd.func54, Tryd.ntmps54
    go_wp2_with fail
    refine (rread_any (some ad) c 4 (b.take 4) _ (by simp; omega) (by omega) (hl.take _) hrd).mono ?_
    rintro e w5 ⟨rfl, rfl⟩
    rw [HG.out]
    go_wp2
    have x1 : (4 : Int) + (n : Int) ≤ (c : Int) := by omega
    have x2 : (4 : Int) ≤ max ((4 : Int) + (n : Int)) 0 := by omega
    have x3 : ((4 : Int) + (n : Int)).toNat = 4 + n := by omega
    have x4 : (4 : Int) ≤ (4 : Int) + (n : Int) := by omega
    have x5 : 0 ≤ (4 : Int) + (n : Int) := by omega
    have x6 : (4 : Int) + (n : Int) < (b.length : Int) := by omega
    refine wp_region_still_lit (by kernel_rfl) (by kernel_rfl) ?_
    repeat still_step
    still_call (still (rread_any (some ⟨ad.block, ad.off + 4, none⟩) _ n ((b.drop 4).take n) _ (by rw [List.length_take, hd4l]; omega) h8 ((hl.drop _).take _) hdn))
    repeat still_step
    refine wpStill_nil ?_
    rw [HGM.out]
    have hq := HQ.out
    clear x1 x2 x3 x4 x5 x6
    go_wp2
    go_ret3
    exact ⟨(Below.refl _ _).drew, rfl⟩
  · rw [if_neg hq] at hcF
    go_enter Tryd.func54, Tryd.ntmps54
    go_wp2_with fail
    refine (rread_any (some ad) c 4 (b.take 4) _ (by simp; omega) (by omega) (hl.take _) hrd).mono ?_
    rintro e w5 ⟨rfl, rfl⟩
    rw [HG.out]
    go_wp2
    have x1 : (4 : Int) + (n : Int) ≤ (c : Int) := by omega
    have x2 : (4 : Int) ≤ max ((4 : Int) + (n : Int)) 0 := by omega
    have x3 : ((4 : Int) + (n : Int)).toNat = 4 + n := by omega
    have x4 : (4 : Int) ≤ (4 : Int) + (n : Int) := by omega
    have x5 : 0 ≤ (4 : Int) + (n : Int) := by omega
    have x6 : (4 : Int) + (n : Int) < (b.length : Int) := by omega
    refine wp_region_still_lit (by kernel_rfl) (by kernel_rfl) ?_
    repeat still_step
    still_call (still (rread_any (some ⟨ad.block, ad.off + 4, none⟩) _ n ((b.drop 4).take n) _ (by rw [List.length_take, hd4l]; omega) h8 ((hl.drop _).take _) hdn))
    repeat still_step
    refine wpStill_nil ?_
    rw [HGM.out]
    clear x1 x2 x3 x4 x5 x6
    go_wp2
    go_ret3
    exact ⟨(Below.refl _ _).drew, rfl⟩

set_option maxRecDepth 100000 in
set_option maxHeartbeats 4000000 in
theorem runpacked_good (A : Option Addr) (c n : Nat) (b : List Nat) (w : World) (h1 : 1 ≤ n) (h8 : n ≤ 8) (hl : Bytes b) (hc : b.length ≤ c) (hm : b.length ≤ 1048576) (h0 : ukN b ≠ 0) (hg2 : ukN b ≤ 1048576) (hg1 : n + 1 ≤ (b.drop 4).length) (hg3 : ukW b n ≤ 64) (hg4 : ukS b n ≤ (ukF b n).length) (h : Rd w w.heap.size A (ints .u8 b)) :
    Calls Tryd.prog 54 #[.slice A b.length c, .int .i64 n] w fun e w' => Below w.heap.size w w' ∧ ∃ v u, e = .returned (.tuple #[v, u, .bool true]) ∧ IsL w' w'.heap.size .u64 v (gs (ukG b n) (ukN b)) ∧ IsL w' w'.heap.size .u8 u (ukR b n) := by
  have hd4l : (b.drop 4).length = b.length - 4 := List.length_drop
  rw [hd4l] at hg1
  obtain ⟨ad, rfl, hab, _⟩ := h.int (j := 0) (by omega)
  obtain ⟨i0, hi0, hz0, hz1, hz2⟩ := info_parts Tryd.u64_info
  have hrd : Rd w w.heap.size (some ad) (ints .u8 (b.take 4)) := by
    have := h.sub 0 4
    rw [List.drop_zero] at this
    exact this
  have hdn : Rd w w.heap.size (some ⟨ad.block, ad.off + 4, none⟩) (ints .u8 ((b.drop 4).take n)) := h.sub 4 n
  obtain ⟨ad2, e2, _, hcell⟩ := h.int (j := 4 + n) (by omega)
  cases e2
  have hcF := h.cut (k := 5 + n) (cap := c) (by rw [ints_length]; omega)
  rw [← ints_drop] at hcF
  have hFe : b.drop (5 + n) = ukF b n := by unfold ukF; rw [List.drop_drop]; congr 1; omega
  rw [hFe] at hcF
  have hFb : Bytes (ukF b n) := (hl.drop _).drop _
  have hFl : (ukF b n).length = b.length - (5 + n) := by rw [← hFe, List.length_drop]
  have hNlt := ukN_lt hl
  have HG : Hid (gv (b.take 4) = ukN b) := rfl
  have HGM : Hid (gv ((b.drop 4).take n) = ukM b n) := rfl
  have hM64 : ukM b n < 2 ^ 64 := gv_lt64 (by rw [List.length_take]; omega) ((hl.drop _).take _)
  have hGW : ukW b n = b.getD (4 + n) 0 := by unfold ukW; simp [List.getD_eq_getElem?_getD]
  have HX : Hid (∀ j : Nat, IntKind.u64.wrap (((ukM b n : Nat) : Int) + ((rd (ukF b n) (j * ukW b n) (ukW b n) : Nat) : Int)) = ((ukG b n j : Nat) : Int)) := by
    intro j
    rw [add_u64]; rfl
  have HB : Hid ((ukF b n).drop (ukS b n) = ukR b n) := by
    show _ = _
    unfold ukR
    rw [if_neg h0]
  have HSd : Hid (ukS b n = (ukN b * ukW b n + 7) / 8) := rfl
  rw [← hGW] at hcell
  clear hFe hGW
  have t0 : ((ukN b : Int) == 0) = false := by rw [beq_eq_false_iff_ne]; omega
  generalize ukS b n = S at *
  generalize ukG b n = G at *
  generalize ukF b n = Fl at *
  generalize ukN b = k at *
  generalize ukM b n = m at *
  generalize ukW b n = W at *
  generalize ukR b n = R at *
  obtain ⟨y, hy⟩ : ∃ y, y = k * W := ⟨_, rfl⟩
  have hyb : y ≤ 67108864 := by rw [hy]; exact Nat.mul_le_mul hg2 hg3
  have hS : S = (y + 7) / 8 := by rw [hy]; exact HSd.out
  have hSb : y ≤ 8 * S ∧ S ≤ 8388609 := by omega
  have m0 : IntKind.i64.wrap ((k : Int) * (W : Int)) = (y : Int) := by rw [← Int.natCast_mul, ← hy]; exact IntWalk.i64_in _ (by omega)
  have m2 : ((y : Int) + 7) / 8 = (S : Int) := by omega
  have HM2 := Lib.hid m2
  have HY := Lib.hid hy
  clear hy hS HSd m2
  have z1 : IntKind.i64.wrap ((4 : Int) + (n : Int)) = ((4 + n : Nat) : Int) := IntWalk.i64_in _ (by omega)
  have z2 : IntKind.i64.wrap ((5 : Int) + (n : Int)) = ((5 + n : Nat) : Int) := IntWalk.i64_in _ (by omega)
  have r1 : 4 + n ≤ c := by omega
  have r2 : 4 ≤ 4 + n := by omega
  have r3 : 4 + n - 4 = n := by omega
  have q2 : ¬ c = 4 := by omega
  have r4 : 4 + n < b.length := by omega
  have w1 : IntKind.i64.wrap (W : Int) = (W : Int) := IntWalk.i64_in _ (by omega)
  have HFL := Lib.hid hFl
  rw [hFl] at hg4
  by_cases hq : c = 5 + n
  · rw [if_pos hq] at hcF
    have Hb5 : Hid (b.length = 5 + n) := by show _ = _; omega
    have HQ := Lib.hid hq
    clear hq
    obtain rfl : S = 0 := by have := Hb5.out; omega
    have m3 : ((y : Int) + 7) / 8 = 0 := HM2.out
    have HM2 := Lib.hid m3
    clear m3
    have HN : Hid (Fl.drop 0 = []) := List.drop_eq_nil_of_le (by have := Hb5.out; omega)
    go_enter Tryd.func54, Tryd.ntmps54
    go_wp2_with fail
    refine (rread_any (some ad) c 4 (b.take 4) _ (by simp; omega) (by omega) (hl.take _) hrd).mono ?_
    rintro e w5 ⟨rfl, rfl⟩
    rw [HG.out]
    go_wp2
    have x1 : (4 : Int) + (n : Int) ≤ (c : Int) := by omega
    have x2 : (4 : Int) ≤ max ((4 : Int) + (n : Int)) 0 := by omega
    have x3 : ((4 : Int) + (n : Int)).toNat = 4 + n := by omega
    have x4 : (4 : Int) ≤ (4 : Int) + (n : Int) := by omega
    have x5 : 0 ≤ (4 : Int) + (n : Int) := by omega
    have x6 : (4 : Int) + (n : Int) < (b.length : Int) := by omega
    refine wp_region_still_lit (by kernel_rfl) (by kernel_rfl) ?_
    repeat still_step
    still_call (still (rread_any (some ⟨ad.block, ad.off + 4, none⟩) _ n ((b.drop 4).take n) _ (by rw [List.length_take, hd4l]; omega) h8 ((hl.drop _).take _) hdn))
    repeat still_step
    refine wpStill_nil ?_
    rw [HGM.out]
    have hq := HQ.out
    clear x1 x2 x3 x4 x5 x6
    go_wp2
    clear m0 hcell z1 z2
    go_loopw [12, 13] (fun v i wr => ∃ j : Nat, j ≤ k ∧ i = .int .i64 j ∧ wr.ownsRow w.heap.size 40 1 v j (ints .u64 (gs G j)) ∧ Below w.heap.size w wr) (fun _ i _ => k - (intOf i).toNat)
    case atStart => exact ⟨0, Nat.zero_le _, rfl, World.ownsRow_nil _ _ _ _, (Below.refl _ _).drew⟩
    case round =>
      obtain ⟨j, hj, rfl, hown, hBf⟩ := hrel
      by_cases hlt : j < k
      · have hjW : j * W + W ≤ y := by rw [HY.out, ← Nat.succ_mul]; exact Nat.mul_le_mul_right _ hlt
        have HXj := HX.out j
        obtain ⟨q, hq'⟩ : ∃ q, q = j * W := ⟨_, rfl⟩
        have mq : IntKind.i64.wrap ((j : Int) * (W : Int)) = (q : Int) := by rw [← Int.natCast_mul, ← hq']; exact IntWalk.i64_in _ (by omega)
        rw [← hq'] at hjW HXj
        have HXj' := Lib.hid HXj
        have hFr := hcF.below hBf
        have Hown := Lib.hid hown
        clear hq' HXj
        go_wp2
        go_loop [14, 15] (fun x i => ∃ t : Nat, t ≤ W ∧ i = .int .i64 t ∧ x = .int .u64 ((rd Fl q t : Nat) : Int)) (fun _ i => W - (intOf i).toNat)
        case atStart => exact ⟨0, Nat.zero_le _, rfl, rfl⟩
        case round =>
          obtain ⟨t, ht, rfl, rfl⟩ := hrel
          by_cases hlt2 : t < W
          · have hR := rd_lt Fl q t
            have HN : Hid (rd Fl q (t + 1) = 2 * rd Fl q t + bt Fl (q + t)) := rfl
            obtain ⟨p, hp⟩ : ∃ p, p = q + t := ⟨_, rfl⟩
            rw [← hp] at HN
            obtain ⟨ad3, e3, hab3, hcell⟩ := hFr.int (j := p / 8) (by rw [hFl]; omega)
            cases e3
            have hx := hFb.at_ (p / 8)
            have HBt : Hid (bt Fl p = Fl.getD (p / 8) 0 / 2 ^ (7 - p % 8) % 2) := rfl
            generalize Fl.getD (p / 8) 0 = x at *
            have y0 : IntKind.i64.wrap ((q : Int) + (t : Int)) = (p : Int) := by rw [show (q : Int) + t = (p : Int) by omega]; exact IntWalk.i64_in _ (by omega)
            have y1 : IntKind.i64.wrap ((p : Int) / 8) = (p : Int) / 8 := IntWalk.i64_in _ (by omega)
            have y2 : ((p : Int) / 8).toNat = p / 8 := by omega
            have y3 : 0 ≤ (p : Int) / 8 := by omega
            have y4 : (p : Int) / 8 < (b.length - (5 + n)) := by omega
            obtain ⟨s, hs⟩ : ∃ s, s = 7 - p % 8 := ⟨_, rfl⟩
            rw [← hs] at HBt
            have y5 : (7 : Int) - (p : Int).tmod 8 = (s : Int) := by rw [Int.tmod_eq_emod_of_nonneg (by omega)]; omega
            have y6 : (s : Int) ≤ 8 := by omega
            have y7 : 0 ≤ (s : Int) := by omega
            have HPp := Lib.hid hp
            have HSs := Lib.hid hs
            clear hp hs
            go_wp2
            go_round
            case rel =>
              refine ⟨t + 1, by omega, by go_num, ?_⟩
              have hR2 : rd Fl q t < 2 ^ 63 := Nat.lt_of_lt_of_le hR (Nat.pow_le_pow_right (by decide) (by omega))
              rw [HN.out, HBt.out, HSs.out]
              first
                | rw [or_bit hR2 (bit_u8 hx)]
                | rw [or_bit0 hR2 (bit_u8 hx)]
            case measure => simp [intOf]; omega
          · have htW : t = W := by omega
            subst t
            have hR64 : rd Fl q W < 2 ^ 64 := Nat.lt_of_lt_of_le (rd_lt Fl q W) (Nat.pow_le_pow_right (by decide) hg3)
            go_wp2_with (at_builtin; refine wpL_append _ rfl (.tmp 98) (.tmp 102) _ rfl w.heap.size 40 i0 _ 1 8 Tryd.underlying45 hi0 hz0 hz1 hz2 rfl (by omega) _ j (ints .u64 (gs G j)) rfl (Hown.out.alloc _) (some ⟨wr.heap.size, 0, none⟩) 1 1 [.int .u64 (IntKind.u64.wrap ((m : Int) + ((rd Fl q W : Nat) : Int)))] rfl rfl (Rd.of_new wr [.int .u64 (IntKind.u64.wrap ((m : Int) + ((rd Fl q W : Nat) : Int)))] 40) (by intro u hu; simp at hu; subst hu; rfl) (by unfold maxLen; omega) (by omega) (by have := hBf.size; simp; omega) ?_; intro v1 w1 hown1 hg1' hat1)
            have HO : Hid (w1.ownsRow w.heap.size 40 1 v1 (j + 1) (ints .u64 (gs G (j + 1)))) := by
              show World.ownsRow _ _ _ _ _ _ _
              rw [gs_succ, ints_append]
              rw [HXj'.out] at hown1
              exact hown1
            have hB1 : Below w.heap.size w w1 := below_app (hBf.alloc hBf.size _) hg1' (by have := hBf.size; simp; omega) (Hown.out.alloc _) (Nat.le_refl _)
            clear hown1 hown hR64
            go_wp2
            go_roundw
            case rel => exact ⟨j + 1, by omega, by go_num, HO.out, hB1⟩
            case measure => simp [intOf]; omega
      · have hjk : j = k := by omega
        subst j
        have hFr := hcF.below hBf
        have HV := Lib.hid (IsL.of_own64 hown (gs_len _ _))
        have m2 := HM2.out
        clear hown
        have HU : Hid (IsL wr wr.heap.size .u8 (.slice (some ad) (b.length - (5 + n)) 0) R) := by
          show IsL _ _ _ _ _
          rw [← HB.out, HN.out, show b.length - (5 + n) = 0 by have := Hb5.out; omega]
          exact ⟨_, _, rfl, Nat.le_refl _, fun hn => absurd rfl hn⟩
        go_wp2
        refine wp_region_still_lit (by kernel_rfl) (by kernel_rfl) ?_
        repeat still_step
        refine wpStill_nil ?_
        go_wp2
        go_ret3
        exact ⟨hBf.drew, _, _, rfl, HV.out, HU.out⟩
  · rw [if_neg hq, Option.map_some] at hcF
    have q5 : ¬ c - (5 + n) = 0 := by omega
    go_enter Tryd.func54, Tryd.ntmps54
    go_wp2_with fail
    refine (rread_any (some ad) c 4 (b.take 4) _ (by simp; omega) (by omega) (hl.take _) hrd).mono ?_
    rintro e w5 ⟨rfl, rfl⟩
    rw [HG.out]
    go_wp2
    have x1 : (4 : Int) + (n : Int) ≤ (c : Int) := by omega
    have x2 : (4 : Int) ≤ max ((4 : Int) + (n : Int)) 0 := by omega
    have x3 : ((4 : Int) + (n : Int)).toNat = 4 + n := by omega
    have x4 : (4 : Int) ≤ (4 : Int) + (n : Int) := by omega
    have x5 : 0 ≤ (4 : Int) + (n : Int) := by omega
    have x6 : (4 : Int) + (n : Int) < (b.length : Int) := by omega
    refine wp_region_still_lit (by kernel_rfl) (by kernel_rfl) ?_
    repeat still_step
    still_call (still (rread_any (some ⟨ad.block, ad.off + 4, none⟩) _ n ((b.drop 4).take n) _ (by rw [List.length_take, hd4l]; omega) h8 ((hl.drop _).take _) hdn))
    repeat still_step
    refine wpStill_nil ?_
    rw [HGM.out]
    clear x1 x2 x3 x4 x5 x6
    go_wp2
    clear m0 hcell z1 z2
    go_loopw [12, 13] (fun v i wr => ∃ j : Nat, j ≤ k ∧ i = .int .i64 j ∧ wr.ownsRow w.heap.size 40 1 v j (ints .u64 (gs G j)) ∧ Below w.heap.size w wr) (fun _ i _ => k - (intOf i).toNat)
    case atStart => exact ⟨0, Nat.zero_le _, rfl, World.ownsRow_nil _ _ _ _, (Below.refl _ _).drew⟩
    case round =>
      obtain ⟨j, hj, rfl, hown, hBf⟩ := hrel
      by_cases hlt : j < k
      · have hjW : j * W + W ≤ y := by rw [HY.out, ← Nat.succ_mul]; exact Nat.mul_le_mul_right _ hlt
        have HXj := HX.out j
        obtain ⟨q, hq'⟩ : ∃ q, q = j * W := ⟨_, rfl⟩
        have mq : IntKind.i64.wrap ((j : Int) * (W : Int)) = (q : Int) := by rw [← Int.natCast_mul, ← hq']; exact IntWalk.i64_in _ (by omega)
        rw [← hq'] at hjW HXj
        have HXj' := Lib.hid HXj
        have hFr := hcF.below hBf
        have Hown := Lib.hid hown
        clear hq' HXj
        go_wp2
        go_loop [14, 15] (fun x i => ∃ t : Nat, t ≤ W ∧ i = .int .i64 t ∧ x = .int .u64 ((rd Fl q t : Nat) : Int)) (fun _ i => W - (intOf i).toNat)
        case atStart => exact ⟨0, Nat.zero_le _, rfl, rfl⟩
        case round =>
          obtain ⟨t, ht, rfl, rfl⟩ := hrel
          by_cases hlt2 : t < W
          · have hR := rd_lt Fl q t
            have HN : Hid (rd Fl q (t + 1) = 2 * rd Fl q t + bt Fl (q + t)) := rfl
            obtain ⟨p, hp⟩ : ∃ p, p = q + t := ⟨_, rfl⟩
            rw [← hp] at HN
            obtain ⟨ad3, e3, hab3, hcell⟩ := hFr.int (j := p / 8) (by rw [hFl]; omega)
            cases e3
            have hx := hFb.at_ (p / 8)
            have HBt : Hid (bt Fl p = Fl.getD (p / 8) 0 / 2 ^ (7 - p % 8) % 2) := rfl
            generalize Fl.getD (p / 8) 0 = x at *
            have y0 : IntKind.i64.wrap ((q : Int) + (t : Int)) = (p : Int) := by rw [show (q : Int) + t = (p : Int) by omega]; exact IntWalk.i64_in _ (by omega)
            have y1 : IntKind.i64.wrap ((p : Int) / 8) = (p : Int) / 8 := IntWalk.i64_in _ (by omega)
            have y2 : ((p : Int) / 8).toNat = p / 8 := by omega
            have y3 : 0 ≤ (p : Int) / 8 := by omega
            have y4 : (p : Int) / 8 < (b.length - (5 + n)) := by omega
            obtain ⟨s, hs⟩ : ∃ s, s = 7 - p % 8 := ⟨_, rfl⟩
            rw [← hs] at HBt
            have y5 : (7 : Int) - (p : Int).tmod 8 = (s : Int) := by rw [Int.tmod_eq_emod_of_nonneg (by omega)]; omega
            have y6 : (s : Int) ≤ 8 := by omega
            have y7 : 0 ≤ (s : Int) := by omega
            have HPp := Lib.hid hp
            have HSs := Lib.hid hs
            clear hp hs
            go_wp2
            go_round
            case rel =>
              refine ⟨t + 1, by omega, by go_num, ?_⟩
              have hR2 : rd Fl q t < 2 ^ 63 := Nat.lt_of_lt_of_le hR (Nat.pow_le_pow_right (by decide) (by omega))
              rw [HN.out, HBt.out, HSs.out]
              first
                | rw [or_bit hR2 (bit_u8 hx)]
                | rw [or_bit0 hR2 (bit_u8 hx)]
            case measure => simp [intOf]; omega
          · have htW : t = W := by omega
            subst t
            have hR64 : rd Fl q W < 2 ^ 64 := Nat.lt_of_lt_of_le (rd_lt Fl q W) (Nat.pow_le_pow_right (by decide) hg3)
            go_wp2_with (at_builtin; refine wpL_append _ rfl (.tmp 98) (.tmp 102) _ rfl w.heap.size 40 i0 _ 1 8 Tryd.underlying45 hi0 hz0 hz1 hz2 rfl (by omega) _ j (ints .u64 (gs G j)) rfl (Hown.out.alloc _) (some ⟨wr.heap.size, 0, none⟩) 1 1 [.int .u64 (IntKind.u64.wrap ((m : Int) + ((rd Fl q W : Nat) : Int)))] rfl rfl (Rd.of_new wr [.int .u64 (IntKind.u64.wrap ((m : Int) + ((rd Fl q W : Nat) : Int)))] 40) (by intro u hu; simp at hu; subst hu; rfl) (by unfold maxLen; omega) (by omega) (by have := hBf.size; simp; omega) ?_; intro v1 w1 hown1 hg1' hat1)
            have HO : Hid (w1.ownsRow w.heap.size 40 1 v1 (j + 1) (ints .u64 (gs G (j + 1)))) := by
              show World.ownsRow _ _ _ _ _ _ _
              rw [gs_succ, ints_append]
              rw [HXj'.out] at hown1
              exact hown1
            have hB1 : Below w.heap.size w w1 := below_app (hBf.alloc hBf.size _) hg1' (by have := hBf.size; simp; omega) (Hown.out.alloc _) (Nat.le_refl _)
            clear hown1 hown hR64
            go_wp2
            go_roundw
            case rel => exact ⟨j + 1, by omega, by go_num, HO.out, hB1⟩
            case measure => simp [intOf]; omega
      · have hjk : j = k := by omega
        subst j
        have hFr := hcF.below hBf
        have HV := Lib.hid (IsL.of_own64 hown (gs_len _ _))
        have m2 := HM2.out
        clear hown
        have hcut := hFr.cut (k := S) (cap := c - (5 + n)) (by rw [ints_length]; omega)
        rw [← ints_drop] at hcut
        by_cases hcs : c - (5 + n) = S
        · have hbs : b.length - (5 + n) = S := by omega
          have HU : Hid (IsL wr wr.heap.size .u8 (.slice (some (ad.add (5 + n))) 0 0) R) := by
            show IsL _ _ _ _ _
            rw [← HB.out, List.drop_eq_nil_of_le (by rw [HFL.out]; omega)]
            exact ⟨_, _, rfl, Nat.le_refl _, fun hn => absurd rfl hn⟩
          go_wp2
          refine wp_region_still_lit (by kernel_rfl) (by kernel_rfl) ?_
          repeat still_step
          refine wpStill_nil ?_
          go_wp2
          go_ret3
          exact ⟨hBf.drew, _, _, rfl, HV.out, HU.out⟩
        · rw [if_neg hcs, Option.map_some] at hcut
          have HU : Hid (IsL wr wr.heap.size .u8 (.slice (some ((ad.add (5 + n)).add S)) (b.length - (5 + n) - S) (c - (5 + n) - S)) R) := by
            show IsL _ _ _ _ _
            rw [← HB.out]
            exact ⟨_, _, by rw [List.length_drop, HFL.out], by rw [List.length_drop, HFL.out]; omega, hcut.more hBf.size⟩
          go_wp2
          refine wp_region_still_lit (by kernel_rfl) (by kernel_rfl) ?_
          repeat still_step
          refine wpStill_nil ?_
          go_wp2
          go_ret3
          exact ⟨hBf.drew, _, _, rfl, HV.out, HU.out⟩
end Go.Proofs.YtmoenbdooilceaaDoor
