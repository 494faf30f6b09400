/-
  Walk: the reference's packed.
-/
import Derived.Test.YtmoenbdooilceaaDoorPackC
namespace Go.Proofs.YtmoenbdooilceaaDoor
open Go.RowKit By

theorem rnumber4 (X : Nat) (w : World) (hX : X < 2 ^ 64) :
    Calls Tryd.prog 60 #[.int .u64 (X : Int), .int .i64 4] w fun e w' => Below w.heap.size w w' ∧ ∃ v, e = .returned v ∧ w'.ownsRow w.heap.size 5 1 v 4 (ints .u8 (gb 4 X)) := rnumber_any 4 X w (by omega) hX

theorem rnumber4z (w : World) :
    Calls Tryd.prog 60 #[.int .u64 0, .int .i64 4] w fun e w' => Below w.heap.size w w' ∧ ∃ v, e = .returned v ∧ w'.ownsRow w.heap.size 5 1 v 4 (ints .u8 (gb 4 0)) := rnumber_any 4 0 w (by omega) (by omega)

theorem low_bit (X d : Nat) : bits .and .u8 ((X : Int) / 2 ^ d % 256) 1 = ((X / 2 ^ d % 2 : Nat) : Int) := by
  have e : ((X / 2 ^ d : Nat) : Int) = (X : Int) / 2 ^ d := by simp
  rw [← e]
  generalize X / 2 ^ d = y
  have e2 : (y : Int) % 256 = ((y % 256 : Nat) : Int) := by omega
  rw [e2, and1_u8 (by omega)]
  omega
theorem wd_le {g : Nat → Nat} {m : Nat} (h : ∀ i, g i < 2 ^ 64) : ∀ j, wd g m j ≤ 64
  | 0 => Nat.zero_le _
  | j + 1 => by
    show max (wd g m j) (bl (g j - m)) ≤ 64
    have h1 := wd_le (m := m) h j
    have h2 : bl (g j - m) ≤ 64 := bl_le.2 (Nat.lt_of_le_of_lt (Nat.sub_le _ _) (h j))
    omega
theorem own_rd {w : World} {base n c : Nat} {A : Option Addr} {l : List Nat} (h : w.ownsRow base 5 1 (.slice A n c) n (ints .u8 l)) (hl : l.length = n := by simp [gb_len]) : Rd w w.heap.size A (ints .u8 l) := by
  subst hl
  obtain ⟨A', c', e, _, h2⟩ := IsL.of_own h
  cases e; exact h2
theorem IsL.of_own' {w : World} {base k : Nat} {v : Value} {l : List Nat} (h : w.ownsRow base 5 1 v k (ints .u8 l)) (hk : l.length = k) : IsL w w.heap.size .u8 v l := by
  subst hk; exact IsL.of_own h

set_option maxRecDepth 100000 in
set_option maxHeartbeats 800000 in
theorem rpacked_any (A A2 : Option Addr) (c c2 n : Nat) (ds r : List Nat) (w : World) (h1 : 1 ≤ n) (h8 : n ≤ 8) (hd : ∀ j, el ds j < 2 ^ 64) (hm : ds.length ≤ 1048576) (hm2 : r.length ≤ 1048576)
    (h : Rd w w.heap.size A (ints .u64 ds)) (hr : Rd w w.heap.size A2 (ints .u8 r)) :
    Calls Tryd.prog 51 #[.slice A ds.length c, .int .i64 n, .slice A2 r.length c2] w fun e w' => Below w.heap.size w w' ∧ ∃ v, e = .returned v ∧ IsL w' w'.heap.size .u8 v (packB (el ds) ds.length n r) := by
  obtain ⟨i0, hi0, hz0, hz1, hz2⟩ := info_parts Tryd.u8_info
  by_cases h0 : ds.length = 0
  · have HE : Hid (packB (el ds) ds.length n r = gb 4 0 ++ r) := by show _ = _; rw [h0, packB_zero]
    rw [HE.out]
    generalize ds.length = k at *
    subst h0
    go_enter Tryd.func51, Tryd.ntmps51
    go_wp2_with fail
    refine (rnumber4z _).mono ?_
    rintro e w1 ⟨hb1, u, rfl, hu⟩
    obtain ⟨A', c', rfl, hc'⟩ := own_slice hu
    go_wp2_with (at_builtin; refine wpL_append _ rfl (.tmp 23) (.tmp 24) _ rfl w.heap.size 5 i0 _ 1 1 Tryd.underlying22 hi0 hz0 hz1 hz2 rfl (by omega) _ 4 (ints .u8 (gb 4 0)) rfl hu A2 r.length c2 (ints .u8 r) rfl (by rw [ints_length, Nat.mul_one]) ((hr.below hb1).more hb1.size) (ints_one _ _) (by unfold maxLen; omega) (by omega) hb1.size ?_; intro v1 w2 hown1 hg1 hat1)
    have hB2 : Below w.heap.size w w2 := below_app hb1 hg1 hb1.size hu (Nat.le_refl _)
    rw [← ints_append] at hown1
    have HO : Hid (IsL w2 w2.heap.size .u8 v1 (gb 4 0 ++ r)) := IsL.of_own' hown1 (by simp [gb_len])
    clear hown1 hu hg1 hat1
    go_wp2
    go_ret
    exact ⟨hB2, _, rfl, HO.out⟩
  · have t1 : ((ds.length : Int) == 0) = false := by rw [beq_eq_false_iff_ne]; omega
    go_enter Tryd.func51, Tryd.ntmps51
    go_wp2_with fail
    refine (rnumber4 ds.length _ (by omega)).mono ?_
    rintro e w1 ⟨hb1, u, rfl, hu⟩
    obtain ⟨A', c', rfl, hc'⟩ := own_slice hu
    have hA1 := (h.below hb1).more hb1.size
    go_wp2_with fail
    refine (rleast_any A c ds.length ds _ rfl (by omega) (by omega) hA1).mono ?_
    rintro e w5 ⟨rfl, rfl⟩
    obtain ⟨m, hmm⟩ : ∃ m, m = lo (el ds) ds.length := ⟨_, rfl⟩
    have HM := Lib.hid hmm
    rw [← hmm]
    clear hmm
    go_wp2
    go_loopw [9, 10] (fun x i wr => ∃ j : Nat, j ≤ ds.length ∧ i = .int .i64 j ∧ x = .int .i64 ((wd (el ds) m j : Nat) : Int) ∧ Below w1.heap.size w1 wr) (fun _ i _ => ds.length - (intOf i).toNat)
    case atStart => exact ⟨0, Nat.zero_le _, rfl, rfl, Below.refl _ _⟩
    case round =>
      obtain ⟨j, hj, rfl, rfl, hB⟩ := hrel
      by_cases hlt : j < ds.length
      · obtain ⟨ad, rfl, hab, hcell⟩ := (hA1.below hB).int (j := j) hlt
        have HN : Hid (wd (el ds) m (j + 1) = max (wd (el ds) m j) (bl (ds.getD j 0 - m))) := rfl
        have hxm : m ≤ ds.getD j 0 := by have := HM.out; rw [this]; exact lo_le (el ds) hlt
        have hx := hd j
        rw [show el ds j = ds.getD j 0 from rfl] at hx
        have hwd : wd (el ds) m j ≤ 64 := wd_le hd j
        generalize ds.getD j 0 = x at *
        generalize wd (el ds) m j = W at *
        have s1 : IntKind.u64.wrap ((x : Int) - (m : Int)) = ((x - m : Nat) : Int) := by rw [show (x : Int) - m = ((x - m : Nat) : Int) by omega]; exact wrap_u64 (by omega)
        go_wp2_with fail
        refine (rbits_any (x - m) _ (by omega)).mono ?_
        rintro e w5 ⟨rfl, rfl⟩
        have hbl : bl (x - m) ≤ 64 := bl_le.2 (by omega)
        generalize bl (x - m) = bb at *
        go_wp2
        go_roundw
        case rel => exact ⟨j + 1, by omega, by go_num, by rw [HN.out]; congr 1; split <;> omega, hB⟩
        case measure => simp [intOf]; omega
      · obtain rfl : j = ds.length := by omega
        obtain ⟨W, hW⟩ : ∃ W, W = wd (el ds) m ds.length := ⟨_, rfl⟩
        have hwd : W ≤ 64 := by rw [hW]; exact wd_le hd _
        have HW : Hid (W = packW (el ds) ds.length) := by show _ = _; rw [hW, wd_eq _ _ _ (by omega), HM.out]; rfl
        have hm64 : m < 2 ^ 64 := by rw [HM.out]; exact lo_lt (by omega) (fun i _ => hd i)
        rw [← hW]
        clear hW
        have hu1 := own_next hu hB
        have hBw : Below w.heap.size w wr := hb1.trans (hB.mono hb1.size)
        go_wp2_with fail
        refine (rnumber_any n m _ h8 hm64).mono ?_
        rintro e w2 ⟨hb2, v2, rfl, hv2⟩
        obtain ⟨A3, c3, rfl, hc3⟩ := own_slice hv2
        have hu2 := own_next hu1 hb2
        have hB2 := hBw.trans (hb2.mono hBw.size)
        have hl2 : Rd w2 w2.heap.size A3 (ints .u8 (gb n m)) := own_rd hv2
        obtain ⟨y, hy⟩ : ∃ y, y = ds.length * W := ⟨_, rfl⟩
        have hyb : y ≤ 67108864 := by rw [hy]; exact Nat.mul_le_mul hm hwd
        obtain ⟨S, hS⟩ : ∃ S, S = (y + 7) / 8 := ⟨_, rfl⟩
        have hSb : y ≤ 8 * S ∧ S ≤ 8388609 := by omega
        have m0 : IntKind.i64.wrap ((ds.length : Int) * (W : Int)) = (y : Int) := by rw [← Int.natCast_mul, ← hy]; exact IntWalk.i64_in _ (by omega)
        have m2 : ((y : Int) + 7) / 8 = (S : Int) := by omega
        have hmk := make_ints (P := Tryd.prog) 22 5 i0 .u8 Tryd.underlying22 hi0 hz0 hz1 (by omega) .i64 .i64 S (S : Int) rfl (by omega)
        have HY := Lib.hid hy
        have HS := Lib.hid hS
        clear hy hS
        have s3 : IntKind.u8.wrap (W : Int) = (W : Int) := wrap_u8 (by omega)
        go_wp2_with (at_builtin; first
          | (refine wpL_append _ rfl (.tmp 43) (.tmp 46) _ rfl w.heap.size 5 i0 _ 1 1 Tryd.underlying22 hi0 hz0 hz1 hz2 rfl (by omega) _ 4 (ints .u8 (gb 4 ds.length)) rfl hu2 A3 n c3 (ints .u8 (gb n m)) rfl (by rw [ints_length, gb_len, Nat.mul_one]) hl2 (ints_one _ _) (by unfold maxLen; omega) (by omega) hB2.size ?_; intro v3 w3 hown3 hg3 hat3; obtain ⟨A4, c4, rfl, hc4⟩ := own_slice hown3; have hB3 : Below w.heap.size w w3 := below_app hB2 hg3 hB2.size hu2 (Nat.le_refl _); rw [← ints_append] at hown3; clear hg3 hat3 hu2)
          | (refine wpL_append _ rfl (.tmp 48) (.tmp 51) _ rfl w.heap.size 5 i0 _ 1 1 Tryd.underlying22 hi0 hz0 hz1 hz2 rfl (by omega) _ (4 + n) (ints .u8 (gb 4 ds.length ++ gb n m)) rfl (hown3.alloc _) (some ⟨w3.heap.size, 0, none⟩) 1 1 [.int .u8 (W : Int)] rfl rfl (Rd.of_new w3 [.int .u8 (W : Int)] 5) (by intro u hu; simp at hu; subst hu; rfl) (by unfold maxLen; omega) (by omega) (by have := hB3.size; simp; omega) ?_; intro v4 w4 hown4 hg4 hat4; obtain ⟨A5, c5, rfl, hc5⟩ := own_slice hown4; have hB4 : Below w.heap.size w w4 := below_app (hB3.alloc hB3.size _) hg4 (by have := hB3.size; simp; omega) (hown3.alloc _) (Nat.le_refl _); have hO4 : w4.ownsRow w.heap.size 5 1 (.slice A5 (4 + n + 1) c5) (4 + n + 1) (ints .u8 (gb 4 ds.length ++ gb n m ++ [W])) := (by rw [ints_append]; exact hown4); clear hg4 hat4 hown4 hown3))
        have hrow0 : Row (w4.alloc (.cells (ints .u8 (List.replicate S 0)).toArray 5)) w4.heap.size 5 .u8 (fld (fun i => el ds i - m) W S (0 * W)) := by
          rw [Nat.zero_mul]; exact Row.of_bk (Bk.new w4 5 (ints .u8 (List.replicate S 0)).toArray)
        have hb0 : Below w4.heap.size w4 (w4.alloc (.cells (ints .u8 (List.replicate S 0)).toArray 5)) := (Below.refl _ _).alloc (Nat.le_refl _) _
        clear hmk m0 m2 s3
        go_loopw [12] (fun i wr => ∃ j : Nat, j ≤ ds.length ∧ i = .int .i64 j ∧ Hid (Row wr w4.heap.size 5 .u8 (fld (fun i => el ds i - m) W S (j * W))) ∧ Below w4.heap.size w4 wr) (fun i _ => ds.length - (intOf i).toNat)
        case atStart => exact ⟨0, Nat.zero_le _, rfl, hrow0, hb0⟩
        case round =>
          clear hrow0 hb0
          obtain ⟨j, hj, rfl, HR, hBf⟩ := hrel
          by_cases hlt : j < ds.length
          · have hBw2 := hB4.trans (hBf.mono hB4.size)
            obtain ⟨ad, rfl, hab, hcell⟩ := (h.below hBw2).int (j := j) hlt
            have hjW : j * W + W ≤ y := by rw [HY.out, ← Nat.succ_mul]; exact Nat.mul_le_mul_right _ hlt
            obtain ⟨q, hq⟩ : ∃ q, q = j * W := ⟨_, rfl⟩
            have hxm : m ≤ ds.getD j 0 := by have := HM.out; rw [this]; exact lo_le (el ds) hlt
            have hx := hd j
            have HX : Hid (el ds j - m = ds.getD j 0 - m) := rfl
            rw [show el ds j = ds.getD j 0 from rfl] at hx
            generalize hxe0 : ds.getD j 0 = x at *
            have hxe := Lib.hid hxe0
            clear hxe0
            have m3 : IntKind.i64.wrap ((j : Int) * (W : Int)) = (q : Int) := by rw [← Int.natCast_mul, ← hq]; exact IntWalk.i64_in _ (by omega)
            have HXX : Hid (∀ t, t < W → fld (fun i => el ds i - m) W S (q + (t + 1)) = put1 (fld (fun i => el ds i - m) W S (q + t)) (q + t) (nb (x - m) W t)) := by
              intro t ht
              show put1 _ _ _ = _
              have hd1 : (q + t) / W = j := by rw [hq, Nat.mul_comm, Nat.mul_add_div (by omega), Nat.div_eq_of_lt ht, Nat.add_zero]
              have hm1 : (q + t) % W = t := by rw [hq, Nat.mul_comm, Nat.mul_add_mod, Nat.mod_eq_of_lt ht]
              show put1 _ (q + t) (nb (el ds ((q + t) / W) - m) W ((q + t) % W)) = _
              rw [hd1, hm1, HX.out]; rfl
            have HNX : Hid ((j + 1) * W = q + W) := by show _ = _; rw [Nat.succ_mul, hq]
            rw [← hq] at HR hjW
            have HQ := Lib.hid hq
            clear hq hcell HX
            generalize hF : fld (fun i => el ds i - m) W S = Fl at *
            have hFl : ∀ t, (Fl t).length = S := fun t => by rw [← hF]; exact fld_len _ _ _ t
            have hFb : ∀ t, Bytes (Fl t) := fun t => by rw [← hF]; exact fld_bytes _ _ _ t
            clear hF
            have HFl := Lib.hid hFl
            have HFb := Lib.hid hFb
            clear hFl hFb
            have s1 : IntKind.u64.wrap ((x : Int) - (m : Int)) = ((x - m : Nat) : Int) := by rw [show (x : Int) - m = ((x - m : Nat) : Int) by omega]; exact wrap_u64 (by omega)
            have hX : x - m < 2 ^ 64 := by omega
            have hrd : Hid (Rd w w.heap.size (some ad) (ints .u64 ds)) := h
            go_wp2
            go_loopw [13] (fun i wr => ∃ t : Nat, t ≤ W ∧ i = .int .i64 t ∧ Hid (Row wr w4.heap.size 5 .u8 (Fl (q + t))) ∧ Below w4.heap.size w4 wr) (fun i _ => W - (intOf i).toNat)
            case atStart => exact ⟨0, Nat.zero_le _, rfl, HR, hBf⟩
            case round =>
              clear HR hBf hBw2
              obtain ⟨t, ht, rfl, HR, hBf⟩ := hrel
              by_cases hlt2 : t < W
              · obtain ⟨ad2, e2, hab2, hcell2⟩ := (hrd.out.below (hB4.trans (hBf.mono hB4.size))).int (j := j) hlt
                cases e2
                rw [hxe.out] at hcell2
                have HN := Lib.hid (HXX.out t hlt2)
                obtain ⟨p, hp⟩ : ∃ p, p = q + t := ⟨_, rfl⟩
                rw [← hp] at HN HR
                have hp8 : p / 8 < S := by omega
                have hq8 : p / 8 < (Fl p).length := by rw [HFl.out]; exact hp8
                have hc := HR.out.cell hq8
                have hf := HR.out.frozen (p / 8)
                have hR' : Hid (∀ z : Nat, Row (wr.setCell ⟨w4.heap.size, p / 8, none⟩ (.int .u8 (z : Int))) w4.heap.size 5 .u8 ((Fl p).set (p / 8) z)) := fun z => HR.out.put hq8 z
                have HO : Hid ((Fl p).getD (p / 8) 0 < 256) := (HFb.out p).at_ _
                have HP1 : Hid (Fl (q + (t + 1)) = (Fl p).set (p / 8) ((Fl p).getD (p / 8) 0 ||| nb (x - m) W t * 2 ^ (7 - p % 8))) := by show _ = _; rw [HN.out]; rfl
                generalize (Fl p).getD (p / 8) 0 = old at *
                have HB : Hid (nb (x - m) W t = (x - m) / 2 ^ (W - 1 - t) % 2) := rfl
                obtain ⟨d, hd'⟩ : ∃ d, d = W - 1 - t := ⟨_, rfl⟩
                rw [← hd'] at HB
                generalize nb (x - m) W t = b at *
                generalize x - m = X at *
                have d1 : (W : Int) - 1 - t = (d : Int) := by omega
                have d2 : (d : Int) ≤ 64 := by omega
                have d3 : 0 ≤ (d : Int) := by omega
                have x1 : bits .and .u8 ((X : Int) / 2 ^ d % 256) 1 = (b : Int) := by rw [HB.out]; exact low_bit X d
                have y0 : IntKind.i64.wrap ((q : Int) + t) = (p : Int) := by rw [show (q : Int) + t = (p : Int) by omega]; exact IntWalk.i64_in _ (by omega)
                have y1 : IntKind.i64.wrap ((p : Int) / 8) = (p : Int) / 8 := IntWalk.i64_in _ (by omega)
                have y2 : ((p : Int) / 8).toNat = p / 8 := by omega
                have y3 : 0 ≤ (p : Int) / 8 := by omega
                have y4 : (p : Int) / 8 < S := by omega
                have hbb : b < 2 := by rw [HB.out]; exact Nat.mod_lt _ (by decide)
                obtain ⟨t8, ht8⟩ : ∃ t8, t8 = p % 8 := ⟨_, rfl⟩
                obtain ⟨s8, hs8⟩ : ∃ s8, s8 = 7 - t8 := ⟨_, rfl⟩
                have y5 : (p : Int).tmod 8 = (t8 : Int) := by rw [Int.tmod_eq_emod_of_nonneg (by omega)]; omega
                have y6 : (7 : Int) - (t8 : Int) = (s8 : Int) := by omega
                have y7 : 0 ≤ (s8 : Int) := by omega
                have y8 : (s8 : Int) ≤ 8 := by omega
                have y9 : IntKind.i64.wrap ((7 : Int) - (t8 : Int)) = (s8 : Int) := by rw [y6]; exact IntWalk.i64_in _ (by omega)
                have y10 : IntKind.i64.wrap (s8 : Int) = (s8 : Int) := IntWalk.i64_in _ (by omega)
                obtain ⟨P, hP⟩ : ∃ P, P = b * 2 ^ s8 := ⟨_, rfl⟩
                obtain ⟨Q, hQ⟩ : ∃ Q, Q = old ||| P := ⟨_, rfl⟩
                have hPb : P < 256 := by
                  have e1 : 2 ^ s8 ≤ 2 ^ 7 := Nat.pow_le_pow_right (by decide) (by omega)
                  have e2 : b * 2 ^ s8 ≤ 1 * 2 ^ s8 := Nat.mul_le_mul_right _ (by omega)
                  omega
                have x9 : IntKind.u8.wrap ((b : Int) * 2 ^ s8) = (P : Int) := by
                  have e1 : ((b * 2 ^ s8 : Nat) : Int) = (b : Int) * 2 ^ s8 := by simp
                  rw [← e1, ← hP]; exact wrap_u8 hPb
                have x10 : bits .or .u8 (old : Int) (P : Int) = (Q : Int) := by rw [hQ]; exact or_u8 HO.out hPb
                have HQ2 : Hid (Fl (q + (t + 1)) = (Fl p).set (p / 8) Q) := by show _ = _; rw [HP1.out, ← ht8, ← hs8, ← hP, ← hQ]
                have HPP := Lib.hid hp
                clear hp ht8 hs8 hP hQ hPb HO HP1 hd' hbb
                go_wp2
                go_still_tail 15, (by kernel_rfl)
                have hR2 := hR'.out Q
                have hB5 : Below w4.heap.size w4 (wr.setCell ⟨w4.heap.size, p / 8, none⟩ (.int .u8 (Q : Int))) := hBf.setCell (Nat.le_refl _) _
                clear x1 x9 x10 y0 y1 y2 y3 y4 y5 y6 y7 y8 y9 y10 d1 d2 d3
                go_wp2
                go_roundw
                case rel =>
                  refine ⟨t + 1, by omega, by go_num, ?_, hB5.drew⟩
                  show Row _ _ _ _ _
                  rw [HQ2.out]; exact hR2.drew
                case measure => simp [intOf]; omega
              · obtain rfl : t = W := by omega
                go_wp2
                go_roundw
                case rel => exact ⟨j + 1, by omega, by go_num, by rw [HNX.out]; exact HR, hBf⟩
                case measure => simp [intOf]; omega
          · obtain rfl : j = ds.length := by omega
            have hF0 : fld (fun i => el ds i - m) W S (ds.length * W) = packF (el ds) ds.length := by
              unfold packF
              rw [← HW.out, ← HM.out, HS.out, HY.out]
            have hrow := HR.out
            rw [hF0] at hrow
            have hFlen : (packF (el ds) ds.length).length = S := by rw [packF_len, ← HW.out, HS.out, HY.out]
            have hrd1 := hrow.all
            have hB5 := hB4.trans (hBf.mono hB4.size)
            have hO5 := own_next hO4 hBf
            have HP : Hid (packB (el ds) ds.length n r = gb 4 ds.length ++ gb n m ++ [W] ++ packF (el ds) ds.length ++ r) := by show _ = _; rw [packB_pos h0, ← HM.out, ← HW.out]
            generalize packF (el ds) ds.length = F at *
            have HFL := Lib.hid hFlen
            clear HR hrow hF0 hO4 hFlen
            go_wp2_with (at_builtin; first
              | (refine wpL_append _ rfl (.tmp 104) (.tmp 105) _ rfl w.heap.size 5 i0 _ 1 1 Tryd.underlying22 hi0 hz0 hz1 hz2 rfl (by omega) _ (4 + n + 1) (ints .u8 (gb 4 ds.length ++ gb n m ++ [W])) rfl hO5 (some ⟨w4.heap.size, 0, none⟩) S S (ints .u8 F) rfl (by rw [ints_length, HFL.out, Nat.mul_one]) hrd1 (ints_one _ _) (by unfold maxLen; omega) (by omega) hB5.size ?_; intro v6 w6 hown6 hg6 hat6; obtain ⟨A6, c6, rfl, hc6⟩ := own_slice hown6; have hB6 : Below w.heap.size w w6 := below_app hB5 hg6 hB5.size hO5 (Nat.le_refl _); rw [← ints_append] at hown6; clear hg6 hat6)
              | (refine wpL_append _ rfl (.tmp 107) (.tmp 108) _ rfl w.heap.size 5 i0 _ 1 1 Tryd.underlying22 hi0 hz0 hz1 hz2 rfl (by omega) _ (4 + n + 1 + S) (ints .u8 (gb 4 ds.length ++ gb n m ++ [W] ++ F)) rfl hown6 A2 r.length c2 (ints .u8 r) rfl (by rw [ints_length, Nat.mul_one]) ((hr.below hB6).more hB6.size) (ints_one _ _) (by unfold maxLen; omega) (by omega) hB6.size ?_; intro v7 w7 hown7 hg7 hat7; have hB7 : Below w.heap.size w w7 := below_app hB6 hg7 hB6.size hown6 (Nat.le_refl _); rw [← ints_append] at hown7; clear hg7 hat7))
            go_ret
            exact ⟨hB7, _, rfl, by rw [HP.out]; exact IsL.of_own hown7⟩
end Go.Proofs.YtmoenbdooilceaaDoor
