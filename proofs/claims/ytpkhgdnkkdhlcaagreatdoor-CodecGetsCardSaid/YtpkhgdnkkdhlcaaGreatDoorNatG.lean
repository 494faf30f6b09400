/-
  Walks: package ratio's natural numbers: Div.
-/
import Derived.Test.YtpkhgdnkkdhlcaaGreatDoorNatF
import Derived.Test.YtpkhgdnkkdhlcaaGreatDoorDivM
namespace Go.Proofs.YtpkhgdnkkdhlcaaGreatDoor
open Go.RowKit Ar

def sliceLen : Value → Nat
  | .slice _ n _ => n
  | _ => 0

set_option maxHeartbeats 1600000 in
set_option maxRecDepth 4000 in
theorem div_any (a b : Nat) (v u : Value) (w : World) (hb0 : 0 < b) (h : IsN w w.heap.size .u32 v a) (h' : IsN w w.heap.size .u32 u b) (hl : (limbs a).length ≤ 500000000000) (hl' : (limbs b).length ≤ 500000000000) :
    Calls Tryz.prog 140 #[v, u] w fun e w' => Below w.heap.size w w' ∧ ∃ q r, e = .returned (.tuple #[q, r]) ∧ IsN w' w'.heap.size .u32 q (a / b) ∧ IsN w' w'.heap.size .u32 r (a % b) := by
  have hcmp := cmp_any a b v u w h h' (by omega)
  rcases Nat.lt_or_ge a b with hlt | hge
  · rw [cmpN_lt hlt] at hcmp
    have HD : ∀ w', IsN w' w'.heap.size .u32 (.slice none 0 0) (a / b) := fun w' => by rw [Nat.div_eq_of_lt hlt]; exact IsN.nil _ _ _
    have HM : Hid (IsN w w.heap.size .u32 v (a % b)) := by show IsN _ _ _ _ _; rw [Nat.mod_eq_of_lt hlt]; exact h
    have HC := Lib.hid hcmp
    clear hcmp hlt hb0
    go_enter Tryz.func140, Tryz.ntmps140
    go_wp2_with fail
    refine HC.out.mono ?_
    rintro e w1 ⟨rfl, n, rfl⟩
    go_wp2
    go_ret2
    exact ⟨below_drewN (Below.refl _ _) _, _, _, rfl, HD _, HM.out⟩
  have hz : 0 ≤ cmpN a b := by unfold cmpN; rw [if_neg (by omega)]; split <;> omega
  generalize cmpN a b = z at *
  have HC := Lib.hid hcmp
  have hlm := len_mono hge
  clear hcmp hge
  obtain ⟨A, c, rfl, h1, h3⟩ := h
  obtain ⟨A2, c2, rfl, k1, k3⟩ := h'
  by_cases hb1 : (limbs b).length = 1
  · obtain ⟨x, hx⟩ : ∃ x, limbs b = [x] := List.length_eq_one_iff.1 hb1
    obtain ⟨ad, rfl, hbk, hcell⟩ := k3.int (j := 0) (by omega)
    have hxb : x = b := by have := val_limbs b; rw [hx] at this; simpa [val] using this
    have hxB : x < B := by have := Small.limbs b; rw [hx] at this; exact this.head
    rw [hx] at hcell
    subst hxb
    rw [hb1] at k1 HC ⊢
    clear hlm
    simp only [List.getD_cons_zero, addr_zero] at hcell
    have hO : IsN w w.heap.size .u32 (.slice A (limbs a).length c) a := ⟨A, c, rfl, h1, h3⟩
    clear h1 h3 k1 k3 hx hb1 hl'
    have hx9 : x < 1000000000 := hxB
    have HB := Lib.hid hxB
    clear hxB
    go_enter Tryz.func140, Tryz.ntmps140
    go_wp2_with fail
    refine HC.out.mono ?_
    rintro e w1 ⟨rfl, n, rfl⟩
    go_wp2_with fail
    refine (short_any a x _ (w.drewN n) hb0 (Nat.le_of_lt HB.out) hO (by omega)).mono ?_
    rintro e w2 ⟨hb2, q, rfl, hq⟩
    have hq' := hq.is
    clear hq
    go_wp2_with fail
    refine (small_any (a % x) w2 (by have := Nat.mod_lt a hb0; have := B_eq; omega)).mono ?_
    rintro e w3 ⟨hb3, r, rfl, hr⟩
    go_wp2
    go_ret2
    exact ⟨((below_drewN (Below.refl _ w) n).trans (hb2.mono (Nat.le_refl _))).trans (hb3.mono hb2.size), _, _, rfl, hq'.next hb3, hr⟩
  obtain ⟨n, hn⟩ : ∃ n, (limbs b).length = n + 1 := ⟨(limbs b).length - 1, by have := limbs_len_pos hb0; omega⟩
  obtain ⟨ad, rfl, hbk, hcell⟩ := k3.int (j := n) (by omega)
  have hO : IsN w w.heap.size .u32 (.slice A (limbs a).length c) a := ⟨A, c, rfl, h1, h3⟩
  have hO2 : IsN w w.heap.size .u32 (.slice (some ad) (n + 1) c2) b := ⟨_, c2, by rw [hn], k1, k3⟩
  obtain ⟨ht0, htB, _, _⟩ := top_limb hb0 hn
  have hnorm := norm_fits hb0 hn rfl rfl
  have hla := lt_pow_len a
  generalize (limbs b).getD n 0 = t at *
  rw [hn] at hlm
  generalize hla' : (limbs a).length = la at *
  rw [hn] at k1 hl' hb1 HC ⊢
  have ht9 : t < 1000000000 := htB
  have HN := Lib.hid hnorm
  have HLA := Lib.hid hla'
  have HA := Lib.hid hla
  have HBN := Lib.hid hn
  have hn0 : 1 ≤ n := by omega
  have hq0 : (0 : Int) ≤ 1000000000 / ((t : Int) + 1) := Int.ediv_nonneg (by omega) (by omega)
  have hq1 : (1000000000 : Int) / ((t : Int) + 1) ≤ 1000000000 := Int.ediv_le_self _ (by omega)
  clear hnorm hla hla' hn k3 h3 htB hb1
  go_enter Tryz.func140, Tryz.ntmps140
  go_wp2_with fail
  refine HC.out.mono ?_
  rintro e w1 ⟨rfl, q0, rfl⟩
  go_wp2_with fail
  have hfe : (1000000000 : Int) / ((t : Int) + 1) = ((B / (t + 1) : Nat) : Int) := by rw [Int.natCast_ediv]; rfl
  rw [hfe]
  clear hfe hq0 hq1
  have HFE := Lib.hid (rfl : B / (t + 1) = B / (t + 1))
  clear HFE
  generalize B / (t + 1) = f at *
  have hf9 : f < 1000000000 := HN.out.2.1
  refine (scale_any b f _ (w.drewN q0) HN.out.2.1 hO2 (by rw [HBN.out]; omega)).mono ?_
  rintro e w2 ⟨hb2, v, rfl, hv⟩
  have hv' := hv.is
  clear hv
  have hvf : ∃ A c, v = .slice A (n + 1) c ∧ n + 1 ≤ c ∧ Rd w2 w2.heap.size A (ints .u32 (limbs (b * f))) := by
    obtain ⟨A, c, h1, h2, h3⟩ := hv'
    rw [HN.out.2.2.2] at h1 h2
    exact ⟨A, c, h1, h2, h3⟩
  obtain ⟨A3, c3, rfl, hc3, hrd3⟩ := hvf
  obtain ⟨ad3, rfl, hbk3, _⟩ := hrd3.int (j := n) (by rw [HN.out.2.2.2]; omega)
  obtain ⟨ht20, ht2B, htop, _⟩ := top_limb (Nat.mul_pos hb0 HN.out.1) HN.out.2.2.2
  have HT := Lib.hid htop
  have HRD := Lib.hid hrd3
  have ht29 : (limbs (b * f)).getD n 0 < 1000000000 := ht2B
  have HVV : Hid (∀ w', Below w2.heap.size w2 w' → IsN w' w2.heap.size .u32 (.slice (some ad3) (n + 1) c3) (b * f)) := fun w' hw => ⟨_, c3, by rw [HN.out.2.2.2], by rw [HN.out.2.2.2]; exact hc3, hrd3.below hw⟩
  have hcells : Hid (∀ w', Below w2.heap.size w2 w' → w'.cell? (ad3.add n) = some (.int .u32 (((limbs (b * f)).getD n 0 : Nat) : Int))) := fun w' hw => by
    obtain ⟨ad', h1, _, h2⟩ := (hrd3.below hw).int (j := n) (by rw [HN.out.2.2.2]; omega)
    injection h1 with h1; subst h1; exact h2
  clear htop hrd3 ht2B
  generalize (limbs (b * f)).getD n 0 = t2 at *
  go_wp2_with fail
  refine (scale_any a f _ w2 HN.out.2.1 ((hO.next (w' := w.drewN q0) (below_drewN (Below.refl _ _) _)).next hb2) (by rw [HLA.out]; omega)).mono ?_
  rintro e w3 ⟨hb3, ua, rfl, g0, cap0, rfl, hcap0, hown0⟩
  have hlu : (limbs (a * f)).length ≤ la + 1 := limbs_len_le (by rw [Nat.pow_succ]; exact Nat.mul_lt_mul'' HA.out HN.out.2.1)
  have hvu := val_limbs (a * f)
  have hsu := Small.limbs (a * f)
  generalize limbs (a * f) = us0 at *
  obtain ⟨i0, hi0, hz0, hz1, hz2⟩ := info_parts u32_info
  have HVU := Lib.hid hvu
  clear hvu
  go_wp2_with (at_builtin; refine wpL_append _ rfl (.tmp 53) (.tmp 54) _ rfl w2.heap.size 105 i0 _ 1 4 Tryz.underlying100 hi0 hz0 hz1 hz2 rfl (by omega) _ us0.length (ints .u32 us0) rfl (hown0.alloc _) (some ⟨w3.heap.size, 0, none⟩) 1 1 [.int .u32 0] rfl rfl (Rd.of_new w3 [.int .u32 0] 105) (by intro u hu; simp at hu; subst hu; rfl) (by unfold maxLen; omega) (by omega) (by have := hb3.size; simp; omega) ?_; intro v1 w4 hown1 hg1 hat1)
  have hbel4 : Below w2.heap.size w2 w4 := below_app (hb3.alloc hb3.size _) hg1 (by have := hb3.size; simp; omega) (hown0.alloc _) (Nat.le_refl _)
  have hs4 := hbel4.size
  clear hg1 hat1 hown0
  go_loopw [10] (fun uv wr => ∃ (g cap N : Nat) (us : List Nat), uv = .slice (some ⟨g, 0, none⟩) N cap ∧ us.length = N ∧ 1 ≤ N ∧ N ≤ la + 2 ∧ N ≤ cap ∧ Hid (val us = a * f) ∧ Small us ∧
      wr.ownsRow w2.heap.size 105 1 (.slice (some ⟨g, 0, none⟩) N cap) N (ints .u32 us) ∧ Below w2.heap.size w2 wr) (fun uv _ => la + 2 - sliceLen uv)
  case atStart =>
    obtain ⟨g, cap, rfl, h5, h6, _⟩ := own_form hown1 (by omega)
    refine ⟨g, cap, us0.length + 1, us0 ++ [0], rfl, by simp, by omega, by omega, h6, ?_, hsu.append (Small.replicate 1), ?_, hbel4⟩
    · show val _ = _
      rw [val_snoc, HVU.out]; simp
    · have e : ints .u32 (us0 ++ [0]) = ints .u32 us0 ++ [.int .u32 0] := by simp [ints]
      rw [e]; exact hown1
  case round =>
    obtain ⟨g, cap, N, us, rfl, hul, hN1, hN2, hNc, HV, hus, hown, hbel⟩ := hrel
    have hs5 := hbel.size
    by_cases hlt : N < la + 2
    · go_wp2_with (at_builtin; refine wpL_append _ rfl (.tmp 62) (.tmp 63) _ rfl w2.heap.size 105 i0 _ 1 4 Tryz.underlying100 hi0 hz0 hz1 hz2 rfl (by omega) _ N (ints .u32 us) rfl (hown.alloc _) (some ⟨wr.heap.size, 0, none⟩) 1 1 [.int .u32 0] rfl rfl (Rd.of_new wr [.int .u32 0] 105) (by intro u hu; simp at hu; subst hu; rfl) (by unfold maxLen; omega) (by omega) (by have := hbel.size; simp; omega) ?_; intro v2 w5 hown2 hg2 hat2)
      go_roundw
      case rel =>
        obtain ⟨g', cap', rfl, h5, h6, _⟩ := own_form hown2 (by omega)
        refine ⟨g', cap', N + 1, us ++ [0], rfl, by simp; omega, by omega, by omega, h6, ?_, hus.append (Small.replicate 1), ?_, below_app (hbel.alloc hs5 _) hg2 (by simp; omega) (hown.alloc _) (Nat.le_refl _)⟩
        · show val _ = _
          rw [val_snoc, HV.out]; simp
        · have e : ints .u32 (us ++ [0]) = ints .u32 us ++ [.int .u32 0] := by simp [ints]
          rw [e]; exact hown2
      case measure =>
        obtain ⟨g', cap', rfl, h5, h6, _⟩ := own_form hown2 (by omega)
        simp only [sliceLen]
        omega
    · obtain rfl : N = la + 2 := by omega
      have hmk := make_u32 (la + 1 - n) ((la : Int) + 2 - ((n : Int) + 1)) (by omega) (by omega) wr
      have hcell5 := hcells.out wr hbel
      have hbk5 : ad3.block < wr.heap.size := by omega
      have hN0 : Hid (DS (a * f) (b * f) (n + 1) (la + 2) (la + 1 - n) us (List.replicate (la + 1 - n) 0)) := by
        have hp : b * f * B ^ (la + 1 - n) ≥ B ^ n * B ^ (la + 1 - n) := Nat.mul_le_mul_right _ (by rw [HT.out]; have : B ^ n * 1 ≤ B ^ n * t2 := Nat.mul_le_mul_left _ ht20; omega)
        rw [← Nat.pow_add, show n + (la + 1 - n) = la + 1 by omega] at hp
        have hq : a * f < B ^ (la + 1) := by rw [Nat.pow_succ]; exact Nat.mul_lt_mul'' HA.out HN.out.2.1
        have := DS.start (U := a * f) (V := b * f) (n := n + 1) (N := la + 2) hul hus (by omega) HV.out (by rw [show la + 2 - (n + 1) = la + 1 - n by omega]; omega)
        rw [show la + 2 - (n + 1) = la + 1 - n by omega] at this
        exact this
      have hgs := hown.lt g rfl
      have hgw : w2.heap.size ≤ g := hgs.1
      have hgq : g < wr.heap.size := hgs.2
      clear hgs
      obtain ⟨wq, hwq⟩ : ∃ wq, wq = wr := ⟨_, rfl⟩
      subst hwq
      obtain ⟨qn, hqn⟩ : ∃ qn, qn = la + 1 - n := ⟨_, rfl⟩
      rw [← hqn] at hmk hN0
      have hqn1 : qn + n ≤ la + 1 := by omega
      have hqn2 : la + 1 ≤ qn + n := by omega
      clear hqn
      have hcell6 : (wq.alloc (.cells (ints .u32 (List.replicate qn 0)).toArray 105)).cell? (ad3.add n) = some (.int .u32 (t2 : Int)) := by
        rw [World.cell?_alloc_lt _ _ _ (by rw [addr_block]; exact hbk5)]; exact hcell5
      clear hcell5
      go_wp2_with fail
      go_loopw [14] (fun i wr => ∃ (J : Nat) (us qs : List Nat), J ≤ qn ∧ i = .int .i64 ((J : Int) - 1) ∧ Hid (DS (a * f) (b * f) (n + 1) (la + 2) J us qs) ∧ us.length = la + 2 ∧ qs.length = qn ∧
        wr.ownsRow w2.heap.size 105 1 (.slice (some ⟨g, 0, none⟩) (la + 2) cap) (la + 2) (ints .u32 us) ∧ Bk wr wq.heap.size 105 (ints .u32 qs).toArray ∧ Below w2.heap.size w2 wr) (fun i _ => (intOf i + 1).toNat)
      case atStart =>
        have e : (la : Int) + 2 - ((n : Int) + 1) - 1 = (qn : Int) - 1 := by omega
        exact ⟨qn, us, List.replicate qn 0, Nat.le_refl _, by first | rw [e] | go_num, hN0, hul, by simp, hown.kept (World.grownBy_alloc _ _ none) (.inr (by simp [Value.ownBlock])), Bk.new _ _ _, hbel.alloc hs5 _⟩
      case round =>
        obtain ⟨J, us, qs, hJ, rfl, HD, hul, hql, hown, hbkq, hbel⟩ := hrel
        rcases Nat.eq_zero_or_pos J with rfl | hJ0
        · rw [show (((0 : Nat) : Int) - 1) = -1 from rfl]
          obtain ⟨hd1, hd2, hd3⟩ := HD.out.done HN.out.1 HN.out.2.2.1 (by omega)
          have hus := HD.out.usm
          have hqs := HD.out.qsm
          have hrd : Rd wr wr.heap.size (some ⟨g, 0, none⟩) (ints .u32 (us.take (n + 1))) := by rw [ints_take]; exact (Rd.of_own hown).take _
          have hlt1 : (us.take (n + 1)).length = n + 1 := by simp; omega
          have H1 := Lib.hid hd1
          have H2 := Lib.hid hd2
          have H3 := Lib.hid hd3
          have HQ := Lib.hid hqs
          have hf0 := HN.out.1
          clear hd1 hd2 hd3 hqs
          go_wp2_with fail
          refine (trim_any _ cap (n + 1) (us.take (n + 1)) wr hlt1 (by omega) (by omega) hrd).mono ?_
          rintro e w6 ⟨rfl, k, hT, rfl⟩
          have hk := hT.len (hus.take _)
          have ht := hT.eq (hus.take _)
          rw [H3.out] at hk ht
          have hIs : IsN wr wr.heap.size .u32 (.slice (some ⟨g, 0, none⟩) k cap) (val us) :=
            ⟨_, cap, by rw [← hk], by rw [← hk]; have := hT.1; omega, by rw [ht, ints_take]; exact hrd.take k⟩
          have hkl : (limbs (val us)).length ≤ 1000000000000 := by rw [← hk]; have := hT.1; omega
          clear hk ht hT
          go_wp2_with fail
          refine (short_any (val us) f _ wr hf0 (Nat.le_of_lt HN.out.2.1) hIs hkl).mono ?_
          rintro e w7 ⟨hb7, r, rfl, hr⟩
          rw [H2.out] at hr
          have hr' := hr.is
          clear hr
          have hbkq7 := hbkq.below hb7 hbkq.lt
          have hrd7 := hbkq7.rd
          go_wp2_with fail
          refine (trim_any _ qn qn qs w7 hql (Nat.le_refl _) (by omega) (by simpa using hrd7)).mono ?_
          rintro e w8 ⟨rfl, k', hT', rfl⟩
          have hOq := (OwnN.of_trim hbkq7 (Nat.le_refl _) hql (by omega) HQ.out hT' H1.out).is
          clear hT'
          go_wp2
          go_ret2
          exact ⟨((below_drewN (Below.refl _ w) q0).trans (hb2.mono (Nat.le_refl _))).trans ((hbel.mono hb2.size).trans (hb7.mono (Nat.le_trans hb2.size hbel.size))), _, _, rfl, hOq, hr'⟩
        · obtain ⟨j, rfl⟩ : ∃ j, J = j + 1 := ⟨J - 1, by omega⟩
          rw [show (((j + 1 : Nat) : Int) - 1) = (j : Int) by omega]
          have hc1 := hown.cellAt (j + (n + 1)) (by omega)
          have hc0 := hown.cellAt (j + n) (by omega)
          have hc1' : (ints .u32 us)[j + (n + 1)]? = some (.int .u32 ((us.getD (j + (n + 1)) 0 : Nat) : Int)) := by
            have := ints_getD .u32 us (i := j + (n + 1)) (by omega); simpa using this
          have hc0' : (ints .u32 us)[j + n]? = some (.int .u32 ((us.getD (j + n) 0 : Nat) : Int)) := by
            have := ints_getD .u32 us (i := j + n) (by omega); simpa using this
          rw [hc1'] at hc1
          rw [hc0'] at hc0
          have hs1 : us.getD (j + (n + 1)) 0 < 1000000000 := HD.out.usm.getD _
          have hs0 : us.getD (j + n) 0 < 1000000000 := HD.out.usm.getD _
          have hlt := HD.out.lt HN.out.2.2.1 (by omega)
          have hG := guess_ge (Nat.pow_pos (n := n) B_pos) ht20 HT.out hlt
          rw [top_two (by simp; omega) ((HD.out.usm.drop j).take (n + 1 + 1)), part_getD _ _ _ _ (by omega), part_getD _ _ _ _ (by omega), show n + 1 = n + 1 from rfl] at hG
          have HG := Lib.hid hG
          have HLT := Lib.hid hlt
          clear hG hlt hc1' hc0' hJ0
          generalize us.getD (j + (n + 1)) 0 = s1 at *
          generalize us.getD (j + n) 0 = s0 at *
          have hx0 : (0 : Int) ≤ ((s1 : Int) * 1000000000 + (s0 : Int)) / (t2 : Int) := Int.ediv_nonneg (by omega) (by omega)
          have hx1 : ((s1 : Int) * 1000000000 + (s0 : Int)) / (t2 : Int) ≤ (s1 : Int) * 1000000000 + (s0 : Int) := Int.ediv_le_self _ (by omega)
          have START : Hid (∀ (x : Int) (wi : World), (x = ((s1 : Int) * 1000000000 + (s0 : Int)) / (t2 : Int) ∨ 999999999 < ((s1 : Int) * 1000000000 + (s0 : Int)) / (t2 : Int) ∧ x = 999999999) → x ≤ 999999999 → wr.grownBy wi none → ∃ G : Nat, Value.int .u64 x = .int .u64 G ∧ G ≤ 999999999 ∧ Hid (val ((us.drop j).take (n + 1 + 1)) / (b * f) ≤ G) ∧
              wi.ownsRow w2.heap.size 105 1 (.slice (some ⟨g, 0, none⟩) (la + 2) cap) (la + 2) (ints .u32 us) ∧ Bk wi wq.heap.size 105 (ints .u32 qs).toArray ∧ Below w2.heap.size w2 wi) := by
            have e : ((s1 : Int) * 1000000000 + (s0 : Int)) / (t2 : Int) = (((s1 * B + s0) / t2 : Nat) : Int) := by rw [B_eq]; simp
            intro x wi hx hx9 hgr
            rw [e] at hx
            have hgg := HG.out
            have h0 : 0 ≤ x := by
              rcases hx with rfl | ⟨_, rfl⟩
              · exact Int.natCast_nonneg _
              · decide
            have hn9 : x.toNat ≤ 999999999 := by clear hx; omega
            refine ⟨x.toNat, by rw [Int.toNat_of_nonneg h0], hn9, ?_, hown.kept hgr (.inr (by simp [Value.ownBlock])), hbkq.grown hgr (by simp), hbel.grown hgr hbel.size (by simp)⟩
            show _ ≤ x.toNat
            refine Nat.le_trans hgg ?_
            rcases hx with rfl | ⟨h1, rfl⟩
            · exact Nat.min_le_left _ _
            · exact Nat.le_trans (Nat.min_le_right _ _) (by decide)
          go_wp2
          go_quiet (fail)
          go_wp2_with fail
          all_goals
            go_loopw [15] (fun gv wi => ∃ G : Nat, gv = .int .u64 G ∧ G ≤ 999999999 ∧ Hid (val ((us.drop j).take (n + 1 + 1)) / (b * f) ≤ G) ∧
              wi.ownsRow w2.heap.size 105 1 (.slice (some ⟨g, 0, none⟩) (la + 2) cap) (la + 2) (ints .u32 us) ∧ Bk wi wq.heap.size 105 (ints .u32 qs).toArray ∧ Below w2.heap.size w2 wi) (fun gv _ => (intOf gv).toNat)
            case atStart => exact START.out _ _ (by first | exact .inr ⟨by assumption, by rfl⟩ | exact .inl rfl) (by omega) (grown_drewN _ _ _)
            case round =>
              obtain ⟨G, rfl, hGB, HGG, hown2, hbkq2, hbel2⟩ := hrel
              have hcq := hbkq2.cell j
              rw [ints_getD .u32 qs (by omega)] at hcq
              have hfq := hbkq2.frozen j
              have hjq : (j : Int) < (qn : Int) := by omega
              have hcqe : Hid ((ints .u32 qs).toArray[j]? = some (.int .u32 ((qs.getD j 0 : Nat) : Int))) := ints_getD .u32 qs (by omega)
              generalize qs.getD j 0 = y at *
              rcases Nat.eq_zero_or_pos G with rfl | hG0
              · go_wp2
                go_roundw
                case rel =>
                  refine ⟨j, us, qs.set j 0, by omega, by go_num, HD.out.none HN.out.2.2.1 (by omega) (Nat.le_zero.1 HGG.out), hul, by simpa using hql, ?_, ?_, hbel2.setCell hs5 _⟩
                  · exact hown2.kept (grown_setCell _ _ _) (.inr (by simp [Value.ownBlock]; omega))
                  · have := hbkq2.put j (.int .u32 ((0 : Nat) : Int))
                    rw [ints_set] at this
                    exact this
                case measure => simp [intOf]
              · by_cases hle : b * f * G ≤ val ((us.drop j).take (n + 1 + 1))
                · have HLE := Lib.hid hle
                  clear hle
                  go_wp2_with fail
                  rw [show j + (n + 1) + 1 - j = n + 1 + 1 by omega]
                  refine (take_any w2.heap.size g cap j (n + 1 + 1) (cap - j) G (b * f) us _ wr (by rw [hul]; exact hown2) HD.out.usm (by omega) (by omega) (by omega) hbel2.size (HVV.out _ hbel2) (by rw [HN.out.2.2.2]; omega) (by rw [HN.out.2.2.2]; omega) (by rw [B_eq]; omega) ?_).mono ?_
                  · intro h1
                    rw [mod_of_div (div_eq_of h1 HGG.out (Nat.mul_pos hb0 HN.out.1))]
                    exact Nat.mod_lt _ (Nat.mul_pos hb0 HN.out.1)
                  rintro e w6 ⟨hg6, rfl, hown6⟩
                  rw [if_pos HLE.out] at hown6
                  have hbkq6 := hbkq2.grown hg6 (by simp; omega)
                  have hbel6 := below_of_grown hbel2 hg6 hbel2.size hgw
                  have hcq6 := hbkq6.cell j
                  rw [hcqe.out] at hcq6
                  have hfq6 := hbkq6.frozen j
                  rw [decide_eq_true HLE.out]
                  go_wp2
                  go_roundw
                  case rel =>
                    refine ⟨j, _, qs.set j G, by omega, by go_num, HD.out.some HN.out.2.2.1 (by omega) (div_eq_of HLE.out HGG.out (Nat.mul_pos hb0 HN.out.1)), ?_, by simpa using hql, ?_, ?_, hbel6.setCell hs5 _⟩
                    · exact (HD.out.some HN.out.2.2.1 (by omega) (div_eq_of HLE.out HGG.out (Nat.mul_pos hb0 HN.out.1))).ul
                    · rw [hul] at hown6
                      exact hown6.kept (grown_setCell _ _ _) (.inr (by simp [Value.ownBlock]; omega))
                    · have := hbkq6.put j (.int .u32 (G : Int))
                      rw [ints_set] at this
                      exact this
                  case measure => simp [intOf]
                · have HLE : Hid (val ((us.drop j).take (n + 1 + 1)) / (b * f) ≤ G - 1) := by
                    have : val ((us.drop j).take (n + 1 + 1)) / (b * f) < G := Nat.div_lt_of_lt_mul (by omega)
                    show _ ≤ _
                    omega
                  have hleb : decide (b * f * G ≤ val ((us.drop j).take (n + 1 + 1))) = false := decide_eq_false hle
                  have HLN := Lib.hid hle
                  clear hle
                  go_wp2_with fail
                  rw [show j + (n + 1) + 1 - j = n + 1 + 1 by omega]
                  refine (take_any w2.heap.size g cap j (n + 1 + 1) (cap - j) G (b * f) us _ wr (by rw [hul]; exact hown2) HD.out.usm (by omega) (by omega) (by omega) hbel2.size (HVV.out _ hbel2) (by rw [HN.out.2.2.2]; omega) (by rw [HN.out.2.2.2]; omega) (by rw [B_eq]; omega) (fun h1 => absurd h1 HLN.out)).mono ?_
                  rintro e w6 ⟨hg6, rfl, hown6⟩
                  rw [if_neg HLN.out, hul] at hown6
                  have hbkq6 := hbkq2.grown hg6 (by simp; omega)
                  have hbel6 := below_of_grown hbel2 hg6 hbel2.size hgw
                  rw [hleb]
                  clear hleb
                  go_wp2
                  go_roundw
                  case rel => exact ⟨G - 1, by go_num, by omega, HLE, hown6, hbkq6, hbel6⟩
                  case measure => simp [intOf]; omega
end Go.Proofs.YtpkhgdnkkdhlcaaGreatDoor

