/-
  Walks: package codec: differences and sums.
-/
import Derived.Test.YtmoenbdooilceaaDoorCodB
namespace Go.Proofs.YtmoenbdooilceaaDoor
open Go.RowKit By

set_option maxRecDepth 100000 in
set_option maxHeartbeats 800000 in
theorem delta_any (A : Option Addr) (c n : Nat) (l : List Nat) (w : World) (h1 : 1 ≤ n) (h8 : n ≤ 8) (hl : Bytes l) (hc : l.length ≤ c) (hm : l.length ≤ 1048576) (h : Rd w w.heap.size A (ints .u8 l)) :
    Calls Tryd.prog 16 #[.slice A l.length c, .int .i64 n] w fun e w' => Below w.heap.size w w' ∧ ∃ v, e = .returned (.tuple #[v, .int .i64 0]) ∧ IsL w' w'.heap.size .u8 v (deltaB l n) := by
  have hg : grE n l.length = 0 := by unfold grE; rw [if_neg (by omega), if_neg (by omega)]
  rcases Nat.lt_or_ge l.length (n + n) with hs | hs
  · have HE : Hid (deltaB l n = l) := by
      show _ = _
      exact short_all hl h1 hs rfl
    go_enter Tryd.func16, Tryd.ntmps16
    go_wp2_with fail
    refine (grouped_any _ _ _ _ _ (by omega)).mono ?_
    rintro e w1 ⟨rfl, rfl⟩
    rw [hg]
    clear hg
    go_wp2_with fail
    refine (clone8_any A l.length c l w rfl (by omega) h).mono ?_
    rintro e w1 ⟨hb1, o, rfl, hown⟩
    have hO := IsL.of_own hown
    clear hown
    obtain ⟨A', c', rfl, hO2, hO3⟩ := hO
    go_wp2
    refine wp_loop_rounds 1 ?_
    rw [rounds_succ]
    go_wp2
    go_ret2
    exact ⟨hb1, _, rfl, by rw [HE.out]; exact ⟨_, _, rfl, hO2, hO3⟩⟩
  · have hk2 : 2 ≤ l.length / n := (Nat.le_div_iff_mul_le h1).2 (by omega)
    have hkl := Nat.div_mul_le_self l.length n
    have hd1 := dst_one (dl (G l n)) hl (by omega) h1 rfl
    go_enter Tryd.func16, Tryd.ntmps16
    go_wp2_with fail
    refine (grouped_any _ _ _ _ _ (by omega)).mono ?_
    rintro e w1 ⟨rfl, rfl⟩
    rw [hg]
    clear hg
    go_wp2_with fail
    refine (clone8_any A l.length c l w rfl (by omega) h).mono ?_
    rintro e w1 ⟨hb1, o, rfl, hown⟩
    obtain ⟨g, c', rfl, hg, hc', _, hrow⟩ := Row.of_own hown (by omega)
    clear hown
    go_wp2
    go_loopw [8] (fun i wr => ∃ j p : Nat, 1 ≤ j ∧ j ≤ l.length / n ∧ Hid (p = j * n) ∧ i = .int .i64 p ∧ p ≤ l.length ∧ n ≤ p ∧ Hid (Row wr g 5 .u8 (dst (dl (G l n)) l n j)) ∧ Below w.heap.size w wr) (fun i _ => l.length - (intOf i).toNat)
    case atStart => exact ⟨1, n, Nat.le_refl _, by omega, (show n = 1 * n by omega), rfl, by omega, Nat.le_refl _, (show Row _ _ _ _ _ by rw [hd1]; exact hrow), hb1⟩
    case round =>
      obtain ⟨j, p, hj1, hj2, HP, rfl, hp, hnp, HR, hB⟩ := hrel
      clear hd1 hrow hb1
      by_cases hlt : p + n ≤ l.length
      · obtain ⟨ad, rfl, hab, _⟩ := (h.below hB).int (j := p) (by omega)
        go_wp2
        refine wp_region_still_tail 21 (by kernel_rfl) (by kernel_rfl) ?_
        simp only [List.take_succ_cons, List.take_zero, List.drop_succ_cons, List.drop_zero]
        obtain ⟨s1, s2, s3⟩ := at_sum hlt (by omega)
        obtain ⟨d1, d2, d3⟩ := at_diff hnp hp (by omega)
        have q1 : ¬ c = p := by omega
        have q2 : ¬ c' = p := by omega
        have q3 : ¬ c = p - n := by omega
        have r1 : (p : Int) + n ≤ c' := by omega
        have r2 : (p : Int) + n ≤ c := by omega
        have r3 : p ≤ c := by omega
        have r4 : (p : Int) - n ≤ p := by omega
        have r5 : p - (p - n) = n := by omega
        repeat still_step
        still_call (still (number_any _ _ _ ((l.drop p).take n) _ (by simp; omega) h8 ((hl.drop _).take _) (((h.below hB).sub p n).more hB.size)))
        repeat still_step
        still_call (still (number_any _ _ _ ((l.drop (p - n)).take n) _ (by simp; omega) h8 ((hl.drop _).take _) (((h.below hB).sub (p - n) n).more hB.size)))
        repeat still_step
        refine wpStill_nil ?_
        clear s1 s2 s3 d1 d2 d3 q1 q2 q3 r1 r2 r3 r4 r5
        go_wp2_with fail
        have HX : IntKind.u64.wrap (((gv ((l.drop p).take n) : Nat) : Int) - ((gv ((l.drop (p - n)).take n) : Nat) : Int)) = ((dl (G l n) j : Nat) : Int) := by
          obtain ⟨t, rfl⟩ : ∃ t, j = t + 1 := ⟨j - 1, by omega⟩
          have e1 : p = (t + 1) * n := HP.out
          rw [sub_u64, e1, G_at]; rfl
        have HL : dl (G l n) j < 2 ^ 64 := by
          obtain ⟨t, rfl⟩ : ∃ t, j = t + 1 := ⟨j - 1, by omega⟩
          exact Nat.mod_lt _ (by decide)
        have HD : (dst (dl (G l n)) l n j).length = l.length := dst_len _ (by have e1 : p = j * n := HP.out; omega)
        rw [HX]
        clear HX
        refine (put_any g p n (c' - p) (dl (G l n) j) _ wr.drew (by omega) (by omega) HL HR.out.drew).mono ?_
        rintro e w2 ⟨⟨v, rfl⟩, hg2, hs2, hr2⟩
        have HR2 := Lib.hid hr2
        have hB2 : Below w.heap.size w w2 := below_of_grown hB.drew hg2 hB.size hg
        clear HL HD hr2 hg2 hs2
        go_wp2
        go_roundw
        case rel =>
          refine ⟨j + 1, p + n, by omega, ?_, ?_, by go_num, by omega, by omega, ?_, hB2⟩
          · have e1 : p = j * n := HP.out
            have : (j + 1) * n ≤ l.length := by rw [Nat.succ_mul]; omega
            exact (Nat.le_div_iff_mul_le h1).2 this
          · have e1 : p = j * n := HP.out
            show p + n = (j + 1) * n
            rw [Nat.succ_mul]; omega
          · have e1 : p = j * n := HP.out
            show Row _ _ _ _ _
            rw [← dst_step, ← e1]
            exact HR2.out
        case measure => simp [intOf]; omega
      · have hjk : j = l.length / n := by
          have e1 : p = j * n := HP.out
          rcases Nat.lt_or_ge j (l.length / n) with h2 | h2
          · have := mul_le_of h2
            omega
          · omega
        have HE : Hid (dst (dl (G l n)) l n j = deltaB l n) := by show _ = _; rw [hjk]; rfl
        have HD : Hid ((deltaB l n).length = l.length) := deltaB_len l n
        clear hjk
        go_wp2
        go_ret2
        refine ⟨hB, _, rfl, ?_⟩
        have hr := HR.out
        rw [HE.out] at hr
        rw [← HD.out]
        exact IsL.row hr (by rw [HD.out]; exact hc')

set_option maxRecDepth 100000 in
set_option maxHeartbeats 800000 in
theorem undelta_any (A : Option Addr) (c n : Nat) (l : List Nat) (w : World) (h1 : 1 ≤ n) (h8 : n ≤ 8) (hl : Bytes l) (hc : l.length ≤ c) (hm : l.length ≤ 1048576) (h : Rd w w.heap.size A (ints .u8 l)) :
    Calls Tryd.prog 18 #[.slice A l.length c, .int .i64 n] w fun e w' => Below w.heap.size w w' ∧ ∃ v, e = .returned (.tuple #[v, .int .i64 0]) ∧ IsL w' w'.heap.size .u8 v (undeltaB l n) := by
  have hg : grE n l.length = 0 := by unfold grE; rw [if_neg (by omega), if_neg (by omega)]
  rcases Nat.lt_or_ge l.length (n + n) with hs | hs
  · have HE : Hid (undeltaB l n = l) := by
      show _ = _
      exact short_all hl h1 hs (by show _ % 2 ^ 64 % _ = _; rw [Nat.mod_mod_of_dvd _ (pow_le h8)])
    go_enter Tryd.func18, Tryd.ntmps18
    go_wp2_with fail
    refine (grouped_any _ _ _ _ _ (by omega)).mono ?_
    rintro e w1 ⟨rfl, rfl⟩
    rw [hg]
    clear hg
    go_wp2_with fail
    refine (clone8_any A l.length c l w rfl (by omega) h).mono ?_
    rintro e w1 ⟨hb1, o, rfl, hown⟩
    have hO := IsL.of_own hown
    clear hown
    obtain ⟨A', c', rfl, hO2, hO3⟩ := hO
    go_wp2
    refine wp_loop_rounds 1 ?_
    rw [rounds_succ]
    go_wp2
    go_ret2
    exact ⟨hb1, _, rfl, by rw [HE.out]; exact ⟨_, _, rfl, hO2, hO3⟩⟩
  · have hk2 : 2 ≤ l.length / n := (Nat.le_div_iff_mul_le h1).2 (by omega)
    have hkl := Nat.div_mul_le_self l.length n
    have hd1 := dst_one (sm (G l n)) hl (by omega) h1 (by show _ % 2 ^ 64 % _ = _; rw [Nat.mod_mod_of_dvd _ (pow_le h8)])
    go_enter Tryd.func18, Tryd.ntmps18
    go_wp2_with fail
    refine (grouped_any _ _ _ _ _ (by omega)).mono ?_
    rintro e w1 ⟨rfl, rfl⟩
    rw [hg]
    clear hg
    go_wp2_with fail
    refine (clone8_any A l.length c l w rfl (by omega) h).mono ?_
    rintro e w1 ⟨hb1, o, rfl, hown⟩
    obtain ⟨g, c', rfl, hg, hc', _, hrow⟩ := Row.of_own hown (by omega)
    clear hown
    go_wp2
    go_loopw [8] (fun i wr => ∃ j p : Nat, 1 ≤ j ∧ j ≤ l.length / n ∧ Hid (p = j * n) ∧ i = .int .i64 p ∧ p ≤ l.length ∧ n ≤ p ∧ Hid (Row wr g 5 .u8 (dst (sm (G l n)) l n j)) ∧ Below w.heap.size w wr) (fun i _ => l.length - (intOf i).toNat)
    case atStart => exact ⟨1, n, Nat.le_refl _, by omega, (show n = 1 * n by omega), rfl, by omega, Nat.le_refl _, (show Row _ _ _ _ _ by rw [hd1]; exact hrow), hb1⟩
    case round =>
      obtain ⟨j, p, hj1, hj2, HP, rfl, hp, hnp, HR, hB⟩ := hrel
      clear hd1 hrow hb1
      by_cases hlt : p + n ≤ l.length
      · obtain ⟨ad, rfl, hab, _⟩ := (h.below hB).int (j := p) (by omega)
        go_wp2
        refine wp_region_still_tail 21 (by kernel_rfl) (by kernel_rfl) ?_
        simp only [List.take_succ_cons, List.take_zero, List.drop_succ_cons, List.drop_zero]
        have HD : (dst (sm (G l n)) l n j).length = l.length := dst_len _ (by have e1 : p = j * n := HP.out; omega)
        have hR2 : Rd wr wr.heap.size (some ⟨g, p - n, none⟩) (ints .u8 (((dst (sm (G l n)) l n j).drop (p - n)).take n)) := HR.out.rd (by rw [HD]; omega)
        have hy : Bytes (dst (sm (G l n)) l n j) := (jn_bytes _ _ _).app (hl.drop _)
        have hlen : (((dst (sm (G l n)) l n j).drop (p - n)).take n).length = n := by rw [List.length_take, List.length_drop, HD]; omega
        have HDD := Lib.hid HD
        have HLL := Lib.hid hlen
        clear HD hlen
        obtain ⟨s1, s2, s3⟩ := at_sum hlt (by omega)
        obtain ⟨d1, d2, d3⟩ := at_diff hnp hp (by omega)
        have q1 : ¬ c = p := by omega
        have q2 : ¬ c' = p := by omega
        have q3 : ¬ c' = p - n := by omega
        have r6 : p ≤ c' := by omega
        have r1 : (p : Int) + n ≤ c' := by omega
        have r2 : (p : Int) + n ≤ c := by omega
        have r3 : p ≤ c := by omega
        have r4 : (p : Int) - n ≤ p := by omega
        have r5 : p - (p - n) = n := by omega
        repeat still_step
        still_call (still (number_any _ _ _ ((l.drop p).take n) _ (by simp; omega) h8 ((hl.drop _).take _) (((h.below hB).sub p n).more hB.size)))
        repeat still_step
        still_call (still (number_any _ _ _ (((dst (sm (G l n)) l n j).drop (p - n)).take n) _ HLL.out h8 ((hy.drop _).take _) hR2))
        repeat still_step
        refine wpStill_nil ?_
        clear s1 s2 s3 d1 d2 d3 q1 q2 q3 r1 r2 r3 r4 r5 r6 hR2 hy HLL
        go_wp2_with fail
        have HX : IntKind.u64.wrap (((gv ((l.drop p).take n) : Nat) : Int) + ((gv (((dst (sm (G l n)) l n j).drop (p - n)).take n) : Nat) : Int)) = (((G l n j + sm (G l n) (j - 1) % 256 ^ n) % 2 ^ 64 : Nat) : Int) := by
          have e1 : p = j * n := HP.out
          rw [add_u64, e1, dst_last _ hj1]; rfl
        have HG : gb n ((G l n j + sm (G l n) (j - 1) % 256 ^ n) % 2 ^ 64) = gb n (sm (G l n) j) := by
          obtain ⟨t, rfl⟩ : ∃ t, j = t + 1 := ⟨j - 1, by omega⟩
          rw [gb_mod64 h8]
          show _ = gb n ((sm (G l n) t + G l n (t + 1)) % 2 ^ 64)
          rw [gb_mod64 h8, Nat.add_comm]
          exact gb_congr (mod_add_congr (Nat.mod_mod _ _) rfl)
        rw [HX]
        clear HX
        refine (put_any g p n (c' - p) _ _ wr.drew (by rw [HDD.out]; omega) (by omega) (Nat.mod_lt _ (by decide)) HR.out.drew).mono ?_
        rintro e w2 ⟨⟨v, rfl⟩, hg2, hs2, hr2⟩
        rw [HG] at hr2
        have HR2 := Lib.hid hr2
        have hB2 : Below w.heap.size w w2 := below_of_grown hB.drew hg2 hB.size hg
        clear hr2 hg2 hs2 HG
        go_wp2
        go_roundw
        case rel =>
          refine ⟨j + 1, p + n, by omega, ?_, ?_, by go_num, by omega, by omega, ?_, hB2⟩
          · have e1 : p = j * n := HP.out
            have : (j + 1) * n ≤ l.length := by rw [Nat.succ_mul]; omega
            exact (Nat.le_div_iff_mul_le h1).2 this
          · have e1 : p = j * n := HP.out
            show p + n = (j + 1) * n
            rw [Nat.succ_mul]; omega
          · have e1 : p = j * n := HP.out
            show Row _ _ _ _ _
            rw [← dst_step, ← e1]
            exact HR2.out
        case measure => simp [intOf]; omega
      · have hjk : j = l.length / n := by
          have e1 : p = j * n := HP.out
          rcases Nat.lt_or_ge j (l.length / n) with h2 | h2
          · have := mul_le_of h2
            omega
          · omega
        have HE : Hid (dst (sm (G l n)) l n j = undeltaB l n) := by show _ = _; rw [hjk]; rfl
        have HD : Hid ((undeltaB l n).length = l.length) := undeltaB_len l n
        clear hjk
        go_wp2
        go_ret2
        refine ⟨hB, _, rfl, ?_⟩
        have hr := HR.out
        rw [HE.out] at hr
        rw [← HD.out]
        exact IsL.row hr (by rw [HD.out]; exact hc')
end Go.Proofs.YtmoenbdooilceaaDoor
