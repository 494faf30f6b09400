/-
  Walks: the reference of package codec: Shuffle, Unshuffle.
-/
import Derived.Test.YtmoenbdooilceaaDoorCodI
namespace Go.Proofs.YtmoenbdooilceaaDoor
open Go.RowKit By

/-- The first k bytes of shuffled bytes, and of what undoes it. -/
def shP (l : List Nat) (n k : Nat) : List Nat := (List.range k).map fun t => l.getD (pl l.length n t) 0
def unP (l : List Nat) (n k : Nat) : List Nat := (List.range k).map fun t => l.getD (ql l.length n t) 0
theorem shP_succ (l : List Nat) (n k : Nat) : shP l n (k + 1) = shP l n k ++ [l.getD (pl l.length n k) 0] := by simp [shP, List.range_succ]
theorem unP_succ (l : List Nat) (n k : Nat) : unP l n (k + 1) = unP l n k ++ [l.getD (ql l.length n k) 0] := by simp [unP, List.range_succ]
theorem shP_end (l : List Nat) (n : Nat) : shP l n (l.length / n * n) ++ l.drop (l.length / n * n) = shufB l n := map_rest l _ (Nat.div_mul_le_self _ _) fun _ h => pl_rest h
theorem unP_end (l : List Nat) (n : Nat) : unP l n (l.length / n * n) ++ l.drop (l.length / n * n) = unshB l n := map_rest l _ (Nat.div_mul_le_self _ _) fun _ h => ql_rest h

set_option maxRecDepth 100000 in
set_option maxHeartbeats 3200000 in
theorem rshuffle_any (A : Option Addr) (c n : Nat) (l : List Nat) (w : World) (h1 : 1 ≤ n) (h8 : n ≤ 8) (hl : l.length ≤ c) (hm : l.length ≤ 1048576) (h : Rd w w.heap.size A (ints .u8 l)) :
    Calls Tryd.prog 22 #[.slice A l.length c, .int .i64 n] w fun e w' => Below w.heap.size w w' ∧ ∃ v, e = .returned (.tuple #[v, .int .i64 0]) ∧ IsL w' w'.heap.size .u8 v (shufB l n) := by
  have hg : grE n l.length = 0 := by unfold grE; rw [if_neg (by omega), if_neg (by omega)]
  obtain ⟨i0, hi0, hz0, hz1, hz2⟩ := info_parts Tryd.u8_info
  obtain ⟨K, hK⟩ : ∃ K, K = l.length / n := ⟨_, rfl⟩
  have hKm : K ≤ l.length := by rw [hK]; exact Nat.div_le_self _ _
  have hKn : K * n ≤ l.length := by rw [hK]; exact Nat.div_mul_le_self _ _
  have x1 : (l.length : Int).tdiv (n : Int) = (K : Int) := by rw [Int.tdiv_eq_ediv_of_nonneg (by omega), hK]; simp
  have x2 : ¬ (n : Int) = 0 := by omega
  have hmk := make_room 22 5 i0 .u8 Tryd.underlying22 hi0 hz0 hz1 (by omega) (l.length : Int) l.length rfl (by omega)
  have HK := Lib.hid hK
  clear hK
  go_enter Tryd.func22, Tryd.ntmps22
  go_wp2_with fail
  refine (asked_any _ _ _ _ _ (by omega)).mono ?_
  rintro e w1 ⟨rfl, rfl⟩
  rw [hg]
  clear hg
  have hown0 : (w.alloc (.cells (ints .u8 (List.replicate l.length 0)).toArray 5)).ownsRow w.heap.size 5 1 (.slice (some ⟨w.heap.size, 0, none⟩) 0 l.length) 0 (ints .u8 []) := by
    have := (Bk.new w 5 (ints .u8 (List.replicate l.length 0)).toArray).own (base := w.heap.size) (size := 1) (n := 0) (cap := l.length) (Nat.le_refl _) (Nat.zero_le _) (by unfold maxLen; omega) (by simp [ints_length])
    rw [Nat.zero_mul, List.take_zero] at this
    exact this
  have hB0 : Below w.heap.size w (w.alloc (.cells (ints .u8 (List.replicate l.length 0)).toArray 5)) := (Below.refl _ _).alloc (Nat.le_refl _) _
  go_wp2
  clear x1 x2 hmk
  go_loopw [8, 9] (fun v i wr => ∃ a q : Nat, a ≤ n ∧ Hid (q = a * K) ∧ i = .int .i64 a ∧ q ≤ l.length ∧ wr.ownsRow w.heap.size 5 1 v q (ints .u8 (shP l n q)) ∧ Below w.heap.size w wr) (fun _ i _ => n - (intOf i).toNat)
  case atStart => exact ⟨0, 0, Nat.zero_le _, (show 0 = 0 * _ by omega), rfl, Nat.zero_le _, hown0, hB0⟩
  case round =>
    clear hown0 hB0
    obtain ⟨a, q, ha, HQ, rfl, hq, hown, hB⟩ := hrel
    by_cases hlt : a < n
    · obtain ⟨wo, rfl⟩ : ∃ wo : World, wo = wr := ⟨_, rfl⟩
      have hqK : q + K ≤ l.length := by
        have h3 : (a + 1) * K ≤ n * K := Nat.mul_le_mul_right _ (by omega)
        have := HQ.out
        rw [Nat.succ_mul] at h3
        have h4 : n * K = K * n := Nat.mul_comm _ _
        omega
      go_wp2
      go_loopw [8, 10] (fun v i wr => ∃ b : Nat, b ≤ K ∧ i = .int .i64 b ∧ wr.ownsRow w.heap.size 5 1 v (q + b) (ints .u8 (shP l n (q + b))) ∧ Below w.heap.size w wr) (fun _ i _ => K - (intOf i).toNat)
      case atStart => exact ⟨0, Nat.zero_le _, rfl, hown, hB⟩
      case round =>
        clear hown hB
        obtain ⟨b, hb, rfl, hown, hB⟩ := hrel
        by_cases hlt2 : b < K
        · obtain ⟨y, hy⟩ : ∃ y, y = b * n := ⟨_, rfl⟩
          obtain ⟨z, rfl⟩ : ∃ z, a = z := ⟨_, rfl⟩
          have hyz : y + a < l.length := by
            have h3 : (b + 1) * n ≤ K * n := Nat.mul_le_mul_right _ (by omega)
            rw [Nat.succ_mul] at h3
            omega
          have y1 : (b : Int) * (n : Int) = (y : Int) := by rw [hy]; simp
          have hpl : pl l.length n (q + b) = y + a := by
            rw [hy, HQ.out, HK.out]
            exact pl_group (by rw [← HK.out]; exact hlt2) hlt
          clear hy
          obtain ⟨ad, rfl, hab, hcell⟩ := (h.below hB).int (j := y + a) hyz
          have HP : Hid (shP l n (q + (b + 1)) = shP l n (q + b) ++ [l.getD (y + a) 0]) := by
            show _ = _
            rw [← Nat.add_assoc, shP_succ, hpl]
          clear hpl
          generalize l.getD (y + a) 0 = x at *
          go_wp2_with (at_builtin; refine wpL_append _ rfl (.tmp 34) (.tmp 43) _ rfl w.heap.size 5 i0 _ 1 1 Tryd.underlying22 hi0 hz0 hz1 hz2 rfl (by omega) _ (q + b) (ints .u8 (shP l n (q + b))) rfl (hown.alloc _) (some ⟨wr.heap.size, 0, none⟩) 1 1 [.int .u8 (x : Int)] rfl rfl (Rd.of_new wr [.int .u8 (x : Int)] 5) (by intro u hu; simp at hu; subst hu; rfl) (by unfold maxLen; omega) (by omega) (by have := hB.size; simp; omega) ?_; intro v1 w1 hown1 hg1 hat1)
          have HO : Hid (w1.ownsRow w.heap.size 5 1 v1 (q + (b + 1)) (ints .u8 (shP l n (q + (b + 1))))) := by
            show World.ownsRow _ _ _ _ _ _ _
            rw [HP.out, ints_append]
            exact hown1
          have hB1 : Below w.heap.size w w1 := below_app (hB.alloc hB.size _) hg1 (by have := hB.size; simp; omega) (hown.alloc _) (Nat.le_refl _)
          clear hown hown1 HP y1
          go_wp2
          go_roundw
          case rel => exact ⟨b + 1, by omega, by go_num, HO.out, hB1⟩
          case measure => simp [intOf]; omega
        · obtain rfl : b = K := by omega
          have HO := Lib.hid hown
          clear hown
          go_wp2
          go_roundw
          case rel => exact ⟨a + 1, q + b, by omega, (show q + b = (a + 1) * b by have := HQ.out; rw [Nat.succ_mul]; omega), by go_num, hqK, HO.out, hB⟩
          case measure => simp [intOf]; omega
    · obtain rfl : n = a := by omega
      obtain ⟨q0, hq0⟩ : ∃ q0, q0 = K * n := ⟨_, rfl⟩
      have y1 : (K : Int) * (n : Int) = (q0 : Int) := by rw [hq0]; simp
      have hqq : q = q0 := by have := HQ.out; rw [hq0, this]; exact Nat.mul_comm _ _
      have HE : Hid (shP l n q ++ l.drop q0 = shufB l n) := by
        show _ = _
        rw [hqq, hq0, HK.out]; exact shP_end l n
      have hr := (h.below hB).cut (k := q0) (cap := c) (by rw [ints_length]; exact hl)
      rw [← ints_drop] at hr
      have hql : q0 ≤ l.length := by omega
      clear hq0 hqq
      by_cases hcq : c = q0
      · rw [if_pos hcq] at hr
        obtain rfl : q0 = c := hcq.symm
        have HE0 : Hid (l.drop q0 = []) := List.drop_eq_nil_of_le hl
        rw [HE0.out] at HE
        clear hr HE0
        go_wp2_with (at_builtin; refine wpL_append _ rfl (.tmp 45) (.tmp 50) _ rfl w.heap.size 5 i0 _ 1 1 Tryd.underlying22 hi0 hz0 hz1 hz2 rfl (by omega) _ q (ints .u8 (shP l n q)) rfl hown A 0 0 (ints .u8 []) rfl rfl (Rd.nil (B := 0)) (ints_one _ _) (by unfold maxLen; omega) (by omega) hB.size ?_; intro v1 w1 hown1 hg1 hat1)
        have HO : Hid (IsL w1 w1.heap.size .u8 v1 (shufB l n)) := by
          rw [← ints_append, HE.out] at hown1
          exact IsL.of_own hown1
        have hB1 : Below w.heap.size w w1 := below_app hB hg1 hB.size hown (Nat.le_refl _)
        clear hown hown1
        go_wp2
        go_ret2
        exact ⟨hB1, _, rfl, HO.out⟩
      · rw [if_neg hcq] at hr
        go_wp2_with (at_builtin; refine wpL_append _ rfl (.tmp 45) (.tmp 50) _ rfl w.heap.size 5 i0 _ 1 1 Tryd.underlying22 hi0 hz0 hz1 hz2 rfl (by omega) _ q (ints .u8 (shP l n q)) rfl hown (A.map (·.add q0)) (l.length - q0) (c - q0) (ints .u8 (l.drop q0)) rfl (by rw [ints_length, List.length_drop, Nat.mul_one]) (hr.more hB.size) (ints_one _ _) (by unfold maxLen; omega) (by omega) hB.size ?_; intro v1 w1 hown1 hg1 hat1)
        have HO : Hid (IsL w1 w1.heap.size .u8 v1 (shufB l n)) := by
          rw [← ints_append, HE.out] at hown1
          exact IsL.of_own hown1
        have hB1 : Below w.heap.size w w1 := below_app hB hg1 hB.size hown (Nat.le_refl _)
        clear hown hown1
        go_wp2
        go_ret2
        exact ⟨hB1, _, rfl, HO.out⟩

set_option maxRecDepth 100000 in
set_option maxHeartbeats 3200000 in
theorem runshuffle_any (A : Option Addr) (c n : Nat) (l : List Nat) (w : World) (h1 : 1 ≤ n) (h8 : n ≤ 8) (hl : l.length ≤ c) (hm : l.length ≤ 1048576) (h : Rd w w.heap.size A (ints .u8 l)) :
    Calls Tryd.prog 24 #[.slice A l.length c, .int .i64 n] w fun e w' => Below w.heap.size w w' ∧ ∃ v, e = .returned (.tuple #[v, .int .i64 0]) ∧ IsL w' w'.heap.size .u8 v (unshB l n) := by
  have hg : grE n l.length = 0 := by unfold grE; rw [if_neg (by omega), if_neg (by omega)]
  obtain ⟨i0, hi0, hz0, hz1, hz2⟩ := info_parts Tryd.u8_info
  obtain ⟨K, hK⟩ : ∃ K, K = l.length / n := ⟨_, rfl⟩
  have hKm : K ≤ l.length := by rw [hK]; exact Nat.div_le_self _ _
  have hKn : K * n ≤ l.length := by rw [hK]; exact Nat.div_mul_le_self _ _
  have x1 : (l.length : Int).tdiv (n : Int) = (K : Int) := by rw [Int.tdiv_eq_ediv_of_nonneg (by omega), hK]; simp
  have x2 : ¬ (n : Int) = 0 := by omega
  have hmk := make_room 22 5 i0 .u8 Tryd.underlying22 hi0 hz0 hz1 (by omega) (l.length : Int) l.length rfl (by omega)
  have HK := Lib.hid hK
  clear hK
  go_enter Tryd.func24, Tryd.ntmps24
  go_wp2_with fail
  refine (asked_any _ _ _ _ _ (by omega)).mono ?_
  rintro e w1 ⟨rfl, rfl⟩
  rw [hg]
  clear hg
  have hown0 : (w.alloc (.cells (ints .u8 (List.replicate l.length 0)).toArray 5)).ownsRow w.heap.size 5 1 (.slice (some ⟨w.heap.size, 0, none⟩) 0 l.length) 0 (ints .u8 []) := by
    have := (Bk.new w 5 (ints .u8 (List.replicate l.length 0)).toArray).own (base := w.heap.size) (size := 1) (n := 0) (cap := l.length) (Nat.le_refl _) (Nat.zero_le _) (by unfold maxLen; omega) (by simp [ints_length])
    rw [Nat.zero_mul, List.take_zero] at this
    exact this
  have hB0 : Below w.heap.size w (w.alloc (.cells (ints .u8 (List.replicate l.length 0)).toArray 5)) := (Below.refl _ _).alloc (Nat.le_refl _) _
  go_wp2
  clear x1 x2 hmk
  go_loopw [8, 9] (fun v i wr => ∃ a q : Nat, a ≤ K ∧ Hid (q = a * n) ∧ i = .int .i64 a ∧ q ≤ l.length ∧ wr.ownsRow w.heap.size 5 1 v q (ints .u8 (unP l n q)) ∧ Below w.heap.size w wr) (fun _ i _ => K - (intOf i).toNat)
  case atStart => exact ⟨0, 0, Nat.zero_le _, (show 0 = 0 * _ by omega), rfl, Nat.zero_le _, hown0, hB0⟩
  case round =>
    clear hown0 hB0
    obtain ⟨a, q, ha, HQ, rfl, hq, hown, hB⟩ := hrel
    by_cases hlt : a < K
    · obtain ⟨wo, rfl⟩ : ∃ wo : World, wo = wr := ⟨_, rfl⟩
      have hqK : q + n ≤ l.length := by
        have h3 : (a + 1) * n ≤ K * n := Nat.mul_le_mul_right _ (by omega)
        have := HQ.out
        rw [Nat.succ_mul] at h3
        have h4 : n * K = K * n := Nat.mul_comm _ _
        omega
      go_wp2
      go_loopw [8, 10] (fun v i wr => ∃ b : Nat, b ≤ n ∧ i = .int .i64 b ∧ wr.ownsRow w.heap.size 5 1 v (q + b) (ints .u8 (unP l n (q + b))) ∧ Below w.heap.size w wr) (fun _ i _ => n - (intOf i).toNat)
      case atStart => exact ⟨0, Nat.zero_le _, rfl, hown, hB⟩
      case round =>
        clear hown hB
        obtain ⟨b, hb, rfl, hown, hB⟩ := hrel
        by_cases hlt2 : b < n
        · obtain ⟨y, hy⟩ : ∃ y, y = b * K := ⟨_, rfl⟩
          have hyz : y + a < l.length := by
            have h3 : (b + 1) * K ≤ n * K := Nat.mul_le_mul_right _ (by omega)
            rw [Nat.succ_mul, Nat.mul_comm n K] at h3
            omega
          have y1 : (b : Int) * (K : Int) = (y : Int) := by rw [hy]; simp
          have hpl : ql l.length n (q + b) = y + a := by
            rw [hy, HQ.out, HK.out]
            exact ql_group (by rw [← HK.out]; exact hlt) hlt2
          clear hy
          obtain ⟨ad, rfl, hab, hcell⟩ := (h.below hB).int (j := y + a) hyz
          have HP : Hid (unP l n (q + (b + 1)) = unP l n (q + b) ++ [l.getD (y + a) 0]) := by
            show _ = _
            rw [← Nat.add_assoc, unP_succ, hpl]
          clear hpl
          generalize l.getD (y + a) 0 = x at *
          go_wp2_with (at_builtin; refine wpL_append _ rfl (.tmp 34) (.tmp 43) _ rfl w.heap.size 5 i0 _ 1 1 Tryd.underlying22 hi0 hz0 hz1 hz2 rfl (by omega) _ (q + b) (ints .u8 (unP l n (q + b))) rfl (hown.alloc _) (some ⟨wr.heap.size, 0, none⟩) 1 1 [.int .u8 (x : Int)] rfl rfl (Rd.of_new wr [.int .u8 (x : Int)] 5) (by intro u hu; simp at hu; subst hu; rfl) (by unfold maxLen; omega) (by omega) (by have := hB.size; simp; omega) ?_; intro v1 w1 hown1 hg1 hat1)
          have HO : Hid (w1.ownsRow w.heap.size 5 1 v1 (q + (b + 1)) (ints .u8 (unP l n (q + (b + 1))))) := by
            show World.ownsRow _ _ _ _ _ _ _
            rw [HP.out, ints_append]
            exact hown1
          have hB1 : Below w.heap.size w w1 := below_app (hB.alloc hB.size _) hg1 (by have := hB.size; simp; omega) (hown.alloc _) (Nat.le_refl _)
          clear hown hown1 HP y1
          go_wp2
          go_roundw
          case rel => exact ⟨b + 1, by omega, by go_num, HO.out, hB1⟩
          case measure => simp [intOf]; omega
        · obtain rfl : n = b := by omega
          have HO := Lib.hid hown
          clear hown
          go_wp2
          go_roundw
          case rel => exact ⟨a + 1, q + n, by omega, (show q + n = (a + 1) * n by have := HQ.out; rw [Nat.succ_mul]; omega), by go_num, hqK, HO.out, hB⟩
          case measure => simp [intOf]; omega
    · obtain rfl : K = a := by omega
      obtain ⟨q0, hq0⟩ : ∃ q0, q0 = K * n := ⟨_, rfl⟩
      have y1 : (K : Int) * (n : Int) = (q0 : Int) := by rw [hq0]; simp
      have hqq : q = q0 := by have := HQ.out; rw [hq0, this]
      have HE : Hid (unP l n q ++ l.drop q0 = unshB l n) := by
        show _ = _
        rw [hqq, hq0, HK.out]; exact unP_end l n
      have hr := (h.below hB).cut (k := q0) (cap := c) (by rw [ints_length]; exact hl)
      rw [← ints_drop] at hr
      have hql : q0 ≤ l.length := by omega
      clear hq0 hqq
      by_cases hcq : c = q0
      · rw [if_pos hcq] at hr
        obtain rfl : q0 = c := hcq.symm
        have HE0 : Hid (l.drop q0 = []) := List.drop_eq_nil_of_le hl
        rw [HE0.out] at HE
        clear hr HE0
        go_wp2_with (at_builtin; refine wpL_append _ rfl (.tmp 45) (.tmp 50) _ rfl w.heap.size 5 i0 _ 1 1 Tryd.underlying22 hi0 hz0 hz1 hz2 rfl (by omega) _ q (ints .u8 (unP l n q)) rfl hown A 0 0 (ints .u8 []) rfl rfl (Rd.nil (B := 0)) (ints_one _ _) (by unfold maxLen; omega) (by omega) hB.size ?_; intro v1 w1 hown1 hg1 hat1)
        have HO : Hid (IsL w1 w1.heap.size .u8 v1 (unshB l n)) := by
          rw [← ints_append, HE.out] at hown1
          exact IsL.of_own hown1
        have hB1 : Below w.heap.size w w1 := below_app hB hg1 hB.size hown (Nat.le_refl _)
        clear hown hown1
        go_wp2
        go_ret2
        exact ⟨hB1, _, rfl, HO.out⟩
      · rw [if_neg hcq] at hr
        go_wp2_with (at_builtin; refine wpL_append _ rfl (.tmp 45) (.tmp 50) _ rfl w.heap.size 5 i0 _ 1 1 Tryd.underlying22 hi0 hz0 hz1 hz2 rfl (by omega) _ q (ints .u8 (unP l n q)) rfl hown (A.map (·.add q0)) (l.length - q0) (c - q0) (ints .u8 (l.drop q0)) rfl (by rw [ints_length, List.length_drop, Nat.mul_one]) (hr.more hB.size) (ints_one _ _) (by unfold maxLen; omega) (by omega) hB.size ?_; intro v1 w1 hown1 hg1 hat1)
        have HO : Hid (IsL w1 w1.heap.size .u8 v1 (unshB l n)) := by
          rw [← ints_append, HE.out] at hown1
          exact IsL.of_own hown1
        have hB1 : Below w.heap.size w w1 := below_app hB hg1 hB.size hown (Nat.le_refl _)
        clear hown hown1
        go_wp2
        go_ret2
        exact ⟨hB1, _, rfl, HO.out⟩
end Go.Proofs.YtmoenbdooilceaaDoor
