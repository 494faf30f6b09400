/-
  Walks: package ratio's natural numbers: Mul.
-/
import Derived.Test.YtpkhgdnkkdhlcaaGreatDoorNatV
namespace Go.Proofs.YtpkhgdnkkdhlcaaGreatDoor
open Go.RowKit Ar

theorem mul_inner {Z Z' c p x y r s T m : Nat} (h : Z + c * p = T) (hs : s = x * y + r + c) (hset : Z' + p * r = Z + p * (s % B)) (hm : m = p * (x * y)) : Z' + s / B * (p * B) = T + m := by
  have := Nat.mod_add_div s B
  have e : p * (s % B + B * (s / B)) = p * s := by rw [this]
  rw [Nat.mul_add] at e
  have e2 : s / B * (p * B) = p * (B * (s / B)) := by grind
  rw [e2]
  subst hs
  have : p * (x * y + r + c) = p * (x * y) + p * r + c * p := by grind
  omega

set_option maxHeartbeats 1600000 in
/-- The walk behind the early returns. -/
theorem mul_any (a b : Nat) (v u : Value) (w : World) (h : IsN w w.heap.size .u32 v a) (h' : IsN w w.heap.size .u32 u b) (hl : (limbs a).length ≤ 1000000000000) (hl' : (limbs b).length ≤ 1000000000000) :
    Calls Tryz.prog 141 #[v, u] w fun e w' => Below w.heap.size w w' ∧ ∃ v, e = .returned v ∧ IsN w' w'.heap.size .u32 v (a * b) := by
  have ha := h
  have hb := h'
  obtain ⟨A, c, rfl, h1, h3⟩ := h
  obtain ⟨A2, c2, rfl, k1, k3⟩ := h'
  have one1 := one_any a _ w ha hl
  have one2 := one_any b _ w hb hl'
  by_cases h0 : (limbs a).length = 0
  · have hz : a = 0 := limbs_len_zero.1 h0
    have HO : ∀ w', IsN w' w'.heap.size .u32 (.slice none 0 0) (a * b) := fun w' => by rw [hz, Nat.zero_mul]; exact IsN.nil _ _ _
    rw [h0]
    clear one1 one2 ha hb h1 h3 h0 hz
    generalize (limbs b).length = m at *
    go_enter Tryz.func141, Tryz.ntmps141
    go_wp2
    go_ret
    exact ⟨Below.refl _ _, _, rfl, HO _⟩
  by_cases h0' : (limbs b).length = 0
  · have hz : b = 0 := limbs_len_zero.1 h0'
    have HO : ∀ w', IsN w' w'.heap.size .u32 (.slice none 0 0) (a * b) := fun w' => by rw [hz, Nat.mul_zero]; exact IsN.nil _ _ _
    rw [h0']
    clear one1 one2 ha hb h1 h3 h0' hz
    generalize (limbs a).length = m at *
    go_enter Tryz.func141, Tryz.ntmps141
    go_wp2
    go_ret
    exact ⟨Below.refl _ _, _, rfl, HO _⟩
  by_cases hb1 : b = 1
  · have HO : IsN w w.heap.size .u32 (.slice A (limbs a).length c) (a * b) := by rw [hb1, Nat.mul_one]; exact ha
    have ed : decide (b = 1) = true := by simp [hb1]
    rw [ed] at one2
    have O2 := Lib.hid one2
    clear one1 one2 ha hb hb1 ed
    generalize (limbs a).length = n at *
    generalize (limbs b).length = m at *
    have z1 : ((n : Int) == 0) = false := by rw [beq_eq_false_iff_ne]; omega
    have z2 : ((m : Int) == 0) = false := by rw [beq_eq_false_iff_ne]; omega
    go_enter Tryz.func141, Tryz.ntmps141
    go_wp2_with fail
    refine O2.out.mono ?_
    rintro e w1 ⟨rfl, rfl⟩
    go_wp2
    go_ret
    exact ⟨Below.refl _ _, _, rfl, HO⟩
  by_cases ha1 : a = 1
  · have HO : IsN w w.heap.size .u32 (.slice A2 (limbs b).length c2) (a * b) := by rw [ha1, Nat.one_mul]; exact hb
    have ed : decide (b = 1) = false := by simp [hb1]
    rw [ed] at one2
    have O2 := Lib.hid one2
    have ed' : decide (a = 1) = true := by simp [ha1]
    rw [ed'] at one1
    have O1 := Lib.hid one1
    clear one1 one2 ha hb hb1 ha1 ed ed'
    generalize (limbs a).length = n at *
    generalize (limbs b).length = m at *
    have z1 : ((n : Int) == 0) = false := by rw [beq_eq_false_iff_ne]; omega
    have z2 : ((m : Int) == 0) = false := by rw [beq_eq_false_iff_ne]; omega
    go_enter Tryz.func141, Tryz.ntmps141
    go_wp2_with fail
    refine O2.out.mono ?_
    rintro e w1 ⟨rfl, rfl⟩
    go_wp2_with fail
    refine O1.out.mono ?_
    rintro e w1 ⟨rfl, rfl⟩
    go_wp2
    go_ret
    exact ⟨Below.refl _ _, _, rfl, HO⟩
  have ed : decide (b = 1) = false := by simp [hb1]
  rw [ed] at one2
  have O2 := Lib.hid one2
  have ed' : decide (a = 1) = false := by simp [ha1]
  rw [ed'] at one1
  have O1 := Lib.hid one1
  have hv := val_limbs a
  have hsm := Small.limbs a
  have kv := val_limbs b
  have ksm := Small.limbs b
  clear one1 one2 ha hb hb1 ha1 ed ed'
  generalize limbs a = l at *
  generalize limbs b = m at *
  have z1 : ((l.length : Int) == 0) = false := by rw [beq_eq_false_iff_ne]; omega
  have z2 : ((m.length : Int) == 0) = false := by rw [beq_eq_false_iff_ne]; omega
  have hmk := make_u32 (l.length + m.length) ((l.length : Int) + (m.length : Int)) (by omega) (by omega)
  go_enter Tryz.func141, Tryz.ntmps141
  go_wp2_with fail
  refine O2.out.mono ?_
  rintro e w1 ⟨rfl, rfl⟩
  go_wp2_with fail
  refine O1.out.mono ?_
  rintro e w1 ⟨rfl, rfl⟩
  go_wp2_with fail
  clear O1 O2 hmk
  go_loopw [34] (fun i wr => ∃ (j : Nat) (zs : List Nat), j ≤ l.length ∧ i = .int .i64 j ∧ zs.length = l.length + m.length ∧ Small zs ∧ Hid (val zs = val (l.take j) * b) ∧ Hid (∀ t, j + m.length ≤ t → zs.getD t 0 = 0) ∧
      Bk wr w.heap.size 105 (ints .u32 zs).toArray ∧ Below w.heap.size w wr) (fun i _ => l.length - (intOf i).toNat)
  case atStart => exact ⟨0, List.replicate (l.length + m.length) 0, Nat.zero_le _, rfl, by simp, Small.replicate _, by show val _ = _; rw [val_replicate]; simp [val], (fun t _ => by rw [List.getD_eq_getElem?_getD, List.getElem?_replicate]; split <;> rfl), Bk.new _ _ _, (Below.refl _ _).alloc (Nat.le_refl _) _⟩
  case round =>
    obtain ⟨j, zs, hj, rfl, hz, hzs, HV, HZ, hbk, hbel⟩ := hrel
    by_cases hlt : j < l.length
    · obtain ⟨ad, rfl, hb, hcell⟩ := (h3.below hbel).int (j := j) hlt
      have hx : l.getD j 0 < 1000000000 := hsm.getD j
      have HX := Lib.hid (val_take_ge l j)
      generalize l.getD j 0 = x at *
      go_wp2_with fail
      obtain ⟨wo, hwo⟩ : ∃ wo : World, wo = wr := ⟨_, rfl⟩
      subst hwo
      go_loopw [8, 41] (fun carry i wi => ∃ (k c : Nat) (ys : List Nat), k ≤ m.length ∧ i = .int .i64 k ∧ carry = .int .u64 c ∧ c < 1000000000 ∧ ys.length = l.length + m.length ∧ Small ys ∧
          Hid (val ys + c * B ^ (j + k) = val (l.take j) * b + B ^ j * (x * val (m.take k))) ∧ Hid (∀ t, j + m.length ≤ t → ys.getD t 0 = 0) ∧
          Bk wi w.heap.size 105 (ints .u32 ys).toArray ∧ Below w.heap.size w wi) (fun _ i _ => m.length - (intOf i).toNat)
      case atStart => exact ⟨0, 0, zs, Nat.zero_le _, rfl, rfl, by omega, hz, hzs, by show _ = _; rw [HV.out]; simp [val], HZ.out, hbk, hbel⟩
      case round =>
        obtain ⟨k, c', ys, hk, rfl, rfl, hc', hy1, hys, HW, HZ2, hbk2, hbel2⟩ := hrel
        by_cases hltk : k < m.length
        · obtain ⟨ad2, rfl, hb2, hcell2⟩ := (k3.below hbel2).int (j := k) hltk
          have hy : m.getD k 0 < 1000000000 := ksm.getD k
          have HY := Lib.hid (val_take_ge m k)
          have hr : ys.getD (j + k) 0 < 1000000000 := hys.getD (j + k)
          have hcell3 := hbk2.cell (j + k)
          rw [ints_getD .u32 ys (by omega)] at hcell3
          have hfr := hbk2.frozen (j + k)
          have HS := Lib.hid (fun v => val_set ys (j + k) v (by omega))
          generalize m.getD k 0 = y at *
          generalize ys.getD (j + k) 0 = r at *
          have hp0 : (0 : Int) ≤ (x : Int) * (y : Int) := Int.mul_nonneg (by omega) (by omega)
          have hp1 : (x : Int) * (y : Int) ≤ 999999998000000001 := by
            have : x * y ≤ 999999999 * 999999999 := Nat.mul_le_mul (by omega) (by omega)
            have : ((x * y : Nat) : Int) ≤ ((999999999 * 999999999 : Nat) : Int) := by omega
            rw [Int.natCast_mul] at this; omega
          go_wp2
          go_roundw
          case rel =>
            have hsd : (x * y + r + c') % B < B := Nat.mod_lt _ B_pos
            have eS : ((x * y + r + c' : Nat) : Int) = (x : Int) * (y : Int) + (r : Int) + (c' : Int) := by rw [Int.natCast_add, Int.natCast_add, Int.natCast_mul]
            have eT : ∀ u : Nat, ∀ v : Int, (Value.int .u64 v = Value.int .u64 (u : Int)) = (v = (u : Int)) := fun u v => by simp
            refine ⟨k + 1, (x * y + r + c') / B, ys.set (j + k) ((x * y + r + c') % B), by omega, by go_num, ?_, mul_carry hx hy hr hc' rfl, by simpa using hy1, hys.set hsd, ?_, ?_, ?_, ?_⟩
            · rw [eT, Int.natCast_ediv, eS]; rfl
            · have e1 := mul_inner HW.out rfl (HS.out ((x * y + r + c') % B)) (m := B ^ j * (x * (B ^ k * y))) (by rw [Nat.pow_add]; grind)
              rw [HY.out, show j + (k + 1) = (j + k) + 1 from rfl, Nat.pow_succ]
              refine Eq.trans e1 ?_
              grind
            · intro t ht
              rw [List.getD_eq_getElem?_getD, List.getElem?_set_ne (by omega), ← List.getD_eq_getElem?_getD]
              exact HZ2.out t ht
            · have := hbk2.put (j + k) (.int .u32 (((x * y + r + c') % B : Nat) : Int))
              rw [ints_set, Int.natCast_emod, eS] at this
              exact this
            · exact hbel2.setCell (Nat.le_refl _) _
          case measure => simp [intOf]; omega
        · obtain rfl : k = m.length := by omega
          have hcell3 := hbk2.cell (j + m.length)
          rw [ints_getD .u32 ys (by omega), HZ2.out _ (Nat.le_refl _)] at hcell3
          have hfr := hbk2.frozen (j + m.length)
          have hB := B_eq
          go_wp2
          go_roundw
          case rel =>
            refine ⟨j + 1, ys.set (j + m.length) c', by omega, by go_num, by simpa using hy1, hys.set hc', ?_, ?_, ?_, hbel2.setCell (Nat.le_refl _) _⟩
            · have e1 := val_set ys (j + m.length) c' (by omega)
              rw [HZ2.out _ (Nat.le_refl _), Nat.mul_zero, Nat.add_zero] at e1
              have e2 := HW.out
              rw [val_take_all m (Nat.le_refl _), kv] at e2
              rw [e1, HX.out]
              show _ = (_ + B ^ j * x) * b
              rw [Nat.mul_comm (B ^ _) c', e2]
              grind
            · intro t ht
              rw [List.getD_eq_getElem?_getD, List.getElem?_set_ne (by omega), ← List.getD_eq_getElem?_getD]
              exact HZ2.out t (by omega)
            · have := hbk2.put (j + m.length) (.int .u32 (c' : Int))
              rw [ints_set] at this
              exact this
          case measure => simp [intOf]; omega
    · obtain rfl : j = l.length := by omega
      have hZ : val zs = a * b := by
        have := HV.out
        rwa [val_take_all l (Nat.le_refl _), hv] at this
      have hrd := hbk.rd
      go_wp2_with fail
      refine (trim_any _ _ (l.length + m.length) zs _ hz (by omega) (by omega) (by simpa using hrd)).mono ?_
      rintro e w2 ⟨rfl, k, hT, rfl⟩
      have hk := hT.len hzs
      have ht := hT.eq hzs
      rw [hZ] at hk ht
      have HO : IsN wr wr.heap.size .u32 (.slice (some ⟨w.heap.size, 0, none⟩) k (l.length + m.length)) (a * b) :=
        ⟨_, _, by rw [← hk], by rw [← hk]; have := hT.1; omega, by rw [ht, ints_take]; exact (show Rd wr _ _ (ints .u32 zs) by simpa using hrd).take k⟩
      clear hk ht hZ hT
      go_wp2
      go_ret
      exact ⟨hbel, _, rfl, HO⟩
end Go.Proofs.YtpkhgdnkkdhlcaaGreatDoor

