/-
  Walks: package ratio's natural numbers: scale, short.
-/
import Derived.Test.YtpkhgdnkkdhlcaaGreatDoorNatU
import Derived.Laws.MakeOwn
namespace Go.Proofs.YtpkhgdnkkdhlcaaGreatDoor
open Go.RowKit Ar

theorem u32_info : (Tryz.prog.info? 105).map (fun i => (i.zero, i.size, i.bytes)) = some (some (.int .u32 0), 1, 4) := by kernel_rfl
theorem make_u32 (n : Nat) (x : Int) (hx : x = (n : Int)) (hn : n ≤ 4000000000000) (w : World) :
    (Instr.makeSlice 100 (.int .i64 x) (.int .i64 x)).run Tryz.prog w = .ok (.slice (some ⟨w.heap.size, 0, none⟩) n n) (w.alloc (.cells (ints .u32 (List.replicate n 0)).toArray 105)) := by
  obtain ⟨i0, hi0, hz0, hz1, hz2⟩ := info_parts u32_info
  exact make_ints _ _ i0 .u32 Tryz.underlying100 hi0 hz0 hz1 (by omega) _ _ n x hx hn w

set_option maxHeartbeats 400000 in
theorem scale_any (a n : Nat) (v : Value) (w : World) (hn : n < B) (h : IsN w w.heap.size .u32 v a) (hl : (limbs a).length ≤ 1000000000000) :
    Calls Tryz.prog 191 #[v, .int .u64 n] w fun e w' => Below w.heap.size w w' ∧ ∃ v, e = .returned v ∧ OwnN w' w.heap.size 105 .u32 v (a * n) := by
  obtain ⟨A, c, rfl, h1, h3⟩ := h
  have hv := val_limbs a
  have hsm := Small.limbs a
  generalize limbs a = l at *
  have hmk := make_u32 (l.length + 1) ((l.length : Int) + 1) (by omega) (by omega)
  go_enter Tryz.func191, Tryz.ntmps191
  go_wp2_with fail
  go_loopw [6, 16] (fun carry i wr => ∃ (j c : Nat) (zs : List Nat), j ≤ l.length ∧ i = .int .i64 j ∧ carry = .int .u64 c ∧ c < 1000000000 ∧ zs.length = l.length + 1 ∧ Small zs ∧ val (zs.take j) + c * B ^ j = val (l.take j) * n ∧
      Bk wr w.heap.size 105 (ints .u32 zs).toArray ∧ Below w.heap.size w wr) (fun _ i _ => l.length - (intOf i).toNat)
  case atStart => exact ⟨0, 0, List.replicate (l.length + 1) 0, Nat.zero_le _, rfl, rfl, by omega, by simp, Small.replicate _, by simp [val], Bk.new _ _ _, (Below.refl _ _).alloc (Nat.le_refl _) _⟩
  case round =>
    obtain ⟨j, c', zs, hj, rfl, rfl, hc', hz, hzs, hval, hbk, hbel⟩ := hrel
    by_cases hlt : j < l.length
    · obtain ⟨ad, rfl, hb, hcell⟩ := (h3.below hbel).int (j := j) hlt
      have hx : l.getD j 0 < 1000000000 := hsm.getD j
      have HV : Hid (val (zs.take j) + c' * B ^ j = val (l.take j) * n) := hval
      have HX := Lib.hid (val_take_snoc l hlt)
      generalize hgx : l.getD j 0 = x at *
      have HG := Lib.hid hgx
      have hp0 : (0 : Int) ≤ (x : Int) * (n : Int) := Int.mul_nonneg (by omega) (by omega)
      have hp1 : (x : Int) * (n : Int) ≤ 999999998000000001 := by
        have : x * n ≤ 999999999 * 999999999 := Nat.mul_le_mul (by omega) (by rw [B_eq] at hn; omega)
        have : ((x * n : Nat) : Int) ≤ ((999999999 * 999999999 : Nat) : Int) := by omega
        rw [Int.natCast_mul] at this; omega
      have hcell2 := hbk.cell j
      rw [ints_getD .u32 zs (by omega)] at hcell2
      have hfr := hbk.frozen j
      clear hval hgx
      go_wp2
      go_roundw
      case rel =>
        have hs : Small (zs.set j ((x * n + c') % B)) := hzs.set (Nat.mod_lt _ B_pos)
        refine ⟨j + 1, (x * n + c') / B, zs.set j ((x * n + c') % B), by omega, by go_num, by simp [B_eq], ?_, by simpa using hz, hs, ?_, ?_, hbel.setCell (Nat.le_refl _) _⟩
        · have := mul_carry (x := x) (y := n) (r := 0) (c := c') (s := x * n + c') hx hn B_pos hc' (by omega)
          rwa [B_eq] at this ⊢
        · rw [take_set_eq zs j _ (by omega), val_snoc, HX.out, List.length_take, Nat.min_eq_left (by omega), Nat.pow_succ]
          have := mul_step (r := 0) HV.out (show x * n + c' = x * n + 0 + c' by omega)
          rw [Nat.mul_zero, Nat.add_zero] at this
          rw [this]; grind
        · have := hbk.put j (.int .u32 (((x * n + c') % B : Nat) : Int))
          rw [ints_set] at this
          have e : (((x * n + c') % B : Nat) : Int) = ((x : Int) * (n : Int) + (c' : Int)) % 1000000000 := by rw [B_eq]; simp
          rw [e] at this
          exact this
      case measure => simp [intOf]; omega
    · obtain rfl : j = l.length := by omega
      have HV : Hid (val (zs.take l.length) + c' * B ^ l.length = val (l.take l.length) * n) := hval
      have hcell2 := hbk.cell l.length
      rw [ints_getD .u32 zs (by omega)] at hcell2
      have hfr := hbk.frozen l.length
      clear hval
      go_wp2_with fail
      have hbk2 := hbk.put l.length (.int .u32 (c' : Int))
      rw [ints_set] at hbk2
      have hs2 : Small (zs.set l.length c') := hzs.set (by rw [B_eq]; exact hc')
      have hval2 : val (zs.set l.length c') = a * n := by
        have h5 := take_set_eq zs l.length c' (by omega)
        rw [List.take_of_length_le (by simp [hz])] at h5
        rw [h5, val_snoc, List.length_take, hz, Nat.min_eq_left (by omega), Nat.mul_comm]
        have := HV.out
        rw [val_take_all l (Nat.le_refl _), hv] at this
        exact this
      have hrd := hbk2.rd
      refine (trim_any _ _ (l.length + 1) (zs.set l.length c') _ (by simpa using hz) (Nat.le_refl _) (by omega) hrd).mono ?_
      rintro e w1 ⟨rfl, k, hT, rfl⟩
      have HO := OwnN.of_trim hbk2 (Nat.le_refl _) (by simpa using hz) (by omega) hs2 hT hval2
      clear hval2 hmk hT
      go_wp2
      go_ret
      exact ⟨hbel.setCell (Nat.le_refl _) _, _, rfl, HO⟩

theorem val_drop (l : List Nat) {j : Nat} (h : j < l.length) : val (l.drop j) = l.getD j 0 + B * val (l.drop (j + 1)) := by
  rw [List.drop_eq_getElem_cons h, val_cons, List.getD_eq_getElem?_getD, List.getElem?_eq_getElem h]; rfl
theorem drop_set_gt (l : List Nat) {i k v : Nat} (h : i < k) : (l.set i v).drop k = l.drop k := by
  apply List.ext_getElem?
  intro j
  rw [List.getElem?_drop, List.getElem?_drop, List.getElem?_set_ne (by omega)]
theorem val_drop_set (l : List Nat) {j v : Nat} (h : j < l.length) : val ((l.set j v).drop j) = v + B * val (l.drop (j + 1)) := by
  rw [val_drop _ (by simpa using h), drop_set_gt l (by omega)]
  congr 1
  rw [List.getD_eq_getElem?_getD, List.getElem?_set_self h]; rfl
theorem short_step {V Z n r x s : Nat} (h : V = Z * n + r) (hs : s = r * B + x) : x + B * V = (s / n + B * Z) * n + s % n := by
  have := Nat.div_add_mod s n
  subst h
  have e1 : (s / n + B * Z) * n = n * (s / n) + B * (Z * n) := by grind
  rw [e1, Nat.mul_add]
  have e2 : B * r = r * B := Nat.mul_comm _ _
  omega

set_option maxHeartbeats 400000 in
theorem short_any (a n : Nat) (v : Value) (w : World) (hn0 : 0 < n) (hn : n ≤ B) (h : IsN w w.heap.size .u32 v a) (hl : (limbs a).length ≤ 1000000000000) :
    Calls Tryz.prog 189 #[v, .int .u64 n] w fun e w' => Below w.heap.size w w' ∧ ∃ v, e = .returned (.tuple #[v, .int .u64 ((a % n : Nat) : Int)]) ∧ OwnN w' w.heap.size 105 .u32 v (a / n) := by
  obtain ⟨A, c, rfl, h1, h3⟩ := h
  have hv := val_limbs a
  have hsm := Small.limbs a
  generalize limbs a = l at *
  have hmk := make_u32 l.length (l.length : Int) rfl (by omega)
  rw [B_eq] at hn
  go_enter Tryz.func189, Tryz.ntmps189
  go_wp2_with fail
  go_loopw [7, 8] (fun rest i wr => ∃ (j r : Nat) (zs : List Nat), j ≤ l.length ∧ i = .int .i64 ((j : Int) - 1) ∧ rest = .int .u64 r ∧ r < n ∧ zs.length = l.length ∧ Small zs ∧ val (l.drop j) = val (zs.drop j) * n + r ∧
      Bk wr w.heap.size 105 (ints .u32 zs).toArray ∧ Below w.heap.size w wr) (fun _ i _ => (intOf i + 1).toNat)
  case atStart => exact ⟨l.length, 0, List.replicate l.length 0, Nat.le_refl _, rfl, rfl, hn0, by simp, Small.replicate _, by simp [val], Bk.new _ _ _, (Below.refl _ _).alloc (Nat.le_refl _) _⟩
  case round =>
    obtain ⟨j, r, zs, hj, rfl, rfl, hr, hz, hzs, hval, hbk, hbel⟩ := hrel
    rcases Nat.eq_zero_or_pos j with rfl | hj0
    · rw [show (((0 : Nat) : Int) - 1) = -1 from rfl]
      have HV := Lib.hid hval
      have hrd := hbk.rd
      clear hval hmk
      go_wp2_with fail
      refine (trim_any _ _ l.length zs _ hz (Nat.le_refl _) (by omega) hrd).mono ?_
      rintro e w1 ⟨rfl, k, hT, rfl⟩
      have hvz : a = val zs * n + r := by have := HV.out; rw [List.drop_zero, List.drop_zero, hv] at this; exact this
      have e1 : a / n = val zs := by rw [hvz, Nat.mul_comm, Nat.mul_add_div hn0, Nat.div_eq_of_lt hr]; rfl
      have e2 : a % n = r := by rw [hvz, Nat.mul_comm, Nat.mul_add_mod, Nat.mod_eq_of_lt hr]
      have HO := OwnN.of_trim hbk (Nat.le_refl _) hz (by omega) hzs hT rfl
      rw [← e1] at HO
      have HE := Lib.hid e2
      clear e1 e2 hvz hT
      go_wp2
      go_ret2
      exact ⟨hbel, _, by rw [HE.out]; rfl, HO⟩
    · obtain ⟨m, rfl⟩ : ∃ m, j = m + 1 := ⟨j - 1, by omega⟩
      rw [show (((m + 1 : Nat) : Int) - 1) = (m : Int) by omega]
      obtain ⟨ad, rfl, hb, hcell⟩ := (h3.below hbel).int (j := m) (by omega)
      have hx : l.getD m 0 < 1000000000 := hsm.getD m
      have HV := Lib.hid hval
      have HX := Lib.hid (val_drop l (j := m) (by omega))
      generalize hgx : l.getD m 0 = x at *
      have hs1 : (r * 1000000000 + x) / n < 1000000000 := by
        apply Nat.div_lt_of_lt_mul
        have : (r + 1) * 1000000000 ≤ n * 1000000000 := Nat.mul_le_mul_right _ hr
        omega
      have hq1 : ((r : Int) * 1000000000 + (x : Int)) / (n : Int) < 1000000000 := by
        have := Int.ofNat_lt.2 hs1
        simpa using this
      have hq0 : 0 ≤ ((r : Int) * 1000000000 + (x : Int)) / (n : Int) := Int.ediv_nonneg (by omega) (by omega)
      have hcell2 := hbk.cell m
      rw [ints_getD .u32 zs (by omega)] at hcell2
      have hfr := hbk.frozen m
      clear hval hgx hmk hj0
      go_wp2
      go_roundw
      case rel =>
        refine ⟨m, (r * B + x) % n, zs.set m ((r * B + x) / n), by omega, by go_num, by simp [B_eq], Nat.mod_lt _ hn0, by simpa using hz, hzs.set (by rw [B_eq]; exact hs1), ?_, ?_, hbel.setCell (Nat.le_refl _) _⟩
        · rw [HX.out, val_drop_set zs (by omega)]
          exact short_step HV.out rfl
        · have := hbk.put m (.int .u32 (((r * B + x) / n : Nat) : Int))
          rw [ints_set] at this
          have e : (((r * B + x) / n : Nat) : Int) = ((r : Int) * 1000000000 + (x : Int)) / (n : Int) := by rw [B_eq]; simp
          rw [e] at this
          exact this
      case measure => simp [intOf]

set_option maxHeartbeats 800000 in
theorem add_any (a b : Nat) (v u : Value) (w : World) (h : IsN w w.heap.size .u32 v a) (h' : IsN w w.heap.size .u32 u b) (hl : (limbs a).length ≤ 1000000000000) (hl' : (limbs b).length ≤ 1000000000000) :
    Calls Tryz.prog 142 #[v, u] w fun e w' => Below w.heap.size w w' ∧ ∃ v, e = .returned v ∧ OwnN w' w.heap.size 105 .u32 v (a + b) := by
  obtain ⟨A, c, rfl, h1, h3⟩ := h
  obtain ⟨A2, c2, rfl, k1, k3⟩ := h'
  have hv := val_limbs a
  have hsm := Small.limbs a
  have kv := val_limbs b
  have ksm := Small.limbs b
  generalize limbs a = l at *
  generalize limbs b = m at *
  rcases Nat.lt_or_ge l.length m.length with hlm | hlm
  · have hmk := make_u32 (m.length + 1) ((m.length : Int) + 1) (by omega) (by omega)
    go_enter Tryz.func142, Tryz.ntmps142
    go_wp2_with fail
    go_loopw [6, 23] (fun carry i wr => ∃ (j c : Nat) (zs : List Nat), j ≤ m.length ∧ i = .int .i64 j ∧ carry = .int .u32 c ∧ c ≤ 1 ∧ zs.length = m.length + 1 ∧ Small zs ∧ val (zs.take j) + c * B ^ j = val (m.take j) + val (l.take j) ∧
        Bk wr w.heap.size 105 (ints .u32 zs).toArray ∧ Below w.heap.size w wr) (fun _ i _ => m.length - (intOf i).toNat)
    case atStart => exact ⟨0, 0, List.replicate (m.length + 1) 0, Nat.zero_le _, rfl, rfl, by omega, by simp, Small.replicate _, by simp [val], Bk.new _ _ _, (Below.refl _ _).alloc (Nat.le_refl _) _⟩
    case round =>
      obtain ⟨j, c', zs, hj, rfl, rfl, hc', hz, hzs, hval, hbk, hbel⟩ := hrel
      have hcell2 := hbk.cell j
      rw [ints_getD .u32 zs (by omega)] at hcell2
      have hfr := hbk.frozen j
      have HV := Lib.hid hval
      by_cases hlt : j < m.length
      · obtain ⟨ad, rfl, hb, hcell⟩ := (k3.below hbel).int (j := j) hlt
        have hx : m.getD j 0 < 1000000000 := ksm.getD j
        have hy : l.getD j 0 < 1000000000 := hsm.getD j
        have HX := Lib.hid (val_take_ge m j)
        have HY := Lib.hid (val_take_ge l j)
        have fin : ∀ x y : Nat, x < B → y < B → val (m.take (j + 1)) = val (m.take j) + B ^ j * x → val (l.take (j + 1)) = val (l.take j) + B ^ j * y →
            (x + y + c') / B ≤ 1 ∧ (zs.set j ((x + y + c') % B)).length = m.length + 1 ∧ Small (zs.set j ((x + y + c') % B)) ∧
            val ((zs.set j ((x + y + c') % B)).take (j + 1)) + (x + y + c') / B * B ^ (j + 1) = val (m.take (j + 1)) + val (l.take (j + 1)) ∧
            ∀ u, u = (((x + y + c') % B : Nat) : Int) → Bk (wr.setCell ⟨w.heap.size, j, none⟩ (.int .u32 u)) w.heap.size 105 (ints .u32 (zs.set j ((x + y + c') % B))).toArray := by
          intro x y hx hy ex ey
          refine ⟨carry_le hx hy hc' rfl, by simpa using hz, hzs.set (Nat.mod_lt _ B_pos), ?_, ?_⟩
          · rw [take_set_eq zs j _ (by omega), val_snoc, List.length_take, Nat.min_eq_left (by omega), Nat.pow_succ, ex, ey]
            exact add_step HV.out rfl
          · rintro u rfl
            have := hbk.put j (.int .u32 (((x + y + c') % B : Nat) : Int))
            rw [ints_set] at this
            exact this
        have FIN := Lib.hid fin
        by_cases hltb : j < l.length
        · obtain ⟨ad2, rfl, hb2, hcell3⟩ := (h3.below hbel).int (j := j) hltb
          generalize m.getD j 0 = x at *
          generalize l.getD j 0 = y at *
          clear hval fin hmk
          go_wp2
          go_roundw
          case rel =>
            obtain ⟨f1, f2, f3, f4, f5⟩ := FIN.out x y hx hy HX.out HY.out
            refine ⟨j + 1, (x + y + c') / B, zs.set j ((x + y + c') % B), by omega, by go_num, ?_, f1, f2, f3, f4, f5 _ ?_, hbel.setCell (Nat.le_refl _) _⟩
            · congr 1; rw [B_eq]; omega
            · rw [B_eq]; omega
          case measure => simp [intOf]; omega
        · have hy0 : l.getD j 0 = 0 := by rw [List.getD_eq_getElem?_getD, List.getElem?_eq_none (by omega)]; rfl
          rw [hy0] at HY
          generalize m.getD j 0 = x at *
          clear hval fin hmk hy0 hy
          go_wp2
          go_roundw
          case rel =>
            obtain ⟨f1, f2, f3, f4, f5⟩ := FIN.out x 0 hx B_pos HX.out HY.out
            refine ⟨j + 1, (x + 0 + c') / B, zs.set j ((x + 0 + c') % B), by omega, by go_num, ?_, f1, f2, f3, f4, f5 _ ?_, hbel.setCell (Nat.le_refl _) _⟩
            · congr 1
            · rw [B_eq]; omega
          case measure => simp [intOf]; omega
      · obtain rfl : j = m.length := by omega
        clear hval
        go_wp2_with fail
        have hbk2 := hbk.put m.length (.int .u32 (c' : Int))
        rw [ints_set] at hbk2
        have hs2 : Small (zs.set m.length c') := hzs.set (by rw [B_eq]; omega)
        have hval2 : val (zs.set m.length c') = a + b := by
          have h5 := take_set_eq zs m.length c' (by omega)
          rw [List.take_of_length_le (by simp [hz])] at h5
          rw [h5, val_snoc, List.length_take, hz, Nat.min_eq_left (by omega), Nat.mul_comm]
          have := HV.out
          rw [val_take_all m (Nat.le_refl _), val_take_all l (by omega), kv, hv] at this
          omega
        have hrd := hbk2.rd
        refine (trim_any _ _ (m.length + 1) (zs.set m.length c') _ (by simpa using hz) (Nat.le_refl _) (by omega) hrd).mono ?_
        rintro e w1 ⟨rfl, k, hT, rfl⟩
        have HO := OwnN.of_trim hbk2 (Nat.le_refl _) (by simpa using hz) (by omega) hs2 hT hval2
        clear hval2 hmk hT
        go_wp2
        go_ret
        exact ⟨hbel.setCell (Nat.le_refl _) _, _, rfl, HO⟩
  · have hmk := make_u32 (l.length + 1) ((l.length : Int) + 1) (by omega) (by omega)
    go_enter Tryz.func142, Tryz.ntmps142
    go_wp2_with fail
    go_loopw [6, 23] (fun carry i wr => ∃ (j c : Nat) (zs : List Nat), j ≤ l.length ∧ i = .int .i64 j ∧ carry = .int .u32 c ∧ c ≤ 1 ∧ zs.length = l.length + 1 ∧ Small zs ∧ val (zs.take j) + c * B ^ j = val (l.take j) + val (m.take j) ∧
        Bk wr w.heap.size 105 (ints .u32 zs).toArray ∧ Below w.heap.size w wr) (fun _ i _ => l.length - (intOf i).toNat)
    case atStart => exact ⟨0, 0, List.replicate (l.length + 1) 0, Nat.zero_le _, rfl, rfl, by omega, by simp, Small.replicate _, by simp [val], Bk.new _ _ _, (Below.refl _ _).alloc (Nat.le_refl _) _⟩
    case round =>
      obtain ⟨j, c', zs, hj, rfl, rfl, hc', hz, hzs, hval, hbk, hbel⟩ := hrel
      have hcell2 := hbk.cell j
      rw [ints_getD .u32 zs (by omega)] at hcell2
      have hfr := hbk.frozen j
      have HV := Lib.hid hval
      by_cases hlt : j < l.length
      · obtain ⟨ad, rfl, hb, hcell⟩ := (h3.below hbel).int (j := j) hlt
        have hx : l.getD j 0 < 1000000000 := hsm.getD j
        have hy : m.getD j 0 < 1000000000 := ksm.getD j
        have HX := Lib.hid (val_take_ge l j)
        have HY := Lib.hid (val_take_ge m j)
        have fin : ∀ x y : Nat, x < B → y < B → val (l.take (j + 1)) = val (l.take j) + B ^ j * x → val (m.take (j + 1)) = val (m.take j) + B ^ j * y →
            (x + y + c') / B ≤ 1 ∧ (zs.set j ((x + y + c') % B)).length = l.length + 1 ∧ Small (zs.set j ((x + y + c') % B)) ∧
            val ((zs.set j ((x + y + c') % B)).take (j + 1)) + (x + y + c') / B * B ^ (j + 1) = val (l.take (j + 1)) + val (m.take (j + 1)) ∧
            ∀ u, u = (((x + y + c') % B : Nat) : Int) → Bk (wr.setCell ⟨w.heap.size, j, none⟩ (.int .u32 u)) w.heap.size 105 (ints .u32 (zs.set j ((x + y + c') % B))).toArray := by
          intro x y hx hy ex ey
          refine ⟨carry_le hx hy hc' rfl, by simpa using hz, hzs.set (Nat.mod_lt _ B_pos), ?_, ?_⟩
          · rw [take_set_eq zs j _ (by omega), val_snoc, List.length_take, Nat.min_eq_left (by omega), Nat.pow_succ, ex, ey]
            exact add_step HV.out rfl
          · rintro u rfl
            have := hbk.put j (.int .u32 (((x + y + c') % B : Nat) : Int))
            rw [ints_set] at this
            exact this
        have FIN := Lib.hid fin
        by_cases hltb : j < m.length
        · obtain ⟨ad2, rfl, hb2, hcell3⟩ := (k3.below hbel).int (j := j) hltb
          generalize l.getD j 0 = x at *
          generalize m.getD j 0 = y at *
          clear hval fin hmk
          go_wp2
          go_roundw
          case rel =>
            obtain ⟨f1, f2, f3, f4, f5⟩ := FIN.out x y hx hy HX.out HY.out
            refine ⟨j + 1, (x + y + c') / B, zs.set j ((x + y + c') % B), by omega, by go_num, ?_, f1, f2, f3, f4, f5 _ ?_, hbel.setCell (Nat.le_refl _) _⟩
            · congr 1; rw [B_eq]; omega
            · rw [B_eq]; omega
          case measure => simp [intOf]; omega
        · have hy0 : m.getD j 0 = 0 := by rw [List.getD_eq_getElem?_getD, List.getElem?_eq_none (by omega)]; rfl
          rw [hy0] at HY
          generalize l.getD j 0 = x at *
          clear hval fin hmk hy0 hy
          go_wp2
          go_roundw
          case rel =>
            obtain ⟨f1, f2, f3, f4, f5⟩ := FIN.out x 0 hx B_pos HX.out HY.out
            refine ⟨j + 1, (x + 0 + c') / B, zs.set j ((x + 0 + c') % B), by omega, by go_num, ?_, f1, f2, f3, f4, f5 _ ?_, hbel.setCell (Nat.le_refl _) _⟩
            · congr 1
            · rw [B_eq]; omega
          case measure => simp [intOf]; omega
      · obtain rfl : j = l.length := by omega
        clear hval
        go_wp2_with fail
        have hbk2 := hbk.put l.length (.int .u32 (c' : Int))
        rw [ints_set] at hbk2
        have hs2 : Small (zs.set l.length c') := hzs.set (by rw [B_eq]; omega)
        have hval2 : val (zs.set l.length c') = a + b := by
          have h5 := take_set_eq zs l.length c' (by omega)
          rw [List.take_of_length_le (by simp [hz])] at h5
          rw [h5, val_snoc, List.length_take, hz, Nat.min_eq_left (by omega), Nat.mul_comm]
          have := HV.out
          rw [val_take_all l (Nat.le_refl _), val_take_all m (by omega), hv, kv] at this
          omega
        have hrd := hbk2.rd
        refine (trim_any _ _ (l.length + 1) (zs.set l.length c') _ (by simpa using hz) (Nat.le_refl _) (by omega) hrd).mono ?_
        rintro e w1 ⟨rfl, k, hT, rfl⟩
        have HO := OwnN.of_trim hbk2 (Nat.le_refl _) (by simpa using hz) (by omega) hs2 hT hval2
        clear hval2 hmk hT
        go_wp2
        go_ret
        exact ⟨hbel.setCell (Nat.le_refl _) _, _, rfl, HO⟩
end Go.Proofs.YtpkhgdnkkdhlcaaGreatDoor

