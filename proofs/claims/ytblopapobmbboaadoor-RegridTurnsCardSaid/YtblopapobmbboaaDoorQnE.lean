/-
  Walks: the reference's natural numbers: small; NatDiv where the divisor has one limb, or is greater.
-/
import Derived.Test.YtblopapobmbboaaDoorQnU
namespace Go.Proofs.YtblopapobmbboaaDoor
open Go.RowKit Ar

set_option maxHeartbeats 400000 in
theorem nsmall_any (a n : Nat) (v : Value) (w : World) (hn0 : 0 < n) (hn : n ≤ B) (h : IsN w w.heap.size .u64 v a) (hl : (limbs a).length ≤ 1000000000000) :
    Calls Tryd.prog 87 #[v, .int .u64 n] w fun e w' => Below w.heap.size w w' ∧ ∃ v, e = .returned (.tuple #[v, .int .u64 ((a % n : Nat) : Int)]) ∧ IsN w' w'.heap.size .u64 v (a / n) := by
  obtain ⟨A, c, rfl, h1, h3⟩ := h
  have hv := val_limbs a
  have hsm := Small.limbs a
  generalize limbs a = l at *
  have hmk := make_u64 l.length (l.length : Int) rfl (by omega)
  rw [B_eq] at hn
  go_enter Tryd.func87, Tryd.ntmps87
  go_wp2_with fail
  go_loopw [7, 8] (fun rest i wr => ∃ (j r : Nat) (zs : List Nat), j ≤ l.length ∧ i = .int .i64 ((j : Int) - 1) ∧ rest = .int .u64 r ∧ r < n ∧ zs.length = l.length ∧ Small zs ∧ val (l.drop j) = val (zs.drop j) * n + r ∧
      Bk wr w.heap.size 88 (ints .u64 zs).toArray ∧ Below w.heap.size w wr) (fun _ i _ => (intOf i + 1).toNat)
  case atStart => exact ⟨l.length, 0, List.replicate l.length 0, Nat.le_refl _, rfl, rfl, hn0, by simp, Small.replicate _, by simp [val], Bk.new _ _ _, (Below.refl _ _).alloc (Nat.le_refl _) _⟩
  case round =>
    obtain ⟨j, r, zs, hj, rfl, rfl, hr, hz, hzs, hval, hbk, hbel⟩ := hrel
    rcases Nat.eq_zero_or_pos j with rfl | hj0
    · rw [show (((0 : Nat) : Int) - 1) = -1 from rfl]
      have HV := Lib.hid hval
      have hrd := hbk.rd
      clear hval hmk
      go_wp2_with fail
      refine (qtrim_any _ _ l.length zs _ hz (Nat.le_refl _) (by omega) hrd).mono ?_
      rintro e w1 ⟨rfl, k, hT, rfl⟩
      have hvz : a = val zs * n + r := by have := HV.out; rw [List.drop_zero, List.drop_zero, hv] at this; exact this
      have e1 : a / n = val zs := by rw [hvz, Nat.mul_comm, Nat.mul_add_div hn0, Nat.div_eq_of_lt hr]; rfl
      have e2 : a % n = r := by rw [hvz, Nat.mul_comm, Nat.mul_add_mod, Nat.mod_eq_of_lt hr]
      have HO := (OwnN.of_trim hbk (Nat.le_refl _) hz (by omega) hzs hT rfl).is
      rw [← e1] at HO
      have HE := Lib.hid e2
      clear e1 e2 hvz hT
      go_wp2
      go_ret2
      exact ⟨hbel, _, by rw [HE.out]; rfl, HO⟩
    · obtain ⟨m, rfl⟩ : ∃ m, j = m + 1 := ⟨j - 1, by omega⟩
      rw [show (((m + 1 : Nat) : Int) - 1) = (m : Int) by omega]
      obtain ⟨ad, rfl, hb, hcell⟩ := (h3.below hbel).int (j := m) (by omega)
      have hx : l.getD m 0 < 1000000000 := hsm.getD m
      have HV := Lib.hid hval
      have HX := Lib.hid (val_drop l (j := m) (by omega))
      generalize hgx : l.getD m 0 = x at *
      have hs1 : (r * 1000000000 + x) / n < 1000000000 := by
        apply Nat.div_lt_of_lt_mul
        have : (r + 1) * 1000000000 ≤ n * 1000000000 := Nat.mul_le_mul_right _ hr
        omega
      have hq1 : ((r : Int) * 1000000000 + (x : Int)) / (n : Int) < 1000000000 := by
        have := Int.ofNat_lt.2 hs1
        simpa using this
      have hq0 : 0 ≤ ((r : Int) * 1000000000 + (x : Int)) / (n : Int) := Int.ediv_nonneg (by omega) (by omega)
      have hcell2 := hbk.cell m
      rw [ints_getD .u64 zs (by omega)] at hcell2
      have hfr := hbk.frozen m
      clear hval hgx hmk hj0
      go_wp2
      go_roundw
      case rel =>
        refine ⟨m, (r * B + x) % n, zs.set m ((r * B + x) / n), by omega, by go_num, by simp [B_eq], Nat.mod_lt _ hn0, by simpa using hz, hzs.set (by rw [B_eq]; exact hs1), ?_, ?_, hbel.setCell (Nat.le_refl _) _⟩
        · rw [HX.out, val_drop_set zs (by omega)]
          exact short_step HV.out rfl
        · have := hbk.put m (.int .u64 (((r * B + x) / n : Nat) : Int))
          rw [ints_set] at this
          have e : (((r * B + x) / n : Nat) : Int) = ((r : Int) * 1000000000 + (x : Int)) / (n : Int) := by rw [B_eq]; simp
          rw [e] at this
          exact this
      case measure => simp [intOf]

theorem own_empty (w : World) : (w.alloc (.cells #[] 88)).ownsRow w.heap.size 88 1 (.slice (some ⟨w.heap.size, 0, none⟩) 0 0) 0 [] :=
  World.ownsRow_made _ _ 0 (Nat.le_refl _) (by unfold maxLen; omega) rfl

set_option maxRecDepth 100000 in
set_option maxHeartbeats 1600000 in
theorem ndiv_lt (a b : Nat) (v u : Value) (w : World) (hab : a < b) (h : IsN w w.heap.size .u64 v a) (h' : IsN w w.heap.size .u64 u b) (hl : (limbs a).length ≤ 1000000000000) :
    Calls Tryd.prog 55 #[v, u] w fun e w' => Below w.heap.size w w' ∧ ∃ q r, e = .returned (.tuple #[q, r]) ∧ IsN w' w'.heap.size .u64 q (a / b) ∧ IsN w' w'.heap.size .u64 r (a % b) := by
  have hcmp := ncmp_any a b v u w h h' (by omega)
  rw [cmpN_lt hab] at hcmp
  have HC := Lib.hid hcmp
  have hD : a / b = 0 := Nat.div_eq_of_lt hab
  have hM : a % b = a := Nat.mod_eq_of_lt hab
  rw [hD, hM]
  have hb0 : 0 < b := by omega
  have hlb := limbs_len_pos hb0
  obtain ⟨i0, hi0, hz0, hz1, hz2⟩ := info_parts u64_info
  obtain ⟨A, c, rfl, h1, h3⟩ := h
  obtain ⟨A2, c2, rfl, k1, k3⟩ := h'
  generalize hgl : limbs a = l at *
  have HL := Lib.hid hgl
  generalize (limbs b).length = m at *
  clear hcmp hab hD hM hb0 hgl k1 k3
  go_enter Tryd.func55, Tryd.ntmps55
  go_wp2_with fail
  refine HC.out.mono ?_
  rintro e w1 ⟨rfl, n, rfl⟩
  have hrd : Rd (w.drewN n) (w.drewN n).heap.size A (ints .u64 l) := h3
  have hB1 := below_drewN (Below.refl w.heap.size w) n
  have hsz : w.heap.size ≤ (w.drewN n).heap.size := hB1.size
  clear HC h3
  generalize w.drewN n = w1 at *
  go_wp2_with (at_builtin; refine wpL_append _ rfl (.tmp 26) (.tmp 27) _ rfl w1.heap.size 88 i0 _ 1 8 Tryd.underlying33 hi0 hz0 hz1 hz2 rfl (by omega) _ 0 [] rfl (own_empty w1) A l.length c (ints .u64 l) rfl (by rw [ints_length, Nat.mul_one]) (hrd.alloc (Nat.le_refl _) _) (ints_one _ _) (by unfold maxLen; omega) (by omega) (by simp) ?_; intro v1 w2 hown1 hg1 hat1)
  have hB2 := below_app (hB1.alloc hsz _) hg1 (by simp; omega) (own_empty w1) hsz
  have HO : IsN w2 w2.heap.size .u64 v1 a := own_isN (by simpa using hown1) HL.out
  clear hown1 hg1 hat1 hrd
  go_wp2
  go_ret2
  exact ⟨hB2, _, _, rfl, IsN.nil _ _ _, HO⟩

set_option maxRecDepth 100000 in
set_option maxHeartbeats 1600000 in
theorem ndiv_one (a b : Nat) (v u : Value) (w : World) (hab : b ≤ a) (hb0 : 0 < b) (hbB : b < B) (h : IsN w w.heap.size .u64 v a) (h' : IsN w w.heap.size .u64 u b) (hl : (limbs a).length ≤ 1000000000000) :
    Calls Tryd.prog 55 #[v, u] w fun e w' => Below w.heap.size w w' ∧ ∃ q r, e = .returned (.tuple #[q, r]) ∧ IsN w' w'.heap.size .u64 q (a / b) ∧ IsN w' w'.heap.size .u64 r (a % b) := by
  have hcmp := ncmp_any a b v u w h h' (by omega)
  have hz : 0 ≤ cmpN a b := by unfold cmpN; rw [if_neg (by omega)]; split <;> omega
  generalize cmpN a b = z at *
  have HC := Lib.hid hcmp
  have HA := Lib.hid h
  obtain ⟨A, c, rfl, h1, h3⟩ := h
  obtain ⟨A2, c2, rfl, k1, k3⟩ := h'
  rw [limbs_single hb0 hbB] at k1 k3 HC ⊢
  obtain ⟨ad, rfl, hbk, hcell⟩ := k3.int (j := 0) (by simp)
  simp only [List.getD_cons_zero, addr_zero, List.length_singleton] at hcell k1 HC ⊢
  have HB := Lib.hid hbB
  have hb9 : b < 1000000000 := hbB
  clear hcmp hab h1 h3 k1 k3 hbB
  generalize hgl : (limbs a).length = la at *
  have HL := Lib.hid hgl
  clear hgl
  go_enter Tryd.func55, Tryd.ntmps55
  go_wp2_with fail
  refine HC.out.mono ?_
  rintro e w1 ⟨rfl, n, rfl⟩
  go_wp2_with fail
  refine (nsmall_any a b _ (w.drewN n) hb0 (Nat.le_of_lt HB.out) HA.out (by rw [HL.out]; exact hl)).mono ?_
  rintro e w2 ⟨hb2, q, rfl, hq⟩
  go_wp2_with fail
  refine (natOf_any (a % b) w2 (by have := Nat.mod_lt a hb0; omega)).mono ?_
  rintro e w3 ⟨hb3, r, rfl, hr⟩
  go_wp2
  go_ret2
  exact ⟨((below_drewN (Below.refl _ w) n).trans (hb2.mono (Nat.le_refl _))).trans (hb3.mono hb2.size), _, _, rfl, hq.next hb3, hr⟩
end Go.Proofs.YtblopapobmbboaaDoor
