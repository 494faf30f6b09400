/-
  Walks: the least, the greatest of numbers; bits written and read.
-/
import Derived.Test.YtmoenbdooilceaaDoorPackM
import Derived.Test.YtmoenbdooilceaaDoorCodA
import Derived.Lib.ItoaNum
namespace Go.Proofs.YtmoenbdooilceaaDoor
open Go.RowKit By

/-- A list's numbers, by place. -/
def el (l : List Nat) (i : Nat) : Nat := l.getD i 0
theorem lo_one (g : Nat → Nat) : lo g 1 = g 0 := Nat.min_self _
theorem hi_one (g : Nat → Nat) : hi g 1 = g 0 := Nat.max_self _

set_option maxRecDepth 100000 in
set_option maxHeartbeats 800000 in
theorem min_any (A : Option Addr) (c n : Nat) (l : List Nat) (w : World) (hn : l.length = n) (h0 : 0 < n) (hm : n ≤ 4000000000000) (h : Rd w w.heap.size A (ints .u64 l)) :
    Calls Tryd.prog 47 #[.slice A n c] w fun e w' => w = w' ∧ e = .returned (.int .u64 ((lo (el l) n : Nat) : Int)) := by
  subst hn
  obtain ⟨ad, rfl, hb, hcell⟩ := h.int (j := 0) h0
  rw [addr_zero, show l.getD 0 0 = el l 0 from rfl] at hcell
  go_enter Tryd.func47, Tryd.ntmps47
  go_wp2
  go_loop [3, 4] (fun m i => ∃ k : Nat, 1 ≤ k ∧ k ≤ l.length ∧ i = .int .i64 k ∧ m = .int .u64 ((lo (el l) k : Nat) : Int)) (fun _ i => l.length - (intOf i).toNat)
  case atStart => exact ⟨1, Nat.le_refl _, h0, rfl, by rw [lo_one]⟩
  case round =>
    obtain ⟨k, hk1, hk, rfl, rfl⟩ := hrel
    by_cases hlt : k < l.length
    · obtain ⟨ad2, e2, hb2, hcell2⟩ := h.int (j := k) hlt
      cases e2
      have HN : Hid (lo (el l) (k + 1) = min (lo (el l) k) (l.getD k 0)) := rfl
      generalize l.getD k 0 = x at *
      generalize lo (el l) k = m at *
      go_wp2
      go_round
      case rel => exact ⟨k + 1, by omega, by omega, by go_num, by rw [HN.out]; congr 1; split <;> omega⟩
      case measure => simp [intOf]; omega
    · obtain rfl : k = l.length := by omega
      go_wp2
      go_ret
      exact ⟨rfl, rfl⟩

set_option maxRecDepth 100000 in
set_option maxHeartbeats 800000 in
theorem max_any (A : Option Addr) (c n : Nat) (l : List Nat) (w : World) (hn : l.length = n) (h0 : 0 < n) (hm : n ≤ 4000000000000) (h : Rd w w.heap.size A (ints .u64 l)) :
    Calls Tryd.prog 49 #[.slice A n c] w fun e w' => w = w' ∧ e = .returned (.int .u64 ((hi (el l) n : Nat) : Int)) := by
  subst hn
  obtain ⟨ad, rfl, hb, hcell⟩ := h.int (j := 0) h0
  rw [addr_zero, show l.getD 0 0 = el l 0 from rfl] at hcell
  go_enter Tryd.func49, Tryd.ntmps49
  go_wp2
  go_loop [3, 4] (fun m i => ∃ k : Nat, 1 ≤ k ∧ k ≤ l.length ∧ i = .int .i64 k ∧ m = .int .u64 ((hi (el l) k : Nat) : Int)) (fun _ i => l.length - (intOf i).toNat)
  case atStart => exact ⟨1, Nat.le_refl _, h0, rfl, by rw [hi_one]⟩
  case round =>
    obtain ⟨k, hk1, hk, rfl, rfl⟩ := hrel
    by_cases hlt : k < l.length
    · obtain ⟨ad2, e2, hb2, hcell2⟩ := h.int (j := k) hlt
      cases e2
      have HN : Hid (hi (el l) (k + 1) = max (hi (el l) k) (l.getD k 0)) := rfl
      generalize l.getD k 0 = x at *
      generalize hi (el l) k = m at *
      go_wp2
      go_round
      case rel => exact ⟨k + 1, by omega, by omega, by go_num, by rw [HN.out]; congr 1; split <;> omega⟩
      case measure => simp [intOf]; omega
    · obtain rfl : k = l.length := by omega
      go_wp2
      go_ret
      exact ⟨rfl, rfl⟩

theorem len64_bl {x : Nat} (h : x < 2 ^ 64) : Lib.bitLen x = bl x := by
  rcases Nat.eq_zero_or_pos x with rfl | h0
  · rfl
  · obtain ⟨h1, h2, h3⟩ := Lib.bitLenAux_bounds 64 x h (by omega)
    apply Nat.le_antisymm
    · have h4 := lt_bl x
      have h5 : 2 ^ (Lib.bitLen x - 1) < 2 ^ bl x := Nat.lt_of_le_of_lt h2 h4
      have h6 := (Nat.pow_lt_pow_iff_right (by decide)).1 h5
      omega
    · exact bl_le.2 h3

theorem and1_u8 {y : Nat} (hy : y < 256) : bits .and .u8 (y : Int) 1 = ((y % 2 : Nat) : Int) := by
  show IntKind.u8.wrap ((BitVec.ofInt 8 (y : Int) &&& BitVec.ofInt 8 ((1 : Nat) : Int)).toNat : Int) = _
  rw [BitVec.ofInt_natCast, BitVec.ofInt_natCast, BitVec.toNat_and, BitVec.toNat_ofNat, BitVec.toNat_ofNat, Nat.mod_eq_of_lt (show y < 2 ^ 8 from hy), Nat.mod_eq_of_lt (show 1 < 2 ^ 8 by decide), Nat.and_one_is_mod]
  exact wrap_u8 (by omega)
theorem bit_u8 {x k : Nat} (hx : x < 256) : bits .and .u8 ((x : Int) / 2 ^ k) 1 = ((x / 2 ^ k % 2 : Nat) : Int) := by
  have e : ((x / 2 ^ k : Nat) : Int) = (x : Int) / 2 ^ k := by simp
  rw [← e]
  exact and1_u8 (Nat.lt_of_le_of_lt (Nat.div_le_self _ _) hx)
theorem or_bit {R b : Nat} {B : Int} (hR : R < 2 ^ 63) (hB : B = ((b % 2 : Nat) : Int)) : bits .or .u64 (IntKind.u64.wrap ((R : Int) * 2)) (IntKind.u64.wrap B) = ((2 * R + b % 2 : Nat) : Int) := by
  rw [hB, show (R : Int) * 2 = ((2 * R : Nat) : Int) by omega, wrap_u64 (by omega), wrap_u64 (by omega), or_u64 (by omega) (by omega)]
  have := Nat.shiftLeft_add_eq_or_of_lt (i := 1) (show b % 2 < 2 ^ 1 by omega) R
  rw [Nat.shiftLeft_eq] at this
  rw [Nat.mul_comm 2 R, ← this]

set_option maxRecDepth 100000 in
set_option maxHeartbeats 800000 in
theorem equal_any (A B : Option Addr) (c d n m : Nat) (l r : List Nat) (w : World) (hn : l.length = n) (hm : r.length = m) (hb1 : n ≤ 4000000000000) (hb2 : m ≤ 4000000000000) (h : Rd w w.heap.size A (ints .u8 l)) (h' : Rd w w.heap.size B (ints .u8 r)) :
    Calls Tryd.prog 53 #[.slice A n c, .slice B m d] w fun e w' => Below w.heap.size w w' ∧ e = .returned (.bool (decide (l = r))) := by
  subst hn
  subst hm
  by_cases hlen : l.length = r.length
  · have HF : Hid (l.length = r.length) := hlen
    go_enter Tryd.func53, Tryd.ntmps53
    have h1 : ((l.length : Int) != (r.length : Int)) = false := by simp [hlen]
    clear hlen
    go_wp2
    go_loopw [13] (fun i wr => ∃ j : Nat, j ≤ l.length ∧ i = .int .i64 j ∧ l.take j = r.take j ∧ Below w.heap.size w wr) (fun i _ => l.length - (intOf i).toNat)
    case atStart => exact ⟨0, Nat.zero_le _, rfl, rfl, Below.refl _ _⟩
    case round =>
      obtain ⟨j, hj, rfl, HE, hB⟩ := hrel
      have HE := Lib.hid HE
      by_cases hlt : j < l.length
      · have hlr : j < r.length := by rw [← HF.out]; exact hlt
        obtain ⟨ad, rfl, hab, hcell⟩ := (h.below hB).int (j := j) hlt
        obtain ⟨bd, rfl, hbb, hcell'⟩ := (h'.below hB).int (j := j) hlr
        have HX : Hid (l.getD j 0 = l[j]) := by show _ = _; simp [hlt]
        have HY : Hid (r.getD j 0 = r[j]) := by show _ = _; simp [hlr]
        generalize l.getD j 0 = x at *
        generalize r.getD j 0 = y at *
        have h3 : (j : Int) < l.length := by omega
        have h4 : (j : Int) < r.length := by omega
        by_cases hxy : x = y
        · have t1 : ((x : Int) != (y : Int)) = false := by simp [hxy]
          go_wp2
          go_still (by kernel_rfl)
          go_wp2
          go_roundw
          case rel =>
            refine ⟨j + 1, by omega, by go_num, ?_, hB.drew⟩
            rw [List.take_succ_eq_append_getElem hlt, List.take_succ_eq_append_getElem hlr, HE.out, ← HX.out, ← HY.out, hxy]
          case measure => simp [intOf]; omega
        · have t1 : ((x : Int) != (y : Int)) = true := by rw [bne_iff_ne]; omega
          have hne : Hid (decide (l = r) = false) := by
            refine decide_eq_false (fun e => hxy ?_)
            subst e
            have := HX.out
            rw [← HY.out] at this
            exact this
          go_wp2
          go_still (by kernel_rfl)
          go_wp2
          go_ret
          exact ⟨hB.drew, by rw [hne.out]; rfl⟩
      · have HJ : Hid (decide (l = r) = true) := by
          refine decide_eq_true ?_
          have h2 := HE.out
          rwa [List.take_of_length_le (by omega), List.take_of_length_le (by have := HF.out; omega)] at h2
        go_wp2
        go_ret
        exact ⟨hB, by rw [HJ.out]; rfl⟩
  · have hne : decide (l = r) = false := decide_eq_false (fun e => hlen (by rw [e]))
    rw [hne]
    clear hne
    have h1 : ((l.length : Int) != (r.length : Int)) = true := by rw [bne_iff_ne]; omega
    go_enter Tryd.func53, Tryd.ntmps53
    go_wp2
    go_ret
    exact ⟨Below.refl _ _, rfl⟩

set_option maxRecDepth 100000 in
set_option maxHeartbeats 800000 in
theorem bread_any (A : Option Addr) (c n a wd : Nat) (l : List Nat) (w : World) (hn : l.length = n) (hm : n ≤ 4000000000000) (ha : a + wd ≤ 8 * n) (hw : wd ≤ 64) (hl : Bytes l) (h : Rd w w.heap.size A (ints .u8 l)) :
    Calls Tryd.prog 67 #[.slice A n c, .int .i64 a, .int .i64 wd] w fun e w' => w = w' ∧ e = .returned (.int .u64 ((rd l a wd : Nat) : Int)) := by
  subst hn
  go_enter Tryd.func67, Tryd.ntmps67
  go_wp2
  go_loop [7, 8] (fun x i => ∃ j : Nat, j ≤ wd ∧ i = .int .i64 ((a + j : Nat) : Int) ∧ x = .int .u64 ((rd l a j : Nat) : Int)) (fun _ i => a + wd - (intOf i).toNat)
  case atStart => exact ⟨0, Nat.zero_le _, rfl, rfl⟩
  case round =>
    obtain ⟨j, hj, rfl, rfl⟩ := hrel
    by_cases hlt : j < wd
    · have hR := rd_lt l a j
      have HN : Hid (rd l a (j + 1) = 2 * rd l a j + bt l (a + j)) := rfl
      obtain ⟨p, hp⟩ : ∃ p, p = a + j := ⟨_, rfl⟩
      rw [← hp] at HN ⊢
      obtain ⟨ad, rfl, hab, hcell⟩ := h.int (j := p / 8) (by omega)
      have hx := hl.at_ (p / 8)
      have HB : Hid (bt l p = l.getD (p / 8) 0 / 2 ^ (7 - p % 8) % 2) := rfl
      generalize l.getD (p / 8) 0 = x at *
      have y1 : IntKind.i64.wrap ((p : Int) / 8) = (p : Int) / 8 := IntWalk.i64_in _ (by omega)
      have y2 : ((p : Int) / 8).toNat = p / 8 := by omega
      have y3 : 0 ≤ (p : Int) / 8 := by omega
      have y4 : (p : Int) / 8 < l.length := by omega
      obtain ⟨t, ht⟩ : ∃ t, t = 7 - p % 8 := ⟨_, rfl⟩
      rw [← ht] at HB
      have y5 : (7 : Int) - (p : Int).tmod 8 = (t : Int) := by rw [Int.tmod_eq_emod_of_nonneg (by omega)]; omega
      have y6 : (t : Int) ≤ 8 := by omega
      have y7 : 0 ≤ (t : Int) := by omega
      have y8 : (p : Int) < a + wd := by omega
      have HP := Lib.hid hp
      have HT := Lib.hid ht
      clear hp ht
      go_wp2
      go_round
      case rel =>
        have e1 : p = a + j := HP.out
        refine ⟨j + 1, by omega, by go_num, ?_⟩
        have hR2 : rd l a j < 2 ^ 63 := Nat.lt_of_lt_of_le hR (Nat.pow_le_pow_right (by decide) (by omega))
        rw [HN.out, HB.out, HT.out, or_bit hR2 (bit_u8 hx)]
      case measure => simp [intOf]; omega
    · obtain rfl : j = wd := by omega
      go_wp2
      go_ret
      exact ⟨rfl, rfl⟩
end Go.Proofs.YtmoenbdooilceaaDoor
