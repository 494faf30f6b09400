/-
  Walks: package ratio's natural numbers: trim, Zero, One, Cmp, Small, scale, short.
  Walks: package ratio's natural numbers: Zero.
  Walks: package ratio's natural numbers: scale, short.
  Walks: package ratio's natural numbers: slices.Clone, Small, Sub.
  Walks: package ratio's natural numbers: Small, Mul, Cmp.
  Walks: package ratio's natural numbers: Mul.
  Walks: package ratio's natural numbers: take.
  Walks: package ratio's natural numbers: Div.
  Walks: package ratio's natural numbers: GCD.
-/
import Derived.Test.YtpkhgdnkkdhlcaaGreatDoorProg
import Derived.Test.YtpkhgdnkkdhlcaaGreatDoorWords
import Derived.Test.YtpkhgdnkkdhlcaaGreatDoorNumX
import Derived.WalkKit
import Derived.WalkSpells
import Derived.WalkLawsBesides
import Derived.Deep.QuietTactic
import Derived.BigQuiet
import Derived.Laws.MakeOwn
import Derived.Test.YtpkhgdnkkdhlcaaGreatDoorWordsB
namespace Go.Proofs.YtpkhgdnkkdhlcaaGreatDoor
open Go.RowKit Ar

/-- Up to k stand all limbs of a number. -/
def Trimmed (l : List Nat) (k : Nat) : Prop := k ≤ l.length ∧ (∀ j, k ≤ j → j < l.length → l.getD j 0 = 0) ∧ (k = 0 ∨ 0 < l.getD (k - 1) 0)
theorem Trimmed.eq {l : List Nat} {k : Nat} (h : Trimmed l k) (hs : Small l) : limbs (val l) = l.take k := limbs_take hs h.1 h.2.1 h.2.2
theorem Trimmed.len {l : List Nat} {k : Nat} (h : Trimmed l k) (hs : Small l) : k = (limbs (val l)).length := by rw [h.eq hs, List.length_take, Nat.min_eq_left h.1]

set_option maxHeartbeats 400000 in
theorem trim_any (A : Option Addr) (c n : Nat) (l : List Nat) (w : World) (hn : l.length = n) (hc : n ≤ c) (hm : n ≤ 4000000000000) (h : Rd w w.heap.size A (ints .u32 l)) :
    Calls Tryz.prog 193 #[.slice A n c] w fun e w' => w = w' ∧ ∃ k, Trimmed l k ∧ e = .returned (.slice A k c) := by
  subst hn
  go_enter Tryz.func193, Tryz.ntmps193
  go_wp2
  go_loop [3] (fun n => ∃ k : Nat, k ≤ l.length ∧ n = .int .i64 k ∧ ∀ j, k ≤ j → j < l.length → l.getD j 0 = 0) (fun n => (intOf n).toNat)
  case atStart => exact ⟨l.length, Nat.le_refl _, rfl, fun j h1 h2 => by omega⟩
  case round =>
    obtain ⟨k, hk, rfl, hz⟩ := hrel
    rcases Nat.eq_zero_or_pos k with rfl | hk0
    · have HT : Trimmed l 0 := ⟨Nat.zero_le _, hz, .inl rfl⟩
      clear hz
      go_wp2
      go_ret
      exact ⟨rfl, 0, HT, rfl⟩
    · obtain ⟨j, rfl⟩ : ∃ j, k = j + 1 := ⟨k - 1, by omega⟩
      obtain ⟨ad, rfl, hb, hcell⟩ := h.int (j := j) (by omega)
      by_cases h0 : l.getD j 0 = 0
      · have HZ : Hid (∀ i, j ≤ i → i < l.length → l.getD i 0 = 0) := fun i h1 h2 => by
          by_cases e : i = j
          · subst e; exact h0
          · exact hz i (by omega) h2
        rw [h0] at hcell
        clear hz h0 hk0
        go_wp2
        go_round
        case rel => exact ⟨j, by omega, by go_num, HZ.out⟩
        case measure => simp [intOf]
      · have HT : Trimmed l (j + 1) := ⟨hk, hz, .inr (Nat.pos_of_ne_zero h0)⟩
        generalize l.getD j 0 = x at *
        clear hz
        go_wp2
        go_ret
        exact ⟨rfl, j + 1, HT, rfl⟩

/-- A natural number in memory. -/
def IsN (w : World) (B : Nat) (k : IntKind) (v : Value) (n : Nat) : Prop :=
  ∃ A c, v = .slice A (limbs n).length c ∧ (limbs n).length ≤ c ∧ Rd w B A (ints k (limbs n))
section
variable {w w' : World} {B B' : Nat} {k : IntKind} {v : Value} {n : Nat}
theorem IsN.more (h : IsN w B k v n) (hB : B ≤ B') : IsN w B' k v n := by
  obtain ⟨A, c, e, h1, h3⟩ := h; exact ⟨A, c, e, h1, h3.more hB⟩
theorem IsN.below (h : IsN w B k v n) (hb : Below B w w') : IsN w' B k v n := by
  obtain ⟨A, c, e, h1, h3⟩ := h; exact ⟨A, c, e, h1, h3.below hb⟩
theorem IsN.next (h : IsN w w.heap.size k v n) (hb : Below w.heap.size w w') : IsN w' w'.heap.size k v n := (h.below hb).more hb.size
theorem IsN.nil (w : World) (B : Nat) (k : IntKind) : IsN w B k (.slice none 0 0) 0 := ⟨none, 0, by rw [limbs_zero]; rfl, by rw [limbs_zero]; exact Nat.le_refl _, by rw [limbs_zero]; exact Rd.nil⟩
end

/-- A natural number in a row of the call's own. -/
def OwnN (w : World) (base : Nat) (T : TypeId) (k : IntKind) (v : Value) (n : Nat) : Prop :=
  ∃ g c, v = .slice (some ⟨g, 0, none⟩) (limbs n).length c ∧ (limbs n).length ≤ c ∧ w.ownsRow base T 1 v (limbs n).length (ints k (limbs n))
theorem OwnN.is {w : World} {base : Nat} {T : TypeId} {k : IntKind} {v : Value} {n : Nat} (h : OwnN w base T k v n) : IsN w w.heap.size k v n := by
  obtain ⟨g, c, rfl, h1, h3⟩ := h
  exact ⟨_, c, rfl, h1, Rd.of_own h3⟩
theorem OwnN.of_trim {w : World} {g base cap j n : Nat} {T : TypeId} {k : IntKind} {zs : List Nat} (hb : Bk w g T (ints k zs).toArray) (hg : base ≤ g) (hc : zs.length = cap) (hm : cap ≤ 4000000000000) (hs : Small zs) (ht : Trimmed zs j) (hn : val zs = n) :
    OwnN w base T k (.slice (some ⟨g, 0, none⟩) j cap) n := by
  have hj := ht.len hs
  have he := ht.eq hs
  have h1 := ht.1
  rw [hn] at hj he
  have := hb.own (base := base) (size := 1) (n := j) (cap := cap) hg (by omega) (by unfold maxLen; omega) (by simp [ints_length, hc])
  rw [Nat.mul_one, List.toList_toArray, ← ints_take, ← he] at this
  exact ⟨g, cap, by rw [hj], by omega, by rw [← hj]; exact this⟩

set_option maxHeartbeats 400000 in
theorem one_any (n : Nat) (v : Value) (w : World) (h : IsN w w.heap.size .u32 v n) (hl : (limbs n).length ≤ 1000000000000) :
    Calls Tryz.prog 138 #[v] w fun e w' => w = w' ∧ e = .returned (.bool (decide (n = 1))) := by
  obtain ⟨A, c, rfl, h1, h3⟩ := h
  by_cases hl1 : (limbs n).length = 1
  · obtain ⟨x, hx⟩ : ∃ x, limbs n = [x] := List.length_eq_one_iff.1 hl1
    obtain ⟨ad, rfl, hb, hcell⟩ := h3.int (j := 0) (by omega)
    rw [hx] at hcell h1 ⊢
    have e : decide (n = 1) = ((x : Int) == 1) := by
      rw [Bool.eq_iff_iff, beq_iff_eq, decide_eq_true_eq]
      constructor
      · rintro rfl; rw [limbs_one] at hx; injection hx with hx; omega
      · intro h; exact eq_one_of_limbs (by rw [hx]; congr 1; omega)
    rw [e]
    simp only [List.getD_cons_zero, List.length_singleton, addr_zero] at hcell h1 ⊢
    clear hx e h3 hl1 hl
    go_enter Tryz.func138, Tryz.ntmps138
    go_wp2
    all_goals (go_ret; exact ⟨rfl, rfl⟩)
  · have e : decide (n = 1) = false := by
      simp; rintro rfl; exact hl1 (by rw [limbs_one]; rfl)
    rw [e]
    clear e h3
    generalize (limbs n).length = m at *
    go_enter Tryz.func138, Tryz.ntmps138
    go_wp2
    go_ret
    exact ⟨rfl, rfl⟩
end Go.Proofs.YtpkhgdnkkdhlcaaGreatDoor

namespace Go.Proofs.YtpkhgdnkkdhlcaaGreatDoor
open Go.RowKit Ar

set_option maxHeartbeats 400000 in
theorem zero_any (n : Nat) (v : Value) (w : World) (h : IsN w w.heap.size .u32 v n) :
    Calls Tryz.prog 137 #[v] w fun e w' => w = w' ∧ e = .returned (.bool (decide (n = 0))) := by
  obtain ⟨A, c, rfl, h1, h3⟩ := h
  have e : decide (n = 0) = (((limbs n).length : Int) == 0) := by
    rw [Bool.eq_iff_iff, beq_iff_eq, decide_eq_true_eq, ← limbs_len_zero]; omega
  rw [e]
  clear e
  generalize (limbs n).length = m at *
  go_enter Tryz.func137, Tryz.ntmps137
  go_wp2
  go_ret
  exact ⟨rfl, rfl⟩
end Go.Proofs.YtpkhgdnkkdhlcaaGreatDoor

namespace Go.Proofs.YtpkhgdnkkdhlcaaGreatDoor
open Go.RowKit Ar

theorem u32_info : (Tryz.prog.info? 105).map (fun i => (i.zero, i.size, i.bytes)) = some (some (.int .u32 0), 1, 4) := by kernel_rfl
theorem make_u32 (n : Nat) (x : Int) (hx : x = (n : Int)) (hn : n ≤ 4000000000000) (w : World) :
    (Instr.makeSlice 100 (.int .i64 x) (.int .i64 x)).run Tryz.prog w = .ok (.slice (some ⟨w.heap.size, 0, none⟩) n n) (w.alloc (.cells (ints .u32 (List.replicate n 0)).toArray 105)) := by
  obtain ⟨i0, hi0, hz0, hz1, hz2⟩ := info_parts u32_info
  exact make_ints _ _ i0 .u32 Tryz.underlying100 hi0 hz0 hz1 (by omega) _ _ n x hx hn w

set_option maxHeartbeats 400000 in
theorem scale_any (a n : Nat) (v : Value) (w : World) (hn : n < B) (h : IsN w w.heap.size .u32 v a) (hl : (limbs a).length ≤ 1000000000000) :
    Calls Tryz.prog 191 #[v, .int .u64 n] w fun e w' => Below w.heap.size w w' ∧ ∃ v, e = .returned v ∧ OwnN w' w.heap.size 105 .u32 v (a * n) := by
  obtain ⟨A, c, rfl, h1, h3⟩ := h
  have hv := val_limbs a
  have hsm := Small.limbs a
  generalize limbs a = l at *
  have hmk := make_u32 (l.length + 1) ((l.length : Int) + 1) (by omega) (by omega)
  go_enter Tryz.func191, Tryz.ntmps191
  go_wp2_with fail
  go_loopw [6, 16] (fun carry i wr => ∃ (j c : Nat) (zs : List Nat), j ≤ l.length ∧ i = .int .i64 j ∧ carry = .int .u64 c ∧ c < 1000000000 ∧ zs.length = l.length + 1 ∧ Small zs ∧ val (zs.take j) + c * B ^ j = val (l.take j) * n ∧
      Bk wr w.heap.size 105 (ints .u32 zs).toArray ∧ Below w.heap.size w wr) (fun _ i _ => l.length - (intOf i).toNat)
  case atStart => exact ⟨0, 0, List.replicate (l.length + 1) 0, Nat.zero_le _, rfl, rfl, by omega, by simp, Small.replicate _, by simp [val], Bk.new _ _ _, (Below.refl _ _).alloc (Nat.le_refl _) _⟩
  case round =>
    obtain ⟨j, c', zs, hj, rfl, rfl, hc', hz, hzs, hval, hbk, hbel⟩ := hrel
    by_cases hlt : j < l.length
    · obtain ⟨ad, rfl, hb, hcell⟩ := (h3.below hbel).int (j := j) hlt
      have hx : l.getD j 0 < 1000000000 := hsm.getD j
      have HV : Hid (val (zs.take j) + c' * B ^ j = val (l.take j) * n) := hval
      have HX := Lib.hid (val_take_snoc l hlt)
      generalize hgx : l.getD j 0 = x at *
      have HG := Lib.hid hgx
      have hp0 : (0 : Int) ≤ (x : Int) * (n : Int) := Int.mul_nonneg (by omega) (by omega)
      have hp1 : (x : Int) * (n : Int) ≤ 999999998000000001 := by
        have : x * n ≤ 999999999 * 999999999 := Nat.mul_le_mul (by omega) (by rw [B_eq] at hn; omega)
        have : ((x * n : Nat) : Int) ≤ ((999999999 * 999999999 : Nat) : Int) := by omega
        rw [Int.natCast_mul] at this; omega
      have hcell2 := hbk.cell j
      rw [ints_getD .u32 zs (by omega)] at hcell2
      have hfr := hbk.frozen j
      clear hval hgx
      go_wp2
      go_roundw
      case rel =>
        have hs : Small (zs.set j ((x * n + c') % B)) := hzs.set (Nat.mod_lt _ B_pos)
        refine ⟨j + 1, (x * n + c') / B, zs.set j ((x * n + c') % B), by omega, by go_num, by simp [B_eq], ?_, by simpa using hz, hs, ?_, ?_, hbel.setCell (Nat.le_refl _) _⟩
        · have := mul_carry (x := x) (y := n) (r := 0) (c := c') (s := x * n + c') hx hn B_pos hc' (by omega)
          rwa [B_eq] at this ⊢
        · rw [take_set_eq zs j _ (by omega), val_snoc, HX.out, List.length_take, Nat.min_eq_left (by omega), Nat.pow_succ]
          have := mul_step (r := 0) HV.out (show x * n + c' = x * n + 0 + c' by omega)
          rw [Nat.mul_zero, Nat.add_zero] at this
          rw [this]; grind
        · have := hbk.put j (.int .u32 (((x * n + c') % B : Nat) : Int))
          rw [ints_set] at this
          have e : (((x * n + c') % B : Nat) : Int) = ((x : Int) * (n : Int) + (c' : Int)) % 1000000000 := by rw [B_eq]; simp
          rw [e] at this
          exact this
      case measure => simp [intOf]; omega
    · obtain rfl : j = l.length := by omega
      have HV : Hid (val (zs.take l.length) + c' * B ^ l.length = val (l.take l.length) * n) := hval
      have hcell2 := hbk.cell l.length
      rw [ints_getD .u32 zs (by omega)] at hcell2
      have hfr := hbk.frozen l.length
      clear hval
      go_wp2_with fail
      have hbk2 := hbk.put l.length (.int .u32 (c' : Int))
      rw [ints_set] at hbk2
      have hs2 : Small (zs.set l.length c') := hzs.set (by rw [B_eq]; exact hc')
      have hval2 : val (zs.set l.length c') = a * n := by
        have h5 := take_set_eq zs l.length c' (by omega)
        rw [List.take_of_length_le (by simp [hz])] at h5
        rw [h5, val_snoc, List.length_take, hz, Nat.min_eq_left (by omega), Nat.mul_comm]
        have := HV.out
        rw [val_take_all l (Nat.le_refl _), hv] at this
        exact this
      have hrd := hbk2.rd
      refine (trim_any _ _ (l.length + 1) (zs.set l.length c') _ (by simpa using hz) (Nat.le_refl _) (by omega) hrd).mono ?_
      rintro e w1 ⟨rfl, k, hT, rfl⟩
      have HO := OwnN.of_trim hbk2 (Nat.le_refl _) (by simpa using hz) (by omega) hs2 hT hval2
      clear hval2 hmk hT
      go_wp2
      go_ret
      exact ⟨hbel.setCell (Nat.le_refl _) _, _, rfl, HO⟩

theorem val_drop (l : List Nat) {j : Nat} (h : j < l.length) : val (l.drop j) = l.getD j 0 + B * val (l.drop (j + 1)) := by
  rw [List.drop_eq_getElem_cons h, val_cons, List.getD_eq_getElem?_getD, List.getElem?_eq_getElem h]; rfl
theorem drop_set_gt (l : List Nat) {i k v : Nat} (h : i < k) : (l.set i v).drop k = l.drop k := by
  apply List.ext_getElem?
  intro j
  rw [List.getElem?_drop, List.getElem?_drop, List.getElem?_set_ne (by omega)]
theorem val_drop_set (l : List Nat) {j v : Nat} (h : j < l.length) : val ((l.set j v).drop j) = v + B * val (l.drop (j + 1)) := by
  rw [val_drop _ (by simpa using h), drop_set_gt l (by omega)]
  congr 1
  rw [List.getD_eq_getElem?_getD, List.getElem?_set_self h]; rfl
theorem short_step {V Z n r x s : Nat} (h : V = Z * n + r) (hs : s = r * B + x) : x + B * V = (s / n + B * Z) * n + s % n := by
  have := Nat.div_add_mod s n
  subst h
  have e1 : (s / n + B * Z) * n = n * (s / n) + B * (Z * n) := by grind
  rw [e1, Nat.mul_add]
  have e2 : B * r = r * B := Nat.mul_comm _ _
  omega

set_option maxHeartbeats 400000 in
theorem short_any (a n : Nat) (v : Value) (w : World) (hn0 : 0 < n) (hn : n ≤ B) (h : IsN w w.heap.size .u32 v a) (hl : (limbs a).length ≤ 1000000000000) :
    Calls Tryz.prog 189 #[v, .int .u64 n] w fun e w' => Below w.heap.size w w' ∧ ∃ v, e = .returned (.tuple #[v, .int .u64 ((a % n : Nat) : Int)]) ∧ OwnN w' w.heap.size 105 .u32 v (a / n) := by
  obtain ⟨A, c, rfl, h1, h3⟩ := h
  have hv := val_limbs a
  have hsm := Small.limbs a
  generalize limbs a = l at *
  have hmk := make_u32 l.length (l.length : Int) rfl (by omega)
  rw [B_eq] at hn
  go_enter Tryz.func189, Tryz.ntmps189
  go_wp2_with fail
  go_loopw [7, 8] (fun rest i wr => ∃ (j r : Nat) (zs : List Nat), j ≤ l.length ∧ i = .int .i64 ((j : Int) - 1) ∧ rest = .int .u64 r ∧ r < n ∧ zs.length = l.length ∧ Small zs ∧ val (l.drop j) = val (zs.drop j) * n + r ∧
      Bk wr w.heap.size 105 (ints .u32 zs).toArray ∧ Below w.heap.size w wr) (fun _ i _ => (intOf i + 1).toNat)
  case atStart => exact ⟨l.length, 0, List.replicate l.length 0, Nat.le_refl _, rfl, rfl, hn0, by simp, Small.replicate _, by simp [val], Bk.new _ _ _, (Below.refl _ _).alloc (Nat.le_refl _) _⟩
  case round =>
    obtain ⟨j, r, zs, hj, rfl, rfl, hr, hz, hzs, hval, hbk, hbel⟩ := hrel
    rcases Nat.eq_zero_or_pos j with rfl | hj0
    · rw [show (((0 : Nat) : Int) - 1) = -1 from rfl]
      have HV := Lib.hid hval
      have hrd := hbk.rd
      clear hval hmk
      go_wp2_with fail
      refine (trim_any _ _ l.length zs _ hz (Nat.le_refl _) (by omega) hrd).mono ?_
      rintro e w1 ⟨rfl, k, hT, rfl⟩
      have hvz : a = val zs * n + r := by have := HV.out; rw [List.drop_zero, List.drop_zero, hv] at this; exact this
      have e1 : a / n = val zs := by rw [hvz, Nat.mul_comm, Nat.mul_add_div hn0, Nat.div_eq_of_lt hr]; rfl
      have e2 : a % n = r := by rw [hvz, Nat.mul_comm, Nat.mul_add_mod, Nat.mod_eq_of_lt hr]
      have HO := OwnN.of_trim hbk (Nat.le_refl _) hz (by omega) hzs hT rfl
      rw [← e1] at HO
      have HE := Lib.hid e2
      clear e1 e2 hvz hT
      go_wp2
      go_ret2
      exact ⟨hbel, _, by rw [HE.out]; rfl, HO⟩
    · obtain ⟨m, rfl⟩ : ∃ m, j = m + 1 := ⟨j - 1, by omega⟩
      rw [show (((m + 1 : Nat) : Int) - 1) = (m : Int) by omega]
      obtain ⟨ad, rfl, hb, hcell⟩ := (h3.below hbel).int (j := m) (by omega)
      have hx : l.getD m 0 < 1000000000 := hsm.getD m
      have HV := Lib.hid hval
      have HX := Lib.hid (val_drop l (j := m) (by omega))
      generalize hgx : l.getD m 0 = x at *
      have hs1 : (r * 1000000000 + x) / n < 1000000000 := by
        apply Nat.div_lt_of_lt_mul
        have : (r + 1) * 1000000000 ≤ n * 1000000000 := Nat.mul_le_mul_right _ hr
        omega
      have hq1 : ((r : Int) * 1000000000 + (x : Int)) / (n : Int) < 1000000000 := by
        have := Int.ofNat_lt.2 hs1
        simpa using this
      have hq0 : 0 ≤ ((r : Int) * 1000000000 + (x : Int)) / (n : Int) := Int.ediv_nonneg (by omega) (by omega)
      have hcell2 := hbk.cell m
      rw [ints_getD .u32 zs (by omega)] at hcell2
      have hfr := hbk.frozen m
      clear hval hgx hmk hj0
      go_wp2
      go_roundw
      case rel =>
        refine ⟨m, (r * B + x) % n, zs.set m ((r * B + x) / n), by omega, by go_num, by simp [B_eq], Nat.mod_lt _ hn0, by simpa using hz, hzs.set (by rw [B_eq]; exact hs1), ?_, ?_, hbel.setCell (Nat.le_refl _) _⟩
        · rw [HX.out, val_drop_set zs (by omega)]
          exact short_step HV.out rfl
        · have := hbk.put m (.int .u32 (((r * B + x) / n : Nat) : Int))
          rw [ints_set] at this
          have e : (((r * B + x) / n : Nat) : Int) = ((r : Int) * 1000000000 + (x : Int)) / (n : Int) := by rw [B_eq]; simp
          rw [e] at this
          exact this
      case measure => simp [intOf]

set_option maxHeartbeats 800000 in
theorem add_any (a b : Nat) (v u : Value) (w : World) (h : IsN w w.heap.size .u32 v a) (h' : IsN w w.heap.size .u32 u b) (hl : (limbs a).length ≤ 1000000000000) (hl' : (limbs b).length ≤ 1000000000000) :
    Calls Tryz.prog 142 #[v, u] w fun e w' => Below w.heap.size w w' ∧ ∃ v, e = .returned v ∧ OwnN w' w.heap.size 105 .u32 v (a + b) := by
  obtain ⟨A, c, rfl, h1, h3⟩ := h
  obtain ⟨A2, c2, rfl, k1, k3⟩ := h'
  have hv := val_limbs a
  have hsm := Small.limbs a
  have kv := val_limbs b
  have ksm := Small.limbs b
  generalize limbs a = l at *
  generalize limbs b = m at *
  rcases Nat.lt_or_ge l.length m.length with hlm | hlm
  · have hmk := make_u32 (m.length + 1) ((m.length : Int) + 1) (by omega) (by omega)
    go_enter Tryz.func142, Tryz.ntmps142
    go_wp2_with fail
    go_loopw [6, 23] (fun carry i wr => ∃ (j c : Nat) (zs : List Nat), j ≤ m.length ∧ i = .int .i64 j ∧ carry = .int .u32 c ∧ c ≤ 1 ∧ zs.length = m.length + 1 ∧ Small zs ∧ val (zs.take j) + c * B ^ j = val (m.take j) + val (l.take j) ∧
        Bk wr w.heap.size 105 (ints .u32 zs).toArray ∧ Below w.heap.size w wr) (fun _ i _ => m.length - (intOf i).toNat)
    case atStart => exact ⟨0, 0, List.replicate (m.length + 1) 0, Nat.zero_le _, rfl, rfl, by omega, by simp, Small.replicate _, by simp [val], Bk.new _ _ _, (Below.refl _ _).alloc (Nat.le_refl _) _⟩
    case round =>
      obtain ⟨j, c', zs, hj, rfl, rfl, hc', hz, hzs, hval, hbk, hbel⟩ := hrel
      have hcell2 := hbk.cell j
      rw [ints_getD .u32 zs (by omega)] at hcell2
      have hfr := hbk.frozen j
      have HV := Lib.hid hval
      by_cases hlt : j < m.length
      · obtain ⟨ad, rfl, hb, hcell⟩ := (k3.below hbel).int (j := j) hlt
        have hx : m.getD j 0 < 1000000000 := ksm.getD j
        have hy : l.getD j 0 < 1000000000 := hsm.getD j
        have HX := Lib.hid (val_take_ge m j)
        have HY := Lib.hid (val_take_ge l j)
        have fin : ∀ x y : Nat, x < B → y < B → val (m.take (j + 1)) = val (m.take j) + B ^ j * x → val (l.take (j + 1)) = val (l.take j) + B ^ j * y →
            (x + y + c') / B ≤ 1 ∧ (zs.set j ((x + y + c') % B)).length = m.length + 1 ∧ Small (zs.set j ((x + y + c') % B)) ∧
            val ((zs.set j ((x + y + c') % B)).take (j + 1)) + (x + y + c') / B * B ^ (j + 1) = val (m.take (j + 1)) + val (l.take (j + 1)) ∧
            ∀ u, u = (((x + y + c') % B : Nat) : Int) → Bk (wr.setCell ⟨w.heap.size, j, none⟩ (.int .u32 u)) w.heap.size 105 (ints .u32 (zs.set j ((x + y + c') % B))).toArray := by
          intro x y hx hy ex ey
          refine ⟨carry_le hx hy hc' rfl, by simpa using hz, hzs.set (Nat.mod_lt _ B_pos), ?_, ?_⟩
          · rw [take_set_eq zs j _ (by omega), val_snoc, List.length_take, Nat.min_eq_left (by omega), Nat.pow_succ, ex, ey]
            exact add_step HV.out rfl
          · rintro u rfl
            have := hbk.put j (.int .u32 (((x + y + c') % B : Nat) : Int))
            rw [ints_set] at this
            exact this
        have FIN := Lib.hid fin
        by_cases hltb : j < l.length
        · obtain ⟨ad2, rfl, hb2, hcell3⟩ := (h3.below hbel).int (j := j) hltb
          generalize m.getD j 0 = x at *
          generalize l.getD j 0 = y at *
          clear hval fin hmk
          go_wp2
          go_roundw
          case rel =>
            obtain ⟨f1, f2, f3, f4, f5⟩ := FIN.out x y hx hy HX.out HY.out
            refine ⟨j + 1, (x + y + c') / B, zs.set j ((x + y + c') % B), by omega, by go_num, ?_, f1, f2, f3, f4, f5 _ ?_, hbel.setCell (Nat.le_refl _) _⟩
            · congr 1; rw [B_eq]; omega
            · rw [B_eq]; omega
          case measure => simp [intOf]; omega
        · have hy0 : l.getD j 0 = 0 := by rw [List.getD_eq_getElem?_getD, List.getElem?_eq_none (by omega)]; rfl
          rw [hy0] at HY
          generalize m.getD j 0 = x at *
          clear hval fin hmk hy0 hy
          go_wp2
          go_roundw
          case rel =>
            obtain ⟨f1, f2, f3, f4, f5⟩ := FIN.out x 0 hx B_pos HX.out HY.out
            refine ⟨j + 1, (x + 0 + c') / B, zs.set j ((x + 0 + c') % B), by omega, by go_num, ?_, f1, f2, f3, f4, f5 _ ?_, hbel.setCell (Nat.le_refl _) _⟩
            · congr 1
            · rw [B_eq]; omega
          case measure => simp [intOf]; omega
      · obtain rfl : j = m.length := by omega
        clear hval
        go_wp2_with fail
        have hbk2 := hbk.put m.length (.int .u32 (c' : Int))
        rw [ints_set] at hbk2
        have hs2 : Small (zs.set m.length c') := hzs.set (by rw [B_eq]; omega)
        have hval2 : val (zs.set m.length c') = a + b := by
          have h5 := take_set_eq zs m.length c' (by omega)
          rw [List.take_of_length_le (by simp [hz])] at h5
          rw [h5, val_snoc, List.length_take, hz, Nat.min_eq_left (by omega), Nat.mul_comm]
          have := HV.out
          rw [val_take_all m (Nat.le_refl _), val_take_all l (by omega), kv, hv] at this
          omega
        have hrd := hbk2.rd
        refine (trim_any _ _ (m.length + 1) (zs.set m.length c') _ (by simpa using hz) (Nat.le_refl _) (by omega) hrd).mono ?_
        rintro e w1 ⟨rfl, k, hT, rfl⟩
        have HO := OwnN.of_trim hbk2 (Nat.le_refl _) (by simpa using hz) (by omega) hs2 hT hval2
        clear hval2 hmk hT
        go_wp2
        go_ret
        exact ⟨hbel.setCell (Nat.le_refl _) _, _, rfl, HO⟩
  · have hmk := make_u32 (l.length + 1) ((l.length : Int) + 1) (by omega) (by omega)
    go_enter Tryz.func142, Tryz.ntmps142
    go_wp2_with fail
    go_loopw [6, 23] (fun carry i wr => ∃ (j c : Nat) (zs : List Nat), j ≤ l.length ∧ i = .int .i64 j ∧ carry = .int .u32 c ∧ c ≤ 1 ∧ zs.length = l.length + 1 ∧ Small zs ∧ val (zs.take j) + c * B ^ j = val (l.take j) + val (m.take j) ∧
        Bk wr w.heap.size 105 (ints .u32 zs).toArray ∧ Below w.heap.size w wr) (fun _ i _ => l.length - (intOf i).toNat)
    case atStart => exact ⟨0, 0, List.replicate (l.length + 1) 0, Nat.zero_le _, rfl, rfl, by omega, by simp, Small.replicate _, by simp [val], Bk.new _ _ _, (Below.refl _ _).alloc (Nat.le_refl _) _⟩
    case round =>
      obtain ⟨j, c', zs, hj, rfl, rfl, hc', hz, hzs, hval, hbk, hbel⟩ := hrel
      have hcell2 := hbk.cell j
      rw [ints_getD .u32 zs (by omega)] at hcell2
      have hfr := hbk.frozen j
      have HV := Lib.hid hval
      by_cases hlt : j < l.length
      · obtain ⟨ad, rfl, hb, hcell⟩ := (h3.below hbel).int (j := j) hlt
        have hx : l.getD j 0 < 1000000000 := hsm.getD j
        have hy : m.getD j 0 < 1000000000 := ksm.getD j
        have HX := Lib.hid (val_take_ge l j)
        have HY := Lib.hid (val_take_ge m j)
        have fin : ∀ x y : Nat, x < B → y < B → val (l.take (j + 1)) = val (l.take j) + B ^ j * x → val (m.take (j + 1)) = val (m.take j) + B ^ j * y →
            (x + y + c') / B ≤ 1 ∧ (zs.set j ((x + y + c') % B)).length = l.length + 1 ∧ Small (zs.set j ((x + y + c') % B)) ∧
            val ((zs.set j ((x + y + c') % B)).take (j + 1)) + (x + y + c') / B * B ^ (j + 1) = val (l.take (j + 1)) + val (m.take (j + 1)) ∧
            ∀ u, u = (((x + y + c') % B : Nat) : Int) → Bk (wr.setCell ⟨w.heap.size, j, none⟩ (.int .u32 u)) w.heap.size 105 (ints .u32 (zs.set j ((x + y + c') % B))).toArray := by
          intro x y hx hy ex ey
          refine ⟨carry_le hx hy hc' rfl, by simpa using hz, hzs.set (Nat.mod_lt _ B_pos), ?_, ?_⟩
          · rw [take_set_eq zs j _ (by omega), val_snoc, List.length_take, Nat.min_eq_left (by omega), Nat.pow_succ, ex, ey]
            exact add_step HV.out rfl
          · rintro u rfl
            have := hbk.put j (.int .u32 (((x + y + c') % B : Nat) : Int))
            rw [ints_set] at this
            exact this
        have FIN := Lib.hid fin
        by_cases hltb : j < m.length
        · obtain ⟨ad2, rfl, hb2, hcell3⟩ := (k3.below hbel).int (j := j) hltb
          generalize l.getD j 0 = x at *
          generalize m.getD j 0 = y at *
          clear hval fin hmk
          go_wp2
          go_roundw
          case rel =>
            obtain ⟨f1, f2, f3, f4, f5⟩ := FIN.out x y hx hy HX.out HY.out
            refine ⟨j + 1, (x + y + c') / B, zs.set j ((x + y + c') % B), by omega, by go_num, ?_, f1, f2, f3, f4, f5 _ ?_, hbel.setCell (Nat.le_refl _) _⟩
            · congr 1; rw [B_eq]; omega
            · rw [B_eq]; omega
          case measure => simp [intOf]; omega
        · have hy0 : m.getD j 0 = 0 := by rw [List.getD_eq_getElem?_getD, List.getElem?_eq_none (by omega)]; rfl
          rw [hy0] at HY
          generalize l.getD j 0 = x at *
          clear hval fin hmk hy0 hy
          go_wp2
          go_roundw
          case rel =>
            obtain ⟨f1, f2, f3, f4, f5⟩ := FIN.out x 0 hx B_pos HX.out HY.out
            refine ⟨j + 1, (x + 0 + c') / B, zs.set j ((x + 0 + c') % B), by omega, by go_num, ?_, f1, f2, f3, f4, f5 _ ?_, hbel.setCell (Nat.le_refl _) _⟩
            · congr 1
            · rw [B_eq]; omega
          case measure => simp [intOf]; omega
      · obtain rfl : j = l.length := by omega
        clear hval
        go_wp2_with fail
        have hbk2 := hbk.put l.length (.int .u32 (c' : Int))
        rw [ints_set] at hbk2
        have hs2 : Small (zs.set l.length c') := hzs.set (by rw [B_eq]; omega)
        have hval2 : val (zs.set l.length c') = a + b := by
          have h5 := take_set_eq zs l.length c' (by omega)
          rw [List.take_of_length_le (by simp [hz])] at h5
          rw [h5, val_snoc, List.length_take, hz, Nat.min_eq_left (by omega), Nat.mul_comm]
          have := HV.out
          rw [val_take_all l (Nat.le_refl _), val_take_all m (by omega), hv, kv] at this
          omega
        have hrd := hbk2.rd
        refine (trim_any _ _ (l.length + 1) (zs.set l.length c') _ (by simpa using hz) (Nat.le_refl _) (by omega) hrd).mono ?_
        rintro e w1 ⟨rfl, k, hT, rfl⟩
        have HO := OwnN.of_trim hbk2 (Nat.le_refl _) (by simpa using hz) (by omega) hs2 hT hval2
        clear hval2 hmk hT
        go_wp2
        go_ret
        exact ⟨hbel.setCell (Nat.le_refl _) _, _, rfl, HO⟩
end Go.Proofs.YtpkhgdnkkdhlcaaGreatDoor

namespace Go.Proofs.YtpkhgdnkkdhlcaaGreatDoor
open Go.RowKit Ar

set_option maxHeartbeats 400000 in
theorem clone_any (A : Option Addr) (n c : Nat) (l : List Nat) (w : World) (hn : l.length = n) (hm : n ≤ 4000000000000) (h : Rd w w.heap.size A (ints .u32 l)) :
    Calls Tryz.prog 194 #[.slice A n c] w fun e w' => Below w.heap.size w w' ∧ ∃ v, e = .returned v ∧ w'.ownsRow w.heap.size 105 1 v n (ints .u32 l) := by
  obtain ⟨i0, hi0, hz0, hz1, hz2⟩ := info_parts u32_info
  have hnil := fun W => Lib.run_eql_slice_nil (P := Tryz.prog) W 100 105 A n c 0 0 Tryz.underlying100
  rcases A with _ | ad
  · have hl : l = [] := by
      rcases Classical.em (l = []) with h0 | h0
      · exact h0
      · obtain ⟨_, h2, _⟩ := h (by simpa [ints] using h0)
        cases h2
    subst hl
    obtain rfl : n = 0 := by simpa using hn.symm
    go_enter Tryz.func194, Tryz.ntmps194
    go_wp2
    go_ret
    exact ⟨Below.refl _ _, _, rfl, World.ownsRow_nil _ _ _ _⟩
  · have hle : l.length = n := hn
    have HN := Lib.hid hn
    clear hn
    go_enter Tryz.func194, Tryz.ntmps194
    go_wp2_with (at_builtin; refine wpL_append _ rfl (.tmp 5) (.tmp 6) _ rfl w.heap.size 105 i0 _ 1 4 Tryz.underlying100 hi0 hz0 hz1 hz2 rfl (by omega) _ 0 [] rfl (World.ownsRow_made _ _ 0 (Nat.le_refl _) (by unfold maxLen; omega) rfl) (some ad) n c (ints .u32 l) rfl (by rw [ints_length, Nat.mul_one]; exact HN.out) (h.alloc (Nat.le_refl _) _) (ints_one _ _) (by unfold maxLen; omega) (by omega) (by simp) ?_; intro v1 w1 hown1 hg1 hat1)
    go_ret
    refine ⟨below_app ((Below.refl _ _).alloc (Nat.le_refl _) _) hg1 (by simp) (World.ownsRow_made (base := w.heap.size) (e := 105) (size := 1) w #[] 0 (Nat.le_refl _) (by unfold maxLen; omega) rfl) (Nat.le_refl _), v1, rfl, ?_⟩
    simpa using hown1

theorem own_form {w : World} {base n : Nat} {T : TypeId} {v : Value} {xs : List Value} (h : w.ownsRow base T 1 v n xs) (hn : 0 < n) : ∃ g cap, v = .slice (some ⟨g, 0, none⟩) n cap ∧ base ≤ g ∧ n ≤ cap ∧ cap ≤ maxLen := by
  rcases h.2 with ⟨_, hz⟩ | ⟨g, cap, cur, hv, hb, _, hc, hm, _⟩
  · omega
  · exact ⟨g, cap, hv, hb, hc, hm⟩
theorem sub_end {Z b A c n : Nat} (h : Z + b = A + c * B ^ n) (hz : Z < B ^ n) (hab : b ≤ A) (hc : c ≤ 1) : Z = A - b := by
  rcases Nat.eq_zero_or_pos c with rfl | h0
  · omega
  · obtain rfl : c = 1 := by omega
    omega
theorem sub_digit {x y c : Nat} (hx : x < B) (hy : y < B) (hc : c ≤ 1) : (x < y + c → (x + B - y - c) + y + c = x + 1 * B ∧ x + B - y - c < B) ∧ (¬ x < y + c → (x - y - c) + y + c = x + 0 * B ∧ x - y - c < B) := by
  constructor <;> intro h <;> omega

set_option maxHeartbeats 1000000 in
theorem sub_any (a b : Nat) (v u : Value) (w : World) (h : IsN w w.heap.size .u32 v a) (h' : IsN w w.heap.size .u32 u b) (hab : b ≤ a) (hl : (limbs a).length ≤ 1000000000000) :
    Calls Tryz.prog 144 #[v, u] w fun e w' => Below w.heap.size w w' ∧ ∃ v, e = .returned v ∧ IsN w' w'.heap.size .u32 v (a - b) := by
  obtain ⟨A, c, rfl, h1, h3⟩ := h
  obtain ⟨A2, c2, rfl, k1, k3⟩ := h'
  have hlen := len_mono hab
  have hv := val_limbs a
  have hsm := Small.limbs a
  have kv := val_limbs b
  have ksm := Small.limbs b
  generalize limbs a = l at *
  generalize limbs b = m at *
  rcases Nat.eq_zero_or_pos l.length with h0 | h0
  · have hz : a - b = 0 := by
      have : a = 0 := by rw [← hv, List.eq_nil_of_length_eq_zero h0]; rfl
      omega
    have hnil : Hid (l = []) := List.eq_nil_of_length_eq_zero h0
    rw [hz, h0]
    clear hz
    go_enter Tryz.func144, Tryz.ntmps144
    go_wp2_with fail
    refine (clone_any A 0 c [] w rfl (by omega) Rd.nil).mono ?_
    rintro e w1 ⟨hb1, o, rfl, hown⟩
    obtain ⟨A', cap, rfl⟩ : ∃ A' cap, o = .slice A' 0 cap := by
      rcases hown.2 with ⟨rfl, _⟩ | ⟨g, cap, cur, rfl, _⟩
      · exact ⟨none, 0, rfl⟩
      · exact ⟨_, cap, rfl⟩
    clear hown
    go_wp2
    refine wp_loop_rounds 1 ?_
    rw [rounds_succ]
    go_wp2_with fail
    refine (trim_any _ _ 0 [] _ rfl (Nat.zero_le _) (by omega) Rd.nil).mono ?_
    rintro e w2 ⟨rfl, k, hT, rfl⟩
    obtain rfl : k = 0 := by have := hT.1; simpa using this
    go_wp2
    go_ret
    exact ⟨hb1, _, rfl, A', cap, by rw [limbs_zero]; rfl, by rw [limbs_zero]; exact Nat.zero_le _, by rw [limbs_zero]; exact Rd.nil⟩
  · go_enter Tryz.func144, Tryz.ntmps144
    go_wp2_with fail
    refine (clone_any A l.length c l w rfl (by omega) h3).mono ?_
    rintro e w1 ⟨hb1, o, rfl, hown⟩
    obtain ⟨g, cap, rfl, hg, hcap, hcm⟩ := own_form hown h0
    go_wp2_with fail
    go_loopw [6, 13] (fun bor i wr => ∃ (j c : Nat) (zs : List Nat), j ≤ l.length ∧ i = .int .i64 j ∧ bor = .int .i64 c ∧ c ≤ 1 ∧ zs.length = l.length ∧ Small zs ∧ val (zs.take j) + val (m.take j) = val (l.take j) + c * B ^ j ∧ zs.drop j = l.drop j ∧
        wr.ownsRow w.heap.size 105 1 (.slice (some ⟨g, 0, none⟩) l.length cap) l.length (ints .u32 zs) ∧ Below w.heap.size w wr) (fun _ i _ => l.length - (intOf i).toNat)
    case atStart => exact ⟨0, 0, l, Nat.zero_le _, rfl, rfl, by omega, rfl, hsm, by simp [val], rfl, hown, hb1⟩
    case round =>
      obtain ⟨j, c', zs, hj, rfl, rfl, hc', hz, hzs, hval, hdrop, hown2, hbel⟩ := hrel
      have HV := Lib.hid hval
      have HD := Lib.hid hdrop
      by_cases hlt : j < l.length
      · have hcell := hown2.cellAt j (by omega)
        have hfr := hown2.frozenAt j
        have hzj : (ints .u32 zs)[j]? = some (.int .u32 ((l.getD j 0 : Nat) : Int)) := by
          have h5 : zs[j]? = l[j]? := by
            have := congrArg (fun x => x[0]?) hdrop
            simpa [List.getElem?_drop] using this
          simp [ints, h5, List.getElem?_eq_getElem hlt, List.getD_eq_getElem?_getD]
        rw [hzj] at hcell
        have hx : l.getD j 0 < 1000000000 := hsm.getD j
        have hy : m.getD j 0 < 1000000000 := ksm.getD j
        have HX := Lib.hid (val_take_ge l j)
        have HY := Lib.hid (val_take_ge m j)
        have HYc : Hid (j < m.length → ∃ ad2, A2 = some ad2 ∧ ad2.block < w.heap.size ∧ wr.cell? (ad2.add j) = some (.int .u32 ((m.getD j 0 : Nat) : Int))) := fun h => (k3.below hbel).int h
        have HY0 : Hid (¬ j < m.length → m.getD j 0 = 0) := fun h => by rw [List.getD_eq_getElem?_getD, List.getElem?_eq_none (by omega)]; rfl
        have hdig := sub_digit (x := l.getD j 0) (y := m.getD j 0) (c := c') hx hy hc'
        -- what a digit d and a borrow b' make of the row
        have fin : ∀ d b' : Nat, d < B → b' ≤ 1 → d + m.getD j 0 + c' = l.getD j 0 + b' * B → ∀ u : Int, u = (d : Int) →
            ∃ (zs' : List Nat), zs'.length = l.length ∧ Small zs' ∧ val (zs'.take (j + 1)) + val (m.take (j + 1)) = val (l.take (j + 1)) + b' * B ^ (j + 1) ∧ zs'.drop (j + 1) = l.drop (j + 1) ∧
              (wr.setCell ⟨g, j, none⟩ (.int .u32 u)).ownsRow w.heap.size 105 1 (.slice (some ⟨g, 0, none⟩) l.length cap) l.length (ints .u32 zs') ∧ Below w.heap.size w (wr.setCell ⟨g, j, none⟩ (.int .u32 u)) := by
          rintro d b' hd hb' e u rfl
          refine ⟨zs.set j d, by simpa using hz, hzs.set hd, ?_, ?_, ?_, hbel.setCell hg _⟩
          · rw [take_set_eq zs j _ (by omega), val_snoc, List.length_take, Nat.min_eq_left (by omega), Nat.pow_succ, HX.out, HY.out]
            exact sub_step HV.out e
          · rw [drop_set_gt zs (by omega)]
            have := congrArg (List.drop 1) HD.out
            simpa [List.drop_drop] using this
          · have := (hown2.stored j (.int .u32 (d : Int))).1
            rw [show (ints .u32 zs).set j (.int .u32 (d : Int)) = ints .u32 (zs.set j d) by simp [ints, List.map_set]] at this
            exact this
        have FIN := Lib.hid fin
        have HDIG := Lib.hid hdig
        generalize l.getD j 0 = x at *
        clear fin hdig hval hdrop hzj
        by_cases hltb : j < m.length
        · obtain ⟨ad2, rfl, hb2, hcell3⟩ := HYc.out hltb
          generalize m.getD j 0 = y at *
          by_cases hneg : x < y + c'
          · clear HYc HY0
            go_wp2
            go_roundw
            case rel =>
              obtain ⟨e1, e2⟩ := HDIG.out.1 hneg
              obtain ⟨zs', f1, f2, f3, f4, f5, f6⟩ := FIN.out _ 1 e2 (Nat.le_refl _) e1 ((x : Int) - (c' : Int) - (y : Int) + 1000000000) (by rw [B_eq]; omega)
              exact ⟨j + 1, 1, zs', by omega, by go_num, rfl, Nat.le_refl _, f1, f2, f3, f4, f5, f6⟩
            case measure => simp [intOf]; omega
          · clear HYc HY0
            go_wp2
            go_roundw
            case rel =>
              obtain ⟨e1, e2⟩ := HDIG.out.2 hneg
              obtain ⟨zs', f1, f2, f3, f4, f5, f6⟩ := FIN.out _ 0 e2 (Nat.zero_le _) e1 ((x : Int) - (c' : Int) - (y : Int)) (by omega)
              exact ⟨j + 1, 0, zs', by omega, by go_num, rfl, Nat.zero_le _, f1, f2, f3, f4, f5, f6⟩
            case measure => simp [intOf]; omega
        · have h00 := HY0.out hltb
          rw [h00] at FIN HDIG HY hy
          by_cases hneg : x < 0 + c'
          · clear HYc HY0 h00
            go_wp2
            go_roundw
            case rel =>
              obtain ⟨e1, e2⟩ := HDIG.out.1 hneg
              obtain ⟨zs', f1, f2, f3, f4, f5, f6⟩ := FIN.out _ 1 e2 (Nat.le_refl _) e1 ((x : Int) - (c' : Int) + 1000000000) (by rw [B_eq]; omega)
              exact ⟨j + 1, 1, zs', by omega, by go_num, rfl, Nat.le_refl _, f1, f2, f3, f4, f5, f6⟩
            case measure => simp [intOf]; omega
          · clear HYc HY0 h00
            go_wp2
            go_roundw
            case rel =>
              obtain ⟨e1, e2⟩ := HDIG.out.2 hneg
              obtain ⟨zs', f1, f2, f3, f4, f5, f6⟩ := FIN.out _ 0 e2 (Nat.zero_le _) e1 ((x : Int) - (c' : Int)) (by omega)
              exact ⟨j + 1, 0, zs', by omega, by go_num, rfl, Nat.zero_le _, f1, f2, f3, f4, f5, f6⟩
            case measure => simp [intOf]; omega
      · obtain rfl : j = l.length := by omega
        have hZ : val zs = a - b := by
          have := HV.out
          rw [val_take_all l (Nat.le_refl _), val_take_all zs (by omega), val_take_all m hlen, hv, kv] at this
          exact sub_end this (by have := val_lt hzs; rwa [hz] at this) hab hc'
        have hrd := Rd.of_own hown2
        clear hval hdrop
        go_wp2_with fail
        refine (trim_any _ _ l.length zs _ hz (by omega) (by omega) hrd).mono ?_
        rintro e w2 ⟨rfl, k, hT, rfl⟩
        have hk := hT.len hzs
        have ht := hT.eq hzs
        rw [hZ] at hk ht
        have HO : IsN wr wr.heap.size .u32 (.slice (some ⟨g, 0, none⟩) k cap) (a - b) :=
          ⟨_, cap, by rw [← hk], by rw [← hk]; have := hT.1; omega, by rw [ht, ints_take]; exact hrd.take k⟩
        clear hk ht hZ hT
        go_wp2
        go_ret
        exact ⟨hbel, _, rfl, HO⟩
end Go.Proofs.YtpkhgdnkkdhlcaaGreatDoor

namespace Go.Proofs.YtpkhgdnkkdhlcaaGreatDoor
open Go.RowKit Ar

set_option maxHeartbeats 400000 in
theorem small_any (n : Nat) (w : World) (hn : n ≤ 1000000000000000000) :
    Calls Tryz.prog 190 #[.int .u64 n] w fun e w' => Below w.heap.size w w' ∧ ∃ v, e = .returned v ∧ IsN w' w'.heap.size .u32 v n := by
  obtain ⟨i0, hi0, hz0, hz1, hz2⟩ := info_parts u32_info
  have hlen : (limbs n).length ≤ 3 := limbs_len_le (by rw [B_eq]; omega)
  go_enter Tryz.func190, Tryz.ntmps190
  go_wp2_with fail
  go_loopw [0, 3] (fun nv out wr => ∃ (r : Nat) (xs : List Nat), nv = .int .u64 r ∧ r ≤ n ∧ Hid (limbs n = xs ++ limbs r) ∧ xs.length ≤ 3 ∧ wr.ownsRow w.heap.size 105 1 out xs.length (ints .u32 xs) ∧ Below w.heap.size w wr) (fun nv _ _ => (intOf nv).toNat)
  case atStart => exact ⟨n, [], rfl, Nat.le_refl _, rfl, by simp, World.ownsRow_nil _ _ _ _, Below.refl _ _⟩
  case round =>
    obtain ⟨r, xs, rfl, hr, HX, hxs, hown, hbel⟩ := hrel
    rcases Nat.eq_zero_or_pos r with rfl | hr0
    · go_wp2
      go_ret
      refine ⟨hbel, _, rfl, ?_⟩
      have e : limbs n = xs := by rw [HX.out, limbs_zero, List.append_nil]
      rcases hown.2 with ⟨hv, hz⟩ | ⟨g, cap, cur, hv, _, _, hc, _⟩
      · have : xs = [] := List.eq_nil_of_length_eq_zero hz
        show IsN wr wr.heap.size .u32 u3 n
        rw [hv]
        exact ⟨none, 0, by rw [e, this]; rfl, by rw [e, this]; exact Nat.le_refl _, by rw [e, this]; exact Rd.nil⟩
      · show IsN wr wr.heap.size .u32 u3 n
        rw [hv] at hown ⊢
        exact ⟨_, cap, by rw [e], by rw [e]; exact hc, by rw [e]; exact Rd.of_own hown⟩
    · have hlx : xs.length + 1 ≤ 3 := by
        have := congrArg List.length HX.out
        rw [List.length_append] at this
        have := limbs_len_pos hr0
        omega
      go_wp2_with (at_builtin; refine wpL_append _ rfl (.tmp 8) (.tmp 12) _ rfl w.heap.size 105 i0 _ 1 4 Tryz.underlying100 hi0 hz0 hz1 hz2 rfl (by omega) _ xs.length (ints .u32 xs) rfl (hown.alloc _) (some ⟨wr.heap.size, 0, none⟩) 1 1 [.int .u32 ((r : Int) % 1000000000)] rfl rfl (Rd.of_new wr [.int .u32 ((r : Int) % 1000000000)] 105) (by intro u hu; simp at hu; subst hu; rfl) (by unfold maxLen; omega) (by omega) (by have := hbel.size; simp; omega) ?_; intro v1 w1 hown1 hg1 hat1)
      go_roundw
      case rel =>
        refine ⟨r / 1000000000, xs ++ [r % 1000000000], by simp, by omega, ?_, by simp; omega, ?_, ?_⟩
        · show limbs n = _
          rw [HX.out, limbs_pos hr0, B_eq]; simp
        · have e : ints .u32 (xs ++ [r % 1000000000]) = ints .u32 xs ++ [.int .u32 ((r : Int) % 1000000000)] := by simp [ints]
          rw [e]; simpa using hown1
        · exact below_app (hbel.alloc hbel.size _) hg1 (by have := hbel.size; simp; omega) (hown.alloc _) (Nat.le_refl _)
      case measure => simp [intOf]; omega

def cmpN (a b : Nat) : Int := if a < b then -1 else if b < a then 1 else 0
theorem cmpN_lt {a b : Nat} (h : a < b) : cmpN a b = -1 := by unfold cmpN; rw [if_pos h]
theorem cmpN_gt {a b : Nat} (h : b < a) : cmpN a b = 1 := by unfold cmpN; rw [if_neg (by omega), if_pos h]
theorem cmpN_eq {a b : Nat} (h : a = b) : cmpN a b = 0 := by unfold cmpN; rw [if_neg (by omega), if_neg (by omega)]

set_option maxHeartbeats 800000 in
theorem cmp_any (a b : Nat) (v u : Value) (w : World) (h : IsN w w.heap.size .u32 v a) (h' : IsN w w.heap.size .u32 u b) (hl : (limbs a).length ≤ 2000000000000) :
    Calls Tryz.prog 143 #[v, u] w fun e w' => e = .returned (.int .i64 (cmpN a b)) ∧ ∃ n, w' = w.drewN n := by
  obtain ⟨A, c, rfl, h1, h3⟩ := h
  obtain ⟨A2, c2, rfl, k1, k3⟩ := h'
  rcases Nat.lt_trichotomy (limbs a).length (limbs b).length with hlt | heq | hgt
  · rw [cmpN_lt (lt_of_len hlt)]
    clear h1 k1 h3 k3
    generalize (limbs a).length = n at *
    generalize (limbs b).length = m at *
    go_enter Tryz.func143, Tryz.ntmps143
    go_wp2
    go_ret
    exact ⟨rfl, 0, rfl⟩
  · have hv := val_limbs a
    have hsm := Small.limbs a
    have kv := val_limbs b
    have ksm := Small.limbs b
    generalize limbs a = l at *
    generalize limbs b = m at *
    have HE := Lib.hid heq
    have hml : m.length ≤ l.length := by omega
    have hlm : l.length ≤ m.length := by omega
    rw [← heq]
    rw [← heq] at k1
    clear heq
    go_enter Tryz.func143, Tryz.ntmps143
    go_wp2
    go_loopw [5] (fun i wr => ∃ j q : Nat, j ≤ l.length ∧ i = .int .i64 ((j : Int) - 1) ∧ Hid (l.drop j = m.drop j) ∧ wr = w.drewN q) (fun i _ => (intOf i + 1).toNat)
    case atStart => exact ⟨l.length, 0, Nat.le_refl _, rfl, by show l.drop _ = m.drop _; rw [List.drop_of_length_le (Nat.le_refl _), List.drop_of_length_le hml], rfl⟩
    case round =>
      obtain ⟨j, q, hj, rfl, HD, rfl⟩ := hrel
      rcases Nat.eq_zero_or_pos j with rfl | hj0
      · rw [show (((0 : Nat) : Int) - 1) = -1 from rfl]
        have hab : a = b := by
          have := HD.out
          rw [List.drop_zero, List.drop_zero] at this
          rw [← hv, ← kv, this]
        have HL := Lib.hid hab
        clear hab
        go_wp2
        go_ret
        exact ⟨ret_int (cmpN_eq HL.out).symm, q, rfl⟩
      · obtain ⟨i, rfl⟩ : ∃ i, j = i + 1 := ⟨j - 1, by omega⟩
        rw [show (((i + 1 : Nat) : Int) - 1) = (i : Int) by omega]
        obtain ⟨ad, rfl, hb, hcell⟩ := h3.int (j := i) (by omega)
        obtain ⟨ad2, rfl, hb2, hcell2⟩ := k3.int (j := i) (by omega)
        have hi0 : (0 : Int) ≤ (i : Int) := by omega
        have hi1 : (i : Int) < (l.length : Int) := by omega
        rcases Nat.lt_trichotomy (l.getD i 0) (m.getD i 0) with hx | hx | hx
        · have HL : Hid (a < b) := by show a < b; rw [← hv, ← kv]; exact lt_of_top hsm HE.out (by omega) HD.out hx
          generalize l.getD i 0 = x at *
          generalize m.getD i 0 = y at *
          clear hj0
          go_wp2
          go_quiet (fail)
          go_wp2
          go_ret
          exact ⟨ret_int (cmpN_lt HL.out).symm, by simp only [World.drewN_drewN]; exact ⟨_, rfl⟩⟩
        · have HN : Hid (l.drop i = m.drop i) := by
            show l.drop i = m.drop i
            rw [List.drop_eq_getElem_cons (by omega : i < l.length), List.drop_eq_getElem_cons (by omega : i < m.length), HD.out]
            congr 1
            rw [List.getD_eq_getElem?_getD, List.getElem?_eq_getElem (by omega : i < l.length), List.getD_eq_getElem?_getD, List.getElem?_eq_getElem (by omega : i < m.length)] at hx
            exact hx
          rw [← hx] at hcell2
          generalize l.getD i 0 = x at *
          clear hx hj0
          go_wp2
          go_quiet (fail)
          go_wp2
          go_quiet (fail)
          go_wp2
          go_roundw
          case rel => exact ⟨i, _, by omega, by go_num, HN, rfl⟩
          case measure => simp [intOf]
        · have HL : Hid (b < a) := by show b < a; rw [← hv, ← kv]; exact lt_of_top ksm HE.out.symm (by omega) HD.out.symm hx
          generalize l.getD i 0 = x at *
          generalize m.getD i 0 = y at *
          clear hj0
          go_wp2
          go_quiet (fail)
          go_wp2
          go_quiet (fail)
          go_wp2
          go_ret
          exact ⟨ret_int (cmpN_gt HL.out).symm, by simp only [World.drewN_drewN]; exact ⟨_, rfl⟩⟩
  · rw [cmpN_gt (lt_of_len hgt)]
    clear h1 k1 h3 k3
    generalize (limbs a).length = n at *
    generalize (limbs b).length = m at *
    go_enter Tryz.func143, Tryz.ntmps143
    go_wp2
    go_ret
    exact ⟨rfl, 0, rfl⟩
end Go.Proofs.YtpkhgdnkkdhlcaaGreatDoor

namespace Go.Proofs.YtpkhgdnkkdhlcaaGreatDoor
open Go.RowKit Ar

theorem mul_inner {Z Z' c p x y r s T m : Nat} (h : Z + c * p = T) (hs : s = x * y + r + c) (hset : Z' + p * r = Z + p * (s % B)) (hm : m = p * (x * y)) : Z' + s / B * (p * B) = T + m := by
  have := Nat.mod_add_div s B
  have e : p * (s % B + B * (s / B)) = p * s := by rw [this]
  rw [Nat.mul_add] at e
  have e2 : s / B * (p * B) = p * (B * (s / B)) := by grind
  rw [e2]
  subst hs
  have : p * (x * y + r + c) = p * (x * y) + p * r + c * p := by grind
  omega

set_option maxHeartbeats 1600000 in
/-- The walk behind the early returns. -/
theorem mul_any (a b : Nat) (v u : Value) (w : World) (h : IsN w w.heap.size .u32 v a) (h' : IsN w w.heap.size .u32 u b) (hl : (limbs a).length ≤ 1000000000000) (hl' : (limbs b).length ≤ 1000000000000) :
    Calls Tryz.prog 141 #[v, u] w fun e w' => Below w.heap.size w w' ∧ ∃ v, e = .returned v ∧ IsN w' w'.heap.size .u32 v (a * b) := by
  have ha := h
  have hb := h'
  obtain ⟨A, c, rfl, h1, h3⟩ := h
  obtain ⟨A2, c2, rfl, k1, k3⟩ := h'
  have one1 := one_any a _ w ha hl
  have one2 := one_any b _ w hb hl'
  by_cases h0 : (limbs a).length = 0
  · have hz : a = 0 := limbs_len_zero.1 h0
    have HO : ∀ w', IsN w' w'.heap.size .u32 (.slice none 0 0) (a * b) := fun w' => by rw [hz, Nat.zero_mul]; exact IsN.nil _ _ _
    rw [h0]
    clear one1 one2 ha hb h1 h3 h0 hz
    generalize (limbs b).length = m at *
    go_enter Tryz.func141, Tryz.ntmps141
    go_wp2
    go_ret
    exact ⟨Below.refl _ _, _, rfl, HO _⟩
  by_cases h0' : (limbs b).length = 0
  · have hz : b = 0 := limbs_len_zero.1 h0'
    have HO : ∀ w', IsN w' w'.heap.size .u32 (.slice none 0 0) (a * b) := fun w' => by rw [hz, Nat.mul_zero]; exact IsN.nil _ _ _
    rw [h0']
    clear one1 one2 ha hb h1 h3 h0' hz
    generalize (limbs a).length = m at *
    go_enter Tryz.func141, Tryz.ntmps141
    go_wp2
    go_ret
    exact ⟨Below.refl _ _, _, rfl, HO _⟩
  by_cases hb1 : b = 1
  · have HO : IsN w w.heap.size .u32 (.slice A (limbs a).length c) (a * b) := by rw [hb1, Nat.mul_one]; exact ha
    have ed : decide (b = 1) = true := by simp [hb1]
    rw [ed] at one2
    have O2 := Lib.hid one2
    clear one1 one2 ha hb hb1 ed
    generalize (limbs a).length = n at *
    generalize (limbs b).length = m at *
    have z1 : ((n : Int) == 0) = false := by rw [beq_eq_false_iff_ne]; omega
    have z2 : ((m : Int) == 0) = false := by rw [beq_eq_false_iff_ne]; omega
    go_enter Tryz.func141, Tryz.ntmps141
    go_wp2_with fail
    refine O2.out.mono ?_
    rintro e w1 ⟨rfl, rfl⟩
    go_wp2
    go_ret
    exact ⟨Below.refl _ _, _, rfl, HO⟩
  by_cases ha1 : a = 1
  · have HO : IsN w w.heap.size .u32 (.slice A2 (limbs b).length c2) (a * b) := by rw [ha1, Nat.one_mul]; exact hb
    have ed : decide (b = 1) = false := by simp [hb1]
    rw [ed] at one2
    have O2 := Lib.hid one2
    have ed' : decide (a = 1) = true := by simp [ha1]
    rw [ed'] at one1
    have O1 := Lib.hid one1
    clear one1 one2 ha hb hb1 ha1 ed ed'
    generalize (limbs a).length = n at *
    generalize (limbs b).length = m at *
    have z1 : ((n : Int) == 0) = false := by rw [beq_eq_false_iff_ne]; omega
    have z2 : ((m : Int) == 0) = false := by rw [beq_eq_false_iff_ne]; omega
    go_enter Tryz.func141, Tryz.ntmps141
    go_wp2_with fail
    refine O2.out.mono ?_
    rintro e w1 ⟨rfl, rfl⟩
    go_wp2_with fail
    refine O1.out.mono ?_
    rintro e w1 ⟨rfl, rfl⟩
    go_wp2
    go_ret
    exact ⟨Below.refl _ _, _, rfl, HO⟩
  have ed : decide (b = 1) = false := by simp [hb1]
  rw [ed] at one2
  have O2 := Lib.hid one2
  have ed' : decide (a = 1) = false := by simp [ha1]
  rw [ed'] at one1
  have O1 := Lib.hid one1
  have hv := val_limbs a
  have hsm := Small.limbs a
  have kv := val_limbs b
  have ksm := Small.limbs b
  clear one1 one2 ha hb hb1 ha1 ed ed'
  generalize limbs a = l at *
  generalize limbs b = m at *
  have z1 : ((l.length : Int) == 0) = false := by rw [beq_eq_false_iff_ne]; omega
  have z2 : ((m.length : Int) == 0) = false := by rw [beq_eq_false_iff_ne]; omega
  have hmk := make_u32 (l.length + m.length) ((l.length : Int) + (m.length : Int)) (by omega) (by omega)
  go_enter Tryz.func141, Tryz.ntmps141
  go_wp2_with fail
  refine O2.out.mono ?_
  rintro e w1 ⟨rfl, rfl⟩
  go_wp2_with fail
  refine O1.out.mono ?_
  rintro e w1 ⟨rfl, rfl⟩
  go_wp2_with fail
  clear O1 O2 hmk
  go_loopw [34] (fun i wr => ∃ (j : Nat) (zs : List Nat), j ≤ l.length ∧ i = .int .i64 j ∧ zs.length = l.length + m.length ∧ Small zs ∧ Hid (val zs = val (l.take j) * b) ∧ Hid (∀ t, j + m.length ≤ t → zs.getD t 0 = 0) ∧
      Bk wr w.heap.size 105 (ints .u32 zs).toArray ∧ Below w.heap.size w wr) (fun i _ => l.length - (intOf i).toNat)
  case atStart => exact ⟨0, List.replicate (l.length + m.length) 0, Nat.zero_le _, rfl, by simp, Small.replicate _, by show val _ = _; rw [val_replicate]; simp [val], (fun t _ => by rw [List.getD_eq_getElem?_getD, List.getElem?_replicate]; split <;> rfl), Bk.new _ _ _, (Below.refl _ _).alloc (Nat.le_refl _) _⟩
  case round =>
    obtain ⟨j, zs, hj, rfl, hz, hzs, HV, HZ, hbk, hbel⟩ := hrel
    by_cases hlt : j < l.length
    · obtain ⟨ad, rfl, hb, hcell⟩ := (h3.below hbel).int (j := j) hlt
      have hx : l.getD j 0 < 1000000000 := hsm.getD j
      have HX := Lib.hid (val_take_ge l j)
      generalize l.getD j 0 = x at *
      go_wp2_with fail
      obtain ⟨wo, hwo⟩ : ∃ wo : World, wo = wr := ⟨_, rfl⟩
      subst hwo
      go_loopw [8, 41] (fun carry i wi => ∃ (k c : Nat) (ys : List Nat), k ≤ m.length ∧ i = .int .i64 k ∧ carry = .int .u64 c ∧ c < 1000000000 ∧ ys.length = l.length + m.length ∧ Small ys ∧
          Hid (val ys + c * B ^ (j + k) = val (l.take j) * b + B ^ j * (x * val (m.take k))) ∧ Hid (∀ t, j + m.length ≤ t → ys.getD t 0 = 0) ∧
          Bk wi w.heap.size 105 (ints .u32 ys).toArray ∧ Below w.heap.size w wi) (fun _ i _ => m.length - (intOf i).toNat)
      case atStart => exact ⟨0, 0, zs, Nat.zero_le _, rfl, rfl, by omega, hz, hzs, by show _ = _; rw [HV.out]; simp [val], HZ.out, hbk, hbel⟩
      case round =>
        obtain ⟨k, c', ys, hk, rfl, rfl, hc', hy1, hys, HW, HZ2, hbk2, hbel2⟩ := hrel
        by_cases hltk : k < m.length
        · obtain ⟨ad2, rfl, hb2, hcell2⟩ := (k3.below hbel2).int (j := k) hltk
          have hy : m.getD k 0 < 1000000000 := ksm.getD k
          have HY := Lib.hid (val_take_ge m k)
          have hr : ys.getD (j + k) 0 < 1000000000 := hys.getD (j + k)
          have hcell3 := hbk2.cell (j + k)
          rw [ints_getD .u32 ys (by omega)] at hcell3
          have hfr := hbk2.frozen (j + k)
          have HS := Lib.hid (fun v => val_set ys (j + k) v (by omega))
          generalize m.getD k 0 = y at *
          generalize ys.getD (j + k) 0 = r at *
          have hp0 : (0 : Int) ≤ (x : Int) * (y : Int) := Int.mul_nonneg (by omega) (by omega)
          have hp1 : (x : Int) * (y : Int) ≤ 999999998000000001 := by
            have : x * y ≤ 999999999 * 999999999 := Nat.mul_le_mul (by omega) (by omega)
            have : ((x * y : Nat) : Int) ≤ ((999999999 * 999999999 : Nat) : Int) := by omega
            rw [Int.natCast_mul] at this; omega
          go_wp2
          go_roundw
          case rel =>
            have hsd : (x * y + r + c') % B < B := Nat.mod_lt _ B_pos
            have eS : ((x * y + r + c' : Nat) : Int) = (x : Int) * (y : Int) + (r : Int) + (c' : Int) := by rw [Int.natCast_add, Int.natCast_add, Int.natCast_mul]
            have eT : ∀ u : Nat, ∀ v : Int, (Value.int .u64 v = Value.int .u64 (u : Int)) = (v = (u : Int)) := fun u v => by simp
            refine ⟨k + 1, (x * y + r + c') / B, ys.set (j + k) ((x * y + r + c') % B), by omega, by go_num, ?_, mul_carry hx hy hr hc' rfl, by simpa using hy1, hys.set hsd, ?_, ?_, ?_, ?_⟩
            · rw [eT, Int.natCast_ediv, eS]; rfl
            · have e1 := mul_inner HW.out rfl (HS.out ((x * y + r + c') % B)) (m := B ^ j * (x * (B ^ k * y))) (by rw [Nat.pow_add]; grind)
              rw [HY.out, show j + (k + 1) = (j + k) + 1 from rfl, Nat.pow_succ]
              refine Eq.trans e1 ?_
              grind
            · intro t ht
              rw [List.getD_eq_getElem?_getD, List.getElem?_set_ne (by omega), ← List.getD_eq_getElem?_getD]
              exact HZ2.out t ht
            · have := hbk2.put (j + k) (.int .u32 (((x * y + r + c') % B : Nat) : Int))
              rw [ints_set, Int.natCast_emod, eS] at this
              exact this
            · exact hbel2.setCell (Nat.le_refl _) _
          case measure => simp [intOf]; omega
        · obtain rfl : k = m.length := by omega
          have hcell3 := hbk2.cell (j + m.length)
          rw [ints_getD .u32 ys (by omega), HZ2.out _ (Nat.le_refl _)] at hcell3
          have hfr := hbk2.frozen (j + m.length)
          have hB := B_eq
          go_wp2
          go_roundw
          case rel =>
            refine ⟨j + 1, ys.set (j + m.length) c', by omega, by go_num, by simpa using hy1, hys.set hc', ?_, ?_, ?_, hbel2.setCell (Nat.le_refl _) _⟩
            · have e1 := val_set ys (j + m.length) c' (by omega)
              rw [HZ2.out _ (Nat.le_refl _), Nat.mul_zero, Nat.add_zero] at e1
              have e2 := HW.out
              rw [val_take_all m (Nat.le_refl _), kv] at e2
              rw [e1, HX.out]
              show _ = (_ + B ^ j * x) * b
              rw [Nat.mul_comm (B ^ _) c', e2]
              grind
            · intro t ht
              rw [List.getD_eq_getElem?_getD, List.getElem?_set_ne (by omega), ← List.getD_eq_getElem?_getD]
              exact HZ2.out t (by omega)
            · have := hbk2.put (j + m.length) (.int .u32 (c' : Int))
              rw [ints_set] at this
              exact this
          case measure => simp [intOf]; omega
    · obtain rfl : j = l.length := by omega
      have hZ : val zs = a * b := by
        have := HV.out
        rwa [val_take_all l (Nat.le_refl _), hv] at this
      have hrd := hbk.rd
      go_wp2_with fail
      refine (trim_any _ _ (l.length + m.length) zs _ hz (by omega) (by omega) (by simpa using hrd)).mono ?_
      rintro e w2 ⟨rfl, k, hT, rfl⟩
      have hk := hT.len hzs
      have ht := hT.eq hzs
      rw [hZ] at hk ht
      have HO : IsN wr wr.heap.size .u32 (.slice (some ⟨w.heap.size, 0, none⟩) k (l.length + m.length)) (a * b) :=
        ⟨_, _, by rw [← hk], by rw [← hk]; have := hT.1; omega, by rw [ht, ints_take]; exact (show Rd wr _ _ (ints .u32 zs) by simpa using hrd).take k⟩
      clear hk ht hZ hT
      go_wp2
      go_ret
      exact ⟨hbel, _, rfl, HO⟩
end Go.Proofs.YtpkhgdnkkdhlcaaGreatDoor

namespace Go.Proofs.YtpkhgdnkkdhlcaaGreatDoor
open Go.RowKit Ar

theorem splice_id {α : Type} {U R cur : List α} {j m : Nat} (z : α) (hcur : cur.take U.length = U) (hj : j + m ≤ U.length) (hr : R.length ≤ m) :
    (((cur.take j ++ (R ++ cur.drop (j + R.length))).take (j + R.length)) ++ (List.replicate (m - R.length) z ++ (cur.take j ++ (R ++ cur.drop (j + R.length))).drop (j + R.length + (m - R.length)))).take U.length = U.take j ++ (R ++ List.replicate (m - R.length) z) ++ U.drop (j + m) := by
  obtain ⟨S, rfl⟩ : ∃ S, cur = U ++ S := ⟨cur.drop U.length, by conv => lhs; rw [← List.take_append_drop U.length cur, hcur]⟩
  have e1 : (U ++ S).take j = U.take j := by rw [List.take_append_of_le_length (by omega)]
  have e2 : (U.take j).length = j := by simp; omega
  have e3 : (U ++ S).drop (j + R.length) = U.drop (j + R.length) ++ S := by rw [List.drop_append_of_le_length (by omega)]
  rw [e1, e3]
  have e4 : (U.take j ++ (R ++ (U.drop (j + R.length) ++ S))).take (j + R.length) = U.take j ++ R := by
    rw [← List.append_assoc, List.take_append_of_le_length (by simp; omega), List.take_of_length_le (by simp; omega)]
  have e5 : (U.take j ++ (R ++ (U.drop (j + R.length) ++ S))).drop (j + R.length + (m - R.length)) = U.drop (j + m) ++ S := by
    rw [← List.append_assoc, ← List.append_assoc, List.drop_append_of_le_length (by simp; omega), List.drop_append, List.drop_of_length_le (by simp; omega), List.nil_append, List.drop_drop]
    congr 2
    simp; omega
  rw [e4, e5]
  have e6 : U.take j ++ R ++ (List.replicate (m - R.length) z ++ (U.drop (j + m) ++ S)) = (U.take j ++ (R ++ List.replicate (m - R.length) z) ++ U.drop (j + m)) ++ S := by simp
  rw [e6, List.take_append_of_le_length (by simp; omega), List.take_of_length_le (by simp; omega)]

theorem u32_size : (Tryz.prog.info? 105).map (·.size) = some 1 := by kernel_rfl
theorem u32_zero (w : World) : (zeroValue 105).run Tryz.prog w = .ok (.int .u32 0) w := by
  obtain ⟨i0, hi0, hz0, hz1, hz2⟩ := info_parts u32_info
  simp [zeroValue, typeInfo, hi0, hz0]
theorem clear_u32 (w : World) (g o n c : Nat) (cur : List Value) (hn : 0 < n) (hg : w.heap[g]? = some (.cells cur.toArray 105 (0, 0))) (hl : o + n ≤ cur.length) (ty : TypeId) :
    (Builtin.clear_ #[100] ty #[.slice (some ⟨g, o, none⟩) n c]).run Tryz.prog w = .ok (.tuple #[]) (w.setCells g o (List.replicate n (.int .u32 0))) := by
  refine Lib.run_clear_slice w _ 105 ty (.int .u32 0) Tryz.underlying100 u32_zero rfl rfl g o n c hn ?_ ?_
  · intro j hj
    rw [cell_of_row w g (o + j) _ _ (0, 0) hg]
    simp; omega
  · intro j hj
    exact (show Bk w g 105 cur.toArray from hg).frozen _

set_option maxHeartbeats 1000000 in
set_option maxRecDepth 4000 in

theorem take_any (base g cap j m c x V : Nat) (us : List Nat) (v : Value) (w : World)
    (hu : w.ownsRow base 105 1 (.slice (some ⟨g, 0, none⟩) us.length cap) us.length (ints .u32 us)) (hs : Small us) (hj : j + m ≤ us.length) (hm : m ≤ 1000000000000) (hc : m ≤ c)
    (hbase : base ≤ w.heap.size) (hv : IsN w base .u32 v V) (hl : (limbs V).length ≤ 1000000000000) (hlm : (limbs V).length < m) (hx : x < B)
    (hW : V * x ≤ val ((us.drop j).take m) → val ((us.drop j).take m) - V * x < V) :
    Calls Tryz.prog 192 #[.slice (some ⟨g, j, none⟩) m c, v, .int .u64 x] w fun e w' => w.grownBy w' (some g) ∧
      e = .returned (.bool (decide (V * x ≤ val ((us.drop j).take m)))) ∧ w'.ownsRow base 105 1 (.slice (some ⟨g, 0, none⟩) us.length cap) us.length
        (ints .u32 (if V * x ≤ val ((us.drop j).take m) then us.take j ++ (limbs (val ((us.drop j).take m) - V * x) ++ List.replicate (m - (limbs (val ((us.drop j).take m) - V * x)).length) 0) ++ us.drop (j + m) else us)) := by
  have hrd : Rd w w.heap.size (some ⟨g, j, none⟩) (ints .u32 ((us.drop j).take m)) := by
    have := ((Rd.of_own hu).part j).take m
    rw [Nat.zero_add, ← ints_drop, ← ints_take] at this
    exact this
  have hsW : Small ((us.drop j).take m) := (hs.drop j).take m
  have hlW : ((us.drop j).take m).length = m := by simp; omega
  have HP := Lib.hid (fun (xs : List Nat) => congrArg (fun zs => us.take j ++ (zs ++ us.drop (j + m))) (rfl : xs = xs))
  clear HP
  obtain ⟨hle, hcur⟩ : (g < w.heap.size ∧ base ≤ g) ∧ ∃ cur : List Value, w.heap[g]? = some (.cells cur.toArray 105 (0, 0)) ∧ cur.length = cap ∧ us.length ≤ cap ∧ cap ≤ maxLen ∧ ints .u32 us = cur.take us.length := by
    rcases hu.2 with ⟨h1, _⟩ | ⟨g', cap', cur, h1, h2, h3, h4, h5, h6, h7⟩
    · cases h1
    · injection h1 with e1 e2 e3
      injection e1 with e1
      injection e1 with e1
      subst e1 e3
      exact ⟨⟨(Array.getElem?_eq_some_iff.1 h3).1, h2⟩, cur.toList, by simpa using h3, by simpa using h6, h4, h5, by simpa using h7.symm⟩
  have HC := Lib.hid hcur
  have HU := Lib.hid hu
  clear hcur hu
  generalize hl' : (us.drop j).take m = l at *
  have HL := Lib.hid hl'
  clear hl'
  obtain ⟨W, hWe⟩ : ∃ W, val l = W := ⟨_, rfl⟩
  rw [hWe] at hW
  rw [hWe]
  have HW := Lib.hid hW
  have HE := Lib.hid hWe
  clear hW hWe
  have hvw := hv.more hbase
  by_cases hcase : V * x ≤ W
  · simp only [hcase, decide_true, if_true]
    have hcmp : 0 ≤ cmpN W (V * x) := by unfold cmpN; rw [if_neg (by omega)]; split <;> omega
    have HCS := Lib.hid hcase
    clear hcase
    go_enter Tryz.func192, Tryz.ntmps192
    go_wp2_with fail
    refine (scale_any V x v w hx hvw hl).mono ?_
    rintro e w1 ⟨hb1, p, rfl, hp⟩
    have hp2 := hp.is
    clear hp
    go_wp2_with fail
    refine (trim_any (some ⟨g, j, none⟩) c m l w1 hlW hc (by omega) ((hrd.below hb1).more hb1.size)).mono ?_
    rintro e w1' ⟨rfl, k, hT, rfl⟩
    have hk := hT.len hsW
    have ht := hT.eq hsW
    rw [HE.out] at hk ht
    have hO : IsN w1 w1.heap.size .u32 (.slice (some ⟨g, j, none⟩) k c) W :=
      ⟨_, c, by rw [← hk], by rw [← hk]; have := hT.1; omega, by rw [ht, ints_take]; exact ((hrd.below hb1).more hb1.size).take k⟩
    have hlk : (limbs W).length ≤ 1000000000000 := by have := hT.1; omega
    clear hk ht
    go_wp2_with fail
    refine (cmp_any W (V * x) _ _ w1 hO hp2 (by omega)).mono ?_
    rintro e w2 ⟨rfl, q, rfl⟩
    generalize cmpN W (V * x) = z at *
    go_wp2_with fail
    refine (trim_any (some ⟨g, j, none⟩) c m l (w1.drewN q) hlW hc (by omega) ((hrd.below hb1).more hb1.size)).mono ?_
    rintro e w3 ⟨rfl, k', hT', rfl⟩
    obtain rfl : k' = k := by rw [hT'.len hsW, hT.len hsW]
    clear hT hT'
    go_wp2_with fail
    refine (sub_any W (V * x) _ _ (w1.drewN q) hO hp2 HCS.out hlk).mono ?_
    rintro e w4 ⟨hb4, r, rfl, A, rc, rfl, hr1, hr2⟩
    obtain ⟨cur, hc1, hc2, hc3, hc4, hc5⟩ := HC.out
    have hg4 : w4.heap[g]? = some (.cells cur.toArray 105 (0, 0)) := by
      rw [hb4.block g (Nat.lt_of_lt_of_le hle.1 hb1.size)]
      show w1.heap[g]? = _
      rw [hb1.block g hle.1]; exact hc1
    have hRV := HW.out HCS.out
    have hlr : (limbs (W - V * x)).length ≤ (limbs V).length := len_mono (by omega)
    have HG := Lib.hid hg4
    have H5 := Lib.hid hc5
    have hh1 : (limbs (W - V * x)).length < m := by omega
    have hne : ¬ c = (limbs (W - V * x)).length := by omega
    have HR := Lib.hid (fun (n : Nat) => (rfl : n = n))
    have hgrow : Hid (w.grownBy w4 (some g)) := grown_trans (grown_trans (grown_of_below hb1 _) (grown_drewN w1 q _)) (grown_of_below hb4 _)
    clear hc1 hg4 hc5 hRV hlr HC HR
    have hlen2 : (ints .u32 (limbs (W - V * x))).length = (limbs (W - V * x)).length := ints_length _ _
    have hone := ints_one .u32 (limbs (W - V * x))
    generalize hri : limbs (W - V * x) = rl at *
    have HRI := Lib.hid hri
    clear hri
    have hsz1 : rl.length ≤ m := by omega
    have hsz3 : ∀ (xs : List Value) (y : Nat), xs.length = y → y = rl.length → j + rl.length + (m - rl.length) ≤ (cur.take j ++ (xs ++ cur.drop (j + rl.length))).length := by
      intro xs y h1 h2
      simp only [List.length_append, List.length_take, List.length_drop, h1, h2]
      omega
    have hsz2 : j + rl.length ≤ cur.length := by omega
    go_wp2_with ((with_reducible show wpList _ _ _ _ _ _); refine wpL_copy (P := Tryz.prog) (o := ⟨some 23, _, _, _, _, _⟩) _ (by rfl) (.tmp 21) (.tmp 22) 100 100 (by rfl) 105 Tryz.underlying100 u32_size g j m c A rl.length rc (by rfl) (by rfl) cur 105 HG.out (ints .u32 rl) hlen2 hsz1 hr2 hsz2 hone ?_; intro w5 hg5 hgr5; have hcl := clear_u32 w5 g (j + rl.length) (m - rl.length) (c - rl.length) _ (by omega) hg5.out (hsz3 _ _ (ints_length _ _) rfl))
    go_ret
    obtain ⟨hf, hgr6⟩ := setCells_row g 105 (List.replicate (m - rl.length) (.int .u32 0)) (j + rl.length) _ w5 hg5.out (by rw [List.length_replicate]; exact hsz3 _ _ (ints_length _ _) rfl)
    refine ⟨grown_trans (grown_trans hgrow.out hgr5) hgr6, rfl, ?_⟩
    rw [HRI.out]
    refine ⟨?_, .inr ⟨g, cap, _, rfl, hle.2, hf, hc3, hc4, ?_, ?_⟩⟩
    · rw [ints_length]; simp; omega
    · simp [ints_length]; omega
    · rw [Nat.mul_one, List.length_replicate]
      have e := splice_id (R := ints .u32 rl) (U := ints .u32 us) (cur := cur) (j := j) (m := m) (Value.int .u32 0) (by rw [ints_length]; exact H5.out.symm) (by rw [ints_length]; exact hj) (by rw [ints_length]; omega)
      rw [ints_length, ints_length] at e
      rw [List.toList_toArray, e, ints_append, ints_append, ints_append, ints_take, ints_drop]
      congr 3
      simp [ints]
  · simp only [hcase, decide_false, if_false]
    have hcmp : cmpN W (V * x) = -1 := cmpN_lt (by omega)
    clear hcase
    go_enter Tryz.func192, Tryz.ntmps192
    go_wp2_with fail
    refine (scale_any V x v w hx hvw hl).mono ?_
    rintro e w1 ⟨hb1, p, rfl, hp⟩
    have hp2 := hp.is
    clear hp
    go_wp2_with fail
    refine (trim_any (some ⟨g, j, none⟩) c m l w1 hlW hc (by omega) ((hrd.below hb1).more hb1.size)).mono ?_
    rintro e w1' ⟨rfl, k, hT, rfl⟩
    have hk := hT.len hsW
    have ht := hT.eq hsW
    rw [HE.out] at hk ht
    have hO : IsN w1 w1.heap.size .u32 (.slice (some ⟨g, j, none⟩) k c) W :=
      ⟨_, c, by rw [← hk], by rw [← hk]; have := hT.1; omega, by rw [ht, ints_take]; exact ((hrd.below hb1).more hb1.size).take k⟩
    have hlk : (limbs W).length ≤ 1000000000000 := by have := hT.1; omega
    clear hk ht hT
    go_wp2_with fail
    refine (cmp_any W (V * x) _ _ w1 hO hp2 (by omega)).mono ?_
    rintro e w2 ⟨rfl, q, rfl⟩
    rw [hcmp]
    go_wp2
    go_ret
    refine ⟨grown_trans (grown_of_below hb1 _) (grown_drewN w1 q _), rfl, ?_⟩
    exact (HU.out.kept (grown_trans (grown_of_below hb1 none) (grown_drewN w1 q none)) (.inr (by simp [Value.ownBlock])))
end Go.Proofs.YtpkhgdnkkdhlcaaGreatDoor

namespace Go.Proofs.YtpkhgdnkkdhlcaaGreatDoor
open Go.RowKit Ar

def sliceLen : Value → Nat
  | .slice _ n _ => n
  | _ => 0

set_option maxHeartbeats 1600000 in
set_option maxRecDepth 4000 in
theorem div_any (a b : Nat) (v u : Value) (w : World) (hb0 : 0 < b) (h : IsN w w.heap.size .u32 v a) (h' : IsN w w.heap.size .u32 u b) (hl : (limbs a).length ≤ 500000000000) (hl' : (limbs b).length ≤ 500000000000) :
    Calls Tryz.prog 140 #[v, u] w fun e w' => Below w.heap.size w w' ∧ ∃ q r, e = .returned (.tuple #[q, r]) ∧ IsN w' w'.heap.size .u32 q (a / b) ∧ IsN w' w'.heap.size .u32 r (a % b) := by
  have hcmp := cmp_any a b v u w h h' (by omega)
  rcases Nat.lt_or_ge a b with hlt | hge
  · rw [cmpN_lt hlt] at hcmp
    have HD : ∀ w', IsN w' w'.heap.size .u32 (.slice none 0 0) (a / b) := fun w' => by rw [Nat.div_eq_of_lt hlt]; exact IsN.nil _ _ _
    have HM : Hid (IsN w w.heap.size .u32 v (a % b)) := by show IsN _ _ _ _ _; rw [Nat.mod_eq_of_lt hlt]; exact h
    have HC := Lib.hid hcmp
    clear hcmp hlt hb0
    go_enter Tryz.func140, Tryz.ntmps140
    go_wp2_with fail
    refine HC.out.mono ?_
    rintro e w1 ⟨rfl, n, rfl⟩
    go_wp2
    go_ret2
    exact ⟨below_drewN (Below.refl _ _) _, _, _, rfl, HD _, HM.out⟩
  have hz : 0 ≤ cmpN a b := by unfold cmpN; rw [if_neg (by omega)]; split <;> omega
  generalize cmpN a b = z at *
  have HC := Lib.hid hcmp
  have hlm := len_mono hge
  clear hcmp hge
  obtain ⟨A, c, rfl, h1, h3⟩ := h
  obtain ⟨A2, c2, rfl, k1, k3⟩ := h'
  by_cases hb1 : (limbs b).length = 1
  · obtain ⟨x, hx⟩ : ∃ x, limbs b = [x] := List.length_eq_one_iff.1 hb1
    obtain ⟨ad, rfl, hbk, hcell⟩ := k3.int (j := 0) (by omega)
    have hxb : x = b := by have := val_limbs b; rw [hx] at this; simpa [val] using this
    have hxB : x < B := by have := Small.limbs b; rw [hx] at this; exact this.head
    rw [hx] at hcell
    subst hxb
    rw [hb1] at k1 HC ⊢
    clear hlm
    simp only [List.getD_cons_zero, addr_zero] at hcell
    have hO : IsN w w.heap.size .u32 (.slice A (limbs a).length c) a := ⟨A, c, rfl, h1, h3⟩
    clear h1 h3 k1 k3 hx hb1 hl'
    have hx9 : x < 1000000000 := hxB
    have HB := Lib.hid hxB
    clear hxB
    go_enter Tryz.func140, Tryz.ntmps140
    go_wp2_with fail
    refine HC.out.mono ?_
    rintro e w1 ⟨rfl, n, rfl⟩
    go_wp2_with fail
    refine (short_any a x _ (w.drewN n) hb0 (Nat.le_of_lt HB.out) hO (by omega)).mono ?_
    rintro e w2 ⟨hb2, q, rfl, hq⟩
    have hq' := hq.is
    clear hq
    go_wp2_with fail
    refine (small_any (a % x) w2 (by have := Nat.mod_lt a hb0; have := B_eq; omega)).mono ?_
    rintro e w3 ⟨hb3, r, rfl, hr⟩
    go_wp2
    go_ret2
    exact ⟨((below_drewN (Below.refl _ w) n).trans (hb2.mono (Nat.le_refl _))).trans (hb3.mono hb2.size), _, _, rfl, hq'.next hb3, hr⟩
  obtain ⟨n, hn⟩ : ∃ n, (limbs b).length = n + 1 := ⟨(limbs b).length - 1, by have := limbs_len_pos hb0; omega⟩
  obtain ⟨ad, rfl, hbk, hcell⟩ := k3.int (j := n) (by omega)
  have hO : IsN w w.heap.size .u32 (.slice A (limbs a).length c) a := ⟨A, c, rfl, h1, h3⟩
  have hO2 : IsN w w.heap.size .u32 (.slice (some ad) (n + 1) c2) b := ⟨_, c2, by rw [hn], k1, k3⟩
  obtain ⟨ht0, htB, _, _⟩ := top_limb hb0 hn
  have hnorm := norm_fits hb0 hn rfl rfl
  have hla := lt_pow_len a
  generalize (limbs b).getD n 0 = t at *
  rw [hn] at hlm
  generalize hla' : (limbs a).length = la at *
  rw [hn] at k1 hl' hb1 HC ⊢
  have ht9 : t < 1000000000 := htB
  have HN := Lib.hid hnorm
  have HLA := Lib.hid hla'
  have HA := Lib.hid hla
  have HBN := Lib.hid hn
  have hn0 : 1 ≤ n := by omega
  have hq0 : (0 : Int) ≤ 1000000000 / ((t : Int) + 1) := Int.ediv_nonneg (by omega) (by omega)
  have hq1 : (1000000000 : Int) / ((t : Int) + 1) ≤ 1000000000 := Int.ediv_le_self _ (by omega)
  clear hnorm hla hla' hn k3 h3 htB hb1
  go_enter Tryz.func140, Tryz.ntmps140
  go_wp2_with fail
  refine HC.out.mono ?_
  rintro e w1 ⟨rfl, q0, rfl⟩
  go_wp2_with fail
  have hfe : (1000000000 : Int) / ((t : Int) + 1) = ((B / (t + 1) : Nat) : Int) := by rw [Int.natCast_ediv]; rfl
  rw [hfe]
  clear hfe hq0 hq1
  have HFE := Lib.hid (rfl : B / (t + 1) = B / (t + 1))
  clear HFE
  generalize B / (t + 1) = f at *
  have hf9 : f < 1000000000 := HN.out.2.1
  refine (scale_any b f _ (w.drewN q0) HN.out.2.1 hO2 (by rw [HBN.out]; omega)).mono ?_
  rintro e w2 ⟨hb2, v, rfl, hv⟩
  have hv' := hv.is
  clear hv
  have hvf : ∃ A c, v = .slice A (n + 1) c ∧ n + 1 ≤ c ∧ Rd w2 w2.heap.size A (ints .u32 (limbs (b * f))) := by
    obtain ⟨A, c, h1, h2, h3⟩ := hv'
    rw [HN.out.2.2.2] at h1 h2
    exact ⟨A, c, h1, h2, h3⟩
  obtain ⟨A3, c3, rfl, hc3, hrd3⟩ := hvf
  obtain ⟨ad3, rfl, hbk3, _⟩ := hrd3.int (j := n) (by rw [HN.out.2.2.2]; omega)
  obtain ⟨ht20, ht2B, htop, _⟩ := top_limb (Nat.mul_pos hb0 HN.out.1) HN.out.2.2.2
  have HT := Lib.hid htop
  have HRD := Lib.hid hrd3
  have ht29 : (limbs (b * f)).getD n 0 < 1000000000 := ht2B
  have HVV : Hid (∀ w', Below w2.heap.size w2 w' → IsN w' w2.heap.size .u32 (.slice (some ad3) (n + 1) c3) (b * f)) := fun w' hw => ⟨_, c3, by rw [HN.out.2.2.2], by rw [HN.out.2.2.2]; exact hc3, hrd3.below hw⟩
  have hcells : Hid (∀ w', Below w2.heap.size w2 w' → w'.cell? (ad3.add n) = some (.int .u32 (((limbs (b * f)).getD n 0 : Nat) : Int))) := fun w' hw => by
    obtain ⟨ad', h1, _, h2⟩ := (hrd3.below hw).int (j := n) (by rw [HN.out.2.2.2]; omega)
    injection h1 with h1; subst h1; exact h2
  clear htop hrd3 ht2B
  generalize (limbs (b * f)).getD n 0 = t2 at *
  go_wp2_with fail
  refine (scale_any a f _ w2 HN.out.2.1 ((hO.next (w' := w.drewN q0) (below_drewN (Below.refl _ _) _)).next hb2) (by rw [HLA.out]; omega)).mono ?_
  rintro e w3 ⟨hb3, ua, rfl, g0, cap0, rfl, hcap0, hown0⟩
  have hlu : (limbs (a * f)).length ≤ la + 1 := limbs_len_le (by rw [Nat.pow_succ]; exact Nat.mul_lt_mul'' HA.out HN.out.2.1)
  have hvu := val_limbs (a * f)
  have hsu := Small.limbs (a * f)
  generalize limbs (a * f) = us0 at *
  obtain ⟨i0, hi0, hz0, hz1, hz2⟩ := info_parts u32_info
  have HVU := Lib.hid hvu
  clear hvu
  go_wp2_with (at_builtin; refine wpL_append _ rfl (.tmp 53) (.tmp 54) _ rfl w2.heap.size 105 i0 _ 1 4 Tryz.underlying100 hi0 hz0 hz1 hz2 rfl (by omega) _ us0.length (ints .u32 us0) rfl (hown0.alloc _) (some ⟨w3.heap.size, 0, none⟩) 1 1 [.int .u32 0] rfl rfl (Rd.of_new w3 [.int .u32 0] 105) (by intro u hu; simp at hu; subst hu; rfl) (by unfold maxLen; omega) (by omega) (by have := hb3.size; simp; omega) ?_; intro v1 w4 hown1 hg1 hat1)
  have hbel4 : Below w2.heap.size w2 w4 := below_app (hb3.alloc hb3.size _) hg1 (by have := hb3.size; simp; omega) (hown0.alloc _) (Nat.le_refl _)
  have hs4 := hbel4.size
  clear hg1 hat1 hown0
  go_loopw [10] (fun uv wr => ∃ (g cap N : Nat) (us : List Nat), uv = .slice (some ⟨g, 0, none⟩) N cap ∧ us.length = N ∧ 1 ≤ N ∧ N ≤ la + 2 ∧ N ≤ cap ∧ Hid (val us = a * f) ∧ Small us ∧
      wr.ownsRow w2.heap.size 105 1 (.slice (some ⟨g, 0, none⟩) N cap) N (ints .u32 us) ∧ Below w2.heap.size w2 wr) (fun uv _ => la + 2 - sliceLen uv)
  case atStart =>
    obtain ⟨g, cap, rfl, h5, h6, _⟩ := own_form hown1 (by omega)
    refine ⟨g, cap, us0.length + 1, us0 ++ [0], rfl, by simp, by omega, by omega, h6, ?_, hsu.append (Small.replicate 1), ?_, hbel4⟩
    · show val _ = _
      rw [val_snoc, HVU.out]; simp
    · have e : ints .u32 (us0 ++ [0]) = ints .u32 us0 ++ [.int .u32 0] := by simp [ints]
      rw [e]; exact hown1
  case round =>
    obtain ⟨g, cap, N, us, rfl, hul, hN1, hN2, hNc, HV, hus, hown, hbel⟩ := hrel
    have hs5 := hbel.size
    by_cases hlt : N < la + 2
    · go_wp2_with (at_builtin; refine wpL_append _ rfl (.tmp 62) (.tmp 63) _ rfl w2.heap.size 105 i0 _ 1 4 Tryz.underlying100 hi0 hz0 hz1 hz2 rfl (by omega) _ N (ints .u32 us) rfl (hown.alloc _) (some ⟨wr.heap.size, 0, none⟩) 1 1 [.int .u32 0] rfl rfl (Rd.of_new wr [.int .u32 0] 105) (by intro u hu; simp at hu; subst hu; rfl) (by unfold maxLen; omega) (by omega) (by have := hbel.size; simp; omega) ?_; intro v2 w5 hown2 hg2 hat2)
      go_roundw
      case rel =>
        obtain ⟨g', cap', rfl, h5, h6, _⟩ := own_form hown2 (by omega)
        refine ⟨g', cap', N + 1, us ++ [0], rfl, by simp; omega, by omega, by omega, h6, ?_, hus.append (Small.replicate 1), ?_, below_app (hbel.alloc hs5 _) hg2 (by simp; omega) (hown.alloc _) (Nat.le_refl _)⟩
        · show val _ = _
          rw [val_snoc, HV.out]; simp
        · have e : ints .u32 (us ++ [0]) = ints .u32 us ++ [.int .u32 0] := by simp [ints]
          rw [e]; exact hown2
      case measure =>
        obtain ⟨g', cap', rfl, h5, h6, _⟩ := own_form hown2 (by omega)
        simp only [sliceLen]
        omega
    · obtain rfl : N = la + 2 := by omega
      have hmk := make_u32 (la + 1 - n) ((la : Int) + 2 - ((n : Int) + 1)) (by omega) (by omega) wr
      have hcell5 := hcells.out wr hbel
      have hbk5 : ad3.block < wr.heap.size := by omega
      have hN0 : Hid (DS (a * f) (b * f) (n + 1) (la + 2) (la + 1 - n) us (List.replicate (la + 1 - n) 0)) := by
        have hp : b * f * B ^ (la + 1 - n) ≥ B ^ n * B ^ (la + 1 - n) := Nat.mul_le_mul_right _ (by rw [HT.out]; have : B ^ n * 1 ≤ B ^ n * t2 := Nat.mul_le_mul_left _ ht20; omega)
        rw [← Nat.pow_add, show n + (la + 1 - n) = la + 1 by omega] at hp
        have hq : a * f < B ^ (la + 1) := by rw [Nat.pow_succ]; exact Nat.mul_lt_mul'' HA.out HN.out.2.1
        have := DS.start (U := a * f) (V := b * f) (n := n + 1) (N := la + 2) hul hus (by omega) HV.out (by rw [show la + 2 - (n + 1) = la + 1 - n by omega]; omega)
        rw [show la + 2 - (n + 1) = la + 1 - n by omega] at this
        exact this
      have hgs := hown.lt g rfl
      have hgw : w2.heap.size ≤ g := hgs.1
      have hgq : g < wr.heap.size := hgs.2
      clear hgs
      obtain ⟨wq, hwq⟩ : ∃ wq, wq = wr := ⟨_, rfl⟩
      subst hwq
      obtain ⟨qn, hqn⟩ : ∃ qn, qn = la + 1 - n := ⟨_, rfl⟩
      rw [← hqn] at hmk hN0
      have hqn1 : qn + n ≤ la + 1 := by omega
      have hqn2 : la + 1 ≤ qn + n := by omega
      clear hqn
      have hcell6 : (wq.alloc (.cells (ints .u32 (List.replicate qn 0)).toArray 105)).cell? (ad3.add n) = some (.int .u32 (t2 : Int)) := by
        rw [World.cell?_alloc_lt _ _ _ (by rw [addr_block]; exact hbk5)]; exact hcell5
      clear hcell5
      go_wp2_with fail
      go_loopw [14] (fun i wr => ∃ (J : Nat) (us qs : List Nat), J ≤ qn ∧ i = .int .i64 ((J : Int) - 1) ∧ Hid (DS (a * f) (b * f) (n + 1) (la + 2) J us qs) ∧ us.length = la + 2 ∧ qs.length = qn ∧
        wr.ownsRow w2.heap.size 105 1 (.slice (some ⟨g, 0, none⟩) (la + 2) cap) (la + 2) (ints .u32 us) ∧ Bk wr wq.heap.size 105 (ints .u32 qs).toArray ∧ Below w2.heap.size w2 wr) (fun i _ => (intOf i + 1).toNat)
      case atStart =>
        have e : (la : Int) + 2 - ((n : Int) + 1) - 1 = (qn : Int) - 1 := by omega
        exact ⟨qn, us, List.replicate qn 0, Nat.le_refl _, by first | rw [e] | go_num, hN0, hul, by simp, hown.kept (World.grownBy_alloc _ _ none) (.inr (by simp [Value.ownBlock])), Bk.new _ _ _, hbel.alloc hs5 _⟩
      case round =>
        obtain ⟨J, us, qs, hJ, rfl, HD, hul, hql, hown, hbkq, hbel⟩ := hrel
        rcases Nat.eq_zero_or_pos J with rfl | hJ0
        · rw [show (((0 : Nat) : Int) - 1) = -1 from rfl]
          obtain ⟨hd1, hd2, hd3⟩ := HD.out.done HN.out.1 HN.out.2.2.1 (by omega)
          have hus := HD.out.usm
          have hqs := HD.out.qsm
          have hrd : Rd wr wr.heap.size (some ⟨g, 0, none⟩) (ints .u32 (us.take (n + 1))) := by rw [ints_take]; exact (Rd.of_own hown).take _
          have hlt1 : (us.take (n + 1)).length = n + 1 := by simp; omega
          have H1 := Lib.hid hd1
          have H2 := Lib.hid hd2
          have H3 := Lib.hid hd3
          have HQ := Lib.hid hqs
          have hf0 := HN.out.1
          clear hd1 hd2 hd3 hqs
          go_wp2_with fail
          refine (trim_any _ cap (n + 1) (us.take (n + 1)) wr hlt1 (by omega) (by omega) hrd).mono ?_
          rintro e w6 ⟨rfl, k, hT, rfl⟩
          have hk := hT.len (hus.take _)
          have ht := hT.eq (hus.take _)
          rw [H3.out] at hk ht
          have hIs : IsN wr wr.heap.size .u32 (.slice (some ⟨g, 0, none⟩) k cap) (val us) :=
            ⟨_, cap, by rw [← hk], by rw [← hk]; have := hT.1; omega, by rw [ht, ints_take]; exact hrd.take k⟩
          have hkl : (limbs (val us)).length ≤ 1000000000000 := by rw [← hk]; have := hT.1; omega
          clear hk ht hT
          go_wp2_with fail
          refine (short_any (val us) f _ wr hf0 (Nat.le_of_lt HN.out.2.1) hIs hkl).mono ?_
          rintro e w7 ⟨hb7, r, rfl, hr⟩
          rw [H2.out] at hr
          have hr' := hr.is
          clear hr
          have hbkq7 := hbkq.below hb7 hbkq.lt
          have hrd7 := hbkq7.rd
          go_wp2_with fail
          refine (trim_any _ qn qn qs w7 hql (Nat.le_refl _) (by omega) (by simpa using hrd7)).mono ?_
          rintro e w8 ⟨rfl, k', hT', rfl⟩
          have hOq := (OwnN.of_trim hbkq7 (Nat.le_refl _) hql (by omega) HQ.out hT' H1.out).is
          clear hT'
          go_wp2
          go_ret2
          exact ⟨((below_drewN (Below.refl _ w) q0).trans (hb2.mono (Nat.le_refl _))).trans ((hbel.mono hb2.size).trans (hb7.mono (Nat.le_trans hb2.size hbel.size))), _, _, rfl, hOq, hr'⟩
        · obtain ⟨j, rfl⟩ : ∃ j, J = j + 1 := ⟨J - 1, by omega⟩
          rw [show (((j + 1 : Nat) : Int) - 1) = (j : Int) by omega]
          have hc1 := hown.cellAt (j + (n + 1)) (by omega)
          have hc0 := hown.cellAt (j + n) (by omega)
          have hc1' : (ints .u32 us)[j + (n + 1)]? = some (.int .u32 ((us.getD (j + (n + 1)) 0 : Nat) : Int)) := by
            have := ints_getD .u32 us (i := j + (n + 1)) (by omega); simpa using this
          have hc0' : (ints .u32 us)[j + n]? = some (.int .u32 ((us.getD (j + n) 0 : Nat) : Int)) := by
            have := ints_getD .u32 us (i := j + n) (by omega); simpa using this
          rw [hc1'] at hc1
          rw [hc0'] at hc0
          have hs1 : us.getD (j + (n + 1)) 0 < 1000000000 := HD.out.usm.getD _
          have hs0 : us.getD (j + n) 0 < 1000000000 := HD.out.usm.getD _
          have hlt := HD.out.lt HN.out.2.2.1 (by omega)
          have hG := guess_ge (Nat.pow_pos (n := n) B_pos) ht20 HT.out hlt
          rw [top_two (by simp; omega) ((HD.out.usm.drop j).take (n + 1 + 1)), part_getD _ _ _ _ (by omega), part_getD _ _ _ _ (by omega), show n + 1 = n + 1 from rfl] at hG
          have HG := Lib.hid hG
          have HLT := Lib.hid hlt
          clear hG hlt hc1' hc0' hJ0
          generalize us.getD (j + (n + 1)) 0 = s1 at *
          generalize us.getD (j + n) 0 = s0 at *
          have hx0 : (0 : Int) ≤ ((s1 : Int) * 1000000000 + (s0 : Int)) / (t2 : Int) := Int.ediv_nonneg (by omega) (by omega)
          have hx1 : ((s1 : Int) * 1000000000 + (s0 : Int)) / (t2 : Int) ≤ (s1 : Int) * 1000000000 + (s0 : Int) := Int.ediv_le_self _ (by omega)
          have START : Hid (∀ (x : Int) (wi : World), (x = ((s1 : Int) * 1000000000 + (s0 : Int)) / (t2 : Int) ∨ 999999999 < ((s1 : Int) * 1000000000 + (s0 : Int)) / (t2 : Int) ∧ x = 999999999) → x ≤ 999999999 → wr.grownBy wi none → ∃ G : Nat, Value.int .u64 x = .int .u64 G ∧ G ≤ 999999999 ∧ Hid (val ((us.drop j).take (n + 1 + 1)) / (b * f) ≤ G) ∧
              wi.ownsRow w2.heap.size 105 1 (.slice (some ⟨g, 0, none⟩) (la + 2) cap) (la + 2) (ints .u32 us) ∧ Bk wi wq.heap.size 105 (ints .u32 qs).toArray ∧ Below w2.heap.size w2 wi) := by
            have e : ((s1 : Int) * 1000000000 + (s0 : Int)) / (t2 : Int) = (((s1 * B + s0) / t2 : Nat) : Int) := by rw [B_eq]; simp
            intro x wi hx hx9 hgr
            rw [e] at hx
            have hgg := HG.out
            have h0 : 0 ≤ x := by
              rcases hx with rfl | ⟨_, rfl⟩
              · exact Int.natCast_nonneg _
              · decide
            have hn9 : x.toNat ≤ 999999999 := by clear hx; omega
            refine ⟨x.toNat, by rw [Int.toNat_of_nonneg h0], hn9, ?_, hown.kept hgr (.inr (by simp [Value.ownBlock])), hbkq.grown hgr (by simp), hbel.grown hgr hbel.size (by simp)⟩
            show _ ≤ x.toNat
            refine Nat.le_trans hgg ?_
            rcases hx with rfl | ⟨h1, rfl⟩
            · exact Nat.min_le_left _ _
            · exact Nat.le_trans (Nat.min_le_right _ _) (by decide)
          go_wp2
          go_quiet (fail)
          go_wp2_with fail
          all_goals
            go_loopw [15] (fun gv wi => ∃ G : Nat, gv = .int .u64 G ∧ G ≤ 999999999 ∧ Hid (val ((us.drop j).take (n + 1 + 1)) / (b * f) ≤ G) ∧
              wi.ownsRow w2.heap.size 105 1 (.slice (some ⟨g, 0, none⟩) (la + 2) cap) (la + 2) (ints .u32 us) ∧ Bk wi wq.heap.size 105 (ints .u32 qs).toArray ∧ Below w2.heap.size w2 wi) (fun gv _ => (intOf gv).toNat)
            case atStart => exact START.out _ _ (by first | exact .inr ⟨by assumption, by rfl⟩ | exact .inl rfl) (by omega) (grown_drewN _ _ _)
            case round =>
              obtain ⟨G, rfl, hGB, HGG, hown2, hbkq2, hbel2⟩ := hrel
              have hcq := hbkq2.cell j
              rw [ints_getD .u32 qs (by omega)] at hcq
              have hfq := hbkq2.frozen j
              have hjq : (j : Int) < (qn : Int) := by omega
              have hcqe : Hid ((ints .u32 qs).toArray[j]? = some (.int .u32 ((qs.getD j 0 : Nat) : Int))) := ints_getD .u32 qs (by omega)
              generalize qs.getD j 0 = y at *
              rcases Nat.eq_zero_or_pos G with rfl | hG0
              · go_wp2
                go_roundw
                case rel =>
                  refine ⟨j, us, qs.set j 0, by omega, by go_num, HD.out.none HN.out.2.2.1 (by omega) (Nat.le_zero.1 HGG.out), hul, by simpa using hql, ?_, ?_, hbel2.setCell hs5 _⟩
                  · exact hown2.kept (grown_setCell _ _ _) (.inr (by simp [Value.ownBlock]; omega))
                  · have := hbkq2.put j (.int .u32 ((0 : Nat) : Int))
                    rw [ints_set] at this
                    exact this
                case measure => simp [intOf]
              · by_cases hle : b * f * G ≤ val ((us.drop j).take (n + 1 + 1))
                · have HLE := Lib.hid hle
                  clear hle
                  go_wp2_with fail
                  rw [show j + (n + 1) + 1 - j = n + 1 + 1 by omega]
                  refine (take_any w2.heap.size g cap j (n + 1 + 1) (cap - j) G (b * f) us _ wr (by rw [hul]; exact hown2) HD.out.usm (by omega) (by omega) (by omega) hbel2.size (HVV.out _ hbel2) (by rw [HN.out.2.2.2]; omega) (by rw [HN.out.2.2.2]; omega) (by rw [B_eq]; omega) ?_).mono ?_
                  · intro h1
                    rw [mod_of_div (div_eq_of h1 HGG.out (Nat.mul_pos hb0 HN.out.1))]
                    exact Nat.mod_lt _ (Nat.mul_pos hb0 HN.out.1)
                  rintro e w6 ⟨hg6, rfl, hown6⟩
                  rw [if_pos HLE.out] at hown6
                  have hbkq6 := hbkq2.grown hg6 (by simp; omega)
                  have hbel6 := below_of_grown hbel2 hg6 hbel2.size hgw
                  have hcq6 := hbkq6.cell j
                  rw [hcqe.out] at hcq6
                  have hfq6 := hbkq6.frozen j
                  rw [decide_eq_true HLE.out]
                  go_wp2
                  go_roundw
                  case rel =>
                    refine ⟨j, _, qs.set j G, by omega, by go_num, HD.out.some HN.out.2.2.1 (by omega) (div_eq_of HLE.out HGG.out (Nat.mul_pos hb0 HN.out.1)), ?_, by simpa using hql, ?_, ?_, hbel6.setCell hs5 _⟩
                    · exact (HD.out.some HN.out.2.2.1 (by omega) (div_eq_of HLE.out HGG.out (Nat.mul_pos hb0 HN.out.1))).ul
                    · rw [hul] at hown6
                      exact hown6.kept (grown_setCell _ _ _) (.inr (by simp [Value.ownBlock]; omega))
                    · have := hbkq6.put j (.int .u32 (G : Int))
                      rw [ints_set] at this
                      exact this
                  case measure => simp [intOf]
                · have HLE : Hid (val ((us.drop j).take (n + 1 + 1)) / (b * f) ≤ G - 1) := by
                    have : val ((us.drop j).take (n + 1 + 1)) / (b * f) < G := Nat.div_lt_of_lt_mul (by omega)
                    show _ ≤ _
                    omega
                  have hleb : decide (b * f * G ≤ val ((us.drop j).take (n + 1 + 1))) = false := decide_eq_false hle
                  have HLN := Lib.hid hle
                  clear hle
                  go_wp2_with fail
                  rw [show j + (n + 1) + 1 - j = n + 1 + 1 by omega]
                  refine (take_any w2.heap.size g cap j (n + 1 + 1) (cap - j) G (b * f) us _ wr (by rw [hul]; exact hown2) HD.out.usm (by omega) (by omega) (by omega) hbel2.size (HVV.out _ hbel2) (by rw [HN.out.2.2.2]; omega) (by rw [HN.out.2.2.2]; omega) (by rw [B_eq]; omega) (fun h1 => absurd h1 HLN.out)).mono ?_
                  rintro e w6 ⟨hg6, rfl, hown6⟩
                  rw [if_neg HLN.out, hul] at hown6
                  have hbkq6 := hbkq2.grown hg6 (by simp; omega)
                  have hbel6 := below_of_grown hbel2 hg6 hbel2.size hgw
                  rw [hleb]
                  clear hleb
                  go_wp2
                  go_roundw
                  case rel => exact ⟨G - 1, by go_num, by omega, HLE, hown6, hbkq6, hbel6⟩
                  case measure => simp [intOf]; omega
end Go.Proofs.YtpkhgdnkkdhlcaaGreatDoor

namespace Go.Proofs.YtpkhgdnkkdhlcaaGreatDoor
open Go.RowKit Ar

theorem IsN.inj {w : World} {B B' : Nat} {k : IntKind} {v : Value} {n n' : Nat} (h : IsN w B k v n) (h' : IsN w B' k v n') : n = n' := by
  obtain ⟨A, c, e, _, h3⟩ := h
  obtain ⟨A', c', e', _, k3⟩ := h'
  rw [e] at e'
  injection e' with e1 e2 e3
  subst e1
  have : limbs n = limbs n' := by
    apply List.ext_getElem e2
    intro j h1 h2
    obtain ⟨ad, e4, _, h5⟩ := h3.int h1
    obtain ⟨ad', e6, _, h7⟩ := k3.int h2
    rw [e4] at e6
    injection e6 with e6
    subst e6
    rw [h5] at h7
    injection h7 with h7
    injection h7 with _ h7
    rw [List.getD_eq_getElem?_getD, List.getElem?_eq_getElem h1, List.getD_eq_getElem?_getD, List.getElem?_eq_getElem h2] at h7
    simp at h7; omega
  rw [← val_limbs n, ← val_limbs n', this]
open Classical in
/-- The number in memory. -/
noncomputable def numOf (w : World) (v : Value) : Nat := if h : ∃ y, IsN w w.heap.size .u32 v y then h.choose else 0
theorem numOf_eq {w : World} {v : Value} {y : Nat} (h : IsN w w.heap.size .u32 v y) : numOf w v = y := by
  have h' : ∃ y, IsN w w.heap.size .u32 v y := ⟨y, h⟩
  unfold numOf
  rw [dif_pos h']
  exact h'.choose_spec.inj h

set_option maxHeartbeats 400000 in
theorem gcd_any (a b : Nat) (v u : Value) (w : World) (h : IsN w w.heap.size .u32 v a) (h' : IsN w w.heap.size .u32 u b) (hl : (limbs a).length ≤ 500000000000) (hl' : (limbs b).length ≤ 500000000000) :
    Calls Tryz.prog 139 #[v, u] w fun e w' => Below w.heap.size w w' ∧ ∃ v, e = .returned v ∧ IsN w' w'.heap.size .u32 v (Nat.gcd a b) := by
  go_enter Tryz.func139, Tryz.ntmps139
  go_wp2_with fail
  go_loopw [0, 1] (fun va vb wr => ∃ x y : Nat, IsN wr wr.heap.size .u32 va x ∧ IsN wr wr.heap.size .u32 vb y ∧ Hid (Nat.gcd x y = Nat.gcd a b) ∧ (limbs x).length ≤ 500000000000 ∧ (limbs y).length ≤ 500000000000 ∧ Below w.heap.size w wr) (fun _ vb wr => numOf wr vb)
  case atStart => exact ⟨a, b, h, h', rfl, hl, hl', Below.refl _ _⟩
  case round =>
    obtain ⟨x, y, hx, hy, HG, hlx, hly, hbel⟩ := hrel
    have HY := Lib.hid hy
    have HX := Lib.hid hx
    obtain ⟨A, c, rfl, h1, h3⟩ := hy
    rcases Nat.eq_zero_or_pos y with rfl | hy0
    · have HO : IsN wr wr.heap.size .u32 u0 (Nat.gcd a b) := by rw [← HG.out, Nat.gcd_zero_right]; exact hx
      rw [limbs_zero]
      clear h1 h3 hx
      go_wp2
      go_ret
      exact ⟨hbel, _, rfl, HO⟩
    · have hyl := limbs_len_pos hy0
      have hm := Nat.mod_lt x hy0
      have hml := len_mono (Nat.le_of_lt hm)
      have HM := Lib.hid hm
      generalize hln : (limbs y).length = m at *
      have HLN := Lib.hid hln
      clear hln hm h3 hx
      go_wp2_with fail
      refine (div_any x y _ _ wr hy0 HX.out HY.out hlx (by rw [HLN.out]; exact hly)).mono ?_
      rintro e w2 ⟨hb2, q, r, rfl, hq, hr⟩
      go_wp2
      go_roundw
      case rel => exact ⟨y, x % y, HY.out.next hb2, hr, by show _ = _; rw [gcd_step]; exact HG.out, by rw [HLN.out]; exact hly, by omega, hbel.trans (hb2.mono hbel.size)⟩
      case measure =>
        rw [numOf_eq hr, numOf_eq HY.out]
        exact HM.out
end Go.Proofs.YtpkhgdnkkdhlcaaGreatDoor
