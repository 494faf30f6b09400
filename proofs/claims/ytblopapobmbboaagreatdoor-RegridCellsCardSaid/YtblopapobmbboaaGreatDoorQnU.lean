/-
  Walks: the reference's natural numbers: NatSub.
  Walks: the reference's natural numbers: NatMul, small.
-/
import Derived.Test.YtblopapobmbboaaGreatDoorQnV
namespace Go.Proofs.YtblopapobmbboaaGreatDoor
open Go.RowKit Ar

theorem own_slice0 {w : World} {base : Nat} {e : TypeId} {size n : Nat} {v : Value} {xs : List Value} (h : w.ownsRow base e size v n xs) : ∃ A c, v = .slice A n c ∧ n ≤ c := by
  rcases h.2 with ⟨hv, hz⟩ | ⟨g, cap, cur, hv, _, _, hc, _⟩
  · exact ⟨none, 0, by rw [hv, hz], by omega⟩
  · exact ⟨_, cap, hv, hc⟩

/-- The value lies in blocks that are new. -/
def Fresh (base : Nat) (v : Value) : Prop := ∀ A n c, v = .slice (some A) n c → base ≤ A.block
theorem Fresh.own {w : World} {base : Nat} {T : TypeId} {size n : Nat} {A : Option Addr} {c : Nat} {xs : List Value} (h : w.ownsRow base T size (.slice A n c) n xs) (k : Nat) : Fresh base (.slice A k c) := fun A' n' c' e => by
  injection e with e1 _ _
  rcases h.2 with ⟨hv, _⟩ | ⟨g, cap, cur, hv, hb, _⟩
  · injection hv with h1 _ _
    rw [h1] at e1; cases e1
  · injection hv with h1 _ _
    rw [h1] at e1
    injection e1 with e1
    rw [← e1]; exact hb
theorem IsN.set {w : World} {B base : Nat} {k : IntKind} {v : Value} {n : Nat} (h : IsN w B k v n) (hf : Fresh base v) {p : Addr} (hp : p.block < base) (u : Value) : IsN (w.setCell p u) B k v n := by
  obtain ⟨A, c, rfl, h1, h3⟩ := h
  refine ⟨A, c, rfl, h1, fun hn => ?_⟩
  obtain ⟨ad, rfl, hb, hc⟩ := h3 hn
  have := hf _ _ _ rfl
  refine ⟨ad, rfl, hb, fun j x hx => ?_⟩
  rw [World.cell?_setCell_other _ _ _ _ (fun e => by rw [e, addr_block] at hp; omega)]
  exact hc j x hx

set_option maxRecDepth 100000 in
set_option maxHeartbeats 1600000 in
theorem nsub_any (a b : Nat) (v u : Value) (w : World) (h : IsN w w.heap.size .u64 v a) (h' : IsN w w.heap.size .u64 u b) (hab : b ≤ a) (hl : (limbs a).length ≤ 1000000000000) :
    Calls Tryz.prog 107 #[v, u] w fun e w' => Below w.heap.size w w' ∧ ∃ v, e = .returned v ∧ IsN w' w'.heap.size .u64 v (a - b) ∧ Fresh w.heap.size v := by
  obtain ⟨A, c, rfl, h1, h3⟩ := h
  obtain ⟨A2, c2, rfl, k1, k3⟩ := h'
  have hlen := len_mono hab
  have hv := val_limbs a
  have hsm := Small.limbs a
  have kv := val_limbs b
  have ksm := Small.limbs b
  obtain ⟨i0, hi0, hz0, hz1, hz2⟩ := info_parts u64_info
  generalize limbs a = l at *
  generalize limbs b = m at *
  have HA := Lib.hid hv
  have HB := Lib.hid kv
  have HAB := Lib.hid hab
  clear hv kv hab
  have hmk := make0_u64 l.length (l.length : Int) rfl (by omega)
  go_enter Tryz.func107, Tryz.ntmps107
  go_wp2_with fail
  go_loopw [5, 6, 15] (fun out owed i wr => ∃ (j c : Nat) (xs : List Nat), j ≤ l.length ∧ i = .int .i64 j ∧ owed = .int .u64 c ∧ c ≤ 1 ∧ xs.length = j ∧ Small xs ∧ Hid (val xs + val (m.take j) = val (l.take j) + c * B ^ j) ∧
      wr.ownsRow w.heap.size 99 1 out j (ints .u64 xs) ∧ Below w.heap.size w wr) (fun _ _ i _ => l.length - (intOf i).toNat)
  case atStart => exact ⟨0, 0, [], Nat.zero_le _, rfl, rfl, by omega, rfl, Small.nil, by show _ = _; simp [val], own_made0 w _ (by omega), (Below.refl _ _).alloc (Nat.le_refl _) _⟩
  case round =>
    obtain ⟨j, c', xs, hj, rfl, rfl, hc', hz, hzs, HV, hown, hbel⟩ := hrel
    have hs5 := hbel.size
    rcases Nat.lt_or_ge j l.length with hlt | hge
    · obtain ⟨ad, rfl, hb, hcell⟩ := (h3.below hbel).int (j := j) hlt
      have hx : l.getD j 0 < 1000000000 := hsm.getD j
      have hy : m.getD j 0 < 1000000000 := ksm.getD j
      have HX := Lib.hid (val_take_ge l j)
      have HY := Lib.hid (val_take_ge m j)
      have HDIG := Lib.hid (sub_digit (x := l.getD j 0) (y := m.getD j 0) (c := c') hx hy hc')
      have FIN : Hid (∀ d b' : Nat, d < B → d + m.getD j 0 + c' = l.getD j 0 + b' * B → (xs ++ [d]).length = j + 1 ∧ Small (xs ++ [d]) ∧ val (xs ++ [d]) + val (m.take (j + 1)) = val (l.take (j + 1)) + b' * B ^ (j + 1)) := fun d b' hd e => by
        refine ⟨by simp [hz], hzs.append (Small.cons hd Small.nil), ?_⟩
        rw [val_snoc, hz, HX.out, HY.out, Nat.pow_succ]
        exact sub_step HV.out e
      generalize l.getD j 0 = x at *
      clear HX HY HV
      have fits : ∀ (d : Nat) (u : Int) (v1 : Value) (w1 : World), u = (d : Int) → w1.ownsRow w.heap.size 99 1 v1 (j + 1) (ints .u64 xs ++ [.int .u64 u]) → w1.ownsRow w.heap.size 99 1 v1 (j + 1) (ints .u64 (xs ++ [d])) := fun d u v1 w1 e h => by
        subst e
        have : ints .u64 (xs ++ [d]) = ints .u64 xs ++ [.int .u64 (d : Int)] := by simp [ints]
        rw [this]; exact h
      have FITS := Lib.hid fits
      clear fits
      have hB := B_eq
      rcases Nat.lt_or_ge j m.length with hltb | hgeb
      · obtain ⟨ad2, rfl, hb2, hcell2⟩ := (k3.below hbel).int (j := j) hltb
        generalize m.getD j 0 = y at *
        by_cases hneg : x < y + c'
        · have hneg2 : (x : Int) < (c' : Int) + (y : Int) := by omega
          clear hB
          go_wp2_with (at_builtin; refine wpL_append _ rfl (.tmp 38) (.tmp 42) _ rfl w.heap.size 99 i0 _ 1 8 Tryz.underlying57 hi0 hz0 hz1 hz2 rfl (by omega) _ j (ints .u64 xs) rfl (hown.alloc _) (some ⟨wr.heap.size, 0, none⟩) 1 1 [.int .u64 ((x : Int) + 1000000000 - ((c' : Int) + (y : Int)))] rfl rfl (Rd.of_new wr [.int .u64 ((x : Int) + 1000000000 - ((c' : Int) + (y : Int)))] 99) (by intro u hu; simp at hu; subst hu; rfl) (by unfold maxLen; omega) (by omega) (by simp; omega) ?_; intro v1 w1 hown1 hg1 hat1)
          go_roundw
          case rel =>
            obtain ⟨e1, e2⟩ := HDIG.out.1 hneg
            obtain ⟨f1, f2, f3⟩ := FIN.out _ 1 e2 e1
            exact ⟨j + 1, 1, _, by omega, by go_num, rfl, Nat.le_refl _, f1, f2, f3, FITS.out _ _ _ _ (by rw [B_eq]; omega) hown1, below_app (hbel.alloc hbel.size _) hg1 (by simp; omega) (hown.alloc _) (Nat.le_refl _)⟩
          case measure => simp [intOf]; omega
        · have hneg2 : ¬ (x : Int) < (c' : Int) + (y : Int) := by omega
          clear hB
          go_wp2_with (at_builtin; refine wpL_append _ rfl (.tmp 38) (.tmp 42) _ rfl w.heap.size 99 i0 _ 1 8 Tryz.underlying57 hi0 hz0 hz1 hz2 rfl (by omega) _ j (ints .u64 xs) rfl (hown.alloc _) (some ⟨wr.heap.size, 0, none⟩) 1 1 [.int .u64 ((x : Int) - ((c' : Int) + (y : Int)))] rfl rfl (Rd.of_new wr [.int .u64 ((x : Int) - ((c' : Int) + (y : Int)))] 99) (by intro u hu; simp at hu; subst hu; rfl) (by unfold maxLen; omega) (by omega) (by simp; omega) ?_; intro v1 w1 hown1 hg1 hat1)
          go_roundw
          case rel =>
            obtain ⟨e1, e2⟩ := HDIG.out.2 hneg
            obtain ⟨f1, f2, f3⟩ := FIN.out _ 0 e2 e1
            exact ⟨j + 1, 0, _, by omega, by go_num, rfl, Nat.zero_le _, f1, f2, f3, FITS.out _ _ _ _ (by omega) hown1, below_app (hbel.alloc hbel.size _) hg1 (by simp; omega) (hown.alloc _) (Nat.le_refl _)⟩
          case measure => simp [intOf]; omega
      · have h00 : m.getD j 0 = 0 := getD_over m hgeb
        rw [h00] at FIN HDIG
        clear h00 hy
        by_cases hneg : x < 0 + c'
        · have hneg2 : (x : Int) < (c' : Int) := by omega
          clear hB
          go_wp2_with (at_builtin; refine wpL_append _ rfl (.tmp 38) (.tmp 42) _ rfl w.heap.size 99 i0 _ 1 8 Tryz.underlying57 hi0 hz0 hz1 hz2 rfl (by omega) _ j (ints .u64 xs) rfl (hown.alloc _) (some ⟨wr.heap.size, 0, none⟩) 1 1 [.int .u64 ((x : Int) + 1000000000 - (c' : Int))] rfl rfl (Rd.of_new wr [.int .u64 ((x : Int) + 1000000000 - (c' : Int))] 99) (by intro u hu; simp at hu; subst hu; rfl) (by unfold maxLen; omega) (by omega) (by simp; omega) ?_; intro v1 w1 hown1 hg1 hat1)
          go_roundw
          case rel =>
            obtain ⟨e1, e2⟩ := HDIG.out.1 hneg
            obtain ⟨f1, f2, f3⟩ := FIN.out _ 1 e2 e1
            exact ⟨j + 1, 1, _, by omega, by go_num, rfl, Nat.le_refl _, f1, f2, f3, FITS.out _ _ _ _ (by rw [B_eq]; omega) hown1, below_app (hbel.alloc hbel.size _) hg1 (by simp; omega) (hown.alloc _) (Nat.le_refl _)⟩
          case measure => simp [intOf]; omega
        · have hneg2 : ¬ (x : Int) < (c' : Int) := by omega
          clear hB
          go_wp2_with (at_builtin; refine wpL_append _ rfl (.tmp 38) (.tmp 42) _ rfl w.heap.size 99 i0 _ 1 8 Tryz.underlying57 hi0 hz0 hz1 hz2 rfl (by omega) _ j (ints .u64 xs) rfl (hown.alloc _) (some ⟨wr.heap.size, 0, none⟩) 1 1 [.int .u64 ((x : Int) - (c' : Int))] rfl rfl (Rd.of_new wr [.int .u64 ((x : Int) - (c' : Int))] 99) (by intro u hu; simp at hu; subst hu; rfl) (by unfold maxLen; omega) (by omega) (by simp; omega) ?_; intro v1 w1 hown1 hg1 hat1)
          go_roundw
          case rel =>
            obtain ⟨e1, e2⟩ := HDIG.out.2 hneg
            obtain ⟨f1, f2, f3⟩ := FIN.out _ 0 e2 e1
            exact ⟨j + 1, 0, _, by omega, by go_num, rfl, Nat.zero_le _, f1, f2, f3, FITS.out _ _ _ _ (by omega) hown1, below_app (hbel.alloc hbel.size _) hg1 (by simp; omega) (hown.alloc _) (Nat.le_refl _)⟩
          case measure => simp [intOf]; omega
    · obtain rfl : j = l.length := by omega
      have hZ : val xs = a - b := by
        have := HV.out
        rw [val_take_all l (Nat.le_refl _), val_take_all m hlen, HA.out, HB.out] at this
        exact sub_end this (by have := val_lt hzs; rwa [hz] at this) HAB.out hc'
      have HZ := Lib.hid hZ
      have HZL := Lib.hid hz
      obtain ⟨A9, c9, rfl, hc9⟩ := own_slice0 hown
      have hrd := Rd.of_own hown
      clear hZ hz
      go_wp2_with fail
      refine (qtrim_any A9 c9 l.length xs wr HZL.out hc9 (by omega) hrd).mono ?_
      rintro e w2 ⟨rfl, k, hT, rfl⟩
      have hk := hT.len hzs
      have ht := hT.eq hzs
      rw [HZ.out] at hk ht
      have HO : IsN wr wr.heap.size .u64 (.slice A9 k c9) (a - b) :=
        ⟨_, c9, by rw [← hk], by rw [← hk]; have := hT.1; have := HZL.out; omega, by rw [ht, ints_take]; exact hrd.take k⟩
      have HFR := Fresh.own hown k
      clear hk ht hT
      go_wp2
      go_ret
      exact ⟨hbel, _, rfl, HO, HFR⟩
end Go.Proofs.YtblopapobmbboaaGreatDoor

namespace Go.Proofs.YtblopapobmbboaaGreatDoor
open Go.RowKit Ar

set_option maxRecDepth 100000 in
set_option maxHeartbeats 1600000 in
theorem nmul_any (a b : Nat) (v u : Value) (w : World) (h : IsN w w.heap.size .u64 v a) (h' : IsN w w.heap.size .u64 u b) (hl : (limbs a).length ≤ 1000000000000) (hl' : (limbs b).length ≤ 1000000000000) :
    Calls Tryz.prog 89 #[v, u] w fun e w' => Below w.heap.size w w' ∧ ∃ v, e = .returned v ∧ IsN w' w'.heap.size .u64 v (a * b) := by
  obtain ⟨A, c, rfl, h1, h3⟩ := h
  obtain ⟨A2, c2, rfl, k1, k3⟩ := h'
  have hv := val_limbs a
  have hsm := Small.limbs a
  have kv := val_limbs b
  have ksm := Small.limbs b
  generalize limbs a = l at *
  generalize limbs b = m at *
  have HA := Lib.hid hv
  have HB := Lib.hid kv
  clear hv kv
  have hmk := make_u64 (l.length + m.length) ((l.length : Int) + (m.length : Int)) (by omega) (by omega)
  go_enter Tryz.func89, Tryz.ntmps89
  go_wp2_with fail
  clear hmk
  go_loopw [20] (fun i wr => ∃ (j : Nat) (zs : List Nat), j ≤ l.length ∧ i = .int .i64 j ∧ zs.length = l.length + m.length ∧ Small zs ∧ Hid (val zs = val (l.take j) * b) ∧ Hid (∀ t, j + m.length ≤ t → zs.getD t 0 = 0) ∧
      Bk wr w.heap.size 99 (ints .u64 zs).toArray ∧ Below w.heap.size w wr) (fun i _ => l.length - (intOf i).toNat)
  case atStart => exact ⟨0, List.replicate (l.length + m.length) 0, Nat.zero_le _, rfl, by simp, Small.replicate _, by show val _ = _; rw [val_replicate]; simp [val], (fun t _ => by rw [List.getD_eq_getElem?_getD, List.getElem?_replicate]; split <;> rfl), Bk.new _ _ _, (Below.refl _ _).alloc (Nat.le_refl _) _⟩
  case round =>
    obtain ⟨j, zs, hj, rfl, hz, hzs, HV, HZ, hbk, hbel⟩ := hrel
    by_cases hlt : j < l.length
    · obtain ⟨ad, rfl, hb, hcell⟩ := (h3.below hbel).int (j := j) hlt
      have hx : l.getD j 0 < 1000000000 := hsm.getD j
      have HX := Lib.hid (val_take_ge l j)
      generalize l.getD j 0 = x at *
      go_wp2_with fail
      obtain ⟨wo, hwo⟩ : ∃ wo : World, wo = wr := ⟨_, rfl⟩
      subst hwo
      go_loopw [8, 27] (fun carry i wi => ∃ (k c : Nat) (ys : List Nat), k ≤ m.length ∧ i = .int .i64 k ∧ carry = .int .u64 c ∧ c < 1000000000 ∧ ys.length = l.length + m.length ∧ Small ys ∧
          Hid (val ys + c * B ^ (j + k) = val (l.take j) * b + B ^ j * (x * val (m.take k))) ∧ Hid (∀ t, j + m.length ≤ t → ys.getD t 0 = 0) ∧
          Bk wi w.heap.size 99 (ints .u64 ys).toArray ∧ Below w.heap.size w wi) (fun _ i _ => m.length - (intOf i).toNat)
      case atStart => exact ⟨0, 0, zs, Nat.zero_le _, rfl, rfl, by omega, hz, hzs, by show _ = _; rw [HV.out]; simp [val], HZ.out, hbk, hbel⟩
      case round =>
        obtain ⟨k, c', ys, hk, rfl, rfl, hc', hy1, hys, HW, HZ2, hbk2, hbel2⟩ := hrel
        by_cases hltk : k < m.length
        · obtain ⟨ad2, rfl, hb2, hcell2⟩ := (k3.below hbel2).int (j := k) hltk
          have hy : m.getD k 0 < 1000000000 := ksm.getD k
          have HY := Lib.hid (val_take_ge m k)
          have hr : ys.getD (j + k) 0 < 1000000000 := hys.getD (j + k)
          have hcell3 := hbk2.cell (j + k)
          rw [ints_getD .u64 ys (by omega)] at hcell3
          have hfr := hbk2.frozen (j + k)
          have HS := Lib.hid (fun v => val_set ys (j + k) v (by omega))
          generalize m.getD k 0 = y at *
          generalize ys.getD (j + k) 0 = r at *
          have hp0 : (0 : Int) ≤ (x : Int) * (y : Int) := Int.mul_nonneg (by omega) (by omega)
          have hp1 : (x : Int) * (y : Int) ≤ 999999998000000001 := by
            have : x * y ≤ 999999999 * 999999999 := Nat.mul_le_mul (by omega) (by omega)
            have : ((x * y : Nat) : Int) ≤ ((999999999 * 999999999 : Nat) : Int) := by omega
            rw [Int.natCast_mul] at this; omega
          go_wp2
          go_roundw
          case rel =>
            have hsd : (x * y + r + c') % B < B := Nat.mod_lt _ B_pos
            have eS : ((x * y + r + c' : Nat) : Int) = (r : Int) + (x : Int) * (y : Int) + (c' : Int) := by rw [Int.natCast_add, Int.natCast_add, Int.natCast_mul]; omega
            have eT : ∀ u : Nat, ∀ v : Int, (Value.int .u64 v = Value.int .u64 (u : Int)) = (v = (u : Int)) := fun u v => by simp
            refine ⟨k + 1, (x * y + r + c') / B, ys.set (j + k) ((x * y + r + c') % B), by omega, by go_num, ?_, mul_carry hx hy hr hc' rfl, by simpa using hy1, hys.set hsd, ?_, ?_, ?_, ?_⟩
            · rw [eT, Int.natCast_ediv, eS]; rfl
            · have e1 := mul_inner HW.out rfl (HS.out ((x * y + r + c') % B)) (m := B ^ j * (x * (B ^ k * y))) (by rw [Nat.pow_add]; grind)
              rw [HY.out, show j + (k + 1) = (j + k) + 1 from rfl, Nat.pow_succ]
              refine Eq.trans e1 ?_
              grind
            · intro t ht
              rw [List.getD_eq_getElem?_getD, List.getElem?_set_ne (by omega), ← List.getD_eq_getElem?_getD]
              exact HZ2.out t ht
            · have := hbk2.put (j + k) (.int .u64 (((x * y + r + c') % B : Nat) : Int))
              rw [ints_set, Int.natCast_emod, eS] at this
              exact this
            · exact hbel2.setCell (Nat.le_refl _) _
          case measure => simp [intOf]; omega
        · obtain rfl : k = m.length := by omega
          have hcell3 := hbk2.cell (j + m.length)
          rw [ints_getD .u64 ys (by omega), HZ2.out _ (Nat.le_refl _)] at hcell3
          have hfr := hbk2.frozen (j + m.length)
          go_wp2
          go_roundw
          case rel =>
            refine ⟨j + 1, ys.set (j + m.length) c', by omega, by go_num, by simpa using hy1, hys.set (by rw [B_eq]; exact hc'), ?_, ?_, ?_, hbel2.setCell (Nat.le_refl _) _⟩
            · have e1 := val_set ys (j + m.length) c' (by omega)
              rw [HZ2.out _ (Nat.le_refl _), Nat.mul_zero, Nat.add_zero] at e1
              have e2 := HW.out
              rw [val_take_all m (Nat.le_refl _), HB.out] at e2
              rw [e1, HX.out]
              show _ = (_ + B ^ j * x) * b
              rw [Nat.mul_comm (B ^ _) c', e2]
              grind
            · intro t ht
              rw [List.getD_eq_getElem?_getD, List.getElem?_set_ne (by omega), ← List.getD_eq_getElem?_getD]
              exact HZ2.out t (by omega)
            · have := hbk2.put (j + m.length) (.int .u64 (c' : Int))
              rw [ints_set] at this
              exact this
          case measure => simp [intOf]; omega
    · obtain rfl : j = l.length := by omega
      have hZ : val zs = a * b := by
        have := HV.out
        rwa [val_take_all l (Nat.le_refl _), HA.out] at this
      have hrd := hbk.rd
      have HZV := Lib.hid hZ
      clear hZ
      go_wp2_with fail
      refine (qtrim_any _ _ (l.length + m.length) zs _ hz (by omega) (by omega) (by simpa using hrd)).mono ?_
      rintro e w2 ⟨rfl, k, hT, rfl⟩
      have hk := hT.len hzs
      have ht := hT.eq hzs
      rw [HZV.out] at hk ht
      have HO : IsN wr wr.heap.size .u64 (.slice (some ⟨w.heap.size, 0, none⟩) k (l.length + m.length)) (a * b) :=
        ⟨_, _, by rw [← hk], by rw [← hk]; have := hT.1; omega, by rw [ht, ints_take]; exact (show Rd wr _ _ (ints .u64 zs) by simpa using hrd).take k⟩
      clear hk ht hT
      go_wp2
      go_ret
      exact ⟨hbel, _, rfl, HO⟩
end Go.Proofs.YtblopapobmbboaaGreatDoor
