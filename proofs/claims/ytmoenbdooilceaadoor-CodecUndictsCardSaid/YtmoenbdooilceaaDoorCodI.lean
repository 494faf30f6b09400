/-
  Walks: package codec: the places of shuffled bytes; Shuffle, Unshuffle.
-/
import Derived.Test.YtmoenbdooilceaaDoorCodH
namespace Go.Proofs.YtmoenbdooilceaaDoor
open Go.RowKit By

theorem Tryd.i64_info : (Tryd.prog.info? 3).map (fun i => (i.zero, i.size, i.bytes)) = some (some (.int .i64 0), 1, 8) := by kernel_rfl

/-- The first k places. -/
def pls (m n k : Nat) : List Nat := (List.range k).map (pl m n)
theorem pls_len (m n k : Nat) : (pls m n k).length = k := by simp [pls]
theorem pls_succ (m n k : Nat) : pls m n (k + 1) = pls m n k ++ [pl m n k] := by simp [pls, List.range_succ]
theorem pls_at (m n : Nat) {k j : Nat} (h : j < k) : (pls m n k).getD j 0 = pl m n j := by
  simp [pls, List.getD_eq_getElem?_getD, List.getElem?_range h]

set_option maxRecDepth 100000 in
set_option maxHeartbeats 1600000 in
theorem places_any (m n : Nat) (w : World) (h1 : 1 ≤ n) (h8 : n ≤ 8) (hm : m ≤ 1048576) :
    Calls Tryd.prog 40 #[.int .i64 (m : Int), .int .i64 (n : Int)] w fun e w' => Below w.heap.size w w' ∧ ∃ v, e = .returned v ∧ w'.ownsRow w.heap.size 3 1 v m (ints .i64 (pls m n m)) := by
  obtain ⟨i0, hi0, hz0, hz1, hz2⟩ := info_parts Tryd.i64_info
  obtain ⟨K, hK⟩ : ∃ K, K = m / n := ⟨_, rfl⟩
  have hKm : K ≤ m := by rw [hK]; exact Nat.div_le_self _ _
  have hKn : K * n ≤ m := by rw [hK]; exact Nat.div_mul_le_self _ _
  have x1 : (m : Int).tdiv (n : Int) = (K : Int) := by rw [Int.tdiv_eq_ediv_of_nonneg (by omega), hK]; simp
  have x2 : ¬ (n : Int) = 0 := by omega
  have HK := Lib.hid hK
  clear hK
  go_enter Tryd.func40, Tryd.ntmps40
  go_wp2
  clear x1 x2
  go_loopw [6, 14] (fun v i wr => ∃ k q : Nat, k ≤ n ∧ Hid (q = k * K) ∧ i = .int .i64 k ∧ q ≤ m ∧ wr.ownsRow w.heap.size 3 1 v q (ints .i64 (pls m n q)) ∧ Below w.heap.size w wr) (fun _ i _ => n - (intOf i).toNat)
  case atStart => exact ⟨0, 0, Nat.zero_le _, (show 0 = 0 * K by omega), rfl, Nat.zero_le _, World.ownsRow_nil _ _ _ _, Below.refl _ _⟩
  case round =>
    obtain ⟨k, q, hk, HQ, rfl, hq, hown, hB⟩ := hrel
    by_cases hlt : k < n
    · obtain ⟨wo, rfl⟩ : ∃ wo : World, wo = wr := ⟨_, rfl⟩
      have hqK : q + K ≤ m := by
        have h3 : (k + 1) * K ≤ n * K := Nat.mul_le_mul_right _ (by omega)
        have := HQ.out
        rw [Nat.succ_mul, Nat.mul_comm n K] at h3
        omega
      go_wp2
      go_loopw [6, 18] (fun v i wr => ∃ g : Nat, g ≤ K ∧ i = .int .i64 g ∧ wr.ownsRow w.heap.size 3 1 v (q + g) (ints .i64 (pls m n (q + g))) ∧ Below w.heap.size w wr) (fun _ i _ => K - (intOf i).toNat)
      case atStart => exact ⟨0, Nat.zero_le _, rfl, hown, hB⟩
      case round =>
        clear hown hB
        obtain ⟨g, hg, rfl, hown, hB⟩ := hrel
        by_cases hlt2 : g < K
        · obtain ⟨y, hy⟩ : ∃ y, y = g * n := ⟨_, rfl⟩
          have hym : y + k ≤ m := by
            have h3 : (g + 1) * n ≤ K * n := Nat.mul_le_mul_right _ (by omega)
            rw [Nat.succ_mul] at h3
            omega
          have y1 : (g : Int) * (n : Int) = (y : Int) := by rw [hy]; simp
          have HP : Hid (pl m n (q + g) = y + k) := by
            show _ = _
            rw [hy, HQ.out, HK.out]
            exact pl_group (by rw [← HK.out]; exact hlt2) hlt
          clear hy
          go_wp2_with (at_builtin; refine wpL_append _ rfl (.tmp 21) (.tmp 27) _ rfl w.heap.size 3 i0 _ 1 8 Tryd.underlying49 hi0 hz0 hz1 hz2 rfl (by omega) _ (q + g) (ints .i64 (pls m n (q + g))) rfl (hown.alloc _) (some ⟨wr.heap.size, 0, none⟩) 1 1 [.int .i64 ((y : Int) + (k : Int))] rfl rfl (Rd.of_new wr [.int .i64 ((y : Int) + (k : Int))] 3) (by intro u hu; simp at hu; subst hu; rfl) (by unfold maxLen; omega) (by omega) (by have := hB.size; simp; omega) ?_; intro v1 w1 hown1 hg1 hat1)
          have HO : Hid (w1.ownsRow w.heap.size 3 1 v1 (q + (g + 1)) (ints .i64 (pls m n (q + (g + 1))))) := by
            show World.ownsRow _ _ _ _ _ _ _
            rw [← Nat.add_assoc, pls_succ, HP.out, ints_append]
            exact hown1
          have hB1 : Below w.heap.size w w1 := below_app (hB.alloc hB.size _) hg1 (by have := hB.size; simp; omega) (hown.alloc _) (Nat.le_refl _)
          clear hown hown1 HP y1
          go_wp2
          go_roundw
          case rel => exact ⟨g + 1, by omega, by go_num, HO.out, hB1⟩
          case measure => simp [intOf]; omega
        · obtain rfl : g = K := by omega
          have HO := Lib.hid hown
          clear hown
          go_wp2
          go_roundw
          case rel => exact ⟨k + 1, q + g, by omega, (show q + g = (k + 1) * g by have := HQ.out; rw [Nat.succ_mul]; omega), by go_num, hqK, HO.out, hB⟩
          case measure => simp [intOf]; omega
    · obtain rfl : k = n := by omega
      have hqe : q = K * k := by have := HQ.out; rw [Nat.mul_comm] at this; exact this
      have y1 : (K : Int) * (k : Int) = (q : Int) := by rw [hqe]; simp
      have HE := Lib.hid hqe
      clear hqe
      obtain ⟨wo, rfl⟩ : ∃ wo : World, wo = wr := ⟨_, rfl⟩
      go_wp2
      clear y1
      go_loopw [6, 9] (fun v i wr => ∃ g : Nat, q ≤ g ∧ g ≤ m ∧ i = .int .i64 g ∧ wr.ownsRow w.heap.size 3 1 v g (ints .i64 (pls m k g)) ∧ Below w.heap.size w wr) (fun _ i _ => m - (intOf i).toNat)
      case atStart => exact ⟨q, Nat.le_refl _, hq, rfl, hown, hB⟩
      case round =>
        clear hown hB
        obtain ⟨g, hqg, hg, rfl, hown, hB⟩ := hrel
        by_cases hlt2 : g < m
        · have HP : Hid (pl m k g = g) := by
            show _ = _
            exact pl_rest (by rw [← HK.out, ← HE.out]; exact hqg)
          go_wp2_with (at_builtin; refine wpL_append _ rfl (.tmp 39) (.tmp 41) _ rfl w.heap.size 3 i0 _ 1 8 Tryd.underlying49 hi0 hz0 hz1 hz2 rfl (by omega) _ g (ints .i64 (pls m k g)) rfl (hown.alloc _) (some ⟨wr.heap.size, 0, none⟩) 1 1 [.int .i64 (g : Int)] rfl rfl (Rd.of_new wr [.int .i64 (g : Int)] 3) (by intro u hu; simp at hu; subst hu; rfl) (by unfold maxLen; omega) (by omega) (by have := hB.size; simp; omega) ?_; intro v1 w1 hown1 hg1 hat1)
          have HO : Hid (w1.ownsRow w.heap.size 3 1 v1 (g + 1) (ints .i64 (pls m k (g + 1)))) := by
            show World.ownsRow _ _ _ _ _ _ _
            rw [pls_succ, HP.out, ints_append]
            exact hown1
          have hB1 : Below w.heap.size w w1 := below_app (hB.alloc hB.size _) hg1 (by have := hB.size; simp; omega) (hown.alloc _) (Nat.le_refl _)
          clear hown hown1 HP
          go_wp2
          go_roundw
          case rel => exact ⟨g + 1, by omega, by omega, by go_num, HO.out, hB1⟩
          case measure => simp [intOf]; omega
        · obtain rfl : g = m := by omega
          have HO := Lib.hid hown
          clear hown
          go_wp2
          go_ret
          exact ⟨hB, _, rfl, HO.out⟩

/-- What has been written to the places. -/
def UptoP (zs : List Nat) (j m n : Nat) (l : List Nat) : Prop := ∀ t, t < j → zs.getD (pl m n t) 0 = l.getD t 0
theorem UptoP.succ {zs : List Nat} {j m n : Nat} {l : List Nat} (h : UptoP zs j m n l) (hj : j < m) (hz : zs.length = m) : UptoP (zs.set (pl m n j) (l.getD j 0)) (j + 1) m n l := fun t ht => by
  rcases Nat.lt_or_ge t j with h1 | h1
  · have hne : pl m n j ≠ pl m n t := fun e => by
      have e1 := (ql_pl (n := n) hj).1
      have e2 := (ql_pl (n := n) (show t < m by omega)).1
      rw [e, e2] at e1; omega
    rw [List.getD_eq_getElem?_getD, List.getElem?_set_ne hne, ← List.getD_eq_getElem?_getD, h t h1]
  · obtain rfl : t = j := by omega
    have := (ql_pl (n := n) hj).2
    rw [List.getD_eq_getElem?_getD, List.getElem?_set_self (by omega)]; rfl

set_option maxRecDepth 100000 in
set_option maxHeartbeats 1600000 in
theorem shuffle_any (A : Option Addr) (c n : Nat) (l : List Nat) (w : World) (h1 : 1 ≤ n) (h8 : n ≤ 8) (hm : l.length ≤ 1048576) (h : Rd w w.heap.size A (ints .u8 l)) :
    Calls Tryd.prog 21 #[.slice A l.length c, .int .i64 n] w fun e w' => Below w.heap.size w w' ∧ ∃ v, e = .returned (.tuple #[v, .int .i64 0]) ∧ IsL w' w'.heap.size .u8 v (shufB l n) := by
  have hg : grE n l.length = 0 := by unfold grE; rw [if_neg (by omega), if_neg (by omega)]
  obtain ⟨i0, hi0, hz0, hz1, hz2⟩ := info_parts Tryd.u8_info
  have hmk := make_ints (P := Tryd.prog) 22 5 i0 .u8 Tryd.underlying22 hi0 hz0 hz1 (by omega) .i64 .i64 l.length (l.length : Int) rfl (by omega)
  go_enter Tryd.func21, Tryd.ntmps21
  go_wp2_with fail
  refine (grouped_any _ _ _ _ _ (by omega)).mono ?_
  rintro e w1 ⟨rfl, rfl⟩
  rw [hg]
  clear hg
  go_wp2_with fail
  clear hmk
  have hk0 := Bk.new w 5 (ints .u8 (List.replicate l.length 0)).toArray
  refine (places_any l.length n _ h1 h8 hm).mono ?_
  rintro e w2 ⟨hb2, v, rfl, hv⟩
  obtain ⟨A', c', rfl, hc', hp'⟩ := IsL.of_own hv
  rw [pls_len] at hc' ⊢
  clear hv
  have hrow0 : Row w2 w.heap.size 5 .u8 (List.replicate l.length 0) := (Row.of_bk hk0).next hb2
  have hB0 : Below w.heap.size w w2 := (((Below.refl _ _).alloc (Nat.le_refl _) _).trans (hb2.mono (by simp)))
  have hgl := hrow0.lt
  go_wp2
  go_loopw [24] (fun i wr => ∃ (j : Nat) (zs : List Nat), j ≤ l.length ∧ zs.length = l.length ∧ Hid (Upto zs j (fun t => l.getD (pl l.length n t) 0)) ∧ i = .int .i64 j ∧ Row wr w.heap.size 5 .u8 zs ∧ Below w.heap.size w wr ∧ Rd wr w2.heap.size A' (ints .i64 (pls l.length n l.length))) (fun i _ => l.length - (intOf i).toNat)
  case atStart => exact ⟨0, List.replicate l.length 0, Nat.zero_le _, by simp, (fun t ht => by omega), rfl, hrow0, hB0, hp'⟩
  case round =>
    clear hrow0 hB0 hk0 hb2 hp'
    obtain ⟨j, zs, hj, hz, HU, rfl, hrow, hB, hp⟩ := hrel
    by_cases hlt : j < l.length
    · obtain ⟨ad, rfl, hab, hcell⟩ := (h.below hB).int (j := pl l.length n j) (by first | exact hlt | exact (ql_pl hlt).2)
      obtain ⟨ad2, rfl, hab2, hcell2⟩ := hp.int (j := j) (by rw [pls_len]; exact hlt)
      have e2 := pls_at l.length n hlt
      rw [e2] at hcell2
      clear e2
      have hpl := (ql_pl (n := n) hlt).2
      have hc0 := hrow.cell (i := j) (by omega)
      have hf0 := hrow.frozen (j)
      have HR2 := Lib.hid (fun x => hrow.put (i := j) (by omega) x)
      have HUn := Lib.hid (HU.out.succ (f := fun t => l.getD (pl l.length n t) 0) (show j < zs.length by omega))
      have HPD := Lib.hid (fun u => hp.put_kind hc0 (by decide) u)
      clear hrow hp
      generalize zs.getD j 0 = old at *
      generalize l.getD (pl l.length n j) 0 = x at *
      go_wp2
      go_roundw
      case rel =>
        exact ⟨j + 1, _, by omega, by rw [List.length_set]; exact hz, HUn.out, by go_num, HR2.out _, hB.setCell (by exact Nat.le_refl _) _, HPD.out _⟩
      case measure => simp [intOf]; omega
    · obtain rfl : j = l.length := by omega
      have HE : Hid (zs = shufB l n) := ext_getD (by rw [hz, shufB_len]) fun i hi => by
        rw [HU.out i (by omega), shufB_at _ _ (by omega)]
      have HL := Lib.hid (IsL.row hrow (c := l.length) (by omega))
      have HZ := Lib.hid hz
      go_wp2
      go_ret2
      refine ⟨hB, _, rfl, ?_⟩
      have := HL.out
      rw [HZ.out, HE.out] at this
      exact this

set_option maxRecDepth 100000 in
set_option maxHeartbeats 1600000 in
theorem unshuffle_any (A : Option Addr) (c n : Nat) (l : List Nat) (w : World) (h1 : 1 ≤ n) (h8 : n ≤ 8) (hm : l.length ≤ 1048576) (h : Rd w w.heap.size A (ints .u8 l)) :
    Calls Tryd.prog 23 #[.slice A l.length c, .int .i64 n] w fun e w' => Below w.heap.size w w' ∧ ∃ v, e = .returned (.tuple #[v, .int .i64 0]) ∧ IsL w' w'.heap.size .u8 v (unshB l n) := by
  have hg : grE n l.length = 0 := by unfold grE; rw [if_neg (by omega), if_neg (by omega)]
  obtain ⟨i0, hi0, hz0, hz1, hz2⟩ := info_parts Tryd.u8_info
  have hmk := make_ints (P := Tryd.prog) 22 5 i0 .u8 Tryd.underlying22 hi0 hz0 hz1 (by omega) .i64 .i64 l.length (l.length : Int) rfl (by omega)
  go_enter Tryd.func23, Tryd.ntmps23
  go_wp2_with fail
  refine (grouped_any _ _ _ _ _ (by omega)).mono ?_
  rintro e w1 ⟨rfl, rfl⟩
  rw [hg]
  clear hg
  go_wp2_with fail
  clear hmk
  have hk0 := Bk.new w 5 (ints .u8 (List.replicate l.length 0)).toArray
  refine (places_any l.length n _ h1 h8 hm).mono ?_
  rintro e w2 ⟨hb2, v, rfl, hv⟩
  obtain ⟨A', c', rfl, hc', hp'⟩ := IsL.of_own hv
  rw [pls_len] at hc' ⊢
  clear hv
  have hrow0 : Row w2 w.heap.size 5 .u8 (List.replicate l.length 0) := (Row.of_bk hk0).next hb2
  have hB0 : Below w.heap.size w w2 := (((Below.refl _ _).alloc (Nat.le_refl _) _).trans (hb2.mono (by simp)))
  have hgl := hrow0.lt
  go_wp2
  go_loopw [24] (fun i wr => ∃ (j : Nat) (zs : List Nat), j ≤ l.length ∧ zs.length = l.length ∧ Hid (UptoP zs j l.length n l) ∧ i = .int .i64 j ∧ Row wr w.heap.size 5 .u8 zs ∧ Below w.heap.size w wr ∧ Rd wr w2.heap.size A' (ints .i64 (pls l.length n l.length))) (fun i _ => l.length - (intOf i).toNat)
  case atStart => exact ⟨0, List.replicate l.length 0, Nat.zero_le _, by simp, (fun t ht => by omega), rfl, hrow0, hB0, hp'⟩
  case round =>
    clear hrow0 hB0 hk0 hb2 hp'
    obtain ⟨j, zs, hj, hz, HU, rfl, hrow, hB, hp⟩ := hrel
    by_cases hlt : j < l.length
    · obtain ⟨ad, rfl, hab, hcell⟩ := (h.below hB).int (j := j) hlt
      obtain ⟨ad2, rfl, hab2, hcell2⟩ := hp.int (j := j) (by rw [pls_len]; exact hlt)
      have e2 := pls_at l.length n hlt
      rw [e2] at hcell2
      clear e2
      have hpl := (ql_pl (n := n) hlt).2
      have hc0 := hrow.cell (i := pl l.length n j) (by omega)
      have hf0 := hrow.frozen (pl l.length n j)
      have HR2 := Lib.hid (fun x => hrow.put (i := pl l.length n j) (by omega) x)
      have HUn := Lib.hid (HU.out.succ hlt hz)
      have HPD := Lib.hid (fun u => hp.put_kind hc0 (by decide) u)
      clear hrow hp
      generalize pl l.length n j = dst at *
      generalize zs.getD dst 0 = old at *
      generalize l.getD j 0 = x at *
      go_wp2
      go_roundw
      case rel =>
        exact ⟨j + 1, _, by omega, by rw [List.length_set]; exact hz, HUn.out, by go_num, HR2.out _, hB.setCell (by exact Nat.le_refl _) _, HPD.out _⟩
      case measure => simp [intOf]; omega
    · obtain rfl : j = l.length := by omega
      have HE : Hid (zs = unshB l n) := ext_getD (by rw [hz, unshB_len]) fun i hi => by
        obtain ⟨e1, e2⟩ := pl_ql (n := n) (show i < l.length by omega)
        rw [unshB_at _ _ (by omega), ← HU.out _ e2, e1]
      have HL := Lib.hid (IsL.row hrow (c := l.length) (by omega))
      have HZ := Lib.hid hz
      go_wp2
      go_ret2
      refine ⟨hB, _, rfl, ?_⟩
      have := HL.out
      rw [HZ.out, HE.out] at this
      exact this
end Go.Proofs.YtmoenbdooilceaaDoor
