/-
  Walks: package ratio's natural numbers: take.
-/
import Derived.Test.YtpkhgdnkkdhlcaaGreatDoorNatE
import Derived.Test.YtpkhgdnkkdhlcaaGreatDoorWordsB
namespace Go.Proofs.YtpkhgdnkkdhlcaaGreatDoor
open Go.RowKit Ar

theorem splice_id {α : Type} {U R cur : List α} {j m : Nat} (z : α) (hcur : cur.take U.length = U) (hj : j + m ≤ U.length) (hr : R.length ≤ m) :
    (((cur.take j ++ (R ++ cur.drop (j + R.length))).take (j + R.length)) ++ (List.replicate (m - R.length) z ++ (cur.take j ++ (R ++ cur.drop (j + R.length))).drop (j + R.length + (m - R.length)))).take U.length = U.take j ++ (R ++ List.replicate (m - R.length) z) ++ U.drop (j + m) := by
  obtain ⟨S, rfl⟩ : ∃ S, cur = U ++ S := ⟨cur.drop U.length, by conv => lhs; rw [← List.take_append_drop U.length cur, hcur]⟩
  have e1 : (U ++ S).take j = U.take j := by rw [List.take_append_of_le_length (by omega)]
  have e2 : (U.take j).length = j := by simp; omega
  have e3 : (U ++ S).drop (j + R.length) = U.drop (j + R.length) ++ S := by rw [List.drop_append_of_le_length (by omega)]
  rw [e1, e3]
  have e4 : (U.take j ++ (R ++ (U.drop (j + R.length) ++ S))).take (j + R.length) = U.take j ++ R := by
    rw [← List.append_assoc, List.take_append_of_le_length (by simp; omega), List.take_of_length_le (by simp; omega)]
  have e5 : (U.take j ++ (R ++ (U.drop (j + R.length) ++ S))).drop (j + R.length + (m - R.length)) = U.drop (j + m) ++ S := by
    rw [← List.append_assoc, ← List.append_assoc, List.drop_append_of_le_length (by simp; omega), List.drop_append, List.drop_of_length_le (by simp; omega), List.nil_append, List.drop_drop]
    congr 2
    simp; omega
  rw [e4, e5]
  have e6 : U.take j ++ R ++ (List.replicate (m - R.length) z ++ (U.drop (j + m) ++ S)) = (U.take j ++ (R ++ List.replicate (m - R.length) z) ++ U.drop (j + m)) ++ S := by simp
  rw [e6, List.take_append_of_le_length (by simp; omega), List.take_of_length_le (by simp; omega)]

theorem u32_size : (Tryz.prog.info? 105).map (·.size) = some 1 := by kernel_rfl
theorem u32_zero (w : World) : (zeroValue 105).run Tryz.prog w = .ok (.int .u32 0) w := by
  obtain ⟨i0, hi0, hz0, hz1, hz2⟩ := info_parts u32_info
  simp [zeroValue, typeInfo, hi0, hz0]
theorem clear_u32 (w : World) (g o n c : Nat) (cur : List Value) (hn : 0 < n) (hg : w.heap[g]? = some (.cells cur.toArray 105 (0, 0))) (hl : o + n ≤ cur.length) (ty : TypeId) :
    (Builtin.clear_ #[100] ty #[.slice (some ⟨g, o, none⟩) n c]).run Tryz.prog w = .ok (.tuple #[]) (w.setCells g o (List.replicate n (.int .u32 0))) := by
  refine Lib.run_clear_slice w _ 105 ty (.int .u32 0) Tryz.underlying100 u32_zero rfl rfl g o n c hn ?_ ?_
  · intro j hj
    rw [cell_of_row w g (o + j) _ _ (0, 0) hg]
    simp; omega
  · intro j hj
    exact (show Bk w g 105 cur.toArray from hg).frozen _

set_option maxHeartbeats 1000000 in
set_option maxRecDepth 4000 in

theorem take_any (base g cap j m c x V : Nat) (us : List Nat) (v : Value) (w : World)
    (hu : w.ownsRow base 105 1 (.slice (some ⟨g, 0, none⟩) us.length cap) us.length (ints .u32 us)) (hs : Small us) (hj : j + m ≤ us.length) (hm : m ≤ 1000000000000) (hc : m ≤ c)
    (hbase : base ≤ w.heap.size) (hv : IsN w base .u32 v V) (hl : (limbs V).length ≤ 1000000000000) (hlm : (limbs V).length < m) (hx : x < B)
    (hW : V * x ≤ val ((us.drop j).take m) → val ((us.drop j).take m) - V * x < V) :
    Calls Tryz.prog 192 #[.slice (some ⟨g, j, none⟩) m c, v, .int .u64 x] w fun e w' => w.grownBy w' (some g) ∧
      e = .returned (.bool (decide (V * x ≤ val ((us.drop j).take m)))) ∧ w'.ownsRow base 105 1 (.slice (some ⟨g, 0, none⟩) us.length cap) us.length
        (ints .u32 (if V * x ≤ val ((us.drop j).take m) then us.take j ++ (limbs (val ((us.drop j).take m) - V * x) ++ List.replicate (m - (limbs (val ((us.drop j).take m) - V * x)).length) 0) ++ us.drop (j + m) else us)) := by
  have hrd : Rd w w.heap.size (some ⟨g, j, none⟩) (ints .u32 ((us.drop j).take m)) := by
    have := ((Rd.of_own hu).part j).take m
    rw [Nat.zero_add, ← ints_drop, ← ints_take] at this
    exact this
  have hsW : Small ((us.drop j).take m) := (hs.drop j).take m
  have hlW : ((us.drop j).take m).length = m := by simp; omega
  have HP := Lib.hid (fun (xs : List Nat) => congrArg (fun zs => us.take j ++ (zs ++ us.drop (j + m))) (rfl : xs = xs))
  clear HP
  obtain ⟨hle, hcur⟩ : (g < w.heap.size ∧ base ≤ g) ∧ ∃ cur : List Value, w.heap[g]? = some (.cells cur.toArray 105 (0, 0)) ∧ cur.length = cap ∧ us.length ≤ cap ∧ cap ≤ maxLen ∧ ints .u32 us = cur.take us.length := by
    rcases hu.2 with ⟨h1, _⟩ | ⟨g', cap', cur, h1, h2, h3, h4, h5, h6, h7⟩
    · cases h1
    · injection h1 with e1 e2 e3
      injection e1 with e1
      injection e1 with e1
      subst e1 e3
      exact ⟨⟨(Array.getElem?_eq_some_iff.1 h3).1, h2⟩, cur.toList, by simpa using h3, by simpa using h6, h4, h5, by simpa using h7.symm⟩
  have HC := Lib.hid hcur
  have HU := Lib.hid hu
  clear hcur hu
  generalize hl' : (us.drop j).take m = l at *
  have HL := Lib.hid hl'
  clear hl'
  obtain ⟨W, hWe⟩ : ∃ W, val l = W := ⟨_, rfl⟩
  rw [hWe] at hW
  rw [hWe]
  have HW := Lib.hid hW
  have HE := Lib.hid hWe
  clear hW hWe
  have hvw := hv.more hbase
  by_cases hcase : V * x ≤ W
  · simp only [hcase, decide_true, if_true]
    have hcmp : 0 ≤ cmpN W (V * x) := by unfold cmpN; rw [if_neg (by omega)]; split <;> omega
    have HCS := Lib.hid hcase
    clear hcase
    go_enter Tryz.func192, Tryz.ntmps192
    go_wp2_with fail
    refine (scale_any V x v w hx hvw hl).mono ?_
    rintro e w1 ⟨hb1, p, rfl, hp⟩
    have hp2 := hp.is
    clear hp
    go_wp2_with fail
    refine (trim_any (some ⟨g, j, none⟩) c m l w1 hlW hc (by omega) ((hrd.below hb1).more hb1.size)).mono ?_
    rintro e w1' ⟨rfl, k, hT, rfl⟩
    have hk := hT.len hsW
    have ht := hT.eq hsW
    rw [HE.out] at hk ht
    have hO : IsN w1 w1.heap.size .u32 (.slice (some ⟨g, j, none⟩) k c) W :=
      ⟨_, c, by rw [← hk], by rw [← hk]; have := hT.1; omega, by rw [ht, ints_take]; exact ((hrd.below hb1).more hb1.size).take k⟩
    have hlk : (limbs W).length ≤ 1000000000000 := by have := hT.1; omega
    clear hk ht
    go_wp2_with fail
    refine (cmp_any W (V * x) _ _ w1 hO hp2 (by omega)).mono ?_
    rintro e w2 ⟨rfl, q, rfl⟩
    generalize cmpN W (V * x) = z at *
    go_wp2_with fail
    refine (trim_any (some ⟨g, j, none⟩) c m l (w1.drewN q) hlW hc (by omega) ((hrd.below hb1).more hb1.size)).mono ?_
    rintro e w3 ⟨rfl, k', hT', rfl⟩
    obtain rfl : k' = k := by rw [hT'.len hsW, hT.len hsW]
    clear hT hT'
    go_wp2_with fail
    refine (sub_any W (V * x) _ _ (w1.drewN q) hO hp2 HCS.out hlk).mono ?_
    rintro e w4 ⟨hb4, r, rfl, A, rc, rfl, hr1, hr2⟩
    obtain ⟨cur, hc1, hc2, hc3, hc4, hc5⟩ := HC.out
    have hg4 : w4.heap[g]? = some (.cells cur.toArray 105 (0, 0)) := by
      rw [hb4.block g (Nat.lt_of_lt_of_le hle.1 hb1.size)]
      show w1.heap[g]? = _
      rw [hb1.block g hle.1]; exact hc1
    have hRV := HW.out HCS.out
    have hlr : (limbs (W - V * x)).length ≤ (limbs V).length := len_mono (by omega)
    have HG := Lib.hid hg4
    have H5 := Lib.hid hc5
    have hh1 : (limbs (W - V * x)).length < m := by omega
    have hne : ¬ c = (limbs (W - V * x)).length := by omega
    have HR := Lib.hid (fun (n : Nat) => (rfl : n = n))
    have hgrow : Hid (w.grownBy w4 (some g)) := grown_trans (grown_trans (grown_of_below hb1 _) (grown_drewN w1 q _)) (grown_of_below hb4 _)
    clear hc1 hg4 hc5 hRV hlr HC HR
    have hlen2 : (ints .u32 (limbs (W - V * x))).length = (limbs (W - V * x)).length := ints_length _ _
    have hone := ints_one .u32 (limbs (W - V * x))
    generalize hri : limbs (W - V * x) = rl at *
    have HRI := Lib.hid hri
    clear hri
    have hsz1 : rl.length ≤ m := by omega
    have hsz3 : ∀ (xs : List Value) (y : Nat), xs.length = y → y = rl.length → j + rl.length + (m - rl.length) ≤ (cur.take j ++ (xs ++ cur.drop (j + rl.length))).length := by
      intro xs y h1 h2
      simp only [List.length_append, List.length_take, List.length_drop, h1, h2]
      omega
    have hsz2 : j + rl.length ≤ cur.length := by omega
    go_wp2_with ((with_reducible show wpList _ _ _ _ _ _); refine wpL_copy (P := Tryz.prog) (o := ⟨some 23, _, _, _, _, _⟩) _ (by rfl) (.tmp 21) (.tmp 22) 100 100 (by rfl) 105 Tryz.underlying100 u32_size g j m c A rl.length rc (by rfl) (by rfl) cur 105 HG.out (ints .u32 rl) hlen2 hsz1 hr2 hsz2 hone ?_; intro w5 hg5 hgr5; have hcl := clear_u32 w5 g (j + rl.length) (m - rl.length) (c - rl.length) _ (by omega) hg5.out (hsz3 _ _ (ints_length _ _) rfl))
    go_ret
    obtain ⟨hf, hgr6⟩ := setCells_row g 105 (List.replicate (m - rl.length) (.int .u32 0)) (j + rl.length) _ w5 hg5.out (by rw [List.length_replicate]; exact hsz3 _ _ (ints_length _ _) rfl)
    refine ⟨grown_trans (grown_trans hgrow.out hgr5) hgr6, rfl, ?_⟩
    rw [HRI.out]
    refine ⟨?_, .inr ⟨g, cap, _, rfl, hle.2, hf, hc3, hc4, ?_, ?_⟩⟩
    · rw [ints_length]; simp; omega
    · simp [ints_length]; omega
    · rw [Nat.mul_one, List.length_replicate]
      have e := splice_id (R := ints .u32 rl) (U := ints .u32 us) (cur := cur) (j := j) (m := m) (Value.int .u32 0) (by rw [ints_length]; exact H5.out.symm) (by rw [ints_length]; exact hj) (by rw [ints_length]; omega)
      rw [ints_length, ints_length] at e
      rw [List.toList_toArray, e, ints_append, ints_append, ints_append, ints_take, ints_drop]
      congr 3
      simp [ints]
  · simp only [hcase, decide_false, if_false]
    have hcmp : cmpN W (V * x) = -1 := cmpN_lt (by omega)
    clear hcase
    go_enter Tryz.func192, Tryz.ntmps192
    go_wp2_with fail
    refine (scale_any V x v w hx hvw hl).mono ?_
    rintro e w1 ⟨hb1, p, rfl, hp⟩
    have hp2 := hp.is
    clear hp
    go_wp2_with fail
    refine (trim_any (some ⟨g, j, none⟩) c m l w1 hlW hc (by omega) ((hrd.below hb1).more hb1.size)).mono ?_
    rintro e w1' ⟨rfl, k, hT, rfl⟩
    have hk := hT.len hsW
    have ht := hT.eq hsW
    rw [HE.out] at hk ht
    have hO : IsN w1 w1.heap.size .u32 (.slice (some ⟨g, j, none⟩) k c) W :=
      ⟨_, c, by rw [← hk], by rw [← hk]; have := hT.1; omega, by rw [ht, ints_take]; exact ((hrd.below hb1).more hb1.size).take k⟩
    have hlk : (limbs W).length ≤ 1000000000000 := by have := hT.1; omega
    clear hk ht hT
    go_wp2_with fail
    refine (cmp_any W (V * x) _ _ w1 hO hp2 (by omega)).mono ?_
    rintro e w2 ⟨rfl, q, rfl⟩
    rw [hcmp]
    go_wp2
    go_ret
    refine ⟨grown_trans (grown_of_below hb1 _) (grown_drewN w1 q _), rfl, ?_⟩
    exact (HU.out.kept (grown_trans (grown_of_below hb1 none) (grown_drewN w1 q none)) (.inr (by simp [Value.ownBlock])))
end Go.Proofs.YtpkhgdnkkdhlcaaGreatDoor

