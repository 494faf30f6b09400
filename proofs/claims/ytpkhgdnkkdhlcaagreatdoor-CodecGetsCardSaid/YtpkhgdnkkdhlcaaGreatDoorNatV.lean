/-
  Walks: package ratio's natural numbers: slices.Clone, Small, Sub.
  Walks: package ratio's natural numbers: Small, Mul, Cmp.
-/
import Derived.Test.YtpkhgdnkkdhlcaaGreatDoorNatB
namespace Go.Proofs.YtpkhgdnkkdhlcaaGreatDoor
open Go.RowKit Ar

set_option maxHeartbeats 400000 in
theorem clone_any (A : Option Addr) (n c : Nat) (l : List Nat) (w : World) (hn : l.length = n) (hm : n ≤ 4000000000000) (h : Rd w w.heap.size A (ints .u32 l)) :
    Calls Tryz.prog 194 #[.slice A n c] w fun e w' => Below w.heap.size w w' ∧ ∃ v, e = .returned v ∧ w'.ownsRow w.heap.size 105 1 v n (ints .u32 l) := by
  obtain ⟨i0, hi0, hz0, hz1, hz2⟩ := info_parts u32_info
  have hnil := fun W => Lib.run_eql_slice_nil (P := Tryz.prog) W 100 105 A n c 0 0 Tryz.underlying100
  rcases A with _ | ad
  · have hl : l = [] := by
      rcases Classical.em (l = []) with h0 | h0
      · exact h0
      · obtain ⟨_, h2, _⟩ := h (by simpa [ints] using h0)
        cases h2
    subst hl
    obtain rfl : n = 0 := by simpa using hn.symm
    go_enter Tryz.func194, Tryz.ntmps194
    go_wp2
    go_ret
    exact ⟨Below.refl _ _, _, rfl, World.ownsRow_nil _ _ _ _⟩
  · have hle : l.length = n := hn
    have HN := Lib.hid hn
    clear hn
    go_enter Tryz.func194, Tryz.ntmps194
    go_wp2_with (at_builtin; refine wpL_append _ rfl (.tmp 5) (.tmp 6) _ rfl w.heap.size 105 i0 _ 1 4 Tryz.underlying100 hi0 hz0 hz1 hz2 rfl (by omega) _ 0 [] rfl (World.ownsRow_made _ _ 0 (Nat.le_refl _) (by unfold maxLen; omega) rfl) (some ad) n c (ints .u32 l) rfl (by rw [ints_length, Nat.mul_one]; exact HN.out) (h.alloc (Nat.le_refl _) _) (ints_one _ _) (by unfold maxLen; omega) (by omega) (by simp) ?_; intro v1 w1 hown1 hg1 hat1)
    go_ret
    refine ⟨below_app ((Below.refl _ _).alloc (Nat.le_refl _) _) hg1 (by simp) (World.ownsRow_made (base := w.heap.size) (e := 105) (size := 1) w #[] 0 (Nat.le_refl _) (by unfold maxLen; omega) rfl) (Nat.le_refl _), v1, rfl, ?_⟩
    simpa using hown1

theorem own_form {w : World} {base n : Nat} {T : TypeId} {v : Value} {xs : List Value} (h : w.ownsRow base T 1 v n xs) (hn : 0 < n) : ∃ g cap, v = .slice (some ⟨g, 0, none⟩) n cap ∧ base ≤ g ∧ n ≤ cap ∧ cap ≤ maxLen := by
  rcases h.2 with ⟨_, hz⟩ | ⟨g, cap, cur, hv, hb, _, hc, hm, _⟩
  · omega
  · exact ⟨g, cap, hv, hb, hc, hm⟩
theorem sub_end {Z b A c n : Nat} (h : Z + b = A + c * B ^ n) (hz : Z < B ^ n) (hab : b ≤ A) (hc : c ≤ 1) : Z = A - b := by
  rcases Nat.eq_zero_or_pos c with rfl | h0
  · omega
  · obtain rfl : c = 1 := by omega
    omega
theorem sub_digit {x y c : Nat} (hx : x < B) (hy : y < B) (hc : c ≤ 1) : (x < y + c → (x + B - y - c) + y + c = x + 1 * B ∧ x + B - y - c < B) ∧ (¬ x < y + c → (x - y - c) + y + c = x + 0 * B ∧ x - y - c < B) := by
  constructor <;> intro h <;> omega

set_option maxHeartbeats 1000000 in
theorem sub_any (a b : Nat) (v u : Value) (w : World) (h : IsN w w.heap.size .u32 v a) (h' : IsN w w.heap.size .u32 u b) (hab : b ≤ a) (hl : (limbs a).length ≤ 1000000000000) :
    Calls Tryz.prog 144 #[v, u] w fun e w' => Below w.heap.size w w' ∧ ∃ v, e = .returned v ∧ IsN w' w'.heap.size .u32 v (a - b) := by
  obtain ⟨A, c, rfl, h1, h3⟩ := h
  obtain ⟨A2, c2, rfl, k1, k3⟩ := h'
  have hlen := len_mono hab
  have hv := val_limbs a
  have hsm := Small.limbs a
  have kv := val_limbs b
  have ksm := Small.limbs b
  generalize limbs a = l at *
  generalize limbs b = m at *
  rcases Nat.eq_zero_or_pos l.length with h0 | h0
  · have hz : a - b = 0 := by
      have : a = 0 := by rw [← hv, List.eq_nil_of_length_eq_zero h0]; rfl
      omega
    have hnil : Hid (l = []) := List.eq_nil_of_length_eq_zero h0
    rw [hz, h0]
    clear hz
    go_enter Tryz.func144, Tryz.ntmps144
    go_wp2_with fail
    refine (clone_any A 0 c [] w rfl (by omega) Rd.nil).mono ?_
    rintro e w1 ⟨hb1, o, rfl, hown⟩
    obtain ⟨A', cap, rfl⟩ : ∃ A' cap, o = .slice A' 0 cap := by
      rcases hown.2 with ⟨rfl, _⟩ | ⟨g, cap, cur, rfl, _⟩
      · exact ⟨none, 0, rfl⟩
      · exact ⟨_, cap, rfl⟩
    clear hown
    go_wp2
    refine wp_loop_rounds 1 ?_
    rw [rounds_succ]
    go_wp2_with fail
    refine (trim_any _ _ 0 [] _ rfl (Nat.zero_le _) (by omega) Rd.nil).mono ?_
    rintro e w2 ⟨rfl, k, hT, rfl⟩
    obtain rfl : k = 0 := by have := hT.1; simpa using this
    go_wp2
    go_ret
    exact ⟨hb1, _, rfl, A', cap, by rw [limbs_zero]; rfl, by rw [limbs_zero]; exact Nat.zero_le _, by rw [limbs_zero]; exact Rd.nil⟩
  · go_enter Tryz.func144, Tryz.ntmps144
    go_wp2_with fail
    refine (clone_any A l.length c l w rfl (by omega) h3).mono ?_
    rintro e w1 ⟨hb1, o, rfl, hown⟩
    obtain ⟨g, cap, rfl, hg, hcap, hcm⟩ := own_form hown h0
    go_wp2_with fail
    go_loopw [6, 13] (fun bor i wr => ∃ (j c : Nat) (zs : List Nat), j ≤ l.length ∧ i = .int .i64 j ∧ bor = .int .i64 c ∧ c ≤ 1 ∧ zs.length = l.length ∧ Small zs ∧ val (zs.take j) + val (m.take j) = val (l.take j) + c * B ^ j ∧ zs.drop j = l.drop j ∧
        wr.ownsRow w.heap.size 105 1 (.slice (some ⟨g, 0, none⟩) l.length cap) l.length (ints .u32 zs) ∧ Below w.heap.size w wr) (fun _ i _ => l.length - (intOf i).toNat)
    case atStart => exact ⟨0, 0, l, Nat.zero_le _, rfl, rfl, by omega, rfl, hsm, by simp [val], rfl, hown, hb1⟩
    case round =>
      obtain ⟨j, c', zs, hj, rfl, rfl, hc', hz, hzs, hval, hdrop, hown2, hbel⟩ := hrel
      have HV := Lib.hid hval
      have HD := Lib.hid hdrop
      by_cases hlt : j < l.length
      · have hcell := hown2.cellAt j (by omega)
        have hfr := hown2.frozenAt j
        have hzj : (ints .u32 zs)[j]? = some (.int .u32 ((l.getD j 0 : Nat) : Int)) := by
          have h5 : zs[j]? = l[j]? := by
            have := congrArg (fun x => x[0]?) hdrop
            simpa [List.getElem?_drop] using this
          simp [ints, h5, List.getElem?_eq_getElem hlt, List.getD_eq_getElem?_getD]
        rw [hzj] at hcell
        have hx : l.getD j 0 < 1000000000 := hsm.getD j
        have hy : m.getD j 0 < 1000000000 := ksm.getD j
        have HX := Lib.hid (val_take_ge l j)
        have HY := Lib.hid (val_take_ge m j)
        have HYc : Hid (j < m.length → ∃ ad2, A2 = some ad2 ∧ ad2.block < w.heap.size ∧ wr.cell? (ad2.add j) = some (.int .u32 ((m.getD j 0 : Nat) : Int))) := fun h => (k3.below hbel).int h
        have HY0 : Hid (¬ j < m.length → m.getD j 0 = 0) := fun h => by rw [List.getD_eq_getElem?_getD, List.getElem?_eq_none (by omega)]; rfl
        have hdig := sub_digit (x := l.getD j 0) (y := m.getD j 0) (c := c') hx hy hc'
        -- what a digit d and a borrow b' make of the row
        have fin : ∀ d b' : Nat, d < B → b' ≤ 1 → d + m.getD j 0 + c' = l.getD j 0 + b' * B → ∀ u : Int, u = (d : Int) →
            ∃ (zs' : List Nat), zs'.length = l.length ∧ Small zs' ∧ val (zs'.take (j + 1)) + val (m.take (j + 1)) = val (l.take (j + 1)) + b' * B ^ (j + 1) ∧ zs'.drop (j + 1) = l.drop (j + 1) ∧
              (wr.setCell ⟨g, j, none⟩ (.int .u32 u)).ownsRow w.heap.size 105 1 (.slice (some ⟨g, 0, none⟩) l.length cap) l.length (ints .u32 zs') ∧ Below w.heap.size w (wr.setCell ⟨g, j, none⟩ (.int .u32 u)) := by
          rintro d b' hd hb' e u rfl
          refine ⟨zs.set j d, by simpa using hz, hzs.set hd, ?_, ?_, ?_, hbel.setCell hg _⟩
          · rw [take_set_eq zs j _ (by omega), val_snoc, List.length_take, Nat.min_eq_left (by omega), Nat.pow_succ, HX.out, HY.out]
            exact sub_step HV.out e
          · rw [drop_set_gt zs (by omega)]
            have := congrArg (List.drop 1) HD.out
            simpa [List.drop_drop] using this
          · have := (hown2.stored j (.int .u32 (d : Int))).1
            rw [show (ints .u32 zs).set j (.int .u32 (d : Int)) = ints .u32 (zs.set j d) by simp [ints, List.map_set]] at this
            exact this
        have FIN := Lib.hid fin
        have HDIG := Lib.hid hdig
        generalize l.getD j 0 = x at *
        clear fin hdig hval hdrop hzj
        by_cases hltb : j < m.length
        · obtain ⟨ad2, rfl, hb2, hcell3⟩ := HYc.out hltb
          generalize m.getD j 0 = y at *
          by_cases hneg : x < y + c'
          · clear HYc HY0
            go_wp2
            go_roundw
            case rel =>
              obtain ⟨e1, e2⟩ := HDIG.out.1 hneg
              obtain ⟨zs', f1, f2, f3, f4, f5, f6⟩ := FIN.out _ 1 e2 (Nat.le_refl _) e1 ((x : Int) - (c' : Int) - (y : Int) + 1000000000) (by rw [B_eq]; omega)
              exact ⟨j + 1, 1, zs', by omega, by go_num, rfl, Nat.le_refl _, f1, f2, f3, f4, f5, f6⟩
            case measure => simp [intOf]; omega
          · clear HYc HY0
            go_wp2
            go_roundw
            case rel =>
              obtain ⟨e1, e2⟩ := HDIG.out.2 hneg
              obtain ⟨zs', f1, f2, f3, f4, f5, f6⟩ := FIN.out _ 0 e2 (Nat.zero_le _) e1 ((x : Int) - (c' : Int) - (y : Int)) (by omega)
              exact ⟨j + 1, 0, zs', by omega, by go_num, rfl, Nat.zero_le _, f1, f2, f3, f4, f5, f6⟩
            case measure => simp [intOf]; omega
        · have h00 := HY0.out hltb
          rw [h00] at FIN HDIG HY hy
          by_cases hneg : x < 0 + c'
          · clear HYc HY0 h00
            go_wp2
            go_roundw
            case rel =>
              obtain ⟨e1, e2⟩ := HDIG.out.1 hneg
              obtain ⟨zs', f1, f2, f3, f4, f5, f6⟩ := FIN.out _ 1 e2 (Nat.le_refl _) e1 ((x : Int) - (c' : Int) + 1000000000) (by rw [B_eq]; omega)
              exact ⟨j + 1, 1, zs', by omega, by go_num, rfl, Nat.le_refl _, f1, f2, f3, f4, f5, f6⟩
            case measure => simp [intOf]; omega
          · clear HYc HY0 h00
            go_wp2
            go_roundw
            case rel =>
              obtain ⟨e1, e2⟩ := HDIG.out.2 hneg
              obtain ⟨zs', f1, f2, f3, f4, f5, f6⟩ := FIN.out _ 0 e2 (Nat.zero_le _) e1 ((x : Int) - (c' : Int)) (by omega)
              exact ⟨j + 1, 0, zs', by omega, by go_num, rfl, Nat.zero_le _, f1, f2, f3, f4, f5, f6⟩
            case measure => simp [intOf]; omega
      · obtain rfl : j = l.length := by omega
        have hZ : val zs = a - b := by
          have := HV.out
          rw [val_take_all l (Nat.le_refl _), val_take_all zs (by omega), val_take_all m hlen, hv, kv] at this
          exact sub_end this (by have := val_lt hzs; rwa [hz] at this) hab hc'
        have hrd := Rd.of_own hown2
        clear hval hdrop
        go_wp2_with fail
        refine (trim_any _ _ l.length zs _ hz (by omega) (by omega) hrd).mono ?_
        rintro e w2 ⟨rfl, k, hT, rfl⟩
        have hk := hT.len hzs
        have ht := hT.eq hzs
        rw [hZ] at hk ht
        have HO : IsN wr wr.heap.size .u32 (.slice (some ⟨g, 0, none⟩) k cap) (a - b) :=
          ⟨_, cap, by rw [← hk], by rw [← hk]; have := hT.1; omega, by rw [ht, ints_take]; exact hrd.take k⟩
        clear hk ht hZ hT
        go_wp2
        go_ret
        exact ⟨hbel, _, rfl, HO⟩
end Go.Proofs.YtpkhgdnkkdhlcaaGreatDoor

namespace Go.Proofs.YtpkhgdnkkdhlcaaGreatDoor
open Go.RowKit Ar

set_option maxHeartbeats 400000 in
theorem small_any (n : Nat) (w : World) (hn : n ≤ 1000000000000000000) :
    Calls Tryz.prog 190 #[.int .u64 n] w fun e w' => Below w.heap.size w w' ∧ ∃ v, e = .returned v ∧ IsN w' w'.heap.size .u32 v n := by
  obtain ⟨i0, hi0, hz0, hz1, hz2⟩ := info_parts u32_info
  have hlen : (limbs n).length ≤ 3 := limbs_len_le (by rw [B_eq]; omega)
  go_enter Tryz.func190, Tryz.ntmps190
  go_wp2_with fail
  go_loopw [0, 3] (fun nv out wr => ∃ (r : Nat) (xs : List Nat), nv = .int .u64 r ∧ r ≤ n ∧ Hid (limbs n = xs ++ limbs r) ∧ xs.length ≤ 3 ∧ wr.ownsRow w.heap.size 105 1 out xs.length (ints .u32 xs) ∧ Below w.heap.size w wr) (fun nv _ _ => (intOf nv).toNat)
  case atStart => exact ⟨n, [], rfl, Nat.le_refl _, rfl, by simp, World.ownsRow_nil _ _ _ _, Below.refl _ _⟩
  case round =>
    obtain ⟨r, xs, rfl, hr, HX, hxs, hown, hbel⟩ := hrel
    rcases Nat.eq_zero_or_pos r with rfl | hr0
    · go_wp2
      go_ret
      refine ⟨hbel, _, rfl, ?_⟩
      have e : limbs n = xs := by rw [HX.out, limbs_zero, List.append_nil]
      rcases hown.2 with ⟨hv, hz⟩ | ⟨g, cap, cur, hv, _, _, hc, _⟩
      · have : xs = [] := List.eq_nil_of_length_eq_zero hz
        show IsN wr wr.heap.size .u32 u3 n
        rw [hv]
        exact ⟨none, 0, by rw [e, this]; rfl, by rw [e, this]; exact Nat.le_refl _, by rw [e, this]; exact Rd.nil⟩
      · show IsN wr wr.heap.size .u32 u3 n
        rw [hv] at hown ⊢
        exact ⟨_, cap, by rw [e], by rw [e]; exact hc, by rw [e]; exact Rd.of_own hown⟩
    · have hlx : xs.length + 1 ≤ 3 := by
        have := congrArg List.length HX.out
        rw [List.length_append] at this
        have := limbs_len_pos hr0
        omega
      go_wp2_with (at_builtin; refine wpL_append _ rfl (.tmp 8) (.tmp 12) _ rfl w.heap.size 105 i0 _ 1 4 Tryz.underlying100 hi0 hz0 hz1 hz2 rfl (by omega) _ xs.length (ints .u32 xs) rfl (hown.alloc _) (some ⟨wr.heap.size, 0, none⟩) 1 1 [.int .u32 ((r : Int) % 1000000000)] rfl rfl (Rd.of_new wr [.int .u32 ((r : Int) % 1000000000)] 105) (by intro u hu; simp at hu; subst hu; rfl) (by unfold maxLen; omega) (by omega) (by have := hbel.size; simp; omega) ?_; intro v1 w1 hown1 hg1 hat1)
      go_roundw
      case rel =>
        refine ⟨r / 1000000000, xs ++ [r % 1000000000], by simp, by omega, ?_, by simp; omega, ?_, ?_⟩
        · show limbs n = _
          rw [HX.out, limbs_pos hr0, B_eq]; simp
        · have e : ints .u32 (xs ++ [r % 1000000000]) = ints .u32 xs ++ [.int .u32 ((r : Int) % 1000000000)] := by simp [ints]
          rw [e]; simpa using hown1
        · exact below_app (hbel.alloc hbel.size _) hg1 (by have := hbel.size; simp; omega) (hown.alloc _) (Nat.le_refl _)
      case measure => simp [intOf]; omega

def cmpN (a b : Nat) : Int := if a < b then -1 else if b < a then 1 else 0
theorem cmpN_lt {a b : Nat} (h : a < b) : cmpN a b = -1 := by unfold cmpN; rw [if_pos h]
theorem cmpN_gt {a b : Nat} (h : b < a) : cmpN a b = 1 := by unfold cmpN; rw [if_neg (by omega), if_pos h]
theorem cmpN_eq {a b : Nat} (h : a = b) : cmpN a b = 0 := by unfold cmpN; rw [if_neg (by omega), if_neg (by omega)]

set_option maxHeartbeats 800000 in
theorem cmp_any (a b : Nat) (v u : Value) (w : World) (h : IsN w w.heap.size .u32 v a) (h' : IsN w w.heap.size .u32 u b) (hl : (limbs a).length ≤ 2000000000000) :
    Calls Tryz.prog 143 #[v, u] w fun e w' => e = .returned (.int .i64 (cmpN a b)) ∧ ∃ n, w' = w.drewN n := by
  obtain ⟨A, c, rfl, h1, h3⟩ := h
  obtain ⟨A2, c2, rfl, k1, k3⟩ := h'
  rcases Nat.lt_trichotomy (limbs a).length (limbs b).length with hlt | heq | hgt
  · rw [cmpN_lt (lt_of_len hlt)]
    clear h1 k1 h3 k3
    generalize (limbs a).length = n at *
    generalize (limbs b).length = m at *
    go_enter Tryz.func143, Tryz.ntmps143
    go_wp2
    go_ret
    exact ⟨rfl, 0, rfl⟩
  · have hv := val_limbs a
    have hsm := Small.limbs a
    have kv := val_limbs b
    have ksm := Small.limbs b
    generalize limbs a = l at *
    generalize limbs b = m at *
    have HE := Lib.hid heq
    have hml : m.length ≤ l.length := by omega
    have hlm : l.length ≤ m.length := by omega
    rw [← heq]
    rw [← heq] at k1
    clear heq
    go_enter Tryz.func143, Tryz.ntmps143
    go_wp2
    go_loopw [5] (fun i wr => ∃ j q : Nat, j ≤ l.length ∧ i = .int .i64 ((j : Int) - 1) ∧ Hid (l.drop j = m.drop j) ∧ wr = w.drewN q) (fun i _ => (intOf i + 1).toNat)
    case atStart => exact ⟨l.length, 0, Nat.le_refl _, rfl, by show l.drop _ = m.drop _; rw [List.drop_of_length_le (Nat.le_refl _), List.drop_of_length_le hml], rfl⟩
    case round =>
      obtain ⟨j, q, hj, rfl, HD, rfl⟩ := hrel
      rcases Nat.eq_zero_or_pos j with rfl | hj0
      · rw [show (((0 : Nat) : Int) - 1) = -1 from rfl]
        have hab : a = b := by
          have := HD.out
          rw [List.drop_zero, List.drop_zero] at this
          rw [← hv, ← kv, this]
        have HL := Lib.hid hab
        clear hab
        go_wp2
        go_ret
        exact ⟨ret_int (cmpN_eq HL.out).symm, q, rfl⟩
      · obtain ⟨i, rfl⟩ : ∃ i, j = i + 1 := ⟨j - 1, by omega⟩
        rw [show (((i + 1 : Nat) : Int) - 1) = (i : Int) by omega]
        obtain ⟨ad, rfl, hb, hcell⟩ := h3.int (j := i) (by omega)
        obtain ⟨ad2, rfl, hb2, hcell2⟩ := k3.int (j := i) (by omega)
        have hi0 : (0 : Int) ≤ (i : Int) := by omega
        have hi1 : (i : Int) < (l.length : Int) := by omega
        rcases Nat.lt_trichotomy (l.getD i 0) (m.getD i 0) with hx | hx | hx
        · have HL : Hid (a < b) := by show a < b; rw [← hv, ← kv]; exact lt_of_top hsm HE.out (by omega) HD.out hx
          generalize l.getD i 0 = x at *
          generalize m.getD i 0 = y at *
          clear hj0
          go_wp2
          go_quiet (fail)
          go_wp2
          go_ret
          exact ⟨ret_int (cmpN_lt HL.out).symm, by simp only [World.drewN_drewN]; exact ⟨_, rfl⟩⟩
        · have HN : Hid (l.drop i = m.drop i) := by
            show l.drop i = m.drop i
            rw [List.drop_eq_getElem_cons (by omega : i < l.length), List.drop_eq_getElem_cons (by omega : i < m.length), HD.out]
            congr 1
            rw [List.getD_eq_getElem?_getD, List.getElem?_eq_getElem (by omega : i < l.length), List.getD_eq_getElem?_getD, List.getElem?_eq_getElem (by omega : i < m.length)] at hx
            exact hx
          rw [← hx] at hcell2
          generalize l.getD i 0 = x at *
          clear hx hj0
          go_wp2
          go_quiet (fail)
          go_wp2
          go_quiet (fail)
          go_wp2
          go_roundw
          case rel => exact ⟨i, _, by omega, by go_num, HN, rfl⟩
          case measure => simp [intOf]
        · have HL : Hid (b < a) := by show b < a; rw [← hv, ← kv]; exact lt_of_top ksm HE.out.symm (by omega) HD.out.symm hx
          generalize l.getD i 0 = x at *
          generalize m.getD i 0 = y at *
          clear hj0
          go_wp2
          go_quiet (fail)
          go_wp2
          go_quiet (fail)
          go_wp2
          go_ret
          exact ⟨ret_int (cmpN_gt HL.out).symm, by simp only [World.drewN_drewN]; exact ⟨_, rfl⟩⟩
  · rw [cmpN_gt (lt_of_len hgt)]
    clear h1 k1 h3 k3
    generalize (limbs a).length = n at *
    generalize (limbs b).length = m at *
    go_enter Tryz.func143, Tryz.ntmps143
    go_wp2
    go_ret
    exact ⟨rfl, 0, rfl⟩
end Go.Proofs.YtpkhgdnkkdhlcaaGreatDoor

