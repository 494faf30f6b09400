/-
  Walks: the reference's natural numbers: trim, NatOf, NatCmp.
-/
import Derived.Test.YtblopapobmbboaaDoorNatE
import Derived.Test.YtblopapobmbboaaDoorQdivM
namespace Go.Proofs.YtblopapobmbboaaDoor
open Go.RowKit Ar

set_option maxHeartbeats 400000 in
theorem qtrim_any (A : Option Addr) (c n : Nat) (l : List Nat) (w : World) (hn : l.length = n) (hc : n ≤ c) (hm : n ≤ 4000000000000) (h : Rd w w.heap.size A (ints .u64 l)) :
    Calls Tryd.prog 53 #[.slice A n c] w fun e w' => w = w' ∧ ∃ k, Trimmed l k ∧ e = .returned (.slice A k c) := by
  subst hn
  go_enter Tryd.func53, Tryd.ntmps53
  go_wp2
  go_loop [3] (fun n => ∃ k : Nat, k ≤ l.length ∧ n = .int .i64 k ∧ ∀ j, k ≤ j → j < l.length → l.getD j 0 = 0) (fun n => (intOf n).toNat)
  case atStart => exact ⟨l.length, Nat.le_refl _, rfl, fun j h1 h2 => by omega⟩
  case round =>
    obtain ⟨k, hk, rfl, hz⟩ := hrel
    rcases Nat.eq_zero_or_pos k with rfl | hk0
    · have HT : Trimmed l 0 := ⟨Nat.zero_le _, hz, .inl rfl⟩
      clear hz
      go_wp2
      go_ret
      exact ⟨rfl, 0, HT, rfl⟩
    · obtain ⟨j, rfl⟩ : ∃ j, k = j + 1 := ⟨k - 1, by omega⟩
      obtain ⟨ad, rfl, hb, hcell⟩ := h.int (j := j) (by omega)
      by_cases h0 : l.getD j 0 = 0
      · have HZ : Hid (∀ i, j ≤ i → i < l.length → l.getD i 0 = 0) := fun i h1 h2 => by
          by_cases e : i = j
          · subst e; exact h0
          · exact hz i (by omega) h2
        rw [h0] at hcell
        clear hz h0 hk0
        go_wp2
        go_round
        case rel => exact ⟨j, by omega, by go_num, HZ.out⟩
        case measure => simp [intOf]
      · have HT : Trimmed l (j + 1) := ⟨hk, hz, .inr (Nat.pos_of_ne_zero h0)⟩
        generalize l.getD j 0 = x at *
        clear hz
        go_wp2
        go_ret
        exact ⟨rfl, j + 1, HT, rfl⟩

theorem u64_info : (Tryd.prog.info? 88).map (fun i => (i.zero, i.size, i.bytes)) = some (some (.int .u64 0), 1, 8) := by kernel_rfl
theorem make_u64 (n : Nat) (x : Int) (hx : x = (n : Int)) (hn : n ≤ 4000000000000) (w : World) :
    (Instr.makeSlice 33 (.int .i64 x) (.int .i64 x)).run Tryd.prog w = .ok (.slice (some ⟨w.heap.size, 0, none⟩) n n) (w.alloc (.cells (ints .u64 (List.replicate n 0)).toArray 88)) := by
  obtain ⟨i0, hi0, hz0, hz1, hz2⟩ := info_parts u64_info
  exact make_ints _ _ i0 .u64 Tryd.underlying33 hi0 hz0 hz1 (by omega) _ _ n x hx hn w

set_option maxHeartbeats 400000 in
theorem natOf_any (n : Nat) (w : World) (hn : n ≤ 1000000000000000000) :
    Calls Tryd.prog 61 #[.int .u64 n] w fun e w' => Below w.heap.size w w' ∧ ∃ v, e = .returned v ∧ IsN w' w'.heap.size .u64 v n := by
  obtain ⟨i0, hi0, hz0, hz1, hz2⟩ := info_parts u64_info
  have hlen : (limbs n).length ≤ 3 := limbs_len_le (by rw [B_eq]; omega)
  go_enter Tryd.func61, Tryd.ntmps61
  go_wp2_with fail
  go_loopw [0, 3] (fun nv out wr => ∃ (r : Nat) (xs : List Nat), nv = .int .u64 r ∧ r ≤ n ∧ Hid (limbs n = xs ++ limbs r) ∧ xs.length ≤ 3 ∧ wr.ownsRow w.heap.size 88 1 out xs.length (ints .u64 xs) ∧ Below w.heap.size w wr) (fun nv _ _ => (intOf nv).toNat)
  case atStart => exact ⟨n, [], rfl, Nat.le_refl _, rfl, by simp, World.ownsRow_nil _ _ _ _, Below.refl _ _⟩
  case round =>
    obtain ⟨r, xs, rfl, hr, HX, hxs, hown, hbel⟩ := hrel
    rcases Nat.eq_zero_or_pos r with rfl | hr0
    · go_wp2
      go_ret
      refine ⟨hbel, _, rfl, ?_⟩
      have e : limbs n = xs := by rw [HX.out, limbs_zero, List.append_nil]
      rcases hown.2 with ⟨hv, hz⟩ | ⟨g, cap, cur, hv, _, _, hc, _⟩
      · have : xs = [] := List.eq_nil_of_length_eq_zero hz
        show IsN wr wr.heap.size .u64 u3 n
        rw [hv]
        exact ⟨none, 0, by rw [e, this]; rfl, by rw [e, this]; exact Nat.le_refl _, by rw [e, this]; exact Rd.nil⟩
      · show IsN wr wr.heap.size .u64 u3 n
        rw [hv] at hown ⊢
        exact ⟨_, cap, by rw [e], by rw [e]; exact hc, by rw [e]; exact Rd.of_own hown⟩
    · have hlx : xs.length + 1 ≤ 3 := by
        have := congrArg List.length HX.out
        rw [List.length_append] at this
        have := limbs_len_pos hr0
        omega
      go_wp2_with (at_builtin; refine wpL_append _ rfl (.tmp 6) (.tmp 9) _ rfl w.heap.size 88 i0 _ 1 8 Tryd.underlying33 hi0 hz0 hz1 hz2 rfl (by omega) _ xs.length (ints .u64 xs) rfl (hown.alloc _) (some ⟨wr.heap.size, 0, none⟩) 1 1 [.int .u64 ((r : Int) % 1000000000)] rfl rfl (Rd.of_new wr [.int .u64 ((r : Int) % 1000000000)] 88) (by intro u hu; simp at hu; subst hu; rfl) (by unfold maxLen; omega) (by omega) (by have := hbel.size; simp; omega) ?_; intro v1 w1 hown1 hg1 hat1)
      go_roundw
      case rel =>
        refine ⟨r / 1000000000, xs ++ [r % 1000000000], by simp, by omega, ?_, by simp; omega, ?_, ?_⟩
        · show limbs n = _
          rw [HX.out, limbs_pos hr0, B_eq]; simp
        · have e : ints .u64 (xs ++ [r % 1000000000]) = ints .u64 xs ++ [.int .u64 ((r : Int) % 1000000000)] := by simp [ints]
          rw [e]; simpa using hown1
        · exact below_app (hbel.alloc hbel.size _) hg1 (by have := hbel.size; simp; omega) (hown.alloc _) (Nat.le_refl _)
      case measure => simp [intOf]; omega

set_option maxHeartbeats 800000 in
theorem ncmp_any (a b : Nat) (v u : Value) (w : World) (h : IsN w w.heap.size .u64 v a) (h' : IsN w w.heap.size .u64 u b) (hl : (limbs a).length ≤ 2000000000000) :
    Calls Tryd.prog 66 #[v, u] w fun e w' => e = .returned (.int .i64 (cmpN a b)) ∧ ∃ n, w' = w.drewN n := by
  obtain ⟨A, c, rfl, h1, h3⟩ := h
  obtain ⟨A2, c2, rfl, k1, k3⟩ := h'
  rcases Nat.lt_trichotomy (limbs a).length (limbs b).length with hlt | heq | hgt
  · rw [cmpN_lt (lt_of_len hlt)]
    clear h1 k1 h3 k3
    generalize (limbs a).length = n at *
    generalize (limbs b).length = m at *
    go_enter Tryd.func66, Tryd.ntmps66
    go_wp2
    go_ret
    exact ⟨rfl, 0, rfl⟩
  · have hv := val_limbs a
    have hsm := Small.limbs a
    have kv := val_limbs b
    have ksm := Small.limbs b
    generalize limbs a = l at *
    generalize limbs b = m at *
    have HE := Lib.hid heq
    have hml : m.length ≤ l.length := by omega
    have hlm : l.length ≤ m.length := by omega
    rw [← heq]
    rw [← heq] at k1
    clear heq
    go_enter Tryd.func66, Tryd.ntmps66
    go_wp2
    go_loopw [5] (fun i wr => ∃ j q : Nat, j ≤ l.length ∧ i = .int .i64 ((j : Int) - 1) ∧ Hid (l.drop j = m.drop j) ∧ wr = w.drewN q) (fun i _ => (intOf i + 1).toNat)
    case atStart => exact ⟨l.length, 0, Nat.le_refl _, rfl, by show l.drop _ = m.drop _; rw [List.drop_of_length_le (Nat.le_refl _), List.drop_of_length_le hml], rfl⟩
    case round =>
      obtain ⟨j, q, hj, rfl, HD, rfl⟩ := hrel
      rcases Nat.eq_zero_or_pos j with rfl | hj0
      · rw [show (((0 : Nat) : Int) - 1) = -1 from rfl]
        have hab : a = b := by
          have := HD.out
          rw [List.drop_zero, List.drop_zero] at this
          rw [← hv, ← kv, this]
        have HL := Lib.hid hab
        clear hab
        go_wp2
        go_ret
        exact ⟨ret_int (cmpN_eq HL.out).symm, q, rfl⟩
      · obtain ⟨i, rfl⟩ : ∃ i, j = i + 1 := ⟨j - 1, by omega⟩
        rw [show (((i + 1 : Nat) : Int) - 1) = (i : Int) by omega]
        obtain ⟨ad, rfl, hb, hcell⟩ := h3.int (j := i) (by omega)
        obtain ⟨ad2, rfl, hb2, hcell2⟩ := k3.int (j := i) (by omega)
        have hi0 : (0 : Int) ≤ (i : Int) := by omega
        have hi1 : (i : Int) < (l.length : Int) := by omega
        rcases Nat.lt_trichotomy (l.getD i 0) (m.getD i 0) with hx | hx | hx
        · have HL : Hid (a < b) := by show a < b; rw [← hv, ← kv]; exact lt_of_top hsm HE.out (by omega) HD.out hx
          generalize l.getD i 0 = x at *
          generalize m.getD i 0 = y at *
          clear hj0
          go_wp2
          go_quiet (fail)
          go_wp2
          go_ret
          exact ⟨ret_int (cmpN_lt HL.out).symm, by simp only [World.drewN_drewN]; exact ⟨_, rfl⟩⟩
        · have HN : Hid (l.drop i = m.drop i) := by
            show l.drop i = m.drop i
            rw [List.drop_eq_getElem_cons (by omega : i < l.length), List.drop_eq_getElem_cons (by omega : i < m.length), HD.out]
            congr 1
            rw [List.getD_eq_getElem?_getD, List.getElem?_eq_getElem (by omega : i < l.length), List.getD_eq_getElem?_getD, List.getElem?_eq_getElem (by omega : i < m.length)] at hx
            exact hx
          rw [← hx] at hcell2
          generalize l.getD i 0 = x at *
          clear hx hj0
          go_wp2
          go_quiet (fail)
          go_wp2
          go_quiet (fail)
          go_wp2
          go_roundw
          case rel => exact ⟨i, _, by omega, by go_num, HN, rfl⟩
          case measure => simp [intOf]
        · have HL : Hid (b < a) := by show b < a; rw [← hv, ← kv]; exact lt_of_top ksm HE.out.symm (by omega) HD.out.symm hx
          generalize l.getD i 0 = x at *
          generalize m.getD i 0 = y at *
          clear hj0
          go_wp2
          go_quiet (fail)
          go_wp2
          go_quiet (fail)
          go_wp2
          go_ret
          exact ⟨ret_int (cmpN_gt HL.out).symm, by simp only [World.drewN_drewN]; exact ⟨_, rfl⟩⟩
  · rw [cmpN_gt (lt_of_len hgt)]
    clear h1 k1 h3 k3
    generalize (limbs a).length = n at *
    generalize (limbs b).length = m at *
    go_enter Tryd.func66, Tryd.ntmps66
    go_wp2
    go_ret
    exact ⟨rfl, 0, rfl⟩
end Go.Proofs.YtblopapobmbboaaDoor
