/-
  Walks: the reference's natural numbers: trim, NatOf, NatCmp.
  Walks: the reference's natural numbers: NatAdd, NatSub.
  Walks: the reference's natural numbers: NatSub.
  Walks: the reference's natural numbers: NatMul, small.
  Walks: the reference's natural numbers: small; NatDiv where the divisor has one limb, or is greater.
  Walks: the reference's natural numbers: NatDiv.
-/
import Derived.Test.YtpkhgdnkkdhlcaaGreatDoorNaX
import Derived.Test.YtpkhgdnkkdhlcaaGreatDoorNumX
import Derived.Outline
import Derived.Deep.CutRange
import Derived.Test.YtpkhgdnkkdhlcaaGreatDoorFrX
namespace Go.Proofs.YtpkhgdnkkdhlcaaGreatDoor
open Go.RowKit Ar

set_option maxHeartbeats 400000 in
theorem qtrim_any (A : Option Addr) (c n : Nat) (l : List Nat) (w : World) (hn : l.length = n) (hc : n ≤ c) (hm : n ≤ 4000000000000) (h : Rd w w.heap.size A (ints .u64 l)) :
    Calls Tryz.prog 148 #[.slice A n c] w fun e w' => w = w' ∧ ∃ k, Trimmed l k ∧ e = .returned (.slice A k c) := by
  subst hn
  go_enter Tryz.func148, Tryz.ntmps148
  go_wp2
  go_loop [3] (fun n => ∃ k : Nat, k ≤ l.length ∧ n = .int .i64 k ∧ ∀ j, k ≤ j → j < l.length → l.getD j 0 = 0) (fun n => (intOf n).toNat)
  case atStart => exact ⟨l.length, Nat.le_refl _, rfl, fun j h1 h2 => by omega⟩
  case round =>
    obtain ⟨k, hk, rfl, hz⟩ := hrel
    rcases Nat.eq_zero_or_pos k with rfl | hk0
    · have HT : Trimmed l 0 := ⟨Nat.zero_le _, hz, .inl rfl⟩
      clear hz
      go_wp2
      go_ret
      exact ⟨rfl, 0, HT, rfl⟩
    · obtain ⟨j, rfl⟩ : ∃ j, k = j + 1 := ⟨k - 1, by omega⟩
      obtain ⟨ad, rfl, hb, hcell⟩ := h.int (j := j) (by omega)
      by_cases h0 : l.getD j 0 = 0
      · have HZ : Hid (∀ i, j ≤ i → i < l.length → l.getD i 0 = 0) := fun i h1 h2 => by
          by_cases e : i = j
          · subst e; exact h0
          · exact hz i (by omega) h2
        rw [h0] at hcell
        clear hz h0 hk0
        go_wp2
        go_round
        case rel => exact ⟨j, by omega, by go_num, HZ.out⟩
        case measure => simp [intOf]
      · have HT : Trimmed l (j + 1) := ⟨hk, hz, .inr (Nat.pos_of_ne_zero h0)⟩
        generalize l.getD j 0 = x at *
        clear hz
        go_wp2
        go_ret
        exact ⟨rfl, j + 1, HT, rfl⟩

theorem u64_info : (Tryz.prog.info? 67).map (fun i => (i.zero, i.size, i.bytes)) = some (some (.int .u64 0), 1, 8) := by kernel_rfl
theorem make_u64 (n : Nat) (x : Int) (hx : x = (n : Int)) (hn : n ≤ 4000000000000) (w : World) :
    (Instr.makeSlice 72 (.int .i64 x) (.int .i64 x)).run Tryz.prog w = .ok (.slice (some ⟨w.heap.size, 0, none⟩) n n) (w.alloc (.cells (ints .u64 (List.replicate n 0)).toArray 67)) := by
  obtain ⟨i0, hi0, hz0, hz1, hz2⟩ := info_parts u64_info
  exact make_ints _ _ i0 .u64 Tryz.underlying72 hi0 hz0 hz1 (by omega) _ _ n x hx hn w

set_option maxHeartbeats 400000 in
theorem natOf_any (n : Nat) (w : World) (hn : n ≤ 9223372036854775808) :
    Calls Tryz.prog 94 #[.int .u64 n] w fun e w' => Below w.heap.size w w' ∧ ∃ v, e = .returned v ∧ IsN w' w'.heap.size .u64 v n := by
  obtain ⟨i0, hi0, hz0, hz1, hz2⟩ := info_parts u64_info
  have hlen : (limbs n).length ≤ 3 := limbs_len_le (by rw [B_eq]; omega)
  go_enter Tryz.func94, Tryz.ntmps94
  go_wp2_with fail
  go_loopw [0, 3] (fun nv out wr => ∃ (r : Nat) (xs : List Nat), nv = .int .u64 r ∧ r ≤ n ∧ Hid (limbs n = xs ++ limbs r) ∧ xs.length ≤ 3 ∧ wr.ownsRow w.heap.size 67 1 out xs.length (ints .u64 xs) ∧ Below w.heap.size w wr) (fun nv _ _ => (intOf nv).toNat)
  case atStart => exact ⟨n, [], rfl, Nat.le_refl _, rfl, by simp, World.ownsRow_nil _ _ _ _, Below.refl _ _⟩
  case round =>
    obtain ⟨r, xs, rfl, hr, HX, hxs, hown, hbel⟩ := hrel
    rcases Nat.eq_zero_or_pos r with rfl | hr0
    · go_wp2
      go_ret
      refine ⟨hbel, _, rfl, ?_⟩
      have e : limbs n = xs := by rw [HX.out, limbs_zero, List.append_nil]
      rcases hown.2 with ⟨hv, hz⟩ | ⟨g, cap, cur, hv, _, _, hc, _⟩
      · have : xs = [] := List.eq_nil_of_length_eq_zero hz
        show IsN wr wr.heap.size .u64 u3 n
        rw [hv]
        exact ⟨none, 0, by rw [e, this]; rfl, by rw [e, this]; exact Nat.le_refl _, by rw [e, this]; exact Rd.nil⟩
      · show IsN wr wr.heap.size .u64 u3 n
        rw [hv] at hown ⊢
        exact ⟨_, cap, by rw [e], by rw [e]; exact hc, by rw [e]; exact Rd.of_own hown⟩
    · have hlx : xs.length + 1 ≤ 3 := by
        have := congrArg List.length HX.out
        rw [List.length_append] at this
        have := limbs_len_pos hr0
        omega
      go_wp2_with (at_builtin; refine wpL_append _ rfl (.tmp 6) (.tmp 9) _ rfl w.heap.size 67 i0 _ 1 8 Tryz.underlying72 hi0 hz0 hz1 hz2 rfl (by omega) _ xs.length (ints .u64 xs) rfl (hown.alloc _) (some ⟨wr.heap.size, 0, none⟩) 1 1 [.int .u64 ((r : Int) % 1000000000)] rfl rfl (Rd.of_new wr [.int .u64 ((r : Int) % 1000000000)] 67) (by intro u hu; simp at hu; subst hu; rfl) (by unfold maxLen; omega) (by omega) (by have := hbel.size; simp; omega) ?_; intro v1 w1 hown1 hg1 hat1)
      go_roundw
      case rel =>
        refine ⟨r / 1000000000, xs ++ [r % 1000000000], by simp, by omega, ?_, by simp; omega, ?_, ?_⟩
        · show limbs n = _
          rw [HX.out, limbs_pos hr0, B_eq]; simp
        · have e : ints .u64 (xs ++ [r % 1000000000]) = ints .u64 xs ++ [.int .u64 ((r : Int) % 1000000000)] := by simp [ints]
          rw [e]; simpa using hown1
        · exact below_app (hbel.alloc hbel.size _) hg1 (by have := hbel.size; simp; omega) (hown.alloc _) (Nat.le_refl _)
      case measure => simp [intOf]; omega

set_option maxHeartbeats 800000 in
theorem ncmp_any (a b : Nat) (v u : Value) (w : World) (h : IsN w w.heap.size .u64 v a) (h' : IsN w w.heap.size .u64 u b) (hl : (limbs a).length ≤ 2000000000000) :
    Calls Tryz.prog 101 #[v, u] w fun e w' => e = .returned (.int .i64 (cmpN a b)) ∧ ∃ n, w' = w.drewN n := by
  obtain ⟨A, c, rfl, h1, h3⟩ := h
  obtain ⟨A2, c2, rfl, k1, k3⟩ := h'
  rcases Nat.lt_trichotomy (limbs a).length (limbs b).length with hlt | heq | hgt
  · rw [cmpN_lt (lt_of_len hlt)]
    clear h1 k1 h3 k3
    generalize (limbs a).length = n at *
    generalize (limbs b).length = m at *
    go_enter Tryz.func101, Tryz.ntmps101
    go_wp2
    go_ret
    exact ⟨rfl, 0, rfl⟩
  · have hv := val_limbs a
    have hsm := Small.limbs a
    have kv := val_limbs b
    have ksm := Small.limbs b
    generalize limbs a = l at *
    generalize limbs b = m at *
    have HE := Lib.hid heq
    have hml : m.length ≤ l.length := by omega
    have hlm : l.length ≤ m.length := by omega
    rw [← heq]
    rw [← heq] at k1
    clear heq
    go_enter Tryz.func101, Tryz.ntmps101
    go_wp2
    go_loopw [5] (fun i wr => ∃ j q : Nat, j ≤ l.length ∧ i = .int .i64 ((j : Int) - 1) ∧ Hid (l.drop j = m.drop j) ∧ wr = w.drewN q) (fun i _ => (intOf i + 1).toNat)
    case atStart => exact ⟨l.length, 0, Nat.le_refl _, rfl, by show l.drop _ = m.drop _; rw [List.drop_of_length_le (Nat.le_refl _), List.drop_of_length_le hml], rfl⟩
    case round =>
      obtain ⟨j, q, hj, rfl, HD, rfl⟩ := hrel
      rcases Nat.eq_zero_or_pos j with rfl | hj0
      · rw [show (((0 : Nat) : Int) - 1) = -1 from rfl]
        have hab : a = b := by
          have := HD.out
          rw [List.drop_zero, List.drop_zero] at this
          rw [← hv, ← kv, this]
        have HL := Lib.hid hab
        clear hab
        go_wp2
        go_ret
        exact ⟨ret_int (cmpN_eq HL.out).symm, q, rfl⟩
      · obtain ⟨i, rfl⟩ : ∃ i, j = i + 1 := ⟨j - 1, by omega⟩
        rw [show (((i + 1 : Nat) : Int) - 1) = (i : Int) by omega]
        obtain ⟨ad, rfl, hb, hcell⟩ := h3.int (j := i) (by omega)
        obtain ⟨ad2, rfl, hb2, hcell2⟩ := k3.int (j := i) (by omega)
        have hi0 : (0 : Int) ≤ (i : Int) := by omega
        have hi1 : (i : Int) < (l.length : Int) := by omega
        rcases Nat.lt_trichotomy (l.getD i 0) (m.getD i 0) with hx | hx | hx
        · have HL : Hid (a < b) := by show a < b; rw [← hv, ← kv]; exact lt_of_top hsm HE.out (by omega) HD.out hx
          generalize l.getD i 0 = x at *
          generalize m.getD i 0 = y at *
          clear hj0
          go_wp2
          go_quiet (fail)
          go_wp2
          go_ret
          exact ⟨ret_int (cmpN_lt HL.out).symm, by simp only [World.drewN_drewN]; exact ⟨_, rfl⟩⟩
        · have HN : Hid (l.drop i = m.drop i) := by
            show l.drop i = m.drop i
            rw [List.drop_eq_getElem_cons (by omega : i < l.length), List.drop_eq_getElem_cons (by omega : i < m.length), HD.out]
            congr 1
            rw [List.getD_eq_getElem?_getD, List.getElem?_eq_getElem (by omega : i < l.length), List.getD_eq_getElem?_getD, List.getElem?_eq_getElem (by omega : i < m.length)] at hx
            exact hx
          rw [← hx] at hcell2
          generalize l.getD i 0 = x at *
          clear hx hj0
          go_wp2
          go_quiet (fail)
          go_wp2
          go_quiet (fail)
          go_wp2
          go_roundw
          case rel => exact ⟨i, _, by omega, by go_num, HN, rfl⟩
          case measure => simp [intOf]
        · have HL : Hid (b < a) := by show b < a; rw [← hv, ← kv]; exact lt_of_top ksm HE.out.symm (by omega) HD.out.symm hx
          generalize l.getD i 0 = x at *
          generalize m.getD i 0 = y at *
          clear hj0
          go_wp2
          go_quiet (fail)
          go_wp2
          go_quiet (fail)
          go_wp2
          go_ret
          exact ⟨ret_int (cmpN_gt HL.out).symm, by simp only [World.drewN_drewN]; exact ⟨_, rfl⟩⟩
  · rw [cmpN_gt (lt_of_len hgt)]
    clear h1 k1 h3 k3
    generalize (limbs a).length = n at *
    generalize (limbs b).length = m at *
    go_enter Tryz.func101, Tryz.ntmps101
    go_wp2
    go_ret
    exact ⟨rfl, 0, rfl⟩
end Go.Proofs.YtpkhgdnkkdhlcaaGreatDoor

namespace Go.Proofs.YtpkhgdnkkdhlcaaGreatDoor
open Go.RowKit Ar

theorem limbs_full {xs : List Nat} (hs : Small xs) (h : xs = [] ∨ B ^ (xs.length - 1) ≤ val xs) : limbs (val xs) = xs := by
  refine limbs_val hs ?_
  rcases h with h | h
  · exact .inl h
  · rcases List.eq_nil_or_concat xs with h0 | ⟨m, x, rfl⟩
    · exact .inl h0
    · refine .inr ⟨m, x, by simp, ?_⟩
      rcases Nat.eq_zero_or_pos x with h0 | h0
      · subst h0
        rw [List.concat_eq_append, val_snoc, Nat.mul_zero, Nat.add_zero] at h
        have := val_lt (l := m) (fun y hy => hs y (by simp [hy]))
        simp at h
        omega
      · exact h0
/-- 'make' of a row that is empty yet. -/
theorem make0_u64 (n : Nat) (x : Int) (hx : x = (n : Int)) (hn : n ≤ 4000000000000) (w : World) :
    (Instr.makeSlice 72 (.int .i64 0) (.int .i64 x)).run Tryz.prog w = .ok (.slice (some ⟨w.heap.size, 0, none⟩) 0 n) (w.alloc (.cells (ints .u64 (List.replicate n 0)).toArray 67)) := by
  obtain ⟨i0, hi0, hz0, hz1, hz2⟩ := info_parts u64_info
  subst hx
  have h1 : (i0.bytes : Int) * (n : Int) ≤ 281474976710656 := by rw [hz2]; omega
  have hr := run_make (P := Tryz.prog) w _ _ i0 (.int .u64 0) Tryz.underlying72 hi0 hz0 .i64 .i64 0 n (by omega) (by omega) h1 (by omega)
  rw [hr, hz1]
  have e1 : madeCells (Value.cells (.int .u64 0)) ((n : Int).toNat * 1) = (ints .u64 (List.replicate n 0)).toArray := by
    apply Array.ext'
    have : Value.cells (.int .u64 0) = #[.int .u64 0] := rfl
    rw [this, toList_madeCells_one]
    simp [ints]
  rw [e1]
  simp
theorem own_made0 (w : World) (n : Nat) (hn : n ≤ 4000000000000) : (w.alloc (.cells (ints .u64 (List.replicate n 0)).toArray 67)).ownsRow w.heap.size 67 1 (.slice (some ⟨w.heap.size, 0, none⟩) 0 n) 0 [] :=
  World.ownsRow_made _ _ _ (Nat.le_refl _) (by unfold maxLen; omega) (by simp [ints_length])
theorem own_isN {w : World} {base : Nat} {T : TypeId} {k : IntKind} {v : Value} {xs : List Nat} {n : Nat} (h : w.ownsRow base T 1 v xs.length (ints k xs)) (e : limbs n = xs) : IsN w w.heap.size k v n := by
  rcases h.2 with ⟨hv, hz⟩ | ⟨g, cap, cur, hv, _, _, hc, _⟩
  · have : xs = [] := List.eq_nil_of_length_eq_zero hz
    rw [hv]
    exact ⟨none, 0, by rw [e, this]; rfl, by rw [e, this]; exact Nat.le_refl _, by rw [e, this]; exact Rd.nil⟩
  · rw [hv] at h ⊢
    exact ⟨_, cap, by rw [e], by rw [e]; exact hc, by rw [e]; exact Rd.of_own h⟩

/-- What a round of the sum makes. -/
theorem add_round {l m xs : List Nat} {j c x y s a b M : Nat} (hM : M = max l.length m.length) (hx : x < B) (hy : y < B) (hc : c ≤ 1) (hl : xs.length = j) (hs : Small xs) (hv : val xs + c * B ^ j = val (l.take j) + val (m.take j)) (hka : val l = a) (hkb : val m = b)
    (ex : val (l.take (j + 1)) = val (l.take j) + B ^ j * x) (ey : val (m.take (j + 1)) = val (m.take j) + B ^ j * y) (es : s = x + y + c) (hj : j < M ∨ (j = M ∧ c = 1)) :
    s / B ≤ 1 ∧ (xs ++ [s % B]).length = j + 1 ∧ Small (xs ++ [s % B]) ∧ val (xs ++ [s % B]) + s / B * B ^ (j + 1) = val (l.take (j + 1)) + val (m.take (j + 1)) ∧
      j + 1 ≤ M + 1 ∧ (j + 1 = M + 1 → s / B = 0 ∧ B ^ M ≤ a + b) := by
  subst hM
  refine ⟨carry_le hx hy hc es, by simp [hl], hs.append (Small.cons (Nat.mod_lt _ B_pos) Small.nil), ?_, by omega, fun h => ?_⟩
  · rw [val_snoc, hl, ex, ey, Nat.pow_succ]
    exact add_step hv es
  · have hj' : j = max l.length m.length := by omega
    have hc1 : c = 1 := by omega
    have hlx : l.length ≤ j := by omega
    have hly : m.length ≤ j := by omega
    rw [val_take_all l hlx, val_take_all m hly, hka, hkb, hc1] at hv
    have e1 : val (l.take (j + 1)) = val (l.take j) := by rw [val_take_all l hlx, val_take_all l (by omega)]
    have e2 : val (m.take (j + 1)) = val (m.take j) := by rw [val_take_all m hly, val_take_all m (by omega)]
    have p0 : 0 < B ^ j := Nat.pow_pos B_pos
    have x0 : x = 0 := by
      rcases Nat.eq_zero_or_pos x with h0 | h0
      · exact h0
      · have := Nat.mul_pos p0 h0; omega
    have y0 : y = 0 := by
      rcases Nat.eq_zero_or_pos y with h0 | h0
      · exact h0
      · have := Nat.mul_pos p0 h0; omega
    subst x0 y0
    refine ⟨?_, by rw [← hj']; omega⟩
    rw [es, hc1]; rfl
/-- What the sum is behind the last round. -/
theorem add_done {l m xs : List Nat} {j a b M : Nat} (hM : M = max l.length m.length) (hka : val l = a) (hkb : val m = b) (hla : limbs a = l) (hlb : limbs b = m) (hl : xs.length = j) (hs : Small xs) (hv : val xs + 0 * B ^ j = val (l.take j) + val (m.take j)) (h1 : l.length ≤ j) (h2 : m.length ≤ j)
    (ht : j ≤ M + 1) (ht2 : j = M + 1 → B ^ M ≤ a + b) : limbs (a + b) = xs := by
  subst hM
  rw [val_take_all l h1, val_take_all m h2, hka, hkb, Nat.zero_mul, Nat.add_zero] at hv
  rw [← hv]
  refine limbs_full hs ?_
  rcases Nat.eq_zero_or_pos j with h0 | h0
  · exact .inl (List.eq_nil_of_length_eq_zero (by omega))
  · right
    rw [hl, hv]
    rcases Nat.lt_or_ge (max l.length m.length) j with h3 | h3
    · have e : j - 1 = max l.length m.length := by omega
      rw [e]; exact ht2 (by omega)
    · rcases Nat.lt_or_ge l.length m.length with h4 | h4
      · have e : j = m.length := by omega
        have hb : 0 < b := by
          rcases Nat.eq_zero_or_pos b with hb | hb
          · rw [hb, limbs_zero] at hlb; rw [← hlb] at e; simp at e; omega
          · exact hb
        have := pow_len_le hb
        rw [hlb, ← e] at this
        omega
      · have e : j = l.length := by omega
        have hb : 0 < a := by
          rcases Nat.eq_zero_or_pos a with hb | hb
          · rw [hb, limbs_zero] at hla; rw [← hla] at e; simp at e; omega
          · exact hb
        have := pow_len_le hb
        rw [hla, ← e] at this
        omega

set_option maxRecDepth 100000 in
set_option maxHeartbeats 1600000 in
theorem nadd_any (a b : Nat) (v u : Value) (w : World) (h : IsN w w.heap.size .u64 v a) (h' : IsN w w.heap.size .u64 u b) (hl : (limbs a).length ≤ 1000000000000) (hl' : (limbs b).length ≤ 1000000000000) :
    Calls Tryz.prog 100 #[v, u] w fun e w' => Below w.heap.size w w' ∧ ∃ v, e = .returned v ∧ IsN w' w'.heap.size .u64 v (a + b) := by
  obtain ⟨A, c, rfl, h1, h3⟩ := h
  obtain ⟨A2, c2, rfl, k1, k3⟩ := h'
  have hv := val_limbs a
  have hsm := Small.limbs a
  have kv := val_limbs b
  have ksm := Small.limbs b
  obtain ⟨i0, hi0, hz0, hz1, hz2⟩ := info_parts u64_info
  generalize hga : limbs a = l at *
  generalize hgb : limbs b = m at *
  have HGA := Lib.hid hga
  have HGB := Lib.hid hgb
  have HA := Lib.hid hv
  have HB := Lib.hid kv
  clear hga hgb hv kv
  obtain ⟨M, hM⟩ : ∃ M, M = max l.length m.length := ⟨_, rfl⟩
  have hM1 : l.length ≤ M := by omega
  have hM2 : m.length ≤ M := by omega
  have hMm : M ≤ 1000000000000 := by omega
  have HM := Lib.hid hM
  clear hM
  have hmk := make0_u64 (m.length + 1) ((m.length : Int) + 1) (by omega) (by omega)
  have hmk2 := make0_u64 (l.length + 1) ((l.length : Int) + 1) (by omega) (by omega)
  go_enter Tryz.func100, Tryz.ntmps100
  go_wp2_with fail
  all_goals
    go_loopw [5, 6, 7] (fun out carry i wr => ∃ (j c : Nat) (xs : List Nat), i = .int .i64 j ∧ carry = .int .u64 c ∧ c ≤ 1 ∧ j ≤ M + 1 ∧ xs.length = j ∧ Small xs ∧ Hid (val xs + c * B ^ j = val (l.take j) + val (m.take j)) ∧ Hid (j = M + 1 → c = 0 ∧ B ^ (M) ≤ a + b) ∧
        wr.ownsRow w.heap.size 67 1 out j (ints .u64 xs) ∧ Below w.heap.size w wr) (fun _ _ i _ => M + 2 - (intOf i).toNat)
    case atStart => exact ⟨0, 0, [], rfl, rfl, by omega, by omega, rfl, Small.nil, by show _ = _; simp [val], (fun h => absurd h (by omega)), own_made0 w _ (by omega), (Below.refl _ _).alloc (Nat.le_refl _) _⟩
    case round =>
      obtain ⟨j, c', xs, rfl, rfl, hc', hj, hz, hzs, HV, HT, hown, hbel⟩ := hrel
      have hx : l.getD j 0 < 1000000000 := hsm.getD j
      have hy : m.getD j 0 < 1000000000 := ksm.getD j
      have FIN := Lib.hid (fun x y s (hx : x < B) (hy : y < B) ex ey es hj => add_round HM.out (l := l) (m := m) (xs := xs) (j := j) (c := c') (x := x) (y := y) (s := s) (a := a) (b := b) hx hy hc' hz hzs HV.out HA.out HB.out ex ey es hj)
      have HX := Lib.hid (val_take_ge l j)
      have HY := Lib.hid (val_take_ge m j)
      have hs5 := hbel.size
      rcases Nat.lt_or_ge j l.length with hlt | hge
      · obtain ⟨ad, rfl, hb, hcell⟩ := (h3.below hbel).int (j := j) hlt
        rcases Nat.lt_or_ge j m.length with hltb | hgeb
        · obtain ⟨ad2, rfl, hb2, hcell2⟩ := (k3.below hbel).int (j := j) hltb
          generalize l.getD j 0 = x at *
          generalize m.getD j 0 = y at *
          go_wp2_with (at_builtin; refine wpL_append _ rfl (.tmp 51) (.tmp 54) _ rfl w.heap.size 67 i0 _ 1 8 Tryz.underlying72 hi0 hz0 hz1 hz2 rfl (by omega) _ j (ints .u64 xs) rfl (hown.alloc _) (some ⟨wr.heap.size, 0, none⟩) 1 1 [.int .u64 (((c' : Int) + (x : Int) + (y : Int)) % 1000000000)] rfl rfl (Rd.of_new wr [.int .u64 (((c' : Int) + (x : Int) + (y : Int)) % 1000000000)] 67) (by intro u hu; simp at hu; subst hu; rfl) (by unfold maxLen; omega) (by omega) (by simp; omega) ?_; intro v1 w1 hown1 hg1 hat1)
          go_roundw
          case rel =>
            obtain ⟨f1, f2, f3, f4, f5, f6⟩ := FIN.out x y (c' + x + y) hx hy HX.out HY.out (by omega) (by omega)
            refine ⟨j + 1, (c' + x + y) / B, xs ++ [(c' + x + y) % B], by go_num, by congr 1, f1, f5, f2, f3, f4, f6, ?_, below_app (hbel.alloc hbel.size _) hg1 (by simp; omega) (hown.alloc _) (Nat.le_refl _)⟩
            have e : ints .u64 (xs ++ [(c' + x + y) % B]) = ints .u64 xs ++ [.int .u64 (((c' : Int) + (x : Int) + (y : Int)) % 1000000000)] := by simp [ints, B_eq]
            rw [e]; exact hown1
          case measure => simp [intOf]; omega
        · have hy0 : m.getD j 0 = 0 := getD_over m hgeb
          rw [hy0] at HY
          generalize l.getD j 0 = x at *
          clear hy0 hy
          go_wp2_with (at_builtin; refine wpL_append _ rfl (.tmp 51) (.tmp 54) _ rfl w.heap.size 67 i0 _ 1 8 Tryz.underlying72 hi0 hz0 hz1 hz2 rfl (by omega) _ j (ints .u64 xs) rfl (hown.alloc _) (some ⟨wr.heap.size, 0, none⟩) 1 1 [.int .u64 (((c' : Int) + (x : Int)) % 1000000000)] rfl rfl (Rd.of_new wr [.int .u64 (((c' : Int) + (x : Int)) % 1000000000)] 67) (by intro u hu; simp at hu; subst hu; rfl) (by unfold maxLen; omega) (by omega) (by simp; omega) ?_; intro v1 w1 hown1 hg1 hat1)
          all_goals
            go_roundw
            case rel =>
              obtain ⟨f1, f2, f3, f4, f5, f6⟩ := FIN.out x 0 (c' + x) hx B_pos HX.out HY.out (by omega) (by omega)
              refine ⟨j + 1, (c' + x) / B, xs ++ [(c' + x) % B], by go_num, by congr 1, f1, f5, f2, f3, f4, f6, ?_, below_app (hbel.alloc hbel.size _) hg1 (by simp; omega) (hown.alloc _) (Nat.le_refl _)⟩
              have e : ints .u64 (xs ++ [(c' + x) % B]) = ints .u64 xs ++ [.int .u64 (((c' : Int) + (x : Int)) % 1000000000)] := by simp [ints, B_eq]
              rw [e]; exact hown1
            case measure => simp [intOf]; omega
      · have hx0 : l.getD j 0 = 0 := getD_over l hge
        rw [hx0] at HX
        clear hx hx0
        rcases Nat.lt_or_ge j m.length with hltb | hgeb
        · obtain ⟨ad2, rfl, hb2, hcell2⟩ := (k3.below hbel).int (j := j) hltb
          generalize m.getD j 0 = y at *
          go_wp2_with (at_builtin; refine wpL_append _ rfl (.tmp 51) (.tmp 54) _ rfl w.heap.size 67 i0 _ 1 8 Tryz.underlying72 hi0 hz0 hz1 hz2 rfl (by omega) _ j (ints .u64 xs) rfl (hown.alloc _) (some ⟨wr.heap.size, 0, none⟩) 1 1 [.int .u64 (((c' : Int) + (y : Int)) % 1000000000)] rfl rfl (Rd.of_new wr [.int .u64 (((c' : Int) + (y : Int)) % 1000000000)] 67) (by intro u hu; simp at hu; subst hu; rfl) (by unfold maxLen; omega) (by omega) (by simp; omega) ?_; intro v1 w1 hown1 hg1 hat1)
          all_goals
            go_roundw
            case rel =>
              obtain ⟨f1, f2, f3, f4, f5, f6⟩ := FIN.out 0 y (c' + y) B_pos hy HX.out HY.out (by omega) (by omega)
              refine ⟨j + 1, (c' + y) / B, xs ++ [(c' + y) % B], by go_num, by congr 1, f1, f5, f2, f3, f4, f6, ?_, below_app (hbel.alloc hbel.size _) hg1 (by simp; omega) (hown.alloc _) (Nat.le_refl _)⟩
              have e : ints .u64 (xs ++ [(c' + y) % B]) = ints .u64 xs ++ [.int .u64 (((c' : Int) + (y : Int)) % 1000000000)] := by simp [ints, B_eq]
              rw [e]; exact hown1
            case measure => simp [intOf]; omega
        · have hy0 : m.getD j 0 = 0 := getD_over m hgeb
          rw [hy0] at HY
          clear hy0 hy
          rcases Nat.eq_zero_or_pos c' with rfl | hc0
          · have HO := own_isN (n := a + b) (by rw [← hz] at hown; exact hown) (add_done HM.out HA.out HB.out HGA.out HGB.out hz hzs HV.out hge hgeb hj fun e => (HT.out e).2)
            go_wp2
            go_ret
            exact ⟨hbel, _, rfl, HO⟩
          · obtain rfl : c' = 1 := by omega
            have hjm : j = M := by
              have h5 : ¬ j = M + 1 := fun e => by have := (HT.out e).1; omega
              have h6 := HM.out
              omega
            have HJ := Lib.hid hjm
            clear hjm
            go_wp2_with (at_builtin; refine wpL_append _ rfl (.tmp 51) (.tmp 54) _ rfl w.heap.size 67 i0 _ 1 8 Tryz.underlying72 hi0 hz0 hz1 hz2 rfl (by omega) _ j (ints .u64 xs) rfl (hown.alloc _) (some ⟨wr.heap.size, 0, none⟩) 1 1 [.int .u64 1] rfl rfl (Rd.of_new wr [.int .u64 1] 67) (by intro u hu; simp at hu; subst hu; rfl) (by unfold maxLen; omega) (by omega) (by simp; omega) ?_; intro v1 w1 hown1 hg1 hat1)
            go_roundw
            case rel =>
              obtain ⟨f1, f2, f3, f4, f5, f6⟩ := FIN.out 0 0 1 B_pos B_pos HX.out HY.out (by omega) (.inr ⟨HJ.out, rfl⟩)
              refine ⟨j + 1, 1 / B, xs ++ [1 % B], by go_num, by congr 1, f1, f5, f2, f3, f4, f6, ?_, below_app (hbel.alloc hbel.size _) hg1 (by simp; omega) (hown.alloc _) (Nat.le_refl _)⟩
              have e : ints .u64 (xs ++ [1 % B]) = ints .u64 xs ++ [.int .u64 1] := by simp [ints, B_eq]
              rw [e]; exact hown1
            case measure => have := HJ.out; simp [intOf]; omega
end Go.Proofs.YtpkhgdnkkdhlcaaGreatDoor

namespace Go.Proofs.YtpkhgdnkkdhlcaaGreatDoor
open Go.RowKit Ar

theorem own_slice0 {w : World} {base : Nat} {e : TypeId} {size n : Nat} {v : Value} {xs : List Value} (h : w.ownsRow base e size v n xs) : ∃ A c, v = .slice A n c ∧ n ≤ c := by
  rcases h.2 with ⟨hv, hz⟩ | ⟨g, cap, cur, hv, _, _, hc, _⟩
  · exact ⟨none, 0, by rw [hv, hz], by omega⟩
  · exact ⟨_, cap, hv, hc⟩

/-- The value lies in blocks that are new. -/
def Fresh (base : Nat) (v : Value) : Prop := ∀ A n c, v = .slice (some A) n c → base ≤ A.block
theorem Fresh.own {w : World} {base : Nat} {T : TypeId} {size n : Nat} {A : Option Addr} {c : Nat} {xs : List Value} (h : w.ownsRow base T size (.slice A n c) n xs) (k : Nat) : Fresh base (.slice A k c) := fun A' n' c' e => by
  injection e with e1 _ _
  rcases h.2 with ⟨hv, _⟩ | ⟨g, cap, cur, hv, hb, _⟩
  · injection hv with h1 _ _
    rw [h1] at e1; cases e1
  · injection hv with h1 _ _
    rw [h1] at e1
    injection e1 with e1
    rw [← e1]; exact hb
theorem IsN.set {w : World} {B base : Nat} {k : IntKind} {v : Value} {n : Nat} (h : IsN w B k v n) (hf : Fresh base v) {p : Addr} (hp : p.block < base) (u : Value) : IsN (w.setCell p u) B k v n := by
  obtain ⟨A, c, rfl, h1, h3⟩ := h
  refine ⟨A, c, rfl, h1, fun hn => ?_⟩
  obtain ⟨ad, rfl, hb, hc⟩ := h3 hn
  have := hf _ _ _ rfl
  refine ⟨ad, rfl, hb, fun j x hx => ?_⟩
  rw [World.cell?_setCell_other _ _ _ _ (fun e => by rw [e, addr_block] at hp; omega)]
  exact hc j x hx

set_option maxRecDepth 100000 in
set_option maxHeartbeats 1600000 in
theorem nsub_any (a b : Nat) (v u : Value) (w : World) (h : IsN w w.heap.size .u64 v a) (h' : IsN w w.heap.size .u64 u b) (hab : b ≤ a) (hl : (limbs a).length ≤ 1000000000000) :
    Calls Tryz.prog 102 #[v, u] w fun e w' => Below w.heap.size w w' ∧ ∃ v, e = .returned v ∧ IsN w' w'.heap.size .u64 v (a - b) ∧ Fresh w.heap.size v := by
  obtain ⟨A, c, rfl, h1, h3⟩ := h
  obtain ⟨A2, c2, rfl, k1, k3⟩ := h'
  have hlen := len_mono hab
  have hv := val_limbs a
  have hsm := Small.limbs a
  have kv := val_limbs b
  have ksm := Small.limbs b
  obtain ⟨i0, hi0, hz0, hz1, hz2⟩ := info_parts u64_info
  generalize limbs a = l at *
  generalize limbs b = m at *
  have HA := Lib.hid hv
  have HB := Lib.hid kv
  have HAB := Lib.hid hab
  clear hv kv hab
  have hmk := make0_u64 l.length (l.length : Int) rfl (by omega)
  go_enter Tryz.func102, Tryz.ntmps102
  go_wp2_with fail
  go_loopw [5, 6, 15] (fun out owed i wr => ∃ (j c : Nat) (xs : List Nat), j ≤ l.length ∧ i = .int .i64 j ∧ owed = .int .u64 c ∧ c ≤ 1 ∧ xs.length = j ∧ Small xs ∧ Hid (val xs + val (m.take j) = val (l.take j) + c * B ^ j) ∧
      wr.ownsRow w.heap.size 67 1 out j (ints .u64 xs) ∧ Below w.heap.size w wr) (fun _ _ i _ => l.length - (intOf i).toNat)
  case atStart => exact ⟨0, 0, [], Nat.zero_le _, rfl, rfl, by omega, rfl, Small.nil, by show _ = _; simp [val], own_made0 w _ (by omega), (Below.refl _ _).alloc (Nat.le_refl _) _⟩
  case round =>
    obtain ⟨j, c', xs, hj, rfl, rfl, hc', hz, hzs, HV, hown, hbel⟩ := hrel
    have hs5 := hbel.size
    rcases Nat.lt_or_ge j l.length with hlt | hge
    · obtain ⟨ad, rfl, hb, hcell⟩ := (h3.below hbel).int (j := j) hlt
      have hx : l.getD j 0 < 1000000000 := hsm.getD j
      have hy : m.getD j 0 < 1000000000 := ksm.getD j
      have HX := Lib.hid (val_take_ge l j)
      have HY := Lib.hid (val_take_ge m j)
      have HDIG := Lib.hid (sub_digit (x := l.getD j 0) (y := m.getD j 0) (c := c') hx hy hc')
      have FIN : Hid (∀ d b' : Nat, d < B → d + m.getD j 0 + c' = l.getD j 0 + b' * B → (xs ++ [d]).length = j + 1 ∧ Small (xs ++ [d]) ∧ val (xs ++ [d]) + val (m.take (j + 1)) = val (l.take (j + 1)) + b' * B ^ (j + 1)) := fun d b' hd e => by
        refine ⟨by simp [hz], hzs.append (Small.cons hd Small.nil), ?_⟩
        rw [val_snoc, hz, HX.out, HY.out, Nat.pow_succ]
        exact sub_step HV.out e
      generalize l.getD j 0 = x at *
      clear HX HY HV
      have fits : ∀ (d : Nat) (u : Int) (v1 : Value) (w1 : World), u = (d : Int) → w1.ownsRow w.heap.size 67 1 v1 (j + 1) (ints .u64 xs ++ [.int .u64 u]) → w1.ownsRow w.heap.size 67 1 v1 (j + 1) (ints .u64 (xs ++ [d])) := fun d u v1 w1 e h => by
        subst e
        have : ints .u64 (xs ++ [d]) = ints .u64 xs ++ [.int .u64 (d : Int)] := by simp [ints]
        rw [this]; exact h
      have FITS := Lib.hid fits
      clear fits
      have hB := B_eq
      rcases Nat.lt_or_ge j m.length with hltb | hgeb
      · obtain ⟨ad2, rfl, hb2, hcell2⟩ := (k3.below hbel).int (j := j) hltb
        generalize m.getD j 0 = y at *
        by_cases hneg : x < y + c'
        · have hneg2 : (x : Int) < (c' : Int) + (y : Int) := by omega
          clear hB
          go_wp2_with (at_builtin; refine wpL_append _ rfl (.tmp 38) (.tmp 42) _ rfl w.heap.size 67 i0 _ 1 8 Tryz.underlying72 hi0 hz0 hz1 hz2 rfl (by omega) _ j (ints .u64 xs) rfl (hown.alloc _) (some ⟨wr.heap.size, 0, none⟩) 1 1 [.int .u64 ((x : Int) + 1000000000 - ((c' : Int) + (y : Int)))] rfl rfl (Rd.of_new wr [.int .u64 ((x : Int) + 1000000000 - ((c' : Int) + (y : Int)))] 67) (by intro u hu; simp at hu; subst hu; rfl) (by unfold maxLen; omega) (by omega) (by simp; omega) ?_; intro v1 w1 hown1 hg1 hat1)
          go_roundw
          case rel =>
            obtain ⟨e1, e2⟩ := HDIG.out.1 hneg
            obtain ⟨f1, f2, f3⟩ := FIN.out _ 1 e2 e1
            exact ⟨j + 1, 1, _, by omega, by go_num, rfl, Nat.le_refl _, f1, f2, f3, FITS.out _ _ _ _ (by rw [B_eq]; omega) hown1, below_app (hbel.alloc hbel.size _) hg1 (by simp; omega) (hown.alloc _) (Nat.le_refl _)⟩
          case measure => simp [intOf]; omega
        · have hneg2 : ¬ (x : Int) < (c' : Int) + (y : Int) := by omega
          clear hB
          go_wp2_with (at_builtin; refine wpL_append _ rfl (.tmp 38) (.tmp 42) _ rfl w.heap.size 67 i0 _ 1 8 Tryz.underlying72 hi0 hz0 hz1 hz2 rfl (by omega) _ j (ints .u64 xs) rfl (hown.alloc _) (some ⟨wr.heap.size, 0, none⟩) 1 1 [.int .u64 ((x : Int) - ((c' : Int) + (y : Int)))] rfl rfl (Rd.of_new wr [.int .u64 ((x : Int) - ((c' : Int) + (y : Int)))] 67) (by intro u hu; simp at hu; subst hu; rfl) (by unfold maxLen; omega) (by omega) (by simp; omega) ?_; intro v1 w1 hown1 hg1 hat1)
          go_roundw
          case rel =>
            obtain ⟨e1, e2⟩ := HDIG.out.2 hneg
            obtain ⟨f1, f2, f3⟩ := FIN.out _ 0 e2 e1
            exact ⟨j + 1, 0, _, by omega, by go_num, rfl, Nat.zero_le _, f1, f2, f3, FITS.out _ _ _ _ (by omega) hown1, below_app (hbel.alloc hbel.size _) hg1 (by simp; omega) (hown.alloc _) (Nat.le_refl _)⟩
          case measure => simp [intOf]; omega
      · have h00 : m.getD j 0 = 0 := getD_over m hgeb
        rw [h00] at FIN HDIG
        clear h00 hy
        by_cases hneg : x < 0 + c'
        · have hneg2 : (x : Int) < (c' : Int) := by omega
          clear hB
          go_wp2_with (at_builtin; refine wpL_append _ rfl (.tmp 38) (.tmp 42) _ rfl w.heap.size 67 i0 _ 1 8 Tryz.underlying72 hi0 hz0 hz1 hz2 rfl (by omega) _ j (ints .u64 xs) rfl (hown.alloc _) (some ⟨wr.heap.size, 0, none⟩) 1 1 [.int .u64 ((x : Int) + 1000000000 - (c' : Int))] rfl rfl (Rd.of_new wr [.int .u64 ((x : Int) + 1000000000 - (c' : Int))] 67) (by intro u hu; simp at hu; subst hu; rfl) (by unfold maxLen; omega) (by omega) (by simp; omega) ?_; intro v1 w1 hown1 hg1 hat1)
          go_roundw
          case rel =>
            obtain ⟨e1, e2⟩ := HDIG.out.1 hneg
            obtain ⟨f1, f2, f3⟩ := FIN.out _ 1 e2 e1
            exact ⟨j + 1, 1, _, by omega, by go_num, rfl, Nat.le_refl _, f1, f2, f3, FITS.out _ _ _ _ (by rw [B_eq]; omega) hown1, below_app (hbel.alloc hbel.size _) hg1 (by simp; omega) (hown.alloc _) (Nat.le_refl _)⟩
          case measure => simp [intOf]; omega
        · have hneg2 : ¬ (x : Int) < (c' : Int) := by omega
          clear hB
          go_wp2_with (at_builtin; refine wpL_append _ rfl (.tmp 38) (.tmp 42) _ rfl w.heap.size 67 i0 _ 1 8 Tryz.underlying72 hi0 hz0 hz1 hz2 rfl (by omega) _ j (ints .u64 xs) rfl (hown.alloc _) (some ⟨wr.heap.size, 0, none⟩) 1 1 [.int .u64 ((x : Int) - (c' : Int))] rfl rfl (Rd.of_new wr [.int .u64 ((x : Int) - (c' : Int))] 67) (by intro u hu; simp at hu; subst hu; rfl) (by unfold maxLen; omega) (by omega) (by simp; omega) ?_; intro v1 w1 hown1 hg1 hat1)
          go_roundw
          case rel =>
            obtain ⟨e1, e2⟩ := HDIG.out.2 hneg
            obtain ⟨f1, f2, f3⟩ := FIN.out _ 0 e2 e1
            exact ⟨j + 1, 0, _, by omega, by go_num, rfl, Nat.zero_le _, f1, f2, f3, FITS.out _ _ _ _ (by omega) hown1, below_app (hbel.alloc hbel.size _) hg1 (by simp; omega) (hown.alloc _) (Nat.le_refl _)⟩
          case measure => simp [intOf]; omega
    · obtain rfl : j = l.length := by omega
      have hZ : val xs = a - b := by
        have := HV.out
        rw [val_take_all l (Nat.le_refl _), val_take_all m hlen, HA.out, HB.out] at this
        exact sub_end this (by have := val_lt hzs; rwa [hz] at this) HAB.out hc'
      have HZ := Lib.hid hZ
      have HZL := Lib.hid hz
      obtain ⟨A9, c9, rfl, hc9⟩ := own_slice0 hown
      have hrd := Rd.of_own hown
      clear hZ hz
      go_wp2_with fail
      refine (qtrim_any A9 c9 l.length xs wr HZL.out hc9 (by omega) hrd).mono ?_
      rintro e w2 ⟨rfl, k, hT, rfl⟩
      have hk := hT.len hzs
      have ht := hT.eq hzs
      rw [HZ.out] at hk ht
      have HO : IsN wr wr.heap.size .u64 (.slice A9 k c9) (a - b) :=
        ⟨_, c9, by rw [← hk], by rw [← hk]; have := hT.1; have := HZL.out; omega, by rw [ht, ints_take]; exact hrd.take k⟩
      have HFR := Fresh.own hown k
      clear hk ht hT
      go_wp2
      go_ret
      exact ⟨hbel, _, rfl, HO, HFR⟩
end Go.Proofs.YtpkhgdnkkdhlcaaGreatDoor

namespace Go.Proofs.YtpkhgdnkkdhlcaaGreatDoor
open Go.RowKit Ar

set_option maxRecDepth 100000 in
set_option maxHeartbeats 1600000 in
theorem nmul_any (a b : Nat) (v u : Value) (w : World) (h : IsN w w.heap.size .u64 v a) (h' : IsN w w.heap.size .u64 u b) (hl : (limbs a).length ≤ 1000000000000) (hl' : (limbs b).length ≤ 1000000000000) :
    Calls Tryz.prog 93 #[v, u] w fun e w' => Below w.heap.size w w' ∧ ∃ v, e = .returned v ∧ IsN w' w'.heap.size .u64 v (a * b) := by
  obtain ⟨A, c, rfl, h1, h3⟩ := h
  obtain ⟨A2, c2, rfl, k1, k3⟩ := h'
  have hv := val_limbs a
  have hsm := Small.limbs a
  have kv := val_limbs b
  have ksm := Small.limbs b
  generalize limbs a = l at *
  generalize limbs b = m at *
  have HA := Lib.hid hv
  have HB := Lib.hid kv
  clear hv kv
  have hmk := make_u64 (l.length + m.length) ((l.length : Int) + (m.length : Int)) (by omega) (by omega)
  go_enter Tryz.func93, Tryz.ntmps93
  go_wp2_with fail
  clear hmk
  go_loopw [20] (fun i wr => ∃ (j : Nat) (zs : List Nat), j ≤ l.length ∧ i = .int .i64 j ∧ zs.length = l.length + m.length ∧ Small zs ∧ Hid (val zs = val (l.take j) * b) ∧ Hid (∀ t, j + m.length ≤ t → zs.getD t 0 = 0) ∧
      Bk wr w.heap.size 67 (ints .u64 zs).toArray ∧ Below w.heap.size w wr) (fun i _ => l.length - (intOf i).toNat)
  case atStart => exact ⟨0, List.replicate (l.length + m.length) 0, Nat.zero_le _, rfl, by simp, Small.replicate _, by show val _ = _; rw [val_replicate]; simp [val], (fun t _ => by rw [List.getD_eq_getElem?_getD, List.getElem?_replicate]; split <;> rfl), Bk.new _ _ _, (Below.refl _ _).alloc (Nat.le_refl _) _⟩
  case round =>
    obtain ⟨j, zs, hj, rfl, hz, hzs, HV, HZ, hbk, hbel⟩ := hrel
    by_cases hlt : j < l.length
    · obtain ⟨ad, rfl, hb, hcell⟩ := (h3.below hbel).int (j := j) hlt
      have hx : l.getD j 0 < 1000000000 := hsm.getD j
      have HX := Lib.hid (val_take_ge l j)
      generalize l.getD j 0 = x at *
      go_wp2_with fail
      obtain ⟨wo, hwo⟩ : ∃ wo : World, wo = wr := ⟨_, rfl⟩
      subst hwo
      go_loopw [8, 27] (fun carry i wi => ∃ (k c : Nat) (ys : List Nat), k ≤ m.length ∧ i = .int .i64 k ∧ carry = .int .u64 c ∧ c < 1000000000 ∧ ys.length = l.length + m.length ∧ Small ys ∧
          Hid (val ys + c * B ^ (j + k) = val (l.take j) * b + B ^ j * (x * val (m.take k))) ∧ Hid (∀ t, j + m.length ≤ t → ys.getD t 0 = 0) ∧
          Bk wi w.heap.size 67 (ints .u64 ys).toArray ∧ Below w.heap.size w wi) (fun _ i _ => m.length - (intOf i).toNat)
      case atStart => exact ⟨0, 0, zs, Nat.zero_le _, rfl, rfl, by omega, hz, hzs, by show _ = _; rw [HV.out]; simp [val], HZ.out, hbk, hbel⟩
      case round =>
        obtain ⟨k, c', ys, hk, rfl, rfl, hc', hy1, hys, HW, HZ2, hbk2, hbel2⟩ := hrel
        by_cases hltk : k < m.length
        · obtain ⟨ad2, rfl, hb2, hcell2⟩ := (k3.below hbel2).int (j := k) hltk
          have hy : m.getD k 0 < 1000000000 := ksm.getD k
          have HY := Lib.hid (val_take_ge m k)
          have hr : ys.getD (j + k) 0 < 1000000000 := hys.getD (j + k)
          have hcell3 := hbk2.cell (j + k)
          rw [ints_getD .u64 ys (by omega)] at hcell3
          have hfr := hbk2.frozen (j + k)
          have HS := Lib.hid (fun v => val_set ys (j + k) v (by omega))
          generalize m.getD k 0 = y at *
          generalize ys.getD (j + k) 0 = r at *
          have hp0 : (0 : Int) ≤ (x : Int) * (y : Int) := Int.mul_nonneg (by omega) (by omega)
          have hp1 : (x : Int) * (y : Int) ≤ 999999998000000001 := by
            have : x * y ≤ 999999999 * 999999999 := Nat.mul_le_mul (by omega) (by omega)
            have : ((x * y : Nat) : Int) ≤ ((999999999 * 999999999 : Nat) : Int) := by omega
            rw [Int.natCast_mul] at this; omega
          go_wp2
          go_roundw
          case rel =>
            have hsd : (x * y + r + c') % B < B := Nat.mod_lt _ B_pos
            have eS : ((x * y + r + c' : Nat) : Int) = (r : Int) + (x : Int) * (y : Int) + (c' : Int) := by rw [Int.natCast_add, Int.natCast_add, Int.natCast_mul]; omega
            have eT : ∀ u : Nat, ∀ v : Int, (Value.int .u64 v = Value.int .u64 (u : Int)) = (v = (u : Int)) := fun u v => by simp
            refine ⟨k + 1, (x * y + r + c') / B, ys.set (j + k) ((x * y + r + c') % B), by omega, by go_num, ?_, mul_carry hx hy hr hc' rfl, by simpa using hy1, hys.set hsd, ?_, ?_, ?_, ?_⟩
            · rw [eT, Int.natCast_ediv, eS]; rfl
            · have e1 := mul_inner HW.out rfl (HS.out ((x * y + r + c') % B)) (m := B ^ j * (x * (B ^ k * y))) (by rw [Nat.pow_add]; grind)
              rw [HY.out, show j + (k + 1) = (j + k) + 1 from rfl, Nat.pow_succ]
              refine Eq.trans e1 ?_
              grind
            · intro t ht
              rw [List.getD_eq_getElem?_getD, List.getElem?_set_ne (by omega), ← List.getD_eq_getElem?_getD]
              exact HZ2.out t ht
            · have := hbk2.put (j + k) (.int .u64 (((x * y + r + c') % B : Nat) : Int))
              rw [ints_set, Int.natCast_emod, eS] at this
              exact this
            · exact hbel2.setCell (Nat.le_refl _) _
          case measure => simp [intOf]; omega
        · obtain rfl : k = m.length := by omega
          have hcell3 := hbk2.cell (j + m.length)
          rw [ints_getD .u64 ys (by omega), HZ2.out _ (Nat.le_refl _)] at hcell3
          have hfr := hbk2.frozen (j + m.length)
          go_wp2
          go_roundw
          case rel =>
            refine ⟨j + 1, ys.set (j + m.length) c', by omega, by go_num, by simpa using hy1, hys.set (by rw [B_eq]; exact hc'), ?_, ?_, ?_, hbel2.setCell (Nat.le_refl _) _⟩
            · have e1 := val_set ys (j + m.length) c' (by omega)
              rw [HZ2.out _ (Nat.le_refl _), Nat.mul_zero, Nat.add_zero] at e1
              have e2 := HW.out
              rw [val_take_all m (Nat.le_refl _), HB.out] at e2
              rw [e1, HX.out]
              show _ = (_ + B ^ j * x) * b
              rw [Nat.mul_comm (B ^ _) c', e2]
              grind
            · intro t ht
              rw [List.getD_eq_getElem?_getD, List.getElem?_set_ne (by omega), ← List.getD_eq_getElem?_getD]
              exact HZ2.out t (by omega)
            · have := hbk2.put (j + m.length) (.int .u64 (c' : Int))
              rw [ints_set] at this
              exact this
          case measure => simp [intOf]; omega
    · obtain rfl : j = l.length := by omega
      have hZ : val zs = a * b := by
        have := HV.out
        rwa [val_take_all l (Nat.le_refl _), HA.out] at this
      have hrd := hbk.rd
      have HZV := Lib.hid hZ
      clear hZ
      go_wp2_with fail
      refine (qtrim_any _ _ (l.length + m.length) zs _ hz (by omega) (by omega) (by simpa using hrd)).mono ?_
      rintro e w2 ⟨rfl, k, hT, rfl⟩
      have hk := hT.len hzs
      have ht := hT.eq hzs
      rw [HZV.out] at hk ht
      have HO : IsN wr wr.heap.size .u64 (.slice (some ⟨w.heap.size, 0, none⟩) k (l.length + m.length)) (a * b) :=
        ⟨_, _, by rw [← hk], by rw [← hk]; have := hT.1; omega, by rw [ht, ints_take]; exact (show Rd wr _ _ (ints .u64 zs) by simpa using hrd).take k⟩
      clear hk ht hT
      go_wp2
      go_ret
      exact ⟨hbel, _, rfl, HO⟩
end Go.Proofs.YtpkhgdnkkdhlcaaGreatDoor

namespace Go.Proofs.YtpkhgdnkkdhlcaaGreatDoor
open Go.RowKit Ar

set_option maxHeartbeats 400000 in
theorem nsmall_any (a n : Nat) (v : Value) (w : World) (hn0 : 0 < n) (hn : n ≤ B) (h : IsN w w.heap.size .u64 v a) (hl : (limbs a).length ≤ 1000000000000) :
    Calls Tryz.prog 195 #[v, .int .u64 n] w fun e w' => Below w.heap.size w w' ∧ ∃ v, e = .returned (.tuple #[v, .int .u64 ((a % n : Nat) : Int)]) ∧ IsN w' w'.heap.size .u64 v (a / n) := by
  obtain ⟨A, c, rfl, h1, h3⟩ := h
  have hv := val_limbs a
  have hsm := Small.limbs a
  generalize limbs a = l at *
  have hmk := make_u64 l.length (l.length : Int) rfl (by omega)
  rw [B_eq] at hn
  go_enter Tryz.func195, Tryz.ntmps195
  go_wp2_with fail
  go_loopw [7, 8] (fun rest i wr => ∃ (j r : Nat) (zs : List Nat), j ≤ l.length ∧ i = .int .i64 ((j : Int) - 1) ∧ rest = .int .u64 r ∧ r < n ∧ zs.length = l.length ∧ Small zs ∧ val (l.drop j) = val (zs.drop j) * n + r ∧
      Bk wr w.heap.size 67 (ints .u64 zs).toArray ∧ Below w.heap.size w wr) (fun _ i _ => (intOf i + 1).toNat)
  case atStart => exact ⟨l.length, 0, List.replicate l.length 0, Nat.le_refl _, rfl, rfl, hn0, by simp, Small.replicate _, by simp [val], Bk.new _ _ _, (Below.refl _ _).alloc (Nat.le_refl _) _⟩
  case round =>
    obtain ⟨j, r, zs, hj, rfl, rfl, hr, hz, hzs, hval, hbk, hbel⟩ := hrel
    rcases Nat.eq_zero_or_pos j with rfl | hj0
    · rw [show (((0 : Nat) : Int) - 1) = -1 from rfl]
      have HV := Lib.hid hval
      have hrd := hbk.rd
      clear hval hmk
      go_wp2_with fail
      refine (qtrim_any _ _ l.length zs _ hz (Nat.le_refl _) (by omega) hrd).mono ?_
      rintro e w1 ⟨rfl, k, hT, rfl⟩
      have hvz : a = val zs * n + r := by have := HV.out; rw [List.drop_zero, List.drop_zero, hv] at this; exact this
      have e1 : a / n = val zs := by rw [hvz, Nat.mul_comm, Nat.mul_add_div hn0, Nat.div_eq_of_lt hr]; rfl
      have e2 : a % n = r := by rw [hvz, Nat.mul_comm, Nat.mul_add_mod, Nat.mod_eq_of_lt hr]
      have HO := (OwnN.of_trim hbk (Nat.le_refl _) hz (by omega) hzs hT rfl).is
      rw [← e1] at HO
      have HE := Lib.hid e2
      clear e1 e2 hvz hT
      go_wp2
      go_ret2
      exact ⟨hbel, _, by rw [HE.out]; rfl, HO⟩
    · obtain ⟨m, rfl⟩ : ∃ m, j = m + 1 := ⟨j - 1, by omega⟩
      rw [show (((m + 1 : Nat) : Int) - 1) = (m : Int) by omega]
      obtain ⟨ad, rfl, hb, hcell⟩ := (h3.below hbel).int (j := m) (by omega)
      have hx : l.getD m 0 < 1000000000 := hsm.getD m
      have HV := Lib.hid hval
      have HX := Lib.hid (val_drop l (j := m) (by omega))
      generalize hgx : l.getD m 0 = x at *
      have hs1 : (r * 1000000000 + x) / n < 1000000000 := by
        apply Nat.div_lt_of_lt_mul
        have : (r + 1) * 1000000000 ≤ n * 1000000000 := Nat.mul_le_mul_right _ hr
        omega
      have hq1 : ((r : Int) * 1000000000 + (x : Int)) / (n : Int) < 1000000000 := by
        have := Int.ofNat_lt.2 hs1
        simpa using this
      have hq0 : 0 ≤ ((r : Int) * 1000000000 + (x : Int)) / (n : Int) := Int.ediv_nonneg (by omega) (by omega)
      have hcell2 := hbk.cell m
      rw [ints_getD .u64 zs (by omega)] at hcell2
      have hfr := hbk.frozen m
      clear hval hgx hmk hj0
      go_wp2
      go_roundw
      case rel =>
        refine ⟨m, (r * B + x) % n, zs.set m ((r * B + x) / n), by omega, by go_num, by simp [B_eq], Nat.mod_lt _ hn0, by simpa using hz, hzs.set (by rw [B_eq]; exact hs1), ?_, ?_, hbel.setCell (Nat.le_refl _) _⟩
        · rw [HX.out, val_drop_set zs (by omega)]
          exact short_step HV.out rfl
        · have := hbk.put m (.int .u64 (((r * B + x) / n : Nat) : Int))
          rw [ints_set] at this
          have e : (((r * B + x) / n : Nat) : Int) = ((r : Int) * 1000000000 + (x : Int)) / (n : Int) := by rw [B_eq]; simp
          rw [e] at this
          exact this
      case measure => simp [intOf]

theorem own_empty (w : World) : (w.alloc (.cells #[] 67)).ownsRow w.heap.size 67 1 (.slice (some ⟨w.heap.size, 0, none⟩) 0 0) 0 [] :=
  World.ownsRow_made _ _ 0 (Nat.le_refl _) (by unfold maxLen; omega) rfl

set_option maxRecDepth 100000 in
set_option maxHeartbeats 1600000 in
theorem ndiv_lt (a b : Nat) (v u : Value) (w : World) (hab : a < b) (h : IsN w w.heap.size .u64 v a) (h' : IsN w w.heap.size .u64 u b) (hl : (limbs a).length ≤ 1000000000000) :
    Calls Tryz.prog 150 #[v, u] w fun e w' => Below w.heap.size w w' ∧ ∃ q r, e = .returned (.tuple #[q, r]) ∧ IsN w' w'.heap.size .u64 q (a / b) ∧ IsN w' w'.heap.size .u64 r (a % b) := by
  have hcmp := ncmp_any a b v u w h h' (by omega)
  rw [cmpN_lt hab] at hcmp
  have HC := Lib.hid hcmp
  have hD : a / b = 0 := Nat.div_eq_of_lt hab
  have hM : a % b = a := Nat.mod_eq_of_lt hab
  rw [hD, hM]
  have hb0 : 0 < b := by omega
  have hlb := limbs_len_pos hb0
  obtain ⟨i0, hi0, hz0, hz1, hz2⟩ := info_parts u64_info
  obtain ⟨A, c, rfl, h1, h3⟩ := h
  obtain ⟨A2, c2, rfl, k1, k3⟩ := h'
  generalize hgl : limbs a = l at *
  have HL := Lib.hid hgl
  generalize (limbs b).length = m at *
  clear hcmp hab hD hM hb0 hgl k1 k3
  go_enter Tryz.func150, Tryz.ntmps150
  go_wp2_with fail
  refine HC.out.mono ?_
  rintro e w1 ⟨rfl, n, rfl⟩
  have hrd : Rd (w.drewN n) (w.drewN n).heap.size A (ints .u64 l) := h3
  have hB1 := below_drewN (Below.refl w.heap.size w) n
  have hsz : w.heap.size ≤ (w.drewN n).heap.size := hB1.size
  clear HC h3
  generalize w.drewN n = w1 at *
  go_wp2_with (at_builtin; refine wpL_append _ rfl (.tmp 26) (.tmp 27) _ rfl w1.heap.size 67 i0 _ 1 8 Tryz.underlying72 hi0 hz0 hz1 hz2 rfl (by omega) _ 0 [] rfl (own_empty w1) A l.length c (ints .u64 l) rfl (by rw [ints_length, Nat.mul_one]) (hrd.alloc (Nat.le_refl _) _) (ints_one _ _) (by unfold maxLen; omega) (by omega) (by simp) ?_; intro v1 w2 hown1 hg1 hat1)
  have hB2 := below_app (hB1.alloc hsz _) hg1 (by simp; omega) (own_empty w1) hsz
  have HO : IsN w2 w2.heap.size .u64 v1 a := own_isN (by simpa using hown1) HL.out
  clear hown1 hg1 hat1 hrd
  go_wp2
  go_ret2
  exact ⟨hB2, _, _, rfl, IsN.nil _ _ _, HO⟩

set_option maxRecDepth 100000 in
set_option maxHeartbeats 1600000 in
theorem ndiv_one (a b : Nat) (v u : Value) (w : World) (hab : b ≤ a) (hb0 : 0 < b) (hbB : b < B) (h : IsN w w.heap.size .u64 v a) (h' : IsN w w.heap.size .u64 u b) (hl : (limbs a).length ≤ 1000000000000) :
    Calls Tryz.prog 150 #[v, u] w fun e w' => Below w.heap.size w w' ∧ ∃ q r, e = .returned (.tuple #[q, r]) ∧ IsN w' w'.heap.size .u64 q (a / b) ∧ IsN w' w'.heap.size .u64 r (a % b) := by
  have hcmp := ncmp_any a b v u w h h' (by omega)
  have hz : 0 ≤ cmpN a b := by unfold cmpN; rw [if_neg (by omega)]; split <;> omega
  generalize cmpN a b = z at *
  have HC := Lib.hid hcmp
  have HA := Lib.hid h
  obtain ⟨A, c, rfl, h1, h3⟩ := h
  obtain ⟨A2, c2, rfl, k1, k3⟩ := h'
  rw [limbs_single hb0 hbB] at k1 k3 HC ⊢
  obtain ⟨ad, rfl, hbk, hcell⟩ := k3.int (j := 0) (by simp)
  simp only [List.getD_cons_zero, addr_zero, List.length_singleton] at hcell k1 HC ⊢
  have HB := Lib.hid hbB
  have hb9 : b < 1000000000 := hbB
  clear hcmp hab h1 h3 k1 k3 hbB
  generalize hgl : (limbs a).length = la at *
  have HL := Lib.hid hgl
  clear hgl
  go_enter Tryz.func150, Tryz.ntmps150
  go_wp2_with fail
  refine HC.out.mono ?_
  rintro e w1 ⟨rfl, n, rfl⟩
  go_wp2_with fail
  refine (nsmall_any a b _ (w.drewN n) hb0 (Nat.le_of_lt HB.out) HA.out (by rw [HL.out]; exact hl)).mono ?_
  rintro e w2 ⟨hb2, q, rfl, hq⟩
  go_wp2_with fail
  refine (natOf_any (a % b) w2 (by have := Nat.mod_lt a hb0; omega)).mono ?_
  rintro e w3 ⟨hb3, r, rfl, hr⟩
  go_wp2
  go_ret2
  exact ⟨((below_drewN (Below.refl _ w) n).trans (hb2.mono (Nat.le_refl _))).trans (hb3.mono hb2.size), _, _, rfl, hq.next hb3, hr⟩
end Go.Proofs.YtpkhgdnkkdhlcaaGreatDoor

namespace Go.Proofs.YtpkhgdnkkdhlcaaGreatDoor
open Go.RowKit Ar

theorem own_zeros (w : World) (n : Nat) (hn : n ≤ 4000000000000) : (w.alloc (.cells (ints .u64 (List.replicate n 0)).toArray 67)).ownsRow w.heap.size 67 1 (.slice (some ⟨w.heap.size, 0, none⟩) n n) n (ints .u64 (List.replicate n 0)) := by
  have := (Bk.new w 67 (ints .u64 (List.replicate n 0)).toArray).own (base := w.heap.size) (size := 1) (n := n) (cap := n) (Nat.le_refl _) (Nat.le_refl _) (by unfold maxLen; omega) (by simp [ints_length])
  rw [Nat.mul_one, List.toList_toArray, List.take_of_length_le (by simp [ints_length])] at this
  exact this

set_option maxRecDepth 100000 in
set_option maxHeartbeats 6400000 in
theorem ndiv_big (a b : Nat) (v u : Value) (w : World) (hab : b ≤ a) (hb0 : 0 < b) (hbB : B ≤ b) (h : IsN w w.heap.size .u64 v a) (h' : IsN w w.heap.size .u64 u b) (hl : (limbs a).length ≤ 400000000000) :
    Calls Tryz.prog 150 #[v, u] w fun e w' => Below w.heap.size w w' ∧ ∃ q r, e = .returned (.tuple #[q, r]) ∧ IsN w' w'.heap.size .u64 q (a / b) ∧ IsN w' w'.heap.size .u64 r (a % b) := by
  have hcmp := ncmp_any a b v u w h h' (by omega)
  have hz : 0 ≤ cmpN a b := by unfold cmpN; rw [if_neg (by omega)]; split <;> omega
  generalize cmpN a b = z at *
  obtain ⟨i0, hi0, hz0', hz1', hz2'⟩ := info_parts u64_info
  have HC := Lib.hid hcmp
  have hlm := len_mono hab
  have h2 : 2 ≤ (limbs b).length := by
    rcases Nat.lt_or_ge (limbs b).length 2 with h1 | h1
    · have := lt_pow_len b
      have h3 : B ^ (limbs b).length ≤ B ^ 1 := Nat.pow_le_pow_right B_pos (by omega)
      rw [Nat.pow_one] at h3
      omega
    · exact h1
  have HAB := Lib.hid hab
  clear hcmp hab hbB
  obtain ⟨A, c, rfl, h1, h3⟩ := h
  obtain ⟨A2, c2, rfl, k1, k3⟩ := h'
  obtain ⟨n, hn⟩ : ∃ n, (limbs b).length = n + 1 := ⟨(limbs b).length - 1, by omega⟩
  obtain ⟨ad, rfl, hbk, hcell⟩ := k3.int (j := n) (by omega)
  have hO : IsN w w.heap.size .u64 (.slice A (limbs a).length c) a := ⟨A, c, rfl, h1, h3⟩
  have hO2 : IsN w w.heap.size .u64 (.slice (some ad) (n + 1) c2) b := ⟨_, c2, by rw [hn], by rw [hn]; rw [hn] at k1; exact k1, k3⟩
  obtain ⟨ht0, htB, _, _⟩ := top_limb hb0 hn
  have hnorm := norm_fits hb0 hn rfl rfl
  have hla := lt_pow_len a
  generalize (limbs b).getD n 0 = t at *
  rw [hn] at hlm
  generalize hla' : (limbs a).length = la at *
  rw [hn] at k1 h2 HC ⊢
  have ht9 : t < 1000000000 := htB
  have HN := Lib.hid hnorm
  have HLA := Lib.hid hla'
  have HA := Lib.hid hla
  have HBN := Lib.hid hn
  have hn0 : 1 ≤ n := by omega
  have hq0 : (0 : Int) ≤ 1000000000 / ((t : Int) + 1) := Int.ediv_nonneg (by omega) (by omega)
  have hq1 : (1000000000 : Int) / ((t : Int) + 1) ≤ 1000000000 := Int.ediv_le_self _ (by omega)
  clear hnorm hla hla' hn k3 h3 htB
  go_enter Tryz.func150, Tryz.ntmps150
  go_wp2_with fail
  refine HC.out.mono ?_
  rintro e w1 ⟨rfl, q0, rfl⟩
  go_wp2_with fail
  have hfe : (1000000000 : Int) / ((t : Int) + 1) = ((B / (t + 1) : Nat) : Int) := by rw [Int.natCast_ediv]; rfl
  rw [hfe]
  clear hfe hq0 hq1
  generalize B / (t + 1) = f at *
  have hf9 : f < 1000000000 := HN.out.2.1
  refine (natOf_any f (w.drewN q0) (by omega)).mono ?_
  rintro e w2 ⟨hb2, sc, rfl, hsc⟩
  have B2 : Below w.heap.size w w2 := (below_drewN (Below.refl _ _) q0).trans hb2
  have hO3 := hO.next B2
  have hO4 := hO2.next B2
  clear hO hO2 hb2
  have hlf : (limbs f).length ≤ 1 := limbs_len_le (by rw [Nat.pow_one]; exact HN.out.2.1)
  go_wp2_with fail
  refine (nmul_any b f _ _ w2 hO4 hsc (by rw [HBN.out]; omega) (by omega)).mono ?_
  rintro e w3 ⟨hb3, vv, rfl, hv⟩
  have B3 := B2.trans (hb3.mono B2.size)
  have hsc3 := hsc.next hb3
  have hO5 := hO3.next hb3
  clear hO3 hO4 hb3 hsc
  go_wp2_with fail
  refine (nmul_any a f _ _ w3 hO5 hsc3 (by rw [HLA.out]; omega) (by omega)).mono ?_
  rintro e w4 ⟨hb4, uu, rfl, hu⟩
  have B4 := B3.trans (hb4.mono B3.size)
  have hsc4 := hsc3.next hb4
  have hv4 := hv.next hb4
  clear hO5 hb4 hsc3 hv B2 B3
  obtain ⟨ht20, ht2B, htop, htl⟩ := top_limb (Nat.mul_pos hb0 HN.out.1) HN.out.2.2.2
  have HT := Lib.hid htop
  have HV4 := Lib.hid hv4
  have HU4 := Lib.hid hu
  obtain ⟨A3, c3, rfl, hc3, hrd3⟩ := hv4
  obtain ⟨A4, c4, rfl, hc4, hrd4⟩ := hu
  rw [HN.out.2.2.2] at hc3 HV4 ⊢
  obtain ⟨ad3, rfl, hbk3, _⟩ := hrd3.int (j := n) (by rw [HN.out.2.2.2]; omega)
  have hlu1 : (limbs (a * f)).length ≤ la + 1 := limbs_len_le (by rw [Nat.pow_succ]; exact Nat.mul_lt_mul'' HA.out HN.out.2.1)
  have hlu2 : n + 1 ≤ (limbs (a * f)).length := by
    have := len_mono (Nat.mul_le_mul_right f HAB.out)
    rw [HN.out.2.2.2] at this
    exact this
  have hultt := lt_pow_len (a * f)
  have HRD := Lib.hid hrd3
  have ht29 : (limbs (b * f)).getD n 0 < 1000000000 := ht2B
  have HUB : Hid (a * f < b * f * B ^ ((limbs (a * f)).length - n)) := by
    show _ < _
    refine Nat.lt_of_lt_of_le hultt ?_
    have e : B ^ (limbs (a * f)).length = B ^ n * B ^ ((limbs (a * f)).length - n) := by rw [← Nat.pow_add]; congr 1; omega
    rw [e]
    refine Nat.mul_le_mul_right _ ?_
    rw [HT.out]
    have := Nat.mul_le_mul_left (B ^ n) ht20
    omega
  have hcells : Hid (∀ w', Below w4.heap.size w4 w' → w'.cell? (ad3.add n) = some (.int .u64 (((limbs (b * f)).getD n 0 : Nat) : Int))) := fun w' hw => by
    obtain ⟨ad', h1, _, h2⟩ := (HRD.out.below hw).int (j := n) (by rw [HN.out.2.2.2]; omega)
    injection h1 with h1; subst h1; exact h2
  clear hultt htop htl ht2B hrd3 hrd4
  generalize (limbs (b * f)).getD n 0 = t2 at *
  generalize hlu : (limbs (a * f)).length = lu at *
  obtain ⟨m, rfl⟩ : ∃ m, lu = n + m := ⟨lu - n, by omega⟩
  rw [Nat.add_sub_cancel_left] at HUB
  clear hlu
  have hm1 : 1 ≤ m := by omega
  have hm2 : n + m ≤ 400000000001 := by omega
  have hmk := make_u64 m ((n : Int) + (m : Int) - ((n : Int) + 1) + 1) (by omega) (by omega)
  have hx1 : ¬ (n : Int) + (m : Int) - ((n : Int) + 1) + 1 < 1 := by omega
  have hx2 : (1 : Int) ≤ (n : Int) + (m : Int) - ((n : Int) + 1) + 1 := by omega
  have hbk0 := Bk.new w4 67 (ints .u64 (List.replicate m 0)).toArray
  have hQ0 : Hid (QS (a * f) (b * f) m m (a * f) (List.replicate m 0)) := QS.start HUB.out
  have B5 : Below w4.heap.size w4 (w4.alloc (.cells (ints .u64 (List.replicate m 0)).toArray 67)) := below_alloc _ _
  have hU5 := HU4.out.next B5
  have HSC4 := Lib.hid hsc4
  clear hsc4
  go_wp2_with fail
  clear hmk hx1 hx2
  have hsz4 : w4.heap.size < (w4.alloc (.cells (ints .u64 (List.replicate m 0)).toArray 67)).heap.size := by simp
  generalize w4.alloc (.cells (ints .u64 (List.replicate m 0)).toArray 67) = w5 at *
  have hVp : 0 < b * f := Nat.mul_pos hb0 HN.out.1
  have HVP := Lib.hid hVp
  clear hVp
  go_loopw [10, 13] (fun rv i wr => ∃ (J R : Nat) (qs : List Nat), J ≤ m ∧ i = .int .i64 ((J : Int) - 1) ∧ IsN wr wr.heap.size .u64 rv R ∧ Hid (QS (a * f) (b * f) m J R qs) ∧ Bk wr w4.heap.size 67 (ints .u64 qs).toArray ∧ Below w4.heap.size w4 wr) (fun _ i _ => (intOf i + 1).toNat)
  case atStart => exact ⟨m, a * f, List.replicate m 0, Nat.le_refl _, by go_num, hU5, hQ0, hbk0, B5⟩
  case round =>
    clear hU5 hQ0 hbk0 B5
    obtain ⟨J, R, qs, hJ, rfl, hR, HQ, hbkq, hbel⟩ := hrel
    have hbq := hbkq.lt
    rcases Nat.eq_zero_or_pos J with rfl | hJ0
    · rw [show (((0 : Nat) : Int) - 1) = -1 from rfl]
      obtain ⟨hd1, hd2⟩ := HQ.out.done HN.out.1 hb0
      have hRl : (limbs R).length ≤ n + 1 := limbs_len_le (by
        have := HQ.out.top
        rw [Nat.pow_zero, Nat.mul_one] at this
        exact Nat.lt_trans this HN.out.2.2.1)
      have D1 : Calls Tryz.prog 150 #[u10, sc] wr fun e w' => Below wr.heap.size wr w' ∧ ∃ q r, e = .returned (.tuple #[q, r]) ∧ IsN w' w'.heap.size .u64 q (a % b) ∧ ∃ x, IsN w' w'.heap.size .u64 r x := by
        have hs := HSC4.out.next hbel
        rcases Nat.lt_or_ge R f with h5 | h5
        · refine (ndiv_lt R f _ _ wr h5 hR hs (by omega)).mono ?_
          rintro e w' ⟨h6, q, r, h7, h8, h9⟩
          rw [hd2] at h8
          exact ⟨h6, q, r, h7, h8, _, h9⟩
        · refine (ndiv_one R f _ _ wr h5 HN.out.1 HN.out.2.1 hR hs (by omega)).mono ?_
          rintro e w' ⟨h6, q, r, h7, h8, h9⟩
          rw [hd2] at h8
          exact ⟨h6, q, r, h7, h8, _, h9⟩
      have HD1 := Lib.hid hd1
      have HQS := Lib.hid HQ.out.qsm
      have HQL := Lib.hid HQ.out.ql
      clear hd1 hd2
      go_wp2_with fail
      refine D1.mono ?_
      rintro e w6 ⟨hb6, q, r, rfl, hq, _, _⟩
      have hbk6 := hbkq.below hb6 hbq
      have hrd6 := hbk6.rd
      clear D1
      go_wp2_with fail
      refine (qtrim_any _ m m qs w6 HQL.out (Nat.le_refl _) (by omega) (by simpa using hrd6)).mono ?_
      rintro e w7 ⟨rfl, k, hT, rfl⟩
      have hO := (OwnN.of_trim hbk6 (Nat.le_refl _) HQL.out (by omega) HQS.out hT HD1.out).is
      clear hT
      go_wp2
      go_ret2
      exact ⟨B4.trans ((hbel.trans (hb6.mono hbel.size)).mono B4.size), _, _, rfl, hO, hq⟩
    · obtain ⟨j, rfl⟩ : ∃ j, J = j + 1 := ⟨J - 1, by omega⟩
      rw [show (((j + 1 : Nat) : Int) - 1) = (j : Int) by omega]
      have hmkj := make_u64 j (j : Int) rfl (by omega)
      have hvrd : Rd wr wr.heap.size (some ad3) (ints .u64 (limbs (b * f))) := (HRD.out.below hbel).more hbel.size
      have hvl : (limbs (b * f)).length = n + 1 := HN.out.2.2.2
      have ho := own_zeros wr j (by omega)
      have hRt : R < b * f * B ^ j * B := by
        have := HQ.out.top
        rw [Nat.pow_succ, ← Nat.mul_assoc] at this
        exact this
      have hRl : (limbs R).length ≤ n + j + 2 := limbs_len_le (by
        have h5 : b * f * B ^ j * B < B ^ (n + 1) * B ^ j * B := Nat.mul_lt_mul_of_pos_right (Nat.mul_lt_mul_of_pos_right HN.out.2.2.1 (Nat.pow_pos B_pos)) B_pos
        have h6 : B ^ (n + 1) * B ^ j * B = B ^ (n + j + 2) := by rw [← Nat.pow_add, ← Nat.pow_succ]; congr 1; omega
        omega)
      have HTP := top_pair (Small.limbs R) hRl
      rw [val_limbs] at HTP
      have HG := guess_ge (W := R) (v := b * f * B ^ j) (b := B) (t := t2) (vl := val (List.take n (limbs (b * f))) * B ^ j) (p := B ^ (n + j)) (Nat.pow_pos B_pos) ht20 (by
        have h5 : b * f * B ^ j = (val (List.take n (limbs (b * f))) + B ^ n * t2) * B ^ j := congrArg (· * B ^ j) HT.out
        rw [h5, Nat.pow_add]
        generalize val (List.take n (limbs (b * f))) = q
        generalize B ^ n = p1
        generalize B ^ j = p2
        grind) hRt
      rw [HTP] at HG
      have HGG := Lib.hid HG
      have HRT := Lib.hid hRt
      have HRIS := Lib.hid hR
      obtain ⟨A5, c5, rfl, hc5, hrd5⟩ := hR
      have hr1 : (limbs R).getD (n + j + 1) 0 < 1000000000 := (Small.limbs R).getD _
      have hr0 : (limbs R).getD (n + j) 0 < 1000000000 := (Small.limbs R).getD _
      have hz1 : Hid ((limbs R).length ≤ n + j + 1 → (limbs R).getD (n + j + 1) 0 = 0) := getD_over _
      have hz0 : Hid ((limbs R).length ≤ n + j → (limbs R).getD (n + j) 0 = 0) := getD_over _
      clear HTP HG hRt
      have hsh : Hid (ints .u64 (List.replicate j 0) ++ ints .u64 (limbs (b * f)) = ints .u64 (limbs (b * f * B ^ j))) := by
        show _ = _
        rw [limbs_shift HVP.out, ints_append]
      have hshl : Hid ((limbs (b * f * B ^ j)).length = j + (n + 1)) := by
        show _ = _
        rw [limbs_shift HVP.out, List.length_append, List.length_replicate, hvl]
      have hvl' : Hid ((ints .u64 (limbs (b * f))).length = (n + 1) * 1) := by show _ = _; rw [ints_length, hvl, Nat.mul_one]
      have hRl2 : (limbs R).length ≤ 800000000000 := by omega
      generalize hlR : (limbs R).length = lR at *
      have HLR := Lib.hid hlR
      have hC1 : n + j + 1 < lR → ∃ ad5, A5 = some ad5 ∧ ad5.block < wr.heap.size ∧ wr.cell? (ad5.add (n + j + 1)) = some (.int .u64 (((limbs R).getD (n + j + 1) 0 : Nat) : Int)) := fun h => hrd5.int (by omega)
      have hC0 : n + j < lR → ∃ ad5, A5 = some ad5 ∧ ad5.block < wr.heap.size ∧ wr.cell? (ad5.add (n + j)) = some (.int .u64 (((limbs R).getD (n + j) 0 : Nat) : Int)) := fun h => hrd5.int (by omega)
      have HC1 := Lib.hid hC1
      have HC0 := Lib.hid hC0
      generalize (limbs R).getD (n + j + 1) 0 = r1 at *
      generalize (limbs R).getD (n + j) 0 = r0 at *
      clear hlR hC1 hC0 hvl hrd5
      have hsq := hbel.size
      go_upto_if 83 with (at_builtin; refine wpL_append _ rfl (.tmp 75) (.tmp 76) _ rfl wr.heap.size 67 i0 _ 1 8 Tryz.underlying72 hi0 hz0' hz1' hz2' rfl (by omega) (.slice (some ⟨wr.heap.size, 0, none⟩) j j) j _ rfl ho (some ad3) (n + 1) c3 (ints .u64 (limbs (b * f))) rfl hvl'.out (hvrd.alloc (Nat.le_refl _) _) (ints_one _ _) (by unfold maxLen; omega) (by omega) (by simp) ?_; intro v7 w7 hown7 hg7 hat7)
      have hB7' : Below wr.heap.size wr w7 := below_app (below_alloc wr _) hg7 (by simp) ho (Nat.le_refl _)
      have hB7 := hbel.trans (hB7'.mono hsq)
      have hS7 : IsN w7 w7.heap.size .u64 v7 (b * f * B ^ j) := by
        rw [hsh.out, ← hshl.out] at hown7
        exact own_isN hown7 rfl
      have hR7 := HRIS.out.next hB7'
      have hk7 := hbkq.below hB7' hbq
      have hsz7 := hB7.size
      clear hg7 hat7 hown7 ho hvrd hmkj
      go_cut [15] from 70 to 133 (fun tv wx => tv = .int .u64 ((r1 : Int) * 1000000000) ∧ w7 = wx)
      case first =>
        rcases Nat.lt_or_ge (n + j + 1) lR with h5 | h5
        · obtain ⟨ad5, rfl, hb5, hc5⟩ := HC1.out h5
          have hc6 := (hB7'.cell (p := ad5.add (n + j + 1)) (by rw [addr_block]; exact hb5)).trans hc5
          rw [show n + j + 1 = j + (n + 1) by omega] at hc6
          clear hc5
          go_wp2
          go_meet
          exact ⟨rfl, rfl⟩
        · have h6 := hz1.out h5
          subst h6
          go_wp2
          go_meet
          exact ⟨rfl, rfl⟩
      case rest =>
      obtain ⟨rfl, rfl⟩ := hcut
      go_upto_if 97 with (fail)
      go_cut [15] from 70 to 133 (fun tv wx => tv = .int .u64 ((r1 : Int) * 1000000000 + (r0 : Int)) ∧ w7 = wx)
      case first =>
        rcases Nat.lt_or_ge (n + j) lR with h5 | h5
        · obtain ⟨ad5, rfl, hb5, hc5⟩ := HC0.out h5
          have hc6 := (hB7'.cell (p := ad5.add (n + j)) (by rw [addr_block]; exact hb5)).trans hc5
          rw [show n + j = j + n by omega] at hc6
          clear hc5
          go_wp2
          go_meet
          exact ⟨rfl, rfl⟩
        · have h6 := hz0.out h5
          subst h6
          go_wp2
          go_meet
          exact ⟨by simp, rfl⟩
      case rest =>
      obtain ⟨rfl, rfl⟩ := hcut
      have hc8 := hcells.out w7 hB7
      have hx0 : (0 : Int) ≤ ((r1 : Int) * 1000000000 + (r0 : Int)) / (t2 : Int) := Int.ediv_nonneg (by omega) (by omega)
      have hx1 : ((r1 : Int) * 1000000000 + (r0 : Int)) / (t2 : Int) ≤ (r1 : Int) * 1000000000 + (r0 : Int) := Int.ediv_le_self _ (by omega)
      have START : Hid (∀ x : Int, (x = ((r1 : Int) * 1000000000 + (r0 : Int)) / (t2 : Int) ∨ 999999999 < ((r1 : Int) * 1000000000 + (r0 : Int)) / (t2 : Int) ∧ x = 999999999) → x ≤ 999999999 → ∃ G : Nat, Value.int .u64 x = .int .u64 G ∧ G ≤ 999999999 ∧ Hid (R / (b * f * B ^ j) ≤ G)) := by
        have e : ((r1 : Int) * 1000000000 + (r0 : Int)) / (t2 : Int) = (((r1 * B + r0) / t2 : Nat) : Int) := by rw [B_eq]; simp
        intro x hx hx9
        rw [e] at hx
        have hgg := HGG.out
        have h0 : 0 ≤ x := by
          rcases hx with rfl | ⟨_, rfl⟩
          · exact Int.natCast_nonneg _
          · decide
        have hn9 : x.toNat ≤ 999999999 := by clear hx; omega
        refine ⟨x.toNat, by rw [Int.toNat_of_nonneg h0], hn9, ?_⟩
        show _ ≤ x.toNat
        refine Nat.le_trans hgg ?_
        rcases hx with rfl | ⟨h1, rfl⟩
        · exact Nat.min_le_left _ _
        · exact Nat.le_trans (Nat.min_le_right _ _) (by decide)
      obtain ⟨wo, hwo⟩ : ∃ wo : World, wo = wr := ⟨_, rfl⟩
      subst hwo
      go_wp2_with fail
      all_goals
        clear hx0 hx1 hc8 HC1 HC0 hz1 hz0
        go_loopw [16] (fun gv wi => ∃ G : Nat, gv = .int .u64 G ∧ G ≤ 999999999 ∧ Hid (R / (b * f * B ^ j) ≤ G) ∧ Below w7.heap.size w7 wi) (fun gv _ => (intOf gv).toNat)
        case atStart =>
          obtain ⟨G, h1, h2, h3⟩ := START.out _ (by first | exact .inr ⟨by assumption, by rfl⟩ | exact .inl rfl) (by omega)
          exact ⟨G, h1, h2, h3, Below.refl _ _⟩
        case round =>
          obtain ⟨G, rfl, hGB, HGL, hbi⟩ := hrel
          have hSi := hS7.next hbi
          have hRi := hR7.next hbi
          have hki := hk7.below hbi hk7.lt
          have hlG : (limbs G).length ≤ 1 := limbs_len_le (by rw [Nat.pow_one, B_eq]; omega)
          have hsi := hbi.size
          have hGI : (G : Int) ≤ 999999999 := by omega
          go_wp2_with fail
          refine (natOf_any G _ (by omega)).mono ?_
          rintro e x1 ⟨hb1, g1, rfl, hg1⟩
          go_wp2_with fail
          refine (nmul_any (b * f * B ^ j) G _ _ x1 (hSi.next hb1) hg1 (by rw [hshl.out]; omega) (by omega)).mono ?_
          rintro e x2 ⟨hb2, p2, rfl, hp2⟩
          have hlp : (limbs (b * f * B ^ j * G)).length ≤ 1600000000000 := Nat.le_trans (len_mul_le _ _) (by rw [hshl.out]; omega)
          have hR2 := (hRi.next hb1).next hb2
          go_wp2_with fail
          refine (ncmp_any (b * f * B ^ j * G) R _ _ x2 hp2 hR2 (by omega)).mono ?_
          rintro e x3 ⟨rfl, q, rfl⟩
          have hb3 : Below wr.heap.size wr (x2.drewN q) := below_drewN (hb1.trans (hb2.mono hb1.size)) q
          clear hb1 hb2 hg1 hp2 hlp hR2
          by_cases hle : b * f * B ^ j * G ≤ R
          · have hc : ¬ 0 < cmpN (b * f * B ^ j * G) R := by
              unfold cmpN; split
              · omega
              · rw [if_neg (by omega)]; omega
            have HLE := Lib.hid hle
            clear hle
            generalize cmpN (b * f * B ^ j * G) R = cz at *
            have hb4 := hb3.size
            go_wp2_with fail
            refine (natOf_any G (x2.drewN q) (by omega)).mono ?_
            rintro e y1 ⟨hb1, g1, rfl, hg1⟩
            have c1 := hb3.trans (hb1.mono hb4)
            go_wp2_with fail
            refine (nmul_any (b * f * B ^ j) G _ _ y1 (hSi.next c1) hg1 (by rw [hshl.out]; omega) (by omega)).mono ?_
            rintro e y2 ⟨hb2, p2, rfl, hp2⟩
            have c2 := c1.trans (hb2.mono c1.size)
            go_wp2_with fail
            refine (nsub_any R (b * f * B ^ j * G) _ _ y2 (hRi.next c2) hp2 HLE.out (by rw [HLR.out]; omega)).mono ?_
            rintro e y3 ⟨hb5, r3, rfl, hr3, hfrx⟩
            have hy2 : w4.heap.size < y2.heap.size := Nat.lt_of_lt_of_le hki.lt c2.size
            have c3 := c2.trans (hb5.mono c2.size)
            have hk9 := hki.below c3 hki.lt
            have hfr9 := hk9.frozen j
            have hcl9 := hk9.cell j
            rw [ints_getD .u64 qs (by rw [HQ.out.ql]; omega)] at hcl9
            have hjm : (j : Int) < m := by omega
            have D := HQ.out.next (by omega) HLE.out HGL.out HVP.out
            have HD := Lib.hid D
            have cB := hbi.trans (c3.mono hsi)
            have cB2 := hB7.trans (cB.mono hsz7)
            clear D c1 c2 c3 hb1 hb2 hb3 hb5 hg1 hp2 hb4
            go_wp2
            go_roundw
            case rel =>
              refine ⟨j, _, qs.set j G, by omega, by go_num, ?_, HD.out.1, ?_, cB2.setCell (Nat.le_refl _) _⟩
              · exact (hr3.set hfrx (p := ⟨w4.heap.size, j, none⟩) hy2 _).more (by simp [World.setCell])
              · have := hk9.put j (.int .u64 (G : Int))
                rw [ints_set] at this
                exact this
            case measure => simp [intOf]
          · have hc : 0 < cmpN (b * f * B ^ j * G) R := by rw [cmpN_gt (by omega)]; decide
            have hG1 : 1 ≤ G := by
              rcases Nat.eq_zero_or_pos G with h0 | h0
              · subst h0; rw [Nat.mul_zero] at hle; exact absurd (Nat.zero_le _) hle
              · exact h0
            have HGN : Hid (R / (b * f * B ^ j) ≤ G - 1) := by
              have : R / (b * f * B ^ j) < G := Nat.div_lt_of_lt_mul (by omega)
              show _ ≤ _
              omega
            clear hle
            generalize cmpN (b * f * B ^ j * G) R = cz at *
            go_wp2
            go_roundw
            case rel => exact ⟨G - 1, by go_num, by omega, HGN, hbi.trans (hb3.mono hbi.size)⟩
            case measure => simp [intOf]; omega

theorem ndiv_any (a b : Nat) (v u : Value) (w : World) (hb0 : 0 < b) (h : IsN w w.heap.size .u64 v a) (h' : IsN w w.heap.size .u64 u b) (hl : (limbs a).length ≤ 400000000000) :
    Calls Tryz.prog 150 #[v, u] w fun e w' => Below w.heap.size w w' ∧ ∃ q r, e = .returned (.tuple #[q, r]) ∧ IsN w' w'.heap.size .u64 q (a / b) ∧ IsN w' w'.heap.size .u64 r (a % b) := by
  rcases Nat.lt_or_ge a b with h1 | h1
  · exact ndiv_lt a b v u w h1 h h' (by omega)
  · rcases Nat.lt_or_ge b B with h2 | h2
    · exact ndiv_one a b v u w h1 hb0 h2 h h' (by omega)
    · exact ndiv_big a b v u w h1 hb0 h2 h h' hl

open Classical in
/-- The number in memory. -/
noncomputable def numOf64 (w : World) (v : Value) : Nat := if h : ∃ y, IsN w w.heap.size .u64 v y then h.choose else 0
theorem IsN.inj64 {w : World} {B B' : Nat} {k : IntKind} {v : Value} {n n' : Nat} (h : IsN w B k v n) (h' : IsN w B' k v n') : n = n' := by
  obtain ⟨A, c, e, _, h3⟩ := h
  obtain ⟨A', c', e', _, k3⟩ := h'
  rw [e] at e'
  injection e' with e1 e2 e3
  subst e1
  have : limbs n = limbs n' := by
    apply List.ext_getElem e2
    intro j h1 h2
    obtain ⟨ad, e4, _, h5⟩ := h3.int h1
    obtain ⟨ad', e6, _, h7⟩ := k3.int h2
    rw [e4] at e6
    injection e6 with e6
    subst e6
    rw [h5] at h7
    injection h7 with h7
    injection h7 with _ h7
    rw [List.getD_eq_getElem?_getD, List.getElem?_eq_getElem h1, List.getD_eq_getElem?_getD, List.getElem?_eq_getElem h2] at h7
    simp at h7; omega
  rw [← val_limbs n, ← val_limbs n', this]
theorem numOf64_eq {w : World} {v : Value} {y : Nat} (h : IsN w w.heap.size .u64 v y) : numOf64 w v = y := by
  have h' : ∃ y, IsN w w.heap.size .u64 v y := ⟨y, h⟩
  unfold numOf64
  rw [dif_pos h']
  exact h'.choose_spec.inj64 h

set_option maxHeartbeats 400000 in
theorem ngcd_any (a b : Nat) (v u : Value) (w : World) (h : IsN w w.heap.size .u64 v a) (h' : IsN w w.heap.size .u64 u b) (hl : (limbs a).length ≤ 400000000000) (hl' : (limbs b).length ≤ 400000000000) :
    Calls Tryz.prog 149 #[v, u] w fun e w' => Below w.heap.size w w' ∧ ∃ v, e = .returned v ∧ IsN w' w'.heap.size .u64 v (Nat.gcd a b) := by
  go_enter Tryz.func149, Tryz.ntmps149
  go_wp2_with fail
  go_loopw [0, 1] (fun va vb wr => ∃ x y : Nat, IsN wr wr.heap.size .u64 va x ∧ IsN wr wr.heap.size .u64 vb y ∧ Hid (Nat.gcd x y = Nat.gcd a b) ∧ (limbs x).length ≤ 400000000000 ∧ (limbs y).length ≤ 400000000000 ∧ Below w.heap.size w wr) (fun _ vb wr => numOf64 wr vb)
  case atStart => exact ⟨a, b, h, h', rfl, hl, hl', Below.refl _ _⟩
  case round =>
    obtain ⟨x, y, hx, hy, HG, hlx, hly, hbel⟩ := hrel
    have HY := Lib.hid hy
    have HX := Lib.hid hx
    obtain ⟨A, c, rfl, h1, h3⟩ := hy
    rcases Nat.eq_zero_or_pos y with rfl | hy0
    · have HO : IsN wr wr.heap.size .u64 u0 (Nat.gcd a b) := by rw [← HG.out, Nat.gcd_zero_right]; exact hx
      rw [limbs_zero]
      clear h1 h3 hx
      go_wp2
      go_ret
      exact ⟨hbel, _, rfl, HO⟩
    · have hyl := limbs_len_pos hy0
      have hm := Nat.mod_lt x hy0
      have hml := len_mono (Nat.le_of_lt hm)
      have HM := Lib.hid hm
      generalize hln : (limbs y).length = m at *
      have HLN := Lib.hid hln
      clear hln hm h3 hx
      go_wp2_with fail
      refine (ndiv_any x y _ _ wr hy0 HX.out HY.out hlx).mono ?_
      rintro e w2 ⟨hb2, q, r, rfl, hq, hr⟩
      go_wp2
      go_roundw
      case rel => exact ⟨y, x % y, HY.out.next hb2, hr, by show _ = _; rw [gcd_step]; exact HG.out, by rw [HLN.out]; exact hly, by omega, hbel.trans (hb2.mono hbel.size)⟩
      case measure =>
        rw [numOf64_eq hr, numOf64_eq HY.out]
        exact HM.out
end Go.Proofs.YtpkhgdnkkdhlcaaGreatDoor

