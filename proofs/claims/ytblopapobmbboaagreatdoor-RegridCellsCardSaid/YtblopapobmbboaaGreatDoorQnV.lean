/-
  Walks: the reference's natural numbers: trim, NatOf, NatCmp.
  Walks: the reference's natural numbers: NatAdd, NatSub.
-/
import Derived.Test.YtblopapobmbboaaGreatDoorNatE
import Derived.Test.YtblopapobmbboaaGreatDoorQdivM
import Derived.Outline
namespace Go.Proofs.YtblopapobmbboaaGreatDoor
open Go.RowKit Ar

set_option maxHeartbeats 400000 in
theorem qtrim_any (A : Option Addr) (c n : Nat) (l : List Nat) (w : World) (hn : l.length = n) (hc : n ≤ c) (hm : n ≤ 4000000000000) (h : Rd w w.heap.size A (ints .u64 l)) :
    Calls Tryz.prog 112 #[.slice A n c] w fun e w' => w = w' ∧ ∃ k, Trimmed l k ∧ e = .returned (.slice A k c) := by
  subst hn
  go_enter Tryz.func112, Tryz.ntmps112
  go_wp2
  go_loop [3] (fun n => ∃ k : Nat, k ≤ l.length ∧ n = .int .i64 k ∧ ∀ j, k ≤ j → j < l.length → l.getD j 0 = 0) (fun n => (intOf n).toNat)
  case atStart => exact ⟨l.length, Nat.le_refl _, rfl, fun j h1 h2 => by omega⟩
  case round =>
    obtain ⟨k, hk, rfl, hz⟩ := hrel
    rcases Nat.eq_zero_or_pos k with rfl | hk0
    · have HT : Trimmed l 0 := ⟨Nat.zero_le _, hz, .inl rfl⟩
      clear hz
      go_wp2
      go_ret
      exact ⟨rfl, 0, HT, rfl⟩
    · obtain ⟨j, rfl⟩ : ∃ j, k = j + 1 := ⟨k - 1, by omega⟩
      obtain ⟨ad, rfl, hb, hcell⟩ := h.int (j := j) (by omega)
      by_cases h0 : l.getD j 0 = 0
      · have HZ : Hid (∀ i, j ≤ i → i < l.length → l.getD i 0 = 0) := fun i h1 h2 => by
          by_cases e : i = j
          · subst e; exact h0
          · exact hz i (by omega) h2
        rw [h0] at hcell
        clear hz h0 hk0
        go_wp2
        go_round
        case rel => exact ⟨j, by omega, by go_num, HZ.out⟩
        case measure => simp [intOf]
      · have HT : Trimmed l (j + 1) := ⟨hk, hz, .inr (Nat.pos_of_ne_zero h0)⟩
        generalize l.getD j 0 = x at *
        clear hz
        go_wp2
        go_ret
        exact ⟨rfl, j + 1, HT, rfl⟩

theorem u64_info : (Tryz.prog.info? 99).map (fun i => (i.zero, i.size, i.bytes)) = some (some (.int .u64 0), 1, 8) := by kernel_rfl
theorem make_u64 (n : Nat) (x : Int) (hx : x = (n : Int)) (hn : n ≤ 4000000000000) (w : World) :
    (Instr.makeSlice 57 (.int .i64 x) (.int .i64 x)).run Tryz.prog w = .ok (.slice (some ⟨w.heap.size, 0, none⟩) n n) (w.alloc (.cells (ints .u64 (List.replicate n 0)).toArray 99)) := by
  obtain ⟨i0, hi0, hz0, hz1, hz2⟩ := info_parts u64_info
  exact make_ints _ _ i0 .u64 Tryz.underlying57 hi0 hz0 hz1 (by omega) _ _ n x hx hn w

set_option maxHeartbeats 400000 in
theorem natOf_any (n : Nat) (w : World) (hn : n ≤ 1000000000000000000) :
    Calls Tryz.prog 88 #[.int .u64 n] w fun e w' => Below w.heap.size w w' ∧ ∃ v, e = .returned v ∧ IsN w' w'.heap.size .u64 v n := by
  obtain ⟨i0, hi0, hz0, hz1, hz2⟩ := info_parts u64_info
  have hlen : (limbs n).length ≤ 3 := limbs_len_le (by rw [B_eq]; omega)
  go_enter Tryz.func88, Tryz.ntmps88
  go_wp2_with fail
  go_loopw [0, 3] (fun nv out wr => ∃ (r : Nat) (xs : List Nat), nv = .int .u64 r ∧ r ≤ n ∧ Hid (limbs n = xs ++ limbs r) ∧ xs.length ≤ 3 ∧ wr.ownsRow w.heap.size 99 1 out xs.length (ints .u64 xs) ∧ Below w.heap.size w wr) (fun nv _ _ => (intOf nv).toNat)
  case atStart => exact ⟨n, [], rfl, Nat.le_refl _, rfl, by simp, World.ownsRow_nil _ _ _ _, Below.refl _ _⟩
  case round =>
    obtain ⟨r, xs, rfl, hr, HX, hxs, hown, hbel⟩ := hrel
    rcases Nat.eq_zero_or_pos r with rfl | hr0
    · go_wp2
      go_ret
      refine ⟨hbel, _, rfl, ?_⟩
      have e : limbs n = xs := by rw [HX.out, limbs_zero, List.append_nil]
      rcases hown.2 with ⟨hv, hz⟩ | ⟨g, cap, cur, hv, _, _, hc, _⟩
      · have : xs = [] := List.eq_nil_of_length_eq_zero hz
        show IsN wr wr.heap.size .u64 u3 n
        rw [hv]
        exact ⟨none, 0, by rw [e, this]; rfl, by rw [e, this]; exact Nat.le_refl _, by rw [e, this]; exact Rd.nil⟩
      · show IsN wr wr.heap.size .u64 u3 n
        rw [hv] at hown ⊢
        exact ⟨_, cap, by rw [e], by rw [e]; exact hc, by rw [e]; exact Rd.of_own hown⟩
    · have hlx : xs.length + 1 ≤ 3 := by
        have := congrArg List.length HX.out
        rw [List.length_append] at this
        have := limbs_len_pos hr0
        omega
      go_wp2_with (at_builtin; refine wpL_append _ rfl (.tmp 6) (.tmp 9) _ rfl w.heap.size 99 i0 _ 1 8 Tryz.underlying57 hi0 hz0 hz1 hz2 rfl (by omega) _ xs.length (ints .u64 xs) rfl (hown.alloc _) (some ⟨wr.heap.size, 0, none⟩) 1 1 [.int .u64 ((r : Int) % 1000000000)] rfl rfl (Rd.of_new wr [.int .u64 ((r : Int) % 1000000000)] 99) (by intro u hu; simp at hu; subst hu; rfl) (by unfold maxLen; omega) (by omega) (by have := hbel.size; simp; omega) ?_; intro v1 w1 hown1 hg1 hat1)
      go_roundw
      case rel =>
        refine ⟨r / 1000000000, xs ++ [r % 1000000000], by simp, by omega, ?_, by simp; omega, ?_, ?_⟩
        · show limbs n = _
          rw [HX.out, limbs_pos hr0, B_eq]; simp
        · have e : ints .u64 (xs ++ [r % 1000000000]) = ints .u64 xs ++ [.int .u64 ((r : Int) % 1000000000)] := by simp [ints]
          rw [e]; simpa using hown1
        · exact below_app (hbel.alloc hbel.size _) hg1 (by have := hbel.size; simp; omega) (hown.alloc _) (Nat.le_refl _)
      case measure => simp [intOf]; omega

set_option maxHeartbeats 800000 in
theorem ncmp_any (a b : Nat) (v u : Value) (w : World) (h : IsN w w.heap.size .u64 v a) (h' : IsN w w.heap.size .u64 u b) (hl : (limbs a).length ≤ 2000000000000) :
    Calls Tryz.prog 84 #[v, u] w fun e w' => e = .returned (.int .i64 (cmpN a b)) ∧ ∃ n, w' = w.drewN n := by
  obtain ⟨A, c, rfl, h1, h3⟩ := h
  obtain ⟨A2, c2, rfl, k1, k3⟩ := h'
  rcases Nat.lt_trichotomy (limbs a).length (limbs b).length with hlt | heq | hgt
  · rw [cmpN_lt (lt_of_len hlt)]
    clear h1 k1 h3 k3
    generalize (limbs a).length = n at *
    generalize (limbs b).length = m at *
    go_enter Tryz.func84, Tryz.ntmps84
    go_wp2
    go_ret
    exact ⟨rfl, 0, rfl⟩
  · have hv := val_limbs a
    have hsm := Small.limbs a
    have kv := val_limbs b
    have ksm := Small.limbs b
    generalize limbs a = l at *
    generalize limbs b = m at *
    have HE := Lib.hid heq
    have hml : m.length ≤ l.length := by omega
    have hlm : l.length ≤ m.length := by omega
    rw [← heq]
    rw [← heq] at k1
    clear heq
    go_enter Tryz.func84, Tryz.ntmps84
    go_wp2
    go_loopw [5] (fun i wr => ∃ j q : Nat, j ≤ l.length ∧ i = .int .i64 ((j : Int) - 1) ∧ Hid (l.drop j = m.drop j) ∧ wr = w.drewN q) (fun i _ => (intOf i + 1).toNat)
    case atStart => exact ⟨l.length, 0, Nat.le_refl _, rfl, by show l.drop _ = m.drop _; rw [List.drop_of_length_le (Nat.le_refl _), List.drop_of_length_le hml], rfl⟩
    case round =>
      obtain ⟨j, q, hj, rfl, HD, rfl⟩ := hrel
      rcases Nat.eq_zero_or_pos j with rfl | hj0
      · rw [show (((0 : Nat) : Int) - 1) = -1 from rfl]
        have hab : a = b := by
          have := HD.out
          rw [List.drop_zero, List.drop_zero] at this
          rw [← hv, ← kv, this]
        have HL := Lib.hid hab
        clear hab
        go_wp2
        go_ret
        exact ⟨ret_int (cmpN_eq HL.out).symm, q, rfl⟩
      · obtain ⟨i, rfl⟩ : ∃ i, j = i + 1 := ⟨j - 1, by omega⟩
        rw [show (((i + 1 : Nat) : Int) - 1) = (i : Int) by omega]
        obtain ⟨ad, rfl, hb, hcell⟩ := h3.int (j := i) (by omega)
        obtain ⟨ad2, rfl, hb2, hcell2⟩ := k3.int (j := i) (by omega)
        have hi0 : (0 : Int) ≤ (i : Int) := by omega
        have hi1 : (i : Int) < (l.length : Int) := by omega
        rcases Nat.lt_trichotomy (l.getD i 0) (m.getD i 0) with hx | hx | hx
        · have HL : Hid (a < b) := by show a < b; rw [← hv, ← kv]; exact lt_of_top hsm HE.out (by omega) HD.out hx
          generalize l.getD i 0 = x at *
          generalize m.getD i 0 = y at *
          clear hj0
          go_wp2
          go_quiet (fail)
          go_wp2
          go_ret
          exact ⟨ret_int (cmpN_lt HL.out).symm, by simp only [World.drewN_drewN]; exact ⟨_, rfl⟩⟩
        · have HN : Hid (l.drop i = m.drop i) := by
            show l.drop i = m.drop i
            rw [List.drop_eq_getElem_cons (by omega : i < l.length), List.drop_eq_getElem_cons (by omega : i < m.length), HD.out]
            congr 1
            rw [List.getD_eq_getElem?_getD, List.getElem?_eq_getElem (by omega : i < l.length), List.getD_eq_getElem?_getD, List.getElem?_eq_getElem (by omega : i < m.length)] at hx
            exact hx
          rw [← hx] at hcell2
          generalize l.getD i 0 = x at *
          clear hx hj0
          go_wp2
          go_quiet (fail)
          go_wp2
          go_quiet (fail)
          go_wp2
          go_roundw
          case rel => exact ⟨i, _, by omega, by go_num, HN, rfl⟩
          case measure => simp [intOf]
        · have HL : Hid (b < a) := by show b < a; rw [← hv, ← kv]; exact lt_of_top ksm HE.out.symm (by omega) HD.out.symm hx
          generalize l.getD i 0 = x at *
          generalize m.getD i 0 = y at *
          clear hj0
          go_wp2
          go_quiet (fail)
          go_wp2
          go_quiet (fail)
          go_wp2
          go_ret
          exact ⟨ret_int (cmpN_gt HL.out).symm, by simp only [World.drewN_drewN]; exact ⟨_, rfl⟩⟩
  · rw [cmpN_gt (lt_of_len hgt)]
    clear h1 k1 h3 k3
    generalize (limbs a).length = n at *
    generalize (limbs b).length = m at *
    go_enter Tryz.func84, Tryz.ntmps84
    go_wp2
    go_ret
    exact ⟨rfl, 0, rfl⟩
end Go.Proofs.YtblopapobmbboaaGreatDoor

namespace Go.Proofs.YtblopapobmbboaaGreatDoor
open Go.RowKit Ar

theorem limbs_full {xs : List Nat} (hs : Small xs) (h : xs = [] ∨ B ^ (xs.length - 1) ≤ val xs) : limbs (val xs) = xs := by
  refine limbs_val hs ?_
  rcases h with h | h
  · exact .inl h
  · rcases List.eq_nil_or_concat xs with h0 | ⟨m, x, rfl⟩
    · exact .inl h0
    · refine .inr ⟨m, x, by simp, ?_⟩
      rcases Nat.eq_zero_or_pos x with h0 | h0
      · subst h0
        rw [List.concat_eq_append, val_snoc, Nat.mul_zero, Nat.add_zero] at h
        have := val_lt (l := m) (fun y hy => hs y (by simp [hy]))
        simp at h
        omega
      · exact h0
/-- 'make' of a row that is empty yet. -/
theorem make0_u64 (n : Nat) (x : Int) (hx : x = (n : Int)) (hn : n ≤ 4000000000000) (w : World) :
    (Instr.makeSlice 57 (.int .i64 0) (.int .i64 x)).run Tryz.prog w = .ok (.slice (some ⟨w.heap.size, 0, none⟩) 0 n) (w.alloc (.cells (ints .u64 (List.replicate n 0)).toArray 99)) := by
  obtain ⟨i0, hi0, hz0, hz1, hz2⟩ := info_parts u64_info
  subst hx
  have h1 : (i0.bytes : Int) * (n : Int) ≤ 281474976710656 := by rw [hz2]; omega
  have hr := run_make (P := Tryz.prog) w _ _ i0 (.int .u64 0) Tryz.underlying57 hi0 hz0 .i64 .i64 0 n (by omega) (by omega) h1 (by omega)
  rw [hr, hz1]
  have e1 : madeCells (Value.cells (.int .u64 0)) ((n : Int).toNat * 1) = (ints .u64 (List.replicate n 0)).toArray := by
    apply Array.ext'
    have : Value.cells (.int .u64 0) = #[.int .u64 0] := rfl
    rw [this, toList_madeCells_one]
    simp [ints]
  rw [e1]
  simp
theorem own_made0 (w : World) (n : Nat) (hn : n ≤ 4000000000000) : (w.alloc (.cells (ints .u64 (List.replicate n 0)).toArray 99)).ownsRow w.heap.size 99 1 (.slice (some ⟨w.heap.size, 0, none⟩) 0 n) 0 [] :=
  World.ownsRow_made _ _ _ (Nat.le_refl _) (by unfold maxLen; omega) (by simp [ints_length])
theorem own_isN {w : World} {base : Nat} {T : TypeId} {k : IntKind} {v : Value} {xs : List Nat} {n : Nat} (h : w.ownsRow base T 1 v xs.length (ints k xs)) (e : limbs n = xs) : IsN w w.heap.size k v n := by
  rcases h.2 with ⟨hv, hz⟩ | ⟨g, cap, cur, hv, _, _, hc, _⟩
  · have : xs = [] := List.eq_nil_of_length_eq_zero hz
    rw [hv]
    exact ⟨none, 0, by rw [e, this]; rfl, by rw [e, this]; exact Nat.le_refl _, by rw [e, this]; exact Rd.nil⟩
  · rw [hv] at h ⊢
    exact ⟨_, cap, by rw [e], by rw [e]; exact hc, by rw [e]; exact Rd.of_own h⟩

/-- What a round of the sum makes. -/
theorem add_round {l m xs : List Nat} {j c x y s a b M : Nat} (hM : M = max l.length m.length) (hx : x < B) (hy : y < B) (hc : c ≤ 1) (hl : xs.length = j) (hs : Small xs) (hv : val xs + c * B ^ j = val (l.take j) + val (m.take j)) (hka : val l = a) (hkb : val m = b)
    (ex : val (l.take (j + 1)) = val (l.take j) + B ^ j * x) (ey : val (m.take (j + 1)) = val (m.take j) + B ^ j * y) (es : s = x + y + c) (hj : j < M ∨ (j = M ∧ c = 1)) :
    s / B ≤ 1 ∧ (xs ++ [s % B]).length = j + 1 ∧ Small (xs ++ [s % B]) ∧ val (xs ++ [s % B]) + s / B * B ^ (j + 1) = val (l.take (j + 1)) + val (m.take (j + 1)) ∧
      j + 1 ≤ M + 1 ∧ (j + 1 = M + 1 → s / B = 0 ∧ B ^ M ≤ a + b) := by
  subst hM
  refine ⟨carry_le hx hy hc es, by simp [hl], hs.append (Small.cons (Nat.mod_lt _ B_pos) Small.nil), ?_, by omega, fun h => ?_⟩
  · rw [val_snoc, hl, ex, ey, Nat.pow_succ]
    exact add_step hv es
  · have hj' : j = max l.length m.length := by omega
    have hc1 : c = 1 := by omega
    have hlx : l.length ≤ j := by omega
    have hly : m.length ≤ j := by omega
    rw [val_take_all l hlx, val_take_all m hly, hka, hkb, hc1] at hv
    have e1 : val (l.take (j + 1)) = val (l.take j) := by rw [val_take_all l hlx, val_take_all l (by omega)]
    have e2 : val (m.take (j + 1)) = val (m.take j) := by rw [val_take_all m hly, val_take_all m (by omega)]
    have p0 : 0 < B ^ j := Nat.pow_pos B_pos
    have x0 : x = 0 := by
      rcases Nat.eq_zero_or_pos x with h0 | h0
      · exact h0
      · have := Nat.mul_pos p0 h0; omega
    have y0 : y = 0 := by
      rcases Nat.eq_zero_or_pos y with h0 | h0
      · exact h0
      · have := Nat.mul_pos p0 h0; omega
    subst x0 y0
    refine ⟨?_, by rw [← hj']; omega⟩
    rw [es, hc1]; rfl
/-- What the sum is behind the last round. -/
theorem add_done {l m xs : List Nat} {j a b M : Nat} (hM : M = max l.length m.length) (hka : val l = a) (hkb : val m = b) (hla : limbs a = l) (hlb : limbs b = m) (hl : xs.length = j) (hs : Small xs) (hv : val xs + 0 * B ^ j = val (l.take j) + val (m.take j)) (h1 : l.length ≤ j) (h2 : m.length ≤ j)
    (ht : j ≤ M + 1) (ht2 : j = M + 1 → B ^ M ≤ a + b) : limbs (a + b) = xs := by
  subst hM
  rw [val_take_all l h1, val_take_all m h2, hka, hkb, Nat.zero_mul, Nat.add_zero] at hv
  rw [← hv]
  refine limbs_full hs ?_
  rcases Nat.eq_zero_or_pos j with h0 | h0
  · exact .inl (List.eq_nil_of_length_eq_zero (by omega))
  · right
    rw [hl, hv]
    rcases Nat.lt_or_ge (max l.length m.length) j with h3 | h3
    · have e : j - 1 = max l.length m.length := by omega
      rw [e]; exact ht2 (by omega)
    · rcases Nat.lt_or_ge l.length m.length with h4 | h4
      · have e : j = m.length := by omega
        have hb : 0 < b := by
          rcases Nat.eq_zero_or_pos b with hb | hb
          · rw [hb, limbs_zero] at hlb; rw [← hlb] at e; simp at e; omega
          · exact hb
        have := pow_len_le hb
        rw [hlb, ← e] at this
        omega
      · have e : j = l.length := by omega
        have hb : 0 < a := by
          rcases Nat.eq_zero_or_pos a with hb | hb
          · rw [hb, limbs_zero] at hla; rw [← hla] at e; simp at e; omega
          · exact hb
        have := pow_len_le hb
        rw [hla, ← e] at this
        omega

set_option maxRecDepth 100000 in
set_option maxHeartbeats 1600000 in
theorem nadd_any (a b : Nat) (v u : Value) (w : World) (h : IsN w w.heap.size .u64 v a) (h' : IsN w w.heap.size .u64 u b) (hl : (limbs a).length ≤ 1000000000000) (hl' : (limbs b).length ≤ 1000000000000) :
    Calls Tryz.prog 106 #[v, u] w fun e w' => Below w.heap.size w w' ∧ ∃ v, e = .returned v ∧ IsN w' w'.heap.size .u64 v (a + b) := by
  obtain ⟨A, c, rfl, h1, h3⟩ := h
  obtain ⟨A2, c2, rfl, k1, k3⟩ := h'
  have hv := val_limbs a
  have hsm := Small.limbs a
  have kv := val_limbs b
  have ksm := Small.limbs b
  obtain ⟨i0, hi0, hz0, hz1, hz2⟩ := info_parts u64_info
  generalize hga : limbs a = l at *
  generalize hgb : limbs b = m at *
  have HGA := Lib.hid hga
  have HGB := Lib.hid hgb
  have HA := Lib.hid hv
  have HB := Lib.hid kv
  clear hga hgb hv kv
  obtain ⟨M, hM⟩ : ∃ M, M = max l.length m.length := ⟨_, rfl⟩
  have hM1 : l.length ≤ M := by omega
  have hM2 : m.length ≤ M := by omega
  have hMm : M ≤ 1000000000000 := by omega
  have HM := Lib.hid hM
  clear hM
  have hmk := make0_u64 (m.length + 1) ((m.length : Int) + 1) (by omega) (by omega)
  have hmk2 := make0_u64 (l.length + 1) ((l.length : Int) + 1) (by omega) (by omega)
  go_enter Tryz.func106, Tryz.ntmps106
  go_wp2_with fail
  all_goals
    go_loopw [5, 6, 7] (fun out carry i wr => ∃ (j c : Nat) (xs : List Nat), i = .int .i64 j ∧ carry = .int .u64 c ∧ c ≤ 1 ∧ j ≤ M + 1 ∧ xs.length = j ∧ Small xs ∧ Hid (val xs + c * B ^ j = val (l.take j) + val (m.take j)) ∧ Hid (j = M + 1 → c = 0 ∧ B ^ (M) ≤ a + b) ∧
        wr.ownsRow w.heap.size 99 1 out j (ints .u64 xs) ∧ Below w.heap.size w wr) (fun _ _ i _ => M + 2 - (intOf i).toNat)
    case atStart => exact ⟨0, 0, [], rfl, rfl, by omega, by omega, rfl, Small.nil, by show _ = _; simp [val], (fun h => absurd h (by omega)), own_made0 w _ (by omega), (Below.refl _ _).alloc (Nat.le_refl _) _⟩
    case round =>
      obtain ⟨j, c', xs, rfl, rfl, hc', hj, hz, hzs, HV, HT, hown, hbel⟩ := hrel
      have hx : l.getD j 0 < 1000000000 := hsm.getD j
      have hy : m.getD j 0 < 1000000000 := ksm.getD j
      have FIN := Lib.hid (fun x y s (hx : x < B) (hy : y < B) ex ey es hj => add_round HM.out (l := l) (m := m) (xs := xs) (j := j) (c := c') (x := x) (y := y) (s := s) (a := a) (b := b) hx hy hc' hz hzs HV.out HA.out HB.out ex ey es hj)
      have HX := Lib.hid (val_take_ge l j)
      have HY := Lib.hid (val_take_ge m j)
      have hs5 := hbel.size
      rcases Nat.lt_or_ge j l.length with hlt | hge
      · obtain ⟨ad, rfl, hb, hcell⟩ := (h3.below hbel).int (j := j) hlt
        rcases Nat.lt_or_ge j m.length with hltb | hgeb
        · obtain ⟨ad2, rfl, hb2, hcell2⟩ := (k3.below hbel).int (j := j) hltb
          generalize l.getD j 0 = x at *
          generalize m.getD j 0 = y at *
          go_wp2_with (at_builtin; refine wpL_append _ rfl (.tmp 51) (.tmp 54) _ rfl w.heap.size 99 i0 _ 1 8 Tryz.underlying57 hi0 hz0 hz1 hz2 rfl (by omega) _ j (ints .u64 xs) rfl (hown.alloc _) (some ⟨wr.heap.size, 0, none⟩) 1 1 [.int .u64 (((c' : Int) + (x : Int) + (y : Int)) % 1000000000)] rfl rfl (Rd.of_new wr [.int .u64 (((c' : Int) + (x : Int) + (y : Int)) % 1000000000)] 99) (by intro u hu; simp at hu; subst hu; rfl) (by unfold maxLen; omega) (by omega) (by simp; omega) ?_; intro v1 w1 hown1 hg1 hat1)
          go_roundw
          case rel =>
            obtain ⟨f1, f2, f3, f4, f5, f6⟩ := FIN.out x y (c' + x + y) hx hy HX.out HY.out (by omega) (by omega)
            refine ⟨j + 1, (c' + x + y) / B, xs ++ [(c' + x + y) % B], by go_num, by congr 1, f1, f5, f2, f3, f4, f6, ?_, below_app (hbel.alloc hbel.size _) hg1 (by simp; omega) (hown.alloc _) (Nat.le_refl _)⟩
            have e : ints .u64 (xs ++ [(c' + x + y) % B]) = ints .u64 xs ++ [.int .u64 (((c' : Int) + (x : Int) + (y : Int)) % 1000000000)] := by simp [ints, B_eq]
            rw [e]; exact hown1
          case measure => simp [intOf]; omega
        · have hy0 : m.getD j 0 = 0 := getD_over m hgeb
          rw [hy0] at HY
          generalize l.getD j 0 = x at *
          clear hy0 hy
          go_wp2_with (at_builtin; refine wpL_append _ rfl (.tmp 51) (.tmp 54) _ rfl w.heap.size 99 i0 _ 1 8 Tryz.underlying57 hi0 hz0 hz1 hz2 rfl (by omega) _ j (ints .u64 xs) rfl (hown.alloc _) (some ⟨wr.heap.size, 0, none⟩) 1 1 [.int .u64 (((c' : Int) + (x : Int)) % 1000000000)] rfl rfl (Rd.of_new wr [.int .u64 (((c' : Int) + (x : Int)) % 1000000000)] 99) (by intro u hu; simp at hu; subst hu; rfl) (by unfold maxLen; omega) (by omega) (by simp; omega) ?_; intro v1 w1 hown1 hg1 hat1)
          all_goals
            go_roundw
            case rel =>
              obtain ⟨f1, f2, f3, f4, f5, f6⟩ := FIN.out x 0 (c' + x) hx B_pos HX.out HY.out (by omega) (by omega)
              refine ⟨j + 1, (c' + x) / B, xs ++ [(c' + x) % B], by go_num, by congr 1, f1, f5, f2, f3, f4, f6, ?_, below_app (hbel.alloc hbel.size _) hg1 (by simp; omega) (hown.alloc _) (Nat.le_refl _)⟩
              have e : ints .u64 (xs ++ [(c' + x) % B]) = ints .u64 xs ++ [.int .u64 (((c' : Int) + (x : Int)) % 1000000000)] := by simp [ints, B_eq]
              rw [e]; exact hown1
            case measure => simp [intOf]; omega
      · have hx0 : l.getD j 0 = 0 := getD_over l hge
        rw [hx0] at HX
        clear hx hx0
        rcases Nat.lt_or_ge j m.length with hltb | hgeb
        · obtain ⟨ad2, rfl, hb2, hcell2⟩ := (k3.below hbel).int (j := j) hltb
          generalize m.getD j 0 = y at *
          go_wp2_with (at_builtin; refine wpL_append _ rfl (.tmp 51) (.tmp 54) _ rfl w.heap.size 99 i0 _ 1 8 Tryz.underlying57 hi0 hz0 hz1 hz2 rfl (by omega) _ j (ints .u64 xs) rfl (hown.alloc _) (some ⟨wr.heap.size, 0, none⟩) 1 1 [.int .u64 (((c' : Int) + (y : Int)) % 1000000000)] rfl rfl (Rd.of_new wr [.int .u64 (((c' : Int) + (y : Int)) % 1000000000)] 99) (by intro u hu; simp at hu; subst hu; rfl) (by unfold maxLen; omega) (by omega) (by simp; omega) ?_; intro v1 w1 hown1 hg1 hat1)
          all_goals
            go_roundw
            case rel =>
              obtain ⟨f1, f2, f3, f4, f5, f6⟩ := FIN.out 0 y (c' + y) B_pos hy HX.out HY.out (by omega) (by omega)
              refine ⟨j + 1, (c' + y) / B, xs ++ [(c' + y) % B], by go_num, by congr 1, f1, f5, f2, f3, f4, f6, ?_, below_app (hbel.alloc hbel.size _) hg1 (by simp; omega) (hown.alloc _) (Nat.le_refl _)⟩
              have e : ints .u64 (xs ++ [(c' + y) % B]) = ints .u64 xs ++ [.int .u64 (((c' : Int) + (y : Int)) % 1000000000)] := by simp [ints, B_eq]
              rw [e]; exact hown1
            case measure => simp [intOf]; omega
        · have hy0 : m.getD j 0 = 0 := getD_over m hgeb
          rw [hy0] at HY
          clear hy0 hy
          rcases Nat.eq_zero_or_pos c' with rfl | hc0
          · have HO := own_isN (n := a + b) (by rw [← hz] at hown; exact hown) (add_done HM.out HA.out HB.out HGA.out HGB.out hz hzs HV.out hge hgeb hj fun e => (HT.out e).2)
            go_wp2
            go_ret
            exact ⟨hbel, _, rfl, HO⟩
          · obtain rfl : c' = 1 := by omega
            have hjm : j = M := by
              have h5 : ¬ j = M + 1 := fun e => by have := (HT.out e).1; omega
              have h6 := HM.out
              omega
            have HJ := Lib.hid hjm
            clear hjm
            go_wp2_with (at_builtin; refine wpL_append _ rfl (.tmp 51) (.tmp 54) _ rfl w.heap.size 99 i0 _ 1 8 Tryz.underlying57 hi0 hz0 hz1 hz2 rfl (by omega) _ j (ints .u64 xs) rfl (hown.alloc _) (some ⟨wr.heap.size, 0, none⟩) 1 1 [.int .u64 1] rfl rfl (Rd.of_new wr [.int .u64 1] 99) (by intro u hu; simp at hu; subst hu; rfl) (by unfold maxLen; omega) (by omega) (by simp; omega) ?_; intro v1 w1 hown1 hg1 hat1)
            go_roundw
            case rel =>
              obtain ⟨f1, f2, f3, f4, f5, f6⟩ := FIN.out 0 0 1 B_pos B_pos HX.out HY.out (by omega) (.inr ⟨HJ.out, rfl⟩)
              refine ⟨j + 1, 1 / B, xs ++ [1 % B], by go_num, by congr 1, f1, f5, f2, f3, f4, f6, ?_, below_app (hbel.alloc hbel.size _) hg1 (by simp; omega) (hown.alloc _) (Nat.le_refl _)⟩
              have e : ints .u64 (xs ++ [1 % B]) = ints .u64 xs ++ [.int .u64 1] := by simp [ints, B_eq]
              rw [e]; exact hown1
            case measure => have := HJ.out; simp [intOf]; omega
end Go.Proofs.YtblopapobmbboaaGreatDoor
