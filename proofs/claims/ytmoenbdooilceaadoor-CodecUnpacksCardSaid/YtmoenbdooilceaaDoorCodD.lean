/-
  Walks: the reference of package codec: numbers of groups, groups, and groups joined.
-/
import Derived.Test.YtmoenbdooilceaaDoorCodC
namespace Go.Proofs.YtmoenbdooilceaaDoor
open Go.RowKit By

theorem Tryd.u64_info : (Tryd.prog.info? 40).map (fun i => (i.zero, i.size, i.bytes)) = some (some (.int .u64 0), 1, 8) := by kernel_rfl

set_option maxHeartbeats 400000 in
theorem rread_any (A : Option Addr) (c n : Nat) (l : List Nat) (w : World) (hn : l.length = n) (h8 : n ≤ 8) (hl : Bytes l) (h : Rd w w.heap.size A (ints .u8 l)) :
    Calls Tryd.prog 59 #[.slice A n c] w fun e w' => w = w' ∧ e = .returned (.int .u64 ((gv l : Nat) : Int)) := by
  subst hn
  go_enter Tryd.func59, Tryd.ntmps59
  go_wp2
  go_loop [3, 4] (fun o i => ∃ k : Nat, k ≤ l.length ∧ i = .int .i64 k ∧ o = .int .u64 ((gv (l.take k) : Nat) : Int)) (fun _ i => l.length - (intOf i).toNat)
  case atStart => exact ⟨0, Nat.zero_le _, rfl, rfl⟩
  case round =>
    obtain ⟨k, hk, rfl, rfl⟩ := hrel
    by_cases hlt : k < l.length
    · obtain ⟨ad, rfl, hb, hcell⟩ := h.int (j := k) hlt
      have hx : l.getD k 0 < 256 := hl.at_ k
      have hg : gv (l.take k) < 2 ^ 56 := Nat.lt_of_lt_of_le (gv_lt (n := k) (l := l.take k) (by simp; omega) (hl.take _)) (by
        rw [show (2 : Nat) ^ 56 = 256 ^ 7 from rfl]; exact Nat.pow_le_pow_right (by decide) (by omega))
      have HS : Hid (gv (l.take (k + 1)) = gv (l.take k) * 256 + l.getD k 0) := by
        show _ = _
        rw [List.take_succ_eq_append_getElem hlt, gv_snoc, List.getD_eq_getElem?_getD, List.getElem?_eq_getElem hlt]; rfl
      have HO := Lib.hid (or_byte hg hx)
      clear hg
      generalize l.getD k 0 = x at *
      generalize gv (l.take k) = g at *
      go_wp2
      go_round
      case rel => exact ⟨k + 1, by omega, by go_num, by rw [HO.out, HS.out]⟩
      case measure => simp [intOf]; omega
    · have HE : Hid (l.take k = l) := List.take_of_length_le (by omega)
      go_wp2
      go_ret
      exact ⟨rfl, by rw [HE.out]; rfl⟩

theorem gb_head {n X s : Nat} (h : s < n) : (gb n X).take (n - s) = (gb n X).take (n - (s + 1)) ++ [X / 256 ^ s % 256] := by
  have e : ∀ (m k : Nat), gb (m + k) X = gb m (X / 256 ^ k) ++ gb k X := by
    intro m k
    induction k generalizing X with
    | zero => simp [gb]
    | succ k ih =>
      show gb (m + k) (X / 256) ++ [X % 256] = _
      rw [ih, Nat.div_div_eq_div_mul, List.append_assoc, Nat.pow_succ, Nat.mul_comm 256]; rfl
  obtain ⟨m, rfl⟩ : ∃ m, n = m + 1 + s := ⟨n - (s + 1), by omega⟩
  rw [show m + 1 + s - s = m + 1 by omega, show m + 1 + s - (s + 1) = m by omega, e, List.take_append_of_le_length (by rw [gb_len]; omega), List.take_append_of_le_length (by rw [gb_len]; omega),
    List.take_of_length_le (by rw [gb_len]; omega)]
  show gb m (X / 256 ^ s / 256) ++ [X / 256 ^ s % 256] = (gb m (X / 256 ^ s / 256) ++ [X / 256 ^ s % 256]).take m ++ _
  rw [List.take_append_of_le_length (by rw [gb_len]; omega), List.take_of_length_le (by rw [gb_len]; omega)]

set_option maxRecDepth 100000 in
set_option maxHeartbeats 800000 in
theorem rnumber_any (n X : Nat) (w : World) (h8 : n ≤ 8) (hX : X < 2 ^ 64) :
    Calls Tryd.prog 60 #[.int .u64 (X : Int), .int .i64 n] w fun e w' => Below w.heap.size w w' ∧ ∃ v, e = .returned v ∧ w'.ownsRow w.heap.size 5 1 v n (ints .u8 (gb n X)) := by
  obtain ⟨i0, hi0, hz0, hz1, hz2⟩ := info_parts Tryd.u8_info
  have HX := Lib.hid hX
  clear hX
  go_enter Tryd.func60, Tryd.ntmps60
  go_wp2
  go_loopw [5, 6] (fun v i wr => ∃ t : Nat, t ≤ n ∧ ((t = 0 ∧ i = .int .i64 (-1)) ∨ (∃ s : Nat, t = s + 1 ∧ i = .int .i64 s)) ∧ wr.ownsRow w.heap.size 5 1 v (n - t) (ints .u8 ((gb n X).take (n - t))) ∧ Below w.heap.size w wr) (fun _ i _ => (intOf i + 1).toNat)
  case atStart =>
    refine ⟨n, Nat.le_refl _, ?_, ?_, Below.refl _ _⟩
    · rcases n with _ | m
      · exact .inl ⟨rfl, rfl⟩
      · exact .inr ⟨m, rfl, by go_num⟩
    · rw [Nat.sub_self]; exact World.ownsRow_nil _ _ _ _
  case round =>
    obtain ⟨t, ht, hi, hown, hB⟩ := hrel
    rcases hi with ⟨rfl, rfl⟩ | ⟨s, rfl, rfl⟩
    · have HE : Hid ((gb n X).take (n - 0) = gb n X) := List.take_of_length_le (by rw [gb_len]; omega)
      go_wp2
      go_ret
      refine ⟨hB, _, rfl, ?_⟩
      rw [HE.out] at hown
      exact hown
    · have HG := Lib.hid (gb_head (X := X) ht)
      have HE : Hid (Value.int .u8 ((X : Int) / 2 ^ (8 * s) % 256) = .int .u8 ((X / 256 ^ s % 256 : Nat) : Int)) := by
        show _ = _
        rw [show (256 : Nat) ^ s = 2 ^ (8 * s) by rw [show (256 : Nat) = 2 ^ 8 from rfl, Nat.pow_mul]]; simp
      go_wp2_with (at_builtin; refine wpL_append _ rfl (.tmp 13) (.tmp 19) _ rfl w.heap.size 5 i0 _ 1 1 Tryd.underlying22 hi0 hz0 hz1 hz2 rfl (by omega) _ (n - (s + 1)) (ints .u8 ((gb n X).take (n - (s + 1)))) rfl (hown.alloc _) (some ⟨wr.heap.size, 0, none⟩) 1 1 [.int .u8 ((X : Int) / 2 ^ (8 * s) % 256)] rfl rfl (Rd.of_new wr [.int .u8 ((X : Int) / 2 ^ (8 * s) % 256)] 5) (by intro u hu; simp at hu; subst hu; rfl) (by unfold maxLen; omega) (by omega) (by have := hB.size; simp; omega) ?_; intro v1 w1 hown1 hg1 hat1)
      have HO : Hid (w1.ownsRow w.heap.size 5 1 v1 (n - s) (ints .u8 ((gb n X).take (n - s)))) := by
        show World.ownsRow _ _ _ _ _ _ _
        rw [HG.out, ints_append]
        rw [HE.out] at hown1
        have e : n - (s + 1) + 1 = n - s := by omega
        rw [e] at hown1
        exact hown1
      have hB1 : Below w.heap.size w w1 := below_app (hB.alloc hB.size _) hg1 (by have := hB.size; simp; omega) (hown.alloc _) (Nat.le_refl _)
      clear hown hown1 HG HE
      go_wp2
      go_roundw
      case rel =>
        refine ⟨s, by omega, ?_, HO.out, hB1⟩
        rcases s with _ | m
        · exact .inl ⟨rfl, rfl⟩
        · exact .inr ⟨m, rfl, by go_num⟩
      case measure => simp [intOf]

/-- The numbers of the first k groups. -/
def gl (l : List Nat) (n k : Nat) : List Nat := (List.range k).map (G l n)
theorem gl_len (l : List Nat) (n k : Nat) : (gl l n k).length = k := by simp [gl]
theorem gl_succ (l : List Nat) (n k : Nat) : gl l n (k + 1) = gl l n k ++ [G l n k] := by simp [gl, List.range_succ]
theorem gl_at (l : List Nat) (n : Nat) {k j : Nat} (h : j < k) : (gl l n k).getD j 0 = G l n j := by
  simp [gl, List.getD_eq_getElem?_getD, List.getElem?_range h]

set_option maxRecDepth 100000 in
set_option maxHeartbeats 800000 in
theorem rgroups_any (A : Option Addr) (c n : Nat) (l : List Nat) (w : World) (h1 : 1 ≤ n) (h8 : n ≤ 8) (hl : Bytes l) (hc : l.length ≤ c) (hm : l.length ≤ 1048576) (h : Rd w w.heap.size A (ints .u8 l)) :
    Calls Tryd.prog 38 #[.slice A l.length c, .int .i64 n] w fun e w' => Below w.heap.size w w' ∧ ∃ v u, e = .returned (.tuple #[v, u]) ∧
      w'.ownsRow w.heap.size 40 1 v (l.length / n) (ints .u64 (gl l n (l.length / n))) ∧ IsL w' w'.heap.size .u8 u (rest l n) := by
  obtain ⟨i0, hi0, hz0, hz1, hz2⟩ := info_parts Tryd.u64_info
  have hkl := Nat.div_mul_le_self l.length n
  have hkn : l.length / n ≤ l.length := Nat.div_le_self _ _
  go_enter Tryd.func38, Tryd.ntmps38
  go_wp2
  go_loopw [6, 7] (fun v i wr => ∃ j p : Nat, j ≤ l.length / n ∧ Hid (p = j * n) ∧ i = .int .i64 p ∧ p ≤ l.length ∧ wr.ownsRow w.heap.size 40 1 v j (ints .u64 (gl l n j)) ∧ Below w.heap.size w wr) (fun _ i _ => l.length - (intOf i).toNat)
  case atStart => exact ⟨0, 0, Nat.zero_le _, (show 0 = 0 * n by omega), rfl, Nat.zero_le _, World.ownsRow_nil _ _ _ _, Below.refl _ _⟩
  case round =>
    obtain ⟨j, p, hj, HP, rfl, hp, hown, hB⟩ := hrel
    by_cases hlt : p + n ≤ l.length
    · obtain ⟨ad, rfl, hab, _⟩ := (h.below hB).int (j := p) (by omega)
      obtain ⟨s1, s2, s3⟩ := at_sum hlt (by omega)
      have q1 : ¬ c = p := by omega
      have r2 : (p : Int) + n ≤ c := by omega
      have hRd : Rd wr wr.heap.size (some (ad.add p)) (ints .u8 ((l.drop p).take n)) := ((h.below hB).sub p n).more hB.size
      go_wp2_with fail
      refine (rread_any _ _ n ((l.drop p).take n) _ (by simp; omega) h8 ((hl.drop _).take _) hRd).mono ?_
      rintro e w1 ⟨rfl, rfl⟩
      have HG : Hid (gv ((l.drop p).take n) = G l n j) := by
        have e1 : p = j * n := HP.out
        show _ = _
        rw [e1]; rfl
      rw [HG.out]
      go_wp2_with (at_builtin; refine wpL_append _ rfl (.tmp 17) (.tmp 25) _ rfl w.heap.size 40 i0 _ 1 8 Tryd.underlying45 hi0 hz0 hz1 hz2 rfl (by omega) _ j (ints .u64 (gl l n j)) rfl (hown.alloc _) (some ⟨wr.heap.size, 0, none⟩) 1 1 [.int .u64 ((G l n j : Nat) : Int)] rfl rfl (Rd.of_new wr [.int .u64 ((G l n j : Nat) : Int)] 40) (by intro u hu; simp at hu; subst hu; rfl) (by unfold maxLen; omega) (by omega) (by have := hB.size; simp; omega) ?_; intro v1 w1 hown1 hg1 hat1)
      have HO : Hid (w1.ownsRow w.heap.size 40 1 v1 (j + 1) (ints .u64 (gl l n (j + 1)))) := by
        show World.ownsRow _ _ _ _ _ _ _
        rw [gl_succ, ints_append]
        exact hown1
      have hB1 : Below w.heap.size w w1 := below_app (hB.alloc hB.size _) hg1 (by have := hB.size; simp; omega) (hown.alloc _) (Nat.le_refl _)
      clear hown hown1 HG hRd
      go_wp2
      go_roundw
      case rel =>
        refine ⟨j + 1, p + n, ?_, ?_, by go_num, by omega, HO.out, hB1⟩
        · have e1 : p = j * n := HP.out
          exact (Nat.le_div_iff_mul_le h1).2 (by rw [Nat.succ_mul]; omega)
        · have e1 : p = j * n := HP.out
          show p + n = (j + 1) * n
          rw [Nat.succ_mul]; omega
      case measure => simp [intOf]; omega
    · have hjk : j = l.length / n := by
        have e1 : p = j * n := HP.out
        rcases Nat.lt_or_ge j (l.length / n) with h2 | h2
        · have := mul_le_of h2
          omega
        · omega
      subst hjk
      obtain ⟨A', c', rfl, hc', hrd⟩ := IsL.of_own hown
      have HO := Lib.hid hown
      rw [gl_len] at hc' ⊢
      clear hown hrd HP
      generalize hk : l.length / n = k at *
      have HK := Lib.hid hk
      clear hk
      obtain ⟨q, hq⟩ : ∃ q, q = k * n := ⟨_, rfl⟩
      have m1 : IntKind.i64.wrap ((k : Int) * (n : Int)) = (k : Int) * (n : Int) := IntWalk.i64_in _ (by rw [← Int.natCast_mul, ← hq]; omega)
      have m2 : ((k : Int) * (n : Int)).toNat = q := by rw [← Int.natCast_mul, ← hq]; omega
      have m3 : 0 ≤ (k : Int) * (n : Int) := by rw [← Int.natCast_mul]; omega
      have m4 : (k : Int) * (n : Int) ≤ l.length := by rw [← Int.natCast_mul, ← hq]; omega
      have hr := (h.below hB).cut (k := q) (cap := c) (by rw [ints_length]; exact hc)
      rw [← ints_drop] at hr
      have HR1 : Hid (c = q → Rd wr w.heap.size A (ints .u8 (l.drop q))) := fun e => by rw [if_pos e] at hr; exact hr
      have HR2 : Hid (¬ c = q → Rd wr w.heap.size (A.map (·.add q)) (ints .u8 (l.drop q))) := fun e => by rw [if_neg e] at hr; exact hr
      have HF : Hid (rest l n = l.drop q) := by show _ = _; rw [hq, ← HK.out]; rfl
      have hql : q ≤ l.length := by rw [hq]; exact hkl
      clear hq hkl hr
      go_wp2
      go_quiet (fail)
      go_wp2
      all_goals
        go_ret2
        refine ⟨below_drewN hB _, _, _, rfl, ?_, ?_⟩
        · rw [HK.out]
          have := HO.out
          rw [gl_len] at this
          exact this
        · rw [HF.out]
          first
          | exact ⟨_, _, by rw [List.length_drop]; rfl, by rw [List.length_drop]; omega, ((HR2.out (by assumption)).drewN _).more hB.size⟩
          | exact ⟨_, _, by rw [List.length_drop]; rfl, by rw [List.length_drop]; omega, ((HR1.out (by assumption)).drewN _).more hB.size⟩
end Go.Proofs.YtmoenbdooilceaaDoor
