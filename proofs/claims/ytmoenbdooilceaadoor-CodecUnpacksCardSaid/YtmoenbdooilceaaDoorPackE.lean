/-
  Walk: the reference's Pack.
-/
import Derived.Test.YtmoenbdooilceaaDoorPackD
import Derived.Test.YtmoenbdooilceaaDoorCodF
namespace Go.Proofs.YtmoenbdooilceaaDoor
open Go.RowKit By

theorem el_gl (l : List Nat) (n : Nat) {k i : Nat} (h : i < k) : el (gl l n k) i = G l n i := gl_at l n h
theorem el_bound {ds : List Nat} (h : ∀ x ∈ ds, x < 2 ^ 64) (j : Nat) : el ds j < 2 ^ 64 := by
  unfold el
  rw [List.getD_eq_getElem?_getD]
  rcases Nat.lt_or_ge j ds.length with h1 | h1
  · rw [List.getElem?_eq_getElem h1]; exact h _ (List.getElem_mem _)
  · rw [List.getElem?_eq_none h1]; decide
theorem gl_bound {l : List Nat} (hl : Bytes l) {n : Nat} (h8 : n ≤ 8) (j : Nat) : el (gl l n (l.length / n)) j < 2 ^ 64 := by
  refine el_bound (fun x hx => ?_) j
  simp only [gl, List.mem_map, List.mem_range] at hx
  obtain ⟨i, hi, rfl⟩ := hx
  exact Nat.lt_of_lt_of_le (G_lt hl hi) (by
    calc 256 ^ n ≤ 256 ^ 8 := Nat.pow_le_pow_right (by decide) h8
      _ = 2 ^ 64 := by decide)

set_option maxRecDepth 100000 in
set_option maxHeartbeats 800000 in
theorem rpack_any (A : Option Addr) (c n : Nat) (l : List Nat) (w : World) (h1 : 1 ≤ n) (h8 : n ≤ 8) (hl : Bytes l) (hc : l.length ≤ c) (hm : l.length ≤ 1048576) (h : Rd w w.heap.size A (ints .u8 l)) :
    Calls Tryd.prog 28 #[.slice A l.length c, .int .i64 n] w fun e w' => Below w.heap.size w w' ∧ ∃ v, e = .returned (.tuple #[v, .int .i64 0]) ∧ IsL w' w'.heap.size .u8 v (packL l n) := by
  have hg : grE n l.length = 0 := by unfold grE; rw [if_neg (by omega), if_neg (by omega)]
  have HP : Hid (packB (el (gl l n (l.length / n))) (l.length / n) n (rest l n) = packL l n) := packB_congr (fun i hi => el_gl l n hi)
  have hk : l.length / n ≤ 1048576 := Nat.le_trans (Nat.div_le_self _ _) hm
  have hb := gl_bound hl h8
  have hlen := gl_len l n (l.length / n)
  have hrl : (rest l n).length ≤ 1048576 := by unfold rest; rw [List.length_drop]; omega
  go_enter Tryd.func28, Tryd.ntmps28
  go_wp2_with fail
  refine (asked_any _ _ _ _ _ (by omega)).mono ?_
  rintro e w1 ⟨rfl, rfl⟩
  rw [hg]
  clear hg
  go_wp2_with fail
  refine (rgroups_any A c n l _ h1 h8 hl hc hm h).mono ?_
  rintro e w1 ⟨hb1, v, u, rfl, hown, hu⟩
  obtain ⟨A1, c1, rfl, hc1⟩ := own_slice hown
  obtain ⟨A2, c2, rfl, hc2, hr2⟩ := hu
  have hrd := Rd.of_own hown
  have hpk := rpacked_any A1 A2 c1 c2 n (gl l n (l.length / n)) (rest l n) w1 h1 h8 hb (by rw [hlen]; exact hk) hrl hrd hr2
  rw [hlen, HP.out] at hpk
  go_wp2_with fail
  refine hpk.mono ?_
  rintro e w2 ⟨hb2, v2, rfl, hv2⟩
  go_wp2
  go_ret2
  exact ⟨hb1.trans (hb2.mono hb1.size), _, rfl, hv2⟩
end Go.Proofs.YtmoenbdooilceaaDoor
