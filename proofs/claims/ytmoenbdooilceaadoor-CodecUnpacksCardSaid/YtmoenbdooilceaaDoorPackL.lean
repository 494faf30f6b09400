/-
  Walk: codec.unpacked.
-/
import Derived.Test.YtmoenbdooilceaaDoorPutE
namespace Go.Proofs.YtmoenbdooilceaaDoor
open Go.RowKit By

/-- The groups that are written, then zeros. -/
def par (f : Nat → Nat) (n k j : Nat) : List Nat := jn f n j ++ List.replicate ((k - j) * n) 0
theorem par_len (f : Nat → Nat) {n k j : Nat} (h : j ≤ k) : (par f n k j).length = k * n := by
  unfold par
  rw [List.length_append, jn_len, List.length_replicate, ← Nat.add_mul]
  congr 1; omega
theorem par_step (f : Nat → Nat) {n k j : Nat} (h : j < k) : (par f n k j).take (j * n) ++ gb n (f j) ++ (par f n k j).drop (j * n + n) = par f n k (j + 1) := by
  unfold par
  have e : jn f n (j + 1) = jn f n j ++ gb n (f j) := rfl
  rw [take_exact (jn_len _ _ _), ← List.drop_drop, drop_exact (jn_len _ _ _), e, List.drop_replicate]
  have : (k - j) * n - n = (k - (j + 1)) * n := by
    obtain ⟨d, hd⟩ : ∃ d, k - j = d + 1 := ⟨k - j - 1, by omega⟩
    rw [hd, Nat.succ_mul, Nat.add_sub_cancel, show k - (j + 1) = d by omega]
  rw [this]
theorem par_all (f : Nat → Nat) (n k : Nat) : par f n k k = jn f n k := by unfold par; simp
theorem ukG_lt (b : List Nat) (n i : Nat) : ukG b n i < 2 ^ 64 := Nat.mod_lt _ (by decide)

set_option maxRecDepth 100000 in
set_option maxHeartbeats 800000 in
theorem unpacked_short (A : Option Addr) (c n : Nat) (b : List Nat) (w : World) (hs : b.length < 4) :
    Calls Tryd.prog 52 #[.slice A b.length c, .int .i64 n] w fun e w' => w = w' ∧ e = .returned (.tuple #[.slice none 0 0, .bool false]) := by
  go_enter Tryd.func52, Tryd.ntmps52
  go_wp2
  go_ret2
  exact ⟨rfl, rfl⟩

theorem clone8_zero (A : Option Addr) (w : World) : Calls Tryd.prog 35 #[.slice A 0 0] w fun e w' => Below w.heap.size w w' ∧ ∃ v, e = .returned v ∧ w'.ownsRow w.heap.size 5 1 v 0 (ints .u8 []) :=
  clone8_any A 0 0 [] w rfl (by omega) Rd.nil

set_option maxRecDepth 100000 in
set_option maxHeartbeats 800000 in
theorem unpacked_none (A : Option Addr) (c n : Nat) (b : List Nat) (w : World) (hl : Bytes b) (hs : 4 ≤ b.length) (hc : b.length ≤ c) (hm : b.length ≤ 1048576) (h0 : ukN b = 0) (h : Rd w w.heap.size A (ints .u8 b)) :
    Calls Tryd.prog 52 #[.slice A b.length c, .int .i64 n] w fun e w' => Below w.heap.size w w' ∧ ∃ v, e = .returned (.tuple #[v, .bool true]) ∧ IsL w' w'.heap.size .u8 v (b.drop 4) := by
  obtain ⟨ad, rfl, hab, _⟩ := h.int (j := 0) (by omega)
  have hrd : Rd w w.heap.size (some ad) (ints .u8 (b.take 4)) := by
    have := h.sub 0 4
    rw [List.drop_zero] at this
    exact this
  have hd : Rd w w.heap.size (some ⟨ad.block, ad.off + 4, none⟩) (ints .u8 (b.drop 4)) := by
    have := h.sub 4 (b.length - 4)
    rw [List.take_of_length_le (by simp)] at this
    exact this
  have HG : Hid (gv (b.take 4) = 0) := h0
  have hdl : (b.drop 4).length = b.length - 4 := List.length_drop
  by_cases q2 : c = 4
  · have e : b.drop 4 = [] := List.drop_eq_nil_of_le (by omega)
    rw [e]
    subst q2
    go_enter Tryd.func52, Tryd.ntmps52
    go_wp2_with fail
    refine (number_any (some ad) 4 4 (b.take 4) _ (by simp; omega) (by omega) (hl.take _) hrd).mono ?_
    rintro e w5 ⟨rfl, rfl⟩
    rw [HG.out]
    go_wp2_with fail
    refine (clone8_zero (some ad) w).mono ?_
    rintro e w5 ⟨hb5, v, rfl, hv⟩
    go_wp2
    go_ret2
    exact ⟨hb5, _, rfl, IsL.of_own' hv rfl⟩
  · have HD := Lib.hid hd
    clear hd
    go_enter Tryd.func52, Tryd.ntmps52
    go_wp2_with fail
    refine (number_any (some ad) c 4 (b.take 4) _ (by simp; omega) (by omega) (hl.take _) hrd).mono ?_
    rintro e w5 ⟨rfl, rfl⟩
    rw [HG.out]
    go_wp2_with fail
    refine (clone8_any (some ⟨ad.block, ad.off + 4, none⟩) (b.length - 4) (c - 4) (b.drop 4) w hdl (by omega) HD.out).mono ?_
    rintro e w5 ⟨hb5, v, rfl, hv⟩
    go_wp2
    go_ret2
    exact ⟨hb5, _, rfl, IsL.of_own' hv hdl⟩

set_option maxRecDepth 100000 in
set_option maxHeartbeats 1600000 in
theorem unpacked_bad (A : Option Addr) (c n : Nat) (b : List Nat) (w : World) (h1 : 1 ≤ n) (h8 : n ≤ 8) (hl : Bytes b) (hs : 4 ≤ b.length) (hc : b.length ≤ c) (hm : b.length ≤ 1048576) (h0 : ukN b ≠ 0) (hbad : ¬ (n + 1 ≤ (b.drop 4).length ∧ ukN b ≤ 1048576 / n ∧ ukW b n ≤ 64)) (h : Rd w w.heap.size A (ints .u8 b)) :
    Calls Tryd.prog 52 #[.slice A b.length c, .int .i64 n] w fun e w' => Below w.heap.size w w' ∧ e = .returned (.tuple #[.slice none 0 0, .bool false]) := by
  obtain ⟨ad, rfl, hab, _⟩ := h.int (j := 0) (by omega)
  have hrd : Rd w w.heap.size (some ad) (ints .u8 (b.take 4)) := by
    have := h.sub 0 4
    rw [List.drop_zero] at this
    exact this
  have hd : Rd w w.heap.size (some ⟨ad.block, ad.off + 4, none⟩) (ints .u8 (b.drop 4)) := by
    have := h.sub 4 (b.length - 4)
    rw [List.take_of_length_le (by simp)] at this
    exact this
  have hNlt := ukN_lt hl
  have HG : Hid (gv (b.take 4) = ukN b) := rfl
  have hdl : (b.drop 4).length = b.length - 4 := List.length_drop
  have HWD : Hid (ukW b n = (b.drop 4).getD n 0) := rfl
  have t0 : ((ukN b : Int) == 0) = false := by rw [beq_eq_false_iff_ne]; omega
  generalize ukN b = k at *
  obtain ⟨M, hM⟩ : ∃ M, M = 1048576 / n := ⟨_, rfl⟩
  have hMb : M ≤ 1048576 := by rw [hM]; exact Nat.div_le_self _ _
  have z1 : IntKind.i64.wrap ((n : Int) + 1) = ((n + 1 : Nat) : Int) := IntWalk.i64_in _ (by omega)
  have z4 : (1048576 : Int) / (n : Int) = (M : Int) := by rw [hM, Int.natCast_ediv]; rfl
  have q1 : ¬ n = 0 := by omega
  rw [hdl, ← hM] at hbad
  clear hM
  by_cases c1 : b.length - 4 < n + 1
  · clear hbad
    by_cases q2 : c = 4
    · subst q2
      have hb4 : b.length = 4 := by omega
      rw [hb4]
      go_enter Tryd.func52, Tryd.ntmps52
      go_wp2_with fail
      refine (number_any (some ad) 4 4 (b.take 4) _ (by simp; omega) (by omega) (hl.take _) hrd).mono ?_
      rintro e w5 ⟨rfl, rfl⟩
      rw [HG.out]
      go_wp2
      go_ret2
      exact ⟨Below.refl _ _, rfl⟩
    · go_enter Tryd.func52, Tryd.ntmps52
      go_wp2_with fail
      refine (number_any (some ad) c 4 (b.take 4) _ (by simp; omega) (by omega) (hl.take _) hrd).mono ?_
      rintro e w5 ⟨rfl, rfl⟩
      rw [HG.out]
      go_wp2
      go_ret2
      exact ⟨Below.refl _ _, rfl⟩
  · have q2 : ¬ c = 4 := by omega
    by_cases c2 : M < k
    · clear hbad
      go_enter Tryd.func52, Tryd.ntmps52
      go_wp2_with fail
      refine (number_any (some ad) c 4 (b.take 4) _ (by simp; omega) (by omega) (hl.take _) hrd).mono ?_
      rintro e w5 ⟨rfl, rfl⟩
      rw [HG.out]
      go_wp2
      go_ret2
      exact ⟨Below.refl _ _, rfl⟩
    · obtain ⟨ad2, e2, _, hcell⟩ := hd.int (j := n) (by omega)
      cases e2
      rw [addr_mk] at hcell
      rw [HWD.out] at hbad
      generalize (b.drop 4).getD n 0 = x at *
      have hx : 64 < x := by omega
      clear hbad
      go_enter Tryd.func52, Tryd.ntmps52
      go_wp2_with fail
      refine (number_any (some ad) c 4 (b.take 4) _ (by simp; omega) (by omega) (hl.take _) hrd).mono ?_
      rintro e w5 ⟨rfl, rfl⟩
      rw [HG.out]
      go_wp2
      go_ret2
      exact ⟨Below.refl _ _, rfl⟩
end Go.Proofs.YtmoenbdooilceaaDoor
