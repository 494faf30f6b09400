/-
  Walk: the reference's unpacked.
-/
import Derived.Test.YtmoenbdooilceaaDoorPackG
namespace Go.Proofs.YtmoenbdooilceaaDoor
open Go.RowKit By

/-- The first numbers of a row. -/
def gs (f : Nat → Nat) (k : Nat) : List Nat := (List.range k).map f
theorem gs_len (f : Nat → Nat) (k : Nat) : (gs f k).length = k := by simp [gs]
theorem gs_succ (f : Nat → Nat) (k : Nat) : gs f (k + 1) = gs f k ++ [f k] := by simp [gs, List.range_succ]
theorem el_gs (f : Nat → Nat) {k i : Nat} (h : i < k) : el (gs f k) i = f i := by
  unfold el gs
  rw [List.getD_eq_getElem?_getD, List.getElem?_map, List.getElem?_range h]; rfl
theorem ukN_lt {b : List Nat} (hl : Bytes b) : ukN b < 4294967296 := by
  have h1 := gv_lt (n := (b.take 4).length) rfl (hl.take 4)
  have h2 : 256 ^ (b.take 4).length ≤ 256 ^ 4 := Nat.pow_le_pow_right (by decide) (by rw [List.length_take]; omega)
  unfold ukN
  omega

set_option maxRecDepth 100000 in
set_option maxHeartbeats 800000 in
theorem runpacked_bad (A : Option Addr) (c n : Nat) (b : List Nat) (w : World) (h1 : 1 ≤ n) (h8 : n ≤ 8) (hl : Bytes b) (hs : 4 ≤ b.length) (hc : b.length ≤ c) (hm : b.length ≤ 1048576) (h0 : ukN b ≠ 0) (hbad : ¬ (ukN b ≤ 1048576 ∧ n + 1 ≤ (b.drop 4).length ∧ ukW b n ≤ 64)) (h : Rd w w.heap.size A (ints .u8 b)) :
    Calls Tryd.prog 54 #[.slice A b.length c, .int .i64 n] w fun e w' => Below w.heap.size w w' ∧ e = .returned (.tuple #[.slice none 0 0, .slice none 0 0, .bool false]) := by
  obtain ⟨ad, rfl, hab, _⟩ := h.int (j := 0) (by omega)
  have hrd : Rd w w.heap.size (some ad) (ints .u8 (b.take 4)) := by
    have := h.sub 0 4
    rw [List.drop_zero] at this
    exact this
  have hNlt := ukN_lt hl
  have HG : Hid (gv (b.take 4) = ukN b) := rfl
  have hd4 : (b.drop 4).length = b.length - 4 := List.length_drop ..
  rw [hd4] at hbad
  have HWD : Hid (ukW b n = b.getD (4 + n) 0) := by show _ = _; unfold ukW; simp [List.getD_eq_getElem?_getD]
  have t0 : ((ukN b : Int) == 0) = false := by rw [beq_eq_false_iff_ne]; omega
  generalize ukN b = k at *
  have z1 : IntKind.i64.wrap ((4 : Int) + (n : Int)) = ((4 + n : Nat) : Int) := IntWalk.i64_in _ (by omega)
  have z2 : IntKind.i64.wrap ((5 : Int) + (n : Int)) = ((5 + n : Nat) : Int) := IntWalk.i64_in _ (by omega)
  by_cases c1 : 1048576 < k
  · clear hbad hd4
    go_enter Tryd.func54, Tryd.ntmps54
    go_wp2_with fail
    refine (rread_any (some ad) c 4 (b.take 4) _ (by simp; omega) (by omega) (hl.take _) hrd).mono ?_
    rintro e w5 ⟨rfl, rfl⟩
    rw [HG.out]
    go_wp2
    go_ret3
    exact ⟨Below.refl _ _, rfl⟩
  · by_cases c2 : b.length < 5 + n
    · clear hbad hd4
      go_enter Tryd.func54, Tryd.ntmps54
      go_wp2_with fail
      refine (rread_any (some ad) c 4 (b.take 4) _ (by simp; omega) (by omega) (hl.take _) hrd).mono ?_
      rintro e w5 ⟨rfl, rfl⟩
      rw [HG.out]
      go_wp2
      go_ret3
      exact ⟨Below.refl _ _, rfl⟩
    · obtain ⟨ad2, e2, _, hcell⟩ := h.int (j := 4 + n) (by omega)
      cases e2
      rw [HWD.out] at hbad
      generalize b.getD (4 + n) 0 = x at *
      have hx : 64 < x := by omega
      clear hbad hd4
      go_enter Tryd.func54, Tryd.ntmps54
      go_wp2_with fail
      refine (rread_any (some ad) c 4 (b.take 4) _ (by simp; omega) (by omega) (hl.take _) hrd).mono ?_
      rintro e w5 ⟨rfl, rfl⟩
      rw [HG.out]
      go_wp2
      go_ret3
      exact ⟨Below.refl _ _, rfl⟩
end Go.Proofs.YtmoenbdooilceaaDoor
