/-
  The walk of the law CodecPacks.
-/
import Derived.Test.YtmoenbdooilceaaDoorPackP
import Derived.Test.YtmoenbdooilceaaDoorLawDelta
namespace Go.Proofs.YtmoenbdooilceaaDoor
open Go.RowKit By

theorem packL_small {b : List Nat} (hl : Bytes b) {n : Nat} (h8 : n ≤ 8) (hm : b.length ≤ 1000) : (packL b n).length ≤ 1048576 := by
  have hk : b.length / n ≤ 1000 := Nat.le_trans (Nat.div_le_self _ _) hm
  have hr : (rest b n).length ≤ 1000 := by unfold rest; rw [List.length_drop]; omega
  unfold packL
  by_cases h0 : b.length / n = 0
  · rw [h0, packB_zero, List.length_append, gb_len]; omega
  · have hW := packW_le hl h8 h0
    have := Nat.mul_le_mul hk hW
    rw [packB_pos h0]
    simp only [List.length_append, gb_len, packF_len, List.length_singleton]
    omega
theorem uOk_pack {b : List Nat} (hl : Bytes b) {n : Nat} (h8 : n ≤ 8) (hm : b.length ≤ 1048576) : uOk (packL b n) n := by
  obtain ⟨h1, h2⟩ := unpack_pack hl h8 hm
  exact ⟨h1, by rw [h2]; exact hm, by rw [h2]⟩

set_option maxRecDepth 100000 in
set_option maxHeartbeats 3200000 in
theorem codecPacks_walk (A : Option Addr) (m c : Nat) (n : Int) (l : List Nat) (w : World) (hn : l.length = m) (hl : Bytes l) (hc : m ≤ c) (hm : m ≤ maxLen) (h : Rd w w.heap.size A (ints .u8 l)) (he : Env w) :
    Calls Tryd.prog 8 #[.slice A m c, .int .i64 n] w fun e w' => Below w.heap.size w w' ∧ e = .returned (.bool true) := by
  unfold maxLen at hm
  by_cases hbig : 1000 < m
  · go_enter Tryd.func8, Tryd.ntmps8
    go_wp2_with fail
    refine (sane_any _ he).mono ?_
    rintro e w1 ⟨hb1, rfl⟩
    go_wp2
    go_ret
    exact ⟨hb1, rfl⟩
  have hm' : m ≤ 4000000000000 := by omega
  by_cases hg0 : grE n m = 0
  · obtain ⟨h1, h8, _⟩ := grE_zero hg0
    obtain ⟨k, rfl⟩ : ∃ k : Nat, n = (k : Int) := ⟨n.toNat, by omega⟩
    clear hg0
    have k1 : 1 ≤ k := by omega
    have k8 : k ≤ 8 := by omega
    subst hn
    have hlm : l.length ≤ 1048576 := by omega
    have HU := Lib.hid (unpack_pack hl k8 hlm).2
    have HO := Lib.hid (uOk_pack hl k8 hlm)
    have HL := Lib.hid (packL_small hl k8 (by omega))
    have HBy := Lib.hid (packL_bytes hl k8)
    go_enter Tryd.func8, Tryd.ntmps8
    go_wp2_with fail
    refine (pack_any A c k l _ k1 k8 hl hc hlm h).mono ?_
    rintro e w1 ⟨hb1, v1, rfl, hv1⟩
    go_wp2_with fail
    refine (rpack_any A c k l _ k1 k8 hl hc hlm (drest h hb1)).mono ?_
    rintro e w2 ⟨hb2, v2, rfl, hv2⟩
    have hB2 := hb1.trans (hb2.mono hb1.size)
    have i1 := hv1.next hb2
    go_wp2_with fail
    refine (is_true _ _ _ _ _ i1 hv2).mono ?_
    rintro e w5 ⟨rfl, rfl⟩
    go_wp2_with fail
    refine (sane_any _ (he.next hB2)).mono ?_
    rintro e w5 ⟨hb5, rfl⟩
    have hB5 := hB2.trans (hb5.mono hB2.size)
    obtain ⟨A1, c1, rfl, q1, r1⟩ := i1.next hb5
    clear i1 hv1 hv2
    have U := unpack_any A1 c1 k (packL l k) w5 k1 k8 HBy.out q1 HL.out r1
    go_wp2_with fail
    refine U.mono ?_
    rintro e w6 ⟨hb6, ⟨_, v6, rfl, hv6⟩ | ⟨hno, rfl⟩⟩
    · rw [HU.out] at hv6
      have hB6 := hB5.trans (hb6.mono hB5.size)
      clear U q1
      have a7 : IsL w6 w6.heap.size .u8 (.slice A l.length c) l := ⟨A, c, rfl, hc, drest h hB6⟩
      go_wp2_with fail
      refine (back_true _ _ _ _ hv6 a7).mono ?_
      rintro e w8 ⟨rfl, rfl⟩
      go_wp2
      go_ret
      exact ⟨hB6, rfl⟩
    · exact absurd HO.out hno
  · obtain ⟨g, hg⟩ : ∃ g, grE n m = g := ⟨_, rfl⟩
    have h0 : g = 2 ∨ g = 4 := by
      rcases grE_cases n m with e | e | e
      · exact absurd e hg0
      · left; rw [← hg]; exact e
      · right; rw [← hg]; exact e
    have E1 := Lib.hid (fun W => pack_err A m c n g W hg h0 hm')
    have E2 := Lib.hid (fun W => rpack_err A m c n g W hg h0 hm')
    have hgn : g ≠ 0 := by omega
    clear hg hg0 h0
    go_enter Tryd.func8, Tryd.ntmps8
    go_wp2_with fail
    refine (E1.out _).mono ?_
    rintro e w1 ⟨rfl, rfl⟩
    go_wp2_with fail
    refine (E2.out _).mono ?_
    rintro e w1 ⟨rfl, rfl⟩
    go_wp2_with fail
    refine (is_true _ _ _ _ _ (IsL.nil _ _ _) (IsL.nil _ _ _)).mono ?_
    rintro e w5 ⟨rfl, rfl⟩
    go_wp2_with fail
    refine (sane_any _ he).mono ?_
    rintro e w5 ⟨hb5, rfl⟩
    go_wp2
    go_ret
    exact ⟨hb5, rfl⟩
end Go.Proofs.YtmoenbdooilceaaDoor
