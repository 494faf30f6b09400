/-
  The walk of the law CodecDeltas.
-/
import Derived.Test.YtmoenbdooilceaaDoorCodH
namespace Go.Proofs.YtmoenbdooilceaaDoor
open Go.RowKit By

theorem drest {w w' : World} {A : Option Addr} {l : List Nat} (h : Rd w w.heap.size A (ints .u8 l)) (hb : Below w.heap.size w w') : Rd w' w'.heap.size A (ints .u8 l) := (h.below hb).more hb.size

set_option maxRecDepth 100000 in
set_option maxHeartbeats 3200000 in
theorem codecDeltas_walk (A : Option Addr) (m c : Nat) (n : Int) (l : List Nat) (w : World) (hn : l.length = m) (hl : Bytes l) (hc : m ≤ c) (hm : m ≤ maxLen) (h : Rd w w.heap.size A (ints .u8 l)) (he : Env w) :
    Calls Tryd.prog 5 #[.slice A m c, .int .i64 n] w fun e w' => Below w.heap.size w w' ∧ e = .returned (.bool true) := by
  unfold maxLen at hm
  by_cases hbig : 1000 < m
  · go_enter Tryd.func5, Tryd.ntmps5
    go_wp2_with fail
    refine (sane_any _ he).mono ?_
    rintro e w1 ⟨hb1, rfl⟩
    go_wp2
    go_ret
    exact ⟨hb1, rfl⟩
  have hm' : m ≤ 4000000000000 := by omega
  by_cases hg0 : grE n m = 0
  · obtain ⟨h1, h8, _⟩ := grE_zero hg0
    obtain ⟨k, rfl⟩ : ∃ k : Nat, n = (k : Int) := ⟨n.toNat, by omega⟩
    clear hg0
    have k1 : 1 ≤ k := by omega
    have k8 : k ≤ 8 := by omega
    subst hn
    have hlm : l.length ≤ 1048576 := by omega
    have HU := Lib.hid (undelta_delta hl k1 k8)
    have HD := Lib.hid (delta_undelta hl k1 k8)
    have LD := Lib.hid (deltaB_len l k)
    have LU := Lib.hid (undeltaB_len l k)
    have BD := deltaB_bytes hl k
    have BU := undeltaB_bytes hl k
    go_enter Tryd.func5, Tryd.ntmps5
    go_wp2_with fail
    refine (delta_any A c k l _ k1 k8 hl hc hlm h).mono ?_
    rintro e w1 ⟨hb1, v1, rfl, hv1⟩
    go_wp2_with fail
    refine (rdelta_any A c k l _ k1 k8 hl hc hlm (drest h hb1)).mono ?_
    rintro e w2 ⟨hb2, v2, rfl, hv2⟩
    have hB2 := hb1.trans (hb2.mono hb1.size)
    go_wp2_with fail
    refine (undelta_any A c k l _ k1 k8 hl hc hlm (drest h hB2)).mono ?_
    rintro e w3 ⟨hb3, v3, rfl, hv3⟩
    have hB3 := hB2.trans (hb3.mono hB2.size)
    go_wp2_with fail
    refine (rundelta_any A c k l _ k1 k8 hl hc hlm (drest h hB3)).mono ?_
    rintro e w4 ⟨hb4, v4, rfl, hv4⟩
    have hB4 := hB3.trans (hb4.mono hB3.size)
    have i1 := ((hv1.next hb2).next hb3).next hb4
    have i2 := (hv2.next hb3).next hb4
    have i3 := hv3.next hb4
    go_wp2_with fail
    refine (is_true _ _ _ _ _ i1 i2).mono ?_
    rintro e w5 ⟨rfl, rfl⟩
    go_wp2_with fail
    refine (is_true _ _ _ _ _ i3 hv4).mono ?_
    rintro e w5 ⟨rfl, rfl⟩
    go_wp2_with fail
    refine (sane_any _ (he.next hB4)).mono ?_
    rintro e w5 ⟨hb5, rfl⟩
    have hB5 := hB4.trans (hb5.mono hB4.size)
    have j1 := i1.next hb5
    have j3 := i3.next hb5
    obtain ⟨A1, c1, rfl, q1, r1⟩ := j1
    obtain ⟨A3, c3, rfl, q3, r3⟩ := j3
    rw [LD.out] at q1 ⊢
    rw [LU.out] at q3 ⊢
    clear i1 i2 i3 hv1 hv2 hv3 hv4
    have U := undelta_any A1 c1 k (deltaB l k) w5 k1 k8 BD (by rw [LD.out]; exact q1) (by rw [LD.out]; exact hlm) r1
    rw [LD.out, HU.out] at U
    go_wp2_with fail
    refine U.mono ?_
    rintro e w6 ⟨hb6, v6, rfl, hv6⟩
    have hB6 := hB5.trans (hb6.mono hB5.size)
    have D := delta_any A3 c3 k (undeltaB l k) w6 k1 k8 BU (by rw [LU.out]; exact q3) (by rw [LU.out]; exact hlm) (drest r3 hb6)
    rw [LU.out, HD.out] at D
    clear U
    go_wp2_with fail
    refine D.mono ?_
    rintro e w7 ⟨hb7, v7, rfl, hv7⟩
    have hB7 := hB6.trans (hb7.mono hB6.size)
    clear D
    have a7 : IsL w7 w7.heap.size .u8 (.slice A l.length c) l := ⟨A, c, rfl, hc, drest h hB7⟩
    go_wp2_with fail
    refine (back_true _ _ _ _ (hv6.next hb7) a7).mono ?_
    rintro e w8 ⟨rfl, rfl⟩
    go_wp2_with fail
    refine (back_true _ _ _ _ hv7 a7).mono ?_
    rintro e w8 ⟨rfl, rfl⟩
    go_wp2
    go_ret
    exact ⟨hB7, rfl⟩
  · obtain ⟨g, hg⟩ : ∃ g, grE n m = g := ⟨_, rfl⟩
    have h0 : g = 2 ∨ g = 4 := by
      rcases grE_cases n m with e | e | e
      · exact absurd e hg0
      · left; rw [← hg]; exact e
      · right; rw [← hg]; exact e
    have E1 := Lib.hid (fun W => delta_err A m c n g W hg h0 hm')
    have E2 := Lib.hid (fun W => undelta_err A m c n g W hg h0 hm')
    have E3 := Lib.hid (fun W => rdelta_err A m c n g W hg h0 hm')
    have E4 := Lib.hid (fun W => rundelta_err A m c n g W hg h0 hm')
    have hgn : g ≠ 0 := by omega
    clear hg hg0 h0
    go_enter Tryd.func5, Tryd.ntmps5
    go_wp2_with fail
    refine (E1.out _).mono ?_
    rintro e w1 ⟨rfl, rfl⟩
    go_wp2_with fail
    refine (E3.out _).mono ?_
    rintro e w1 ⟨rfl, rfl⟩
    go_wp2_with fail
    refine (E2.out _).mono ?_
    rintro e w1 ⟨rfl, rfl⟩
    go_wp2_with fail
    refine (E4.out _).mono ?_
    rintro e w1 ⟨rfl, rfl⟩
    go_wp2_with fail
    refine (is_true _ _ _ _ _ (IsL.nil _ _ _) (IsL.nil _ _ _)).mono ?_
    rintro e w5 ⟨rfl, rfl⟩
    go_wp2_with fail
    refine (is_true _ _ _ _ _ (IsL.nil _ _ _) (IsL.nil _ _ _)).mono ?_
    rintro e w5 ⟨rfl, rfl⟩
    go_wp2_with fail
    refine (sane_any _ he).mono ?_
    rintro e w5 ⟨hb5, rfl⟩
    go_wp2
    go_ret
    exact ⟨hb5, rfl⟩
end Go.Proofs.YtmoenbdooilceaaDoor
