/-
  The walk of the law CodecUnpacks.
-/
import Derived.Test.YtmoenbdooilceaaDoorPackR
import Derived.Test.YtmoenbdooilceaaDoorLawDelta
namespace Go.Proofs.YtmoenbdooilceaaDoor
open Go.RowKit By

set_option maxRecDepth 100000 in
set_option maxHeartbeats 3200000 in
theorem codecUnpacks_walk (A : Option Addr) (m c : Nat) (n : Int) (l : List Nat) (w : World) (hn : l.length = m) (hl : Bytes l) (hc : m ≤ c) (hm : m ≤ maxLen) (h : Rd w w.heap.size A (ints .u8 l)) (he : Env w) :
    Calls Tryd.prog 9 #[.slice A m c, .int .i64 n] w fun e w' => Below w.heap.size w w' ∧ e = .returned (.bool true) := by
  unfold maxLen at hm
  by_cases hbig : 300 < m
  · go_enter Tryd.func9, Tryd.ntmps9
    go_wp2_with fail
    refine (sane_any _ he).mono ?_
    rintro e w1 ⟨hb1, rfl⟩
    go_wp2
    go_ret
    exact ⟨hb1, rfl⟩
  have hm' : m ≤ 4000000000000 := by omega
  by_cases hg0 : grE n m = 0
  · obtain ⟨h1, h8, _⟩ := grE_zero hg0
    obtain ⟨k, rfl⟩ : ∃ k : Nat, n = (k : Int) := ⟨n.toNat, by omega⟩
    clear hg0
    have k1 : 1 ≤ k := by omega
    have k8 : k ≤ 8 := by omega
    subst hn
    have hlm : l.length ≤ 1048576 := by omega
    go_enter Tryd.func9, Tryd.ntmps9
    go_wp2_with fail
    refine (unpack_any A c k l _ k1 k8 hl hc hlm h).mono ?_
    rintro e w1 ⟨hb1, ⟨hu1, v1, rfl, hv1⟩ | ⟨hu1, rfl⟩⟩
    · have HU1 := Lib.hid hu1
      clear hu1
      go_wp2_with fail
      refine (runpack_any A c k l _ k1 k8 hl hc hlm (drest h hb1)).mono ?_
      rintro e w2 ⟨hb2, ⟨hu2, v2, rfl, hv2⟩ | ⟨hu2, rfl⟩⟩
      · clear hu2
        have hB2 := hb1.trans (hb2.mono hb1.size)
        have i1 := hv1.next hb2
        go_wp2_with fail
        refine (is_true _ _ _ _ _ i1 hv2).mono ?_
        rintro e w5 ⟨rfl, rfl⟩
        go_wp2_with fail
        refine (sane_any _ (he.next hB2)).mono ?_
        rintro e w5 ⟨hb5, rfl⟩
        have hB5 := hB2.trans (hb5.mono hB2.size)
        go_wp2
        go_ret
        exact ⟨hB5, rfl⟩
      · exact absurd HU1.out hu2
    · have HU1 := Lib.hid hu1
      clear hu1
      go_wp2_with fail
      refine (runpack_any A c k l _ k1 k8 hl hc hlm (drest h hb1)).mono ?_
      rintro e w2 ⟨hb2, ⟨hu2, v2, rfl, hv2⟩ | ⟨hu2, rfl⟩⟩
      · exact absurd hu2 HU1.out
      · clear hu2
        have hB2 := hb1.trans (hb2.mono hb1.size)
        go_wp2_with fail
        refine (is_true _ _ _ _ _ (IsL.nil _ _ _) (IsL.nil _ _ _)).mono ?_
        rintro e w5 ⟨rfl, rfl⟩
        go_wp2_with fail
        refine (sane_any _ (he.next hB2)).mono ?_
        rintro e w5 ⟨hb5, rfl⟩
        have hB5 := hB2.trans (hb5.mono hB2.size)
        go_wp2
        go_ret
        exact ⟨hB5, rfl⟩
  · obtain ⟨g, hg⟩ : ∃ g, grE n m = g := ⟨_, rfl⟩
    have h0 : g = 2 ∨ g = 4 := by
      rcases grE_cases n m with e | e | e
      · exact absurd e hg0
      · left; rw [← hg]; exact e
      · right; rw [← hg]; exact e
    have E1 := Lib.hid (fun W => unpack_err A m c n g W hg h0 hm')
    have E2 := Lib.hid (fun W => runpack_err A m c n g W hg h0 hm')
    have hgn : g ≠ 0 := by omega
    clear hg hg0 h0
    go_enter Tryd.func9, Tryd.ntmps9
    go_wp2_with fail
    refine (E1.out _).mono ?_
    rintro e w1 ⟨rfl, rfl⟩
    go_wp2_with fail
    refine (E2.out _).mono ?_
    rintro e w1 ⟨rfl, rfl⟩
    go_wp2_with fail
    refine (is_true _ _ _ _ _ (IsL.nil _ _ _) (IsL.nil _ _ _)).mono ?_
    rintro e w5 ⟨rfl, rfl⟩
    go_wp2_with fail
    refine (sane_any _ he).mono ?_
    rintro e w5 ⟨hb5, rfl⟩
    go_wp2
    go_ret
    exact ⟨hb5, rfl⟩
end Go.Proofs.YtmoenbdooilceaaDoor
