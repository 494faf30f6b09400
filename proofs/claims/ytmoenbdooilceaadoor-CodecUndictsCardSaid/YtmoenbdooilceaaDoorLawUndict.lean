/-
  The walk of the law CodecUndicts.
-/
import Derived.Test.YtmoenbdooilceaaDoorUndB
import Derived.Test.YtmoenbdooilceaaDoorLawDelta
namespace Go.Proofs.YtmoenbdooilceaaDoor
open Go.RowKit By

set_option maxRecDepth 100000 in
set_option maxHeartbeats 1600000 in
theorem codecUndicts_walk (A : Option Addr) (m c : Nat) (l : List Nat) (w : World) (hn : l.length = m) (hl : Bytes l) (hc : m ≤ c) (hm : c ≤ maxLen) (h : Rd w w.heap.size A (ints .u8 l)) (he : Env w) :
    Calls Tryd.prog 4 #[.slice A m c] w fun e w' => Below w.heap.size w w' ∧ e = .returned (.bool true) := by
  have hm0 := hm
  unfold maxLen at hm
  by_cases hbig : 600 < m
  · go_enter Tryd.func4, Tryd.ntmps4
    go_wp2_with fail
    refine (sane_any _ he).mono ?_
    rintro e w1 ⟨hb1, rfl⟩
    go_wp2
    go_ret
    exact ⟨hb1, rfl⟩
  · subst hn
    obtain ⟨⟨E, R⟩, hER⟩ : ∃ p, p = und l [] := ⟨_, rfl⟩
    have HU := Lib.hid hER.symm
    clear hER
    go_enter Tryd.func4, Tryd.ntmps4
    go_wp2_with fail
    refine (undict_any A c l E R _ hl hc (by omega) hm0 h HU.out).mono ?_
    rintro e w1 ⟨hb1, v1, rfl, hv1⟩
    go_wp2_with fail
    refine (rundict_any A c l E R _ hl hc (by omega) hm0 (drest h hb1) HU.out).mono ?_
    rintro e w2 ⟨hb2, v2, rfl, hv2⟩
    have hB2 := hb1.trans (hb2.mono hb1.size)
    go_wp2_with fail
    refine (is_true _ _ _ _ _ (hv1.next hb2) hv2).mono ?_
    rintro e w5 ⟨rfl, rfl⟩
    go_wp2_with fail
    refine (sane_any _ (he.next hB2)).mono ?_
    rintro e w5 ⟨hb5, rfl⟩
    have hB5 := hB2.trans (hb5.mono hB2.size)
    go_wp2
    go_ret
    exact ⟨hB5, rfl⟩
end Go.Proofs.YtmoenbdooilceaaDoor
