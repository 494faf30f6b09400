/-
  The walk of the law CodecValid.
-/
import Derived.Test.YtpkhgdnkkdhlcaaGreatDoorCvA
import Derived.Test.YtpkhgdnkkdhlcaaGreatDoorSanX
namespace Go.Proofs.YtpkhgdnkkdhlcaaGreatDoor
open Go.RowKit Ar

set_option maxRecDepth 100000 in
set_option maxHeartbeats 3200000 in
theorem cvalid_walk (k : Int) (L : List Stg) (A : Option Addr) (c : Nat) (w : World) (_ : -9223372036854775808 ≤ k) (_ : k ≤ 9223372036854775807) (h : Rd w w.heap.size A (srow L)) (hL : L.length ≤ maxLen) (hm : ∀ x ∈ L, x.2.2.size ≤ maxLen) (he : Env w) (her : EnvR w) :
    Calls Tryz.prog 6 #[.int .i64 k, .slice A L.length c] w fun e w' => Below w.heap.size w w' ∧ e = .returned (.bool true) := by
  obtain ⟨z, hz⟩ : ∃ b : Bool, b = true ↔ 10 < L.length ∨ ∃ x ∈ L, 200 < x.2.2.size := by classical exact ⟨decide _, decide_eq_true_iff⟩
  have ST := Lib.hid (steep_any L A c w h hL z hz hm)
  have SN := Lib.hid (fun W (hW : Below w.heap.size w W) => sane_any W (he.next hW))
  cases z
  rotate_left
  · clear hz hm h he her hL
    go_enter Tryz.func6, Tryz.ntmps6
    go_wp2_with fail
    refine ST.out.mono ?_
    rintro e w1 ⟨rfl, rfl⟩
    go_wp2_with fail
    refine (SN.out w (Below.refl _ _)).mono ?_
    rintro e w1 ⟨hb1, rfl⟩
    go_wp2
    go_ret
    exact ⟨hb1, rfl⟩
  have hn : ¬ (10 < L.length ∨ ∃ x ∈ L, 200 < x.2.2.size) := fun h => by have := hz.2 h; cases this
  have h10 : L.length ≤ 1000000 := by
    have : ¬ 10 < L.length := fun e => hn (.inl e)
    omega
  have h200 : ∀ x ∈ L, x.2.2.size ≤ 4000000 := fun x hx => by
    have : ¬ 200 < x.2.2.size := fun e => hn (.inr ⟨x, hx, e⟩)
    omega
  have P1 := Lib.hid (fun W (hW : Below w.heap.size w W) => ploss_any k L A c W ((h.below hW).more hW.size) h10 h200 (he.next hW) (her.next hW))
  have P2 := Lib.hid (fun W (hW : Below w.heap.size w W) => rloss_any k L A c W ((h.below hW).more hW.size) h10 h200)
  have P3 := Lib.hid (fun W (hW : Below w.heap.size w W) => ppipe_any k L A c W ((h.below hW).more hW.size) h10 h200 (he.next hW))
  have P4 := Lib.hid (fun W (hW : Below w.heap.size w W) => rpipe_any k L A c W ((h.below hW).more hW.size) h10 h200)
  have P5 := Lib.hid (pwid_any k)
  have P6 := Lib.hid (rwid_any k)
  generalize lossR k L = R at *
  obtain ⟨R1, R2⟩ := R
  simp only at P1 P2
  generalize pipeB k L = q at *
  generalize widR k = wd at *
  clear hz hm h he her hL hn h10 h200
  go_enter Tryz.func6, Tryz.ntmps6
  go_wp2_with fail
  refine ST.out.mono ?_
  rintro e w1 ⟨rfl, rfl⟩
  go_wp2_with fail
  refine (P1.out w (Below.refl _ _)).mono ?_
  rintro e w1 ⟨hb1, rfl⟩
  go_wp2_with fail
  refine (P2.out w1 hb1).mono ?_
  rintro e w2 ⟨hb2, rfl⟩
  have hB2 := hb1.trans (hb2.mono hb1.size)
  go_wp2_with fail
  refine (P5.out w2).mono ?_
  rintro e w3 ⟨rfl, rfl⟩
  go_wp2_with fail
  refine (P6.out w2).mono ?_
  rintro e w3 ⟨rfl, rfl⟩
  go_wp2_with fail
  refine (P3.out w2 hB2).mono ?_
  rintro e w3 ⟨hb3, rfl⟩
  have hB3 := hB2.trans (hb3.mono hB2.size)
  go_wp2_with fail
  refine (P4.out w3 hB3).mono ?_
  rintro e w4 ⟨hb4, rfl⟩
  have hB4 := hB3.trans (hb4.mono hB3.size)
  go_wp2_with fail
  refine (SN.out w4 hB4).mono ?_
  rintro e w5 ⟨hb5, rfl⟩
  go_wp2
  go_ret
  exact ⟨hB4.trans (hb5.mono hB4.size), rfl⟩
end Go.Proofs.YtpkhgdnkkdhlcaaGreatDoor

