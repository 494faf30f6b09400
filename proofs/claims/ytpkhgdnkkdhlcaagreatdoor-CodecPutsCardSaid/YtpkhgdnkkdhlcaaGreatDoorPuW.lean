/-
  The walk of the law CodecPuts.
-/
import Derived.Test.YtpkhgdnkkdhlcaaGreatDoorPuX
import Derived.Test.YtpkhgdnkkdhlcaaGreatDoorRdX
import Derived.Test.YtpkhgdnkkdhlcaaGreatDoorSanX
namespace Go.Proofs.YtpkhgdnkkdhlcaaGreatDoor
open Go.RowKit Ar By

set_option maxRecDepth 100000 in
set_option maxHeartbeats 6400000 in
theorem cputs_walk (k : Int) (L : List ByteArray) (v : Value) (w : World) (_ : -9223372036854775808 ≤ k) (_ : k ≤ 9223372036854775807) (h : IsT w w.heap.size v L) (hL : L.length ≤ maxLen) (hm : ∀ s ∈ L, s.size ≤ maxLen) (he : Env w) (her : EnvR w) (hg : EnvG w) :
    Calls Tryz.prog 3 #[.int .i64 k, v] w fun e w' => Below w.heap.size w w' ∧ e = .returned (.bool true) := by
  obtain ⟨z, hz⟩ : ∃ b : Bool, b = true ↔ 100 < L.length ∨ ∃ s ∈ L, 200 < s.size := by classical exact ⟨decide _, decide_eq_true_iff⟩
  obtain ⟨A, c, rfl, -⟩ := h.form
  have hr := h.rd
  have LG := Lib.hid (long_any L A c w hr hL z hz hm)
  have SN := Lib.hid (fun W (hW : Below w.heap.size w W) => sane_any W (he.next hW))
  cases z
  rotate_left
  · clear hz hm h he her hg hL hr
    go_enter Tryz.func3, Tryz.ntmps3
    go_wp2_with fail
    refine LG.out.mono ?_
    rintro e w1 ⟨rfl, rfl⟩
    go_wp2_with fail
    refine (SN.out w (Below.refl _ _)).mono ?_
    rintro e w1 ⟨hb1, rfl⟩
    go_wp2
    go_ret
    exact ⟨hb1, rfl⟩
  have hn : ¬ (100 < L.length ∨ ∃ s ∈ L, 200 < s.size) := fun h => by have := hz.2 h; cases this
  have h10 : L.length ≤ 100 := by
    have : ¬ 100 < L.length := fun e => hn (.inl e)
    omega
  have h200 : ∀ x ∈ L, x.size ≤ 4000000 := fun x hx => by
    have : ¬ 200 < x.size := fun e => hn (.inr ⟨x, hx, e⟩)
    omega
  have P1 := Lib.hid (fun W (hW : Below w.heap.size w W) => pput_any k A c L W ((hr.below hW).more hW.size) (by omega) h200 (he.next hW) (hg.next hW))
  have P2 := Lib.hid (fun W (hW : Below w.heap.size w W) => rcput_any k A c L W ((hr.below hW).more hW.size) (by omega) h200)
  have P3 := Lib.hid (fun A' c' W (hW : Below w.heap.size w W) (hE : accE k L = 0) (hc : (putB k L).length ≤ c') (hRd : Rd W W.heap.size A' (ints .u8 (putB k L))) => show Calls Tryz.prog 14 #[.int .i64 k, .int .i64 L.length, .slice A' (putB k L).length c'] W fun e w' => Below W.heap.size W w' ∧ ∃ v, e = .returned (.tuple #[v, .int .i64 0]) ∧ IsT w' w'.heap.size v L from by
    have hp := pget_any k L.length A' c' (putB k L) W hRd (putB_facts hE).1 (by have := (putB_facts hE).2; omega) hc (he.next hW) (her.next hW) (hg.next hW)
    rw [getG_put hE] at hp
    exact hp)
  have SM := Lib.hid (fun A' c' W (hW : Below w.heap.size w W) (h1 : Rd W W.heap.size A' (strs L)) => csame_any L A' A c' c W (by omega) h1 ((hr.below hW).more hW.size))
  clear hz hm h he her hg hL hn h200 hr
  obtain ⟨R, hR⟩ : ∃ R, (if accE k L = 0 then putB k L else []) = R := ⟨_, rfl⟩
  rw [hR] at P1 P2
  have HR : Hid (accE k L = 0 → putB k L = R) := fun h0 => by rw [← hR, if_pos h0]
  clear hR
  generalize accE k L = E at *
  generalize putB k L = PB at *
  go_enter Tryz.func3, Tryz.ntmps3
  go_wp2_with fail
  refine LG.out.mono ?_
  rintro e w1 ⟨rfl, rfl⟩
  go_wp2_with fail
  refine (P1.out w (Below.refl _ _)).mono ?_
  rintro e w1 ⟨hb1, u1, rfl, hu1⟩
  obtain ⟨A1, c1, rfl, hc1, hr1⟩ := hu1
  go_wp2_with fail
  refine (P2.out w1 hb1).mono ?_
  rintro e w2 ⟨hb2, u2, rfl, hu2⟩
  obtain ⟨A2, c2, rfl, hc2, hr2⟩ := hu2
  have hB2 := hb1.trans (hb2.mono hb1.size)
  have hr12 := (hr1.below hb2).more hb2.size
  clear hr1 hb1 hb2 P1 P2
  have s1 := run_to_string (P := Tryz.prog) hr12 25 5 9 Tryz.underlying25 Tryz.underlying5 Tryz.underlying9 R.length c1 rfl
  have s2 := run_to_string (P := Tryz.prog) hr2 25 5 9 Tryz.underlying25 Tryz.underlying5 Tryz.underlying9 R.length c2 rfl
  have s3 := bstr_self R
  go_wp2_with fail
  by_cases h0 : E = 0
  rotate_left
  · have h0' : (E != 0) = true := by simp [h0]
    clear P3 SM HR
    go_wp2_with fail
    refine (SN.out w2 hB2).mono ?_
    rintro e w3 ⟨hb3, rfl⟩
    go_wp2
    go_ret
    exact ⟨hB2.trans (hb3.mono hB2.size), rfl⟩
  obtain rfl := HR.out h0
  have P4 := Lib.hid (fun A' c' W hW hc hRd => P3.out A' c' W hW h0 hc hRd)
  subst h0
  clear P3 HR
  go_wp2_with fail
  refine (SN.out w2 hB2).mono ?_
  rintro e w3 ⟨hb3, rfl⟩
  have hB3 := hB2.trans (hb3.mono hB2.size)
  have hr13 := (hr12.below hb3).more hb3.size
  clear hr12 hr2 hb3 hB2 s1 s2 s3
  go_wp2_with fail
  refine (P4.out A1 c1 w3 hB3 hc1 hr13).mono ?_
  rintro e w4 ⟨hb4, u4, rfl, hu4⟩
  obtain ⟨A4, c4, rfl, -⟩ := hu4.form
  have hB4 := hB3.trans (hb4.mono hB3.size)
  go_wp2_with fail
  refine (SM.out A4 c4 w4 hB4 hu4.rd).mono ?_
  rintro e w5 ⟨hb5, rfl⟩
  go_wp2
  go_ret
  exact ⟨hB4.trans (hb5.mono hB4.size), rfl⟩
end Go.Proofs.YtpkhgdnkkdhlcaaGreatDoor

