/-
  Walks: a number in two's complement (the reference's signed).
-/
import Derived.Test.YtpkhgdnkkdhlcaaGreatDoorPuX
import Derived.Test.YtpkhgdnkkdhlcaaGreatDoorRedX
import Derived.Test.YtpkhgdnkkdhlcaaGreatDoorCodX
namespace Go.Proofs.YtpkhgdnkkdhlcaaGreatDoor
open Go.RowKit Ar By

theorem put_int {z : Int} (h : -9223372036854775808 ≤ z ∧ z ≤ 9223372036854775807) : putT ((z : Int) : Rat) = ⟨(Lib.itoa z).toArray⟩ := by
  have hd : ((z : Int) : Rat).den = 1 := Rat.den_intCast _
  have hn : ((z : Int) : Rat).num = z := Rat.num_intCast _
  unfold putT
  rw [if_pos, rat_itoa hd, hn]
  unfold Short nm dn
  rw [hn, hd]
  exact ⟨decDigits_len_le (by decide) (Nat.lt_of_le_of_lt (show z.natAbs ≤ 9223372036854775808 by omega) (by decide)), decDigits_len_le (by decide) (by decide)⟩
theorem sz_int {z : Int} (h : -9223372036854775808 ≤ z ∧ z ≤ 9223372036854775807) : sz (z : Rat) ≤ 1000 := by
  unfold sz nm dn
  rw [Rat.num_intCast, Rat.den_intCast]
  have h1 : (limbs 1).length ≤ 1 := limbs_len_le (by decide)
  have h2 : (limbs z.natAbs).length ≤ 3 := limbs_len_le (k := 3) (by have : B ^ 3 = 1000000000000000000000000000 := rfl; omega)
  omega
set_option maxRecDepth 100000 in
set_option maxHeartbeats 1600000 in
theorem rfromz_any (z : Int) (w : World) (h : -9223372036854775808 ≤ z ∧ z ≤ 9223372036854775807) :
    Calls Tryz.prog 74 #[.int .i64 z] w fun e w' => Below w.heap.size w w' ∧ e = .returned (.string ⟨(Lib.itoa z).toArray⟩) := by
  have hs := sz_int h
  have hp := Lib.hid (put_int h)
  go_enter Tryz.func74, Tryz.ntmps74
  go_wp2_with fail
  refine (intQ_any z w h).mono ?_
  rintro e w1 ⟨hb1, v, rfl, hv⟩
  go_wp2_with fail
  refine (rput_any _ v w1 hv (by omega)).mono ?_
  rintro e w2 ⟨hb2, rfl⟩
  rw [hp.out]
  go_wp2
  go_ret
  exact ⟨hb1.trans (hb2.mono hb1.size), rfl⟩
set_option maxRecDepth 100000 in
set_option maxHeartbeats 1600000 in
theorem rsigned_any (W : Nat) (l : List Nat) (w : World) (hW : W = 1 ∨ W = 2 ∨ W = 4 ∨ W = 8) (hl : l.length = W) (hb : Bytes l) :
    Calls Tryz.prog 41 #[.int .u64 ((gv l : Nat) : Int), .int .i64 W] w fun e w' => Below w.heap.size w w' ∧ e = .returned (.string ⟨(Lib.itoa (svl l)).toArray⟩) := by
  have hs := shift_svl hW hl hb
  have hr := svl_64 (l := l) (by rcases hW with h | h | h | h <;> omega) hb
  have hg := gv_lt hl hb
  generalize svl l = z at *
  generalize gv l = g at *
  have FZ := Lib.hid (fun W => rfromz_any z W hr)
  have H1 := Lib.hid (fun (h : W = 1) => show wrap64 ((g : Int) * 72057594037927936) / 72057594037927936 = z from by
    subst h
    rw [hs]
    have hg' : g < 256 := hg
    unfold wrap64
    simp only [show 128 * 256 ^ (1 - 1) = 128 from rfl, show (256 : Nat) ^ (1 - 1) = 1 from rfl]
    split <;> omega)
  have H2 := Lib.hid (fun (h : W = 2) => show wrap64 ((g : Int) * 281474976710656) / 281474976710656 = z from by
    subst h
    rw [hs]
    have hg' : g < 65536 := hg
    unfold wrap64
    simp only [show 128 * 256 ^ (2 - 1) = 32768 from rfl, show (256 : Nat) ^ (2 - 1) = 256 from rfl]
    split <;> omega)
  have H4 := Lib.hid (fun (h : W = 4) => show wrap64 ((g : Int) * 4294967296) / 4294967296 = z from by
    subst h
    rw [hs]
    have hg' : g < 4294967296 := hg
    unfold wrap64
    simp only [show 128 * 256 ^ (4 - 1) = 2147483648 from rfl, show (256 : Nat) ^ (4 - 1) = 16777216 from rfl]
    split <;> omega)
  have H8 := Lib.hid (fun (h : W = 8) => show wrap64 (g : Int) = z from by
    subst h
    rw [hs]
    have hg' : g < 18446744073709551616 := hg
    unfold wrap64
    simp only [show 128 * 256 ^ (8 - 1) = 9223372036854775808 from rfl, show (256 : Nat) ^ (8 - 1) = 72057594037927936 from rfl]
    split <;> omega)
  clear hs
  rcases hW with rfl | rfl | rfl | rfl
  · have hg' : g < 256 := hg
    clear hg hl hb hr
    go_enter Tryz.func41, Tryz.ntmps41
    go_wp2_with fail
    rw [H1.out (by trivial)]
    refine (FZ.out w).mono ?_
    rintro e w1 ⟨hb1, rfl⟩
    go_wp2
    go_ret
    exact ⟨hb1, rfl⟩
  · have hg' : g < 65536 := hg
    clear hg hl hb hr
    go_enter Tryz.func41, Tryz.ntmps41
    go_wp2_with fail
    rw [H2.out (by trivial)]
    refine (FZ.out w).mono ?_
    rintro e w1 ⟨hb1, rfl⟩
    go_wp2
    go_ret
    exact ⟨hb1, rfl⟩
  · have hg' : g < 4294967296 := hg
    clear hg hl hb hr
    go_enter Tryz.func41, Tryz.ntmps41
    go_wp2_with fail
    rw [H4.out (by trivial)]
    refine (FZ.out w).mono ?_
    rintro e w1 ⟨hb1, rfl⟩
    go_wp2
    go_ret
    exact ⟨hb1, rfl⟩
  · have hg' : g < 18446744073709551616 := hg
    clear hg hl hb hr
    go_enter Tryz.func41, Tryz.ntmps41
    go_wp2_with fail
    rw [H8.out (by trivial)]
    refine (FZ.out w).mono ?_
    rintro e w1 ⟨hb1, rfl⟩
    go_wp2
    go_ret
    exact ⟨hb1, rfl⟩
end Go.Proofs.YtpkhgdnkkdhlcaaGreatDoor

