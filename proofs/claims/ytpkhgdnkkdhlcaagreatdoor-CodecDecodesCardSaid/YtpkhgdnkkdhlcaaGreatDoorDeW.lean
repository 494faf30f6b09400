/-
  The walk of the law CodecDecodes.
-/
import Derived.Test.YtpkhgdnkkdhlcaaGreatDoorDeD
import Derived.Test.YtpkhgdnkkdhlcaaGreatDoorDeE
import Derived.Test.YtpkhgdnkkdhlcaaGreatDoorRdS
import Derived.Test.YtpkhgdnkkdhlcaaGreatDoorSanX
namespace Go.Proofs.YtpkhgdnkkdhlcaaGreatDoor
open Go.RowKit Ar By

theorem bk4 {w : World} {g : Nat} {t : TypeId} {a b c d : Value} (h : Bk w g t #[a, b, c, d]) : w.cell? ⟨g, 0, none⟩ = some a ∧ w.cell? ⟨g, 1, none⟩ = some b ∧ w.cell? ⟨g, 2, none⟩ = some c ∧ w.cell? ⟨g, 3, none⟩ = some d := ⟨h.cell 0, h.cell 1, h.cell 2, h.cell 3⟩
set_option maxRecDepth 100000 in
set_option maxHeartbeats 6400000 in
theorem cdecodes_walk (k : Int) (C : List Stg) (n : Int) (b : List Nat) (A Ab : Option Addr) (cs cb : Nat) (w : World) (hC : Rd w w.heap.size A (srow C)) (h : Rd w w.heap.size Ab (ints .u8 b))
    (_ : -9223372036854775808 ≤ k) (_ : k ≤ 9223372036854775807) (hCl : C.length ≤ maxLen) (hsz : ∀ x ∈ C, x.2.2.size ≤ maxLen) (_ : -9223372036854775808 ≤ n) (_ : n ≤ 9223372036854775807) (hc : b.length ≤ cb) (_ : cb ≤ maxLen) (hb : Bytes b) (he : Env w) (her : EnvR w) (hg : EnvG w) :
    Calls Tryz.prog 7 #[.agg #[.int .i64 k, .slice A C.length cs, .int .i64 n, .slice Ab b.length cb]] w fun e w' => Below w.heap.size w w' ∧ e = .returned (.bool true) := by
  obtain ⟨z, hz⟩ : ∃ b : Bool, b = true ↔ 10 < C.length ∨ ∃ x ∈ C, 200 < x.2.2.size := by classical exact ⟨decide _, decide_eq_true_iff⟩
  have B0 : Below w.heap.size w (w.alloc (.cells #[.int .i64 k, .slice A C.length cs, .int .i64 n, .slice Ab b.length cb] 44)) := (Below.refl _ _).alloc (Nat.le_refl _) _
  have k0 : Bk (w.alloc (.cells #[.int .i64 k, .slice A C.length cs, .int .i64 n, .slice Ab b.length cb] 44)) w.heap.size 44 #[.int .i64 k, .slice A C.length cs, .int .i64 n, .slice Ab b.length cb] := Bk.new w _ _
  have ST := Lib.hid (steep_any C A cs _ ((hC.below B0).more B0.size) hCl z hz hsz)
  have SN := Lib.hid (fun W (hW : Below w.heap.size w W) => sane_any W (he.next hW))
  by_cases hl : 300 < b.length
  · have hl' : (300 : Int) < (b.length : Int) := by omega
    clear hC h hb he her hg hl hz hCl hsz ST
    obtain ⟨e0, e1, e2, e3⟩ := bk4 k0
    go_enter Tryz.func7, Tryz.ntmps7
    go_wp2_with fail
    refine (SN.out _ B0).mono ?_
    rintro e w1 ⟨hb1, rfl⟩
    go_wp2
    go_ret
    exact ⟨B0.trans (hb1.mono B0.size), rfl⟩
  have hl' : ¬ (300 : Int) < (b.length : Int) := by omega
  cases z
  rotate_left
  · clear hC h hb he her hg hl hz hCl hsz
    obtain ⟨e0, e1, e2, e3⟩ := bk4 k0
    go_enter Tryz.func7, Tryz.ntmps7
    go_wp2_with fail
    refine ST.out.mono ?_
    rintro e w1 ⟨rfl, rfl⟩
    go_wp2_with fail
    refine (SN.out _ B0).mono ?_
    rintro e w1 ⟨hb1, rfl⟩
    go_wp2
    go_ret
    exact ⟨B0.trans (hb1.mono B0.size), rfl⟩
  have hn : ¬ (10 < C.length ∨ ∃ x ∈ C, 200 < x.2.2.size) := fun h => by have := hz.2 h; cases this
  have h10 : C.length ≤ 1000000 := by
    have : ¬ 10 < C.length := fun e => hn (.inl e)
    omega
  have h200 : ∀ x ∈ C, x.2.2.size ≤ 4000000 := fun x hx => by
    have : ¬ 200 < x.2.2.size := fun e => hn (.inr ⟨x, hx, e⟩)
    omega
  have G1 := Lib.hid (fun W (hW : Below w.heap.size w W) => decode_any k n C b A Ab cs cb W ((hC.below hW).more hW.size) h10 h200 ((h.below hW).more hW.size) hb (by omega) hc (he.next hW) (her.next hW) (hg.next hW))
  have G2 := Lib.hid (fun W (hW : Below w.heap.size w W) => rdecode_any k n C b A Ab cs cb W ((hC.below hW).more hW.size) h10 h200 ((h.below hW).more hW.size) hb (by omega) hc)
  have hgl := decR_len (k := k) (n := n) (C := C) (b := b)
  have SM := Lib.hid (fun A' A'' c' c'' W (h1 : Rd W W.heap.size A' (strs (decR k C n b).1)) (h2 : Rd W W.heap.size A'' (strs (decR k C n b).1)) => csame_any (decR k C n b).1 A' A'' c' c'' W (by omega) h1 h2)
  clear h hC hb he her hg hl hgl hz hn h10 h200 hCl hsz hc
  generalize (decR k C n b).1 = L at *
  generalize (decR k C n b).2 = E at *
  obtain ⟨e0, e1, e2, e3⟩ := bk4 k0
  go_enter Tryz.func7, Tryz.ntmps7
  go_wp2_with fail
  refine ST.out.mono ?_
  rintro e w1 ⟨rfl, rfl⟩
  go_wp2_with fail
  refine (G1.out _ B0).mono ?_
  rintro e w1 ⟨hb1, u1, rfl, hu1⟩
  obtain ⟨A1, c1, rfl, -⟩ := hu1.form
  have B1 := B0.trans (hb1.mono B0.size)
  have k1 := k0.next' hb1
  clear ST e0 e1 e2 e3
  obtain ⟨e0, e1, e2, e3⟩ := bk4 k1
  clear k0 B0 hb1 k1
  go_wp2_with fail
  refine (G2.out w1 B1).mono ?_
  rintro e w2 ⟨hb2, u2, rfl, hu2⟩
  obtain ⟨A2, c2, rfl, -⟩ := hu2.form
  have hB2 := B1.trans (hb2.mono B1.size)
  have hu12 := hu1.next hb2
  clear hu1 hb2 G1 G2 e0 e1 e2 e3
  go_wp2_with fail
  refine (SM.out A1 A2 c1 c2 w2 hu12.rd hu2.rd).mono ?_
  rintro e w3 ⟨hb3, rfl⟩
  have hB3 := hB2.trans (hb3.mono hB2.size)
  go_wp2_with fail
  refine (SN.out w3 hB3).mono ?_
  rintro e w4 ⟨hb4, rfl⟩
  go_wp2
  go_ret
  exact ⟨hB3.trans (hb4.mono hB3.size), rfl⟩
end Go.Proofs.YtpkhgdnkkdhlcaaGreatDoor

