/-
  Walks: bytes with their checksum (sealed, on both sides).
-/
import Derived.Test.YtpkhgdnkkdhlcaaGreatDoorSmX
import Derived.Test.YtpkhgdnkkdhlcaaGreatDoorCodX
import Derived.RegionTactic
import Derived.Deep.CutRange
namespace Go.Proofs.YtpkhgdnkkdhlcaaGreatDoor
open Go.RowKit By

/-- A number's four bytes, the least one first. -/
def sealN (s : Nat) : List Nat := [s % 256, s / 256 % 256, s / 65536 % 256, s / 16777216 % 256]
/-- The bytes of the checksum. -/
def sealB (l : List Nat) : List Nat := sealN (Crc.sumB l).toNat
theorem sealB_len (l : List Nat) : (sealB l).length = 4 := rfl
theorem sealB_bytes (l : List Nat) : Bytes (sealB l) := by
  intro x hx
  unfold sealB sealN at hx
  simp only [List.mem_cons, List.not_mem_nil, or_false] at hx
  rcases hx with h | h | h | h <;> omega
theorem gb4 (s : Nat) : gb 4 s = [s / 16777216 % 256, s / 65536 % 256, s / 256 % 256, s % 256] := by
  simp only [gb, List.nil_append, List.cons_append, List.cons.injEq, and_true]
  omega

set_option maxRecDepth 100000 in
set_option maxHeartbeats 1600000 in
theorem rev4_any (g c a0 a1 a2 a3 : Nat) (w : World) (h : Row w g 5 .u8 [a0, a1, a2, a3]) :
    Calls Tryz.prog 107 #[.slice (some ⟨g, 0, none⟩) 4 c] w fun e w' => (∃ v, e = .returned v) ∧ w.grownBy w' (some g) ∧ w'.heap.size = w.heap.size ∧ Row w' g 5 .u8 [a3, a2, a1, a0] := by
  go_enter Tryz.func107, Tryz.ntmps107
  go_wp2
  go_loopw [2, 3] (fun x y wr => w.grownBy wr (some g) ∧ wr.heap.size = w.heap.size ∧ ((x = .int .i64 0 ∧ y = .int .i64 3 ∧ Row wr g 5 .u8 [a0, a1, a2, a3]) ∨ (x = .int .i64 1 ∧ y = .int .i64 2 ∧ Row wr g 5 .u8 [a3, a1, a2, a0]) ∨ (x = .int .i64 2 ∧ y = .int .i64 1 ∧ Row wr g 5 .u8 [a3, a2, a1, a0]))) (fun x _ _ => 3 - (intOf x).toNat)
  case atStart => exact ⟨grown_refl _ _, rfl, .inl ⟨rfl, rfl, h⟩⟩
  case round =>
    obtain ⟨hg, hs, ⟨rfl, rfl, hr⟩ | ⟨rfl, rfl, hr⟩ | ⟨rfl, rfl, hr⟩⟩ := hrel
    · have c0 := hr.cell (i := 0) (by simp)
      have c3 := hr.cell (i := 3) (by simp)
      have f0 := hr.frozen 0
      have f3 := hr.frozen 3
      simp only [List.getD_cons_zero, List.getD_cons_succ] at c0 c3
      go_wp2_with fail
      go_region
      go_wp2
      have r1 := ((hr.put (i := 0) (by simp) a3).put (i := 3) (by simp) a0).drew
      have g1 := grown_trans hg ((grown_trans (grown_setCell wr ⟨g, 0, none⟩ (.int .u8 (a3 : Int))) (grown_setCell (wr.setCell ⟨g, 0, none⟩ (.int .u8 (a3 : Int))) ⟨g, 3, none⟩ (.int .u8 (a0 : Int)))))
      exact ⟨⟨grown_trans g1 ⟨rfl, rfl, rfl, Nat.le_refl _, fun _ _ _ => rfl⟩, by simpa [World.setCell] using hs, .inr (.inl ⟨rfl, rfl, r1⟩)⟩, by decide⟩
    · have c1 := hr.cell (i := 1) (by simp)
      have c2 := hr.cell (i := 2) (by simp)
      have f1 := hr.frozen 1
      have f2 := hr.frozen 2
      simp only [List.getD_cons_zero, List.getD_cons_succ] at c1 c2
      go_wp2_with fail
      go_region
      go_wp2
      have r1 := ((hr.put (i := 1) (by simp) a2).put (i := 2) (by simp) a1).drew
      have g1 := grown_trans hg ((grown_trans (grown_setCell wr ⟨g, 1, none⟩ (.int .u8 (a2 : Int))) (grown_setCell (wr.setCell ⟨g, 1, none⟩ (.int .u8 (a2 : Int))) ⟨g, 2, none⟩ (.int .u8 (a1 : Int)))))
      exact ⟨⟨grown_trans g1 ⟨rfl, rfl, rfl, Nat.le_refl _, fun _ _ _ => rfl⟩, by simpa [World.setCell] using hs, .inr (.inr ⟨rfl, rfl, r1⟩)⟩, by decide⟩
    · go_wp2
      go_end0
      exact ⟨⟨_, rfl⟩, hg, hs, hr⟩

set_option maxRecDepth 100000 in
set_option maxHeartbeats 1600000 in
theorem sealed_any (A : Option Addr) (c : Nat) (l : List Nat) (w : World) (hl : Bytes l) (hm : l.length ≤ 100000000) (h : Rd w w.heap.size A (ints .u8 l)) :
    Calls Tryz.prog 60 #[.slice A l.length c] w fun e w' => Below w.heap.size w w' ∧ ∃ v, e = .returned v ∧ IsL w' w'.heap.size .u8 v (sealB l) := by
  obtain ⟨i0, hi0, hz0, hz1, hz2⟩ := info_parts Tryz.u8c_info
  have hmk := make_ints (P := Tryz.prog) 25 5 i0 .u8 Tryz.underlying25 hi0 hz0 hz1 (by omega) .i64 .i64 4 4 rfl (by omega)
  have hB0 : Below w.heap.size w (w.alloc (.cells (ints .u8 (List.replicate 4 0)).toArray 5)) := (Below.refl _ _).alloc (Nat.le_refl _) _
  have CS := Lib.hid (checksum_any A c l _ hl hm ((h.below hB0).more hB0.size))
  have hrow0 : Row (w.alloc (.cells (ints .u8 (List.replicate 4 0)).toArray 5)) w.heap.size 5 .u8 (List.replicate 4 0) := Row.of_bk (Bk.new w 5 (ints .u8 (List.replicate 4 0)).toArray)
  have HS : Hid (sealB l = sealN (Crc.sumB l).toNat) := rfl
  have hs32 : (Crc.sumB l).toNat < 4294967296 := (Crc.sumB l).isLt
  unfold cv at CS
  generalize (Crc.sumB l).toNat = s at *
  clear h hl hm
  go_enter Tryz.func60, Tryz.ntmps60
  go_wp2_with fail
  refine CS.out.mono ?_
  rintro e w1 ⟨hb1, rfl⟩
  have hrow1 := hrow0.next hb1
  have hB1 := hB0.trans (hb1.mono hB0.size)
  have hlt1 := hrow1.lt
  have PU := Lib.hid (fun cc => put_any w.heap.size 0 4 cc s (List.replicate 4 0) w1 (by simp) (by omega) (by omega) hrow1)
  clear hrow0 hrow1 hmk CS hb1
  go_wp2_with fail
  refine (PU.out 4).mono ?_
  rintro e w2 ⟨⟨v2, rfl⟩, hg2, hs2, hrow2⟩
  have e4 : (List.replicate 4 0).take 0 ++ gb 4 s ++ (List.replicate 4 0).drop (0 + 4) = [s / 16777216 % 256, s / 65536 % 256, s / 256 % 256, s % 256] := by rw [gb4]; rfl
  rw [e4] at hrow2
  have hB2 := hB1.grown hg2 hB1.size (fun r e => by cases e; exact Nat.le_refl _)
  have RV := Lib.hid (fun cc => rev4_any w.heap.size cc _ _ _ _ w2 hrow2)
  clear e4 PU hg2 hrow2
  go_wp2_with fail
  refine (RV.out 4).mono ?_
  rintro e w3 ⟨⟨v3, rfl⟩, hg3, hs3, hrow3⟩
  have hB3 := hB2.grown hg3 hB2.size (fun r e => by cases e; exact Nat.le_refl _)
  have HL := Lib.hid (IsL.row hrow3 (c := 4) (by simp))
  clear RV hrow3
  go_wp2
  go_ret
  refine ⟨hB3, _, rfl, ?_⟩
  rw [HS.out]
  exact HL.out

set_option maxRecDepth 100000 in
set_option maxHeartbeats 1600000 in
/-- The reference: bytes with the checksum behind them. -/
theorem rsealed_any (A : Option Addr) (c : Nat) (l : List Nat) (w : World) (hl : Bytes l) (hm : l.length ≤ 100000000) (h : Rd w w.heap.size A (ints .u8 l)) :
    Calls Tryz.prog 63 #[.slice A l.length c] w fun e w' => Below w.heap.size w w' ∧ ∃ v, e = .returned v ∧ IsL w' w'.heap.size .u8 v (l ++ sealB l) := by
  obtain ⟨i0, hi0, hz0, hz1, hz2⟩ := info_parts Tryz.u8c_info
  have CS := Lib.hid (rchecksum_any A c l w hl hm h)
  have HS : Hid (sealB l = sealN (Crc.sumB l).toNat) := rfl
  have hs32 : (Crc.sumB l).toNat < 4294967296 := (Crc.sumB l).isLt
  unfold cv at CS
  generalize (Crc.sumB l).toNat = s at *
  go_enter Tryz.func63, Tryz.ntmps63
  go_wp2_with fail
  refine CS.out.mono ?_
  rintro e w1 ⟨rfl, rfl⟩
  go_upto_region 4 with (at_builtin; refine wpL_append _ rfl (.tmp 7) (.tmp 8) _ rfl w.heap.size 5 i0 _ 1 1 Tryz.underlying25 hi0 hz0 hz1 hz2 rfl (by omega) _ 0 [] rfl (World.ownsRow_nil _ _ _ _) A l.length c (ints .u8 l) rfl (by rw [ints_length, Nat.mul_one]) h (ints_one _ _) (by unfold maxLen; omega) (by omega) (Nat.le_refl _) ?_; intro v1 w1 hown1 hg1 hat1)
  have hB1 : Below w.heap.size w w1 := below_app (Below.refl _ _) hg1 (Nat.le_refl _) (World.ownsRow_nil w w.heap.size 5 1) (Nat.le_refl _)
  obtain ⟨A1, c1, rfl, -⟩ := own_slice hown1
  have HO := Lib.hid (hown1.alloc (.cells (ints .u8 [s % 256, s / 256 % 256, s / 65536 % 256, s / 16777216]).toArray 5))
  clear hown1 hg1 hat1
  go_wp2_with (at_builtin; refine wpL_append _ rfl (.tmp 10) (.tmp 22) _ rfl w.heap.size 5 i0 _ 1 1 Tryz.underlying25 hi0 hz0 hz1 hz2 rfl (by omega) _ (0 + l.length) ([] ++ ints .u8 l) rfl HO.out (some ⟨w1.heap.size, 0, none⟩) 4 4 (ints .u8 [s % 256, s / 256 % 256, s / 65536 % 256, s / 16777216]) rfl rfl (Rd.of_new w1 (ints .u8 [s % 256, s / 256 % 256, s / 65536 % 256, s / 16777216]) 5) (ints_one _ _) (by unfold maxLen; omega) (by omega) (by have := hB1.size; rw [World.size_alloc]; omega) ?_; intro v2 w2 hown2 hg2 hat2)
  have hB2 : Below w.heap.size w w2 := below_app (hB1.alloc hB1.size _) hg2 (by have := hB1.size; simp only [World.size_alloc]; omega) HO.out (Nat.le_refl _)
  have e0 : s / 16777216 % 256 = s / 16777216 := by omega
  have e1 : [] ++ ints .u8 l ++ ints .u8 [s % 256, s / 256 % 256, s / 65536 % 256, s / 16777216] = ints .u8 (l ++ sealB l) := by
    rw [HS.out, List.nil_append, ints_append]
    unfold sealN
    rw [e0]
  rw [e1] at hown2
  have HL := Lib.hid (IsL.of_own hown2)
  go_ret
  exact ⟨hB2, _, rfl, HL.out⟩
end Go.Proofs.YtpkhgdnkkdhlcaaGreatDoor

