/-
  Walks: the laws' sanity check of package codec.
-/
import Derived.Test.YtmoenbdooilceaaDoorPutA
namespace Go.Proofs.YtmoenbdooilceaaDoor
open Go.RowKit By

theorem parses_ok {s : ByteArray} {n : Int} (hs : s.size ≤ 4000000) (h : Lib.parseIntB 64 s.data.toList = .ok n) : Parses s n := fun W _ =>
  (Tryd.strconv_ParseInt_10_at64_ok s (by omega) n h W).mono fun e w' ⟨he, hw⟩ => by
    refine ⟨?_, _, he⟩
    rcases hw with rfl | ⟨t, rfl⟩
    · exact Below.refl _ _
    · exact Lib.bytesWorld_below _ _ _
theorem parses_none : Parses ⟨#[]⟩ 0 := fun W hW => by
  obtain ⟨_, ⟨ev, hv, he⟩, _⟩ := hW
  refine (Any.strconv_ParseInt_10_at64_syntax Tryd.laysC174 ⟨#[]⟩ (by decide) rfl ev W hv he).mono fun e w' ⟨N, he, _, _, hb⟩ => ⟨hb, _, he⟩

theorem fit1 : Fit16 ⟨#[49]⟩ := ⟨by decide, fun _ => ⟨⟨⟨fun b hb => by simp [Ar.unsign, Ar.isNeg] at hb; subst hb; decide, by decide, by decide⟩, by decide⟩, by decide, 1, by rfl⟩⟩
theorem fit2 : Fit16 ⟨#[]⟩ := ⟨by decide, fun h => absurd rfl h⟩
theorem fit3 : Fit16 ⟨#[45, 50]⟩ := ⟨by decide, fun _ => ⟨⟨⟨fun b hb => by simp [Ar.unsign, Ar.isNeg] at hb; subst hb; decide, by decide, by decide⟩, by decide⟩, by decide, -2, by rfl⟩⟩
def sane3 : List ByteArray := [⟨#[49]⟩, ⟨#[]⟩, ⟨#[45, 50]⟩]
theorem sane_bytes : putI 2 [true, false, true] [1, 0, -2] 3 = [5, 0, 1, 0, 0, 255, 254] := by decide +kernel

set_option maxRecDepth 100000 in
set_option maxHeartbeats 1600000 in
theorem sane_any (w : World) (he : Env w) :
    Calls Tryd.prog 10 #[] w fun e w' => Below w.heap.size w w' ∧ e = .returned (.bool true) := by
  have hr : Rd (w.alloc (.cells (strs sane3).toArray 9)) (w.heap.size + 1) (some ⟨w.heap.size, 0, none⟩) (strs sane3) := Rd.of_new w (strs sane3) 9
  have hfit : ∀ s ∈ sane3, Fit16 s := fun s hs => by
    simp only [sane3, List.mem_cons, List.not_mem_nil, or_false] at hs
    rcases hs with rfl | rfl | rfl
    · exact fit1
    · exact fit2
    · exact fit3
  have hacc := accepted_16 (some ⟨w.heap.size, 0, none⟩) 3 sane3 (w.alloc (.cells (strs sane3).toArray 9)) (by decide) (by simpa using hr) hfit (he.alloc _)
  have hput := puti_any (some ⟨w.heap.size, 0, none⟩) 3 2 sane3 [true, false, true] [1, 0, -2] (w.alloc (.cells (strs sane3).toArray 9)) (by decide) (by decide) (by decide) rfl (by simpa using hr) (he.alloc _) hacc
    (fun i hi => by
      obtain rfl | rfl | rfl : i = 0 ∨ i = 1 ∨ i = 2 := by simp [sane3] at hi; omega
      all_goals (rw [bs_toList]; rfl))
    (fun i hi => by
      obtain rfl | rfl | rfl : i = 0 ∨ i = 1 ∨ i = 2 := by simp [sane3] at hi; omega
      · exact parses_ok (s := ⟨#[49]⟩) (by decide) (by rfl)
      · exact parses_none
      · exact parses_ok (s := ⟨#[45, 50]⟩) (by decide) (by rfl))
  have HP : Hid (Calls Tryd.prog 31 #[.int .i64 2, .slice (some ⟨w.heap.size, 0, none⟩) 3 3] (w.alloc (.cells #[.string ⟨#[49]⟩, .string ⟨#[]⟩, .string ⟨#[45, 50]⟩] 9)) fun e w' => Below (w.alloc (.cells #[.string ⟨#[49]⟩, .string ⟨#[]⟩, .string ⟨#[45, 50]⟩] 9)).heap.size (w.alloc (.cells #[.string ⟨#[49]⟩, .string ⟨#[]⟩, .string ⟨#[45, 50]⟩] 9)) w' ∧ ∃ v, e = .returned (.tuple #[v, .int .i64 0]) ∧ IsL w' w'.heap.size .u8 v [5, 0, 1, 0, 0, 255, 254]) := by
    rw [show sane3.length = 3 from rfl, show 2 ^ (2 - 1) = 2 from rfl, sane_bytes] at hput
    exact hput
  clear hput hacc hr hfit
  go_enter Tryd.func10, Tryd.ntmps10
  go_wp2_with fail
  refine HP.out.mono ?_
  rintro e w1 ⟨hb1, v, rfl, hv⟩
  obtain ⟨A, c, rfl, hc, hrd⟩ := hv
  have hB := (below_alloc w (.cells #[.string ⟨#[49]⟩, .string ⟨#[]⟩, .string ⟨#[45, 50]⟩] 9)).trans (hb1.mono (by simp))
  obtain ⟨ad, rfl, _, g0⟩ := hrd.int (j := 0) (by decide)
  obtain ⟨ad2, h2, _, g2⟩ := hrd.int (j := 2) (by decide)
  obtain ⟨ad5, h5, _, g5⟩ := hrd.int (j := 5) (by decide)
  obtain ⟨ad6, h6, _, g6⟩ := hrd.int (j := 6) (by decide)
  injection h2 with h2
  injection h5 with h5
  injection h6 with h6
  subst h2 h5 h6
  rw [addr_zero] at g0
  simp only [List.getD_cons_zero, List.getD_cons_succ] at g0 g2 g5 g6
  rw [show ad.add 2 = ⟨ad.block, ad.off + 2, none⟩ from rfl] at g2
  rw [show ad.add 5 = ⟨ad.block, ad.off + 5, none⟩ from rfl] at g5
  rw [show ad.add 6 = ⟨ad.block, ad.off + 6, none⟩ from rfl] at g6
  clear hb1 HP hrd
  go_wp2
  go_ret
  exact ⟨hB, rfl⟩
end Go.Proofs.YtmoenbdooilceaaDoor
