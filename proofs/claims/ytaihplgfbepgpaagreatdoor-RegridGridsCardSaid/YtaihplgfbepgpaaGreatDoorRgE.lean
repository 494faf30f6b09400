/-
  The walk of the law RegridGrids.
-/
import Derived.Test.YtaihplgfbepgpaaGreatDoorRgV
namespace Go.Proofs.YtaihplgfbepgpaaGreatDoor
open Go.RowKit Ar

set_option maxRecDepth 100000 in
set_option maxHeartbeats 3200000 in
theorem grids_walk (L : List Ce) (v : Value) (w : World) (h : IsCs w w.heap.size v L) (he : EnvR w) (hL : L.length ≤ maxLen) (hm : ∀ x ∈ L, x.1.length ≤ maxLen) :
    Calls Tryz.prog 3 #[v] w fun e w' => Below w.heap.size w w' ∧ e = .returned (.bool true) := by
  obtain ⟨y, hy⟩ := bool_of (6 < L.length ∨ ∃ x ∈ L, 10 < x.1.length)
  have MN := Many_any L 6 v w h (by omega) hL y hy hm
  obtain ⟨bad, hbad⟩ := bool_of (∃ x ∈ L, ¬ validC x.1)
  obtain ⟨z, hz⟩ := bool_of (flatG L)
  have HY := Lib.hid hy
  have HBD := Lib.hid hbad
  have HZ := Lib.hid hz
  have HH := Lib.hid h
  obtain ⟨A, c, rfl⟩ := h.form
  clear hy hbad hz h hL hm
  cases y with
  | true =>
    go_enter Tryz.func3, Tryz.ntmps3
    go_wp2_with fail
    refine MN.mono ?_
    rintro e w1 ⟨hb1, rfl⟩
    clear MN
    go_wp2_with fail
    refine (sane_any _ (he.next hb1)).mono ?_
    rintro e w2 ⟨hb2, rfl⟩
    have hB := hb1.trans (hb2.mono hb1.size)
    clear hb1 hb2
    go_wp2
    go_ret
    exact ⟨hB, rfl⟩
  | false =>
  have h6 : L.length ≤ 64 := by
    rcases Nat.lt_or_ge 6 L.length with h | h
    · have := HY.out.2 (Or.inl h); cases this
    · omega
  have A1 := Lib.hid (fun X (hX : Below w.heap.size w X) => Areas_any L _ X ((HH.out.below hX).more hX.size) (he.next hX) h6 bad z HBD.out (fun _ => HZ.out))
  have A2 := Lib.hid (fun X (hX : Below w.heap.size w X) => RAreas_any L _ X ((HH.out.below hX).more hX.size) h6 bad z HBD.out (fun _ => HZ.out))
  have V1 := Lib.hid (fun X (hX : Below w.heap.size w X) => ValidGrid_any L _ X ((HH.out.below hX).more hX.size) h6 bad z HBD.out (fun _ => HZ.out))
  have V2 := Lib.hid (fun X (hX : Below w.heap.size w X) => RValidGrid_any L _ X ((HH.out.below hX).more hX.size) h6 bad z HBD.out (fun _ => HZ.out))
  have SN := Lib.hid (fun X (hX : Below w.heap.size w X) => sane_any X (he.next hX))
  have hn : (if bad then 0 else if z then L.length else 0) = (if bad then [] else if z then areaT L else []).length := by
    cases bad <;> cases z <;> simp [areaT]
  have hl : (if bad then [] else if z then areaT L else []).length ≤ 1000000 := by rw [← hn]; split <;> (try split) <;> omega
  rw [hn] at A1 A2
  generalize (if bad then [] else if z then areaT L else []) = tl at *
  generalize (if bad then (80 : Int) else if z then 0 else 81) = er at *
  generalize (!bad && z) = vb at *
  clear hn HY HBD HZ HH
  go_enter Tryz.func3, Tryz.ntmps3
  go_wp2_with fail
  refine MN.mono ?_
  rintro e w1 ⟨hb1, rfl⟩
  clear MN
  go_wp2_with fail
  refine (A1.out w1 hb1).mono ?_
  rintro e w2 ⟨hb2, Aa, cca, rfl, ra⟩
  have hB2 := hb1.trans (hb2.mono hb1.size)
  clear A1 hb1 hb2
  go_wp2_with fail
  refine (A2.out w2 hB2).mono ?_
  rintro e w3 ⟨hb3, Ab, ccb, rfl, rb⟩
  have hB3 := hB2.trans (hb3.mono hB2.size)
  have ra3 := (ra.below hb3).more hb3.size
  clear A2 hb3 hB2 ra
  go_wp2_with fail
  refine (V1.out w3 hB3).mono ?_
  rintro e w4 ⟨hb4, rfl⟩
  have hB4 := hB3.trans (hb4.mono hB3.size)
  have ra4 := (ra3.below hb4).more hb4.size
  have rb4 := (rb.below hb4).more hb4.size
  clear V1 hb4 hB3 ra3 rb
  go_wp2_with fail
  refine (V2.out w4 hB4).mono ?_
  rintro e w5 ⟨hb5, rfl⟩
  have hB5 := hB4.trans (hb5.mono hB4.size)
  have ra5 := (ra4.below hb5).more hb5.size
  have rb5 := (rb4.below hb5).more hb5.size
  have S := same_any tl Aa Ab cca ccb w5 hl ra5 rb5
  clear V2 hb5 hB4 ra4 rb4
  go_wp2_with fail
  refine S.mono ?_
  rintro e w6 ⟨hb6, rfl⟩
  have hB6 := hB5.trans (hb6.mono hB5.size)
  clear S hb6 hB5 ra5 rb5
  go_wp2_with fail
  refine (SN.out w6 hB6).mono ?_
  rintro e w7 ⟨hb7, rfl⟩
  have hB7 := hB6.trans (hb7.mono hB6.size)
  clear SN hb7 hB6
  go_wp2
  go_ret
  exact ⟨hB7, rfl⟩
end Go.Proofs.YtaihplgfbepgpaaGreatDoor
