/-
  Walks: lists of cells that are the same; a grid of valid cells without a period.
-/
import Derived.Test.YtblopapobmbboaaDoorRectD
import Derived.Test.YtblopapobmbboaaDoorLawA
namespace Go.Proofs.YtblopapobmbboaaDoor
open Go.RowKit Ar

set_option maxRecDepth 100000 in
set_option maxHeartbeats 3200000 in
theorem sameCells_true (L : List Ce) (va vb : Value) (w : World) (ha : IsCs w w.heap.size va L) (hb : IsCs w w.heap.size vb L) (hL : L.length ≤ 1000000) (hm : ∀ x ∈ L, x.1.length ≤ 1000000) :
    Calls Tryd.prog 21 #[va, vb] w fun e w' => Below w.heap.size w w' ∧ e = .returned (.bool true) := by
  obtain ⟨A, c, rfl⟩ := ha.form
  obtain ⟨A', c', rfl⟩ := hb.form
  go_enter Tryd.func21, Tryd.ntmps21
  go_wp2_with fail
  go_loopw [5] (fun i wr => ∃ k : Nat, k ≤ L.length ∧ i = .int .i64 k ∧ Below w.heap.size w wr) (fun i _ => L.length - (intOf i).toNat)
  case atStart => exact ⟨0, Nat.zero_le _, rfl, Below.refl _ _⟩
  case round =>
    obtain ⟨k, hk, rfl, hB⟩ := hrel
    rcases Nat.lt_or_ge k L.length with hlt | hge
    · obtain ⟨ad, A0, c0, rfl, hab, d1, d2, hC⟩ := (ha.below hB).at (i := k) (List.getElem?_eq_getElem hlt)
      obtain ⟨ad', A1, c1, rfl, hab', d3, d4, hC'⟩ := (hb.below hB).at (i := k) (List.getElem?_eq_getElem hlt)
      have hmk := hm _ (List.getElem_mem hlt)
      generalize L[k] = y at *
      obtain ⟨yl, ym⟩ := y
      simp only at d1 d2 d3 d4 hmk hC hC'
      have SC := sameCell_true yl ym _ _ wr.drew (hC.more hB.size) (hC'.more hB.size) hmk
      clear hm hC hC'
      go_wp2_with fail
      go_region_held3 (fun W => (W.cell? (ad.add (k * 2)) = some (.slice A0 yl.length c0) ∧ W.cell? ⟨(ad.add (k * 2)).block, (ad.add (k * 2)).off + 1, none⟩ = some (.bool ym)) ∧ W.cell? (ad'.add (k * 2)) = some (.slice A1 yl.length c1) ∧ W.cell? ⟨(ad'.add (k * 2)).block, (ad'.add (k * 2)).off + 1, none⟩ = some (.bool ym))
        (first | exact ⟨⟨d1, d2⟩, d3, d4⟩ | exact q1)
        (first | (go_at_call 16; (with_reducible refine SC.mono ?_); rintro e w1 ⟨hb1, rfl⟩; have hlt1 := Nat.lt_of_lt_of_le hab hB.size; have hlt2 := Nat.lt_of_lt_of_le hab' hB.size; have q1 := And.intro (And.intro ((hb1.cell (show (ad.add (k * 2)).block < wr.drew.heap.size by rw [addr_block]; exact hlt1)).trans d1) ((hb1.cell (p := ⟨(ad.add (k * 2)).block, (ad.add (k * 2)).off + 1, none⟩) (show (ad.add (k * 2)).block < wr.drew.heap.size by rw [addr_block]; exact hlt1)).trans d2)) (And.intro ((hb1.cell (show (ad'.add (k * 2)).block < wr.drew.heap.size by rw [addr_block]; exact hlt2)).trans d3) ((hb1.cell (p := ⟨(ad'.add (k * 2)).block, (ad'.add (k * 2)).off + 1, none⟩) (show (ad'.add (k * 2)).block < wr.drew.heap.size by rw [addr_block]; exact hlt2)).trans d4))))
      have hB1 := hB.drew.trans (hb1.mono hB.drew.size)
      clear q1 hb1 SC d1 d2 d3 d4 hB
      go_wp2
      go_roundw
      case rel => exact ⟨k + 1, by omega, by go_num, hB1⟩
      case measure => simp [intOf]; omega
    · have hkl : k = L.length := by omega
      subst hkl
      clear hm
      go_wp2
      go_ret
      exact ⟨hB, rfl⟩
end Go.Proofs.YtblopapobmbboaaDoor
