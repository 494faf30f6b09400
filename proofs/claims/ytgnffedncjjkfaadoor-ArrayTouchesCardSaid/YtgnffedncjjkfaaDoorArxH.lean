/-
  Walks: package arrayarchiveref06: Same; package arrayarchivelaw06: agrees.
  Walks: package arrayarchivelaw06: agrees, Wide, sane.
-/
import Derived.Test.YtgnffedncjjkfaaDoorArxF
namespace Go.Proofs.YtgnffedncjjkfaaDoor
open Go.RowKit Ix Ar

/-- Two boxes of arrays. -/
structure SmB (w : World) (u1 u2 v1 v2 : Value) (W : World) : Prop where
  below : Below w.heap.size w W
  one : Bk W w.heap.size 41 #[u1, u2]
  two : Bk W (w.heap.size + 1) 41 #[v1, v2]
theorem SmB.drewN {w W : World} {u1 u2 v1 v2 : Value} (h : SmB w u1 u2 v1 v2 W) (n : Nat) : SmB w u1 u2 v1 v2 (W.drewN n) := ⟨below_drewN h.below n, h.one.drewN n, h.two.drewN n⟩
theorem SmB.next {w W W' : World} {u1 u2 v1 v2 : Value} (h : SmB w u1 u2 v1 v2 W) (hb : Below W.heap.size W W') : SmB w u1 u2 v1 v2 W' :=
  ⟨h.below.trans (hb.mono h.below.size), h.one.next' hb, h.two.next' hb⟩
theorem SmB.start (w : World) (u1 u2 v1 v2 : Value) : SmB w u1 u2 v1 v2 ((w.alloc (.cells #[u1, u2] 41)).alloc (.cells #[v1, v2] 41)) :=
  ⟨(below_alloc w _).alloc (by simp) _, (Bk.new w _ _).alloc _, Bk.new2 w _ _ _⟩

end Go.Proofs.YtgnffedncjjkfaaDoor

namespace Go.Proofs.YtgnffedncjjkfaaDoor
open Go.RowKit Ix Ar

theorem isVal_one (c : UInt8) (h1 : 48 ≤ c.toNat) (h2 : c.toNat ≤ 57) : IsVal [c] := by
  have hD : Digs [c] := fun b hb => by simp at hb; subst hb; exact ⟨h1, h2⟩
  have e : unsign [c] = [c] := by
    unfold unsign isNeg
    rw [if_neg]
    simp
    rintro rfl
    exact absurd h1 (by decide)
  have e2 : cut47 (unsign [c]) = ([c], none) := by rw [e]; exact cut47_none (digs_no47 hD)
  have hC : Canon [c] := ⟨hD, by simp, fun h => by simpa using h⟩
  refine .inr ⟨⟨by rw [e2]; exact hC, fun h => ?_, fun m hm => by rw [e2] at hm; cases hm⟩, by rw [e2]; simp, by rw [e2]; simp⟩
  unfold isNeg at h
  simp at h
  subst h
  exact absurd h1 (by decide)
theorem IsK.of_bk {w : World} {g : Nat} {T : TypeId} {l : List Cut} (h : Bk w g T (krow l).toArray) : IsK w w.heap.size (.slice (some ⟨g, 0, none⟩) l.length l.length) l := ⟨_, _, rfl, Nat.le_refl _, by simpa using h.rd⟩
/-- The small array of sane. -/
def saneA : Arr := ([2, 3], [⟨#[49]⟩, ⟨#[50]⟩, ⟨#[51]⟩, ⟨#[52]⟩, ⟨#[53]⟩, ⟨#[54]⟩])
def saneC : List Cut := [(0, 2, 1), (0, 2, 2)]
theorem saneA_valid : VA saneA := ⟨⟨by decide, by decide, by decide⟩, by decide, fun s hs => by
  simp [saneA] at hs
  rcases hs with rfl | rfl | rfl | rfl | rfl | rfl <;> exact isVal_one _ (by decide) (by decide)⟩
theorem saneC_fits : Fit saneA.1 saneC := ⟨⟨by decide, by decide, by decide, by decide, fun _ => by decide⟩, ⟨by decide, by decide, by decide, by decide, fun _ => by decide⟩, trivial⟩
theorem saneR : sliceR saneA saneC = (([2, 2], [⟨#[49]⟩, ⟨#[51]⟩, ⟨#[52]⟩, ⟨#[54]⟩]), 0) := by
  rw [sliceR_ok saneA_valid saneC_fits]
  rfl

set_option maxRecDepth 100000 in
set_option maxHeartbeats 3200000 in
theorem sane_any (w : World) (he : Env w) : Calls Tryd.prog 5 #[] w fun r w' => Below w.heap.size w w' ∧ r = .returned (.bool true) := by
  have hb0 : Below w.heap.size w ((((w.alloc (.cells (zints saneA.1).toArray 3)).alloc (.cells (strs saneA.2).toArray 9)).alloc (.cells #[.slice (some ⟨w.heap.size, 0, none⟩) 2 2, .slice (some ⟨w.heap.size + 1, 0, none⟩) 6 6] 41)).alloc (.cells (krow saneC).toArray 45)) :=
    (((below_alloc w _).alloc (by simp) _).alloc (by simp; omega) _).alloc (by simp; omega) _
  have k0 := (((Bk.new w 3 (zints saneA.1).toArray).alloc (.cells (strs saneA.2).toArray 9)).alloc (.cells #[.slice (some ⟨w.heap.size, 0, none⟩) 2 2, .slice (some ⟨w.heap.size + 1, 0, none⟩) 6 6] 41)).alloc (.cells (krow saneC).toArray 45)
  have k1 := ((Bk.new2 w (.cells (zints saneA.1).toArray 3) 9 (strs saneA.2).toArray).alloc (.cells #[.slice (some ⟨w.heap.size, 0, none⟩) 2 2, .slice (some ⟨w.heap.size + 1, 0, none⟩) 6 6] 41)).alloc (.cells (krow saneC).toArray 45)
  have k3 := Bk.new (((w.alloc (.cells (zints saneA.1).toArray 3)).alloc (.cells (strs saneA.2).toArray 9)).alloc (.cells #[.slice (some ⟨w.heap.size, 0, none⟩) 2 2, .slice (some ⟨w.heap.size + 1, 0, none⟩) 6 6] 41)) 45 (krow saneC).toArray
  have hz : (((w.alloc (.cells (zints saneA.1).toArray 3)).alloc (.cells (strs saneA.2).toArray 9)).alloc (.cells #[.slice (some ⟨w.heap.size, 0, none⟩) 2 2, .slice (some ⟨w.heap.size + 1, 0, none⟩) 6 6] 41)).heap.size = w.heap.size + 1 + 1 + 1 := by simp
  rw [hz] at k3
  have SL := Lib.hid (slice_any saneA saneC (.agg #[.slice (some ⟨w.heap.size, 0, none⟩) 2 2, .slice (some ⟨w.heap.size + 1, 0, none⟩) 6 6]) (.slice (some ⟨w.heap.size + 1 + 1 + 1, 0, none⟩) 2 2) _ ⟨_, _, rfl, IsI.of_bk k0, IsT.of_bk k1⟩ (IsK.of_bk k3) ⟨by decide, by decide, fun s hs => by
      simp [saneA] at hs
      rcases hs with rfl | rfl | rfl | rfl | rfl | rfl <;> decide⟩ (fun x hx => by
      simp [saneC] at hx
      rcases hx with rfl | rfl <;> exact ⟨by decide, by decide, by decide⟩) (by decide) (he.next hb0))
  clear k0 k1 k3 hz
  rw [saneR] at SL
  go_enter Tryd.func5, Tryd.ntmps5
  go_wp2_with fail
  refine SL.out.mono ?_
  rintro r w1 ⟨hb1, v, rfl, hv⟩
  have B1 := hb0.trans (hb1.mono hb0.size)
  clear SL hb0 hb1
  obtain ⟨A, c, A', c', rfl, hc, hc'⟩ := hv.form
  replace hv := hv.parts.2.rd
  obtain ⟨ad, rfl, hab, h1⟩ := hv.str (j := 1) (by decide)
  obtain ⟨_, e, _, h3⟩ := hv.str (j := 3) (by decide)
  cases e
  clear hv
  simp only [List.length_cons, List.length_nil, List.getElem_cons_succ, List.getElem_cons_zero, Nat.reduceAdd] at *
  have B2 := B1.alloc B1.size (.cells #[.slice A 2 c, .slice (some ad) 4 c'] 41)
  have k4 := Bk.new w1 41 #[.slice A 2 c, .slice (some ad) 4 c']
  have b0 : w1.cell? ⟨ad.block, ad.off + 1, none⟩ = some (.string ⟨#[51]⟩) := h1
  have b1 : w1.cell? ⟨ad.block, ad.off + 3, none⟩ = some (.string ⟨#[54]⟩) := h3
  clear h1 h3
  go_wp2
  go_ret
  exact ⟨B2, rfl⟩
end Go.Proofs.YtgnffedncjjkfaaDoor

