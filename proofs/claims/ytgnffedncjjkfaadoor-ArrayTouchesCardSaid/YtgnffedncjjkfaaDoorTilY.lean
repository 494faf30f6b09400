/-
  Plain law of ArrayTiles.
  The walk of the law ArrayTiles.
-/
import Derived.Test.YtgnffedncjjkfaaDoorChkU
import Derived.Test.YtgnffedncjjkfaaDoorSlbY
namespace Go.Proofs.YtgnffedncjjkfaaDoor
open Go.RowKit Ix Ar

theorem nat_back (X : List Nat) : (X.map Int.ofNat).map Int.toNat = X := by
  rw [List.map_map]
  exact (List.map_congr_left fun x _ => rfl).trans (List.map_id _)
theorem getD_ofNat (l : List Nat) (j : Nat) : (l.map Int.ofNat).getD j 0 = ((l.getD j 0 : Nat) : Int) := by
  rw [List.getD_eq_getElem?_getD, List.getD_eq_getElem?_getD, List.getElem?_map]
  cases l[j]? <;> rfl
theorem InI.of_inside {N I : List Nat} (h : Inside N I) : InI (N.map Int.ofNat) (I.map Int.ofNat) := by
  obtain ⟨h1, h2⟩ := (inside_iff _ _).1 h
  refine ⟨by rw [List.length_map, List.length_map, h1], fun j hj => ?_⟩
  rw [List.length_map] at hj
  have := h2 j hj
  rw [getD_ofNat, getD_ofNat]
  omega
/-- How many chunks there are. -/
def chN (S Z : List Int) : Nat := Ix.prod (nums (S.map Int.toNat) (Z.map Int.toNat))
/-- The index of chunk k. -/
def chI (S Z : List Int) (k : Nat) : List Int := (idx (nums (S.map Int.toNat) (Z.map Int.toNat)) k).map Int.ofNat
/-- The slab of chunk k. -/
def bxk (S Z : List Int) (k : Nat) : List Cut := boxC (S.map Int.toNat) (Z.map Int.toNat) (idx (nums (S.map Int.toNat) (Z.map Int.toNat)) k)
section
variable {S Z : List Int} {V : List ByteArray} {k : Nat}
theorem chunkL_len : (chunkL S Z).length = chN S Z := by simp [chunkL, chN]
theorem chunkL_at (hk : k < chN S Z) : (chunkL S Z)[k]? = some (chI S Z k) := by
  unfold chunkL
  rw [List.getElem?_map, List.getElem?_range (show k < Ix.prod (nums (S.map Int.toNat) (Z.map Int.toNat)) from hk)]; rfl
theorem chI_in (hk : k < chN S Z) : InI (numsI S Z) (chI S Z k) := InI.of_inside (idx_inside _ _ hk)
theorem bxk_box (h : VS S ∧ Zs S Z) (hk : k < chN S Z) : boxR S Z (chI S Z k) = (bxk S Z k, 0) := by
  rw [boxR_ok h (chI_in hk)]
  unfold bxk chI
  rw [nat_back]
theorem bxk_fit (h : VS S ∧ Zs S Z) (hk : k < chN S Z) : Fit S (bxk S Z k) := by
  have h1 := box_fit (zs_pos h.2) (zs_len h.2) (idx_inside _ _ hk)
  rw [nats_back (fun s hs => (h.1.2.1 s hs).1)] at h1
  exact h1
theorem bxk_len (h : VS S ∧ Zs S Z) (hk : k < chN S Z) : (bxk S Z k).length = S.length := fit_len (bxk_fit h hk)
end
end Go.Proofs.YtgnffedncjjkfaaDoor

namespace Go.Proofs.YtgnffedncjjkfaaDoor
open Go.RowKit Ix Ar

end Go.Proofs.YtgnffedncjjkfaaDoor

