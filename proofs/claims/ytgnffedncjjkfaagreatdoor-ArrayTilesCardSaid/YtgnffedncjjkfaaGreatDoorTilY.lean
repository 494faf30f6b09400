/-
  Plain law of ArrayTiles.
  The walk of the law ArrayTiles.
-/
import Derived.Test.YtgnffedncjjkfaaGreatDoorChkX
import Derived.Test.YtgnffedncjjkfaaGreatDoorSlbY
namespace Go.Proofs.YtgnffedncjjkfaaGreatDoor
open Go.RowKit Ix Ar

theorem nat_back (X : List Nat) : (X.map Int.ofNat).map Int.toNat = X := by
  rw [List.map_map]
  exact (List.map_congr_left fun x _ => rfl).trans (List.map_id _)
theorem getD_ofNat (l : List Nat) (j : Nat) : (l.map Int.ofNat).getD j 0 = ((l.getD j 0 : Nat) : Int) := by
  rw [List.getD_eq_getElem?_getD, List.getD_eq_getElem?_getD, List.getElem?_map]
  cases l[j]? <;> rfl
theorem InI.of_inside {N I : List Nat} (h : Inside N I) : InI (N.map Int.ofNat) (I.map Int.ofNat) := by
  obtain ⟨h1, h2⟩ := (inside_iff _ _).1 h
  refine ⟨by rw [List.length_map, List.length_map, h1], fun j hj => ?_⟩
  rw [List.length_map] at hj
  have := h2 j hj
  rw [getD_ofNat, getD_ofNat]
  omega
/-- How many chunks there are. -/
def chN (S Z : List Int) : Nat := Ix.prod (nums (S.map Int.toNat) (Z.map Int.toNat))
/-- The index of chunk k. -/
def chI (S Z : List Int) (k : Nat) : List Int := (idx (nums (S.map Int.toNat) (Z.map Int.toNat)) k).map Int.ofNat
/-- The slab of chunk k. -/
def bxk (S Z : List Int) (k : Nat) : List Cut := boxC (S.map Int.toNat) (Z.map Int.toNat) (idx (nums (S.map Int.toNat) (Z.map Int.toNat)) k)
/-- An array into which the first k chunks were pasted. -/
def ovk (S Z : List Int) (V : List ByteArray) (k : Nat) : List ByteArray := ovl (S.map Int.toNat) (Z.map Int.toNat) V ⟨#[]⟩ k
/-- How many elements the first k chunks have. -/
def smk (S Z : List Int) (k : Nat) : Nat := sumN (fun k => Ix.prod (cnt (bxk S Z k))) k
section
variable {S Z : List Int} {V : List ByteArray} {k : Nat}
theorem chI_len (h : Zs S Z) : (chI S Z k).length = S.length := by unfold chI; rw [List.length_map, idx_len, nums_len (zs_len h), List.length_map]
theorem chunkL_len : (chunkL S Z).length = chN S Z := by simp [chunkL, chN]
theorem chunkL_at (hk : k < chN S Z) : (chunkL S Z)[k]? = some (chI S Z k) := by
  unfold chunkL
  rw [List.getElem?_map, List.getElem?_range (show k < Ix.prod (nums (S.map Int.toNat) (Z.map Int.toNat)) from hk)]; rfl
theorem chN_le (h : Zs S Z) : chN S Z ≤ Ix.prod (S.map Int.toNat) := nums_le (zs_pos h) (zs_len h)
theorem chI_in (hk : k < chN S Z) : InI (numsI S Z) (chI S Z k) := InI.of_inside (idx_inside _ _ hk)
theorem bxk_box (h : VS S ∧ Zs S Z) (hk : k < chN S Z) : boxR S Z (chI S Z k) = (bxk S Z k, 0) := by
  rw [boxR_ok h (chI_in hk)]
  unfold bxk chI
  rw [nat_back]
theorem bxk_fit (h : VS S ∧ Zs S Z) (hk : k < chN S Z) : Fit S (bxk S Z k) := by
  have h1 := box_fit (zs_pos h.2) (zs_len h.2) (idx_inside _ _ hk)
  rw [nats_back (fun s hs => (h.1.2.1 s hs).1)] at h1
  exact h1
theorem bxk_len (h : VS S ∧ Zs S Z) (hk : k < chN S Z) : (bxk S Z k).length = S.length := fit_len (bxk_fit h hk)
theorem bxk_64 (h : VS S ∧ Zs S Z) (hk : k < chN S Z) : ∀ x ∈ bxk S Z k, In64 x := by
  intro x hx
  obtain ⟨j, hj, e⟩ := List.getElem_of_mem hx
  have hl := bxk_len h hk
  have hjS : j < S.length := by omega
  have hF := ((fit_iff _ _).1 (bxk_fit h hk)).2 j hjS
  have hb := box_at (S := S.map Int.toNat) (Z := Z.map Int.toNat) (I := idx (nums (S.map Int.toNat) (Z.map Int.toNat)) k) (j := j) (by rw [List.length_map]; exact hjS) (by rw [zs_len h.2, List.length_map]; exact hjS) (by rw [idx_len, nums_len (zs_len h.2), List.length_map]; exact hjS)
  have hs := h.1.2.1 _ (List.getElem_mem hjS)
  have hzl : j < Z.length := by rw [h.2.1]; exact hjS
  have hz := h.2.2 _ (List.getElem_mem hzl)
  have e1 : (bxk S Z k).getD j (0, 0, 0) = x := by rw [List.getD_eq_getElem?_getD, List.getElem?_eq_getElem hj, e]; rfl
  have e2 : (bxk S Z k)[j]? = some x := by rw [List.getElem?_eq_getElem hj, e]
  rw [e1, ← getD_zint hjS] at hF
  rw [show (boxC (S.map Int.toNat) (Z.map Int.toNat) (idx (nums (S.map Int.toNat) (Z.map Int.toNat)) k))[j]? = some x from e2] at hb
  injection hb with hb
  rw [getD_map, getD_map, ← getD_zint hjS, ← getD_zint hzl] at hb
  have h3 : x.2.1 = ((min Z[j].toNat (S[j].toNat - (idx (nums (S.map Int.toNat) (Z.map Int.toNat)) k).getD j 0 * Z[j].toNat) : Nat) : Int) := by rw [hb]
  have h4 : x.2.2 = 1 := by rw [hb]
  have h5 : x.2.1 ≤ 1024 := by rw [h3]; omega
  obtain ⟨f1, f2, f3, f4, _⟩ := hF
  refine ⟨⟨by omega, by omega⟩, ⟨by omega, by omega⟩, ⟨by omega, by omega⟩⟩
theorem ovk_len : (ovk S Z V k).length = Ix.prod (S.map Int.toNat) := ovl_len _ _ _ _ _
theorem ovk_mem {s : ByteArray} (h : s ∈ ovk S Z V k) : s ∈ V ∨ s = ⟨#[]⟩ := by
  unfold ovk ovl at h
  obtain ⟨p, _, rfl⟩ := List.mem_map.1 h
  by_cases h1 : place (nums (S.map Int.toNat) (Z.map Int.toNat)) (chk (Z.map Int.toNat) (idx (S.map Int.toNat) p)) < k
  · rw [if_pos h1, List.getD_eq_getElem?_getD]
    cases e : V[p]? with
    | none => exact .inr rfl
    | some x => exact .inl (List.mem_of_getElem? e)
  · rw [if_neg h1]; exact .inr rfl
theorem ovk_VA (h : VA (S, V)) : VA (S, ovk S Z V k) := ⟨h.1, ovk_len, fun s hs => by
  rcases ovk_mem hs with h1 | rfl
  · exact h.2.2 s h1
  · exact isVal_empty⟩
theorem ovk_in (h : InA (S, V)) (hv : VA (S, V)) : InA (S, ovk S Z V k) := ⟨h.shape, by show (ovk S Z V k).length ≤ _; rw [ovk_len]; have := hv.1.2.2; simp only at this; omega, fun s hs => by
  rcases ovk_mem hs with h1 | rfl
  · exact h.texts s h1
  · exact Nat.zero_le _⟩
theorem tile_slice (h : VA (S, V)) (hz : Zs S Z) (hk : k < chN S Z) : sliceR (S, V) (bxk S Z k) = ((cntI (bxk S Z k), cutOut (S.map Int.toNat) (bxk S Z k) V ⟨#[]⟩), 0) := sliceR_ok h (bxk_fit ⟨h.1, hz⟩ hk)
theorem tile_paste (h : VA (S, V)) (hz : Zs S Z) (hk : k < chN S Z) : pasteR (S, ovk S Z V k) (bxk S Z k) (cntI (bxk S Z k), cutOut (S.map Int.toNat) (bxk S Z k) V ⟨#[]⟩) = ((S, ovk S Z V (k + 1)), 0) := by
  have hF := bxk_fit ⟨h.1, hz⟩ hk
  rw [pasteR_ok ⟨ovk_VA h, slice_VA h hF⟩ hF rfl]
  have := ovl_step (zs_pos hz) (zs_len hz) V (⟨#[]⟩ : ByteArray) hk
  show ((S, paste (S.map Int.toNat) (bxk S Z k) (ovl (S.map Int.toNat) (Z.map Int.toNat) V ⟨#[]⟩ k) (cutOut (S.map Int.toNat) (bxk S Z k) V ⟨#[]⟩) ⟨#[]⟩ (Ix.prod (cnt (bxk S Z k)))), (0 : Int)) = _
  unfold bxk
  rw [this]
  rfl
theorem tile_start (h : VS S) : fillR S ⟨#[]⟩ = ((S, ovk S Z V 0), 0) := by
  rw [fillR_ok h isVal_empty]
  unfold ovk
  rw [ovl_zero]
theorem tile_end (h : VA (S, V)) (hz : Zs S Z) : ovk S Z V (chN S Z) = V := ovl_all (zs_pos hz) (zs_len hz) V _ h.2.1
theorem smk_next : smk S Z (k + 1) = smk S Z k + (cutOut (S.map Int.toNat) (bxk S Z k) V ⟨#[]⟩).length := by
  show sumN _ k + Ix.prod (cnt (bxk S Z k)) = _
  rw [show (cutOut (S.map Int.toNat) (bxk S Z k) V ⟨#[]⟩).length = Ix.prod (cnt (bxk S Z k)) from tab_len _ _]
  rfl
theorem smk_end (hz : Zs S Z) : smk S Z (chN S Z) = Ix.prod (S.map Int.toNat) := sum_chunks (zs_pos hz) (zs_len hz)
theorem sumN_le (f : Nat → Nat) : ∀ {n m : Nat}, n ≤ m → sumN f n ≤ sumN f m
  | n, 0, h => by obtain rfl : n = 0 := by omega
                  exact Nat.le_refl _
  | n, m + 1, h => by
    rcases Nat.lt_or_ge n (m + 1) with h1 | h1
    · exact Nat.le_trans (sumN_le f (show n ≤ m by omega)) (Nat.le_add_right _ _)
    · obtain rfl : n = m + 1 := by omega
      exact Nat.le_refl _
theorem smk_le (hz : Zs S Z) (hk : k ≤ chN S Z) : smk S Z k ≤ Ix.prod (S.map Int.toNat) := by
  rw [← smk_end hz]; exact sumN_le _ hk
end
end Go.Proofs.YtgnffedncjjkfaaGreatDoor

namespace Go.Proofs.YtgnffedncjjkfaaGreatDoor
open Go.RowKit Ix Ar

theorem slim_in {a : Arr} (h : Slim a) : InA a := ⟨by have := h.1; unfold maxLen; omega, by have := h.2.1; omega, fun s hs => by have := h.2.2 s hs; omega⟩
theorem in_max {a : Arr} (h : InA a) : a.2.length ≤ maxLen := by have := h.vals; unfold maxLen; omega
theorem BxW.nth {w W : World} {ks : List Bx} (h : BxW w ks W) (i : Nat) {p : Bx} (hp : ks[i]? = some p) : Bk W p.1 p.2.1 p.2.2 := h.keep p (List.mem_of_getElem? hp)
set_option maxRecDepth 100000 in
set_option maxHeartbeats 12800000 in
theorem tiles_walk (a : Arr) (Z : List Int) (va vz : Value) (w : World) (ha : IsA w w.heap.size va a) (hL : a.1.length ≤ maxLen) (hM : a.2.length ≤ maxLen) (_ : ∀ s ∈ a.1, -9223372036854775808 ≤ s ∧ s ≤ 9223372036854775807) (hZ : IsI w w.heap.size vz Z) (hZL : Z.length ≤ maxLen) (_ : ∀ s ∈ Z, -9223372036854775808 ≤ s ∧ s ≤ 9223372036854775807) (he : Env w) :
    Calls Tryz.prog 7 #[va, vz] w fun r w' => Below w.heap.size w w' ∧ r = .returned (.bool true) := by
  obtain ⟨A, c, A', c', rfl, -, -⟩ := ha.form
  obtain ⟨Az, cz, rfl, -⟩ := hZ.form
  have hha := ha
  obtain ⟨hS, hVr⟩ := ha.parts
  obtain ⟨S, V⟩ := a
  simp only at hL hM hS hVr hha
  obtain ⟨qw, hqw⟩ : ∃ b : Bool, b = true ↔ ¬ Slim (S, V) := by classical exact ⟨decide _, decide_eq_true_iff⟩
  obtain ⟨qv, hqv⟩ : ∃ b : Bool, b = true ↔ VA (S, V) := by classical exact ⟨decide _, decide_eq_true_iff⟩
  have WD := Lib.hid (fun W (hW : Below w.heap.size w W) => wide_any (S, V) (.agg #[.slice A S.length c, .slice A' V.length c']) W (hha.next hW) hL hM qw hqw)
  have SN := Lib.hid (fun W (hW : Below w.heap.size w W) => sane_any W (he.next hW))
  have B0 : BxW w [(w.heap.size, 25, #[.slice A S.length c, .slice A' V.length c'])] (w.alloc (.cells #[.slice A S.length c, .slice A' V.length c'] 25)) := (BxW.nil w).new _ _
  cases hw : qw
  rotate_left
  · subst hw
    clear hqw hqv ha hha hS hVr hZ hZL hL hM he
    go_enter Tryz.func7, Tryz.ntmps7
    go_wp2_with fail
    generalize w.alloc (.cells #[.slice A S.length c, .slice A' V.length c'] 25) = W0 at *
    refine (WD.out W0 B0.below).mono ?_
    rintro r w1 ⟨hb1, rfl⟩
    have B1 := B0.next hb1
    go_wp2_with fail
    refine (SN.out w1 B1.below).mono ?_
    rintro r w9 ⟨hb9, rfl⟩
    go_wp2
    go_ret
    exact ⟨(B1.next hb9).below, rfl⟩
  have hSl : Slim (S, V) := by
    by_cases h : Slim (S, V)
    · exact h
    · exact absurd (hqw.2 h) (by rw [hw]; decide)
  have hia := slim_in hSl
  have VV := Lib.hid (fun W (hW : Below w.heap.size w W) => rarr_any (S, V) (.agg #[.slice A S.length c, .slice A' V.length c']) W (hha.next hW) hia qv hqv)
  cases hv : qv
  · subst hw
    subst hv
    clear hqw hqv ha hha hS hVr hZ hZL hL hM he hSl hia
    go_enter Tryz.func7, Tryz.ntmps7
    go_wp2_with fail
    generalize w.alloc (.cells #[.slice A S.length c, .slice A' V.length c'] 25) = W0 at *
    refine (WD.out W0 B0.below).mono ?_
    rintro r w1 ⟨hb1, rfl⟩
    have B1 := B0.next hb1
    obtain ⟨e0, e1⟩ := bkA B1.one
    go_wp2_with fail
    refine (VV.out w1 B1.below).mono ?_
    rintro r w2 ⟨hb2, rfl⟩
    have B2 := B1.next hb2
    go_wp2_with fail
    refine (SN.out w2 B2.below).mono ?_
    rintro r w9 ⟨hb9, rfl⟩
    go_wp2
    go_ret
    exact ⟨(B2.next hb9).below, rfl⟩
  have hva := hqv.1 hv
  have hVS : VS S := hva.1
  subst hw
  subst hv
  have CH := Lib.hid (fun W (hW : Below w.heap.size w W) => chunks_any S Z (.slice A S.length c) (.slice Az Z.length cz) W (hS.next hW) (hZ.next hW) hL hZL)
  have FI := Lib.hid (fun W (hW : Below w.heap.size w W) => show Calls Tryz.prog 25 #[.slice A S.length c, .string ⟨#[]⟩] W fun e w' => Below W.heap.size W w' ∧ ∃ x, e = .returned (.tuple #[x, .int .i64 0]) ∧ IsA w' w'.heap.size x (S, ovk S Z V 0) from by
    have h := fill_any S ⟨#[]⟩ (.slice A S.length c) W (hS.next hW) hL (Nat.zero_le _) (he.next hW)
    rw [tile_start (Z := Z) (V := V) hVS] at h
    exact h)
  by_cases hz : Zs S Z
  rotate_left
  · rw [chunksR_no (by rw [sizedR_arg hVS hz]; decide), sizedR_arg hVS hz] at CH
    clear hqw hqv ha hha hS hVr hZ hZL hL hM he hSl hia hva hVS hz
    generalize hov : ovk S Z V 0 = U at *
    clear hov
    go_enter Tryz.func7, Tryz.ntmps7
    go_wp2_with fail
    generalize w.alloc (.cells #[.slice A S.length c, .slice A' V.length c'] 25) = W0 at *
    refine (WD.out W0 B0.below).mono ?_
    rintro r w1 ⟨hb1, rfl⟩
    have B1 := B0.next hb1
    obtain ⟨e0, e1⟩ := bkA B1.one
    go_wp2_with fail
    refine (VV.out w1 B1.below).mono ?_
    rintro r w2 ⟨hb2, rfl⟩
    have B2 := B1.next hb2
    clear e0 e1
    obtain ⟨e0, e1⟩ := bkA B2.one
    go_wp2_with fail
    refine (CH.out w2 B2.below).mono ?_
    rintro r w3 ⟨hb3, v3, rfl, -⟩
    have B3 := B2.next hb3
    clear e0 e1
    obtain ⟨e0, e1⟩ := bkA B3.one
    go_wp2_with fail
    refine (FI.out w3 B3.below).mono ?_
    rintro r w4 ⟨hb4, v4, rfl, hx4⟩
    have B4 := B3.next hb4
    obtain ⟨X4, m4, Y4, n4, rfl, -, -⟩ := hx4.form
    have B5 := B4.new 25 #[.slice X4 S.length m4, .slice Y4 U.length n4]
    go_wp2_with fail
    refine (SN.out _ B5.below).mono ?_
    rintro r w9 ⟨hb9, rfl⟩
    go_wp2
    go_ret
    exact ⟨(B5.next hb9).below, rfl⟩
  rw [chunksR_ok (sizedR_ok hVS hz)] at CH
  obtain ⟨N, hN⟩ : ∃ N, N = chN S Z := ⟨_, rfl⟩
  have hV1 : V.length = Ix.prod (S.map Int.toNat) := hva.2.1
  have hV2 : V.length ≤ 4096 := by rw [hV1]; exact hVS.2.2
  have hN2 : N ≤ 4096 := by have := chN_le hz; omega
  have hCL : (chunkL S Z).length = N := by rw [chunkL_len, hN]
  have HAT := Lib.hid (fun k (hk : k < N) => show (chunkL S Z)[k]? = some (chI S Z k) from chunkL_at (by rw [← hN]; exact hk))
  have BX := Lib.hid (fun k (hk : k < N) W (hW : Below w.heap.size w W) (u : Value) (hu : IsI W W.heap.size u (chI S Z k)) => show Calls Tryz.prog 38 #[.slice A S.length c, .slice Az Z.length cz, u] W fun e w' => Below W.heap.size W w' ∧ ∃ v, e = .returned (.tuple #[v, .int .i64 0]) ∧ IsK w' w'.heap.size v (bxk S Z k) from by
    have h := box_any S Z (chI S Z k) (.slice A S.length c) (.slice Az Z.length cz) u W (hS.next hW) (hZ.next hW) hu hL hZL
    rw [bxk_box ⟨hVS, hz⟩ (by rw [← hN]; exact hk)] at h
    exact h)
  have SL := Lib.hid (fun k (hk : k < N) W (hW : Below w.heap.size w W) (u : Value) (hu : IsK W W.heap.size u (bxk S Z k)) => show Calls Tryz.prog 17 #[.agg #[.slice A S.length c, .slice A' V.length c'], u] W fun e w' => Below W.heap.size W w' ∧ ∃ v, e = .returned (.tuple #[v, .int .i64 0]) ∧ IsA w' w'.heap.size v (cntI (bxk S Z k), cutOut (S.map Int.toNat) (bxk S Z k) V ⟨#[]⟩) from by
    have hk' : k < chN S Z := by rw [← hN]; exact hk
    have h := slice_any (S, V) (bxk S Z k) _ u W (hha.next hW) hu hia (bxk_64 ⟨hVS, hz⟩ hk') (by rw [bxk_len ⟨hVS, hz⟩ hk']; exact hL) (he.next hW)
    rw [tile_slice hva hz hk'] at h
    exact h)
  have PA := Lib.hid (fun k (hk : k < N) W (hW : Below w.heap.size w W) (u v y : Value) (hu : IsK W W.heap.size u (bxk S Z k)) (hv : IsA W W.heap.size v (S, ovk S Z V k)) (hy : IsA W W.heap.size y (cntI (bxk S Z k), cutOut (S.map Int.toNat) (bxk S Z k) V ⟨#[]⟩)) => show Calls Tryz.prog 19 #[v, u, y] W fun e w' => Below W.heap.size W w' ∧ ∃ v, e = .returned (.tuple #[v, .int .i64 0]) ∧ IsA w' w'.heap.size v (S, ovk S Z V (k + 1)) from by
    have hk' : k < chN S Z := by rw [← hN]; exact hk
    have hi2 : InA (sliceR (S, V) (bxk S Z k)).1 := sliceR_in hia
    rw [tile_slice hva hz hk'] at hi2
    have h := paste_any (S, ovk S Z V k) (cntI (bxk S Z k), cutOut (S.map Int.toNat) (bxk S Z k) V ⟨#[]⟩) (bxk S Z k) v u y W hv hu hy (ovk_in hia hva) hi2 (bxk_64 ⟨hVS, hz⟩ hk') (by rw [bxk_len ⟨hVS, hz⟩ hk']; exact hL) (he.next hW)
    rw [tile_paste hva hz hk'] at h
    exact h)
  have HSM := Lib.hid (fun k => smk_next (S := S) (Z := Z) (V := V) (k := k))
  have HSE := Lib.hid (show smk S Z N = V.length from by rw [hN, smk_end hz, hV1])
  have HSL := Lib.hid (fun k (hk : k ≤ N) => show smk S Z k ≤ V.length from by rw [hV1]; exact smk_le hz (by rw [← hN]; exact hk))
  have HOE := Lib.hid (show ovk S Z V N = V from by rw [hN]; exact tile_end hva hz)
  have HOL := Lib.hid (fun k => show (ovk S Z V k).length = V.length from by rw [ovk_len, hV1])
  have SM := Lib.hid (fun W (hW : Below w.heap.size w W) (u : Value) (hu : IsA W W.heap.size u (S, V)) => same_any (S, V) (S, V) u (.agg #[.slice A S.length c, .slice A' V.length c']) W hu (hha.next hW) hL hM true (by simp))
  have HS0 : Hid (smk S Z 0 = 0) := rfl
  clear hqw hqv ha hha hS hVr hZ hZL hL hM he hSl hia hva hVS hz hN hV1
  generalize smk S Z = sm at *
  generalize chI S Z = ci at *
  generalize ovk S Z V = ov at *
  generalize bxk S Z = bk at *
  generalize chunkL S Z = cl at *
  subst hCL
  go_enter Tryz.func7, Tryz.ntmps7
  go_wp2_with fail
  generalize w.alloc (.cells #[.slice A S.length c, .slice A' V.length c'] 25) = W0 at *
  refine (WD.out W0 B0.below).mono ?_
  rintro r w1 ⟨hb1, rfl⟩
  have B1 := B0.next hb1
  obtain ⟨e0, e1⟩ := bkA B1.one
  go_wp2_with fail
  refine (VV.out w1 B1.below).mono ?_
  rintro r w2 ⟨hb2, rfl⟩
  have B2 := B1.next hb2
  clear e0 e1
  obtain ⟨e0, e1⟩ := bkA B2.one
  go_wp2_with fail
  refine (CH.out w2 B2.below).mono ?_
  rintro r w3 ⟨hb3, v3, rfl, hG3⟩
  obtain ⟨Ag, cg, rfl⟩ := hG3.form
  have B3 := B2.next hb3
  clear e0 e1 B0 B1 B2 hb1 hb2 hb3 WD VV CH
  obtain ⟨e0, e1⟩ := bkA B3.one
  go_wp2_with fail
  refine (FI.out w3 B3.below).mono ?_
  rintro r w4 ⟨hb4, v4, rfl, hx4⟩
  have B4 := B3.next hb4
  obtain ⟨X4, m4, Y4, n4, rfl, -, -⟩ := hx4.form
  have hb5 := below_alloc w4 (.cells #[.slice X4 S.length m4, .slice Y4 (ov 0).length n4] 25)
  have B5 := B4.next hb5
  have k5 := Bk.new w4 25 #[Value.slice X4 S.length m4, .slice Y4 (ov 0).length n4]
  have hx5 := hx4.next hb5
  have hb35 := hb4.trans (hb5.mono hb4.size)
  have hob := hb4.size
  have l1 := B3.one.lt
  simp only [HOL.out] at k5 hx5 B5 hb35
  clear e0 e1 B4 hx4 hb4 hb5 FI
  go_wp2_with fail
  simp only [HOL.out]
  generalize w4.alloc (.cells #[.slice X4 S.length m4, .slice Y4 V.length n4] 25) = w5 at *
  generalize w4.heap.size = ob at *
  go_loopw [9, 10] (fun n i wr => ∃ k : Nat, k ≤ cl.length ∧ i = .int .i64 k ∧ n = .int .i64 (sm k : Nat) ∧ BxW w [(w.heap.size, 25, #[.slice A S.length c, .slice A' V.length c'])] wr ∧ Below w3.heap.size w3 wr ∧ ∃ X m Y y, Bk wr ob 25 #[.slice X S.length m, .slice Y V.length y] ∧ IsA wr wr.heap.size (.agg #[.slice X S.length m, .slice Y V.length y]) (S, ov k)) (fun _ i _ => cl.length - (intOf i).toNat)
  case atStart => exact ⟨0, Nat.zero_le _, rfl, by rw [HS0.out]; rfl, B5, hb35, _, _, _, _, k5, hx5⟩
  case round =>
    clear B5 hb35 k5 hx5
    obtain ⟨k, hk, rfl, rfl, B, hb, X, m, Y, y, kb, hx⟩ := hrel
    have hbS := HSL.out k hk
    by_cases hlt : k < cl.length
    · obtain ⟨ad, A2, c2, rfl, hab, hcw, hIg⟩ := hG3.at (HAT.out k hlt)
      have hab2 : (ad.add k).block < w3.heap.size := by rw [addr_block]; exact hab
      have hcg := (hb.cell (p := ad.add k) hab2).trans hcw
      have hIg' := (hIg.below hb).more hb.size
      have BXk := Lib.hid (BX.out k hlt)
      have SLk := Lib.hid (SL.out k hlt)
      have PAk := Lib.hid (PA.out k hlt)
      have HSk := Lib.hid (HSM.out k)
      have hb2 := HSL.out (k + 1) (by omega)
      rw [HSM.out k] at hb2
      generalize cutOut (S.map Int.toNat) (bk k) V ⟨#[]⟩ = uk at *
      generalize cntI (bk k) = sk at *
      generalize bk k = ck at *
      generalize ci k = ik at *
      obtain ⟨e0, e1⟩ := bkA B.one
      go_wp2_with fail
      refine wp_region_held_drew (S := fun Y => (Y.cell? ⟨w.heap.size, 0, none⟩ = some (.slice A S.length c) ∧ Y.cell? ⟨w.heap.size, 1, none⟩ = some (.slice A' V.length c')) ∧ Y.cell? (ad.add k) = some (.slice A2 ik.length c2)) (by kernel_rfl) ⟨⟨e0, e1⟩, hcg⟩ (fun hS => ?_)
      clear e0 e1
      have Bd := B.drew
      have hbd := hb.drew
      have kbd : Bk wr.drew ob 25 #[.slice X S.length m, .slice Y V.length y] := kb
      have hxd : IsA wr.drew wr.drew.heap.size (.agg #[.slice X S.length m, .slice Y V.length y]) (S, ov k) := hx.below (Below.refl _ wr).drew
      have hId : IsI wr.drew wr.drew.heap.size (.slice A2 ik.length c2) ik := hIg'.below (Below.refl _ wr).drew
      clear B hb kb hx hIg hIg' hcg
      generalize wr.drew = wd at *
      refine takeA (i := 0) (v := ?_) rfl (by kernel_rfl) (by kernel_rfl) (by kernel_rfl) (fun _ _ _ h => h) (by rfl) (by assumption) ?_ ?_
      rotate_left
      · intro w hSw; (try dsimp only at hSw); go_simp <;> with_reducible rfl
      try simp only [Act.put, List.setIfInBounds_toArray, List.set_cons_zero, List.set_cons_succ]
      refine takeA (i := 1) (v := ?_) rfl (by kernel_rfl) (by kernel_rfl) (by kernel_rfl) (fun _ _ _ h => h) (by rfl) (by assumption) ?_ ?_
      rotate_left
      · intro w hSw; (try dsimp only at hSw); go_simp <;> with_reducible rfl
      try simp only [Act.put, List.setIfInBounds_toArray, List.set_cons_zero, List.set_cons_succ]
      refine takeA (i := 2) (v := ?_) rfl (by kernel_rfl) (by kernel_rfl) (by kernel_rfl) (fun _ _ _ h => h) (by rfl) (by assumption) ?_ ?_
      rotate_left
      · intro w hSw; (try dsimp only at hSw); go_simp <;> with_reducible rfl
      try simp only [Act.put, List.setIfInBounds_toArray, List.set_cons_zero, List.set_cons_succ]
      refine takeA (i := 3) (v := ?_) rfl (by kernel_rfl) (by kernel_rfl) (by kernel_rfl) (fun _ _ _ h => h) (by rfl) (by assumption) ?_ ?_
      rotate_left
      · intro w hSw; (try dsimp only at hSw); go_simp <;> with_reducible rfl
      try simp only [Act.put, List.setIfInBounds_toArray, List.set_cons_zero, List.set_cons_succ]
      refine takeA (i := 4) (v := ?_) rfl (by kernel_rfl) (by kernel_rfl) (by kernel_rfl) (fun _ _ _ h => h) (by rfl) (by assumption) ?_ ?_
      rotate_left
      · intro w hSw; (try dsimp only at hSw); go_simp <;> with_reducible rfl
      try simp only [Act.put, List.setIfInBounds_toArray, List.set_cons_zero, List.set_cons_succ]
      refine takeA (i := 5) (v := ?_) rfl (by kernel_rfl) (by kernel_rfl) (by kernel_rfl) (fun _ _ _ h => h) (by rfl) (by assumption) ?_ ?_
      rotate_left
      · intro w hSw; (try dsimp only at hSw); go_simp <;> with_reducible rfl
      try simp only [Act.put, List.setIfInBounds_toArray, List.set_cons_zero, List.set_cons_succ]
      refine takeA (i := 6) (v := ?_) rfl (by kernel_rfl) (by kernel_rfl) (by kernel_rfl) (fun _ _ _ h => h) (by rfl) (by assumption) ?_ ?_
      rotate_left
      · intro w hSw; (try dsimp only at hSw); go_simp <;> with_reducible rfl
      try simp only [Act.put, List.setIfInBounds_toArray, List.set_cons_zero, List.set_cons_succ]
      refine stepA (i := 7) rfl (by kernel_rfl) (fun K0 hK0 => ?_)
      go_simp
      refine (BXk.out wd Bd.below _ hId).mono ?_
      rintro e w6 ⟨hb6, v6, rfl, hK6⟩
      obtain ⟨A6, c6, rfl, -⟩ := hK6.form
      have B6 := Bd.next hb6
      have hz6 := hbd.trans (hb6.mono hbd.size)
      have kb6 := kbd.next' hb6
      have hx6 := hxd.next hb6
      dsimp only
      refine hK0.out _ _ ⟨bkA B6.one, (hz6.cell (p := ad.add k) hab2).trans hcw⟩ (fun hS6 => ?_)
      clear hK0 K0 hS hb6 Bd hbd kbd hxd hId BXk
      try simp only [Act.put, List.setIfInBounds_toArray, List.set_cons_zero, List.set_cons_succ]
      refine takeA (i := 8) (v := ?_) rfl (by kernel_rfl) (by kernel_rfl) (by kernel_rfl) (fun _ _ _ h => h) (by rfl) (by assumption) ?_ ?_
      rotate_left
      · intro w hSw; (try dsimp only at hSw); go_simp <;> with_reducible rfl
      try simp only [Act.put, List.setIfInBounds_toArray, List.set_cons_zero, List.set_cons_succ]
      refine takeA (i := 9) (v := ?_) rfl (by kernel_rfl) (by kernel_rfl) (by kernel_rfl) (fun _ _ _ h => h) (by rfl) (by assumption) ?_ ?_
      rotate_left
      · intro w hSw; (try dsimp only at hSw); go_simp <;> with_reducible rfl
      try simp only [Act.put, List.setIfInBounds_toArray, List.set_cons_zero, List.set_cons_succ]
      refine takeA (i := 10) (v := ?_) rfl (by kernel_rfl) (by kernel_rfl) (by kernel_rfl) (fun _ _ _ h => h) (by rfl) (by assumption) ?_ ?_
      rotate_left
      · intro w hSw; (try dsimp only at hSw); go_simp <;> with_reducible rfl
      try simp only [Act.put, List.setIfInBounds_toArray, List.set_cons_zero, List.set_cons_succ]
      refine takeA (i := 11) (v := ?_) rfl (by kernel_rfl) (by kernel_rfl) (by kernel_rfl) (fun _ _ _ h => h) (by rfl) (by assumption) ?_ ?_
      rotate_left
      · intro w hSw; (try dsimp only at hSw); go_simp <;> with_reducible rfl
      try simp only [Act.put, List.setIfInBounds_toArray, List.set_cons_zero, List.set_cons_succ]
      refine takeA (i := 12) (v := ?_) rfl (by kernel_rfl) (by kernel_rfl) (by kernel_rfl) (fun _ _ _ h => h) (by rfl) (by assumption) ?_ ?_
      rotate_left
      · intro w hSw; (try dsimp only at hSw); go_simp <;> with_reducible rfl
      try simp only [Act.put, List.setIfInBounds_toArray, List.set_cons_zero, List.set_cons_succ]
      refine wpAnyH_done (by kernel_rfl) ?_ _
      clear hS6
      obtain ⟨e0, e1⟩ := bkA B6.one
      go_wp2_with fail
      refine (SLk.out w6 B6.below _ hK6).mono ?_
      rintro e w7 ⟨hb7, v7, rfl, hx7⟩
      obtain ⟨X7, m7, Y7, y7, rfl, -, -⟩ := hx7.form
      simp only at hx7
      have hb8 := below_alloc w7 (.cells #[.slice X7 sk.length m7, .slice Y7 uk.length y7] 25)
      have hb78 := hb7.trans (hb8.mono hb7.size)
      have k8 := Bk.new w7 25 #[Value.slice X7 sk.length m7, .slice Y7 uk.length y7]
      have B8 := B6.next hb78
      have hz8 := hz6.trans (hb78.mono hz6.size)
      have kb8 := kb6.next' hb78
      have hx8 := hx6.next hb78
      have hK8 := hK6.next hb78
      have hp8 := hx7.next hb8
      have l6 := kb6.lt
      have l7 := hb7.size
      clear e0 e1 B6 hz6 kb6 hx6 hK6 hx7 hb7 hb8 hb78 SLk
      obtain ⟨r0, r1⟩ := bkA kb8
      obtain ⟨p0, p1⟩ := bkA k8
      go_wp2_with fail
      generalize hw8 : w7.alloc (.cells #[.slice X7 sk.length m7, .slice Y7 uk.length y7] 25) = w8 at *
      clear hw8
      generalize w7.heap.size = pb at *
      refine (PAk.out w8 B8.below _ _ _ hK8 hx8 hp8).mono ?_
      rintro e w9 ⟨hb9, v9, rfl, hx9⟩
      obtain ⟨X9, m9, Y9, y9, rfl, -, -⟩ := hx9.form
      simp only [HOL.out] at hx9
      have hb10 := below_alloc w9 (.cells #[.slice X9 S.length m9, .slice Y9 V.length y9] 25)
      have hb910 := hb9.trans (hb10.mono hb9.size)
      have k10 := Bk.new w9 25 #[Value.slice X9 S.length m9, .slice Y9 V.length y9]
      have B10 := B8.next hb910
      have hz10 := hz8.trans (hb910.mono hz8.size)
      have kb10 := kb8.next' hb910
      have kp10 := k8.next' hb910
      have hx10 := hx9.next hb10
      clear r0 r1 p0 p1 B8 hz8 kb8 k8 hx8 hK8 hp8 hx9 hb9 hb10 hb910 PAk
      obtain ⟨r0, r1⟩ := bkA kb10
      obtain ⟨p0, p1⟩ := bkA kp10
      obtain ⟨t0, t1⟩ := bkA k10
      have f0 := kb10.frozen 0
      have f1 := kb10.frozen 1
      have ww : IntKind.i64.wrap ((sm k : Int) + (uk.length : Int)) = ((sm k + uk.length : Nat) : Int) := (IntWalk.i64_in _ (by omega)).trans (by omega)
      simp only [HOL.out]
      have BF : BxW w [(w.heap.size, 25, #[.slice A S.length c, .slice A' V.length c'])] (((w9.alloc (.cells #[.slice X9 S.length m9, .slice Y9 V.length y9] 25)).setCell ⟨ob, 0, none⟩ (.slice X9 S.length m9)).setCell ⟨ob, 1, none⟩ (.slice Y9 V.length y9)) :=
        ⟨(B10.below.setCell (p := ⟨ob, 0, none⟩) (by show w.heap.size ≤ ob; omega) _).setCell (p := ⟨ob, 1, none⟩) (by show w.heap.size ≤ ob; omega) _, fun p hp => by
          have hb : p.1 = w.heap.size := by simp at hp; rw [hp]
          exact ((B10.keep p hp).far (p := ⟨ob, 0, none⟩) (by show p.1 ≠ ob; omega) _).far (p := ⟨ob, 1, none⟩) (by show p.1 ≠ ob; omega) _⟩
      have HZ : Hid (Below w3.heap.size w3 (((w9.alloc (.cells #[.slice X9 S.length m9, .slice Y9 V.length y9] 25)).setCell ⟨ob, 0, none⟩ (.slice X9 S.length m9)).setCell ⟨ob, 1, none⟩ (.slice Y9 V.length y9))) := (hz10.setCell (p := ⟨ob, 0, none⟩) hob _).setCell (p := ⟨ob, 1, none⟩) hob _
      have HK : Hid (Bk (((w9.alloc (.cells #[.slice X9 S.length m9, .slice Y9 V.length y9] 25)).setCell ⟨ob, 0, none⟩ (.slice X9 S.length m9)).setCell ⟨ob, 1, none⟩ (.slice Y9 V.length y9)) ob 25 #[.slice X9 S.length m9, .slice Y9 V.length y9]) := by
        have h := (kb10.put 0 (.slice X9 S.length m9)).put 1 (.slice Y9 V.length y9)
        show Bk _ _ _ _
        simpa using h
      have HX := Lib.hid (hx10.ret r0 r1 (.slice X9 S.length m9) (.slice Y9 V.length y9))
      have HB := Lib.hid BF
      clear BF hz10 kb10 B10 hx10 k10 kp10
      go_wp2
      go_roundw
      case rel => exact ⟨k + 1, by omega, by go_num, by rw [HSk.out]; first | rfl | (push_cast; rfl) | simp, HB.out, HZ.out, _, _, _, _, HK.out, HX.out⟩
      case measure => simp [intOf]; omega
    · obtain rfl : k = cl.length := by omega
      rw [HSE.out] at *
      rw [HOE.out] at hx
      have SMk := Lib.hid (SM.out wr B.below _ hx)
      obtain ⟨e0, e1⟩ := bkA B.one
      obtain ⟨r0, r1⟩ := bkA kb
      clear hb hx kb
      go_wp2_with fail
      refine SMk.out.mono ?_
      rintro e w6 ⟨hb6, rfl⟩
      have B6 := B.next hb6
      go_wp2_with fail
      refine (SN.out w6 B6.below).mono ?_
      rintro r w9 ⟨hb9, rfl⟩
      go_wp2
      go_ret
      exact ⟨(B6.next hb9).below, rfl⟩
end Go.Proofs.YtgnffedncjjkfaaGreatDoor
