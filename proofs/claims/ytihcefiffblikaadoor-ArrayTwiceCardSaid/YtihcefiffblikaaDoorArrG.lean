/-
  Walks: package array: Slice.
-/
import Derived.Test.YtihcefiffblikaaDoorArrF
namespace Go.Proofs.YtihcefiffblikaaDoor
open Go.RowKit Ix Ar

theorem cntI_nat (C : List Cut) : (cntI C).map Int.toNat = cnt C := by unfold cntI cnt; rw [List.map_map]; rfl
theorem prod_mono : ∀ (S T : List Nat), S.length = T.length → (∀ j, S.getD j 0 ≤ T.getD j 0) → Ix.prod S ≤ Ix.prod T
  | [], [], _, _ => Nat.le_refl _
  | [], _ :: _, h, _ => by simp at h
  | _ :: _, [], h, _ => by simp at h
  | s :: S, t :: T, h, k => Nat.mul_le_mul (by simpa using k 0) (prod_mono S T (by simpa using h) (fun j => by simpa using k (j + 1)))
theorem fit_VS {S : List Int} {C : List Cut} (hS : VS S) (h : Fit S C) : VS (cntI C) := by
  have hl := fit_len h
  have each : ∀ j, j < C.length → 0 ≤ (C.getD j (0, 0, 0)).2.1 ∧ (C.getD j (0, 0, 0)).2.1 ≤ S.getD j 0 := fun j hj => by
    obtain ⟨h1, h2, h3, h4, h5⟩ := ((fit_iff _ _).1 h).2 j (by omega)
    refine ⟨h2, ?_⟩
    rcases Int.lt_or_le 0 (C.getD j (0, 0, 0)).2.1 with h6 | h6
    · obtain ⟨h7, h8⟩ := h5 h6
      have := Int.ediv_le_self (a := S.getD j 0 - 1 - (C.getD j (0, 0, 0)).1) (C.getD j (0, 0, 0)).2.2 (by omega)
      omega
    · omega
  have hin : ∀ j, j < C.length → S.getD j 0 ≤ 1024 := fun j hj => by
    rw [List.getD_eq_getElem?_getD, List.getElem?_eq_getElem (by omega)]
    exact (hS.2.1 _ (List.getElem_mem _)).2
  refine ⟨by rw [cntI_len, hl]; exact hS.1, fun s hs => ?_, ?_⟩
  · obtain ⟨j, hj⟩ := List.getElem?_of_mem hs
    have hj2 : j < C.length := by have := (List.getElem?_eq_some_iff.1 hj).1; rwa [cntI_len] at this
    have e : s = (C.getD j (0, 0, 0)).2.1 := by
      unfold cntI at hj
      rw [List.getElem?_map, List.getElem?_eq_getElem hj2] at hj
      rw [List.getD_eq_getElem?_getD, List.getElem?_eq_getElem hj2]
      simpa using hj.symm
    have := each j hj2
    have := hin j hj2
    omega
  · rw [cntI_nat]
    refine Nat.le_trans (prod_mono _ (S.map Int.toNat) (by unfold cnt; rw [List.length_map, List.length_map, hl]) (fun j => ?_)) hS.2.2
    rcases Nat.lt_or_ge j C.length with hj | hj
    · rw [cnt_at hj]
      have e : (S.map Int.toNat).getD j 0 = (S.getD j 0).toNat := by
        rw [List.getD_eq_getElem?_getD, List.getD_eq_getElem?_getD, List.getElem?_map]
        cases S[j]? <;> rfl
      rw [e]
      have := each j hj
      omega
    · rw [List.getD_eq_getElem?_getD, List.getElem?_eq_none (by unfold cnt; rw [List.length_map]; exact hj)]
      exact Nat.zero_le _
/-- What is said of a slab of an array: the array, and the error. -/
noncomputable def sliceR (a : Arr) (C : List Cut) : Arr × Int :=
  open Classical in if VA a then (if Fit a.1 C then ((cntI C, cutOut (a.1.map Int.toNat) C a.2 ⟨#[]⟩), 0) else (([], []), 61)) else (([], []), 60)

set_option maxRecDepth 100000 in
set_option maxHeartbeats 3200000 in
theorem slice1_any (S : List Int) (V : List ByteArray) (C : List Cut) (ab sb fb g X k B : Nat) (A A' : Option Addr) (cA c' : Nat) (w : World) (hV : VS S) (hl : V.length = Ix.prod (S.map Int.toNat)) (hF : Fit S C) (hC : ∀ x ∈ C, In64 x) (hk : k < Ix.prod (cnt C))
    (h1 : w.cell? ⟨ab, 1, none⟩ = some (.slice A' V.length c')) (h2 : w.cell? ⟨sb, 0, none⟩ = some (.slice A C.length cA)) (h3 : w.cell? ⟨fb, 0, none⟩ = some (.slice (some ⟨g, 0, none⟩) S.length S.length))
    (hr : Rd w B A (krow C)) (hr' : Rd w B A' (strs V)) (hg : Rd w B (some ⟨g, 0, none⟩) (ints .i64 (strides (S.map Int.toNat)))) (hX : Bk w X 3 (ints .i64 (idx (cnt C) k)).toArray) (hB : B ≤ w.heap.size) (hab : ab < w.heap.size ∧ sb < w.heap.size ∧ fb < w.heap.size) :
    Calls Tryd.prog 20 #[.slice (some ⟨X, 0, none⟩) C.length C.length, .pointer (some ⟨ab, 0, none⟩), .pointer (some ⟨sb, 0, none⟩), .pointer (some ⟨fb, 0, none⟩)] w fun e w' => Below w.heap.size w w' ∧ e = .returned (.string (V.getD (place (S.map Int.toNat) (thr C (idx (cnt C) k))) ⟨#[]⟩)) := by
  have hlC := fit_len hF
  have hli : (idx (cnt C) k).length = C.length := by rw [idx_len]; unfold cnt; rw [List.length_map]
  have hin := idx_inside (cnt C) k hk
  have hti := thr_inside hF hin
  have hpl := place_lt _ _ hti
  have htl : (thr C (idx (cnt C) k)).length = S.length := by rw [thr_len hli, hlC]
  have hrX : Rd w w.heap.size (some ⟨X, 0, none⟩) (ints .i64 (idx (cnt C) k)) := by simpa using hX.rd
  have WI := Lib.hid (fun (W : World) (hW : Below w.heap.size w W) => within_any C S (idx (cnt C) k) A (some ⟨X, 0, none⟩) cA C.length W ((hr.below (hW.mono hB)).more (Nat.le_trans hB hW.size)) ((hrX.below hW).more hW.size) hF hV.2.1 hin (by rw [hlC]; exact hV.1) hC)
  rw [hli] at WI
  have hdot := dot_eq (S.map Int.toNat) (thr C (idx (cnt C) k)) (by rw [htl, List.length_map])
  have hp4 := hV.2.2
  have PL := Lib.hid (fun (W : World) (gw : Nat) (h4 : Bk W gw 3 (ints .i64 (thr C (idx (cnt C) k))).toArray) (h5 : Rd W B (some ⟨g, 0, none⟩) (ints .i64 (strides (S.map Int.toNat)))) =>
    place_any (thr C (idx (cnt C) k)) (strides (S.map Int.toNat)) (some ⟨gw, 0, none⟩) (some ⟨g, 0, none⟩) C.length S.length W.heap.size B W (by rw [htl, strides_len, List.length_map]) (by rw [htl]; exact hV.1) (by rw [hdot]; omega) (by simpa using h4.rd) h5)
  rw [hdot, htl, strides_len, List.length_map, ← hlC] at PL
  obtain ⟨m, hm⟩ : ∃ m, m = place (S.map Int.toNat) (thr C (idx (cnt C) k)) := ⟨_, rfl⟩
  rw [← hm] at PL hpl ⊢
  have hmV : m < V.length := by rw [hl]; exact hpl
  obtain ⟨ad, rfl, hadb, hcv⟩ := hr'.str hmV
  have hgv : V.getD m ⟨#[]⟩ = V[m] := by rw [List.getD_eq_getElem?_getD, List.getElem?_eq_getElem hmV]; rfl
  rw [hgv]
  generalize V[m] = x at *
  have i1 : (0 : Int) ≤ (m : Int) := by omega
  have i2 : (m : Int) < (V.length : Int) := by omega
  have HG := Lib.hid (fun (W : World) (hW : Below w.heap.size w W) => hg.below (hW.mono hB))
  have hlV : V.length ≤ 4096 := by omega
  rw [← hlC] at h3
  clear hl hlC hli hin hti htl hrX hdot hm hF hC hk hr hr' hg hgv hV hpl
  obtain ⟨a1, a2, a3⟩ := hab
  go_enter Tryd.func20, Tryd.ntmps20
  go_wp2_with fail
  refine wp_region_held_drew (S := fun Y => (Y.cell? ⟨ab, 1, none⟩ = some (.slice (some ad) V.length c') ∧ Y.cell? ⟨sb, 0, none⟩ = some (.slice A C.length cA) ∧ Y.cell? ⟨fb, 0, none⟩ = some (.slice (some ⟨g, 0, none⟩) C.length C.length) ∧ Y.cell? (ad.add m) = some (.string x)) ∧ Below w.heap.size w Y) (by kernel_rfl) ⟨⟨h1, h2, h3, hcv⟩, (Below.refl w.heap.size w).drew⟩ (fun hS => ?_)
  refine takeA (i := 0) (v := ?_) rfl (by kernel_rfl) (by kernel_rfl) (by kernel_rfl) (fun _ _ _ h => h) (by rfl) (by assumption) ?_ ?_
  rotate_left
  · intro w hSw; (try dsimp only at hSw); go_simp <;> with_reducible rfl
  try simp only [Act.put, List.setIfInBounds_toArray, List.set_cons_zero, List.set_cons_succ]
  refine takeA (i := 1) (v := ?_) rfl (by kernel_rfl) (by kernel_rfl) (by kernel_rfl) (fun _ _ _ h => h) (by rfl) (by assumption) ?_ ?_
  rotate_left
  · intro w hSw; (try dsimp only at hSw); go_simp <;> with_reducible rfl
  try simp only [Act.put, List.setIfInBounds_toArray, List.set_cons_zero, List.set_cons_succ]
  refine takeA (i := 2) (v := ?_) rfl (by kernel_rfl) (by kernel_rfl) (by kernel_rfl) (fun _ _ _ h => h) (by rfl) (by assumption) ?_ ?_
  rotate_left
  · intro w hSw; (try dsimp only at hSw); go_simp <;> with_reducible rfl
  try simp only [Act.put, List.setIfInBounds_toArray, List.set_cons_zero, List.set_cons_succ]
  refine takeA (i := 3) (v := ?_) rfl (by kernel_rfl) (by kernel_rfl) (by kernel_rfl) (fun _ _ _ h => h) (by rfl) (by assumption) ?_ ?_
  rotate_left
  · intro w hSw; (try dsimp only at hSw); go_simp <;> with_reducible rfl
  try simp only [Act.put, List.setIfInBounds_toArray, List.set_cons_zero, List.set_cons_succ]
  refine takeA (i := 5) (v := ?_) rfl (by kernel_rfl) (by kernel_rfl) (by kernel_rfl) (fun _ _ _ h => h) (by rfl) (by assumption) ?_ ?_
  rotate_left
  · intro w hSw; (try dsimp only at hSw); go_simp <;> with_reducible rfl
  try simp only [Act.put, List.setIfInBounds_toArray, List.set_cons_zero, List.set_cons_succ]
  refine stepA (i := 4) rfl (by kernel_rfl) (fun K0 hK0 => ?_)
  go_simp
  refine (WI.out _ hS.2).mono ?_
  rintro e w1 ⟨hb1, rfl, hw1⟩
  dsimp only
  have c1 := (hb1.mono hS.2.size)
  have f1 := hS.1
  refine hK0.out _ _ ⟨⟨(c1.cell (p := ⟨ab, 1, none⟩) a1).trans f1.1, (c1.cell (p := ⟨sb, 0, none⟩) a2).trans f1.2.1, (c1.cell (p := ⟨fb, 0, none⟩) a3).trans f1.2.2.1, (c1.cell (p := ad.add m) (by rw [addr_block]; show ad.block < w.heap.size; omega)).trans f1.2.2.2⟩, hS.2.trans c1⟩ (fun hS1 => ?_)
  clear hK0 K0 hS f1 c1
  try simp only [Act.put, List.setIfInBounds_toArray, List.set_cons_zero, List.set_cons_succ]

  refine stepA (i := 6) rfl (by kernel_rfl) (fun K0 hK0 => ?_)
  go_simp

  refine (PL.out _ _ hw1 (HG.out _ hS1.2)).mono ?_
  rintro e w' ⟨rfl, rfl⟩
  dsimp only
  refine hK0.out _ _ hS1 (fun hS => ?_)
  clear hK0 K0 hS1
  try simp only [Act.put, List.setIfInBounds_toArray, List.set_cons_zero, List.set_cons_succ]
  refine takeA (i := 7) (v := ?_) rfl (by kernel_rfl) (by kernel_rfl) (by kernel_rfl) (fun _ _ _ h => h) (by rfl) (by assumption) ?_ ?_
  rotate_left
  · intro w hSw; (try dsimp only at hSw); go_simp <;> with_reducible rfl
  try simp only [Act.put, List.setIfInBounds_toArray, List.set_cons_zero, List.set_cons_succ]
  refine takeA (i := 8) (v := ?_) rfl (by kernel_rfl) (by kernel_rfl) (by kernel_rfl) (fun _ _ _ h => h) (by rfl) (by assumption) ?_ ?_
  rotate_left
  · intro w hSw; (try dsimp only at hSw); go_simp <;> with_reducible rfl
  try simp only [Act.put, List.setIfInBounds_toArray, List.set_cons_zero, List.set_cons_succ]
  refine takeA (i := 9) (v := ?_) rfl (by kernel_rfl) (by kernel_rfl) (by kernel_rfl) (fun _ _ _ h => h) (by rfl) (by assumption) ?_ ?_
  rotate_left
  · intro w hSw; (try dsimp only at hSw); go_simp <;> with_reducible rfl
  try simp only [Act.put, List.setIfInBounds_toArray, List.set_cons_zero, List.set_cons_succ]
  refine wpAnyH_done (by kernel_rfl) ?_ _
  go_wp2
  go_ret
  exact ⟨hS.2, rfl⟩

theorem sliceR_shape {a : Arr} {C : List Cut} (h : ¬ VA a) : sliceR a C = (([], []), 60) := by unfold sliceR; rw [if_neg h]
theorem sliceR_slab {a : Arr} {C : List Cut} (h : VA a) (k : ¬ Fit a.1 C) : sliceR a C = (([], []), 61) := by unfold sliceR; rw [if_pos h, if_neg k]
theorem sliceR_ok {a : Arr} {C : List Cut} (h : VA a) (k : Fit a.1 C) : sliceR a C = ((cntI C, cutOut (a.1.map Int.toNat) C a.2 ⟨#[]⟩), 0) := by unfold sliceR; rw [if_pos h, if_pos k]
theorem slice_out_s (l : List ByteArray) (A : Option Addr) (n c : Nat) : Value.slice A n c ∉ strs l := by simp [strs]
theorem IsA.put_out {w : World} {B : Nat} {v : Value} {a : Arr} (h : IsA w B v a) {p : Addr} {A : Option Addr} {n c : Nat} (hc : w.cell? p = some (.slice A n c)) (x : Value) : IsA (w.setCell p x) B v a := by
  obtain ⟨s, t, e, ⟨A1, c1, e1, l1, r1⟩, ⟨A2, c2, e2, l2, r2⟩⟩ := h
  exact ⟨s, t, e, ⟨A1, c1, e1, l1, r1.put_out hc (slice_out _ _ _ _) x⟩, ⟨A2, c2, e2, l2, r2.put_out hc (slice_out_s _ _ _ _) x⟩⟩
/-- Both cells of an array's box are written. -/
theorem IsA.put2 {w : World} {B : Nat} {v : Value} {a : Arr} (h : IsA w B v a) {g : Nat} {A A' : Option Addr} {n c n' c' : Nat} (h0 : w.cell? ⟨g, 0, none⟩ = some (.slice A n c)) (h1 : w.cell? ⟨g, 1, none⟩ = some (.slice A' n' c')) (x y : Value) : IsA ((w.setCell ⟨g, 0, none⟩ x).setCell ⟨g, 1, none⟩ y) B v a :=
  (h.put_out h0 x).put_out ((World.cell?_setCell_other w ⟨g, 0, none⟩ ⟨g, 1, none⟩ x (fun e => by cases e)).trans h1) y
/-- The three boxes of Slice. -/
structure SlB (w : World) (sv vv kv : Value) (W : World) : Prop where
  below : Below w.heap.size w W
  arr : Bk W w.heap.size 25 #[sv, vv]
  slab : Bk W (w.heap.size + 1) 26 #[kv]
  res : Bk W (w.heap.size + 2) 25 #[.slice none 0 0, .slice none 0 0]
theorem SlB.next {w W W' : World} {sv vv kv : Value} (h : SlB w sv vv kv W) (hb : Below W.heap.size W W') : SlB w sv vv kv W' :=
  ⟨h.below.trans (hb.mono h.below.size), h.arr.next' hb, h.slab.next' hb, h.res.next' hb⟩
theorem SlB.start (w : World) (sv vv kv : Value) : SlB w sv vv kv (((w.alloc (.cells #[sv, vv] 25)).alloc (.cells #[kv] 26)).alloc (.cells #[.slice none 0 0, .slice none 0 0] 25)) :=
  ⟨((below_alloc w _).alloc (by simp) _).alloc (by simp; omega) _, ((Bk.new w _ _).alloc _).alloc _, (Bk.new2 w _ _ _).alloc _, by simpa using Bk.new ((w.alloc (.cells #[sv, vv] 25)).alloc (.cells #[kv] 26)) 25 #[Value.slice none 0 0, .slice none 0 0]⟩

set_option maxRecDepth 100000 in
set_option maxHeartbeats 6400000 in
theorem slice_any (a : Arr) (C : List Cut) (va vk : Value) (w : World) (ha : IsA w w.heap.size va a) (hk : IsK w w.heap.size vk C) (hi : InA a) (hC : ∀ x ∈ C, In64 x) (hL : C.length ≤ maxLen) (he : Env w) :
    Calls Tryd.prog 7 #[va, vk] w fun e w' => Below w.heap.size w w' ∧ ∃ v, e = .returned (.tuple #[v, .int .i64 (sliceR a C).2]) ∧ IsA w' w'.heap.size v (sliceR a C).1 := by
  obtain ⟨A, c, A', c', rfl, hc, hc'⟩ := ha.form
  obtain ⟨Ak, ck, rfl, hck⟩ := hk.form
  have hha := ha
  obtain ⟨hS, hT⟩ := ha.parts
  obtain ⟨S, V⟩ := a
  simp only at hS hT hc hc'
  obtain ⟨qv, hqv⟩ : ∃ b : Bool, b = true ↔ VA (S, V) := by classical exact ⟨decide _, decide_eq_true_iff⟩
  obtain ⟨qf, hqf⟩ : ∃ b : Bool, b = true ↔ Fit S C := by classical exact ⟨decide _, decide_eq_true_iff⟩
  have VV := Lib.hid (fun W (hW : Below w.heap.size w W) => valid_any (S, V) (.agg #[.slice A S.length c, .slice A' V.length c']) W (hha.next hW) hi (he.next hW) qv hqv)
  have HA := Lib.hid hha
  have HKr := Lib.hid hk
  have B0 := SlB.start w (.slice A S.length c) (.slice A' V.length c') (.slice Ak C.length ck)
  have i1 := hi.shape
  cases hv : qv
  · have hna : ¬ VA (S, V) := fun h => by rw [hqv.2 h] at hv; cases hv
    rw [sliceR_shape hna]
    subst hv
    clear hqv hqf hna ha hha hk hS hT hi
    go_enter Tryd.func7, Tryd.ntmps7
    go_wp2_with fail
    generalize (((w.alloc (.cells #[.slice A S.length c, .slice A' V.length c'] 25)).alloc (.cells #[.slice Ak C.length ck] 26)).alloc (.cells #[.slice none 0 0, .slice none 0 0] 25)) = W0 at *
    refine (VV.out W0 B0.below).mono ?_
    rintro e w1 ⟨hb1, rfl⟩
    have B1 := B0.next hb1
    obtain ⟨d0, d1⟩ := bkA B1.res
    have f0 := B1.res.frozen 0
    have f1 := B1.res.frozen 1
    go_wp2
    refine bodyPost_ret (v := .tuple #[.agg #[.slice none 0 0, .slice none 0 0], .int .i64 60]) (by simp [results, Tryd.results7, go_sem, d0, d1]) rfl ?_
    exact ⟨(B1.below.setCell (p := ⟨w.heap.size + 2, 0, none⟩) (by simp) _).setCell (p := ⟨w.heap.size + 2, 1, none⟩) (by simp) _, _, rfl, IsA.zero _ _⟩
  · have hva := hqv.1 hv
    subst hv
    have hVS : VS S := hva.1
    have hl : V.length = Ix.prod (S.map Int.toNat) := hva.2.1
    have FF := Lib.hid (fun W (hW : Below w.heap.size w W) => fits_any C S Ak A ck c W ((hk.below hW).more hW.size).rd ((hS.below hW).more hW.size).rd hVS.2.1 hC hL qf hqf)
    cases hf : qf
    · have hnf : ¬ Fit S C := fun h => by rw [hqf.2 h] at hf; cases hf
      rw [sliceR_slab hva hnf]
      subst hf
      clear hqv hqf hnf hva hVS hl ha hha hk hS hT hi
      go_enter Tryd.func7, Tryd.ntmps7
      go_wp2_with fail
      generalize (((w.alloc (.cells #[.slice A S.length c, .slice A' V.length c'] 25)).alloc (.cells #[.slice Ak C.length ck] 26)).alloc (.cells #[.slice none 0 0, .slice none 0 0] 25)) = W0 at *
      refine (VV.out W0 B0.below).mono ?_
      rintro e w1 ⟨hb1, rfl⟩
      have B1 := B0.next hb1
      obtain ⟨b0, b1⟩ := bkA B1.arr
      have s0 : w1.cell? ⟨w.heap.size + 1, 0, none⟩ = some (.slice Ak C.length ck) := B1.slab.cell 0
      go_wp2_with fail
      refine (FF.out w1 B1.below).mono ?_
      rintro e w2 ⟨hb2, rfl⟩
      have B2 := B1.next hb2
      obtain ⟨d0, d1⟩ := bkA B2.res
      have f0 := B2.res.frozen 0
      have f1 := B2.res.frozen 1
      clear b0 b1 s0
      go_wp2
      refine bodyPost_ret (v := .tuple #[.agg #[.slice none 0 0, .slice none 0 0], .int .i64 61]) (by simp [results, Tryd.results7, go_sem, d0, d1]) rfl ?_
      exact ⟨(B2.below.setCell (p := ⟨w.heap.size + 2, 0, none⟩) (by simp) _).setCell (p := ⟨w.heap.size + 2, 1, none⟩) (by simp) _, _, rfl, IsA.zero _ _⟩
    · have hF := hqf.1 hf
      rw [sliceR_ok hva hF]
      subst hf
      have hCV := fit_VS hVS hF
      unfold maxLen at hL
      have ST := Lib.hid (fun W (hW : Below w.heap.size w W) => strides_any (S.map Int.toNat) A c W hVS.sz (by rw [← hVS.cells]; exact ((hS.below hW).more hW.size).rd))
      rw [List.length_map] at ST
      have CN := Lib.hid (fun W (hW : Below w.heap.size w W) => counts_any C Ak ck W ((hk.below hW).more hW.size).rd (by rw [fit_len hF]; have := hVS.1; omega))
      have HK := Lib.hid (fun W (hW : Below w.heap.size w W) => ((hk.below hW).more hW.size).rd)
      have HT := Lib.hid (fun W (hW : Below w.heap.size w W) => ((hT.below hW).more hW.size).rd)
      have HH := Lib.hid (And.intro hVS (And.intro hl (And.intro hF hC)))
      have HCV := Lib.hid hCV
      clear hqv hqf hva hVS hl ha hha hk hS hT hi hF hC hCV
      go_enter Tryd.func7, Tryd.ntmps7
      go_wp2_with fail
      generalize (((w.alloc (.cells #[.slice A S.length c, .slice A' V.length c'] 25)).alloc (.cells #[.slice Ak C.length ck] 26)).alloc (.cells #[.slice none 0 0, .slice none 0 0] 25)) = W0 at *
      refine (VV.out W0 B0.below).mono ?_
      rintro e w1 ⟨hb1, rfl⟩
      have B1 := B0.next hb1
      obtain ⟨b0, b1⟩ := bkA B1.arr
      have s0 : w1.cell? ⟨w.heap.size + 1, 0, none⟩ = some (.slice Ak C.length ck) := B1.slab.cell 0
      go_wp2_with fail
      refine (FF.out w1 B1.below).mono ?_
      rintro e w2 ⟨hb2, rfl⟩
      have B2 := B1.next hb2
      clear b0 b1 s0 B1 hb1 hb2
      obtain ⟨b0, b1⟩ := bkA B2.arr
      go_wp2_with fail
      refine (ST.out w2 B2.below).mono ?_
      rintro e w3 ⟨hb3, rfl, hg3⟩
      have B3 := B2.next hb3
      have hs3 : w2.heap.size < w3.heap.size := hg3.lt
      clear b0 b1
      have b3 := below_alloc w3 (.cells #[.slice (some ⟨w2.heap.size, 0, none⟩) S.length S.length] 22)
      have B4 := B3.next b3
      have s0 : (w3.alloc (.cells #[.slice (some ⟨w2.heap.size, 0, none⟩) S.length S.length] 22)).cell? ⟨w.heap.size + 1, 0, none⟩ = some (.slice Ak C.length ck) := B4.slab.cell 0
      have k4 := Bk.new w3 22 #[.slice (some ⟨w2.heap.size, 0, none⟩) S.length S.length]
      have hg4 := hg3.next' b3
      go_wp2_with fail
      generalize w3.alloc (.cells #[.slice (some ⟨w2.heap.size, 0, none⟩) S.length S.length] 22) = W4 at *
      refine (CN.out W4 B4.below).mono ?_
      rintro e w5 ⟨hb5, v9, rfl, hown⟩
      rw [← cntI_len C] at hown
      have hI9 := IsI.of_own hown
      obtain ⟨A9, c9, rfl, hc9⟩ := hI9.form
      have B5 := B4.next hb5
      have hg5 := hg4.next' hb5
      have k5 := k4.next' hb5
      have hs5 : w3.heap.size < w5.heap.size := k5.lt
      have MK := Lib.hid (made_any (cntI C) 20 #[.pointer (some ⟨w.heap.size, 0, none⟩), .pointer (some ⟨w.heap.size + 1, 0, none⟩), .pointer (some ⟨w3.heap.size, 0, none⟩)] (enters_of Tryd.func20 (by kernel_rfl) rfl)
        (fun k => V.getD (place (S.map Int.toNat) (thr C (idx (cnt C) k))) ⟨#[]⟩) A9 c9 w5 HCV.out hI9.rd (fun k X W hW hk hX hbX => by
          obtain ⟨j1, j2, j3, j4⟩ := HH.out
          have B6 := B5.next hW
          have hg6 := hg5.next' hW
          have k6 := k5.next' hW
          rw [cntI_nat] at hk hbX
          rw [cntI_len]
          have e0 : W.cell? ⟨w.heap.size, 1, none⟩ = some (.slice A' V.length c') := B6.arr.cell 1
          have e1 : W.cell? ⟨w.heap.size + 1, 0, none⟩ = some (.slice Ak C.length ck) := B6.slab.cell 0
          have e2 : W.cell? ⟨w3.heap.size, 0, none⟩ = some (.slice (some ⟨w2.heap.size, 0, none⟩) S.length S.length) := k6.cell 0
          have := hW.size
          have := B5.res.lt
          exact (slice1_any S V C w.heap.size (w.heap.size + 1) w3.heap.size w2.heap.size X k w5.heap.size Ak A' ck c' W j1 j2 j3 j4 hk e0 e1 e2 ((HK.out w5 B5.below).below hW) ((HT.out w5 B5.below).below hW) (by
            have := hg5.rd.below hW
            simpa using this) hbX hW.size (by omega)).mono (fun e w' h => ⟨h.1, h.2⟩)))
      have HCL := Lib.hid (show cutOut (S.map Int.toNat) C V ⟨#[]⟩ = (List.range (Ix.prod ((cntI C).map Int.toNat))).map (fun k => V.getD (place (S.map Int.toNat) (thr C (idx (cnt C) k))) ⟨#[]⟩) from by rw [cntI_nat]; rfl)
      clear hown hg3 hg4 k4 hb3 b3 s0 hb5
      go_wp2_with fail
      refine MK.out.mono ?_
      rintro e w6 ⟨hb6, v6, rfl, hv6⟩
      rw [← HCL.out] at hv6
      have B6 := B5.next hb6
      clear MK HCL
      obtain ⟨A1, c1, A2, c2, rfl, hc1, hc2⟩ := hv6.form
      obtain ⟨d0, d1⟩ := bkA B6.res
      have f0 := B6.res.frozen 0
      have f1 := B6.res.frozen 1
      go_wp2
      refine bodyPost_ret (v := .tuple #[.agg #[.slice A1 (cntI C).length c1, .slice A2 (cutOut (S.map Int.toNat) C V ⟨#[]⟩).length c2], .int .i64 0]) (by simp [results, Tryd.results7, go_sem, d0, d1]) rfl ?_
      exact ⟨(B6.below.setCell (p := ⟨w.heap.size + 2, 0, none⟩) (by simp) _).setCell (p := ⟨w.heap.size + 2, 1, none⟩) (by simp) _, _, rfl, by
        have := hv6.put2 d0 d1 (.slice A1 (cntI C).length c1) (.slice A2 (cutOut (S.map Int.toNat) C V ⟨#[]⟩).length c2)
        simpa [World.setCell] using this⟩
end Go.Proofs.YtihcefiffblikaaDoor
