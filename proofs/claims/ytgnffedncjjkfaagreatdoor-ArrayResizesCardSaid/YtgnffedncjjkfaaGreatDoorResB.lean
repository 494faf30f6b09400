/-
  Walk: the reference's Resize.
-/
import Derived.Test.YtgnffedncjjkfaaGreatDoorResA
namespace Go.Proofs.YtgnffedncjjkfaaGreatDoor
open Go.RowKit Ix Ar

set_option maxRecDepth 100000 in
set_option maxHeartbeats 6400000 in
theorem rresize_any (a : Arr) (T : List Int) (v : ByteArray) (va vt : Value) (w : World) (ha : IsA w w.heap.size va a) (hT : IsI w w.heap.size vt T) (hi : InA a) (hTL : T.length ≤ maxLen) (hz : v.size ≤ 4000000) :
    Calls Tryz.prog 24 #[va, vt, .string v] w fun e w' => Below w.heap.size w w' ∧ ∃ u, e = .returned (.tuple #[u, .int .i64 (resizeR a T v).2]) ∧ IsA w' w'.heap.size u (resizeR a T v).1 := by
  obtain ⟨A, c, A', c', rfl, hc, hc'⟩ := ha.form
  obtain ⟨At, ct, rfl, hct⟩ := hT.form
  obtain ⟨i0, hi0, hz0, hz1, hz2⟩ := info_parts Tryz.str_info
  have hha := ha
  obtain ⟨hS, hV⟩ := ha.parts
  obtain ⟨S, V⟩ := a
  simp only at hS hV hc hc'
  obtain ⟨qv, hqv⟩ : ∃ b : Bool, b = true ↔ VA (S, V) := by classical exact ⟨decide _, decide_eq_true_iff⟩
  obtain ⟨qs, hqs⟩ : ∃ b : Bool, b = true ↔ VS T := by classical exact ⟨decide _, decide_eq_true_iff⟩
  have VV := Lib.hid (fun W (hW : Below w.heap.size w W) => rarr_any (S, V) (.agg #[.slice A S.length c, .slice A' V.length c']) W (hha.next hW) hi qv hqv)
  have SS := Lib.hid (fun W (hW : Below w.heap.size w W) => rvalidshape_any T At ct w.heap.size W (hT.rd.below hW) hTL qs hqs)
  have VL := Lib.hid (fun W => rvalue_any v W hz (valB v) (valB_iff v))
  have B0 := BxW.start2 w 25 25 #[.slice A S.length c, .slice A' V.length c'] #[.slice none 0 0, .slice none 0 0]
  have i1 := hi.shape
  have i2 := hi.vals
  simp only at i2
  cases hv : qv
  · have hna : ¬ (VA (S, V) ∧ VS T) := fun h => by rw [hqv.2 h.1] at hv; cases hv
    rw [resizeR_shape hna]
    subst hv
    clear hqv hqs hna ha hha hT hS hV hi hz
    go_enter Tryz.func24, Tryz.ntmps24
    go_wp2_with fail
    generalize ((w.alloc (.cells #[.slice A S.length c, .slice A' V.length c'] 25)).alloc (.cells #[.slice none 0 0, .slice none 0 0] 25)) = W0 at *
    refine (VV.out W0 B0.below).mono ?_
    rintro e w1 ⟨hb1, rfl⟩
    have B1 := B0.next hb1
    obtain ⟨d0, d1⟩ := bkA B1.two
    have f0 := B1.two.frozen 0
    have f1 := B1.two.frozen 1
    go_wp2
    refine bodyPost_ret (v := .tuple #[.agg #[.slice none 0 0, .slice none 0 0], .int .i64 60]) (by simp [results, Tryz.results24, go_sem, d0, d1]) rfl ?_
    exact ⟨(B1.below.setCell (p := ⟨w.heap.size + 1, 0, none⟩) (by simp) _).setCell (p := ⟨w.heap.size + 1, 1, none⟩) (by simp) _, _, rfl, IsA.zero _ _⟩
  have hva := hqv.1 hv
  subst hv
  cases hs : qs
  · have hna : ¬ (VA (S, V) ∧ VS T) := fun h => by rw [hqs.2 h.2] at hs; cases hs
    rw [resizeR_shape hna]
    subst hs
    clear hqv hqs hna ha hha hT hS hV hi hz hva
    go_enter Tryz.func24, Tryz.ntmps24
    go_wp2_with fail
    generalize ((w.alloc (.cells #[.slice A S.length c, .slice A' V.length c'] 25)).alloc (.cells #[.slice none 0 0, .slice none 0 0] 25)) = W0 at *
    refine (VV.out W0 B0.below).mono ?_
    rintro e w1 ⟨hb1, rfl⟩
    have B1 := B0.next hb1
    go_wp2_with fail
    refine (SS.out w1 B1.below).mono ?_
    rintro e w' ⟨rfl, rfl⟩
    obtain ⟨d0, d1⟩ := bkA B1.two
    have f0 := B1.two.frozen 0
    have f1 := B1.two.frozen 1
    go_wp2
    refine bodyPost_ret (v := .tuple #[.agg #[.slice none 0 0, .slice none 0 0], .int .i64 60]) (by simp [results, Tryz.results24, go_sem, d0, d1]) rfl ?_
    exact ⟨(B1.below.setCell (p := ⟨w.heap.size + 1, 0, none⟩) (by simp) _).setCell (p := ⟨w.heap.size + 1, 1, none⟩) (by simp) _, _, rfl, IsA.zero _ _⟩
  have hTS := hqs.1 hs
  subst hs
  cases hy : valB v
  · have hna : ¬ IsVal v.data.toList := fun h => by rw [(valB_iff v).2 h] at hy; cases hy
    rw [resizeR_arg ⟨hva, hTS⟩ hna]
    rw [hy] at VL
    clear hqv hqs hna ha hha hT hS hV hi hz hva hTS hy
    go_enter Tryz.func24, Tryz.ntmps24
    go_wp2_with fail
    generalize ((w.alloc (.cells #[.slice A S.length c, .slice A' V.length c'] 25)).alloc (.cells #[.slice none 0 0, .slice none 0 0] 25)) = W0 at *
    refine (VV.out W0 B0.below).mono ?_
    rintro e w1 ⟨hb1, rfl⟩
    have B1 := B0.next hb1
    go_wp2_with fail
    refine (SS.out w1 B1.below).mono ?_
    rintro e w' ⟨rfl, rfl⟩
    go_wp2_with fail
    refine (VL.out w1).mono ?_
    rintro e w2 ⟨hb2, rfl⟩
    have B2 := B1.next hb2
    obtain ⟨d0, d1⟩ := bkA B2.two
    have f0 := B2.two.frozen 0
    have f1 := B2.two.frozen 1
    go_wp2
    refine bodyPost_ret (v := .tuple #[.agg #[.slice none 0 0, .slice none 0 0], .int .i64 2]) (by simp [results, Tryz.results24, go_sem, d0, d1]) rfl ?_
    exact ⟨(B2.below.setCell (p := ⟨w.heap.size + 1, 0, none⟩) (by simp) _).setCell (p := ⟨w.heap.size + 1, 1, none⟩) (by simp) _, _, rfl, IsA.zero _ _⟩
  have hya := (valB_iff v).1 hy
  rw [hy] at VL
  have hVS : VS S := hva.1
  have hS4 := hVS.1
  have hT4 := hTS.1
  by_cases hlen : T.length = S.length
  rotate_left
  · rw [resizeR_other ⟨hva, hTS⟩ hya hlen]
    have hne : ((T.length : Int) != (S.length : Int)) = true := by simp; omega
    clear hqv hqs ha hha hT hS hV hi hz hva hTS hy hya hVS hlen
    go_enter Tryz.func24, Tryz.ntmps24
    go_wp2_with fail
    generalize ((w.alloc (.cells #[.slice A S.length c, .slice A' V.length c'] 25)).alloc (.cells #[.slice none 0 0, .slice none 0 0] 25)) = W0 at *
    refine (VV.out W0 B0.below).mono ?_
    rintro e w1 ⟨hb1, rfl⟩
    have B1 := B0.next hb1
    go_wp2_with fail
    refine (SS.out w1 B1.below).mono ?_
    rintro e w' ⟨rfl, rfl⟩
    go_wp2_with fail
    refine (VL.out w1).mono ?_
    rintro e w2 ⟨hb2, rfl⟩
    have B2 := B1.next hb2
    obtain ⟨d0, d1⟩ := bkA B2.two
    have f0 := B2.two.frozen 0
    have f1 := B2.two.frozen 1
    obtain ⟨b0, b1⟩ := bkA B2.one
    go_wp2
    refine bodyPost_ret (v := .tuple #[.agg #[.slice none 0 0, .slice none 0 0], .int .i64 60]) (by simp [results, Tryz.results24, go_sem, d0, d1]) rfl ?_
    exact ⟨(B2.below.setCell (p := ⟨w.heap.size + 1, 0, none⟩) (by simp) _).setCell (p := ⟨w.heap.size + 1, 1, none⟩) (by simp) _, _, rfl, IsA.zero _ _⟩
  rw [resizeR_ok ⟨hva, hTS⟩ hya hlen]
  have hl : V.length = Ix.prod (S.map Int.toNat) := hva.2.1
  obtain ⟨N, hN⟩ : ∃ N, N = Ix.prod (T.map Int.toNat) := ⟨_, rfl⟩
  have hN2 : N ≤ 4096 := by rw [hN]; exact hTS.2.2
  obtain ⟨f, hf⟩ : ∃ f, f = fun k => resAt S V v (idx (T.map Int.toNat) k) := ⟨_, rfl⟩
  have htab : tab (T.map Int.toNat) (resAt S V v) = (List.range N).map f := by rw [hN, hf]; rfl
  simp only
  rw [htab]
  have CC := Lib.hid (fun W (hW : Below w.heap.size w W) => rcount_any (T.map Int.toNat) At ct w.heap.size W hTS.sz (by rw [← hTS.cells]; exact hT.rd.below hW))
  rw [List.length_map, ← hN] at CC
  have IX := Lib.hid (fun W (hW : Below w.heap.size w W) (k : Nat) (hk : k < N) => rindex_any (T.map Int.toNat) k At ct W hTS.sz (by rw [← hN]; exact hk) (by rw [← hTS.cells]; exact ((hT.below hW).more hW.size).rd))
  rw [List.length_map] at IX
  have CP := Lib.hid (fun W (hW : Below w.heap.size w W) => copied_any At T.length ct T W rfl (by omega) ((hT.below hW).more hW.size).rd)
  have IN := Lib.hid (fun (I : List Nat) (q : Bool) (hq : q = true ↔ Inside (S.map Int.toNat) I) (hI : I.length = T.length) (X : Nat) (W : World) (hW : Below w.heap.size w W) (hX : Bk W X 3 (ints .i64 I).toArray) => risindex_any S (I.map Int.ofNat) A (some ⟨X, 0, none⟩) c T.length w.heap.size W.heap.size W (hS.rd.below hW) (by rw [zints_nat]; simpa using hX.rd) hW.size (Nat.le_refl _) (by rw [List.length_map]; unfold maxLen; omega) q (by rw [hq]; exact (inI_of (fun s h => (hVS.2.1 s h).1) I).symm))
  have PL := Lib.hid (fun (I : List Nat) (hI : Inside (S.map Int.toNat) I) (X : Nat) (W : World) (hW : Below w.heap.size w W) (hX : Bk W X 3 (ints .i64 I).toArray) => show Calls Tryz.prog 69 #[.slice A S.length c, .slice (some ⟨X, 0, none⟩) T.length T.length] W fun e w' => Below W.heap.size W w' ∧ e = .returned (.int .i64 (place (S.map Int.toNat) I : Nat)) from by
    have h := rplace_any (S.map Int.toNat) I A (some ⟨X, 0, none⟩) c T.length w.heap.size W.heap.size W hVS.sz hI (by rw [← hVS.cells]; exact hS.rd.below hW) (by simpa using hX.rd) hW.size (Nat.le_refl _)
    rw [List.length_map, show Value.slice (some ⟨X, 0, none⟩) S.length T.length = .slice (some ⟨X, 0, none⟩) T.length T.length from by rw [hlen]] at h
    exact h)
  have HF := Lib.hid (fun (k : Nat) => congrFun hf k)
  have HV := Lib.hid (fun (I : List Nat) (hI : Inside (S.map Int.toNat) I) => show ∃ ad, A' = some ad ∧ ad.block < w.heap.size ∧ place (S.map Int.toNat) I < V.length ∧ w.cell? (ad.add (place (S.map Int.toNat) I)) = some (.string (V.getD (place (S.map Int.toNat) I) ⟨#[]⟩)) from by
    have hmV : place (S.map Int.toNat) I < V.length := by rw [hl]; exact place_lt _ _ hI
    obtain ⟨ad, e1, e2, e3⟩ := hV.rd.str hmV
    exact ⟨ad, e1, e2, hmV, by rw [List.getD_eq_getElem?_getD, List.getElem?_eq_getElem hmV]; exact e3⟩)
  have HTI := Lib.hid (fun W (hW : Below w.heap.size w W) => (hT.below hW).more hW.size)
  have hne : ((T.length : Int) != (S.length : Int)) = false := by simp; omega
  have HIL : Hid (∀ k, (idx (T.map Int.toNat) k).length = T.length) := fun k => by rw [idx_len, List.length_map]
  have HLN := Lib.hid hlen
  clear hqv hqs ha hha hT hS hi hz hva hTS hy hya hVS hl hf htab hN hlen
  have hi2' := i2
  clear hV
  go_enter Tryz.func24, Tryz.ntmps24
  go_wp2_with fail
  generalize ((w.alloc (.cells #[.slice A S.length c, .slice A' V.length c'] 25)).alloc (.cells #[.slice none 0 0, .slice none 0 0] 25)) = W0 at *
  refine (VV.out W0 B0.below).mono ?_
  rintro e w1 ⟨hb1, rfl⟩
  have B1 := B0.next hb1
  go_wp2_with fail
  refine (SS.out w1 B1.below).mono ?_
  rintro e w' ⟨rfl, rfl⟩
  go_wp2_with fail
  refine (VL.out w1).mono ?_
  rintro e w2 ⟨hb2, rfl⟩
  have B2 := B1.next hb2
  obtain ⟨b0, b1⟩ := bkA B2.one
  go_wp2_with fail
  refine (CP.out w2 B2.below).mono ?_
  rintro e w3 ⟨hb3, v9, rfl, hown⟩
  have B3 := B2.next hb3
  have hI := IsI.of_own hown
  obtain ⟨A9, c9, rfl, -⟩ := hI.form
  clear b0 b1
  have hb4 := below_alloc w3 (.cells #[.slice A9 T.length c9, .slice none 0 0] 25)
  have B4 := B3.next hb4
  have l1 := B3.one.lt
  have l2 := B3.two.lt
  have M0 := AppAt.start (w := w) (ob := w3.heap.size) (ks := [(w.heap.size, 25, #[.slice A S.length c, .slice A' V.length c']), (w.heap.size + 1, 25, #[.slice none 0 0, .slice none 0 0])]) B4.below B4.keep (Bk.new w3 25 #[Value.slice A9 T.length c9, .slice none 0 0]) (hI.next hb4) B3.below.size (fun p hp => by
    simp at hp
    rcases hp with rfl | rfl
    · show w.heap.size ≠ w3.heap.size; simp only at l1; omega
    · show w.heap.size + 1 ≠ w3.heap.size; simp only at l2; omega)
  clear hown hI hb4 hb3 hb2 hb1 B0 B1 B2 B3 B4 VV SS VL CP
  go_wp2_with fail
  generalize w3.alloc (.cells #[.slice A9 T.length c9, .slice none 0 0] 25) = w4 at *
  go_loopw [9] (fun i wr => ∃ (k : Nat) (x : Value), k ≤ N ∧ i = .int .i64 k ∧ AppAt w w4.heap.size w3.heap.size [(w.heap.size, 25, #[.slice A S.length c, .slice A' V.length c']), (w.heap.size + 1, 25, #[.slice none 0 0, .slice none 0 0])] (.slice A9 T.length c9) T x ((List.range k).map f) wr) (fun i _ => N - (intOf i).toNat)
  case atStart => exact ⟨0, _, Nat.zero_le _, rfl, M0⟩
  case round =>
    clear M0
    obtain ⟨k, x, hk, rfl, M⟩ := hrel
    obtain ⟨xA, xc, rfl⟩ := own_formV M.own
    rw [map_len] at M
    go_wp2_with fail
    refine (CC.out wr M.below).mono ?_
    rintro e w' ⟨rfl, rfl⟩
    by_cases hlt : k < N
    · have HK := HF.out k
      go_wp2_with fail
      refine (IX.out wr M.below k hlt).mono ?_
      rintro e w5 ⟨hb5, rfl, hX5⟩
      have M5 := M.next hb5
      clear M
      obtain ⟨qi, hqi⟩ : ∃ b : Bool, b = true ↔ Inside (S.map Int.toNat) (idx (T.map Int.toNat) k) := by classical exact ⟨decide _, decide_eq_true_iff⟩
      have IN5 := Lib.hid (IN.out (idx (T.map Int.toNat) k) qi hqi (HIL.out k) wr.heap.size w5 M5.below hX5)
      rw [List.length_map, HIL.out k] at IN5
      have KA := M5.keep (w.heap.size, 25, #[.slice A S.length c, .slice A' V.length c']) (by simp)
      obtain ⟨b0, b1⟩ := bkA KA
      have lx := hX5.lt
      generalize wr.heap.size = X at *
      go_wp2_with fail
      refine IN5.out.mono ?_
      rintro e w6 ⟨hb6, rfl⟩
      have M6 := M5.next hb6
      have hX6 := hX5.next' hb6
      clear IN5 b0 b1 KA M5 hX5 hb6 lx
      cases hqq : qi
      · have hno : ¬ Inside (S.map Int.toNat) (idx (T.map Int.toNat) k) := fun h => by rw [hqi.2 h] at hqq; cases hqq
        subst hqq
        have hfk : f k = v := HK.trans (resAt_out hno)
        have HFK := Lib.hid hfk
        clear hqi hno HK hX6 hfk
        obtain ⟨b0, b1⟩ := bkA M6.box
        have MA := M6.alloc (.cells #[.string v] 9)
        have hown0 := MA.own
        rw [map_len] at hown0
        clear M6
        go_wp2_with (at_builtin; go_loud (refine wpL_append _ rfl (.tmp 58) (.tmp 60) _ rfl w4.heap.size 9 i0 _ 1 16 Tryz.underlying23 hi0 hz0 hz1 hz2 rfl (by omega) _ k _ rfl hown0 _ 1 1 [.string v] rfl rfl (Rd.of_new w6 [.string v] 9) (strs_one [v]) (by unfold maxLen; omega) (by omega) MA.size ?_; intro v1 w7 hown1 hg1 hat1; obtain ⟨vA, vc, rfl⟩ := own_formV hown1; have MM := MA.app (x := v) (by rw [map_len]; exact hown1) hg1; obtain ⟨g0, g1, gf⟩ := MM.facts; clear hown1 hg1 hat1 b0 b1 hown0))
        have MP := MM.put
        have e1 : (List.range k).map f ++ [v] = (List.range (k + 1)).map f := by rw [map_snoc, HFK.out]
        rw [e1] at MP
        go_roundw
        case rel => exact ⟨k + 1, _, by omega, by go_num, MP⟩
        case measure => simp [intOf]; omega
      · have hin := hqi.1 hqq
        subst hqq
        have hfk := HK.trans (resAt_in hin)
        obtain ⟨ad, rfl, hab, hmV, hcv⟩ := HV.out _ hin
        have P6 := Lib.hid (PL.out _ hin X w6.drew M6.below.drew hX6)
        have i1' : (0 : Int) ≤ ((place (S.map Int.toNat) (idx (T.map Int.toNat) k) : Nat) : Int) := by omega
        have i2' : ((place (S.map Int.toNat) (idx (T.map Int.toNat) k) : Nat) : Int) < (V.length : Int) := by omega
        rw [← hfk] at hcv
        have hcv6 := (M6.below.cell (p := ad.add (place (S.map Int.toNat) (idx (T.map Int.toNat) k))) (by rw [addr_block]; exact hab)).trans hcv
        have KA := M6.keep (w.heap.size, 25, #[.slice A S.length c, .slice (some ad) V.length c']) (by simp)
        obtain ⟨b0, b1⟩ := bkA KA
        clear hqi hin HK hfk hX6
        generalize place (S.map Int.toNat) (idx (T.map Int.toNat) k) = m at *
        generalize hfx : f k = x at *
        have HFK := Lib.hid hfx
        clear hfx
        go_wp2_with fail
        refine wp_region_held_drew (S := fun Y => ((Y.cell? ⟨w.heap.size, 0, none⟩ = some (.slice A S.length c) ∧ Y.cell? ⟨w.heap.size, 1, none⟩ = some (.slice (some ad) V.length c')) ∧ Y.cell? (ad.add m) = some (.string x)) ∧ Below w.heap.size w Y) (by kernel_rfl) ⟨⟨⟨b0, b1⟩, hcv6⟩, M6.below.drew⟩ (fun hS => ?_)
        clear b0 b1 KA hcv6
        have M6d := M6.drew
        clear M6
        refine takeA (i := 0) (v := ?_) rfl (by kernel_rfl) (by kernel_rfl) (by kernel_rfl) (fun _ _ _ h => h) (by rfl) (by assumption) ?_ ?_
        rotate_left
        · intro w hSw; (try dsimp only at hSw); go_simp <;> with_reducible rfl
        try simp only [Act.put, List.setIfInBounds_toArray, List.set_cons_zero, List.set_cons_succ]
        refine takeA (i := 1) (v := ?_) rfl (by kernel_rfl) (by kernel_rfl) (by kernel_rfl) (fun _ _ _ h => h) (by rfl) (by assumption) ?_ ?_
        rotate_left
        · intro w hSw; (try dsimp only at hSw); go_simp <;> with_reducible rfl
        try simp only [Act.put, List.setIfInBounds_toArray, List.set_cons_zero, List.set_cons_succ]
        refine takeA (i := 2) (v := ?_) rfl (by kernel_rfl) (by kernel_rfl) (by kernel_rfl) (fun _ _ _ h => h) (by rfl) (by assumption) ?_ ?_
        rotate_left
        · intro w hSw; (try dsimp only at hSw); go_simp <;> with_reducible rfl
        try simp only [Act.put, List.setIfInBounds_toArray, List.set_cons_zero, List.set_cons_succ]
        refine takeA (i := 3) (v := ?_) rfl (by kernel_rfl) (by kernel_rfl) (by kernel_rfl) (fun _ _ _ h => h) (by rfl) (by assumption) ?_ ?_
        rotate_left
        · intro w hSw; (try dsimp only at hSw); go_simp <;> with_reducible rfl
        try simp only [Act.put, List.setIfInBounds_toArray, List.set_cons_zero, List.set_cons_succ]
        refine takeA (i := 4) (v := ?_) rfl (by kernel_rfl) (by kernel_rfl) (by kernel_rfl) (fun _ _ _ h => h) (by rfl) (by assumption) ?_ ?_
        rotate_left
        · intro w hSw; (try dsimp only at hSw); go_simp <;> with_reducible rfl
        try simp only [Act.put, List.setIfInBounds_toArray, List.set_cons_zero, List.set_cons_succ]
        refine stepA (i := 5) rfl (by kernel_rfl) (fun K0 hK0 => ?_)
        go_simp
        refine P6.out.mono ?_
        rintro e w7 ⟨hb7, rfl⟩
        have M7 := M6d.next hb7
        have KA := M7.keep (w.heap.size, 25, #[.slice A S.length c, .slice (some ad) V.length c']) (by simp)
        dsimp only
        refine hK0.out _ _ ⟨⟨bkA KA, (M7.below.cell (p := ad.add m) (by rw [addr_block]; exact hab)).trans hcv⟩, M7.below⟩ (fun hS7 => ?_)
        clear hK0 K0 hS M6d hb7 P6 KA
        try simp only [Act.put, List.setIfInBounds_toArray, List.set_cons_zero, List.set_cons_succ]
        refine takeA (i := 6) (v := ?_) rfl (by kernel_rfl) (by kernel_rfl) (by kernel_rfl) (fun _ _ _ h => h) (by rfl) (by assumption) ?_ ?_
        rotate_left
        · intro w hSw; (try dsimp only at hSw); go_simp <;> with_reducible rfl
        try simp only [Act.put, List.setIfInBounds_toArray, List.set_cons_zero, List.set_cons_succ]
        refine takeA (i := 7) (v := ?_) rfl (by kernel_rfl) (by kernel_rfl) (by kernel_rfl) (fun _ _ _ h => h) (by rfl) (by assumption) ?_ ?_
        rotate_left
        · intro w hSw; (try dsimp only at hSw); go_simp <;> with_reducible rfl
        try simp only [Act.put, List.setIfInBounds_toArray, List.set_cons_zero, List.set_cons_succ]
        refine takeA (i := 8) (v := ?_) rfl (by kernel_rfl) (by kernel_rfl) (by kernel_rfl) (fun _ _ _ h => h) (by rfl) (by assumption) ?_ ?_
        rotate_left
        · intro w hSw; (try dsimp only at hSw); go_simp <;> with_reducible rfl
        try simp only [Act.put, List.setIfInBounds_toArray, List.set_cons_zero, List.set_cons_succ]
        refine wpAnyH_done (by kernel_rfl) ?_ _
        clear hS7 hcv
        obtain ⟨b0, b1⟩ := bkA M7.box
        have MA := M7.alloc (.cells #[.string x] 9)
        have hown0 := MA.own
        rw [map_len] at hown0
        clear M7
        go_wp2_with (at_builtin; go_loud (refine wpL_append _ rfl (.tmp 58) (.tmp 60) _ rfl w4.heap.size 9 i0 _ 1 16 Tryz.underlying23 hi0 hz0 hz1 hz2 rfl (by omega) _ k _ rfl hown0 _ 1 1 [.string x] rfl rfl (Rd.of_new w7 [.string x] 9) (strs_one [x]) (by unfold maxLen; omega) (by omega) MA.size ?_; intro v1 w8 hown1 hg1 hat1; obtain ⟨vA, vc, rfl⟩ := own_formV hown1; have MM := MA.app (x := x) (by rw [map_len]; exact hown1) hg1; obtain ⟨g0, g1, gf⟩ := MM.facts; clear hown1 hg1 hat1 b0 b1 hown0))
        have MP := MM.put
        have e1 : (List.range k).map f ++ [x] = (List.range (k + 1)).map f := by rw [map_snoc, HFK.out]
        rw [e1] at MP
        go_roundw
        case rel => exact ⟨k + 1, _, by omega, by go_num, MP⟩
        case measure => simp [intOf]; omega
    · obtain rfl : k = N := by omega
      obtain ⟨b0, b1⟩ := bkA M.box
      have KR := M.keep (w.heap.size + 1, 25, #[.slice none 0 0, .slice none 0 0]) (by simp)
      obtain ⟨d0, d1⟩ := bkA KR
      have f0 := KR.frozen 0
      have f1 := KR.frozen 1
      have hA := M.isA
      have hb := M.below
      go_wp2
      refine bodyPost_ret (v := .tuple #[.agg #[.slice A9 T.length c9, .slice xA k xc], .int .i64 0]) (by simp [results, Tryz.results24, go_sem, d0, d1]) rfl ?_
      exact ⟨(hb.setCell (p := ⟨w.heap.size + 1, 0, none⟩) (by simp) _).setCell (p := ⟨w.heap.size + 1, 1, none⟩) (by simp) _, _, rfl, hA.ret d0 d1 _ _⟩
end Go.Proofs.YtgnffedncjjkfaaGreatDoor
