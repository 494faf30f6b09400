/-
  Walks: Resize, on both sides.
-/
import Derived.Test.YtgnffedncjjkfaaGreatDoorArxP
import Derived.Test.YtgnffedncjjkfaaGreatDoorArxP
namespace Go.Proofs.YtgnffedncjjkfaaGreatDoor
open Go.RowKit Ix Ar

theorem resAt_in {S : List Int} {V : List ByteArray} {v : ByteArray} {I : List Nat} (h : Inside (S.map Int.toNat) I) : resAt S V v I = V.getD (place (S.map Int.toNat) I) ⟨#[]⟩ := by unfold resAt; rw [if_pos h]
theorem resAt_out {S : List Int} {V : List ByteArray} {v : ByteArray} {I : List Nat} (h : ¬ Inside (S.map Int.toNat) I) : resAt S V v I = v := by unfold resAt; rw [if_neg h]
set_option maxRecDepth 100000 in
set_option maxHeartbeats 3200000 in
theorem resize1_any (S : List Int) (V : List ByteArray) (v : ByteArray) (I : List Nat) (ab vb fb g X B : Nat) (A A' : Option Addr) (c c' : Nat) (w : World) (hV : VS S) (hl : V.length = Ix.prod (S.map Int.toNat)) (hI : I.length = S.length)
    (h0 : w.cell? ⟨ab, 0, none⟩ = some (.slice A S.length c)) (h1 : w.cell? ⟨ab, 1, none⟩ = some (.slice A' V.length c')) (h2 : w.cell? ⟨vb, 0, none⟩ = some (.string v)) (h3 : w.cell? ⟨fb, 0, none⟩ = some (.slice (some ⟨g, 0, none⟩) S.length S.length))
    (hs : Rd w B A (zints S)) (hr' : Rd w B A' (strs V)) (hg : Rd w B (some ⟨g, 0, none⟩) (ints .i64 (strides (S.map Int.toNat)))) (hX : Bk w X 3 (ints .i64 I).toArray) :
    Calls Tryz.prog 79 #[.slice (some ⟨X, 0, none⟩) S.length S.length, .pointer (some ⟨ab, 0, none⟩), .pointer (some ⟨vb, 0, none⟩), .pointer (some ⟨fb, 0, none⟩)] w fun e w' => Below w.heap.size w w' ∧ e = .returned (.string (resAt S V v I)) := by
  have hl4 := hV.1
  obtain ⟨qf, hqf⟩ : ∃ b : Bool, b = true ↔ InI S (I.map Int.ofNat) := by classical exact ⟨decide _, decide_eq_true_iff⟩
  have hrX : Rd w w.heap.size (some ⟨X, 0, none⟩) (ints .i64 I) := by simpa using hX.rd
  have FF := Lib.hid (inside_any S (I.map Int.ofNat) A (some ⟨X, 0, none⟩) c S.length B w.heap.size w hs (by rw [zints_nat]; exact hrX) (by unfold maxLen; omega) qf hqf)
  rw [List.length_map, hI] at FF
  rw [inI_of (fun s h => (hV.2.1 s h).1)] at hqf
  cases hf : qf
  · have hni : ¬ Inside (S.map Int.toNat) I := fun h => by rw [hqf.2 h] at hf; cases hf
    rw [resAt_out hni]
    subst hf
    clear hqf hni hV hl hI hs hr' hg hX hrX
    go_enter Tryz.func79, Tryz.ntmps79
    go_wp2_with fail
    refine FF.out.mono ?_
    rintro e w' ⟨rfl, rfl⟩
    go_wp2
    go_ret
    exact ⟨Below.refl _ _, rfl⟩
  have hin := hqf.1 hf
  subst hf
  rw [resAt_in hin]
  have hpl := place_lt _ _ hin
  have hdot := dot_eq (S.map Int.toNat) I (by rw [List.length_map]; exact hI)
  have hp4 := hV.2.2
  have PL := Lib.hid (fun (W : World) (hW : Below w.heap.size w W) (h5 : Rd W B (some ⟨g, 0, none⟩) (ints .i64 (strides (S.map Int.toNat)))) =>
    place_any I (strides (S.map Int.toNat)) (some ⟨X, 0, none⟩) (some ⟨g, 0, none⟩) S.length S.length w.heap.size B W (by rw [hI, strides_len, List.length_map]) (by rw [hI]; exact hV.1) (by rw [hdot]; omega) (hrX.below hW) h5)
  rw [hdot, hI, strides_len, List.length_map] at PL
  obtain ⟨m, hm⟩ : ∃ m, m = place (S.map Int.toNat) I := ⟨_, rfl⟩
  rw [← hm] at PL hpl ⊢
  have hmV : m < V.length := by rw [hl]; exact hpl
  obtain ⟨ad, rfl, hadb, hcv⟩ := hr'.str hmV
  have hgv : V.getD m ⟨#[]⟩ = V[m] := by rw [List.getD_eq_getElem?_getD, List.getElem?_eq_getElem hmV]; rfl
  rw [hgv]
  generalize V[m] = x at *
  have i1 : (0 : Int) ≤ (m : Int) := by omega
  have i2 : (m : Int) < (V.length : Int) := by omega
  have HG := Lib.hid hg
  clear hqf hin hpl hdot hp4 hm hmV hgv hV hl hI hs hr' hg hX hrX
  go_enter Tryz.func79, Tryz.ntmps79
  go_wp2_with fail
  refine FF.out.mono ?_
  rintro e w' ⟨rfl, rfl⟩
  go_wp2_with fail
  refine wp_region_held_drew (S := fun Y => (Y.cell? ⟨ab, 1, none⟩ = some (.slice (some ad) V.length c') ∧ Y.cell? ⟨fb, 0, none⟩ = some (.slice (some ⟨g, 0, none⟩) S.length S.length) ∧ Y.cell? (ad.add m) = some (.string x)) ∧ Below w.heap.size w Y) (by kernel_rfl) ⟨⟨h1, h3, hcv⟩, (Below.refl w.heap.size w).drew⟩ (fun hS => ?_)
  refine takeA (i := 0) (v := ?_) rfl (by kernel_rfl) (by kernel_rfl) (by kernel_rfl) (fun _ _ _ h => h) (by rfl) (by assumption) ?_ ?_
  rotate_left
  · intro w hSw; (try dsimp only at hSw); go_simp <;> with_reducible rfl
  try simp only [Act.put, List.setIfInBounds_toArray, List.set_cons_zero, List.set_cons_succ]
  refine takeA (i := 1) (v := ?_) rfl (by kernel_rfl) (by kernel_rfl) (by kernel_rfl) (fun _ _ _ h => h) (by rfl) (by assumption) ?_ ?_
  rotate_left
  · intro w hSw; (try dsimp only at hSw); go_simp <;> with_reducible rfl
  try simp only [Act.put, List.setIfInBounds_toArray, List.set_cons_zero, List.set_cons_succ]
  refine takeA (i := 2) (v := ?_) rfl (by kernel_rfl) (by kernel_rfl) (by kernel_rfl) (fun _ _ _ h => h) (by rfl) (by assumption) ?_ ?_
  rotate_left
  · intro w hSw; (try dsimp only at hSw); go_simp <;> with_reducible rfl
  try simp only [Act.put, List.setIfInBounds_toArray, List.set_cons_zero, List.set_cons_succ]
  refine takeA (i := 3) (v := ?_) rfl (by kernel_rfl) (by kernel_rfl) (by kernel_rfl) (fun _ _ _ h => h) (by rfl) (by assumption) ?_ ?_
  rotate_left
  · intro w hSw; (try dsimp only at hSw); go_simp <;> with_reducible rfl
  try simp only [Act.put, List.setIfInBounds_toArray, List.set_cons_zero, List.set_cons_succ]
  refine stepA (i := 4) rfl (by kernel_rfl) (fun K0 hK0 => ?_)
  go_simp
  refine (PL.out w.drew hS.2 HG.out).mono ?_
  rintro e w' ⟨rfl, rfl⟩
  dsimp only
  refine hK0.out _ _ hS (fun _ => ?_)
  clear hK0 K0
  try simp only [Act.put, List.setIfInBounds_toArray, List.set_cons_zero, List.set_cons_succ]
  refine takeA (i := 5) (v := ?_) rfl (by kernel_rfl) (by kernel_rfl) (by kernel_rfl) (fun _ _ _ h => h) (by rfl) (by assumption) ?_ ?_
  rotate_left
  · intro w hSw; (try dsimp only at hSw); go_simp <;> with_reducible rfl
  try simp only [Act.put, List.setIfInBounds_toArray, List.set_cons_zero, List.set_cons_succ]
  refine takeA (i := 6) (v := ?_) rfl (by kernel_rfl) (by kernel_rfl) (by kernel_rfl) (fun _ _ _ h => h) (by rfl) (by assumption) ?_ ?_
  rotate_left
  · intro w hSw; (try dsimp only at hSw); go_simp <;> with_reducible rfl
  try simp only [Act.put, List.setIfInBounds_toArray, List.set_cons_zero, List.set_cons_succ]
  refine takeA (i := 7) (v := ?_) rfl (by kernel_rfl) (by kernel_rfl) (by kernel_rfl) (fun _ _ _ h => h) (by rfl) (by assumption) ?_ ?_
  rotate_left
  · intro w hSw; (try dsimp only at hSw); go_simp <;> with_reducible rfl
  try simp only [Act.put, List.setIfInBounds_toArray, List.set_cons_zero, List.set_cons_succ]
  refine wpAnyH_done (by kernel_rfl) ?_ _
  go_wp2
  go_ret
  exact ⟨hS.2, rfl⟩

set_option maxRecDepth 100000 in
set_option maxHeartbeats 6400000 in
theorem resize_any (a : Arr) (T : List Int) (v : ByteArray) (va vt : Value) (w : World) (ha : IsA w w.heap.size va a) (hT : IsI w w.heap.size vt T) (hi : InA a) (hTL : T.length ≤ maxLen) (hz : v.size ≤ 4000000) (he : Env w) :
    Calls Tryz.prog 23 #[va, vt, .string v] w fun e w' => Below w.heap.size w w' ∧ ∃ u, e = .returned (.tuple #[u, .int .i64 (resizeR a T v).2]) ∧ IsA w' w'.heap.size u (resizeR a T v).1 := by
  obtain ⟨A, c, A', c', rfl, hc, hc'⟩ := ha.form
  obtain ⟨At, ct, rfl, hct⟩ := hT.form
  have hha := ha
  obtain ⟨hS, hV⟩ := ha.parts
  obtain ⟨S, V⟩ := a
  simp only at hS hV hc hc'
  obtain ⟨qv, hqv⟩ : ∃ b : Bool, b = true ↔ VA (S, V) := by classical exact ⟨decide _, decide_eq_true_iff⟩
  obtain ⟨qs, hqs⟩ : ∃ b : Bool, b = true ↔ VS T := by classical exact ⟨decide _, decide_eq_true_iff⟩
  have VV := Lib.hid (fun W (hW : Below w.heap.size w W) => valid_any (S, V) (.agg #[.slice A S.length c, .slice A' V.length c']) W (hha.next hW) hi (he.next hW) qv hqv)
  have SS := Lib.hid (fun W (hW : Below w.heap.size w W) => validshape_any T At ct w.heap.size W (hT.rd.below hW) hTL qs hqs)
  have VL := Lib.hid (fun W (hW : Below w.heap.size w W) => value_any v W hz (he.next hW) (valB v) (valB_iff v))
  have B0 := BxW.start3 w 25 9 25 #[.slice A S.length c, .slice A' V.length c'] #[.string v] #[.slice none 0 0, .slice none 0 0]
  have i1 := hi.shape
  have i2 := hi.vals
  simp only at i2
  cases hv : qv
  · have hna : ¬ (VA (S, V) ∧ VS T) := fun h => by rw [hqv.2 h.1] at hv; cases hv
    rw [resizeR_shape hna]
    subst hv
    clear hqv hqs hna ha hha hT hS hV hi hz
    go_enter Tryz.func23, Tryz.ntmps23
    go_wp2_with fail
    generalize (((w.alloc (.cells #[.slice A S.length c, .slice A' V.length c'] 25)).alloc (.cells #[.string v] 9)).alloc (.cells #[.slice none 0 0, .slice none 0 0] 25)) = W0 at *
    refine (VV.out W0 B0.below).mono ?_
    rintro e w1 ⟨hb1, rfl⟩
    have B1 := B0.next hb1
    obtain ⟨d0, d1⟩ := bkA B1.three
    have f0 := B1.three.frozen 0
    have f1 := B1.three.frozen 1
    go_wp2
    refine bodyPost_ret (v := .tuple #[.agg #[.slice none 0 0, .slice none 0 0], .int .i64 60]) (by simp [results, Tryz.results23, go_sem, d0, d1]) rfl ?_
    exact ⟨(B1.below.setCell (p := ⟨w.heap.size + 2, 0, none⟩) (by simp) _).setCell (p := ⟨w.heap.size + 2, 1, none⟩) (by simp) _, _, rfl, IsA.zero _ _⟩
  have hva := hqv.1 hv
  subst hv
  cases hs : qs
  · have hna : ¬ (VA (S, V) ∧ VS T) := fun h => by rw [hqs.2 h.2] at hs; cases hs
    rw [resizeR_shape hna]
    subst hs
    clear hqv hqs hna ha hha hT hS hV hi hz hva
    go_enter Tryz.func23, Tryz.ntmps23
    go_wp2_with fail
    generalize (((w.alloc (.cells #[.slice A S.length c, .slice A' V.length c'] 25)).alloc (.cells #[.string v] 9)).alloc (.cells #[.slice none 0 0, .slice none 0 0] 25)) = W0 at *
    refine (VV.out W0 B0.below).mono ?_
    rintro e w1 ⟨hb1, rfl⟩
    have B1 := B0.next hb1
    go_wp2_with fail
    refine (SS.out w1 B1.below).mono ?_
    rintro e w' ⟨rfl, rfl⟩
    obtain ⟨d0, d1⟩ := bkA B1.three
    have f0 := B1.three.frozen 0
    have f1 := B1.three.frozen 1
    go_wp2
    refine bodyPost_ret (v := .tuple #[.agg #[.slice none 0 0, .slice none 0 0], .int .i64 60]) (by simp [results, Tryz.results23, go_sem, d0, d1]) rfl ?_
    exact ⟨(B1.below.setCell (p := ⟨w.heap.size + 2, 0, none⟩) (by simp) _).setCell (p := ⟨w.heap.size + 2, 1, none⟩) (by simp) _, _, rfl, IsA.zero _ _⟩
  have hTS := hqs.1 hs
  subst hs
  cases hy : valB v
  · have hna : ¬ IsVal v.data.toList := fun h => by rw [(valB_iff v).2 h] at hy; cases hy
    rw [resizeR_arg ⟨hva, hTS⟩ hna]
    rw [hy] at VL
    clear hqv hqs hna ha hha hT hS hV hi hz hva hTS hy
    go_enter Tryz.func23, Tryz.ntmps23
    go_wp2_with fail
    generalize (((w.alloc (.cells #[.slice A S.length c, .slice A' V.length c'] 25)).alloc (.cells #[.string v] 9)).alloc (.cells #[.slice none 0 0, .slice none 0 0] 25)) = W0 at *
    refine (VV.out W0 B0.below).mono ?_
    rintro e w1 ⟨hb1, rfl⟩
    have B1 := B0.next hb1
    go_wp2_with fail
    refine (SS.out w1 B1.below).mono ?_
    rintro e w' ⟨rfl, rfl⟩
    have s0 : _ = some (Value.string v) := B1.two.cell 0
    go_wp2_with fail
    refine (VL.out w1 B1.below).mono ?_
    rintro e w2 ⟨hb2, rfl⟩
    have B2 := B1.next hb2
    clear s0
    obtain ⟨d0, d1⟩ := bkA B2.three
    have f0 := B2.three.frozen 0
    have f1 := B2.three.frozen 1
    go_wp2
    refine bodyPost_ret (v := .tuple #[.agg #[.slice none 0 0, .slice none 0 0], .int .i64 2]) (by simp [results, Tryz.results23, go_sem, d0, d1]) rfl ?_
    exact ⟨(B2.below.setCell (p := ⟨w.heap.size + 2, 0, none⟩) (by simp) _).setCell (p := ⟨w.heap.size + 2, 1, none⟩) (by simp) _, _, rfl, IsA.zero _ _⟩
  have hya := (valB_iff v).1 hy
  rw [hy] at VL
  have hVS : VS S := hva.1
  have hS4 := hVS.1
  have hT4 := hTS.1
  by_cases hlen : T.length = S.length
  rotate_left
  · rw [resizeR_other ⟨hva, hTS⟩ hya hlen]
    have hne : ((T.length : Int) != (S.length : Int)) = true := by simp; omega
    clear hqv hqs ha hha hT hS hV hi hz hva hTS hy hya hVS hlen
    go_enter Tryz.func23, Tryz.ntmps23
    go_wp2_with fail
    generalize (((w.alloc (.cells #[.slice A S.length c, .slice A' V.length c'] 25)).alloc (.cells #[.string v] 9)).alloc (.cells #[.slice none 0 0, .slice none 0 0] 25)) = W0 at *
    refine (VV.out W0 B0.below).mono ?_
    rintro e w1 ⟨hb1, rfl⟩
    have B1 := B0.next hb1
    go_wp2_with fail
    refine (SS.out w1 B1.below).mono ?_
    rintro e w' ⟨rfl, rfl⟩
    have s0 : _ = some (Value.string v) := B1.two.cell 0
    go_wp2_with fail
    refine (VL.out w1 B1.below).mono ?_
    rintro e w2 ⟨hb2, rfl⟩
    have B2 := B1.next hb2
    clear s0
    obtain ⟨d0, d1⟩ := bkA B2.three
    have f0 := B2.three.frozen 0
    have f1 := B2.three.frozen 1
    obtain ⟨b0, b1⟩ := bkA B2.one
    go_wp2
    refine bodyPost_ret (v := .tuple #[.agg #[.slice none 0 0, .slice none 0 0], .int .i64 60]) (by simp [results, Tryz.results23, go_sem, d0, d1]) rfl ?_
    exact ⟨(B2.below.setCell (p := ⟨w.heap.size + 2, 0, none⟩) (by simp) _).setCell (p := ⟨w.heap.size + 2, 1, none⟩) (by simp) _, _, rfl, IsA.zero _ _⟩
  rw [resizeR_ok ⟨hva, hTS⟩ hya hlen]
  have hl : V.length = Ix.prod (S.map Int.toNat) := hva.2.1
  obtain ⟨M, hM⟩ : ∃ M, M = tab (T.map Int.toNat) (resAt S V v) := ⟨_, rfl⟩
  simp only
  rw [← hM]
  have ST := Lib.hid (fun W (hW : Below w.heap.size w W) => strides_any (S.map Int.toNat) A c W hVS.sz (by rw [← hVS.cells]; exact ((hS.below hW).more hW.size).rd))
  rw [List.length_map] at ST
  have HS := Lib.hid (fun W (hW : Below w.heap.size w W) => (hS.below hW).rd)
  have HV := Lib.hid (fun W (hW : Below w.heap.size w W) => (hV.below hW).rd)
  have HT := Lib.hid (fun W (hW : Below w.heap.size w W) => ((hT.below hW).more hW.size).rd)
  have HH := Lib.hid (And.intro hVS (And.intro hl (And.intro hlen hTS)))
  have HM := Lib.hid hM
  have hne : ((T.length : Int) != (S.length : Int)) = false := by simp; omega
  clear hqv hqs ha hha hT hS hV hi hz hva hTS hy hya hVS hlen hl hM
  go_enter Tryz.func23, Tryz.ntmps23
  go_wp2_with fail
  generalize (((w.alloc (.cells #[.slice A S.length c, .slice A' V.length c'] 25)).alloc (.cells #[.string v] 9)).alloc (.cells #[.slice none 0 0, .slice none 0 0] 25)) = W0 at *
  refine (VV.out W0 B0.below).mono ?_
  rintro e w1 ⟨hb1, rfl⟩
  have B1 := B0.next hb1
  go_wp2_with fail
  refine (SS.out w1 B1.below).mono ?_
  rintro e w' ⟨rfl, rfl⟩
  have s0 : _ = some (Value.string v) := B1.two.cell 0
  go_wp2_with fail
  refine (VL.out w1 B1.below).mono ?_
  rintro e w2 ⟨hb2, rfl⟩
  have B2 := B1.next hb2
  clear s0
  obtain ⟨b0, b1⟩ := bkA B2.one
  go_wp2_with fail
  refine (ST.out w2 B2.below).mono ?_
  rintro e w3 ⟨hb3, rfl, hg3⟩
  have B3 := B2.next hb3
  have hs3 : w2.heap.size < w3.heap.size := hg3.lt
  clear b0 b1
  have b3 := below_alloc w3 (.cells #[.slice (some ⟨w2.heap.size, 0, none⟩) S.length S.length] 22)
  have B4 := B3.next b3
  have k4 := Bk.new w3 22 #[Value.slice (some ⟨w2.heap.size, 0, none⟩) S.length S.length]
  have hg4 := hg3.next' b3
  have MK := Lib.hid (made_any T 79 #[.pointer (some ⟨w.heap.size, 0, none⟩), .pointer (some ⟨w.heap.size + 1, 0, none⟩), .pointer (some ⟨w3.heap.size, 0, none⟩)] (enters_of Tryz.func79 (by kernel_rfl) rfl)
    (fun k => resAt S V v (idx (T.map Int.toNat) k)) At ct (w3.alloc (.cells #[.slice (some ⟨w2.heap.size, 0, none⟩) S.length S.length] 22)) HH.out.2.2.2 (HT.out _ B4.below) (fun k X W hW hk hX hbX => by
      obtain ⟨j1, j2, j3, j4⟩ := HH.out
      have B6 := B4.next hW
      have hg6 := hg4.next' hW
      have k6 := k4.next' hW
      have hBW := B6.below
      obtain ⟨e0, e1⟩ := bkA B6.one
      rw [j3]
      exact (resize1_any S V v (idx (T.map Int.toNat) k) w.heap.size (w.heap.size + 1) w3.heap.size w2.heap.size X W.heap.size A A' c c' W j1 j2 (by rw [idx_len, List.length_map]; exact j3) e0 e1 (B6.two.cell 0) (k6.cell 0) ((HS.out W hBW).more hBW.size) ((HV.out W hBW).more hBW.size) (by simpa using hg6.rd) hbX).mono (fun e w' h => ⟨h.1, h.2⟩)))
  have HCL := Lib.hid (show (List.range (Ix.prod (T.map Int.toNat))).map (fun k => resAt S V v (idx (T.map Int.toNat) k)) = M from HM.out.symm)
  clear hg3 hg4 k4 hb3 hb1 hb2 B0 B1 B2
  go_wp2_with fail
  refine MK.out.mono ?_
  rintro e w6 ⟨hb6, v6, rfl, hv6⟩
  rw [HCL.out] at hv6
  have B6 := B4.next hb6
  clear MK HCL
  obtain ⟨A1, c1, A2, c2, rfl, hc1, hc2⟩ := hv6.form
  obtain ⟨d0, d1⟩ := bkA B6.three
  have f0 := B6.three.frozen 0
  have f1 := B6.three.frozen 1
  go_wp2
  refine bodyPost_ret (v := .tuple #[.agg #[.slice A1 T.length c1, .slice A2 M.length c2], .int .i64 0]) (by simp [results, Tryz.results23, go_sem, d0, d1]) rfl ?_
  exact ⟨(B6.below.setCell (p := ⟨w.heap.size + 2, 0, none⟩) (by simp) _).setCell (p := ⟨w.heap.size + 2, 1, none⟩) (by simp) _, _, rfl, hv6.ret d0 d1 _ _⟩
end Go.Proofs.YtgnffedncjjkfaaGreatDoor
