/-
  PROVED: the law ArrayEaches returns true for every input, and each argument reads behind the call as it did before (the tied card, no condition of its own: the package-level variables that its row lists hold at the start what the program's text lays).
-/
import Derived.Test.YtgnffedncjjkfaaGreatDoorFrmT
import Derived.Test.YtgnffedncjjkfaaGreatDoorEaB
namespace Go.Proofs.YtgnffedncjjkfaaGreatDoor
open Go.RowKit Ix Ar

noncomputable def eachF (op : Int) (V U : List ByteArray) (k : Nat) : ByteArray := opV op (V.getD k ⟨#[]⟩) (U.getD k ⟨#[]⟩)
/-- What Each says. -/
noncomputable def eachR (a b : Arr) (op : Int) : Arr × Int :=
  open Classical in if VA a ∧ VA b then (if 1 ≤ op ∧ op ≤ 10 then (if a.1 = b.1 then ((a.1, (List.range a.2.length).map (eachF op a.2 b.2)), 0) else (([], []), 60)) else (([], []), 2)) else (([], []), 60)
theorem eachR_bad {a b : Arr} {op : Int} (h : ¬ (VA a ∧ VA b)) : eachR a b op = (([], []), 60) := by unfold eachR; rw [if_neg h]
theorem eachR_arg {a b : Arr} {op : Int} (h : VA a ∧ VA b) (k : ¬ (1 ≤ op ∧ op ≤ 10)) : eachR a b op = (([], []), 2) := by unfold eachR; rw [if_pos h, if_neg k]
theorem eachR_shape {a b : Arr} {op : Int} (h : VA a ∧ VA b) (k : 1 ≤ op ∧ op ≤ 10) (l : a.1 ≠ b.1) : eachR a b op = (([], []), 60) := by unfold eachR; rw [if_pos h, if_pos k, if_neg l]
theorem eachR_ok {a b : Arr} {op : Int} (h : VA a ∧ VA b) (k : 1 ≤ op ∧ op ≤ 10) (l : a.1 = b.1) : eachR a b op = ((a.1, (List.range a.2.length).map (eachF op a.2 b.2)), 0) := by unfold eachR; rw [if_pos h, if_pos k, if_pos l]
theorem eachR_in {a b : Arr} {op : Int} (h : InA a) : (eachR a b op).1.1.length ≤ maxLen ∧ (eachR a b op).1.2.length ≤ maxLen := by
  by_cases h1 : VA a ∧ VA b
  · by_cases h2 : 1 ≤ op ∧ op ≤ 10
    · by_cases h3 : a.1 = b.1
      · rw [eachR_ok h1 h2 h3]
        refine ⟨h.shape, ?_⟩
        show ((List.range a.2.length).map (eachF op a.2 b.2)).length ≤ _
        rw [map_len]
        have := h.vals
        unfold maxLen
        omega
      · rw [eachR_shape h1 h2 h3]; exact ⟨Nat.zero_le _, Nat.zero_le _⟩
    · rw [eachR_arg h1 h2]; exact ⟨Nat.zero_le _, Nat.zero_le _⟩
  · rw [eachR_bad h1]; exact ⟨Nat.zero_le _, Nat.zero_le _⟩

section
variable {w W : World} {lo ob : Nat} {p : Bx} {ks : List Bx} {sv : Value} {S : List Int} {v : Value} {l : List ByteArray}
theorem AppAt.keep1 (h : AppAt w lo ob (p :: ks) sv S v l W) : Bk W p.1 p.2.1 p.2.2 := h.keep _ List.mem_cons_self
end

set_option maxRecDepth 100000 in
set_option maxHeartbeats 3200000 in
theorem each_any (a b : Arr) (op : Int) (va vb : Value) (w : World) (ha : IsA w w.heap.size va a) (hb : IsA w w.heap.size vb b) (hi : InA a) (hj : InA b) (he : Env w) (her : EnvR w) :
    Calls Tryz.prog 49 #[va, vb, .int .i64 op] w fun e w' => Below w.heap.size w w' ∧ ∃ u, e = .returned (.tuple #[u, .int .i64 (eachR a b op).2]) ∧ IsA w' w'.heap.size u (eachR a b op).1 := by
  obtain ⟨i0, hi0, hz0, hz1, hz2⟩ := info_parts Tryz.str_info
  obtain ⟨A, c, A', c', rfl, hc, hc'⟩ := ha.form
  obtain ⟨D, d, D', d', rfl, hd, hd'⟩ := hb.form
  have hha := ha
  have hhb := hb
  obtain ⟨hS, hV⟩ := ha.parts
  obtain ⟨hT, hU⟩ := hb.parts
  obtain ⟨S, V⟩ := a
  obtain ⟨T, U⟩ := b
  simp only at hS hV hT hU hc hc' hd hd' hha hhb
  obtain ⟨q1, hq1⟩ : ∃ b : Bool, b = true ↔ VA (S, V) := by classical exact ⟨decide _, decide_eq_true_iff⟩
  obtain ⟨q2, hq2⟩ : ∃ b : Bool, b = true ↔ VA (T, U) := by classical exact ⟨decide _, decide_eq_true_iff⟩
  obtain ⟨q3, hq3⟩ : ∃ b : Bool, b = true ↔ S = T := by classical exact ⟨decide _, decide_eq_true_iff⟩
  have V1 := Lib.hid (fun W (hW : Below w.heap.size w W) => valid_any (S, V) _ W (hha.next hW) hi (he.next hW) q1 hq1)
  have V2 := Lib.hid (fun W (hW : Below w.heap.size w W) => valid_any (T, U) _ W (hhb.next hW) hj (he.next hW) q2 hq2)
  have EQ := Lib.hid (fun W (hW : Below w.heap.size w W) => equalz_any S T A D c d w.heap.size w.heap.size W (hS.rd.below hW) (hT.rd.below hW) hW.size hW.size hi.shape q3 hq3)
  have B0 := BxW.start3 w 25 25 25 #[.slice A S.length c, .slice A' V.length c'] #[.slice D T.length d, .slice D' U.length d'] #[.slice none 0 0, .slice none 0 0]
  cases q1
  · rw [eachR_bad (fun h => by have := hq1.2 h.1; cases this)]
    clear hq1 hq2 hq3 V2 EQ
    clear hS hV hT hU ha hb hha hhb hi hj he her
    go_enter Tryz.func49, Tryz.ntmps49
    obtain ⟨b0, b1⟩ := bkA B0.one
    go_wp2_with fail
    generalize (((w.alloc (.cells #[.slice A S.length c, .slice A' V.length c'] 25)).alloc (.cells #[.slice D T.length d, .slice D' U.length d'] 25)).alloc (.cells #[.slice none 0 0, .slice none 0 0] 25)) = W0 at *
    refine (V1.out W0 B0.below).mono ?_
    rintro e w1 ⟨hb1, rfl⟩
    have B1 := B0.next hb1
    clear b0 b1 B0 hb1
    obtain ⟨e0, e1⟩ := bkA B1.three
    have f0 := B1.three.frozen 0
    have f1 := B1.three.frozen 1
    go_wp2
    refine bodyPost_ret (v := .tuple #[.agg #[.slice none 0 0, .slice none 0 0], .int .i64 60]) (by simp [results, Tryz.results49, go_sem, e0, e1]) rfl ?_
    exact ⟨(B1.below.setCell (p := ⟨w.heap.size + 2, 0, none⟩) (by simp) _).setCell (p := ⟨w.heap.size + 2, 1, none⟩) (by simp) _, _, rfl, IsA.zero _ _⟩
  cases q2
  · rw [eachR_bad (fun h => by have := hq2.2 h.2; cases this)]
    clear hq1 hq2 hq3 EQ
    clear hS hV hT hU ha hb hha hhb hi hj he her
    go_enter Tryz.func49, Tryz.ntmps49
    obtain ⟨b0, b1⟩ := bkA B0.one
    go_wp2_with fail
    generalize (((w.alloc (.cells #[.slice A S.length c, .slice A' V.length c'] 25)).alloc (.cells #[.slice D T.length d, .slice D' U.length d'] 25)).alloc (.cells #[.slice none 0 0, .slice none 0 0] 25)) = W0 at *
    refine (V1.out W0 B0.below).mono ?_
    rintro e w1 ⟨hb1, rfl⟩
    have B1 := B0.next hb1
    clear b0 b1 B0 hb1
    obtain ⟨b0, b1⟩ := bkA B1.two
    go_wp2_with fail
    refine (V2.out w1 B1.below).mono ?_
    rintro e w2 ⟨hb2, rfl⟩
    have B2 := B1.next hb2
    clear b0 b1 B1 hb2
    obtain ⟨e0, e1⟩ := bkA B2.three
    have f0 := B2.three.frozen 0
    have f1 := B2.three.frozen 1
    go_wp2
    refine bodyPost_ret (v := .tuple #[.agg #[.slice none 0 0, .slice none 0 0], .int .i64 60]) (by simp [results, Tryz.results49, go_sem, e0, e1]) rfl ?_
    exact ⟨(B2.below.setCell (p := ⟨w.heap.size + 2, 0, none⟩) (by simp) _).setCell (p := ⟨w.heap.size + 2, 1, none⟩) (by simp) _, _, rfl, IsA.zero _ _⟩
  have hVA := And.intro (hq1.1 rfl) (hq2.1 rfl)
  by_cases hop : 1 ≤ op ∧ op ≤ 10
  rotate_left
  · rw [eachR_arg hVA hop]
    clear hq1 hq2 hq3 EQ hVA
    clear hS hV hT hU ha hb hha hhb hi hj he her
    go_enter Tryz.func49, Tryz.ntmps49
    obtain ⟨b0, b1⟩ := bkA B0.one
    go_wp2_with fail
    generalize (((w.alloc (.cells #[.slice A S.length c, .slice A' V.length c'] 25)).alloc (.cells #[.slice D T.length d, .slice D' U.length d'] 25)).alloc (.cells #[.slice none 0 0, .slice none 0 0] 25)) = W0 at *
    refine (V1.out W0 B0.below).mono ?_
    rintro e w1 ⟨hb1, rfl⟩
    have B1 := B0.next hb1
    clear b0 b1 B0 hb1
    obtain ⟨b0, b1⟩ := bkA B1.two
    go_wp2_with fail
    refine (V2.out w1 B1.below).mono ?_
    rintro e w2 ⟨hb2, rfl⟩
    have B2 := B1.next hb2
    clear b0 b1 B1 hb2
    by_cases hlo : op < 1
    · skip
      obtain ⟨e0, e1⟩ := bkA B2.three
      have f0 := B2.three.frozen 0
      have f1 := B2.three.frozen 1
      go_wp2
      refine bodyPost_ret (v := .tuple #[.agg #[.slice none 0 0, .slice none 0 0], .int .i64 2]) (by simp [results, Tryz.results49, go_sem, e0, e1]) rfl ?_
      exact ⟨(B2.below.setCell (p := ⟨w.heap.size + 2, 0, none⟩) (by simp) _).setCell (p := ⟨w.heap.size + 2, 1, none⟩) (by simp) _, _, rfl, IsA.zero _ _⟩
    have hhi : 10 < op := by omega
    obtain ⟨e0, e1⟩ := bkA B2.three
    have f0 := B2.three.frozen 0
    have f1 := B2.three.frozen 1
    go_wp2
    refine bodyPost_ret (v := .tuple #[.agg #[.slice none 0 0, .slice none 0 0], .int .i64 2]) (by simp [results, Tryz.results49, go_sem, e0, e1]) rfl ?_
    exact ⟨(B2.below.setCell (p := ⟨w.heap.size + 2, 0, none⟩) (by simp) _).setCell (p := ⟨w.heap.size + 2, 1, none⟩) (by simp) _, _, rfl, IsA.zero _ _⟩
  cases q3
  · rw [eachR_shape hVA hop (fun h => by have := hq3.2 h; cases this)]
    obtain ⟨hop1, hop2⟩ := hop
    clear hq1 hq2 hq3 hVA
    clear hS hV hT hU ha hb hha hhb hi hj he her
    go_enter Tryz.func49, Tryz.ntmps49
    obtain ⟨b0, b1⟩ := bkA B0.one
    go_wp2_with fail
    generalize (((w.alloc (.cells #[.slice A S.length c, .slice A' V.length c'] 25)).alloc (.cells #[.slice D T.length d, .slice D' U.length d'] 25)).alloc (.cells #[.slice none 0 0, .slice none 0 0] 25)) = W0 at *
    refine (V1.out W0 B0.below).mono ?_
    rintro e w1 ⟨hb1, rfl⟩
    have B1 := B0.next hb1
    clear b0 b1 B0 hb1
    obtain ⟨b0, b1⟩ := bkA B1.two
    go_wp2_with fail
    refine (V2.out w1 B1.below).mono ?_
    rintro e w2 ⟨hb2, rfl⟩
    have B2 := B1.next hb2
    clear b0 b1 B1 hb2
    obtain ⟨b0, b1⟩ := bkA B2.one
    obtain ⟨p0, p1⟩ := bkA B2.two
    go_wp2_with fail
    refine (EQ.out w2 B2.below).mono ?_
    rintro e w3 ⟨hb3, rfl⟩
    have B3 := B2.next hb3
    clear b0 b1 p0 p1 B2 hb3
    obtain ⟨e0, e1⟩ := bkA B3.three
    have f0 := B3.three.frozen 0
    have f1 := B3.three.frozen 1
    go_wp2
    refine bodyPost_ret (v := .tuple #[.agg #[.slice none 0 0, .slice none 0 0], .int .i64 60]) (by simp [results, Tryz.results49, go_sem, e0, e1]) rfl ?_
    exact ⟨(B3.below.setCell (p := ⟨w.heap.size + 2, 0, none⟩) (by simp) _).setCell (p := ⟨w.heap.size + 2, 1, none⟩) (by simp) _, _, rfl, IsA.zero _ _⟩
  have hST := hq3.1 rfl
  subst hST
  have hS4 : S.length ≤ 4 := hVA.1.1.1
  have hUV : U.length = V.length := by rw [hVA.2.2.1, hVA.1.2.1]
  have hV4 : V.length ≤ 4096 := by rw [hVA.1.2.1]; exact hVA.1.1.2.2
  rw [eachR_ok hVA hop rfl]
  have CL := Lib.hid (fun W (hW : Below w.heap.size w W) => clonez_any A S.length c S W rfl (by omega) ((hS.next hW).rd))
  have HVE := Lib.hid (fun k (hk : k < V.length) => show ∃ ad, A' = some ad ∧ ad.block < w.heap.size ∧ w.cell? (ad.add k) = some (.string (V.getD k ⟨#[]⟩)) from by
    obtain ⟨ad, e1, e2, e3⟩ := hV.rd.str hk
    exact ⟨ad, e1, e2, by rw [e3, List.getD_eq_getElem?_getD, List.getElem?_eq_getElem hk]; rfl⟩)
  have HUE := Lib.hid (fun k (hk : k < V.length) => show ∃ ad, D' = some ad ∧ ad.block < w.heap.size ∧ w.cell? (ad.add k) = some (.string (U.getD k ⟨#[]⟩)) from by
    obtain ⟨ad, e1, e2, e3⟩ := hU.rd.str (j := k) (by omega)
    exact ⟨ad, e1, e2, by rw [e3, List.getD_eq_getElem?_getD, List.getElem?_eq_getElem (by omega)]; rfl⟩)
  have OP := Lib.hid (fun W (hW : Below w.heap.size w W) k => show Calls Tryz.prog 101 #[.int .i64 op, .string (V.getD k ⟨#[]⟩), .string (U.getD k ⟨#[]⟩)] W fun e W' => Below W.heap.size W W' ∧ e = .returned (.string (eachF op V U k)) from by
    have g : ∀ (L : List ByteArray), (∀ s ∈ L, s.size ≤ 4000000) → (L.getD k ⟨#[]⟩).size ≤ 4000000 := fun L hL => by
      rw [List.getD_eq_getElem?_getD]
      cases e : L[k]? with
      | none => decide
      | some y => exact hL _ (List.mem_of_getElem? e)
    have h1 := fun (_ : Unit) => g V hi.texts
    have h2 := fun (_ : Unit) => g U hj.texts
    exact poperate_any op _ _ W (h1 ()) (h2 ()) (he.next hW) (her.next hW) hop.1 hop.2)
  obtain ⟨N, hN⟩ : ∃ N, N = V.length := ⟨_, rfl⟩
  rw [hUV] at B0 V2 ⊢
  rw [← hN] at HVE HUE B0 hV4 V1 V2 ⊢
  generalize eachF op V U = f at *
  obtain ⟨hop1, hop2⟩ := hop
  clear hq1 hq2 hq3 hVA hUV
  clear hS hV hT hU ha hb hha hhb hi hj he her
  clear hN
  go_enter Tryz.func49, Tryz.ntmps49
  obtain ⟨b0, b1⟩ := bkA B0.one
  go_wp2_with fail
  generalize (((w.alloc (.cells #[.slice A S.length c, .slice A' N c'] 25)).alloc (.cells #[.slice D S.length d, .slice D' N d'] 25)).alloc (.cells #[.slice none 0 0, .slice none 0 0] 25)) = W0 at *
  refine (V1.out W0 B0.below).mono ?_
  rintro e w1 ⟨hb1, rfl⟩
  have B1 := B0.next hb1
  clear b0 b1 B0 hb1
  obtain ⟨b0, b1⟩ := bkA B1.two
  go_wp2_with fail
  refine (V2.out w1 B1.below).mono ?_
  rintro e w2 ⟨hb2, rfl⟩
  have B2 := B1.next hb2
  clear b0 b1 B1 hb2
  obtain ⟨b0, b1⟩ := bkA B2.one
  obtain ⟨p0, p1⟩ := bkA B2.two
  go_wp2_with fail
  refine (EQ.out w2 B2.below).mono ?_
  rintro e w3 ⟨hb3, rfl⟩
  have B3 := B2.next hb3
  clear b0 b1 p0 p1 B2 hb3
  obtain ⟨b0, b1⟩ := bkA B3.one
  go_wp2_with fail
  refine (CL.out w3 B3.below).mono ?_
  rintro e w4 ⟨hb4, v, rfl, hown⟩
  obtain ⟨g9, c9, rfl⟩ := own_formV hown
  have B4 := B3.next hb4
  have hI := IsI.of_own hown
  have hb5 := below_alloc w4 (.cells #[.slice g9 S.length c9, .slice none 0 0] 25)
  have B5 := B4.next hb5
  have hI5 := hI.next hb5
  have l1 := B4.one.lt
  have l2 := B4.two.lt
  have l3 := B4.three.lt
  have ko := Bk.new w4 25 #[Value.slice g9 S.length c9, .slice none 0 0]
  have M0 := AppAt.start (w := w) (ob := w4.heap.size) (ks := [(w.heap.size, 25, #[.slice A S.length c, .slice A' N c']), (w.heap.size + 1, 25, #[.slice D S.length d, .slice D' N d']), (w.heap.size + 2, 25, #[.slice none 0 0, .slice none 0 0])]) B5.below B5.keep ko hI5 B4.below.size (fun p hp => by
    simp at hp
    rcases hp with rfl | rfl | rfl
    · show w.heap.size ≠ w4.heap.size; simp only at l1; omega
    · show w.heap.size + 1 ≠ w4.heap.size; simp only at l2; omega
    · show w.heap.size + 2 ≠ w4.heap.size; simp only at l3; omega)
  clear hown hI hI5 hb5 hb4 B3 B4 l1 l2 l3 ko b0 b1 V1 V2 EQ CL
  obtain ⟨b0, b1⟩ := bkA B5.one
  go_wp2_with fail
  generalize w4.alloc (.cells #[.slice g9 S.length c9, .slice none 0 0] 25) = w5 at *
  generalize w4.heap.size = ob at *
  clear b0 b1 B5
  go_loopw [44] (fun i wr => ∃ (j : Nat) (x : Value), j ≤ N ∧ i = .int .i64 j ∧ AppAt w w5.heap.size ob [(w.heap.size, 25, #[.slice A S.length c, .slice A' N c']), (w.heap.size + 1, 25, #[.slice D S.length d, .slice D' N d']), (w.heap.size + 2, 25, #[.slice none 0 0, .slice none 0 0])] (.slice g9 S.length c9) S x ((List.range j).map f) wr) (fun i _ => N - (intOf i).toNat)
  case atStart => exact ⟨0, _, Nat.zero_le _, rfl, M0⟩
  case round =>
    clear M0
    obtain ⟨j, x, hj, rfl, M⟩ := hrel
    obtain ⟨xA, xc, rfl⟩ := own_formV M.own
    rw [map_len] at M
    by_cases hlt : j < N
    · obtain ⟨ad, rfl, hbv, hcv⟩ := HVE.out j hlt
      obtain ⟨adu, rfl, hbu, hcu⟩ := HUE.out j hlt
      have OPk := Lib.hid (fun W hW => OP.out W hW j)
      clear OP HVE HUE
      generalize V.getD j ⟨#[]⟩ = tv at *
      generalize U.getD j ⟨#[]⟩ = tu at *
      have FC := Lib.hid (fun W (hW : Below w.heap.size w W) => show W.cell? (ad.add j) = some (.string tv) ∧ W.cell? (adu.add j) = some (.string tu) from ⟨(hW.cell (p := ad.add j) (by rw [addr_block]; exact hbv)).trans hcv, (hW.cell (p := adu.add j) (by rw [addr_block]; exact hbu)).trans hcu⟩)
      clear hbv hcv hbu hcu
      have i0' : (0 : Int) ≤ (j : Int) := by omega
      have i1' : (j : Int) < (N : Int) := by omega
      obtain ⟨o0, o1⟩ := bkA M.box
      obtain ⟨a0, a1⟩ := bkA (M.keep (w.heap.size, 25, #[.slice A S.length c, .slice (some ad) N c']) (by simp))
      obtain ⟨p0, p1⟩ := bkA (M.keep (w.heap.size + 1, 25, #[.slice D S.length d, .slice (some adu) N d']) (by simp))
      obtain ⟨cv, cu⟩ := FC.out wr M.below
      go_wp2_with fail
      refine wp_region_M 13 (by kernel_rfl) (fun Y => (((Y.cell? ⟨ob, 0, none⟩ = some (.slice g9 S.length c9) ∧ Y.cell? ⟨ob, 1, none⟩ = some (.slice xA j xc)) ∧ Y.cell? ⟨w.heap.size, 1, none⟩ = some (.slice (some ad) N c')) ∧ Y.cell? ⟨w.heap.size + 1, 1, none⟩ = some (.slice (some adu) N d')) ∧ (Y.cell? (ad.add j) = some (.string tv) ∧ Y.cell? (adu.add j) = some (.string tu))) ⟨⟨⟨⟨o0, o1⟩, a1⟩, p1⟩, cv, cu⟩ (fun hS0 => ?_)
      clear o0 o1 a0 a1 p0 p1 cv cu
      have Md := M.drew
      clear M
      have HKA := Lib.hid (fun W (M : AppAt w w5.heap.size ob [(w.heap.size, 25, #[.slice A S.length c, .slice (some ad) N c']), (w.heap.size + 1, 25, #[.slice D S.length d, .slice (some adu) N d']), (w.heap.size + 2, 25, #[.slice none 0 0, .slice none 0 0])] (.slice g9 S.length c9) S (.slice xA j xc) ((List.range j).map f) W) => show (((W.cell? ⟨ob, 0, none⟩ = some (.slice g9 S.length c9) ∧ W.cell? ⟨ob, 1, none⟩ = some (.slice xA j xc)) ∧ W.cell? ⟨w.heap.size, 1, none⟩ = some (.slice (some ad) N c')) ∧ W.cell? ⟨w.heap.size + 1, 1, none⟩ = some (.slice (some adu) N d')) ∧ (W.cell? (ad.add j) = some (.string tv) ∧ W.cell? (adu.add j) = some (.string tu)) from
        ⟨⟨⟨bkA M.box, (bkA (M.keep (w.heap.size, 25, #[.slice A S.length c, .slice (some ad) N c']) (by simp))).2⟩, (bkA (M.keep (w.heap.size + 1, 25, #[.slice D S.length d, .slice (some adu) N d']) (by simp))).2⟩, FC.out W M.below⟩)
      generalize wr.drew = wd at *
      refine takeM (i := 0) (v := ?_) rfl (by kernel_rfl) (by decide) (by kernel_rfl) (by kernel_rfl) (by kernel_rfl) (fun _ _ _ h => h) (by rfl) (by assumption) ?_ ?_
      rotate_left
      · intro w hSw; (try dsimp only at hSw); go_simp <;> with_reducible rfl
      try simp only [Act.put, List.setIfInBounds_toArray, List.set_cons_zero, List.set_cons_succ]
      refine takeM (i := 1) (v := ?_) rfl (by kernel_rfl) (by decide) (by kernel_rfl) (by kernel_rfl) (by kernel_rfl) (fun _ _ _ h => h) (by rfl) (by assumption) ?_ ?_
      rotate_left
      · intro w hSw; (try dsimp only at hSw); go_simp <;> with_reducible rfl
      try simp only [Act.put, List.setIfInBounds_toArray, List.set_cons_zero, List.set_cons_succ]
      refine takeM (i := 2) (v := ?_) rfl (by kernel_rfl) (by decide) (by kernel_rfl) (by kernel_rfl) (by kernel_rfl) (fun _ _ _ h => h) (by rfl) (by assumption) ?_ ?_
      rotate_left
      · intro w hSw; (try dsimp only at hSw); go_simp <;> with_reducible rfl
      try simp only [Act.put, List.setIfInBounds_toArray, List.set_cons_zero, List.set_cons_succ]
      refine takeM (i := 3) (v := ?_) rfl (by kernel_rfl) (by decide) (by kernel_rfl) (by kernel_rfl) (by kernel_rfl) (fun _ _ _ h => h) (by rfl) (by assumption) ?_ ?_
      rotate_left
      · intro w hSw; (try dsimp only at hSw); go_simp <;> with_reducible rfl
      try simp only [Act.put, List.setIfInBounds_toArray, List.set_cons_zero, List.set_cons_succ]
      refine takeM (i := 4) (v := ?_) rfl (by kernel_rfl) (by decide) (by kernel_rfl) (by kernel_rfl) (by kernel_rfl) (fun _ _ _ h => h) (by rfl) (by assumption) ?_ ?_
      rotate_left
      · intro w hSw; (try dsimp only at hSw); go_simp <;> with_reducible rfl
      try simp only [Act.put, List.setIfInBounds_toArray, List.set_cons_zero, List.set_cons_succ]
      refine takeM (i := 5) (v := ?_) rfl (by kernel_rfl) (by decide) (by kernel_rfl) (by kernel_rfl) (by kernel_rfl) (fun _ _ _ h => h) (by rfl) (by assumption) ?_ ?_
      rotate_left
      · intro w hSw; (try dsimp only at hSw); go_simp <;> with_reducible rfl
      try simp only [Act.put, List.setIfInBounds_toArray, List.set_cons_zero, List.set_cons_succ]
      refine takeM (i := 6) (v := ?_) rfl (by kernel_rfl) (by decide) (by kernel_rfl) (by kernel_rfl) (by kernel_rfl) (fun _ _ _ h => h) (by rfl) (by assumption) ?_ ?_
      rotate_left
      · intro w hSw; (try dsimp only at hSw); go_simp <;> with_reducible rfl
      try simp only [Act.put, List.setIfInBounds_toArray, List.set_cons_zero, List.set_cons_succ]
      refine takeM (i := 7) (v := ?_) rfl (by kernel_rfl) (by decide) (by kernel_rfl) (by kernel_rfl) (by kernel_rfl) (fun _ _ _ h => h) (by rfl) (by assumption) ?_ ?_
      rotate_left
      · intro w hSw; (try dsimp only at hSw); go_simp <;> with_reducible rfl
      try simp only [Act.put, List.setIfInBounds_toArray, List.set_cons_zero, List.set_cons_succ]
      refine takeM (i := 8) (v := ?_) rfl (by kernel_rfl) (by decide) (by kernel_rfl) (by kernel_rfl) (by kernel_rfl) (fun _ _ _ h => h) (by rfl) (by assumption) ?_ ?_
      rotate_left
      · intro w hSw; (try dsimp only at hSw); go_simp <;> with_reducible rfl
      try simp only [Act.put, List.setIfInBounds_toArray, List.set_cons_zero, List.set_cons_succ]
      clear hS0
      refine stepM (i := 9) rfl (by kernel_rfl) (fun K0 hK0 => ?_)
      go_simp
      refine (OPk.out wd Md.below).mono ?_
      rintro e w9 ⟨hb9, rfl⟩
      have M9 := Md.next hb9
      have hS9 := HKA.out _ M9
      dsimp only
      refine hK0.out _ _ (fun _ => hS9) (fun _ => ?_)
      clear hK0 K0 Md hb9 OPk hS9
      try simp only [Act.put, List.setIfInBounds_toArray, List.set_cons_zero, List.set_cons_succ]
      generalize hfk : f j = tx at *
      have HFX := Lib.hid hfk
      clear hfk
      have MA := M9.alloc (.cells #[.string tx] 9)
      have hS8 := HKA.out _ MA
      refine stepM (i := 10) rfl (by kernel_rfl) (fun K0 hK0 => ?_)
      go_simp
      refine hK0.out _ _ (fun _ => hS8) (fun _ => ?_)
      clear hK0 K0 hS8
      try simp only [Act.put, List.setIfInBounds_toArray, List.set_cons_zero, List.set_cons_succ]
      have hown0 := MA.own
      rw [map_len] at hown0
      refine stepM (i := 11) rfl (by kernel_rfl) (fun K0 hK0 => ?_)
      rw [if_pos (by rfl)]
      refine step_append_own (.tmp 50) (.tmp 59) 23 rfl w5.heap.size 9 i0 (.string ⟨#[]⟩) 1 16 Tryz.underlying23 hi0 hz0 hz1 hz2 rfl (by omega) (.slice xA j xc) j _ (by rfl) hown0 ⟨w9.heap.size, 0, none⟩ 1 1 [.string tx] (by rfl) (by rfl) (new_str w9 _ tx) (strs_one [tx]) (by unfold maxLen; omega) (by omega) MA.size ?_
      intro v1 wB hown1 hg1
      obtain ⟨vA, vc, rfl⟩ := own_formV hown1
      have MM := MA.app (x := tx) (by rw [map_len]; exact hown1) hg1
      clear hown1 hg1 hown0 MA M9
      obtain ⟨g0, g1, gf⟩ := MM.facts
      have hS9 : (((wB.cell? ⟨ob, 0, none⟩ = some (.slice g9 S.length c9) ∧ wB.cell? ⟨ob, 1, none⟩ = some (.slice xA j xc)) ∧ wB.cell? ⟨w.heap.size, 1, none⟩ = some (.slice (some ad) N c')) ∧ wB.cell? ⟨w.heap.size + 1, 1, none⟩ = some (.slice (some adu) N d')) ∧ (wB.cell? (ad.add j) = some (.string tv) ∧ wB.cell? (adu.add j) = some (.string tu)) :=
        ⟨⟨⟨⟨g0, g1⟩, (bkA (MM.keep (w.heap.size, 25, #[.slice A S.length c, .slice (some ad) N c']) (by simp))).2⟩, (bkA (MM.keep (w.heap.size + 1, 25, #[.slice D S.length d, .slice (some adu) N d']) (by simp))).2⟩, FC.out wB MM.below⟩
      dsimp only
      refine hK0.out _ _ (fun _ => hS9) (fun _ => ?_)
      clear hK0 K0
      try simp only [Act.put, List.setIfInBounds_toArray, List.set_cons_zero, List.set_cons_succ]
      refine takeM (i := 12) (v := ?_) rfl (by kernel_rfl) (by decide) (by kernel_rfl) (by kernel_rfl) (by kernel_rfl) (fun _ _ _ h => h) (by rfl) (by assumption) ?_ ?_
      rotate_left
      · intro w hSw; (try dsimp only at hSw); go_simp <;> with_reducible rfl
      try simp only [Act.put, List.setIfInBounds_toArray, List.set_cons_zero, List.set_cons_succ]
      clear hS9
      refine stepM (i := 13) rfl (by kernel_rfl) (fun K0 hK0 => ?_)
      go_simp
      refine hK0.out _ _ (fun h => absurd rfl h) (fun _ => ?_)
      clear hK0 K0
      try simp only [Act.put, List.setIfInBounds_toArray, List.set_cons_zero, List.set_cons_succ]
      refine doneM (by kernel_rfl) ?_ _
      have MP := MM.put
      have e1 : (List.range j).map f ++ [tx] = (List.range (j + 1)).map f := by rw [map_snoc, HFX.out]
      rw [e1] at MP
      clear MM g0 g1 gf HKA FC
      go_wp2
      go_roundw
      case rel => exact ⟨j + 1, _, by omega, by go_num, MP⟩
      case measure => simp [intOf]; omega
    · obtain rfl : j = N := by omega
      have KR := M.keep (w.heap.size + 2, 25, #[.slice none 0 0, .slice none 0 0]) (by simp)
      obtain ⟨e0, e1⟩ := bkA KR
      have f0 := KR.frozen 0
      have f1 := KR.frozen 1
      obtain ⟨o0, o1⟩ := bkA M.box
      obtain ⟨a0, a1⟩ := bkA M.keep1
      have hA := M.isA
      have hb := M.below
      clear M KR OP HVE HUE
      go_wp2
      refine bodyPost_ret (v := .tuple #[.agg #[.slice g9 S.length c9, .slice xA j xc], .int .i64 0]) (by simp [results, Tryz.results49, go_sem, e0, e1]) rfl ?_
      exact ⟨(hb.setCell (p := ⟨w.heap.size + 2, 0, none⟩) (by simp) _).setCell (p := ⟨w.heap.size + 2, 1, none⟩) (by simp) _, _, rfl, hA.ret e0 e1 _ _⟩

set_option maxRecDepth 100000 in
set_option maxHeartbeats 3200000 in
theorem reach_any (a b : Arr) (op : Int) (va vb : Value) (w : World) (ha : IsA w w.heap.size va a) (hb : IsA w w.heap.size vb b) (hi : InA a) (hj : InA b) :
    Calls Tryz.prog 50 #[va, vb, .int .i64 op] w fun e w' => Below w.heap.size w w' ∧ ∃ u, e = .returned (.tuple #[u, .int .i64 (eachR a b op).2]) ∧ IsA w' w'.heap.size u (eachR a b op).1 := by
  obtain ⟨i0, hi0, hz0, hz1, hz2⟩ := info_parts Tryz.str_info
  obtain ⟨A, c, A', c', rfl, hc, hc'⟩ := ha.form
  obtain ⟨D, d, D', d', rfl, hd, hd'⟩ := hb.form
  have hha := ha
  have hhb := hb
  obtain ⟨hS, hV⟩ := ha.parts
  obtain ⟨hT, hU⟩ := hb.parts
  obtain ⟨S, V⟩ := a
  obtain ⟨T, U⟩ := b
  simp only at hS hV hT hU hc hc' hd hd' hha hhb
  obtain ⟨q1, hq1⟩ : ∃ b : Bool, b = true ↔ VA (S, V) := by classical exact ⟨decide _, decide_eq_true_iff⟩
  obtain ⟨q2, hq2⟩ : ∃ b : Bool, b = true ↔ VA (T, U) := by classical exact ⟨decide _, decide_eq_true_iff⟩
  obtain ⟨q3, hq3⟩ : ∃ b : Bool, b = true ↔ S = T := by classical exact ⟨decide _, decide_eq_true_iff⟩
  have V1 := Lib.hid (fun W (hW : Below w.heap.size w W) => rarr_any (S, V) _ W (hha.next hW) hi q1 hq1)
  have V2 := Lib.hid (fun W (hW : Below w.heap.size w W) => rarr_any (T, U) _ W (hhb.next hW) hj q2 hq2)
  have EQ := Lib.hid (fun W (hW : Below w.heap.size w W) => sameshape_any S T _ _ W (hS.next hW) (hT.next hW) hi.shape q3 hq3)
  have B0 := BxW.start3 w 25 25 25 #[.slice A S.length c, .slice A' V.length c'] #[.slice D T.length d, .slice D' U.length d'] #[.slice none 0 0, .slice none 0 0]
  cases q1
  · rw [eachR_bad (fun h => by have := hq1.2 h.1; cases this)]
    clear hq1 hq2 hq3 V2 EQ
    clear hS hV hT hU ha hb hha hhb hi hj
    go_enter Tryz.func50, Tryz.ntmps50
    obtain ⟨b0, b1⟩ := bkA B0.one
    go_wp2_with fail
    generalize (((w.alloc (.cells #[.slice A S.length c, .slice A' V.length c'] 25)).alloc (.cells #[.slice D T.length d, .slice D' U.length d'] 25)).alloc (.cells #[.slice none 0 0, .slice none 0 0] 25)) = W0 at *
    refine (V1.out W0 B0.below).mono ?_
    rintro e w1 ⟨hb1, rfl⟩
    have B1 := B0.next hb1
    clear b0 b1 B0 hb1
    obtain ⟨e0, e1⟩ := bkA B1.three
    have f0 := B1.three.frozen 0
    have f1 := B1.three.frozen 1
    go_wp2
    refine bodyPost_ret (v := .tuple #[.agg #[.slice none 0 0, .slice none 0 0], .int .i64 60]) (by simp [results, Tryz.results50, go_sem, e0, e1]) rfl ?_
    exact ⟨(B1.below.setCell (p := ⟨w.heap.size + 2, 0, none⟩) (by simp) _).setCell (p := ⟨w.heap.size + 2, 1, none⟩) (by simp) _, _, rfl, IsA.zero _ _⟩
  cases q2
  · rw [eachR_bad (fun h => by have := hq2.2 h.2; cases this)]
    clear hq1 hq2 hq3 EQ
    clear hS hV hT hU ha hb hha hhb hi hj
    go_enter Tryz.func50, Tryz.ntmps50
    obtain ⟨b0, b1⟩ := bkA B0.one
    go_wp2_with fail
    generalize (((w.alloc (.cells #[.slice A S.length c, .slice A' V.length c'] 25)).alloc (.cells #[.slice D T.length d, .slice D' U.length d'] 25)).alloc (.cells #[.slice none 0 0, .slice none 0 0] 25)) = W0 at *
    refine (V1.out W0 B0.below).mono ?_
    rintro e w1 ⟨hb1, rfl⟩
    have B1 := B0.next hb1
    clear b0 b1 B0 hb1
    obtain ⟨b0, b1⟩ := bkA B1.two
    go_wp2_with fail
    refine (V2.out w1 B1.below).mono ?_
    rintro e w2 ⟨hb2, rfl⟩
    have B2 := B1.next hb2
    clear b0 b1 B1 hb2
    obtain ⟨e0, e1⟩ := bkA B2.three
    have f0 := B2.three.frozen 0
    have f1 := B2.three.frozen 1
    go_wp2
    refine bodyPost_ret (v := .tuple #[.agg #[.slice none 0 0, .slice none 0 0], .int .i64 60]) (by simp [results, Tryz.results50, go_sem, e0, e1]) rfl ?_
    exact ⟨(B2.below.setCell (p := ⟨w.heap.size + 2, 0, none⟩) (by simp) _).setCell (p := ⟨w.heap.size + 2, 1, none⟩) (by simp) _, _, rfl, IsA.zero _ _⟩
  have hVA := And.intro (hq1.1 rfl) (hq2.1 rfl)
  by_cases hop : 1 ≤ op ∧ op ≤ 10
  rotate_left
  · rw [eachR_arg hVA hop]
    clear hq1 hq2 hq3 EQ hVA
    clear hS hV hT hU ha hb hha hhb hi hj
    go_enter Tryz.func50, Tryz.ntmps50
    obtain ⟨b0, b1⟩ := bkA B0.one
    go_wp2_with fail
    generalize (((w.alloc (.cells #[.slice A S.length c, .slice A' V.length c'] 25)).alloc (.cells #[.slice D T.length d, .slice D' U.length d'] 25)).alloc (.cells #[.slice none 0 0, .slice none 0 0] 25)) = W0 at *
    refine (V1.out W0 B0.below).mono ?_
    rintro e w1 ⟨hb1, rfl⟩
    have B1 := B0.next hb1
    clear b0 b1 B0 hb1
    obtain ⟨b0, b1⟩ := bkA B1.two
    go_wp2_with fail
    refine (V2.out w1 B1.below).mono ?_
    rintro e w2 ⟨hb2, rfl⟩
    have B2 := B1.next hb2
    clear b0 b1 B1 hb2
    by_cases hlo : op < 1
    · skip
      obtain ⟨e0, e1⟩ := bkA B2.three
      have f0 := B2.three.frozen 0
      have f1 := B2.three.frozen 1
      go_wp2
      refine bodyPost_ret (v := .tuple #[.agg #[.slice none 0 0, .slice none 0 0], .int .i64 2]) (by simp [results, Tryz.results50, go_sem, e0, e1]) rfl ?_
      exact ⟨(B2.below.setCell (p := ⟨w.heap.size + 2, 0, none⟩) (by simp) _).setCell (p := ⟨w.heap.size + 2, 1, none⟩) (by simp) _, _, rfl, IsA.zero _ _⟩
    have hhi : 10 < op := by omega
    obtain ⟨e0, e1⟩ := bkA B2.three
    have f0 := B2.three.frozen 0
    have f1 := B2.three.frozen 1
    go_wp2
    refine bodyPost_ret (v := .tuple #[.agg #[.slice none 0 0, .slice none 0 0], .int .i64 2]) (by simp [results, Tryz.results50, go_sem, e0, e1]) rfl ?_
    exact ⟨(B2.below.setCell (p := ⟨w.heap.size + 2, 0, none⟩) (by simp) _).setCell (p := ⟨w.heap.size + 2, 1, none⟩) (by simp) _, _, rfl, IsA.zero _ _⟩
  cases q3
  · rw [eachR_shape hVA hop (fun h => by have := hq3.2 h; cases this)]
    obtain ⟨hop1, hop2⟩ := hop
    clear hq1 hq2 hq3 hVA
    clear hS hV hT hU ha hb hha hhb hi hj
    go_enter Tryz.func50, Tryz.ntmps50
    obtain ⟨b0, b1⟩ := bkA B0.one
    go_wp2_with fail
    generalize (((w.alloc (.cells #[.slice A S.length c, .slice A' V.length c'] 25)).alloc (.cells #[.slice D T.length d, .slice D' U.length d'] 25)).alloc (.cells #[.slice none 0 0, .slice none 0 0] 25)) = W0 at *
    refine (V1.out W0 B0.below).mono ?_
    rintro e w1 ⟨hb1, rfl⟩
    have B1 := B0.next hb1
    clear b0 b1 B0 hb1
    obtain ⟨b0, b1⟩ := bkA B1.two
    go_wp2_with fail
    refine (V2.out w1 B1.below).mono ?_
    rintro e w2 ⟨hb2, rfl⟩
    have B2 := B1.next hb2
    clear b0 b1 B1 hb2
    obtain ⟨b0, b1⟩ := bkA B2.one
    obtain ⟨p0, p1⟩ := bkA B2.two
    go_wp2_with fail
    refine (EQ.out w2 B2.below).mono ?_
    rintro e w3 ⟨hb3, rfl⟩
    have B3 := B2.next hb3
    clear b0 b1 p0 p1 B2 hb3
    obtain ⟨e0, e1⟩ := bkA B3.three
    have f0 := B3.three.frozen 0
    have f1 := B3.three.frozen 1
    go_wp2
    refine bodyPost_ret (v := .tuple #[.agg #[.slice none 0 0, .slice none 0 0], .int .i64 60]) (by simp [results, Tryz.results50, go_sem, e0, e1]) rfl ?_
    exact ⟨(B3.below.setCell (p := ⟨w.heap.size + 2, 0, none⟩) (by simp) _).setCell (p := ⟨w.heap.size + 2, 1, none⟩) (by simp) _, _, rfl, IsA.zero _ _⟩
  have hST := hq3.1 rfl
  subst hST
  have hS4 : S.length ≤ 4 := hVA.1.1.1
  have hUV : U.length = V.length := by rw [hVA.2.2.1, hVA.1.2.1]
  have hV4 : V.length ≤ 4096 := by rw [hVA.1.2.1]; exact hVA.1.1.2.2
  rw [eachR_ok hVA hop rfl]
  have CL := Lib.hid (fun W (hW : Below w.heap.size w W) => copied_any A S.length c S W rfl (by omega) ((hS.next hW).rd))
  have HVE := Lib.hid (fun k (hk : k < V.length) => show ∃ ad, A' = some ad ∧ ad.block < w.heap.size ∧ w.cell? (ad.add k) = some (.string (V.getD k ⟨#[]⟩)) from by
    obtain ⟨ad, e1, e2, e3⟩ := hV.rd.str hk
    exact ⟨ad, e1, e2, by rw [e3, List.getD_eq_getElem?_getD, List.getElem?_eq_getElem hk]; rfl⟩)
  have HUE := Lib.hid (fun k (hk : k < V.length) => show ∃ ad, D' = some ad ∧ ad.block < w.heap.size ∧ w.cell? (ad.add k) = some (.string (U.getD k ⟨#[]⟩)) from by
    obtain ⟨ad, e1, e2, e3⟩ := hU.rd.str (j := k) (by omega)
    exact ⟨ad, e1, e2, by rw [e3, List.getD_eq_getElem?_getD, List.getElem?_eq_getElem (by omega)]; rfl⟩)
  have OP := Lib.hid (fun W (hW : Below w.heap.size w W) k => show Calls Tryz.prog 102 #[.int .i64 op, .string (V.getD k ⟨#[]⟩), .string (U.getD k ⟨#[]⟩)] W fun e W' => Below W.heap.size W W' ∧ e = .returned (.string (eachF op V U k)) from by
    have g : ∀ (L : List ByteArray), (∀ s ∈ L, s.size ≤ 4000000) → (L.getD k ⟨#[]⟩).size ≤ 4000000 := fun L hL => by
      rw [List.getD_eq_getElem?_getD]
      cases e : L[k]? with
      | none => decide
      | some y => exact hL _ (List.mem_of_getElem? e)
    have h1 := fun (_ : Unit) => g V hi.texts
    have h2 := fun (_ : Unit) => g U hj.texts
    exact roperation_any op _ _ W (h1 ()) (h2 ()) hop.1 hop.2)
  obtain ⟨N, hN⟩ : ∃ N, N = V.length := ⟨_, rfl⟩
  rw [hUV] at B0 V2 ⊢
  rw [← hN] at HVE HUE B0 hV4 V1 V2 ⊢
  generalize eachF op V U = f at *
  obtain ⟨hop1, hop2⟩ := hop
  clear hq1 hq2 hq3 hVA hUV
  clear hS hV hT hU ha hb hha hhb hi hj
  clear hN
  go_enter Tryz.func50, Tryz.ntmps50
  obtain ⟨b0, b1⟩ := bkA B0.one
  go_wp2_with fail
  generalize (((w.alloc (.cells #[.slice A S.length c, .slice A' N c'] 25)).alloc (.cells #[.slice D S.length d, .slice D' N d'] 25)).alloc (.cells #[.slice none 0 0, .slice none 0 0] 25)) = W0 at *
  refine (V1.out W0 B0.below).mono ?_
  rintro e w1 ⟨hb1, rfl⟩
  have B1 := B0.next hb1
  clear b0 b1 B0 hb1
  obtain ⟨b0, b1⟩ := bkA B1.two
  go_wp2_with fail
  refine (V2.out w1 B1.below).mono ?_
  rintro e w2 ⟨hb2, rfl⟩
  have B2 := B1.next hb2
  clear b0 b1 B1 hb2
  obtain ⟨b0, b1⟩ := bkA B2.one
  obtain ⟨p0, p1⟩ := bkA B2.two
  go_wp2_with fail
  refine (EQ.out w2 B2.below).mono ?_
  rintro e w3 ⟨hb3, rfl⟩
  have B3 := B2.next hb3
  clear b0 b1 p0 p1 B2 hb3
  obtain ⟨b0, b1⟩ := bkA B3.one
  go_wp2_with fail
  refine (CL.out w3 B3.below).mono ?_
  rintro e w4 ⟨hb4, v, rfl, hown⟩
  obtain ⟨g9, c9, rfl⟩ := own_formV hown
  have B4 := B3.next hb4
  have hI := IsI.of_own hown
  have hb5 := below_alloc w4 (.cells #[.slice g9 S.length c9, .slice none 0 0] 25)
  have B5 := B4.next hb5
  have hI5 := hI.next hb5
  have l1 := B4.one.lt
  have l2 := B4.two.lt
  have l3 := B4.three.lt
  have ko := Bk.new w4 25 #[Value.slice g9 S.length c9, .slice none 0 0]
  have M0 := AppAt.start (w := w) (ob := w4.heap.size) (ks := [(w.heap.size, 25, #[.slice A S.length c, .slice A' N c']), (w.heap.size + 1, 25, #[.slice D S.length d, .slice D' N d']), (w.heap.size + 2, 25, #[.slice none 0 0, .slice none 0 0])]) B5.below B5.keep ko hI5 B4.below.size (fun p hp => by
    simp at hp
    rcases hp with rfl | rfl | rfl
    · show w.heap.size ≠ w4.heap.size; simp only at l1; omega
    · show w.heap.size + 1 ≠ w4.heap.size; simp only at l2; omega
    · show w.heap.size + 2 ≠ w4.heap.size; simp only at l3; omega)
  clear hown hI hI5 hb5 hb4 B3 B4 l1 l2 l3 ko b0 b1 V1 V2 EQ CL
  obtain ⟨b0, b1⟩ := bkA B5.one
  go_wp2_with fail
  generalize w4.alloc (.cells #[.slice g9 S.length c9, .slice none 0 0] 25) = w5 at *
  generalize w4.heap.size = ob at *
  clear b0 b1 B5
  go_loopw [9] (fun i wr => ∃ (j : Nat) (x : Value), j ≤ N ∧ i = .int .i64 j ∧ AppAt w w5.heap.size ob [(w.heap.size, 25, #[.slice A S.length c, .slice A' N c']), (w.heap.size + 1, 25, #[.slice D S.length d, .slice D' N d']), (w.heap.size + 2, 25, #[.slice none 0 0, .slice none 0 0])] (.slice g9 S.length c9) S x ((List.range j).map f) wr) (fun i _ => N - (intOf i).toNat)
  case atStart => exact ⟨0, _, Nat.zero_le _, rfl, M0⟩
  case round =>
    clear M0
    obtain ⟨j, x, hj, rfl, M⟩ := hrel
    obtain ⟨xA, xc, rfl⟩ := own_formV M.own
    rw [map_len] at M
    by_cases hlt : j < N
    · obtain ⟨ad, rfl, hbv, hcv⟩ := HVE.out j hlt
      obtain ⟨adu, rfl, hbu, hcu⟩ := HUE.out j hlt
      have OPk := Lib.hid (fun W hW => OP.out W hW j)
      clear OP HVE HUE
      generalize V.getD j ⟨#[]⟩ = tv at *
      generalize U.getD j ⟨#[]⟩ = tu at *
      have FC := Lib.hid (fun W (hW : Below w.heap.size w W) => show W.cell? (ad.add j) = some (.string tv) ∧ W.cell? (adu.add j) = some (.string tu) from ⟨(hW.cell (p := ad.add j) (by rw [addr_block]; exact hbv)).trans hcv, (hW.cell (p := adu.add j) (by rw [addr_block]; exact hbu)).trans hcu⟩)
      clear hbv hcv hbu hcu
      have i0' : (0 : Int) ≤ (j : Int) := by omega
      have i1' : (j : Int) < (N : Int) := by omega
      obtain ⟨o0, o1⟩ := bkA M.box
      obtain ⟨a0, a1⟩ := bkA (M.keep (w.heap.size, 25, #[.slice A S.length c, .slice (some ad) N c']) (by simp))
      obtain ⟨p0, p1⟩ := bkA (M.keep (w.heap.size + 1, 25, #[.slice D S.length d, .slice (some adu) N d']) (by simp))
      obtain ⟨cv, cu⟩ := FC.out wr M.below
      go_wp2_with fail
      refine wp_region_M 17 (by kernel_rfl) (fun Y => (((Y.cell? ⟨ob, 0, none⟩ = some (.slice g9 S.length c9) ∧ Y.cell? ⟨ob, 1, none⟩ = some (.slice xA j xc)) ∧ Y.cell? ⟨w.heap.size, 1, none⟩ = some (.slice (some ad) N c')) ∧ Y.cell? ⟨w.heap.size + 1, 1, none⟩ = some (.slice (some adu) N d')) ∧ (Y.cell? (ad.add j) = some (.string tv) ∧ Y.cell? (adu.add j) = some (.string tu))) ⟨⟨⟨⟨o0, o1⟩, a1⟩, p1⟩, cv, cu⟩ (fun hS0 => ?_)
      clear o0 o1 a0 a1 p0 p1 cv cu
      have Md := M.drew
      clear M
      have HKA := Lib.hid (fun W (M : AppAt w w5.heap.size ob [(w.heap.size, 25, #[.slice A S.length c, .slice (some ad) N c']), (w.heap.size + 1, 25, #[.slice D S.length d, .slice (some adu) N d']), (w.heap.size + 2, 25, #[.slice none 0 0, .slice none 0 0])] (.slice g9 S.length c9) S (.slice xA j xc) ((List.range j).map f) W) => show (((W.cell? ⟨ob, 0, none⟩ = some (.slice g9 S.length c9) ∧ W.cell? ⟨ob, 1, none⟩ = some (.slice xA j xc)) ∧ W.cell? ⟨w.heap.size, 1, none⟩ = some (.slice (some ad) N c')) ∧ W.cell? ⟨w.heap.size + 1, 1, none⟩ = some (.slice (some adu) N d')) ∧ (W.cell? (ad.add j) = some (.string tv) ∧ W.cell? (adu.add j) = some (.string tu)) from
        ⟨⟨⟨bkA M.box, (bkA (M.keep (w.heap.size, 25, #[.slice A S.length c, .slice (some ad) N c']) (by simp))).2⟩, (bkA (M.keep (w.heap.size + 1, 25, #[.slice D S.length d, .slice (some adu) N d']) (by simp))).2⟩, FC.out W M.below⟩)
      generalize wr.drew = wd at *
      refine takeM (i := 0) (v := ?_) rfl (by kernel_rfl) (by decide) (by kernel_rfl) (by kernel_rfl) (by kernel_rfl) (fun _ _ _ h => h) (by rfl) (by assumption) ?_ ?_
      rotate_left
      · intro w hSw; (try dsimp only at hSw); go_simp <;> with_reducible rfl
      try simp only [Act.put, List.setIfInBounds_toArray, List.set_cons_zero, List.set_cons_succ]
      refine takeM (i := 1) (v := ?_) rfl (by kernel_rfl) (by decide) (by kernel_rfl) (by kernel_rfl) (by kernel_rfl) (fun _ _ _ h => h) (by rfl) (by assumption) ?_ ?_
      rotate_left
      · intro w hSw; (try dsimp only at hSw); go_simp <;> with_reducible rfl
      try simp only [Act.put, List.setIfInBounds_toArray, List.set_cons_zero, List.set_cons_succ]
      refine takeM (i := 2) (v := ?_) rfl (by kernel_rfl) (by decide) (by kernel_rfl) (by kernel_rfl) (by kernel_rfl) (fun _ _ _ h => h) (by rfl) (by assumption) ?_ ?_
      rotate_left
      · intro w hSw; (try dsimp only at hSw); go_simp <;> with_reducible rfl
      try simp only [Act.put, List.setIfInBounds_toArray, List.set_cons_zero, List.set_cons_succ]
      refine takeM (i := 3) (v := ?_) rfl (by kernel_rfl) (by decide) (by kernel_rfl) (by kernel_rfl) (by kernel_rfl) (fun _ _ _ h => h) (by rfl) (by assumption) ?_ ?_
      rotate_left
      · intro w hSw; (try dsimp only at hSw); go_simp <;> with_reducible rfl
      try simp only [Act.put, List.setIfInBounds_toArray, List.set_cons_zero, List.set_cons_succ]
      refine takeM (i := 4) (v := ?_) rfl (by kernel_rfl) (by decide) (by kernel_rfl) (by kernel_rfl) (by kernel_rfl) (fun _ _ _ h => h) (by rfl) (by assumption) ?_ ?_
      rotate_left
      · intro w hSw; (try dsimp only at hSw); go_simp <;> with_reducible rfl
      try simp only [Act.put, List.setIfInBounds_toArray, List.set_cons_zero, List.set_cons_succ]
      refine takeM (i := 5) (v := ?_) rfl (by kernel_rfl) (by decide) (by kernel_rfl) (by kernel_rfl) (by kernel_rfl) (fun _ _ _ h => h) (by rfl) (by assumption) ?_ ?_
      rotate_left
      · intro w hSw; (try dsimp only at hSw); go_simp <;> with_reducible rfl
      try simp only [Act.put, List.setIfInBounds_toArray, List.set_cons_zero, List.set_cons_succ]
      refine takeM (i := 6) (v := ?_) rfl (by kernel_rfl) (by decide) (by kernel_rfl) (by kernel_rfl) (by kernel_rfl) (fun _ _ _ h => h) (by rfl) (by assumption) ?_ ?_
      rotate_left
      · intro w hSw; (try dsimp only at hSw); go_simp <;> with_reducible rfl
      try simp only [Act.put, List.setIfInBounds_toArray, List.set_cons_zero, List.set_cons_succ]
      refine takeM (i := 7) (v := ?_) rfl (by kernel_rfl) (by decide) (by kernel_rfl) (by kernel_rfl) (by kernel_rfl) (fun _ _ _ h => h) (by rfl) (by assumption) ?_ ?_
      rotate_left
      · intro w hSw; (try dsimp only at hSw); go_simp <;> with_reducible rfl
      try simp only [Act.put, List.setIfInBounds_toArray, List.set_cons_zero, List.set_cons_succ]
      refine takeM (i := 8) (v := ?_) rfl (by kernel_rfl) (by decide) (by kernel_rfl) (by kernel_rfl) (by kernel_rfl) (fun _ _ _ h => h) (by rfl) (by assumption) ?_ ?_
      rotate_left
      · intro w hSw; (try dsimp only at hSw); go_simp <;> with_reducible rfl
      try simp only [Act.put, List.setIfInBounds_toArray, List.set_cons_zero, List.set_cons_succ]
      refine takeM (i := 9) (v := ?_) rfl (by kernel_rfl) (by decide) (by kernel_rfl) (by kernel_rfl) (by kernel_rfl) (fun _ _ _ h => h) (by rfl) (by assumption) ?_ ?_
      rotate_left
      · intro w hSw; (try dsimp only at hSw); go_simp <;> with_reducible rfl
      try simp only [Act.put, List.setIfInBounds_toArray, List.set_cons_zero, List.set_cons_succ]
      refine takeM (i := 10) (v := ?_) rfl (by kernel_rfl) (by decide) (by kernel_rfl) (by kernel_rfl) (by kernel_rfl) (fun _ _ _ h => h) (by rfl) (by assumption) ?_ ?_
      rotate_left
      · intro w hSw; (try dsimp only at hSw); go_simp <;> with_reducible rfl
      try simp only [Act.put, List.setIfInBounds_toArray, List.set_cons_zero, List.set_cons_succ]
      refine takeM (i := 11) (v := ?_) rfl (by kernel_rfl) (by decide) (by kernel_rfl) (by kernel_rfl) (by kernel_rfl) (fun _ _ _ h => h) (by rfl) (by assumption) ?_ ?_
      rotate_left
      · intro w hSw; (try dsimp only at hSw); go_simp <;> with_reducible rfl
      try simp only [Act.put, List.setIfInBounds_toArray, List.set_cons_zero, List.set_cons_succ]
      refine takeM (i := 12) (v := ?_) rfl (by kernel_rfl) (by decide) (by kernel_rfl) (by kernel_rfl) (by kernel_rfl) (fun _ _ _ h => h) (by rfl) (by assumption) ?_ ?_
      rotate_left
      · intro w hSw; (try dsimp only at hSw); go_simp <;> with_reducible rfl
      try simp only [Act.put, List.setIfInBounds_toArray, List.set_cons_zero, List.set_cons_succ]
      clear hS0
      refine stepM (i := 13) rfl (by kernel_rfl) (fun K0 hK0 => ?_)
      go_simp
      refine (OPk.out wd Md.below).mono ?_
      rintro e w9 ⟨hb9, rfl⟩
      have M9 := Md.next hb9
      have hS9 := HKA.out _ M9
      dsimp only
      refine hK0.out _ _ (fun _ => hS9) (fun _ => ?_)
      clear hK0 K0 Md hb9 OPk hS9
      try simp only [Act.put, List.setIfInBounds_toArray, List.set_cons_zero, List.set_cons_succ]
      generalize hfk : f j = tx at *
      have HFX := Lib.hid hfk
      clear hfk
      have MA := M9.alloc (.cells #[.string tx] 9)
      have hS8 := HKA.out _ MA
      refine stepM (i := 14) rfl (by kernel_rfl) (fun K0 hK0 => ?_)
      go_simp
      refine hK0.out _ _ (fun _ => hS8) (fun _ => ?_)
      clear hK0 K0 hS8
      try simp only [Act.put, List.setIfInBounds_toArray, List.set_cons_zero, List.set_cons_succ]
      have hown0 := MA.own
      rw [map_len] at hown0
      refine stepM (i := 15) rfl (by kernel_rfl) (fun K0 hK0 => ?_)
      rw [if_pos (by rfl)]
      refine step_append_own (.tmp 45) (.tmp 58) 23 rfl w5.heap.size 9 i0 (.string ⟨#[]⟩) 1 16 Tryz.underlying23 hi0 hz0 hz1 hz2 rfl (by omega) (.slice xA j xc) j _ (by rfl) hown0 ⟨w9.heap.size, 0, none⟩ 1 1 [.string tx] (by rfl) (by rfl) (new_str w9 _ tx) (strs_one [tx]) (by unfold maxLen; omega) (by omega) MA.size ?_
      intro v1 wB hown1 hg1
      obtain ⟨vA, vc, rfl⟩ := own_formV hown1
      have MM := MA.app (x := tx) (by rw [map_len]; exact hown1) hg1
      clear hown1 hg1 hown0 MA M9
      obtain ⟨g0, g1, gf⟩ := MM.facts
      have hS9 : (((wB.cell? ⟨ob, 0, none⟩ = some (.slice g9 S.length c9) ∧ wB.cell? ⟨ob, 1, none⟩ = some (.slice xA j xc)) ∧ wB.cell? ⟨w.heap.size, 1, none⟩ = some (.slice (some ad) N c')) ∧ wB.cell? ⟨w.heap.size + 1, 1, none⟩ = some (.slice (some adu) N d')) ∧ (wB.cell? (ad.add j) = some (.string tv) ∧ wB.cell? (adu.add j) = some (.string tu)) :=
        ⟨⟨⟨⟨g0, g1⟩, (bkA (MM.keep (w.heap.size, 25, #[.slice A S.length c, .slice (some ad) N c']) (by simp))).2⟩, (bkA (MM.keep (w.heap.size + 1, 25, #[.slice D S.length d, .slice (some adu) N d']) (by simp))).2⟩, FC.out wB MM.below⟩
      dsimp only
      refine hK0.out _ _ (fun _ => hS9) (fun _ => ?_)
      clear hK0 K0
      try simp only [Act.put, List.setIfInBounds_toArray, List.set_cons_zero, List.set_cons_succ]
      refine takeM (i := 16) (v := ?_) rfl (by kernel_rfl) (by decide) (by kernel_rfl) (by kernel_rfl) (by kernel_rfl) (fun _ _ _ h => h) (by rfl) (by assumption) ?_ ?_
      rotate_left
      · intro w hSw; (try dsimp only at hSw); go_simp <;> with_reducible rfl
      try simp only [Act.put, List.setIfInBounds_toArray, List.set_cons_zero, List.set_cons_succ]
      clear hS9
      refine stepM (i := 17) rfl (by kernel_rfl) (fun K0 hK0 => ?_)
      go_simp
      refine hK0.out _ _ (fun h => absurd rfl h) (fun _ => ?_)
      clear hK0 K0
      try simp only [Act.put, List.setIfInBounds_toArray, List.set_cons_zero, List.set_cons_succ]
      refine doneM (by kernel_rfl) ?_ _
      have MP := MM.put
      have e1 : (List.range j).map f ++ [tx] = (List.range (j + 1)).map f := by rw [map_snoc, HFX.out]
      rw [e1] at MP
      clear MM g0 g1 gf HKA FC
      go_wp2
      go_roundw
      case rel => exact ⟨j + 1, _, by omega, by go_num, MP⟩
      case measure => simp [intOf]; omega
    · obtain rfl : j = N := by omega
      have KR := M.keep (w.heap.size + 2, 25, #[.slice none 0 0, .slice none 0 0]) (by simp)
      obtain ⟨e0, e1⟩ := bkA KR
      have f0 := KR.frozen 0
      have f1 := KR.frozen 1
      obtain ⟨o0, o1⟩ := bkA M.box
      obtain ⟨a0, a1⟩ := bkA M.keep1
      have hA := M.isA
      have hb := M.below
      clear M KR OP HVE HUE
      go_wp2
      refine bodyPost_ret (v := .tuple #[.agg #[.slice g9 S.length c9, .slice xA j xc], .int .i64 0]) (by simp [results, Tryz.results50, go_sem, e0, e1]) rfl ?_
      exact ⟨(hb.setCell (p := ⟨w.heap.size + 2, 0, none⟩) (by simp) _).setCell (p := ⟨w.heap.size + 2, 1, none⟩) (by simp) _, _, rfl, hA.ret e0 e1 _ _⟩

end Go.Proofs.YtgnffedncjjkfaaGreatDoor

namespace Go.Proofs.YtgnffedncjjkfaaGreatDoor
open Go.RowKit Ix Ar

set_option maxRecDepth 100000 in
set_option maxHeartbeats 6400000 in
theorem eaches_walk (a b : Arr) (op : Int) (va vb : Value) (w : World) (ha : IsA w w.heap.size va a) (hL : a.1.length ≤ maxLen) (hM : a.2.length ≤ maxLen) (_ : ∀ s ∈ a.1, -9223372036854775808 ≤ s ∧ s ≤ 9223372036854775807)
    (hb : IsA w w.heap.size vb b) (hL2 : b.1.length ≤ maxLen) (hM2 : b.2.length ≤ maxLen) (_ : ∀ s ∈ b.1, -9223372036854775808 ≤ s ∧ s ≤ 9223372036854775807)
    (_ : -9223372036854775808 ≤ op) (_ : op ≤ 9223372036854775807) (he : Env w) (her : EnvR w) :
    Calls Tryz.prog 10 #[va, vb, .int .i64 op] w fun r w' => Below w.heap.size w w' ∧ r = .returned (.bool true) := by
  obtain ⟨q, hq⟩ : ∃ b : Bool, b = true ↔ ¬ Slim a := by classical exact ⟨decide _, decide_eq_true_iff⟩
  obtain ⟨q2, hq2⟩ : ∃ c : Bool, c = true ↔ ¬ Slim b := by classical exact ⟨decide _, decide_eq_true_iff⟩
  have WD := Lib.hid (fun W (hW : Below w.heap.size w W) => wide_any a _ W (ha.next hW) hL hM q hq)
  have WE := Lib.hid (fun W (hW : Below w.heap.size w W) => wide_any b _ W (hb.next hW) hL2 hM2 q2 hq2)
  have SN := Lib.hid (fun W (hW : Below w.heap.size w W) => sane_any W (he.next hW))
  obtain ⟨A, c, A', c', rfl, -, -⟩ := ha.form
  obtain ⟨D, d, D', d', rfl, -, -⟩ := hb.form
  have hha := ha
  have hhb := hb
  obtain ⟨S, V⟩ := a
  obtain ⟨T, U⟩ := b
  simp only at hL hM hL2 hM2
  have B0 := BxW.start2 w 25 25 #[.slice A S.length c, .slice A' V.length c'] #[.slice D T.length d, .slice D' U.length d']
  cases q
  rotate_left
  · clear hq hq2 ha hha hb hhb he her WE
    go_enter Tryz.func10, Tryz.ntmps10
    obtain ⟨b0, b1⟩ := bkA B0.one
    go_wp2_with fail
    generalize (w.alloc (.cells #[.slice A S.length c, .slice A' V.length c'] 25)).alloc (.cells #[.slice D T.length d, .slice D' U.length d'] 25) = W0 at *
    refine (WD.out W0 B0.below).mono ?_
    rintro r w1 ⟨hb1, rfl⟩
    have B1 := B0.next hb1
    go_wp2_with fail
    refine (SN.out w1 B1.below).mono ?_
    rintro r w2 ⟨hb2, rfl⟩
    go_wp2
    go_ret
    exact ⟨(B1.next hb2).below, rfl⟩
  cases q2
  rotate_left
  · clear hq hq2 ha hha hb hhb he her
    go_enter Tryz.func10, Tryz.ntmps10
    obtain ⟨b0, b1⟩ := bkA B0.one
    go_wp2_with fail
    generalize (w.alloc (.cells #[.slice A S.length c, .slice A' V.length c'] 25)).alloc (.cells #[.slice D T.length d, .slice D' U.length d'] 25) = W0 at *
    refine (WD.out W0 B0.below).mono ?_
    rintro r w1 ⟨hb1, rfl⟩
    have B1 := B0.next hb1
    clear b0 b1
    obtain ⟨b0, b1⟩ := bkA B1.two
    go_wp2_with fail
    refine (WE.out w1 B1.below).mono ?_
    rintro r w2 ⟨hb2, rfl⟩
    have B2 := B1.next hb2
    clear b0 b1
    go_wp2_with fail
    refine (SN.out w2 B2.below).mono ?_
    rintro r w3 ⟨hb3, rfl⟩
    go_wp2
    go_ret
    exact ⟨(B2.next hb3).below, rfl⟩
  have hs : Slim (S, V) := by
    apply Classical.byContradiction
    intro h'
    have := hq.2 h'
    cases this
  have hs2 : Slim (T, U) := by
    apply Classical.byContradiction
    intro h'
    have := hq2.2 h'
    cases this
  obtain ⟨-, hl1, hl2⟩ := hs
  obtain ⟨-, hk1, hk2⟩ := hs2
  simp only at hl1 hl2 hk1 hk2
  have hi : InA (S, V) := ⟨hL, by show V.length ≤ _; omega, fun s hs => by have := hl2 s hs; omega⟩
  have hj : InA (T, U) := ⟨hL2, by show U.length ≤ _; omega, fun s hs => by have := hk2 s hs; omega⟩
  have F1 := Lib.hid (fun W (hW : Below w.heap.size w W) => each_any (S, V) (T, U) op _ _ W (hha.next hW) (hhb.next hW) hi hj (he.next hW) (her.next hW))
  have F2 := Lib.hid (fun W (hW : Below w.heap.size w W) => reach_any (S, V) (T, U) op _ _ W (hha.next hW) (hhb.next hW) hi hj)
  have hRi := eachR_in (b := (T, U)) (op := op) hi
  generalize eachR (S, V) (T, U) op = R at *
  obtain ⟨R1, R2⟩ := R
  simp only at F1 F2 hRi
  have AG := Lib.hid (fun W u v (hu : IsA W W.heap.size u R1) (hv : IsA W W.heap.size v R1) => agrees_any R1 R1 u v R2 R2 W hu hv hRi.1 hRi.2 true (by simp))
  clear hq hq2 ha hha hb hhb he her hi hj hRi hl2 hk2
  go_enter Tryz.func10, Tryz.ntmps10
  obtain ⟨b0, b1⟩ := bkA B0.one
  go_wp2_with fail
  generalize (w.alloc (.cells #[.slice A S.length c, .slice A' V.length c'] 25)).alloc (.cells #[.slice D T.length d, .slice D' U.length d'] 25) = W0 at *
  refine (WD.out W0 B0.below).mono ?_
  rintro r w1 ⟨hb1, rfl⟩
  have B1 := B0.next hb1
  clear b0 b1 B0 hb1 WD
  obtain ⟨b0, b1⟩ := bkA B1.two
  go_wp2_with fail
  refine (WE.out w1 B1.below).mono ?_
  rintro r w2 ⟨hb2, rfl⟩
  have B2 := B1.next hb2
  clear b0 b1 B1 hb2 WE
  obtain ⟨b0, b1⟩ := bkA B2.one
  obtain ⟨p0, p1⟩ := bkA B2.two
  go_wp2_with fail
  refine (F1.out w2 B2.below).mono ?_
  rintro r w3 ⟨hb3, u, rfl, hu⟩
  obtain ⟨A1, c1, A2, c2, rfl, -, -⟩ := hu.form
  have B3 := (B2.next hb3).new 25 #[.slice A1 R1.1.length c1, .slice A2 R1.2.length c2]
  have hu3 := hu.next (below_alloc w3 (.cells #[.slice A1 R1.1.length c1, .slice A2 R1.2.length c2] 25))
  clear b0 b1 p0 p1 B2 hb3 hu F1
  obtain ⟨b0, b1⟩ := bkA B3.one
  obtain ⟨p0, p1⟩ := bkA B3.two
  go_wp2_with fail
  generalize w3.alloc (.cells #[.slice A1 R1.1.length c1, .slice A2 R1.2.length c2] 25) = w4 at *
  generalize w3.heap.size = bu at *
  refine (F2.out w4 B3.below).mono ?_
  rintro r w5 ⟨hb5, v, rfl, hv⟩
  obtain ⟨C1, d1, C2, d2, rfl, -, -⟩ := hv.form
  have B5 := (B3.next hb5).new 25 #[.slice C1 R1.1.length d1, .slice C2 R1.2.length d2]
  have ba := below_alloc w5 (.cells #[.slice C1 R1.1.length d1, .slice C2 R1.2.length d2] 25)
  have hu5 := (hu3.next hb5).next ba
  have hv5 := hv.next ba
  clear b0 b1 p0 p1 B3 hb5 hu3 hv ba F2
  obtain ⟨y0, y1⟩ := bkA B5.three
  obtain ⟨z0, z1⟩ := bkA B5.four
  go_wp2_with fail
  generalize w5.alloc (.cells #[.slice C1 R1.1.length d1, .slice C2 R1.2.length d2] 25) = w6 at *
  generalize w5.heap.size = bv at *
  refine (AG.out w6 _ _ hu5 hv5).mono ?_
  rintro r w7 ⟨hb7, rfl⟩
  have B7 := B5.next hb7
  clear y0 y1 z0 z1 B5 hb7 hu5 hv5
  go_wp2_with fail
  refine (SN.out w7 B7.below).mono ?_
  rintro r w8 ⟨hb8, rfl⟩
  go_wp2
  go_ret
  exact ⟨(B7.next hb8).below, rfl⟩
end Go.Proofs.YtgnffedncjjkfaaGreatDoor

namespace Go.Proofs.YtgnffedncjjkfaaGreatDoor.fnEaches
open Go.ChangeShapes Go.WideShapes Go.ChangeAt Go.RowKit Go.Proofs.YtgnffedncjjkfaaGreatDoor

set_option maxRecDepth 100000 in
theorem contract (H : Type) (enc : TypeId × Value → H) (W : World) (base : Nat) (args : Array Value) (ds gs : List (DataW H)) (before : List MemPlace)
    (hval : ∀ (j : Nat) t v, Tryz.f10.params[j]? = some t → args[j]? = some v → Value.okWide Tryz.prog W .any base t v)
    (hW : DataW.Whole enc Tryz.prog Tryz.f10.params.toList Rows.arrayEachesSpec.vars false W args.toList ds gs before) (hL : laidMetH Tryz.prog Rows.arrayEachesRow.laid W) (hsh : W.ShapedOpen Tryz.prog) :
    Calls Tryz.prog 10 args W fun e W' => ∃ v, e = .returned v ∧ Rows.arrayEachesSpec.post enc Tryz.prog Tryz.f10 false true false false W args v W' := by
  obtain ⟨he, her⟩ := env_of hL hsh
  have hW' := hW
  obtain ⟨p, q, hA0, hV, rfl, hfz, hnd⟩ := hW
  have hA : DataW.TrodAll enc Tryz.prog W 0 (fun _ => true) true Tryz.f10.params.toList args.toList ds p := hA0
  rw [Tryz.params10] at hA hval
  obtain ⟨v0, v1, v2, d0, d1, d2, p0, p1, p2, rfl, rfl, rfl, h0, h1, h2⟩ := trodAll_three hA
  obtain ⟨rfl, rfl⟩ := trodVars_none hV
  obtain ⟨a0, i0, l0, m0, w0⟩ := opened_arr (hval 0 25 v0 rfl rfl) h0
  obtain ⟨a1, i1, l1, m1, w1⟩ := opened_arr (hval 1 25 v1 rfl rfl) h1
  obtain ⟨a2, rfl, l2, m2⟩ := opened_int (hval 2 3 v2 rfl rfl) h2
  refine (eaches_walk a0 a1 a2 v0 v1 W i0 l0 m0 w0 i1 l1 m1 w1 l2 m2 he her).mono fun e W' ⟨hb, e1⟩ => ?_
  subst e1
  exact ⟨_, rfl, law_post (by kernel_rfl) rfl (by rw [Tryz.params10]; intro t ht; simp at ht; rcases ht with rfl | rfl <;> exact ⟨by kernel_rfl, of_decide_eq_true (by kernel_rfl)⟩) ⟨rfl, rfl, rfl⟩ hW' hb⟩

theorem reads (os : Os) {H : Type} (enc : TypeId × Value → H) : ∃ places, DataW.whole enc Tryz.prog ((laidWorld os).forCall (fun _ _ => 0) ⟨#[], #[Value.agg #[.slice none 0 0, .slice none 0 0], Value.agg #[.slice none 0 0, .slice none 0 0], Value.int .i64 0], []⟩).memory Tryz.f10.params.toList Rows.arrayEachesSpec.vars false #[Value.agg #[.slice none 0 0, .slice none 0 0], Value.agg #[.slice none 0 0, .slice none 0 0], Value.int .i64 0].toList 8 = some ([.agg [.nil, .nil], .agg [.nil, .nil], .lit (.int .i64 0)], [], places) :=
  ⟨[], by kernel_rfl⟩

set_option maxRecDepth 100000 in
theorem lifted (os : Os) (started : os.Started) (H : Type) (enc : TypeId × Value → H) (F : Stop.Interp) :
    ReturnsInHanded {} Tryz.checked os 10 .any ((OpenSpec.ofChange Rows.arrayEachesSpec).preRow enc Tryz.prog Tryz.f10 Rows.arrayEachesRow.domain false Rows.arrayEachesRow.laid) (((OpenSpec.ofChange Rows.arrayEachesSpec).at F).post enc Tryz.prog Tryz.f10 false true false false) := by
  obtain ⟨places, hx⟩ := reads os enc
  refine returnsInHanded_of_row (C := Tryz.checked) (s := OpenSpec.ofChange Rows.arrayEachesSpec) Tryz.own started (by kernel_rfl) Tryz.func10
    (witness_row_atRef (enc := enc) (C := Tryz.checked) false (laidWorld os) #[Value.agg #[.slice none 0 0, .slice none 0 0], Value.agg #[.slice none 0 0, .slice none 0 0], Value.int .i64 0] rfl (by kernel_rfl) (by kernel_rfl) (by kernel_rfl)
      (OpenSpec.preRow_of_cond 8 hx (by kernel_rfl) (fun k hk => by cases hk) (by kernel_rfl) (laid_met os _))) ?_
  intro W base args ds gs before hval hW _ _ _ hL hsh _
  exact contract H enc W base args ds gs before hval hW hL hsh

theorem k0 : (Rows.arrayEachesRow.inPlace == Tryz.prog.inPlace 10) = true := by kernel_rfl
theorem k1 : (Rows.arrayEachesRow.unfollowed == Tryz.prog.unfollowed 10) = true := by kernel_rfl
theorem k2 : (Rows.arrayEachesRow.recurses == Tryz.prog.recurses 10) = true := by kernel_rfl
theorem k3 : (Rows.arrayEachesRow.named == Tryz.prog.varsNamed 10) = true := by kernel_rfl
theorem k4 : (Rows.arrayEachesRow.plainKeys == Tryz.prog.plainKeys) = true := by kernel_rfl
theorem k5 : (Tryz.prog.mayEnter) = true := by kernel_rfl
theorem k6 : (Rows.arrayEachesRow.lifted == Tryz.prog.liftsFinal) = true := by kernel_rfl
theorem k7 : (Tryz.prog.make == some Rows.arrayEachesRow.make) = true := by kernel_rfl
theorem k8 : (Tryz.prog.stopsHeard) = true := by kernel_rfl
theorem k9 : (mapsRowed Tryz.prog) = true := by kernel_rfl
theorem joined : joinedFacts Tryz.prog 10 Tryz.f10 (OpenSpec.ofChange Rows.arrayEachesSpec).bare Rows.arrayEachesRow = true := by
  unfold joinedFacts
  rw [k0, k1, k2, k3, k4, k5, k6, k7, k8, k9, Tryz.laidOutB_ok]
  kernel_rfl

theorem goes : false = Rows.arrayEachesRow.goesBy Tryz.prog := by kernel_rfl
theorem looks : true = Tryz.pinned.checked.prog.looks [] := by kernel_rfl
theorem wfB : Rows.arrayEachesRow.wfByText (OpenSpec.ofChange Rows.arrayEachesSpec) = true := by kernel_rfl
theorem said : Rows.ArrayEachesSaid :=
  OpenClaim.holds_of_cond 10 Tryz.f10 rfl rfl rfl rfl rfl rfl rfl ⟨rfl, rfl, rfl, rfl, rfl⟩ rfl rfl rfl rfl rfl (by kernel_rfl) Tryz.func10 joined
    (of_decide_eq_true (by kernel_rfl)) (by unfold Func.isWrapper; first | (rw [if_pos (by decide +kernel)]; kernel_rfl) | (rw [if_neg (by decide +kernel)]; exact ⟨rfl, rfl⟩))
    (fun os started H enc _ F => by rw [OpenClaim.pre_eq_preRow]; exact lifted os started H enc F)

theorem plain (f : FuncId) (fn : Func) (hf : Tryz.pinned.checked.prog.funcNamed "arrayarchive/arrayarchivelaw06.ArrayEaches" = some f) (hfn : Tryz.pinned.checked.prog.funcs[f]? = some fn) :
    true = Tryz.pinned.checked.prog.looks [] ∧ ∀ (j : Nat) t, fn.params[j]? = some t → Tryz.pinned.checked.prog.wantsStandIn t = false := by
  obtain rfl : f = 10 := Option.some.inj ((show Tryz.prog.funcNamed "arrayarchive/arrayarchivelaw06.ArrayEaches" = some 10 by kernel_rfl).symm.trans hf) |>.symm
  obtain rfl : fn = Tryz.f10 := (Option.some.inj (Tryz.func10.symm.trans hfn)).symm
  refine ⟨looks, fun j t ht => ?_⟩
  rw [Tryz.params10] at ht
  have hm := Array.mem_of_getElem? ht
  simp at hm
  rcases hm with rfl | rfl
  · exact (show Tryz.prog.wantsStandIn 25 = false by kernel_rfl)
  · exact (show Tryz.prog.wantsStandIn 3 = false by kernel_rfl)

theorem card : Rows.ArrayEachesCardSaid :=
  Claim7.holds_tied_plain_at .later [] _ _ _ _ said (fun _ h => by cases h) wfB (fun _ h => by cases h) arrayEaches_row_tie rfl ⟨rfl, rfl⟩ (by kernel_rfl) rfl plain goes
end Go.Proofs.YtgnffedncjjkfaaGreatDoor.fnEaches
namespace Go.Proofs.YtgnffedncjjkfaaGreatDoor
theorem eaches_holds : Rows.ArrayEachesCardSaid := fnEaches.card
end Go.Proofs.YtgnffedncjjkfaaGreatDoor
