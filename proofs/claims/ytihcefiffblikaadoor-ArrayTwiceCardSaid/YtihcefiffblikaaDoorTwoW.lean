/-
  Plain law of a slab of a slab; walk of the law ArrayTwice.
-/
import Derived.Test.YtihcefiffblikaaDoorArrI
import Derived.Test.YtihcefiffblikaaDoorHeldN
namespace Go.Proofs.YtihcefiffblikaaDoor
open Go.RowKit Ix Ar

theorem Tryd.kut_info : (Tryd.prog.info? 35).map (fun i => (i.zero, i.size, i.bytes)) = some (some (.agg #[.int .i64 0, .int .i64 0, .int .i64 0]), 3, 24) := by kernel_rfl
theorem IsK.of_own {w : World} {v : Value} {base : Nat} {T : TypeId} {n : Nat} {l : List Cut} (h : w.ownsRow base T 3 v n (krow l)) : IsK w w.heap.size v l := by
  have hl : l.length = n := by have := h.1; rw [krow_len] at this; omega
  rcases h.2 with ⟨rfl, rfl⟩ | ⟨g, cap, cur, rfl, _, _, hc, _⟩
  · obtain rfl : l = [] := List.eq_nil_of_length_eq_zero hl
    exact IsK.nil _ _
  · exact ⟨_, cap, by rw [hl], by omega, Rd.of_own h⟩
theorem OwnsRow_far {w : World} {base : Nat} {e : TypeId} {size : Nat} {v : Value} {n : Nat} {xs : List Value} (h : w.ownsRow base e size v n xs) {p : Addr} (hp : v.ownBlock ≠ some p.block) (u : Value) : (w.setCell p u).ownsRow base e size v n xs := by
  rcases h.2 with ⟨rfl, rfl⟩ | ⟨g, cap, cur, rfl, hbg, hg, hnc, hcm, hcs, htake⟩
  · exact ⟨h.1, .inl ⟨rfl, rfl⟩⟩
  · refine ⟨h.1, .inr ⟨g, cap, cur, rfl, hbg, ?_, hnc, hcm, hcs, htake⟩⟩
    exact (Below.heap_setCell w p u g (fun e => hp (by rw [← e]; rfl))).trans hg
theorem sliceR_err {a : Arr} {C : List Cut} (h : (sliceR a C).2 = 0) : VA a ∧ Fit a.1 C := by
  by_cases h1 : VA a
  · by_cases h2 : Fit a.1 C
    · exact ⟨h1, h2⟩
    · rw [sliceR_slab h1 h2] at h; exact absurd h (by decide)
  · rw [sliceR_shape h1] at h; exact absurd h (by decide)
theorem sliceR_in {a : Arr} {C : List Cut} (hi : InA a) : InA (sliceR a C).1 := by
  by_cases h1 : VA a
  · by_cases h2 : Fit a.1 C
    · rw [sliceR_ok h1 h2]
      refine ⟨?_, ?_, fun s hs => ?_⟩
      · show (cntI C).length ≤ _
        rw [cntI_len, fit_len h2]; exact hi.shape
      · show (cutOut _ _ _ _).length ≤ _
        unfold cutOut tab
        rw [List.length_map, List.length_range]
        have := (fit_VS h1.1 h2).2.2
        rw [cntI_nat] at this
        omega
      · unfold cutOut tab at hs
        obtain ⟨j, _, rfl⟩ := List.mem_map.1 hs
        show (List.getD a.2 (place (a.1.map Int.toNat) (thr C (idx (cnt C) j))) ⟨#[]⟩).size ≤ _
        rw [List.getD_eq_getElem?_getD]
        rcases Nat.lt_or_ge (place (a.1.map Int.toNat) (thr C (idx (cnt C) j))) a.2.length with h | h
        · rw [List.getElem?_eq_getElem h]; exact hi.texts _ (List.getElem_mem _)
        · rw [List.getElem?_eq_none h]; decide
    · rw [sliceR_slab h1 h2]; exact ⟨Nat.zero_le _, Nat.zero_le _, fun s hs => by cases hs⟩
  · rw [sliceR_shape h1]; exact ⟨Nat.zero_le _, Nat.zero_le _, fun s hs => by cases hs⟩
theorem both_len : ∀ {A B : List Cut}, A.length = B.length → (both A B).length = B.length
  | [], [], _ => rfl
  | [], _ :: _, h => by simp at h
  | _ :: _, [], h => by simp at h
  | _ :: A, _ :: B, h => congrArg (· + 1) (both_len (A := A) (B := B) (by simpa using h))
theorem both_snoc : ∀ {A B : List Cut} {k : Nat} (h : k < A.length) (h' : k < B.length), both (A.take (k + 1)) (B.take (k + 1)) = both (A.take k) (B.take k) ++ [both1 A[k] B[k]]
  | a :: A, b :: B, 0, _, _ => by simp [both]
  | a :: A, b :: B, k + 1, h, h' => by
    show both1 a b :: both (A.take (k + 1)) (B.take (k + 1)) = both1 a b :: (both (A.take k) (B.take k) ++ [both1 (A[k]'(by simpa using h)) (B[k]'(by simpa using h'))])
    rw [both_snoc (A := A) (B := B) (k := k) (by simpa using h) (by simpa using h')]
theorem both1_mid {a b : Cut} {s : Int} (h : FitC a s) (k : FitC b a.2.1) (hs : s ≤ 1024) : (0 < b.2.1 → 0 ≤ b.1 * a.2.2 ∧ b.1 * a.2.2 ≤ 1024 ∧ a.1 + b.1 * a.2.2 ≤ 1024) ∧ (1 < b.2.1 → 1 ≤ a.2.2 * b.2.2 ∧ a.2.2 * b.2.2 ≤ 1024) := by
  obtain ⟨a1, a2, a3⟩ := a
  obtain ⟨b1, b2, b3⟩ := b
  have hh := h
  obtain ⟨p1, p2, p3, p4, p5⟩ := h
  have kk := k
  have hb := both1_fit hh kk
  obtain ⟨q1, q2, q3, q4, q5⟩ := k
  simp only at *
  constructor
  · intro c0
    obtain ⟨q6, q7⟩ := q5 c0
    have f1 := fitC_at hh (i := b1) q1 q6
    simp only at f1
    omega
  · intro c1
    unfold both1 at hb
    obtain ⟨r1, r2, r3, r4, r5⟩ := hb
    simp only at r1 r2 r3 r4 r5
    rw [if_pos (by omega)] at r1 r4 r5
    rw [if_pos c1] at r3 r5
    obtain ⟨r6, r7⟩ := r5 (by omega)
    have r8 := (Int.le_ediv_iff_mul_le (by omega)).1 r7
    have : a3 * b3 ≤ (b2 - 1) * (a3 * b3) := by
      have := Int.mul_le_mul_of_nonneg_right (show (1 : Int) ≤ b2 - 1 by omega) (show 0 ≤ a3 * b3 by omega)
      omega
    omega
theorem both1_in {a b : Cut} {s : Int} (h : FitC a s) (k : FitC b a.2.1) (hs : s ≤ 1024) (hb : In64 b) : In64 (both1 a b) := by
  obtain ⟨m1, m2⟩ := both1_mid h k hs
  obtain ⟨p1, p2, p3, p4, p5⟩ := h
  unfold both1 In64
  simp only
  refine ⟨?_, hb.2.1, ?_⟩
  · split
    · have := m1 (by assumption); omega
    · omega
  · split
    · have := m2 (by assumption); omega
    · omega
theorem both_in : ∀ {S : List Int} {A B : List Cut}, Fit S A → Fit (A.map fun c => c.2.1) B → (∀ s ∈ S, s ≤ 1024) → (∀ x ∈ B, In64 x) → ∀ x ∈ both A B, In64 x
  | [], [], [], _, _, _, _ => fun x hx => by cases hx
  | [], [], _ :: _, _, h, _, _ => h.elim
  | [], _ :: _, _, h, _, _, _ => h.elim
  | _ :: _, [], _, h, _, _, _ => h.elim
  | _ :: _, _ :: _, [], _, h, _, _ => h.elim
  | s :: S, a :: A, b :: B, h, k, hs, hb => fun x hx => by
    rcases List.mem_cons.1 hx with rfl | hx
    · exact both1_in h.1 k.1 (hs s List.mem_cons_self) (hb b List.mem_cons_self)
    · exact both_in h.2 k.2 (fun s h => hs s (List.mem_cons_of_mem _ h)) (fun y h => hb y (List.mem_cons_of_mem _ h)) x hx
theorem twice_law {a : Arr} {F T : List Cut} (h1 : (sliceR a F).2 = 0) (h2 : (sliceR (sliceR a F).1 T).2 = 0) : sliceR a (both F T) = sliceR (sliceR a F).1 T := by
  obtain ⟨v1, f1⟩ := sliceR_err h1
  obtain ⟨v2, f2⟩ := sliceR_err h2
  rw [sliceR_ok v1 (by
    have := f2
    rw [sliceR_ok v1 f1] at this
    exact both_fit f1 this), sliceR_ok v2 f2]
  rw [sliceR_ok v1 f1] at f2 ⊢
  have hl : F.length = T.length := by have := fit_len f2; simp only [cntI_len] at this; omega
  have hc := cut_both a.2 ⟨#[]⟩ f1 f2
  simp only
  rw [hc, cntI_nat]
  congr 2
  have : ∀ {A B : List Cut}, A.length = B.length → cntI (both A B) = cntI B := by
    intro A
    induction A with
    | nil => intro B h; cases B with | nil => rfl | cons b B => simp at h
    | cons x A ih => intro B h; cases B with | nil => simp at h | cons b B => exact congrArg (b.2.1 :: ·) (ih (by simpa using h))
  exact this hl

theorem cut_getD {F : List Cut} {k : Nat} (h : k < F.length) : F.getD k (0, 0, 0) = F[k] := by rw [List.getD_eq_getElem?_getD, List.getElem?_eq_getElem h]; rfl
theorem twice_each {a : Arr} {F T : List Cut} (h1 : VA a ∧ Fit a.1 F) (h2 : VA (sliceR a F).1 ∧ Fit (sliceR a F).1.1 T) : F.length = T.length ∧ ∀ k (hk : k < F.length) (hk' : k < T.length),
    (0 < T[k].2.1 → 0 ≤ T[k].1 * F[k].2.2 ∧ T[k].1 * F[k].2.2 ≤ 1024 ∧ F[k].1 + T[k].1 * F[k].2.2 ≤ 1024) ∧ (1 < T[k].2.1 → 1 ≤ F[k].2.2 * T[k].2.2 ∧ F[k].2.2 * T[k].2.2 ≤ 1024) ∧ 0 ≤ F[k].1 ∧ F[k].1 ≤ 1024 := by
  obtain ⟨v1, f1⟩ := h1
  obtain ⟨v2, f2⟩ := h2
  rw [sliceR_ok v1 f1] at f2
  simp only at f2
  have hl : F.length = T.length := by have := fit_len f2; rw [cntI_len] at this; exact this.symm
  refine ⟨hl, fun k hk hk' => ?_⟩
  have hs : k < a.1.length := by have := fit_len f1; omega
  have g1 := ((fit_iff _ _).1 f1).2 k hs
  have g2 := ((fit_iff _ _).1 f2).2 k (by rw [cntI_len]; exact hk)
  rw [cut_getD hk] at g1
  rw [cut_getD hk'] at g2
  have e : (cntI F).getD k 0 = F[k].2.1 := by
    unfold cntI
    rw [List.getD_eq_getElem?_getD, List.getElem?_map, List.getElem?_eq_getElem hk]; rfl
  rw [e] at g2
  have hS : a.1.getD k 0 ≤ 1024 := by
    rw [List.getD_eq_getElem?_getD, List.getElem?_eq_getElem hs]
    exact (v1.1.2.1 _ (List.getElem_mem _)).2
  obtain ⟨m1, m2⟩ := both1_mid g1 g2 hS
  exact ⟨m1, m2, g1.1, Int.le_trans g1.2.2.2.1 hS⟩
/-- The law's box. -/
structure LwB (w : World) (x y z u : Value) (W : World) : Prop where
  below : Below w.heap.size w W
  box : Bk W w.heap.size 28 #[x, y, z, u]
theorem LwB.next {w W W' : World} {x y z u : Value} (h : LwB w x y z u W) (hb : Below W.heap.size W W') : LwB w x y z u W' := ⟨h.below.trans (hb.mono h.below.size), h.box.next' hb⟩
theorem LwB.start (w : World) (x y z u : Value) : LwB w x y z u (w.alloc (.cells #[x, y, z, u] 28)) := ⟨below_alloc w _, Bk.new w _ _⟩
theorem LwB.facts {w W : World} {x y z u : Value} (h : LwB w x y z u W) : W.cell? ⟨w.heap.size, 0, none⟩ = some x ∧ W.cell? ⟨w.heap.size, 1, none⟩ = some y ∧ W.cell? ⟨w.heap.size, 2, none⟩ = some z ∧ W.cell? ⟨w.heap.size, 3, none⟩ = some u := ⟨h.box.cell 0, h.box.cell 1, h.box.cell 2, h.box.cell 3⟩

set_option maxRecDepth 100000 in
set_option maxHeartbeats 12800000 in
theorem twice_walk (a : Arr) (F T : List Cut) (A1 A2 A3 A4 : Option Addr) (c1 c2 c3 c4 : Nat) (w : World) (ha : IsA w w.heap.size (.agg #[.slice A1 a.1.length c1, .slice A2 a.2.length c2]) a) (hF : IsK w w.heap.size (.slice A3 F.length c3) F) (hT : IsK w w.heap.size (.slice A4 T.length c4) T)
    (hL : a.1.length ≤ maxLen) (hM : a.2.length ≤ maxLen) (hFi : ∀ x ∈ F, In64 x) (hTi : ∀ x ∈ T, In64 x) (hFL : F.length ≤ maxLen) (hTL : T.length ≤ maxLen) (he : Env w) :
    Calls Tryd.prog 3 #[.agg #[.slice A1 a.1.length c1, .slice A2 a.2.length c2, .slice A3 F.length c3, .slice A4 T.length c4]] w fun r w' => Below w.heap.size w w' ∧ r = .returned (.bool true) := by
  obtain ⟨i0, hi0, hz0, hz1, hz2⟩ := info_parts Tryd.kut_info
  obtain ⟨qw, hqw⟩ : ∃ b : Bool, b = true ↔ ¬ Slim a := by classical exact ⟨decide _, decide_eq_true_iff⟩
  have WD := Lib.hid (fun W (hW : Below w.heap.size w W) => wide_any a _ W (ha.next hW) hL hM qw hqw)
  have SN := Lib.hid (fun W (hW : Below w.heap.size w W) => sane_any W (he.next hW))
  have B0 := LwB.start w (.slice A1 a.1.length c1) (.slice A2 a.2.length c2) (.slice A3 F.length c3) (.slice A4 T.length c4)
  unfold maxLen at hFL hTL
  cases hq : qw
  rotate_left
  · subst hq
    clear hqw ha hF hT hL hM hFi hTi he
    go_enter Tryd.func3, Tryd.ntmps3
    go_wp2_with fail
    generalize w.alloc (.cells #[.slice A1 a.1.length c1, .slice A2 a.2.length c2, .slice A3 F.length c3, .slice A4 T.length c4] 28) = W0 at *
    refine (WD.out W0 B0.below).mono ?_
    rintro r w1 ⟨hb1, rfl⟩
    have B1 := B0.next hb1
    obtain ⟨e0, e1, e2, e3⟩ := B1.facts
    go_wp2_with fail
    refine (SN.out w1 B1.below).mono ?_
    rintro r w2 ⟨hb2, rfl⟩
    go_wp2
    go_ret
    exact ⟨(B1.next hb2).below, rfl⟩
  by_cases hf10 : 10 < F.length
  · subst hq
    clear hqw ha hF hT hL hM hFi hTi he
    go_enter Tryd.func3, Tryd.ntmps3
    go_wp2_with fail
    generalize w.alloc (.cells #[.slice A1 a.1.length c1, .slice A2 a.2.length c2, .slice A3 F.length c3, .slice A4 T.length c4] 28) = W0 at *
    refine (WD.out W0 B0.below).mono ?_
    rintro r w1 ⟨hb1, rfl⟩
    have B1 := B0.next hb1
    obtain ⟨e0, e1, e2, e3⟩ := B1.facts
    go_wp2_with fail
    refine (SN.out w1 B1.below).mono ?_
    rintro r w2 ⟨hb2, rfl⟩
    go_wp2
    go_ret
    exact ⟨(B1.next hb2).below, rfl⟩
  by_cases ht10 : 10 < T.length
  · subst hq
    clear hqw ha hF hT hL hM hFi hTi he
    go_enter Tryd.func3, Tryd.ntmps3
    go_wp2_with fail
    generalize w.alloc (.cells #[.slice A1 a.1.length c1, .slice A2 a.2.length c2, .slice A3 F.length c3, .slice A4 T.length c4] 28) = W0 at *
    refine (WD.out W0 B0.below).mono ?_
    rintro r w1 ⟨hb1, rfl⟩
    have B1 := B0.next hb1
    obtain ⟨e0, e1, e2, e3⟩ := B1.facts
    go_wp2_with fail
    refine (SN.out w1 B1.below).mono ?_
    rintro r w2 ⟨hb2, rfl⟩
    go_wp2
    go_ret
    exact ⟨(B1.next hb2).below, rfl⟩
  have hSl : Slim a := by
    by_cases h : Slim a
    · exact h
    · exact absurd (hqw.2 h) (by rw [hq]; decide)
  subst hq
  have hIn : InA a := ⟨by have := hSl.1; unfold maxLen; omega, by have := hSl.2.1; omega, fun s hs => by have := hSl.2.2 s hs; omega⟩
  have SL := Lib.hid (fun W (hW : Below w.heap.size w W) (C : List Cut) (v : Value) (hk : IsK W W.heap.size v C) (hC : ∀ x ∈ C, In64 x) (hl : C.length ≤ 10) => slice_any a C _ v W (ha.next hW) hk hIn hC (by unfold maxLen; omega) (he.next hW))
  have S2 := Lib.hid (fun W (hW : Below w.heap.size w W) (v : Value) (hv : IsA W W.heap.size v (sliceR a F).1) => slice_any (sliceR a F).1 T v (.slice A4 T.length c4) W hv (hT.next hW) (sliceR_in hIn) hTi (by unfold maxLen; omega) (he.next hW))
  have S1 := Lib.hid (fun W (hW : Below w.heap.size w W) => SL.out W hW F _ (hF.next hW) hFi (by omega))
  have AG := Lib.hid (fun W (u v : Value) (hu : IsA W W.heap.size u (sliceR (sliceR a F).1 T).1) (hv : IsA W W.heap.size v (sliceR (sliceR a F).1 T).1) => agrees_any (sliceR (sliceR a F).1 T).1 (sliceR (sliceR a F).1 T).1 u v 0 0 W hu hv (sliceR_in (sliceR_in hIn)).shape (by have := (sliceR_in (sliceR_in hIn) : InA (sliceR (sliceR a F).1 T).1).vals; unfold maxLen; omega) true (by simp))
  have LAW := Lib.hid (fun h1 h2 => twice_law (a := a) (F := F) (T := T) h1 h2)
  have KF := Lib.hid (fun W (hW : Below w.heap.size w W) => (hF.below hW).rd)
  have KT := Lib.hid (fun W (hW : Below w.heap.size w W) => (hT.below hW).rd)
  have FT := Lib.hid (fun (h1 : (sliceR a F).2 = 0) (h2 : (sliceR (sliceR a F).1 T).2 = 0) => And.intro (sliceR_err h1) (sliceR_err h2))
  clear hqw ha hF hT hL hM he hIn hSl
  go_enter Tryd.func3, Tryd.ntmps3
  go_wp2_with fail
  generalize w.alloc (.cells #[.slice A1 a.1.length c1, .slice A2 a.2.length c2, .slice A3 F.length c3, .slice A4 T.length c4] 28) = W0 at *
  refine (WD.out W0 B0.below).mono ?_
  rintro r w1 ⟨hb1, rfl⟩
  have B1 := B0.next hb1
  obtain ⟨e0, e1, e2, e3⟩ := B1.facts
  go_wp2_with fail
  refine (S1.out w1 B1.below).mono ?_
  rintro r w2 ⟨hb2, v1, rfl, hv1⟩
  have B2 := B1.next hb2
  clear e0 e1 e2 e3 S1 hb1 hb2 B1 B0 WD
  generalize h1 : (sliceR a F).2 = n1 at *
  have S3 := Lib.hid (S2.out (w2.alloc (.cells v1.cells 25)))
  obtain ⟨Z1, k1, Z2, k2, rfl, hk1, hk2⟩ := hv1.form
  generalize (sliceR a F).1.1.length = l1 at *
  generalize (sliceR a F).1.2.length = l2 at *
  have b3 := below_alloc w2 (.cells #[.slice Z1 l1 k1, .slice Z2 l2 k2] 25)
  have B3 := B2.next b3
  obtain ⟨e0, e1, e2, e3⟩ := B3.facts
  go_wp2_with fail
  refine (S2.out _ B3.below _ (hv1.next b3)).mono ?_
  generalize w2.alloc (.cells #[.slice Z1 l1 k1, .slice Z2 l2 k2] 25) = w3 at *
  rintro r w4 ⟨hb4, v2, rfl, hv2⟩
  have B4 := B3.next hb4
  clear e0 e1 e2 e3 S2 S3 hv1 b3 hb4 B3 B2
  generalize h2 : (sliceR (sliceR a F).1 T).2 = n2 at *
  obtain ⟨Y1, m1, Y2, m2, rfl, hm1, hm2⟩ := hv2.form
  have KR := Lib.hid hv2
  generalize (sliceR (sliceR a F).1 T).1.1.length = j1 at *
  generalize (sliceR (sliceR a F).1 T).1.2.length = j2 at *
  have b5 := below_alloc w4 (.cells #[.slice Y1 j1 m1, .slice Y2 j2 m2] 25)
  have B5 := B4.next b5
  have bx := Bk.new w4 25 #[.slice Y1 j1 m1, .slice Y2 j2 m2]
  obtain ⟨e0, e1, e2, e3⟩ := B5.facts
  by_cases hn1 : n1 = 0
  rotate_left
  · have y1 : (n1 != 0) = true := by simp [hn1]
    clear KR hv2 LAW FT AG SL
    go_wp2_with fail
    refine (SN.out _ B5.below).mono ?_
    rintro r w6 ⟨hb6, rfl⟩
    go_wp2
    go_ret
    exact ⟨(B5.next hb6).below, rfl⟩
  by_cases hn2 : n2 = 0
  rotate_left
  · have y1 : (n2 != 0) = true := by simp [hn2]
    subst hn1
    clear KR hv2 LAW FT AG SL
    go_wp2_with fail
    refine (SN.out _ B5.below).mono ?_
    rintro r w6 ⟨hb6, rfl⟩
    go_wp2
    go_ret
    exact ⟨(B5.next hb6).below, rfl⟩
  subst hn1
  subst hn2
  obtain ⟨g1, g2⟩ := FT.out rfl rfl
  obtain ⟨hl, hmid⟩ := twice_each g1 g2
  have HM := Lib.hid hmid
  have HLW := Lib.hid (LAW.out rfl rfl)
  have HBI := Lib.hid (show ∀ x ∈ both F T, In64 x from by
    have f2 := g2.2
    rw [sliceR_ok g1.1 g1.2] at f2
    exact both_in g1.2 f2 (fun s hs => (g1.1.1.2.1 s hs).2) hTi)
  obtain ⟨n, hn⟩ : ∃ n, n = F.length := ⟨_, rfl⟩
  have HNF := Lib.hid hn
  have HNT := Lib.hid (hn.trans hl)
  have HL := Lib.hid hl
  rw [← hl, ← hn] at B5 e3
  rw [← hn] at e2
  have S9 : Hid (∀ W, Below w.heap.size w W → ∀ v, IsK W W.heap.size v (both F T) → Calls Tryd.prog 7 #[.agg #[.slice A1 a.1.length c1, .slice A2 a.2.length c2], v] W fun e w' => Below W.heap.size W w' ∧ ∃ u, e = .returned (.tuple #[u, .int .i64 0]) ∧ IsA w' w'.heap.size u (sliceR (sliceR a F).1 T).1) := fun W hW v hk => by
    have := SL.out W hW (both F T) v hk HBI.out (by rw [both_len hl]; omega)
    rw [HLW.out, h2] at this
    exact this
  clear KR LAW FT hmid g1 g2 h1 h2 B4 SL
  rw [← hl, ← hn]
  rw [← hn] at hf10
  clear hn hl hFL hTL ht10 hFi hTi
  go_wp2_with fail
  have hv5 := hv2.next b5
  generalize w4.alloc (.cells #[.slice Y1 j1 m1, .slice Y2 j2 m2] 25) = w5 at *
  clear e0 e1 e2 e3 hv2 b5
  go_loopw [7, 8] (fun v i wr => ∃ k : Nat, k ≤ n ∧ i = .int .i64 k ∧ wr.ownsRow w5.heap.size 35 3 v k (krow (both (F.take k) (T.take k))) ∧ Below w5.heap.size w5 wr) (fun _ i _ => n - (intOf i).toNat)
  case atStart => exact ⟨0, Nat.zero_le _, rfl, World.ownsRow_nil _ _ _ _, Below.refl _ _⟩
  case round =>
    obtain ⟨k, hk, rfl, hown, hB⟩ := hrel
    have B6 := B5.next hB
    obtain ⟨e0, e1, e2, e3⟩ := B6.facts
    by_cases hlt : k < n
    · obtain ⟨ad, rfl, hab, t0, t1, t2⟩ := (KF.out wr B6.below).kut (i := k) (by rw [← HNF.out]; exact hlt)
      obtain ⟨ad', rfl, hab', u0, u1, u2⟩ := (KT.out wr B6.below).kut (i := k) (by rw [← HNT.out]; exact hlt)
      have HX := Lib.hid (HM.out k (by rw [← HNF.out]; exact hlt) (by rw [← HNT.out]; exact hlt))
      have HSN := Lib.hid (both_snoc (A := F) (B := T) (k := k) (by rw [← HNF.out]; exact hlt) (by rw [← HNT.out]; exact hlt))
      generalize F[k]'(by rw [← HNF.out]; exact hlt) = x at *
      generalize T[k]'(by rw [← HNT.out]; exact hlt) = y at *
      obtain ⟨fa, fb, fc⟩ := x
      obtain ⟨ta, tb, tc⟩ := y
      simp only at t0 t1 t2 u0 u1 u2 HX
      have hy1 : w.heap.size < wr.heap.size := B6.box.lt
      have hy2 : (ad.add (k * 3)).block < wr.heap.size := by rw [addr_block]; have := B6.below.size; omega
      have hy3 : (ad'.add (k * 3)).block < wr.heap.size := by rw [addr_block]; have := B6.below.size; omega
      go_wp2_with fail
      go_region
      have c6 := (below_alloc wr (.cells #[.int .i64 fa, .int .i64 tb, .int .i64 1] 35)).drew
      have B7 := B6.next c6
      have hB7 : Below w5.heap.size w5 (wr.alloc (.cells #[.int .i64 fa, .int .i64 tb, .int .i64 1] 35)).drew := (hB.alloc hB.size _).drew
      have hown7 : (wr.alloc (.cells #[.int .i64 fa, .int .i64 tb, .int .i64 1] 35)).drew.ownsRow w5.heap.size 35 3 u7 k (krow (both (F.take k) (T.take k))) := hown.alloc _
      have t0' := (c6.cell (p := ad.add (k * 3)) hy2).trans t0
      have t2' := (c6.cell (p := ⟨(ad.add (k * 3)).block, (ad.add (k * 3)).off + 2, none⟩) hy2).trans t2
      have u0' := (c6.cell (p := ad'.add (k * 3)) hy3).trans u0
      have u1' := (c6.cell (p := ⟨(ad'.add (k * 3)).block, (ad'.add (k * 3)).off + 1, none⟩) hy3).trans u1
      have u2' := (c6.cell (p := ⟨(ad'.add (k * 3)).block, (ad'.add (k * 3)).off + 2, none⟩) hy3).trans u2
      have kc : Bk (wr.alloc (.cells #[.int .i64 fa, .int .i64 tb, .int .i64 1] 35)).drew wr.heap.size 35 #[.int .i64 fa, .int .i64 tb, .int .i64 1] := Bk.new wr 35 _
      have hy4 : w5.heap.size ≤ wr.heap.size := hB.size
      have hgo : ∀ g, u7.ownBlock = some g → g ≠ wr.heap.size := fun g hg e => by have := (hown.lt g hg).2; omega
      clear t0 t1 t2 u0 u1 u2 e0 e1 e2 e3 B6 hB hown c6
      generalize (wr.alloc (.cells #[.int .i64 fa, .int .i64 tb, .int .i64 1] 35)).drew = w6 at *
      obtain ⟨e0, e1, e2, e3⟩ := B7.facts
      obtain ⟨hx1, hx2, hx3, hx4⟩ := HX.out
      clear HX
      by_cases p0 : 0 < tb
      rotate_left
      · have HE : both1 (fa, fb, fc) (ta, tb, tc) = (fa, tb, 1) := by
          unfold both1
          simp only
          rw [if_neg p0, if_neg (by omega)]
        obtain ⟨q0, q1, q2⟩ := bk3 kc
        have HS2 := Lib.hid (HSN.out.trans (congrArg (fun z => both (F.take k) (T.take k) ++ [z]) HE))
        clear HE HSN kc
        go_wp2_with (at_builtin; refine wpL_append _ rfl (.tmp 126) (.tmp 128) _ rfl w5.heap.size 35 i0 _ 3 24 Tryd.underlying26 hi0 hz0 hz1 hz2 rfl (by omega) _ k _ rfl (hown7.alloc _) (some ⟨w6.heap.size, 0, none⟩) 1 1 [.int .i64 fa, .int .i64 tb, .int .i64 1] rfl rfl (Rd.of_new w6 [.int .i64 fa, .int .i64 tb, .int .i64 1] 35) (by intro u hu; simp at hu; rcases hu with rfl | rfl | rfl <;> rfl) (by unfold maxLen; omega) (by omega) (by have := hB7.size; simp; omega) ?_; intro v1 w10 hown10 hg1 hat1; have hB10 := below_app (hB7.alloc hB7.size _) hg1 (by have := hB7.size; simp; omega) (hown7.alloc _) (Nat.le_refl _); clear hg1 hat1)
        go_roundw
        case rel => exact ⟨k + 1, by omega, by go_num, (by rw [HS2.out, krow_app]; exact hown10), hB10⟩
        case measure => simp [intOf]; omega
      · obtain ⟨j1', j2', j3'⟩ := hx1 p0
        clear hx1
        obtain ⟨m, hm⟩ : ∃ m, m = ta * fc := ⟨_, rfl⟩
        have ww : IntKind.i64.wrap (ta * fc) = m := by rw [IntWalk.i64_in _ (by omega)]; exact hm.symm
        rw [← hm] at j1' j2' j3'
        have ww2 : IntKind.i64.wrap (fa + m) = fa + m := IntWalk.i64_in _ (by omega)
        have fz := kc.frozen 0
        obtain ⟨q0, -, -⟩ := bk3 kc
        have HMM := Lib.hid hm
        clear hm
        go_wp2_with fail
        have ik0 : (0 : Int) ≤ (k : Int) := by omega
        have ik1 : (k : Int) < (n : Int) := by omega
        refine wp_region_M 21 (by kernel_rfl) (fun Y => Y.cell? ⟨w.heap.size, 2, none⟩ = some (.slice (some ad) n c3) ∧ Y.cell? ⟨w.heap.size, 3, none⟩ = some (.slice (some ad') n c4) ∧ Y.cell? (ad.add (k * 3)) = some (.int .i64 fa) ∧ Y.cell? (ad'.add (k * 3)) = some (.int .i64 ta) ∧ Y.cell? ⟨(ad.add (k * 3)).block, (ad.add (k * 3)).off + 2, none⟩ = some (.int .i64 fc)) ⟨e2, e3, t0', u0', t2'⟩ (fun hS => ?_)
        refine takeM (i := 0) (v := ?_) rfl (by kernel_rfl) (by decide) (by kernel_rfl) (by kernel_rfl) (by kernel_rfl) (fun _ _ _ h => h) (by rfl) (by assumption) ?_ ?_
        rotate_left
        · intro w hSw; (try dsimp only at hSw); go_simp <;> with_reducible rfl
        try simp only [Act.put, List.setIfInBounds_toArray, List.set_cons_zero, List.set_cons_succ]
        refine takeM (i := 1) (v := ?_) rfl (by kernel_rfl) (by decide) (by kernel_rfl) (by kernel_rfl) (by kernel_rfl) (fun _ _ _ h => h) (by rfl) (by assumption) ?_ ?_
        rotate_left
        · intro w hSw; (try dsimp only at hSw); go_simp <;> with_reducible rfl
        try simp only [Act.put, List.setIfInBounds_toArray, List.set_cons_zero, List.set_cons_succ]
        refine takeM (i := 2) (v := ?_) rfl (by kernel_rfl) (by decide) (by kernel_rfl) (by kernel_rfl) (by kernel_rfl) (fun _ _ _ h => h) (by rfl) (by assumption) ?_ ?_
        rotate_left
        · intro w hSw; (try dsimp only at hSw); go_simp <;> with_reducible rfl
        try simp only [Act.put, List.setIfInBounds_toArray, List.set_cons_zero, List.set_cons_succ]
        refine takeM (i := 3) (v := ?_) rfl (by kernel_rfl) (by decide) (by kernel_rfl) (by kernel_rfl) (by kernel_rfl) (fun _ _ _ h => h) (by rfl) (by assumption) ?_ ?_
        rotate_left
        · intro w hSw; (try dsimp only at hSw); go_simp <;> with_reducible rfl
        try simp only [Act.put, List.setIfInBounds_toArray, List.set_cons_zero, List.set_cons_succ]
        refine takeM (i := 4) (v := ?_) rfl (by kernel_rfl) (by decide) (by kernel_rfl) (by kernel_rfl) (by kernel_rfl) (fun _ _ _ h => h) (by rfl) (by assumption) ?_ ?_
        rotate_left
        · intro w hSw; (try dsimp only at hSw); go_simp <;> with_reducible rfl
        try simp only [Act.put, List.setIfInBounds_toArray, List.set_cons_zero, List.set_cons_succ]
        refine takeM (i := 5) (v := ?_) rfl (by kernel_rfl) (by decide) (by kernel_rfl) (by kernel_rfl) (by kernel_rfl) (fun _ _ _ h => h) (by rfl) (by assumption) ?_ ?_
        rotate_left
        · intro w hSw; (try dsimp only at hSw); go_simp <;> with_reducible rfl
        try simp only [Act.put, List.setIfInBounds_toArray, List.set_cons_zero, List.set_cons_succ]
        refine takeM (i := 6) (v := ?_) rfl (by kernel_rfl) (by decide) (by kernel_rfl) (by kernel_rfl) (by kernel_rfl) (fun _ _ _ h => h) (by rfl) (by assumption) ?_ ?_
        rotate_left
        · intro w hSw; (try dsimp only at hSw); go_simp <;> with_reducible rfl
        try simp only [Act.put, List.setIfInBounds_toArray, List.set_cons_zero, List.set_cons_succ]
        refine takeM (i := 7) (v := ?_) rfl (by kernel_rfl) (by decide) (by kernel_rfl) (by kernel_rfl) (by kernel_rfl) (fun _ _ _ h => h) (by rfl) (by assumption) ?_ ?_
        rotate_left
        · intro w hSw; (try dsimp only at hSw); go_simp <;> with_reducible rfl
        try simp only [Act.put, List.setIfInBounds_toArray, List.set_cons_zero, List.set_cons_succ]
        refine takeM (i := 8) (v := ?_) rfl (by kernel_rfl) (by decide) (by kernel_rfl) (by kernel_rfl) (by kernel_rfl) (fun _ _ _ h => h) (by rfl) (by assumption) ?_ ?_
        rotate_left
        · intro w hSw; (try dsimp only at hSw); go_simp <;> with_reducible rfl
        try simp only [Act.put, List.setIfInBounds_toArray, List.set_cons_zero, List.set_cons_succ]
        refine takeM (i := 9) (v := ?_) rfl (by kernel_rfl) (by decide) (by kernel_rfl) (by kernel_rfl) (by kernel_rfl) (fun _ _ _ h => h) (by rfl) (by assumption) ?_ ?_
        rotate_left
        · intro w hSw; (try dsimp only at hSw); go_simp <;> with_reducible rfl
        try simp only [Act.put, List.setIfInBounds_toArray, List.set_cons_zero, List.set_cons_succ]
        refine takeM (i := 10) (v := ?_) rfl (by kernel_rfl) (by decide) (by kernel_rfl) (by kernel_rfl) (by kernel_rfl) (fun _ _ _ h => h) (by rfl) (by assumption) ?_ ?_
        rotate_left
        · intro w hSw; (try dsimp only at hSw); go_simp <;> with_reducible rfl
        try simp only [Act.put, List.setIfInBounds_toArray, List.set_cons_zero, List.set_cons_succ]
        refine takeM (i := 11) (v := ?_) rfl (by kernel_rfl) (by decide) (by kernel_rfl) (by kernel_rfl) (by kernel_rfl) (fun _ _ _ h => h) (by rfl) (by assumption) ?_ ?_
        rotate_left
        · intro w hSw; (try dsimp only at hSw); go_simp <;> with_reducible rfl
        try simp only [Act.put, List.setIfInBounds_toArray, List.set_cons_zero, List.set_cons_succ]
        refine takeM (i := 12) (v := ?_) rfl (by kernel_rfl) (by decide) (by kernel_rfl) (by kernel_rfl) (by kernel_rfl) (fun _ _ _ h => h) (by rfl) (by assumption) ?_ ?_
        rotate_left
        · intro w hSw; (try dsimp only at hSw); go_simp <;> with_reducible rfl
        try simp only [Act.put, List.setIfInBounds_toArray, List.set_cons_zero, List.set_cons_succ]
        refine takeM (i := 13) (v := ?_) rfl (by kernel_rfl) (by decide) (by kernel_rfl) (by kernel_rfl) (by kernel_rfl) (fun _ _ _ h => h) (by rfl) (by assumption) ?_ ?_
        rotate_left
        · intro w hSw; (try dsimp only at hSw); go_simp <;> with_reducible rfl
        try simp only [Act.put, List.setIfInBounds_toArray, List.set_cons_zero, List.set_cons_succ]
        refine takeM (i := 14) (v := ?_) rfl (by kernel_rfl) (by decide) (by kernel_rfl) (by kernel_rfl) (by kernel_rfl) (fun _ _ _ h => h) (by rfl) (by assumption) ?_ ?_
        rotate_left
        · intro w hSw; (try dsimp only at hSw); go_simp <;> with_reducible rfl
        try simp only [Act.put, List.setIfInBounds_toArray, List.set_cons_zero, List.set_cons_succ]
        refine takeM (i := 15) (v := ?_) rfl (by kernel_rfl) (by decide) (by kernel_rfl) (by kernel_rfl) (by kernel_rfl) (fun _ _ _ h => h) (by rfl) (by assumption) ?_ ?_
        rotate_left
        · intro w hSw; (try dsimp only at hSw); go_simp <;> with_reducible rfl
        try simp only [Act.put, List.setIfInBounds_toArray, List.set_cons_zero, List.set_cons_succ]
        refine takeM (i := 16) (v := ?_) rfl (by kernel_rfl) (by decide) (by kernel_rfl) (by kernel_rfl) (by kernel_rfl) (fun _ _ _ h => h) (by rfl) (by assumption) ?_ ?_
        rotate_left
        · intro w hSw; (try dsimp only at hSw); go_simp <;> with_reducible rfl
        try simp only [Act.put, List.setIfInBounds_toArray, List.set_cons_zero, List.set_cons_succ]
        refine takeM (i := 17) (v := ?_) rfl (by kernel_rfl) (by decide) (by kernel_rfl) (by kernel_rfl) (by kernel_rfl) (fun _ _ _ h => h) (by rfl) (by assumption) ?_ ?_
        rotate_left
        · intro w hSw; (try dsimp only at hSw); go_simp <;> with_reducible rfl
        try simp only [Act.put, List.setIfInBounds_toArray, List.set_cons_zero, List.set_cons_succ]
        refine takeM (i := 18) (v := ?_) rfl (by kernel_rfl) (by decide) (by kernel_rfl) (by kernel_rfl) (by kernel_rfl) (fun _ _ _ h => h) (by rfl) (by assumption) ?_ ?_
        rotate_left
        · intro w hSw; (try dsimp only at hSw); go_simp <;> with_reducible rfl
        try simp only [Act.put, List.setIfInBounds_toArray, List.set_cons_zero, List.set_cons_succ]
        refine takeM (i := 19) (v := ?_) rfl (by kernel_rfl) (by decide) (by kernel_rfl) (by kernel_rfl) (by kernel_rfl) (fun _ _ _ h => h) (by rfl) (by assumption) ?_ ?_
        rotate_left
        · intro w hSw; (try dsimp only at hSw); go_simp <;> with_reducible rfl
        try simp only [Act.put, List.setIfInBounds_toArray, List.set_cons_zero, List.set_cons_succ]
        refine takeM (i := 20) (v := ?_) rfl (by kernel_rfl) (by decide) (by kernel_rfl) (by kernel_rfl) (by kernel_rfl) (fun _ _ _ h => h) (by rfl) (by assumption) ?_ ?_
        rotate_left
        · intro w hSw; (try dsimp only at hSw); go_simp <;> with_reducible rfl
        try simp only [Act.put, List.setIfInBounds_toArray, List.set_cons_zero, List.set_cons_succ]
        refine stepM (i := 21) rfl (by kernel_rfl) (fun K0 hK0 => ?_)
        go_simp
        refine hK0.out _ _ (fun h => absurd rfl h) (fun _ => ?_)
        clear hK0 K0 hS
        try simp only [Act.put, List.setIfInBounds_toArray, List.set_cons_zero, List.set_cons_succ]
        refine doneM (by kernel_rfl) ?_ _
        clear q0 fz ww ww2
        have c7 : Below wr.heap.size w6 (w6.setCell ⟨wr.heap.size, 0, none⟩ (.int .i64 (fa + m))).drew := ((Below.refl _ _).setCell (p := ⟨wr.heap.size, 0, none⟩) (Nat.le_refl _) _).drew
        have B8 : LwB w (.slice A1 a.1.length c1) (.slice A2 a.2.length c2) (.slice (some ad) n c3) (.slice (some ad') n c4) (w6.setCell ⟨wr.heap.size, 0, none⟩ (.int .i64 (fa + m))).drew := ⟨B7.below.trans (c7.mono (by omega)), B7.box.below c7 hy1⟩
        have hB8 : Below w5.heap.size w5 (w6.setCell ⟨wr.heap.size, 0, none⟩ (.int .i64 (fa + m))).drew := (hB7.setCell (p := ⟨wr.heap.size, 0, none⟩) hy4 _).drew
        have hown8 : (w6.setCell ⟨wr.heap.size, 0, none⟩ (.int .i64 (fa + m))).drew.ownsRow w5.heap.size 35 3 u7 k (krow (both (F.take k) (T.take k))) := OwnsRow_far hown7 (fun hg => hgo _ hg rfl) _
        have t27 := (c7.cell (p := ⟨(ad.add (k * 3)).block, (ad.add (k * 3)).off + 2, none⟩) hy2).trans t2'
        have u17 := (c7.cell (p := ⟨(ad'.add (k * 3)).block, (ad'.add (k * 3)).off + 1, none⟩) hy3).trans u1'
        have u27 := (c7.cell (p := ⟨(ad'.add (k * 3)).block, (ad'.add (k * 3)).off + 2, none⟩) hy3).trans u2'
        replace kc := (kc.put 0 (.int .i64 (fa + m))).drew
        simp only [List.setIfInBounds_toArray, List.set_cons_zero] at kc
        clear t0' t2' u0' u1' u2' B7 hB7 hown7 e0 e1 e2 e3 c7
        generalize (w6.setCell ⟨wr.heap.size, 0, none⟩ (.int .i64 (fa + m))).drew = w7 at *
        obtain ⟨e0, e1, e2, e3⟩ := B8.facts
        by_cases p1 : 1 < tb
        rotate_left
        · have HE : both1 (fa, fb, fc) (ta, tb, tc) = ((fa + m), tb, 1) := by
            unfold both1
            simp only
            rw [if_pos p0, if_neg p1, HMM.out]
          obtain ⟨q0, q1, q2⟩ := bk3 kc
          have HS2 := Lib.hid (HSN.out.trans (congrArg (fun z => both (F.take k) (T.take k) ++ [z]) HE))
          clear HE HSN kc
          go_wp2_with (at_builtin; refine wpL_append _ rfl (.tmp 126) (.tmp 128) _ rfl w5.heap.size 35 i0 _ 3 24 Tryd.underlying26 hi0 hz0 hz1 hz2 rfl (by omega) _ k _ rfl (hown8.alloc _) (some ⟨w7.heap.size, 0, none⟩) 1 1 [.int .i64 (fa + m), .int .i64 tb, .int .i64 1] rfl rfl (Rd.of_new w7 [.int .i64 (fa + m), .int .i64 tb, .int .i64 1] 35) (by intro u hu; simp at hu; rcases hu with rfl | rfl | rfl <;> rfl) (by unfold maxLen; omega) (by omega) (by have := hB8.size; simp; omega) ?_; intro v1 w10 hown10 hg1 hat1; have hB10 := below_app (hB8.alloc hB8.size _) hg1 (by have := hB8.size; simp; omega) (hown8.alloc _) (Nat.le_refl _); clear hg1 hat1)
          go_roundw
          case rel => exact ⟨k + 1, by omega, by go_num, (by rw [HS2.out, krow_app]; exact hown10), hB10⟩
          case measure => simp [intOf]; omega
        · obtain ⟨n1', n2'⟩ := hx2 p1
          clear hx2
          have ww : IntKind.i64.wrap (fc * tc) = fc * tc := IntWalk.i64_in _ (by omega)
          have fz := kc.frozen 2
          obtain ⟨-, -, q2⟩ := bk3 kc
          go_wp2_with fail
          have ik0 : (0 : Int) ≤ (k : Int) := by omega
          have ik1 : (k : Int) < (n : Int) := by omega
          refine wp_region_M 14 (by kernel_rfl) (fun Y => Y.cell? ⟨w.heap.size, 2, none⟩ = some (.slice (some ad) n c3) ∧ Y.cell? ⟨w.heap.size, 3, none⟩ = some (.slice (some ad') n c4) ∧ Y.cell? ⟨(ad.add (k * 3)).block, (ad.add (k * 3)).off + 2, none⟩ = some (.int .i64 fc) ∧ Y.cell? ⟨(ad'.add (k * 3)).block, (ad'.add (k * 3)).off + 2, none⟩ = some (.int .i64 tc)) ⟨e2, e3, t27, u27⟩ (fun hS => ?_)
          refine takeM (i := 0) (v := ?_) rfl (by kernel_rfl) (by decide) (by kernel_rfl) (by kernel_rfl) (by kernel_rfl) (fun _ _ _ h => h) (by rfl) (by assumption) ?_ ?_
          rotate_left
          · intro w hSw; (try dsimp only at hSw); go_simp <;> with_reducible rfl
          try simp only [Act.put, List.setIfInBounds_toArray, List.set_cons_zero, List.set_cons_succ]
          refine takeM (i := 1) (v := ?_) rfl (by kernel_rfl) (by decide) (by kernel_rfl) (by kernel_rfl) (by kernel_rfl) (fun _ _ _ h => h) (by rfl) (by assumption) ?_ ?_
          rotate_left
          · intro w hSw; (try dsimp only at hSw); go_simp <;> with_reducible rfl
          try simp only [Act.put, List.setIfInBounds_toArray, List.set_cons_zero, List.set_cons_succ]
          refine takeM (i := 2) (v := ?_) rfl (by kernel_rfl) (by decide) (by kernel_rfl) (by kernel_rfl) (by kernel_rfl) (fun _ _ _ h => h) (by rfl) (by assumption) ?_ ?_
          rotate_left
          · intro w hSw; (try dsimp only at hSw); go_simp <;> with_reducible rfl
          try simp only [Act.put, List.setIfInBounds_toArray, List.set_cons_zero, List.set_cons_succ]
          refine takeM (i := 3) (v := ?_) rfl (by kernel_rfl) (by decide) (by kernel_rfl) (by kernel_rfl) (by kernel_rfl) (fun _ _ _ h => h) (by rfl) (by assumption) ?_ ?_
          rotate_left
          · intro w hSw; (try dsimp only at hSw); go_simp <;> with_reducible rfl
          try simp only [Act.put, List.setIfInBounds_toArray, List.set_cons_zero, List.set_cons_succ]
          refine takeM (i := 4) (v := ?_) rfl (by kernel_rfl) (by decide) (by kernel_rfl) (by kernel_rfl) (by kernel_rfl) (fun _ _ _ h => h) (by rfl) (by assumption) ?_ ?_
          rotate_left
          · intro w hSw; (try dsimp only at hSw); go_simp <;> with_reducible rfl
          try simp only [Act.put, List.setIfInBounds_toArray, List.set_cons_zero, List.set_cons_succ]
          refine takeM (i := 5) (v := ?_) rfl (by kernel_rfl) (by decide) (by kernel_rfl) (by kernel_rfl) (by kernel_rfl) (fun _ _ _ h => h) (by rfl) (by assumption) ?_ ?_
          rotate_left
          · intro w hSw; (try dsimp only at hSw); go_simp <;> with_reducible rfl
          try simp only [Act.put, List.setIfInBounds_toArray, List.set_cons_zero, List.set_cons_succ]
          refine takeM (i := 6) (v := ?_) rfl (by kernel_rfl) (by decide) (by kernel_rfl) (by kernel_rfl) (by kernel_rfl) (fun _ _ _ h => h) (by rfl) (by assumption) ?_ ?_
          rotate_left
          · intro w hSw; (try dsimp only at hSw); go_simp <;> with_reducible rfl
          try simp only [Act.put, List.setIfInBounds_toArray, List.set_cons_zero, List.set_cons_succ]
          refine takeM (i := 7) (v := ?_) rfl (by kernel_rfl) (by decide) (by kernel_rfl) (by kernel_rfl) (by kernel_rfl) (fun _ _ _ h => h) (by rfl) (by assumption) ?_ ?_
          rotate_left
          · intro w hSw; (try dsimp only at hSw); go_simp <;> with_reducible rfl
          try simp only [Act.put, List.setIfInBounds_toArray, List.set_cons_zero, List.set_cons_succ]
          refine takeM (i := 8) (v := ?_) rfl (by kernel_rfl) (by decide) (by kernel_rfl) (by kernel_rfl) (by kernel_rfl) (fun _ _ _ h => h) (by rfl) (by assumption) ?_ ?_
          rotate_left
          · intro w hSw; (try dsimp only at hSw); go_simp <;> with_reducible rfl
          try simp only [Act.put, List.setIfInBounds_toArray, List.set_cons_zero, List.set_cons_succ]
          refine takeM (i := 9) (v := ?_) rfl (by kernel_rfl) (by decide) (by kernel_rfl) (by kernel_rfl) (by kernel_rfl) (fun _ _ _ h => h) (by rfl) (by assumption) ?_ ?_
          rotate_left
          · intro w hSw; (try dsimp only at hSw); go_simp <;> with_reducible rfl
          try simp only [Act.put, List.setIfInBounds_toArray, List.set_cons_zero, List.set_cons_succ]
          refine takeM (i := 10) (v := ?_) rfl (by kernel_rfl) (by decide) (by kernel_rfl) (by kernel_rfl) (by kernel_rfl) (fun _ _ _ h => h) (by rfl) (by assumption) ?_ ?_
          rotate_left
          · intro w hSw; (try dsimp only at hSw); go_simp <;> with_reducible rfl
          try simp only [Act.put, List.setIfInBounds_toArray, List.set_cons_zero, List.set_cons_succ]
          refine takeM (i := 11) (v := ?_) rfl (by kernel_rfl) (by decide) (by kernel_rfl) (by kernel_rfl) (by kernel_rfl) (fun _ _ _ h => h) (by rfl) (by assumption) ?_ ?_
          rotate_left
          · intro w hSw; (try dsimp only at hSw); go_simp <;> with_reducible rfl
          try simp only [Act.put, List.setIfInBounds_toArray, List.set_cons_zero, List.set_cons_succ]
          refine takeM (i := 12) (v := ?_) rfl (by kernel_rfl) (by decide) (by kernel_rfl) (by kernel_rfl) (by kernel_rfl) (fun _ _ _ h => h) (by rfl) (by assumption) ?_ ?_
          rotate_left
          · intro w hSw; (try dsimp only at hSw); go_simp <;> with_reducible rfl
          try simp only [Act.put, List.setIfInBounds_toArray, List.set_cons_zero, List.set_cons_succ]
          refine takeM (i := 13) (v := ?_) rfl (by kernel_rfl) (by decide) (by kernel_rfl) (by kernel_rfl) (by kernel_rfl) (fun _ _ _ h => h) (by rfl) (by assumption) ?_ ?_
          rotate_left
          · intro w hSw; (try dsimp only at hSw); go_simp <;> with_reducible rfl
          try simp only [Act.put, List.setIfInBounds_toArray, List.set_cons_zero, List.set_cons_succ]
          refine stepM (i := 14) rfl (by kernel_rfl) (fun K0 hK0 => ?_)
          go_simp
          refine hK0.out _ _ (fun h => absurd rfl h) (fun _ => ?_)
          clear hK0 K0 hS
          try simp only [Act.put, List.setIfInBounds_toArray, List.set_cons_zero, List.set_cons_succ]
          refine doneM (by kernel_rfl) ?_ _
          clear q2 fz ww
          have c8 : Below wr.heap.size w7 (w7.setCell ⟨wr.heap.size, 2, none⟩ (.int .i64 (fc * tc))).drew := ((Below.refl _ _).setCell (p := ⟨wr.heap.size, 2, none⟩) (Nat.le_refl _) _).drew
          have B9 : LwB w (.slice A1 a.1.length c1) (.slice A2 a.2.length c2) (.slice (some ad) n c3) (.slice (some ad') n c4) (w7.setCell ⟨wr.heap.size, 2, none⟩ (.int .i64 (fc * tc))).drew := ⟨B8.below.trans (c8.mono (by omega)), B8.box.below c8 hy1⟩
          have hB9 : Below w5.heap.size w5 (w7.setCell ⟨wr.heap.size, 2, none⟩ (.int .i64 (fc * tc))).drew := (hB8.setCell (p := ⟨wr.heap.size, 2, none⟩) hy4 _).drew
          have hown9 : (w7.setCell ⟨wr.heap.size, 2, none⟩ (.int .i64 (fc * tc))).drew.ownsRow w5.heap.size 35 3 u7 k (krow (both (F.take k) (T.take k))) := OwnsRow_far hown8 (fun hg => hgo _ hg rfl) _
          have t28 := (c8.cell (p := ⟨(ad.add (k * 3)).block, (ad.add (k * 3)).off + 2, none⟩) hy2).trans t27
          have u18 := (c8.cell (p := ⟨(ad'.add (k * 3)).block, (ad'.add (k * 3)).off + 1, none⟩) hy3).trans u17
          have u28 := (c8.cell (p := ⟨(ad'.add (k * 3)).block, (ad'.add (k * 3)).off + 2, none⟩) hy3).trans u27
          replace kc := (kc.put 2 (.int .i64 (fc * tc))).drew
          simp only [List.setIfInBounds_toArray, List.set_cons_zero, List.set_cons_succ] at kc
          clear t27 u17 u27 B8 hB8 hown8 e0 e1 e2 e3 c8
          generalize (w7.setCell ⟨wr.heap.size, 2, none⟩ (.int .i64 (fc * tc))).drew = w8 at *
          obtain ⟨e0, e1, e2, e3⟩ := B9.facts
          have HE : both1 (fa, fb, fc) (ta, tb, tc) = ((fa + m), tb, (fc * tc)) := by
            unfold both1
            simp only
            rw [if_pos p0, if_pos p1, HMM.out]
          obtain ⟨q0, q1, q2⟩ := bk3 kc
          have HS2 := Lib.hid (HSN.out.trans (congrArg (fun z => both (F.take k) (T.take k) ++ [z]) HE))
          clear HE HSN kc
          go_wp2_with (at_builtin; refine wpL_append _ rfl (.tmp 126) (.tmp 128) _ rfl w5.heap.size 35 i0 _ 3 24 Tryd.underlying26 hi0 hz0 hz1 hz2 rfl (by omega) _ k _ rfl (hown9.alloc _) (some ⟨w8.heap.size, 0, none⟩) 1 1 [.int .i64 (fa + m), .int .i64 tb, .int .i64 (fc * tc)] rfl rfl (Rd.of_new w8 [.int .i64 (fa + m), .int .i64 tb, .int .i64 (fc * tc)] 35) (by intro u hu; simp at hu; rcases hu with rfl | rfl | rfl <;> rfl) (by unfold maxLen; omega) (by omega) (by have := hB9.size; simp; omega) ?_; intro v1 w10 hown10 hg1 hat1; have hB10 := below_app (hB9.alloc hB9.size _) hg1 (by have := hB9.size; simp; omega) (hown9.alloc _) (Nat.le_refl _); clear hg1 hat1)
          go_roundw
          case rel => exact ⟨k + 1, by omega, by go_num, (by rw [HS2.out, krow_app]; exact hown10), hB10⟩
          case measure => simp [intOf]; omega
    · obtain rfl : k = n := by omega
      have hk9 := IsK.of_own hown
      rw [List.take_of_length_le (by rw [HNF.out]; exact Nat.le_refl _), List.take_of_length_le (by rw [HNT.out]; exact Nat.le_refl _)] at hk9
      have bx9 := bx.below hB bx.lt
      have hv9 := hv5.next (hB.mono (Nat.le_refl _))
      obtain ⟨y0, y1⟩ := bkA bx9
      have S10 := Lib.hid (S9.out wr B6.below _ hk9)
      have hB6 := B6.below
      clear hown hk9 bx hB
      go_wp2_with fail
      refine S10.out.mono ?_
      rintro r w11 ⟨hb11, v3, rfl, hv3⟩
      obtain ⟨X1, x1, X2, x2, rfl, -, -⟩ := hv3.form
      have B11 := B6.next hb11
      have l4 := bx9.lt
      have l11 : w4.heap.size < w11.heap.size := by have := hb11.size; omega
      replace y0 := (hb11.cell (p := ⟨w4.heap.size, 0, none⟩) l4).trans y0
      replace y1 := (hb11.cell (p := ⟨w4.heap.size, 1, none⟩) l4).trans y1
      generalize (sliceR (sliceR a F).1 T).1.1.length = i1 at *
      generalize (sliceR (sliceR a F).1 T).1.2.length = i2 at *
      have b12 := below_alloc w11 (.cells #[.slice X1 i1 x1, .slice X2 i2 x2] 25)
      have B12 := B11.next b12
      have AG2 := Lib.hid (AG.out _ _ _ (hv3.next b12) ((hv9.next hb11).next b12))
      clear AG hv3 hv9 S9 S10 HM HLW HBI B11 e0 e1 e2 e3
      go_wp2_with fail
      refine AG2.out.mono ?_
      rintro r w13 ⟨hb13, rfl⟩
      have B13 := B12.next hb13
      go_wp2_with fail
      refine (SN.out w13 B13.below).mono ?_
      rintro r w14 ⟨hb14, rfl⟩
      go_wp2
      go_ret
      exact ⟨(B13.next hb14).below, rfl⟩
end Go.Proofs.YtihcefiffblikaaDoor
