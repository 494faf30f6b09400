/-
  Walks: texts of numbers of any form: ReadLong; Read; Valid.
  Walks: texts of numbers of at most 40 digits: Read, quantity.Valid, regrid's value.
-/
import Derived.Test.YtpkhgdnkkdhlcaaGreatDoorReadC
import Derived.Test.YtpkhgdnkkdhlcaaGreatDoorNaX
import Derived.Test.YtpkhgdnkkdhlcaaGreatDoorFrX
import Derived.Test.YtpkhgdnkkdhlcaaGreatDoorNumX
namespace Go.Proofs.YtpkhgdnkkdhlcaaGreatDoor
open Go.RowKit Ar

/-- A sign, a numerator and a denominator in memory are their number. -/
theorem parts_isF {w : World} {B : Nat} {N D : Value} (s : Bool) (n d : Nat) (hd : 0 < d) (hg : Nat.gcd n d = 1) (hs : n = 0 → s = false) (hN : IsN w B .u32 N n) (hD : IsN w B .u32 D d) : IsF w B (.agg #[.bool s, N, D]) (nr s n d) := by
  refine IsF.of ?_ ?_ ?_ hN hD
  · rcases Nat.eq_zero_or_pos n with h0 | h0
    · rw [h0, nr_zero, sg_zero, hs h0]
    · exact sg_nr _ hd h0
  · rw [nm_nr _ hd, hg, Nat.div_one]
  · rw [dn_nr _ hd, hg, Nat.div_one]
/-- The parts of a number's text in memory are its number. -/
theorem text_isF {w : World} {B : Nat} {N D : Value} {l : List UInt8} (h : IsText l) (hN : IsN w B .u32 N (dval (cut47 (unsign l)).1)) (hD : IsN w B .u32 D (match (cut47 (unsign l)).2 with | none => 1 | some m => dval m)) :
    IsF w B (.agg #[.bool (isNeg l), N, D]) (textRat l) := by
  obtain ⟨ha, hs, hb⟩ := h
  have hz : dval (cut47 (unsign l)).1 = 0 → isNeg l = false := fun h0 => by
    have := (canon_zero ha).1 h0
    cases hn : isNeg l
    · rfl
    · exact absurd this (hs hn)
  unfold textRat
  cases hm : (cut47 (unsign l)).2 with
  | none =>
    rw [hm] at hD
    exact parts_isF _ _ 1 Nat.one_pos (Nat.gcd_one_right _) hz hN hD
  | some m =>
    rw [hm] at hD
    exact parts_isF _ _ (dval m) (dval_pos (hb m hm).1 (hb m hm).2.1) (hb m hm).2.2.2.2 hz hN hD
theorem far_none {l : List UInt8} (h : ¬ IntText l) (ho : (cut47 (unsign l)).2.isSome = false) (hc : Canon (cut47 (unsign l)).1) : isNeg l = true ∧ (cut47 (unsign l)).1 = [48] := by
  have e : unsign l = (cut47 (unsign l)).1 := by
    have := (cut47_eq (unsign l)).2
    cases hm : (cut47 (unsign l)).2 with
    | none => rw [hm, List.append_nil] at this; exact this
    | some m => rw [hm] at ho; cases ho
  cases hg : isNeg l with
  | false => exact absurd ⟨by rw [e]; exact hc, fun h => by rw [hg] at h; cases h⟩ h
  | true =>
    refine ⟨rfl, ?_⟩
    by_cases h0 : (cut47 (unsign l)).1 = [48]
    · exact h0
    · exact absurd ⟨by rw [e]; exact hc, fun _ => by rw [e]; exact h0⟩ h
theorem far_iff {l : List UInt8} (h : ¬ IntText l) : IsText l ↔ (cut47 (unsign l)).2.isSome = true ∧ Canon (cut47 (unsign l)).1 ∧ (cut47 (unsign l)).1 ≠ [48] ∧ Canon ((cut47 (unsign l)).2.getD []) ∧ ((cut47 (unsign l)).2.getD []) ≠ [48] ∧ ((cut47 (unsign l)).2.getD []) ≠ [49] ∧
    Nat.gcd (dval (cut47 (unsign l)).1) (dval ((cut47 (unsign l)).2.getD [])) = 1 := by
  constructor
  · rintro ⟨ha, hs, hb⟩
    cases hm : (cut47 (unsign l)).2 with
    | none =>
      have := far_none h (by rw [hm]; rfl) ha
      exact absurd this.2 (hs this.1)
    | some m =>
      obtain ⟨h1, h2, h3, h4, h5⟩ := hb m hm
      exact ⟨rfl, ha, h4, h1, h2, h3, h5⟩
  · rintro ⟨ho, ha, h4, h1, h2, h3, h5⟩
    refine ⟨ha, fun _ => h4, fun m hm => ?_⟩
    rw [hm] at h1 h2 h3 h5
    exact ⟨h1, h2, h3, h4, h5⟩
theorem calls_named {P : Program} {f : FuncId} {args : Array Value} {w : World} {Q : Ending → World → Prop} (F : World → Prop) (hF : F w) (h : ∀ W, F W → Calls P f args W Q) : Calls P f args w Q := h w hF
theorem cut47_len (l : List UInt8) : (cut47 l).1.length ≤ l.length ∧ ((cut47 l).2.getD []).length ≤ l.length := by
  have := congrArg List.length (cut47_eq l).2
  cases hm : (cut47 l).2 with
  | none => rw [hm] at this; simp at this; exact ⟨by omega, Nat.zero_le _⟩
  | some m => rw [hm] at this; simp at this; exact ⟨by omega, by show m.length ≤ _; omega⟩
theorem limbs_digs {l : List UInt8} (h : Digs l) : (limbs (dval l)).length ≤ l.length := by
  have h1 := dval_lt h
  exact limbs_len_le (Nat.lt_of_lt_of_le h1 (Nat.pow_le_pow_left (by decide) _))

set_option maxRecDepth 100000 in
set_option maxHeartbeats 6400000 in
theorem readlong_far (s : ByteArray) (w : World) (hs : s.size ≤ 4000000) (he : Env w) (hI : ¬ IntText s.data.toList) (ok : Bool) (hok : ok = true ↔ IsText s.data.toList) :
    Calls Tryz.prog 186 #[.string s] w fun e w' => Below w.heap.size w w' ∧ ∃ v, e = .returned (.tuple #[v, .bool ok]) ∧ (∃ b A n c A' n' c', v = .agg #[.bool b, .slice A n c, .slice A' n' c']) ∧ (ok = true → IsF w' w'.heap.size v (textRat s.data.toList)) := by
  have c1 := fun W => Tryz.strings_CutPrefix s ⟨#[45]⟩ W
  have e45 : (⟨#[45]⟩ : ByteArray).data.toList = [45] := rfl
  rw [e45, trimPrefix_45, hasPrefix_45] at c1
  have hl := unsign_len s.data.toList
  rw [size_list] at hl
  have hcl := cut47_len (unsign s.data.toList)
  have hfi := far_iff hI
  have hfn := far_none hI
  have hF := fun h => @text_isF (l := s.data.toList) (h := h)
  obtain ⟨r, hr⟩ : ∃ r : ByteArray, r = ⟨(unsign s.data.toList).toArray⟩ := ⟨_, rfl⟩
  have hu : r.data.toList = unsign s.data.toList := by rw [hr]
  rw [← hr] at c1
  have hus : r.size ≤ 4000000 := by rw [hr, mk_size]; omega
  obtain ⟨q, hq⟩ : ∃ q : ByteArray, q = ⟨(cut47 (unsign s.data.toList)).1.toArray⟩ := ⟨_, rfl⟩
  obtain ⟨m, hm⟩ : ∃ m : ByteArray, m = ⟨((cut47 (unsign s.data.toList)).2.getD []).toArray⟩ := ⟨_, rfl⟩
  have C2 := fun W => cut_any r W hus
  rw [hu, ← hq, ← hm] at C2
  have hq1 : q.data.toList = (cut47 (unsign s.data.toList)).1 := by rw [hq]
  have hm1 : m.data.toList = (cut47 (unsign s.data.toList)).2.getD [] := by rw [hm]
  have hqs : q.size ≤ 4000000 := by rw [hq, mk_size]; omega
  have hms : m.size ≤ 4000000 := by rw [hm, mk_size]; omega
  rw [← hok, ← hq1, ← hm1] at hfi
  rw [← hq1] at hfn
  have HFF : Hid (ok = true → (cut47 (unsign s.data.toList)).2.isSome = true → ∀ (W : World) (N D : Value), IsN W W.heap.size .u32 N (dval q.data.toList) → IsN W W.heap.size .u32 D (dval m.data.toList) → IsF W W.heap.size (.agg #[.bool (isNeg s.data.toList), N, D]) (textRat s.data.toList)) := by
    intro h1 h2 W N D hN hD
    refine text_isF (hok.1 h1) (by rw [← hq1]; exact hN) ?_
    rw [hm1] at hD
    cases hc : (cut47 (unsign s.data.toList)).2 with
    | none => rw [hc] at h2; cases h2
    | some x => rw [hc] at hD; exact hD
  clear hF hok hq hm hq1 hm1 hr hu hl hcl hI e45
  generalize isNeg s.data.toList = g at *
  generalize (cut47 (unsign s.data.toList)).2.isSome = ov at *
  generalize textRat s.data.toList = qq at *
  have HOK := Lib.hid hfi
  have HNI := Lib.hid hfn
  have HNO : Hid (¬ (ov = true ∧ Canon q.data.toList ∧ q.data.toList ≠ [48] ∧ Canon m.data.toList ∧ m.data.toList ≠ [48] ∧ m.data.toList ≠ [49] ∧ Nat.gcd (dval q.data.toList) (dval m.data.toList) = 1) → ok = false) := fun h => by
    cases ho : ok with
    | false => rfl
    | true => exact absurd (hfi.1 ho) h
  clear hfi hfn
  go_enter Tryz.func186, Tryz.ntmps186
  go_wp2_with fail
  refine (c1 _).mono ?_
  rintro e w1 ⟨rfl, rfl⟩
  go_wp2_with fail
  refine (C2 _ (he.alloc _)).mono ?_
  rintro e w1 ⟨rfl, n1, rfl⟩
  have hB1 : Below w.heap.size w ((w.alloc (.cells #[Value.bool false, .slice none 0 0, .slice none 0 0] 102)).drewN n1) := below_drewN (below_alloc w _) n1
  have k1 := (Bk.new w 102 #[Value.bool false, .slice none 0 0, .slice none 0 0]).drewN n1
  generalize ((w.alloc (.cells #[Value.bool false, .slice none 0 0, .slice none 0 0] 102)).drewN n1) = W1 at *
  obtain ⟨d0, d1, d2⟩ := bk3 k1
  have f0 := k1.frozen 0
  have f1 := k1.frozen 1
  have f2 := k1.frozen 2
  clear he c1 C2 hus
  go_wp2_with fail
  refine (plain_any q _ hqs).mono ?_
  rintro e w2 ⟨rfl, b, rfl, hb⟩
  cases b
  · have hnc : ¬ Canon q.data.toList := fun h => by simpa using hb.2 h
    clear hb
    have hk : ok = false := HNO.out (fun h => hnc h.2.1)
    subst hk
    clear HNO HOK HNI
    go_wp2
    refine bodyPost_ret (v := .tuple #[.agg #[.bool false, .slice none 0 0, .slice none 0 0], .bool false]) (by simp [results, Tryz.results186, go_sem, d0, d1, d2]) rfl ?_
    exact ⟨set3_below hB1 (Nat.le_refl _), _, rfl, ⟨_, _, _, _, _, _, _, rfl⟩, fun h => (by cases h)⟩
  have hcq := hb.1 rfl
  clear hb
  by_cases z0 : q.data.toList = [48]
  · have t0 : (q.toList == [48]) = true := by rw [bs_toList, z0]; rfl
    have hk : ok = false := HNO.out (fun h => h.2.2.1 z0)
    subst hk
    cases g
    · cases ov
      · have := (HNI.out rfl hcq).1
        cases this
      clear HNO HOK HNI HFF z0 hcq
      go_wp2_with fail
      refine (plain_any m _ hms).mono ?_
      rintro e w2 ⟨rfl, b, rfl, hb⟩
      clear hb
      cases b
      · go_wp2
        refine bodyPost_ret (v := .tuple #[.agg #[.bool false, .slice none 0 0, .slice none 0 0], .bool false]) (by simp [results, Tryz.results186, go_sem, d0, d1, d2]) rfl ?_
        exact ⟨set3_below hB1 (Nat.le_refl _), _, rfl, ⟨_, _, _, _, _, _, _, rfl⟩, fun h => (by cases h)⟩
      cases t1 : (m.toList == [48])
      · cases t2 : (m.toList == [49])
        · go_wp2
          refine bodyPost_ret (v := .tuple #[.agg #[.bool false, .slice none 0 0, .slice none 0 0], .bool false]) (by simp [results, Tryz.results186, go_sem, d0, d1, d2]) rfl ?_
          exact ⟨set3_below hB1 (Nat.le_refl _), _, rfl, ⟨_, _, _, _, _, _, _, rfl⟩, fun h => (by cases h)⟩
        · go_wp2
          refine bodyPost_ret (v := .tuple #[.agg #[.bool false, .slice none 0 0, .slice none 0 0], .bool false]) (by simp [results, Tryz.results186, go_sem, d0, d1, d2]) rfl ?_
          exact ⟨set3_below hB1 (Nat.le_refl _), _, rfl, ⟨_, _, _, _, _, _, _, rfl⟩, fun h => (by cases h)⟩
      · go_wp2
        refine bodyPost_ret (v := .tuple #[.agg #[.bool false, .slice none 0 0, .slice none 0 0], .bool false]) (by simp [results, Tryz.results186, go_sem, d0, d1, d2]) rfl ?_
        exact ⟨set3_below hB1 (Nat.le_refl _), _, rfl, ⟨_, _, _, _, _, _, _, rfl⟩, fun h => (by cases h)⟩
    clear HNO HOK HNI HFF z0 hcq
    go_wp2
    refine bodyPost_ret (v := .tuple #[.agg #[.bool false, .slice none 0 0, .slice none 0 0], .bool false]) (by simp [results, Tryz.results186, go_sem, d0, d1, d2]) rfl ?_
    exact ⟨set3_below hB1 (Nat.le_refl _), _, rfl, ⟨_, _, _, _, _, _, _, rfl⟩, fun h => (by cases h)⟩
  have t0 : (q.toList == [48]) = false := by rw [bs_toList, beq_eq_false_iff_ne]; exact z0
  cases ov
  · exact absurd (HNI.out rfl hcq).2 z0
  have HCQ := Lib.hid hcq
  have HZ0 := Lib.hid z0
  clear hcq z0 HNI
  cases g
  · go_wp2_with fail
    refine (plain_any m _ hms).mono ?_
    rintro e w2 ⟨rfl, b, rfl, hb⟩
    cases b
    · have hnc : ¬ Canon m.data.toList := fun h => by simpa using hb.2 h
      clear hb
      have hk : ok = false := HNO.out (fun h => hnc h.2.2.2.1)
      subst hk
      clear HNO HOK
      go_wp2
      refine bodyPost_ret (v := .tuple #[.agg #[.bool false, .slice none 0 0, .slice none 0 0], .bool false]) (by simp [results, Tryz.results186, go_sem, d0, d1, d2]) rfl ?_
      exact ⟨set3_below hB1 (Nat.le_refl _), _, rfl, ⟨_, _, _, _, _, _, _, rfl⟩, fun h => (by cases h)⟩
    have hcm := hb.1 rfl
    clear hb
    by_cases z1 : m.data.toList = [48]
    · have t1 : (m.toList == [48]) = true := by rw [bs_toList, z1]; rfl
      have hk : ok = false := HNO.out (fun h => h.2.2.2.2.1 z1)
      subst hk
      clear HNO HOK
      go_wp2
      refine bodyPost_ret (v := .tuple #[.agg #[.bool false, .slice none 0 0, .slice none 0 0], .bool false]) (by simp [results, Tryz.results186, go_sem, d0, d1, d2]) rfl ?_
      exact ⟨set3_below hB1 (Nat.le_refl _), _, rfl, ⟨_, _, _, _, _, _, _, rfl⟩, fun h => (by cases h)⟩
    by_cases z2 : m.data.toList = [49]
    · have t1 : (m.toList == [48]) = false := by rw [bs_toList, beq_eq_false_iff_ne]; exact z1
      have t2 : (m.toList == [49]) = true := by rw [bs_toList, z2]; rfl
      have hk : ok = false := HNO.out (fun h => h.2.2.2.2.2.1 z2)
      subst hk
      clear HNO HOK
      go_wp2
      refine bodyPost_ret (v := .tuple #[.agg #[.bool false, .slice none 0 0, .slice none 0 0], .bool false]) (by simp [results, Tryz.results186, go_sem, d0, d1, d2]) rfl ?_
      exact ⟨set3_below hB1 (Nat.le_refl _), _, rfl, ⟨_, _, _, _, _, _, _, rfl⟩, fun h => (by cases h)⟩
    have t1 : (m.toList == [48]) = false := by rw [bs_toList, beq_eq_false_iff_ne]; exact z1
    have t2 : (m.toList == [49]) = false := by rw [bs_toList, beq_eq_false_iff_ne]; exact z2
    have HOKG : Hid (ok = decide (Nat.gcd (dval q.data.toList) (dval m.data.toList) = 1)) := by
      show _ = _
      rw [Bool.eq_iff_iff, decide_eq_true_iff, HOK.out]
      exact ⟨fun h => h.2.2.2.2.2.2, fun h => ⟨trivial, HCQ.out, HZ0.out, hcm, z1, z2, h⟩⟩
    have HCM := Lib.hid hcm
    have HP := Lib.hid (dval_pos hcm z1)
    clear hcm z1 z2 HOK HNO
    go_wp2_with fail
    refine (digits_any q _ hqs HCQ.out.1).mono ?_
    rintro e w3 ⟨hb3, N, rfl, hN⟩
    obtain ⟨A, l, c, rfl⟩ := hN.form
    have k3 := k1.below hb3 k1.lt
    have hB3 := hB1.trans (hb3.mono hB1.size)
    clear d0 d1 d2 f0 f1 f2
    have lt1 := k1.lt
    have hs3 := hb3.size
    have hr3 : w.heap.size < w3.heap.size := Nat.lt_of_lt_of_le lt1 hs3
    go_wp2_with fail
    refine calls_named (fun W => Below w3.heap.size w3 W ∧ Bk W (w3.heap.size + 1) 102 #[.bool false, .slice A l c, .slice (some ⟨w3.heap.size, 0, none⟩) 1 1]) ⟨(below_alloc w3 _).alloc (by simp) _, (by simpa using Bk.new (w3.alloc _) 102 #[.bool false, .slice A l c, .slice (some ⟨w3.heap.size, 0, none⟩) 1 1])⟩ ?_
    rintro W4 ⟨hb4, k4⟩
    refine (digits_any m _ hms HCM.out.1).mono ?_
    rintro e w5 ⟨hb5, D, rfl, hD⟩
    obtain ⟨A', l', c', rfl⟩ := hD.form
    have k5 := k4.below hb5 k4.lt
    have hb35 := hb4.trans (hb5.mono hb4.size)
    have kr5 := k3.below hb35 k3.lt
    have hN5 := hN.next hb35
    have hB5 := hB3.trans (hb35.mono hB3.size)
    obtain ⟨e0, e1, e2⟩ := bk3 k5
    have f2 := k5.frozen 2
    have hne : w.heap.size ≠ w3.heap.size + 1 := by omega
    have hN6 := (hN5.put_far (p := ⟨w3.heap.size + 1, 2, none⟩) e2 (by simp) (.slice A' l' c')).more (B' := (w5.setCell ⟨w3.heap.size + 1, 2, none⟩ (.slice A' l' c')).heap.size) (by simp [World.setCell])
    have hD6 := (hD.put_far (p := ⟨w3.heap.size + 1, 2, none⟩) e2 (by simp) (.slice A' l' c')).more (B' := (w5.setCell ⟨w3.heap.size + 1, 2, none⟩ (.slice A' l' c')).heap.size) (by simp [World.setCell])
    have k6 := k5.put 2 (.slice A' l' c')
    have kr6 := kr5.far (p := ⟨w3.heap.size + 1, 2, none⟩) hne (.slice A' l' c')
    have hB6 := hB5.setCell (p := ⟨w3.heap.size + 1, 2, none⟩) (by show w.heap.size ≤ w3.heap.size + 1; omega) (.slice A' l' c')
    clear hN hD hN5 k3 kr5 hB3 hB5 hb3 hb4 hb5 hb35 hs3 k4 k1 hB1
    go_wp2_with fail
    refine wp_name (fun W => Below w.heap.size w W ∧ Bk W (w3.heap.size + 1) 102 #[.bool false, .slice A l c, .slice A' l' c'] ∧ Bk W w.heap.size 102 #[.bool false, .slice none 0 0, .slice none 0 0] ∧ IsN W W.heap.size .u32 (.slice A l c) (dval q.data.toList) ∧ IsN W W.heap.size .u32 (.slice A' l' c') (dval m.data.toList)) ⟨hB6, k6, kr6, hN6, hD6⟩ ?_
    rintro W ⟨hB, kf, kr, hNW, hDW⟩
    clear hB6 k6 kr6 hN6 hD6 e0 e1 e2 f2 k5
    have hl1 : (limbs (dval q.data.toList)).length ≤ 4000000 := Nat.le_trans (limbs_digs HCQ.out.1) (by rw [size_list]; exact hqs)
    have hl2 : (limbs (dval m.data.toList)).length ≤ 4000000 := Nat.le_trans (limbs_digs HCM.out.1) (by rw [size_list]; exact hms)
    have hl3 : (limbs (Nat.gcd (dval q.data.toList) (dval m.data.toList))).length ≤ 1000000000000 := Nat.le_trans (len_mono (Nat.gcd_le_right _ HP.out)) (by omega)
    generalize dval q.data.toList = n at *
    generalize dval m.data.toList = d at *
    obtain ⟨a0, a1, a2⟩ := bk3 kf
    obtain ⟨r0, r1, r2⟩ := bk3 kr
    have g0 := kr.frozen 0
    have g1 := kr.frozen 1
    have g2 := kr.frozen 2
    have HKF := Lib.hid kf.drew
    have HKR := Lib.hid kr.drew
    have HB := Lib.hid hB.drew
    have HN := Lib.hid hNW.drew
    have HD := Lib.hid hDW.drew
    have hsz := set3_size W.drew w.heap.size
    have HKS := Lib.hid (set3_bk (x := .bool false) (y := .slice A l c) (z := .slice A' l' c') kr.drew)
    have HKFS := Lib.hid (bk_far3 (b' := w.heap.size) (x := .bool false) (y := .slice A l c) (z := .slice A' l' c') kf.drew (by omega))
    have HBS := Lib.hid (set3_below (x := .bool false) (y := .slice A l c) (z := .slice A' l' c') hB.drew (Nat.le_refl _))
    have HNS := Lib.hid ((hNW.drew.set3 kr.drew (.bool false) (.slice A l c) (.slice A' l' c')).more (B' := (set3 W.drew w.heap.size (.bool false) (.slice A l c) (.slice A' l' c')).heap.size) (by rw [set3_size]; exact Nat.le_refl _))
    have HDS := Lib.hid ((hDW.drew.set3 kr.drew (.bool false) (.slice A l c) (.slice A' l' c')).more (B' := (set3 W.drew w.heap.size (.bool false) (.slice A l c) (.slice A' l' c')).heap.size) (by rw [set3_size]; exact Nat.le_refl _))
    clear hsz hB kf kr hNW hDW
    go_region_held3 (fun X => X.cell? ⟨w3.heap.size + 1, 0, none⟩ = some (.bool false) ∧ X.cell? ⟨w3.heap.size + 1, 1, none⟩ = some (.slice A l c) ∧ X.cell? ⟨w3.heap.size + 1, 2, none⟩ = some (.slice A' l' c'))
      (first | with_reducible exact bk3 kA | with_reducible exact bk3 kB | exact bk3 kC | exact bk3 HKFS.out | go_keep)
      (first
        | (go_at_call 139; ((with_reducible refine (gcd_any n d _ _ _ HN.out HD.out (by omega) (by omega)).mono ?_)); rintro e w7 ⟨hb7, G, rfl, hG⟩; have kA := HKF.out.below hb7 HKF.out.lt; have kz := HKR.out.below hb7 HKR.out.lt; have kC := bk_far3 (b' := w.heap.size) (x := .bool false) (y := .slice A l c) (z := .slice A' l' c') kA (by omega); obtain ⟨z0, z1, z2⟩ := bk3 kz; have h0 := kz.frozen 0; have h1 := kz.frozen 1; have h2 := kz.frozen 2; have STA := And.intro (set3_below (x := .bool false) (y := .slice A l c) (z := .slice A' l' c') (HB.out.trans (hb7.mono HB.out.size)) (Nat.le_refl _)) (And.intro (((HN.out.next hb7).set3 kz (.bool false) (.slice A l c) (.slice A' l' c')).more (B' := (set3 w7 w.heap.size (.bool false) (.slice A l c) (.slice A' l' c')).heap.size) (by rw [set3_size]; exact Nat.le_refl _)) (((HD.out.next hb7).set3 kz (.bool false) (.slice A l c) (.slice A' l' c')).more (B' := (set3 w7 w.heap.size (.bool false) (.slice A l c) (.slice A' l' c')).heap.size) (by rw [set3_size]; exact Nat.le_refl _))))
        | (go_at_call 139; ((with_reducible refine (gcd_any n d _ _ _ HNS.out HDS.out (by omega) (by omega)).mono ?_)); rintro e w7 ⟨hb7, G, rfl, hG⟩; have kB := HKFS.out.below hb7 HKFS.out.lt; have kz := HKS.out.below hb7 HKS.out.lt; obtain ⟨z0, z1, z2⟩ := bk3 kz; have h0 := kz.frozen 0; have h1 := kz.frozen 1; have h2 := kz.frozen 2; have STA := And.intro (HBS.out.trans (hb7.mono HBS.out.size)) (And.intro (HNS.out.next hb7) (HDS.out.next hb7)))
        | (go_at_call 138; ((with_reducible refine (one_any _ G _ hG hl3).mono ?_)); rintro e w8 ⟨rfl, rfl⟩))
    all_goals
      go_wp2
      refine bodyPost_ret (v := .tuple #[.agg #[.bool false, .slice A l c, .slice A' l' c'], .bool (decide (Nat.gcd n d = 1))]) (by simp [results, Tryz.results186, go_sem, z0, z1, z2]) rfl ?_
      exact ⟨STA.1, _, by rw [HOKG.out], ⟨_, _, _, _, _, _, _, rfl⟩, fun h => HFF.out h trivial _ _ _ STA.2.1 STA.2.2⟩
  · go_wp2_with fail
    refine (plain_any m _ hms).mono ?_
    rintro e w2 ⟨rfl, b, rfl, hb⟩
    cases b
    · have hnc : ¬ Canon m.data.toList := fun h => by simpa using hb.2 h
      clear hb
      have hk : ok = false := HNO.out (fun h => hnc h.2.2.2.1)
      subst hk
      clear HNO HOK
      go_wp2
      refine bodyPost_ret (v := .tuple #[.agg #[.bool false, .slice none 0 0, .slice none 0 0], .bool false]) (by simp [results, Tryz.results186, go_sem, d0, d1, d2]) rfl ?_
      exact ⟨set3_below hB1 (Nat.le_refl _), _, rfl, ⟨_, _, _, _, _, _, _, rfl⟩, fun h => (by cases h)⟩
    have hcm := hb.1 rfl
    clear hb
    by_cases z1 : m.data.toList = [48]
    · have t1 : (m.toList == [48]) = true := by rw [bs_toList, z1]; rfl
      have hk : ok = false := HNO.out (fun h => h.2.2.2.2.1 z1)
      subst hk
      clear HNO HOK
      go_wp2
      refine bodyPost_ret (v := .tuple #[.agg #[.bool false, .slice none 0 0, .slice none 0 0], .bool false]) (by simp [results, Tryz.results186, go_sem, d0, d1, d2]) rfl ?_
      exact ⟨set3_below hB1 (Nat.le_refl _), _, rfl, ⟨_, _, _, _, _, _, _, rfl⟩, fun h => (by cases h)⟩
    by_cases z2 : m.data.toList = [49]
    · have t1 : (m.toList == [48]) = false := by rw [bs_toList, beq_eq_false_iff_ne]; exact z1
      have t2 : (m.toList == [49]) = true := by rw [bs_toList, z2]; rfl
      have hk : ok = false := HNO.out (fun h => h.2.2.2.2.2.1 z2)
      subst hk
      clear HNO HOK
      go_wp2
      refine bodyPost_ret (v := .tuple #[.agg #[.bool false, .slice none 0 0, .slice none 0 0], .bool false]) (by simp [results, Tryz.results186, go_sem, d0, d1, d2]) rfl ?_
      exact ⟨set3_below hB1 (Nat.le_refl _), _, rfl, ⟨_, _, _, _, _, _, _, rfl⟩, fun h => (by cases h)⟩
    have t1 : (m.toList == [48]) = false := by rw [bs_toList, beq_eq_false_iff_ne]; exact z1
    have t2 : (m.toList == [49]) = false := by rw [bs_toList, beq_eq_false_iff_ne]; exact z2
    have HOKG : Hid (ok = decide (Nat.gcd (dval q.data.toList) (dval m.data.toList) = 1)) := by
      show _ = _
      rw [Bool.eq_iff_iff, decide_eq_true_iff, HOK.out]
      exact ⟨fun h => h.2.2.2.2.2.2, fun h => ⟨trivial, HCQ.out, HZ0.out, hcm, z1, z2, h⟩⟩
    have HCM := Lib.hid hcm
    have HP := Lib.hid (dval_pos hcm z1)
    clear hcm z1 z2 HOK HNO
    go_wp2_with fail
    refine (digits_any q _ hqs HCQ.out.1).mono ?_
    rintro e w3 ⟨hb3, N, rfl, hN⟩
    obtain ⟨A, l, c, rfl⟩ := hN.form
    have k3 := k1.below hb3 k1.lt
    have hB3 := hB1.trans (hb3.mono hB1.size)
    clear d0 d1 d2 f0 f1 f2
    have lt1 := k1.lt
    have hs3 := hb3.size
    have hr3 : w.heap.size < w3.heap.size := Nat.lt_of_lt_of_le lt1 hs3
    go_wp2_with fail
    refine calls_named (fun W => Below w3.heap.size w3 W ∧ Bk W (w3.heap.size + 1) 102 #[.bool true, .slice A l c, .slice (some ⟨w3.heap.size, 0, none⟩) 1 1]) ⟨(below_alloc w3 _).alloc (by simp) _, (by simpa using Bk.new (w3.alloc _) 102 #[.bool true, .slice A l c, .slice (some ⟨w3.heap.size, 0, none⟩) 1 1])⟩ ?_
    rintro W4 ⟨hb4, k4⟩
    refine (digits_any m _ hms HCM.out.1).mono ?_
    rintro e w5 ⟨hb5, D, rfl, hD⟩
    obtain ⟨A', l', c', rfl⟩ := hD.form
    have k5 := k4.below hb5 k4.lt
    have hb35 := hb4.trans (hb5.mono hb4.size)
    have kr5 := k3.below hb35 k3.lt
    have hN5 := hN.next hb35
    have hB5 := hB3.trans (hb35.mono hB3.size)
    obtain ⟨e0, e1, e2⟩ := bk3 k5
    have f2 := k5.frozen 2
    have hne : w.heap.size ≠ w3.heap.size + 1 := by omega
    have hN6 := (hN5.put_far (p := ⟨w3.heap.size + 1, 2, none⟩) e2 (by simp) (.slice A' l' c')).more (B' := (w5.setCell ⟨w3.heap.size + 1, 2, none⟩ (.slice A' l' c')).heap.size) (by simp [World.setCell])
    have hD6 := (hD.put_far (p := ⟨w3.heap.size + 1, 2, none⟩) e2 (by simp) (.slice A' l' c')).more (B' := (w5.setCell ⟨w3.heap.size + 1, 2, none⟩ (.slice A' l' c')).heap.size) (by simp [World.setCell])
    have k6 := k5.put 2 (.slice A' l' c')
    have kr6 := kr5.far (p := ⟨w3.heap.size + 1, 2, none⟩) hne (.slice A' l' c')
    have hB6 := hB5.setCell (p := ⟨w3.heap.size + 1, 2, none⟩) (by show w.heap.size ≤ w3.heap.size + 1; omega) (.slice A' l' c')
    clear hN hD hN5 k3 kr5 hB3 hB5 hb3 hb4 hb5 hb35 hs3 k4 k1 hB1
    go_wp2_with fail
    refine wp_name (fun W => Below w.heap.size w W ∧ Bk W (w3.heap.size + 1) 102 #[.bool true, .slice A l c, .slice A' l' c'] ∧ Bk W w.heap.size 102 #[.bool false, .slice none 0 0, .slice none 0 0] ∧ IsN W W.heap.size .u32 (.slice A l c) (dval q.data.toList) ∧ IsN W W.heap.size .u32 (.slice A' l' c') (dval m.data.toList)) ⟨hB6, k6, kr6, hN6, hD6⟩ ?_
    rintro W ⟨hB, kf, kr, hNW, hDW⟩
    clear hB6 k6 kr6 hN6 hD6 e0 e1 e2 f2 k5
    have hl1 : (limbs (dval q.data.toList)).length ≤ 4000000 := Nat.le_trans (limbs_digs HCQ.out.1) (by rw [size_list]; exact hqs)
    have hl2 : (limbs (dval m.data.toList)).length ≤ 4000000 := Nat.le_trans (limbs_digs HCM.out.1) (by rw [size_list]; exact hms)
    have hl3 : (limbs (Nat.gcd (dval q.data.toList) (dval m.data.toList))).length ≤ 1000000000000 := Nat.le_trans (len_mono (Nat.gcd_le_right _ HP.out)) (by omega)
    generalize dval q.data.toList = n at *
    generalize dval m.data.toList = d at *
    obtain ⟨a0, a1, a2⟩ := bk3 kf
    obtain ⟨r0, r1, r2⟩ := bk3 kr
    have g0 := kr.frozen 0
    have g1 := kr.frozen 1
    have g2 := kr.frozen 2
    have HKF := Lib.hid kf.drew
    have HKR := Lib.hid kr.drew
    have HB := Lib.hid hB.drew
    have HN := Lib.hid hNW.drew
    have HD := Lib.hid hDW.drew
    have hsz := set3_size W.drew w.heap.size
    have HKS := Lib.hid (set3_bk (x := .bool true) (y := .slice A l c) (z := .slice A' l' c') kr.drew)
    have HKFS := Lib.hid (bk_far3 (b' := w.heap.size) (x := .bool true) (y := .slice A l c) (z := .slice A' l' c') kf.drew (by omega))
    have HBS := Lib.hid (set3_below (x := .bool true) (y := .slice A l c) (z := .slice A' l' c') hB.drew (Nat.le_refl _))
    have HNS := Lib.hid ((hNW.drew.set3 kr.drew (.bool true) (.slice A l c) (.slice A' l' c')).more (B' := (set3 W.drew w.heap.size (.bool true) (.slice A l c) (.slice A' l' c')).heap.size) (by rw [set3_size]; exact Nat.le_refl _))
    have HDS := Lib.hid ((hDW.drew.set3 kr.drew (.bool true) (.slice A l c) (.slice A' l' c')).more (B' := (set3 W.drew w.heap.size (.bool true) (.slice A l c) (.slice A' l' c')).heap.size) (by rw [set3_size]; exact Nat.le_refl _))
    clear hsz hB kf kr hNW hDW
    go_region_held3 (fun X => X.cell? ⟨w3.heap.size + 1, 0, none⟩ = some (.bool true) ∧ X.cell? ⟨w3.heap.size + 1, 1, none⟩ = some (.slice A l c) ∧ X.cell? ⟨w3.heap.size + 1, 2, none⟩ = some (.slice A' l' c'))
      (first | with_reducible exact bk3 kA | with_reducible exact bk3 kB | exact bk3 kC | exact bk3 HKFS.out | go_keep)
      (first
        | (go_at_call 139; ((with_reducible refine (gcd_any n d _ _ _ HN.out HD.out (by omega) (by omega)).mono ?_)); rintro e w7 ⟨hb7, G, rfl, hG⟩; have kA := HKF.out.below hb7 HKF.out.lt; have kz := HKR.out.below hb7 HKR.out.lt; have kC := bk_far3 (b' := w.heap.size) (x := .bool true) (y := .slice A l c) (z := .slice A' l' c') kA (by omega); obtain ⟨z0, z1, z2⟩ := bk3 kz; have h0 := kz.frozen 0; have h1 := kz.frozen 1; have h2 := kz.frozen 2; have STA := And.intro (set3_below (x := .bool true) (y := .slice A l c) (z := .slice A' l' c') (HB.out.trans (hb7.mono HB.out.size)) (Nat.le_refl _)) (And.intro (((HN.out.next hb7).set3 kz (.bool true) (.slice A l c) (.slice A' l' c')).more (B' := (set3 w7 w.heap.size (.bool true) (.slice A l c) (.slice A' l' c')).heap.size) (by rw [set3_size]; exact Nat.le_refl _)) (((HD.out.next hb7).set3 kz (.bool true) (.slice A l c) (.slice A' l' c')).more (B' := (set3 w7 w.heap.size (.bool true) (.slice A l c) (.slice A' l' c')).heap.size) (by rw [set3_size]; exact Nat.le_refl _))))
        | (go_at_call 139; ((with_reducible refine (gcd_any n d _ _ _ HNS.out HDS.out (by omega) (by omega)).mono ?_)); rintro e w7 ⟨hb7, G, rfl, hG⟩; have kB := HKFS.out.below hb7 HKFS.out.lt; have kz := HKS.out.below hb7 HKS.out.lt; obtain ⟨z0, z1, z2⟩ := bk3 kz; have h0 := kz.frozen 0; have h1 := kz.frozen 1; have h2 := kz.frozen 2; have STA := And.intro (HBS.out.trans (hb7.mono HBS.out.size)) (And.intro (HNS.out.next hb7) (HDS.out.next hb7)))
        | (go_at_call 138; ((with_reducible refine (one_any _ G _ hG hl3).mono ?_)); rintro e w8 ⟨rfl, rfl⟩))
    all_goals
      go_wp2
      refine bodyPost_ret (v := .tuple #[.agg #[.bool true, .slice A l c, .slice A' l' c'], .bool (decide (Nat.gcd n d = 1))]) (by simp [results, Tryz.results186, go_sem, z0, z1, z2]) rfl ?_
      exact ⟨STA.1, _, by rw [HOKG.out], ⟨_, _, _, _, _, _, _, rfl⟩, fun h => HFF.out h trivial _ _ _ STA.2.1 STA.2.2⟩
/-- ReadLong at any text. -/
theorem readlong_any (s : ByteArray) (w : World) (hs : s.size ≤ 4000000) (he : Env w) (ok : Bool) (hok : ok = true ↔ IsText s.data.toList) :
    Calls Tryz.prog 186 #[.string s] w fun e w' => Below w.heap.size w w' ∧ ∃ v, e = .returned (.tuple #[v, .bool ok]) ∧ (∃ b A n c A' n' c', v = .agg #[.bool b, .slice A n c, .slice A' n' c']) ∧ (ok = true → IsF w' w'.heap.size v (textRat s.data.toList)) := by
  by_cases hI : IntText s.data.toList
  · obtain rfl : ok = true := hok.2 hI.isText
    refine (readlong_int s w hs hI he).mono ?_
    rintro e w' ⟨hb, N, D, rfl, hN, hD⟩
    obtain ⟨A, n, c, rfl⟩ := hN.form
    obtain ⟨A', n', c', rfl⟩ := hD.form
    refine ⟨hb, _, rfl, ⟨_, _, _, _, _, _, _, rfl⟩, fun _ => ?_⟩
    exact text_isF hI.isText (by rw [cut47_none hI.no47]; exact hN) (by rw [cut47_none hI.no47]; exact hD)
  · exact readlong_far s w hs he hI ok hok
end Go.Proofs.YtpkhgdnkkdhlcaaGreatDoor

namespace Go.Proofs.YtpkhgdnkkdhlcaaGreatDoor
open Go.RowKit Ar

/-- What has been read. -/
def Got (ok : Bool) (v : Value) (W : World) (q : Rat) : Prop := (∃ b A n c A' n' c', v = .agg #[.bool b, .slice A n c, .slice A' n' c']) ∧ (ok = true → IsF W W.heap.size v q)
set_option maxRecDepth 100000 in
set_option maxHeartbeats 3200000 in
theorem read_any (s : ByteArray) (w : World) (hs : s.size ≤ 4000000) (he : Env w) (ok : Bool) (hok : ok = true ↔ IsNum s.data.toList) :
    Calls Tryz.prog 134 #[.string s] w fun e w' => Below w.heap.size w w' ∧ ∃ v, e = .returned (.tuple #[v, .bool ok]) ∧ Got ok v w' (textRat s.data.toList) := by
  have c1 := fun W => Tryz.strings_TrimPrefix s ⟨#[45]⟩ W
  have e45 : (⟨#[45]⟩ : ByteArray).data.toList = [45] := rfl
  rw [e45, trimPrefix_45] at c1
  have hl := unsign_len s.data.toList
  rw [size_list] at hl
  have hcl := cut47_len (unsign s.data.toList)
  obtain ⟨ot, hot⟩ : ∃ b : Bool, b = true ↔ IsText s.data.toList := by classical exact ⟨decide _, decide_eq_true_iff⟩
  have RL := fun W hW => readlong_any s W hs hW ot hot
  obtain ⟨r, hr⟩ : ∃ r : ByteArray, r = ⟨(unsign s.data.toList).toArray⟩ := ⟨_, rfl⟩
  have hu : r.data.toList = unsign s.data.toList := by rw [hr]
  rw [← hr] at c1
  have hus : r.size ≤ 4000000 := by rw [hr, mk_size]; omega
  obtain ⟨q, hq⟩ : ∃ q : ByteArray, q = ⟨(cut47 (unsign s.data.toList)).1.toArray⟩ := ⟨_, rfl⟩
  obtain ⟨m, hm⟩ : ∃ m : ByteArray, m = ⟨((cut47 (unsign s.data.toList)).2.getD []).toArray⟩ := ⟨_, rfl⟩
  have C2 := fun W => cut_any r W hus
  rw [hu, ← hq, ← hm] at C2
  have hqs : q.size ≤ 4000000 := by rw [hq, mk_size]; omega
  have hms : m.size ≤ 4000000 := by rw [hm, mk_size]; omega
  have HOK : Hid (ok = true ↔ ot = true ∧ q.size ≤ 40 ∧ m.size ≤ 40) := by
    show _ ↔ _
    rw [hok, hot, hq, hm, mk_size, mk_size]
    exact Iff.rfl
  clear hok hot hq hm hr hu hl hcl e45
  generalize (cut47 (unsign s.data.toList)).2.isSome = ov at *
  generalize textRat s.data.toList = qq at *
  have RL' : Hid (∀ W, Env W → _) := RL
  clear RL
  go_enter Tryz.func134, Tryz.ntmps134
  go_wp2_with fail
  refine (c1 _).mono ?_
  rintro e w1 ⟨rfl, rfl⟩
  go_wp2_with fail
  refine (C2 _ (he.alloc _)).mono ?_
  rintro e w1 ⟨rfl, n1, rfl⟩
  have hB1 : Below w.heap.size w ((w.alloc (.cells #[Value.bool false, .slice none 0 0, .slice none 0 0] 102)).drewN n1) := below_drewN (below_alloc w _) n1
  have k1 := (Bk.new w 102 #[Value.bool false, .slice none 0 0, .slice none 0 0]).drewN n1
  generalize ((w.alloc (.cells #[Value.bool false, .slice none 0 0, .slice none 0 0] 102)).drewN n1) = W1 at *
  have HE := Lib.hid (he.next hB1)
  clear he c1 C2 hus
  by_cases h40 : 40 < q.size
  · obtain ⟨d0, d1, d2⟩ := bk3 k1
    have f0 := k1.frozen 0
    have f1 := k1.frozen 1
    have f2 := k1.frozen 2
    have hk : ok = false := by
      cases ho : ok with
      | false => rfl
      | true => have := (HOK.out.1 ho).2.1; omega
    subst hk
    clear HOK
    go_wp2
    refine bodyPost_ret (v := .tuple #[.agg #[.bool false, .slice none 0 0, .slice none 0 0], .bool false]) (by simp [results, Tryz.results134, go_sem, d0, d1, d2]) rfl ?_
    exact ⟨set3_below hB1 (Nat.le_refl _), _, rfl, ⟨⟨_, _, _, _, _, _, _, rfl⟩, fun h => (by cases h)⟩⟩
  by_cases h41 : 40 < m.size
  · obtain ⟨d0, d1, d2⟩ := bk3 k1
    have f0 := k1.frozen 0
    have f1 := k1.frozen 1
    have f2 := k1.frozen 2
    have hk : ok = false := by
      cases ho : ok with
      | false => rfl
      | true => have := (HOK.out.1 ho).2.2; omega
    subst hk
    clear HOK
    go_wp2
    refine bodyPost_ret (v := .tuple #[.agg #[.bool false, .slice none 0 0, .slice none 0 0], .bool false]) (by simp [results, Tryz.results134, go_sem, d0, d1, d2]) rfl ?_
    exact ⟨set3_below hB1 (Nat.le_refl _), _, rfl, ⟨⟨_, _, _, _, _, _, _, rfl⟩, fun h => (by cases h)⟩⟩
  obtain rfl : ok = ot := by
    rw [Bool.eq_iff_iff, HOK.out]
    exact ⟨fun h => h.1, fun h => ⟨h, by omega, by omega⟩⟩
  clear HOK
  go_wp2_with fail
  refine (RL'.out _ HE.out).mono ?_
  rintro e w3 ⟨hb3, v, rfl, ⟨b, A, n, c, A', n', c', rfl⟩, hv⟩
  have HV := Lib.hid hv
  have k3 := k1.below hb3 k1.lt
  have hB3 := hB1.trans (hb3.mono hB1.size)
  obtain ⟨d0, d1, d2⟩ := bk3 k3
  have f0 := k3.frozen 0
  have f1 := k3.frozen 1
  have f2 := k3.frozen 2
  clear hv HE RL'
  go_wp2
  refine bodyPost_ret (v := .tuple #[.agg #[.bool b, .slice A n c, .slice A' n' c'], .bool ok]) (by simp [results, Tryz.results134, go_sem, d0, d1, d2]) rfl ?_
  refine ⟨set3_below hB3 (Nat.le_refl _), _, rfl, ⟨⟨_, _, _, _, _, _, _, rfl⟩, fun h => ?_⟩⟩
  exact ((HV.out h).set3 k3 (.bool b) (.slice A n c) (.slice A' n' c')).more (B' := (set3 w3 w.heap.size (.bool b) (.slice A n c) (.slice A' n' c')).heap.size) (by rw [set3_size]; exact Nat.le_refl _)

theorem qtvalid_any (s : ByteArray) (w : World) (hs : s.size ≤ 4000000) (he : Env w) (ok : Bool) (hok : ok = true ↔ IsNum s.data.toList) :
    Calls Tryz.prog 85 #[.string s] w fun e w' => Below w.heap.size w w' ∧ e = .returned (.bool ok) := by
  have RL := read_any s w hs he ok hok
  clear hok he
  go_enter Tryz.func85, Tryz.ntmps85
  go_wp2_with fail
  refine RL.mono ?_
  rintro e w3 ⟨hb3, v, rfl, ⟨⟨b, A, n, c, A', n', c', rfl⟩, -⟩⟩
  have hs3 := hb3.size
  clear RL
  go_wp2
  go_ret
  exact ⟨hb3.alloc hs3 _, rfl⟩

/-- A value: none, or a number. -/
def IsVal (l : List UInt8) : Prop := l = [] ∨ IsNum l
theorem not_num_nil : ¬ IsNum [] := fun h => h.1.above.2.1 rfl
end Go.Proofs.YtpkhgdnkkdhlcaaGreatDoor

