/-
  Plain law: the total of values on areas.
  Walks: lengthy; regrid.Total.
  Walks: the reference's Total.
  The walk of the law RegridTotals.
-/
import Derived.Test.YtbddmkklkbkliaaGreatDoorValA
import Derived.Test.YtbddmkklkbkliaaGreatDoorSumF
import Derived.Test.YtbddmkklkbkliaaGreatDoorTxtS
import Derived.Test.YtbddmkklkbkliaaGreatDoorValR
import Derived.Test.YtbddmkklkbkliaaGreatDoorHeldM
import Derived.Test.YtbddmkklkbkliaaGreatDoorQqP
import Derived.Test.YtbddmkklkbkliaaGreatDoorQqH
import Derived.Test.YtbddmkklkbkliaaGreatDoorLawA
namespace Go.Proofs.YtbddmkklkbkliaaGreatDoor
open Go.RowKit Ar

noncomputable def textB (s : ByteArray) : Bool := @decide (IsText s.data.toList) (Classical.propDecidable _)
noncomputable def numB (s : ByteArray) : Bool := @decide (IsNum s.data.toList) (Classical.propDecidable _)
noncomputable def valB (s : ByteArray) : Bool := @decide (IsVal s.data.toList) (Classical.propDecidable _)
theorem textB_iff (s : ByteArray) : textB s = true ↔ IsText s.data.toList := by unfold textB; exact @decide_eq_true_iff _ (Classical.propDecidable _)
theorem numB_iff (s : ByteArray) : numB s = true ↔ IsNum s.data.toList := by unfold numB; exact @decide_eq_true_iff _ (Classical.propDecidable _)
theorem valB_iff (s : ByteArray) : valB s = true ↔ IsVal s.data.toList := by unfold valB; exact @decide_eq_true_iff _ (Classical.propDecidable _)
/-- A value's number on its area. -/
noncomputable def onArea (x : ByteArray × ByteArray) : List Rat := if numB x.1 then [textRat x.1.data.toList * textRat x.2.data.toList] else []
noncomputable def onAreas (l : List (ByteArray × ByteArray)) : List Rat := l.flatMap onArea
noncomputable def fine (x : ByteArray × ByteArray) : Bool := textB x.2 && valB x.1
theorem onAreas_snoc (l : List (ByteArray × ByteArray)) (x : ByteArray × ByteArray) : onAreas (l ++ [x]) = onAreas l ++ onArea x := by simp [onAreas]
theorem onArea_len (x : ByteArray × ByteArray) : (onArea x).length ≤ 1 := by unfold onArea; split <;> simp
theorem onAreas_len (l : List (ByteArray × ByteArray)) : (onAreas l).length ≤ l.length := by
  induction l with
  | nil => exact Nat.le_refl _
  | cons x l ih =>
    have := onArea_len x
    show (onArea x ++ onAreas l).length ≤ l.length + 1
    rw [List.length_append]; omega
/-- What is said of values on areas: a text, and the error. -/
noncomputable def totR (V A : List ByteArray) : ByteArray × Int := if V.length = A.length ∧ ∀ x ∈ V.zip A, fine x = true then (⟨(ratText (rsum (onAreas (V.zip A)))).toArray⟩, 0) else (⟨#[]⟩, 2)
/-- More than n texts, or a long one. -/
theorem lengthy_any (L : List ByteArray) (n : Nat) (v : Value) (w : World) (h : IsT w w.heap.size v L) (hn : n ≤ 1000) (hL : L.length ≤ maxLen) (z : Bool) (hz : z = true ↔ n < L.length ∨ ∃ s ∈ L, 300 < s.size) (hm : ∀ s ∈ L, s.size ≤ maxLen) :
    Calls Tryz.prog 7 #[v, .int .i64 n] w fun e w' => w = w' ∧ e = .returned (.bool z) := by
  obtain ⟨A, c, rfl, hc⟩ := h.form
  have hr := h.rd
  unfold maxLen at hm hL
  have HZ := Lib.hid hz
  clear hz h
  by_cases hbig : n < L.length
  · have hzt : z = true := HZ.out.2 (.inl hbig)
    subst hzt
    clear hm
    go_enter Tryz.func7, Tryz.ntmps7
    go_wp2
    go_ret
    exact ⟨rfl, rfl⟩
  have HM := Lib.hid hm
  clear hm
  go_enter Tryz.func7, Tryz.ntmps7
  go_wp2_with fail
  go_loop [5] (fun i => ∃ k : Nat, k ≤ L.length ∧ i = .int .i64 k ∧ Hid (∀ s ∈ L.take k, s.size ≤ 300)) (fun i => L.length - (intOf i).toNat)
  case atStart => exact ⟨0, Nat.zero_le _, rfl, (fun x h => by simp at h)⟩
  case round =>
    obtain ⟨k, hk, rfl, H0⟩ := hrel
    rcases Nat.lt_or_ge k L.length with hlt | hge
    · obtain ⟨ad, rfl, hab, hcell⟩ := hr.str hlt
      have hmk := HM.out _ (List.getElem_mem hlt)
      have HN : Hid (L[k].size ≤ 300 → ∀ s ∈ L.take (k + 1), s.size ≤ 300) := fun h1 x hx => by
        rw [List.take_add_one, List.getElem?_eq_getElem hlt] at hx
        rcases List.mem_append.1 hx with h2 | h2
        · exact H0.out x h2
        · simp at h2; subst h2; exact h1
      have HY : Hid (300 < L[k].size → z = true) := fun h1 => HZ.out.2 (.inr ⟨_, List.getElem_mem hlt, h1⟩)
      generalize L[k] = y at *
      by_cases hl : y.size ≤ 300
      · have hl' : ¬ (300 : Int) < y.size := by omega
        have HL := Lib.hid (HN.out hl)
        clear HN HY
        go_wp2
        go_round
        case rel => exact ⟨k + 1, by omega, by go_num, HL.out⟩
        case measure => simp [intOf]; omega
      · have hl' : (300 : Int) < y.size := by omega
        have hzt : z = true := HY.out (by omega)
        subst hzt
        clear HN HY
        go_wp2
        go_ret
        exact ⟨rfl, rfl⟩
    · have hkl : k = L.length := by omega
      subst hkl
      have hzf : z = false := by
        cases hzz : z
        · rfl
        · rcases HZ.out.1 hzz with h | ⟨x, hx, h⟩
          · exact absurd h hbig
          · have := H0.out x (by rw [List.take_length]; exact hx)
            omega
      subst hzf
      go_wp2
      go_ret
      exact ⟨rfl, rfl⟩

theorem zfrac_no : ∀ u ∈ (Value.agg #[.bool false, .slice none 0 0, .slice none 0 0]).cells.toList, noInt u := by
  intro u hu k i e
  subst e
  simp [Value.cells] at hu
theorem new_cells3 (w : World) (T : TypeId) (a b c : Value) (j : Nat) (u : Value) (h : [a, b, c][j]? = some u) : (w.alloc (.cells #[a, b, c] T)).cell? ((⟨w.heap.size, 0, none⟩ : Addr).add j) = some u := by
  have k := (Bk.new w T #[a, b, c]).cell (0 + j)
  rw [addr_mk, k]
  simpa using h
theorem sz_text {l : List UInt8} (h : IsText l) {M : Nat} (hl : l.length ≤ M) : sz (textRat l) ≤ 2 * M + 2 := sz_plain (text_plain h) hl
theorem onAreas_sz {l : List (ByteArray × ByteArray)} (h : ∀ x ∈ l, fine x = true ∧ x.1.size ≤ 300 ∧ x.2.size ≤ 300) : ∀ q ∈ onAreas l, sz q ≤ 2000 := by
  intro q hq
  obtain ⟨x, hx, hq⟩ := List.mem_flatMap.1 hq
  obtain ⟨h1, h2, h3⟩ := h x hx
  unfold onArea at hq
  split at hq
  · rename_i hn
    simp at hq
    subst hq
    have hn := (numB_iff _).1 hn
    unfold fine at h1
    rw [Bool.and_eq_true] at h1
    have ht := (textB_iff _).1 h1.1
    have s1 := sz_text hn.1 (M := 300) (by rw [Array.length_toList]; exact h2)
    have s2 := sz_text ht (M := 300) (by rw [Array.length_toList]; exact h3)
    have := sz_mul (textRat x.1.data.toList) (textRat x.2.data.toList)
    omega
  · cases hq

set_option maxRecDepth 100000 in
set_option maxHeartbeats 6400000 in
theorem total_any (V A : List ByteArray) (v u : Value) (w : World) (h : IsT w w.heap.size v V) (h' : IsT w w.heap.size u A) (he : Env w) (her : EnvR w) (hV : V.length ≤ 1000) (hV2 : ∀ s ∈ V, s.size ≤ 300) (hA2 : ∀ s ∈ A, s.size ≤ 300) :
    Calls Tryz.prog 9 #[v, u] w fun e w' => Below w.heap.size w w' ∧ e = .returned (.tuple #[.string (totR V A).1, .int .i64 (totR V A).2]) := by
  obtain ⟨Av, cv, rfl, hcv⟩ := h.form
  obtain ⟨Au, cu, rfl, hcu⟩ := h'.form
  have hr := h.rd
  have hr' := h'.rd
  clear h h'
  by_cases hlen : V.length = A.length
  rotate_left
  · have e1 : totR V A = (⟨#[]⟩, 2) := if_neg fun h => hlen h.1
    rw [e1]
    have hne : ((V.length : Int) != (A.length : Int)) = true := by simp; omega
    clear hV2 hA2 hlen
    go_enter Tryz.func9, Tryz.ntmps9
    go_wp2
    go_ret2
    exact ⟨Below.refl _ _, rfl⟩
  obtain ⟨n, hn⟩ : ∃ n, n = V.length := ⟨_, rfl⟩
  have HV2 := Lib.hid hV2
  have HA2 := Lib.hid hA2
  obtain ⟨Z, hZ⟩ : ∃ Z, Z = V.zip A := ⟨_, rfl⟩
  have HZl : Hid (Z.length = n) := by show _ = _; rw [hZ, List.length_zip]; omega
  have HZ2 : Hid (∀ x ∈ Z, x.1.size ≤ 300 ∧ x.2.size ≤ 300) := fun x hx => by
    rw [hZ] at hx
    exact ⟨hV2 _ (List.of_mem_zip hx).1, hA2 _ (List.of_mem_zip hx).2⟩
  have HT0 : Hid ((∀ x ∈ Z, fine x = true) → totR V A = (⟨(ratText (rsum (onAreas Z))).toArray⟩, 0)) := fun h => by rw [hZ] at h ⊢; exact if_pos ⟨hlen, h⟩
  have HT1 : Hid ((∃ x ∈ Z, fine x = false) → totR V A = (⟨#[]⟩, 2)) := fun ⟨x, h1, h2⟩ => by
    rw [hZ] at h1
    exact if_neg fun h => by rw [h.2 x h1] at h2; cases h2
  have HAT : Hid (∀ (k : Nat), k < n → ∃ x y, Z[k]? = some (x, y) ∧ V[k]? = some x ∧ A[k]? = some y) := fun k hk => by
    have h1 : k < V.length := by omega
    have h2 : k < A.length := by omega
    refine ⟨V[k], A[k], ?_, List.getElem?_eq_getElem h1, List.getElem?_eq_getElem h2⟩
    rw [hZ, List.getElem?_zip_eq_some]
    exact ⟨List.getElem?_eq_getElem h1, List.getElem?_eq_getElem h2⟩
  rw [← hlen, ← hn]
  clear hZ hV2 hA2
  have hV : n ≤ 1000 := by omega
  generalize totR V A = R at *
  obtain ⟨R1, R2⟩ := R
  obtain ⟨i0, hi0, hz0, hz1, hz2⟩ := info_parts Tryz.frac_info
  have hcv : n ≤ cv := by omega
  have hcu : n ≤ cu := by omega
  have HN := Lib.hid hn
  have HL := Lib.hid hlen
  clear hn hlen
  go_enter Tryz.func9, Tryz.ntmps9
  go_wp2_with fail
  go_loopw [6, 20] (fun l i wr => ∃ k : Nat, k ≤ n ∧ i = .int .i64 k ∧ OwnFs wr w.heap.size l (onAreas (Z.take k)) ∧ Hid (∀ x ∈ Z.take k, fine x = true) ∧ Below w.heap.size w wr) (fun _ i _ => n - (intOf i).toNat)
  case atStart => exact ⟨0, Nat.zero_le _, rfl, OwnFs.nil _ _, (fun x h => by simp at h), Below.refl _ _⟩
  case round =>
    obtain ⟨k, hk, rfl, hO, HF, hB⟩ := hrel
    by_cases hlt : k < n
    · obtain ⟨x, y, hz, hx, hy⟩ := HAT.out k hlt
      have hmem := List.mem_of_getElem? hz
      have HTK : Hid (Z.take (k + 1) = Z.take k ++ [(x, y)]) := by show _ = _; rw [List.take_add_one, hz]; rfl
      have HS := Lib.hid (HZ2.out _ hmem)
      have HBAD : Hid (fine (x, y) = false → (R1, R2) = (⟨#[]⟩, 2)) := fun h => HT1.out ⟨_, hmem, h⟩
      have HFF : Hid (fine (x, y) = (textB y && valB x)) := rfl
      obtain ⟨ad, rfl, hab, hcx⟩ := (hr.below hB).str (j := k) (by rw [← HN.out]; exact hlt)
      obtain ⟨ad', rfl, hab', hcy⟩ := (hr'.below hB).str (j := k) (by rw [← HL.out, ← HN.out]; exact hlt)
      have hx' : V[k]'(by rw [← HN.out]; exact hlt) = x := by
        have := List.getElem?_eq_getElem (l := V) (i := k) (by rw [← HN.out]; exact hlt)
        rw [hx] at this; injection this with this; exact this.symm
      have hy' : A[k]'(by rw [← HL.out, ← HN.out]; exact hlt) = y := by
        have := List.getElem?_eq_getElem (l := A) (i := k) (by rw [← HL.out, ← HN.out]; exact hlt)
        rw [hy] at this; injection this with this; exact this.symm
      rw [hx'] at hcx
      rw [hy'] at hcy
      have HO := Lib.hid hO
      clear hx hy hx' hy' hz hmem hO
      have HE := Lib.hid (he.next hB)
      have HER := Lib.hid (her.next hB)
      go_wp2_with fail
      refine (readlong_any y wr (by have := HS.out.2; omega) HE.out (textB y) (textB_iff y)).mono ?_
      rintro e w1 ⟨hb1, fv, rfl, ⟨fb, fA, fn, fc, fA', fn', fc', rfl⟩, hf⟩
      have HF1 := Lib.hid hf
      have hB1 := hB.trans (hb1.mono hB.size)
      have HO1 := Lib.hid (HO.out.keep hb1)
      have HE1 := Lib.hid (HE.out.next hb1)
      clear hf hcy HO HE
      cases hty : textB y
      · have hbad := HBAD.out (by rw [HFF.out, hty]; rfl)
        injection hbad with e1 e2
        subst e1 e2
        clear hcx HT0 HT1 HAT HTK HS HBAD HFF HF1 HO1 HE1 hty
        go_wp2
        go_ret2
        exact ⟨hB1.alloc hB1.size _, rfl⟩
      · have hx' : x.size ≤ 4000000 := by have := HS.out.1; omega
        have VV := Lib.hid (fun W (hW : Below w1.heap.size w1 W) => value_any x W hx' (HE1.out.next hW) (valB x) (valB_iff x))
        have RR := Lib.hid (fun W (hW : Below w1.heap.size w1 W) => read_any x W hx' (HE1.out.next hW) (numB x) (numB_iff x))
        clear hx' HE1
        have HTY := Lib.hid hty
        rw [hty] at HFF
        clear hty
        have HXV := Lib.hid (HF1.out HTY.out)
        go_wp2_with fail
        have hA1 := below_alloc w1 (.cells #[.bool fb, .slice fA fn fc, .slice fA' fn' fc'] 66)
        have kx1 := Bk.new w1 66 #[Value.bool fb, .slice fA fn fc, .slice fA' fn' fc']
        have HX1 := Lib.hid (HXV.out.next hA1)
        have HO2 := Lib.hid (HO1.out.keep hA1)
        refine (VV.out _ hA1).mono ?_
        clear VV HXV HF1 HO1
        generalize w1.alloc (.cells #[.bool fb, .slice fA fn fc, .slice fA' fn' fc'] 66) = W1 at *
        rintro e w2 ⟨hb2, rfl⟩
        have kx2 := kx1.next' hb2
        have hW2 := hA1.trans (hb2.mono hA1.size)
        have hB2 := hB1.trans (hW2.mono hB1.size)
        have HX2 := Lib.hid (HX1.out.next hb2)
        have HO3 := Lib.hid (HO2.out.keep hb2)
        clear HX1 HO2 kx1 hb2 hA1
        cases hvx : valB x
        · have hbad := HBAD.out (by rw [HFF.out, hvx]; rfl)
          injection hbad with e1 e2
          subst e1 e2
          clear hcx HT0 HT1 HAT HTK HS HBAD HFF HX2 HO3 RR hvx
          go_wp2
          go_ret2
          exact ⟨hB2, rfl⟩
        · rw [hvx] at HFF
          have HFX : Hid (fine (x, y) = true) := HFF.out
          have HF2 : Hid (∀ z ∈ Z.take (k + 1), fine z = true) := fun z hz => by
            rw [HTK.out] at hz
            rcases List.mem_append.1 hz with h | h
            · exact HF.out z h
            · simp at h; subst h; exact HFX.out
          clear hvx HFF HFX HBAD HF
          go_wp2_with fail
          refine (RR.out w2 hW2).mono ?_
          rintro e w3 ⟨hb3, gv, rfl, ⟨gb, gA, gn, gc, gA', gn', gc', rfl⟩, hg⟩
          have HG := Lib.hid hg
          have kx3 := kx2.next' hb3
          have hB3 := hB2.trans (hb3.mono hB2.size)
          have HX3 := Lib.hid (HX2.out.next hb3)
          have HO4 := Lib.hid (HO3.out.keep hb3)
          clear RR hg kx2 HX2 HO3 hb3 hW2 hB2 hcx
          have hA3 := below_alloc w3 (.cells #[.bool gb, .slice gA gn gc, .slice gA' gn' gc'] 66)
          have hB4 := hB3.trans (hA3.mono hB3.size)
          have HO5 := Lib.hid (HO4.out.keep hA3)
          cases hnx : numB x
          · have HAR : Hid (onAreas (Z.take (k + 1)) = onAreas (Z.take k)) := by
              show _ = _
              rw [HTK.out, onAreas_snoc, show onArea (x, y) = [] by unfold onArea; rw [if_neg (by rw [hnx]; decide)], List.append_nil]
            have HO6 : Hid (OwnFs (w3.alloc (.cells #[.bool gb, .slice gA gn gc, .slice gA' gn' gc'] 66)) w.heap.size u6 (onAreas (Z.take (k + 1)))) := by
              show OwnFs _ _ _ _
              rw [HAR.out]; exact HO5.out
            clear hnx HG HX3 HO4 HO5 HAR kx3 hA3
            go_wp2
            go_roundw
            case rel => exact ⟨k + 1, by omega, by go_num, HO6.out, HF2.out, hB4⟩
            case measure => simp [intOf]; omega
          · have HAR : Hid (onAreas (Z.take (k + 1)) = onAreas (Z.take k) ++ [textRat x.data.toList * textRat y.data.toList]) := by
              show _ = _
              rw [HTK.out, onAreas_snoc, show onArea (x, y) = [textRat x.data.toList * textRat y.data.toList] by unfold onArea; rw [if_pos hnx]]
            have HGV := Lib.hid ((HG.out hnx).next hA3)
            have HXV := Lib.hid (HX3.out.next hA3)
            have kg := Bk.new w3 66 #[Value.bool gb, .slice gA gn gc, .slice gA' gn' gc']
            have kx4 := kx3.alloc (.cells #[.bool gb, .slice gA gn gc, .slice gA' gn' gc'] 66)
            have hs1 : sz (textRat x.data.toList) ≤ 1000 := by
              have := sz_text ((numB_iff x).1 hnx).1 (M := 300) (by rw [size_list']; exact HS.out.1); omega
            have hs2 : sz (textRat y.data.toList) ≤ 1000 := by
              have := sz_text ((textB_iff y).1 HTY.out) (M := 300) (by rw [size_list']; exact HS.out.2); omega
            have HM := Lib.hid (fmul_any _ _ _ _ _ HGV.out HXV.out (by omega) (by omega))
            obtain ⟨d0, d1, d2⟩ := bk3 kx4
            clear hnx HG HX3 HO4 kx3 hA3 hs1 hs2 HGV HXV
            go_wp2_with fail
            refine HM.out.mono ?_
            rintro e w5 ⟨hb5, mv, rfl, hm⟩
            obtain ⟨mb, mA, mn, mc, mA', mn', mc', rfl⟩ := hm.form
            have hB5 := hB4.trans (hb5.mono hB4.size)
            have hA5 := below_alloc w5 (.cells #[.bool mb, .slice mA mn mc, .slice mA' mn' mc'] 66)
            have hB6 := hB5.trans (hA5.mono hB5.size)
            have hIX : IsFx (w5.alloc (.cells #[.bool mb, .slice mA mn mc, .slice mA' mn' mc'] 66)) (w5.alloc (.cells #[.bool mb, .slice mA mn mc, .slice mA' mn' mc'] 66)).heap.size ⟨mb, .slice mA mn mc, .slice mA' mn' mc'⟩ (textRat x.data.toList * textRat y.data.toList) := hm.next hA5
            have HO6 := (HO5.out.keep hb5).keep hA5
            obtain ⟨S, hS1, hS2, hS3, hS4⟩ := HO6
            have hS4 := Lib.hid hS4
            have hLn : (onAreas (Z.take k)).length ≤ 1000 := by have := onAreas_len (Z.take k); rw [List.length_take] at this; omega
            have hz5 := hB5.size
            have HS1 := Lib.hid hS1
            have HIX := Lib.hid hIX
            clear HM HO5 hb5 hm d0 d1 d2 kg kx4 hA5 hB4 hB3 hB1 hS1 hIX HT0 HT1 HAT HTK HS HER HTY
            go_wp2_with (at_builtin; refine wpL_append_ni rfl (.tmp 46) (.tmp 50) 62 rfl w.heap.size 66 i0 (.agg #[.bool false, .slice none 0 0, .slice none 0 0]) 3 56 Tryz.underlying62 hi0 hz0 hz1 hz2 rfl (by omega) _ (onAreas (Z.take k)).length (frow S) rfl hS2 hS3 zfrac_no ⟨w5.heap.size, 0, none⟩ 1 1 [.bool mb, .slice mA mn mc, .slice mA' mn' mc'] rfl rfl (new_cells3 w5 _ _ _ _) (by intro u hu; simp at hu; rcases hu with rfl | rfl | rfl <;> rfl) (by intro u hu k0 i1; simp at hu; rcases hu with rfl | rfl | rfl <;> simp) (by omega) (by unfold maxLen; omega) (by omega) (by simp; omega) ?_; intro v7 w7 hw1 hw2 hw3; have HO7 := Lib.hid (OwnFs.add (s := ⟨mb, .slice mA mn mc, .slice mA' mn' mc'⟩) HS1.out hS3 hS4.out HIX.out hw1 hw2 hw3); have hB7 : Below w.heap.size w w7 := below_app hB6 hw2 (by simp; omega) hS2 (Nat.le_refl _); clear hw1 hw2 hw3 hS2 hS3 hB6)
            have HO8 : Hid (OwnFs w7 w.heap.size v7 (onAreas (Z.take (k + 1)))) := by
              show OwnFs _ _ _ _
              rw [HAR.out]; exact HO7.out
            clear HO7 HAR
            go_roundw
            case rel => exact ⟨k + 1, by omega, by go_num, HO8.out, HF2.out, hB7⟩
            case measure => simp [intOf]; omega
    · have hkl : k = n := by omega
      subst hkl
      have HZT : Hid (Z.take k = Z) := by show _ = _; rw [List.take_of_length_le (by rw [HZl.out]; exact Nat.le_refl _)]
      have hall : ∀ x ∈ Z, fine x = true := by have := HF.out; rwa [HZT.out] at this
      have hR := HT0.out hall
      have hsz := onAreas_sz (l := Z) (fun x hx => ⟨hall x hx, HZ2.out x hx⟩)
      rw [HZT.out] at hO
      have hln : (onAreas Z).length ≤ 1000 := by have := onAreas_len Z; rw [HZl.out] at this; omega
      have S1 := Lib.hid (sum_any _ (onAreas Z) _ _ rfl hO.is (by omega) (fun q hq => by have := hsz q hq; omega))
      have hs2 := sz_rsum (M := 2000) (onAreas Z) hsz
      have hs3 : sz (rsum (onAreas Z)) ≤ 10000000 := by
        have := Nat.mul_le_mul_right (2000 + 1) hln
        omega
      have FL := Lib.hid (fun v W h he => flong_any (rsum (onAreas Z)) v W h (by omega) he)
      injection hR with e1 e2
      obtain ⟨lA, lc, rfl⟩ := hO.form
      have HE1 := Lib.hid e1
      have HER := Lib.hid (her.next hB)
      subst e2
      clear hall hsz hO hs2 hs3 e1 HT0 HT1 HAT HZl HZ2 HF HZT
      go_wp2_with fail
      refine S1.out.mono ?_
      rintro e w1 ⟨hb1, v1, rfl, y1⟩
      have hB1 := hB.trans (hb1.mono hB.size)
      obtain ⟨b, A1, n1, c1, A2, n2, c2, rfl⟩ := y1.form
      clear S1
      go_wp2_with fail
      refine (FL.out _ _ y1 (HER.out.next hb1)).mono ?_
      rintro e w2 ⟨hb2, rfl⟩
      have hB2 := hB1.trans (hb2.mono hB1.size)
      clear FL
      go_wp2
      go_ret2
      exact ⟨hB2, by rw [HE1.out]; rfl⟩
end Go.Proofs.YtbddmkklkbkliaaGreatDoor

namespace Go.Proofs.YtbddmkklkbkliaaGreatDoor
open Go.RowKit Ar

theorem rsum_snoc (l : List Rat) (q : Rat) : rsum (l ++ [q]) = rsum l + q := by
  rw [rsum_app]
  show _ = _
  have : rsum [q] = q := by show q + 0 = q; grind
  rw [this]
set_option maxRecDepth 100000 in
set_option maxHeartbeats 6400000 in
theorem rtotal_any (V A : List ByteArray) (v u : Value) (w : World) (h : IsT w w.heap.size v V) (h' : IsT w w.heap.size u A) (hV : V.length ≤ 1000) (hV2 : ∀ s ∈ V, s.size ≤ 300) (hA2 : ∀ s ∈ A, s.size ≤ 300) :
    Calls Tryz.prog 10 #[v, u] w fun e w' => Below w.heap.size w w' ∧ e = .returned (.tuple #[.string (totR V A).1, .int .i64 (totR V A).2]) := by
  obtain ⟨Av, cv, rfl, hcv⟩ := h.form
  obtain ⟨Au, cu, rfl, hcu⟩ := h'.form
  have hr := h.rd
  have hr' := h'.rd
  clear h h'
  by_cases hlen : V.length = A.length
  rotate_left
  · have e1 : totR V A = (⟨#[]⟩, 2) := if_neg fun h => hlen h.1
    rw [e1]
    have hne : ((V.length : Int) != (A.length : Int)) = true := by simp; omega
    clear hV2 hA2 hlen
    go_enter Tryz.func10, Tryz.ntmps10
    go_wp2
    go_ret2
    exact ⟨Below.refl _ _, rfl⟩
  obtain ⟨n, hn⟩ : ∃ n, n = V.length := ⟨_, rfl⟩
  have HV2 := Lib.hid hV2
  have HA2 := Lib.hid hA2
  obtain ⟨Z, hZ⟩ : ∃ Z, Z = V.zip A := ⟨_, rfl⟩
  have HZl : Hid (Z.length = n) := by show _ = _; rw [hZ, List.length_zip]; omega
  have HZ2 : Hid (∀ x ∈ Z, x.1.size ≤ 300 ∧ x.2.size ≤ 300) := fun x hx => by
    rw [hZ] at hx
    exact ⟨hV2 _ (List.of_mem_zip hx).1, hA2 _ (List.of_mem_zip hx).2⟩
  have HT0 : Hid ((∀ x ∈ Z, fine x = true) → totR V A = (⟨(ratText (rsum (onAreas Z))).toArray⟩, 0)) := fun h => by rw [hZ] at h ⊢; exact if_pos ⟨hlen, h⟩
  have HT1 : Hid ((∃ x ∈ Z, fine x = false) → totR V A = (⟨#[]⟩, 2)) := fun ⟨x, h1, h2⟩ => by
    rw [hZ] at h1
    exact if_neg fun h => by rw [h.2 x h1] at h2; cases h2
  have HAT : Hid (∀ (k : Nat), k < n → ∃ x y, Z[k]? = some (x, y) ∧ V[k]? = some x ∧ A[k]? = some y) := fun k hk => by
    have h1 : k < V.length := by omega
    have h2 : k < A.length := by omega
    refine ⟨V[k], A[k], ?_, List.getElem?_eq_getElem h1, List.getElem?_eq_getElem h2⟩
    rw [hZ, List.getElem?_zip_eq_some]
    exact ⟨List.getElem?_eq_getElem h1, List.getElem?_eq_getElem h2⟩
  have HSZ : Hid (∀ k, (∀ x ∈ Z.take k, fine x = true) → sz (rsum (onAreas (Z.take k))) ≤ 10000000) := fun k hf => by
    have hsz := onAreas_sz (l := Z.take k) (fun x hx => ⟨hf x hx, HZ2.out x (List.mem_of_mem_take hx)⟩)
    have hs2 := sz_rsum (M := 2000) (onAreas (Z.take k)) hsz
    have hln : (onAreas (Z.take k)).length ≤ 1000 := by have := onAreas_len (Z.take k); rw [List.length_take, HZl.out] at this; omega
    have := Nat.mul_le_mul_right (2000 + 1) hln
    omega
  rw [← hlen, ← hn]
  clear hZ hV2 hA2
  have hV : n ≤ 1000 := by omega
  generalize totR V A = R at *
  obtain ⟨R1, R2⟩ := R
  have hcv : n ≤ cv := by omega
  have hcu : n ≤ cu := by omega
  have HN := Lib.hid hn
  have HL := Lib.hid hlen
  clear hn hlen
  go_enter Tryz.func10, Tryz.ntmps10
  go_wp2_with fail
  refine (intQ_any 0 _ (by omega)).mono ?_
  rintro e w1 ⟨hb1, v1, rfl, z1⟩
  obtain ⟨s1, A1, l1, e1, A1', l1', e1', rfl⟩ := z1.form
  have hA1 := below_alloc w1 (.cells #[.bool s1, .slice A1 l1 e1, .slice A1' l1' e1'] 51)
  have hB1 := hb1.trans (hA1.mono hb1.size)
  have ks : QAt _ _ (rsum (onAreas (Z.take 0))) := qatN z1
  have hbs0 := hb1.size
  clear hA1 z1 hb1
  go_wp2_with fail
  generalize w1.alloc (.cells #[.bool s1, .slice A1 l1 e1, .slice A1' l1' e1'] 51) = W1 at *
  obtain ⟨bs, hbs⟩ : ∃ b, b = w1.heap.size := ⟨_, rfl⟩
  rw [← hbs] at ks hbs0 ⊢
  clear hbs
  go_loopw [7] (fun i wr => ∃ k : Nat, k ≤ n ∧ i = .int .i64 k ∧ QAt wr bs (rsum (onAreas (Z.take k))) ∧ Hid (∀ x ∈ Z.take k, fine x = true) ∧ Below w.heap.size w wr) (fun i _ => n - (intOf i).toNat)
  case atStart => exact ⟨0, Nat.zero_le _, rfl, ks, (fun x h => by simp at h), hB1⟩
  case round =>
    clear ks hB1
    obtain ⟨k, hk, rfl, hQ, HF, hB⟩ := hrel
    have HQ := Lib.hid hQ
    clear hQ
    by_cases hlt : k < n
    · obtain ⟨x, y, hz, hx, hy⟩ := HAT.out k hlt
      have hmem := List.mem_of_getElem? hz
      have HTK : Hid (Z.take (k + 1) = Z.take k ++ [(x, y)]) := by show _ = _; rw [List.take_add_one, hz]; rfl
      have HS := Lib.hid (HZ2.out _ hmem)
      have HBAD : Hid (fine (x, y) = false → (R1, R2) = (⟨#[]⟩, 2)) := fun h => HT1.out ⟨_, hmem, h⟩
      have HFF : Hid (fine (x, y) = (textB y && valB x)) := rfl
      obtain ⟨ad, rfl, hab, hcx⟩ := (hr.below hB).str (j := k) (by rw [← HN.out]; exact hlt)
      obtain ⟨ad', rfl, hab', hcy⟩ := (hr'.below hB).str (j := k) (by rw [← HL.out, ← HN.out]; exact hlt)
      have hx' : V[k]'(by rw [← HN.out]; exact hlt) = x := by
        have := List.getElem?_eq_getElem (l := V) (i := k) (by rw [← HN.out]; exact hlt)
        rw [hx] at this; injection this with this; exact this.symm
      have hy' : A[k]'(by rw [← HL.out, ← HN.out]; exact hlt) = y := by
        have := List.getElem?_eq_getElem (l := A) (i := k) (by rw [← HL.out, ← HN.out]; exact hlt)
        rw [hy] at this; injection this with this; exact this.symm
      rw [hx'] at hcx
      rw [hy'] at hcy
      have HSK := Lib.hid (HSZ.out k HF.out)
      clear hx hy hx' hy' hz hmem
      go_wp2_with fail
      refine (qlong_any y wr (by have := HS.out.2; omega)).mono ?_
      rintro e w2 ⟨hb2, qv, zt, rfl, hzt, q, hq, hqq⟩
      obtain ⟨qb, qA, qn, qc, qA', qn', qc', rfl⟩ := hq.form
      have hB2 := hB.trans (hb2.mono hB.size)
      have HQ2 := Lib.hid (HQ.out.next hb2)
      have hcx2 := (hb2.cell (p := ad.add k) (by rw [addr_block]; have := hB.size; omega)).trans hcx
      have HZT := Lib.hid hzt
      have HQQ := Lib.hid hqq
      have HQV := Lib.hid hq
      clear hcy HQ hcx hb2 hzt hqq hq hB
      cases zt
      · have htf : textB y = false := by
          cases ht : textB y with
          | false => rfl
          | true => have := HZT.out.2 ((textB_iff y).1 ht); cases this
        have hbad := HBAD.out (by rw [HFF.out, htf]; rfl)
        injection hbad with e1 e2
        subst e1 e2
        clear hcx2 HT0 HT1 HAT HTK HS HBAD HFF HZT HQQ HQV HQ2 htf HF HSZ HSK
        go_wp2
        go_ret2
        exact ⟨hB2.alloc hB2.size _, rfl⟩
      · have hty : textB y = true := (textB_iff y).2 (HZT.out.1 rfl)
        have HTY := Lib.hid hty
        have hqe : q = textRat y.data.toList := HQQ.out rfl
        subst hqe
        rw [hty] at HFF
        clear hty HZT HQQ
        have hA2 := below_alloc w2 (.cells #[.bool qb, .slice qA qn qc, .slice qA' qn' qc'] 51)
        have kx2 := Bk.new w2 51 #[Value.bool qb, .slice qA qn qc, .slice qA' qn' qc']
        have HV3 := Lib.hid (HQV.out.next hA2)
        have HQ3 := Lib.hid (HQ2.out.next hA2)
        have hcx3 := (hA2.cell (p := ad.add k) (by rw [addr_block]; have := hB2.size; omega)).trans hcx2
        have hB3 := hB2.trans (hA2.mono hB2.size)
        have VV := Lib.hid (fun W => rvalue_any x W (by have := HS.out.1; omega) (valB x) (valB_iff x))
        have RR := Lib.hid (fun W => rget_any x W (by have := HS.out.1; omega) (numB x) (numB_iff x))
        clear HQV HQ2 hcx2 hA2 hB2
        obtain ⟨b8, hb8⟩ : ∃ b, b = w2.heap.size := ⟨_, rfl⟩
        go_wp2_with fail
        rw [← hb8] at kx2 ⊢
        generalize w2.alloc (.cells #[.bool qb, .slice qA qn qc, .slice qA' qn' qc'] 51) = w3 at *
        clear hb8
        refine (VV.out w3).mono ?_
        rintro e w4 ⟨hb4, rfl⟩
        have kx4 := kx2.next' hb4
        have HV4 := Lib.hid (HV3.out.next hb4)
        have HQ4 := Lib.hid (HQ3.out.next hb4)
        have hcx4 := (hb4.cell (p := ad.add k) (by rw [addr_block]; have := hB3.size; omega)).trans hcx3
        have hB4 := hB3.trans (hb4.mono hB3.size)
        clear VV kx2 HV3 HQ3 hcx3 hB3 hb4
        cases hvx : valB x
        · have hbad := HBAD.out (by rw [HFF.out, hvx]; rfl)
          injection hbad with e1 e2
          subst e1 e2
          clear hcx4 HT0 HT1 HAT HTK HS HBAD HFF RR hvx HF HSZ HSK HV4 HQ4 kx4
          go_wp2
          go_ret2
          exact ⟨hB4, rfl⟩
        · rw [hvx] at HFF
          have HFX : Hid (fine (x, y) = true) := HFF.out
          have HF2 : Hid (∀ z ∈ Z.take (k + 1), fine z = true) := fun z hz => by
            rw [HTK.out] at hz
            rcases List.mem_append.1 hz with h | h
            · exact HF.out z h
            · simp at h; subst h; exact HFX.out
          clear hvx HFF HFX HBAD HF
          go_wp2_with fail
          refine (RR.out w4).mono ?_
          rintro e w5 ⟨hb5, gv, rfl, ⟨p0, hp0⟩, hg⟩
          obtain ⟨gb, gA, gn, gc, gA', gn', gc', rfl⟩ := hp0.form
          have HG := Lib.hid hg
          have kx5 := kx4.next' hb5
          have HV5 := Lib.hid (HV4.out.next hb5)
          have HQ5 := Lib.hid (HQ4.out.next hb5)
          have hB5 := hB4.trans (hb5.mono hB4.size)
          have hA5 := below_alloc w5 (.cells #[.bool gb, .slice gA gn gc, .slice gA' gn' gc'] 51)
          have hB6 := hB5.trans (hA5.mono hB5.size)
          have kx6 := kx5.alloc (.cells #[.bool gb, .slice gA gn gc, .slice gA' gn' gc'] 51)
          have kg6 := Bk.new w5 51 #[Value.bool gb, .slice gA gn gc, .slice gA' gn' gc']
          have HV6 := Lib.hid (HV5.out.next hA5)
          have HQ6 := Lib.hid (HQ5.out.next hA5)
          clear RR hg hp0 kx4 HV4 HQ4 hcx4 hB4 hb5 kx5 HV5 HQ5
          cases hnx : numB x
          · have HAR : Hid (onAreas (Z.take (k + 1)) = onAreas (Z.take k)) := by
              show _ = _
              rw [HTK.out, onAreas_snoc, show onArea (x, y) = [] by unfold onArea; rw [if_neg (by rw [hnx]; decide)], List.append_nil]
            have HQ7 : Hid (QAt (w5.alloc (.cells #[.bool gb, .slice gA gn gc, .slice gA' gn' gc'] 51)) bs (rsum (onAreas (Z.take (k + 1))))) := by
              show QAt _ _ _
              rw [HAR.out]; exact HQ6.out
            clear hnx HG HAR kx6 kg6 HV6 HQ6 hA5
            go_wp2
            go_roundw
            case rel => exact ⟨k + 1, by omega, by go_num, HQ7.out, HF2.out, hB6⟩
            case measure => simp [intOf]; omega
          · have HAR : Hid (rsum (onAreas (Z.take (k + 1))) = rsum (onAreas (Z.take k)) + textRat y.data.toList * textRat x.data.toList) := by
              show _ = _
              rw [HTK.out, onAreas_snoc, show onArea (x, y) = [textRat x.data.toList * textRat y.data.toList] by unfold onArea; rw [if_pos hnx], rsum_snoc, Rat.mul_comm]
            have HG6 := Lib.hid ((HG.out hnx).next hA5)
            have hs1 : sz (textRat x.data.toList) ≤ 1000 := by
              have := sz_text ((numB_iff x).1 hnx).1 (M := 300) (by rw [size_list']; exact HS.out.1); omega
            have hs2 : sz (textRat y.data.toList) ≤ 1000 := by
              have := sz_text ((textB_iff y).1 HTY.out) (M := 300) (by rw [size_list']; exact HS.out.2); omega
            have hsp := sz_mul (textRat y.data.toList) (textRat x.data.toList)
            have hsk := HSK.out
            generalize rsum (onAreas (Z.take k)) = sm at *
            generalize textRat x.data.toList = tx at *
            generalize textRat y.data.toList = ty at *
            obtain ⟨s, B1, n1, e1, B1', n1', e1', kS, fS⟩ := HQ6.out
            replace fS := Lib.hid fS
            obtain ⟨f0, f1, f2⟩ := bk3 kS
            obtain ⟨a0, a1, a2⟩ := bk3 kx6
            clear hnx HG hA5 HQ6
            go_wp2_with fail
            have HW6 := Lib.hid hB6.size
            have hg6lt := kg6.lt
            have hx6lt := kx6.lt
            obtain ⟨b0, b1, b2⟩ := bk3 kg6
            generalize w5.alloc (.cells #[.bool gb, .slice gA gn gc, .slice gA' gn' gc'] 51) = w6 at *
            generalize w5.heap.size = b10 at *
            have hbsw : w.heap.size ≤ bs := hbs0
            refine wp_region_M 5 (by kernel_rfl) (fun X => (X.cell? ⟨bs, 0, none⟩ = some (.bool s) ∧ X.cell? ⟨bs, 1, none⟩ = some (.slice B1 n1 e1) ∧ X.cell? ⟨bs, 2, none⟩ = some (.slice B1' n1' e1')) ∧ (X.cell? ⟨b8, 0, none⟩ = some (.bool qb) ∧ X.cell? ⟨b8, 1, none⟩ = some (.slice qA qn qc) ∧ X.cell? ⟨b8, 2, none⟩ = some (.slice qA' qn' qc')) ∧ X.cell? ⟨b10, 0, none⟩ = some (.bool gb) ∧ X.cell? ⟨b10, 1, none⟩ = some (.slice gA gn gc) ∧ X.cell? ⟨b10, 2, none⟩ = some (.slice gA' gn' gc')) ⟨⟨f0, f1, f2⟩, ⟨a0, a1, a2⟩, b0, b1, b2⟩ (fun hS0 => ?_)
            clear f0 f1 f2 a0 a1 a2 b0 b1 b2
            refine takeM (i := 0) (v := ?_) rfl (by kernel_rfl) (by decide) (by kernel_rfl) (by kernel_rfl) (by kernel_rfl) (fun _ _ _ h => h) (by rfl) (by assumption) ?_ ?_
            rotate_left
            · intro w hSw; (try dsimp only at hSw); go_simp <;> with_reducible rfl
            try simp only [Act.put, List.setIfInBounds_toArray, List.set_cons_zero, List.set_cons_succ]
            refine takeM (i := 1) (v := ?_) rfl (by kernel_rfl) (by decide) (by kernel_rfl) (by kernel_rfl) (by kernel_rfl) (fun _ _ _ h => h) (by rfl) (by assumption) ?_ ?_
            rotate_left
            · intro w hSw; (try dsimp only at hSw); go_simp <;> with_reducible rfl
            try simp only [Act.put, List.setIfInBounds_toArray, List.set_cons_zero, List.set_cons_succ]
            refine takeM (i := 2) (v := ?_) rfl (by kernel_rfl) (by decide) (by kernel_rfl) (by kernel_rfl) (by kernel_rfl) (fun _ _ _ h => h) (by rfl) (by assumption) ?_ ?_
            rotate_left
            · intro w hSw; (try dsimp only at hSw); go_simp <;> with_reducible rfl
            try simp only [Act.put, List.setIfInBounds_toArray, List.set_cons_zero, List.set_cons_succ]
            clear hS0
            have MP := Lib.hid (qprod_any ty tx _ _ w6.drew (show IsQ w6.drew w6.drew.heap.size _ _ from HV6.out) (show IsQ w6.drew w6.drew.heap.size _ _ from HG6.out) (by omega) (by omega))
            refine stepM (i := 3) rfl (by kernel_rfl) (fun K0 hK0 => ?_)
            go_simp
            refine MP.out.mono ?_
            rintro e w7 ⟨hb7, v7, rfl, y7⟩
            obtain ⟨t2, A2, l2, c2, A2', l2', c2', rfl⟩ := y7.form
            have hB7 := (show Below w.heap.size w w6.drew from hB6.drew).trans (hb7.mono hB6.size)
            have kS7 := kS.drew.next' hb7
            have kx7 := kx6.drew.next' hb7
            have kg7 := kg6.drew.next' hb7
            have fS7 := (show IsQ w6.drew w6.drew.heap.size _ _ from fS.out).next hb7
            have hS2 := And.intro (bk3 kS7) (And.intro (bk3 kx7) (bk3 kg7))
            have FA := Lib.hid (qplus_any _ _ _ _ w7 fS7 y7 (by omega) (by omega))
            clear MP kS kx6 kg6 fS hb7 hB6 HV6 HG6
            dsimp only
            refine hK0.out _ _ (fun _ => hS2) (fun _ => ?_)
            clear hK0 K0
            try simp only [Act.put, List.setIfInBounds_toArray, List.set_cons_zero, List.set_cons_succ]
            refine stepM (i := 4) rfl (by kernel_rfl) (fun K0 hK0 => ?_)
            go_simp
            refine FA.out.mono ?_
            rintro e w8 ⟨hb8, v8, rfl, y8⟩
            obtain ⟨t3, A3, l3, c3, A3', l3', c3', rfl⟩ := y8.form
            have hB8 := hB7.trans (hb8.mono hB7.size)
            have kS8 := kS7.next' hb8
            have hS3 := And.intro (bk3 kS8) (And.intro (bk3 (kx7.next' hb8)) (bk3 (kg7.next' hb8)))
            obtain ⟨d0, d1, d2⟩ := bk3 kS8
            have g0 := kS8.frozen 0
            have g1 := kS8.frozen 1
            have g2 := kS8.frozen 2
            clear FA hS2 kS7 kx7 kg7 fS7 hb8 y7 hB7
            dsimp only
            refine hK0.out _ _ (fun _ => hS3) (fun _ => ?_)
            clear hK0 K0
            try simp only [Act.put, List.setIfInBounds_toArray, List.set_cons_zero, List.set_cons_succ]
            refine stepM (i := 5) rfl (by kernel_rfl) (fun K0 hK0 => ?_)
            go_simp
            refine hK0.out _ _ (fun h => absurd rfl h) (fun _ => ?_)
            clear hK0 K0
            try simp only [Act.put, List.setIfInBounds_toArray, List.set_cons_zero, List.set_cons_succ]
            refine doneM (by kernel_rfl) ?_ _
            have hB9 := set3_below hB8 (b := bs) (x := .bool t3) (y := .slice A3 l3 c3) (z := .slice A3' l3' c3') hbsw
            have kS9 := set3_bk (x := .bool t3) (y := .slice A3 l3 c3) (z := .slice A3' l3' c3') kS8
            have y9 := (y8.set3 kS8 (.bool t3) (.slice A3 l3 c3) (.slice A3' l3' c3')).more (B' := (set3 w8 bs (.bool t3) (.slice A3 l3 c3) (.slice A3' l3' c3')).heap.size) (by rw [set3_size]; exact Nat.le_refl _)
            have HQ9 : Hid (QAt (set3 w8 bs (.bool t3) (.slice A3 l3 c3) (.slice A3' l3' c3')) bs (rsum (onAreas (Z.take (k + 1))))) := ⟨_, _, _, _, _, _, _, kS9, by rw [HAR.out]; exact y9⟩
            clear hS3 d0 d1 d2 g0 g1 g2 kS8 y8 kS9 y9 HAR
            unfold set3 at hB9 HQ9
            generalize (((w8.setCell ⟨bs, 0, none⟩ (.bool t3)).setCell ⟨bs, 1, none⟩ (.slice A3 l3 c3)).setCell ⟨bs, 2, none⟩ (.slice A3' l3' c3')) = w9 at *
            go_wp2
            go_roundw
            case rel => exact ⟨k + 1, by omega, by go_num, HQ9.out, HF2.out, hB9⟩
            case measure => simp [intOf]; omega
    · have hkl : k = n := by omega
      subst hkl
      have HZT : Hid (Z.take k = Z) := by show _ = _; rw [List.take_of_length_le (by rw [HZl.out]; exact Nat.le_refl _)]
      have hall : ∀ x ∈ Z, fine x = true := by have := HF.out; rwa [HZT.out] at this
      have hR := HT0.out hall
      have hs3 := HSZ.out k HF.out
      rw [HZT.out] at HQ hs3
      injection hR with e1 e2
      have HE1 := Lib.hid e1
      subst e2
      obtain ⟨s, B1, n1, e1', B1', n1', e1'', kS, fS⟩ := HQ.out
      have TX := Lib.hid (qtext_any _ _ _ fS (by omega))
      obtain ⟨f0, f1, f2⟩ := bk3 kS
      clear hall hs3 e1 HT0 HT1 HAT HZl HZ2 HF HZT HQ fS HSZ
      go_wp2_with fail
      refine TX.out.mono ?_
      rintro e w2 ⟨hb2, rfl⟩
      have hB2 := hB.trans (hb2.mono hB.size)
      clear TX
      go_wp2
      go_ret2
      exact ⟨hB2, by rw [HE1.out]; rfl⟩
end Go.Proofs.YtbddmkklkbkliaaGreatDoor

namespace Go.Proofs.YtbddmkklkbkliaaGreatDoor
open Go.RowKit Ar

set_option maxRecDepth 100000 in
set_option maxHeartbeats 3200000 in
theorem totals_walk (V A : List ByteArray) (v u : Value) (w : World) (h : IsT w w.heap.size v V) (h' : IsT w w.heap.size u A) (he : Env w) (her : EnvR w) (hV : V.length ≤ maxLen) (hA : A.length ≤ maxLen) (hV2 : ∀ s ∈ V, s.size ≤ maxLen) (hA2 : ∀ s ∈ A, s.size ≤ maxLen) :
    Calls Tryz.prog 3 #[v, u] w fun e w' => Below w.heap.size w w' ∧ e = .returned (.bool true) := by
  obtain ⟨y, hy⟩ := bool_of (20 < V.length ∨ ∃ s ∈ V, 300 < s.size)
  obtain ⟨z, hz⟩ := bool_of (20 < A.length ∨ ∃ s ∈ A, 300 < s.size)
  have L1 := Lib.hid (lengthy_any V 20 v w h (by omega) hV y hy hV2)
  have L2 := Lib.hid (lengthy_any A 20 u w h' (by omega) hA z hz hA2)
  have SN := Lib.hid (sane_any w her)
  cases hyy : y
  · subst hyy
    cases hzz : z
    · subst hzz
      have n1 : ¬ (20 < V.length ∨ ∃ s ∈ V, 300 < s.size) := fun h => by have := hy.2 h; cases this
      have n2 : ¬ (20 < A.length ∨ ∃ s ∈ A, 300 < s.size) := fun h => by have := hz.2 h; cases this
      have m1 : ∀ s ∈ V, s.size ≤ 300 := fun s hs => Nat.le_of_not_lt fun h => n1 (.inr ⟨s, hs, h⟩)
      have m2 : ∀ s ∈ A, s.size ≤ 300 := fun s hs => Nat.le_of_not_lt fun h => n2 (.inr ⟨s, hs, h⟩)
      have m3 : V.length ≤ 1000 := by have := fun h => n1 (.inl h); omega
      have T1 := Lib.hid (total_any V A v u w h h' he her m3 m1 m2)
      have T2 := Lib.hid (fun W (hW : Below w.heap.size w W) => rtotal_any V A v u W (h.next hW) (h'.next hW) m3 m1 m2)
      have S2 := Lib.hid (fun W (hW : Below w.heap.size w W) => sane_any W (her.next hW))
      obtain ⟨Av, cv, rfl, hcv⟩ := h.form
      obtain ⟨Au, cu, rfl, hcu⟩ := h'.form
      generalize totR V A = R at *
      obtain ⟨R1, R2⟩ := R
      clear h h' hy hz hV hA hV2 hA2 n1 n2 m1 m2 m3
      go_enter Tryz.func3, Tryz.ntmps3
      go_wp2_with fail
      refine L1.out.mono ?_
      rintro e w' ⟨rfl, rfl⟩
      go_wp2_with fail
      refine L2.out.mono ?_
      rintro e w' ⟨rfl, rfl⟩
      go_wp2_with fail
      refine T1.out.mono ?_
      rintro e w1 ⟨hb1, rfl⟩
      go_wp2_with fail
      refine (T2.out w1 hb1).mono ?_
      rintro e w2 ⟨hb2, rfl⟩
      have hB2 := hb1.trans (hb2.mono hb1.size)
      go_wp2_with fail
      refine (S2.out w2 hB2).mono ?_
      rintro e w3 ⟨hb3, rfl⟩
      have hB3 := hB2.trans (hb3.mono hB2.size)
      go_wp2
      go_ret
      exact ⟨hB3, rfl⟩
    · subst hzz
      obtain ⟨Av, cv, rfl, hcv⟩ := h.form
      obtain ⟨Au, cu, rfl, hcu⟩ := h'.form
      clear h h' hy hz hV hA hV2 hA2
      go_enter Tryz.func3, Tryz.ntmps3
      go_wp2_with fail
      refine L1.out.mono ?_
      rintro e w' ⟨rfl, rfl⟩
      go_wp2_with fail
      refine L2.out.mono ?_
      rintro e w' ⟨rfl, rfl⟩
      go_wp2_with fail
      refine SN.out.mono ?_
      rintro e w3 ⟨hb3, rfl⟩
      go_wp2
      go_ret
      exact ⟨hb3, rfl⟩
  · subst hyy
    obtain ⟨Av, cv, rfl, hcv⟩ := h.form
    obtain ⟨Au, cu, rfl, hcu⟩ := h'.form
    clear h h' hy hz hV hA hV2 hA2
    go_enter Tryz.func3, Tryz.ntmps3
    go_wp2_with fail
    refine L1.out.mono ?_
    rintro e w' ⟨rfl, rfl⟩
    go_wp2_with fail
    refine SN.out.mono ?_
    rintro e w3 ⟨hb3, rfl⟩
    go_wp2
    go_ret
    exact ⟨hb3, rfl⟩
end Go.Proofs.YtbddmkklkbkliaaGreatDoor
