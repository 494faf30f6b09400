/-
  Walks: package ratio's fractions: Sub, Long.
-/
import Derived.Test.YtpkhgdnkkdhlcaaGreatDoorFracE
import Derived.Test.YtpkhgdnkkdhlcaaGreatDoorNatS
namespace Go.Proofs.YtpkhgdnkkdhlcaaGreatDoor
open Go.RowKit Ar

theorem sz_neg (q : Rat) : sz (-q) = sz q := by unfold sz; rw [nm_neg, dn_neg]
theorem IsF.drew {w : World} {v : Value} {q : Rat} (h : IsF w w.heap.size v q) : IsF w.drew w.drew.heap.size v q := h

set_option maxRecDepth 100000 in
set_option maxHeartbeats 3200000 in
theorem fsub_any (p q : Rat) (v u : Value) (w : World) (h : IsF w w.heap.size v p) (h' : IsF w w.heap.size u q) (hl : sz p ≤ 200000000000) (hl' : sz q ≤ 200000000000) :
    Calls Tryz.prog 187 #[v, u] w fun e w' => Below w.heap.size w w' ∧ ∃ v, e = .returned v ∧ IsF w' w'.heap.size v (p - q) := by
  obtain ⟨s1, A1, l1, c1, A2, l2, c2, rfl⟩ := h.form
  obtain ⟨s2, A3, l3, c3, A4, l4, c4, rfl⟩ := h'.form
  have hR := Lib.hid (Rat.sub_eq_add_neg p q)
  have hl2 : sz (-q) ≤ 200000000000 := by rw [sz_neg]; exact hl'
  go_enter Tryz.func187, Tryz.ntmps187
  go_wp2_with fail
  refine wp_name (fun W => Below w.heap.size w W ∧ Bk W w.heap.size 102 #[.bool s1, .slice A1 l1 c1, .slice A2 l2 c2] ∧ Bk W (w.heap.size + 1) 102 #[.bool s2, .slice A3 l3 c3, .slice A4 l4 c4] ∧
    Bk W (w.heap.size + 1 + 1) 102 #[.bool false, .slice none 0 0, .slice none 0 0]) ⟨((below_alloc w _).alloc (by simp) _).alloc (by simp; omega) _, ((Bk.new _ _ _).alloc _).alloc _, (by simpa using ((Bk.new (w.alloc _) _ _).alloc _)), (by simpa using (Bk.new ((w.alloc _).alloc _) _ _))⟩ ?_
  rintro W ⟨hB, k1, k2, k3⟩
  obtain ⟨a0, a1, a2⟩ := bk3 k1
  obtain ⟨b0, b1, b2⟩ := bk3 k2
  have hlt := k3.lt
  have hp := (h.next hB).drew
  have hq := (h'.next hB).drew
  go_region_held3 (fun w' => w'.cell? ⟨w.heap.size, 0, none⟩ = some (.bool s1) ∧ w'.cell? ⟨w.heap.size, 1, none⟩ = some (.slice A1 l1 c1) ∧ w'.cell? ⟨w.heap.size, 2, none⟩ = some (.slice A2 l2 c2) ∧
      w'.cell? ⟨w.heap.size + 1, 0, none⟩ = some (.bool s2) ∧ w'.cell? ⟨w.heap.size + 1, 1, none⟩ = some (.slice A3 l3 c3) ∧ w'.cell? ⟨w.heap.size + 1, 2, none⟩ = some (.slice A4 l4 c4)) (first | with_reducible exact bk6 k11 k21 | with_reducible exact bk6 k12 k22 | exact bk6 kk1 kk2 | go_keep)
    (first
      | (go_at_call 214; ((with_reducible refine (fminus_any q _ _ hq).mono ?_)); rintro e w1 ⟨hb1, x1, rfl, hx1⟩; obtain ⟨t1, A5, l5, c5, A6, l6, c6, rfl⟩ := hx1.form; have k11 := k1.drew.below hb1 k1.lt; have k21 := k2.drew.below hb1 k2.lt; have k31 := k3.drew.below hb1 k3.lt; have hB1 := hB.drew.trans (hb1.mono hB.size); have hp1 := hp.next hb1)
      | (go_at_call 81; ((with_reducible refine (fadd_any p (-q) _ _ _ hp1 hx1 hl hl2).mono ?_)); rintro e w2 ⟨hb2, x2, rfl, hx2⟩; obtain ⟨t2, A7, l7, c7, A8, l8, c8, rfl⟩ := hx2.form; have k12 := k11.below hb2 k11.lt; have k22 := k21.below hb2 k21.lt; have k32 := k31.below hb2 k31.lt; have hB2 := hB1.trans (hb2.mono hB1.size); obtain ⟨d0, d1, d2⟩ := bk3 k32; have f0 := k32.frozen 0; have f1 := k32.frozen 1; have f2 := k32.frozen 2; have kk1 := bk_far3 (b' := w.heap.size + 1 + 1) (x := .bool t2) (y := .slice A7 l7 c7) (z := .slice A8 l8 c8) k12 (by omega); have kk2 := bk_far3 (b' := w.heap.size + 1 + 1) (x := .bool t2) (y := .slice A7 l7 c7) (z := .slice A8 l8 c8) k22 (by omega)))
  go_wp2
  refine bodyPost_ret (v := .agg #[.bool t2, .slice A7 l7 c7, .slice A8 l8 c8]) (by simp [results, Tryz.results187, go_sem, d0, d1, d2]) rfl ?_
  refine ⟨set3_below hB2 (by omega), _, rfl, ?_⟩
  rw [hR.out]
  exact (hx2.set3 k32 (.bool t2) (.slice A7 l7 c7) (.slice A8 l8 c8)).more (by rw [show (World.setCell _ _ _) = set3 w2 (w.heap.size + 1 + 1) (.bool t2) (.slice A7 l7 c7) (.slice A8 l8 c8) from rfl, set3_size]; exact Nat.le_refl _)

/-- The text of a fraction. -/
theorem ratText_parts (q : Rat) : ratText q = (if sg q then [45] else []) ++ (Lib.decDigits (nm q) ++ (if dn q = 1 then [] else 47 :: Lib.decDigits (dn q))) := by
  unfold ratText sg nm dn
  by_cases h : q < 0 <;> simp [h]
theorem text_len (n : Nat) : (Lib.decDigits n).length ≤ 9 * (limbs n).length + 1 := by
  rcases Nat.eq_zero_or_pos n with rfl | h
  · rw [decDigits_small (by decide)]; simp
  · obtain ⟨m, x, hmx, hx0⟩ := limbs_top h
    have hs := Small.limbs n
    have hv := val_limbs n
    rw [hmx] at hs
    have hx : x < 1000000000 := hs x (by simp)
    have h9 : (Lib.decDigits x).length ≤ 9 := decDigits_len_le (by decide) hx
    have e : Lib.decDigits n = Lib.decDigits x ++ tail9 m := by rw [← hv, hmx]; exact text_limbs hs hx0
    rw [e, hmx, List.length_append, List.length_append, tail9_len, List.length_singleton]
    omega
theorem str_app (a b : List UInt8) : (⟨a.toArray⟩ : ByteArray) ++ ⟨b.toArray⟩ = ⟨(a ++ b).toArray⟩ := by
  apply ByteArray.ext
  simp

set_option maxRecDepth 100000 in
set_option maxHeartbeats 3200000 in
theorem flong_any (p : Rat) (v : Value) (w : World) (h : IsF w w.heap.size v p) (hl : sz p ≤ 1000000000000) (he : EnvR w) :
    Calls Tryz.prog 216 #[v] w fun e w' => Below w.heap.size w w' ∧ e = .returned (.string ⟨(ratText p).toArray⟩) := by
  obtain ⟨N1, D1, rfl, hN1, hD1⟩ := h
  obtain ⟨A1, l1, c1, rfl⟩ := hN1.form
  obtain ⟨A2, l2, c2, rfl⟩ := hD1.form
  have HT := Lib.hid (ratText_parts p)
  have hln := sz_nm p
  have hld := sz_dn p
  have ht1 := text_len (nm p)
  have ht2 := text_len (dn p)
  have ht3 : (Lib.decDigits (nm p)).length ≤ 9000000000001 := by omega
  have ht4 : (Lib.decDigits (dn p)).length ≤ 9000000000001 := by omega
  clear ht1 ht2
  go_enter Tryz.func216, Tryz.ntmps216
  go_wp2_with fail
  have k1 := Bk.new w 102 #[Value.bool (sg p), .slice A1 l1 c1, .slice A2 l2 c2]
  have hB1 := below_alloc w (.cells #[Value.bool (sg p), .slice A1 l1 c1, .slice A2 l2 c2] 102)
  refine (nstr_any (nm p) _ _ (hN1.next hB1) (by omega) (he.next hB1)).mono ?_
  rintro e w1 ⟨hb1, rfl⟩
  have k2 := k1.below hb1 k1.lt
  have hB2 := hB1.trans (hb1.mono hB1.size)
  obtain ⟨d0, d1, d2⟩ := bk3 k2
  have hD2 := (hD1.next hB1).next hb1
  have hE2 := he.next hB2
  have hone := one_any (dn p) _ w1 hD2 (by omega)
  have e45 : ∀ l : List UInt8, (⟨#[45]⟩ : ByteArray) ++ ⟨l.toArray⟩ = ⟨(45 :: l).toArray⟩ := fun l => str_app [45] l
  have e47 : ∀ l : List UInt8, (⟨#[47]⟩ : ByteArray) ++ ⟨l.toArray⟩ = ⟨(47 :: l).toArray⟩ := fun l => str_app [47] l
  have E45 := Lib.hid e45
  have E47 := Lib.hid e47
  clear e45 e47 k1 hB1 hb1
  by_cases hd1 : dn p = 1
  · rw [if_pos hd1, List.append_nil] at HT
    rw [decide_eq_true hd1] at hone
    clear hd1
    cases hsg : sg p
    · rw [hsg] at d0 k2 HT
      go_wp2_with fail
      refine hone.mono ?_
      rintro e w2 ⟨rfl, rfl⟩
      go_wp2
      go_ret
      exact ⟨hB2, by rw [HT.out]; rfl⟩
    · rw [hsg] at d0 k2 HT
      go_wp2_with fail
      refine hone.mono ?_
      rintro e w2 ⟨rfl, rfl⟩
      go_wp2
      go_ret
      exact ⟨hB2, by rw [HT.out, E45.out]; rfl⟩
  · rw [if_neg hd1] at HT
    rw [decide_eq_false hd1] at hone
    clear hd1
    have hst := nstr_any (dn p) _ w1 hD2 (by omega) hE2
    cases hsg : sg p
    · rw [hsg] at d0 k2 HT
      go_wp2_with fail
      refine hone.mono ?_
      rintro e w2 ⟨rfl, rfl⟩
      go_wp2_with fail
      refine hst.mono ?_
      rintro e w3 ⟨hb3, rfl⟩
      go_wp2
      go_ret
      refine ⟨hB2.trans (hb3.mono hB2.size), ?_⟩
      rw [HT.out, E47.out, str_app]; rfl
    · rw [hsg] at d0 k2 HT
      go_wp2_with fail
      refine hone.mono ?_
      rintro e w2 ⟨rfl, rfl⟩
      go_wp2_with fail
      refine hst.mono ?_
      rintro e w3 ⟨hb3, rfl⟩
      go_wp2
      go_ret
      refine ⟨hB2.trans (hb3.mono hB2.size), ?_⟩
      rw [HT.out, E45.out, E47.out, str_app]; rfl
end Go.Proofs.YtpkhgdnkkdhlcaaGreatDoor

