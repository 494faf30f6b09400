/-
  Walks: package array: counts, within, inside.
-/
import Derived.Test.YtihcefiffblikaaDoorArrD
namespace Go.Proofs.YtihcefiffblikaaDoor
open Go.RowKit Ix Ar

/-- The counts of a slab, as ints. -/
def cntI (C : List Cut) : List Int := C.map fun c => c.2.1
theorem cntI_len (C : List Cut) : (cntI C).length = C.length := List.length_map _
theorem cntI_take {C : List Cut} {k : Nat} (h : k < C.length) : cntI (C.take (k + 1)) = cntI (C.take k) ++ [C[k].2.1] := by
  unfold cntI
  rw [take_snocI h, List.map_append]; rfl

theorem rd_new2 (w : World) (o : Obj) (T : TypeId) (u : Value) : Rd ((w.alloc o).alloc (.cells #[u] T)) (w.heap.size + 2) (some ⟨w.heap.size + 1, 0, none⟩) [u] := by
  have := Rd.of_new (w.alloc o) [u] T
  simpa using this
set_option maxRecDepth 100000 in
set_option maxHeartbeats 3200000 in
theorem counts_any (C : List Cut) (A : Option Addr) (c : Nat) (w : World) (hr : Rd w w.heap.size A (krow C)) (hL : C.length ≤ 1000000) :
    Calls Tryd.prog 19 #[.slice A C.length c] w fun e w' => Below w.heap.size w w' ∧ ∃ v, e = .returned v ∧ w'.ownsRow w.heap.size 3 1 v C.length (zints (cntI C)) := by
  obtain ⟨i0, hi0, hz0, hz1, hz2⟩ := info_parts Tryd.int_info
  obtain ⟨n, hn⟩ : ∃ n, n = C.length := ⟨_, rfl⟩
  rw [← hn]
  have HN := Lib.hid hn
  have hL' : n ≤ 1000000 := by omega
  clear hn hL
  go_enter Tryd.func19, Tryd.ntmps19
  go_wp2_with fail
  go_loopw [3, 8] (fun v i wr => ∃ k : Nat, k ≤ n ∧ i = .int .i64 k ∧ wr.ownsRow w.heap.size 3 1 v k (zints (cntI (C.take k))) ∧ Below w.heap.size w wr) (fun _ i _ => n - (intOf i).toNat)
  case atStart => exact ⟨0, Nat.zero_le _, rfl, World.ownsRow_nil _ _ _ _, Below.refl _ _⟩
  case round =>
    obtain ⟨k, hk, rfl, hown, hB⟩ := hrel
    by_cases hlt : k < n
    · have hlt' : k < C.length := by rw [← HN.out]; exact hlt
      obtain ⟨ad, rfl, hab, t0, t1, t2⟩ := (hr.below hB).kut (i := k) hlt'
      have HT := Lib.hid (cntI_take hlt')
      generalize C[k] = x at *
      clear hlt'
      obtain ⟨a, b, d⟩ := x
      simp only at t0 t1 t2 HT
      have hB1 := hB.alloc (by have := hB.size; omega) (.cells #[.int .i64 a, .int .i64 b, .int .i64 d] 35)
      have hown1 := hown.alloc (.cells #[.int .i64 a, .int .i64 b, .int .i64 d] 35)
      have kx := Bk.new wr 35 #[Value.int .i64 a, .int .i64 b, .int .i64 d]
      have x1 : _ = some (Value.int .i64 b) := kx.cell 1
      go_wp2_with (at_builtin; go_loud (have hz := hB1.size; refine wpL_append _ rfl (.tmp 12) (.tmp 15) _ rfl w.heap.size 3 i0 _ 1 8 Tryd.underlying22 hi0 hz0 hz1 hz2 rfl (by omega) _ k _ rfl (hown1.alloc _) _ 1 1 [.int .i64 b] rfl rfl (rd_new2 wr _ _ _) (zints_one [b]) (by unfold maxLen; omega) (by omega) (by simp only [World.size_alloc] at *; omega) ?_; intro v1 w1 hown2 hg1 hat1; have hB2 := below_app (hB1.alloc hz _) hg1 (by simp only [World.size_alloc] at *; omega) (hown1.alloc _) (Nat.le_refl _); clear hg1 hat1))
      have HO : Hid (w1.ownsRow w.heap.size 3 1 v1 (k + 1) (zints (cntI (C.take (k + 1))))) := by
        show w1.ownsRow _ _ _ _ _ _
        rw [HT.out, zints_app]; exact hown2
      clear hown2 hown1 hown HT x1 kx hB1 t0 t1 t2
      go_roundw
      case rel => exact ⟨k + 1, by omega, by go_num, HO.out, hB2⟩
      case measure => simp [intOf]; omega
    · have HE : Hid (wr.ownsRow w.heap.size 3 1 u3 n (zints (cntI C))) := by
        obtain rfl : k = n := by omega
        have := hown
        rwa [List.take_of_length_le (by rw [HN.out]; exact Nat.le_refl _)] at this
      clear hown
      go_wp2
      go_ret
      exact ⟨hB, _, rfl, HE.out⟩

theorem cnt_at {C : List Cut} {k : Nat} (h : k < C.length) : (cnt C).getD k 0 = (C.getD k (0, 0, 0)).2.1.toNat := by
  unfold cnt
  rw [List.getD_eq_getElem?_getD, List.getD_eq_getElem?_getD, List.getElem?_map, List.getElem?_eq_getElem h]; rfl
/-- In the middle of within. -/
def wmid (C : List Cut) (I : List Nat) (k : Nat) : List Nat := (thr C I).take k ++ List.replicate (I.length - k) 0
theorem wmid_next {C : List Cut} {I : List Nat} (h : I.length = C.length) {k : Nat} (hk : k < I.length) : (wmid C I k).set k ((thr C I).getD k 0) = wmid C I (k + 1) := by
  unfold wmid
  have hl := thr_len (C := C) (I := I) h
  rw [take_getD (by omega), List.append_assoc, show I.length - k = (I.length - (k + 1)) + 1 by omega, List.replicate_succ]
  exact set_mid _ _ _ _ _ (by rw [List.length_take]; omega)
theorem wmid_len {C : List Cut} {I : List Nat} (h : I.length = C.length) {k : Nat} (hk : k ≤ I.length) : (wmid C I k).length = I.length := by
  unfold wmid
  have hl := thr_len (C := C) (I := I) h
  rw [List.length_append, List.length_take, List.length_replicate]; omega

set_option maxRecDepth 100000 in
set_option maxHeartbeats 6400000 in
theorem within_any (C : List Cut) (S : List Int) (I : List Nat) (A A' : Option Addr) (c c' : Nat) (w : World) (hr : Rd w w.heap.size A (krow C)) (hr' : Rd w w.heap.size A' (ints .i64 I)) (hF : Fit S C) (hS : ∀ s ∈ S, 0 ≤ s ∧ s ≤ 1024) (hI : Inside (cnt C) I) (h4 : C.length ≤ 4) (hC : ∀ x ∈ C, In64 x) :
    Calls Tryd.prog 22 #[.slice A C.length c, .slice A' I.length c'] w fun e w' => Below w.heap.size w w' ∧ e = .returned (.slice (some ⟨w.heap.size, 0, none⟩) I.length I.length) ∧ Bk w' w.heap.size 3 (ints .i64 (thr C I)).toArray := by
  have hlI : I.length = C.length := by have := inside_len _ _ hI; rw [this]; unfold cnt; rw [List.length_map]
  have hlS := fit_len hF
  obtain ⟨n, hn⟩ : ∃ n, n = I.length := ⟨_, rfl⟩
  have HB : Hid (∀ k, k < n → 0 ≤ (C.getD k (0, 0, 0)).1 ∧ 0 ≤ ((I.getD k 0 : Nat) : Int) * (C.getD k (0, 0, 0)).2.2 ∧ (C.getD k (0, 0, 0)).1 + ((I.getD k 0 : Nat) : Int) * (C.getD k (0, 0, 0)).2.2 ≤ 1024 ∧ (thr C I).getD k 0 = ((C.getD k (0, 0, 0)).1 + ((I.getD k 0 : Nat) : Int) * (C.getD k (0, 0, 0)).2.2).toNat) := fun k hk => by
    have f1 := ((fit_iff _ _).1 hF).2 k (by omega)
    have f2 := ((inside_iff _ _).1 hI).2 k (by unfold cnt; rw [List.length_map]; omega)
    rw [cnt_at (by omega)] at f2
    have f3 := fitC_at f1 (i := ((I.getD k 0 : Nat) : Int)) (by omega) (by omega)
    have f4 : S.getD k 0 ≤ 1024 := by
      rw [List.getD_eq_getElem?_getD, List.getElem?_eq_getElem (by omega)]
      exact (hS _ (List.getElem_mem _)).2
    exact ⟨f1.1, f3.1, by omega, thr_at (by omega) (by omega)⟩
  have HW : Hid (∀ k, k < n → (wmid C I k).set k ((thr C I).getD k 0) = wmid C I (k + 1)) := fun k hk => wmid_next hlI (by omega)
  have HWL : Hid (∀ k, k ≤ n → (wmid C I k).length = n) := fun k hk => (wmid_len hlI (by omega)).trans hn.symm
  have HWE : Hid (wmid C I n = thr C I) := by
    show _ = _
    unfold wmid
    rw [List.take_of_length_le (by rw [thr_len hlI]; omega), hn, Nat.sub_self, List.replicate_zero, List.append_nil]
  have HW0 : Hid (ints .i64 (List.replicate n 0) = ints .i64 (wmid C I 0)) := by
    show _ = _
    unfold wmid
    rw [List.take_zero, List.nil_append, hn, Nat.sub_zero]
  have HC : Hid (∀ j, In64 (C.getD j (0, 0, 0))) := fun j => by
    rcases Nat.lt_or_ge j C.length with h | h
    · rw [List.getD_eq_getElem?_getD, List.getElem?_eq_getElem h]; exact hC _ (List.getElem_mem _)
    · rw [List.getD_eq_getElem?_getD, List.getElem?_eq_none h]; unfold In64; decide
  have HN := Lib.hid hn
  have HLC : Hid (n = C.length) := hn.trans hlI
  have h4' : n ≤ 4 := by omega
  rw [← hlI, ← hn]
  obtain ⟨i0, hi0, hz0, hz1, hz2⟩ := info_parts Tryd.int_info
  have hmk := make_ints (P := Tryd.prog) 22 3 i0 .i64 Tryd.underlying22 hi0 hz0 hz1 (by omega) .i64 .i64 n (n : Int) rfl (by omega)
  have HR := Lib.hid hr
  have HR' := Lib.hid hr'
  clear hF hS hI hC hlI hlS hn h4 hr hr'
  go_enter Tryd.func22, Tryd.ntmps22
  go_wp2_with fail
  have hB1 := below_alloc w (.cells (ints .i64 (List.replicate n 0)).toArray 3)
  have k1 : Bk (w.alloc (.cells (ints .i64 (List.replicate n 0)).toArray 3)) w.heap.size 3 (ints .i64 (wmid C I 0)).toArray := by rw [← HW0.out]; exact Bk.new _ _ _
  clear hmk
  generalize w.alloc (.cells (ints .i64 (List.replicate n 0)).toArray 3) = w1 at *
  go_loopw [13] (fun i wr => ∃ k : Nat, k ≤ n ∧ i = .int .i64 k ∧ Bk wr w.heap.size 3 (ints .i64 (wmid C I k)).toArray ∧ Below w.heap.size w wr) (fun i _ => n - (intOf i).toNat)
  case atStart => exact ⟨0, Nat.zero_le _, rfl, k1, hB1⟩
  case round =>
    clear k1 hB1
    obtain ⟨k, hk, rfl, kb, hB⟩ := hrel
    by_cases hlt : k < n
    · obtain ⟨ad, rfl, hab, t0, t1, t2⟩ := (HR.out.below hB).kut (i := k) (by rw [← HLC.out]; exact hlt)
      obtain ⟨ad', rfl, hab', hs⟩ := (HR'.out.below hB).int (j := k) (by rw [← HN.out]; exact hlt)
      have e1 : C[k]'(by rw [← HLC.out]; exact hlt) = C.getD k (0, 0, 0) := by rw [List.getD_eq_getElem?_getD, List.getElem?_eq_getElem (by rw [← HLC.out]; exact hlt)]; rfl
      rw [e1] at t0 t1 t2
      obtain ⟨b1, b2, b3, b4⟩ := HB.out k hlt
      have k4 := kb.put k (.int .i64 (((thr C I).getD k 0 : Nat) : Int))
      rw [ints_set, HW.out k hlt] at k4
      have hc0 := kb.cell k
      rw [ints_getD .i64 _ (by rw [HWL.out k (by omega)]; exact hlt)] at hc0
      have hf0 := kb.frozen k
      have hcb := HC.out k
      generalize C.getD k (0, 0, 0) = x at *
      generalize I.getD k 0 = i at *
      generalize (thr C I).getD k 0 = y at *
      obtain ⟨a, b, d⟩ := x
      simp only at t0 t1 t2 b1 b2 b3 b4
      obtain ⟨⟨hc1, hc2⟩, ⟨hc3, hc4⟩, hc5, hc6⟩ := hcb
      simp only at hc1 hc2 hc3 hc4 hc5 hc6
      obtain ⟨m, hm⟩ : ∃ m, m = (i : Int) * d := ⟨_, rfl⟩
      have ww : IntKind.i64.wrap ((i : Int) * d) = m := by rw [IntWalk.i64_in _ (by omega)]; exact hm.symm
      rw [← hm] at b2 b3 b4
      have ww2 : IntKind.i64.wrap (a + m) = a + m := IntWalk.i64_in _ (by omega)
      have hy : (y : Int) = a + m := by omega
      rw [hy] at k4
      have hB4 := (hB.setCell (p := ⟨w.heap.size, k, none⟩) (Nat.le_refl _) (.int .i64 (a + m))).drew
      have K4 : Hid (Bk ((wr.setCell ⟨w.heap.size, k, none⟩ (.int .i64 (a + m))).drew) w.heap.size 3 (ints .i64 (wmid C I (k + 1))).toArray) := k4
      clear b4 hm hy k4 e1 kb
      go_wp2_with fail
      go_region
      go_wp2
      go_roundw
      case rel => exact ⟨k + 1, by omega, by go_num, K4.out, hB4⟩
      case measure => simp [intOf]; omega
    · have hkn : k = n := by omega
      subst hkn
      rw [HWE.out] at kb
      clear HWE HW0
      go_wp2
      go_ret
      exact ⟨hB, rfl, kb⟩
end Go.Proofs.YtihcefiffblikaaDoor
