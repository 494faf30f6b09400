/-
  Walks: texts of numbers: integers are values.
-/
import Derived.Test.YtmoenbdooilceaaDoorReadC
namespace Go.Proofs.YtmoenbdooilceaaDoor
open Go.RowKit Ar

set_option maxRecDepth 100000 in
set_option maxHeartbeats 1600000 in
theorem read_int (s : ByteArray) (w : World) (hs : s.size ≤ 4000000) (hT : IntText s.data.toList) (h40 : (unsign s.data.toList).length ≤ 40) (he : Env w) :
    Calls Tryd.prog 83 #[.string s] w fun e w' => Below w.heap.size w w' ∧ ∃ N D, e = .returned (.tuple #[.agg #[.bool (isNeg s.data.toList), N, D], .bool true]) ∧ IsN w' w'.heap.size .u32 N (dval (unsign s.data.toList)) ∧ IsN w' w'.heap.size .u32 D 1 := by
  have c1 := fun W => Tryd.strings_TrimPrefix s ⟨#[45]⟩ W
  have e45 : (⟨#[45]⟩ : ByteArray).data.toList = [45] := rfl
  rw [e45, trimPrefix_45] at c1
  obtain ⟨r, hr⟩ : ∃ r : ByteArray, r = ⟨(unsign s.data.toList).toArray⟩ := ⟨_, rfl⟩
  have hu : r.data.toList = unsign s.data.toList := by rw [hr]
  rw [← hr] at c1
  have hl := unsign_len s.data.toList
  rw [size_list] at hl
  have hus : r.size ≤ 4000000 := by rw [hr, mk_size]; omega
  have hq40 : r.size ≤ 40 := by rw [hr, mk_size]; exact h40
  have HU := Lib.hid hu
  have HC := Lib.hid (cut47_none hT.no47)
  have RL := Lib.hid (fun W hW => readlong_int s W hs hT hW)
  clear hu hr hT h40 hl e45
  generalize unsign s.data.toList = u at *
  generalize isNeg s.data.toList = g at *
  obtain ⟨q, hq⟩ : ∃ q : ByteArray, q = ⟨u.toArray⟩ := ⟨_, rfl⟩
  have HQ : Hid (⟨u.toArray⟩ = q) := hq.symm
  have hqs : q.size ≤ 40 := by
    have e1 : r.size = u.length := by rw [← size_list, HU.out]
    rw [hq, mk_size, ← e1]; exact hq40
  clear hq hq40
  go_enter Tryd.func83, Tryd.ntmps83
  go_wp2_with fail
  refine (c1 _).mono ?_
  rintro e w1 ⟨rfl, rfl⟩
  go_wp2_with fail
  refine (cut_any _ _ hus (he.alloc _)).mono ?_
  rintro e w1 ⟨rfl, n1, rfl⟩
  rw [HU.out, HC.out, HQ.out]
  go_wp2_with fail
  refine (RL.out _ ((he.alloc _).drewN n1)).mono ?_
  rintro e w3 ⟨hb3, N, D, rfl, hN, hD⟩
  obtain ⟨A, l, c, rfl⟩ := hN.form
  obtain ⟨A2, l2, c2, rfl⟩ := hD.form
  have k0 := (Bk.new w 98 #[Value.bool false, .slice none 0 0, .slice none 0 0]).drewN n1
  have k3 := k0.below hb3 k0.lt
  have d0 := k3.cell 0
  have d1 := k3.cell 1
  have d2 := k3.cell 2
  have f0 := k3.frozen 0
  have f1 := k3.frozen 1
  have f2 := k3.frozen 2
  simp only [List.getElem?_toArray, List.getElem?_cons_zero, List.getElem?_cons_succ] at d0 d1 d2
  have hb0 : Below w.heap.size w w3 := (below_drewN (below_alloc w _) n1).trans (hb3.mono (by show _ ≤ (w.alloc _).heap.size; simp))
  clear k0
  have h1 := hN.set3 k3 (.bool g) (.slice A l c) (.slice A2 l2 c2)
  have h2 := hD.set3 k3 (.bool g) (.slice A l c) (.slice A2 l2 c2)
  have hs3 := set3_size w3 w.heap.size (.bool g) (.slice A l c) (.slice A2 l2 c2)
  have hk := set3_bk (x := .bool g) (y := .slice A l c) (z := .slice A2 l2 c2) k3
  have hb := set3_below (x := .bool g) (y := .slice A l c) (z := .slice A2 l2 c2) hb0 (Nat.le_refl _)
  rw [← hs3] at h1 h2
  have HF : Hid ((fun W => Below w.heap.size w W ∧ Bk W w.heap.size 98 #[.bool g, .slice A l c, .slice A2 l2 c2] ∧ IsN W W.heap.size .u32 (.slice A l c) (dval u) ∧ IsN W W.heap.size .u32 (.slice A2 l2 c2) 1) (((w3.setCell ⟨w.heap.size, 0, none⟩ (.bool g)).setCell ⟨w.heap.size, 1, none⟩ (.slice A l c)).setCell ⟨w.heap.size, 2, none⟩ (.slice A2 l2 c2))) := ⟨hb, hk, h1, h2⟩
  clear h1 h2 hs3 hk hb hN hD hb0
  go_wp2
  refine bodyPost_named (fun W => Below w.heap.size w W ∧ Bk W w.heap.size 98 #[.bool g, .slice A l c, .slice A2 l2 c2] ∧ IsN W W.heap.size .u32 (.slice A l c) (dval u) ∧ IsN W W.heap.size .u32 (.slice A2 l2 c2) 1) HF.out ?_
  rintro W ⟨hB, hk, hN', hD'⟩
  have e0 := hk.cell 0
  have e1 := hk.cell 1
  have e2 := hk.cell 2
  simp only [List.getElem?_toArray, List.getElem?_cons_zero, List.getElem?_cons_succ] at e0 e1 e2
  refine bodyPost_ret (v := .tuple #[.agg #[.bool g, .slice A l c, .slice A2 l2 c2], .bool true]) (by simp [results, Tryd.results83, go_sem, e0, e1, e2]) rfl ?_
  exact ⟨hB, _, _, rfl, hN', hD'⟩

set_option maxHeartbeats 800000 in
theorem valid_int (s : ByteArray) (w : World) (hs : s.size ≤ 4000000) (hT : IntText s.data.toList) (h40 : (unsign s.data.toList).length ≤ 40) (he : Env w) :
    Calls Tryd.prog 77 #[.string s] w fun e w' => Below w.heap.size w w' ∧ e = .returned (.bool true) := by
  go_enter Tryd.func77, Tryd.ntmps77
  go_wp2_with fail
  refine (read_int s _ hs hT h40 he).mono ?_
  rintro e w3 ⟨hb3, N, D, rfl, hN, hD⟩
  obtain ⟨A, l, c, rfl⟩ := hN.form
  obtain ⟨A2, l2, c2, rfl⟩ := hD.form
  go_wp2
  go_ret
  exact ⟨hb3.alloc hb3.size _, rfl⟩
end Go.Proofs.YtmoenbdooilceaaDoor
