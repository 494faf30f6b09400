/-
  Arguments: ints, slabs, arrays.
  Arguments: arrays, texts, ints, lists of ints, slabs.
-/
import Derived.Test.YtgnffedncjjkfaaGreatDoorFrameV
import Derived.Test.YtgnffedncjjkfaaGreatDoorArxH
import Derived.Deep.Strs
namespace Go.Proofs.YtgnffedncjjkfaaGreatDoor
open Go.ChangeShapes Go.WideShapes Go.ChangeAt Go.RowKit Ar Ix

theorem Tryz.cellsInt : Tryz.prog.cellsOf 3 = 1 := by kernel_rfl
theorem Tryz.cellsInts : Tryz.prog.cellsOf 22 = 1 := by kernel_rfl
theorem Tryz.cellsTexts : Tryz.prog.cellsOf 23 = 1 := by kernel_rfl
theorem Tryz.cellsCut : Tryz.prog.cellsOf 80 = 3 := by kernel_rfl
theorem Tryz.cellsCuts : Tryz.prog.cellsOf 26 = 1 := by kernel_rfl
theorem Tryz.cellsArr : Tryz.prog.cellsOf 25 = 2 := by kernel_rfl
theorem in64_cut {n : Int} (h : (Lit.int .i64 n).wf = true) : -9223372036854775808 ≤ n ∧ n ≤ 9223372036854775807 := by
  have h1 : IntKind.i64.min = -9223372036854775808 := rfl
  have h2 : IntKind.i64.max = 9223372036854775807 := rfl
  simp only [Lit.wf, Bool.and_eq_true, decide_eq_true_eq] at h
  omega
theorem rd_krow {w : World} {B : Nat} {ad : Addr} {l : List Cut} (hb : ad.block < B) (h : ∀ (i : Nat) (c : Cut), l[i]? = some c → w.cell? (ad.add (i * 3)) = some (.int .i64 c.1) ∧ w.cell? (ad.add (i * 3 + 1)) = some (.int .i64 c.2.1) ∧ w.cell? (ad.add (i * 3 + 2)) = some (.int .i64 c.2.2)) : Rd w B (some ad) (krow l) := fun _ => by
  refine ⟨ad, rfl, hb, fun j u hu => ?_⟩
  have hj := (List.getElem?_eq_some_iff.1 hu).1
  rw [krow_len] at hj
  have hi : j / 3 < l.length := by omega
  have hc := List.getElem?_eq_getElem hi
  obtain ⟨h0, h1, h2⟩ := h (j / 3) _ hc
  have e := krow_at hc (j % 3) (by omega)
  rw [show j / 3 * 3 + j % 3 = j by omega, hu] at e
  have h3 : j % 3 = 0 ∨ j % 3 = 1 ∨ j % 3 = 2 := by omega
  rcases h3 with h3 | h3 | h3
  · rw [h3] at e
    simp at e
    rw [e, ← h0]; congr 2; omega
  · rw [h3] at e
    simp at e
    rw [e, ← h1]; congr 2; omega
  · rw [h3] at e
    simp at e
    rw [e, ← h2]; congr 2; omega
section
variable {H : Type} {enc : TypeId × Value → H}
set_option maxRecDepth 100000 in
/-- A slab, nil or not. -/
theorem opened_cuts {W : World} {fuel : Nat} {a : Value} {x : DataW H × List MemPlace} (h : DataW.trod enc Tryz.prog W 0 (fun _ => true) true fuel 26 [a] = some x) :
    ∃ C : List Cut, IsK W W.heap.size a C ∧ C.length ≤ maxLen ∧ ∀ x ∈ C, In64 x := by
  rcases Go.Deep.open_slice Tryz.underlying26 h with ⟨hcs, _⟩ | ⟨ad, len, cap, m, n, D, Pl, hcs, _, hl, hm, hmm, _, hc⟩
  · simp only [List.cons.injEq, and_true] at hcs
    subst hcs
    exact ⟨[], IsK.nil _ _, Nat.zero_le _, fun s hs => by cases hs⟩
  · simp only [List.cons.injEq, and_true] at hcs
    subst hcs
    simp only [if_true] at hmm
    subst hmm
    have each : ∀ i, i < m → ∃ c : Cut, In64 c ∧ W.cell? (ad.add (i * 3)) = some (.int .i64 c.1) ∧ W.cell? (ad.add (i * 3 + 1)) = some (.int .i64 c.2.1) ∧ W.cell? (ad.add (i * 3 + 2)) = some (.int .i64 c.2.2) := fun i hi => by
      obtain ⟨cs', h1, h2⟩ := hc i hi
      rw [Tryz.cellsCut] at h1
      obtain ⟨_, hlen, hcell⟩ := World.cells?_some h1
      obtain ⟨y0, y1, y2, k, _, _, g0, g1, g2⟩ := Go.Deep.trod_struct3 Tryz.underlying80 h2
      match cs', hlen with
      | [v0, v1, v2], _ =>
        simp only [Tryz.cellsInt, List.drop_zero, List.take_succ_cons, List.take_zero, List.drop_succ_cons] at g0 g1 g2
        obtain ⟨n0, e0, _, w0⟩ := DataW.trod_int Tryz.underlying3 g0
        obtain ⟨n1, e1, _, w1⟩ := DataW.trod_int Tryz.underlying3 g1
        obtain ⟨n2, e2, _, w2⟩ := DataW.trod_int Tryz.underlying3 g2
        simp only [List.cons.injEq, and_true] at e0 e1 e2
        have c0 := hcell 0 (by omega)
        have c1 := hcell 1 (by omega)
        have c2 := hcell 2 (by omega)
        rw [Go.Deep.add_add] at c0 c1 c2
        exact ⟨(n0, n1, n2), ⟨in64_cut w0, in64_cut w1, in64_cut w2⟩, by simpa [e0] using c0, by simpa [e1] using c1, by simpa [e2] using c2⟩
    obtain ⟨f, hf⟩ := Go.Deep.choose_lt each
    have hlen : ((List.range len).map f).length = len := by simp
    refine ⟨(List.range len).map f, ⟨some ad, m, by rw [hlen], by rw [hlen]; exact hl, ?_⟩, by rw [hlen]; omega, fun x hx => ?_⟩
    · rcases Nat.eq_zero_or_pos len with h0 | h0
      · subst h0
        exact fun hn => absurd rfl hn
      · have hblk := World.block_lt_of_cell? _ _ (hf 0 (by omega)).2.1
        rw [addr_block] at hblk
        refine rd_krow hblk fun i c hc => ?_
        have hi : i < len := by
          have := (List.getElem?_eq_some_iff.1 hc).1
          simpa using this
        rw [List.getElem?_map, List.getElem?_range hi] at hc
        simp only [Option.map_some, Option.some.injEq] at hc
        subst hc
        exact (hf i (by omega)).2
    · obtain ⟨i, hi, rfl⟩ := List.mem_map.1 hx
      exact (hf i (by have := List.mem_range.1 hi; omega)).1
/-- A list of ints, nil or not. -/
theorem opened_zints {W : World} {fuel : Nat} {a : Value} {x : DataW H × List MemPlace} (hf : DataW.trod enc Tryz.prog W 0 (fun _ => true) true fuel 22 [a] = some x) :
    ∃ S : List Int, IsI W W.heap.size a S ∧ S.length ≤ maxLen ∧ ∀ s ∈ S, -9223372036854775808 ≤ s ∧ s ≤ 9223372036854775807 := by
  rcases open_ints Tryz.underlying22 Tryz.underlying3 Tryz.cellsInt hf with ⟨hcs, hx⟩ | ⟨ad, len, cap, zs, hcs, _, hl, hm, hz, hx, hcell, hwz⟩
  · simp only [List.cons.injEq, and_true] at hcs
    subst hcs
    exact ⟨[], IsI.nil _ _, Nat.zero_le _, fun s hs => by cases hs⟩
  · simp only [List.cons.injEq, and_true] at hcs
    subst hcs
    simp only [if_true] at hz
    have hlen : (zs.take len).length = len := by rw [List.length_take]; omega
    refine ⟨zs.take len, ⟨some ad, cap, by rw [hlen], by rw [hlen]; exact hl, fun hn => ?_⟩, by rw [hlen]; omega, fun s hs => in64_cut (hwz s (List.mem_of_mem_take hs))⟩
    have hlen0 : 0 < len := by
      rcases Nat.eq_zero_or_pos len with h | h
      · rw [h] at hn; simp [zints] at hn
      · exact h
    have h0 := hcell 0 (by omega)
    have hblk := World.block_lt_of_cell? _ _ h0
    rw [addr_block] at hblk
    refine ⟨ad, rfl, hblk, fun j u hu => ?_⟩
    obtain ⟨hj, hv⟩ := List.getElem?_eq_some_iff.1 hu
    simp only [zints, List.length_map, List.length_take] at hj
    rw [hcell j (by omega), ← hv]
    simp [zints, List.getD, List.getElem?_eq_getElem (show j < zs.length by omega)]
end
end Go.Proofs.YtgnffedncjjkfaaGreatDoor

namespace Go.Proofs.YtgnffedncjjkfaaGreatDoor
open Go.ChangeShapes Go.WideShapes Go.ChangeAt Go.RowKit Ar Ix

theorem two_of {cs : Array Value} (h : cs.size = 2) : ∃ a b, cs = #[a, b] := by
  obtain ⟨l⟩ := cs
  match l, h with
  | [a, b], _ => exact ⟨a, b, rfl⟩
section
variable {H : Type} {enc : TypeId × Value → H} {W : World} {v : Value} {d : DataW H} {p : List MemPlace} {base : Nat}
set_option maxRecDepth 100000 in
theorem opened_arr2 {fuel : Nat} {s t : Value} {x : DataW H × List MemPlace} (h : DataW.trod enc Tryz.prog W 0 (fun _ => true) true fuel 25 [s, t] = some x) :
    ∃ a : Arr, IsA W W.heap.size (.agg #[s, t]) a ∧ a.1.length ≤ maxLen ∧ a.2.length ≤ maxLen ∧ (∀ s ∈ a.1, -9223372036854775808 ≤ s ∧ s ≤ 9223372036854775807) := by
  obtain ⟨z0, z1, n2, _, _, g0, g1⟩ := trod_struct2 Tryz.underlying25 h
  simp only [Tryz.cellsInts, Tryz.cellsTexts, List.drop_zero, List.take_succ_cons, List.take_zero, List.drop_succ_cons] at g0 g1
  obtain ⟨S, is, ls, ws⟩ := opened_zints g0
  obtain ⟨V, iv, lv, _⟩ := opened_texts g1
  exact ⟨(S, V), ⟨_, _, rfl, is, iv⟩, ls, lv, ws⟩
set_option maxRecDepth 100000 in
theorem opened_arr (hval : Value.okWide Tryz.prog W .any base 25 v) (h : DataW.Trod enc Tryz.prog W 0 (fun _ => true) true 25 v d p) :
    ∃ a : Arr, IsA W W.heap.size v a ∧ a.1.length ≤ maxLen ∧ a.2.length ≤ maxLen ∧ (∀ s ∈ a.1, -9223372036854775808 ≤ s ∧ s ≤ 9223372036854775807) := by
  obtain ⟨cs, rfl, hcs⟩ := okWide_struct Tryz.underlying25 hval
  rw [Tryz.cellsArr] at hcs
  obtain ⟨a, b, rfl⟩ := two_of hcs
  obtain ⟨fuel, hf⟩ := h
  exact opened_arr2 hf
set_option maxRecDepth 100000 in
theorem opened_str (hval : Value.okWide Tryz.prog W .any base 9 v) (h : DataW.Trod enc Tryz.prog W 0 (fun _ => true) true 9 v d p) : ∃ s : ByteArray, v = .string s ∧ s.size ≤ maxLen := by
  obtain ⟨s, rfl⟩ := okWide_string Tryz.underlying9 hval
  obtain ⟨fuel, hf⟩ := h
  obtain ⟨s', e, _, hz⟩ := DataW.trod_string Tryz.underlying9 hf
  simp [Value.cells] at e
  subst e
  exact ⟨_, rfl, hz⟩
set_option maxRecDepth 100000 in
theorem opened_int (hval : Value.okWide Tryz.prog W .any base 3 v) (h : DataW.Trod enc Tryz.prog W 0 (fun _ => true) true 3 v d p) : ∃ n : Int, v = .int .i64 n ∧ -9223372036854775808 ≤ n ∧ n ≤ 9223372036854775807 := by
  obtain ⟨n, rfl⟩ := okWide_int Tryz.underlying3 hval
  obtain ⟨fuel, hf⟩ := h
  obtain ⟨n', e, _, hw⟩ := DataW.trod_int Tryz.underlying3 hf
  simp [Value.cells] at e
  subst e
  exact ⟨_, rfl, in64_cut hw⟩
set_option maxRecDepth 100000 in
theorem opened_zs (hval : Value.okWide Tryz.prog W .any base 22 v) (h : DataW.Trod enc Tryz.prog W 0 (fun _ => true) true 22 v d p) : ∃ S : List Int, IsI W W.heap.size v S ∧ S.length ≤ maxLen ∧ ∀ s ∈ S, -9223372036854775808 ≤ s ∧ s ≤ 9223372036854775807 := by
  obtain ⟨A, n, c, rfl⟩ := okWide_slice Tryz.underlying22 hval
  obtain ⟨fuel, hf⟩ := h
  exact opened_zints hf
set_option maxRecDepth 100000 in
theorem opened_ks (hval : Value.okWide Tryz.prog W .any base 26 v) (h : DataW.Trod enc Tryz.prog W 0 (fun _ => true) true 26 v d p) : ∃ C : List Cut, IsK W W.heap.size v C ∧ C.length ≤ maxLen ∧ ∀ x ∈ C, In64 x := by
  obtain ⟨A, n, c, rfl⟩ := okWide_slice Tryz.underlying26 hval
  obtain ⟨fuel, hf⟩ := h
  exact opened_cuts hf
set_option maxRecDepth 100000 in
theorem opened_ts (hval : Value.okWide Tryz.prog W .any base 23 v) (h : DataW.Trod enc Tryz.prog W 0 (fun _ => true) true 23 v d p) : ∃ L : List ByteArray, IsT W W.heap.size v L ∧ L.length ≤ maxLen ∧ ∀ s ∈ L, s.size ≤ maxLen := by
  obtain ⟨A, n, c, rfl⟩ := okWide_slice Tryz.underlying23 hval
  obtain ⟨fuel, hf⟩ := h
  exact opened_texts hf
end
end Go.Proofs.YtgnffedncjjkfaaGreatDoor
