/-
  Arguments of the laws of package codec: ints, texts, lists of texts, lists of stages.
-/
import Derived.Test.YtpkhgdnkkdhlcaaGreatDoorFrameV
import Derived.Test.YtpkhgdnkkdhlcaaGreatDoorCvA
import Derived.Deep.Strs
namespace Go.Proofs.YtpkhgdnkkdhlcaaGreatDoor
open Go.ChangeShapes Go.WideShapes Go.ChangeAt Go.RowKit Ar

theorem Tryz.cvInt : Tryz.prog.cellsOf 3 = 1 := by kernel_rfl
theorem Tryz.cvStage : Tryz.prog.cellsOf 52 = 3 := by kernel_rfl
theorem in64_cv {n : Int} (h : (Lit.int .i64 n).wf = true) : -9223372036854775808 ≤ n ∧ n ≤ 9223372036854775807 := by
  have h1 : IntKind.i64.min = -9223372036854775808 := rfl
  have h2 : IntKind.i64.max = 9223372036854775807 := rfl
  simp only [Lit.wf, Bool.and_eq_true, decide_eq_true_eq] at h
  omega
def In64s (x : Stg) : Prop := (-9223372036854775808 ≤ x.1 ∧ x.1 ≤ 9223372036854775807) ∧ (-9223372036854775808 ≤ x.2.1 ∧ x.2.1 ≤ 9223372036854775807) ∧ x.2.2.size ≤ maxLen
theorem rd_srow {w : World} {B : Nat} {ad : Addr} {l : List Stg} (hb : ad.block < B) (h : ∀ (i : Nat) (c : Stg), l[i]? = some c → w.cell? (ad.add (i * 3)) = some (.int .i64 c.1) ∧ w.cell? (ad.add (i * 3 + 1)) = some (.int .i64 c.2.1) ∧ w.cell? (ad.add (i * 3 + 2)) = some (.string c.2.2)) : Rd w B (some ad) (srow l) := fun _ => by
  refine ⟨ad, rfl, hb, fun j u hu => ?_⟩
  have hj := (List.getElem?_eq_some_iff.1 hu).1
  rw [srow_len] at hj
  have hi : j / 3 < l.length := by omega
  have hc := List.getElem?_eq_getElem hi
  obtain ⟨h0, h1, h2⟩ := h (j / 3) _ hc
  obtain ⟨e0, e1, e2⟩ := scell_at hc
  have h3 : j = j / 3 * 3 ∨ j = j / 3 * 3 + 1 ∨ j = j / 3 * 3 + 2 := by omega
  rcases h3 with h3 | h3 | h3
  · rw [h3] at hu ⊢
    rw [e0] at hu; cases hu; exact h0
  · rw [h3] at hu ⊢
    rw [e1] at hu; cases hu; exact h1
  · rw [h3] at hu ⊢
    rw [e2] at hu; cases hu; exact h2
section
variable {H : Type} {enc : TypeId × Value → H}
set_option maxRecDepth 100000 in
/-- A pipeline, nil or not. -/
theorem opened_stages {W : World} {fuel : Nat} {a : Value} {x : DataW H × List MemPlace} (h : DataW.trod enc Tryz.prog W 0 (fun _ => true) true fuel 37 [a] = some x) :
    ∃ (C : List Stg) (A : Option Addr) (c : Nat), a = .slice A C.length c ∧ Rd W W.heap.size A (srow C) ∧ C.length ≤ maxLen ∧ ∀ x ∈ C, In64s x := by
  rcases Go.Deep.open_slice Tryz.underlying37 h with ⟨hcs, _⟩ | ⟨ad, len, cap, m, n, D, Pl, hcs, _, hl, hm, hmm, _, hc⟩
  · simp only [List.cons.injEq, and_true] at hcs
    subst hcs
    exact ⟨[], none, 0, rfl, fun hn => absurd rfl hn, Nat.zero_le _, fun s hs => by cases hs⟩
  · simp only [List.cons.injEq, and_true] at hcs
    subst hcs
    simp only [if_true] at hmm
    subst hmm
    have each : ∀ i, i < m → ∃ c : Stg, In64s c ∧ W.cell? (ad.add (i * 3)) = some (.int .i64 c.1) ∧ W.cell? (ad.add (i * 3 + 1)) = some (.int .i64 c.2.1) ∧ W.cell? (ad.add (i * 3 + 2)) = some (.string c.2.2) := fun i hi => by
      obtain ⟨cs', h1, h2⟩ := hc i hi
      rw [Tryz.cvStage] at h1
      obtain ⟨_, hlen, hcell⟩ := World.cells?_some h1
      obtain ⟨y0, y1, y2, k, _, _, g0, g1, g2⟩ := Go.Deep.trod_struct3 Tryz.underlying52 h2
      match cs', hlen with
      | [v0, v1, v2], _ =>
        simp only [Tryz.cvInt, Tryz.cellsStr, List.drop_zero, List.take_succ_cons, List.take_zero, List.drop_succ_cons] at g0 g1 g2
        obtain ⟨n0, e0, _, w0⟩ := DataW.trod_int Tryz.underlying3 g0
        obtain ⟨n1, e1, _, w1⟩ := DataW.trod_int Tryz.underlying3 g1
        obtain ⟨s2, e2, _, w2⟩ := DataW.trod_string Tryz.underlying9 g2
        simp only [List.cons.injEq, and_true] at e0 e1 e2
        have c0 := hcell 0 (by omega)
        have c1 := hcell 1 (by omega)
        have c2 := hcell 2 (by omega)
        rw [Go.Deep.add_add] at c0 c1 c2
        exact ⟨(n0, n1, s2), ⟨in64_cv w0, in64_cv w1, w2⟩, by simpa [e0] using c0, by simpa [e1] using c1, by simpa [e2] using c2⟩
    obtain ⟨f, hf⟩ := Go.Deep.choose_lt each
    have hlen : ((List.range len).map f).length = len := by simp
    refine ⟨(List.range len).map f, some ad, m, by rw [hlen], ?_, by rw [hlen]; omega, fun x hx => ?_⟩
    · rcases Nat.eq_zero_or_pos len with h0 | h0
      · subst h0
        exact fun hn => absurd rfl hn
      · have hblk := World.block_lt_of_cell? _ _ (hf 0 (by omega)).2.1
        rw [addr_block] at hblk
        refine rd_srow hblk fun i c hc => ?_
        have hi : i < len := by
          have := (List.getElem?_eq_some_iff.1 hc).1
          simpa using this
        rw [List.getElem?_map, List.getElem?_range hi] at hc
        simp only [Option.map_some, Option.some.injEq] at hc
        subst hc
        exact (hf i (by omega)).2
    · obtain ⟨i, hi, rfl⟩ := List.mem_map.1 hx
      exact (hf i (by have := List.mem_range.1 hi; omega)).1
section
variable {W : World} {v : Value} {d : DataW H} {p : List MemPlace} {base : Nat}
set_option maxRecDepth 100000 in
theorem opened_sts (hval : Value.okWide Tryz.prog W .any base 37 v) (h : DataW.Trod enc Tryz.prog W 0 (fun _ => true) true 37 v d p) :
    ∃ (C : List Stg) (A : Option Addr) (c : Nat), v = .slice A C.length c ∧ Rd W W.heap.size A (srow C) ∧ C.length ≤ maxLen ∧ ∀ x ∈ C, In64s x := by
  obtain ⟨a0, len, cap, rfl⟩ := okWide_slice Tryz.underlying37 hval
  obtain ⟨fuel, hf⟩ := h
  exact opened_stages hf
set_option maxRecDepth 100000 in
theorem opened_int (hval : Value.okWide Tryz.prog W .any base 3 v) (h : DataW.Trod enc Tryz.prog W 0 (fun _ => true) true 3 v d p) : ∃ n : Int, v = .int .i64 n ∧ -9223372036854775808 ≤ n ∧ n ≤ 9223372036854775807 := by
  obtain ⟨n, rfl, _, _, w⟩ := open_int Tryz.underlying3 hval h
  exact ⟨n, rfl, (in64_cv w).1, (in64_cv w).2⟩
set_option maxRecDepth 100000 in
theorem opened_str (hval : Value.okWide Tryz.prog W .any base 9 v) (h : DataW.Trod enc Tryz.prog W 0 (fun _ => true) true 9 v d p) : ∃ s : ByteArray, v = .string s ∧ s.size ≤ maxLen := by
  obtain ⟨s, rfl⟩ := okWide_string Tryz.underlying9 hval
  obtain ⟨fuel, hf⟩ := h
  obtain ⟨s', e, _, hz⟩ := DataW.trod_string Tryz.underlying9 hf
  simp [Value.cells] at e
  subst e
  exact ⟨_, rfl, hz⟩
set_option maxRecDepth 100000 in
set_option maxRecDepth 100000 in
theorem opened_ts (hval : Value.okWide Tryz.prog W .any base 22 v) (h : DataW.Trod enc Tryz.prog W 0 (fun _ => true) true 22 v d p) : ∃ L : List ByteArray, IsT W W.heap.size v L ∧ L.length ≤ maxLen ∧ ∀ s ∈ L, s.size ≤ maxLen := by
  obtain ⟨A, n, c, rfl⟩ := okWide_slice Tryz.underlying22 hval
  obtain ⟨fuel, hf⟩ := h
  exact opened_texts hf
end
end
end Go.Proofs.YtpkhgdnkkdhlcaaGreatDoor

