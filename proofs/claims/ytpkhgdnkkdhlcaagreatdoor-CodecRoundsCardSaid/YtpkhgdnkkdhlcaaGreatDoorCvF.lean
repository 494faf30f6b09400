/-
  Arguments of the laws of package codec: ints, texts, lists of texts, lists of stages.
-/
import Derived.Test.YtpkhgdnkkdhlcaaGreatDoorFrameV
import Derived.Test.YtpkhgdnkkdhlcaaGreatDoorCvA
import Derived.Deep.Strs
namespace Go.Proofs.YtpkhgdnkkdhlcaaGreatDoor
open Go.ChangeShapes Go.WideShapes Go.ChangeAt Go.RowKit Ar

theorem in64_cv {n : Int} (h : (Lit.int .i64 n).wf = true) : -9223372036854775808 ≤ n ∧ n ≤ 9223372036854775807 := by
  have h1 : IntKind.i64.min = -9223372036854775808 := rfl
  have h2 : IntKind.i64.max = 9223372036854775807 := rfl
  simp only [Lit.wf, Bool.and_eq_true, decide_eq_true_eq] at h
  omega
section
variable {H : Type} {enc : TypeId × Value → H}
section
variable {W : World} {v : Value} {d : DataW H} {p : List MemPlace} {base : Nat}
set_option maxRecDepth 100000 in
theorem opened_int (hval : Value.okWide Tryz.prog W .any base 3 v) (h : DataW.Trod enc Tryz.prog W 0 (fun _ => true) true 3 v d p) : ∃ n : Int, v = .int .i64 n ∧ -9223372036854775808 ≤ n ∧ n ≤ 9223372036854775807 := by
  obtain ⟨n, rfl, _, _, w⟩ := open_int Tryz.underlying3 hval h
  exact ⟨n, rfl, (in64_cv w).1, (in64_cv w).2⟩
set_option maxRecDepth 100000 in
theorem opened_str (hval : Value.okWide Tryz.prog W .any base 9 v) (h : DataW.Trod enc Tryz.prog W 0 (fun _ => true) true 9 v d p) : ∃ s : ByteArray, v = .string s ∧ s.size ≤ maxLen := by
  obtain ⟨s, rfl⟩ := okWide_string Tryz.underlying9 hval
  obtain ⟨fuel, hf⟩ := h
  obtain ⟨s', e, _, hz⟩ := DataW.trod_string Tryz.underlying9 hf
  simp [Value.cells] at e
  subst e
  exact ⟨_, rfl, hz⟩
set_option maxRecDepth 100000 in
set_option maxRecDepth 100000 in
theorem opened_ts (hval : Value.okWide Tryz.prog W .any base 22 v) (h : DataW.Trod enc Tryz.prog W 0 (fun _ => true) true 22 v d p) : ∃ L : List ByteArray, IsT W W.heap.size v L ∧ L.length ≤ maxLen ∧ ∀ s ∈ L, s.size ≤ maxLen := by
  obtain ⟨A, n, c, rfl⟩ := okWide_slice Tryz.underlying22 hval
  obtain ⟨fuel, hf⟩ := h
  exact opened_texts hf
end
end
end Go.Proofs.YtpkhgdnkkdhlcaaGreatDoor

