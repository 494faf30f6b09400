/-
  Arguments of the laws of package codec: bytes.
-/
import Derived.Test.YtpkhgdnkkdhlcaaGreatDoorCvF
import Derived.Test.YtpkhgdnkkdhlcaaGreatDoorCodX
namespace Go.Proofs.YtpkhgdnkkdhlcaaGreatDoor
open Go.ChangeShapes Go.WideShapes Go.ChangeAt Go.RowKit Ar

theorem Tryz.cvByte : Tryz.prog.cellsOf 5 = 1 := by kernel_rfl
section
variable {H : Type} {enc : TypeId × Value → H}
set_option maxRecDepth 100000 in
/-- Bytes, nil or not. -/
theorem opened_bytes {W : World} {fuel : Nat} {v : Value} {x : DataW H × List MemPlace} (h : DataW.trod enc Tryz.prog W 0 (fun _ => true) true fuel 25 [v] = some x) :
    ∃ (l : List Nat) (A : Option Addr) (c : Nat), v = .slice A l.length c ∧ Rd W W.heap.size A (ints .u8 l) ∧ l.length ≤ c ∧ c ≤ maxLen ∧ By.Bytes l := by
  rcases open_ints Tryz.underlying25 Tryz.underlying5 Tryz.cvByte h with ⟨hcs, hx⟩ | ⟨a, len', cap', zs, hcs, _, hl, hm, hz, hx, hcell, hwz⟩
  · simp only [List.cons.injEq, and_true] at hcs
    subst hcs
    exact ⟨[], none, 0, rfl, Rd.nil, Nat.le_refl _, Nat.zero_le _, By.bytes_nil⟩
  · simp only [List.cons.injEq, and_true] at hcs
    subst hcs
    simp only [if_true] at hz
    have hb : ∀ x ∈ zs, 0 ≤ x ∧ x < 256 := fun x hx => by
      have h := hwz x hx
      have h1 : IntKind.u8.min = 0 := rfl
      have h2 : IntKind.u8.max = 255 := rfl
      simp only [Lit.wf, Bool.and_eq_true, decide_eq_true_eq] at h
      omega
    have hlen : ((zs.take len').map Int.toNat).length = len' := by simp; omega
    refine ⟨(zs.take len').map Int.toNat, some a, cap', by rw [hlen], fun hn => ?_, by omega, by omega, fun x hx => ?_⟩
    · have hlen0 : 0 < len' := by
        rcases Nat.eq_zero_or_pos len' with h | h
        · rw [h] at hn; simp [ints] at hn
        · exact h
      have h0 := hcell 0 (by omega)
      have hblk := World.block_lt_of_cell? _ _ h0
      rw [addr_block] at hblk
      refine ⟨a, rfl, hblk, fun j u hu => ?_⟩
      obtain ⟨hj, hv⟩ := List.getElem?_eq_some_iff.1 hu
      simp only [ints, List.length_map, List.length_take] at hj
      rw [hcell j (by omega), ← hv]
      have h3 := hb zs[j] (List.getElem_mem _)
      simp [ints, List.getD, List.getElem?_eq_getElem (show j < zs.length by omega)]
      omega
    · obtain ⟨y, hy, rfl⟩ := List.mem_map.1 hx
      have := hb y (List.mem_of_mem_take hy)
      omega
section
variable {W : World} {v : Value} {d : DataW H} {p : List MemPlace} {base : Nat}
set_option maxRecDepth 100000 in
theorem opened_bs (hval : Value.okWide Tryz.prog W .any base 25 v) (h : DataW.Trod enc Tryz.prog W 0 (fun _ => true) true 25 v d p) :
    ∃ (l : List Nat) (A : Option Addr) (c : Nat), v = .slice A l.length c ∧ Rd W W.heap.size A (ints .u8 l) ∧ l.length ≤ c ∧ c ≤ maxLen ∧ By.Bytes l := by
  obtain ⟨a0, len, cap, rfl⟩ := okWide_slice Tryz.underlying25 hval
  obtain ⟨fuel, hf⟩ := h
  exact opened_bytes hf
end
end
end Go.Proofs.YtpkhgdnkkdhlcaaGreatDoor

