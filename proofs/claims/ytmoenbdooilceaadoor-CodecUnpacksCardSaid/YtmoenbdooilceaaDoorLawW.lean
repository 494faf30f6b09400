/-
  What a law's row asks behind the call, for whatever law returns true and turns nothing that was there; plain words, of no law.
-/
import Derived.Test.YtmoenbdooilceaaDoorProg
import Derived.Carry
import Derived.ProofKit
import Derived.OpenShut
import Derived.Test.YtmoenbdooilceaaDoorWordsC
import Derived.Test.YtmoenbdooilceaaDoorBy
import Derived.Stop.LaidErr
import Derived.Shelf.Vars
import Derived.Deep.DeepHandedRow
namespace Go.Proofs.YtmoenbdooilceaaDoor
open Go.ChangeShapes Go.WideShapes Go.ChangeAt Go.RowKit

theorem Tryd.cells8 : Tryd.prog.cellsOf 5 = 1 := by kernel_rfl
theorem Tryd.laidOutB_ok : laidOutB Tryd.prog = true := by kernel_rfl
section
variable {H : Type} {enc : TypeId × Value → H}
theorem below_trodAll {W W' : World} (hb : Below W.heap.size W W') : ∀ {ts : List TypeId} {vs : List Value} {ds : List (DataW H)} {ps : List MemPlace},
    (∀ t ∈ ts, Tryd.prog.readableRec t = true ∧ t < Tryd.prog.types.size) → DataW.TrodAll enc Tryd.prog W 0 (fun _ => true) true ts vs ds ps → (∀ x ∈ ps, x.block < W.heap.size) →
    DataW.TrodAll enc Tryd.prog W' 0 (fun b => decide (b < W.heap.size)) true ts vs ds ps
  | [], [], [], _, _, h, _ => h
  | t :: ts, _ :: _, _ :: _, _, ht, ⟨p, q, h1, h2, e⟩, hlt =>
    ⟨p, q, Below.trod Tryd.laidOutB_ok (ht t List.mem_cons_self).1 (ht t List.mem_cons_self).2 h1 hb (fun x hx => hlt x (by rw [e]; exact List.mem_append_left _ hx)),
      below_trodAll hb (fun u hu => ht u (List.mem_cons_of_mem _ hu)) h2 (fun x hx => hlt x (by rw [e]; exact List.mem_append_right _ hx)), e⟩
/-- A law that returns true and turns nothing that was there meets its row. -/
theorem law_post {f : Func} {s : ChangeSpec} {W W' : World} {args : Array Value} {ds gs : List (DataW H)} {before : List MemPlace}
    (hf : f.resultTypes = #[4]) (hv : s.vars = []) (hp : ∀ t ∈ f.params.toList, Tryd.prog.readableRec t = true ∧ t < Tryd.prog.types.size)
    (hs : (s.fn H (ds ++ gs)).results = [.lit (.bool true)] ∧ (s.fn H (ds ++ gs)).args = ds ∧ (s.fn H (ds ++ gs)).vars = [])
    (hW : DataW.Whole enc Tryd.prog f.params.toList s.vars false W args.toList ds gs before) (hb : Below W.heap.size W W') :
    s.post enc Tryd.prog f false true false false W args (.bool true) W' := by
  have hlt : ∀ x ∈ before, x.block < W.heap.size := fun x hx => hW.lt x hx
  have hW' := hW
  obtain ⟨p, q, hA, hV, rfl, _, _⟩ := hW'
  rw [hv] at hV
  obtain ⟨_, rfl⟩ := trodVars_none hV
  rw [List.append_nil] at hW hlt
  refine ⟨ds, gs, p, [], p, [], hW, ?_, ?_, ?_, hb.frame _, fun h => by cases h⟩
  · rw [hs.1, hf]
    exact trodAll_mk1 (shut_bool Tryd.underlying4 _)
  · rw [hs.2.1]
    exact below_trodAll hb hp hA hlt
  · rw [hs.2.2, hv]; rfl
/-- An argument that is a slice of bytes, nil or not. -/
theorem opened8 {W : World} {a0 : Option Addr} {len cap : Nat} {d0 : DataW H} {p : List MemPlace} (h0 : DataW.Trod enc Tryd.prog W 0 (fun _ => true) true 22 (.slice a0 len cap) d0 p) :
    ∃ l : List Nat, l.length = len ∧ By.Bytes l ∧ len ≤ cap ∧ cap ≤ maxLen ∧ Rd W W.heap.size a0 (ints .u8 l) := by
  obtain ⟨fuel, hf⟩ := h0
  rcases open_ints Tryd.underlying22 Tryd.underlying5 Tryd.cells8 hf with ⟨hcs, hx⟩ | ⟨a, len', cap', zs, hcs, _, hl, hm, hz, hx, hcell, hwz⟩
  · simp [Value.cells] at hcs
    obtain ⟨rfl, rfl, rfl⟩ := hcs
    exact ⟨[], rfl, By.bytes_nil, Nat.le_refl _, Nat.zero_le _, Rd.nil⟩
  · simp [Value.cells] at hcs
    obtain ⟨rfl, rfl, rfl⟩ := hcs
    simp only [if_true] at hz
    have hb : ∀ x ∈ zs, 0 ≤ x ∧ x < 256 := fun x hx => by
      have h := hwz x hx
      have h1 : IntKind.u8.min = 0 := rfl
      have h2 : IntKind.u8.max = 255 := rfl
      simp only [Lit.wf, Bool.and_eq_true, decide_eq_true_eq] at h
      omega
    refine ⟨(zs.take len).map Int.toNat, by simp; omega, fun x hx => ?_, by omega, by omega, fun hn => ?_⟩
    · obtain ⟨y, hy, rfl⟩ := List.mem_map.1 hx
      have := hb y (List.mem_of_mem_take hy)
      omega
    · have hlen : 0 < len := by
        rcases Nat.eq_zero_or_pos len with h | h
        · rw [h] at hn; simp [ints] at hn
        · exact h
      have h0 := hcell 0 (by omega)
      have hblk := World.block_lt_of_cell? _ _ h0
      rw [addr_block] at hblk
      refine ⟨a, rfl, hblk, fun j u hu => ?_⟩
      obtain ⟨hj, hv⟩ := List.getElem?_eq_some_iff.1 hu
      simp only [ints, List.length_map, List.length_take] at hj
      rw [hcell j (by omega), ← hv]
      have h3 := hb zs[j] (List.getElem_mem _)
      simp [ints, List.getD, List.getElem?_eq_getElem (show j < zs.length by omega)]
      omega
end
end Go.Proofs.YtmoenbdooilceaaDoor
