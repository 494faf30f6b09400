/-
  PROVED: the law RegridRectangles returns true for every input, and each argument reads behind the call as it did before (the tied card, no condition of its own: the package-level variables that its row lists hold at the start what the program's text lays).
-/
import Derived.Test.YtblopapobmbboaaDoorFrameR
import Derived.Test.YtblopapobmbboaaDoorRecC
namespace Go.Proofs.YtblopapobmbboaaDoor.fnRects
open Go.ChangeShapes Go.WideShapes Go.ChangeAt Go.RowKit Go.Proofs.YtblopapobmbboaaDoor

/-- An argument that is a slice of ints, nil or not. -/
theorem opened_nums {H : Type} {enc : TypeId × Value → H} {W : World} {a0 : Option Addr} {len cap : Nat} {d0 : DataW H} {p : List MemPlace} (h0 : DataW.Trod enc Tryd.prog W 0 (fun _ => true) true 47 (.slice a0 len cap) d0 p) :
    ∃ l : List Int, l.length = len ∧ len ≤ cap ∧ cap ≤ maxLen ∧ Rd W W.heap.size a0 (irow l) := by
  obtain ⟨fuel, hf⟩ := h0
  rcases open_ints Tryd.underlying47 Tryd.underlying3 Tryd.cellsInt hf with ⟨hcs, hx⟩ | ⟨a, len', cap', zs, hcs, _, hl, hm, hz, hx, hcell, hwz⟩
  · simp [Value.cells] at hcs
    obtain ⟨rfl, rfl, rfl⟩ := hcs
    exact ⟨[], rfl, Nat.le_refl _, Nat.zero_le _, Rd.nil⟩
  · simp [Value.cells] at hcs
    obtain ⟨rfl, rfl, rfl⟩ := hcs
    simp only [if_true] at hz
    refine ⟨zs.take len, by simp; omega, by omega, by omega, fun hn => ?_⟩
    have hlen : 0 < len := by
      rcases Nat.eq_zero_or_pos len with h | h
      · rw [h] at hn; simp [irow] at hn
      · exact h
    have h0 := hcell 0 (by omega)
    have hblk := World.block_lt_of_cell? _ _ h0
    rw [addr_block] at hblk
    refine ⟨a, rfl, hblk, fun j u hu => ?_⟩
    obtain ⟨hj, hv⟩ := List.getElem?_eq_some_iff.1 hu
    simp only [irow, List.length_map, List.length_take] at hj
    rw [hcell j (by omega), ← hv]
    simp [irow, List.getD, List.getElem?_eq_getElem (show j < zs.length by omega)]

set_option maxRecDepth 100000 in
theorem contract (H : Type) (enc : TypeId × Value → H) (W : World) (base : Nat) (args : Array Value) (ds gs : List (DataW H)) (before : List MemPlace)
    (hval : ∀ (j : Nat) t v, Tryd.f6.params[j]? = some t → args[j]? = some v → Value.okWide Tryd.prog W .any base t v)
    (hW : DataW.Whole enc Tryd.prog Tryd.f6.params.toList Rows.regridRectanglesSpec.vars false W args.toList ds gs before) (hL : laidMetH Tryd.prog Rows.regridRectanglesRow.laid W) (_ : W.ShapedOpen Tryd.prog) :
    Calls Tryd.prog 6 args W fun e W' => ∃ v, e = .returned v ∧ Rows.regridRectanglesSpec.post enc Tryd.prog Tryd.f6 false true false false W args v W' := by
  have he := env_of hL
  have hW' := hW
  obtain ⟨p, q, hA0, hV, rfl, hfz, hnd⟩ := hW
  have hA : DataW.TrodAll enc Tryd.prog W 0 (fun _ => true) true Tryd.f6.params.toList args.toList ds p := hA0
  rw [Tryd.params6] at hA hval
  obtain ⟨v0, v1, d0, d1, p0, p1, rfl, rfl, rfl, h0, h1⟩ := trodAll_two hA
  obtain ⟨rfl, rfl⟩ := trodVars_none hV
  obtain ⟨a0, len, cap, rfl⟩ := okWide_slice Tryd.underlying47 (hval 0 47 v0 rfl rfl)
  obtain ⟨a1, len1, cap1, rfl⟩ := okWide_slice Tryd.underlying47 (hval 1 47 v1 rfl rfl)
  obtain ⟨xs, rfl, hc, hm, hrd⟩ := opened_nums h0
  obtain ⟨ys, rfl, hc1, hm1, hrd1⟩ := opened_nums h1
  refine (rects_walk a0 a1 cap cap1 xs ys W (Nat.le_trans hc hm) (Nat.le_trans hc1 hm1) hrd hrd1 he).mono fun e W' ⟨hb, e1⟩ => ?_
  subst e1
  exact ⟨_, rfl, law_post (by kernel_rfl) rfl (by rw [Tryd.params6]; intro t ht; simp at ht; subst ht; exact ⟨by kernel_rfl, of_decide_eq_true (by kernel_rfl)⟩) ⟨rfl, rfl, rfl⟩ hW' hb⟩

theorem reads (os : Os) {H : Type} (enc : TypeId × Value → H) : ∃ places, DataW.whole enc Tryd.prog ((laidWorld os).forCall (fun _ _ => 0) ⟨#[], #[.slice none 0 0, .slice none 0 0], []⟩).memory Tryd.f6.params.toList Rows.regridRectanglesSpec.vars false #[Value.slice none 0 0, .slice none 0 0].toList 8 = some ([.nil, .nil], [], places) :=
  ⟨[], by kernel_rfl⟩

set_option maxRecDepth 100000 in
theorem lifted (os : Os) (started : os.Started) (H : Type) (enc : TypeId × Value → H) (F : Stop.Interp) :
    ReturnsInHanded {} Tryd.checked os 6 .any ((OpenSpec.ofChange Rows.regridRectanglesSpec).preRow enc Tryd.prog Tryd.f6 Rows.regridRectanglesRow.domain false Rows.regridRectanglesRow.laid) (((OpenSpec.ofChange Rows.regridRectanglesSpec).at F).post enc Tryd.prog Tryd.f6 false true false false) := by
  obtain ⟨places, hx⟩ := reads os enc
  refine returnsInHanded_of_row (C := Tryd.checked) (s := OpenSpec.ofChange Rows.regridRectanglesSpec) Tryd.own started (by kernel_rfl) Tryd.func6
    (witness_row_atRef (enc := enc) (C := Tryd.checked) false (laidWorld os) #[.slice none 0 0, .slice none 0 0] rfl (by kernel_rfl) (by kernel_rfl) (by kernel_rfl)
      (OpenSpec.preRow_of_cond 8 hx (by kernel_rfl) (fun k hk => by cases hk) (by kernel_rfl) (laid_met os _))) ?_
  intro W base args ds gs before hval hW _ _ _ hL hsh _
  exact contract H enc W base args ds gs before hval hW hL hsh

theorem said : Rows.RegridRectanglesSaid :=
  OpenClaim.holds_of_cond 6 Tryd.f6 rfl rfl rfl rfl rfl rfl rfl ⟨rfl, rfl, rfl, rfl, rfl⟩ rfl rfl rfl rfl rfl (by kernel_rfl) Tryd.func6 (by kernel_rfl)
    (of_decide_eq_true (by kernel_rfl)) (by unfold Func.isWrapper; first | (rw [if_pos (by decide +kernel)]; kernel_rfl) | (rw [if_neg (by decide +kernel)]; exact ⟨rfl, rfl⟩))
    (fun os started H enc _ F => by rw [OpenClaim.pre_eq_preRow]; exact lifted os started H enc F)

theorem plain (f : FuncId) (fn : Func) (hf : Tryd.pinned.checked.prog.funcNamed "arrayarchive/arrayarchivelaw08.RegridRectangles" = some f) (hfn : Tryd.pinned.checked.prog.funcs[f]? = some fn) :
    false = Tryd.pinned.checked.prog.looks [] ∧ ∀ (j : Nat) t, fn.params[j]? = some t → Tryd.pinned.checked.prog.wantsStandIn t = false := by
  obtain rfl : f = 6 := Option.some.inj ((show Tryd.prog.funcNamed "arrayarchive/arrayarchivelaw08.RegridRectangles" = some 6 by kernel_rfl).symm.trans hf) |>.symm
  obtain rfl : fn = Tryd.f6 := (Option.some.inj (Tryd.func6.symm.trans hfn)).symm
  refine ⟨by kernel_rfl, fun j t ht => ?_⟩
  rw [Tryd.params6] at ht
  have hm := Array.mem_of_getElem? ht
  simp at hm
  subst hm
  exact (show Tryd.prog.wantsStandIn 47 = false by kernel_rfl)

theorem card : Rows.RegridRectanglesCardSaid :=
  Claim7.holds_tied_plain_at .later [] _ _ _ _ said (fun _ h => by cases h) (by kernel_rfl) (fun _ h => by cases h) regridRectangles_row_tie rfl ⟨rfl, rfl⟩ (by kernel_rfl) rfl plain (by kernel_rfl)
end Go.Proofs.YtblopapobmbboaaDoor.fnRects
namespace Go.Proofs.YtblopapobmbboaaDoor
theorem rects_holds : Rows.RegridRectanglesCardSaid := fnRects.card
end Go.Proofs.YtblopapobmbboaaDoor
