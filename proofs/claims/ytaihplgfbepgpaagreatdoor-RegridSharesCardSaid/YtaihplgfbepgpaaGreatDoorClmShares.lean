/-
  PROVED: the law RegridShares returns true for every input, and each argument reads behind the call as it did before (the tied card, no condition of its own: the package-level variables that its row lists hold at the start what the program's text lays).
-/
import Derived.Test.YtaihplgfbepgpaaGreatDoorFrameW
import Derived.Test.YtaihplgfbepgpaaGreatDoorRxV
import Derived.Deep.Strs
namespace Go.Proofs.YtaihplgfbepgpaaGreatDoor.fnShares
open Go.ChangeShapes Go.WideShapes Go.ChangeAt Go.RowKit Go.Proofs.YtaihplgfbepgpaaGreatDoor

theorem Tryz.cellsGrids : Tryz.prog.cellsOf 40 = 3 := by kernel_rfl
theorem Tryz.cellsCells : Tryz.prog.cellsOf 22 = 1 := by kernel_rfl
theorem three_of {cs : Array Value} (h : cs.size = 3) : ∃ a b c, cs = #[a, b, c] := by
  obtain ⟨l⟩ := cs
  match l, h with
  | [a, b, c], _ => exact ⟨a, b, c, rfl⟩
set_option maxRecDepth 100000 in
/-- The argument. -/
theorem opened_grids {H : Type} {enc : TypeId × Value → H} {W : World} {v : Value} {d : DataW H} {p : List MemPlace} {base : Nat} (hval : Value.okWide Tryz.prog W .any base 40 v) (h : DataW.Trod enc Tryz.prog W 0 (fun _ => true) true 40 v d p) :
    ∃ A F cF A' T cT n, v = .agg #[.slice A (F : List Ce).length cF, .slice A' (T : List Ce).length cT, .int .i64 n] ∧ (IsCs W W.heap.size (.slice A F.length cF) F ∧ F.length ≤ maxLen ∧ ∀ x ∈ F, x.1.length ≤ maxLen) ∧
      IsCs W W.heap.size (.slice A' T.length cT) T ∧ T.length ≤ maxLen ∧ ∀ x ∈ T, x.1.length ≤ maxLen := by
  obtain ⟨cs, rfl, hcs⟩ := okWide_struct Tryz.underlying40 hval
  rw [Tryz.cellsGrids] at hcs
  obtain ⟨a, b, c, rfl⟩ := three_of hcs
  obtain ⟨fuel, hf⟩ := h
  obtain ⟨y0, y1, y2, n, _, _, h0, h1, h2⟩ := Go.Deep.trod_struct3 Tryz.underlying40 hf
  simp only [Tryz.cellsCells, Tryz.cellsInt, Value.cells, List.drop_zero, List.take_succ_cons, List.take_zero, List.drop_succ_cons] at h0 h1 h2
  obtain ⟨F, hF, hF1, hF2⟩ := opened_cells h0
  obtain ⟨T, hT, hT1, hT2⟩ := opened_cells h1
  obtain ⟨k, e2, _⟩ := DataW.trod_int Tryz.underlying3 h2
  simp only [List.cons.injEq, and_true] at e2
  obtain ⟨A, cF, rfl⟩ := hF.form
  obtain ⟨A', cT, rfl⟩ := hT.form
  exact ⟨A, F, cF, A', T, cT, k, by rw [e2], ⟨hF, hF1, hF2⟩, hT, hT1, hT2⟩

set_option maxRecDepth 100000 in
theorem contract (H : Type) (enc : TypeId × Value → H) (W : World) (base : Nat) (args : Array Value) (ds gs : List (DataW H)) (before : List MemPlace)
    (hval : ∀ (j : Nat) t v, Tryz.f6.params[j]? = some t → args[j]? = some v → Value.okWide Tryz.prog W .any base t v)
    (hW : DataW.Whole enc Tryz.prog Tryz.f6.params.toList Rows.regridSharesSpec.vars false W args.toList ds gs before) (hL : laidMetH Tryz.prog Rows.regridSharesRow.laid W) (_ : W.ShapedOpen Tryz.prog) :
    Calls Tryz.prog 6 args W fun e W' => ∃ v, e = .returned v ∧ Rows.regridSharesSpec.post enc Tryz.prog Tryz.f6 false true false false W args v W' := by
  have he := env_of hL
  have hW' := hW
  obtain ⟨p, q, hA0, hV, rfl, hfz, hnd⟩ := hW
  have hA : DataW.TrodAll enc Tryz.prog W 0 (fun _ => true) true Tryz.f6.params.toList args.toList ds p := hA0
  rw [Tryz.params6] at hA hval
  obtain ⟨v0, d0, rfl, rfl, h0⟩ := trodAll_one hA
  obtain ⟨rfl, rfl⟩ := trodVars_none hV
  obtain ⟨A, F, cF, A', T, cT, n, rfl, ⟨hF, hF1, hF2⟩, hT, hT1, hT2⟩ := opened_grids (hval 0 40 v0 rfl rfl) h0
  refine (shares_walk F T A A' cF cT n W hF hT he hF1 hT1 hF2 hT2).mono fun e W' ⟨hb, e1⟩ => ?_
  subst e1
  exact ⟨_, rfl, law_post (by kernel_rfl) rfl (by rw [Tryz.params6]; intro t ht; simp at ht; subst ht; exact ⟨by kernel_rfl, of_decide_eq_true (by kernel_rfl)⟩) ⟨rfl, rfl, rfl⟩ hW' hb⟩

def zs : Value := .agg #[.slice none 0 0, .slice none 0 0, .int .i64 0]
theorem reads (os : Os) {H : Type} (enc : TypeId × Value → H) : ∃ places, DataW.whole enc Tryz.prog ((laidWorld os).forCall (fun _ _ => 0) ⟨#[], #[zs], []⟩).memory Tryz.f6.params.toList Rows.regridSharesSpec.vars false #[zs].toList 8 = some ([.agg [.nil, .nil, .lit (.int .i64 0)]], [], places) :=
  ⟨[], by kernel_rfl⟩

set_option maxRecDepth 100000 in
theorem lifted (os : Os) (started : os.Started) (H : Type) (enc : TypeId × Value → H) (F : Stop.Interp) :
    ReturnsInHanded {} Tryz.checked os 6 .any ((OpenSpec.ofChange Rows.regridSharesSpec).preRow enc Tryz.prog Tryz.f6 Rows.regridSharesRow.domain false Rows.regridSharesRow.laid) (((OpenSpec.ofChange Rows.regridSharesSpec).at F).post enc Tryz.prog Tryz.f6 false true false false) := by
  obtain ⟨places, hx⟩ := reads os enc
  refine returnsInHanded_of_row (C := Tryz.checked) (s := OpenSpec.ofChange Rows.regridSharesSpec) Tryz.own started (by kernel_rfl) Tryz.func6
    (witness_row_atRef (enc := enc) (C := Tryz.checked) false (laidWorld os) #[zs] rfl (by kernel_rfl) (by kernel_rfl) (by kernel_rfl)
      (OpenSpec.preRow_of_cond 8 hx (by kernel_rfl) (fun k hk => by cases hk) (by kernel_rfl) (laid_met os _))) ?_
  intro W base args ds gs before hval hW _ _ _ hL hsh _
  exact contract H enc W base args ds gs before hval hW hL hsh

theorem said : Rows.RegridSharesSaid :=
  OpenClaim.holds_of_cond 6 Tryz.f6 rfl rfl rfl rfl rfl rfl rfl ⟨rfl, rfl, rfl, rfl, rfl⟩ rfl rfl rfl rfl rfl (by kernel_rfl) Tryz.func6 (by kernel_rfl)
    (of_decide_eq_true (by kernel_rfl)) (by unfold Func.isWrapper; first | (rw [if_pos (by decide +kernel)]; kernel_rfl) | (rw [if_neg (by decide +kernel)]; exact ⟨rfl, rfl⟩))
    (fun os started H enc _ F => by rw [OpenClaim.pre_eq_preRow]; exact lifted os started H enc F)

theorem plain (f : FuncId) (fn : Func) (hf : Tryz.pinned.checked.prog.funcNamed "arrayarchive/arrayarchivelaw08.RegridShares" = some f) (hfn : Tryz.pinned.checked.prog.funcs[f]? = some fn) :
    false = Tryz.pinned.checked.prog.looks [] ∧ ∀ (j : Nat) t, fn.params[j]? = some t → Tryz.pinned.checked.prog.wantsStandIn t = false := by
  obtain rfl : f = 6 := Option.some.inj ((show Tryz.prog.funcNamed "arrayarchive/arrayarchivelaw08.RegridShares" = some 6 by kernel_rfl).symm.trans hf) |>.symm
  obtain rfl : fn = Tryz.f6 := (Option.some.inj (Tryz.func6.symm.trans hfn)).symm
  refine ⟨by kernel_rfl, fun j t ht => ?_⟩
  rw [Tryz.params6] at ht
  have hm := Array.mem_of_getElem? ht
  simp at hm
  subst hm
  exact (show Tryz.prog.wantsStandIn 40 = false by kernel_rfl)

theorem card : Rows.RegridSharesCardSaid :=
  Claim7.holds_tied_plain_at .later [] _ _ _ _ said (fun _ h => by cases h) (by kernel_rfl) (fun _ h => by cases h) regridShares_row_tie rfl ⟨rfl, rfl⟩ (by kernel_rfl) rfl plain (by kernel_rfl)
end Go.Proofs.YtaihplgfbepgpaaGreatDoor.fnShares
namespace Go.Proofs.YtaihplgfbepgpaaGreatDoor
theorem shares_holds : Rows.RegridSharesCardSaid := fnShares.card
end Go.Proofs.YtaihplgfbepgpaaGreatDoor
