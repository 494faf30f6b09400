/-
  PROVED: the law ArrayTouches returns true for every input, and each argument reads behind the call as it did before (the tied card, no condition of its own: the package-level variables that its row lists hold at the start what the program's text lays).
-/
import Derived.Test.YtgnffedncjjkfaaDoorFrmT
import Derived.Test.YtgnffedncjjkfaaDoorTcsW
import Derived.Lib.SmallJoins
namespace Go.Proofs.YtgnffedncjjkfaaDoor.fnTouches
open Go.ChangeShapes Go.WideShapes Go.ChangeAt Go.RowKit Go.Proofs.YtgnffedncjjkfaaDoor

theorem cellsS : Tryd.prog.cellsOf 25 = 4 := by kernel_rfl
theorem split_of {cs : Array Value} (h : cs.size = 4) : ∃ b0 b1 b2 b3, cs = #[b0, b1, b2, b3] := by
  obtain ⟨l⟩ := cs
  match l, h with
  | [b0, b1, b2, b3], _ => exact ⟨b0, b1, b2, b3, rfl⟩
set_option maxRecDepth 100000 in
theorem contract (H : Type) (enc : TypeId × Value → H) (W : World) (base : Nat) (args : Array Value) (ds gs : List (DataW H)) (before : List MemPlace)
    (hval : ∀ (j : Nat) t v, Tryd.f3.params[j]? = some t → args[j]? = some v → Value.okWide Tryd.prog W .any base t v)
    (hW : DataW.Whole enc Tryd.prog Tryd.f3.params.toList Rows.arrayTouchesSpec.vars false W args.toList ds gs before) (hL : laidMetH Tryd.prog Rows.arrayTouchesRow.laid W) (hsh : W.ShapedOpen Tryd.prog) :
    Calls Tryd.prog 3 args W fun e W' => ∃ v, e = .returned v ∧ Rows.arrayTouchesSpec.post enc Tryd.prog Tryd.f3 false true false false W args v W' := by
  have he := env_one hL hsh
  have hW' := hW
  obtain ⟨p, q, hA0, hV, rfl, hfz, hnd⟩ := hW
  have hA : DataW.TrodAll enc Tryd.prog W 0 (fun _ => true) true Tryd.f3.params.toList args.toList ds p := hA0
  rw [Tryd.params3] at hA hval
  obtain ⟨v0, d0, rfl, rfl, h0⟩ := trodAll_one hA
  obtain ⟨rfl, rfl⟩ := trodVars_none hV
  obtain ⟨cs, rfl, hcs⟩ := okWide_struct Tryd.underlying25 (hval 0 25 v0 rfl rfl)
  rw [cellsS] at hcs
  obtain ⟨b0, b1, b2, b3, rfl⟩ := split_of hcs
  obtain ⟨fuel, hf⟩ := h0
  obtain ⟨y0, y1, y2, y3, n, _, _, g0, g1, g2, g3⟩ := Go.Joins.trod_struct4 Tryd.underlying25 hf
  simp only [Tryd.cellsInts, Tryd.cellsCuts, Value.cells, List.drop_zero, List.take_succ_cons, List.take_zero, List.drop_succ_cons] at g0 g1 g2 g3
  obtain ⟨x0, i0, l0, w0⟩ := opened_zints g0
  obtain ⟨A0, c0, rfl, -⟩ := i0.form
  obtain ⟨x1, i1, l1, w1⟩ := opened_zints g1
  obtain ⟨A1, c1, rfl, -⟩ := i1.form
  obtain ⟨x2, i2, l2, w2⟩ := opened_zints g2
  obtain ⟨A2, c2, rfl, -⟩ := i2.form
  obtain ⟨x3, i3, l3, w3⟩ := opened_cuts g3
  obtain ⟨A3, c3, rfl, -⟩ := i3.form
  refine (touches_walk x0 x1 x2 x3 A0 A1 A2 A3 c0 c1 c2 c3 W i0 i1 i2 i3 l0 l1 l2 w3 l3 he).mono fun e W' ⟨hb, e1⟩ => ?_
  subst e1
  exact ⟨_, rfl, law_post (by kernel_rfl) rfl (by rw [Tryd.params3]; intro t ht; simp at ht; subst ht; exact ⟨by kernel_rfl, of_decide_eq_true (by kernel_rfl)⟩) ⟨rfl, rfl, rfl⟩ hW' hb⟩

theorem reads (os : Os) {H : Type} (enc : TypeId × Value → H) : ∃ places, DataW.whole enc Tryd.prog ((laidWorld os).forCall (fun _ _ => 0) ⟨#[], #[Value.agg #[.slice none 0 0, .slice none 0 0, .slice none 0 0, .slice none 0 0]], []⟩).memory Tryd.f3.params.toList Rows.arrayTouchesSpec.vars false #[Value.agg #[.slice none 0 0, .slice none 0 0, .slice none 0 0, .slice none 0 0]].toList 8 = some ([.agg [.nil, .nil, .nil, .nil]], [], places) :=
  ⟨[], by kernel_rfl⟩

set_option maxRecDepth 100000 in
theorem lifted (os : Os) (started : os.Started) (H : Type) (enc : TypeId × Value → H) (F : Stop.Interp) :
    ReturnsInHanded {} Tryd.checked os 3 .any ((OpenSpec.ofChange Rows.arrayTouchesSpec).preRow enc Tryd.prog Tryd.f3 Rows.arrayTouchesRow.domain false Rows.arrayTouchesRow.laid) (((OpenSpec.ofChange Rows.arrayTouchesSpec).at F).post enc Tryd.prog Tryd.f3 false true false false) := by
  obtain ⟨places, hx⟩ := reads os enc
  refine returnsInHanded_of_row (C := Tryd.checked) (s := OpenSpec.ofChange Rows.arrayTouchesSpec) Tryd.own started (by kernel_rfl) Tryd.func3
    (witness_row_atRef (enc := enc) (C := Tryd.checked) false (laidWorld os) #[Value.agg #[.slice none 0 0, .slice none 0 0, .slice none 0 0, .slice none 0 0]] rfl (by kernel_rfl) (by kernel_rfl) (by kernel_rfl)
      (OpenSpec.preRow_of_cond 8 hx (by kernel_rfl) (fun k hk => by cases hk) (by kernel_rfl) (laid_met os _))) ?_
  intro W base args ds gs before hval hW _ _ _ hL hsh _
  exact contract H enc W base args ds gs before hval hW hL hsh

theorem k0 : (Rows.arrayTouchesRow.inPlace == Tryd.prog.inPlace 3) = true := by kernel_rfl
theorem k1 : (Rows.arrayTouchesRow.unfollowed == Tryd.prog.unfollowed 3) = true := by kernel_rfl
theorem k2 : (Rows.arrayTouchesRow.recurses == Tryd.prog.recurses 3) = true := by kernel_rfl
theorem k3 : (Rows.arrayTouchesRow.named == Tryd.prog.varsNamed 3) = true := by kernel_rfl
theorem k4 : (Rows.arrayTouchesRow.plainKeys == Tryd.prog.plainKeys) = true := by kernel_rfl
theorem k5 : (Tryd.prog.mayEnter) = true := by kernel_rfl
theorem k6 : (Rows.arrayTouchesRow.lifted == Tryd.prog.liftsFinal) = true := by kernel_rfl
theorem k7 : (Tryd.prog.make == some Rows.arrayTouchesRow.make) = true := by kernel_rfl
theorem k8 : (Tryd.prog.stopsHeard) = true := by kernel_rfl
theorem k9 : (mapsRowed Tryd.prog) = true := by kernel_rfl
theorem joined : joinedFacts Tryd.prog 3 Tryd.f3 (OpenSpec.ofChange Rows.arrayTouchesSpec).bare Rows.arrayTouchesRow = true := by
  unfold joinedFacts
  rw [k0, k1, k2, k3, k4, k5, k6, k7, k8, k9, Tryd.laidOutB_ok]
  kernel_rfl

theorem goes : false = Rows.arrayTouchesRow.goesBy Tryd.prog := by kernel_rfl
theorem looks : true = Tryd.pinned.checked.prog.looks [] := by kernel_rfl
theorem wfB : Rows.arrayTouchesRow.wfByText (OpenSpec.ofChange Rows.arrayTouchesSpec) = true := by kernel_rfl
theorem said : Rows.ArrayTouchesSaid :=
  OpenClaim.holds_of_cond 3 Tryd.f3 rfl rfl rfl rfl rfl rfl rfl ⟨rfl, rfl, rfl, rfl, rfl⟩ rfl rfl rfl rfl rfl (by kernel_rfl) Tryd.func3 joined
    (of_decide_eq_true (by kernel_rfl)) (by unfold Func.isWrapper; first | (rw [if_pos (by decide +kernel)]; kernel_rfl) | (rw [if_neg (by decide +kernel)]; exact ⟨rfl, rfl⟩))
    (fun os started H enc _ F => by rw [OpenClaim.pre_eq_preRow]; exact lifted os started H enc F)

theorem plain (f : FuncId) (fn : Func) (hf : Tryd.pinned.checked.prog.funcNamed "arrayarchive/arrayarchivelaw06.ArrayTouches" = some f) (hfn : Tryd.pinned.checked.prog.funcs[f]? = some fn) :
    true = Tryd.pinned.checked.prog.looks [] ∧ ∀ (j : Nat) t, fn.params[j]? = some t → Tryd.pinned.checked.prog.wantsStandIn t = false := by
  obtain rfl : f = 3 := Option.some.inj ((show Tryd.prog.funcNamed "arrayarchive/arrayarchivelaw06.ArrayTouches" = some 3 by kernel_rfl).symm.trans hf) |>.symm
  obtain rfl : fn = Tryd.f3 := (Option.some.inj (Tryd.func3.symm.trans hfn)).symm
  refine ⟨looks, fun j t ht => ?_⟩
  rw [Tryd.params3] at ht
  have hm := Array.mem_of_getElem? ht
  simp at hm
  subst hm
  exact (show Tryd.prog.wantsStandIn 25 = false by kernel_rfl)

theorem card : Rows.ArrayTouchesCardSaid :=
  Claim7.holds_tied_plain_at .later [] _ _ _ _ said (fun _ h => by cases h) wfB (fun _ h => by cases h) arrayTouches_row_tie rfl ⟨rfl, rfl⟩ (by kernel_rfl) rfl plain goes
end Go.Proofs.YtgnffedncjjkfaaDoor.fnTouches
namespace Go.Proofs.YtgnffedncjjkfaaDoor
theorem touches_holds : Rows.ArrayTouchesCardSaid := fnTouches.card
end Go.Proofs.YtgnffedncjjkfaaDoor

