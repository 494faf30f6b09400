/-
  PROVED: the law ArrayChunks returns true for every input, and each argument reads behind the call as it did before (the tied card, no condition of its own: the package-level variables that its row lists hold at the start what the program's text lays).
-/
import Derived.Test.YtgnffedncjjkfaaGreatDoorFrmT
import Derived.Test.YtgnffedncjjkfaaGreatDoorRchX
import Derived.Lib.SmallJoins
namespace Go.Proofs.YtgnffedncjjkfaaGreatDoor.fnChunks
open Go.ChangeShapes Go.WideShapes Go.ChangeAt Go.RowKit Go.Proofs.YtgnffedncjjkfaaGreatDoor

theorem cellsS : Tryz.prog.cellsOf 55 = 4 := by kernel_rfl
theorem split_of {cs : Array Value} (h : cs.size = 4) : ∃ b0 b1 b2 b3, cs = #[b0, b1, b2, b3] := by
  obtain ⟨l⟩ := cs
  match l, h with
  | [b0, b1, b2, b3], _ => exact ⟨b0, b1, b2, b3, rfl⟩
set_option maxRecDepth 100000 in
theorem contract (H : Type) (enc : TypeId × Value → H) (W : World) (base : Nat) (args : Array Value) (ds gs : List (DataW H)) (before : List MemPlace)
    (hval : ∀ (j : Nat) t v, Tryz.f8.params[j]? = some t → args[j]? = some v → Value.okWide Tryz.prog W .any base t v)
    (hW : DataW.Whole enc Tryz.prog Tryz.f8.params.toList Rows.arrayChunksSpec.vars false W args.toList ds gs before) (hL : laidMetH Tryz.prog Rows.arrayChunksRow.laid W) (hsh : W.ShapedOpen Tryz.prog) :
    Calls Tryz.prog 8 args W fun e W' => ∃ v, e = .returned v ∧ Rows.arrayChunksSpec.post enc Tryz.prog Tryz.f8 false true false false W args v W' := by
  have he := env_one hL hsh
  have hW' := hW
  obtain ⟨p, q, hA0, hV, rfl, hfz, hnd⟩ := hW
  have hA : DataW.TrodAll enc Tryz.prog W 0 (fun _ => true) true Tryz.f8.params.toList args.toList ds p := hA0
  rw [Tryz.params8] at hA hval
  obtain ⟨v0, d0, rfl, rfl, h0⟩ := trodAll_one hA
  obtain ⟨rfl, rfl⟩ := trodVars_none hV
  obtain ⟨cs, rfl, hcs⟩ := okWide_struct Tryz.underlying55 (hval 0 55 v0 rfl rfl)
  rw [cellsS] at hcs
  obtain ⟨b0, b1, b2, b3, rfl⟩ := split_of hcs
  obtain ⟨fuel, hf⟩ := h0
  obtain ⟨y0, y1, y2, y3, n, _, _, g0, g1, g2, g3⟩ := Go.Joins.trod_struct4 Tryz.underlying55 hf
  simp only [Tryz.cellsInts, Tryz.cellsCuts, Value.cells, List.drop_zero, List.take_succ_cons, List.take_zero, List.drop_succ_cons] at g0 g1 g2 g3
  obtain ⟨x0, i0, l0, w0⟩ := opened_zints g0
  obtain ⟨A0, c0, rfl, -⟩ := i0.form
  obtain ⟨x1, i1, l1, w1⟩ := opened_zints g1
  obtain ⟨A1, c1, rfl, -⟩ := i1.form
  obtain ⟨x2, i2, l2, w2⟩ := opened_zints g2
  obtain ⟨A2, c2, rfl, -⟩ := i2.form
  obtain ⟨x3, i3, l3, w3⟩ := opened_cuts g3
  obtain ⟨A3, c3, rfl, -⟩ := i3.form
  refine (chunks_walk x0 x1 x2 x3 A0 A1 A2 A3 c0 c1 c2 c3 W i0 i1 i2 i3 l0 l1 l2 w3 l3 he).mono fun e W' ⟨hb, e1⟩ => ?_
  subst e1
  exact ⟨_, rfl, law_post (by kernel_rfl) rfl (by rw [Tryz.params8]; intro t ht; simp at ht; subst ht; exact ⟨by kernel_rfl, of_decide_eq_true (by kernel_rfl)⟩) ⟨rfl, rfl, rfl⟩ hW' hb⟩

theorem reads (os : Os) {H : Type} (enc : TypeId × Value → H) : ∃ places, DataW.whole enc Tryz.prog ((laidWorld os).forCall (fun _ _ => 0) ⟨#[], #[Value.agg #[.slice none 0 0, .slice none 0 0, .slice none 0 0, .slice none 0 0]], []⟩).memory Tryz.f8.params.toList Rows.arrayChunksSpec.vars false #[Value.agg #[.slice none 0 0, .slice none 0 0, .slice none 0 0, .slice none 0 0]].toList 8 = some ([.agg [.nil, .nil, .nil, .nil]], [], places) :=
  ⟨[], by kernel_rfl⟩

set_option maxRecDepth 100000 in
theorem lifted (os : Os) (started : os.Started) (H : Type) (enc : TypeId × Value → H) (F : Stop.Interp) :
    ReturnsInHanded {} Tryz.checked os 8 .any ((OpenSpec.ofChange Rows.arrayChunksSpec).preRow enc Tryz.prog Tryz.f8 Rows.arrayChunksRow.domain false Rows.arrayChunksRow.laid) (((OpenSpec.ofChange Rows.arrayChunksSpec).at F).post enc Tryz.prog Tryz.f8 false true false false) := by
  obtain ⟨places, hx⟩ := reads os enc
  refine returnsInHanded_of_row (C := Tryz.checked) (s := OpenSpec.ofChange Rows.arrayChunksSpec) Tryz.own started (by kernel_rfl) Tryz.func8
    (witness_row_atRef (enc := enc) (C := Tryz.checked) false (laidWorld os) #[Value.agg #[.slice none 0 0, .slice none 0 0, .slice none 0 0, .slice none 0 0]] rfl (by kernel_rfl) (by kernel_rfl) (by kernel_rfl)
      (OpenSpec.preRow_of_cond 8 hx (by kernel_rfl) (fun k hk => by cases hk) (by kernel_rfl) (laid_met os _))) ?_
  intro W base args ds gs before hval hW _ _ _ hL hsh _
  exact contract H enc W base args ds gs before hval hW hL hsh

theorem k0 : (Rows.arrayChunksRow.inPlace == Tryz.prog.inPlace 8) = true := by kernel_rfl
theorem k1 : (Rows.arrayChunksRow.unfollowed == Tryz.prog.unfollowed 8) = true := by kernel_rfl
theorem k2 : (Rows.arrayChunksRow.recurses == Tryz.prog.recurses 8) = true := by kernel_rfl
theorem k3 : (Rows.arrayChunksRow.named == Tryz.prog.varsNamed 8) = true := by kernel_rfl
theorem k4 : (Rows.arrayChunksRow.plainKeys == Tryz.prog.plainKeys) = true := by kernel_rfl
theorem k5 : (Tryz.prog.mayEnter) = true := by kernel_rfl
theorem k6 : (Rows.arrayChunksRow.lifted == Tryz.prog.liftsFinal) = true := by kernel_rfl
theorem k7 : (Tryz.prog.make == some Rows.arrayChunksRow.make) = true := by kernel_rfl
theorem k8 : (Tryz.prog.stopsHeard) = true := by kernel_rfl
theorem k9 : (mapsRowed Tryz.prog) = true := by kernel_rfl
theorem joined : joinedFacts Tryz.prog 8 Tryz.f8 (OpenSpec.ofChange Rows.arrayChunksSpec).bare Rows.arrayChunksRow = true := by
  unfold joinedFacts
  rw [k0, k1, k2, k3, k4, k5, k6, k7, k8, k9, Tryz.laidOutB_ok]
  kernel_rfl

theorem goes : false = Rows.arrayChunksRow.goesBy Tryz.prog := by kernel_rfl
theorem looks : true = Tryz.pinned.checked.prog.looks [] := by kernel_rfl
theorem wfB : Rows.arrayChunksRow.wfByText (OpenSpec.ofChange Rows.arrayChunksSpec) = true := by kernel_rfl
theorem said : Rows.ArrayChunksSaid :=
  OpenClaim.holds_of_cond 8 Tryz.f8 rfl rfl rfl rfl rfl rfl rfl ⟨rfl, rfl, rfl, rfl, rfl⟩ rfl rfl rfl rfl rfl (by kernel_rfl) Tryz.func8 joined
    (of_decide_eq_true (by kernel_rfl)) (by unfold Func.isWrapper; first | (rw [if_pos (by decide +kernel)]; kernel_rfl) | (rw [if_neg (by decide +kernel)]; exact ⟨rfl, rfl⟩))
    (fun os started H enc _ F => by rw [OpenClaim.pre_eq_preRow]; exact lifted os started H enc F)

theorem plain (f : FuncId) (fn : Func) (hf : Tryz.pinned.checked.prog.funcNamed "arrayarchive/arrayarchivelaw06.ArrayChunks" = some f) (hfn : Tryz.pinned.checked.prog.funcs[f]? = some fn) :
    true = Tryz.pinned.checked.prog.looks [] ∧ ∀ (j : Nat) t, fn.params[j]? = some t → Tryz.pinned.checked.prog.wantsStandIn t = false := by
  obtain rfl : f = 8 := Option.some.inj ((show Tryz.prog.funcNamed "arrayarchive/arrayarchivelaw06.ArrayChunks" = some 8 by kernel_rfl).symm.trans hf) |>.symm
  obtain rfl : fn = Tryz.f8 := (Option.some.inj (Tryz.func8.symm.trans hfn)).symm
  refine ⟨looks, fun j t ht => ?_⟩
  rw [Tryz.params8] at ht
  have hm := Array.mem_of_getElem? ht
  simp at hm
  subst hm
  exact (show Tryz.prog.wantsStandIn 55 = false by kernel_rfl)

theorem card : Rows.ArrayChunksCardSaid :=
  Claim7.holds_tied_plain_at .later [] _ _ _ _ said (fun _ h => by cases h) wfB (fun _ h => by cases h) arrayChunks_row_tie rfl ⟨rfl, rfl⟩ (by kernel_rfl) rfl plain goes
end Go.Proofs.YtgnffedncjjkfaaGreatDoor.fnChunks
namespace Go.Proofs.YtgnffedncjjkfaaGreatDoor
theorem chunks_holds : Rows.ArrayChunksCardSaid := fnChunks.card
end Go.Proofs.YtgnffedncjjkfaaGreatDoor
