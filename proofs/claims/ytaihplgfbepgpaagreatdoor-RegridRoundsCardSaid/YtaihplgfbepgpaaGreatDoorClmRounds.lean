/-
  PROVED: the law RegridRounds returns true for every input, and each argument reads behind the call as it did before (the tied card, no condition of its own: the package-level variables that its row lists hold at the start what the program's text lays).
-/
import Derived.Test.YtaihplgfbepgpaaGreatDoorFrameW
import Derived.Test.YtaihplgfbepgpaaGreatDoorRrE
namespace Go.Proofs.YtaihplgfbepgpaaGreatDoor.fnRounds
open Go.ChangeShapes Go.WideShapes Go.ChangeAt Go.RowKit Go.Proofs.YtaihplgfbepgpaaGreatDoor

set_option maxRecDepth 100000 in
theorem contract (H : Type) (enc : TypeId × Value → H) (W : World) (base : Nat) (args : Array Value) (ds gs : List (DataW H)) (before : List MemPlace)
    (hval : ∀ (j : Nat) t v, Tryz.f4.params[j]? = some t → args[j]? = some v → Value.okWide Tryz.prog W .any base t v)
    (hW : DataW.Whole enc Tryz.prog Tryz.f4.params.toList Rows.regridRoundsSpec.vars false W args.toList ds gs before) (hL : laidMetH Tryz.prog Rows.regridRoundsRow.laid W) (_ : W.ShapedOpen Tryz.prog) :
    Calls Tryz.prog 4 args W fun e W' => ∃ v, e = .returned v ∧ Rows.regridRoundsSpec.post enc Tryz.prog Tryz.f4 false true false false W args v W' := by
  have he := env_of hL
  have hW' := hW
  obtain ⟨p, q, hA0, hV, rfl, hfz, hnd⟩ := hW
  have hA : DataW.TrodAll enc Tryz.prog W 0 (fun _ => true) true Tryz.f4.params.toList args.toList ds p := hA0
  rw [Tryz.params4] at hA hval
  obtain ⟨v0, v1, v2, d0, d1, d2, p0, p1, p2, rfl, rfl, _, h0, h1, h2⟩ := trodAll_three hA
  obtain ⟨rfl, rfl⟩ := trodVars_none hV
  obtain ⟨la, ma, ha⟩ := opened_cell (hval 0 33 v0 rfl rfl) h0
  obtain ⟨lb, mb, hb⟩ := opened_cell (hval 1 33 v1 rfl rfl) h1
  obtain ⟨p, rfl, rfl, rfl, wn⟩ := open_int Tryz.underlying3 (hval 2 3 v2 rfl rfl) h2
  clear wn
  refine (rounds_walk la lb ma mb v0 v1 p W ha hb he).mono fun e W' ⟨hb, e1⟩ => ?_
  subst e1
  exact ⟨_, rfl, law_post (by kernel_rfl) rfl (by rw [Tryz.params4]; intro t ht; simp at ht; rcases ht with rfl | rfl <;> exact ⟨by kernel_rfl, of_decide_eq_true (by kernel_rfl)⟩) ⟨rfl, rfl, rfl⟩ hW' hb⟩

def zc : Value := .agg #[.slice none 0 0, .bool false]
theorem reads (os : Os) {H : Type} (enc : TypeId × Value → H) : ∃ places, DataW.whole enc Tryz.prog ((laidWorld os).forCall (fun _ _ => 0) ⟨#[], #[zc, zc, .int .i64 0], []⟩).memory Tryz.f4.params.toList Rows.regridRoundsSpec.vars false #[zc, zc, .int .i64 0].toList 8 = some ([.agg [.nil, .lit (.bool false)], .agg [.nil, .lit (.bool false)], .lit (.int .i64 0)], [], places) :=
  ⟨[], by kernel_rfl⟩

set_option maxRecDepth 100000 in
theorem lifted (os : Os) (started : os.Started) (H : Type) (enc : TypeId × Value → H) (F : Stop.Interp) :
    ReturnsInHanded {} Tryz.checked os 4 .any ((OpenSpec.ofChange Rows.regridRoundsSpec).preRow enc Tryz.prog Tryz.f4 Rows.regridRoundsRow.domain false Rows.regridRoundsRow.laid) (((OpenSpec.ofChange Rows.regridRoundsSpec).at F).post enc Tryz.prog Tryz.f4 false true false false) := by
  obtain ⟨places, hx⟩ := reads os enc
  refine returnsInHanded_of_row (C := Tryz.checked) (s := OpenSpec.ofChange Rows.regridRoundsSpec) Tryz.own started (by kernel_rfl) Tryz.func4
    (witness_row_atRef (enc := enc) (C := Tryz.checked) false (laidWorld os) #[zc, zc, .int .i64 0] rfl (by kernel_rfl) (by kernel_rfl) (by kernel_rfl)
      (OpenSpec.preRow_of_cond 8 hx (by kernel_rfl) (fun k hk => by cases hk) (by kernel_rfl) (laid_met os _))) ?_
  intro W base args ds gs before hval hW _ _ _ hL hsh _
  exact contract H enc W base args ds gs before hval hW hL hsh

theorem said : Rows.RegridRoundsSaid :=
  OpenClaim.holds_of_cond 4 Tryz.f4 rfl rfl rfl rfl rfl rfl rfl ⟨rfl, rfl, rfl, rfl, rfl⟩ rfl rfl rfl rfl rfl (by kernel_rfl) Tryz.func4 (by kernel_rfl)
    (of_decide_eq_true (by kernel_rfl)) (by unfold Func.isWrapper; first | (rw [if_pos (by decide +kernel)]; kernel_rfl) | (rw [if_neg (by decide +kernel)]; exact ⟨rfl, rfl⟩))
    (fun os started H enc _ F => by rw [OpenClaim.pre_eq_preRow]; exact lifted os started H enc F)

theorem plain (f : FuncId) (fn : Func) (hf : Tryz.pinned.checked.prog.funcNamed "arrayarchive/arrayarchivelaw08.RegridRounds" = some f) (hfn : Tryz.pinned.checked.prog.funcs[f]? = some fn) :
    false = Tryz.pinned.checked.prog.looks [] ∧ ∀ (j : Nat) t, fn.params[j]? = some t → Tryz.pinned.checked.prog.wantsStandIn t = false := by
  obtain rfl : f = 4 := Option.some.inj ((show Tryz.prog.funcNamed "arrayarchive/arrayarchivelaw08.RegridRounds" = some 4 by kernel_rfl).symm.trans hf) |>.symm
  obtain rfl : fn = Tryz.f4 := (Option.some.inj (Tryz.func4.symm.trans hfn)).symm
  refine ⟨by kernel_rfl, fun j t ht => ?_⟩
  rw [Tryz.params4] at ht
  have hm := Array.mem_of_getElem? ht
  simp at hm
  rcases hm with rfl | rfl
  · exact (show Tryz.prog.wantsStandIn 33 = false by kernel_rfl)
  · exact (show Tryz.prog.wantsStandIn 3 = false by kernel_rfl)

theorem card : Rows.RegridRoundsCardSaid :=
  Claim7.holds_tied_plain_at .later [] _ _ _ _ said (fun _ h => by cases h) (by kernel_rfl) (fun _ h => by cases h) regridRounds_row_tie rfl ⟨rfl, rfl⟩ (by kernel_rfl) rfl plain (by kernel_rfl)
end Go.Proofs.YtaihplgfbepgpaaGreatDoor.fnRounds
namespace Go.Proofs.YtaihplgfbepgpaaGreatDoor
theorem rounds_holds : Rows.RegridRoundsCardSaid := fnRounds.card
end Go.Proofs.YtaihplgfbepgpaaGreatDoor
