/-
  PROVED: the law CodecGets returns true for every input, and each argument reads behind the call as it did before (the tied card, no condition of its own: the package-level variables that its row lists hold at the start what the program's text lays).
-/
import Derived.Test.YtpkhgdnkkdhlcaaGreatDoorCvY
import Derived.Test.YtpkhgdnkkdhlcaaGreatDoorGtX
import Derived.Test.YtpkhgdnkkdhlcaaGreatDoorCvG
namespace Go.Proofs.YtpkhgdnkkdhlcaaGreatDoor.fnCGets
open Go.ChangeShapes Go.WideShapes Go.ChangeAt Go.RowKit Go.Proofs.YtpkhgdnkkdhlcaaGreatDoor

set_option maxRecDepth 100000 in
theorem contract (H : Type) (enc : TypeId × Value → H) (W : World) (base : Nat) (args : Array Value) (ds gs : List (DataW H)) (before : List MemPlace)
    (hval : ∀ (j : Nat) t v, Tryz.f4.params[j]? = some t → args[j]? = some v → Value.okWide Tryz.prog W .any base t v)
    (hW : DataW.Whole enc Tryz.prog Tryz.f4.params.toList Rows.codecGetsSpec.vars false W args.toList ds gs before) (hL : laidMetH Tryz.prog Rows.codecGetsRow.laid W) (hsh : W.ShapedOpen Tryz.prog) :
    Calls Tryz.prog 4 args W fun e W' => ∃ v, e = .returned v ∧ Rows.codecGetsSpec.post enc Tryz.prog Tryz.f4 false true false false W args v W' := by
  obtain ⟨he, her⟩ := env_of hL hsh
  have hg := rng_of hL
  have hW' := hW
  obtain ⟨p, q, hA0, hV, rfl, hfz, hnd⟩ := hW
  have hA : DataW.TrodAll enc Tryz.prog W 0 (fun _ => true) true Tryz.f4.params.toList args.toList ds p := hA0
  rw [Tryz.params4] at hA hval
  obtain ⟨v0, v1, v2, d0, d1, d2, p0, p1, p2, rfl, rfl, rfl, h0, h1, h2⟩ := trodAll_three hA
  obtain ⟨rfl, rfl⟩ := trodVars_none hV
  obtain ⟨a0, rfl, l0, m0⟩ := opened_int (hval 0 3 v0 rfl rfl) h0
  obtain ⟨a1, rfl, l1, m1⟩ := opened_int (hval 1 3 v1 rfl rfl) h1
  obtain ⟨a2, A2, c2, rfl, i2, l2, m2, w2⟩ := opened_bs (hval 2 25 v2 rfl rfl) h2
  refine (cgets_walk a0 a1 a2 A2 c2 W l0 m0 l1 m1 i2 l2 m2 w2 he her hg).mono fun e W' ⟨hb, e1⟩ => ?_
  subst e1
  exact ⟨_, rfl, law_post (by kernel_rfl) rfl (by rw [Tryz.params4]; intro t ht; simp at ht; rcases ht with rfl | rfl <;> exact ⟨by kernel_rfl, of_decide_eq_true (by kernel_rfl)⟩) ⟨rfl, rfl, rfl⟩ hW' hb⟩

theorem reads (os : Os) {H : Type} (enc : TypeId × Value → H) : ∃ places, DataW.whole enc Tryz.prog ((laidWorld os).forCall (fun _ _ => 0) ⟨#[], #[Value.int .i64 0, Value.int .i64 0, Value.slice none 0 0], []⟩).memory Tryz.f4.params.toList Rows.codecGetsSpec.vars false #[Value.int .i64 0, Value.int .i64 0, Value.slice none 0 0].toList 8 = some ([.lit (.int .i64 0), .lit (.int .i64 0), .nil], [], places) :=
  ⟨[], by kernel_rfl⟩

set_option maxRecDepth 100000 in
theorem lifted (os : Os) (started : os.Started) (H : Type) (enc : TypeId × Value → H) (F : Stop.Interp) :
    ReturnsInHanded {} Tryz.checked os 4 .any ((OpenSpec.ofChange Rows.codecGetsSpec).preRow enc Tryz.prog Tryz.f4 Rows.codecGetsRow.domain false Rows.codecGetsRow.laid) (((OpenSpec.ofChange Rows.codecGetsSpec).at F).post enc Tryz.prog Tryz.f4 false true false false) := by
  obtain ⟨places, hx⟩ := reads os enc
  refine returnsInHanded_of_row (C := Tryz.checked) (s := OpenSpec.ofChange Rows.codecGetsSpec) Tryz.own started (by kernel_rfl) Tryz.func4
    (witness_row_atRef (enc := enc) (C := Tryz.checked) false (laidWorld os) #[Value.int .i64 0, Value.int .i64 0, Value.slice none 0 0] rfl (by kernel_rfl) (by kernel_rfl) (by kernel_rfl)
      (OpenSpec.preRow_of_cond 8 hx (by kernel_rfl) (fun k hk => by cases hk) (by kernel_rfl) (laid_met os _))) ?_
  intro W base args ds gs before hval hW _ _ _ hL hsh _
  exact contract H enc W base args ds gs before hval hW hL hsh

theorem k0 : (Rows.codecGetsRow.inPlace == Tryz.prog.inPlace 4) = true := by kernel_rfl
theorem k1 : (Rows.codecGetsRow.unfollowed == Tryz.prog.unfollowed 4) = true := by kernel_rfl
theorem k2 : (Rows.codecGetsRow.recurses == Tryz.prog.recurses 4) = true := by kernel_rfl
theorem k3 : (Rows.codecGetsRow.named == Tryz.prog.varsNamed 4) = true := by kernel_rfl
theorem k4 : (Rows.codecGetsRow.plainKeys == Tryz.prog.plainKeys) = true := by kernel_rfl
theorem k5 : (Tryz.prog.mayEnter) = true := by kernel_rfl
theorem k6 : (Rows.codecGetsRow.lifted == Tryz.prog.liftsFinal) = true := by kernel_rfl
theorem k7 : (Tryz.prog.make == some Rows.codecGetsRow.make) = true := by kernel_rfl
theorem k8 : (Tryz.prog.stopsHeard) = true := by kernel_rfl
theorem k9 : (mapsRowed Tryz.prog) = true := by kernel_rfl
theorem joined : joinedFacts Tryz.prog 4 Tryz.f4 (OpenSpec.ofChange Rows.codecGetsSpec).bare Rows.codecGetsRow = true := by
  unfold joinedFacts
  rw [k0, k1, k2, k3, k4, k5, k6, k7, k8, k9, Tryz.laidOutB_ok]
  kernel_rfl

theorem goes : false = Rows.codecGetsRow.goesBy Tryz.prog := by kernel_rfl
theorem looks : true = Tryz.pinned.checked.prog.looks [] := by kernel_rfl
theorem wfB : Rows.codecGetsRow.wfByText (OpenSpec.ofChange Rows.codecGetsSpec) = true := by kernel_rfl
theorem said : Rows.CodecGetsSaid :=
  OpenClaim.holds_of_cond 4 Tryz.f4 rfl rfl rfl rfl rfl rfl rfl ⟨rfl, rfl, rfl, rfl, rfl⟩ rfl rfl rfl rfl rfl (by kernel_rfl) Tryz.func4 joined
    (of_decide_eq_true (by kernel_rfl)) (by unfold Func.isWrapper; first | (rw [if_pos (by decide +kernel)]; kernel_rfl) | (rw [if_neg (by decide +kernel)]; exact ⟨rfl, rfl⟩))
    (fun os started H enc _ F => by rw [OpenClaim.pre_eq_preRow]; exact lifted os started H enc F)

theorem plain (f : FuncId) (fn : Func) (hf : Tryz.pinned.checked.prog.funcNamed "arrayarchive/arrayarchivelaw04.CodecGets" = some f) (hfn : Tryz.pinned.checked.prog.funcs[f]? = some fn) :
    true = Tryz.pinned.checked.prog.looks [] ∧ ∀ (j : Nat) t, fn.params[j]? = some t → Tryz.pinned.checked.prog.wantsStandIn t = false := by
  obtain rfl : f = 4 := Option.some.inj ((show Tryz.prog.funcNamed "arrayarchive/arrayarchivelaw04.CodecGets" = some 4 by kernel_rfl).symm.trans hf) |>.symm
  obtain rfl : fn = Tryz.f4 := (Option.some.inj (Tryz.func4.symm.trans hfn)).symm
  refine ⟨looks, fun j t ht => ?_⟩
  rw [Tryz.params4] at ht
  have hm := Array.mem_of_getElem? ht
  simp at hm
  rcases hm with rfl | rfl
  · exact (show Tryz.prog.wantsStandIn 3 = false by kernel_rfl)
  · exact (show Tryz.prog.wantsStandIn 25 = false by kernel_rfl)

theorem card : Rows.CodecGetsCardSaid :=
  Claim7.holds_tied_plain_at .later [] _ _ _ _ said (fun _ h => by cases h) wfB (fun _ h => by cases h) codecGets_row_tie rfl ⟨rfl, rfl⟩ (by kernel_rfl) rfl plain goes
end Go.Proofs.YtpkhgdnkkdhlcaaGreatDoor.fnCGets
namespace Go.Proofs.YtpkhgdnkkdhlcaaGreatDoor
theorem cgets_holds : Rows.CodecGetsCardSaid := fnCGets.card
end Go.Proofs.YtpkhgdnkkdhlcaaGreatDoor

