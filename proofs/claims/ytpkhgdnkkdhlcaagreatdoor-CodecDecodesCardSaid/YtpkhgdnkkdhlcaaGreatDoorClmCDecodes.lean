/-
  PROVED: the law CodecDecodes returns true for every input, and each argument reads behind the call as it did before (the tied card, no condition of its own: the package-level variables that its row lists hold at the start what the program's text lays).
-/
import Derived.Test.YtpkhgdnkkdhlcaaGreatDoorCvF
import Derived.Test.YtpkhgdnkkdhlcaaGreatDoorDeW
import Derived.Test.YtpkhgdnkkdhlcaaGreatDoorCvG
import Derived.Test.YtpkhgdnkkdhlcaaGreatDoorCvB
import Derived.Lib.SmallJoins
namespace Go.Proofs.YtpkhgdnkkdhlcaaGreatDoor.fnCDecodes
open Go.ChangeShapes Go.WideShapes Go.ChangeAt Go.RowKit Go.Proofs.YtpkhgdnkkdhlcaaGreatDoor

theorem cellsS : Tryz.prog.cellsOf 44 = 4 := by kernel_rfl
theorem split_of {cs : Array Value} (h : cs.size = 4) : ∃ b0 b1 b2 b3, cs = #[b0, b1, b2, b3] := by
  obtain ⟨l⟩ := cs
  match l, h with
  | [b0, b1, b2, b3], _ => exact ⟨b0, b1, b2, b3, rfl⟩
theorem cellsSts : Tryz.prog.cellsOf 37 = 1 := by kernel_rfl
theorem cellsBs : Tryz.prog.cellsOf 25 = 1 := by kernel_rfl
set_option maxRecDepth 100000 in
theorem contract (H : Type) (enc : TypeId × Value → H) (W : World) (base : Nat) (args : Array Value) (ds gs : List (DataW H)) (before : List MemPlace)
    (hval : ∀ (j : Nat) t v, Tryz.f7.params[j]? = some t → args[j]? = some v → Value.okWide Tryz.prog W .any base t v)
    (hW : DataW.Whole enc Tryz.prog Tryz.f7.params.toList Rows.codecDecodesSpec.vars false W args.toList ds gs before) (hL : laidMetH Tryz.prog Rows.codecDecodesRow.laid W) (hsh : W.ShapedOpen Tryz.prog) :
    Calls Tryz.prog 7 args W fun e W' => ∃ v, e = .returned v ∧ Rows.codecDecodesSpec.post enc Tryz.prog Tryz.f7 false true false false W args v W' := by
  obtain ⟨he, her⟩ := env_of hL hsh
  have hg := rng_of hL
  have hW' := hW
  obtain ⟨p, q, hA0, hV, rfl, hfz, hnd⟩ := hW
  have hA : DataW.TrodAll enc Tryz.prog W 0 (fun _ => true) true Tryz.f7.params.toList args.toList ds p := hA0
  rw [Tryz.params7] at hA hval
  obtain ⟨v0, d0, rfl, rfl, h0⟩ := trodAll_one hA
  obtain ⟨rfl, rfl⟩ := trodVars_none hV
  obtain ⟨cs, rfl, hcs⟩ := okWide_struct Tryz.underlying44 (hval 0 44 v0 rfl rfl)
  rw [cellsS] at hcs
  obtain ⟨b0, b1, b2, b3, rfl⟩ := split_of hcs
  obtain ⟨fuel, hf⟩ := h0
  obtain ⟨y0, y1, y2, y3, n, _, _, g0, g1, g2, g3⟩ := Go.Joins.trod_struct4 Tryz.underlying44 hf
  simp only [Tryz.cvInt, cellsSts, cellsBs, Value.cells, List.drop_zero, List.take_succ_cons, List.take_zero, List.drop_succ_cons] at g0 g1 g2 g3
  obtain ⟨n0, f0, _, q0⟩ := DataW.trod_int Tryz.underlying3 g0
  simp only [List.cons.injEq, and_true] at f0
  subst f0
  obtain ⟨x1, A1, c1, e1, i1, l1, w1⟩ := opened_stages g1
  subst e1
  obtain ⟨n2, f2, _, q2⟩ := DataW.trod_int Tryz.underlying3 g2
  simp only [List.cons.injEq, and_true] at f2
  subst f2
  obtain ⟨x3, A3, c3, e3, i3, l3, m3, w3⟩ := opened_bytes g3
  subst e3
  refine (cdecodes_walk n0 x1 n2 x3 A1 A3 c1 c3 W i1 i3 (in64_cv q0).1 (in64_cv q0).2 l1 (fun x hx => (w1 x hx).2.2) (in64_cv q2).1 (in64_cv q2).2 l3 m3 w3 he her hg).mono fun e W' ⟨hb, e1⟩ => ?_
  subst e1
  exact ⟨_, rfl, law_post (by kernel_rfl) rfl (by rw [Tryz.params7]; intro t ht; simp at ht; subst ht; exact ⟨by kernel_rfl, of_decide_eq_true (by kernel_rfl)⟩) ⟨rfl, rfl, rfl⟩ hW' hb⟩

theorem reads (os : Os) {H : Type} (enc : TypeId × Value → H) : ∃ places, DataW.whole enc Tryz.prog ((laidWorld os).forCall (fun _ _ => 0) ⟨#[], #[Value.agg #[.int .i64 0, .slice none 0 0, .int .i64 0, .slice none 0 0]], []⟩).memory Tryz.f7.params.toList Rows.codecDecodesSpec.vars false #[Value.agg #[.int .i64 0, .slice none 0 0, .int .i64 0, .slice none 0 0]].toList 8 = some ([.agg [.lit (.int .i64 0), .nil, .lit (.int .i64 0), .nil]], [], places) :=
  ⟨[], by kernel_rfl⟩

set_option maxRecDepth 100000 in
theorem lifted (os : Os) (started : os.Started) (H : Type) (enc : TypeId × Value → H) (F : Stop.Interp) :
    ReturnsInHanded {} Tryz.checked os 7 .any ((OpenSpec.ofChange Rows.codecDecodesSpec).preRow enc Tryz.prog Tryz.f7 Rows.codecDecodesRow.domain false Rows.codecDecodesRow.laid) (((OpenSpec.ofChange Rows.codecDecodesSpec).at F).post enc Tryz.prog Tryz.f7 false true false false) := by
  obtain ⟨places, hx⟩ := reads os enc
  refine returnsInHanded_of_row (C := Tryz.checked) (s := OpenSpec.ofChange Rows.codecDecodesSpec) Tryz.own started (by kernel_rfl) Tryz.func7
    (witness_row_atRef (enc := enc) (C := Tryz.checked) false (laidWorld os) #[Value.agg #[.int .i64 0, .slice none 0 0, .int .i64 0, .slice none 0 0]] rfl (by kernel_rfl) (by kernel_rfl) (by kernel_rfl)
      (OpenSpec.preRow_of_cond 8 hx (by kernel_rfl) (fun k hk => by cases hk) (by kernel_rfl) (laid_met os _))) ?_
  intro W base args ds gs before hval hW _ _ _ hL hsh _
  exact contract H enc W base args ds gs before hval hW hL hsh

theorem k0 : (Rows.codecDecodesRow.inPlace == Tryz.prog.inPlace 7) = true := by kernel_rfl
theorem k1 : (Rows.codecDecodesRow.unfollowed == Tryz.prog.unfollowed 7) = true := by kernel_rfl
theorem k2 : (Rows.codecDecodesRow.recurses == Tryz.prog.recurses 7) = true := by kernel_rfl
theorem k3 : (Rows.codecDecodesRow.named == Tryz.prog.varsNamed 7) = true := by kernel_rfl
theorem k4 : (Rows.codecDecodesRow.plainKeys == Tryz.prog.plainKeys) = true := by kernel_rfl
theorem k5 : (Tryz.prog.mayEnter) = true := by kernel_rfl
theorem k6 : (Rows.codecDecodesRow.lifted == Tryz.prog.liftsFinal) = true := by kernel_rfl
theorem k7 : (Tryz.prog.make == some Rows.codecDecodesRow.make) = true := by kernel_rfl
theorem k8 : (Tryz.prog.stopsHeard) = true := by kernel_rfl
theorem k9 : (mapsRowed Tryz.prog) = true := by kernel_rfl
theorem joined : joinedFacts Tryz.prog 7 Tryz.f7 (OpenSpec.ofChange Rows.codecDecodesSpec).bare Rows.codecDecodesRow = true := by
  unfold joinedFacts
  rw [k0, k1, k2, k3, k4, k5, k6, k7, k8, k9, Tryz.laidOutB_ok]
  kernel_rfl

theorem goes : false = Rows.codecDecodesRow.goesBy Tryz.prog := by kernel_rfl
theorem looks : true = Tryz.pinned.checked.prog.looks [] := by kernel_rfl
theorem wfB : Rows.codecDecodesRow.wfByText (OpenSpec.ofChange Rows.codecDecodesSpec) = true := by kernel_rfl
theorem said : Rows.CodecDecodesSaid :=
  OpenClaim.holds_of_cond 7 Tryz.f7 rfl rfl rfl rfl rfl rfl rfl ⟨rfl, rfl, rfl, rfl, rfl⟩ rfl rfl rfl rfl rfl (by kernel_rfl) Tryz.func7 joined
    (of_decide_eq_true (by kernel_rfl)) (by unfold Func.isWrapper; first | (rw [if_pos (by decide +kernel)]; kernel_rfl) | (rw [if_neg (by decide +kernel)]; exact ⟨rfl, rfl⟩))
    (fun os started H enc _ F => by rw [OpenClaim.pre_eq_preRow]; exact lifted os started H enc F)

theorem plain (f : FuncId) (fn : Func) (hf : Tryz.pinned.checked.prog.funcNamed "arrayarchive/arrayarchivelaw04.CodecDecodes" = some f) (hfn : Tryz.pinned.checked.prog.funcs[f]? = some fn) :
    true = Tryz.pinned.checked.prog.looks [] ∧ ∀ (j : Nat) t, fn.params[j]? = some t → Tryz.pinned.checked.prog.wantsStandIn t = false := by
  obtain rfl : f = 7 := Option.some.inj ((show Tryz.prog.funcNamed "arrayarchive/arrayarchivelaw04.CodecDecodes" = some 7 by kernel_rfl).symm.trans hf) |>.symm
  obtain rfl : fn = Tryz.f7 := (Option.some.inj (Tryz.func7.symm.trans hfn)).symm
  refine ⟨looks, fun j t ht => ?_⟩
  rw [Tryz.params7] at ht
  have hm := Array.mem_of_getElem? ht
  simp at hm
  subst hm
  exact (show Tryz.prog.wantsStandIn 44 = false by kernel_rfl)

theorem card : Rows.CodecDecodesCardSaid :=
  Claim7.holds_tied_plain_at .later [] _ _ _ _ said (fun _ h => by cases h) wfB (fun _ h => by cases h) codecDecodes_row_tie rfl ⟨rfl, rfl⟩ (by kernel_rfl) rfl plain goes
end Go.Proofs.YtpkhgdnkkdhlcaaGreatDoor.fnCDecodes
namespace Go.Proofs.YtpkhgdnkkdhlcaaGreatDoor
theorem cdecodes_holds : Rows.CodecDecodesCardSaid := fnCDecodes.card
end Go.Proofs.YtpkhgdnkkdhlcaaGreatDoor

