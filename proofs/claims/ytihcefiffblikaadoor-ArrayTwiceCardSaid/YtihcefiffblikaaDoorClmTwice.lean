/-
  PROVED: the law ArrayTwice returns true for every input, and each argument reads behind the call as it did before (the tied card, no condition of its own: the package-level variables that its row lists hold at the start what the program's text lays).
-/
import Derived.Test.YtihcefiffblikaaDoorFrameT
import Derived.Test.YtihcefiffblikaaDoorTwoW
namespace Go.Proofs.YtihcefiffblikaaDoor.fnTwice
open Go.ChangeShapes Go.WideShapes Go.ChangeAt Go.RowKit Go.Proofs.YtihcefiffblikaaDoor

theorem Tryd.cellsTwice : Tryd.prog.cellsOf 28 = 4 := by kernel_rfl
theorem four_of {cs : Array Value} (h : cs.size = 4) : ∃ a b c d, cs = #[a, b, c, d] := by
  obtain ⟨l⟩ := cs
  match l, h with
  | [a, b, c, d], _ => exact ⟨a, b, c, d, rfl⟩
set_option maxRecDepth 100000 in
/-- The argument. -/
theorem opened_twice {H : Type} {enc : TypeId × Value → H} {W : World} {v : Value} {d : DataW H} {p : List MemPlace} {base : Nat} (hval : Value.okWide Tryd.prog W .any base 28 v) (h : DataW.Trod enc Tryd.prog W 0 (fun _ => true) true 28 v d p) :
    ∃ (a : Arr) (F T : List Ix.Cut) (A1 A2 A3 A4 : Option Addr) (c1 c2 c3 c4 : Nat), v = .agg #[.slice A1 a.1.length c1, .slice A2 a.2.length c2, .slice A3 F.length c3, .slice A4 T.length c4] ∧ IsA W W.heap.size (.agg #[.slice A1 a.1.length c1, .slice A2 a.2.length c2]) a ∧
      IsK W W.heap.size (.slice A3 F.length c3) F ∧ IsK W W.heap.size (.slice A4 T.length c4) T ∧ (a.1.length ≤ maxLen ∧ a.2.length ≤ maxLen) ∧ (∀ x ∈ F, In64 x) ∧ (∀ x ∈ T, In64 x) ∧ F.length ≤ maxLen ∧ T.length ≤ maxLen := by
  obtain ⟨cs, rfl, hcs⟩ := okWide_struct Tryd.underlying28 hval
  rw [Tryd.cellsTwice] at hcs
  obtain ⟨a, b, c, e, rfl⟩ := four_of hcs
  obtain ⟨fuel, hf⟩ := h
  obtain ⟨y0, y1, y2, n, _, _, h0, h1, h2⟩ := Go.Deep.trod_struct3 Tryd.underlying28 hf
  simp only [Tryd.cellsArr, Tryd.cellsCuts, Value.cells, List.drop_zero, List.take_succ_cons, List.take_zero, List.drop_succ_cons] at h0 h1 h2
  obtain ⟨z0, z1, n2, _, _, g0, g1⟩ := trod_struct2 Tryd.underlying25 h0
  simp only [Tryd.cellsInts, Tryd.cellsTexts, List.drop_zero, List.take_succ_cons, List.take_zero, List.drop_succ_cons] at g0 g1
  obtain ⟨S, is, ls, _⟩ := opened_zints g0
  obtain ⟨V, iv, lv, _⟩ := opened_texts g1
  obtain ⟨F, ik, lf, wf⟩ := opened_cuts h1
  obtain ⟨T, it, lt, wt⟩ := opened_cuts h2
  obtain ⟨A1, c1, rfl, _⟩ := is.form
  obtain ⟨A2, c2, rfl, _⟩ := iv.form
  obtain ⟨A3, c3, rfl, _⟩ := ik.form
  obtain ⟨A4, c4, rfl, _⟩ := it.form
  exact ⟨(S, V), F, T, A1, A2, A3, A4, c1, c2, c3, c4, rfl, ⟨_, _, rfl, is, iv⟩, ik, it, ⟨ls, lv⟩, wf, wt, lf, lt⟩

set_option maxRecDepth 100000 in
theorem contract (H : Type) (enc : TypeId × Value → H) (W : World) (base : Nat) (args : Array Value) (ds gs : List (DataW H)) (before : List MemPlace)
    (hval : ∀ (j : Nat) t v, Tryd.f3.params[j]? = some t → args[j]? = some v → Value.okWide Tryd.prog W .any base t v)
    (hW : DataW.Whole enc Tryd.prog Tryd.f3.params.toList Rows.arrayTwiceSpec.vars false W args.toList ds gs before) (hL : laidMetH Tryd.prog Rows.arrayTwiceRow.laid W) (hsh : W.ShapedOpen Tryd.prog) :
    Calls Tryd.prog 3 args W fun e W' => ∃ v, e = .returned v ∧ Rows.arrayTwiceSpec.post enc Tryd.prog Tryd.f3 false true false false W args v W' := by
  have he := env_one hL hsh
  have hW' := hW
  obtain ⟨p, q, hA0, hV, rfl, hfz, hnd⟩ := hW
  have hA : DataW.TrodAll enc Tryd.prog W 0 (fun _ => true) true Tryd.f3.params.toList args.toList ds p := hA0
  rw [Tryd.params3] at hA hval
  obtain ⟨v0, d0, rfl, rfl, h0⟩ := trodAll_one hA
  obtain ⟨rfl, rfl⟩ := trodVars_none hV
  obtain ⟨a, F, T, A1, A2, A3, A4, c1, c2, c3, c4, rfl, ha, hF, hT, ⟨hl, hm⟩, hFi, hTi, hFL, hTL⟩ := opened_twice (hval 0 28 v0 rfl rfl) h0
  refine (twice_walk a F T A1 A2 A3 A4 c1 c2 c3 c4 W ha hF hT hl hm hFi hTi hFL hTL he).mono fun e W' ⟨hb, e1⟩ => ?_
  subst e1
  exact ⟨_, rfl, law_post (by kernel_rfl) rfl (by rw [Tryd.params3]; intro t ht; simp at ht; subst ht; exact ⟨by kernel_rfl, of_decide_eq_true (by kernel_rfl)⟩) ⟨rfl, rfl, rfl⟩ hW' hb⟩

def zv : Value := .agg #[.slice none 0 0, .slice none 0 0, .slice none 0 0, .slice none 0 0]
theorem reads (os : Os) {H : Type} (enc : TypeId × Value → H) : ∃ places, DataW.whole enc Tryd.prog ((laidWorld os).forCall (fun _ _ => 0) ⟨#[], #[zv], []⟩).memory Tryd.f3.params.toList Rows.arrayTwiceSpec.vars false #[zv].toList 8 = some ([.agg [.agg [.nil, .nil], .nil, .nil]], [], places) :=
  ⟨[], by kernel_rfl⟩

set_option maxRecDepth 100000 in
theorem lifted (os : Os) (started : os.Started) (H : Type) (enc : TypeId × Value → H) (F : Stop.Interp) :
    ReturnsInHanded {} Tryd.checked os 3 .any ((OpenSpec.ofChange Rows.arrayTwiceSpec).preRow enc Tryd.prog Tryd.f3 Rows.arrayTwiceRow.domain false Rows.arrayTwiceRow.laid) (((OpenSpec.ofChange Rows.arrayTwiceSpec).at F).post enc Tryd.prog Tryd.f3 false true false false) := by
  obtain ⟨places, hx⟩ := reads os enc
  refine returnsInHanded_of_row (C := Tryd.checked) (s := OpenSpec.ofChange Rows.arrayTwiceSpec) Tryd.own started (by kernel_rfl) Tryd.func3
    (witness_row_atRef (enc := enc) (C := Tryd.checked) false (laidWorld os) #[zv] rfl (by kernel_rfl) (by kernel_rfl) (by kernel_rfl)
      (OpenSpec.preRow_of_cond 8 hx (by kernel_rfl) (fun k hk => by cases hk) (by kernel_rfl) (laid_met os _))) ?_
  intro W base args ds gs before hval hW _ _ _ hL hsh _
  exact contract H enc W base args ds gs before hval hW hL hsh

theorem said : Rows.ArrayTwiceSaid :=
  OpenClaim.holds_of_cond 3 Tryd.f3 rfl rfl rfl rfl rfl rfl rfl ⟨rfl, rfl, rfl, rfl, rfl⟩ rfl rfl rfl rfl rfl (by kernel_rfl) Tryd.func3 (by kernel_rfl)
    (of_decide_eq_true (by kernel_rfl)) (by unfold Func.isWrapper; first | (rw [if_pos (by decide +kernel)]; kernel_rfl) | (rw [if_neg (by decide +kernel)]; exact ⟨rfl, rfl⟩))
    (fun os started H enc _ F => by rw [OpenClaim.pre_eq_preRow]; exact lifted os started H enc F)

theorem plain (f : FuncId) (fn : Func) (hf : Tryd.pinned.checked.prog.funcNamed "arrayarchive/arrayarchivelaw06.ArrayTwice" = some f) (hfn : Tryd.pinned.checked.prog.funcs[f]? = some fn) :
    true = Tryd.pinned.checked.prog.looks [] ∧ ∀ (j : Nat) t, fn.params[j]? = some t → Tryd.pinned.checked.prog.wantsStandIn t = false := by
  obtain rfl : f = 3 := Option.some.inj ((show Tryd.prog.funcNamed "arrayarchive/arrayarchivelaw06.ArrayTwice" = some 3 by kernel_rfl).symm.trans hf) |>.symm
  obtain rfl : fn = Tryd.f3 := (Option.some.inj (Tryd.func3.symm.trans hfn)).symm
  refine ⟨by kernel_rfl, fun j t ht => ?_⟩
  rw [Tryd.params3] at ht
  have hm := Array.mem_of_getElem? ht
  simp at hm
  subst hm
  exact (show Tryd.prog.wantsStandIn 28 = false by kernel_rfl)

theorem card : Rows.ArrayTwiceCardSaid :=
  Claim7.holds_tied_plain_at .later [] _ _ _ _ said (fun _ h => by cases h) (by kernel_rfl) (fun _ h => by cases h) arrayTwice_row_tie rfl ⟨rfl, rfl⟩ (by kernel_rfl) rfl plain (by kernel_rfl)
end Go.Proofs.YtihcefiffblikaaDoor.fnTwice
namespace Go.Proofs.YtihcefiffblikaaDoor
theorem twice_holds : Rows.ArrayTwiceCardSaid := fnTwice.card
end Go.Proofs.YtihcefiffblikaaDoor
