/-
  PROVED: the law RegridCovers returns true for every input, and each argument reads behind the call as it did before (the tied card, no condition of its own: the package-level variables that its row lists hold at the start what the program's text lays).
-/
import Derived.Test.YtblopapobmbboaaDoorFrameR
import Derived.Test.YtblopapobmbboaaDoorCovU
import Derived.Deep.Strs
namespace Go.Proofs.YtblopapobmbboaaDoor.fnCovers
open Go.ChangeShapes Go.WideShapes Go.ChangeAt Go.RowKit Go.Proofs.YtblopapobmbboaaDoor

theorem Tryd.cellsCovering : Tryd.prog.cellsOf 49 = 4 := by kernel_rfl
theorem Tryd.cellsInts : Tryd.prog.cellsOf 47 = 1 := by kernel_rfl
theorem four_of {cs : Array Value} (h : cs.size = 4) : ∃ a b c d, cs = #[a, b, c, d] := by
  obtain ⟨l⟩ := cs
  match l, h with
  | [a, b, c, d], _ => exact ⟨a, b, c, d, rfl⟩
/-- A slice of ints, nil or not. -/
theorem opened_ints {H : Type} {enc : TypeId × Value → H} {W : World} {fuel : Nat} {a : Value} {x : DataW H × List MemPlace} (hf : DataW.trod enc Tryd.prog W 0 (fun _ => true) true fuel 47 [a] = some x) :
    ∃ A l c, a = .slice A (l : List Int).length c ∧ l.length ≤ c ∧ c ≤ maxLen ∧ Rd W W.heap.size A (irow l) := by
  rcases open_ints Tryd.underlying47 Tryd.underlying3 Tryd.cellsInt hf with ⟨hcs, hx⟩ | ⟨ad, len, cap, zs, hcs, _, hl, hm, hz, hx, hcell, hwz⟩
  · simp only [List.cons.injEq, and_true] at hcs
    exact ⟨none, [], 0, hcs, Nat.le_refl _, Nat.zero_le _, Rd.nil⟩
  · simp only [List.cons.injEq, and_true] at hcs
    simp only [if_true] at hz
    have hlen : (zs.take len).length = len := by rw [List.length_take]; omega
    refine ⟨some ad, zs.take len, cap, by rw [hlen]; exact hcs, by rw [hlen]; omega, by omega, fun hn => ?_⟩
    have hlen0 : 0 < len := by
      rcases Nat.eq_zero_or_pos len with h | h
      · rw [h] at hn; simp [irow] at hn
      · exact h
    have h0 := hcell 0 (by omega)
    have hblk := World.block_lt_of_cell? _ _ h0
    rw [addr_block] at hblk
    refine ⟨ad, rfl, hblk, fun j u hu => ?_⟩
    obtain ⟨hj, hv⟩ := List.getElem?_eq_some_iff.1 hu
    simp only [irow, List.length_map, List.length_take] at hj
    rw [hcell j (by omega), ← hv]
    simp [irow, List.getD, List.getElem?_eq_getElem (show j < zs.length by omega)]
set_option maxRecDepth 100000 in
/-- The argument. -/
theorem opened_covering {H : Type} {enc : TypeId × Value → H} {W : World} {v : Value} {d : DataW H} {p : List MemPlace} {base : Nat} (hval : Value.okWide Tryd.prog W .any base 49 v) (h : DataW.Trod enc Tryd.prog W 0 (fun _ => true) true 49 v d p) :
    ∃ A l ca m Ax xs cx Ay ys cy, v = .agg #[.slice A (l : List Pl).length ca, .bool m, .slice Ax (xs : List Int).length cx, .slice Ay (ys : List Int).length cy] ∧ IsC W W.heap.size (.agg #[.slice A l.length ca, .bool m]) l m ∧ l.length ≤ maxLen ∧
      (Rd W W.heap.size Ax (irow xs) ∧ xs.length ≤ maxLen) ∧ Rd W W.heap.size Ay (irow ys) ∧ ys.length ≤ maxLen := by
  obtain ⟨cs, rfl, hcs⟩ := okWide_struct Tryd.underlying49 hval
  rw [Tryd.cellsCovering] at hcs
  obtain ⟨a, b, c, e, rfl⟩ := four_of hcs
  obtain ⟨fuel, hf⟩ := h
  obtain ⟨y0, y1, y2, n, _, _, h0, h1, h2⟩ := Go.Deep.trod_struct3 Tryd.underlying49 hf
  simp only [Tryd.cellsCell, Tryd.cellsInts, Value.cells, List.drop_zero, List.take_succ_cons, List.take_zero, List.drop_succ_cons] at h0 h1 h2
  obtain ⟨z0, z1, n2, _, _, g0, g1⟩ := trod_struct2 Tryd.underlying24 h0
  simp only [Tryd.cellsPlaces, Tryd.cellsBool, List.drop_zero, List.take_succ_cons, List.take_zero, List.drop_succ_cons] at g0 g1
  obtain ⟨m, e1, _⟩ := DataW.trod_bool Tryd.underlying4 g1
  simp only [List.cons.injEq, and_true] at e1
  obtain ⟨A, l, ca, e0, hl, hc, hi, hr⟩ := opened_places g0
  obtain ⟨Ax, xs, cx, ex, hlx, hcx, hrx⟩ := opened_ints h1
  obtain ⟨Ay, ys, cy, ey, hly, hcy, hry⟩ := opened_ints h2
  exact ⟨A, l, ca, m, Ax, xs, cx, Ay, ys, cy, by rw [e0, e1, ex, ey], ⟨A, ca, rfl, hl, hc, hi, hr⟩, Nat.le_trans hl hc, ⟨hrx, Nat.le_trans hlx hcx⟩, hry, Nat.le_trans hly hcy⟩

set_option maxRecDepth 100000 in
theorem contract (H : Type) (enc : TypeId × Value → H) (W : World) (base : Nat) (args : Array Value) (ds gs : List (DataW H)) (before : List MemPlace)
    (hval : ∀ (j : Nat) t v, Tryd.f5.params[j]? = some t → args[j]? = some v → Value.okWide Tryd.prog W .any base t v)
    (hW : DataW.Whole enc Tryd.prog Tryd.f5.params.toList Rows.regridCoversSpec.vars false W args.toList ds gs before) (hL : laidMetH Tryd.prog Rows.regridCoversRow.laid W) (_ : W.ShapedOpen Tryd.prog) :
    Calls Tryd.prog 5 args W fun e W' => ∃ v, e = .returned v ∧ Rows.regridCoversSpec.post enc Tryd.prog Tryd.f5 false true false false W args v W' := by
  have he := env_of hL
  have hW' := hW
  obtain ⟨p, q, hA0, hV, rfl, hfz, hnd⟩ := hW
  have hA : DataW.TrodAll enc Tryd.prog W 0 (fun _ => true) true Tryd.f5.params.toList args.toList ds p := hA0
  rw [Tryd.params5] at hA hval
  obtain ⟨v0, d0, rfl, rfl, h0⟩ := trodAll_one hA
  obtain ⟨rfl, rfl⟩ := trodVars_none hV
  obtain ⟨A, l, ca, m, Ax, xs, cx, Ay, ys, cy, rfl, hC, hl, ⟨hx, hlx⟩, hy, hly⟩ := opened_covering (hval 0 49 v0 rfl rfl) h0
  refine (covers_walk l m A ca xs ys Ax Ay cx cy W hC hx hy hl hlx hly he).mono fun e W' ⟨hb, e1⟩ => ?_
  subst e1
  exact ⟨_, rfl, law_post (by kernel_rfl) rfl (by rw [Tryd.params5]; intro t ht; simp at ht; subst ht; exact ⟨by kernel_rfl, of_decide_eq_true (by kernel_rfl)⟩) ⟨rfl, rfl, rfl⟩ hW' hb⟩

def zv : Value := .agg #[.slice none 0 0, .bool false, .slice none 0 0, .slice none 0 0]
theorem reads (os : Os) {H : Type} (enc : TypeId × Value → H) : ∃ places, DataW.whole enc Tryd.prog ((laidWorld os).forCall (fun _ _ => 0) ⟨#[], #[zv], []⟩).memory Tryd.f5.params.toList Rows.regridCoversSpec.vars false #[zv].toList 8 = some ([.agg [.agg [.nil, .lit (.bool false)], .nil, .nil]], [], places) :=
  ⟨[], by kernel_rfl⟩

set_option maxRecDepth 100000 in
theorem lifted (os : Os) (started : os.Started) (H : Type) (enc : TypeId × Value → H) (F : Stop.Interp) :
    ReturnsInHanded {} Tryd.checked os 5 .any ((OpenSpec.ofChange Rows.regridCoversSpec).preRow enc Tryd.prog Tryd.f5 Rows.regridCoversRow.domain false Rows.regridCoversRow.laid) (((OpenSpec.ofChange Rows.regridCoversSpec).at F).post enc Tryd.prog Tryd.f5 false true false false) := by
  obtain ⟨places, hx⟩ := reads os enc
  refine returnsInHanded_of_row (C := Tryd.checked) (s := OpenSpec.ofChange Rows.regridCoversSpec) Tryd.own started (by kernel_rfl) Tryd.func5
    (witness_row_atRef (enc := enc) (C := Tryd.checked) false (laidWorld os) #[zv] rfl (by kernel_rfl) (by kernel_rfl) (by kernel_rfl)
      (OpenSpec.preRow_of_cond 8 hx (by kernel_rfl) (fun k hk => by cases hk) (by kernel_rfl) (laid_met os _))) ?_
  intro W base args ds gs before hval hW _ _ _ hL hsh _
  exact contract H enc W base args ds gs before hval hW hL hsh

theorem said : Rows.RegridCoversSaid :=
  OpenClaim.holds_of_cond 5 Tryd.f5 rfl rfl rfl rfl rfl rfl rfl ⟨rfl, rfl, rfl, rfl, rfl⟩ rfl rfl rfl rfl rfl (by kernel_rfl) Tryd.func5 (by kernel_rfl)
    (of_decide_eq_true (by kernel_rfl)) (by unfold Func.isWrapper; first | (rw [if_pos (by decide +kernel)]; kernel_rfl) | (rw [if_neg (by decide +kernel)]; exact ⟨rfl, rfl⟩))
    (fun os started H enc _ F => by rw [OpenClaim.pre_eq_preRow]; exact lifted os started H enc F)

theorem plain (f : FuncId) (fn : Func) (hf : Tryd.pinned.checked.prog.funcNamed "arrayarchive/arrayarchivelaw08.RegridCovers" = some f) (hfn : Tryd.pinned.checked.prog.funcs[f]? = some fn) :
    false = Tryd.pinned.checked.prog.looks [] ∧ ∀ (j : Nat) t, fn.params[j]? = some t → Tryd.pinned.checked.prog.wantsStandIn t = false := by
  obtain rfl : f = 5 := Option.some.inj ((show Tryd.prog.funcNamed "arrayarchive/arrayarchivelaw08.RegridCovers" = some 5 by kernel_rfl).symm.trans hf) |>.symm
  obtain rfl : fn = Tryd.f5 := (Option.some.inj (Tryd.func5.symm.trans hfn)).symm
  refine ⟨by kernel_rfl, fun j t ht => ?_⟩
  rw [Tryd.params5] at ht
  have hm := Array.mem_of_getElem? ht
  simp at hm
  subst hm
  exact (show Tryd.prog.wantsStandIn 49 = false by kernel_rfl)

theorem card : Rows.RegridCoversCardSaid :=
  Claim7.holds_tied_plain_at .later [] _ _ _ _ said (fun _ h => by cases h) (by kernel_rfl) (fun _ h => by cases h) regridCovers_row_tie rfl ⟨rfl, rfl⟩ (by kernel_rfl) rfl plain (by kernel_rfl)
end Go.Proofs.YtblopapobmbboaaDoor.fnCovers
namespace Go.Proofs.YtblopapobmbboaaDoor
theorem covers_holds : Rows.RegridCoversCardSaid := fnCovers.card
end Go.Proofs.YtblopapobmbboaaDoor
