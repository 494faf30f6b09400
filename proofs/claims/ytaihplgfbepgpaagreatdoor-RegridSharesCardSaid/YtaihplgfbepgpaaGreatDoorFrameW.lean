/-
  What a law's row asks behind the call, for a law that returns true and turns nothing that was there; a cell, a place, a list of ints as arguments; a world in which the listed tables hold what their initialisers lay.
-/
import Derived.Test.YtaihplgfbepgpaaGreatDoorCards
import Derived.Test.YtaihplgfbepgpaaGreatDoorTie
import Derived.Test.YtaihplgfbepgpaaGreatDoorLawA
import Derived.Carry
import Derived.ProofKit
import Derived.OpenShut
import Derived.Deep.SlicePairs
import Derived.Lib.LaidTab
import Derived.Stop.LaidErr
import Derived.Shelf.Vars
import Derived.Deep.DeepHandedRow
import Derived.Deep.DeepWitnessRowRef
import Derived.Stop.JoinedAt
namespace Go.Proofs.YtaihplgfbepgpaaGreatDoor
open Go.ChangeShapes Go.WideShapes Go.ChangeAt Go.RowKit

theorem Tryz.own : ownKnob Tryz.prog.godebug = none := by kernel_rfl
theorem Tryz.laidOutB_ok : laidOutB Tryz.prog = true := by kernel_rfl
theorem Tryz.cellsCell : Tryz.prog.cellsOf 33 = 2 := by kernel_rfl
theorem Tryz.cellsPlace : Tryz.prog.cellsOf 50 = 2 := by kernel_rfl
theorem Tryz.cellsInt : Tryz.prog.cellsOf 3 = 1 := by kernel_rfl
theorem Tryz.cellsBool : Tryz.prog.cellsOf 4 = 1 := by kernel_rfl
theorem Tryz.cellsPlaces : Tryz.prog.cellsOf 31 = 1 := by kernel_rfl
section
variable {H : Type} {enc : TypeId × Value → H}
theorem below_trodAll {W W' : World} (hb : Below W.heap.size W W') : ∀ {ts : List TypeId} {vs : List Value} {ds : List (DataW H)} {ps : List MemPlace},
    (∀ t ∈ ts, Tryz.prog.readableRec t = true ∧ t < Tryz.prog.types.size) → DataW.TrodAll enc Tryz.prog W 0 (fun _ => true) true ts vs ds ps → (∀ x ∈ ps, x.block < W.heap.size) →
    DataW.TrodAll enc Tryz.prog W' 0 (fun b => decide (b < W.heap.size)) true ts vs ds ps
  | [], [], [], _, _, h, _ => h
  | t :: ts, _ :: _, _ :: _, _, ht, ⟨p, q, h1, h2, e⟩, hlt =>
    ⟨p, q, Below.trod Tryz.laidOutB_ok (ht t List.mem_cons_self).1 (ht t List.mem_cons_self).2 h1 hb (fun x hx => hlt x (by rw [e]; exact List.mem_append_left _ hx)),
      below_trodAll hb (fun u hu => ht u (List.mem_cons_of_mem _ hu)) h2 (fun x hx => hlt x (by rw [e]; exact List.mem_append_right _ hx)), e⟩
/-- A law that returns true and turns nothing that was there meets its row. -/
theorem law_post {f : Func} {s : ChangeSpec} {W W' : World} {args : Array Value} {ds gs : List (DataW H)} {before : List MemPlace}
    (hf : f.resultTypes = #[4]) (hv : s.vars = []) (hp : ∀ t ∈ f.params.toList, Tryz.prog.readableRec t = true ∧ t < Tryz.prog.types.size)
    (hs : (s.fn H (ds ++ gs)).results = [.lit (.bool true)] ∧ (s.fn H (ds ++ gs)).args = ds ∧ (s.fn H (ds ++ gs)).vars = [])
    (hW : DataW.Whole enc Tryz.prog f.params.toList s.vars false W args.toList ds gs before) (hb : Below W.heap.size W W') :
    s.post enc Tryz.prog f false true false false W args (.bool true) W' := by
  have hlt : ∀ x ∈ before, x.block < W.heap.size := fun x hx => hW.lt x hx
  have hW' := hW
  obtain ⟨p, q, hA, hV, rfl, _, _⟩ := hW'
  rw [hv] at hV
  obtain ⟨_, rfl⟩ := trodVars_none hV
  rw [List.append_nil] at hW hlt
  refine ⟨ds, gs, p, [], p, [], hW, ?_, ?_, ?_, hb.frame _, fun h => by cases h⟩
  · rw [hs.1, hf]
    exact trodAll_mk1 (shut_bool Tryz.underlying4 _)
  · rw [hs.2.1]
    exact below_trodAll hb hp hA hlt
  · rw [hs.2.2, hv]; rfl

theorem two_of {cs : Array Value} (h : cs.size = 2) : ∃ a b, cs = #[a, b] := by
  obtain ⟨l⟩ := cs
  match l, h with
  | [a, b], _ => exact ⟨a, b, rfl⟩
/-- The number that a value is. -/
def numV : Value → Int
  | .int _ n => n
  | _ => 0
theorem in64_wf {n : Int} (h : (Lit.int .i64 n).wf = true) : in64 n := by
  have h1 : IntKind.i64.min = -9223372036854775808 := rfl
  have h2 : IntKind.i64.max = 9223372036854775807 := rfl
  simp only [Lit.wf, Bool.and_eq_true, decide_eq_true_eq] at h
  unfold in64
  omega
theorem rd_prow {w : World} {B : Nat} {ad : Addr} {l : List Pl} (hb : ad.block < B) (h : ∀ (i : Nat) (p : Pl), l[i]? = some p → w.cell? (ad.add (i * 2)) = some (.int .i64 p.1) ∧ w.cell? (ad.add (i * 2 + 1)) = some (.int .i64 p.2)) : Rd w B (some ad) (prow l) := fun _ => by
  refine ⟨ad, rfl, hb, fun j u hu => ?_⟩
  have hj : j < 2 * l.length := by rw [← prow_len]; exact (List.getElem?_eq_some_iff.1 hu).1
  have hi : j / 2 < l.length := by omega
  obtain ⟨h1, h2⟩ := prow_at (List.getElem?_eq_getElem hi)
  obtain ⟨h3, h4⟩ := h _ _ (List.getElem?_eq_getElem hi)
  rcases Nat.mod_two_eq_zero_or_one j with h0 | h0
  · have e : j = 2 * (j / 2) := by omega
    rw [e, h1] at hu
    rw [e, Nat.mul_comm, h3]
    exact hu
  · have e : j = 2 * (j / 2) + 1 := by omega
    rw [e, h2] at hu
    rw [e, Nat.mul_comm, h4]
    exact hu
/-- A slice of places, nil or not. -/
theorem opened_places {W : World} {fuel : Nat} {a : Value} {x : DataW H × List MemPlace} (h : DataW.trod enc Tryz.prog W 0 (fun _ => true) true fuel 31 [a] = some x) :
    ∃ A l c, a = .slice A (l : List Pl).length c ∧ l.length ≤ c ∧ c ≤ maxLen ∧ (∀ p ∈ l, in64 p.1 ∧ in64 p.2) ∧ Rd W W.heap.size A (prow l) := by
  rcases Go.Deep.open_slice_pairs Tryz.underlying31 Tryz.underlying50 Tryz.cellsPlace rfl rfl Tryz.cellsInt Tryz.cellsInt h with ⟨hcs, _⟩ | ⟨ad, len, cap, m, n, V0, V1, D0, D1, P0, P1, hcs, _, hl, hm, hmm, _, hc⟩
  · simp at hcs
    exact ⟨none, [], 0, hcs, Nat.le_refl _, Nat.zero_le _, (fun p hp => by cases hp), fun hn => absurd rfl hn⟩
  · simp only [List.cons.injEq, and_true] at hcs
    simp only [if_true] at hmm
    subst hmm
    have each : ∀ i, i < m → (V0 i = .int .i64 (numV (V0 i)) ∧ in64 (numV (V0 i))) ∧ V1 i = .int .i64 (numV (V1 i)) ∧ in64 (numV (V1 i)) := fun i hi => by
      obtain ⟨_, _, h0, h1⟩ := hc i hi
      obtain ⟨n0, e0, _, w0⟩ := DataW.trod_int Tryz.underlying3 h0
      obtain ⟨n1, e1, _, w1⟩ := DataW.trod_int Tryz.underlying3 h1
      simp only [List.cons.injEq, and_true] at e0 e1
      rw [e0, e1]
      exact ⟨⟨rfl, in64_wf w0⟩, rfl, in64_wf w1⟩
    refine ⟨some ad, (List.range len).map fun i => (numV (V0 i), numV (V1 i)), m, by rw [List.length_map, List.length_range]; exact hcs, by rw [List.length_map, List.length_range]; exact hl, hm, fun p hp => ?_, ?_⟩
    · obtain ⟨i, hi, rfl⟩ := List.mem_map.1 hp
      have := each i (by have := List.mem_range.1 hi; omega)
      exact ⟨this.1.2, this.2.2⟩
    · rcases Nat.eq_zero_or_pos len with h0 | h0
      · subst h0
        exact fun hn => absurd rfl hn
      · have hblk := World.block_lt_of_cell? _ _ (hc 0 (by omega)).1
        rw [addr_block] at hblk
        refine rd_prow hblk fun i p hp => ?_
        have hi : i < len := by
          have := (List.getElem?_eq_some_iff.1 hp).1
          simpa using this
        rw [List.getElem?_map, List.getElem?_range hi] at hp
        simp only [Option.map_some, Option.some.injEq] at hp
        subst hp
        have h1 := hc i (by omega)
        have h2 := each i (by omega)
        exact ⟨by rw [h1.1]; exact congrArg some h2.1.1, by rw [h1.2.1]; exact congrArg some h2.2.1⟩
set_option maxRecDepth 100000 in
/-- An argument that is a cell. -/
theorem opened_cell {W : World} {v : Value} {d : DataW H} {p : List MemPlace} {base : Nat} (hval : Value.okWide Tryz.prog W .any base 33 v) (h : DataW.Trod enc Tryz.prog W 0 (fun _ => true) true 33 v d p) :
    ∃ l m, IsC W W.heap.size v l m := by
  obtain ⟨cs, rfl, hcs⟩ := okWide_struct Tryz.underlying33 hval
  rw [Tryz.cellsCell] at hcs
  obtain ⟨a, b, rfl⟩ := two_of hcs
  obtain ⟨fuel, hf⟩ := h
  obtain ⟨y0, y1, n, _, _, h0, h1⟩ := trod_struct2 Tryz.underlying33 hf
  simp only [Tryz.cellsPlaces, Tryz.cellsBool, Value.cells, List.drop_zero, List.take_succ_cons, List.take_zero, List.drop_succ_cons] at h0 h1
  obtain ⟨m, e1, _⟩ := DataW.trod_bool Tryz.underlying4 h1
  simp only [List.cons.injEq, and_true] at e1
  obtain ⟨A, l, c, e0, hl, hc, hi, hr⟩ := opened_places h0
  exact ⟨l, m, A, c, by rw [e0, e1], hl, hc, hi, hr⟩
theorem crow_len (S : List (Value × Bool)) : (crow S).length = 2 * S.length := by
  induction S with
  | nil => rfl
  | cons q S ih => show (q.1 :: .bool q.2 :: crow S).length = _; simp [ih]; omega
theorem rd_crow {w : World} {B : Nat} {ad : Addr} {l : List (Value × Bool)} (hb : ad.block < B) (h : ∀ (i : Nat) (p : Value × Bool), l[i]? = some p → w.cell? (ad.add (i * 2)) = some p.1 ∧ w.cell? (ad.add (i * 2 + 1)) = some (.bool p.2)) : Rd w B (some ad) (crow l) := fun _ => by
  refine ⟨ad, rfl, hb, fun j u hu => ?_⟩
  have hj : j < 2 * l.length := by rw [← crow_len]; exact (List.getElem?_eq_some_iff.1 hu).1
  have hi : j / 2 < l.length := by omega
  obtain ⟨h1, h2⟩ := crow_at (List.getElem?_eq_getElem hi)
  obtain ⟨h3, h4⟩ := h _ _ (List.getElem?_eq_getElem hi)
  rcases Nat.mod_two_eq_zero_or_one j with h0 | h0
  · have e : j = 2 * (j / 2) := by omega
    rw [e, h1] at hu
    rw [e, Nat.mul_comm, h3]
    exact hu
  · have e : j = 2 * (j / 2) + 1 := by omega
    rw [e, h2] at hu
    rw [e, Nat.mul_comm, h4]
    exact hu
/-- A slice of cells, nil or not. -/
theorem opened_cells {W : World} {fuel : Nat} {a : Value} {x : DataW H × List MemPlace} (h : DataW.trod enc Tryz.prog W 0 (fun _ => true) true fuel 22 [a] = some x) :
    ∃ L : List Ce, IsCs W W.heap.size a L ∧ L.length ≤ maxLen ∧ ∀ x ∈ L, x.1.length ≤ maxLen := by
  rcases Go.Deep.open_slice_pairs Tryz.underlying22 Tryz.underlying33 Tryz.cellsCell rfl rfl Tryz.cellsPlaces Tryz.cellsBool h with ⟨hcs, _⟩ | ⟨ad, len, cap, m, n, V0, V1, D0, D1, P0, P1, hcs, _, hl, hm, hmm, _, hc⟩
  · simp at hcs
    exact ⟨[], ⟨none, 0, [], hcs, Nat.le_refl _, rfl, (fun hn => absurd rfl hn), fun i x hx => by simp at hx⟩, Nat.zero_le _, fun x hx => by cases hx⟩
  · simp only [List.cons.injEq, and_true] at hcs
    simp only [if_true] at hmm
    subst hmm
    have each : ∀ i, i < m → ∃ q : List Pl × Bool, IsC W W.heap.size (.agg #[V0 i, .bool q.2]) q.1 q.2 ∧ V1 i = .bool q.2 := fun i hi => by
      obtain ⟨_, _, h0, h1⟩ := hc i hi
      obtain ⟨b, e1, _⟩ := DataW.trod_bool Tryz.underlying4 h1
      simp only [List.cons.injEq, and_true] at e1
      obtain ⟨A, l, c, e0, hlc, hcm, hin, hr⟩ := opened_places h0
      exact ⟨(l, b), ⟨A, c, by rw [e0], hlc, hcm, hin, hr⟩, e1⟩
    obtain ⟨q, hq⟩ := Go.Deep.choose_lt each
    have hat : ∀ (i : Nat) (y : Ce), ((List.range len).map q)[i]? = some y → i < len ∧ y = q i := fun i y hy => by
      have hi : i < len := by
        have := (List.getElem?_eq_some_iff.1 hy).1
        simpa using this
      rw [List.getElem?_map, List.getElem?_range hi] at hy
      simp only [Option.map_some, Option.some.injEq] at hy
      exact ⟨hi, hy.symm⟩
    refine ⟨(List.range len).map q, ⟨some ad, m, (List.range len).map fun i => (V0 i, (q i).2), by rw [List.length_map, List.length_range]; exact hcs, by rw [List.length_map, List.length_range]; exact hl, by simp, ?_, ?_⟩, by rw [List.length_map, List.length_range]; exact Nat.le_trans hl hm, ?_⟩
    · rcases Nat.eq_zero_or_pos len with h0 | h0
      · subst h0
        exact fun hn => absurd rfl hn
      · have hblk := World.block_lt_of_cell? _ _ (hc 0 (by omega)).1
        rw [addr_block] at hblk
        refine rd_crow hblk fun i p hp => ?_
        have hi : i < len := by
          have := (List.getElem?_eq_some_iff.1 hp).1
          simpa using this
        rw [List.getElem?_map, List.getElem?_range hi] at hp
        simp only [Option.map_some, Option.some.injEq] at hp
        subst hp
        have h1 := hc i (by omega)
        have h2 := hq i (by omega)
        exact ⟨h1.1, by rw [h1.2.1]; exact congrArg some h2.2⟩
    · intro i y hy
      obtain ⟨hi, rfl⟩ := hat i y hy
      exact ⟨V0 i, by rw [List.getElem?_map, List.getElem?_range hi]; rfl, (hq i (by omega)).1⟩
    · intro y hy
      obtain ⟨i, hi⟩ := List.getElem?_of_mem hy
      obtain ⟨hi2, rfl⟩ := hat i y hi
      obtain ⟨A, c, _, h1, h2, _⟩ := (hq i (by omega)).1
      exact Nat.le_trans h1 h2
set_option maxRecDepth 100000 in
/-- An argument that is a place. -/
theorem opened_place {W : World} {v : Value} {d : DataW H} {p : List MemPlace} {base : Nat} (hval : Value.okWide Tryz.prog W .any base 50 v) (h : DataW.Trod enc Tryz.prog W 0 (fun _ => true) true 50 v d p) :
    ∃ x y : Int, v = .agg #[.int .i64 x, .int .i64 y] ∧ in64 x ∧ in64 y := by
  obtain ⟨cs, rfl, hcs⟩ := okWide_struct Tryz.underlying50 hval
  rw [Tryz.cellsPlace] at hcs
  obtain ⟨a, b, rfl⟩ := two_of hcs
  obtain ⟨fuel, hf⟩ := h
  obtain ⟨y0, y1, n, _, _, h0, h1⟩ := trod_struct2 Tryz.underlying50 hf
  simp only [Tryz.cellsInt, Value.cells, List.drop_zero, List.take_succ_cons, List.take_zero, List.drop_succ_cons] at h0 h1
  obtain ⟨n0, e0, _, w0⟩ := DataW.trod_int Tryz.underlying3 h0
  obtain ⟨n1, e1, _, w1⟩ := DataW.trod_int Tryz.underlying3 h1
  simp only [List.cons.injEq, and_true] at e0 e1
  exact ⟨n0, n1, by rw [e0, e1], in64_wf w0, in64_wf w1⟩
end

/-- So many blocks has the settled world. -/
noncomputable def low : Nat := (World.holding Tryz.prog default ⟨#[], #[], []⟩).heap.size
/-- One variable's cells. -/
def lay (h : Array Obj) (g : Nat) (cs : Array Value) : Array Obj := h.modify g fun
  | .cells _ t frozen => .cells cs t frozen
  | o => o
noncomputable def laidWorld (os : Os) : World :=
  { World.holding Tryz.prog os ⟨#[], #[], []⟩ with
    heap := lay (lay (lay (World.holding Tryz.prog os ⟨#[], #[], []⟩).heap
      1 #[.int .u8 0, .int .u8 1, .int .u8 28, .int .u8 2, .int .u8 29, .int .u8 14, .int .u8 24, .int .u8 3, .int .u8 30, .int .u8 22, .int .u8 20, .int .u8 15, .int .u8 25, .int .u8 17, .int .u8 4, .int .u8 8, .int .u8 31, .int .u8 27, .int .u8 13, .int .u8 23, .int .u8 21, .int .u8 19, .int .u8 16, .int .u8 7, .int .u8 26, .int .u8 12, .int .u8 18, .int .u8 6, .int .u8 11, .int .u8 5, .int .u8 10, .int .u8 9])
      2 #[.int .u8 0, .int .u8 1, .int .u8 56, .int .u8 2, .int .u8 57, .int .u8 49, .int .u8 28, .int .u8 3, .int .u8 61, .int .u8 58, .int .u8 42, .int .u8 50, .int .u8 38, .int .u8 29, .int .u8 17, .int .u8 4, .int .u8 62, .int .u8 47, .int .u8 59, .int .u8 36, .int .u8 45, .int .u8 43, .int .u8 51, .int .u8 22, .int .u8 53, .int .u8 39, .int .u8 33, .int .u8 30, .int .u8 24, .int .u8 18, .int .u8 12, .int .u8 5, .int .u8 63, .int .u8 55, .int .u8 48, .int .u8 27, .int .u8 60, .int .u8 41, .int .u8 37, .int .u8 16, .int .u8 46, .int .u8 35, .int .u8 44, .int .u8 21, .int .u8 52, .int .u8 32, .int .u8 23, .int .u8 11, .int .u8 54, .int .u8 26, .int .u8 40, .int .u8 15, .int .u8 34, .int .u8 20, .int .u8 31, .int .u8 10, .int .u8 25, .int .u8 14, .int .u8 19, .int .u8 9, .int .u8 13, .int .u8 8, .int .u8 7, .int .u8 6])
      0 #[.int .u64 1, .int .u64 10, .int .u64 100, .int .u64 1000, .int .u64 10000, .int .u64 100000, .int .u64 1000000, .int .u64 10000000, .int .u64 100000000, .int .u64 1000000000, .int .u64 10000000000, .int .u64 100000000000, .int .u64 1000000000000, .int .u64 10000000000000, .int .u64 100000000000000, .int .u64 1000000000000000, .int .u64 10000000000000000, .int .u64 100000000000000000, .int .u64 1000000000000000000, .int .u64 10000000000000000000] }
/-- The list of the tables. -/
abbrev tabs : List (String × DataW Unit) := Rows.regridGridsRow.laid
theorem laid_met (os : Os) (args : Array Value) : laidMet Tryz.prog tabs ((laidWorld os).forCall (fun _ _ => 0) ⟨#[], args, []⟩).memory :=
  laidMet_of_run (ps := (MemPlace.row ⟨1, 0, none⟩ 32 ++ MemPlace.row ⟨2, 0, none⟩ 64 ++ MemPlace.row ⟨0, 0, none⟩ 20)) 8 (by kernel_rfl) (by kernel_rfl) (by kernel_rfl)
/-- What the list gives. -/
theorem env_of {W : World} (hL : laidMet Tryz.prog tabs W) : EnvR W := by
  have h2 : laidMet Tryz.prog [("internal/strconv.uint64pow10", Lib.tabData .u64 Lib.pow10Tab)] W := (hL.tail).tail
  have ht := Lib.tabIs_of_head (g := 0) (t := 171) (e := 114) (n := 20) (by kernel_rfl) (by kernel_rfl) Tryz.underlying171 Tryz.underlying114 (by kernel_rfl) (by kernel_rfl) h2
  refine ⟨ht, ?_⟩
  have hc := Lib.TabIs.cell ht (g := 0) (by kernel_rfl) 0 (by rw [Lib.pow10Tab_length]; decide)
  exact World.block_lt_of_cell? _ _ hc
end Go.Proofs.YtaihplgfbepgpaaGreatDoor
