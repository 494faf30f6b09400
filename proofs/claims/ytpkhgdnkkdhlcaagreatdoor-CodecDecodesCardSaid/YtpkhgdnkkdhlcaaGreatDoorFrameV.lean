/-
  A world in which the listed variables hold what their initialisers lay; what the list gives; what a law's row asks behind the call, for a law that returns true and turns nothing that was there; texts as an argument.
-/
import Derived.Test.YtpkhgdnkkdhlcaaGreatDoorCards
import Derived.Test.YtpkhgdnkkdhlcaaGreatDoorTie
import Derived.Test.YtpkhgdnkkdhlcaaGreatDoorReadC
import Derived.Test.YtpkhgdnkkdhlcaaGreatDoorNsX
import Derived.Test.YtpkhgdnkkdhlcaaGreatDoorTxtS
import Derived.Carry
import Derived.ProofKit
import Derived.OpenShut
import Derived.SliceStrings
import Derived.Lib.LaidTab
import Derived.Stop.LaidErr
import Derived.Shelf.Vars
import Derived.Deep.DeepHandedRow
import Derived.Deep.DeepWitnessRowRef
import Derived.Stop.JoinedAt
namespace Go.Proofs.YtpkhgdnkkdhlcaaGreatDoor
open Go.ChangeShapes Go.WideShapes Go.ChangeAt Go.RowKit

theorem Tryz.laidOutB_ok : laidOutB Tryz.prog = true := by kernel_rfl
theorem Tryz.own : ownKnob Tryz.prog.godebug = none := by kernel_rfl
theorem Tryz.cellsErr : Tryz.prog.cellsOf 200 = 1 := by kernel_rfl
theorem Tryz.cellsStr : Tryz.prog.cellsOf 9 = 1 := by kernel_rfl
section
variable {H : Type} {enc : TypeId × Value → H}
theorem below_trodAll {W W' : World} (hb : Below W.heap.size W W') : ∀ {ts : List TypeId} {vs : List Value} {ds : List (DataW H)} {ps : List MemPlace},
    (∀ t ∈ ts, Tryz.prog.readableRec t = true ∧ t < Tryz.prog.types.size) → DataW.TrodAll enc Tryz.prog W 0 (fun _ => true) true ts vs ds ps → (∀ x ∈ ps, x.block < W.heap.size) →
    DataW.TrodAll enc Tryz.prog W' 0 (fun b => decide (b < W.heap.size)) true ts vs ds ps
  | [], [], [], _, _, h, _ => h
  | t :: ts, _ :: _, _ :: _, _, ht, ⟨p, q, h1, h2, e⟩, hlt =>
    ⟨p, q, Below.trod Tryz.laidOutB_ok (ht t List.mem_cons_self).1 (ht t List.mem_cons_self).2 h1 hb (fun x hx => hlt x (by rw [e]; exact List.mem_append_left _ hx)),
      below_trodAll hb (fun u hu => ht u (List.mem_cons_of_mem _ hu)) h2 (fun x hx => hlt x (by rw [e]; exact List.mem_append_right _ hx)), e⟩
/-- A law that returns true and turns nothing that was there meets its row. -/
theorem law_post {f : Func} {s : ChangeSpec} {W W' : World} {args : Array Value} {ds gs : List (DataW H)} {before : List MemPlace}
    (hf : f.resultTypes = #[4]) (hv : s.vars = []) (hp : ∀ t ∈ f.params.toList, Tryz.prog.readableRec t = true ∧ t < Tryz.prog.types.size)
    (hs : (s.fn H (ds ++ gs)).results = [.lit (.bool true)] ∧ (s.fn H (ds ++ gs)).args = ds ∧ (s.fn H (ds ++ gs)).vars = [])
    (hW : DataW.Whole enc Tryz.prog f.params.toList s.vars false W args.toList ds gs before) (hb : Below W.heap.size W W') :
    s.post enc Tryz.prog f false true false false W args (.bool true) W' := by
  have hlt : ∀ x ∈ before, x.block < W.heap.size := fun x hx => hW.lt x hx
  have hW' := hW
  obtain ⟨p, q, hA, hV, rfl, _, _⟩ := hW'
  rw [hv] at hV
  obtain ⟨_, rfl⟩ := trodVars_none hV
  rw [List.append_nil] at hW hlt
  refine ⟨ds, gs, p, [], p, [], hW, ?_, ?_, ?_, hb.frame _, fun h => by cases h⟩
  · rw [hs.1, hf]
    exact trodAll_mk1 (shut_bool Tryz.underlying4 _)
  · rw [hs.2.1]
    exact below_trodAll hb hp hA hlt
  · rw [hs.2.2, hv]; rfl
/-- A slice of texts, nil or not. -/
theorem opened_texts {W : World} {fuel : Nat} {a : Value} {x : DataW H × List MemPlace} (h : DataW.trod enc Tryz.prog W 0 (fun _ => true) true fuel 22 [a] = some x) :
    ∃ L : List ByteArray, IsT W W.heap.size a L ∧ L.length ≤ maxLen ∧ ∀ s ∈ L, s.size ≤ maxLen := by
  rcases open_strings Tryz.underlying22 Tryz.underlying9 Tryz.cellsStr h with ⟨hcs, _⟩ | ⟨ad, len, cap, ss, hcs, _, hl, hm, hz, _, hcell, hsz⟩
  · simp only [List.cons.injEq, and_true] at hcs
    subst hcs
    exact ⟨[], IsT.nil _ _, Nat.zero_le _, fun s hs => by cases hs⟩
  · simp only [List.cons.injEq, and_true] at hcs
    subst hcs
    simp only [if_true] at hz
    have hlen : (ss.take len).length = len := by rw [List.length_take]; omega
    refine ⟨ss.take len, ⟨some ad, cap, by rw [hlen], by rw [hlen]; exact hl, fun hn => ?_⟩, by rw [hlen]; omega, fun s hs => hsz s (List.mem_of_mem_take hs)⟩
    have h0 : 0 < len := by
      rcases Nat.eq_zero_or_pos len with h | h
      · rw [h] at hn; simp [strs] at hn
      · exact h
    have hblk := World.block_lt_of_cell? _ _ (hcell 0 (by omega))
    rw [addr_block] at hblk
    refine ⟨ad, rfl, hblk, fun j u hu => ?_⟩
    have hj : j < len := by have := (List.getElem?_eq_some_iff.1 hu).1; rw [strs_len, hlen] at this; exact this
    rw [hcell j (by omega), ← hu]
    simp [strs, List.getElem?_take_of_lt hj, List.getElem?_eq_getElem (show j < ss.length by omega), List.getD_eq_getElem?_getD]
end
/-- So many blocks has the settled world. -/
noncomputable def low : Nat := (World.holding Tryz.prog default ⟨#[], #[], []⟩).heap.size
/-- One variable's cells. -/
def lay (h : Array Obj) (g : Nat) (cs : Array Value) : Array Obj := h.modify g fun
  | .cells _ t frozen => .cells cs t frozen
  | o => o
noncomputable def laidWorld (os : Os) : World :=
  { World.holding Tryz.prog os ⟨#[.cells #[.string ⟨#[118, 97, 108, 117, 101, 32, 111, 117, 116, 32, 111, 102, 32, 114, 97, 110, 103, 101]⟩] 200, .cells #[.string ⟨#[105, 110, 118, 97, 108, 105, 100, 32, 115, 121, 110, 116, 97, 120]⟩] 200], #[], []⟩ with
    heap := lay (lay (lay (lay (lay (World.holding Tryz.prog os ⟨#[.cells #[.string ⟨#[118, 97, 108, 117, 101, 32, 111, 117, 116, 32, 111, 102, 32, 114, 97, 110, 103, 101]⟩] 200, .cells #[.string ⟨#[105, 110, 118, 97, 108, 105, 100, 32, 115, 121, 110, 116, 97, 120]⟩] 200], #[], []⟩).heap
      1 #[.iface 198 (.pointer (some ⟨low, 0, none⟩))])
      0 #[.iface 198 (.pointer (some ⟨low + 1, 0, none⟩))])
      3 #[.int .u8 0, .int .u8 1, .int .u8 28, .int .u8 2, .int .u8 29, .int .u8 14, .int .u8 24, .int .u8 3, .int .u8 30, .int .u8 22, .int .u8 20, .int .u8 15, .int .u8 25, .int .u8 17, .int .u8 4, .int .u8 8, .int .u8 31, .int .u8 27, .int .u8 13, .int .u8 23, .int .u8 21, .int .u8 19, .int .u8 16, .int .u8 7, .int .u8 26, .int .u8 12, .int .u8 18, .int .u8 6, .int .u8 11, .int .u8 5, .int .u8 10, .int .u8 9])
      4 #[.int .u8 0, .int .u8 1, .int .u8 56, .int .u8 2, .int .u8 57, .int .u8 49, .int .u8 28, .int .u8 3, .int .u8 61, .int .u8 58, .int .u8 42, .int .u8 50, .int .u8 38, .int .u8 29, .int .u8 17, .int .u8 4, .int .u8 62, .int .u8 47, .int .u8 59, .int .u8 36, .int .u8 45, .int .u8 43, .int .u8 51, .int .u8 22, .int .u8 53, .int .u8 39, .int .u8 33, .int .u8 30, .int .u8 24, .int .u8 18, .int .u8 12, .int .u8 5, .int .u8 63, .int .u8 55, .int .u8 48, .int .u8 27, .int .u8 60, .int .u8 41, .int .u8 37, .int .u8 16, .int .u8 46, .int .u8 35, .int .u8 44, .int .u8 21, .int .u8 52, .int .u8 32, .int .u8 23, .int .u8 11, .int .u8 54, .int .u8 26, .int .u8 40, .int .u8 15, .int .u8 34, .int .u8 20, .int .u8 31, .int .u8 10, .int .u8 25, .int .u8 14, .int .u8 19, .int .u8 9, .int .u8 13, .int .u8 8, .int .u8 7, .int .u8 6])
      2 #[.int .u64 1, .int .u64 10, .int .u64 100, .int .u64 1000, .int .u64 10000, .int .u64 100000, .int .u64 1000000, .int .u64 10000000, .int .u64 100000000, .int .u64 1000000000, .int .u64 10000000000, .int .u64 100000000000, .int .u64 1000000000000, .int .u64 10000000000000, .int .u64 100000000000000, .int .u64 1000000000000000, .int .u64 10000000000000000, .int .u64 100000000000000000, .int .u64 1000000000000000000, .int .u64 10000000000000000000] }
/-- The list of the tables. -/
abbrev tabs : List (String × DataW Unit) := Rows.codecValidRow.laid
theorem laid_met (os : Os) (args : Array Value) : laidMet Tryz.prog tabs ((laidWorld os).forCall (fun _ _ => 0) ⟨#[], args, []⟩).memory :=
  laidMet_of_run (ps := (MemPlace.row ⟨3, 0, none⟩ 32 ++ MemPlace.row ⟨4, 0, none⟩ 64 ++ MemPlace.row ⟨2, 0, none⟩ 20 ++ [.cell 1 0, .cell low 0, .cell 0 0, .cell (low + 1) 0])) 8 (by kernel_rfl) (by kernel_rfl) (by kernel_rfl)
theorem Tryz.gES : Tryz.prog.globalNamed "strconv.ErrSyntax" = some 0 := by kernel_rfl
theorem Tryz.gESType : (Tryz.prog.globals[0]?).map (·.type) = some 58 := by kernel_rfl
theorem Tryz.star : "*" ++ "errors.errorString" = "*errors.errorString" := by decide
theorem Tryz.rowErr (u : TypeId) (h : Tryz.prog.typeName? 3 u = some "*errors.errorString") : u = 198 :=
  typeName_ptr_named (nm := "errors.errorString") (by rw [Tryz.star]; kernel_rfl) (by kernel_rfl) (by decide) u (by rw [Tryz.star]; exact h)
/-- What the list and the world's shape give. -/
theorem env_one {W : World} (hL : laidMet Tryz.prog tabs W) (hsh : W.ShapedOpen Tryz.prog) : Env W := by
  have h1 := (((hL.tail).tail).tail).tail
  obtain ⟨a0, s0, hv0, -, -, -⟩ := laid_sentinel h1 Tryz.gES Tryz.gESType Tryz.underlying58 Tryz.rowErr Tryz.underlying198 Tryz.underlying200 rfl rfl Tryz.underlying9 Tryz.cellsErr Tryz.cellsStr
  have h2 : W.cell? ⟨0, 0, none⟩ = some (.iface 198 (.pointer (some a0))) := by
    have h0 := World.var?_cell Tryz.gES hv0 0
    simpa using h0
  obtain ⟨m, hm⟩ := Go.Proofs.cell_of_shapedOpen_int (g := 5) (zero := #[.int .i64 0]) (t := 3) hsh (of_decide_eq_true (by kernel_rfl)) (by kernel_rfl) rfl (by kernel_rfl) (by kernel_rfl) Tryz.underlying3
  exact ⟨⟨m, hm⟩, ⟨_, h2, .inr ⟨_, _, rfl⟩⟩, World.block_lt_of_cell? _ _ hm, World.block_lt_of_cell? _ _ h2⟩
theorem env_of {W : World} (hL : laidMet Tryz.prog tabs W) (hsh : W.ShapedOpen Tryz.prog) : Env W ∧ EnvR W := by
  have h5 : laidMet Tryz.prog (("internal/strconv.uint64pow10", Lib.tabData .u64 Lib.pow10Tab) :: (tabs.drop 3)) W := (hL.tail).tail
  have ht := Lib.tabIs_of_head (g := 2) (t := 202) (e := 67) (n := 20) (by kernel_rfl) (by kernel_rfl) Tryz.underlying202 Tryz.underlying67 (by kernel_rfl) (by kernel_rfl) h5
  have hc := Lib.TabIs.cell ht (g := 2) (by kernel_rfl) 0 (by rw [Lib.pow10Tab_length]; decide)
  exact ⟨env_one hL hsh, ht, World.block_lt_of_cell? _ _ hc⟩
end Go.Proofs.YtpkhgdnkkdhlcaaGreatDoor

