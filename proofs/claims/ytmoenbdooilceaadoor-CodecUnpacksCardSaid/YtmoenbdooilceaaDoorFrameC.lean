/-
  A world in which the listed variables hold what their initialisers lay; what the list gives.
-/
import Derived.Test.YtmoenbdooilceaaDoorCards
import Derived.Test.YtmoenbdooilceaaDoorTie
import Derived.Test.YtmoenbdooilceaaDoorLawW
import Derived.Test.YtmoenbdooilceaaDoorReadC
import Derived.Deep.DeepWitnessRowRef
import Derived.Stop.JoinedAt
namespace Go.Proofs.YtmoenbdooilceaaDoor
open Go.ChangeShapes Go.WideShapes Go.ChangeAt Go.RowKit

theorem Tryd.own : ownKnob Tryd.prog.godebug = none := by kernel_rfl
/-- So many blocks has the settled world. -/
noncomputable def low : Nat := (World.holding Tryd.prog default ⟨#[], #[], []⟩).heap.size
/-- One variable's cells. -/
def lay (h : Array Obj) (g : Nat) (cs : Array Value) : Array Obj := h.modify g fun
  | .cells _ t frozen => .cells cs t frozen
  | o => o
noncomputable def laidWorld (os : Os) : World :=
  { World.holding Tryd.prog os ⟨#[.cells #[.string ⟨#[118, 97, 108, 117, 101, 32, 111, 117, 116, 32, 111, 102, 32, 114, 97, 110, 103, 101]⟩] 113, .cells #[.string ⟨#[105, 110, 118, 97, 108, 105, 100, 32, 115, 121, 110, 116, 97, 120]⟩] 113], #[], []⟩ with
    heap := lay (lay (lay (lay (lay (World.holding Tryd.prog os ⟨#[.cells #[.string ⟨#[118, 97, 108, 117, 101, 32, 111, 117, 116, 32, 111, 102, 32, 114, 97, 110, 103, 101]⟩] 113, .cells #[.string ⟨#[105, 110, 118, 97, 108, 105, 100, 32, 115, 121, 110, 116, 97, 120]⟩] 113], #[], []⟩).heap
      1 #[.iface 111 (.pointer (some ⟨low, 0, none⟩))])
      0 #[.iface 111 (.pointer (some ⟨low + 1, 0, none⟩))])
      4 #[.int .u8 0, .int .u8 1, .int .u8 28, .int .u8 2, .int .u8 29, .int .u8 14, .int .u8 24, .int .u8 3, .int .u8 30, .int .u8 22, .int .u8 20, .int .u8 15, .int .u8 25, .int .u8 17, .int .u8 4, .int .u8 8, .int .u8 31, .int .u8 27, .int .u8 13, .int .u8 23, .int .u8 21, .int .u8 19, .int .u8 16, .int .u8 7, .int .u8 26, .int .u8 12, .int .u8 18, .int .u8 6, .int .u8 11, .int .u8 5, .int .u8 10, .int .u8 9])
      5 #[.int .u8 0, .int .u8 1, .int .u8 56, .int .u8 2, .int .u8 57, .int .u8 49, .int .u8 28, .int .u8 3, .int .u8 61, .int .u8 58, .int .u8 42, .int .u8 50, .int .u8 38, .int .u8 29, .int .u8 17, .int .u8 4, .int .u8 62, .int .u8 47, .int .u8 59, .int .u8 36, .int .u8 45, .int .u8 43, .int .u8 51, .int .u8 22, .int .u8 53, .int .u8 39, .int .u8 33, .int .u8 30, .int .u8 24, .int .u8 18, .int .u8 12, .int .u8 5, .int .u8 63, .int .u8 55, .int .u8 48, .int .u8 27, .int .u8 60, .int .u8 41, .int .u8 37, .int .u8 16, .int .u8 46, .int .u8 35, .int .u8 44, .int .u8 21, .int .u8 52, .int .u8 32, .int .u8 23, .int .u8 11, .int .u8 54, .int .u8 26, .int .u8 40, .int .u8 15, .int .u8 34, .int .u8 20, .int .u8 31, .int .u8 10, .int .u8 25, .int .u8 14, .int .u8 19, .int .u8 9, .int .u8 13, .int .u8 8, .int .u8 7, .int .u8 6])
      3 #[.int .u64 1, .int .u64 10, .int .u64 100, .int .u64 1000, .int .u64 10000, .int .u64 100000, .int .u64 1000000, .int .u64 10000000, .int .u64 100000000, .int .u64 1000000000, .int .u64 10000000000, .int .u64 100000000000, .int .u64 1000000000000, .int .u64 10000000000000, .int .u64 100000000000000, .int .u64 1000000000000000, .int .u64 10000000000000000, .int .u64 100000000000000000, .int .u64 1000000000000000000, .int .u64 10000000000000000000] }
theorem laid_met (os : Os) (args : Array Value) : laidMet Tryd.prog Rows.codecSumsRow.laid ((laidWorld os).forCall (fun _ _ => 0) ⟨#[], args, []⟩).memory :=
  laidMet_of_run (ps := (MemPlace.row ⟨4, 0, none⟩ 32 ++ MemPlace.row ⟨5, 0, none⟩ 64 ++ MemPlace.row ⟨3, 0, none⟩ 20 ++ [.cell 1 0, .cell low 0, .cell 0 0, .cell (low + 1) 0])) 8 (by kernel_rfl) (by kernel_rfl) (by kernel_rfl)
theorem Tryd.gES : Tryd.prog.globalNamed "strconv.ErrSyntax" = some 0 := by kernel_rfl
theorem Tryd.gESType : (Tryd.prog.globals[0]?).map (·.type) = some 73 := by kernel_rfl
theorem Tryd.cellsErr : Tryd.prog.cellsOf 113 = 1 := by kernel_rfl
theorem Tryd.cellsStr : Tryd.prog.cellsOf 9 = 1 := by kernel_rfl
theorem Tryd.star : "*" ++ "errors.errorString" = "*errors.errorString" := by decide
theorem Tryd.rowErr (u : TypeId) (h : Tryd.prog.typeName? 3 u = some "*errors.errorString") : u = 111 :=
  typeName_ptr_named (nm := "errors.errorString") (by rw [Tryd.star]; kernel_rfl) (by kernel_rfl) (by decide) u (by rw [Tryd.star]; exact h)
/-- What the list and the world's shape give. -/
theorem env_of {W : World} (hL : laidMet Tryd.prog Rows.codecSumsRow.laid W) (hsh : W.ShapedOpen Tryd.prog) : Env W := by
  have h1 := (((hL.tail).tail).tail).tail
  obtain ⟨a0, s0, hv0, -, -, -⟩ := laid_sentinel h1 Tryd.gES Tryd.gESType Tryd.underlying73 Tryd.rowErr Tryd.underlying111 Tryd.underlying113 rfl rfl Tryd.underlying9 Tryd.cellsErr Tryd.cellsStr
  have h2 : W.cell? ⟨0, 0, none⟩ = some (.iface 111 (.pointer (some a0))) := by
    have h0 := World.var?_cell Tryd.gES hv0 0
    simpa using h0
  obtain ⟨m, hm⟩ := Go.Proofs.cell_of_shapedOpen_int (g := 2) (zero := #[.int .i64 0]) (t := 3) hsh (of_decide_eq_true (by kernel_rfl)) (by kernel_rfl) rfl (by kernel_rfl) (by kernel_rfl) Tryd.underlying3
  exact ⟨⟨m, hm⟩, ⟨_, h2, .inr ⟨_, _, rfl⟩⟩, World.block_lt_of_cell? _ _ hm, World.block_lt_of_cell? _ _ h2⟩
end Go.Proofs.YtmoenbdooilceaaDoor
