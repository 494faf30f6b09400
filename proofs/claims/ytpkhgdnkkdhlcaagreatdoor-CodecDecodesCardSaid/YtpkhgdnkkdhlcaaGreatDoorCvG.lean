/-
  What the list of laid variables says of strconv.ErrRange.
-/
import Derived.Test.YtpkhgdnkkdhlcaaGreatDoorFrameV
import Derived.Test.YtpkhgdnkkdhlcaaGreatDoorFtX
namespace Go.Proofs.YtpkhgdnkkdhlcaaGreatDoor
open Go.ChangeShapes Go.WideShapes Go.ChangeAt Go.RowKit

theorem Tryz.gER : Tryz.prog.globalNamed "strconv.ErrRange" = some 1 := by kernel_rfl
theorem Tryz.gERType : (Tryz.prog.globals[1]?).map (·.type) = some 58 := by kernel_rfl
theorem rng_of {W : World} (hL : laidMet Tryz.prog tabs W) : EnvG W := by
  have h1 := ((hL.tail).tail).tail
  obtain ⟨a0, s0, hv0, -, -, -⟩ := laid_sentinel h1 Tryz.gER Tryz.gERType Tryz.underlying58 Tryz.rowErr Tryz.underlying198 Tryz.underlying200 rfl rfl Tryz.underlying9 Tryz.cellsErr Tryz.cellsStr
  have h2 : W.cell? ⟨1, 0, none⟩ = some (.iface 198 (.pointer (some a0))) := by
    have h0 := World.var?_cell Tryz.gER hv0 0
    simpa using h0
  exact ⟨⟨_, h2, .inr ⟨_, _, rfl⟩⟩, World.block_lt_of_cell? _ _ h2⟩
end Go.Proofs.YtpkhgdnkkdhlcaaGreatDoor

