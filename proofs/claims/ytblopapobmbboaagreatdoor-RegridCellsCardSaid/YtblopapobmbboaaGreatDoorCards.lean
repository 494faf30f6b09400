/-
  DERIVED. GIVEN WITH THE SEED: THE CARDS: each row of YtblopapobmbboaaGreatDoorRows.lean that lists a variable, with what it lists TIED to the program's text (the seventh form; the later family's looks); each row that meets fmt, with fmt's text TOLD by the authors' own Lean function (tested against real Go, not proved from fmt's source: count such statements apart). THE CARD IS WHAT COUNTS. Prove the row's statement (the work); the ties are given (YtblopapobmbboaaGreatDoorTie.lean); close each card by the builder's one call (the guide's Derived/Test/ToyasCard.lean, 'card_holds'). Laid BY PROGRAM, IN A SANDBOX (cutbox-door.mjs). By AI agents, Wed Nov 11 2026. No macro, syntax, notation, axiom, sorry.
-/
import Derived.Test.YtblopapobmbboaaGreatDoorRows
import GoSem.ClaimSeven
namespace Go.Proofs.YtblopapobmbboaaGreatDoor
namespace Rows

/-- THE TIED CARD OF 'arrayarchivelaw08.RegridCommons'. -/
def regridCommonsCard : Claim7 := { stood := { row := regridCommonsRow, standIns := [], harness := (true, "c833244ee9bfa04ca676358193275cf7a51a40d4ccbd066e1d5aef8b30587c17"), looks := false }, kinds := [], alts := [], laidByText := true, laidKinds := [.data, .data, .data], laidTests := true, laidLooks := .later }
def RegridCommonsCardSaid : Prop := Claim7.holds Tryz.pinned (.plain (OpenSpec.ofChange regridCommonsSpec)) regridCommonsCard

/-- THE TIED CARD OF 'arrayarchivelaw08.RegridCells'. -/
def regridCellsCard : Claim7 := { stood := { row := regridCellsRow, standIns := [], harness := (true, "c833244ee9bfa04ca676358193275cf7a51a40d4ccbd066e1d5aef8b30587c17"), looks := false }, kinds := [], alts := [], laidByText := true, laidKinds := [.data, .data, .data], laidTests := true, laidLooks := .later }
def RegridCellsCardSaid : Prop := Claim7.holds Tryz.pinned (.plain (OpenSpec.ofChange regridCellsSpec)) regridCellsCard

/-- THE TIED CARD OF 'arrayarchivelaw08.RegridGrids'. -/
def regridGridsCard : Claim7 := { stood := { row := regridGridsRow, standIns := [], harness := (true, "c833244ee9bfa04ca676358193275cf7a51a40d4ccbd066e1d5aef8b30587c17"), looks := false }, kinds := [], alts := [], laidByText := true, laidKinds := [.data, .data, .data], laidTests := true, laidLooks := .later }
def RegridGridsCardSaid : Prop := Claim7.holds Tryz.pinned (.plain (OpenSpec.ofChange regridGridsSpec)) regridGridsCard

/-- THE TIED CARD OF 'arrayarchivelaw08.RegridRounds'. -/
def regridRoundsCard : Claim7 := { stood := { row := regridRoundsRow, standIns := [], harness := (true, "c833244ee9bfa04ca676358193275cf7a51a40d4ccbd066e1d5aef8b30587c17"), looks := false }, kinds := [], alts := [], laidByText := true, laidKinds := [.data, .data, .data], laidTests := true, laidLooks := .later }
def RegridRoundsCardSaid : Prop := Claim7.holds Tryz.pinned (.plain (OpenSpec.ofChange regridRoundsSpec)) regridRoundsCard

/-- THE SECOND FORM's CARD OF 'arrayarchivelaw08.RegridCommons'. -/
def regridCommonsUptoCard : Claim7 := { stood := { row := regridCommonsUptoRow, standIns := [], harness := (true, "c833244ee9bfa04ca676358193275cf7a51a40d4ccbd066e1d5aef8b30587c17"), looks := false }, kinds := [], alts := [], laidByText := true, laidKinds := [.data, .data, .data], laidTests := true, laidLooks := .later }
def RegridCommonsUptoCardSaid : Prop := Claim7.holds Tryz.pinned (.plain (OpenSpec.upto regridCommonsSpec)) regridCommonsUptoCard

/-- THE SECOND FORM's CARD OF 'arrayarchivelaw08.RegridCells'. -/
def regridCellsUptoCard : Claim7 := { stood := { row := regridCellsUptoRow, standIns := [], harness := (true, "c833244ee9bfa04ca676358193275cf7a51a40d4ccbd066e1d5aef8b30587c17"), looks := false }, kinds := [], alts := [], laidByText := true, laidKinds := [.data, .data, .data], laidTests := true, laidLooks := .later }
def RegridCellsUptoCardSaid : Prop := Claim7.holds Tryz.pinned (.plain (OpenSpec.upto regridCellsSpec)) regridCellsUptoCard

/-- THE SECOND FORM's CARD OF 'arrayarchivelaw08.RegridGrids'. -/
def regridGridsUptoCard : Claim7 := { stood := { row := regridGridsUptoRow, standIns := [], harness := (true, "c833244ee9bfa04ca676358193275cf7a51a40d4ccbd066e1d5aef8b30587c17"), looks := false }, kinds := [], alts := [], laidByText := true, laidKinds := [.data, .data, .data], laidTests := true, laidLooks := .later }
def RegridGridsUptoCardSaid : Prop := Claim7.holds Tryz.pinned (.plain (OpenSpec.upto regridGridsSpec)) regridGridsUptoCard

/-- THE SECOND FORM's CARD OF 'arrayarchivelaw08.RegridRounds'. -/
def regridRoundsUptoCard : Claim7 := { stood := { row := regridRoundsUptoRow, standIns := [], harness := (true, "c833244ee9bfa04ca676358193275cf7a51a40d4ccbd066e1d5aef8b30587c17"), looks := false }, kinds := [], alts := [], laidByText := true, laidKinds := [.data, .data, .data], laidTests := true, laidLooks := .later }
def RegridRoundsUptoCardSaid : Prop := Claim7.holds Tryz.pinned (.plain (OpenSpec.upto regridRoundsSpec)) regridRoundsUptoCard
end Rows
end Go.Proofs.YtblopapobmbboaaGreatDoor
