/-
  DERIVED. GIVEN WITH THE SEED: THE CARDS: each row of YtbddmkklkbkliaaGreatDoorRows.lean that lists a variable, with what it lists TIED to the program's text (the seventh form; the later family's looks); each row that meets fmt, with fmt's text TOLD by the authors' own Lean function (tested against real Go, not proved from fmt's source: count such statements apart). THE CARD IS WHAT COUNTS. Prove the row's statement (the work); the ties are given (YtbddmkklkbkliaaGreatDoorTie.lean); close each card by the builder's one call (the guide's Derived/Test/ToyasCard.lean, 'card_holds'). Laid BY PROGRAM, IN A SANDBOX (cutbox-door.mjs). By AI agents, Wed Nov 11 2026. No macro, syntax, notation, axiom, sorry.
-/
import Derived.Test.YtbddmkklkbkliaaGreatDoorRows
import GoSem.ClaimSeven
namespace Go.Proofs.YtbddmkklkbkliaaGreatDoor
namespace Rows

/-- THE TIED CARD OF 'arrayarchivelaw08.RegridTotals'. -/
def regridTotalsCard : Claim7 := { stood := { row := regridTotalsRow, standIns := [], harness := (true, "a391928b8a99431be17c8d53864c56817604c609493093208f6e41b0337a2e81"), looks := true }, kinds := [], alts := [], laidByText := true, laidKinds := [.data, .data, .data, .sentinel, .sentinel], laidTests := true, laidLooks := .later }
def RegridTotalsCardSaid : Prop := Claim7.holds Tryz.pinned (.plain (OpenSpec.ofChange regridTotalsSpec)) regridTotalsCard

/-- THE TIED CARD OF 'arrayarchivelaw08.RegridValues'. -/
def regridValuesCard : Claim7 := { stood := { row := regridValuesRow, standIns := [], harness := (true, "a391928b8a99431be17c8d53864c56817604c609493093208f6e41b0337a2e81"), looks := true }, kinds := [], alts := [], laidByText := true, laidKinds := [.data, .data, .data, .sentinel, .sentinel], laidTests := true, laidLooks := .later }
def RegridValuesCardSaid : Prop := Claim7.holds Tryz.pinned (.plain (OpenSpec.ofChange regridValuesSpec)) regridValuesCard

/-- THE TIED CARD OF 'arrayarchivelaw08.RegridSteady'. -/
def regridSteadyCard : Claim7 := { stood := { row := regridSteadyRow, standIns := [], harness := (true, "a391928b8a99431be17c8d53864c56817604c609493093208f6e41b0337a2e81"), looks := true }, kinds := [], alts := [], laidByText := true, laidKinds := [.data, .data, .data, .sentinel, .sentinel], laidTests := true, laidLooks := .later }
def RegridSteadyCardSaid : Prop := Claim7.holds Tryz.pinned (.plain (OpenSpec.ofChange regridSteadySpec)) regridSteadyCard

/-- THE TIED CARD OF 'arrayarchivelaw08.RegridMerges'. -/
def regridMergesCard : Claim7 := { stood := { row := regridMergesRow, standIns := [], harness := (true, "a391928b8a99431be17c8d53864c56817604c609493093208f6e41b0337a2e81"), looks := true }, kinds := [], alts := [], laidByText := true, laidKinds := [.data, .data, .data, .sentinel, .sentinel], laidTests := true, laidLooks := .later }
def RegridMergesCardSaid : Prop := Claim7.holds Tryz.pinned (.plain (OpenSpec.ofChange regridMergesSpec)) regridMergesCard

/-- THE SECOND FORM's CARD OF 'arrayarchivelaw08.RegridTotals'. -/
def regridTotalsUptoCard : Claim7 := { stood := { row := regridTotalsUptoRow, standIns := [], harness := (true, "a391928b8a99431be17c8d53864c56817604c609493093208f6e41b0337a2e81"), looks := true }, kinds := [], alts := [], laidByText := true, laidKinds := [.data, .data, .data, .sentinel, .sentinel], laidTests := true, laidLooks := .later }
def RegridTotalsUptoCardSaid : Prop := Claim7.holds Tryz.pinned (.plain (OpenSpec.upto regridTotalsSpec)) regridTotalsUptoCard

/-- THE SECOND FORM's CARD OF 'arrayarchivelaw08.RegridValues'. -/
def regridValuesUptoCard : Claim7 := { stood := { row := regridValuesUptoRow, standIns := [], harness := (true, "a391928b8a99431be17c8d53864c56817604c609493093208f6e41b0337a2e81"), looks := true }, kinds := [], alts := [], laidByText := true, laidKinds := [.data, .data, .data, .sentinel, .sentinel], laidTests := true, laidLooks := .later }
def RegridValuesUptoCardSaid : Prop := Claim7.holds Tryz.pinned (.plain (OpenSpec.upto regridValuesSpec)) regridValuesUptoCard

/-- THE SECOND FORM's CARD OF 'arrayarchivelaw08.RegridSteady'. -/
def regridSteadyUptoCard : Claim7 := { stood := { row := regridSteadyUptoRow, standIns := [], harness := (true, "a391928b8a99431be17c8d53864c56817604c609493093208f6e41b0337a2e81"), looks := true }, kinds := [], alts := [], laidByText := true, laidKinds := [.data, .data, .data, .sentinel, .sentinel], laidTests := true, laidLooks := .later }
def RegridSteadyUptoCardSaid : Prop := Claim7.holds Tryz.pinned (.plain (OpenSpec.upto regridSteadySpec)) regridSteadyUptoCard

/-- THE SECOND FORM's CARD OF 'arrayarchivelaw08.RegridMerges'. -/
def regridMergesUptoCard : Claim7 := { stood := { row := regridMergesUptoRow, standIns := [], harness := (true, "a391928b8a99431be17c8d53864c56817604c609493093208f6e41b0337a2e81"), looks := true }, kinds := [], alts := [], laidByText := true, laidKinds := [.data, .data, .data, .sentinel, .sentinel], laidTests := true, laidLooks := .later }
def RegridMergesUptoCardSaid : Prop := Claim7.holds Tryz.pinned (.plain (OpenSpec.upto regridMergesSpec)) regridMergesUptoCard
end Rows
end Go.Proofs.YtbddmkklkbkliaaGreatDoor
