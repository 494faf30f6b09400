/-
  DERIVED. GIVEN WITH THE SEED: THE CARDS: each row of YtaihplgfbepgpaaGreatDoorRows.lean that lists a variable, with what it lists TIED to the program's text (the seventh form; the later family's looks); each row that meets fmt, with fmt's text TOLD by the authors' own Lean function (tested against real Go, not proved from fmt's source: count such statements apart). THE CARD IS WHAT COUNTS. Prove the row's statement (the work); the ties are given (YtaihplgfbepgpaaGreatDoorTie.lean); close each card by the builder's one call (the guide's Derived/Test/ToyasCard.lean, 'card_holds'). Laid BY PROGRAM, IN A SANDBOX (cutbox-door.mjs). By AI agents, Wed Nov 11 2026. No macro, syntax, notation, axiom, sorry.
-/
import Derived.Test.YtaihplgfbepgpaaGreatDoorRows
import GoSem.ClaimSeven
namespace Go.Proofs.YtaihplgfbepgpaaGreatDoor
namespace Rows

/-- THE TIED CARD OF 'arrayarchivelaw08.RegridGrids'. -/
def regridGridsCard : Claim7 := { stood := { row := regridGridsRow, standIns := [], harness := (true, "c6812d6551ed7af6597fbf8f2ed3626b45aa38a63a95d9595e994e338bc97c00"), looks := false }, kinds := [], alts := [], laidByText := true, laidKinds := [.data, .data, .data], laidTests := true, laidLooks := .later }
def RegridGridsCardSaid : Prop := Claim7.holds Tryz.pinned (.plain (OpenSpec.ofChange regridGridsSpec)) regridGridsCard

/-- THE TIED CARD OF 'arrayarchivelaw08.RegridRounds'. -/
def regridRoundsCard : Claim7 := { stood := { row := regridRoundsRow, standIns := [], harness := (true, "c6812d6551ed7af6597fbf8f2ed3626b45aa38a63a95d9595e994e338bc97c00"), looks := false }, kinds := [], alts := [], laidByText := true, laidKinds := [.data, .data, .data], laidTests := true, laidLooks := .later }
def RegridRoundsCardSaid : Prop := Claim7.holds Tryz.pinned (.plain (OpenSpec.ofChange regridRoundsSpec)) regridRoundsCard

/-- THE TIED CARD OF 'arrayarchivelaw08.RegridWeights'. -/
def regridWeightsCard : Claim7 := { stood := { row := regridWeightsRow, standIns := [], harness := (true, "c6812d6551ed7af6597fbf8f2ed3626b45aa38a63a95d9595e994e338bc97c00"), looks := false }, kinds := [], alts := [], laidByText := true, laidKinds := [.data, .data, .data], laidTests := true, laidLooks := .later }
def RegridWeightsCardSaid : Prop := Claim7.holds Tryz.pinned (.plain (OpenSpec.ofChange regridWeightsSpec)) regridWeightsCard

/-- THE TIED CARD OF 'arrayarchivelaw08.RegridShares'. -/
def regridSharesCard : Claim7 := { stood := { row := regridSharesRow, standIns := [], harness := (true, "c6812d6551ed7af6597fbf8f2ed3626b45aa38a63a95d9595e994e338bc97c00"), looks := false }, kinds := [], alts := [], laidByText := true, laidKinds := [.data, .data, .data], laidTests := true, laidLooks := .later }
def RegridSharesCardSaid : Prop := Claim7.holds Tryz.pinned (.plain (OpenSpec.ofChange regridSharesSpec)) regridSharesCard

/-- THE SECOND FORM's CARD OF 'arrayarchivelaw08.RegridGrids'. -/
def regridGridsUptoCard : Claim7 := { stood := { row := regridGridsUptoRow, standIns := [], harness := (true, "c6812d6551ed7af6597fbf8f2ed3626b45aa38a63a95d9595e994e338bc97c00"), looks := false }, kinds := [], alts := [], laidByText := true, laidKinds := [.data, .data, .data], laidTests := true, laidLooks := .later }
def RegridGridsUptoCardSaid : Prop := Claim7.holds Tryz.pinned (.plain (OpenSpec.upto regridGridsSpec)) regridGridsUptoCard

/-- THE SECOND FORM's CARD OF 'arrayarchivelaw08.RegridRounds'. -/
def regridRoundsUptoCard : Claim7 := { stood := { row := regridRoundsUptoRow, standIns := [], harness := (true, "c6812d6551ed7af6597fbf8f2ed3626b45aa38a63a95d9595e994e338bc97c00"), looks := false }, kinds := [], alts := [], laidByText := true, laidKinds := [.data, .data, .data], laidTests := true, laidLooks := .later }
def RegridRoundsUptoCardSaid : Prop := Claim7.holds Tryz.pinned (.plain (OpenSpec.upto regridRoundsSpec)) regridRoundsUptoCard

/-- THE SECOND FORM's CARD OF 'arrayarchivelaw08.RegridWeights'. -/
def regridWeightsUptoCard : Claim7 := { stood := { row := regridWeightsUptoRow, standIns := [], harness := (true, "c6812d6551ed7af6597fbf8f2ed3626b45aa38a63a95d9595e994e338bc97c00"), looks := false }, kinds := [], alts := [], laidByText := true, laidKinds := [.data, .data, .data], laidTests := true, laidLooks := .later }
def RegridWeightsUptoCardSaid : Prop := Claim7.holds Tryz.pinned (.plain (OpenSpec.upto regridWeightsSpec)) regridWeightsUptoCard

/-- THE SECOND FORM's CARD OF 'arrayarchivelaw08.RegridShares'. -/
def regridSharesUptoCard : Claim7 := { stood := { row := regridSharesUptoRow, standIns := [], harness := (true, "c6812d6551ed7af6597fbf8f2ed3626b45aa38a63a95d9595e994e338bc97c00"), looks := false }, kinds := [], alts := [], laidByText := true, laidKinds := [.data, .data, .data], laidTests := true, laidLooks := .later }
def RegridSharesUptoCardSaid : Prop := Claim7.holds Tryz.pinned (.plain (OpenSpec.upto regridSharesSpec)) regridSharesUptoCard
end Rows
end Go.Proofs.YtaihplgfbepgpaaGreatDoor
