/-
  DERIVED. GIVEN WITH THE SEED: THE CARDS: each row of YtblopapobmbboaaDoorRows.lean that lists a variable, with what it lists TIED to the program's text (the seventh form; the later family's looks); each row that meets fmt, with fmt's text TOLD by the authors' own Lean function (tested against real Go, not proved from fmt's source: count such statements apart). THE CARD IS WHAT COUNTS. Prove the row's statement (the work); the ties are given (YtblopapobmbboaaDoorTie.lean); close each card by the builder's one call (the guide's Derived/Test/ToyasCard.lean, 'card_holds'). Laid BY PROGRAM, IN A SANDBOX (cutbox-door.mjs). By AI agents, Wed Nov 11 2026. No macro, syntax, notation, axiom, sorry.
-/
import Derived.Test.YtblopapobmbboaaDoorRows
import GoSem.ClaimSeven
namespace Go.Proofs.YtblopapobmbboaaDoor
namespace Rows

/-- THE TIED CARD OF 'arrayarchivelaw08.RegridTurns'. -/
def regridTurnsCard : Claim7 := { stood := { row := regridTurnsRow, standIns := [], harness := (true, "1e5fc2eb21f86e4f98031e73c3f5c5f59d147c35443f31f858366805f7339b83"), looks := false }, kinds := [], alts := [], laidByText := true, laidKinds := [.data, .data, .data], laidTests := true, laidLooks := .later }
def RegridTurnsCardSaid : Prop := Claim7.holds Tryd.pinned (.plain (OpenSpec.ofChange regridTurnsSpec)) regridTurnsCard

/-- THE TIED CARD OF 'arrayarchivelaw08.RegridMoves'. -/
def regridMovesCard : Claim7 := { stood := { row := regridMovesRow, standIns := [], harness := (true, "1e5fc2eb21f86e4f98031e73c3f5c5f59d147c35443f31f858366805f7339b83"), looks := false }, kinds := [], alts := [], laidByText := true, laidKinds := [.data, .data, .data], laidTests := true, laidLooks := .later }
def RegridMovesCardSaid : Prop := Claim7.holds Tryd.pinned (.plain (OpenSpec.ofChange regridMovesSpec)) regridMovesCard

/-- THE TIED CARD OF 'arrayarchivelaw08.RegridCovers'. -/
def regridCoversCard : Claim7 := { stood := { row := regridCoversRow, standIns := [], harness := (true, "1e5fc2eb21f86e4f98031e73c3f5c5f59d147c35443f31f858366805f7339b83"), looks := false }, kinds := [], alts := [], laidByText := true, laidKinds := [.data, .data, .data], laidTests := true, laidLooks := .later }
def RegridCoversCardSaid : Prop := Claim7.holds Tryd.pinned (.plain (OpenSpec.ofChange regridCoversSpec)) regridCoversCard

/-- THE TIED CARD OF 'arrayarchivelaw08.RegridRectangles'. -/
def regridRectanglesCard : Claim7 := { stood := { row := regridRectanglesRow, standIns := [], harness := (true, "1e5fc2eb21f86e4f98031e73c3f5c5f59d147c35443f31f858366805f7339b83"), looks := false }, kinds := [], alts := [], laidByText := true, laidKinds := [.data, .data, .data], laidTests := true, laidLooks := .later }
def RegridRectanglesCardSaid : Prop := Claim7.holds Tryd.pinned (.plain (OpenSpec.ofChange regridRectanglesSpec)) regridRectanglesCard

/-- THE SECOND FORM's CARD OF 'arrayarchivelaw08.RegridTurns'. -/
def regridTurnsUptoCard : Claim7 := { stood := { row := regridTurnsUptoRow, standIns := [], harness := (true, "1e5fc2eb21f86e4f98031e73c3f5c5f59d147c35443f31f858366805f7339b83"), looks := false }, kinds := [], alts := [], laidByText := true, laidKinds := [.data, .data, .data], laidTests := true, laidLooks := .later }
def RegridTurnsUptoCardSaid : Prop := Claim7.holds Tryd.pinned (.plain (OpenSpec.upto regridTurnsSpec)) regridTurnsUptoCard

/-- THE SECOND FORM's CARD OF 'arrayarchivelaw08.RegridMoves'. -/
def regridMovesUptoCard : Claim7 := { stood := { row := regridMovesUptoRow, standIns := [], harness := (true, "1e5fc2eb21f86e4f98031e73c3f5c5f59d147c35443f31f858366805f7339b83"), looks := false }, kinds := [], alts := [], laidByText := true, laidKinds := [.data, .data, .data], laidTests := true, laidLooks := .later }
def RegridMovesUptoCardSaid : Prop := Claim7.holds Tryd.pinned (.plain (OpenSpec.upto regridMovesSpec)) regridMovesUptoCard

/-- THE SECOND FORM's CARD OF 'arrayarchivelaw08.RegridCovers'. -/
def regridCoversUptoCard : Claim7 := { stood := { row := regridCoversUptoRow, standIns := [], harness := (true, "1e5fc2eb21f86e4f98031e73c3f5c5f59d147c35443f31f858366805f7339b83"), looks := false }, kinds := [], alts := [], laidByText := true, laidKinds := [.data, .data, .data], laidTests := true, laidLooks := .later }
def RegridCoversUptoCardSaid : Prop := Claim7.holds Tryd.pinned (.plain (OpenSpec.upto regridCoversSpec)) regridCoversUptoCard

/-- THE SECOND FORM's CARD OF 'arrayarchivelaw08.RegridRectangles'. -/
def regridRectanglesUptoCard : Claim7 := { stood := { row := regridRectanglesUptoRow, standIns := [], harness := (true, "1e5fc2eb21f86e4f98031e73c3f5c5f59d147c35443f31f858366805f7339b83"), looks := false }, kinds := [], alts := [], laidByText := true, laidKinds := [.data, .data, .data], laidTests := true, laidLooks := .later }
def RegridRectanglesUptoCardSaid : Prop := Claim7.holds Tryd.pinned (.plain (OpenSpec.upto regridRectanglesSpec)) regridRectanglesUptoCard
end Rows
end Go.Proofs.YtblopapobmbboaaDoor
