/-
  DERIVED. GIVEN WITH THE SEED: THE CARDS: each row of YtgnffedncjjkfaaDoorRows.lean that lists a variable, with what it lists TIED to the program's text (the seventh form; the later family's looks); each row that meets fmt, with fmt's text TOLD by the authors' own Lean function (tested against real Go, not proved from fmt's source: count such statements apart). THE CARD IS WHAT COUNTS. Prove the row's statement (the work); the ties are given (YtgnffedncjjkfaaDoorTie.lean); close each card by the builder's one call (the guide's Derived/Test/ToyasCard.lean, 'card_holds'). Laid BY PROGRAM, IN A SANDBOX (cutbox-door.mjs). By AI agents, Wed Nov 11 2026. No macro, syntax, notation, axiom, sorry.
-/
import Derived.Test.YtgnffedncjjkfaaDoorRows
import GoSem.ClaimSeven
namespace Go.Proofs.YtgnffedncjjkfaaDoor
namespace Rows

/-- THE TIED CARD OF 'arrayarchivelaw06.ArrayTouches'. -/
def arrayTouchesCard : Claim7 := { stood := { row := arrayTouchesRow, standIns := [], harness := (true, "d103d2c2c1a3b68d59a24742f1b332baaa84ce3abee7e81639c6af02edc5f27d"), looks := true }, kinds := [], alts := [], laidByText := true, laidKinds := [.data, .data, .data, .sentinel, .sentinel], laidTests := true, laidLooks := .later }
def ArrayTouchesCardSaid : Prop := Claim7.holds Tryd.pinned (.plain (OpenSpec.ofChange arrayTouchesSpec)) arrayTouchesCard

/-- THE SECOND FORM's CARD OF 'arrayarchivelaw06.ArrayTouches'. -/
def arrayTouchesUptoCard : Claim7 := { stood := { row := arrayTouchesUptoRow, standIns := [], harness := (true, "d103d2c2c1a3b68d59a24742f1b332baaa84ce3abee7e81639c6af02edc5f27d"), looks := true }, kinds := [], alts := [], laidByText := true, laidKinds := [.data, .data, .data, .sentinel, .sentinel], laidTests := true, laidLooks := .later }
def ArrayTouchesUptoCardSaid : Prop := Claim7.holds Tryd.pinned (.plain (OpenSpec.upto arrayTouchesSpec)) arrayTouchesUptoCard
end Rows
end Go.Proofs.YtgnffedncjjkfaaDoor
