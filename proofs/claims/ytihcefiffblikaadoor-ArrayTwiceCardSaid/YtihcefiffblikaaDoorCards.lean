/-
  DERIVED. GIVEN WITH THE SEED: THE CARDS: each row of YtihcefiffblikaaDoorRows.lean that lists a variable, with what it lists TIED to the program's text (the seventh form; the later family's looks); each row that meets fmt, with fmt's text TOLD by the authors' own Lean function (tested against real Go, not proved from fmt's source: count such statements apart). THE CARD IS WHAT COUNTS. Prove the row's statement (the work); the ties are given (YtihcefiffblikaaDoorTie.lean); close each card by the builder's one call (the guide's Derived/Test/ToyasCard.lean, 'card_holds'). Laid BY PROGRAM, IN A SANDBOX (cutbox-door.mjs). By AI agents, Wed Nov 11 2026. No macro, syntax, notation, axiom, sorry.
-/
import Derived.Test.YtihcefiffblikaaDoorRows
import GoSem.ClaimSeven
namespace Go.Proofs.YtihcefiffblikaaDoor
namespace Rows

/-- THE TIED CARD OF 'arrayarchivelaw06.ArrayTwice'. -/
def arrayTwiceCard : Claim7 := { stood := { row := arrayTwiceRow, standIns := [], harness := (true, "cb44120e69f99f214b08225a359cbfba3d63b632be865b3e4aa3cd4084b53a1b"), looks := true }, kinds := [], alts := [], laidByText := true, laidKinds := [.data, .data, .data, .sentinel, .sentinel], laidTests := true, laidLooks := .later }
def ArrayTwiceCardSaid : Prop := Claim7.holds Tryd.pinned (.plain (OpenSpec.ofChange arrayTwiceSpec)) arrayTwiceCard

/-- THE TIED CARD OF 'arrayarchivelaw06.ArrayTouches'. -/
def arrayTouchesCard : Claim7 := { stood := { row := arrayTouchesRow, standIns := [], harness := (true, "cb44120e69f99f214b08225a359cbfba3d63b632be865b3e4aa3cd4084b53a1b"), looks := true }, kinds := [], alts := [], laidByText := true, laidKinds := [.data, .data, .data, .sentinel, .sentinel], laidTests := true, laidLooks := .later }
def ArrayTouchesCardSaid : Prop := Claim7.holds Tryd.pinned (.plain (OpenSpec.ofChange arrayTouchesSpec)) arrayTouchesCard

/-- THE SECOND FORM's CARD OF 'arrayarchivelaw06.ArrayTwice'. -/
def arrayTwiceUptoCard : Claim7 := { stood := { row := arrayTwiceUptoRow, standIns := [], harness := (true, "cb44120e69f99f214b08225a359cbfba3d63b632be865b3e4aa3cd4084b53a1b"), looks := true }, kinds := [], alts := [], laidByText := true, laidKinds := [.data, .data, .data, .sentinel, .sentinel], laidTests := true, laidLooks := .later }
def ArrayTwiceUptoCardSaid : Prop := Claim7.holds Tryd.pinned (.plain (OpenSpec.upto arrayTwiceSpec)) arrayTwiceUptoCard

/-- THE SECOND FORM's CARD OF 'arrayarchivelaw06.ArrayTouches'. -/
def arrayTouchesUptoCard : Claim7 := { stood := { row := arrayTouchesUptoRow, standIns := [], harness := (true, "cb44120e69f99f214b08225a359cbfba3d63b632be865b3e4aa3cd4084b53a1b"), looks := true }, kinds := [], alts := [], laidByText := true, laidKinds := [.data, .data, .data, .sentinel, .sentinel], laidTests := true, laidLooks := .later }
def ArrayTouchesUptoCardSaid : Prop := Claim7.holds Tryd.pinned (.plain (OpenSpec.upto arrayTouchesSpec)) arrayTouchesUptoCard
end Rows
end Go.Proofs.YtihcefiffblikaaDoor
