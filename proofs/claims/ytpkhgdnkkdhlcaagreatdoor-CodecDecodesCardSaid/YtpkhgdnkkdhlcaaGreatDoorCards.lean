/-
  DERIVED. GIVEN WITH THE SEED: THE CARDS: each row of YtpkhgdnkkdhlcaaGreatDoorRows.lean that lists a variable, with what it lists TIED to the program's text (the seventh form; the later family's looks); each row that meets fmt, with fmt's text TOLD by the authors' own Lean function (tested against real Go, not proved from fmt's source: count such statements apart). THE CARD IS WHAT COUNTS. Prove the row's statement (the work); the ties are given (YtpkhgdnkkdhlcaaGreatDoorTie.lean); close each card by the builder's one call (the guide's Derived/Test/ToyasCard.lean, 'card_holds'). Laid BY PROGRAM, IN A SANDBOX (cutbox-door.mjs). By AI agents, Wed Nov 11 2026. No macro, syntax, notation, axiom, sorry.
-/
import Derived.Test.YtpkhgdnkkdhlcaaGreatDoorRows
import GoSem.ClaimSeven
namespace Go.Proofs.YtpkhgdnkkdhlcaaGreatDoor
namespace Rows

/-- THE TIED CARD OF 'arrayarchivelaw04.CodecPuts'. -/
def codecPutsCard : Claim7 := { stood := { row := codecPutsRow, standIns := [], harness := (true, "6db3755bba99959088e58a8609e32b7c98e8e71808ca4f99386a98263cd264c7"), looks := true }, kinds := [], alts := [], laidByText := true, laidKinds := [.data, .data, .data, .sentinel, .sentinel], laidTests := true, laidLooks := .later }
def CodecPutsCardSaid : Prop := Claim7.holds Tryz.pinned (.plain (OpenSpec.ofChange codecPutsSpec)) codecPutsCard

/-- THE TIED CARD OF 'arrayarchivelaw04.CodecGets'. -/
def codecGetsCard : Claim7 := { stood := { row := codecGetsRow, standIns := [], harness := (true, "6db3755bba99959088e58a8609e32b7c98e8e71808ca4f99386a98263cd264c7"), looks := true }, kinds := [], alts := [], laidByText := true, laidKinds := [.data, .data, .data, .sentinel, .sentinel], laidTests := true, laidLooks := .later }
def CodecGetsCardSaid : Prop := Claim7.holds Tryz.pinned (.plain (OpenSpec.ofChange codecGetsSpec)) codecGetsCard

/-- THE TIED CARD OF 'arrayarchivelaw04.CodecRounds'. -/
def codecRoundsCard : Claim7 := { stood := { row := codecRoundsRow, standIns := [], harness := (true, "6db3755bba99959088e58a8609e32b7c98e8e71808ca4f99386a98263cd264c7"), looks := true }, kinds := [], alts := [], laidByText := true, laidKinds := [.data, .data, .data, .sentinel, .sentinel], laidTests := true, laidLooks := .later }
def CodecRoundsCardSaid : Prop := Claim7.holds Tryz.pinned (.plain (OpenSpec.ofChange codecRoundsSpec)) codecRoundsCard

/-- THE TIED CARD OF 'arrayarchivelaw04.CodecValid'. -/
def codecValidCard : Claim7 := { stood := { row := codecValidRow, standIns := [], harness := (true, "6db3755bba99959088e58a8609e32b7c98e8e71808ca4f99386a98263cd264c7"), looks := true }, kinds := [], alts := [], laidByText := true, laidKinds := [.data, .data, .data, .sentinel, .sentinel], laidTests := true, laidLooks := .later }
def CodecValidCardSaid : Prop := Claim7.holds Tryz.pinned (.plain (OpenSpec.ofChange codecValidSpec)) codecValidCard

/-- THE TIED CARD OF 'arrayarchivelaw04.CodecDecodes'. -/
def codecDecodesCard : Claim7 := { stood := { row := codecDecodesRow, standIns := [], harness := (true, "6db3755bba99959088e58a8609e32b7c98e8e71808ca4f99386a98263cd264c7"), looks := true }, kinds := [], alts := [], laidByText := true, laidKinds := [.data, .data, .data, .sentinel, .sentinel], laidTests := true, laidLooks := .later }
def CodecDecodesCardSaid : Prop := Claim7.holds Tryz.pinned (.plain (OpenSpec.ofChange codecDecodesSpec)) codecDecodesCard

/-- THE TIED CARD OF 'arrayarchivelaw04.CodecEncodes'. -/
def codecEncodesCard : Claim7 := { stood := { row := codecEncodesRow, standIns := [], harness := (true, "6db3755bba99959088e58a8609e32b7c98e8e71808ca4f99386a98263cd264c7"), looks := true }, kinds := [], alts := [], laidByText := true, laidKinds := [.data, .data, .data, .sentinel, .sentinel], laidTests := true, laidLooks := .later }
def CodecEncodesCardSaid : Prop := Claim7.holds Tryz.pinned (.plain (OpenSpec.ofChange codecEncodesSpec)) codecEncodesCard

/-- THE TIED CARD OF 'arrayarchivelaw04.CodecDamages'. -/
def codecDamagesCard : Claim7 := { stood := { row := codecDamagesRow, standIns := [], harness := (true, "6db3755bba99959088e58a8609e32b7c98e8e71808ca4f99386a98263cd264c7"), looks := true }, kinds := [], alts := [], laidByText := true, laidKinds := [.data, .data, .data, .sentinel, .sentinel], laidTests := true, laidLooks := .later }
def CodecDamagesCardSaid : Prop := Claim7.holds Tryz.pinned (.plain (OpenSpec.ofChange codecDamagesSpec)) codecDamagesCard

/-- THE SECOND FORM's CARD OF 'arrayarchivelaw04.CodecPuts'. -/
def codecPutsUptoCard : Claim7 := { stood := { row := codecPutsUptoRow, standIns := [], harness := (true, "6db3755bba99959088e58a8609e32b7c98e8e71808ca4f99386a98263cd264c7"), looks := true }, kinds := [], alts := [], laidByText := true, laidKinds := [.data, .data, .data, .sentinel, .sentinel], laidTests := true, laidLooks := .later }
def CodecPutsUptoCardSaid : Prop := Claim7.holds Tryz.pinned (.plain (OpenSpec.upto codecPutsSpec)) codecPutsUptoCard

/-- THE SECOND FORM's CARD OF 'arrayarchivelaw04.CodecGets'. -/
def codecGetsUptoCard : Claim7 := { stood := { row := codecGetsUptoRow, standIns := [], harness := (true, "6db3755bba99959088e58a8609e32b7c98e8e71808ca4f99386a98263cd264c7"), looks := true }, kinds := [], alts := [], laidByText := true, laidKinds := [.data, .data, .data, .sentinel, .sentinel], laidTests := true, laidLooks := .later }
def CodecGetsUptoCardSaid : Prop := Claim7.holds Tryz.pinned (.plain (OpenSpec.upto codecGetsSpec)) codecGetsUptoCard

/-- THE SECOND FORM's CARD OF 'arrayarchivelaw04.CodecRounds'. -/
def codecRoundsUptoCard : Claim7 := { stood := { row := codecRoundsUptoRow, standIns := [], harness := (true, "6db3755bba99959088e58a8609e32b7c98e8e71808ca4f99386a98263cd264c7"), looks := true }, kinds := [], alts := [], laidByText := true, laidKinds := [.data, .data, .data, .sentinel, .sentinel], laidTests := true, laidLooks := .later }
def CodecRoundsUptoCardSaid : Prop := Claim7.holds Tryz.pinned (.plain (OpenSpec.upto codecRoundsSpec)) codecRoundsUptoCard

/-- THE SECOND FORM's CARD OF 'arrayarchivelaw04.CodecValid'. -/
def codecValidUptoCard : Claim7 := { stood := { row := codecValidUptoRow, standIns := [], harness := (true, "6db3755bba99959088e58a8609e32b7c98e8e71808ca4f99386a98263cd264c7"), looks := true }, kinds := [], alts := [], laidByText := true, laidKinds := [.data, .data, .data, .sentinel, .sentinel], laidTests := true, laidLooks := .later }
def CodecValidUptoCardSaid : Prop := Claim7.holds Tryz.pinned (.plain (OpenSpec.upto codecValidSpec)) codecValidUptoCard

/-- THE SECOND FORM's CARD OF 'arrayarchivelaw04.CodecDecodes'. -/
def codecDecodesUptoCard : Claim7 := { stood := { row := codecDecodesUptoRow, standIns := [], harness := (true, "6db3755bba99959088e58a8609e32b7c98e8e71808ca4f99386a98263cd264c7"), looks := true }, kinds := [], alts := [], laidByText := true, laidKinds := [.data, .data, .data, .sentinel, .sentinel], laidTests := true, laidLooks := .later }
def CodecDecodesUptoCardSaid : Prop := Claim7.holds Tryz.pinned (.plain (OpenSpec.upto codecDecodesSpec)) codecDecodesUptoCard

/-- THE SECOND FORM's CARD OF 'arrayarchivelaw04.CodecEncodes'. -/
def codecEncodesUptoCard : Claim7 := { stood := { row := codecEncodesUptoRow, standIns := [], harness := (true, "6db3755bba99959088e58a8609e32b7c98e8e71808ca4f99386a98263cd264c7"), looks := true }, kinds := [], alts := [], laidByText := true, laidKinds := [.data, .data, .data, .sentinel, .sentinel], laidTests := true, laidLooks := .later }
def CodecEncodesUptoCardSaid : Prop := Claim7.holds Tryz.pinned (.plain (OpenSpec.upto codecEncodesSpec)) codecEncodesUptoCard

/-- THE SECOND FORM's CARD OF 'arrayarchivelaw04.CodecDamages'. -/
def codecDamagesUptoCard : Claim7 := { stood := { row := codecDamagesUptoRow, standIns := [], harness := (true, "6db3755bba99959088e58a8609e32b7c98e8e71808ca4f99386a98263cd264c7"), looks := true }, kinds := [], alts := [], laidByText := true, laidKinds := [.data, .data, .data, .sentinel, .sentinel], laidTests := true, laidLooks := .later }
def CodecDamagesUptoCardSaid : Prop := Claim7.holds Tryz.pinned (.plain (OpenSpec.upto codecDamagesSpec)) codecDamagesUptoCard
end Rows
end Go.Proofs.YtpkhgdnkkdhlcaaGreatDoor
