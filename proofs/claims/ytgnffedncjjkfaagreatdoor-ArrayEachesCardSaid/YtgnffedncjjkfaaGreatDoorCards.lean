/-
  DERIVED. GIVEN WITH THE SEED: THE CARDS: each row of YtgnffedncjjkfaaGreatDoorRows.lean that lists a variable, with what it lists TIED to the program's text (the seventh form; the later family's looks); each row that meets fmt, with fmt's text TOLD by the authors' own Lean function (tested against real Go, not proved from fmt's source: count such statements apart). THE CARD IS WHAT COUNTS. Prove the row's statement (the work); the ties are given (YtgnffedncjjkfaaGreatDoorTie.lean); close each card by the builder's one call (the guide's Derived/Test/ToyasCard.lean, 'card_holds'). Laid BY PROGRAM, IN A SANDBOX (cutbox-door.mjs). By AI agents, Wed Nov 11 2026. No macro, syntax, notation, axiom, sorry.
-/
import Derived.Test.YtgnffedncjjkfaaGreatDoorRows
import GoSem.ClaimSeven
namespace Go.Proofs.YtgnffedncjjkfaaGreatDoor
namespace Rows

/-- THE TIED CARD OF 'arrayarchivelaw06.ArraySlabs'. -/
def arraySlabsCard : Claim7 := { stood := { row := arraySlabsRow, standIns := [], harness := (true, "24ac3678379c68286549ae9f25abe7189ccead2aac0d47bc981b5567f0f81dd9"), looks := true }, kinds := [], alts := [], laidByText := true, laidKinds := [.data, .data, .data, .sentinel, .sentinel], laidTests := true, laidLooks := .later }
def ArraySlabsCardSaid : Prop := Claim7.holds Tryz.pinned (.plain (OpenSpec.ofChange arraySlabsSpec)) arraySlabsCard

/-- THE TIED CARD OF 'arrayarchivelaw06.ArrayResizes'. -/
def arrayResizesCard : Claim7 := { stood := { row := arrayResizesRow, standIns := [], harness := (true, "24ac3678379c68286549ae9f25abe7189ccead2aac0d47bc981b5567f0f81dd9"), looks := true }, kinds := [], alts := [], laidByText := true, laidKinds := [.data, .data, .data, .sentinel, .sentinel], laidTests := true, laidLooks := .later }
def ArrayResizesCardSaid : Prop := Claim7.holds Tryz.pinned (.plain (OpenSpec.ofChange arrayResizesSpec)) arrayResizesCard

/-- THE TIED CARD OF 'arrayarchivelaw06.ArrayValid'. -/
def arrayValidCard : Claim7 := { stood := { row := arrayValidRow, standIns := [], harness := (true, "24ac3678379c68286549ae9f25abe7189ccead2aac0d47bc981b5567f0f81dd9"), looks := true }, kinds := [], alts := [], laidByText := true, laidKinds := [.data, .data, .data, .sentinel, .sentinel], laidTests := true, laidLooks := .later }
def ArrayValidCardSaid : Prop := Claim7.holds Tryz.pinned (.plain (OpenSpec.ofChange arrayValidSpec)) arrayValidCard

/-- THE TIED CARD OF 'arrayarchivelaw06.ArrayMoves'. -/
def arrayMovesCard : Claim7 := { stood := { row := arrayMovesRow, standIns := [], harness := (true, "24ac3678379c68286549ae9f25abe7189ccead2aac0d47bc981b5567f0f81dd9"), looks := true }, kinds := [], alts := [], laidByText := true, laidKinds := [.data, .data, .data, .sentinel, .sentinel], laidTests := true, laidLooks := .later }
def ArrayMovesCardSaid : Prop := Claim7.holds Tryz.pinned (.plain (OpenSpec.ofChange arrayMovesSpec)) arrayMovesCard

/-- THE TIED CARD OF 'arrayarchivelaw06.ArrayTiles'. -/
def arrayTilesCard : Claim7 := { stood := { row := arrayTilesRow, standIns := [], harness := (true, "24ac3678379c68286549ae9f25abe7189ccead2aac0d47bc981b5567f0f81dd9"), looks := true }, kinds := [], alts := [], laidByText := true, laidKinds := [.data, .data, .data, .sentinel, .sentinel], laidTests := true, laidLooks := .later }
def ArrayTilesCardSaid : Prop := Claim7.holds Tryz.pinned (.plain (OpenSpec.ofChange arrayTilesSpec)) arrayTilesCard

/-- THE TIED CARD OF 'arrayarchivelaw06.ArrayChunks'. -/
def arrayChunksCard : Claim7 := { stood := { row := arrayChunksRow, standIns := [], harness := (true, "24ac3678379c68286549ae9f25abe7189ccead2aac0d47bc981b5567f0f81dd9"), looks := true }, kinds := [], alts := [], laidByText := true, laidKinds := [.data, .data, .data, .sentinel, .sentinel], laidTests := true, laidLooks := .later }
def ArrayChunksCardSaid : Prop := Claim7.holds Tryz.pinned (.plain (OpenSpec.ofChange arrayChunksSpec)) arrayChunksCard

/-- THE TIED CARD OF 'arrayarchivelaw06.ArrayReduced'. -/
def arrayReducedCard : Claim7 := { stood := { row := arrayReducedRow, standIns := [], harness := (true, "24ac3678379c68286549ae9f25abe7189ccead2aac0d47bc981b5567f0f81dd9"), looks := true }, kinds := [], alts := [], laidByText := true, laidKinds := [.data, .data, .data, .sentinel, .sentinel], laidTests := true, laidLooks := .later }
def ArrayReducedCardSaid : Prop := Claim7.holds Tryz.pinned (.plain (OpenSpec.ofChange arrayReducedSpec)) arrayReducedCard

/-- THE TIED CARD OF 'arrayarchivelaw06.ArrayEaches'. -/
def arrayEachesCard : Claim7 := { stood := { row := arrayEachesRow, standIns := [], harness := (true, "24ac3678379c68286549ae9f25abe7189ccead2aac0d47bc981b5567f0f81dd9"), looks := true }, kinds := [], alts := [], laidByText := true, laidKinds := [.data, .data, .data, .sentinel, .sentinel], laidTests := true, laidLooks := .later }
def ArrayEachesCardSaid : Prop := Claim7.holds Tryz.pinned (.plain (OpenSpec.ofChange arrayEachesSpec)) arrayEachesCard

/-- THE TIED CARD OF 'arrayarchivelaw06.ArrayWindows'. -/
def arrayWindowsCard : Claim7 := { stood := { row := arrayWindowsRow, standIns := [], harness := (true, "24ac3678379c68286549ae9f25abe7189ccead2aac0d47bc981b5567f0f81dd9"), looks := true }, kinds := [], alts := [], laidByText := true, laidKinds := [.data, .data, .data, .sentinel, .sentinel], laidTests := true, laidLooks := .later }
def ArrayWindowsCardSaid : Prop := Claim7.holds Tryz.pinned (.plain (OpenSpec.ofChange arrayWindowsSpec)) arrayWindowsCard

/-- THE TIED CARD OF 'arrayarchivelaw06.ArrayReduces'. -/
def arrayReducesCard : Claim7 := { stood := { row := arrayReducesRow, standIns := [], harness := (true, "24ac3678379c68286549ae9f25abe7189ccead2aac0d47bc981b5567f0f81dd9"), looks := true }, kinds := [], alts := [], laidByText := true, laidKinds := [.data, .data, .data, .sentinel, .sentinel], laidTests := true, laidLooks := .later }
def ArrayReducesCardSaid : Prop := Claim7.holds Tryz.pinned (.plain (OpenSpec.ofChange arrayReducesSpec)) arrayReducesCard

/-- THE TIED CARD OF 'arrayarchivelaw06.ArrayTotals'. -/
def arrayTotalsCard : Claim7 := { stood := { row := arrayTotalsRow, standIns := [], harness := (true, "24ac3678379c68286549ae9f25abe7189ccead2aac0d47bc981b5567f0f81dd9"), looks := true }, kinds := [], alts := [], laidByText := true, laidKinds := [.data, .data, .data, .sentinel, .sentinel], laidTests := true, laidLooks := .later }
def ArrayTotalsCardSaid : Prop := Claim7.holds Tryz.pinned (.plain (OpenSpec.ofChange arrayTotalsSpec)) arrayTotalsCard

/-- THE TIED CARD OF 'arrayarchivelaw06.ArrayGroups'. -/
def arrayGroupsCard : Claim7 := { stood := { row := arrayGroupsRow, standIns := [], harness := (true, "24ac3678379c68286549ae9f25abe7189ccead2aac0d47bc981b5567f0f81dd9"), looks := true }, kinds := [], alts := [], laidByText := true, laidKinds := [.data, .data, .data, .sentinel, .sentinel], laidTests := true, laidLooks := .later }
def ArrayGroupsCardSaid : Prop := Claim7.holds Tryz.pinned (.plain (OpenSpec.ofChange arrayGroupsSpec)) arrayGroupsCard

/-- THE SECOND FORM's CARD OF 'arrayarchivelaw06.ArraySlabs'. -/
def arraySlabsUptoCard : Claim7 := { stood := { row := arraySlabsUptoRow, standIns := [], harness := (true, "24ac3678379c68286549ae9f25abe7189ccead2aac0d47bc981b5567f0f81dd9"), looks := true }, kinds := [], alts := [], laidByText := true, laidKinds := [.data, .data, .data, .sentinel, .sentinel], laidTests := true, laidLooks := .later }
def ArraySlabsUptoCardSaid : Prop := Claim7.holds Tryz.pinned (.plain (OpenSpec.upto arraySlabsSpec)) arraySlabsUptoCard

/-- THE SECOND FORM's CARD OF 'arrayarchivelaw06.ArrayResizes'. -/
def arrayResizesUptoCard : Claim7 := { stood := { row := arrayResizesUptoRow, standIns := [], harness := (true, "24ac3678379c68286549ae9f25abe7189ccead2aac0d47bc981b5567f0f81dd9"), looks := true }, kinds := [], alts := [], laidByText := true, laidKinds := [.data, .data, .data, .sentinel, .sentinel], laidTests := true, laidLooks := .later }
def ArrayResizesUptoCardSaid : Prop := Claim7.holds Tryz.pinned (.plain (OpenSpec.upto arrayResizesSpec)) arrayResizesUptoCard

/-- THE SECOND FORM's CARD OF 'arrayarchivelaw06.ArrayValid'. -/
def arrayValidUptoCard : Claim7 := { stood := { row := arrayValidUptoRow, standIns := [], harness := (true, "24ac3678379c68286549ae9f25abe7189ccead2aac0d47bc981b5567f0f81dd9"), looks := true }, kinds := [], alts := [], laidByText := true, laidKinds := [.data, .data, .data, .sentinel, .sentinel], laidTests := true, laidLooks := .later }
def ArrayValidUptoCardSaid : Prop := Claim7.holds Tryz.pinned (.plain (OpenSpec.upto arrayValidSpec)) arrayValidUptoCard

/-- THE SECOND FORM's CARD OF 'arrayarchivelaw06.ArrayMoves'. -/
def arrayMovesUptoCard : Claim7 := { stood := { row := arrayMovesUptoRow, standIns := [], harness := (true, "24ac3678379c68286549ae9f25abe7189ccead2aac0d47bc981b5567f0f81dd9"), looks := true }, kinds := [], alts := [], laidByText := true, laidKinds := [.data, .data, .data, .sentinel, .sentinel], laidTests := true, laidLooks := .later }
def ArrayMovesUptoCardSaid : Prop := Claim7.holds Tryz.pinned (.plain (OpenSpec.upto arrayMovesSpec)) arrayMovesUptoCard

/-- THE SECOND FORM's CARD OF 'arrayarchivelaw06.ArrayTiles'. -/
def arrayTilesUptoCard : Claim7 := { stood := { row := arrayTilesUptoRow, standIns := [], harness := (true, "24ac3678379c68286549ae9f25abe7189ccead2aac0d47bc981b5567f0f81dd9"), looks := true }, kinds := [], alts := [], laidByText := true, laidKinds := [.data, .data, .data, .sentinel, .sentinel], laidTests := true, laidLooks := .later }
def ArrayTilesUptoCardSaid : Prop := Claim7.holds Tryz.pinned (.plain (OpenSpec.upto arrayTilesSpec)) arrayTilesUptoCard

/-- THE SECOND FORM's CARD OF 'arrayarchivelaw06.ArrayChunks'. -/
def arrayChunksUptoCard : Claim7 := { stood := { row := arrayChunksUptoRow, standIns := [], harness := (true, "24ac3678379c68286549ae9f25abe7189ccead2aac0d47bc981b5567f0f81dd9"), looks := true }, kinds := [], alts := [], laidByText := true, laidKinds := [.data, .data, .data, .sentinel, .sentinel], laidTests := true, laidLooks := .later }
def ArrayChunksUptoCardSaid : Prop := Claim7.holds Tryz.pinned (.plain (OpenSpec.upto arrayChunksSpec)) arrayChunksUptoCard

/-- THE SECOND FORM's CARD OF 'arrayarchivelaw06.ArrayReduced'. -/
def arrayReducedUptoCard : Claim7 := { stood := { row := arrayReducedUptoRow, standIns := [], harness := (true, "24ac3678379c68286549ae9f25abe7189ccead2aac0d47bc981b5567f0f81dd9"), looks := true }, kinds := [], alts := [], laidByText := true, laidKinds := [.data, .data, .data, .sentinel, .sentinel], laidTests := true, laidLooks := .later }
def ArrayReducedUptoCardSaid : Prop := Claim7.holds Tryz.pinned (.plain (OpenSpec.upto arrayReducedSpec)) arrayReducedUptoCard

/-- THE SECOND FORM's CARD OF 'arrayarchivelaw06.ArrayEaches'. -/
def arrayEachesUptoCard : Claim7 := { stood := { row := arrayEachesUptoRow, standIns := [], harness := (true, "24ac3678379c68286549ae9f25abe7189ccead2aac0d47bc981b5567f0f81dd9"), looks := true }, kinds := [], alts := [], laidByText := true, laidKinds := [.data, .data, .data, .sentinel, .sentinel], laidTests := true, laidLooks := .later }
def ArrayEachesUptoCardSaid : Prop := Claim7.holds Tryz.pinned (.plain (OpenSpec.upto arrayEachesSpec)) arrayEachesUptoCard

/-- THE SECOND FORM's CARD OF 'arrayarchivelaw06.ArrayWindows'. -/
def arrayWindowsUptoCard : Claim7 := { stood := { row := arrayWindowsUptoRow, standIns := [], harness := (true, "24ac3678379c68286549ae9f25abe7189ccead2aac0d47bc981b5567f0f81dd9"), looks := true }, kinds := [], alts := [], laidByText := true, laidKinds := [.data, .data, .data, .sentinel, .sentinel], laidTests := true, laidLooks := .later }
def ArrayWindowsUptoCardSaid : Prop := Claim7.holds Tryz.pinned (.plain (OpenSpec.upto arrayWindowsSpec)) arrayWindowsUptoCard

/-- THE SECOND FORM's CARD OF 'arrayarchivelaw06.ArrayReduces'. -/
def arrayReducesUptoCard : Claim7 := { stood := { row := arrayReducesUptoRow, standIns := [], harness := (true, "24ac3678379c68286549ae9f25abe7189ccead2aac0d47bc981b5567f0f81dd9"), looks := true }, kinds := [], alts := [], laidByText := true, laidKinds := [.data, .data, .data, .sentinel, .sentinel], laidTests := true, laidLooks := .later }
def ArrayReducesUptoCardSaid : Prop := Claim7.holds Tryz.pinned (.plain (OpenSpec.upto arrayReducesSpec)) arrayReducesUptoCard

/-- THE SECOND FORM's CARD OF 'arrayarchivelaw06.ArrayTotals'. -/
def arrayTotalsUptoCard : Claim7 := { stood := { row := arrayTotalsUptoRow, standIns := [], harness := (true, "24ac3678379c68286549ae9f25abe7189ccead2aac0d47bc981b5567f0f81dd9"), looks := true }, kinds := [], alts := [], laidByText := true, laidKinds := [.data, .data, .data, .sentinel, .sentinel], laidTests := true, laidLooks := .later }
def ArrayTotalsUptoCardSaid : Prop := Claim7.holds Tryz.pinned (.plain (OpenSpec.upto arrayTotalsSpec)) arrayTotalsUptoCard

/-- THE SECOND FORM's CARD OF 'arrayarchivelaw06.ArrayGroups'. -/
def arrayGroupsUptoCard : Claim7 := { stood := { row := arrayGroupsUptoRow, standIns := [], harness := (true, "24ac3678379c68286549ae9f25abe7189ccead2aac0d47bc981b5567f0f81dd9"), looks := true }, kinds := [], alts := [], laidByText := true, laidKinds := [.data, .data, .data, .sentinel, .sentinel], laidTests := true, laidLooks := .later }
def ArrayGroupsUptoCardSaid : Prop := Claim7.holds Tryz.pinned (.plain (OpenSpec.upto arrayGroupsSpec)) arrayGroupsUptoCard
end Rows
end Go.Proofs.YtgnffedncjjkfaaGreatDoor
