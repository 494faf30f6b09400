/-
  DERIVED. GIVEN WITH THE SEED: THE CARDS: each row of YtmoenbdooilceaaDoorRows.lean that lists a variable, with what it lists TIED to the program's text (the seventh form; the later family's looks); each row that meets fmt, with fmt's text TOLD by the authors' own Lean function (tested against real Go, not proved from fmt's source: count such statements apart). THE CARD IS WHAT COUNTS. Prove the row's statement (the work); the ties are given (YtmoenbdooilceaaDoorTie.lean); close each card by the builder's one call (the guide's Derived/Test/ToyasCard.lean, 'card_holds'). Laid BY PROGRAM, IN A SANDBOX (cutbox-door.mjs). By AI agents, Wed Nov 11 2026. No macro, syntax, notation, axiom, sorry.
-/
import Derived.Test.YtmoenbdooilceaaDoorRows
import GoSem.ClaimSeven
namespace Go.Proofs.YtmoenbdooilceaaDoor
namespace Rows

/-- THE TIED CARD OF 'arrayarchivelaw04.CodecSums'. -/
def codecSumsCard : Claim7 := { stood := { row := codecSumsRow, standIns := [], harness := (true, "62e51d0afabda23f58bb59fa6385714f8cf38133383fedc31385f54b99ea62fe"), looks := true }, kinds := [], alts := [], laidByText := true, laidKinds := [.data, .data, .data, .sentinel, .sentinel], laidTests := true, laidLooks := .later }
def CodecSumsCardSaid : Prop := Claim7.holds Tryd.pinned (.plain (OpenSpec.ofChange codecSumsSpec)) codecSumsCard

/-- THE TIED CARD OF 'arrayarchivelaw04.CodecUndicts'. -/
def codecUndictsCard : Claim7 := { stood := { row := codecUndictsRow, standIns := [], harness := (true, "62e51d0afabda23f58bb59fa6385714f8cf38133383fedc31385f54b99ea62fe"), looks := true }, kinds := [], alts := [], laidByText := true, laidKinds := [.data, .data, .data, .sentinel, .sentinel], laidTests := true, laidLooks := .later }
def CodecUndictsCardSaid : Prop := Claim7.holds Tryd.pinned (.plain (OpenSpec.ofChange codecUndictsSpec)) codecUndictsCard

/-- THE TIED CARD OF 'arrayarchivelaw04.CodecDeltas'. -/
def codecDeltasCard : Claim7 := { stood := { row := codecDeltasRow, standIns := [], harness := (true, "62e51d0afabda23f58bb59fa6385714f8cf38133383fedc31385f54b99ea62fe"), looks := true }, kinds := [], alts := [], laidByText := true, laidKinds := [.data, .data, .data, .sentinel, .sentinel], laidTests := true, laidLooks := .later }
def CodecDeltasCardSaid : Prop := Claim7.holds Tryd.pinned (.plain (OpenSpec.ofChange codecDeltasSpec)) codecDeltasCard

/-- THE TIED CARD OF 'arrayarchivelaw04.CodecShuffles'. -/
def codecShufflesCard : Claim7 := { stood := { row := codecShufflesRow, standIns := [], harness := (true, "62e51d0afabda23f58bb59fa6385714f8cf38133383fedc31385f54b99ea62fe"), looks := true }, kinds := [], alts := [], laidByText := true, laidKinds := [.data, .data, .data, .sentinel, .sentinel], laidTests := true, laidLooks := .later }
def CodecShufflesCardSaid : Prop := Claim7.holds Tryd.pinned (.plain (OpenSpec.ofChange codecShufflesSpec)) codecShufflesCard

/-- THE TIED CARD OF 'arrayarchivelaw04.CodecDicts'. -/
def codecDictsCard : Claim7 := { stood := { row := codecDictsRow, standIns := [], harness := (true, "62e51d0afabda23f58bb59fa6385714f8cf38133383fedc31385f54b99ea62fe"), looks := true }, kinds := [], alts := [], laidByText := true, laidKinds := [.data, .data, .data, .sentinel, .sentinel], laidTests := true, laidLooks := .later }
def CodecDictsCardSaid : Prop := Claim7.holds Tryd.pinned (.plain (OpenSpec.ofChange codecDictsSpec)) codecDictsCard

/-- THE TIED CARD OF 'arrayarchivelaw04.CodecPacks'. -/
def codecPacksCard : Claim7 := { stood := { row := codecPacksRow, standIns := [], harness := (true, "62e51d0afabda23f58bb59fa6385714f8cf38133383fedc31385f54b99ea62fe"), looks := true }, kinds := [], alts := [], laidByText := true, laidKinds := [.data, .data, .data, .sentinel, .sentinel], laidTests := true, laidLooks := .later }
def CodecPacksCardSaid : Prop := Claim7.holds Tryd.pinned (.plain (OpenSpec.ofChange codecPacksSpec)) codecPacksCard

/-- THE TIED CARD OF 'arrayarchivelaw04.CodecUnpacks'. -/
def codecUnpacksCard : Claim7 := { stood := { row := codecUnpacksRow, standIns := [], harness := (true, "62e51d0afabda23f58bb59fa6385714f8cf38133383fedc31385f54b99ea62fe"), looks := true }, kinds := [], alts := [], laidByText := true, laidKinds := [.data, .data, .data, .sentinel, .sentinel], laidTests := true, laidLooks := .later }
def CodecUnpacksCardSaid : Prop := Claim7.holds Tryd.pinned (.plain (OpenSpec.ofChange codecUnpacksSpec)) codecUnpacksCard

/-- THE SECOND FORM's CARD OF 'arrayarchivelaw04.CodecSums'. -/
def codecSumsUptoCard : Claim7 := { stood := { row := codecSumsUptoRow, standIns := [], harness := (true, "62e51d0afabda23f58bb59fa6385714f8cf38133383fedc31385f54b99ea62fe"), looks := true }, kinds := [], alts := [], laidByText := true, laidKinds := [.data, .data, .data, .sentinel, .sentinel], laidTests := true, laidLooks := .later }
def CodecSumsUptoCardSaid : Prop := Claim7.holds Tryd.pinned (.plain (OpenSpec.upto codecSumsSpec)) codecSumsUptoCard

/-- THE SECOND FORM's CARD OF 'arrayarchivelaw04.CodecUndicts'. -/
def codecUndictsUptoCard : Claim7 := { stood := { row := codecUndictsUptoRow, standIns := [], harness := (true, "62e51d0afabda23f58bb59fa6385714f8cf38133383fedc31385f54b99ea62fe"), looks := true }, kinds := [], alts := [], laidByText := true, laidKinds := [.data, .data, .data, .sentinel, .sentinel], laidTests := true, laidLooks := .later }
def CodecUndictsUptoCardSaid : Prop := Claim7.holds Tryd.pinned (.plain (OpenSpec.upto codecUndictsSpec)) codecUndictsUptoCard

/-- THE SECOND FORM's CARD OF 'arrayarchivelaw04.CodecDeltas'. -/
def codecDeltasUptoCard : Claim7 := { stood := { row := codecDeltasUptoRow, standIns := [], harness := (true, "62e51d0afabda23f58bb59fa6385714f8cf38133383fedc31385f54b99ea62fe"), looks := true }, kinds := [], alts := [], laidByText := true, laidKinds := [.data, .data, .data, .sentinel, .sentinel], laidTests := true, laidLooks := .later }
def CodecDeltasUptoCardSaid : Prop := Claim7.holds Tryd.pinned (.plain (OpenSpec.upto codecDeltasSpec)) codecDeltasUptoCard

/-- THE SECOND FORM's CARD OF 'arrayarchivelaw04.CodecShuffles'. -/
def codecShufflesUptoCard : Claim7 := { stood := { row := codecShufflesUptoRow, standIns := [], harness := (true, "62e51d0afabda23f58bb59fa6385714f8cf38133383fedc31385f54b99ea62fe"), looks := true }, kinds := [], alts := [], laidByText := true, laidKinds := [.data, .data, .data, .sentinel, .sentinel], laidTests := true, laidLooks := .later }
def CodecShufflesUptoCardSaid : Prop := Claim7.holds Tryd.pinned (.plain (OpenSpec.upto codecShufflesSpec)) codecShufflesUptoCard

/-- THE SECOND FORM's CARD OF 'arrayarchivelaw04.CodecDicts'. -/
def codecDictsUptoCard : Claim7 := { stood := { row := codecDictsUptoRow, standIns := [], harness := (true, "62e51d0afabda23f58bb59fa6385714f8cf38133383fedc31385f54b99ea62fe"), looks := true }, kinds := [], alts := [], laidByText := true, laidKinds := [.data, .data, .data, .sentinel, .sentinel], laidTests := true, laidLooks := .later }
def CodecDictsUptoCardSaid : Prop := Claim7.holds Tryd.pinned (.plain (OpenSpec.upto codecDictsSpec)) codecDictsUptoCard

/-- THE SECOND FORM's CARD OF 'arrayarchivelaw04.CodecPacks'. -/
def codecPacksUptoCard : Claim7 := { stood := { row := codecPacksUptoRow, standIns := [], harness := (true, "62e51d0afabda23f58bb59fa6385714f8cf38133383fedc31385f54b99ea62fe"), looks := true }, kinds := [], alts := [], laidByText := true, laidKinds := [.data, .data, .data, .sentinel, .sentinel], laidTests := true, laidLooks := .later }
def CodecPacksUptoCardSaid : Prop := Claim7.holds Tryd.pinned (.plain (OpenSpec.upto codecPacksSpec)) codecPacksUptoCard

/-- THE SECOND FORM's CARD OF 'arrayarchivelaw04.CodecUnpacks'. -/
def codecUnpacksUptoCard : Claim7 := { stood := { row := codecUnpacksUptoRow, standIns := [], harness := (true, "62e51d0afabda23f58bb59fa6385714f8cf38133383fedc31385f54b99ea62fe"), looks := true }, kinds := [], alts := [], laidByText := true, laidKinds := [.data, .data, .data, .sentinel, .sentinel], laidTests := true, laidLooks := .later }
def CodecUnpacksUptoCardSaid : Prop := Claim7.holds Tryd.pinned (.plain (OpenSpec.upto codecUnpacksSpec)) codecUnpacksUptoCard
end Rows
end Go.Proofs.YtmoenbdooilceaaDoor
