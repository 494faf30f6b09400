/-
  NARROWER THAN 'FOR EVERY INPUT', by the rows' own cells (each row's printed sentence says how): ArraySlabs: laid · ArrayResizes: laid · ArrayValid: laid · ArrayMoves: laid · ArrayTiles: laid · ArrayChunks: laid · ArrayReduced: laid · ArrayEaches: laid · ArrayWindows: laid · ArrayReduces: laid · ArrayTotals: laid · ArrayGroups: laid.
  DERIVED. THE GIVEN ROWS OF THIS SEAT. 12 by the template 'for every input the law returns true; each argument reads behind the call as it read before'; 0 by the template 'total and deterministic' (their statements: YtgnffedncjjkfaaGreatDoorTotals.lean).
  GIVEN WITH THE SEED: the statements are not yours to turn. If you find one false, say at which input.
  Laid BY PROGRAM, IN A SANDBOX (cutbox-rows.mjs): the forced cells as the released guide's own fill.sh prints them over the translation d4666d2efda34502… (all of the seat's roots in one cut). By AI agents, Wed Nov 11 2026. No macro, syntax, notation, axiom, sorry.
-/
import Derived.Test.YtgnffedncjjkfaaGreatDoorChecked
import GoSem.Claim
import GoSem.ClaimJoined
import GoSem.ClaimMapViews
import Derived.JoinedTies
import Derived.KernelRfl
namespace Go.Proofs.YtgnffedncjjkfaaGreatDoor
/- THE CELL 'sum', in the pinned program and in every row, IS THE sha256 OF THE DUMP (.gsa) THAT YtgnffedncjjkfaaGreatDoorProg.lean LOADS. Nothing in Lean hashes anything: it is a label: what it is worth is what the hold of that sum in a sandbox is worth. -/
noncomputable def Tryz.pinned : Pinned := { name := "ytgnffedncjjkfaagreatdoor", sum := "d4666d2efda345021fd84c13f23adf5aee2838288bae0326c5f74fed4c954590", checked := Tryz.checked }
namespace Rows
def none {H : Type} : Left H := { results := [], args := [] }

/- WHAT THE LISTED PACKAGE-LEVEL VARIABLES READ AS WHEN THE CALL BEGINS. Each datum BY PROGRAM (the guide's laid-datum.mjs) off the statement by which the dump's own 'gosem.cut.vars' lays the variable. In a bare row this is a premise. The card (YtgnffedncjjkfaaGreatDoorCards.lean) ties it to the program's text. -/
def laid_math_bits_deBruijn32tab {H : Type} : DataW H := .agg [.lit (.int .u8 0), .lit (.int .u8 1), .lit (.int .u8 28), .lit (.int .u8 2), .lit (.int .u8 29), .lit (.int .u8 14), .lit (.int .u8 24), .lit (.int .u8 3), .lit (.int .u8 30), .lit (.int .u8 22), .lit (.int .u8 20), .lit (.int .u8 15), .lit (.int .u8 25), .lit (.int .u8 17), .lit (.int .u8 4), .lit (.int .u8 8), .lit (.int .u8 31), .lit (.int .u8 27), .lit (.int .u8 13), .lit (.int .u8 23), .lit (.int .u8 21), .lit (.int .u8 19), .lit (.int .u8 16), .lit (.int .u8 7), .lit (.int .u8 26), .lit (.int .u8 12), .lit (.int .u8 18), .lit (.int .u8 6), .lit (.int .u8 11), .lit (.int .u8 5), .lit (.int .u8 10), .lit (.int .u8 9)]
def laid_math_bits_deBruijn64tab {H : Type} : DataW H := .agg [.lit (.int .u8 0), .lit (.int .u8 1), .lit (.int .u8 56), .lit (.int .u8 2), .lit (.int .u8 57), .lit (.int .u8 49), .lit (.int .u8 28), .lit (.int .u8 3), .lit (.int .u8 61), .lit (.int .u8 58), .lit (.int .u8 42), .lit (.int .u8 50), .lit (.int .u8 38), .lit (.int .u8 29), .lit (.int .u8 17), .lit (.int .u8 4), .lit (.int .u8 62), .lit (.int .u8 47), .lit (.int .u8 59), .lit (.int .u8 36), .lit (.int .u8 45), .lit (.int .u8 43), .lit (.int .u8 51), .lit (.int .u8 22), .lit (.int .u8 53), .lit (.int .u8 39), .lit (.int .u8 33), .lit (.int .u8 30), .lit (.int .u8 24), .lit (.int .u8 18), .lit (.int .u8 12), .lit (.int .u8 5), .lit (.int .u8 63), .lit (.int .u8 55), .lit (.int .u8 48), .lit (.int .u8 27), .lit (.int .u8 60), .lit (.int .u8 41), .lit (.int .u8 37), .lit (.int .u8 16), .lit (.int .u8 46), .lit (.int .u8 35), .lit (.int .u8 44), .lit (.int .u8 21), .lit (.int .u8 52), .lit (.int .u8 32), .lit (.int .u8 23), .lit (.int .u8 11), .lit (.int .u8 54), .lit (.int .u8 26), .lit (.int .u8 40), .lit (.int .u8 15), .lit (.int .u8 34), .lit (.int .u8 20), .lit (.int .u8 31), .lit (.int .u8 10), .lit (.int .u8 25), .lit (.int .u8 14), .lit (.int .u8 19), .lit (.int .u8 9), .lit (.int .u8 13), .lit (.int .u8 8), .lit (.int .u8 7), .lit (.int .u8 6)]
def laid_internal_strconv_uint64pow10 {H : Type} : DataW H := .agg [.lit (.int .u64 1), .lit (.int .u64 10), .lit (.int .u64 100), .lit (.int .u64 1000), .lit (.int .u64 10000), .lit (.int .u64 100000), .lit (.int .u64 1000000), .lit (.int .u64 10000000), .lit (.int .u64 100000000), .lit (.int .u64 1000000000), .lit (.int .u64 10000000000), .lit (.int .u64 100000000000), .lit (.int .u64 1000000000000), .lit (.int .u64 10000000000000), .lit (.int .u64 100000000000000), .lit (.int .u64 1000000000000000), .lit (.int .u64 10000000000000000), .lit (.int .u64 100000000000000000), .lit (.int .u64 1000000000000000000), .lit (.int .u64 10000000000000000000)]
def laid_strconv_ErrRange {H : Type} : DataW H := .iface "*errors.errorString" (.ptr (.agg [.lit (.string [118, 97, 108, 117, 101, 32, 111, 117, 116, 32, 111, 102, 32, 114, 97, 110, 103, 101])]))
def laid_strconv_ErrSyntax {H : Type} : DataW H := .iface "*errors.errorString" (.ptr (.agg [.lit (.string [105, 110, 118, 97, 108, 105, 100, 32, 115, 121, 110, 116, 97, 120])]))

/-- 'arrayarchivelaw06.ArraySlabs': WHATEVER THE INPUT: true; the input reads as it did. -/
def arraySlabsSpec : ChangeSpec := { name := "arraySlabs", fn := fun _ => fun
  | [d] => { results := [.lit (.bool true)], args := [d] }
  | _ => none }
def arraySlabsRow : OpenClaim := { program := "ytgnffedncjjkfaagreatdoor", sum := "d4666d2efda345021fd84c13f23adf5aee2838288bae0326c5f74fed4c954590", func := "arrayarchive/arrayarchivelaw06.ArraySlabs", spec := "arraySlabs", inPlace := ["internal/bytealg.IndexByteString", "internal/bytealg.IndexString"], unfollowed := true, recurses := true, named := ["internal/bytealg.MaxLen", "strconv.ErrSyntax", "strconv.ErrRange", "internal/strconv.uint64pow10", "math/bits.deBruijn32tab", "math/bits.deBruijn64tab"], apart := false, laid := [("math/bits.deBruijn32tab", laid_math_bits_deBruijn32tab), ("math/bits.deBruijn64tab", laid_math_bits_deBruijn64tab), ("internal/strconv.uint64pow10", laid_internal_strconv_uint64pow10), ("strconv.ErrRange", laid_strconv_ErrRange), ("strconv.ErrSyntax", laid_strconv_ErrSyntax)] }
def ArraySlabsSaid : Prop := arraySlabsRow.holds Tryz.pinned (OpenSpec.ofChange arraySlabsSpec)

/-- ITS FALSE NEIGHBOUR: 'it returns false'. Refute it at one input. -/
def arraySlabsWrong : ChangeSpec := { name := "arraySlabs", fn := fun _ => fun
  | [d] => { results := [.lit (.bool false)], args := [d] }
  | _ => none }
def ArraySlabsWrongFalsely : Prop := arraySlabsRow.holds Tryz.pinned (OpenSpec.ofChange arraySlabsWrong)

/-- 'arrayarchivelaw06.ArrayResizes': WHATEVER THE INPUT: true; the input reads as it did. -/
def arrayResizesSpec : ChangeSpec := { name := "arrayResizes", fn := fun _ => fun
  | [d1, d2, d3] => { results := [.lit (.bool true)], args := [d1, d2, d3] }
  | _ => none }
def arrayResizesRow : OpenClaim := { program := "ytgnffedncjjkfaagreatdoor", sum := "d4666d2efda345021fd84c13f23adf5aee2838288bae0326c5f74fed4c954590", func := "arrayarchive/arrayarchivelaw06.ArrayResizes", spec := "arrayResizes", inPlace := ["internal/bytealg.IndexByteString", "internal/bytealg.IndexString"], unfollowed := true, recurses := true, named := ["internal/bytealg.MaxLen", "strconv.ErrSyntax", "strconv.ErrRange", "internal/strconv.uint64pow10", "math/bits.deBruijn32tab", "math/bits.deBruijn64tab"], apart := false, laid := [("math/bits.deBruijn32tab", laid_math_bits_deBruijn32tab), ("math/bits.deBruijn64tab", laid_math_bits_deBruijn64tab), ("internal/strconv.uint64pow10", laid_internal_strconv_uint64pow10), ("strconv.ErrRange", laid_strconv_ErrRange), ("strconv.ErrSyntax", laid_strconv_ErrSyntax)] }
def ArrayResizesSaid : Prop := arrayResizesRow.holds Tryz.pinned (OpenSpec.ofChange arrayResizesSpec)

/-- ITS FALSE NEIGHBOUR: 'it returns false'. Refute it at one input. -/
def arrayResizesWrong : ChangeSpec := { name := "arrayResizes", fn := fun _ => fun
  | [d1, d2, d3] => { results := [.lit (.bool false)], args := [d1, d2, d3] }
  | _ => none }
def ArrayResizesWrongFalsely : Prop := arrayResizesRow.holds Tryz.pinned (OpenSpec.ofChange arrayResizesWrong)

/-- 'arrayarchivelaw06.ArrayValid': WHATEVER THE INPUT: true; the input reads as it did. -/
def arrayValidSpec : ChangeSpec := { name := "arrayValid", fn := fun _ => fun
  | [d1, d2, d3] => { results := [.lit (.bool true)], args := [d1, d2, d3] }
  | _ => none }
def arrayValidRow : OpenClaim := { program := "ytgnffedncjjkfaagreatdoor", sum := "d4666d2efda345021fd84c13f23adf5aee2838288bae0326c5f74fed4c954590", func := "arrayarchive/arrayarchivelaw06.ArrayValid", spec := "arrayValid", inPlace := ["internal/bytealg.IndexByteString", "internal/bytealg.IndexString"], unfollowed := true, recurses := true, named := ["internal/bytealg.MaxLen", "strconv.ErrSyntax", "strconv.ErrRange", "internal/strconv.uint64pow10", "math/bits.deBruijn32tab", "math/bits.deBruijn64tab"], apart := false, laid := [("math/bits.deBruijn32tab", laid_math_bits_deBruijn32tab), ("math/bits.deBruijn64tab", laid_math_bits_deBruijn64tab), ("internal/strconv.uint64pow10", laid_internal_strconv_uint64pow10), ("strconv.ErrRange", laid_strconv_ErrRange), ("strconv.ErrSyntax", laid_strconv_ErrSyntax)] }
def ArrayValidSaid : Prop := arrayValidRow.holds Tryz.pinned (OpenSpec.ofChange arrayValidSpec)

/-- ITS FALSE NEIGHBOUR: 'it returns false'. Refute it at one input. -/
def arrayValidWrong : ChangeSpec := { name := "arrayValid", fn := fun _ => fun
  | [d1, d2, d3] => { results := [.lit (.bool false)], args := [d1, d2, d3] }
  | _ => none }
def ArrayValidWrongFalsely : Prop := arrayValidRow.holds Tryz.pinned (OpenSpec.ofChange arrayValidWrong)

/-- 'arrayarchivelaw06.ArrayMoves': WHATEVER THE INPUT: true; the input reads as it did. -/
def arrayMovesSpec : ChangeSpec := { name := "arrayMoves", fn := fun _ => fun
  | [d1, d2, d3] => { results := [.lit (.bool true)], args := [d1, d2, d3] }
  | _ => none }
def arrayMovesRow : OpenClaim := { program := "ytgnffedncjjkfaagreatdoor", sum := "d4666d2efda345021fd84c13f23adf5aee2838288bae0326c5f74fed4c954590", func := "arrayarchive/arrayarchivelaw06.ArrayMoves", spec := "arrayMoves", inPlace := ["internal/bytealg.IndexByteString", "internal/bytealg.IndexString"], unfollowed := true, recurses := true, named := ["internal/bytealg.MaxLen", "strconv.ErrSyntax", "strconv.ErrRange", "internal/strconv.uint64pow10", "math/bits.deBruijn32tab", "math/bits.deBruijn64tab"], apart := false, laid := [("math/bits.deBruijn32tab", laid_math_bits_deBruijn32tab), ("math/bits.deBruijn64tab", laid_math_bits_deBruijn64tab), ("internal/strconv.uint64pow10", laid_internal_strconv_uint64pow10), ("strconv.ErrRange", laid_strconv_ErrRange), ("strconv.ErrSyntax", laid_strconv_ErrSyntax)] }
def ArrayMovesSaid : Prop := arrayMovesRow.holds Tryz.pinned (OpenSpec.ofChange arrayMovesSpec)

/-- ITS FALSE NEIGHBOUR: 'it returns false'. Refute it at one input. -/
def arrayMovesWrong : ChangeSpec := { name := "arrayMoves", fn := fun _ => fun
  | [d1, d2, d3] => { results := [.lit (.bool false)], args := [d1, d2, d3] }
  | _ => none }
def ArrayMovesWrongFalsely : Prop := arrayMovesRow.holds Tryz.pinned (OpenSpec.ofChange arrayMovesWrong)

/-- 'arrayarchivelaw06.ArrayTiles': WHATEVER THE INPUT: true; the input reads as it did. -/
def arrayTilesSpec : ChangeSpec := { name := "arrayTiles", fn := fun _ => fun
  | [d1, d2] => { results := [.lit (.bool true)], args := [d1, d2] }
  | _ => none }
def arrayTilesRow : OpenClaim := { program := "ytgnffedncjjkfaagreatdoor", sum := "d4666d2efda345021fd84c13f23adf5aee2838288bae0326c5f74fed4c954590", func := "arrayarchive/arrayarchivelaw06.ArrayTiles", spec := "arrayTiles", inPlace := ["internal/bytealg.IndexByteString", "internal/bytealg.IndexString"], unfollowed := true, recurses := true, named := ["internal/bytealg.MaxLen", "strconv.ErrSyntax", "strconv.ErrRange", "internal/strconv.uint64pow10", "math/bits.deBruijn32tab", "math/bits.deBruijn64tab"], apart := false, laid := [("math/bits.deBruijn32tab", laid_math_bits_deBruijn32tab), ("math/bits.deBruijn64tab", laid_math_bits_deBruijn64tab), ("internal/strconv.uint64pow10", laid_internal_strconv_uint64pow10), ("strconv.ErrRange", laid_strconv_ErrRange), ("strconv.ErrSyntax", laid_strconv_ErrSyntax)] }
def ArrayTilesSaid : Prop := arrayTilesRow.holds Tryz.pinned (OpenSpec.ofChange arrayTilesSpec)

/-- ITS FALSE NEIGHBOUR: 'it returns false'. Refute it at one input. -/
def arrayTilesWrong : ChangeSpec := { name := "arrayTiles", fn := fun _ => fun
  | [d1, d2] => { results := [.lit (.bool false)], args := [d1, d2] }
  | _ => none }
def ArrayTilesWrongFalsely : Prop := arrayTilesRow.holds Tryz.pinned (OpenSpec.ofChange arrayTilesWrong)

/-- 'arrayarchivelaw06.ArrayChunks': WHATEVER THE INPUT: true; the input reads as it did. -/
def arrayChunksSpec : ChangeSpec := { name := "arrayChunks", fn := fun _ => fun
  | [d] => { results := [.lit (.bool true)], args := [d] }
  | _ => none }
def arrayChunksRow : OpenClaim := { program := "ytgnffedncjjkfaagreatdoor", sum := "d4666d2efda345021fd84c13f23adf5aee2838288bae0326c5f74fed4c954590", func := "arrayarchive/arrayarchivelaw06.ArrayChunks", spec := "arrayChunks", inPlace := ["internal/bytealg.IndexByteString", "internal/bytealg.IndexString"], unfollowed := true, recurses := true, named := ["internal/bytealg.MaxLen", "strconv.ErrSyntax", "strconv.ErrRange", "internal/strconv.uint64pow10", "math/bits.deBruijn32tab", "math/bits.deBruijn64tab"], apart := false, laid := [("math/bits.deBruijn32tab", laid_math_bits_deBruijn32tab), ("math/bits.deBruijn64tab", laid_math_bits_deBruijn64tab), ("internal/strconv.uint64pow10", laid_internal_strconv_uint64pow10), ("strconv.ErrRange", laid_strconv_ErrRange), ("strconv.ErrSyntax", laid_strconv_ErrSyntax)] }
def ArrayChunksSaid : Prop := arrayChunksRow.holds Tryz.pinned (OpenSpec.ofChange arrayChunksSpec)

/-- ITS FALSE NEIGHBOUR: 'it returns false'. Refute it at one input. -/
def arrayChunksWrong : ChangeSpec := { name := "arrayChunks", fn := fun _ => fun
  | [d] => { results := [.lit (.bool false)], args := [d] }
  | _ => none }
def ArrayChunksWrongFalsely : Prop := arrayChunksRow.holds Tryz.pinned (OpenSpec.ofChange arrayChunksWrong)

/-- 'arrayarchivelaw06.ArrayReduced': WHATEVER THE INPUT: true; the input reads as it did. -/
def arrayReducedSpec : ChangeSpec := { name := "arrayReduced", fn := fun _ => fun
  | [d1, d2] => { results := [.lit (.bool true)], args := [d1, d2] }
  | _ => none }
def arrayReducedRow : OpenClaim := { program := "ytgnffedncjjkfaagreatdoor", sum := "d4666d2efda345021fd84c13f23adf5aee2838288bae0326c5f74fed4c954590", func := "arrayarchive/arrayarchivelaw06.ArrayReduced", spec := "arrayReduced", inPlace := ["internal/bytealg.IndexByteString", "internal/bytealg.IndexString", "internal/abi.NoEscape"], unfollowed := true, recurses := true, named := ["internal/bytealg.MaxLen", "strconv.ErrSyntax", "strconv.ErrRange", "internal/strconv.uint64pow10", "math/bits.deBruijn32tab", "math/bits.deBruijn64tab"], apart := false, laid := [("math/bits.deBruijn32tab", laid_math_bits_deBruijn32tab), ("math/bits.deBruijn64tab", laid_math_bits_deBruijn64tab), ("internal/strconv.uint64pow10", laid_internal_strconv_uint64pow10), ("strconv.ErrRange", laid_strconv_ErrRange), ("strconv.ErrSyntax", laid_strconv_ErrSyntax)] }
def ArrayReducedSaid : Prop := arrayReducedRow.holds Tryz.pinned (OpenSpec.ofChange arrayReducedSpec)

/-- ITS FALSE NEIGHBOUR: 'it returns false'. Refute it at one input. -/
def arrayReducedWrong : ChangeSpec := { name := "arrayReduced", fn := fun _ => fun
  | [d1, d2] => { results := [.lit (.bool false)], args := [d1, d2] }
  | _ => none }
def ArrayReducedWrongFalsely : Prop := arrayReducedRow.holds Tryz.pinned (OpenSpec.ofChange arrayReducedWrong)

/-- 'arrayarchivelaw06.ArrayEaches': WHATEVER THE INPUT: true; the input reads as it did. -/
def arrayEachesSpec : ChangeSpec := { name := "arrayEaches", fn := fun _ => fun
  | [d1, d2, d3] => { results := [.lit (.bool true)], args := [d1, d2, d3] }
  | _ => none }
def arrayEachesRow : OpenClaim := { program := "ytgnffedncjjkfaagreatdoor", sum := "d4666d2efda345021fd84c13f23adf5aee2838288bae0326c5f74fed4c954590", func := "arrayarchive/arrayarchivelaw06.ArrayEaches", spec := "arrayEaches", inPlace := ["internal/bytealg.IndexByteString", "internal/bytealg.IndexString", "internal/abi.NoEscape"], unfollowed := true, recurses := true, named := ["internal/bytealg.MaxLen", "strconv.ErrSyntax", "strconv.ErrRange", "internal/strconv.uint64pow10", "math/bits.deBruijn32tab", "math/bits.deBruijn64tab"], apart := false, laid := [("math/bits.deBruijn32tab", laid_math_bits_deBruijn32tab), ("math/bits.deBruijn64tab", laid_math_bits_deBruijn64tab), ("internal/strconv.uint64pow10", laid_internal_strconv_uint64pow10), ("strconv.ErrRange", laid_strconv_ErrRange), ("strconv.ErrSyntax", laid_strconv_ErrSyntax)] }
def ArrayEachesSaid : Prop := arrayEachesRow.holds Tryz.pinned (OpenSpec.ofChange arrayEachesSpec)

/-- ITS FALSE NEIGHBOUR: 'it returns false'. Refute it at one input. -/
def arrayEachesWrong : ChangeSpec := { name := "arrayEaches", fn := fun _ => fun
  | [d1, d2, d3] => { results := [.lit (.bool false)], args := [d1, d2, d3] }
  | _ => none }
def ArrayEachesWrongFalsely : Prop := arrayEachesRow.holds Tryz.pinned (OpenSpec.ofChange arrayEachesWrong)

/-- 'arrayarchivelaw06.ArrayWindows': WHATEVER THE INPUT: true; the input reads as it did. -/
def arrayWindowsSpec : ChangeSpec := { name := "arrayWindows", fn := fun _ => fun
  | [d] => { results := [.lit (.bool true)], args := [d] }
  | _ => none }
def arrayWindowsRow : OpenClaim := { program := "ytgnffedncjjkfaagreatdoor", sum := "d4666d2efda345021fd84c13f23adf5aee2838288bae0326c5f74fed4c954590", func := "arrayarchive/arrayarchivelaw06.ArrayWindows", spec := "arrayWindows", inPlace := ["internal/bytealg.IndexByteString", "internal/bytealg.IndexString", "internal/abi.NoEscape"], unfollowed := true, recurses := true, named := ["internal/bytealg.MaxLen", "strconv.ErrSyntax", "strconv.ErrRange", "internal/strconv.uint64pow10", "math/bits.deBruijn32tab", "math/bits.deBruijn64tab"], apart := false, laid := [("math/bits.deBruijn32tab", laid_math_bits_deBruijn32tab), ("math/bits.deBruijn64tab", laid_math_bits_deBruijn64tab), ("internal/strconv.uint64pow10", laid_internal_strconv_uint64pow10), ("strconv.ErrRange", laid_strconv_ErrRange), ("strconv.ErrSyntax", laid_strconv_ErrSyntax)] }
def ArrayWindowsSaid : Prop := arrayWindowsRow.holds Tryz.pinned (OpenSpec.ofChange arrayWindowsSpec)

/-- ITS FALSE NEIGHBOUR: 'it returns false'. Refute it at one input. -/
def arrayWindowsWrong : ChangeSpec := { name := "arrayWindows", fn := fun _ => fun
  | [d] => { results := [.lit (.bool false)], args := [d] }
  | _ => none }
def ArrayWindowsWrongFalsely : Prop := arrayWindowsRow.holds Tryz.pinned (OpenSpec.ofChange arrayWindowsWrong)

/-- 'arrayarchivelaw06.ArrayReduces': WHATEVER THE INPUT: true; the input reads as it did. -/
def arrayReducesSpec : ChangeSpec := { name := "arrayReduces", fn := fun _ => fun
  | [d1, d2, d3] => { results := [.lit (.bool true)], args := [d1, d2, d3] }
  | _ => none }
def arrayReducesRow : OpenClaim := { program := "ytgnffedncjjkfaagreatdoor", sum := "d4666d2efda345021fd84c13f23adf5aee2838288bae0326c5f74fed4c954590", func := "arrayarchive/arrayarchivelaw06.ArrayReduces", spec := "arrayReduces", inPlace := ["internal/bytealg.IndexByteString", "internal/bytealg.IndexString", "internal/abi.NoEscape"], unfollowed := true, recurses := true, named := ["internal/bytealg.MaxLen", "strconv.ErrSyntax", "strconv.ErrRange", "internal/strconv.uint64pow10", "math/bits.deBruijn32tab", "math/bits.deBruijn64tab"], apart := false, laid := [("math/bits.deBruijn32tab", laid_math_bits_deBruijn32tab), ("math/bits.deBruijn64tab", laid_math_bits_deBruijn64tab), ("internal/strconv.uint64pow10", laid_internal_strconv_uint64pow10), ("strconv.ErrRange", laid_strconv_ErrRange), ("strconv.ErrSyntax", laid_strconv_ErrSyntax)] }
def ArrayReducesSaid : Prop := arrayReducesRow.holds Tryz.pinned (OpenSpec.ofChange arrayReducesSpec)

/-- ITS FALSE NEIGHBOUR: 'it returns false'. Refute it at one input. -/
def arrayReducesWrong : ChangeSpec := { name := "arrayReduces", fn := fun _ => fun
  | [d1, d2, d3] => { results := [.lit (.bool false)], args := [d1, d2, d3] }
  | _ => none }
def ArrayReducesWrongFalsely : Prop := arrayReducesRow.holds Tryz.pinned (OpenSpec.ofChange arrayReducesWrong)

/-- 'arrayarchivelaw06.ArrayTotals': WHATEVER THE INPUT: true; the input reads as it did. -/
def arrayTotalsSpec : ChangeSpec := { name := "arrayTotals", fn := fun _ => fun
  | [d1, d2, d3] => { results := [.lit (.bool true)], args := [d1, d2, d3] }
  | _ => none }
def arrayTotalsRow : OpenClaim := { program := "ytgnffedncjjkfaagreatdoor", sum := "d4666d2efda345021fd84c13f23adf5aee2838288bae0326c5f74fed4c954590", func := "arrayarchive/arrayarchivelaw06.ArrayTotals", spec := "arrayTotals", inPlace := ["internal/bytealg.IndexByteString", "internal/bytealg.IndexString", "internal/abi.NoEscape"], unfollowed := true, recurses := true, named := ["internal/bytealg.MaxLen", "strconv.ErrSyntax", "strconv.ErrRange", "internal/strconv.uint64pow10", "math/bits.deBruijn32tab", "math/bits.deBruijn64tab"], apart := false, laid := [("math/bits.deBruijn32tab", laid_math_bits_deBruijn32tab), ("math/bits.deBruijn64tab", laid_math_bits_deBruijn64tab), ("internal/strconv.uint64pow10", laid_internal_strconv_uint64pow10), ("strconv.ErrRange", laid_strconv_ErrRange), ("strconv.ErrSyntax", laid_strconv_ErrSyntax)] }
def ArrayTotalsSaid : Prop := arrayTotalsRow.holds Tryz.pinned (OpenSpec.ofChange arrayTotalsSpec)

/-- ITS FALSE NEIGHBOUR: 'it returns false'. Refute it at one input. -/
def arrayTotalsWrong : ChangeSpec := { name := "arrayTotals", fn := fun _ => fun
  | [d1, d2, d3] => { results := [.lit (.bool false)], args := [d1, d2, d3] }
  | _ => none }
def ArrayTotalsWrongFalsely : Prop := arrayTotalsRow.holds Tryz.pinned (OpenSpec.ofChange arrayTotalsWrong)

/-- 'arrayarchivelaw06.ArrayGroups': WHATEVER THE INPUT: true; the input reads as it did. -/
def arrayGroupsSpec : ChangeSpec := { name := "arrayGroups", fn := fun _ => fun
  | [d] => { results := [.lit (.bool true)], args := [d] }
  | _ => none }
def arrayGroupsRow : OpenClaim := { program := "ytgnffedncjjkfaagreatdoor", sum := "d4666d2efda345021fd84c13f23adf5aee2838288bae0326c5f74fed4c954590", func := "arrayarchive/arrayarchivelaw06.ArrayGroups", spec := "arrayGroups", inPlace := ["internal/bytealg.IndexByteString", "internal/bytealg.IndexString", "internal/abi.NoEscape"], unfollowed := true, recurses := true, named := ["internal/bytealg.MaxLen", "strconv.ErrSyntax", "strconv.ErrRange", "internal/strconv.uint64pow10", "math/bits.deBruijn32tab", "math/bits.deBruijn64tab"], apart := false, laid := [("math/bits.deBruijn32tab", laid_math_bits_deBruijn32tab), ("math/bits.deBruijn64tab", laid_math_bits_deBruijn64tab), ("internal/strconv.uint64pow10", laid_internal_strconv_uint64pow10), ("strconv.ErrRange", laid_strconv_ErrRange), ("strconv.ErrSyntax", laid_strconv_ErrSyntax)] }
def ArrayGroupsSaid : Prop := arrayGroupsRow.holds Tryz.pinned (OpenSpec.ofChange arrayGroupsSpec)

/-- ITS FALSE NEIGHBOUR: 'it returns false'. Refute it at one input. -/
def arrayGroupsWrong : ChangeSpec := { name := "arrayGroups", fn := fun _ => fun
  | [d] => { results := [.lit (.bool false)], args := [d] }
  | _ => none }
def ArrayGroupsWrongFalsely : Prop := arrayGroupsRow.holds Tryz.pinned (OpenSpec.ofChange arrayGroupsWrong)

/- THE SECOND FORM. 'bulk': how many values and letters a reading holds, each counted each time it is reached (what is shared counts as often as it is met; a slice's spare places count too). A statement '..UptoSaid' is the law's where the arguments, and the package variables that the reading takes, are together of bulk at most 1048576: NARROWER than '..Said'. Prove '..Said' where nothing that the law and all that it calls make is longer than what came in: it says more and counts as full. Else prove '..UptoSaid'. A law counts once. -/
mutual
def uptoBulk {H : Type} : DataW H → Nat
  | .lit (.string bytes) => bytes.length + 1
  | .lit _ => 1
  | .nil => 1
  | .ptr d => uptoBulk d + 1
  | .slice elems spare => uptoBulkAll elems + uptoBulkAll spare + 1
  | .agg parts => uptoBulkAll parts + 1
  | .iface _ d => uptoBulk d + 1
  | .map entries => uptoBulkEntries entries + 1
  | .held _ => 1
def uptoBulkAll {H : Type} : List (DataW H) → Nat
  | [] => 0
  | d :: r => uptoBulk d + uptoBulkAll r
def uptoBulkEntries {H : Type} : List (Lit × DataW H) → Nat
  | [] => 0
  | x :: r => uptoBulkEntry x + uptoBulkEntries r
def uptoBulkEntry {H : Type} : Lit × DataW H → Nat
  | (.string bytes, d) => bytes.length + uptoBulk d + 1
  | (_, d) => uptoBulk d + 1
 end
def uptoSmall : (H : Type) → List (DataW H) → Bool := fun _ ds => decide (uptoBulkAll ds ≤ 1048576)
def OpenSpec.upto (s : _root_.Go.ChangeSpec) : _root_.Go.OpenSpec := { _root_.Go.OpenSpec.ofChange s with cond := some uptoSmall }

/-- 'arrayarchivelaw06.ArraySlabs', WHERE WHAT IT READS IS OF BULK AT MOST 1048576: true; the input reads as it did. -/
def arraySlabsUptoRow : OpenClaim := { program := "ytgnffedncjjkfaagreatdoor", sum := "d4666d2efda345021fd84c13f23adf5aee2838288bae0326c5f74fed4c954590", func := "arrayarchive/arrayarchivelaw06.ArraySlabs", spec := "arraySlabs", inPlace := ["internal/bytealg.IndexByteString", "internal/bytealg.IndexString"], unfollowed := true, recurses := true, named := ["internal/bytealg.MaxLen", "strconv.ErrSyntax", "strconv.ErrRange", "internal/strconv.uint64pow10", "math/bits.deBruijn32tab", "math/bits.deBruijn64tab"], apart := false, laid := [("math/bits.deBruijn32tab", laid_math_bits_deBruijn32tab), ("math/bits.deBruijn64tab", laid_math_bits_deBruijn64tab), ("internal/strconv.uint64pow10", laid_internal_strconv_uint64pow10), ("strconv.ErrRange", laid_strconv_ErrRange), ("strconv.ErrSyntax", laid_strconv_ErrSyntax)], narrowed := true }
def ArraySlabsUptoSaid : Prop := arraySlabsUptoRow.holds Tryz.pinned (OpenSpec.upto arraySlabsSpec)

/-- 'arrayarchivelaw06.ArrayResizes', WHERE WHAT IT READS IS OF BULK AT MOST 1048576: true; the input reads as it did. -/
def arrayResizesUptoRow : OpenClaim := { program := "ytgnffedncjjkfaagreatdoor", sum := "d4666d2efda345021fd84c13f23adf5aee2838288bae0326c5f74fed4c954590", func := "arrayarchive/arrayarchivelaw06.ArrayResizes", spec := "arrayResizes", inPlace := ["internal/bytealg.IndexByteString", "internal/bytealg.IndexString"], unfollowed := true, recurses := true, named := ["internal/bytealg.MaxLen", "strconv.ErrSyntax", "strconv.ErrRange", "internal/strconv.uint64pow10", "math/bits.deBruijn32tab", "math/bits.deBruijn64tab"], apart := false, laid := [("math/bits.deBruijn32tab", laid_math_bits_deBruijn32tab), ("math/bits.deBruijn64tab", laid_math_bits_deBruijn64tab), ("internal/strconv.uint64pow10", laid_internal_strconv_uint64pow10), ("strconv.ErrRange", laid_strconv_ErrRange), ("strconv.ErrSyntax", laid_strconv_ErrSyntax)], narrowed := true }
def ArrayResizesUptoSaid : Prop := arrayResizesUptoRow.holds Tryz.pinned (OpenSpec.upto arrayResizesSpec)

/-- 'arrayarchivelaw06.ArrayValid', WHERE WHAT IT READS IS OF BULK AT MOST 1048576: true; the input reads as it did. -/
def arrayValidUptoRow : OpenClaim := { program := "ytgnffedncjjkfaagreatdoor", sum := "d4666d2efda345021fd84c13f23adf5aee2838288bae0326c5f74fed4c954590", func := "arrayarchive/arrayarchivelaw06.ArrayValid", spec := "arrayValid", inPlace := ["internal/bytealg.IndexByteString", "internal/bytealg.IndexString"], unfollowed := true, recurses := true, named := ["internal/bytealg.MaxLen", "strconv.ErrSyntax", "strconv.ErrRange", "internal/strconv.uint64pow10", "math/bits.deBruijn32tab", "math/bits.deBruijn64tab"], apart := false, laid := [("math/bits.deBruijn32tab", laid_math_bits_deBruijn32tab), ("math/bits.deBruijn64tab", laid_math_bits_deBruijn64tab), ("internal/strconv.uint64pow10", laid_internal_strconv_uint64pow10), ("strconv.ErrRange", laid_strconv_ErrRange), ("strconv.ErrSyntax", laid_strconv_ErrSyntax)], narrowed := true }
def ArrayValidUptoSaid : Prop := arrayValidUptoRow.holds Tryz.pinned (OpenSpec.upto arrayValidSpec)

/-- 'arrayarchivelaw06.ArrayMoves', WHERE WHAT IT READS IS OF BULK AT MOST 1048576: true; the input reads as it did. -/
def arrayMovesUptoRow : OpenClaim := { program := "ytgnffedncjjkfaagreatdoor", sum := "d4666d2efda345021fd84c13f23adf5aee2838288bae0326c5f74fed4c954590", func := "arrayarchive/arrayarchivelaw06.ArrayMoves", spec := "arrayMoves", inPlace := ["internal/bytealg.IndexByteString", "internal/bytealg.IndexString"], unfollowed := true, recurses := true, named := ["internal/bytealg.MaxLen", "strconv.ErrSyntax", "strconv.ErrRange", "internal/strconv.uint64pow10", "math/bits.deBruijn32tab", "math/bits.deBruijn64tab"], apart := false, laid := [("math/bits.deBruijn32tab", laid_math_bits_deBruijn32tab), ("math/bits.deBruijn64tab", laid_math_bits_deBruijn64tab), ("internal/strconv.uint64pow10", laid_internal_strconv_uint64pow10), ("strconv.ErrRange", laid_strconv_ErrRange), ("strconv.ErrSyntax", laid_strconv_ErrSyntax)], narrowed := true }
def ArrayMovesUptoSaid : Prop := arrayMovesUptoRow.holds Tryz.pinned (OpenSpec.upto arrayMovesSpec)

/-- 'arrayarchivelaw06.ArrayTiles', WHERE WHAT IT READS IS OF BULK AT MOST 1048576: true; the input reads as it did. -/
def arrayTilesUptoRow : OpenClaim := { program := "ytgnffedncjjkfaagreatdoor", sum := "d4666d2efda345021fd84c13f23adf5aee2838288bae0326c5f74fed4c954590", func := "arrayarchive/arrayarchivelaw06.ArrayTiles", spec := "arrayTiles", inPlace := ["internal/bytealg.IndexByteString", "internal/bytealg.IndexString"], unfollowed := true, recurses := true, named := ["internal/bytealg.MaxLen", "strconv.ErrSyntax", "strconv.ErrRange", "internal/strconv.uint64pow10", "math/bits.deBruijn32tab", "math/bits.deBruijn64tab"], apart := false, laid := [("math/bits.deBruijn32tab", laid_math_bits_deBruijn32tab), ("math/bits.deBruijn64tab", laid_math_bits_deBruijn64tab), ("internal/strconv.uint64pow10", laid_internal_strconv_uint64pow10), ("strconv.ErrRange", laid_strconv_ErrRange), ("strconv.ErrSyntax", laid_strconv_ErrSyntax)], narrowed := true }
def ArrayTilesUptoSaid : Prop := arrayTilesUptoRow.holds Tryz.pinned (OpenSpec.upto arrayTilesSpec)

/-- 'arrayarchivelaw06.ArrayChunks', WHERE WHAT IT READS IS OF BULK AT MOST 1048576: true; the input reads as it did. -/
def arrayChunksUptoRow : OpenClaim := { program := "ytgnffedncjjkfaagreatdoor", sum := "d4666d2efda345021fd84c13f23adf5aee2838288bae0326c5f74fed4c954590", func := "arrayarchive/arrayarchivelaw06.ArrayChunks", spec := "arrayChunks", inPlace := ["internal/bytealg.IndexByteString", "internal/bytealg.IndexString"], unfollowed := true, recurses := true, named := ["internal/bytealg.MaxLen", "strconv.ErrSyntax", "strconv.ErrRange", "internal/strconv.uint64pow10", "math/bits.deBruijn32tab", "math/bits.deBruijn64tab"], apart := false, laid := [("math/bits.deBruijn32tab", laid_math_bits_deBruijn32tab), ("math/bits.deBruijn64tab", laid_math_bits_deBruijn64tab), ("internal/strconv.uint64pow10", laid_internal_strconv_uint64pow10), ("strconv.ErrRange", laid_strconv_ErrRange), ("strconv.ErrSyntax", laid_strconv_ErrSyntax)], narrowed := true }
def ArrayChunksUptoSaid : Prop := arrayChunksUptoRow.holds Tryz.pinned (OpenSpec.upto arrayChunksSpec)

/-- 'arrayarchivelaw06.ArrayReduced', WHERE WHAT IT READS IS OF BULK AT MOST 1048576: true; the input reads as it did. -/
def arrayReducedUptoRow : OpenClaim := { program := "ytgnffedncjjkfaagreatdoor", sum := "d4666d2efda345021fd84c13f23adf5aee2838288bae0326c5f74fed4c954590", func := "arrayarchive/arrayarchivelaw06.ArrayReduced", spec := "arrayReduced", inPlace := ["internal/bytealg.IndexByteString", "internal/bytealg.IndexString", "internal/abi.NoEscape"], unfollowed := true, recurses := true, named := ["internal/bytealg.MaxLen", "strconv.ErrSyntax", "strconv.ErrRange", "internal/strconv.uint64pow10", "math/bits.deBruijn32tab", "math/bits.deBruijn64tab"], apart := false, laid := [("math/bits.deBruijn32tab", laid_math_bits_deBruijn32tab), ("math/bits.deBruijn64tab", laid_math_bits_deBruijn64tab), ("internal/strconv.uint64pow10", laid_internal_strconv_uint64pow10), ("strconv.ErrRange", laid_strconv_ErrRange), ("strconv.ErrSyntax", laid_strconv_ErrSyntax)], narrowed := true }
def ArrayReducedUptoSaid : Prop := arrayReducedUptoRow.holds Tryz.pinned (OpenSpec.upto arrayReducedSpec)

/-- 'arrayarchivelaw06.ArrayEaches', WHERE WHAT IT READS IS OF BULK AT MOST 1048576: true; the input reads as it did. -/
def arrayEachesUptoRow : OpenClaim := { program := "ytgnffedncjjkfaagreatdoor", sum := "d4666d2efda345021fd84c13f23adf5aee2838288bae0326c5f74fed4c954590", func := "arrayarchive/arrayarchivelaw06.ArrayEaches", spec := "arrayEaches", inPlace := ["internal/bytealg.IndexByteString", "internal/bytealg.IndexString", "internal/abi.NoEscape"], unfollowed := true, recurses := true, named := ["internal/bytealg.MaxLen", "strconv.ErrSyntax", "strconv.ErrRange", "internal/strconv.uint64pow10", "math/bits.deBruijn32tab", "math/bits.deBruijn64tab"], apart := false, laid := [("math/bits.deBruijn32tab", laid_math_bits_deBruijn32tab), ("math/bits.deBruijn64tab", laid_math_bits_deBruijn64tab), ("internal/strconv.uint64pow10", laid_internal_strconv_uint64pow10), ("strconv.ErrRange", laid_strconv_ErrRange), ("strconv.ErrSyntax", laid_strconv_ErrSyntax)], narrowed := true }
def ArrayEachesUptoSaid : Prop := arrayEachesUptoRow.holds Tryz.pinned (OpenSpec.upto arrayEachesSpec)

/-- 'arrayarchivelaw06.ArrayWindows', WHERE WHAT IT READS IS OF BULK AT MOST 1048576: true; the input reads as it did. -/
def arrayWindowsUptoRow : OpenClaim := { program := "ytgnffedncjjkfaagreatdoor", sum := "d4666d2efda345021fd84c13f23adf5aee2838288bae0326c5f74fed4c954590", func := "arrayarchive/arrayarchivelaw06.ArrayWindows", spec := "arrayWindows", inPlace := ["internal/bytealg.IndexByteString", "internal/bytealg.IndexString", "internal/abi.NoEscape"], unfollowed := true, recurses := true, named := ["internal/bytealg.MaxLen", "strconv.ErrSyntax", "strconv.ErrRange", "internal/strconv.uint64pow10", "math/bits.deBruijn32tab", "math/bits.deBruijn64tab"], apart := false, laid := [("math/bits.deBruijn32tab", laid_math_bits_deBruijn32tab), ("math/bits.deBruijn64tab", laid_math_bits_deBruijn64tab), ("internal/strconv.uint64pow10", laid_internal_strconv_uint64pow10), ("strconv.ErrRange", laid_strconv_ErrRange), ("strconv.ErrSyntax", laid_strconv_ErrSyntax)], narrowed := true }
def ArrayWindowsUptoSaid : Prop := arrayWindowsUptoRow.holds Tryz.pinned (OpenSpec.upto arrayWindowsSpec)

/-- 'arrayarchivelaw06.ArrayReduces', WHERE WHAT IT READS IS OF BULK AT MOST 1048576: true; the input reads as it did. -/
def arrayReducesUptoRow : OpenClaim := { program := "ytgnffedncjjkfaagreatdoor", sum := "d4666d2efda345021fd84c13f23adf5aee2838288bae0326c5f74fed4c954590", func := "arrayarchive/arrayarchivelaw06.ArrayReduces", spec := "arrayReduces", inPlace := ["internal/bytealg.IndexByteString", "internal/bytealg.IndexString", "internal/abi.NoEscape"], unfollowed := true, recurses := true, named := ["internal/bytealg.MaxLen", "strconv.ErrSyntax", "strconv.ErrRange", "internal/strconv.uint64pow10", "math/bits.deBruijn32tab", "math/bits.deBruijn64tab"], apart := false, laid := [("math/bits.deBruijn32tab", laid_math_bits_deBruijn32tab), ("math/bits.deBruijn64tab", laid_math_bits_deBruijn64tab), ("internal/strconv.uint64pow10", laid_internal_strconv_uint64pow10), ("strconv.ErrRange", laid_strconv_ErrRange), ("strconv.ErrSyntax", laid_strconv_ErrSyntax)], narrowed := true }
def ArrayReducesUptoSaid : Prop := arrayReducesUptoRow.holds Tryz.pinned (OpenSpec.upto arrayReducesSpec)

/-- 'arrayarchivelaw06.ArrayTotals', WHERE WHAT IT READS IS OF BULK AT MOST 1048576: true; the input reads as it did. -/
def arrayTotalsUptoRow : OpenClaim := { program := "ytgnffedncjjkfaagreatdoor", sum := "d4666d2efda345021fd84c13f23adf5aee2838288bae0326c5f74fed4c954590", func := "arrayarchive/arrayarchivelaw06.ArrayTotals", spec := "arrayTotals", inPlace := ["internal/bytealg.IndexByteString", "internal/bytealg.IndexString", "internal/abi.NoEscape"], unfollowed := true, recurses := true, named := ["internal/bytealg.MaxLen", "strconv.ErrSyntax", "strconv.ErrRange", "internal/strconv.uint64pow10", "math/bits.deBruijn32tab", "math/bits.deBruijn64tab"], apart := false, laid := [("math/bits.deBruijn32tab", laid_math_bits_deBruijn32tab), ("math/bits.deBruijn64tab", laid_math_bits_deBruijn64tab), ("internal/strconv.uint64pow10", laid_internal_strconv_uint64pow10), ("strconv.ErrRange", laid_strconv_ErrRange), ("strconv.ErrSyntax", laid_strconv_ErrSyntax)], narrowed := true }
def ArrayTotalsUptoSaid : Prop := arrayTotalsUptoRow.holds Tryz.pinned (OpenSpec.upto arrayTotalsSpec)

/-- 'arrayarchivelaw06.ArrayGroups', WHERE WHAT IT READS IS OF BULK AT MOST 1048576: true; the input reads as it did. -/
def arrayGroupsUptoRow : OpenClaim := { program := "ytgnffedncjjkfaagreatdoor", sum := "d4666d2efda345021fd84c13f23adf5aee2838288bae0326c5f74fed4c954590", func := "arrayarchive/arrayarchivelaw06.ArrayGroups", spec := "arrayGroups", inPlace := ["internal/bytealg.IndexByteString", "internal/bytealg.IndexString", "internal/abi.NoEscape"], unfollowed := true, recurses := true, named := ["internal/bytealg.MaxLen", "strconv.ErrSyntax", "strconv.ErrRange", "internal/strconv.uint64pow10", "math/bits.deBruijn32tab", "math/bits.deBruijn64tab"], apart := false, laid := [("math/bits.deBruijn32tab", laid_math_bits_deBruijn32tab), ("math/bits.deBruijn64tab", laid_math_bits_deBruijn64tab), ("internal/strconv.uint64pow10", laid_internal_strconv_uint64pow10), ("strconv.ErrRange", laid_strconv_ErrRange), ("strconv.ErrSyntax", laid_strconv_ErrSyntax)], narrowed := true }
def ArrayGroupsUptoSaid : Prop := arrayGroupsUptoRow.holds Tryz.pinned (OpenSpec.upto arrayGroupsSpec)

end Rows
end Go.Proofs.YtgnffedncjjkfaaGreatDoor
