/-
  No cell of these rows narrows 'for every input' (looked for: loops, veiled, ifaces, maps, wideKeys, modest, calm, conditions, laid).
  DERIVED. THE GIVEN ROWS OF THIS SEAT. 19 by the template 'for every input the law returns true; each argument reads behind the call as it read before'; 0 by the template 'total and deterministic' (their statements: YtelalledjbeenaaTotals.lean).
  GIVEN WITH THE SEED: the statements are not yours to turn. If you find one false, say at which input.
  Laid BY PROGRAM, IN A SANDBOX (cutbox-rows.mjs): the forced cells as the released guide's own fill.sh prints them over the translation 2deefd1a5d11a71c… (all of the seat's roots in one cut). By AI agents, Wed Nov 11 2026. No macro, syntax, notation, axiom, sorry.
-/
import Derived.Test.YtelalledjbeenaaChecked
import GoSem.Claim
import GoSem.ClaimJoined
import GoSem.ClaimMapViews
import Derived.JoinedTies
import Derived.KernelRfl
namespace Go.Proofs.Ytelalledjbeenaa
/- THE CELL 'sum', in the pinned program and in every row, IS THE sha256 OF THE DUMP (.gsa) THAT YtelalledjbeenaaProg.lean LOADS. Nothing in Lean hashes anything: it is a label: what it is worth is what the hold of that sum in a sandbox is worth. -/
noncomputable def Try.pinned : Pinned := { name := "ytelalledjbeenaa", sum := "2deefd1a5d11a71cde07531430b074d89d550b3c601b63bafce0903ca3f5a904", checked := Try.checked }
namespace Rows
def none {H : Type} : Left H := { results := [], args := [] }

/-- 'galleylaw02.SumsTurned': WHATEVER THE INPUT: true; the input reads as it did. -/
def sumsTurnedSpec : ChangeSpec := { name := "sumsTurned", fn := fun _ => fun
  | [d] => { results := [.lit (.bool true)], args := [d] }
  | _ => none }
def sumsTurnedRow : OpenClaim := { program := "ytelalledjbeenaa", sum := "2deefd1a5d11a71cde07531430b074d89d550b3c601b63bafce0903ca3f5a904", func := "galley/galleylaw02.SumsTurned", spec := "sumsTurned", inPlace := ["math.Float64bits", "math.Float64frombits", "math/bits.Sub64", "math/bits.Add64"], unfollowed := true, recurses := true, apart := false }
def SumsTurnedSaid : Prop := sumsTurnedRow.holds Try.pinned (OpenSpec.ofChange sumsTurnedSpec)

/-- ITS FALSE NEIGHBOUR: 'it returns false'. Refute it at one input. -/
def sumsTurnedWrong : ChangeSpec := { name := "sumsTurned", fn := fun _ => fun
  | [d] => { results := [.lit (.bool false)], args := [d] }
  | _ => none }
def SumsTurnedWrongFalsely : Prop := sumsTurnedRow.holds Try.pinned (OpenSpec.ofChange sumsTurnedWrong)

/-- 'galleylaw02.SumsTwo': WHATEVER THE INPUT: true; the input reads as it did. -/
def sumsTwoSpec : ChangeSpec := { name := "sumsTwo", fn := fun _ => fun
  | [d1, d2] => { results := [.lit (.bool true)], args := [d1, d2] }
  | _ => none }
def sumsTwoRow : OpenClaim := { program := "ytelalledjbeenaa", sum := "2deefd1a5d11a71cde07531430b074d89d550b3c601b63bafce0903ca3f5a904", func := "galley/galleylaw02.SumsTwo", spec := "sumsTwo", inPlace := ["math.Float64bits", "math.Float64frombits", "math/bits.Sub64", "math/bits.Add64"], unfollowed := true, recurses := true, apart := false }
def SumsTwoSaid : Prop := sumsTwoRow.holds Try.pinned (OpenSpec.ofChange sumsTwoSpec)

/-- ITS FALSE NEIGHBOUR: 'it returns false'. Refute it at one input. -/
def sumsTwoWrong : ChangeSpec := { name := "sumsTwo", fn := fun _ => fun
  | [d1, d2] => { results := [.lit (.bool false)], args := [d1, d2] }
  | _ => none }
def SumsTwoWrongFalsely : Prop := sumsTwoRow.holds Try.pinned (OpenSpec.ofChange sumsTwoWrong)

/-- 'galleylaw02.SumsWhole': WHATEVER THE INPUT: true; the input reads as it did. -/
def sumsWholeSpec : ChangeSpec := { name := "sumsWhole", fn := fun _ => fun
  | [d1, d2] => { results := [.lit (.bool true)], args := [d1, d2] }
  | _ => none }
def sumsWholeRow : OpenClaim := { program := "ytelalledjbeenaa", sum := "2deefd1a5d11a71cde07531430b074d89d550b3c601b63bafce0903ca3f5a904", func := "galley/galleylaw02.SumsWhole", spec := "sumsWhole", inPlace := ["math.Float64bits", "math.Float64frombits", "math/bits.Sub64", "math/bits.Add64"], unfollowed := true, recurses := true, apart := false }
def SumsWholeSaid : Prop := sumsWholeRow.holds Try.pinned (OpenSpec.ofChange sumsWholeSpec)

/-- ITS FALSE NEIGHBOUR: 'it returns false'. Refute it at one input. -/
def sumsWholeWrong : ChangeSpec := { name := "sumsWhole", fn := fun _ => fun
  | [d1, d2] => { results := [.lit (.bool false)], args := [d1, d2] }
  | _ => none }
def SumsWholeWrongFalsely : Prop := sumsWholeRow.holds Try.pinned (OpenSpec.ofChange sumsWholeWrong)

/-- 'galleylaw01.BitsNames': WHATEVER THE INPUT: true; the input reads as it did. -/
def bitsNamesSpec : ChangeSpec := { name := "bitsNames", fn := fun _ => fun
  | [] => { results := [.lit (.bool true)], args := [] }
  | _ => none }
def bitsNamesRow : OpenClaim := { program := "ytelalledjbeenaa", sum := "2deefd1a5d11a71cde07531430b074d89d550b3c601b63bafce0903ca3f5a904", func := "galley/galleylaw01.BitsNames", spec := "bitsNames", inPlace := ["math.Float64bits", "math.Float64frombits", "math.RoundToEven"], apart := false }
def BitsNamesSaid : Prop := bitsNamesRow.holds Try.pinned (OpenSpec.ofChange bitsNamesSpec)

/-- ITS FALSE NEIGHBOUR: 'it returns false'. Refute it at one input. -/
def bitsNamesWrong : ChangeSpec := { name := "bitsNames", fn := fun _ => fun
  | [] => { results := [.lit (.bool false)], args := [] }
  | _ => none }
def BitsNamesWrongFalsely : Prop := bitsNamesRow.holds Try.pinned (OpenSpec.ofChange bitsNamesWrong)

/-- 'galleylaw01.BitsParts': WHATEVER THE INPUT: true; the input reads as it did. -/
def bitsPartsSpec : ChangeSpec := { name := "bitsParts", fn := fun _ => fun
  | [d1, d2] => { results := [.lit (.bool true)], args := [d1, d2] }
  | _ => none }
def bitsPartsRow : OpenClaim := { program := "ytelalledjbeenaa", sum := "2deefd1a5d11a71cde07531430b074d89d550b3c601b63bafce0903ca3f5a904", func := "galley/galleylaw01.BitsParts", spec := "bitsParts", inPlace := ["math.Float64bits", "math.Float64frombits", "math.RoundToEven"], apart := false }
def BitsPartsSaid : Prop := bitsPartsRow.holds Try.pinned (OpenSpec.ofChange bitsPartsSpec)

/-- ITS FALSE NEIGHBOUR: 'it returns false'. Refute it at one input. -/
def bitsPartsWrong : ChangeSpec := { name := "bitsParts", fn := fun _ => fun
  | [d1, d2] => { results := [.lit (.bool false)], args := [d1, d2] }
  | _ => none }
def BitsPartsWrongFalsely : Prop := bitsPartsRow.holds Try.pinned (OpenSpec.ofChange bitsPartsWrong)

/-- 'galleylaw02.SumsParts': WHATEVER THE INPUT: true; the input reads as it did. -/
def sumsPartsSpec : ChangeSpec := { name := "sumsParts", fn := fun _ => fun
  | [d1, d2, d3] => { results := [.lit (.bool true)], args := [d1, d2, d3] }
  | _ => none }
def sumsPartsRow : OpenClaim := { program := "ytelalledjbeenaa", sum := "2deefd1a5d11a71cde07531430b074d89d550b3c601b63bafce0903ca3f5a904", func := "galley/galleylaw02.SumsParts", spec := "sumsParts", inPlace := ["math.Float64bits", "math.Float64frombits", "math/bits.Sub64", "math/bits.Add64"], unfollowed := true, recurses := true, apart := false }
def SumsPartsSaid : Prop := sumsPartsRow.holds Try.pinned (OpenSpec.ofChange sumsPartsSpec)

/-- ITS FALSE NEIGHBOUR: 'it returns false'. Refute it at one input. -/
def sumsPartsWrong : ChangeSpec := { name := "sumsParts", fn := fun _ => fun
  | [d1, d2, d3] => { results := [.lit (.bool false)], args := [d1, d2, d3] }
  | _ => none }
def SumsPartsWrongFalsely : Prop := sumsPartsRow.holds Try.pinned (OpenSpec.ofChange sumsPartsWrong)

/-- 'galleylaw01.BitsBack': WHATEVER THE INPUT: true; the input reads as it did. -/
def bitsBackSpec : ChangeSpec := { name := "bitsBack", fn := fun _ => fun
  | [d1, d2] => { results := [.lit (.bool true)], args := [d1, d2] }
  | _ => none }
def bitsBackRow : OpenClaim := { program := "ytelalledjbeenaa", sum := "2deefd1a5d11a71cde07531430b074d89d550b3c601b63bafce0903ca3f5a904", func := "galley/galleylaw01.BitsBack", spec := "bitsBack", inPlace := ["math.Float64bits", "math.Float64frombits", "math.RoundToEven", "math.Float32frombits", "math.Float32bits"], apart := false }
def BitsBackSaid : Prop := bitsBackRow.holds Try.pinned (OpenSpec.ofChange bitsBackSpec)

/-- ITS FALSE NEIGHBOUR: 'it returns false'. Refute it at one input. -/
def bitsBackWrong : ChangeSpec := { name := "bitsBack", fn := fun _ => fun
  | [d1, d2] => { results := [.lit (.bool false)], args := [d1, d2] }
  | _ => none }
def BitsBackWrongFalsely : Prop := bitsBackRow.holds Try.pinned (OpenSpec.ofChange bitsBackWrong)

/-- 'galleylaw15.GeomRects': WHATEVER THE INPUT: true; the input reads as it did. -/
def geomRectsSpec : ChangeSpec := { name := "geomRects", fn := fun _ => fun
  | [d1, d2, d3] => { results := [.lit (.bool true)], args := [d1, d2, d3] }
  | _ => none }
def geomRectsRow : OpenClaim := { program := "ytelalledjbeenaa", sum := "2deefd1a5d11a71cde07531430b074d89d550b3c601b63bafce0903ca3f5a904", func := "galley/galleylaw15.GeomRects", spec := "geomRects", inPlace := ["math.Float64frombits", "math.Float64bits", "math.sqrt"], unfollowed := true, recurses := true, apart := false }
def GeomRectsSaid : Prop := geomRectsRow.holds Try.pinned (OpenSpec.ofChange geomRectsSpec)

/-- ITS FALSE NEIGHBOUR: 'it returns false'. Refute it at one input. -/
def geomRectsWrong : ChangeSpec := { name := "geomRects", fn := fun _ => fun
  | [d1, d2, d3] => { results := [.lit (.bool false)], args := [d1, d2, d3] }
  | _ => none }
def GeomRectsWrongFalsely : Prop := geomRectsRow.holds Try.pinned (OpenSpec.ofChange geomRectsWrong)

/-- 'galleylaw15.GeomUnions': WHATEVER THE INPUT: true; the input reads as it did. -/
def geomUnionsSpec : ChangeSpec := { name := "geomUnions", fn := fun _ => fun
  | [d1, d2] => { results := [.lit (.bool true)], args := [d1, d2] }
  | _ => none }
def geomUnionsRow : OpenClaim := { program := "ytelalledjbeenaa", sum := "2deefd1a5d11a71cde07531430b074d89d550b3c601b63bafce0903ca3f5a904", func := "galley/galleylaw15.GeomUnions", spec := "geomUnions", inPlace := ["math.Float64frombits", "math.Float64bits", "math.sqrt"], unfollowed := true, recurses := true, apart := false }
def GeomUnionsSaid : Prop := geomUnionsRow.holds Try.pinned (OpenSpec.ofChange geomUnionsSpec)

/-- ITS FALSE NEIGHBOUR: 'it returns false'. Refute it at one input. -/
def geomUnionsWrong : ChangeSpec := { name := "geomUnions", fn := fun _ => fun
  | [d1, d2] => { results := [.lit (.bool false)], args := [d1, d2] }
  | _ => none }
def GeomUnionsWrongFalsely : Prop := geomUnionsRow.holds Try.pinned (OpenSpec.ofChange geomUnionsWrong)

/-- 'galleylaw01.BitsWays': WHATEVER THE INPUT: true; the input reads as it did. -/
def bitsWaysSpec : ChangeSpec := { name := "bitsWays", fn := fun _ => fun
  | [d1, d2] => { results := [.lit (.bool true)], args := [d1, d2] }
  | _ => none }
def bitsWaysRow : OpenClaim := { program := "ytelalledjbeenaa", sum := "2deefd1a5d11a71cde07531430b074d89d550b3c601b63bafce0903ca3f5a904", func := "galley/galleylaw01.BitsWays", spec := "bitsWays", inPlace := ["math.Float64bits", "math.Float64frombits", "math.RoundToEven", "math.Float32frombits", "math.Float32bits"], apart := false }
def BitsWaysSaid : Prop := bitsWaysRow.holds Try.pinned (OpenSpec.ofChange bitsWaysSpec)

/-- ITS FALSE NEIGHBOUR: 'it returns false'. Refute it at one input. -/
def bitsWaysWrong : ChangeSpec := { name := "bitsWays", fn := fun _ => fun
  | [d1, d2] => { results := [.lit (.bool false)], args := [d1, d2] }
  | _ => none }
def BitsWaysWrongFalsely : Prop := bitsWaysRow.holds Try.pinned (OpenSpec.ofChange bitsWaysWrong)

/-- 'galleylaw01.BitsNear': WHATEVER THE INPUT: true; the input reads as it did. -/
def bitsNearSpec : ChangeSpec := { name := "bitsNear", fn := fun _ => fun
  | [d1, d2, d3] => { results := [.lit (.bool true)], args := [d1, d2, d3] }
  | _ => none }
def bitsNearRow : OpenClaim := { program := "ytelalledjbeenaa", sum := "2deefd1a5d11a71cde07531430b074d89d550b3c601b63bafce0903ca3f5a904", func := "galley/galleylaw01.BitsNear", spec := "bitsNear", inPlace := ["math.Float64bits", "math.Float64frombits", "math.RoundToEven"], apart := false }
def BitsNearSaid : Prop := bitsNearRow.holds Try.pinned (OpenSpec.ofChange bitsNearSpec)

/-- ITS FALSE NEIGHBOUR: 'it returns false'. Refute it at one input. -/
def bitsNearWrong : ChangeSpec := { name := "bitsNear", fn := fun _ => fun
  | [d1, d2, d3] => { results := [.lit (.bool false)], args := [d1, d2, d3] }
  | _ => none }
def BitsNearWrongFalsely : Prop := bitsNearRow.holds Try.pinned (OpenSpec.ofChange bitsNearWrong)

/-- 'galleylaw15.GeomCorners': WHATEVER THE INPUT: true; the input reads as it did. -/
def geomCornersSpec : ChangeSpec := { name := "geomCorners", fn := fun _ => fun
  | [d1, d2, d3, d4] => { results := [.lit (.bool true)], args := [d1, d2, d3, d4] }
  | _ => none }
def geomCornersRow : OpenClaim := { program := "ytelalledjbeenaa", sum := "2deefd1a5d11a71cde07531430b074d89d550b3c601b63bafce0903ca3f5a904", func := "galley/galleylaw15.GeomCorners", spec := "geomCorners", inPlace := ["math.Float64frombits", "math.Float64bits", "math.sqrt", "math.Float32frombits", "math.Float32bits"], unfollowed := true, recurses := true, apart := false }
def GeomCornersSaid : Prop := geomCornersRow.holds Try.pinned (OpenSpec.ofChange geomCornersSpec)

/-- ITS FALSE NEIGHBOUR: 'it returns false'. Refute it at one input. -/
def geomCornersWrong : ChangeSpec := { name := "geomCorners", fn := fun _ => fun
  | [d1, d2, d3, d4] => { results := [.lit (.bool false)], args := [d1, d2, d3, d4] }
  | _ => none }
def GeomCornersWrongFalsely : Prop := geomCornersRow.holds Try.pinned (OpenSpec.ofChange geomCornersWrong)

/-- 'galleylaw01.BitsKept': WHATEVER THE INPUT: true; the input reads as it did. -/
def bitsKeptSpec : ChangeSpec := { name := "bitsKept", fn := fun _ => fun
  | [d1, d2, d3, d4] => { results := [.lit (.bool true)], args := [d1, d2, d3, d4] }
  | _ => none }
def bitsKeptRow : OpenClaim := { program := "ytelalledjbeenaa", sum := "2deefd1a5d11a71cde07531430b074d89d550b3c601b63bafce0903ca3f5a904", func := "galley/galleylaw01.BitsKept", spec := "bitsKept", inPlace := ["math.Float64bits", "math.Float64frombits", "math.RoundToEven"], apart := false }
def BitsKeptSaid : Prop := bitsKeptRow.holds Try.pinned (OpenSpec.ofChange bitsKeptSpec)

/-- ITS FALSE NEIGHBOUR: 'it returns false'. Refute it at one input. -/
def bitsKeptWrong : ChangeSpec := { name := "bitsKept", fn := fun _ => fun
  | [d1, d2, d3, d4] => { results := [.lit (.bool false)], args := [d1, d2, d3, d4] }
  | _ => none }
def BitsKeptWrongFalsely : Prop := bitsKeptRow.holds Try.pinned (OpenSpec.ofChange bitsKeptWrong)

/-- 'galleylaw02.SumsLose': WHATEVER THE INPUT: true; the input reads as it did. -/
def sumsLoseSpec : ChangeSpec := { name := "sumsLose", fn := fun _ => fun
  | [d1, d2] => { results := [.lit (.bool true)], args := [d1, d2] }
  | _ => none }
def sumsLoseRow : OpenClaim := { program := "ytelalledjbeenaa", sum := "2deefd1a5d11a71cde07531430b074d89d550b3c601b63bafce0903ca3f5a904", func := "galley/galleylaw02.SumsLose", spec := "sumsLose", inPlace := ["math.Float64bits", "math.Float64frombits", "math/bits.Sub64", "math/bits.Add64"], unfollowed := true, recurses := true, apart := false }
def SumsLoseSaid : Prop := sumsLoseRow.holds Try.pinned (OpenSpec.ofChange sumsLoseSpec)

/-- ITS FALSE NEIGHBOUR: 'it returns false'. Refute it at one input. -/
def sumsLoseWrong : ChangeSpec := { name := "sumsLose", fn := fun _ => fun
  | [d1, d2] => { results := [.lit (.bool false)], args := [d1, d2] }
  | _ => none }
def SumsLoseWrongFalsely : Prop := sumsLoseRow.holds Try.pinned (OpenSpec.ofChange sumsLoseWrong)

/-- 'galleylaw15.GeomMatrices': WHATEVER THE INPUT: true; the input reads as it did. -/
def geomMatricesSpec : ChangeSpec := { name := "geomMatrices", fn := fun _ => fun
  | [d1, d2, d3] => { results := [.lit (.bool true)], args := [d1, d2, d3] }
  | _ => none }
def geomMatricesRow : OpenClaim := { program := "ytelalledjbeenaa", sum := "2deefd1a5d11a71cde07531430b074d89d550b3c601b63bafce0903ca3f5a904", func := "galley/galleylaw15.GeomMatrices", spec := "geomMatrices", inPlace := ["math.Float64frombits", "math.Float64bits", "math.sqrt"], unfollowed := true, recurses := true, apart := false }
def GeomMatricesSaid : Prop := geomMatricesRow.holds Try.pinned (OpenSpec.ofChange geomMatricesSpec)

/-- ITS FALSE NEIGHBOUR: 'it returns false'. Refute it at one input. -/
def geomMatricesWrong : ChangeSpec := { name := "geomMatrices", fn := fun _ => fun
  | [d1, d2, d3] => { results := [.lit (.bool false)], args := [d1, d2, d3] }
  | _ => none }
def GeomMatricesWrongFalsely : Prop := geomMatricesRow.holds Try.pinned (OpenSpec.ofChange geomMatricesWrong)

/-- 'galleylaw01.BitsStands': WHATEVER THE INPUT: true; the input reads as it did. -/
def bitsStandsSpec : ChangeSpec := { name := "bitsStands", fn := fun _ => fun
  | [d1, d2, d3] => { results := [.lit (.bool true)], args := [d1, d2, d3] }
  | _ => none }
def bitsStandsRow : OpenClaim := { program := "ytelalledjbeenaa", sum := "2deefd1a5d11a71cde07531430b074d89d550b3c601b63bafce0903ca3f5a904", func := "galley/galleylaw01.BitsStands", spec := "bitsStands", inPlace := ["math.Float64bits", "math.Float64frombits", "math.RoundToEven"], apart := false }
def BitsStandsSaid : Prop := bitsStandsRow.holds Try.pinned (OpenSpec.ofChange bitsStandsSpec)

/-- ITS FALSE NEIGHBOUR: 'it returns false'. Refute it at one input. -/
def bitsStandsWrong : ChangeSpec := { name := "bitsStands", fn := fun _ => fun
  | [d1, d2, d3] => { results := [.lit (.bool false)], args := [d1, d2, d3] }
  | _ => none }
def BitsStandsWrongFalsely : Prop := bitsStandsRow.holds Try.pinned (OpenSpec.ofChange bitsStandsWrong)

/-- 'galleylaw02.SumsHold': WHATEVER THE INPUT: true; the input reads as it did. -/
def sumsHoldSpec : ChangeSpec := { name := "sumsHold", fn := fun _ => fun
  | [d] => { results := [.lit (.bool true)], args := [d] }
  | _ => none }
def sumsHoldRow : OpenClaim := { program := "ytelalledjbeenaa", sum := "2deefd1a5d11a71cde07531430b074d89d550b3c601b63bafce0903ca3f5a904", func := "galley/galleylaw02.SumsHold", spec := "sumsHold", inPlace := ["math.Float64bits", "math.Float64frombits", "math/bits.Sub64", "math/bits.Add64"], unfollowed := true, recurses := true, apart := false }
def SumsHoldSaid : Prop := sumsHoldRow.holds Try.pinned (OpenSpec.ofChange sumsHoldSpec)

/-- ITS FALSE NEIGHBOUR: 'it returns false'. Refute it at one input. -/
def sumsHoldWrong : ChangeSpec := { name := "sumsHold", fn := fun _ => fun
  | [d] => { results := [.lit (.bool false)], args := [d] }
  | _ => none }
def SumsHoldWrongFalsely : Prop := sumsHoldRow.holds Try.pinned (OpenSpec.ofChange sumsHoldWrong)

/-- 'galleylaw02.SumsTell': WHATEVER THE INPUT: true; the input reads as it did. -/
def sumsTellSpec : ChangeSpec := { name := "sumsTell", fn := fun _ => fun
  | [d] => { results := [.lit (.bool true)], args := [d] }
  | _ => none }
def sumsTellRow : OpenClaim := { program := "ytelalledjbeenaa", sum := "2deefd1a5d11a71cde07531430b074d89d550b3c601b63bafce0903ca3f5a904", func := "galley/galleylaw02.SumsTell", spec := "sumsTell", inPlace := ["math.Float64bits", "math.Float64frombits", "math/bits.Sub64", "math/bits.Add64"], unfollowed := true, recurses := true, apart := false }
def SumsTellSaid : Prop := sumsTellRow.holds Try.pinned (OpenSpec.ofChange sumsTellSpec)

/-- ITS FALSE NEIGHBOUR: 'it returns false'. Refute it at one input. -/
def sumsTellWrong : ChangeSpec := { name := "sumsTell", fn := fun _ => fun
  | [d] => { results := [.lit (.bool false)], args := [d] }
  | _ => none }
def SumsTellWrongFalsely : Prop := sumsTellRow.holds Try.pinned (OpenSpec.ofChange sumsTellWrong)

/-- 'galleylaw15.GeomWhole': WHATEVER THE INPUT: true; the input reads as it did. -/
def geomWholeSpec : ChangeSpec := { name := "geomWhole", fn := fun _ => fun
  | [d] => { results := [.lit (.bool true)], args := [d] }
  | _ => none }
def geomWholeRow : OpenClaim := { program := "ytelalledjbeenaa", sum := "2deefd1a5d11a71cde07531430b074d89d550b3c601b63bafce0903ca3f5a904", func := "galley/galleylaw15.GeomWhole", spec := "geomWhole", inPlace := ["math.Float64frombits", "math.Float64bits", "math.sqrt", "math.archFloor", "math.archTrunc"], unfollowed := true, recurses := true, apart := false }
def GeomWholeSaid : Prop := geomWholeRow.holds Try.pinned (OpenSpec.ofChange geomWholeSpec)

/-- ITS FALSE NEIGHBOUR: 'it returns false'. Refute it at one input. -/
def geomWholeWrong : ChangeSpec := { name := "geomWhole", fn := fun _ => fun
  | [d] => { results := [.lit (.bool false)], args := [d] }
  | _ => none }
def GeomWholeWrongFalsely : Prop := geomWholeRow.holds Try.pinned (OpenSpec.ofChange geomWholeWrong)

/- THE SECOND FORM. 'bulk': how many values and letters a reading holds, each counted each time it is reached (what is shared counts as often as it is met; a slice's spare places count too). A statement '..UptoSaid' is the law's where the arguments, and the package variables that the reading takes, are together of bulk at most 1048576: NARROWER than '..Said'. Prove '..Said' where nothing that the law and all that it calls make is longer than what came in: it says more and counts as full. Else prove '..UptoSaid'. A law counts once. -/
mutual
def uptoBulk {H : Type} : DataW H → Nat
  | .lit (.string bytes) => bytes.length + 1
  | .lit _ => 1
  | .nil => 1
  | .ptr d => uptoBulk d + 1
  | .slice elems spare => uptoBulkAll elems + uptoBulkAll spare + 1
  | .agg parts => uptoBulkAll parts + 1
  | .iface _ d => uptoBulk d + 1
  | .map entries => uptoBulkEntries entries + 1
  | .held _ => 1
def uptoBulkAll {H : Type} : List (DataW H) → Nat
  | [] => 0
  | d :: r => uptoBulk d + uptoBulkAll r
def uptoBulkEntries {H : Type} : List (Lit × DataW H) → Nat
  | [] => 0
  | x :: r => uptoBulkEntry x + uptoBulkEntries r
def uptoBulkEntry {H : Type} : Lit × DataW H → Nat
  | (.string bytes, d) => bytes.length + uptoBulk d + 1
  | (_, d) => uptoBulk d + 1
 end
def uptoSmall : (H : Type) → List (DataW H) → Bool := fun _ ds => decide (uptoBulkAll ds ≤ 1048576)
def OpenSpec.upto (s : _root_.Go.ChangeSpec) : _root_.Go.OpenSpec := { _root_.Go.OpenSpec.ofChange s with cond := some uptoSmall }

/-- 'galleylaw02.SumsTurned', WHERE WHAT IT READS IS OF BULK AT MOST 1048576: true; the input reads as it did. -/
def sumsTurnedUptoRow : OpenClaim := { program := "ytelalledjbeenaa", sum := "2deefd1a5d11a71cde07531430b074d89d550b3c601b63bafce0903ca3f5a904", func := "galley/galleylaw02.SumsTurned", spec := "sumsTurned", inPlace := ["math.Float64bits", "math.Float64frombits", "math/bits.Sub64", "math/bits.Add64"], unfollowed := true, recurses := true, apart := false, narrowed := true }
def SumsTurnedUptoSaid : Prop := sumsTurnedUptoRow.holds Try.pinned (OpenSpec.upto sumsTurnedSpec)

/-- 'galleylaw02.SumsTwo', WHERE WHAT IT READS IS OF BULK AT MOST 1048576: true; the input reads as it did. -/
def sumsTwoUptoRow : OpenClaim := { program := "ytelalledjbeenaa", sum := "2deefd1a5d11a71cde07531430b074d89d550b3c601b63bafce0903ca3f5a904", func := "galley/galleylaw02.SumsTwo", spec := "sumsTwo", inPlace := ["math.Float64bits", "math.Float64frombits", "math/bits.Sub64", "math/bits.Add64"], unfollowed := true, recurses := true, apart := false, narrowed := true }
def SumsTwoUptoSaid : Prop := sumsTwoUptoRow.holds Try.pinned (OpenSpec.upto sumsTwoSpec)

/-- 'galleylaw02.SumsWhole', WHERE WHAT IT READS IS OF BULK AT MOST 1048576: true; the input reads as it did. -/
def sumsWholeUptoRow : OpenClaim := { program := "ytelalledjbeenaa", sum := "2deefd1a5d11a71cde07531430b074d89d550b3c601b63bafce0903ca3f5a904", func := "galley/galleylaw02.SumsWhole", spec := "sumsWhole", inPlace := ["math.Float64bits", "math.Float64frombits", "math/bits.Sub64", "math/bits.Add64"], unfollowed := true, recurses := true, apart := false, narrowed := true }
def SumsWholeUptoSaid : Prop := sumsWholeUptoRow.holds Try.pinned (OpenSpec.upto sumsWholeSpec)

/-- 'galleylaw01.BitsNames', WHERE WHAT IT READS IS OF BULK AT MOST 1048576: true; the input reads as it did. -/
def bitsNamesUptoRow : OpenClaim := { program := "ytelalledjbeenaa", sum := "2deefd1a5d11a71cde07531430b074d89d550b3c601b63bafce0903ca3f5a904", func := "galley/galleylaw01.BitsNames", spec := "bitsNames", inPlace := ["math.Float64bits", "math.Float64frombits", "math.RoundToEven"], apart := false, narrowed := true }
def BitsNamesUptoSaid : Prop := bitsNamesUptoRow.holds Try.pinned (OpenSpec.upto bitsNamesSpec)

/-- 'galleylaw01.BitsParts', WHERE WHAT IT READS IS OF BULK AT MOST 1048576: true; the input reads as it did. -/
def bitsPartsUptoRow : OpenClaim := { program := "ytelalledjbeenaa", sum := "2deefd1a5d11a71cde07531430b074d89d550b3c601b63bafce0903ca3f5a904", func := "galley/galleylaw01.BitsParts", spec := "bitsParts", inPlace := ["math.Float64bits", "math.Float64frombits", "math.RoundToEven"], apart := false, narrowed := true }
def BitsPartsUptoSaid : Prop := bitsPartsUptoRow.holds Try.pinned (OpenSpec.upto bitsPartsSpec)

/-- 'galleylaw02.SumsParts', WHERE WHAT IT READS IS OF BULK AT MOST 1048576: true; the input reads as it did. -/
def sumsPartsUptoRow : OpenClaim := { program := "ytelalledjbeenaa", sum := "2deefd1a5d11a71cde07531430b074d89d550b3c601b63bafce0903ca3f5a904", func := "galley/galleylaw02.SumsParts", spec := "sumsParts", inPlace := ["math.Float64bits", "math.Float64frombits", "math/bits.Sub64", "math/bits.Add64"], unfollowed := true, recurses := true, apart := false, narrowed := true }
def SumsPartsUptoSaid : Prop := sumsPartsUptoRow.holds Try.pinned (OpenSpec.upto sumsPartsSpec)

/-- 'galleylaw01.BitsBack', WHERE WHAT IT READS IS OF BULK AT MOST 1048576: true; the input reads as it did. -/
def bitsBackUptoRow : OpenClaim := { program := "ytelalledjbeenaa", sum := "2deefd1a5d11a71cde07531430b074d89d550b3c601b63bafce0903ca3f5a904", func := "galley/galleylaw01.BitsBack", spec := "bitsBack", inPlace := ["math.Float64bits", "math.Float64frombits", "math.RoundToEven", "math.Float32frombits", "math.Float32bits"], apart := false, narrowed := true }
def BitsBackUptoSaid : Prop := bitsBackUptoRow.holds Try.pinned (OpenSpec.upto bitsBackSpec)

/-- 'galleylaw15.GeomRects', WHERE WHAT IT READS IS OF BULK AT MOST 1048576: true; the input reads as it did. -/
def geomRectsUptoRow : OpenClaim := { program := "ytelalledjbeenaa", sum := "2deefd1a5d11a71cde07531430b074d89d550b3c601b63bafce0903ca3f5a904", func := "galley/galleylaw15.GeomRects", spec := "geomRects", inPlace := ["math.Float64frombits", "math.Float64bits", "math.sqrt"], unfollowed := true, recurses := true, apart := false, narrowed := true }
def GeomRectsUptoSaid : Prop := geomRectsUptoRow.holds Try.pinned (OpenSpec.upto geomRectsSpec)

/-- 'galleylaw15.GeomUnions', WHERE WHAT IT READS IS OF BULK AT MOST 1048576: true; the input reads as it did. -/
def geomUnionsUptoRow : OpenClaim := { program := "ytelalledjbeenaa", sum := "2deefd1a5d11a71cde07531430b074d89d550b3c601b63bafce0903ca3f5a904", func := "galley/galleylaw15.GeomUnions", spec := "geomUnions", inPlace := ["math.Float64frombits", "math.Float64bits", "math.sqrt"], unfollowed := true, recurses := true, apart := false, narrowed := true }
def GeomUnionsUptoSaid : Prop := geomUnionsUptoRow.holds Try.pinned (OpenSpec.upto geomUnionsSpec)

/-- 'galleylaw01.BitsWays', WHERE WHAT IT READS IS OF BULK AT MOST 1048576: true; the input reads as it did. -/
def bitsWaysUptoRow : OpenClaim := { program := "ytelalledjbeenaa", sum := "2deefd1a5d11a71cde07531430b074d89d550b3c601b63bafce0903ca3f5a904", func := "galley/galleylaw01.BitsWays", spec := "bitsWays", inPlace := ["math.Float64bits", "math.Float64frombits", "math.RoundToEven", "math.Float32frombits", "math.Float32bits"], apart := false, narrowed := true }
def BitsWaysUptoSaid : Prop := bitsWaysUptoRow.holds Try.pinned (OpenSpec.upto bitsWaysSpec)

/-- 'galleylaw01.BitsNear', WHERE WHAT IT READS IS OF BULK AT MOST 1048576: true; the input reads as it did. -/
def bitsNearUptoRow : OpenClaim := { program := "ytelalledjbeenaa", sum := "2deefd1a5d11a71cde07531430b074d89d550b3c601b63bafce0903ca3f5a904", func := "galley/galleylaw01.BitsNear", spec := "bitsNear", inPlace := ["math.Float64bits", "math.Float64frombits", "math.RoundToEven"], apart := false, narrowed := true }
def BitsNearUptoSaid : Prop := bitsNearUptoRow.holds Try.pinned (OpenSpec.upto bitsNearSpec)

/-- 'galleylaw15.GeomCorners', WHERE WHAT IT READS IS OF BULK AT MOST 1048576: true; the input reads as it did. -/
def geomCornersUptoRow : OpenClaim := { program := "ytelalledjbeenaa", sum := "2deefd1a5d11a71cde07531430b074d89d550b3c601b63bafce0903ca3f5a904", func := "galley/galleylaw15.GeomCorners", spec := "geomCorners", inPlace := ["math.Float64frombits", "math.Float64bits", "math.sqrt", "math.Float32frombits", "math.Float32bits"], unfollowed := true, recurses := true, apart := false, narrowed := true }
def GeomCornersUptoSaid : Prop := geomCornersUptoRow.holds Try.pinned (OpenSpec.upto geomCornersSpec)

/-- 'galleylaw01.BitsKept', WHERE WHAT IT READS IS OF BULK AT MOST 1048576: true; the input reads as it did. -/
def bitsKeptUptoRow : OpenClaim := { program := "ytelalledjbeenaa", sum := "2deefd1a5d11a71cde07531430b074d89d550b3c601b63bafce0903ca3f5a904", func := "galley/galleylaw01.BitsKept", spec := "bitsKept", inPlace := ["math.Float64bits", "math.Float64frombits", "math.RoundToEven"], apart := false, narrowed := true }
def BitsKeptUptoSaid : Prop := bitsKeptUptoRow.holds Try.pinned (OpenSpec.upto bitsKeptSpec)

/-- 'galleylaw02.SumsLose', WHERE WHAT IT READS IS OF BULK AT MOST 1048576: true; the input reads as it did. -/
def sumsLoseUptoRow : OpenClaim := { program := "ytelalledjbeenaa", sum := "2deefd1a5d11a71cde07531430b074d89d550b3c601b63bafce0903ca3f5a904", func := "galley/galleylaw02.SumsLose", spec := "sumsLose", inPlace := ["math.Float64bits", "math.Float64frombits", "math/bits.Sub64", "math/bits.Add64"], unfollowed := true, recurses := true, apart := false, narrowed := true }
def SumsLoseUptoSaid : Prop := sumsLoseUptoRow.holds Try.pinned (OpenSpec.upto sumsLoseSpec)

/-- 'galleylaw15.GeomMatrices', WHERE WHAT IT READS IS OF BULK AT MOST 1048576: true; the input reads as it did. -/
def geomMatricesUptoRow : OpenClaim := { program := "ytelalledjbeenaa", sum := "2deefd1a5d11a71cde07531430b074d89d550b3c601b63bafce0903ca3f5a904", func := "galley/galleylaw15.GeomMatrices", spec := "geomMatrices", inPlace := ["math.Float64frombits", "math.Float64bits", "math.sqrt"], unfollowed := true, recurses := true, apart := false, narrowed := true }
def GeomMatricesUptoSaid : Prop := geomMatricesUptoRow.holds Try.pinned (OpenSpec.upto geomMatricesSpec)

/-- 'galleylaw01.BitsStands', WHERE WHAT IT READS IS OF BULK AT MOST 1048576: true; the input reads as it did. -/
def bitsStandsUptoRow : OpenClaim := { program := "ytelalledjbeenaa", sum := "2deefd1a5d11a71cde07531430b074d89d550b3c601b63bafce0903ca3f5a904", func := "galley/galleylaw01.BitsStands", spec := "bitsStands", inPlace := ["math.Float64bits", "math.Float64frombits", "math.RoundToEven"], apart := false, narrowed := true }
def BitsStandsUptoSaid : Prop := bitsStandsUptoRow.holds Try.pinned (OpenSpec.upto bitsStandsSpec)

/-- 'galleylaw02.SumsHold', WHERE WHAT IT READS IS OF BULK AT MOST 1048576: true; the input reads as it did. -/
def sumsHoldUptoRow : OpenClaim := { program := "ytelalledjbeenaa", sum := "2deefd1a5d11a71cde07531430b074d89d550b3c601b63bafce0903ca3f5a904", func := "galley/galleylaw02.SumsHold", spec := "sumsHold", inPlace := ["math.Float64bits", "math.Float64frombits", "math/bits.Sub64", "math/bits.Add64"], unfollowed := true, recurses := true, apart := false, narrowed := true }
def SumsHoldUptoSaid : Prop := sumsHoldUptoRow.holds Try.pinned (OpenSpec.upto sumsHoldSpec)

/-- 'galleylaw02.SumsTell', WHERE WHAT IT READS IS OF BULK AT MOST 1048576: true; the input reads as it did. -/
def sumsTellUptoRow : OpenClaim := { program := "ytelalledjbeenaa", sum := "2deefd1a5d11a71cde07531430b074d89d550b3c601b63bafce0903ca3f5a904", func := "galley/galleylaw02.SumsTell", spec := "sumsTell", inPlace := ["math.Float64bits", "math.Float64frombits", "math/bits.Sub64", "math/bits.Add64"], unfollowed := true, recurses := true, apart := false, narrowed := true }
def SumsTellUptoSaid : Prop := sumsTellUptoRow.holds Try.pinned (OpenSpec.upto sumsTellSpec)

/-- 'galleylaw15.GeomWhole', WHERE WHAT IT READS IS OF BULK AT MOST 1048576: true; the input reads as it did. -/
def geomWholeUptoRow : OpenClaim := { program := "ytelalledjbeenaa", sum := "2deefd1a5d11a71cde07531430b074d89d550b3c601b63bafce0903ca3f5a904", func := "galley/galleylaw15.GeomWhole", spec := "geomWhole", inPlace := ["math.Float64frombits", "math.Float64bits", "math.sqrt", "math.archFloor", "math.archTrunc"], unfollowed := true, recurses := true, apart := false, narrowed := true }
def GeomWholeUptoSaid : Prop := geomWholeUptoRow.holds Try.pinned (OpenSpec.upto geomWholeSpec)

end Rows
end Go.Proofs.Ytelalledjbeenaa
