/-
  DERIVED. GIVEN WITH THE SEED: THE CARDS: each row of YtfpecijiodljoaaGreatDoorRows.lean that lists a variable, with what it lists TIED to the program's text (the seventh form; the later family's looks); each row that meets fmt, with fmt's text TOLD by the authors' own Lean function (tested against real Go, not proved from fmt's source: count such statements apart). THE CARD IS WHAT COUNTS. Prove the row's statement (the work); the ties are given (YtfpecijiodljoaaGreatDoorTie.lean); close each card by the builder's one call (the guide's Derived/Test/ToyasCard.lean, 'card_holds'). Laid BY PROGRAM, IN A SANDBOX (cutbox-door.mjs). By AI agents, Wed Nov 11 2026. No macro, syntax, notation, axiom, sorry.
-/
import Derived.Test.YtfpecijiodljoaaGreatDoorRows
import GoSem.ClaimSeven
namespace Go.Proofs.YtfpecijiodljoaaGreatDoor
namespace Rows

/-- THE TIED CARD OF 'galleylaw19.MotionNames'. -/
def motionNamesCard : Claim7 := { stood := { row := motionNamesRow, standIns := [], harness := (true, "859d4593ccfc6b2552fa0867d9e18e79727a9ea33c8b65c86307bad678fec959"), looks := true }, kinds := [], alts := [], laidByText := true, laidKinds := [.data, .data, .data, .data, .sentinel, .sentinel, .pinned], laidTests := true, laidLooks := .later }
def MotionNamesCardSaid : Prop := Claim7.holds Tryz.pinned (.plain (OpenSpec.ofChange motionNamesSpec)) motionNamesCard

/-- THE TIED CARD OF 'galleylaw19.MotionBetween'. -/
def motionBetweenCard : Claim7 := { stood := { row := motionBetweenRow, standIns := [], harness := (true, "859d4593ccfc6b2552fa0867d9e18e79727a9ea33c8b65c86307bad678fec959"), looks := true }, kinds := [], alts := [], laidByText := true, laidKinds := [.data, .data, .data, .data, .sentinel, .sentinel, .pinned], laidTests := true, laidLooks := .later }
def MotionBetweenCardSaid : Prop := Claim7.holds Tryz.pinned (.plain (OpenSpec.ofChange motionBetweenSpec)) motionBetweenCard

/-- THE TIED CARD OF 'galleylaw19.MotionTime'. -/
def motionTimeCard : Claim7 := { stood := { row := motionTimeRow, standIns := [], harness := (true, "859d4593ccfc6b2552fa0867d9e18e79727a9ea33c8b65c86307bad678fec959"), looks := true }, kinds := [], alts := [], laidByText := true, laidKinds := [.data, .data, .data, .data, .sentinel, .sentinel, .pinned], laidTests := true, laidLooks := .later }
def MotionTimeCardSaid : Prop := Claim7.holds Tryz.pinned (.plain (OpenSpec.ofChange motionTimeSpec)) motionTimeCard

/-- THE TIED CARD OF 'galleylaw19.MotionBack'. -/
def motionBackCard : Claim7 := { stood := { row := motionBackRow, standIns := [], harness := (true, "859d4593ccfc6b2552fa0867d9e18e79727a9ea33c8b65c86307bad678fec959"), looks := true }, kinds := [], alts := [], laidByText := true, laidKinds := [.data, .data, .data, .data, .sentinel, .sentinel, .pinned], laidTests := true, laidLooks := .later }
def MotionBackCardSaid : Prop := Claim7.holds Tryz.pinned (.plain (OpenSpec.ofChange motionBackSpec)) motionBackCard

/-- THE TIED CARD OF 'galleylaw19.MotionPlays'. -/
def motionPlaysCard : Claim7 := { stood := { row := motionPlaysRow, standIns := [], harness := (true, "859d4593ccfc6b2552fa0867d9e18e79727a9ea33c8b65c86307bad678fec959"), looks := true }, kinds := [], alts := [], laidByText := true, laidKinds := [.data, .data, .data, .data, .sentinel, .sentinel, .pinned], laidTests := true, laidLooks := .later }
def MotionPlaysCardSaid : Prop := Claim7.holds Tryz.pinned (.plain (OpenSpec.ofChange motionPlaysSpec)) motionPlaysCard

/-- THE TIED CARD OF 'galleylaw19.MotionLists'. -/
def motionListsCard : Claim7 := { stood := { row := motionListsRow, standIns := [], harness := (true, "859d4593ccfc6b2552fa0867d9e18e79727a9ea33c8b65c86307bad678fec959"), looks := true }, kinds := [], alts := [], laidByText := true, laidKinds := [.data, .data, .data, .data, .sentinel, .sentinel, .pinned], laidTests := true, laidLooks := .later }
def MotionListsCardSaid : Prop := Claim7.holds Tryz.pinned (.plain (OpenSpec.ofChange motionListsSpec)) motionListsCard

/-- THE SECOND FORM's CARD OF 'galleylaw19.MotionNames'. -/
def motionNamesUptoCard : Claim7 := { stood := { row := motionNamesUptoRow, standIns := [], harness := (true, "859d4593ccfc6b2552fa0867d9e18e79727a9ea33c8b65c86307bad678fec959"), looks := true }, kinds := [], alts := [], laidByText := true, laidKinds := [.data, .data, .data, .data, .sentinel, .sentinel, .pinned], laidTests := true, laidLooks := .later }
def MotionNamesUptoCardSaid : Prop := Claim7.holds Tryz.pinned (.plain (OpenSpec.upto motionNamesSpec)) motionNamesUptoCard

/-- THE SECOND FORM's CARD OF 'galleylaw19.MotionBetween'. -/
def motionBetweenUptoCard : Claim7 := { stood := { row := motionBetweenUptoRow, standIns := [], harness := (true, "859d4593ccfc6b2552fa0867d9e18e79727a9ea33c8b65c86307bad678fec959"), looks := true }, kinds := [], alts := [], laidByText := true, laidKinds := [.data, .data, .data, .data, .sentinel, .sentinel, .pinned], laidTests := true, laidLooks := .later }
def MotionBetweenUptoCardSaid : Prop := Claim7.holds Tryz.pinned (.plain (OpenSpec.upto motionBetweenSpec)) motionBetweenUptoCard

/-- THE SECOND FORM's CARD OF 'galleylaw19.MotionTime'. -/
def motionTimeUptoCard : Claim7 := { stood := { row := motionTimeUptoRow, standIns := [], harness := (true, "859d4593ccfc6b2552fa0867d9e18e79727a9ea33c8b65c86307bad678fec959"), looks := true }, kinds := [], alts := [], laidByText := true, laidKinds := [.data, .data, .data, .data, .sentinel, .sentinel, .pinned], laidTests := true, laidLooks := .later }
def MotionTimeUptoCardSaid : Prop := Claim7.holds Tryz.pinned (.plain (OpenSpec.upto motionTimeSpec)) motionTimeUptoCard

/-- THE SECOND FORM's CARD OF 'galleylaw19.MotionBack'. -/
def motionBackUptoCard : Claim7 := { stood := { row := motionBackUptoRow, standIns := [], harness := (true, "859d4593ccfc6b2552fa0867d9e18e79727a9ea33c8b65c86307bad678fec959"), looks := true }, kinds := [], alts := [], laidByText := true, laidKinds := [.data, .data, .data, .data, .sentinel, .sentinel, .pinned], laidTests := true, laidLooks := .later }
def MotionBackUptoCardSaid : Prop := Claim7.holds Tryz.pinned (.plain (OpenSpec.upto motionBackSpec)) motionBackUptoCard

/-- THE SECOND FORM's CARD OF 'galleylaw19.MotionPlays'. -/
def motionPlaysUptoCard : Claim7 := { stood := { row := motionPlaysUptoRow, standIns := [], harness := (true, "859d4593ccfc6b2552fa0867d9e18e79727a9ea33c8b65c86307bad678fec959"), looks := true }, kinds := [], alts := [], laidByText := true, laidKinds := [.data, .data, .data, .data, .sentinel, .sentinel, .pinned], laidTests := true, laidLooks := .later }
def MotionPlaysUptoCardSaid : Prop := Claim7.holds Tryz.pinned (.plain (OpenSpec.upto motionPlaysSpec)) motionPlaysUptoCard

/-- THE SECOND FORM's CARD OF 'galleylaw19.MotionLists'. -/
def motionListsUptoCard : Claim7 := { stood := { row := motionListsUptoRow, standIns := [], harness := (true, "859d4593ccfc6b2552fa0867d9e18e79727a9ea33c8b65c86307bad678fec959"), looks := true }, kinds := [], alts := [], laidByText := true, laidKinds := [.data, .data, .data, .data, .sentinel, .sentinel, .pinned], laidTests := true, laidLooks := .later }
def MotionListsUptoCardSaid : Prop := Claim7.holds Tryz.pinned (.plain (OpenSpec.upto motionListsSpec)) motionListsUptoCard
end Rows
end Go.Proofs.YtfpecijiodljoaaGreatDoor
