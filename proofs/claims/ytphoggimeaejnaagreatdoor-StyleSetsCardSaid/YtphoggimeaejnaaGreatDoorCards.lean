/-
  DERIVED. GIVEN WITH THE SEED: THE CARDS: each row of YtphoggimeaejnaaGreatDoorRows.lean that lists a variable, with what it lists TIED to the program's text (the seventh form; the later family's looks); each row that meets fmt, with fmt's text TOLD by the authors' own Lean function (tested against real Go, not proved from fmt's source: count such statements apart). THE CARD IS WHAT COUNTS. Prove the row's statement (the work); the ties are given (YtphoggimeaejnaaGreatDoorTie.lean); close each card by the builder's one call (the guide's Derived/Test/ToyasCard.lean, 'card_holds'). Laid BY PROGRAM, IN A SANDBOX (cutbox-door.mjs). By AI agents, Wed Nov 11 2026. No macro, syntax, notation, axiom, sorry.
-/
import Derived.Test.YtphoggimeaejnaaGreatDoorRows
import GoSem.ClaimSeven
namespace Go.Proofs.YtphoggimeaejnaaGreatDoor
namespace Rows

/-- THE TIED CARD OF 'galleylaw17.StyleTells'. -/
def styleTellsCard : Claim7 := { stood := { row := styleTellsRow, standIns := [], harness := (true, "4a0b58fe5d3f407957c3d53e87fbe32145a0dca009797fe0a3846bc268a9cce6"), looks := true }, kinds := [], alts := [], laidByText := true, laidKinds := [.data, .data, .data, .data, .handle, .sentinel, .sentinel, .pinned], laidTests := true, laidLooks := .later }
def StyleTellsCardSaid : Prop := Claim7.holds Tryz.pinned (.plain (OpenSpec.ofChange styleTellsSpec)) styleTellsCard

/-- THE TIED CARD OF 'galleylaw17.StyleSets'. -/
def styleSetsCard : Claim7 := { stood := { row := styleSetsRow, standIns := [], harness := (true, "4a0b58fe5d3f407957c3d53e87fbe32145a0dca009797fe0a3846bc268a9cce6"), looks := true }, kinds := [], alts := [], laidByText := true, laidKinds := [.data, .data, .data, .data, .handle, .sentinel, .sentinel, .pinned], laidTests := true, laidLooks := .later }
def StyleSetsCardSaid : Prop := Claim7.holds Tryz.pinned (.plain (OpenSpec.ofChange styleSetsSpec)) styleSetsCard

/-- THE TIED CARD OF 'galleylaw17.StyleMore'. -/
def styleMoreCard : Claim7 := { stood := { row := styleMoreRow, standIns := [], harness := (true, "4a0b58fe5d3f407957c3d53e87fbe32145a0dca009797fe0a3846bc268a9cce6"), looks := true }, kinds := [], alts := [], laidByText := true, laidKinds := [.data, .data, .data, .data, .handle, .sentinel, .sentinel, .pinned], laidTests := true, laidLooks := .later }
def StyleMoreCardSaid : Prop := Claim7.holds Tryz.pinned (.plain (OpenSpec.ofChange styleMoreSpec)) styleMoreCard

/-- THE SECOND FORM's CARD OF 'galleylaw17.StyleTells'. -/
def styleTellsUptoCard : Claim7 := { stood := { row := styleTellsUptoRow, standIns := [], harness := (true, "4a0b58fe5d3f407957c3d53e87fbe32145a0dca009797fe0a3846bc268a9cce6"), looks := true }, kinds := [], alts := [], laidByText := true, laidKinds := [.data, .data, .data, .data, .handle, .sentinel, .sentinel, .pinned], laidTests := true, laidLooks := .later }
def StyleTellsUptoCardSaid : Prop := Claim7.holds Tryz.pinned (.plain (OpenSpec.upto styleTellsSpec)) styleTellsUptoCard

/-- THE SECOND FORM's CARD OF 'galleylaw17.StyleSets'. -/
def styleSetsUptoCard : Claim7 := { stood := { row := styleSetsUptoRow, standIns := [], harness := (true, "4a0b58fe5d3f407957c3d53e87fbe32145a0dca009797fe0a3846bc268a9cce6"), looks := true }, kinds := [], alts := [], laidByText := true, laidKinds := [.data, .data, .data, .data, .handle, .sentinel, .sentinel, .pinned], laidTests := true, laidLooks := .later }
def StyleSetsUptoCardSaid : Prop := Claim7.holds Tryz.pinned (.plain (OpenSpec.upto styleSetsSpec)) styleSetsUptoCard

/-- THE SECOND FORM's CARD OF 'galleylaw17.StyleMore'. -/
def styleMoreUptoCard : Claim7 := { stood := { row := styleMoreUptoRow, standIns := [], harness := (true, "4a0b58fe5d3f407957c3d53e87fbe32145a0dca009797fe0a3846bc268a9cce6"), looks := true }, kinds := [], alts := [], laidByText := true, laidKinds := [.data, .data, .data, .data, .handle, .sentinel, .sentinel, .pinned], laidTests := true, laidLooks := .later }
def StyleMoreUptoCardSaid : Prop := Claim7.holds Tryz.pinned (.plain (OpenSpec.upto styleMoreSpec)) styleMoreUptoCard
end Rows
end Go.Proofs.YtphoggimeaejnaaGreatDoor
