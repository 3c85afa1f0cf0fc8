/-
  DERIVED. GIVEN WITH THE SEED: THE CARDS: each row of YthohhepoddnbnaaGreatDoorRows.lean that lists a variable, with what it lists TIED to the program's text (the seventh form; the later family's looks); each row that meets fmt, with fmt's text TOLD by the authors' own Lean function (tested against real Go, not proved from fmt's source: count such statements apart). THE CARD IS WHAT COUNTS. Prove the row's statement (the work); the ties are given (YthohhepoddnbnaaGreatDoorTie.lean); close each card by the builder's one call (the guide's Derived/Test/ToyasCard.lean, 'card_holds'). Laid BY PROGRAM, IN A SANDBOX (cutbox-door.mjs). By AI agents, Wed Nov 11 2026. No macro, syntax, notation, axiom, sorry.
-/
import Derived.Test.YthohhepoddnbnaaGreatDoorRows
import GoSem.ClaimSeven
namespace Go.Proofs.YthohhepoddnbnaaGreatDoor
namespace Rows

/-- THE TIED CARD OF 'galleylaw14.CalcRounds'. -/
def calcRoundsCard : Claim7 := { stood := { row := calcRoundsRow, standIns := [], harness := (true, "445da0a72d6fe8a2d0fdc1c24549d8177c4c310de25118103852a0c0f78d79ac"), looks := true }, kinds := [], alts := [], laidByText := true, laidKinds := [.data, .data, .data, .data, .handle, .sentinel, .sentinel, .pinned], laidTests := true, laidLooks := .later }
def CalcRoundsCardSaid : Prop := Claim7.holds Tryz.pinned (.plain (OpenSpec.ofChange calcRoundsSpec)) calcRoundsCard

/-- THE TIED CARD OF 'galleylaw14.CalcRoots'. -/
def calcRootsCard : Claim7 := { stood := { row := calcRootsRow, standIns := [], harness := (true, "445da0a72d6fe8a2d0fdc1c24549d8177c4c310de25118103852a0c0f78d79ac"), looks := true }, kinds := [], alts := [], laidByText := true, laidKinds := [.data, .data, .data, .data, .handle, .sentinel, .sentinel, .pinned], laidTests := true, laidLooks := .later }
def CalcRootsCardSaid : Prop := Claim7.holds Tryz.pinned (.plain (OpenSpec.ofChange calcRootsSpec)) calcRootsCard

/-- THE TIED CARD OF 'galleylaw14.CalcTurns'. -/
def calcTurnsCard : Claim7 := { stood := { row := calcTurnsRow, standIns := [], harness := (true, "445da0a72d6fe8a2d0fdc1c24549d8177c4c310de25118103852a0c0f78d79ac"), looks := true }, kinds := [], alts := [], laidByText := true, laidKinds := [.data, .data, .data, .data, .handle, .sentinel, .sentinel, .pinned], laidTests := true, laidLooks := .later }
def CalcTurnsCardSaid : Prop := Claim7.holds Tryz.pinned (.plain (OpenSpec.ofChange calcTurnsSpec)) calcTurnsCard

/-- THE TIED CARD OF 'galleylaw14.CalcRests'. -/
def calcRestsCard : Claim7 := { stood := { row := calcRestsRow, standIns := [], harness := (true, "445da0a72d6fe8a2d0fdc1c24549d8177c4c310de25118103852a0c0f78d79ac"), looks := true }, kinds := [], alts := [], laidByText := true, laidKinds := [.data, .data, .data, .data, .handle, .sentinel, .sentinel, .pinned], laidTests := true, laidLooks := .later }
def CalcRestsCardSaid : Prop := Claim7.holds Tryz.pinned (.plain (OpenSpec.ofChange calcRestsSpec)) calcRestsCard

/-- THE TIED CARD OF 'galleylaw14.CalcReads'. -/
def calcReadsCard : Claim7 := { stood := { row := calcReadsRow, standIns := [], harness := (true, "445da0a72d6fe8a2d0fdc1c24549d8177c4c310de25118103852a0c0f78d79ac"), looks := true }, kinds := [], alts := [], laidByText := true, laidKinds := [.data, .data, .data, .data, .handle, .sentinel, .sentinel, .pinned], laidTests := true, laidLooks := .later }
def CalcReadsCardSaid : Prop := Claim7.holds Tryz.pinned (.plain (OpenSpec.ofChange calcReadsSpec)) calcReadsCard

/-- THE TIED CARD OF 'galleylaw14.CalcBack'. -/
def calcBackCard : Claim7 := { stood := { row := calcBackRow, standIns := [], harness := (true, "445da0a72d6fe8a2d0fdc1c24549d8177c4c310de25118103852a0c0f78d79ac"), looks := true }, kinds := [], alts := [], laidByText := true, laidKinds := [.data, .data, .data, .data, .handle, .sentinel, .sentinel, .pinned], laidTests := true, laidLooks := .later }
def CalcBackCardSaid : Prop := Claim7.holds Tryz.pinned (.plain (OpenSpec.ofChange calcBackSpec)) calcBackCard

/-- THE SECOND FORM's CARD OF 'galleylaw14.CalcRounds'. -/
def calcRoundsUptoCard : Claim7 := { stood := { row := calcRoundsUptoRow, standIns := [], harness := (true, "445da0a72d6fe8a2d0fdc1c24549d8177c4c310de25118103852a0c0f78d79ac"), looks := true }, kinds := [], alts := [], laidByText := true, laidKinds := [.data, .data, .data, .data, .handle, .sentinel, .sentinel, .pinned], laidTests := true, laidLooks := .later }
def CalcRoundsUptoCardSaid : Prop := Claim7.holds Tryz.pinned (.plain (OpenSpec.upto calcRoundsSpec)) calcRoundsUptoCard

/-- THE SECOND FORM's CARD OF 'galleylaw14.CalcRoots'. -/
def calcRootsUptoCard : Claim7 := { stood := { row := calcRootsUptoRow, standIns := [], harness := (true, "445da0a72d6fe8a2d0fdc1c24549d8177c4c310de25118103852a0c0f78d79ac"), looks := true }, kinds := [], alts := [], laidByText := true, laidKinds := [.data, .data, .data, .data, .handle, .sentinel, .sentinel, .pinned], laidTests := true, laidLooks := .later }
def CalcRootsUptoCardSaid : Prop := Claim7.holds Tryz.pinned (.plain (OpenSpec.upto calcRootsSpec)) calcRootsUptoCard

/-- THE SECOND FORM's CARD OF 'galleylaw14.CalcTurns'. -/
def calcTurnsUptoCard : Claim7 := { stood := { row := calcTurnsUptoRow, standIns := [], harness := (true, "445da0a72d6fe8a2d0fdc1c24549d8177c4c310de25118103852a0c0f78d79ac"), looks := true }, kinds := [], alts := [], laidByText := true, laidKinds := [.data, .data, .data, .data, .handle, .sentinel, .sentinel, .pinned], laidTests := true, laidLooks := .later }
def CalcTurnsUptoCardSaid : Prop := Claim7.holds Tryz.pinned (.plain (OpenSpec.upto calcTurnsSpec)) calcTurnsUptoCard

/-- THE SECOND FORM's CARD OF 'galleylaw14.CalcRests'. -/
def calcRestsUptoCard : Claim7 := { stood := { row := calcRestsUptoRow, standIns := [], harness := (true, "445da0a72d6fe8a2d0fdc1c24549d8177c4c310de25118103852a0c0f78d79ac"), looks := true }, kinds := [], alts := [], laidByText := true, laidKinds := [.data, .data, .data, .data, .handle, .sentinel, .sentinel, .pinned], laidTests := true, laidLooks := .later }
def CalcRestsUptoCardSaid : Prop := Claim7.holds Tryz.pinned (.plain (OpenSpec.upto calcRestsSpec)) calcRestsUptoCard

/-- THE SECOND FORM's CARD OF 'galleylaw14.CalcReads'. -/
def calcReadsUptoCard : Claim7 := { stood := { row := calcReadsUptoRow, standIns := [], harness := (true, "445da0a72d6fe8a2d0fdc1c24549d8177c4c310de25118103852a0c0f78d79ac"), looks := true }, kinds := [], alts := [], laidByText := true, laidKinds := [.data, .data, .data, .data, .handle, .sentinel, .sentinel, .pinned], laidTests := true, laidLooks := .later }
def CalcReadsUptoCardSaid : Prop := Claim7.holds Tryz.pinned (.plain (OpenSpec.upto calcReadsSpec)) calcReadsUptoCard

/-- THE SECOND FORM's CARD OF 'galleylaw14.CalcBack'. -/
def calcBackUptoCard : Claim7 := { stood := { row := calcBackUptoRow, standIns := [], harness := (true, "445da0a72d6fe8a2d0fdc1c24549d8177c4c310de25118103852a0c0f78d79ac"), looks := true }, kinds := [], alts := [], laidByText := true, laidKinds := [.data, .data, .data, .data, .handle, .sentinel, .sentinel, .pinned], laidTests := true, laidLooks := .later }
def CalcBackUptoCardSaid : Prop := Claim7.holds Tryz.pinned (.plain (OpenSpec.upto calcBackSpec)) calcBackUptoCard
end Rows
end Go.Proofs.YthohhepoddnbnaaGreatDoor
