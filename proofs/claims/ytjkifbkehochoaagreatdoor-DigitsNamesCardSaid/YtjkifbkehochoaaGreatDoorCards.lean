/-
  DERIVED. GIVEN WITH THE SEED: THE CARDS: each row of YtjkifbkehochoaaGreatDoorRows.lean that lists a variable, with what it lists TIED to the program's text (the seventh form; the later family's looks); each row that meets fmt, with fmt's text TOLD by the authors' own Lean function (tested against real Go, not proved from fmt's source: count such statements apart). THE CARD IS WHAT COUNTS. Prove the row's statement (the work); the ties are given (YtjkifbkehochoaaGreatDoorTie.lean); close each card by the builder's one call (the guide's Derived/Test/ToyasCard.lean, 'card_holds'). Laid BY PROGRAM, IN A SANDBOX (cutbox-door.mjs). By AI agents, Wed Nov 11 2026. No macro, syntax, notation, axiom, sorry.
-/
import Derived.Test.YtjkifbkehochoaaGreatDoorRows
import GoSem.ClaimSeven
namespace Go.Proofs.YtjkifbkehochoaaGreatDoor
namespace Rows

/-- THE TIED CARD OF 'galleylaw03.DigitsNames'. -/
def digitsNamesCard : Claim7 := { stood := { row := digitsNamesRow, standIns := [], harness := (true, "b62e2c560f4191de15a72439a6f7490ced481569d63c450763d76e23bbc8b38e"), looks := true }, kinds := [], alts := [], laidByText := true, laidKinds := [.data, .data, .data, .data, .sentinel, .sentinel, .pinned], laidTests := true, laidLooks := .later }
def DigitsNamesCardSaid : Prop := Claim7.holds Tryz.pinned (.plain (OpenSpec.ofChange digitsNamesSpec)) digitsNamesCard

/-- THE TIED CARD OF 'galleylaw03.DigitsParses'. -/
def digitsParsesCard : Claim7 := { stood := { row := digitsParsesRow, standIns := [], harness := (true, "b62e2c560f4191de15a72439a6f7490ced481569d63c450763d76e23bbc8b38e"), looks := true }, kinds := [], alts := [], laidByText := true, laidKinds := [.data, .data, .data, .data, .sentinel, .sentinel, .pinned], laidTests := true, laidLooks := .later }
def DigitsParsesCardSaid : Prop := Claim7.holds Tryz.pinned (.plain (OpenSpec.ofChange digitsParsesSpec)) digitsParsesCard

/-- THE TIED CARD OF 'galleylaw03.DigitsPrints'. -/
def digitsPrintsCard : Claim7 := { stood := { row := digitsPrintsRow, standIns := [], harness := (true, "b62e2c560f4191de15a72439a6f7490ced481569d63c450763d76e23bbc8b38e"), looks := true }, kinds := [], alts := [], laidByText := true, laidKinds := [.data, .data, .data, .data, .sentinel, .sentinel, .pinned], laidTests := true, laidLooks := .later }
def DigitsPrintsCardSaid : Prop := Claim7.holds Tryz.pinned (.plain (OpenSpec.ofChange digitsPrintsSpec)) digitsPrintsCard

/-- THE TIED CARD OF 'galleylaw03.DigitsNears'. -/
def digitsNearsCard : Claim7 := { stood := { row := digitsNearsRow, standIns := [], harness := (true, "b62e2c560f4191de15a72439a6f7490ced481569d63c450763d76e23bbc8b38e"), looks := true }, kinds := [], alts := [], laidByText := true, laidKinds := [.data, .data, .data, .data, .sentinel, .sentinel, .pinned], laidTests := true, laidLooks := .later }
def DigitsNearsCardSaid : Prop := Claim7.holds Tryz.pinned (.plain (OpenSpec.ofChange digitsNearsSpec)) digitsNearsCard

/-- THE TIED CARD OF 'galleylaw03.DigitsBack'. -/
def digitsBackCard : Claim7 := { stood := { row := digitsBackRow, standIns := [], harness := (true, "b62e2c560f4191de15a72439a6f7490ced481569d63c450763d76e23bbc8b38e"), looks := true }, kinds := [], alts := [], laidByText := true, laidKinds := [.data, .data, .data, .data, .sentinel, .sentinel, .pinned], laidTests := true, laidLooks := .later }
def DigitsBackCardSaid : Prop := Claim7.holds Tryz.pinned (.plain (OpenSpec.ofChange digitsBackSpec)) digitsBackCard

/-- THE TIED CARD OF 'galleylaw03.DigitsOrder'. -/
def digitsOrderCard : Claim7 := { stood := { row := digitsOrderRow, standIns := [], harness := (true, "b62e2c560f4191de15a72439a6f7490ced481569d63c450763d76e23bbc8b38e"), looks := true }, kinds := [], alts := [], laidByText := true, laidKinds := [.data, .data, .data, .data, .sentinel, .sentinel, .pinned], laidTests := true, laidLooks := .later }
def DigitsOrderCardSaid : Prop := Claim7.holds Tryz.pinned (.plain (OpenSpec.ofChange digitsOrderSpec)) digitsOrderCard

/-- THE SECOND FORM's CARD OF 'galleylaw03.DigitsNames'. -/
def digitsNamesUptoCard : Claim7 := { stood := { row := digitsNamesUptoRow, standIns := [], harness := (true, "b62e2c560f4191de15a72439a6f7490ced481569d63c450763d76e23bbc8b38e"), looks := true }, kinds := [], alts := [], laidByText := true, laidKinds := [.data, .data, .data, .data, .sentinel, .sentinel, .pinned], laidTests := true, laidLooks := .later }
def DigitsNamesUptoCardSaid : Prop := Claim7.holds Tryz.pinned (.plain (OpenSpec.upto digitsNamesSpec)) digitsNamesUptoCard

/-- THE SECOND FORM's CARD OF 'galleylaw03.DigitsParses'. -/
def digitsParsesUptoCard : Claim7 := { stood := { row := digitsParsesUptoRow, standIns := [], harness := (true, "b62e2c560f4191de15a72439a6f7490ced481569d63c450763d76e23bbc8b38e"), looks := true }, kinds := [], alts := [], laidByText := true, laidKinds := [.data, .data, .data, .data, .sentinel, .sentinel, .pinned], laidTests := true, laidLooks := .later }
def DigitsParsesUptoCardSaid : Prop := Claim7.holds Tryz.pinned (.plain (OpenSpec.upto digitsParsesSpec)) digitsParsesUptoCard

/-- THE SECOND FORM's CARD OF 'galleylaw03.DigitsPrints'. -/
def digitsPrintsUptoCard : Claim7 := { stood := { row := digitsPrintsUptoRow, standIns := [], harness := (true, "b62e2c560f4191de15a72439a6f7490ced481569d63c450763d76e23bbc8b38e"), looks := true }, kinds := [], alts := [], laidByText := true, laidKinds := [.data, .data, .data, .data, .sentinel, .sentinel, .pinned], laidTests := true, laidLooks := .later }
def DigitsPrintsUptoCardSaid : Prop := Claim7.holds Tryz.pinned (.plain (OpenSpec.upto digitsPrintsSpec)) digitsPrintsUptoCard

/-- THE SECOND FORM's CARD OF 'galleylaw03.DigitsNears'. -/
def digitsNearsUptoCard : Claim7 := { stood := { row := digitsNearsUptoRow, standIns := [], harness := (true, "b62e2c560f4191de15a72439a6f7490ced481569d63c450763d76e23bbc8b38e"), looks := true }, kinds := [], alts := [], laidByText := true, laidKinds := [.data, .data, .data, .data, .sentinel, .sentinel, .pinned], laidTests := true, laidLooks := .later }
def DigitsNearsUptoCardSaid : Prop := Claim7.holds Tryz.pinned (.plain (OpenSpec.upto digitsNearsSpec)) digitsNearsUptoCard

/-- THE SECOND FORM's CARD OF 'galleylaw03.DigitsBack'. -/
def digitsBackUptoCard : Claim7 := { stood := { row := digitsBackUptoRow, standIns := [], harness := (true, "b62e2c560f4191de15a72439a6f7490ced481569d63c450763d76e23bbc8b38e"), looks := true }, kinds := [], alts := [], laidByText := true, laidKinds := [.data, .data, .data, .data, .sentinel, .sentinel, .pinned], laidTests := true, laidLooks := .later }
def DigitsBackUptoCardSaid : Prop := Claim7.holds Tryz.pinned (.plain (OpenSpec.upto digitsBackSpec)) digitsBackUptoCard

/-- THE SECOND FORM's CARD OF 'galleylaw03.DigitsOrder'. -/
def digitsOrderUptoCard : Claim7 := { stood := { row := digitsOrderUptoRow, standIns := [], harness := (true, "b62e2c560f4191de15a72439a6f7490ced481569d63c450763d76e23bbc8b38e"), looks := true }, kinds := [], alts := [], laidByText := true, laidKinds := [.data, .data, .data, .data, .sentinel, .sentinel, .pinned], laidTests := true, laidLooks := .later }
def DigitsOrderUptoCardSaid : Prop := Claim7.holds Tryz.pinned (.plain (OpenSpec.upto digitsOrderSpec)) digitsOrderUptoCard
end Rows
end Go.Proofs.YtjkifbkehochoaaGreatDoor
