/-
  DERIVED. GIVEN WITH THE SEED: THE CARDS: each row of YtlgencbldbpbdaaGreatDoorRows.lean that lists a variable, with what it lists TIED to the program's text (the seventh form; the later family's looks); each row that meets fmt, with fmt's text TOLD by the authors' own Lean function (tested against real Go, not proved from fmt's source: count such statements apart). THE CARD IS WHAT COUNTS. Prove the row's statement (the work); the ties are given (YtlgencbldbpbdaaGreatDoorTie.lean); close each card by the builder's one call (the guide's Derived/Test/ToyasCard.lean, 'card_holds'). Laid BY PROGRAM, IN A SANDBOX (cutbox-door.mjs). By AI agents, Wed Nov 11 2026. No macro, syntax, notation, axiom, sorry.
-/
import Derived.Test.YtlgencbldbpbdaaGreatDoorRows
import GoSem.ClaimSeven
namespace Go.Proofs.YtlgencbldbpbdaaGreatDoor
namespace Rows

/-- THE TIED CARD OF 'galleylaw16.EaseBack'. -/
def easeBackCard : Claim7 := { stood := { row := easeBackRow, standIns := [], harness := (true, "61b3d1a2fd171e5ef5fcfd07f8605f7d9c5dd203c2986d90539d30942382d0c3"), looks := true }, kinds := [], alts := [], laidByText := true, laidKinds := [.data, .data, .data, .data, .sentinel, .sentinel, .pinned], laidTests := true, laidLooks := .later }
def EaseBackCardSaid : Prop := Claim7.holds Tryz.pinned (.plain (OpenSpec.ofChange easeBackSpec)) easeBackCard

/-- THE TIED CARD OF 'galleylaw16.EaseEnds'. -/
def easeEndsCard : Claim7 := { stood := { row := easeEndsRow, standIns := [], harness := (true, "61b3d1a2fd171e5ef5fcfd07f8605f7d9c5dd203c2986d90539d30942382d0c3"), looks := true }, kinds := [], alts := [], laidByText := true, laidKinds := [.data, .data, .data, .data, .sentinel, .sentinel, .pinned], laidTests := true, laidLooks := .later }
def EaseEndsCardSaid : Prop := Claim7.holds Tryz.pinned (.plain (OpenSpec.ofChange easeEndsSpec)) easeEndsCard

/-- THE TIED CARD OF 'galleylaw16.EaseSteps'. -/
def easeStepsCard : Claim7 := { stood := { row := easeStepsRow, standIns := [], harness := (true, "61b3d1a2fd171e5ef5fcfd07f8605f7d9c5dd203c2986d90539d30942382d0c3"), looks := true }, kinds := [], alts := [], laidByText := true, laidKinds := [.data, .data, .data, .data, .sentinel, .sentinel, .pinned], laidTests := true, laidLooks := .later }
def EaseStepsCardSaid : Prop := Claim7.holds Tryz.pinned (.plain (OpenSpec.ofChange easeStepsSpec)) easeStepsCard

/-- THE TIED CARD OF 'galleylaw16.EaseParses'. -/
def easeParsesCard : Claim7 := { stood := { row := easeParsesRow, standIns := [], harness := (true, "61b3d1a2fd171e5ef5fcfd07f8605f7d9c5dd203c2986d90539d30942382d0c3"), looks := true }, kinds := [], alts := [], laidByText := true, laidKinds := [.data, .data, .data, .data, .handle, .sentinel, .sentinel, .pinned], laidTests := true, laidLooks := .later }
def EaseParsesCardSaid : Prop := Claim7.holds Tryz.pinned (.plain (OpenSpec.ofChange easeParsesSpec)) easeParsesCard

/-- THE TIED CARD OF 'galleylaw19.MotionTime'. -/
def motionTimeCard : Claim7 := { stood := { row := motionTimeRow, standIns := [], harness := (true, "61b3d1a2fd171e5ef5fcfd07f8605f7d9c5dd203c2986d90539d30942382d0c3"), looks := true }, kinds := [], alts := [], laidByText := true, laidKinds := [.data, .data, .data, .data, .sentinel, .sentinel, .pinned], laidTests := true, laidLooks := .later }
def MotionTimeCardSaid : Prop := Claim7.holds Tryz.pinned (.plain (OpenSpec.ofChange motionTimeSpec)) motionTimeCard

/-- THE TIED CARD OF 'galleylaw19.MotionBack'. -/
def motionBackCard : Claim7 := { stood := { row := motionBackRow, standIns := [], harness := (true, "61b3d1a2fd171e5ef5fcfd07f8605f7d9c5dd203c2986d90539d30942382d0c3"), looks := true }, kinds := [], alts := [], laidByText := true, laidKinds := [.data, .data, .data, .data, .sentinel, .sentinel, .pinned], laidTests := true, laidLooks := .later }
def MotionBackCardSaid : Prop := Claim7.holds Tryz.pinned (.plain (OpenSpec.ofChange motionBackSpec)) motionBackCard

/-- THE TIED CARD OF 'galleylaw19.MotionPlays'. -/
def motionPlaysCard : Claim7 := { stood := { row := motionPlaysRow, standIns := [], harness := (true, "61b3d1a2fd171e5ef5fcfd07f8605f7d9c5dd203c2986d90539d30942382d0c3"), looks := true }, kinds := [], alts := [], laidByText := true, laidKinds := [.data, .data, .data, .data, .sentinel, .sentinel, .pinned], laidTests := true, laidLooks := .later }
def MotionPlaysCardSaid : Prop := Claim7.holds Tryz.pinned (.plain (OpenSpec.ofChange motionPlaysSpec)) motionPlaysCard

/-- THE TIED CARD OF 'galleylaw19.MotionLists'. -/
def motionListsCard : Claim7 := { stood := { row := motionListsRow, standIns := [], harness := (true, "61b3d1a2fd171e5ef5fcfd07f8605f7d9c5dd203c2986d90539d30942382d0c3"), looks := true }, kinds := [], alts := [], laidByText := true, laidKinds := [.data, .data, .data, .data, .sentinel, .sentinel, .pinned], laidTests := true, laidLooks := .later }
def MotionListsCardSaid : Prop := Claim7.holds Tryz.pinned (.plain (OpenSpec.ofChange motionListsSpec)) motionListsCard

/-- THE SECOND FORM's CARD OF 'galleylaw16.EaseBack'. -/
def easeBackUptoCard : Claim7 := { stood := { row := easeBackUptoRow, standIns := [], harness := (true, "61b3d1a2fd171e5ef5fcfd07f8605f7d9c5dd203c2986d90539d30942382d0c3"), looks := true }, kinds := [], alts := [], laidByText := true, laidKinds := [.data, .data, .data, .data, .sentinel, .sentinel, .pinned], laidTests := true, laidLooks := .later }
def EaseBackUptoCardSaid : Prop := Claim7.holds Tryz.pinned (.plain (OpenSpec.upto easeBackSpec)) easeBackUptoCard

/-- THE SECOND FORM's CARD OF 'galleylaw16.EaseEnds'. -/
def easeEndsUptoCard : Claim7 := { stood := { row := easeEndsUptoRow, standIns := [], harness := (true, "61b3d1a2fd171e5ef5fcfd07f8605f7d9c5dd203c2986d90539d30942382d0c3"), looks := true }, kinds := [], alts := [], laidByText := true, laidKinds := [.data, .data, .data, .data, .sentinel, .sentinel, .pinned], laidTests := true, laidLooks := .later }
def EaseEndsUptoCardSaid : Prop := Claim7.holds Tryz.pinned (.plain (OpenSpec.upto easeEndsSpec)) easeEndsUptoCard

/-- THE SECOND FORM's CARD OF 'galleylaw16.EaseSteps'. -/
def easeStepsUptoCard : Claim7 := { stood := { row := easeStepsUptoRow, standIns := [], harness := (true, "61b3d1a2fd171e5ef5fcfd07f8605f7d9c5dd203c2986d90539d30942382d0c3"), looks := true }, kinds := [], alts := [], laidByText := true, laidKinds := [.data, .data, .data, .data, .sentinel, .sentinel, .pinned], laidTests := true, laidLooks := .later }
def EaseStepsUptoCardSaid : Prop := Claim7.holds Tryz.pinned (.plain (OpenSpec.upto easeStepsSpec)) easeStepsUptoCard

/-- THE SECOND FORM's CARD OF 'galleylaw16.EaseParses'. -/
def easeParsesUptoCard : Claim7 := { stood := { row := easeParsesUptoRow, standIns := [], harness := (true, "61b3d1a2fd171e5ef5fcfd07f8605f7d9c5dd203c2986d90539d30942382d0c3"), looks := true }, kinds := [], alts := [], laidByText := true, laidKinds := [.data, .data, .data, .data, .handle, .sentinel, .sentinel, .pinned], laidTests := true, laidLooks := .later }
def EaseParsesUptoCardSaid : Prop := Claim7.holds Tryz.pinned (.plain (OpenSpec.upto easeParsesSpec)) easeParsesUptoCard

/-- THE SECOND FORM's CARD OF 'galleylaw19.MotionTime'. -/
def motionTimeUptoCard : Claim7 := { stood := { row := motionTimeUptoRow, standIns := [], harness := (true, "61b3d1a2fd171e5ef5fcfd07f8605f7d9c5dd203c2986d90539d30942382d0c3"), looks := true }, kinds := [], alts := [], laidByText := true, laidKinds := [.data, .data, .data, .data, .sentinel, .sentinel, .pinned], laidTests := true, laidLooks := .later }
def MotionTimeUptoCardSaid : Prop := Claim7.holds Tryz.pinned (.plain (OpenSpec.upto motionTimeSpec)) motionTimeUptoCard

/-- THE SECOND FORM's CARD OF 'galleylaw19.MotionBack'. -/
def motionBackUptoCard : Claim7 := { stood := { row := motionBackUptoRow, standIns := [], harness := (true, "61b3d1a2fd171e5ef5fcfd07f8605f7d9c5dd203c2986d90539d30942382d0c3"), looks := true }, kinds := [], alts := [], laidByText := true, laidKinds := [.data, .data, .data, .data, .sentinel, .sentinel, .pinned], laidTests := true, laidLooks := .later }
def MotionBackUptoCardSaid : Prop := Claim7.holds Tryz.pinned (.plain (OpenSpec.upto motionBackSpec)) motionBackUptoCard

/-- THE SECOND FORM's CARD OF 'galleylaw19.MotionPlays'. -/
def motionPlaysUptoCard : Claim7 := { stood := { row := motionPlaysUptoRow, standIns := [], harness := (true, "61b3d1a2fd171e5ef5fcfd07f8605f7d9c5dd203c2986d90539d30942382d0c3"), looks := true }, kinds := [], alts := [], laidByText := true, laidKinds := [.data, .data, .data, .data, .sentinel, .sentinel, .pinned], laidTests := true, laidLooks := .later }
def MotionPlaysUptoCardSaid : Prop := Claim7.holds Tryz.pinned (.plain (OpenSpec.upto motionPlaysSpec)) motionPlaysUptoCard

/-- THE SECOND FORM's CARD OF 'galleylaw19.MotionLists'. -/
def motionListsUptoCard : Claim7 := { stood := { row := motionListsUptoRow, standIns := [], harness := (true, "61b3d1a2fd171e5ef5fcfd07f8605f7d9c5dd203c2986d90539d30942382d0c3"), looks := true }, kinds := [], alts := [], laidByText := true, laidKinds := [.data, .data, .data, .data, .sentinel, .sentinel, .pinned], laidTests := true, laidLooks := .later }
def MotionListsUptoCardSaid : Prop := Claim7.holds Tryz.pinned (.plain (OpenSpec.upto motionListsSpec)) motionListsUptoCard
end Rows
end Go.Proofs.YtlgencbldbpbdaaGreatDoor
