/-
  DERIVED. GIVEN WITH THE SEED: THE CARDS: each row of YtlhldbbcelcclaaGreatDoorRows.lean that lists a variable, with what it lists TIED to the program's text (the seventh form; the later family's looks); each row that meets fmt, with fmt's text TOLD by the authors' own Lean function (tested against real Go, not proved from fmt's source: count such statements apart). THE CARD IS WHAT COUNTS. Prove the row's statement (the work); the ties are given (YtlhldbbcelcclaaGreatDoorTie.lean); close each card by the builder's one call (the guide's Derived/Test/ToyasCard.lean, 'card_holds'). Laid BY PROGRAM, IN A SANDBOX (cutbox-door.mjs). By AI agents, Wed Nov 11 2026. No macro, syntax, notation, axiom, sorry.
-/
import Derived.Test.YtlhldbbcelcclaaGreatDoorRows
import GoSem.ClaimSeven
namespace Go.Proofs.YtlhldbbcelcclaaGreatDoor
namespace Rows

/-- THE TIED CARD OF 'galleylaw16.EaseNames'. -/
def easeNamesCard : Claim7 := { stood := { row := easeNamesRow, standIns := [], harness := (true, "020b59e3502d8f7f2944844b4ad8f19d8b3d86c8c0a3910a6d2f993f712fe9a7"), looks := true }, kinds := [], alts := [], laidByText := true, laidKinds := [.data, .data, .data, .data, .sentinel, .sentinel, .pinned], laidTests := true, laidLooks := .later }
def EaseNamesCardSaid : Prop := Claim7.holds Tryz.pinned (.plain (OpenSpec.ofChange easeNamesSpec)) easeNamesCard

/-- THE TIED CARD OF 'galleylaw16.EaseBack'. -/
def easeBackCard : Claim7 := { stood := { row := easeBackRow, standIns := [], harness := (true, "020b59e3502d8f7f2944844b4ad8f19d8b3d86c8c0a3910a6d2f993f712fe9a7"), looks := true }, kinds := [], alts := [], laidByText := true, laidKinds := [.data, .data, .data, .data, .sentinel, .sentinel, .pinned], laidTests := true, laidLooks := .later }
def EaseBackCardSaid : Prop := Claim7.holds Tryz.pinned (.plain (OpenSpec.ofChange easeBackSpec)) easeBackCard

/-- THE TIED CARD OF 'galleylaw16.EaseEnds'. -/
def easeEndsCard : Claim7 := { stood := { row := easeEndsRow, standIns := [], harness := (true, "020b59e3502d8f7f2944844b4ad8f19d8b3d86c8c0a3910a6d2f993f712fe9a7"), looks := true }, kinds := [], alts := [], laidByText := true, laidKinds := [.data, .data, .data, .data, .sentinel, .sentinel, .pinned], laidTests := true, laidLooks := .later }
def EaseEndsCardSaid : Prop := Claim7.holds Tryz.pinned (.plain (OpenSpec.ofChange easeEndsSpec)) easeEndsCard

/-- THE TIED CARD OF 'galleylaw16.EaseSteps'. -/
def easeStepsCard : Claim7 := { stood := { row := easeStepsRow, standIns := [], harness := (true, "020b59e3502d8f7f2944844b4ad8f19d8b3d86c8c0a3910a6d2f993f712fe9a7"), looks := true }, kinds := [], alts := [], laidByText := true, laidKinds := [.data, .data, .data, .data, .sentinel, .sentinel, .pinned], laidTests := true, laidLooks := .later }
def EaseStepsCardSaid : Prop := Claim7.holds Tryz.pinned (.plain (OpenSpec.ofChange easeStepsSpec)) easeStepsCard

/-- THE TIED CARD OF 'galleylaw16.EaseParses'. -/
def easeParsesCard : Claim7 := { stood := { row := easeParsesRow, standIns := [], harness := (true, "020b59e3502d8f7f2944844b4ad8f19d8b3d86c8c0a3910a6d2f993f712fe9a7"), looks := true }, kinds := [], alts := [], laidByText := true, laidKinds := [.data, .data, .data, .data, .handle, .sentinel, .sentinel, .pinned], laidTests := true, laidLooks := .later }
def EaseParsesCardSaid : Prop := Claim7.holds Tryz.pinned (.plain (OpenSpec.ofChange easeParsesSpec)) easeParsesCard

/-- THE SECOND FORM's CARD OF 'galleylaw16.EaseNames'. -/
def easeNamesUptoCard : Claim7 := { stood := { row := easeNamesUptoRow, standIns := [], harness := (true, "020b59e3502d8f7f2944844b4ad8f19d8b3d86c8c0a3910a6d2f993f712fe9a7"), looks := true }, kinds := [], alts := [], laidByText := true, laidKinds := [.data, .data, .data, .data, .sentinel, .sentinel, .pinned], laidTests := true, laidLooks := .later }
def EaseNamesUptoCardSaid : Prop := Claim7.holds Tryz.pinned (.plain (OpenSpec.upto easeNamesSpec)) easeNamesUptoCard

/-- THE SECOND FORM's CARD OF 'galleylaw16.EaseBack'. -/
def easeBackUptoCard : Claim7 := { stood := { row := easeBackUptoRow, standIns := [], harness := (true, "020b59e3502d8f7f2944844b4ad8f19d8b3d86c8c0a3910a6d2f993f712fe9a7"), looks := true }, kinds := [], alts := [], laidByText := true, laidKinds := [.data, .data, .data, .data, .sentinel, .sentinel, .pinned], laidTests := true, laidLooks := .later }
def EaseBackUptoCardSaid : Prop := Claim7.holds Tryz.pinned (.plain (OpenSpec.upto easeBackSpec)) easeBackUptoCard

/-- THE SECOND FORM's CARD OF 'galleylaw16.EaseEnds'. -/
def easeEndsUptoCard : Claim7 := { stood := { row := easeEndsUptoRow, standIns := [], harness := (true, "020b59e3502d8f7f2944844b4ad8f19d8b3d86c8c0a3910a6d2f993f712fe9a7"), looks := true }, kinds := [], alts := [], laidByText := true, laidKinds := [.data, .data, .data, .data, .sentinel, .sentinel, .pinned], laidTests := true, laidLooks := .later }
def EaseEndsUptoCardSaid : Prop := Claim7.holds Tryz.pinned (.plain (OpenSpec.upto easeEndsSpec)) easeEndsUptoCard

/-- THE SECOND FORM's CARD OF 'galleylaw16.EaseSteps'. -/
def easeStepsUptoCard : Claim7 := { stood := { row := easeStepsUptoRow, standIns := [], harness := (true, "020b59e3502d8f7f2944844b4ad8f19d8b3d86c8c0a3910a6d2f993f712fe9a7"), looks := true }, kinds := [], alts := [], laidByText := true, laidKinds := [.data, .data, .data, .data, .sentinel, .sentinel, .pinned], laidTests := true, laidLooks := .later }
def EaseStepsUptoCardSaid : Prop := Claim7.holds Tryz.pinned (.plain (OpenSpec.upto easeStepsSpec)) easeStepsUptoCard

/-- THE SECOND FORM's CARD OF 'galleylaw16.EaseParses'. -/
def easeParsesUptoCard : Claim7 := { stood := { row := easeParsesUptoRow, standIns := [], harness := (true, "020b59e3502d8f7f2944844b4ad8f19d8b3d86c8c0a3910a6d2f993f712fe9a7"), looks := true }, kinds := [], alts := [], laidByText := true, laidKinds := [.data, .data, .data, .data, .handle, .sentinel, .sentinel, .pinned], laidTests := true, laidLooks := .later }
def EaseParsesUptoCardSaid : Prop := Claim7.holds Tryz.pinned (.plain (OpenSpec.upto easeParsesSpec)) easeParsesUptoCard
end Rows
end Go.Proofs.YtlhldbbcelcclaaGreatDoor
