/-
  No cell of these rows narrows 'for every input' (looked for: loops, veiled, ifaces, maps, wideKeys, modest, calm, conditions, laid).
  DERIVED. THE GIVEN ROWS OF THIS SEAT. 3 by the template 'for every input the law returns true; each argument reads behind the call as it read before'; 0 by the template 'total and deterministic' (their statements: YtedkbjimofiphaaTotals.lean).
  GIVEN WITH THE SEED: the statements are not yours to turn. If you find one false, say at which input.
  Laid BY PROGRAM, IN A SANDBOX (cutbox-rows.mjs): the forced cells as the released guide's own fill.sh prints them over the translation 666effa30aac5403… (all of the seat's roots in one cut). By AI agents, Wed Nov 11 2026. No macro, syntax, notation, axiom, sorry.
-/
import Derived.Test.YtedkbjimofiphaaChecked
import GoSem.Claim
import GoSem.ClaimJoined
import GoSem.ClaimMapViews
import Derived.JoinedTies
import Derived.KernelRfl
namespace Go.Proofs.Ytedkbjimofiphaa
/- THE CELL 'sum', in the pinned program and in every row, IS THE sha256 OF THE DUMP (.gsa) THAT YtedkbjimofiphaaProg.lean LOADS. Nothing in Lean hashes anything: it is a label: what it is worth is what the hold of that sum in a sandbox is worth. -/
noncomputable def Try.pinned : Pinned := { name := "ytedkbjimofiphaa", sum := "666effa30aac54034174e9709f045e0cdded6383a4949c33599256669836c031", checked := Try.checked }
namespace Rows
def none {H : Type} : Left H := { results := [], args := [] }

/-- 'galleylaw20.ScenePaints': WHATEVER THE INPUT: true; the input reads as it did. -/
def scenePaintsSpec : ChangeSpec := { name := "scenePaints", fn := fun _ => fun
  | [d] => { results := [.lit (.bool true)], args := [d] }
  | _ => none }
def scenePaintsRow : OpenClaim := { program := "ytedkbjimofiphaa", sum := "666effa30aac54034174e9709f045e0cdded6383a4949c33599256669836c031", func := "galley/galleylaw20.ScenePaints", spec := "scenePaints", inPlace := ["math.Float64bits", "math.Float64frombits", "math/bits.Sub64", "math/bits.Add64"], unfollowed := true, recurses := true, apart := false }
def ScenePaintsSaid : Prop := scenePaintsRow.holds Try.pinned (OpenSpec.ofChange scenePaintsSpec)

/-- ITS FALSE NEIGHBOUR: 'it returns false'. Refute it at one input. -/
def scenePaintsWrong : ChangeSpec := { name := "scenePaints", fn := fun _ => fun
  | [d] => { results := [.lit (.bool false)], args := [d] }
  | _ => none }
def ScenePaintsWrongFalsely : Prop := scenePaintsRow.holds Try.pinned (OpenSpec.ofChange scenePaintsWrong)

/-- 'galleylaw20.SceneStands': WHATEVER THE INPUT: true; the input reads as it did. -/
def sceneStandsSpec : ChangeSpec := { name := "sceneStands", fn := fun _ => fun
  | [d1, d2] => { results := [.lit (.bool true)], args := [d1, d2] }
  | _ => none }
def sceneStandsRow : OpenClaim := { program := "ytedkbjimofiphaa", sum := "666effa30aac54034174e9709f045e0cdded6383a4949c33599256669836c031", func := "galley/galleylaw20.SceneStands", spec := "sceneStands", inPlace := ["math.Float64bits", "math.Float64frombits", "math/bits.Sub64", "math/bits.Add64"], unfollowed := true, recurses := true, apart := false }
def SceneStandsSaid : Prop := sceneStandsRow.holds Try.pinned (OpenSpec.ofChange sceneStandsSpec)

/-- ITS FALSE NEIGHBOUR: 'it returns false'. Refute it at one input. -/
def sceneStandsWrong : ChangeSpec := { name := "sceneStands", fn := fun _ => fun
  | [d1, d2] => { results := [.lit (.bool false)], args := [d1, d2] }
  | _ => none }
def SceneStandsWrongFalsely : Prop := sceneStandsRow.holds Try.pinned (OpenSpec.ofChange sceneStandsWrong)

/-- 'galleylaw20.SceneParts': WHATEVER THE INPUT: true; the input reads as it did. -/
def scenePartsSpec : ChangeSpec := { name := "sceneParts", fn := fun _ => fun
  | [d] => { results := [.lit (.bool true)], args := [d] }
  | _ => none }
def scenePartsRow : OpenClaim := { program := "ytedkbjimofiphaa", sum := "666effa30aac54034174e9709f045e0cdded6383a4949c33599256669836c031", func := "galley/galleylaw20.SceneParts", spec := "sceneParts", inPlace := ["math.Float64bits", "math.Float64frombits", "math/bits.Sub64", "math/bits.Add64"], unfollowed := true, recurses := true, apart := false }
def ScenePartsSaid : Prop := scenePartsRow.holds Try.pinned (OpenSpec.ofChange scenePartsSpec)

/-- ITS FALSE NEIGHBOUR: 'it returns false'. Refute it at one input. -/
def scenePartsWrong : ChangeSpec := { name := "sceneParts", fn := fun _ => fun
  | [d] => { results := [.lit (.bool false)], args := [d] }
  | _ => none }
def ScenePartsWrongFalsely : Prop := scenePartsRow.holds Try.pinned (OpenSpec.ofChange scenePartsWrong)

/- THE SECOND FORM. 'bulk': how many values and letters a reading holds, each counted each time it is reached (what is shared counts as often as it is met; a slice's spare places count too). A statement '..UptoSaid' is the law's where the arguments, and the package variables that the reading takes, are together of bulk at most 1048576: NARROWER than '..Said'. Prove '..Said' where nothing that the law and all that it calls make is longer than what came in: it says more and counts as full. Else prove '..UptoSaid'. A law counts once. -/
mutual
def uptoBulk {H : Type} : DataW H → Nat
  | .lit (.string bytes) => bytes.length + 1
  | .lit _ => 1
  | .nil => 1
  | .ptr d => uptoBulk d + 1
  | .slice elems spare => uptoBulkAll elems + uptoBulkAll spare + 1
  | .agg parts => uptoBulkAll parts + 1
  | .iface _ d => uptoBulk d + 1
  | .map entries => uptoBulkEntries entries + 1
  | .held _ => 1
def uptoBulkAll {H : Type} : List (DataW H) → Nat
  | [] => 0
  | d :: r => uptoBulk d + uptoBulkAll r
def uptoBulkEntries {H : Type} : List (Lit × DataW H) → Nat
  | [] => 0
  | x :: r => uptoBulkEntry x + uptoBulkEntries r
def uptoBulkEntry {H : Type} : Lit × DataW H → Nat
  | (.string bytes, d) => bytes.length + uptoBulk d + 1
  | (_, d) => uptoBulk d + 1
 end
def uptoSmall : (H : Type) → List (DataW H) → Bool := fun _ ds => decide (uptoBulkAll ds ≤ 1048576)
def OpenSpec.upto (s : _root_.Go.ChangeSpec) : _root_.Go.OpenSpec := { _root_.Go.OpenSpec.ofChange s with cond := some uptoSmall }

/-- 'galleylaw20.ScenePaints', WHERE WHAT IT READS IS OF BULK AT MOST 1048576: true; the input reads as it did. -/
def scenePaintsUptoRow : OpenClaim := { program := "ytedkbjimofiphaa", sum := "666effa30aac54034174e9709f045e0cdded6383a4949c33599256669836c031", func := "galley/galleylaw20.ScenePaints", spec := "scenePaints", inPlace := ["math.Float64bits", "math.Float64frombits", "math/bits.Sub64", "math/bits.Add64"], unfollowed := true, recurses := true, apart := false, narrowed := true }
def ScenePaintsUptoSaid : Prop := scenePaintsUptoRow.holds Try.pinned (OpenSpec.upto scenePaintsSpec)

/-- 'galleylaw20.SceneStands', WHERE WHAT IT READS IS OF BULK AT MOST 1048576: true; the input reads as it did. -/
def sceneStandsUptoRow : OpenClaim := { program := "ytedkbjimofiphaa", sum := "666effa30aac54034174e9709f045e0cdded6383a4949c33599256669836c031", func := "galley/galleylaw20.SceneStands", spec := "sceneStands", inPlace := ["math.Float64bits", "math.Float64frombits", "math/bits.Sub64", "math/bits.Add64"], unfollowed := true, recurses := true, apart := false, narrowed := true }
def SceneStandsUptoSaid : Prop := sceneStandsUptoRow.holds Try.pinned (OpenSpec.upto sceneStandsSpec)

/-- 'galleylaw20.SceneParts', WHERE WHAT IT READS IS OF BULK AT MOST 1048576: true; the input reads as it did. -/
def scenePartsUptoRow : OpenClaim := { program := "ytedkbjimofiphaa", sum := "666effa30aac54034174e9709f045e0cdded6383a4949c33599256669836c031", func := "galley/galleylaw20.SceneParts", spec := "sceneParts", inPlace := ["math.Float64bits", "math.Float64frombits", "math/bits.Sub64", "math/bits.Add64"], unfollowed := true, recurses := true, apart := false, narrowed := true }
def ScenePartsUptoSaid : Prop := scenePartsUptoRow.holds Try.pinned (OpenSpec.upto scenePartsSpec)

end Rows
end Go.Proofs.Ytedkbjimofiphaa
