/- Arguments that are slices of one-cell elements, opened: their values lie in a block, or there are none. -/
import Derived.Test.YtjkifbkehochoaaGreatDoorBulk
import Derived.Deep.Slices
import Derived.ChangeArms
import Derived.ProofKit
import Derived.SizedLaws
namespace Go.Proofs.YtjkifbkehochoaaGreatDoor
open Go.ChangeShapes Go.WideShapes Go.RowKit Go.Deep
/-- a slice's values: none, or they lie in a block -/
def CS (w : World) (A : Option Addr) (l : List Value) : Prop := l = [] ∨ ∃ b o, A = some ⟨b, o, none⟩ ∧ b < w.heap.size ∧ ∀ j v : _, l[j]? = some v → w.cell? ⟨b, o + j, none⟩ = some v
section
variable {H : Type} {enc : TypeId × Value → H} {P : Program} {w : World} {r : Reach} {B0 : Nat}
end
end Go.Proofs.YtjkifbkehochoaaGreatDoor
