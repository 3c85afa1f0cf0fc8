
/- An Acc: Add. -/
import Derived.Test.YthohhepoddnbnaaGreatDoorAccE
import Derived.Test.YthohhepoddnbnaaGreatDoorAccD
namespace Go.Proofs.YthohhepoddnbnaaGreatDoor
open Go.RowKit Fl

/-- an Acc and a number more -/
def addS (s : AS) (x : Nat) : AS :=
  ⟨if fin x then s.z + un x else s.z, s.nan || isN x, s.pos || decide (x = 9218868437227405312), s.neg || decide (x = 18442240474082181120), s.any || decide (x ≠ 9223372036854775808)⟩

end Go.Proofs.YthohhepoddnbnaaGreatDoor
