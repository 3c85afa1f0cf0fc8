
/- An Acc: Value, less than nought. -/
import Derived.Test.YthohhepoddnbnaaGreatDoorAccH
namespace Go.Proofs.YthohhepoddnbnaaGreatDoor
open Go.RowKit Fl

end Go.Proofs.YthohhepoddnbnaaGreatDoor
