/- Arguments that are slices of strings, of integers, opened. -/
import Derived.Test.YtjkifbkehochoaaGreatDoorOpenF
import Derived.Test.YtjkifbkehochoaaGreatDoorDhN
import Derived.Deep.Strs
import Derived.KernelRfl
namespace Go.Proofs.YtjkifbkehochoaaGreatDoor
open Go.ChangeShapes Go.WideShapes Go.RowKit Go.Deep
section
variable {H : Type} {enc : TypeId × Value → H} {w : World} {r : Reach} {B0 : Nat}
end
end Go.Proofs.YtjkifbkehochoaaGreatDoor
