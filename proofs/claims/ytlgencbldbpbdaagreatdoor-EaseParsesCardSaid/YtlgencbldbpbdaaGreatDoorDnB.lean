/- What is printed is read again. Plain laws. -/
import Derived.Test.YtlgencbldbpbdaaGreatDoorMgDkB
import Derived.Test.YtlgencbldbpbdaaGreatDoorMgDmI
namespace Go.Proofs.YtlgencbldbpbdaaGreatDoor
open Fl
end Go.Proofs.YtlgencbldbpbdaaGreatDoor
