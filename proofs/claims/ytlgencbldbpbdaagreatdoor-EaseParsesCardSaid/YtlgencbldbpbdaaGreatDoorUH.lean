/- Plain laws of rounding bit by bit. -/
import Derived.Test.YtlgencbldbpbdaaGreatDoorMgArith
namespace Go.Proofs.YtlgencbldbpbdaaGreatDoor.Fl
end Go.Proofs.YtlgencbldbpbdaaGreatDoor.Fl
