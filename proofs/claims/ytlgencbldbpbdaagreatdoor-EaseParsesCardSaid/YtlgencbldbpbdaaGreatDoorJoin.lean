/- bits.nearest; Join, both. -/
import Derived.Test.YtlgencbldbpbdaaGreatDoorMgLen
import Derived.Test.YtlgencbldbpbdaaGreatDoorMgBase
import Derived.Deep.QuietTactic
import Derived.BigQuiet
namespace Go.Proofs.YtlgencbldbpbdaaGreatDoor
open Go.RowKit Fl
end Go.Proofs.YtlgencbldbpbdaaGreatDoor
