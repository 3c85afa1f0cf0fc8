/- bits.nearest; Join, both. -/
import Derived.Test.YtlgencbldbpbdaaGreatDoorLdexp
import Derived.Test.YtlgencbldbpbdaaGreatDoorParts
import Derived.Deep.QuietTactic
import Derived.BigQuiet
namespace Go.Proofs.YtlgencbldbpbdaaGreatDoor
open Go.RowKit Fl
end Go.Proofs.YtlgencbldbpbdaaGreatDoor
