/- bits.nearest; Join, both. -/
import Derived.Test.YtjkifbkehochoaaGreatDoorMgLdexp
import Derived.Test.YtjkifbkehochoaaGreatDoorMgDmH
import Derived.Deep.QuietTactic
import Derived.BigQuiet
namespace Go.Proofs.YtjkifbkehochoaaGreatDoor
open Go.RowKit Fl
end Go.Proofs.YtjkifbkehochoaaGreatDoor
