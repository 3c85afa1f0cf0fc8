/- galleyref03.Print. -/
import Derived.Test.YtjkifbkehochoaaGreatDoorMgDmK
import Derived.Test.YtjkifbkehochoaaGreatDoorMgDlE
namespace Go.Proofs.YtjkifbkehochoaaGreatDoor.R
open Go.RowKit Fl
end Go.Proofs.YtjkifbkehochoaaGreatDoor.R
