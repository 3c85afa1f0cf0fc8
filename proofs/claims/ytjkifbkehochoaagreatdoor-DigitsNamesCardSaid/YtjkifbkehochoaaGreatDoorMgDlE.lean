/- galleyref03.Shortest. galleyref03.Shortest: the walk. -/
import Derived.Test.YtjkifbkehochoaaGreatDoorDlD
import Derived.Test.YtjkifbkehochoaaGreatDoorMgDkB
namespace Go.Proofs.YtjkifbkehochoaaGreatDoor.R
open Go.RowKit Fl
end Go.Proofs.YtjkifbkehochoaaGreatDoor.R

namespace Go.Proofs.YtjkifbkehochoaaGreatDoor.R
open Go.RowKit Fl
end Go.Proofs.YtjkifbkehochoaaGreatDoor.R
