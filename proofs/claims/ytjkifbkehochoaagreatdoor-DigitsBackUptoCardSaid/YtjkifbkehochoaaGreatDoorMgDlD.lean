/- galleyref03.Number. galleyref03.Shortest. galleyref03.Shortest: the walk. -/
import Derived.Test.YtjkifbkehochoaaGreatDoorMgDnB
import Derived.Test.YtjkifbkehochoaaGreatDoorMgDjB
import Derived.Lib.SlBytesRow
import Derived.Test.YtjkifbkehochoaaGreatDoorMgDhL
namespace Go.Proofs.YtjkifbkehochoaaGreatDoor.R
open Go.RowKit Fl
end Go.Proofs.YtjkifbkehochoaaGreatDoor.R

namespace Go.Proofs.YtjkifbkehochoaaGreatDoor.R
open Go.RowKit Fl
end Go.Proofs.YtjkifbkehochoaaGreatDoor.R

namespace Go.Proofs.YtjkifbkehochoaaGreatDoor.R
open Go.RowKit Fl
end Go.Proofs.YtjkifbkehochoaaGreatDoor.R
