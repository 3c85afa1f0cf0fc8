/- galleyref03.Number. -/
import Derived.Test.YtjkifbkehochoaaGreatDoorMgDmK
import Derived.Test.YtjkifbkehochoaaGreatDoorMgDmH
import Derived.Lib.SlBytesRow
namespace Go.Proofs.YtjkifbkehochoaaGreatDoor.R
open Go.RowKit Fl
end Go.Proofs.YtjkifbkehochoaaGreatDoor.R
