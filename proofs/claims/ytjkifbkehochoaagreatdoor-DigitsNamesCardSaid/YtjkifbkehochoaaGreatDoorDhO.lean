/- The walk of DigitsNears, as the card wants it. -/
import Derived.Test.YtjkifbkehochoaaGreatDoorOpenS
import Derived.Test.YtjkifbkehochoaaGreatDoorAwA
namespace Go.Proofs.YtjkifbkehochoaaGreatDoor
open Go.RowKit Fl
end Go.Proofs.YtjkifbkehochoaaGreatDoor
