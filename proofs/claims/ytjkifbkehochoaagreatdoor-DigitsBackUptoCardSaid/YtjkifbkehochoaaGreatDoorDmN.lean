/- galleyref03.Print. -/
import Derived.Test.YtjkifbkehochoaaGreatDoorMgDmK
import Derived.Test.YtjkifbkehochoaaGreatDoorMgDlD
namespace Go.Proofs.YtjkifbkehochoaaGreatDoor.R
open Go.RowKit Fl
theorem bodyF_inf : bodyF INF = [73, 110, 102, 105, 110, 105, 116, 121] := by unfold bodyF; rw [if_neg (by decide), if_pos rfl]
end Go.Proofs.YtjkifbkehochoaaGreatDoor.R
