/- The walk of EaseNames. -/
import Derived.Test.YtlhldbbcelcclaaGreatDoorEsB
set_option maxRecDepth 1000000
set_option maxHeartbeats 0
namespace Go.Proofs.YtlhldbbcelcclaaGreatDoor
open Go.RowKit
theorem easeNames_plain : Ev.PlainOK Tryz.prog 3 [] (.bool true) := Ev.gives_ok (Sm := Ev.SmT [Ev.xe12]) (d := 100) Ev.xok (Ev.OKs.cons Ev.xs12 Ev.OKs.nil).ok Ev.mixed (by decide +kernel)
theorem walkEaseNames (W : World) : Calls Tryz.prog 3 #[] W fun e w' => e = .returned (.bool true) ∧ Below W.heap.size W w' := easeNames_plain.calls W
end Go.Proofs.YtlhldbbcelcclaaGreatDoor
