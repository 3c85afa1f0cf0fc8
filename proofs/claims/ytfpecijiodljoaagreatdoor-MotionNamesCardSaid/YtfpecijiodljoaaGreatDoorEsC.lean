/- alive answers true; the walk of MotionNames. -/
import Derived.Test.YtfpecijiodljoaaGreatDoorEsA
set_option maxRecDepth 1000000
set_option maxHeartbeats 0
namespace Go.Proofs.YtfpecijiodljoaaGreatDoor
open Go.RowKit
theorem alive_plain : Ev.PlainOK Tryz.prog 9 [] (.bool true) := Ev.gives_ok (Sm := Ev.SmT []) (d := 100) Ev.xok Ev.OKs.nil.ok Ev.mixed (by decide +kernel)
theorem motionNames_plain : Ev.PlainOK Tryz.prog 3 [] (.bool true) := Ev.gives_ok (Sm := Ev.SmT [(9, [], .bool true)]) (d := 100) Ev.xok (Ev.OKs.cons alive_plain Ev.OKs.nil).ok Ev.mixed (by decide +kernel)
theorem walkMotionNames (W : World) : Calls Tryz.prog 3 #[] W fun e w' => e = .returned (.bool true) ∧ Below W.heap.size W w' := motionNames_plain.calls W
end Go.Proofs.YtfpecijiodljoaaGreatDoor
