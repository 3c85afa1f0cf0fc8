/- awake answers true, where errors.errorType is laid. -/
import Derived.Test.YthohhepoddnbnaaGreatDoorMgEsA
import Derived.Test.YthohhepoddnbnaaGreatDoorAsA
set_option maxRecDepth 1000000
set_option maxHeartbeats 0
namespace Go.Proofs.YthohhepoddnbnaaGreatDoor
open Go.RowKit
theorem awake_plain : Ev.PlainG Tryz.prog [(1, [hvError])] 9 [] (.bool true) := Ev.givesG_plain (Sm := Ev.SmOr (Ev.SmAs 72 1 hvError 89 107) (Ev.SmT [Ev.xe0, Ev.xe1, Ev.xe2])) (n := 10) (d := 100) Ev.xok ((Ev.SmAs_ok asHit).or (Ev.OKs.cons Ev.xs0 (Ev.OKs.cons Ev.xs1 (Ev.OKs.cons Ev.xs2 Ev.OKs.nil))).ok) Ev.mixed (by decide +kernel)
end Go.Proofs.YthohhepoddnbnaaGreatDoor
