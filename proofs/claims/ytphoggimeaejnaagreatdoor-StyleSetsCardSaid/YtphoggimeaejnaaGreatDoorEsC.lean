/- awake answers true, where errors.errorType is laid. -/
import Derived.Test.YtphoggimeaejnaaGreatDoorEsB
import Derived.Test.YtphoggimeaejnaaGreatDoorAsA
set_option maxRecDepth 1000000
set_option maxHeartbeats 0
namespace Go.Proofs.YtphoggimeaejnaaGreatDoor
open Go.RowKit
theorem awake_plain : Ev.PlainG Tryz.prog [(1, [hvError])] 6 [] (.bool true) := Ev.givesG_plain (Sm := Ev.SmOr (Ev.SmAs 45 1 hvError 91 133) (Ev.SmT [Ev.xe0, Ev.xe1, Ev.xe4, Ev.xe5, Ev.xe8, Ev.xe6])) (n := 10) (d := 100000) Ev.xok ((Ev.SmAs_ok asHit).or (Ev.OKs.cons Ev.xs0 (Ev.OKs.cons Ev.xs1 (Ev.OKs.cons Ev.xs4 (Ev.OKs.cons Ev.xs5 (Ev.OKs.cons Ev.xs8 (Ev.OKs.cons Ev.xs6 Ev.OKs.nil)))))).ok) Ev.mixed (by decide +kernel)
end Go.Proofs.YtphoggimeaejnaaGreatDoor
