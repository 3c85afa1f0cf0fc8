/- galleyref03: against. -/
import Derived.Test.YtlgencbldbpbdaaGreatDoorMgDhK
import Derived.Test.YtlgencbldbpbdaaGreatDoorMgQN
import Derived.Deep.RegionHeld3
import Derived.Deep.DeepCutAuto
import Derived.IntWalk
namespace Go.Proofs.YtlgencbldbpbdaaGreatDoor.R
open Go.RowKit Fl
theorem BdN {B : Nat} {a w : World} (h : Below B a w) (n : Nat) : Below B a (w.drewN n) := ⟨h.os, h.tape, h.output, h.size, h.block⟩
end Go.Proofs.YtlgencbldbpbdaaGreatDoor.R
