/- How two rows of digits stand, and as what they are read. Plain laws. A text of a known shape, read as a figure. Plain laws. -/
import Derived.Test.YtlgencbldbpbdaaGreatDoorMgDjB
import Derived.Test.YtlgencbldbpbdaaGreatDoorMgDhL
namespace Go.Proofs.YtlgencbldbpbdaaGreatDoor
open Fl
end Go.Proofs.YtlgencbldbpbdaaGreatDoor
namespace Go.Proofs.YtlgencbldbpbdaaGreatDoor
open Fl
theorem DG.head {W : List Nat} (h : DG W) (h0 : W ≠ []) : 48 ≤ W.getD 0 0 ∧ W.getD 0 0 ≤ 57 := by
 cases W with
 | nil => exact absurd rfl h0
 | cons x r => exact h x List.mem_cons_self
end Go.Proofs.YtlgencbldbpbdaaGreatDoor
