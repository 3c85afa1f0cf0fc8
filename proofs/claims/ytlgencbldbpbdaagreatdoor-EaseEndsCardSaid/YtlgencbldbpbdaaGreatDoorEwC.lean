/- The walk of EaseEnds, as the card wants it. -/
import Derived.Test.YtlgencbldbpbdaaGreatDoorMgEbK
import Derived.Test.YtlgencbldbpbdaaGreatDoorEwA
namespace Go.Proofs.YtlgencbldbpbdaaGreatDoor
open Go.RowKit Fl
theorem walkEnds (W : World) (hL : laidMetH Tryz.prog Rows.easeEndsRow.laid W) (hS : W.ShapedOpen Tryz.prog) (s : ByteArray) {p : Prop} (_ : p) :
    Calls Tryz.prog 4 #[.string s] W fun e w' => e = .returned (.bool true) ∧ Below W.heap.size W w' :=
  walkEaseEnds s W (ew_ends hL hS)
end Go.Proofs.YtlgencbldbpbdaaGreatDoor
