/- binary32: Wide, Narrow of Wide, same32. -/
import Derived.Test.YtedkbjimofiphaaMgBase
import Derived.Test.YtedkbjimofiphaaMgJoin
import Derived.Laws.NewFold
namespace Go.Proofs.Ytedkbjimofiphaa
open Go.RowKit Fl
def U32 (x : Nat) : Prop := x < 4294967296
theorem U32.lt {x : Nat} (h : U32 x) : x < 4294967296 := h
end Go.Proofs.Ytedkbjimofiphaa
