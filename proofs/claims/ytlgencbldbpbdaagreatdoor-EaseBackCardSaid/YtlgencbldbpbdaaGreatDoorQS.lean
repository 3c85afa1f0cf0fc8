/- galleyref03: parts, nearest. -/
import Derived.Test.YtlgencbldbpbdaaGreatDoorQR
import Derived.Test.YtlgencbldbpbdaaGreatDoorMgFl
import Derived.Deep.MidRow
namespace Go.Proofs.YtlgencbldbpbdaaGreatDoor.R
open Go.RowKit Fl
/-- the number's cells stay -/
structure NR (w wx : World) (c : Nat) (va vb : Value) : Prop where
  r : wx.rangeAt c 0 [va, vb]
  lc : c < wx.heap.size
  l : Below w.heap.size w wx
theorem NR.below {w wx wy : World} {c : Nat} {va vb : Value} (h : NR w wx c va vb) (k : Below wx.heap.size wx wy) : NR w wy c va vb :=
  ⟨fun j v hj => (k.cell (p := ⟨c, 0 + j, none⟩) h.lc).trans (h.r j v hj), Nat.lt_of_lt_of_le h.lc k.size, h.l.trans (k.mono h.l.size)⟩
end Go.Proofs.YtlgencbldbpbdaaGreatDoor.R
