/- galleyref03.Read. -/
import Derived.Test.YtlgencbldbpbdaaGreatDoorQV
import Derived.Test.YtlgencbldbpbdaaGreatDoorMgFl
import Derived.Deep.CutBlock
namespace Go.Proofs.YtlgencbldbpbdaaGreatDoor.R
open Go.RowKit Fl
theorem nv_nil (w : World) : NV (w.alloc (.cells #[] 47)) (.slice (some ⟨w.heap.size, 0, none⟩) 0 0) 0 :=
  ⟨[], ⟨fun x hx => (nomatch hx), .inr ⟨w.heap.size, 0, 0, rfl, Nat.le_refl _, Nat.zero_le _, by simp, fun j x hj => (nomatch hj)⟩⟩, .inl rfl, rfl⟩
end Go.Proofs.YtlgencbldbpbdaaGreatDoor.R
