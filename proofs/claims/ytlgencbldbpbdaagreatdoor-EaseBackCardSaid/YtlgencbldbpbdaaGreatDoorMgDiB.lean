/- galleyref03.run. galleyref03.exponent. galleyref03.Figure. -/
import Derived.Test.YtlgencbldbpbdaaGreatDoorMgDhL
import Derived.Deep.DeepCutAuto
namespace Go.Proofs.YtlgencbldbpbdaaGreatDoor
open Go.RowKit Fl
end Go.Proofs.YtlgencbldbpbdaaGreatDoor

namespace Go.Proofs.YtlgencbldbpbdaaGreatDoor
open Go.RowKit Fl
theorem xI_zero {cap : Nat} {r : List Nat} (h : xN r = 0) : xI cap r = 0 := by
  have : xV r = 0 := by unfold xV; rw [h, List.take_zero]; rfl
  unfold xI
  rw [this, Nat.min_zero]
  split <;> rfl
theorem getD_none {l : List Nat} {k : Nat} (h : l.length ≤ k) : l.getD k 0 = 0 := by rw [List.getD, List.getElem?_eq_none h]; rfl
theorem cap_int {cap : Nat} (hc : 0 < cap) (v d : Nat) : min (cap : Int) (10 * ((min cap v : Nat) : Int) + (d : Int)) = ((min cap (v * 10 + d) : Nat) : Int) := by
  have := cap_step (x := d) (v := v) hc
  omega
end Go.Proofs.YtlgencbldbpbdaaGreatDoor

namespace Go.Proofs.YtlgencbldbpbdaaGreatDoor
open Go.RowKit Fl
theorem bl_slice (s : ByteArray) (a b : Nat) (h : a ≤ b) : bl (s.extract a b) = ((bl s).drop a).take (b - a) := by
  rw [bl_extract, List.drop_take]
end Go.Proofs.YtlgencbldbpbdaaGreatDoor
