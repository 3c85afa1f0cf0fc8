/- Arguments that are slices of one-cell elements, opened: their values lie in a block, or there are none. EaseBack: the walk. -/
import Derived.Test.YtlgencbldbpbdaaGreatDoorEwA
import Derived.Deep.Slices
import Derived.ChangeArms
import Derived.ProofKit
import Derived.SizedLaws
import Derived.Test.YtlgencbldbpbdaaGreatDoorMgEbK
import Derived.Test.YtlgencbldbpbdaaGreatDoorMgDhD
import Derived.Deep.DeepCutAuto
namespace Go.Proofs.YtlgencbldbpbdaaGreatDoor
open Go.ChangeShapes Go.WideShapes Go.RowKit Go.Deep Fl
def CS (w : World) (A : Option Addr) (l : List Value) : Prop := l = [] ∨ ∃ b o, A = some ⟨b, o, none⟩ ∧ b < w.heap.size ∧ ∀ j v : _, l[j]? = some v → w.cell? ⟨b, o + j, none⟩ = some v
section
variable {H : Type} {enc : TypeId × Value → H} {P : Program} {w : World} {r : Reach} {B0 : Nat}
end
theorem CS.below {w w' : World} {A : Option Addr} {l : List Value} (h : CS w A l) (hb : Below w.heap.size w w') : CS w' A l := by
 rcases h with h | ⟨b, o, h1, h2, h3⟩
 ·exact .inl h
 ·exact .inr ⟨b, o, h1, Nat.lt_of_lt_of_le h2 hb.size, fun j x hj => (hb.cell (p := ⟨b, o + j, none⟩) h2).trans (h3 j x hj)⟩
theorem CS.at {w : World} {A : Option Addr} {l : List Value} (h : CS w A l) {k : Nat} {x : Value} (hk : l[k]? = some x) : ∃ b o, A = some ⟨b, o, none⟩ ∧ b < w.heap.size ∧ w.cell? ⟨b, o + k, none⟩ = some x := by
 rcases h with h | ⟨b, o, h1, h2, h3⟩
 ·rw [h] at hk; cases hk
 ·exact ⟨b, o, h1, h2, h3 k x hk⟩
end Go.Proofs.YtlgencbldbpbdaaGreatDoor
namespace Go.Proofs.YtlgencbldbpbdaaGreatDoor
open Go.RowKit Fl
theorem bl_inj {a b : ByteArray} (h : bl a = bl b) : a = b := by
 unfold bl at h
 have h2 := (List.map_inj_right (fun x y h => UInt8.toNat_inj.1 h)).1 h
 cases a with
 | mk a =>
   cases b with
   | mk b =>
     have : a = b := Array.toList_inj.1 h2
     rw [this]
end Go.Proofs.YtlgencbldbpbdaaGreatDoor
