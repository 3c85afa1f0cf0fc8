
/- Plain, and a list of floats in memory. -/
import Derived.Test.YthohhepoddnbnaaGreatDoorAccJ
namespace Go.Proofs.YthohhepoddnbnaaGreatDoor
open Go.RowKit Fl

/-- a list of floats lies in block b from o on -/
structure FL (w : World) (b o : Nat) (l : List Nat) : Prop where
  cell : ∀ j x : Nat, l[j]? = some x → w.cell? ⟨b, o + j, none⟩ = some (.float .f64 x)
  u : ∀ j x : Nat, l[j]? = some x → U x
  lt : b < w.heap.size
theorem FL.below {w w' : World} {b o : Nat} {l : List Nat} (h : FL w b o l) (hb : Below w.heap.size w w') : FL w' b o l :=
  ⟨fun j x hj => (hb.cell (p := ⟨b, o + j, none⟩) h.lt).trans (h.cell j x hj), h.u, Nat.lt_of_lt_of_le h.lt hb.size⟩
/-- the place of the plain sum -/
def plainP (l : List Nat) : Int := l.foldl (fun p x => opP .add p (pl x)) (-1)
theorem plainP_take (l : List Nat) (k x : Nat) (h : l[k]? = some x) : plainP (l.take (k + 1)) = opP .add (plainP (l.take k)) (pl x) := by
  unfold plainP
  rw [List.take_add_one, h, List.foldl_append]; rfl
end Go.Proofs.YthohhepoddnbnaaGreatDoor
