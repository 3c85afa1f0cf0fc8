/- The walk of DigitsNears, awake left open. -/
import Derived.Test.YtjkifbkehochoaaGreatDoorMgDhL
import Derived.Deep.RegionHeld3
namespace Go.Proofs.YtjkifbkehochoaaGreatDoor
open Go.RowKit Fl
/-- a row of values in memory -/
def VR (w : World) (A : Option Addr) (l : List Value) : Prop := l = [] ∨ ∃ b o, A = some ⟨b, o, none⟩ ∧ b < w.heap.size ∧ ∀ j x, l[j]? = some x → w.cell? ⟨b, o + j, none⟩ = some x
theorem VR.below {w w' : World} {A : Option Addr} {l : List Value} (h : VR w A l) (hb : Below w.heap.size w w') : VR w' A l := by
  rcases h with h | ⟨b, o, h1, h2, h3⟩
  · exact .inl h
  · exact .inr ⟨b, o, h1, Nat.lt_of_lt_of_le h2 hb.size, fun j x hj => (hb.cell (p := ⟨b, o + j, none⟩) h2).trans (h3 j x hj)⟩
theorem VR.at {w : World} {A : Option Addr} {l : List Value} (h : VR w A l) {k : Nat} {x : Value} (hk : l[k]? = some x) : ∃ b o, A = some ⟨b, o, none⟩ ∧ b < w.heap.size ∧ w.cell? ⟨b, o + k, none⟩ = some x := by
  rcases h with h | ⟨b, o, h1, h2, h3⟩
  · rw [h] at hk; cases hk
  · exact ⟨b, o, h1, h2, h3 k x hk⟩
end Go.Proofs.YtjkifbkehochoaaGreatDoor
