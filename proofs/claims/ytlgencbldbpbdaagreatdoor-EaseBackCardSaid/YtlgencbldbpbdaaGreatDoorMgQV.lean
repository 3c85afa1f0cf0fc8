/- galleyref03: value. galleyref03.Read. -/
import Derived.Test.YtlgencbldbpbdaaGreatDoorQS
import Derived.Test.YtlgencbldbpbdaaGreatDoorAcc
import Derived.Test.YtlgencbldbpbdaaGreatDoorMgFl
import Derived.Deep.CutBlock
namespace Go.Proofs.YtlgencbldbpbdaaGreatDoor.R
open Go.RowKit Fl
theorem size_setCells (w : World) (b o : Nat) (vs : List Value) : (w.setCells b o vs).heap.size = w.heap.size := by
  induction vs generalizing o w with
  | nil => rfl
  | cons v r ih => rw [World.setCells, ih]; simp
theorem NV.set {w : World} {v : Value} {x c : Nat} {l : List Value} (h : NV w v x) (hc : ∀ o z, w.cell? ⟨c, o, none⟩ ≠ some (.int .u32 z)) : NV (w.setCells c 0 l) v x := by
  obtain ⟨ys, ⟨h1, h2⟩, h3, h4⟩ := h
  refine ⟨ys, ⟨h1, ?_⟩, h3, h4⟩
  rcases h2 with h2 | ⟨b, o, cp, rfl, h5, h6, h7⟩
  · exact .inl h2
  · refine .inr ⟨b, o, cp, rfl, h5, h6, by rw [size_setCells]; exact h7.1, fun j z hj => ?_⟩
    have k := h7.2 j z hj
    refine (World.cell?_setCells_out _ _ _ _ _ (fun e _ => ?_)).trans k
    have e : b = c := e
    subst e
    exact absurd k (hc _ _)
theorem NV.slice {w : World} {v : Value} {x : Nat} (h : NV w v x) : ∃ A m c, v = .slice A m c := by
  obtain ⟨l, h, _, _⟩ := h
  obtain ⟨A, c, rfl⟩ := h.form
  exact ⟨_, _, _, rfl⟩
end Go.Proofs.YtlgencbldbpbdaaGreatDoor.R

namespace Go.Proofs.YtlgencbldbpbdaaGreatDoor.R
open Go.RowKit Fl
theorem nv_nil (w : World) : NV (w.alloc (.cells #[] 47)) (.slice (some ⟨w.heap.size, 0, none⟩) 0 0) 0 :=
  ⟨[], ⟨fun x hx => (nomatch hx), .inr ⟨w.heap.size, 0, 0, rfl, Nat.le_refl _, Nat.zero_le _, by simp, fun j x hj => (nomatch hj)⟩⟩, .inl rfl, rfl⟩
end Go.Proofs.YtlgencbldbpbdaaGreatDoor.R
