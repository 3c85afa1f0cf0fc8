/- Arguments that are matrices, opened; the walk of GeomMatrices, told for its frame. -/
import Derived.Test.YtedkbjimofiphaaMgInvC
import Derived.Test.YtedkbjimofiphaaMgItB
import Derived.DataReads
namespace Go.Proofs.Ytedkbjimofiphaa
open Go.ChangeShapes Go.WideShapes Go.RowKit
section
variable {H : Type} {enc : TypeId × Value → H} {P : Program} {w : World} {r : Reach} {B0 : Nat}
theorem mapM_each {α β : Type} {f : α → Option β} {l : List α} {r : List β} (h : l.mapM f = some r) : ∀ x ∈ l, ∃ y, f x = some y := fun x hx => by
  obtain ⟨i, hi, rfl⟩ := List.mem_iff_getElem.1 hx
  have hl := mapM_some_length h
  have := mapM_some_get h i _ (List.getElem?_eq_getElem hi)
  rw [List.getElem?_eq_getElem (by omega)] at this
  exact ⟨_, this⟩
end
end Go.Proofs.Ytedkbjimofiphaa
