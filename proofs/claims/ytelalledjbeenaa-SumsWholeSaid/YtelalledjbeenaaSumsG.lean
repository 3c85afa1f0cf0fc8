/- Held. -/
import Derived.Test.YtelalledjbeenaaSumsF
namespace Go.Proofs.Ytelalledjbeenaa
open Go.RowKit Fl

def heldStep (a : Int × Int) (x : Nat) : Int × Int := (heldT a.1 (pl x), heldC a.1 a.2 (pl x))
def heldF (l : List Nat) : Int × Int := l.foldl heldStep (-1, 0)
/-- the place of Held's sum: an infinity, no number or nothing lost: as it is -/
def heldP (l : List Nat) : Int :=
  let a := heldF l
  if a.1 = 9223372036854775807 ∨ absP a.1 = 9218868437227405312 ∨ feqP a.2 0 = true then a.1 else opP .add a.1 a.2
theorem heldF_take (l : List Nat) (k x : Nat) (h : l[k]? = some x) : heldF (l.take (k + 1)) = heldStep (heldF (l.take k)) x := by
  unfold heldF
  rw [List.take_add_one, h, List.foldl_append]; rfl
end Go.Proofs.Ytelalledjbeenaa
