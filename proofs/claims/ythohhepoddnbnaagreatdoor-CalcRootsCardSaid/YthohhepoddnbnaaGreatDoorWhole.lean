
/- RoundToEven, Whole; what draws leave alone. -/
import Derived.Test.YthohhepoddnbnaaGreatDoorBits
namespace Go.Proofs.YthohhepoddnbnaaGreatDoor
open Go.RowKit Fl

theorem Bdrew {B : Nat} {a w : World} (h : Below B a w) : Below B a w.drew := ⟨h.os, h.tape, h.output, h.size, h.block⟩

/-- of a number: the nearest whole one; an infinity as it is -/
def wh (x : Nat) : Nat := if fin x then whole x else x
/-- how the model's rounding goes on, by what the word stands for -/
def onDatum (x : Nat) : Ieee.Datum → Sem Value
  | .nan s t => if FloatKind.f64.format.quiet t = t then pure (.float .f64 x) else
    (choose (.extern "math.Floor,Ceil,Trunc,RoundToEven.signallingNaN kept" 2)).bind fun k => pure (.float .f64 (if k == 1 then x else FloatKind.f64.encode (.nan s (FloatKind.f64.format.quiet t))))
  | d => pure (.float .f64 (FloatKind.f64.encode (d.integral .even)))
theorem onDatum_eq (x : Nat) : Extern.MathFloor.toIntegral "math.RoundToEven" .even #[.float .f64 x] = onDatum x (Ieee.double.read x) := rfl
theorem U_wh (x : Nat) (hx : U x) : U (wh x) := by
  unfold wh; split
  · unfold whole; exact U_word _ _ (rnd_lt _)
  · exact hx
theorem isN_wh (x : Nat) (hn : isN x = false) : isN (wh x) = false := by
  unfold wh; split
  · rename_i h; exact fin_not_nan (fin_whole x h)
  · exact hn
theorem wh_wh (x : Nat) : wh (wh x) = wh x := by
  by_cases h : fin x = true
  · have e : wh x = whole x := by unfold wh; rw [if_pos h]
    rw [e]; unfold wh; rw [if_pos (fin_whole x h), whole_whole x h]
  · have e : wh x = x := by unfold wh; rw [if_neg h]
    rw [e, e]
end Go.Proofs.YthohhepoddnbnaaGreatDoor
