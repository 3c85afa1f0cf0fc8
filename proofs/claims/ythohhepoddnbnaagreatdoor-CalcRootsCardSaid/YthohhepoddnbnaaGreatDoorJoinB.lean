
/- Join, both: the place of the number that it makes. -/
import Derived.Test.YthohhepoddnbnaaGreatDoorJoin
namespace Go.Proofs.YthohhepoddnbnaaGreatDoor
open Go.RowKit Fl

def joinP (neg : Bool) (c : Int) (m : Nat) (e : Int) : Int :=
  if c = 4 then 9223372036854775807 else if c = 3 then pl (word neg 9218868437227405312) else if c = 0 then pl (word neg 0) else pl (nearW neg m e)
theorem joinP4 (neg : Bool) (m : Nat) (e : Int) : joinP neg 4 m e = 9223372036854775807 := by unfold joinP; rw [if_pos rfl]
theorem joinP3 (neg : Bool) (m : Nat) (e : Int) : joinP neg 3 m e = pl (word neg 9218868437227405312) := by unfold joinP; rw [if_neg (by decide), if_pos rfl]
theorem joinP0 (neg : Bool) (m : Nat) (e : Int) : joinP neg 0 m e = pl (word neg 0) := by unfold joinP; rw [if_neg (by decide), if_neg (by decide), if_pos rfl]
theorem Bd {B : Nat} {a w : World} (h : Below B a w) (n : Nat) : Below B a (w.drewN n) := ⟨h.os, h.tape, h.output, h.size, h.block⟩
theorem U_nearW (neg : Bool) (m : Nat) (e : Int) : U (nearW neg m e) := by
  refine U_word _ _ ?_
  have : min (near m e) INF ≤ INF := Nat.min_le_right _ _
  unfold INF at *; omega

theorem q137 (w : World) (n : Nat) : Calls Tryz.prog 58 #[.int .i64 1] (w.drewN n) fun e w' => e = .returned (.float .f64 9218868437227405312) ∧ ∃ m, w' = w.drewN m :=
  Calls.quiet_of_same ((c137p _).mono fun _ _ ⟨a, b⟩ => ⟨a, b.symm⟩)
theorem min_inf_lt (a : Nat) : min a INF < 9223372036854775808 := by
  have : min a INF ≤ INF := Nat.min_le_right _ _
  unfold INF at *; omega

end Go.Proofs.YthohhepoddnbnaaGreatDoor
