
/- Same, Two. -/
import Derived.Test.YthohhepoddnbnaaGreatDoorSumsB
namespace Go.Proofs.YthohhepoddnbnaaGreatDoor
open Go.RowKit Fl

set_option maxRecDepth 100000 in
theorem c24 (x y : Nat) (w : World) (hx : U x) (hy : U y) : Calls Tryz.prog 56 #[.float .f64 x, .float .f64 y] w fun e w' => e = .returned (.bool (pl x == pl y)) ∧ w = w' := by
  have h := same_bits hx hy
  have e1 := neq_self x hx
  have e2 := neq_self y hy
  have e3 : ((x : Int) == (y : Int)) = (x == y) := by rw [Bool.eq_iff_iff]; simp; omega
  rw [← h]
  clear h
  cases h1 : (x == y) <;> cases h2 : isN x <;> cases h3 : isN y
  all_goals
    rw [h2] at e1
    rw [h3] at e2
    rw [h1] at e3
    clear h1 h2 h3
    go_enter Tryz.func56, Tryz.ntmps56
    go_wp2
    go_ret
    exact ⟨rfl, rfl⟩

/-- what is lost in a sum -/
def lostS (x y s : Nat) : AS := addS (addS (addS AS.zero x) y) (ng s)
theorem accS3 (x y z : Nat) : accS [x, y, z] = addS (addS (addS AS.zero x) y) z := rfl
/-- the sum is a number's: what is lost -/
def twoP (x y s : Nat) : Int := pV (lostS x y s)
end Go.Proofs.YthohhepoddnbnaaGreatDoor
