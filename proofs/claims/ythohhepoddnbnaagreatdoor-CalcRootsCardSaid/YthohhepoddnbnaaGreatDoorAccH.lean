
/- An Acc: Value. -/
import Derived.Test.YthohhepoddnbnaaGreatDoorAccG
namespace Go.Proofs.YthohhepoddnbnaaGreatDoor
open Go.RowKit Fl

/-- the place of what an Acc tells -/
def pV (s : AS) : Int :=
  if s.nan || (s.pos && s.neg) then 9223372036854775807 else if s.pos then 9218868437227405312 else if s.neg then -9218868437227405313
  else if s.z < 0 then -(rnd s.z.natAbs : Int) - 1 else if rnd s.z.natAbs = 0 ∧ s.any = false then -1 else (rnd s.z.natAbs : Int)
def B2559 : Int := 2 ^ 2559
theorem sign_word (z : Int) (h1 : -B2559 ≤ z) (h2 : z < B2559) : (wd z 39 / 9223372036854775808 == 1) = decide (z < 0) := by
  unfold wd
  rw [show 64 * 39 = 2496 by rfl]
  have hP : B2559 = 9223372036854775808 * (2 : Int) ^ 2496 := by unfold B2559; rw [show (9223372036854775808 : Int) = 2 ^ 63 by rfl, ← Int.pow_add]
  have hp : (0 : Int) < 2 ^ 2496 := Int.pow_pos (by decide)
  rw [hP] at h1 h2
  generalize (2 : Int) ^ 2496 = p at *
  have hq2 : z / p < 9223372036854775808 := Int.ediv_lt_of_lt_mul hp h2
  have hq1 : -9223372036854775808 ≤ z / p := Int.le_ediv_of_mul_le hp (by omega)
  have hs : z / p < 0 ↔ z < 0 := ⟨fun h => by have := fun h0 : 0 ≤ z => Int.ediv_nonneg h0 (Int.le_of_lt hp); omega, fun h => Int.ediv_lt_of_lt_mul hp (by omega)⟩
  generalize z / p = q at *
  by_cases h0 : z < 0
  · have := hs.2 h0
    rw [decide_eq_true h0]; simp; omega
  · have : ¬ q < 0 := fun h => h0 (hs.1 h)
    rw [decide_eq_false h0]; simp; omega
theorem B2559_cap (n : Nat) (h : (n : Int) ≤ B2559) : n < 2 ^ (64 * CAP) := by
  have h2 : B2559 = ((2 ^ 2559 : Nat) : Int) := by unfold B2559; exact (Int.natCast_pow 2 2559).symm
  have h3 : n ≤ 2 ^ 2559 := by rw [h2] at h; exact Int.ofNat_le.1 h
  have h4 : ∀ k m : Nat, k < m → 2 ^ k < 2 ^ m := fun k m h => Nat.pow_lt_pow_right (by decide) h
  exact Nat.lt_of_le_of_lt h3 (h4 2559 (64 * CAP) (by rw [CAP_eq]; decide))
theorem wd_nn (z : Int) (i : Nat) : 0 ≤ wd z i := by unfold wd; exact Int.emod_nonneg _ (by decide)

theorem AS.boolsN (s : AS) (h : (s.nan || (s.pos && s.neg)) = true) : pV s = 9223372036854775807 := by unfold pV; rw [if_pos h]
theorem pl_small (r : Nat) (h : r ≤ INF) : pl r = (r : Int) := by
  have := pl_word false r h
  rw [if_neg (by decide)] at this
  exact this
theorem U_small {r : Nat} (h : r ≤ INF) : U r := by unfold U; unfold INF at h; omega
theorem eq_zero_false (r : Nat) (h : r ≤ INF) (h0 : r ≠ 0) : (FloatKind.f64.format.order r 0 == some Ordering.eq) = false := by
  rw [f_eq r 0 (U_small h) (by unfold U; decide), pl_small r h, pl_small 0 (by unfold INF; omega)]
  unfold feqP zk
  rw [if_neg (by omega), if_neg (by omega), decide_eq_false (show ¬ ((r : Int) = ((0 : Nat) : Int)) by omega), Bool.and_false]
theorem RetF_small (r : Nat) (h : r ≤ INF) : RetF (r : Int) (.returned (.float .f64 r)) := ⟨r, rfl, U_small h, pl_small r h⟩
theorem rnd_le_INF (n : Nat) : rnd n ≤ INF := by unfold rnd; exact Nat.min_le_right _ _
end Go.Proofs.YthohhepoddnbnaaGreatDoor
