/- rounded: the walk. -/
import Derived.Test.YthohhepoddnbnaaGreatDoorMgAccB
import Derived.Test.YthohhepoddnbnaaGreatDoorAlive
import Derived.Deep.DeepCutAuto
import Derived.Deep.CutBlock
import Derived.Outline
namespace Go.Proofs.YthohhepoddnbnaaGreatDoor
open Go.RowKit Fl

theorem wrap_succ (q : Nat) (h : q < 9007199254740992) : IntKind.u64.wrap ((q : Int) + 1) = ((q + 1 : Nat) : Int) := by rw [IntKind.wrap_u64]; omega
def rb (n k : Nat) : Bool := decide (n % 2 ^ k ≠ 0)
theorem rest_step (n k : Nat) (h : n % 2 ^ k = 0) : decide (n / 2 ^ k % 2 = 1) = rb n (k + 1) := by
  unfold rb
  have hp := Nat.two_pow_pos k
  have e : n % 2 ^ (k + 1) = n % 2 ^ k + 2 ^ k * (n / 2 ^ k % 2) := by rw [Nat.pow_succ, Nat.mod_mul]
  rw [e, h, Nat.zero_add]
  have h2 : n / 2 ^ k % 2 = 0 ∨ n / 2 ^ k % 2 = 1 := by omega
  rcases h2 with h2 | h2 <;> rw [h2] <;> simp
theorem rest_more (n k m : Nat) (hk : k ≤ m) (h : n % 2 ^ k ≠ 0) : n % 2 ^ m ≠ 0 := by
  intro h0
  apply h
  have : 2 ^ k ∣ 2 ^ m := Nat.pow_dvd_pow 2 hk
  exact Nat.mod_eq_zero_of_dvd (Nat.dvd_trans this (Nat.dvd_of_mod_eq_zero h0))

end Go.Proofs.YthohhepoddnbnaaGreatDoor
