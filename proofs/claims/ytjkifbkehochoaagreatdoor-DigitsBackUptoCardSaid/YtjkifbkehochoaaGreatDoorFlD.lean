/- Plain laws, fourth part: binary32 in binary64 and back. -/
import Derived.Test.YtjkifbkehochoaaGreatDoorMgDjB
namespace Go.Proofs.YtjkifbkehochoaaGreatDoor.Fl
open Ieee
theorem val_1276 : val 52 (1276 * 4503599627370496) = 9007199254740992 * (ONE * 2 ^ 200) := by
  have hd : (1276 * 4503599627370496) / 2 ^ 52 - 1 = K + 201 := by decide
  have hm : 2 ^ 52 + (1276 * 4503599627370496) % 2 ^ 52 = 4503599627370496 := by decide
  unfold val
  rw [if_neg (by decide), hd, hm, Nat.pow_add, ← one_pow, show (2 : Nat) ^ 201 = 2 * 2 ^ 200 from by rw [Nat.pow_succ, Nat.mul_comm]]
  generalize ONE = o
  generalize (2 : Nat) ^ 200 = t
  rw [show (9007199254740992 : Nat) = 4503599627370496 * 2 from by decide]
  simp only [Nat.mul_assoc, Nat.mul_left_comm]
theorem small_word (m q : Nat) (hm : m ≤ 9007199254740992) (hq : q ≤ K + 200) : val 52 (rnd (m * 2 ^ q)) = m * 2 ^ q ∧ rnd (m * 2 ^ q) < INF := by
  have hv : val 52 (rungOf 52 (m * 2 ^ q) 0) = m * 2 ^ q := val_rungOf_small _ _ _ (by rw [B52]; omega)
  have h2 : 2 ^ q ≤ 2 ^ (K + 200) := Nat.pow_le_pow_right (by omega) hq
  have h3 : m * 2 ^ q ≤ 9007199254740992 * 2 ^ (K + 200) := Nat.mul_le_mul hm h2
  rw [Nat.pow_add, ← one_pow, ← val_1276] at h3
  have h5 := rungOf_mono 52 _ _ 0 h3
  rw [rungOf_val] at h5
  generalize m * 2 ^ q = N at *
  have er : rnd N = rungOf 52 N 0 := by unfold rnd INF; omega
  rw [er]
  exact ⟨hv, by unfold INF; omega⟩
end Go.Proofs.YtjkifbkehochoaaGreatDoor.Fl
