/- Plain laws: what rounding loses is a number. No program in sight. -/
import Derived.Test.YtelalledjbeenaaFlB
namespace Go.Proofs.Ytelalledjbeenaa.Fl
open Ieee

/-- the value of a rounded number of units -/
theorem val_round (N : Nat) : val 52 (rungOf 52 N 0) = rhe N (2 ^ (N.log2 - 52)) * 2 ^ (N.log2 - 52) := by
  by_cases h0 : N = 0
  · subst h0; rw [rungOf_zero, val_zero, rhe_zero, Nat.zero_mul]
  have l1 := Nat.log2_self_le h0
  have l2 : N < 2 ^ (N.log2 + 1) := Nat.lt_log2_self
  unfold rungOf
  rw [Nat.sub_zero, Nat.zero_add]
  generalize hd : N.log2 - 52 = d at *
  rcases Nat.eq_zero_or_pos d with hz | hz
  · subst hz
    rw [Nat.pow_zero, rhe_one, Nat.zero_mul, Nat.zero_add, Nat.mul_one]
    refine val_small _ _ ?_
    have : 2 ^ (N.log2 + 1) ≤ 2 ^ 53 := Nat.pow_le_pow_right (by decide) (by omega)
    rw [show (2 : Nat) * 2 ^ 52 = 2 ^ 53 by decide]; omega
  · have e1 : N.log2 = d + 52 := by omega
    rw [e1, Nat.pow_add] at l1
    rw [e1, show d + 52 + 1 = d + 53 by omega, Nat.pow_add] at l2
    have q1 : 4503599627370496 ≤ rhe N (2 ^ d) := rhe_ge_of _ _ _ (Nat.two_pow_pos _) (by rw [show (4503599627370496 : Nat) = 2 ^ 52 by decide]; exact l1)
    have q2 : rhe N (2 ^ d) ≤ 9007199254740992 := rhe_le_of _ _ _ (Nat.two_pow_pos _) (by rw [show (9007199254740992 : Nat) = 2 ^ 53 by decide]; omega)
    generalize rhe N (2 ^ d) = q at *
    unfold val
    rw [show (2 : Nat) ^ 52 = 4503599627370496 by decide, if_neg (by omega)]
    by_cases hq : q = 9007199254740992
    · subst hq
      have a1 : (d * 4503599627370496 + 9007199254740992) / 4503599627370496 = d + 2 := by omega
      have a2 : (d * 4503599627370496 + 9007199254740992) % 4503599627370496 = 0 := by omega
      rw [a1, a2, show d + 2 - 1 = d + 1 by omega, Nat.pow_succ]
      generalize 2 ^ d = g
      omega
    · have a1 : (d * 4503599627370496 + q) / 4503599627370496 = d + 1 := by omega
      have a2 : (d * 4503599627370496 + q) % 4503599627370496 = q - 4503599627370496 := by omega
      rw [a1, a2, show d + 1 - 1 = d by omega, show 4503599627370496 + (q - 4503599627370496) = q by omega]
/-- above a bound all numbers are many times a power of two -/
theorem val_dvd (r d : Nat) (h : 4503599627370496 * 2 ^ d ≤ val 52 r) : ∃ k, val 52 r = k * 2 ^ d := by
  have hp := Nat.two_pow_pos d
  by_cases hr : r < 4503599627370496
  · rw [val_small 52 r (by rw [show (2 : Nat) ^ 52 = 4503599627370496 by decide]; omega)] at h
    have : 4503599627370496 * 1 ≤ 4503599627370496 * 2 ^ d := Nat.mul_le_mul_left _ hp
    omega
  · have hb := val_bounds 52 r (by rw [show (2 : Nat) ^ 52 = 4503599627370496 by decide]; omega)
    rw [show (2 : Nat) ^ 52 = 4503599627370496 by decide] at hb
    have h1 : 4503599627370496 * 2 ^ d < 4503599627370496 * 2 ^ (r / 4503599627370496) := by omega
    have h2 := Nat.lt_of_mul_lt_mul_left h1
    have h3 : d < r / 4503599627370496 := (Nat.pow_lt_pow_iff_right (by decide)).1 h2
    unfold val
    rw [show (2 : Nat) ^ 52 = 4503599627370496 by decide, if_neg hr]
    generalize r / 4503599627370496 = e at *
    refine ⟨(4503599627370496 + r % 4503599627370496) * 2 ^ (e - 1 - d), ?_⟩
    rw [Nat.mul_assoc, ← Nat.pow_add]
    congr 2; omega
theorem near_mul (N g k : Nat) (hg : 0 < g) : ((rhe N g * g : Nat) - (N : Int)).natAbs ≤ ((k * g : Nat) - (N : Int)).natAbs := by
  have hb := rhe_bounds N g hg
  rw [Nat.mul_comm g] at hb
  generalize rhe N g = q at *
  rcases Nat.lt_trichotomy k q with h | h | h
  · have h1 : (k + 1) * g ≤ q * g := Nat.mul_le_mul_right _ h
    rw [Nat.add_mul, Nat.one_mul] at h1
    omega
  · subst h; exact Nat.le_refl _
  · have h1 : (q + 1) * g ≤ k * g := Nat.mul_le_mul_right _ h
    rw [Nat.add_mul, Nat.one_mul] at h1
    omega
/-- no number is nearer -/
theorem nearest_le (N r : Nat) : ((val 52 (rungOf 52 N 0) : Nat) - (N : Int)).natAbs ≤ ((val 52 r : Nat) - (N : Int)).natAbs := by
  rw [val_round]
  by_cases h0 : N = 0
  · subst h0; rw [rhe_zero, Nat.zero_mul]; omega
  have l1 := Nat.log2_self_le h0
  generalize hd : N.log2 - 52 = d at *
  have hp := Nat.two_pow_pos d
  rcases Nat.eq_zero_or_pos d with hz | hz
  · subst hz; rw [Nat.pow_zero, rhe_one, Nat.mul_one]; omega
  · have e1 : N.log2 = 52 + d := by omega
    rw [e1, Nat.pow_add, show (2 : Nat) ^ 52 = 4503599627370496 by decide] at l1
    by_cases hv : 4503599627370496 * 2 ^ d ≤ val 52 r
    · obtain ⟨k, hk⟩ := val_dvd r d hv
      rw [hk]
      exact near_mul N (2 ^ d) k hp
    · have := near_mul N (2 ^ d) 4503599627370496 hp
      omega
theorem pow_split (j k : Nat) (h : j ≤ k) : ∃ c, 2 ^ k = c * 2 ^ j := ⟨2 ^ (k - j), by rw [← Nat.pow_add]; congr 1; omega⟩
/-- of many times a power of two nothing is lost, or what is left is -/
theorem round_mult (m j : Nat) : val 52 (rungOf 52 (m * 2 ^ j) 0) = m * 2 ^ j ∨ (j < (m * 2 ^ j).log2 - 52 ∧ ∃ k, val 52 (rungOf 52 (m * 2 ^ j) 0) = k * 2 ^ j) := by
  rw [val_round]
  generalize hd : (m * 2 ^ j).log2 - 52 = d
  rcases Nat.lt_or_ge j d with h | h
  · right
    obtain ⟨c, hc⟩ := pow_split j d (by omega)
    exact ⟨h, rhe (m * 2 ^ j) (2 ^ d) * c, by rw [hc, Nat.mul_assoc]⟩
  · left
    obtain ⟨c, hc⟩ := pow_split d j h
    rw [hc, ← Nat.mul_assoc, rhe_exact _ _ (Nat.two_pow_pos _)]
/-- such a number of units comes back whole -/
theorem rep_mult (m j r : Nat) (hm : m ≤ 9007199254740992) (hr : r < INF) (h : m * 2 ^ j ≤ val 52 r) : val 52 (rnd (m * 2 ^ j)) = m * 2 ^ j ∧ rnd (m * 2 ^ j) < INF := by
  have h1 := rnd_mono h
  rw [rnd_val r (by omega)] at h1
  have h2 : rnd (m * 2 ^ j) < INF := by omega
  have h3 : rnd (m * 2 ^ j) = rungOf 52 (m * 2 ^ j) 0 := by unfold rnd at h2 ⊢; omega
  exact ⟨by rw [h3]; exact val_rungOf_small 52 m j (by rw [show (2 : Nat) * 2 ^ 52 = 9007199254740992 by decide]; exact hm), h2⟩
end Go.Proofs.Ytelalledjbeenaa.Fl
