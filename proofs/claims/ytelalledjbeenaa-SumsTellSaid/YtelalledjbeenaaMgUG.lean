/- Rows of seventy words by value: one bit. Plain laws: what rounding loses is a number. No program in sight. Plain laws of rounding bit by bit. -/
import Derived.Test.YtelalledjbeenaaMgUE
import Derived.Test.YtelalledjbeenaaFlB
namespace Go.Proofs.Ytelalledjbeenaa
open Go.RowKit Fl

theorem bit_dg (n i : Nat) : dg n (i / 32) / 2 ^ (i % 32) % 2 = n / 2 ^ i % 2 := by
  have e : n / 2 ^ i = n / 2 ^ (32 * (i / 32)) / 2 ^ (i % 32) := by
    rw [Nat.div_div_eq_div_mul, ← Nat.pow_add]; congr 2; omega
  rw [e]
  unfold dg
  generalize n / 2 ^ (32 * (i / 32)) = q
  have hr : i % 32 < 32 := Nat.mod_lt _ (by decide)
  generalize i % 32 = r at *
  have e2 : (4294967296 : Nat) = 2 ^ r * 2 ^ (31 - r) * 2 := by
    rw [Nat.mul_assoc, ← Nat.pow_succ, ← Nat.pow_add]
    rw [show r + (31 - r).succ = 32 by omega]
  rw [e2, Nat.mul_assoc, Nat.mod_mul_right_div_self, Nat.mul_comm (2 ^ (31 - r)) 2, Nat.mod_mul_right_mod]
set_option maxRecDepth 100000 in
set_option maxHeartbeats 1000000 in
theorem c185 (n : Nat) (i : Nat) (w : World) (hi : i < 2240) : Calls Try.prog 185 #[.agg (UL n).toArray, .int .i64 i] w fun e w' => e = .returned (.int .u64 ((n / 2 ^ i % 2 : Nat) : Int)) ∧ Below w.heap.size w w' := by
  have c0 := (urow_new w n 108 (i / 32) (by omega)).1
  rw [Nat.zero_add] at c0
  have B1 : Hid (Below w.heap.size w (w.alloc (.cells (UL n).toArray 108))) := Lib.hid ((Below.refl _ _).alloc (Nat.le_refl _) _)
  have hb := bit_dg n i
  have hu := dg_lt n (i / 32)
  have HB := Lib.hid (And.intro hb hu)
  have hq : (i : Int) / 32 < 70 := by omega
  have hii : (i : Int) < 2240 := by omega
  clear hb hu
  go_enter Try.func185, Try.ntmps185
  go_wp2
  go_ret
  refine ⟨ret_int ?_, B1.out⟩
  rw [cast_div, show (1 : Int) = ((1 : Nat) : Int) from rfl, u32_and_nat _ _ (Nat.lt_of_le_of_lt (Nat.div_le_self _ _) HB.out.2) (by decide), Nat.and_one_is_mod, HB.out.1, IntKind.wrap_u64]
  have : n / 2 ^ i % 2 < 2 := Nat.mod_lt _ (by decide)
  omega
/-- nought with a sign -/
theorem c170 (neg : Bool) (w : World) : Calls Try.prog 170 #[.bool neg] w fun e w' => e = .returned (.float .f64 (if neg then 9223372036854775808 else 0)) ∧ w = w' := by
  have hx := fun w => x153 9223372036854775808 w
  cases neg
  · go_enter Try.func170, Try.ntmps170
    go_wp2
    go_ret
    exact ⟨rfl, rfl⟩
  · go_enter Try.func170, Try.ntmps170
    go_wp2
    go_ret
    exact ⟨rfl, rfl⟩
end Go.Proofs.Ytelalledjbeenaa

namespace Go.Proofs.Ytelalledjbeenaa.Fl
open Ieee

/-- the value of a rounded number of units -/
theorem val_round (N : Nat) : val 52 (rungOf 52 N 0) = rhe N (2 ^ (N.log2 - 52)) * 2 ^ (N.log2 - 52) := by
  by_cases h0 : N = 0
  · subst h0; rw [rungOf_zero, val_zero, rhe_zero, Nat.zero_mul]
  have l1 := Nat.log2_self_le h0
  have l2 : N < 2 ^ (N.log2 + 1) := Nat.lt_log2_self
  unfold rungOf
  rw [Nat.sub_zero, Nat.zero_add]
  generalize hd : N.log2 - 52 = d at *
  rcases Nat.eq_zero_or_pos d with hz | hz
  · subst hz
    rw [Nat.pow_zero, rhe_one, Nat.zero_mul, Nat.zero_add, Nat.mul_one]
    refine val_small _ _ ?_
    have : 2 ^ (N.log2 + 1) ≤ 2 ^ 53 := Nat.pow_le_pow_right (by decide) (by omega)
    rw [show (2 : Nat) * 2 ^ 52 = 2 ^ 53 by decide]; omega
  · have e1 : N.log2 = d + 52 := by omega
    rw [e1, Nat.pow_add] at l1
    rw [e1, show d + 52 + 1 = d + 53 by omega, Nat.pow_add] at l2
    have q1 : 4503599627370496 ≤ rhe N (2 ^ d) := rhe_ge_of _ _ _ (Nat.two_pow_pos _) (by rw [show (4503599627370496 : Nat) = 2 ^ 52 by decide]; exact l1)
    have q2 : rhe N (2 ^ d) ≤ 9007199254740992 := rhe_le_of _ _ _ (Nat.two_pow_pos _) (by rw [show (9007199254740992 : Nat) = 2 ^ 53 by decide]; omega)
    generalize rhe N (2 ^ d) = q at *
    unfold val
    rw [show (2 : Nat) ^ 52 = 4503599627370496 by decide, if_neg (by omega)]
    by_cases hq : q = 9007199254740992
    · subst hq
      have a1 : (d * 4503599627370496 + 9007199254740992) / 4503599627370496 = d + 2 := by omega
      have a2 : (d * 4503599627370496 + 9007199254740992) % 4503599627370496 = 0 := by omega
      rw [a1, a2, show d + 2 - 1 = d + 1 by omega, Nat.pow_succ]
      generalize 2 ^ d = g
      omega
    · have a1 : (d * 4503599627370496 + q) / 4503599627370496 = d + 1 := by omega
      have a2 : (d * 4503599627370496 + q) % 4503599627370496 = q - 4503599627370496 := by omega
      rw [a1, a2, show d + 1 - 1 = d by omega, show 4503599627370496 + (q - 4503599627370496) = q by omega]
/-- above a bound all numbers are many times a power of two -/
theorem val_dvd (r d : Nat) (h : 4503599627370496 * 2 ^ d ≤ val 52 r) : ∃ k, val 52 r = k * 2 ^ d := by
  have hp := Nat.two_pow_pos d
  by_cases hr : r < 4503599627370496
  · rw [val_small 52 r (by rw [show (2 : Nat) ^ 52 = 4503599627370496 by decide]; omega)] at h
    have : 4503599627370496 * 1 ≤ 4503599627370496 * 2 ^ d := Nat.mul_le_mul_left _ hp
    omega
  · have hb := val_bounds 52 r (by rw [show (2 : Nat) ^ 52 = 4503599627370496 by decide]; omega)
    rw [show (2 : Nat) ^ 52 = 4503599627370496 by decide] at hb
    have h1 : 4503599627370496 * 2 ^ d < 4503599627370496 * 2 ^ (r / 4503599627370496) := by omega
    have h2 := Nat.lt_of_mul_lt_mul_left h1
    have h3 : d < r / 4503599627370496 := (Nat.pow_lt_pow_iff_right (by decide)).1 h2
    unfold val
    rw [show (2 : Nat) ^ 52 = 4503599627370496 by decide, if_neg hr]
    generalize r / 4503599627370496 = e at *
    refine ⟨(4503599627370496 + r % 4503599627370496) * 2 ^ (e - 1 - d), ?_⟩
    rw [Nat.mul_assoc, ← Nat.pow_add]
    congr 2; omega
theorem near_mul (N g k : Nat) (hg : 0 < g) : ((rhe N g * g : Nat) - (N : Int)).natAbs ≤ ((k * g : Nat) - (N : Int)).natAbs := by
  have hb := rhe_bounds N g hg
  rw [Nat.mul_comm g] at hb
  generalize rhe N g = q at *
  rcases Nat.lt_trichotomy k q with h | h | h
  · have h1 : (k + 1) * g ≤ q * g := Nat.mul_le_mul_right _ h
    rw [Nat.add_mul, Nat.one_mul] at h1
    omega
  · subst h; exact Nat.le_refl _
  · have h1 : (q + 1) * g ≤ k * g := Nat.mul_le_mul_right _ h
    rw [Nat.add_mul, Nat.one_mul] at h1
    omega
/-- no number is nearer -/
theorem nearest_le (N r : Nat) : ((val 52 (rungOf 52 N 0) : Nat) - (N : Int)).natAbs ≤ ((val 52 r : Nat) - (N : Int)).natAbs := by
  rw [val_round]
  by_cases h0 : N = 0
  · subst h0; rw [rhe_zero, Nat.zero_mul]; omega
  have l1 := Nat.log2_self_le h0
  generalize hd : N.log2 - 52 = d at *
  have hp := Nat.two_pow_pos d
  rcases Nat.eq_zero_or_pos d with hz | hz
  · subst hz; rw [Nat.pow_zero, rhe_one, Nat.mul_one]; omega
  · have e1 : N.log2 = 52 + d := by omega
    rw [e1, Nat.pow_add, show (2 : Nat) ^ 52 = 4503599627370496 by decide] at l1
    by_cases hv : 4503599627370496 * 2 ^ d ≤ val 52 r
    · obtain ⟨k, hk⟩ := val_dvd r d hv
      rw [hk]
      exact near_mul N (2 ^ d) k hp
    · have := near_mul N (2 ^ d) 4503599627370496 hp
      omega
theorem pow_split (j k : Nat) (h : j ≤ k) : ∃ c, 2 ^ k = c * 2 ^ j := ⟨2 ^ (k - j), by rw [← Nat.pow_add]; congr 1; omega⟩
/-- of many times a power of two nothing is lost, or what is left is -/
theorem round_mult (m j : Nat) : val 52 (rungOf 52 (m * 2 ^ j) 0) = m * 2 ^ j ∨ (j < (m * 2 ^ j).log2 - 52 ∧ ∃ k, val 52 (rungOf 52 (m * 2 ^ j) 0) = k * 2 ^ j) := by
  rw [val_round]
  generalize hd : (m * 2 ^ j).log2 - 52 = d
  rcases Nat.lt_or_ge j d with h | h
  · right
    obtain ⟨c, hc⟩ := pow_split j d (by omega)
    exact ⟨h, rhe (m * 2 ^ j) (2 ^ d) * c, by rw [hc, Nat.mul_assoc]⟩
  · left
    obtain ⟨c, hc⟩ := pow_split d j h
    rw [hc, ← Nat.mul_assoc, rhe_exact _ _ (Nat.two_pow_pos _)]
/-- such a number of units comes back whole -/
theorem rep_mult (m j r : Nat) (hm : m ≤ 9007199254740992) (hr : r < INF) (h : m * 2 ^ j ≤ val 52 r) : val 52 (rnd (m * 2 ^ j)) = m * 2 ^ j ∧ rnd (m * 2 ^ j) < INF := by
  have h1 := rnd_mono h
  rw [rnd_val r (by omega)] at h1
  have h2 : rnd (m * 2 ^ j) < INF := by omega
  have h3 : rnd (m * 2 ^ j) = rungOf 52 (m * 2 ^ j) 0 := by unfold rnd at h2 ⊢; omega
  exact ⟨by rw [h3]; exact val_rungOf_small 52 m j (by rw [show (2 : Nat) * 2 ^ 52 = 9007199254740992 by decide]; exact hm), h2⟩
end Go.Proofs.Ytelalledjbeenaa.Fl

namespace Go.Proofs.Ytelalledjbeenaa.Fl

theorem mant_step (a i : Nat) : 2 * (a / 2 ^ (i + 1)) + a / 2 ^ i % 2 = a / 2 ^ i := by
  rw [Nat.pow_succ, ← Nat.div_div_eq_div_mul]; omega
theorem low_succ (a i : Nat) : a % 2 ^ (i + 1) = 2 ^ i * (a / 2 ^ i % 2) + a % 2 ^ i := by
  rw [Nat.pow_succ, Nat.mod_mul]; omega
theorem low_step (a i : Nat) : a % 2 ^ (i + 1) = 0 ↔ (a % 2 ^ i = 0 ∧ a / 2 ^ i % 2 = 0) := by
  rw [low_succ]
  have h := Nat.two_pow_pos i
  rcases Nat.mod_two_eq_zero_or_one (a / 2 ^ i) with e | e <;> rw [e] <;> omega
theorem half_rhe (a l : Nat) : rhe a (2 ^ (l + 1)) = a / 2 ^ (l + 1) + (if a / 2 ^ l % 2 = 1 ∧ (a / 2 ^ (l + 1) % 2 = 1 ∨ a % 2 ^ l ≠ 0) then 1 else 0) := by
  unfold rhe
  have e := low_succ a l
  have h := Nat.two_pow_pos l
  have h2 := Nat.mod_lt a h
  rw [e]
  have e2 : 2 ^ (l + 1) = 2 * 2 ^ l := by rw [Nat.pow_succ]; omega
  congr 1
  rcases Nat.mod_two_eq_zero_or_one (a / 2 ^ l) with q | q
  · rw [q, if_neg (by omega), if_neg (by omega)]
  · rw [q]
    by_cases c : a / 2 ^ (l + 1) % 2 = 1 ∨ a % 2 ^ l ≠ 0
    · rw [if_pos (by omega), if_pos ⟨rfl, c⟩]
    · rw [if_neg (by omega), if_neg (by omega)]
/-- what is rounded once is rounded -/
theorem place_round (a : Nat) : rungOf 52 (rhe a (2 ^ (a.log2 - 52)) * 2 ^ (a.log2 - 52)) 0 = rungOf 52 a 0 := by
  rw [← val_round, rungOf_val]
end Go.Proofs.Ytelalledjbeenaa.Fl
