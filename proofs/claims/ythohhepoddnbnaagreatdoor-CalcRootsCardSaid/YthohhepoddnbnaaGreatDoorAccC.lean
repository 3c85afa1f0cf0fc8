
/- rounded: the plain laws. -/
import Derived.Test.YthohhepoddnbnaaGreatDoorAccB
namespace Go.Proofs.YthohhepoddnbnaaGreatDoor
open Go.RowKit Fl

theorem rnd_small (n : Nat) (h : n < 9007199254740992) : rnd n = n := by
  have := rnd_val n (by unfold INF; omega)
  rwa [val_small 52 n (by rw [B52]; omega)] at this
theorem blen_le_small (n : Nat) (h : blen n ≤ 53) : n < 9007199254740992 := by
  have h1 := lt_blen n
  have h2 : 2 ^ blen n ≤ 2 ^ 53 := Nat.pow_le_pow_right (by omega) h
  rw [show (2 ^ 53 : Nat) = 9007199254740992 from by decide] at h2
  omega
/-- the significand that is kept -/
theorem top_bounds (n d : Nat) (h : blen n = d + 53) : 4503599627370496 ≤ n / 2 ^ d ∧ n / 2 ^ d < 9007199254740992 := by
  have h0 : 0 < n := by
    rcases Nat.eq_zero_or_pos n with c | c
    · subst c; simp [blen] at h
    · exact c
  have h1 := lt_blen n
  have h2 := le_blen n h0
  rw [h] at h1 h2
  constructor
  · rw [Nat.le_div_iff_mul_le (Nat.two_pow_pos d), ← B52, ← Nat.pow_add]
    rw [show d + 53 - 1 = 52 + d by omega] at h2
    exact h2
  · rw [Nat.div_lt_iff_lt_mul (Nat.two_pow_pos d), ← show (2 ^ 53 : Nat) = 9007199254740992 from by decide, ← Nat.pow_add]
    rw [show d + 53 = 53 + d by omega] at h1
    exact h1
theorem rung_drop (n d : Nat) (h : blen n = d + 53) : rungOf 52 n 0 = d * 4503599627370496 + rhe n (2 ^ d) := by
  have h0 : 0 < n := by
    rcases Nat.eq_zero_or_pos n with c | c
    · subst c; simp [blen] at h
    · exact c
  have hl : n.log2 = d + 52 := by
    unfold blen at h
    rw [if_neg (by omega)] at h
    omega
  unfold rungOf
  rw [hl, show d + 52 - 52 - 0 = d by omega, Nat.zero_add, B52]
/-- rounding by the half's bit and the rest -/
theorem rhe_half (n d : Nat) (hd : 1 ≤ d) : rhe n (2 ^ d) = n / 2 ^ d + (if n / 2 ^ (d - 1) % 2 = 1 ∧ (n % 2 ^ (d - 1) ≠ 0 ∨ n / 2 ^ d % 2 = 1) then 1 else 0) := by
  unfold rhe
  congr 1
  have hg := two_half d hd
  have hp := Nat.two_pow_pos (d - 1)
  have e1 : n % 2 ^ d = 2 ^ (d - 1) * (n / 2 ^ (d - 1) % 2) + n % 2 ^ (d - 1) := by
    rw [hg, Nat.mul_comm 2, Nat.mod_mul]
    omega
  rw [e1, hg]
  have h1 := Nat.mod_lt n hp
  have h2 : n / 2 ^ (d - 1) % 2 = 0 ∨ n / 2 ^ (d - 1) % 2 = 1 := by omega
  generalize n / (2 * 2 ^ (d - 1)) = q
  generalize 2 ^ (d - 1) = H at *
  generalize n % H = r at *
  generalize n / H % 2 = b at *
  rcases h2 with h2 | h2
  · subst h2
    rw [if_neg (by omega), if_neg (by omega)]
  · subst h2
    by_cases c : r ≠ 0 ∨ q % 2 = 1
    · rw [if_pos (by omega), if_pos ⟨rfl, c⟩]
    · rw [if_neg (by omega), if_neg (by omega)]
/-- the low word and the next one, put together -/
theorem words_join (n d : Nat) (hr : 0 < d % 64) : bits .or .u64 ((wn n (d / 64) / 2 ^ (d % 64) : Nat) : Int) (IntKind.u64.wrap (((wn n (d / 64 + 1) : Nat) : Int) * 2 ^ (64 - d % 64))) = ((n / 2 ^ d % 18446744073709551616 : Nat) : Int) := by
  have hl : d % 64 < 64 := Nat.mod_lt _ (by decide)
  have e : n / 2 ^ d = n / 2 ^ (64 * (d / 64)) / 2 ^ (d % 64) := by
    rw [Nat.div_div_eq_div_mul, ← Nat.pow_add]; congr 2; omega
  have ew : wn n (d / 64 + 1) = n / 2 ^ (64 * (d / 64)) / 18446744073709551616 % 18446744073709551616 := by
    unfold wn
    rw [Nat.div_div_eq_div_mul, P64]
  rw [rest_eq _ _ (by omega) (by omega), e, ew]
  unfold wn
  generalize n / 2 ^ (64 * (d / 64)) = X
  generalize d % 64 = r at *
  have hp := Nat.two_pow_pos (64 - r)
  have hq := Nat.two_pow_pos r
  have e2 : (18446744073709551616 : Nat) = 2 ^ r * 2 ^ (64 - r) := by rw [← Nat.pow_add, show r + (64 - r) = 64 by omega]
  have a1 : X % 18446744073709551616 / 2 ^ r = X / 2 ^ r % 2 ^ (64 - r) := by rw [e2, Nat.mod_mul_right_div_self]
  have a2 : X / 18446744073709551616 % 18446744073709551616 % 2 ^ r = X / 18446744073709551616 % 2 ^ r := Nat.mod_mod_of_dvd _ ⟨2 ^ (64 - r), e2⟩
  have a3 : X / 2 ^ r % 18446744073709551616 = X / 2 ^ r % 2 ^ (64 - r) + 2 ^ (64 - r) * (X / 18446744073709551616 % 2 ^ r) := by
    have e3 : (18446744073709551616 : Nat) = 2 ^ (64 - r) * 2 ^ r := by rw [e2, Nat.mul_comm]
    have e4 : X / 18446744073709551616 = X / 2 ^ r / 2 ^ (64 - r) := by rw [Nat.div_div_eq_div_mul, ← e2]
    rw [e4]
    conv => lhs; rw [e3]
    rw [Nat.mod_mul]
  have h1 : X / 2 ^ r % 2 ^ (64 - r) < 2 ^ (64 - r) := Nat.mod_lt _ hp
  have h2 : X / 2 ^ r % 18446744073709551616 < 18446744073709551616 := Nat.mod_lt _ (by decide)
  rw [a1, a2, a3]
  rw [a3] at h2
  clear a1 a2 a3 e2
  generalize X / 2 ^ r % 2 ^ (64 - r) = A at *
  generalize X / 18446744073709551616 % 2 ^ r = B at *
  rw [Nat.mul_comm (2 ^ (64 - r)) B] at h2 ⊢
  have hj : B * 2 ^ (64 - r) ||| A = B * 2 ^ (64 - r) + A := nat_join (64 - r) (B * 2 ^ (64 - r)) A (Nat.mul_mod_left _ _) h1
  generalize 2 ^ (64 - r) = t at *
  rw [u64_or_nat _ _ (by omega) (by omega), Nat.or_comm, hj, Nat.add_comm]
theorem words_one (n d : Nat) (hr : d % 64 = 0) : wn n (d / 64) = n / 2 ^ d % 18446744073709551616 := by
  unfold wn
  congr 3; omega
theorem b_53 (x q : Nat) (h : q < 9007199254740992) (hx : x = q % 18446744073709551616) : bits .and .u64 (x : Int) 9007199254740991 = (q : Int) := by
  rw [show (9007199254740991 : Int) = ((9007199254740991 : Nat) : Int) from rfl, u64_and_nat _ _ (by omega) (by omega)]
  have := Nat.and_two_pow_sub_one_eq_mod x 53
  rw [show (2 ^ 53 - 1 : Nat) = 9007199254740991 from by decide] at this
  rw [this]; omega
end Go.Proofs.YthohhepoddnbnaaGreatDoor
