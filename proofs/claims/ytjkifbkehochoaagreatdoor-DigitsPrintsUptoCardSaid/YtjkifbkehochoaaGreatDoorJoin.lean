/- bits.nearest; Join, both. -/
import Derived.Test.YtjkifbkehochoaaGreatDoorMgLdexp
import Derived.Test.YtjkifbkehochoaaGreatDoorMgDmH
import Derived.Deep.QuietTactic
import Derived.BigQuiet
namespace Go.Proofs.YtjkifbkehochoaaGreatDoor
open Go.RowKit Fl

theorem near_again (Q : Nat) (E : Int) (h : -1074 ≤ E) (h1 : Q ≤ 2 * 2 ^ 52) (h2 : E = -1074 ∨ 2 ^ 52 ≤ Q) : near Q E = (E + 1074).toNat * 2 ^ 52 + Q := by
  rcases Nat.eq_zero_or_pos Q with h0 | h0
  · subst h0
    have hE : E = -1074 := by
      rcases h2 with h2 | h2
      · exact h2
      · rw [B52] at h2; omega
    subst hE
    rw [near_zero]; rfl
  rcases Nat.lt_or_eq_of_le h1 with h1 | h1
  · obtain ⟨n1, _, _⟩ := near_core Q E h0 _ rfl
    have hl : Q.log2 ≤ 52 := by
      have := (Nat.log2_lt (n := Q) (k := 53) (by omega)).2 (by rw [Nat.pow_succ]; omega); omega
    have hE : max ((Q.log2 : Int) + 1 + E - 53) (-1074) = E := by
      rcases h2 with h2 | h2
      · omega
      · have : Q.log2 = 52 := log2_eq Q 52 h2 (by rw [Nat.pow_succ]; omega)
        omega
    rw [hE] at n1
    rw [n1, show (E - E).toNat = 0 by omega, Nat.pow_zero, Nat.mul_one, rhe_one]
  · have e : Q = 2 ^ 52 * 2 ^ 1 := by rw [h1, Nat.pow_one, Nat.mul_comm]
    rw [e, near_scale]
    obtain ⟨n1, _, _⟩ := near_core (2 ^ 52) (E + (1 : Nat)) (by decide) _ rfl
    rw [show (2 ^ 52 : Nat).log2 = 52 from log2_eq _ 52 (Nat.le_refl _) (by decide)] at n1
    have hE : max (((52 : Nat) : Int) + 1 + (E + ((1 : Nat) : Int)) - 53) (-1074) = E + 1 := by omega
    rw [hE] at n1
    rw [show (E + 1 - (E + ((1 : Nat) : Int))).toNat = 0 by omega, show (E + ((1 : Nat) : Int) - (E + 1)).toNat = 0 by omega, Nat.pow_zero, Nat.mul_one, rhe_one, show (E + 1 + 1074).toNat = (E + 1074).toNat + 1 by omega] at n1
    have e5 : ∀ t B : Nat, (t + 1) * B + B = t * B + B * 2 := by intro t B; rw [Nat.succ_mul]; omega
    exact Eq.trans n1 (e5 _ _)

/-- what is cut off at place s -/
theorem near_cut (m : Nat) (p L : Int) (s : Nat) (h0 : 0 < m) (hL : L = max ((blen m : Int) + p - 53) (-1074)) (hs : L - p = (s : Int)) : near (rhe m (2 ^ s)) L = near m p ∧ rhe m (2 ^ s) ≤ 9007199254740992 := by
  rw [blen_pos m h0] at hL
  obtain ⟨n1, n2, n3⟩ := near_core m p h0 L hL
  rw [show (p - L).toNat = 0 by omega, Nat.pow_zero, Nat.mul_one, show (L - p).toNat = s by omega] at n1 n2 n3
  refine ⟨?_, by rw [B52] at n2; omega⟩
  rw [n1]
  exact near_again _ L (by omega) n2 n3

theorem rest_eq (m s : Nat) (h1 : 0 < s) (h2 : s < 64) : IntKind.u64.wrap ((m : Int) * 2 ^ (64 - s)) = ((m % 2 ^ s * 2 ^ (64 - s) : Nat) : Int) := by
  have e : (m : Int) * 2 ^ (64 - s) = ((m * 2 ^ (64 - s) : Nat) : Int) := by rw [Int.natCast_mul]; push_cast; rfl
  rw [e, IntKind.wrap_u64]
  have e2 : (18446744073709551616 : Nat) = 2 ^ s * 2 ^ (64 - s) := by rw [← Nat.pow_add, show s + (64 - s) = 64 by omega]
  have e3 : m * 2 ^ (64 - s) % 18446744073709551616 = m % 2 ^ s * 2 ^ (64 - s) := by
    rw [e2, Nat.mul_mod_mul_right]
  rw [← e3]; omega
theorem half_eq (s : Nat) (h1 : 0 < s) (h2 : s < 64) : (9223372036854775808 : Nat) = 2 ^ (s - 1) * 2 ^ (64 - s) := by rw [← Nat.pow_add, show s - 1 + (64 - s) = 63 by omega]
theorem b_one (q : Nat) (h : U q) : (bits .and .u64 (q : Int) 1 == 1) = decide (q % 2 = 1) := by
  have e := h.lt
  rw [show (1 : Int) = ((1 : Nat) : Int) from rfl, u64_and_nat _ _ h.lt (by omega), nat_mask1, Bool.eq_iff_iff]
  simp; omega

end Go.Proofs.YtjkifbkehochoaaGreatDoor
