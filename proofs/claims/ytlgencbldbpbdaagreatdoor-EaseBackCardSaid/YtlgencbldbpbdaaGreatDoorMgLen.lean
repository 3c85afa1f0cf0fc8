/- How many bits a word has: the library's Len64 and the reference's Length. Rounding as the reference does it: Drop, Near, Nearest. -/
import Derived.Test.YtlgencbldbpbdaaGreatDoorMgBase
import Derived.Test.YtlgencbldbpbdaaGreatDoorLenA
namespace Go.Proofs.YtlgencbldbpbdaaGreatDoor
open Go.RowKit Fl
def blen (m : Nat) : Nat := if m = 0 then 0 else m.log2 + 1
theorem blen_half (q : Nat) (h : 0 < q) : blen q = blen (q / 2) + 1 := by
  unfold blen
  rw [if_neg (by omega)]
  by_cases c : q / 2 = 0
  · rw [if_pos c, show q = 1 by omega]; rfl
  · rw [if_neg c]
    have h2 : 2 ≤ q := by omega
    rw [Nat.log2_def q, if_pos h2]
theorem blen_lt (q k : Nat) (h : q < 2 ^ k) : blen q ≤ k := by
  unfold blen
  split
  · omega
  · rename_i c; have := (Nat.log2_lt c (k := k)).2 h; omega
theorem lt_blen (q : Nat) : q < 2 ^ blen q := by
  unfold blen
  split
  · rename_i c; rw [c]; decide
  · exact Nat.lt_log2_self
theorem le_blen (q : Nat) (h : 0 < q) : 2 ^ (blen q - 1) ≤ q := by
  unfold blen
  rw [if_neg (by omega), Nat.add_sub_cancel]
  exact Nat.log2_self_le (by omega)
theorem blen_eq : ∀ (k x : Nat), x < 2 ^ k → k ≤ 64 → Lib.bitLen x = blen x
  | 0, x, h, _ => by
    have : x = 0 := by simpa using h
    subst this; decide
  | k + 1, x, h, hk => by
    by_cases h0 : x = 0
    · subst h0; decide
    · have hx : x < 2 ^ 64 := Nat.lt_of_lt_of_le h (Nat.pow_le_pow_right (by omega) hk)
      rw [Lib.bitLen_half x h0 hx, blen_half x (by omega), blen_eq k (x / 2) (by rw [Nat.pow_succ] at h; omega) (by omega)]
      omega
theorem c176 (m : Nat) (w : World) (h : U m) : Calls Tryz.prog 216 #[.int .u64 m] w fun e w' => e = .returned (.int .i64 (blen m)) ∧ w = w' := by
  have hl := h.lt
  have := len64_any m w (by omega) (by omega)
  rw [Int.toNat_natCast, blen_eq 64 m hl (by omega)] at this
  exact this
end Go.Proofs.YtlgencbldbpbdaaGreatDoor

namespace Go.Proofs.YtlgencbldbpbdaaGreatDoor
open Go.RowKit Fl
/-- The rung nearest to m 2^p. -/
def near (m : Nat) (p : Int) : Nat := rungOf 52 (m * 2 ^ (p + 1074).toNat) (-1074 - p).toNat
theorem near_core (m : Nat) (p : Int) (h0 : 0 < m) (E : Int) (hE : E = max ((m.log2 : Int) + 1 + p - 53) (-1074)) :
    near m p = (E + 1074).toNat * 2 ^ 52 + rhe (m * 2 ^ (p - E).toNat) (2 ^ (E - p).toNat) ∧ rhe (m * 2 ^ (p - E).toNat) (2 ^ (E - p).toNat) ≤ 2 * 2 ^ 52 ∧ (E = -1074 ∨ 2 ^ 52 ≤ rhe (m * 2 ^ (p - E).toNat) (2 ^ (E - p).toNat)) := by
  have hm : m ≠ 0 := by omega
  have l1 := Nat.log2_self_le hm
  have l2 : m < 2 ^ (m.log2 + 1) := Nat.lt_log2_self
  refine ⟨?_, ?_, ?_⟩
  · unfold near rungOf
    rw [log2_mul_pow m _ hm]
    have e1 : m.log2 + (p + 1074).toNat - 52 - (-1074 - p).toNat = (E + 1074).toNat := by omega
    rw [e1]
    refine congrArg (fun r => (E + 1074).toNat * 2 ^ 52 + r) ?_
    have e2 : (p + 1074).toNat + (E - p).toNat = (p - E).toNat + ((-1074 - p).toNat + (E + 1074).toNat) := by omega
    rcases Int.le_total E p with h | h
    · -- the shift is to the left
      have a1 : (E - p).toNat = 0 := by omega
      have a2 : (-1074 - p).toNat = 0 := by omega
      have a3 : (p + 1074).toNat = (p - E).toNat + (E + 1074).toNat := by omega
      rw [a1, a2, a3, Nat.pow_zero, rhe_one, Nat.zero_add, Nat.pow_add, ← Nat.mul_assoc, rhe_exact _ _ (Nat.two_pow_pos _)]
    · have a1 : (p - E).toNat = 0 := by omega
      have a2 : (-1074 - p).toNat + (E + 1074).toNat = (E - p).toNat + (p + 1074).toNat := by omega
      rw [a1, a2, Nat.pow_zero, Nat.mul_one, Nat.pow_add, rhe_mul _ _ _ (Nat.two_pow_pos _)]
  · refine rhe_le_of _ _ _ (Nat.two_pow_pos _) ?_
    rw [show (2 * 2 ^ 52 : Nat) = 2 ^ 53 from by decide, ← Nat.pow_add]
    have h3 : m * 2 ^ (p - E).toNat < 2 ^ (m.log2 + 1) * 2 ^ (p - E).toNat := Nat.mul_lt_mul_of_pos_right l2 (Nat.two_pow_pos _)
    rw [← Nat.pow_add] at h3
    have h4 : 2 ^ (m.log2 + 1 + (p - E).toNat) ≤ 2 ^ ((E - p).toNat + 53) := Nat.pow_le_pow_right (by omega) (by omega)
    omega
  · rcases Int.lt_or_le (-1074) E with h | h
    · right
      refine rhe_ge_of _ _ _ (Nat.two_pow_pos _) ?_
      rw [← Nat.pow_add]
      have h3 : 2 ^ m.log2 * 2 ^ (p - E).toNat ≤ m * 2 ^ (p - E).toNat := Nat.mul_le_mul_right _ l1
      rw [← Nat.pow_add] at h3
      have h4 : 2 ^ ((E - p).toNat + 52) ≤ 2 ^ (m.log2 + (p - E).toNat) := Nat.pow_le_pow_right (by omega) (by omega)
      omega
    · left; omega
theorem blen_pos (m : Nat) (h : 0 < m) : (blen m : Int) = (m.log2 : Int) + 1 := by
  unfold blen; rw [if_neg (by omega)]; omega
theorem near_zero (p : Int) : near 0 p = 0 := by unfold near; rw [Nat.zero_mul, rungOf_zero]
end Go.Proofs.YtlgencbldbpbdaaGreatDoor
