/- How many bits a word has: the library's Len64 and the reference's Length. -/
import Derived.Test.YtjkifbkehochoaaGreatDoorMgLgB
import Derived.Test.YtjkifbkehochoaaGreatDoorLenA
namespace Go.Proofs.YtjkifbkehochoaaGreatDoor
open Go.RowKit Fl
def blen (m : Nat) : Nat := if m = 0 then 0 else m.log2 + 1
theorem blen_half (q : Nat) (h : 0 < q) : blen q = blen (q / 2) + 1 := by
  unfold blen
  rw [if_neg (by omega)]
  by_cases c : q / 2 = 0
  · rw [if_pos c, show q = 1 by omega]; rfl
  · rw [if_neg c]
    have h2 : 2 ≤ q := by omega
    rw [Nat.log2_def q, if_pos h2]
theorem blen_lt (q k : Nat) (h : q < 2 ^ k) : blen q ≤ k := by
  unfold blen
  split
  · omega
  · rename_i c; have := (Nat.log2_lt c (k := k)).2 h; omega
theorem lt_blen (q : Nat) : q < 2 ^ blen q := by
  unfold blen
  split
  · rename_i c; rw [c]; decide
  · exact Nat.lt_log2_self
theorem le_blen (q : Nat) (h : 0 < q) : 2 ^ (blen q - 1) ≤ q := by
  unfold blen
  rw [if_neg (by omega), Nat.add_sub_cancel]
  exact Nat.log2_self_le (by omega)
theorem blen_eq : ∀ (k x : Nat), x < 2 ^ k → k ≤ 64 → Lib.bitLen x = blen x
  | 0, x, h, _ => by
    have : x = 0 := by simpa using h
    subst this; decide
  | k + 1, x, h, hk => by
    by_cases h0 : x = 0
    · subst h0; decide
    · have hx : x < 2 ^ 64 := Nat.lt_of_lt_of_le h (Nat.pow_le_pow_right (by omega) hk)
      rw [Lib.bitLen_half x h0 hx, blen_half x (by omega), blen_eq k (x / 2) (by rw [Nat.pow_succ] at h; omega) (by omega)]
      omega
theorem c176 (m : Nat) (w : World) (h : U m) : Calls Tryz.prog 114 #[.int .u64 m] w fun e w' => e = .returned (.int .i64 (blen m)) ∧ w = w' := by
  have hl := h.lt
  have := len64_any m w (by omega) (by omega)
  rw [Int.toNat_natCast, blen_eq 64 m hl (by omega)] at this
  exact this
end Go.Proofs.YtjkifbkehochoaaGreatDoor
