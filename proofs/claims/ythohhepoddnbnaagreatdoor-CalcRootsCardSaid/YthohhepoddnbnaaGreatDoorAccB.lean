
/- An Acc's forty words: length, bit. -/
import Derived.Test.YthohhepoddnbnaaGreatDoorAcc
import Derived.Test.YthohhepoddnbnaaGreatDoorJoin
namespace Go.Proofs.YthohhepoddnbnaaGreatDoor
open Go.RowKit Fl

/-- the i-th word of a whole number that is not below nought -/
def wn (n i : Nat) : Nat := n / 2 ^ (64 * i) % 18446744073709551616
theorem wd_nat (n i : Nat) : wd (n : Int) i = ((wn n i : Nat) : Int) := by
  unfold wd wn
  have e : (2 : Int) ^ (64 * i) = ((2 ^ (64 * i) : Nat) : Int) := by rw [Int.natCast_pow]; rfl
  rw [e, ← Int.natCast_ediv]
  generalize n / 2 ^ (64 * i) = q
  omega
theorem U_wn (n i : Nat) : U (wn n i) := Nat.mod_lt _ (by decide)
theorem P64 (t : Nat) : 2 ^ (64 * (t + 1)) = 2 ^ (64 * t) * 18446744073709551616 := by rw [Nat.mul_succ, Nat.pow_add]
theorem wn_top (n t : Nat) (h : n < 2 ^ (64 * (t + 1))) : wn n t = n / 2 ^ (64 * t) := by
  unfold wn
  rw [P64] at h
  exact Nat.mod_eq_of_lt (Nat.div_lt_of_lt_mul h)
theorem wn_zero_lt (n t : Nat) (h : n < 2 ^ (64 * (t + 1))) (h0 : wn n t = 0) : n < 2 ^ (64 * t) := by
  rw [wn_top n t h] at h0
  rcases Nat.lt_or_ge n (2 ^ (64 * t)) with c | c
  · exact c
  · have := (Nat.le_div_iff_mul_le (Nat.two_pow_pos (64 * t))).2 (show 1 * 2 ^ (64 * t) ≤ n by omega)
    omega
theorem blen_shift (n k : Nat) (h : 0 < n / 2 ^ k) : blen n = k + blen (n / 2 ^ k) := by
  have hn : n ≠ 0 := by intro e; subst e; simp at h
  have hq : n / 2 ^ k ≠ 0 := by omega
  unfold blen
  rw [if_neg hn, if_neg hq]
  have h1 := Nat.log2_self_le hq
  have h2 : n / 2 ^ k < 2 ^ ((n / 2 ^ k).log2 + 1) := Nat.lt_log2_self
  have h3 : n.log2 = k + (n / 2 ^ k).log2 := by
    refine log2_eq _ _ ?_ ?_
    · rw [Nat.pow_add]
      have := (Nat.le_div_iff_mul_le (Nat.two_pow_pos k)).1 h1
      rw [Nat.mul_comm]; exact this
    · rw [Nat.add_assoc, Nat.pow_add]
      have := (Nat.div_lt_iff_lt_mul (Nat.two_pow_pos k)).1 h2
      rw [Nat.mul_comm]; exact this
  omega
theorem len_word (n t : Nat) (h : n < 2 ^ (64 * (t + 1))) (h0 : wn n t ≠ 0) : blen n = 64 * t + blen (wn n t) := by
  rw [wn_top n t h] at h0 ⊢
  exact blen_shift n (64 * t) (Nat.pos_of_ne_zero h0)

def CAP : Nat := 40
theorem CAP_eq : CAP = 40 := rfl
theorem bit_word (n i : Nat) : wn n (i / 64) / 2 ^ (i % 64) % 2 = n / 2 ^ i % 2 := by
  have e : n / 2 ^ i = n / 2 ^ (64 * (i / 64)) / 2 ^ (i % 64) := by
    rw [Nat.div_div_eq_div_mul, ← Nat.pow_add]; congr 2; omega
  rw [e]
  unfold wn
  generalize n / 2 ^ (64 * (i / 64)) = q
  have hr : i % 64 < 64 := Nat.mod_lt _ (by decide)
  generalize i % 64 = r at *
  have e2 : (18446744073709551616 : Nat) = 2 ^ r * 2 ^ (63 - r) * 2 := by
    rw [Nat.mul_assoc, ← Nat.pow_succ, ← Nat.pow_add]
    rw [show r + (63 - r).succ = 64 by omega]
  rw [e2, Nat.mul_assoc, Nat.mod_mul_right_div_self, Nat.mul_comm (2 ^ (63 - r)) 2, Nat.mod_mul_right_mod]

end Go.Proofs.YthohhepoddnbnaaGreatDoor
