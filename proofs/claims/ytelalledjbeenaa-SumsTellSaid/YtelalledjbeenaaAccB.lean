/- An Acc's forty words: length, bit. -/
import Derived.Test.YtelalledjbeenaaAcc
import Derived.Test.YtelalledjbeenaaJoin
namespace Go.Proofs.Ytelalledjbeenaa
open Go.RowKit Fl

/-- the i-th word of a whole number that is not below nought -/
def wn (n i : Nat) : Nat := n / 2 ^ (64 * i) % 18446744073709551616
theorem wd_nat (n i : Nat) : wd (n : Int) i = ((wn n i : Nat) : Int) := by
  unfold wd wn
  have e : (2 : Int) ^ (64 * i) = ((2 ^ (64 * i) : Nat) : Int) := by rw [Int.natCast_pow]; rfl
  rw [e, ← Int.natCast_ediv]
  generalize n / 2 ^ (64 * i) = q
  omega
theorem U_wn (n i : Nat) : U (wn n i) := Nat.mod_lt _ (by decide)
theorem P64 (t : Nat) : 2 ^ (64 * (t + 1)) = 2 ^ (64 * t) * 18446744073709551616 := by rw [Nat.mul_succ, Nat.pow_add]
theorem wn_top (n t : Nat) (h : n < 2 ^ (64 * (t + 1))) : wn n t = n / 2 ^ (64 * t) := by
  unfold wn
  rw [P64] at h
  exact Nat.mod_eq_of_lt (Nat.div_lt_of_lt_mul h)
theorem wn_zero_lt (n t : Nat) (h : n < 2 ^ (64 * (t + 1))) (h0 : wn n t = 0) : n < 2 ^ (64 * t) := by
  rw [wn_top n t h] at h0
  rcases Nat.lt_or_ge n (2 ^ (64 * t)) with c | c
  · exact c
  · have := (Nat.le_div_iff_mul_le (Nat.two_pow_pos (64 * t))).2 (show 1 * 2 ^ (64 * t) ≤ n by omega)
    omega
theorem blen_shift (n k : Nat) (h : 0 < n / 2 ^ k) : blen n = k + blen (n / 2 ^ k) := by
  have hn : n ≠ 0 := by intro e; subst e; simp at h
  have hq : n / 2 ^ k ≠ 0 := by omega
  unfold blen
  rw [if_neg hn, if_neg hq]
  have h1 := Nat.log2_self_le hq
  have h2 : n / 2 ^ k < 2 ^ ((n / 2 ^ k).log2 + 1) := Nat.lt_log2_self
  have h3 : n.log2 = k + (n / 2 ^ k).log2 := by
    refine log2_eq _ _ ?_ ?_
    · rw [Nat.pow_add]
      have := (Nat.le_div_iff_mul_le (Nat.two_pow_pos k)).1 h1
      rw [Nat.mul_comm]; exact this
    · rw [Nat.add_assoc, Nat.pow_add]
      have := (Nat.div_lt_iff_lt_mul (Nat.two_pow_pos k)).1 h2
      rw [Nat.mul_comm]; exact this
  omega
theorem len_word (n t : Nat) (h : n < 2 ^ (64 * (t + 1))) (h0 : wn n t ≠ 0) : blen n = 64 * t + blen (wn n t) := by
  rw [wn_top n t h] at h0 ⊢
  exact blen_shift n (64 * t) (Nat.pos_of_ne_zero h0)

def CAP : Nat := 40
theorem CAP_eq : CAP = 40 := rfl
set_option maxRecDepth 100000 in
set_option maxHeartbeats 1000000 in
theorem c180 (n : Nat) (w : World) (h : n < 2 ^ (64 * CAP)) : Calls Try.prog 180 #[.agg (WL (n : Int)).toArray] w fun e w' => e = .returned (.int .i64 (blen n)) ∧ Below w.heap.size w w' := by
  have HR := Lib.hid (row_alloc w (n : Int))
  have HH : Hid (n < 2 ^ (64 * CAP)) := Lib.hid h
  have B1 : Hid (Below w.heap.size w (w.alloc (.cells (WL (n : Int)).toArray 138))) := Lib.hid ((Below.refl _ _).alloc (Nat.le_refl _) _)
  clear h
  go_enter Try.func180, Try.ntmps180
  go_wp2
  go_loop [3] (fun i => ∃ j : Nat, j ≤ 40 ∧ i = .int .i64 ((j : Int) - 1) ∧ Hid (n < 2 ^ (64 * j))) (fun i => (intOf i + 1).toNat)
  case atStart => exact ⟨CAP, by rw [CAP_eq]; omega, rfl, HH⟩
  case round =>
    obtain ⟨j, hj, rfl, hn⟩ := hrel
    rcases Nat.eq_zero_or_pos j with h0 | h0
    · subst h0
      have hz : n = 0 := by have := hn.out; simp at this; omega
      have e : blen n = 0 := by rw [hz]; rfl
      have E := Lib.hid e
      clear e hn HH HR
      subst hz
      go_wp2
      go_ret
      exact ⟨rfl, B1.out⟩
    · obtain ⟨t, rfl⟩ : ∃ t, j = t + 1 := ⟨j - 1, by omega⟩
      have ht : t < 40 := by omega
      have c0 := (HR.out t ht).1
      rw [wd_nat] at c0
      have ej : ((t + 1 : Nat) : Int) - 1 = (t : Int) := by omega
      have hti : (t : Int) ≤ 39 := by omega
      have hlen := len_word n t hn.out
      have hlt := wn_zero_lt n t hn.out
      have hu := U_wn n t
      rw [ej]
      by_cases hw : wn n t = 0
      · have hw' : ((wn n t : Int) != 0) = false := by simp [hw]
        have HN := Lib.hid (hlt hw)
        clear hlen hlt hw hn HH ej
        go_wp2
        go_round
        case rel => exact ⟨t, by omega, rfl, HN⟩
        case measure => simp [intOf]
      · have hw' : ((wn n t : Int) != 0) = true := by simp; omega
        have HL := Lib.hid (hlen hw)
        have hbl : blen (wn n t) ≤ 64 := blen_lt _ 64 hu
        clear hlen hlt hw hn HH ej
        go_wp2_with (go_at_call 176; refine (c176 _ _ (by assumption)).mono ?_; rintro e w' ⟨rfl, rfl⟩)
        go_ret
        exact ⟨ret_int (by rw [HL.out]; push_cast; rfl), B1.out⟩

theorem bit_word (n i : Nat) : wn n (i / 64) / 2 ^ (i % 64) % 2 = n / 2 ^ i % 2 := by
  have e : n / 2 ^ i = n / 2 ^ (64 * (i / 64)) / 2 ^ (i % 64) := by
    rw [Nat.div_div_eq_div_mul, ← Nat.pow_add]; congr 2; omega
  rw [e]
  unfold wn
  generalize n / 2 ^ (64 * (i / 64)) = q
  have hr : i % 64 < 64 := Nat.mod_lt _ (by decide)
  generalize i % 64 = r at *
  have e2 : (18446744073709551616 : Nat) = 2 ^ r * 2 ^ (63 - r) * 2 := by
    rw [Nat.mul_assoc, ← Nat.pow_succ, ← Nat.pow_add]
    rw [show r + (63 - r).succ = 64 by omega]
  rw [e2, Nat.mul_assoc, Nat.mod_mul_right_div_self, Nat.mul_comm (2 ^ (63 - r)) 2, Nat.mod_mul_right_mod]

set_option maxRecDepth 100000 in
set_option maxHeartbeats 1000000 in
theorem c181 (n : Nat) (i : Nat) (w : World) (hi : i < 2560) : Calls Try.prog 181 #[.agg (WL (n : Int)).toArray, .int .i64 i] w fun e w' => e = .returned (.bool (decide (n / 2 ^ i % 2 = 1))) ∧ Below w.heap.size w w' := by
  have c0 := (row_alloc w (n : Int) (i / 64) (by omega)).1
  rw [wd_nat] at c0
  have B1 : Hid (Below w.heap.size w (w.alloc (.cells (WL (n : Int)).toArray 138))) := Lib.hid ((Below.refl _ _).alloc (Nat.le_refl _) _)
  have hb := bit_word n i
  have hu := U_wn n (i / 64)
  have e1 : (wn n (i / 64) : Int) / 2 ^ (i % 64) = ((wn n (i / 64) / 2 ^ (i % 64) : Nat) : Int) := by push_cast; rfl
  have e2 := b_one (wn n (i / 64) / 2 ^ (i % 64)) (Nat.lt_of_le_of_lt (Nat.div_le_self _ _) hu)
  rw [hb] at e2
  have hq : (i : Int) / 64 < 40 := by omega
  have hii : (i : Int) < 2560 := by omega
  clear hb hu
  generalize wn n (i / 64) / 2 ^ (i % 64) = V at *
  go_enter Try.func181, Try.ntmps181
  go_wp2
  go_ret
  exact ⟨rfl, B1.out⟩
end Go.Proofs.Ytelalledjbeenaa
