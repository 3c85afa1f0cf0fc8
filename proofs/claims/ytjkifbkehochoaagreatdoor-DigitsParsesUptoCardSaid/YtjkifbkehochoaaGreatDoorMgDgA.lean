/- The number nearest to a quotient of whole numbers: by cutting to 56 bits; by what lies beneath it. Plain laws. The number nearest to a quotient, found between a rung and the next. Plain laws. Digits at a point: which number they are read as. Plain laws. -/
import Derived.Test.YtjkifbkehochoaaGreatDoorMgFl
namespace Go.Proofs.YtjkifbkehochoaaGreatDoor
open Fl

/-- the rung nearest to A / B units -/
def rungQ (A B : Nat) : Nat := ((A / B).log2 - 52) * 2 ^ 52 + rhe A (B * 2 ^ ((A / B).log2 - 52))
/-- the last rung that is not above X units -/
def lowR (X : Nat) : Nat := (X.log2 - 52) * 2 ^ 52 + X / 2 ^ (X.log2 - 52)
theorem log2_small {X : Nat} (h : X < 2 ^ 53) : X.log2 - 52 = 0 := by
  by_cases h0 : X = 0
  · subst h0; decide
  · have := (Nat.log2_lt h0 (k := 53)).2 h
    omega
theorem log2_cut {X : Nat} (h : 2 ^ 53 ≤ X) : 2 ^ 52 ≤ X / 2 ^ (X.log2 - 52) ∧ X / 2 ^ (X.log2 - 52) < 2 ^ 53 := by
  have h0 : X ≠ 0 := by have := Nat.two_pow_pos 53; omega
  have hl := (Nat.le_log2 h0 (k := 53)).2 h
  have a := Nat.log2_self_le h0
  have b := Nat.lt_log2_self (n := X)
  obtain ⟨E, hE⟩ : ∃ E, X.log2 = E + 52 := ⟨X.log2 - 52, by omega⟩
  rw [hE] at a b ⊢
  rw [Nat.add_sub_cancel]
  have hp := Nat.two_pow_pos E
  refine ⟨?_, ?_⟩
  · rw [Nat.le_div_iff_mul_le hp, ← Nat.pow_add, Nat.add_comm]; exact a
  · rw [Nat.div_lt_iff_lt_mul hp, ← Nat.pow_add, show 53 + E = E + 52 + 1 by omega]; exact b
theorem cut_cases (X : Nat) : X / 2 ^ (X.log2 - 52) < 2 ^ 53 ∧ (X.log2 - 52 = 0 ∨ 2 ^ 52 ≤ X / 2 ^ (X.log2 - 52)) := by
  rcases Nat.lt_or_ge X (2 ^ 53) with h | h
  · rw [log2_small h]; exact ⟨by simpa using h, .inl rfl⟩
  · exact ⟨(log2_cut h).2, .inr (log2_cut h).1⟩
theorem val_em (E m : Nat) (h1 : m ≤ 2 ^ 53) (h2 : E = 0 ∨ 2 ^ 52 ≤ m) : Fl.val 52 (E * 2 ^ 52 + m) = m * 2 ^ E := by
  unfold Fl.val
  have e53 : (2 : Nat) ^ 53 = 2 * 2 ^ 52 := by decide
  have hp : 0 < 2 ^ 52 := Nat.two_pow_pos 52
  generalize 2 ^ 52 = P at *
  rw [e53] at h1
  by_cases hm : m < P
  · have hE : E = 0 := by omega
    subst hE
    rw [Nat.zero_mul, Nat.zero_add, if_pos hm, Nat.pow_zero, Nat.mul_one]
  · by_cases hE : m = 2 * P
    · have e1 : E * P + m = P * (E + 2) := by rw [hE, Nat.mul_add, Nat.mul_comm E, Nat.mul_comm 2]
      have e2 : ¬ E * P + m < P := by omega
      rw [if_neg e2, e1, Nat.mul_mod_right, Nat.mul_div_cancel_left _ hp, hE, Nat.add_zero, show E + 2 - 1 = E + 1 by omega, Nat.pow_succ, Nat.mul_comm 2 P, Nat.mul_assoc, Nat.mul_comm 2]
    · have e1 : E * P + m = P * (E + 1) + (m - P) := by rw [Nat.mul_add, Nat.mul_comm E]; omega
      have e2 : ¬ E * P + m < P := by omega
      rw [if_neg e2, e1, Nat.mul_add_mod, Nat.mul_add_div hp, Nat.mod_eq_of_lt (by omega), Nat.div_eq_of_lt (show m - P < P by omega), Nat.add_zero, show E + 1 - 1 = E by omega, show P + (m - P) = m by omega]
theorem val_lowR (X : Nat) : Fl.val 52 (lowR X) = X / 2 ^ (X.log2 - 52) * 2 ^ (X.log2 - 52) :=
  val_em _ _ (Nat.le_of_lt (cut_cases X).1) (cut_cases X).2
theorem val_lowR1 (X : Nat) : Fl.val 52 (lowR X + 1) = (X / 2 ^ (X.log2 - 52) + 1) * 2 ^ (X.log2 - 52) := by
  unfold lowR
  rw [Nat.add_assoc]
  refine val_em _ _ (cut_cases X).1 ?_
  rcases (cut_cases X).2 with h | h
  · exact .inl h
  · exact .inr (Nat.le_succ_of_le h)
theorem lowR_le (X : Nat) : Fl.val 52 (lowR X) ≤ X := by rw [val_lowR]; exact Nat.div_mul_le_self _ _
theorem lt_lowR (X : Nat) : X < Fl.val 52 (lowR X + 1) := by
  rw [val_lowR1]
  have := Nat.lt_div_mul_add (a := X) (b := 2 ^ (X.log2 - 52)) (Nat.two_pow_pos _)
  rw [Nat.add_mul, Nat.one_mul]
  exact this
theorem lowR_unique {X r : Nat} (h1 : Fl.val 52 r ≤ X) (h2 : X < Fl.val 52 (r + 1)) : r = lowR X := by
  have a := lowR_le X
  have b := lt_lowR X
  rcases Nat.lt_trichotomy r (lowR X) with h | h | h
  · have := Fl.val_le 52 (r + 1) (lowR X) h; omega
  · exact h
  · have := Fl.val_le 52 (lowR X + 1) r h; omega
/-- half a step above or not -/
theorem rungQ_eq (A B : Nat) (hB : 0 < B) : rungQ A B = lowR (A / B) +
    (if (2 * (A / B / 2 ^ ((A / B).log2 - 52)) + 1) * 2 ^ ((A / B).log2 - 52) * B < 2 * A ∨ ((2 * (A / B / 2 ^ ((A / B).log2 - 52)) + 1) * 2 ^ ((A / B).log2 - 52) * B = 2 * A ∧ lowR (A / B) % 2 = 1) then 1 else 0) := by
  unfold rungQ lowR
  generalize (A / B).log2 - 52 = E
  have hG : 0 < B * 2 ^ E := Nat.mul_pos hB (Nat.two_pow_pos E)
  have e1 : A / B / 2 ^ E = A / (B * 2 ^ E) := Nat.div_div_eq_div_mul _ _ _
  rw [e1]
  unfold rhe
  have hd := Nat.div_add_mod A (B * 2 ^ E)
  have e2 : (2 * (A / (B * 2 ^ E)) + 1) * 2 ^ E * B = 2 * (B * 2 ^ E * (A / (B * 2 ^ E))) + B * 2 ^ E := by
    rw [Nat.add_mul, Nat.add_mul, Nat.one_mul, Nat.mul_comm (2 ^ E) B]
    congr 1
    rw [Nat.mul_assoc, Nat.mul_assoc, Nat.mul_comm (2 ^ E) B]
    congr 1
    exact Nat.mul_comm _ _
  rw [e2]
  have e3 : ∀ m : Nat, (E * 2 ^ 52 + m) % 2 = m % 2 := fun m => by
    rw [show (2 : Nat) ^ 52 = 2 ^ 51 * 2 by decide, ← Nat.mul_assoc, Nat.add_comm, Nat.add_mul_mod_self_right]
  rw [e3]
  generalize A / (B * 2 ^ E) = m at *
  generalize A % (B * 2 ^ E) = t at *
  generalize B * 2 ^ E = G at *
  have c1 : (2 * (G * m) + G < 2 * A) ↔ (G < 2 * t) := by omega
  have c2 : (2 * (G * m) + G = 2 * A) ↔ (G = 2 * t) := by omega
  simp only [c1, c2]
  rw [Nat.add_assoc]
/-- cut, and something is left or not -/
theorem rhe_cut (a b D : Nat) (hb : 0 < b) (hD : 0 < D) : rhe a (b * (2 * D)) = a / b / (2 * D) + (if a / b / D % 2 = 1 ∧ (a % b ≠ 0 ∨ a / b % D ≠ 0 ∨ a / b / (2 * D) % 2 = 1) then 1 else 0) := by
  unfold rhe
  have e1 : a / (b * (2 * D)) = a / b / (2 * D) := (Nat.div_div_eq_div_mul _ _ _).symm
  have e2 : a % (b * (2 * D)) = a % b + b * (a / b % (2 * D)) := Nat.mod_mul
  have e3 : a / b % (2 * D) = a / b % D + D * (a / b / D % 2) := by rw [Nat.mul_comm 2 D]; exact Nat.mod_mul
  rw [e1, e2, e3]
  have h1 : a % b < b := Nat.mod_lt _ hb
  have h2 : a / b % D < D := Nat.mod_lt _ hD
  have h3 : a / b / D % 2 < 2 := Nat.mod_lt _ (by decide)
  generalize a / b / (2 * D) % 2 = o
  generalize a / b / D % 2 = h at *
  generalize a / b % D = t at *
  generalize a % b = r at *
  congr 1
  have k1 : b * (t + 1) ≤ b * D := Nat.mul_le_mul_left _ h2
  rw [Nat.mul_add, Nat.mul_one] at k1
  have k2 : b * (2 * D) = 2 * (b * D) := Nat.mul_left_comm _ _ _
  have hh : h = 0 ∨ h = 1 := by omega
  rcases hh with rfl | rfl
  · rw [Nat.mul_zero, Nat.add_zero, k2, if_neg (by omega), if_neg (by omega)]
  · rw [Nat.mul_one, k2]
    have k5 : b * (t + D) = b * t + b * D := Nat.mul_add _ _ _
    have k3 : t ≠ 0 → 0 < b * t := fun h => Nat.mul_pos hb (by omega)
    have k4 : t = 0 → b * t = 0 := fun h => by rw [h, Nat.mul_zero]
    by_cases c : t = 0
    · have := k4 c
      by_cases c2 : r = 0
      · by_cases c3 : o = 1
        · rw [if_pos (by omega), if_pos (by omega)]
        · rw [if_neg (by omega), if_neg (by omega)]
      · rw [if_pos (by omega), if_pos (by omega)]
    · have := k3 c
      rw [if_pos (by omega), if_pos (by omega)]
theorem log2_div_pow (X j : Nat) : (X / 2 ^ j).log2 = X.log2 - j := by
  by_cases h0 : X / 2 ^ j = 0
  · rw [h0]
    have hlt : X < 2 ^ j := by
      rcases Nat.lt_or_ge X (2 ^ j) with h | h
      · exact h
      · have := (Nat.le_div_iff_mul_le (Nat.two_pow_pos j) (x := 1) (y := X)).2 (by simpa using h)
        omega
    by_cases hx : X = 0
    · subst hx; simp
    · have := (Nat.log2_lt hx (k := j)).2 hlt
      show 0 = _
      omega
  · have hx : X ≠ 0 := fun h => h0 (by rw [h, Nat.zero_div])
    have a := Nat.log2_self_le hx
    have b := Nat.lt_log2_self (n := X)
    have hj : j ≤ X.log2 := by
      refine (Nat.le_log2 hx).2 ?_
      rcases Nat.lt_or_ge X (2 ^ j) with h | h
      · exact absurd (Nat.div_eq_of_lt h) h0
      · exact h
    obtain ⟨k, hk⟩ : ∃ k, X.log2 = k + j := ⟨X.log2 - j, by omega⟩
    rw [hk] at a b ⊢
    rw [Nat.add_sub_cancel]
    refine log2_eq _ _ ?_ ?_
    · rw [Nat.le_div_iff_mul_le (Nat.two_pow_pos j), ← Nat.pow_add]; exact a
    · rw [Nat.div_lt_iff_lt_mul (Nat.two_pow_pos j), ← Nat.pow_add, show k + 1 + j = k + j + 1 by omega]; exact b
/-- scaled by a power of two, the quotient's logarithm goes with it -/
theorem log2_quo_up (a b j : Nat) (hb : 0 < b) (h : 0 < a / b) : (a * 2 ^ j / b).log2 = (a / b).log2 + j := by
  have h0 : a / b ≠ 0 := by omega
  have x1 := Nat.log2_self_le h0
  have x2 := Nat.lt_log2_self (n := a / b)
  refine log2_eq _ _ ?_ ?_
  · rw [Nat.le_div_iff_mul_le hb, Nat.pow_add, Nat.mul_right_comm]
    refine Nat.mul_le_mul_right _ ?_
    rw [← Nat.le_div_iff_mul_le hb]; exact x1
  · rw [Nat.div_lt_iff_lt_mul hb, show (a / b).log2 + j + 1 = (a / b).log2 + 1 + j by omega, Nat.pow_add, Nat.mul_right_comm]
    refine Nat.mul_lt_mul_of_pos_right ?_ (Nat.two_pow_pos j)
    rw [← Nat.div_lt_iff_lt_mul hb]; exact x2
/-- what Ratio answers: a / b is at least 2^55 and n bits were put behind, or taken away (L = 1074) -/
theorem rungQ_up (a b L n d : Nat) (hb : 0 < b) (hq : 2 ^ 55 ≤ a * 2 ^ n / b) (hd : d = max ((a * 2 ^ n / b).log2 - 52) (n - L)) (hd0 : 0 < d) :
    rungQ (a * 2 ^ L) b = (L + d - n) * 2 ^ 52 + rhe (a * 2 ^ n) (b * 2 ^ d) := by
  have hp := Nat.two_pow_pos 55
  have hq0 : a * 2 ^ n / b ≠ 0 := by omega
  have hlg := (Nat.le_log2 hq0 (k := 55)).2 hq
  have hE : (a * 2 ^ L / b).log2 - 52 = L + d - n := by
    rcases Nat.le_total n L with h | h
    · obtain ⟨j, hj⟩ : ∃ j, L = n + j := ⟨L - n, by omega⟩
      have e : a * 2 ^ L / b = a * 2 ^ n * 2 ^ j / b := by rw [hj, Nat.pow_add, Nat.mul_assoc]
      rw [e, log2_quo_up _ _ _ hb (by omega)]
      omega
    · obtain ⟨j, hj⟩ : ∃ j, n = L + j := ⟨n - L, by omega⟩
      have e : a * 2 ^ L / b = a * 2 ^ n / b / 2 ^ j := by
        rw [hj, Nat.pow_add, ← Nat.mul_assoc, Nat.div_div_eq_div_mul, Nat.mul_div_mul_right _ _ (Nat.two_pow_pos j)]
      rw [e, log2_div_pow]
      omega
  unfold rungQ
  rw [hE]
  congr 1
  rcases Nat.le_total n L with h | h
  · obtain ⟨j, hj⟩ : ∃ j, L = n + j := ⟨L - n, by omega⟩
    rw [show L + d - n = d + j by omega, hj, Nat.pow_add, Nat.pow_add, ← Nat.mul_assoc, ← Nat.mul_assoc, rhe_mul _ _ _ (Nat.two_pow_pos j)]
  · obtain ⟨j, hj⟩ : ∃ j, n = L + j := ⟨n - L, by omega⟩
    obtain ⟨k, hk⟩ : ∃ k, d = k + j := ⟨d - j, by omega⟩
    rw [show L + d - n = k by omega, hj, hk, Nat.pow_add 2 L, Nat.pow_add 2 k, ← Nat.mul_assoc, ← Nat.mul_assoc, rhe_mul _ _ _ (Nat.two_pow_pos j)]
theorem rungQ_down (a b L n d : Nat) (hb : 0 < b) (hq : 2 ^ 55 ≤ a / (b * 2 ^ n)) (hd : d = (a / (b * 2 ^ n)).log2 - 52) :
    rungQ (a * 2 ^ L) b = (L + d + n) * 2 ^ 52 + rhe a (b * 2 ^ n * 2 ^ d) := by
  have hp := Nat.two_pow_pos 55
  have hq0 : a / (b * 2 ^ n) ≠ 0 := by omega
  have hlg := (Nat.le_log2 hq0 (k := 55)).2 hq
  have hab : 0 < a / b := by
    rw [← Nat.div_div_eq_div_mul] at hq0
    exact Nat.pos_of_ne_zero fun h => hq0 (by rw [h, Nat.zero_div])
  have hE : (a * 2 ^ L / b).log2 - 52 = L + d + n := by
    rw [log2_quo_up _ _ _ hb hab]
    rw [← Nat.div_div_eq_div_mul, log2_div_pow] at hd hlg
    omega
  unfold rungQ
  rw [hE]
  congr 1
  rw [show L + d + n = n + d + L by omega, Nat.pow_add 2 (n + d), Nat.pow_add, ← Nat.mul_assoc, ← Nat.mul_assoc, rhe_mul _ _ _ (Nat.two_pow_pos L)]
end Go.Proofs.YtjkifbkehochoaaGreatDoor

namespace Go.Proofs.YtjkifbkehochoaaGreatDoor
open Fl

/-- the parts of a word that is a finite number not below nought -/
def pM (b : Nat) : Nat := if b < 2 ^ 52 then b else 2 ^ 52 + b % 2 ^ 52
def pE (b : Nat) : Nat := b / 2 ^ 52 - 1
theorem val_parts (b : Nat) : Fl.val 52 b = pM b * 2 ^ pE b := by
  unfold Fl.val pM pE
  split
  · rename_i h
    rw [Nat.div_eq_of_lt h, Nat.zero_sub, Nat.pow_zero, Nat.mul_one]
  · rfl
theorem parts_em (E m : Nat) (h1 : m < 2 ^ 53) (h2 : E = 0 ∨ 2 ^ 52 ≤ m) : pM (E * 2 ^ 52 + m) = m ∧ pE (E * 2 ^ 52 + m) = E := by
  unfold pM pE
  have e53 : (2 : Nat) ^ 53 = 2 * 2 ^ 52 := by decide
  have hp : 0 < 2 ^ 52 := Nat.two_pow_pos 52
  generalize 2 ^ 52 = P at *
  rw [e53] at h1
  by_cases hm : m < P
  · have hE : E = 0 := by omega
    subst hE
    rw [Nat.zero_mul, Nat.zero_add, if_pos hm, Nat.div_eq_of_lt hm]
    exact ⟨rfl, rfl⟩
  · have e1 : E * P + m = P * (E + 1) + (m - P) := by rw [Nat.mul_add, Nat.mul_comm E]; omega
    have e2 : ¬ E * P + m < P := by omega
    rw [if_neg e2, e1, Nat.mul_add_mod, Nat.mul_add_div hp, Nat.mod_eq_of_lt (by omega), Nat.div_eq_of_lt (show m - P < P by omega)]
    exact ⟨by omega, by omega⟩
theorem pM_lt (b : Nat) : pM b < 2 ^ 53 := by
  unfold pM
  have h := Nat.mod_lt b (Nat.two_pow_pos 52)
  have e : (2 : Nat) ^ 53 = 2 ^ 52 + 2 ^ 52 := by decide
  rw [e]
  split
  · exact Nat.lt_of_lt_of_le (by assumption) (Nat.le_add_left _ _)
  · exact Nat.add_lt_add_left h _
theorem parts_back (b : Nat) : pE b * 2 ^ 52 + pM b = b ∧ (pE b = 0 ∨ 2 ^ 52 ≤ pM b) := by
  unfold pM pE
  have hp : 0 < 2 ^ 52 := Nat.two_pow_pos 52
  generalize 2 ^ 52 = P at *
  split
  · rename_i h
    rw [Nat.div_eq_of_lt h]
    exact ⟨by omega, .inl rfl⟩
  · rename_i h
    have h1 := Nat.div_add_mod b P
    have h2 : 1 ≤ b / P := (Nat.le_div_iff_mul_le hp).2 (by omega)
    obtain ⟨k, hk⟩ : ∃ k, b / P = k + 1 := ⟨b / P - 1, by omega⟩
    rw [hk, Nat.mul_add, Nat.mul_one, Nat.mul_comm] at h1
    rw [hk, Nat.add_sub_cancel]
    exact ⟨by omega, .inr (Nat.le_add_right _ _)⟩
theorem val_next (b : Nat) : Fl.val 52 (b + 1) = (pM b + 1) * 2 ^ pE b := by
  have h := parts_back b
  conv => lhs; rw [← h.1]
  rw [Nat.add_assoc]
  refine val_em _ _ (pM_lt b) ?_
  rcases h.2 with h2 | h2
  · exact .inl h2
  · exact .inr (Nat.le_succ_of_le h2)
theorem mid_parts (b : Nat) : (2 * pM b + 1) * 2 ^ pE b = Fl.val 52 b + Fl.val 52 (b + 1) := by
  rw [val_next, val_parts]
  generalize 2 ^ pE b = P
  rw [Nat.add_mul, Nat.add_mul, Nat.one_mul, Nat.mul_assoc]
  omega
/-- what lies between a rung and the next, or behind the last -/
theorem near_low (A B low : Nat) (hB : 0 < B) (hl : low < INF) (h1 : Fl.val 52 low * B ≤ A) (h2 : A < Fl.val 52 (low + 1) * B ∨ low + 1 = INF) :
    low + (if (2 * pM low + 1) * 2 ^ pE low * B < 2 * A ∨ ((2 * pM low + 1) * 2 ^ pE low * B = 2 * A ∧ low % 2 = 1) then 1 else 0) = min (rungQ A B) INF := by
  have hx1 : Fl.val 52 low ≤ A / B := by rw [Nat.le_div_iff_mul_le hB]; exact h1
  by_cases h : A < Fl.val 52 (low + 1) * B
  · have hx2 : A / B < Fl.val 52 (low + 1) := by rw [Nat.div_lt_iff_lt_mul hB]; exact h
    have e := lowR_unique hx1 hx2
    have c := cut_cases (A / B)
    have p := parts_em ((A / B).log2 - 52) (A / B / 2 ^ ((A / B).log2 - 52)) c.1 c.2
    have e2 : low = ((A / B).log2 - 52) * 2 ^ 52 + A / B / 2 ^ ((A / B).log2 - 52) := e
    rw [← e2] at p
    rw [p.1, p.2]
    have r := rungQ_eq A B hB
    rw [← e] at r
    rw [← r, Nat.min_eq_left]
    rw [r]
    split
    · exact hl
    · exact Nat.le_of_lt hl
  · have hl := h2.resolve_left h
    have hA : Fl.val 52 INF * B ≤ A := by rw [← hl]; exact Nat.not_lt.1 h
    have hx : Fl.val 52 INF ≤ A / B := by rw [Nat.le_div_iff_mul_le hB]; exact hA
    have hr : INF ≤ rungQ A B := by
      rw [rungQ_eq A B hB]
      refine Nat.le_trans ?_ (Nat.le_add_right _ _)
      rcases Nat.lt_or_ge (lowR (A / B)) INF with h3 | h3
      · have := Fl.val_le 52 (lowR (A / B) + 1) INF h3
        have := lt_lowR (A / B)
        omega
      · exact h3
    rw [Nat.min_eq_right hr, if_pos, hl]
    left
    have c : (2 * pM low + 1) * 2 ^ pE low < 2 * Fl.val 52 INF := by
      rw [mid_parts, hl]
      have := Fl.val_lt 52 low INF (by omega)
      omega
    have c2 := Nat.mul_lt_mul_of_pos_right c hB
    rw [Nat.mul_assoc 2] at c2
    omega
end Go.Proofs.YtjkifbkehochoaaGreatDoor

namespace Go.Proofs.YtjkifbkehochoaaGreatDoor
open Fl

/-- a text's bytes -/
def bl (s : ByteArray) : List Nat := s.data.toList.map UInt8.toNat
theorem bl_len (s : ByteArray) : (bl s).length = s.size := by unfold bl; rw [List.length_map]; rfl
theorem bl_get (s : ByteArray) (k : Nat) (h : k < s.size) : (bl s)[k]? = some (s[k]).toNat := by
  unfold bl
  rw [List.getElem?_map, List.getElem?_eq_getElem (by simpa using h)]
  rfl
theorem bl_getD (s : ByteArray) (k : Nat) (h : k < s.size) : (bl s).getD k 0 = (s[k]).toNat := by
  rw [List.getD, bl_get s k h]; rfl
theorem bl_append (a b : ByteArray) : bl (a ++ b) = bl a ++ bl b := by
  unfold bl
  rw [ByteArray.data_append, Array.toList_append, List.map_append]
theorem bl_extract (s : ByteArray) (a b : Nat) : bl (s.extract a b) = ((bl s).take b).drop a := by
  unfold bl
  rw [ByteArray.data_extract, Array.toList_extract]
  simp [List.map_drop, List.map_take, List.extract_eq_take_drop, List.drop_take]
/-- how many noughts stand ahead -/
def lead : List Nat → Nat
  | [] => 0
  | x :: l => if x = 48 then lead l + 1 else 0
theorem lead_le : ∀ l, lead l ≤ l.length
  | [] => Nat.le_refl _
  | x :: l => by
    rw [lead, List.length_cons]
    have := lead_le l
    split <;> omega
theorem lead_step {l : List Nat} {k x : Nat} (h : l[k]? = some x) : lead (l.drop k) = if x = 48 then lead (l.drop (k + 1)) + 1 else 0 := by
  have hk : k < l.length := (List.getElem?_eq_some_iff.1 h).1
  have e : l[k] = x := (List.getElem?_eq_some_iff.1 h).2
  rw [List.drop_eq_getElem_cons hk, lead, e]
/-- where what is left of the noughts behind ends -/
def te (l : List Nat) (f : Nat) : Nat → Nat
  | 0 => 0
  | k + 1 => if f < k + 1 ∧ l.getD k 0 = 48 then te l f k else k + 1
theorem te_le (l : List Nat) (f : Nat) : ∀ k, te l f k ≤ k
  | 0 => Nat.le_refl _
  | k + 1 => by
    rw [te]
    have := te_le l f k
    split <;> omega
theorem te_ge (l : List Nat) (f : Nat) : ∀ k, f ≤ k → f ≤ te l f k
  | 0, h => by rw [te]; exact h
  | k + 1, h => by
    rw [te]
    split
    · rename_i c
      exact te_ge l f k (by omega)
    · exact h
/-- without the noughts ahead and behind -/
def stripD (l : List Nat) : List Nat := (l.take (te l (lead l) l.length)).drop (lead l)
theorem strip_len (l : List Nat) : (stripD l).length = te l (lead l) l.length - lead l := by
  unfold stripD
  rw [List.length_drop, List.length_take, Nat.min_eq_left (te_le _ _ _)]
def dval (l : List Nat) : Nat := l.foldl (fun a x => a * 10 + (x - 48)) 0
theorem dval_snoc (l : List Nat) (x : Nat) : dval (l ++ [x]) = dval l * 10 + (x - 48) := by unfold dval; rw [List.foldl_append]; rfl
theorem dval_take {l : List Nat} {k x : Nat} (h : l[k]? = some x) : dval (l.take (k + 1)) = dval (l.take k) * 10 + (x - 48) := by
  rw [List.take_add_one, h]
  exact dval_snoc _ _
/-- all are digits -/
def DG (l : List Nat) : Prop := ∀ x ∈ l, 48 ≤ x ∧ x ≤ 57
theorem dval_lt {l : List Nat} (h : DG l) : ∀ k, k ≤ l.length → dval (l.take k) < 10 ^ k
  | 0, _ => by rw [List.take_zero]; decide
  | k + 1, hk => by
    have hx : l[k]? = some l[k] := List.getElem?_eq_getElem hk
    have ih := dval_lt h k (by omega)
    have hd := h l[k] (List.getElem_mem hk)
    rw [dval_take hx, Nat.pow_succ]
    omega
/-- no more than so many digits, and whether something is left -/
def cutD (d : List Nat) : List Nat := if 800 < d.length then d.take 800 ++ [49] else d
theorem cut_len (d : List Nat) : (cutD d).length ≤ 801 := by
  unfold cutD
  split
  · rw [List.length_append, List.length_take]
    simp
    omega
  · omega
def numF (d : List Nat) (p : Int) : Nat := min (rungQ (dval d * 10 ^ (p - d.length).toNat * 2 ^ K) (10 ^ (-(p - d.length)).toNat)) INF
/-- the bits of the number as which digits at a point are read -/
def readF (l : List Nat) (point : Int) : Nat :=
  if stripD l = [] ∨ point < -1099511627776 then 0
  else if 400 < point - lead l then INF
  else if point - lead l < -400 then 0
  else numF (cutD (stripD l)) (point - lead l)
theorem DG.take {l : List Nat} (h : DG l) (k : Nat) : DG (l.take k) := fun x hx => h x (List.mem_of_mem_take hx)
theorem DG.drop {l : List Nat} (h : DG l) (k : Nat) : DG (l.drop k) := fun x hx => h x (List.mem_of_mem_drop hx)
theorem DG.strip {l : List Nat} (h : DG l) : DG (stripD l) := (h.take _).drop _
theorem DG.cut {l : List Nat} (h : DG l) : DG (cutD l) := by
  unfold cutD
  split
  · intro x hx
    rcases List.mem_append.1 hx with hx | hx
    · exact h.take 800 x hx
    · rcases List.mem_singleton.1 hx with rfl
      decide
  · exact h
end Go.Proofs.YtjkifbkehochoaaGreatDoor
