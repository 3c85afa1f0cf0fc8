/- calc: what Rem, Mod and Round tell: plain laws. Natural numbers as words of 32 bits: sums, differences, which is greater: plain laws. -/
import Derived.Test.YthohhepoddnbnaaGreatDoorMgFl
import Derived.Laws.FloatArith
namespace Go.Proofs.YthohhepoddnbnaaGreatDoor
open Fl

/-- is it the multiple that is farther from nought? -/
def outB (k : Nat) (neg : Bool) (r b : Nat) : Bool :=
  (Nat.beq k 1 && !neg) || (Nat.beq k 2 && neg) || (Nat.beq k 0 && (decide (b < 2 * r) || (decide (b = 2 * r) && !neg)))
theorem outB_scale (k : Nat) (neg : Bool) (r b c : Nat) (hc : 0 < c) : outB k neg (r * c) (b * c) = outB k neg r b := by
  unfold outB
  rw [show 2 * (r * c) = 2 * r * c from (Nat.mul_assoc _ _ _).symm]
  have h1 : decide (b * c < 2 * r * c) = decide (b < 2 * r) := by
    rw [decide_eq_decide]; exact Nat.mul_lt_mul_right hc
  have h2 : decide (b * c = 2 * r * c) = decide (b = 2 * r) := by
    rw [decide_eq_decide]; exact ⟨fun h => Nat.eq_of_mul_eq_mul_right hc h, fun h => by rw [h]⟩
  rw [h1, h2]
/-- the multiple, in units -/
def roundN (k x y : Nat) : Nat := (Fl.val 52 (rg x) / Fl.val 52 (rg y) + if outB k (sg x) (Fl.val 52 (rg x) % Fl.val 52 (rg y)) (Fl.val 52 (rg y)) then 1 else 0) * Fl.val 52 (rg y)
def roundF (k x y : Nat) : Nat := if Fl.val 52 (rg x) % Fl.val 52 (rg y) = 0 then x else word (sg x) (rnd (roundN k x y))

/-! ### eighths -/
theorem read_fin2 (b : Nat) (h : b < 18446744073709551616) (hf : fin b = true) :
    ∃ m j : Nat, Ieee.double.read b = .number (sg b) m (-1074 + (j : Int)) ∧ m * 2 ^ j = Fl.val 52 (rg b) ∧ m < 9007199254740992 := by
  have hf := fin_true hf
  rw [read_eq b h]
  by_cases c : rg b < 4503599627370496
  · refine ⟨rg b, 0, by rw [if_pos c]; rfl, ?_, by omega⟩
    rw [val_small 52 _ (by omega)]; simp
  · refine ⟨_, _, by rw [if_neg c, if_pos hf], ?_, by omega⟩
    unfold Fl.val
    rw [if_neg (by omega)]
theorem read_8 : Ieee.double.read 4620693217682128896 = .number false 4503599627370496 (-49) := by decide
theorem nearest_8 (s : Bool) (m j N : Nat) (h : m * 2 ^ j = N * 8) : Ieee.double.nearest s m (-1074 + (j : Int) - 3) = word s (rnd N) := by
  rcases Nat.lt_or_ge j 3 with hj | hj
  · have e : m = N * 2 ^ (3 - j) := by
      rcases (show j = 0 ∨ j = 1 ∨ j = 2 by omega) with rfl | rfl | rfl <;> simp at h ⊢ <;> omega
    rw [e, d_nearest_scale, d_nearest _ _ _ (by omega), show (-1074 + (j : Int) - 3 + ((3 - j : Nat) : Int) + 1074).toNat = 0 by omega, Nat.pow_zero, Nat.mul_one]
  · obtain ⟨i, rfl⟩ : ∃ i, j = i + 3 := ⟨j - 3, by omega⟩
    rw [Nat.pow_add, ← Nat.mul_assoc] at h
    have h2 : m * 2 ^ i = N := by omega
    rw [d_nearest _ _ _ (by omega), show (-1074 + ((i + 3 : Nat) : Int) - 3 + 1074).toNat = i by omega, h2]
theorem quo_8c (c : Nat) (hc : Ieee.double.read c = .number false 4503599627370496 (-49)) (b : Nat) (hb : b < 18446744073709551616) (hf : fin b = true) (N : Nat) (hv : Fl.val 52 (rg b) = N * 8) : Ieee.double.div b c = some (word (sg b) (rnd N)) := by
  obtain ⟨m, j, e, hm, hl⟩ := read_fin2 b hb hf
  unfold Ieee.Format.div
  rw [e, hc]
  have l52 : Nat.log2 4503599627370496 = 52 := by decide
  have hlog : m.log2 ≤ 52 := by
    by_cases h0 : m = 0
    · subst h0; decide
    · have := (Nat.log2_lt h0 (k := 53)).2 (by rw [show (2 : Nat) ^ 53 = 9007199254740992 from by decide]; exact hl)
      omega
  have hfb : Ieee.double.fractionBits = 52 := rfl
  obtain ⟨t, ht⟩ : ∃ t, 54 + 52 - m.log2 = t + 52 := ⟨54 - m.log2, by omega⟩
  have ht : Ieee.double.fractionBits + 2 + Nat.log2 4503599627370496 - m.log2 = t + 52 := by rw [l52, hfb]; exact ht
  clear hfb l52 hlog
  simp only [Ieee.Datum.quotient, ht, Bool.xor_false, Nat.shiftLeft_eq]
  rw [if_neg (by decide)]
  refine congrArg some ?_
  have e1 : m * 2 ^ (t + 52) / 4503599627370496 = m * 2 ^ t := by
    rw [Nat.pow_add, ← Nat.mul_assoc, B52, Nat.mul_div_cancel _ (by decide)]
  have e2 : m * 2 ^ (t + 52) % 4503599627370496 = 0 := by
    rw [Nat.pow_add, ← Nat.mul_assoc, B52, Nat.mul_mod_left]
  rw [e1, e2]
  show Ieee.double.nearest (sg b) (2 * (m * 2 ^ t) + 0) _ = _
  rw [Nat.add_zero, show 2 * (m * 2 ^ t) = m * 2 ^ (t + 1) by rw [Nat.pow_succ]; generalize 2 ^ t = T; rw [Nat.mul_left_comm, Nat.mul_comm 2 T], d_nearest_scale]
  refine Eq.trans (congrArg (Ieee.double.nearest (sg b) m) ?_) (nearest_8 (sg b) m j N (hm.trans hv))
  push_cast
  omega

theorem quo_8 (b : Nat) (hb : b < 18446744073709551616) (hf : fin b = true) (N : Nat) (hv : Fl.val 52 (rg b) = N * 8) : floatBits .quo .f64 b 4620693217682128896 = some (word (sg b) (rnd N)) :=
  quo_8c _ read_8 b hb hf N hv
/-! ### what is left is a number -/
theorem rem_rep (a b : Nat) (hb : 0 < Fl.val 52 b) : ∃ m j, m ≤ 2 * 2 ^ 52 ∧ Fl.val 52 a % Fl.val 52 b = m * 2 ^ j := by
  have ha := pM_lt a
  have hbM := pM_lt b
  have e53 : (2 : Nat) ^ 53 = 2 * 2 ^ 52 := by decide
  rcases Nat.lt_or_ge (pE a) (pE b) with h | h
  · have hlt : Fl.val 52 a < Fl.val 52 b := by
      rw [val_parts, val_parts]
      have h1 := (parts_back b).2.resolve_left (by omega)
      obtain ⟨i, hi⟩ : ∃ i, pE b = pE a + 1 + i := ⟨pE b - pE a - 1, by omega⟩
      have h2 : 2 ^ 53 * 2 ^ pE a ≤ pM b * 2 ^ pE b := by
        have h4 : 2 ^ pE b = 2 ^ pE a * 2 * 2 ^ i := by rw [hi, Nat.pow_add, Nat.pow_succ]
        rw [h4, e53]
        have h3 : 2 ^ 52 * (2 ^ pE a * 2 * 1) ≤ pM b * (2 ^ pE a * 2 * 2 ^ i) := Nat.mul_le_mul h1 (Nat.mul_le_mul_left _ (Nat.one_le_two_pow))
        refine Nat.le_trans (Nat.le_of_eq ?_) h3
        generalize 2 ^ pE a = P
        rw [Nat.mul_one, Nat.mul_comm P 2, ← Nat.mul_assoc, Nat.mul_comm (2 ^ 52) 2]
      exact Nat.lt_of_lt_of_le (Nat.mul_lt_mul_of_pos_right ha (Nat.two_pow_pos _)) h2
    rw [Nat.mod_eq_of_lt hlt, val_parts]
    exact ⟨_, _, by omega, rfl⟩
  · rw [val_parts b] at hb ⊢
    rw [val_parts a]
    obtain ⟨i, hi⟩ : ∃ i, pE a = i + pE b := ⟨pE a - pE b, by omega⟩
    rw [hi, Nat.pow_add, ← Nat.mul_assoc, Nat.mul_mod_mul_right]
    refine ⟨_, _, ?_, rfl⟩
    have := Nat.mod_lt (pM a * 2 ^ i) (y := pM b) (Nat.pos_of_ne_zero fun h => by rw [h, Nat.zero_mul] at hb; omega)
    omega
theorem rem_small (a b : Nat) (hb : 0 < Fl.val 52 b) (hf : b < INF) : rnd (Fl.val 52 a % Fl.val 52 b) < b := by
  obtain ⟨m, j, hm, e⟩ := rem_rep a b hb
  have hv : Fl.val 52 (rungOf 52 (m * 2 ^ j) 0) = m * 2 ^ j := val_rungOf_small 52 m j hm
  have hlt := Nat.mod_lt (Fl.val 52 a) hb
  rw [e] at hlt ⊢
  have h2 : rungOf 52 (m * 2 ^ j) 0 < b := by
    rcases Nat.lt_or_ge (rungOf 52 (m * 2 ^ j) 0) b with h | h
    · exact h
    · have := val_le 52 _ _ h
      omega
  unfold rnd
  omega
theorem mod_small (N b : Nat) (h : N ≤ Fl.val 52 b) (hf : b ≤ INF) : rnd N ≤ b := by
  have := rnd_mono h
  rw [rnd_val _ hf] at this
  exact this

/-! ### rounded twice -/
/-- the word of an eighth, of a whole number -/
def e8 (z : Int) : Nat := word (decide (z < 0)) (rnd (z.natAbs * 2 ^ (K - 3)))
def eI (z : Int) : Nat := word (decide (z < 0)) (rnd (z.natAbs * ONE))
theorem one_8 : ONE = 2 ^ (K - 3) * 8 := by
  rw [one_pow, show (8 : Nat) = 2 ^ 3 from by decide, ← Nat.pow_add]
  congr 1
theorem eI_parts (z : Int) (hz : z.natAbs ≤ 9007199254740992) : eI z < 18446744073709551616 ∧ sg (eI z) = decide (z < 0) ∧ rg (eI z) = rnd (z.natAbs * ONE) ∧ Fl.val 52 (rg (eI z)) = z.natAbs * ONE ∧ rg (eI z) < INF := by
  have hl := rnd_lt (z.natAbs * ONE)
  have h := small_word z.natAbs K hz (Nat.le_add_right _ _)
  rw [← one_pow] at h
  have e : rg (eI z) = rnd (z.natAbs * ONE) := rg_word _ _ hl
  refine ⟨?_, sg_word _ _ hl, e, by rw [e]; exact h.1, by rw [e]; exact h.2⟩
  unfold eI word; split <;> omega
theorem e8_parts (z : Int) (hz : z.natAbs ≤ 9007199254740992) : e8 z < 18446744073709551616 ∧ sg (e8 z) = decide (z < 0) ∧ rg (e8 z) = rnd (z.natAbs * 2 ^ (K - 3)) ∧ Fl.val 52 (rg (e8 z)) = z.natAbs * 2 ^ (K - 3) ∧ rg (e8 z) < INF := by
  have hl := rnd_lt (z.natAbs * 2 ^ (K - 3))
  have h := small_word z.natAbs (K - 3) hz (by omega)
  have e : rg (e8 z) = rnd (z.natAbs * 2 ^ (K - 3)) := rg_word _ _ hl
  refine ⟨?_, sg_word _ _ hl, e, by rw [e]; exact h.1, by rw [e]; exact h.2⟩
  unfold e8 word; split <;> omega
theorem e8_quo (z : Int) (hz : z.natAbs ≤ 9007199254740992) : floatBits .quo .f64 (eI z) 4620693217682128896 = some (e8 z) := by
  obtain ⟨h1, h2, h3, h4, h5⟩ := eI_parts z hz
  have := quo_8 (eI z) h1 (decide_eq_true h5) (z.natAbs * 2 ^ (K - 3)) (by rw [h4, one_8, Nat.mul_assoc])
  rw [this, h2]
  rfl
theorem five_law (z s : Int) (hz : z.natAbs ≤ 2147483648) (hs : s.natAbs ≤ 32768) (h0 : s ≠ 0) :
    roundF 0 (e8 z) (eI s) < 18446744073709551616 ∧ rg (roundF 0 (e8 z) (eI s)) < INF ∧ roundF 0 (roundF 0 (e8 z) (eI s)) (eI s) = roundF 0 (e8 z) (eI s) := by
  obtain ⟨a1, a2, a3, a4, a5⟩ := e8_parts z (by omega)
  obtain ⟨b1, b2, b3, b4, b5⟩ := eI_parts s (by omega)
  by_cases h : Fl.val 52 (rg (e8 z)) % Fl.val 52 (rg (eI s)) = 0
  · have e : roundF 0 (e8 z) (eI s) = e8 z := if_pos h
    rw [e, e]
    exact ⟨a1, a5, rfl⟩
  · have e : roundF 0 (e8 z) (eI s) = word (sg (e8 z)) (rnd (roundN 0 (e8 z) (eI s))) := if_neg h
    obtain ⟨j, hj, hN, hM⟩ : ∃ j, j ≤ 9007199254740992 ∧ roundN 0 (e8 z) (eI s) = j * 2 ^ K ∧ roundN 0 (e8 z) (eI s) % Fl.val 52 (rg (eI s)) = 0 := by
      unfold roundN
      have hc : (if outB 0 (sg (e8 z)) (Fl.val 52 (rg (e8 z)) % Fl.val 52 (rg (eI s))) (Fl.val 52 (rg (eI s))) then 1 else 0 : Nat) ≤ 1 := by split <;> omega
      generalize (if outB 0 (sg (e8 z)) (Fl.val 52 (rg (e8 z)) % Fl.val 52 (rg (eI s))) (Fl.val 52 (rg (eI s))) then 1 else 0 : Nat) = c at *
      refine ⟨(Fl.val 52 (rg (e8 z)) / Fl.val 52 (rg (eI s)) + c) * s.natAbs, ?_, ?_, Nat.mul_mod_left _ _⟩
      · have h1 : Fl.val 52 (rg (e8 z)) / Fl.val 52 (rg (eI s)) ≤ 2147483648 := by
          rw [a4, b4, one_8]
          have hs0 : 0 < s.natAbs := by omega
          have hp := Nat.two_pow_pos (K - 3)
          generalize 2 ^ (K - 3) = P at *
          refine Nat.le_trans (Nat.div_le_div_right (c := s.natAbs * (P * 8)) (Nat.mul_le_mul_right P hz)) ?_
          refine Nat.div_le_of_le_mul ?_
          rw [Nat.mul_comm (s.natAbs * (P * 8))]
          refine Nat.mul_le_mul_left _ ?_
          refine Nat.le_trans ?_ (Nat.mul_le_mul_right (P * 8) hs0)
          omega
        have h2 := Nat.mul_le_mul (Nat.add_le_add h1 hc) hs
        omega
      · rw [b4, one_pow, Nat.mul_assoc]
    have hw := small_word j K hj (Nat.le_add_right _ _)
    rw [← hN] at hw
    have hl := rnd_lt (roundN 0 (e8 z) (eI s))
    generalize roundN 0 (e8 z) (eI s) = N at *
    have er : rg (word (sg (e8 z)) (rnd N)) = rnd N := rg_word _ _ hl
    rw [e]
    refine ⟨by unfold word; split <;> omega, by rw [er]; exact hw.2, ?_⟩
    exact if_pos (by rw [er, hw.1]; exact hM)
end Go.Proofs.YthohhepoddnbnaaGreatDoor

namespace Go.Proofs.YthohhepoddnbnaaGreatDoor.Fl

/-- the i-th word of a number -/
def dg (n i : Nat) : Nat := n / 2 ^ (32 * i) % 4294967296
theorem dg_lt (n i : Nat) : dg n i < 4294967296 := Nat.mod_lt _ (by decide)
theorem Q_pos (i : Nat) : 0 < 2 ^ (32 * i) := Nat.two_pow_pos _
theorem Q_succ (i : Nat) : 2 ^ (32 * (i + 1)) = 2 ^ (32 * i) * 4294967296 := by rw [Nat.mul_succ, Nat.pow_add]
theorem mod_succ (a i : Nat) : a % 2 ^ (32 * (i + 1)) = 2 ^ (32 * i) * dg a i + a % 2 ^ (32 * i) := by
  unfold dg
  rw [Q_succ, Nat.mod_mul]
  omega
/-- what is carried into the i-th word of a sum -/
def cr (a b i : Nat) : Nat := (a % 2 ^ (32 * i) + b % 2 ^ (32 * i)) / 2 ^ (32 * i)
theorem cr_le (a b i : Nat) : cr a b i ≤ 1 := by
  unfold cr
  have hT := Q_pos i
  generalize 2 ^ (32 * i) = T at *
  have h1 := Nat.mod_lt a hT
  have h2 := Nat.mod_lt b hT
  have : (a % T + b % T) / T < 2 := Nat.div_lt_of_lt_mul (by omega)
  omega
theorem div_cr (a b i : Nat) : (a + b) / 2 ^ (32 * i) = a / 2 ^ (32 * i) + b / 2 ^ (32 * i) + cr a b i := by
  unfold cr
  have hT := Q_pos i
  generalize 2 ^ (32 * i) = T at *
  have h1 := Nat.div_add_mod a T
  have h2 := Nat.div_add_mod b T
  have e : a + b = (a % T + b % T) + T * (a / T + b / T) := by rw [Nat.mul_add]; omega
  rw [e, Nat.add_mul_div_left _ _ hT]
  have e2 : ((a % T + b % T) + T * (a / T + b / T)) = a + b := e.symm
  omega
theorem dg_add (a b i : Nat) : dg (a + b) i = (dg a i + dg b i + cr a b i) % 4294967296 := by
  unfold dg
  rw [div_cr]
  omega
theorem cr_succ (a b i : Nat) : cr a b (i + 1) = (dg a i + dg b i + cr a b i) / 4294967296 := by
  have hT := Q_pos i
  show (a % 2 ^ (32 * (i + 1)) + b % 2 ^ (32 * (i + 1))) / 2 ^ (32 * (i + 1)) = _
  rw [mod_succ, mod_succ, Q_succ]
  unfold cr
  generalize 2 ^ (32 * i) = T at *
  generalize dg a i = x
  generalize dg b i = y
  rw [← Nat.div_div_eq_div_mul]
  congr 1
  have e : T * x + a % T + (T * y + b % T) = (a % T + b % T) + T * (x + y) := by rw [Nat.mul_add]; omega
  rw [e, Nat.add_mul_div_left _ _ hT]
  omega
theorem cr_low (a b i : Nat) (h : b % 2 ^ (32 * i) = 0) : cr a b i = 0 := by
  unfold cr
  rw [h, Nat.add_zero]
  exact Nat.div_eq_of_lt (Nat.mod_lt _ (Q_pos i))
/-- where nothing is carried and nothing is added the word stays, and nothing is carried on -/
theorem dg_stay (a b i : Nat) (h : b < 2 ^ (32 * i)) (h0 : cr a b i = 0) (j : Nat) (hj : i ≤ j) : dg (a + b) j = dg a j := by
  unfold dg
  have e : (a + b) / 2 ^ (32 * i) = a / 2 ^ (32 * i) := by rw [div_cr, h0, Nat.div_eq_of_lt h]; omega
  have e2 : ∀ x : Nat, x / 2 ^ (32 * j) = x / 2 ^ (32 * i) / 2 ^ (32 * (j - i)) := fun x => by
    rw [Nat.div_div_eq_div_mul, ← Nat.pow_add]; congr 2; omega
  rw [e2 (a + b), e2 a, e]
theorem dg_high (b i : Nat) (h : b < 2 ^ (32 * i)) : dg b i = 0 := by unfold dg; rw [Nat.div_eq_of_lt h]
theorem dg_low (v k i : Nat) (h : i < k) : dg (v * 2 ^ (32 * k)) i = 0 := by
  unfold dg
  have e : 2 ^ (32 * k) = 2 ^ (32 * i) * (4294967296 * 2 ^ (32 * (k - i - 1))) := by
    rw [show (4294967296 : Nat) = 2 ^ 32 by decide, ← Nat.pow_add, ← Nat.pow_add]; congr 1; omega
  have e2 : v * (2 ^ (32 * i) * (4294967296 * 2 ^ (32 * (k - i - 1)))) = 4294967296 * (v * 2 ^ (32 * (k - i - 1))) * 2 ^ (32 * i) := by
    simp only [Nat.mul_comm, Nat.mul_assoc, Nat.mul_left_comm]
  rw [e, e2, Nat.mul_div_cancel _ (Q_pos i), Nat.mul_mod_right]
/-- the words of a number shifted by whole words -/
theorem dg_shift (v k i : Nat) : dg (v * 2 ^ (32 * k)) (k + i) = dg v i := by
  unfold dg
  rw [Nat.mul_add, Nat.pow_add, ← Nat.div_div_eq_div_mul, Nat.mul_div_cancel _ (Q_pos k)]
/-- a difference -/
def br (a b i : Nat) : Nat := if a % 2 ^ (32 * i) < b % 2 ^ (32 * i) then 1 else 0
theorem br_le (a b i : Nat) : br a b i ≤ 1 := by unfold br; split <;> omega
theorem br_zero (a b : Nat) : br a b 0 = 0 := by unfold br; simp [Nat.mod_one]
theorem br_succ (a b i : Nat) : br a b (i + 1) = if dg a i < dg b i + br a b i then 1 else 0 := by
  have hT := Q_pos i
  show (if a % 2 ^ (32 * (i + 1)) < b % 2 ^ (32 * (i + 1)) then 1 else 0) = _
  rw [mod_succ, mod_succ]
  unfold br
  generalize 2 ^ (32 * i) = T at *
  generalize dg a i = x
  generalize dg b i = y
  have h1 := Nat.mod_lt a hT
  have h2 := Nat.mod_lt b hT
  generalize a % T = r at *
  generalize b % T = s at *
  rcases Nat.lt_trichotomy x y with c | c | c
  · have : T * x + T ≤ T * y := by rw [← Nat.mul_succ]; exact Nat.mul_le_mul_left T c
    rw [if_pos (by omega), if_pos (by omega)]
  · subst c
    by_cases h : r < s
    · rw [if_pos (by omega), if_pos h, if_pos (by omega)]
    · rw [if_neg (by omega), if_neg h, if_neg (by omega)]
  · have : T * y + T ≤ T * x := by rw [← Nat.mul_succ]; exact Nat.mul_le_mul_left T c
    rw [if_neg (by omega), if_neg]
    split <;> omega
theorem dg_sub (a b i : Nat) (h : b ≤ a) : dg (a - b) i = (dg a i + 4294967296 - dg b i - br a b i) % 4294967296 := by
  have hs : a = (a - b) + b := by omega
  generalize a - b = d at *
  subst hs
  have hc : br (d + b) b i = cr d b i := by
    unfold br cr
    have hT := Q_pos i
    generalize 2 ^ (32 * i) = T at *
    have h1 := Nat.mod_lt d hT
    have h2 := Nat.mod_lt b hT
    by_cases hlt : d % T + b % T < T
    · rw [Nat.add_mod, Nat.mod_eq_of_lt hlt, Nat.div_eq_of_lt hlt, if_neg (by omega)]
    · have e : (d + b) % T = d % T + b % T - T := by
        rw [Nat.add_mod, Nat.mod_eq_sub_mod (by omega), Nat.mod_eq_of_lt (by omega)]
      have e2 : (d % T + b % T) / T = 1 := by
        rw [show d % T + b % T = (d % T + b % T - T) + T * 1 by omega, Nat.add_mul_div_left _ _ hT, Nat.div_eq_of_lt (by omega)]
      rw [e, e2, if_pos (by omega)]
  rw [hc, dg_add]
  have h1 := dg_lt d i
  have h2 := dg_lt b i
  have h3 := cr_le d b i
  omega
/-- which is greater -/
theorem top_step (a b i : Nat) (h : a / 2 ^ (32 * (i + 1)) = b / 2 ^ (32 * (i + 1))) :
    (dg b i < dg a i → b < a) ∧ (dg a i < dg b i → a < b) ∧ (dg a i = dg b i → a / 2 ^ (32 * i) = b / 2 ^ (32 * i)) := by
  have hT := Q_pos i
  have e : ∀ x : Nat, x / 2 ^ (32 * i) = 4294967296 * (x / 2 ^ (32 * (i + 1))) + dg x i := fun x => by
    unfold dg
    rw [Q_succ, ← Nat.div_div_eq_div_mul]
    omega
  have ea := e a
  have eb := e b
  rw [h] at ea
  have lt : ∀ x y : Nat, x / 2 ^ (32 * i) < y / 2 ^ (32 * i) → x < y := fun x y hxy => by
    rcases Nat.lt_or_ge x y with c | c
    · exact c
    · exact absurd (Nat.div_le_div_right (c := 2 ^ (32 * i)) c) (by omega)
  exact ⟨fun h1 => lt _ _ (by omega), fun h1 => lt _ _ (by omega), fun h1 => by omega⟩
theorem top_all (a b : Nat) (h : a / 2 ^ (32 * 0) = b / 2 ^ (32 * 0)) : a = b := by simpa using h
end Go.Proofs.YthohhepoddnbnaaGreatDoor.Fl
