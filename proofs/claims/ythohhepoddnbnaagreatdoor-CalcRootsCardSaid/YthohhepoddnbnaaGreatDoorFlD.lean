
/- Plain laws, fourth part: binary32 in binary64 and back. -/
import Derived.Test.YthohhepoddnbnaaGreatDoorFlC
namespace Go.Proofs.YthohhepoddnbnaaGreatDoor.Fl
open Ieee

theorem nearest_scale (f : Format) (neg : Bool) (M j : Nat) (p : Int) : f.nearest neg (M * 2 ^ j) p = f.nearest neg M (p + j) := by
  rw [nearest_eq, nearest_eq]
  refine congrArg (fun r => f.word neg (min r f.infRung)) ?_
  generalize f.leastPlace = L
  generalize f.fractionBits = fb
  rcases Int.le_total L p with h | h
  · rw [show (L - p).toNat = 0 by omega, show (L - (p + (j : Int))).toNat = 0 by omega, Nat.mul_assoc, ← Nat.pow_add]
    congr 3; omega
  · rw [show (p - L).toNat = 0 by omega, Nat.pow_zero, Nat.mul_one]
    rcases Int.le_total L (p + j) with h' | h'
    · rw [show (L - (p + (j : Int))).toNat = 0 by omega]
      have e : j = (p + (j : Int) - L).toNat + (L - p).toNat := by omega
      generalize ha : (p + (j : Int) - L).toNat = a at *
      generalize hb : (L - p).toNat = b at *
      rw [e, Nat.pow_add, ← Nat.mul_assoc]
      have := rungOf_scale fb (M * 2 ^ a) 0 b
      rw [Nat.zero_add] at this
      exact this
    · rw [show (p + (j : Int) - L).toNat = 0 by omega, Nat.pow_zero, Nat.mul_one]
      rw [show (L - p).toNat = (L - (p + (j : Int))).toNat + j by omega]
      exact rungOf_scale fb M _ j

/-- binary32: sign, rung -/
def sg32 (b : Nat) : Bool := decide (2147483648 ≤ b)
def rg32 (b : Nat) : Nat := b % 2147483648
def isN32 (b : Nat) : Bool := decide (2139095040 < rg32 b)
theorem s_inf : single.infRung = 2139095040 := by decide
theorem s_sw : single.signWeight = 2147483648 := by decide
theorem s_bin : single.binade = 8388608 := by decide
theorem s_least : single.leastPlace = -149 := by decide
theorem word32_self (b : Nat) (h : b < 4294967296) : single.word (sg32 b) (rg32 b) = b := by
  unfold Format.word sg32 rg32
  rw [s_sw]
  by_cases c : 2147483648 ≤ b
  · rw [decide_eq_true c, if_pos rfl]; omega
  · rw [decide_eq_false c, if_neg (by decide)]; omega
theorem read32_eq (b : Nat) (h : b < 4294967296) : single.read b =
    if rg32 b < 8388608 then .number (sg32 b) (rg32 b) (-149)
    else if rg32 b < 2139095040 then .number (sg32 b) (8388608 + rg32 b % 8388608) (-149 + ((rg32 b / 8388608 - 1 : Nat) : Int))
    else if rg32 b = 2139095040 then .infinity (sg32 b) else .nan (sg32 b) (rg32 b - 2139095040) := by
  have hs : (b / single.signWeight % 2 == 1) = sg32 b := by
    rw [s_sw]; unfold sg32
    by_cases c : 2147483648 ≤ b
    · rw [decide_eq_true c]; simp; omega
    · rw [decide_eq_false c]; simp; omega
  unfold Format.read
  simp only [hs]
  simp only [s_sw, s_bin, s_inf, s_least]
  rfl
theorem read32_fin (b : Nat) (h : b < 4294967296) (hf : rg32 b < 2139095040) :
    ∃ m j : Nat, single.read b = .number (sg32 b) m (-149 + (j : Int)) ∧ m * 2 ^ j = val 23 (rg32 b) ∧ m < 16777216 ∧ j ≤ 260 := by
  rw [read32_eq b h]
  by_cases c : rg32 b < 8388608
  · refine ⟨rg32 b, 0, by rw [if_pos c]; rfl, ?_, by omega, by omega⟩
    rw [val_small 23 _ (by rw [show (2 ^ 23 : Nat) = 8388608 from by decide]; omega)]; simp
  · refine ⟨_, _, by rw [if_neg c, if_pos hf], ?_, by omega, by omega⟩
    unfold val
    rw [show (2 ^ 23 : Nat) = 8388608 from by decide, if_neg (by omega)]
theorem read32_inf (b : Nat) (h : b < 4294967296) (hf : rg32 b = 2139095040) : single.read b = .infinity (sg32 b) := by
  rw [read32_eq b h, if_neg (by omega), if_neg (by omega), if_pos hf]
theorem read32_nan (b : Nat) (h : b < 4294967296) (hf : isN32 b = true) : single.read b = .nan (sg32 b) (rg32 b - 2139095040) := by
  have hf : 2139095040 < rg32 b := of_decide_eq_true hf
  rw [read32_eq b h, if_neg (by omega), if_neg (by omega), if_neg (by omega)]
theorem write_read32 (b : Nat) (h : b < 4294967296) (hf : rg32 b < 2139095040) (m j : Nat) (hv : m * 2 ^ j = val 23 (rg32 b)) : single.nearest (sg32 b) m (-149 + (j : Int)) = b := by
  rw [nearest_eq, s_inf, s_least, show (-149 + (j : Int) - -149).toNat = j by omega, show (-149 - (-149 + (j : Int))).toNat = 0 by omega, hv]
  rw [show single.fractionBits = 23 from rfl, rungOf_val, Nat.min_eq_left (by omega), word32_self b h]

theorem val_1276 : val 52 (1276 * 4503599627370496) = 9007199254740992 * (ONE * 2 ^ 200) := by
  have hd : (1276 * 4503599627370496) / 2 ^ 52 - 1 = K + 201 := by decide
  have hm : 2 ^ 52 + (1276 * 4503599627370496) % 2 ^ 52 = 4503599627370496 := by decide
  unfold val
  rw [if_neg (by decide), hd, hm, Nat.pow_add, ← one_pow, show (2 : Nat) ^ 201 = 2 * 2 ^ 200 from by rw [Nat.pow_succ, Nat.mul_comm]]
  generalize ONE = o
  generalize (2 : Nat) ^ 200 = t
  rw [show (9007199254740992 : Nat) = 4503599627370496 * 2 from by decide]
  simp only [Nat.mul_assoc, Nat.mul_left_comm]
theorem small_word (m q : Nat) (hm : m ≤ 9007199254740992) (hq : q ≤ K + 200) : val 52 (rnd (m * 2 ^ q)) = m * 2 ^ q ∧ rnd (m * 2 ^ q) < INF := by
  have hv : val 52 (rungOf 52 (m * 2 ^ q) 0) = m * 2 ^ q := val_rungOf_small _ _ _ (by rw [B52]; omega)
  have h2 : 2 ^ q ≤ 2 ^ (K + 200) := Nat.pow_le_pow_right (by omega) hq
  have h3 : m * 2 ^ q ≤ 9007199254740992 * 2 ^ (K + 200) := Nat.mul_le_mul hm h2
  rw [Nat.pow_add, ← one_pow, ← val_1276] at h3
  have h5 := rungOf_mono 52 _ _ 0 h3
  rw [rungOf_val] at h5
  generalize m * 2 ^ q = N at *
  have er : rnd N = rungOf 52 N 0 := by unfold rnd INF; omega
  rw [er]
  exact ⟨hv, by unfold INF; omega⟩

/-- Wide, of a number that is finite. -/
def wide (b : Nat) : Nat := double.write (single.read b)
theorem wide_eq (b : Nat) (s : Bool) (m j q : Nat) (e : single.read b = .number s m (-149 + (j : Int))) (hq : (-149 + (j : Int) + 1074).toNat = q) : wide b = word s (rnd (m * 2 ^ q)) := by
  unfold wide
  rw [e]
  show double.nearest _ _ _ = _
  rw [d_nearest _ _ _ (by omega), hq]
theorem back32 (s : Bool) (m j q m' j' : Nat) (hq : (-1074 : Int) + (q : Int) = -149 + (j : Int)) (h : m' * 2 ^ j' = m * 2 ^ q) : single.nearest s m' (-1074 + (j' : Int)) = single.nearest s m (-149 + (j : Int)) := by
  rw [← nearest_scale single _ m' j' (-1074), h, nearest_scale, hq]
/-- Narrow of Wide is the same. -/
theorem narrow_wide_fin (b : Nat) (h : b < 4294967296) (hf : rg32 b < 2139095040) : single.write (double.read (wide b)) = b ∧ fin (wide b) = true ∧ wide b < 18446744073709551616 ∧ ∃ s m p, double.read (wide b) = .number s m p := by
  obtain ⟨m, j, e, hv, hm, hj⟩ := read32_fin b h hf
  obtain ⟨q, hq⟩ : ∃ q : Nat, q = (-149 + (j : Int) + 1074).toNat := ⟨_, rfl⟩
  have e1 := wide_eq b _ m j q e hq.symm
  have hq2 : (-1074 : Int) + (q : Int) = -149 + (j : Int) := by omega
  have hq3 : q ≤ K + 200 := by have : K = 1074 := rfl; omega
  clear hq
  obtain ⟨v1, v2⟩ := small_word m q (by omega) hq3
  have hl : rnd (m * 2 ^ q) < 9223372036854775808 := rnd_lt _
  have hw : wide b < 18446744073709551616 := by
    rw [e1]
    clear hq2 hq3 v1 v2 e1
    generalize rnd (m * 2 ^ q) = r at *
    unfold word; cases sg32 b <;> simp <;> omega
  have hrg : rg (wide b) = rnd (m * 2 ^ q) := by rw [e1, rg_word _ _ hl]
  have hfin : fin (wide b) = true := by unfold fin; rw [hrg]; exact decide_eq_true v2
  obtain ⟨m', j', e', v'⟩ := read_fin (wide b) hw hfin
  have hsg : sg (wide b) = sg32 b := by rw [e1, sg_word _ _ hl]
  refine ⟨?_, hfin, hw, _, _, _, e'⟩
  rw [e']
  show single.nearest _ _ _ = _
  rw [hrg, v1] at v'
  rw [back32 _ m j q m' j' hq2 v', hsg]
  exact write_read32 b h hf m j hv
end Go.Proofs.YthohhepoddnbnaaGreatDoor.Fl
