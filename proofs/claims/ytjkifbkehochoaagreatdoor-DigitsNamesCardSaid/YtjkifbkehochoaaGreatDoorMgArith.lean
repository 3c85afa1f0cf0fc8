/- +, -, *, / on binary64 in a walk: one law, whatever the operands; a NaN's bits are drawn. Plain laws, third part: products by powers of two; whole numbers as words. Plain laws, fourth part: binary32 in binary64 and back. Plain laws: what rounding loses is a number. No program in sight. What + and - do, told by units: plain laws. What * and / do, told by units: plain laws of exact products and quotients. What + - * / leave lies between bounds that are numbers. Plain laws. The assembly's logarithm: its result is no great number. The logarithm to ten, cut down, as an int: no great number. -/
import Derived.Test.YtjkifbkehochoaaGreatDoorMgBase
import Derived.Laws.NewFold
import Derived.Test.YtjkifbkehochoaaGreatDoorMgFl
namespace Go.Proofs.YtjkifbkehochoaaGreatDoor
open Go.RowKit Fl
/-- the result's place, by the places -/
def opP (op : BinOp) (p q : Int) : Int :=
  match floatBits op .f64 (atW p) (atW q) with
  | some r => pl r
  | none => 9223372036854775807
theorem atW_pl (x : Nat) (hx : U x) (hn : isN x = false) : atW (pl x) = x := by
  have h := word_self x hx.lt
  have hl := rg_lt x
  cases hs : sg x
  · rw [hs] at h
    rw [pl_pos hn hs]; unfold atW
    rw [if_neg (by omega), Int.toNat_natCast]; exact h
  · rw [hs] at h
    rw [pl_neg hn hs]; unfold atW
    rw [if_pos (by omega), show (-(-(rg x : Int) - 1 + 1)).toNat = rg x by omega]; exact h
end Go.Proofs.YtjkifbkehochoaaGreatDoor

namespace Go.Proofs.YtjkifbkehochoaaGreatDoor.Fl
open Ieee
theorem B52 : (2 : Nat) ^ 52 = 4503599627370496 := by decide
/-- The word of exponent field E and fraction F, without a sign. -/
theorem read_normal (E F : Nat) (h1 : 1 ≤ E) (h2 : E ≤ 2046) (hF : F < 4503599627370496) :
    double.read (E * 4503599627370496 + F) = .number false (4503599627370496 + F) ((E : Int) - 1075) := by
  have hl : E * 4503599627370496 + F < 9223372036854775808 := by omega
  have hr : rg (E * 4503599627370496 + F) = E * 4503599627370496 + F := Nat.mod_eq_of_lt hl
  have hs : sg (E * 4503599627370496 + F) = false := by unfold sg; exact decide_eq_false (by omega)
  have hi : INF = 9218868437227405312 := rfl
  rw [read_eq _ (by omega), hr, hs, if_neg (by omega), if_pos (by omega)]
  have e1 : (E * 4503599627370496 + F) % 4503599627370496 = F := by omega
  have e2 : (E * 4503599627370496 + F) / 4503599627370496 - 1 = E - 1 := by omega
  rw [e1, e2]
  congr 1; omega
theorem read_1 : double.read 4607182418800017408 = .number false 4503599627370496 (-52) := by decide
theorem read_2p53 : double.read 4368491638549381120 = .number false 4503599627370496 (-105) := by decide
theorem mul_by (c : Nat) (q : Int) (hc : double.read c = .number false 4503599627370496 q) (E F : Nat) (h1 : 1 ≤ E) (h2 : E ≤ 2046) (hF : F < 4503599627370496) :
    double.mul c (E * 4503599627370496 + F) = some (double.nearest false (4503599627370496 + F) ((E : Int) - 1075 + q + 52)) := by
  unfold Format.mul
  rw [hc, read_normal E F h1 h2 hF]
  simp only [Datum.product, Option.map_some, Bool.xor_false]
  refine congrArg some ?_
  show double.nearest false _ _ = _
  have := d_nearest_scale false (4503599627370496 + F) 52 (q + ((E : Int) - 1075))
  rw [B52] at this
  rw [Nat.mul_comm, this]
  congr 1; omega
theorem log2_53 (F : Nat) (hF : F < 4503599627370496) : (4503599627370496 + F).log2 = 52 := log2_eq _ 52 (by rw [B52]; omega) (by rw [Nat.pow_succ, B52]; omega)
/-- A whole number below 2^53 as a word. -/
theorem nearest_int (n : Nat) : ∀ neg, double.nearest neg n 0 = word neg (rnd (n * ONE)) := by
  intro neg
  rw [d_nearest _ _ _ (by decide), show ((0 : Int) + 1074).toNat = K from by decide, ← one_pow]
end Go.Proofs.YtjkifbkehochoaaGreatDoor.Fl

namespace Go.Proofs.YtjkifbkehochoaaGreatDoor.Fl
open Ieee
theorem val_1276 : val 52 (1276 * 4503599627370496) = 9007199254740992 * (ONE * 2 ^ 200) := by
  have hd : (1276 * 4503599627370496) / 2 ^ 52 - 1 = K + 201 := by decide
  have hm : 2 ^ 52 + (1276 * 4503599627370496) % 2 ^ 52 = 4503599627370496 := by decide
  unfold val
  rw [if_neg (by decide), hd, hm, Nat.pow_add, ← one_pow, show (2 : Nat) ^ 201 = 2 * 2 ^ 200 from by rw [Nat.pow_succ, Nat.mul_comm]]
  generalize ONE = o
  generalize (2 : Nat) ^ 200 = t
  rw [show (9007199254740992 : Nat) = 4503599627370496 * 2 from by decide]
  simp only [Nat.mul_assoc, Nat.mul_left_comm]
theorem small_word (m q : Nat) (hm : m ≤ 9007199254740992) (hq : q ≤ K + 200) : val 52 (rnd (m * 2 ^ q)) = m * 2 ^ q ∧ rnd (m * 2 ^ q) < INF := by
  have hv : val 52 (rungOf 52 (m * 2 ^ q) 0) = m * 2 ^ q := val_rungOf_small _ _ _ (by rw [B52]; omega)
  have h2 : 2 ^ q ≤ 2 ^ (K + 200) := Nat.pow_le_pow_right (by omega) hq
  have h3 : m * 2 ^ q ≤ 9007199254740992 * 2 ^ (K + 200) := Nat.mul_le_mul hm h2
  rw [Nat.pow_add, ← one_pow, ← val_1276] at h3
  have h5 := rungOf_mono 52 _ _ 0 h3
  rw [rungOf_val] at h5
  generalize m * 2 ^ q = N at *
  have er : rnd N = rungOf 52 N 0 := by unfold rnd INF; omega
  rw [er]
  exact ⟨hv, by unfold INF; omega⟩
end Go.Proofs.YtjkifbkehochoaaGreatDoor.Fl

namespace Go.Proofs.YtjkifbkehochoaaGreatDoor.Fl
open Ieee
end Go.Proofs.YtjkifbkehochoaaGreatDoor.Fl

namespace Go.Proofs.YtjkifbkehochoaaGreatDoor
open Go.RowKit Fl
/-- the word nearest to z units; nought below where cold -/
def wz (z : Int) (cold : Bool) : Nat := word (decide (z < 0) || (decide (z = 0) && cold)) (rnd z.natAbs)
theorem U_wz (z : Int) (c : Bool) : U (wz z c) := U_word _ _ (rnd_lt _)
/-- the sum of two finite numbers -/
theorem add_fin (a b : Nat) (ha : U a) (hb : U b) (fa : fin a = true) (fb : fin b = true) : floatBits .add .f64 a b = some (wz (un a + un b) (sg a && sg b)) := by
  show Ieee.double.add a b = some _
  obtain ⟨m, i, ea, va⟩ := read_fin a ha fa
  obtain ⟨n, j, eb, vb⟩ := read_fin b hb fb
  unfold Ieee.Format.add
  rw [ea, eb]
  simp only [Ieee.Datum.sum, Option.map_some]
  have e1 : (-1074 + (i : Int) - min (-1074 + (i : Int)) (-1074 + (j : Int))).toNat = i - min i j := by omega
  have e2 : (-1074 + (j : Int) - min (-1074 + (i : Int)) (-1074 + (j : Int))).toNat = j - min i j := by omega
  have e3 : min (-1074 + (i : Int)) (-1074 + (j : Int)) = -1074 + ((min i j : Nat) : Int) := by omega
  rw [e1, e2, e3]
  have u1 := un_of (sg a) a m i rfl va (min i j) (Nat.min_le_left _ _)
  have u2 := un_of (sg b) b n j rfl vb (min i j) (Nat.min_le_right _ _)
  generalize Ieee.signed (sg a) m (i - min i j) = p at *
  generalize Ieee.signed (sg b) n (j - min i j) = q at *
  generalize min i j = k at *
  have hz : un a + un b = (p + q) * 2 ^ k := by rw [← u1, ← u2, Int.add_mul]
  rw [hz]
  have hk : (0 : Int) < 2 ^ k := Int.pow_pos (by decide)
  refine congrArg some ?_
  show Ieee.double.nearest _ _ _ = _
  rw [d_nearest _ _ _ (by omega), show (-1074 + (k : Int) + 1074).toNat = k by omega]
  unfold wz
  rw [Int.natAbs_mul, Int.natAbs_pow, show (2 : Int).natAbs = 2 from rfl]
  congr 1
  generalize p + q = t
  by_cases h0 : t = 0
  · subst h0; simp
  · have h1 : ¬ t * 2 ^ k = 0 := fun h => by
      rcases Int.mul_eq_zero.1 h with h | h
      · exact h0 h
      · omega
    rw [if_neg h0, decide_eq_false h1, Bool.false_and, Bool.or_false]
    congr 1
    refine propext ⟨fun h => ?_, fun h => ?_⟩
    · have := Int.mul_lt_mul_of_pos_right h hk
      rwa [Int.zero_mul] at this
    · have : t * 2 ^ k < 0 * 2 ^ k := by rwa [Int.zero_mul]
      exact Int.lt_of_mul_lt_mul_right this (Int.le_of_lt hk)
theorem opP_add (a b : Nat) (ha : U a) (hb : U b) (fa : fin a = true) (fb : fin b = true) : opP .add (pl a) (pl b) = pl (wz (un a + un b) (sg a && sg b)) := by
  unfold opP
  rw [atW_pl a ha (fin_not_nan fa), atW_pl b hb (fin_not_nan fb), add_fin a b ha hb fa fb]
theorem fin_ng {x : Nat} (h : U x) : fin (ng x) = fin x := by unfold fin; rw [rg_ng h]
theorem un_ng {x : Nat} (h : U x) : un (ng x) = -un x := by
  unfold un; rw [sg_ng h, rg_ng h]
  cases sg x <;> simp
/-- a difference is a sum -/
theorem sub_ng (a b : Nat) (hb : U b) : Ieee.double.sub a b = Ieee.double.add a (ng b) ∨ isN b = true := by
  by_cases hn : isN b = true
  · exact .inr hn
  · left
    have hn := Bool.eq_false_iff.2 hn
    unfold Ieee.Format.sub Ieee.Format.add
    have e : (Ieee.double.read b).opposite = Ieee.double.read (ng b) := by
      have h1 := U_ng hb
      rw [read_eq b hb, read_eq (ng b) h1, sg_ng hb, rg_ng hb]
      split
      · rfl
      · split
        · rfl
        · split
          · rfl
          · exact absurd (isN_false hn) (by omega)
    rw [e]
theorem opP_sub (a b : Nat) (ha : U a) (hb : U b) (fa : fin a = true) (fb : fin b = true) : opP .sub (pl a) (pl b) = pl (wz (un a - un b) (sg a && !sg b)) := by
  unfold opP
  rw [atW_pl a ha (fin_not_nan fa), atW_pl b hb (fin_not_nan fb)]
  have h1 : floatBits .sub .f64 a b = floatBits .add .f64 a (ng b) := (sub_ng a b hb).resolve_right (by rw [fin_not_nan fb]; exact Bool.false_ne_true)
  rw [h1, add_fin a (ng b) ha (U_ng hb) fa (by rw [fin_ng hb]; exact fb), un_ng hb, sg_ng hb]
  rfl
/-- so many units are a number's -/
def Rep (z : Int) : Prop := Fl.val 52 (rnd z.natAbs) = z.natAbs ∧ rnd z.natAbs < INF
theorem sg_wz (z : Int) (c : Bool) : sg (wz z c) = (decide (z < 0) || (decide (z = 0) && c)) := sg_word _ _ (rnd_lt _)
theorem rg_wz (z : Int) (c : Bool) : rg (wz z c) = rnd z.natAbs := rg_word _ _ (rnd_lt _)
theorem fin_wz {z : Int} (c : Bool) (h : Rep z) : fin (wz z c) = true := by unfold fin; rw [rg_wz]; exact decide_eq_true h.2
theorem un_wz {z : Int} (c : Bool) (h : Rep z) : un (wz z c) = z := by
  unfold un
  rw [sg_wz, rg_wz, h.1]
  by_cases h1 : z < 0
  · rw [decide_eq_true h1, Bool.true_or, if_pos rfl]; omega
  · rw [decide_eq_false h1, Bool.false_or]
    by_cases h2 : z = 0
    · subst h2; cases c <;> rfl
    · rw [decide_eq_false h2, Bool.false_and, if_neg Bool.false_ne_true]; omega
theorem rep_neg {z : Int} (h : Rep z) : Rep (-z) := by unfold Rep at *; rwa [Int.natAbs_neg]
/-- a whole number that is not too great -/
def ONEi : Int := (ONE : Int)
theorem rep_whole (k : Int) (h : k.natAbs ≤ 9007199254740992) : Rep (k * ONEi) := by
  unfold Rep ONEi
  rw [Int.natAbs_mul, Int.natAbs_natCast, one_pow]
  exact small_word k.natAbs K h (by omega)
/-- the units of the number nearest to z units -/
def ru (z : Int) : Int := if z < 0 then -(Fl.val 52 (rnd z.natAbs) : Int) else (Fl.val 52 (rnd z.natAbs) : Int)
theorem un_wzr (z : Int) (c : Bool) : un (wz z c) = ru z := by
  unfold un ru
  rw [sg_wz, rg_wz]
  by_cases h1 : z < 0
  · rw [decide_eq_true h1, Bool.true_or, if_pos rfl, if_pos h1]
  · rw [decide_eq_false h1, Bool.false_or, if_neg h1]
    by_cases h2 : z = 0
    · subst h2
      rw [show (0 : Int).natAbs = 0 from rfl, rnd_zero, Fl.val_zero]
      cases c <;> rfl
    · rw [decide_eq_false h2, Bool.false_and, if_neg Bool.false_ne_true]
theorem fin_wzr {z : Int} (c : Bool) (h : rnd z.natAbs < INF) : fin (wz z c) = true := by unfold fin; rw [rg_wz]; exact decide_eq_true h
theorem rung_of_rnd {N : Nat} (h : rnd N < INF) : rungOf 52 N 0 = rnd N := by unfold rnd at *; omega
theorem un_abs (x : Nat) : (un x).natAbs = Fl.val 52 (rg x) := by unfold un; split <;> omega
end Go.Proofs.YtjkifbkehochoaaGreatDoor

namespace Go.Proofs.YtjkifbkehochoaaGreatDoor
open Go.RowKit Fl
/-- a product that is a number of so many units -/
theorem mul_fin (a b : Nat) (ha : U a) (hb : U b) (fa : fin a = true) (fb : fin b = true) (W : Nat) (h : Fl.val 52 (rg a) * Fl.val 52 (rg b) = W * ONE) :
    floatBits .mul .f64 a b = some (word (sg a ^^ sg b) (rnd W)) := by
  show Ieee.double.mul a b = some _
  obtain ⟨m, i, ea, va⟩ := read_fin a ha fa
  obtain ⟨n, j, eb, vb⟩ := read_fin b hb fb
  unfold Ieee.Format.mul
  rw [ea, eb]
  simp only [Ieee.Datum.product, Option.map_some]
  refine congrArg some ?_
  show Ieee.double.nearest _ _ _ = _
  rw [← va, ← vb] at h
  have e1 : m * n * 2 ^ (i + j) = W * 2 ^ K := by
    rw [← one_pow, ← h, Nat.pow_add]
    simp only [Nat.mul_assoc, Nat.mul_comm, Nat.mul_left_comm]
  have e2 : (-1074 + (i : Int) + (-1074 + (j : Int))) = -2148 + ((i + j : Nat) : Int) := by omega
  rw [e2, ← d_nearest_scale, e1, d_nearest_scale, d_nearest _ _ _ (by rw [K_eq]; omega)]
  rw [show (-2148 + ((K : Nat) : Int) + 1074).toNat = 0 by rw [K_eq]; rfl, Nat.pow_zero, Nat.mul_one]
theorem read_fin53 (b : Nat) (h : b < 18446744073709551616) (hf : fin b = true) :
    ∃ m j : Nat, Ieee.double.read b = .number (sg b) m (-1074 + (j : Int)) ∧ m * 2 ^ j = Fl.val 52 (rg b) ∧ m < 9007199254740992 := by
  have hf := fin_true hf
  rw [read_eq b h]
  by_cases c : rg b < 4503599627370496
  · refine ⟨rg b, 0, by rw [if_pos c]; rfl, ?_, by omega⟩
    rw [val_small 52 _ (by omega)]; simp
  · refine ⟨_, _, by rw [if_neg c, if_pos hf], ?_, by omega⟩
    unfold Fl.val
    rw [if_neg (by omega)]
/-- a quotient by a power of two -/
theorem div_fin (a b : Nat) (ha : U a) (hb : U b) (fa : fin a = true) (fb : fin b = true) (W p : Nat) (hp : Fl.val 52 (rg b) = 2 ^ p) (h : Fl.val 52 (rg a) * ONE = W * 2 ^ p) :
    floatBits .quo .f64 a b = some (word (sg a ^^ sg b) (rnd W)) := by
  show Ieee.double.div a b = some _
  obtain ⟨m, i, ea, va, hm⟩ := read_fin53 a ha fa
  obtain ⟨n, j, eb, vb⟩ := read_fin b hb fb
  rw [hp] at vb
  have hn : n ≠ 0 := by
    rintro rfl
    rw [Nat.zero_mul] at vb
    have := Nat.two_pow_pos p
    omega
  obtain ⟨t, ht, hl, hpt⟩ : ∃ t, n = 2 ^ t ∧ n.log2 = t ∧ p = t + j := by
    have hl := log2_mul_pow n j hn
    rw [vb, Nat.log2_two_pow] at hl
    refine ⟨n.log2, ?_, rfl, hl⟩
    rw [hl, Nat.pow_add] at vb
    exact Nat.eq_of_mul_eq_mul_right (Nat.two_pow_pos j) vb
  have hml : m.log2 ≤ 53 := by
    rcases Nat.eq_zero_or_pos m with e | e
    · rw [e]; decide
    · have := (Nat.log2_lt (n := m) (k := 53) (by omega)).2 (by omega)
      omega
  unfold Ieee.Format.div
  rw [ea, eb, d_fb]
  simp only [Ieee.Datum.quotient, if_neg hn, Option.map_some]
  refine congrArg some ?_
  show Ieee.double.nearest _ _ _ = _
  rw [hl, Nat.shiftLeft_eq]
  obtain ⟨d, hd⟩ : ∃ d, 52 + 2 + t - m.log2 = d + t := ⟨52 + 2 - m.log2, by omega⟩
  rw [hd, ht, show m * 2 ^ (d + t) = m * 2 ^ d * 2 ^ t by rw [Nat.pow_add, Nat.mul_assoc], Nat.mul_div_cancel _ (Nat.two_pow_pos t), Nat.mul_mod_left]
  rw [show (2 * (m * 2 ^ d) + (0 != 0).toNat) = m * 2 ^ (d + 1) by rw [Nat.pow_succ]; show 2 * (m * 2 ^ d) + 0 = _; rw [Nat.add_zero, Nat.mul_comm 2, Nat.mul_assoc]]
  rw [d_nearest_scale]
  rw [← va] at h
  have e1 : m * 2 ^ (i + K) = W * 2 ^ p := by rw [← h, one_pow, Nat.pow_add, Nat.mul_assoc]
  rw [show (-1074 + (i : Int) - (-1074 + (j : Int)) - ((d + t : Nat) : Int) - 1 + ((d + 1 : Nat) : Int)) = (-(K : Int) - (p : Int)) + ((i + K : Nat) : Int) by rw [hpt]; omega]
  rw [← d_nearest_scale, e1, d_nearest_scale, show (-(K : Int) - (p : Int) + (p : Int)) = -1074 by rw [K_eq]; omega, d_nearest _ _ _ (by omega)]
  rw [show (-1074 + 1074 : Int).toNat = 0 by rfl, Nat.pow_zero, Nat.mul_one]
/-- a place of a number of so many units G -/
def PU (p z : Int) : Prop := ∃ r, U r ∧ fin r = true ∧ pl r = p ∧ un r = z
theorem PU.unique {p y z : Int} (h : PU p y) (k : PU p z) : y = z := by
  obtain ⟨r, hu, hf, hp, hz⟩ := h
  obtain ⟨s, hu2, hf2, hp2, hz2⟩ := k
  have e1 := atW_pl r hu (fin_not_nan hf)
  have e2 := atW_pl s hu2 (fin_not_nan hf2)
  rw [hp] at e1
  rw [hp2, e1] at e2
  rw [← hz, ← hz2, e2]
theorem PU.add {p q y z : Int} (h : PU p y) (k : PU q z) (hr : Rep (y + z)) : PU (opP .add p q) (y + z) := by
  obtain ⟨a, ua, fa, rfl, rfl⟩ := h
  obtain ⟨b, ub, fb, rfl, rfl⟩ := k
  exact ⟨_, U_wz _ _, fin_wz _ hr, (opP_add a b ua ub fa fb).symm, un_wz _ hr⟩
theorem PU.sub {p q y z : Int} (h : PU p y) (k : PU q z) (hr : Rep (y - z)) : PU (opP .sub p q) (y - z) := by
  obtain ⟨a, ua, fa, rfl, rfl⟩ := h
  obtain ⟨b, ub, fb, rfl, rfl⟩ := k
  exact ⟨_, U_wz _ _, fin_wz _ hr, (opP_sub a b ua ub fa fb).symm, un_wz _ hr⟩
theorem sgn_un (a : Nat) : un a = if sg a = true then -(Fl.val 52 (rg a) : Int) else (Fl.val 52 (rg a) : Int) := rfl
theorem un_word (s : Bool) (W : Nat) (h : Fl.val 52 (rnd W) = W) : un (word s (rnd W)) = if s = true then -(W : Int) else (W : Int) := by
  rw [sgn_un, sg_word _ _ (rnd_lt _), rg_word _ _ (rnd_lt _), h]
theorem fin_word (s : Bool) (W : Nat) (h : rnd W < INF) : fin (word s (rnd W)) = true := by unfold fin; rw [rg_word _ _ (rnd_lt _)]; exact decide_eq_true h
theorem PU.mul {p q y z w : Int} (h : PU p y) (k : PU q z) (e : y * z = w * ONEi) (hr : Rep w) : PU (opP .mul p q) w := by
  obtain ⟨a, ua, fa, rfl, rfl⟩ := h
  obtain ⟨b, ub, fb, rfl, rfl⟩ := k
  have hO : (0 : Int) < ONEi := by have := one_pos; unfold ONEi; omega
  have hW : Fl.val 52 (rg a) * Fl.val 52 (rg b) = w.natAbs * ONE := by
    have := congrArg Int.natAbs e
    rw [Int.natAbs_mul, Int.natAbs_mul, un_abs, un_abs] at this
    exact this
  have ef := mul_fin a b ua ub fa fb w.natAbs hW
  refine ⟨_, U_word (sg a ^^ sg b) _ (rnd_lt w.natAbs), fin_word _ _ hr.2, ?_, ?_⟩
  · unfold opP
    rw [atW_pl a ua (fin_not_nan fa), atW_pl b ub (fin_not_nan fb), ef]
  · rw [un_word _ _ hr.1]
    rw [sgn_un, sgn_un] at e
    have hA : (0 : Int) ≤ (Fl.val 52 (rg a) : Int) := Int.natCast_nonneg _
    have hB : (0 : Int) ≤ (Fl.val 52 (rg b) : Int) := Int.natCast_nonneg _
    have hAB := Int.mul_nonneg hA hB
    generalize (Fl.val 52 (rg a) : Int) = A at *
    generalize (Fl.val 52 (rg b) : Int) = B at *
    have s1 : 0 < w → 0 < w * ONEi := fun h => Int.mul_pos h hO
    have s2 : w < 0 → w * ONEi < 0 := fun h => Int.mul_neg_of_neg_of_pos h hO
    clear ef hW
    generalize sg a = sa at *
    generalize sg b = sb at *
    cases sa <;> cases sb <;> simp only [Bool.false_eq_true, if_false, if_true, Int.neg_mul, Int.mul_neg, Int.neg_neg, Bool.false_xor, Bool.xor_false, Bool.true_xor, Bool.not_true, Bool.not_false] at e ⊢ <;> omega
theorem PU.div {p q y z w : Int} {t : Nat} (h : PU p y) (k : PU q z) (hz : z.natAbs = 2 ^ t) (e : y * ONEi = w * z) (hr : Rep w) : PU (opP .quo p q) w := by
  obtain ⟨a, ua, fa, rfl, rfl⟩ := h
  obtain ⟨b, ub, fb, rfl, rfl⟩ := k
  have hO : (0 : Int) < ONEi := by have := one_pos; unfold ONEi; omega
  have hb : Fl.val 52 (rg b) = 2 ^ t := by rw [← un_abs, hz]
  have hb0 : 0 < Fl.val 52 (rg b) := by rw [hb]; exact Nat.two_pow_pos _
  have hW : Fl.val 52 (rg a) * ONE = w.natAbs * 2 ^ t := by
    have := congrArg Int.natAbs e
    rw [Int.natAbs_mul, Int.natAbs_mul, un_abs, hz] at this
    exact this
  have ef := div_fin a b ua ub fa fb w.natAbs t hb hW
  refine ⟨_, U_word (sg a ^^ sg b) _ (rnd_lt w.natAbs), fin_word _ _ hr.2, ?_, ?_⟩
  · unfold opP
    rw [atW_pl a ua (fin_not_nan fa), atW_pl b ub (fin_not_nan fb), ef]
  · rw [un_word _ _ hr.1]
    rw [sgn_un, sgn_un] at e
    have hA : (0 : Int) ≤ (Fl.val 52 (rg a) : Int) := Int.natCast_nonneg _
    have hAO := Int.mul_nonneg hA (Int.le_of_lt hO)
    have hB : (0 : Int) < (Fl.val 52 (rg b) : Int) := by omega
    generalize (Fl.val 52 (rg a) : Int) = A at *
    clear hb hb0 hz
    generalize (Fl.val 52 (rg b) : Int) = B at *
    have s1 : 0 < w → 0 < w * B := fun h => Int.mul_pos h hB
    have s2 : w < 0 → w * B < 0 := fun h => Int.mul_neg_of_neg_of_pos h hB
    clear ef hW
    generalize sg a = sa at *
    generalize sg b = sb at *
    cases sa <;> cases sb <;> simp only [Bool.false_eq_true, if_false, if_true, Int.neg_mul, Int.mul_neg, Int.neg_neg, Bool.false_xor, Bool.xor_false, Bool.true_xor, Bool.not_true, Bool.not_false] at e ⊢ <;> omega
/-- a unit -/
def GOK (G : Int) : Prop := ∃ g, g ≤ K + 200 ∧ (G = 2 ^ g ∨ G = -(2 ^ g))
theorem rep_unit {G : Int} (h : GOK G) (z : Int) (hz : z.natAbs ≤ 9007199254740992) : Rep (z * G) := by
  obtain ⟨g, hg, e⟩ := h
  unfold Rep
  have : (z * G).natAbs = z.natAbs * 2 ^ g := by
    rw [Int.natAbs_mul]
    congr 1
    rcases e with rfl | rfl
    · rw [Int.natAbs_pow]; rfl
    · rw [Int.natAbs_neg, Int.natAbs_pow]; rfl
  rw [this]
  exact small_word _ _ hz hg
/-- a place of z units of G, z no greater than B in amount -/
structure PB (G p z : Int) (B : Nat) : Prop where
  pu : PU p (z * G)
  le : z.natAbs ≤ B
theorem PB.mono {G p z : Int} {B C : Nat} (h : PB G p z B) (hc : B ≤ C) : PB G p z C := ⟨h.pu, Nat.le_trans h.le hc⟩
theorem PB.add {G p q y z : Int} {B C : Nat} (h : PB G p y B) (k : PB G q z C) (hg : GOK G) (hb : B + C ≤ 9007199254740992) : PB G (opP .add p q) (y + z) (B + C) := by
  have l : (y + z).natAbs ≤ B + C := by have := h.le; have := k.le; omega
  have hr := rep_unit hg (y + z) (by omega)
  rw [Int.add_mul] at hr
  exact ⟨by rw [Int.add_mul]; exact h.pu.add k.pu hr, l⟩
theorem PB.sub {G p q y z : Int} {B C : Nat} (h : PB G p y B) (k : PB G q z C) (hg : GOK G) (hb : B + C ≤ 9007199254740992) : PB G (opP .sub p q) (y - z) (B + C) := by
  have l : (y - z).natAbs ≤ B + C := by have := h.le; have := k.le; omega
  have hr := rep_unit hg (y - z) (by omega)
  rw [Int.sub_mul] at hr
  exact ⟨by rw [Int.sub_mul]; exact h.pu.sub k.pu hr, l⟩
theorem PB.mul {G p q y z : Int} {B C : Nat} (h : PB ONEi p y B) (k : PB G q z C) (hg : GOK G) (hb : B * C ≤ 9007199254740992) : PB G (opP .mul p q) (y * z) (B * C) := by
  have l : (y * z).natAbs ≤ B * C := by rw [Int.natAbs_mul]; exact Nat.mul_le_mul h.le k.le
  exact ⟨h.pu.mul k.pu (by simp only [Int.mul_assoc, Int.mul_comm, Int.mul_left_comm]) (rep_unit hg _ (by omega)), l⟩
end Go.Proofs.YtjkifbkehochoaaGreatDoor

namespace Go.Proofs.YtjkifbkehochoaaGreatDoor
open Go.RowKit Fl
/-- a finite word whose units lie between -/
structure In (x : Nat) (lo hi : Int) : Prop where
  u : U x
  f : fin x = true
  l : lo ≤ un x
  h : un x ≤ hi
theorem ru_mono {y z : Int} (h : y ≤ z) : ru y ≤ ru z := by
  unfold ru
  by_cases hy : y < 0
  · rw [if_pos hy]
    by_cases hz : z < 0
    · rw [if_pos hz]
      have := Fl.val_le 52 _ _ (rnd_mono (show z.natAbs ≤ y.natAbs by omega))
      omega
    · rw [if_neg hz]; omega
  · rw [if_neg hy, if_neg (by omega)]
    have := Fl.val_le 52 _ _ (rnd_mono (show y.natAbs ≤ z.natAbs by omega))
    omega
theorem ru_rep {z : Int} (h : Rep z) : ru z = z := by
  unfold ru
  rw [h.1]
  split <;> omega
theorem In.wz {z lo hi : Int} (c : Bool) (hl : Rep lo) (hh : Rep hi) (h1 : lo ≤ z) (h2 : z ≤ hi) : In (wz z c) lo hi := by
  refine ⟨U_wz _ _, fin_wzr _ ?_, ?_, ?_⟩
  · by_cases h : z < 0
    · exact Nat.lt_of_le_of_lt (rnd_mono (show z.natAbs ≤ lo.natAbs by omega)) hl.2
    · exact Nat.lt_of_le_of_lt (rnd_mono (show z.natAbs ≤ hi.natAbs by omega)) hh.2
  · rw [un_wzr]; have := ru_mono h1; rwa [ru_rep hl] at this
  · rw [un_wzr]; have := ru_mono h2; rwa [ru_rep hh] at this
theorem In.add {a b : Nat} {l h l' h' lo hi : Int} (ha : In a l h) (hb : In b l' h') (hl : Rep lo) (hh : Rep hi) (h1 : lo ≤ l + l') (h2 : h + h' ≤ hi) :
    ∃ r, floatBits .add .f64 a b = some r ∧ In r lo hi :=
  ⟨_, add_fin a b ha.u hb.u ha.f hb.f, In.wz _ hl hh (by have := ha.l; have := hb.l; omega) (by have := ha.h; have := hb.h; omega)⟩
theorem In.sub {a b : Nat} {l h l' h' lo hi : Int} (ha : In a l h) (hb : In b l' h') (hl : Rep lo) (hh : Rep hi) (h1 : lo ≤ l - h') (h2 : h - l' ≤ hi) :
    ∃ r, floatBits .sub .f64 a b = some r ∧ In r lo hi := by
  have hn : In (ng b) (-h') (-l') := ⟨by rw [ng_eq b hb.u]; exact U_word _ _ (rg_lt b), by rw [fin_ng hb.u]; exact hb.f, by rw [un_ng hb.u]; have := hb.h; omega, by rw [un_ng hb.u]; have := hb.l; omega⟩
  obtain ⟨r, h3, h4⟩ := ha.add hn hl hh (by omega) (by omega)
  refine ⟨r, ?_, h4⟩
  rcases sub_ng a b hb.u with h5 | h5
  · have e : floatBits .sub .f64 a b = Ieee.double.sub a b := rfl
    rw [e, h5]; exact h3
  · rw [fin_not_nan hb.f] at h5; cases h5
theorem nearest_in {neg : Bool} {M : Nat} {p : Int} {H : Nat} (hH : Fl.val 52 (rnd H) = H ∧ rnd H < INF) (h : M * 2 ^ (p + 1074).toNat ≤ H * 2 ^ (-1074 - p).toNat) :
    In (Ieee.double.nearest neg M p) (-(H : Int)) H := by
  have e : Ieee.double.nearest neg M p = word neg (min (rungOf 52 (M * 2 ^ (p + 1074).toNat) (-1074 - p).toNat) INF) := by
    rw [nearest_eq, word_eq, d_fb, d_inf, d_least, show p - -1074 = p + 1074 by omega]
  have hr : rungOf 52 (M * 2 ^ (p + 1074).toNat) (-1074 - p).toNat ≤ rnd H := by
    have h1 := rungOf_mono 52 _ _ (-1074 - p).toNat h
    have h2 := rungOf_scale 52 H 0 (-1074 - p).toNat
    rw [Nat.zero_add] at h2
    rw [h2, rung_of_rnd hH.2] at h1
    exact h1
  clear h
  rw [e]
  clear e
  generalize rungOf 52 (M * 2 ^ (p + 1074).toNat) (-1074 - p).toNat = r0 at *
  obtain ⟨r, hrr⟩ : ∃ r, r = min r0 INF := ⟨_, rfl⟩
  have hr2 : r ≤ rnd H := by rw [hrr]; exact Nat.le_trans (Nat.min_le_left _ _) hr
  have hr3 : r < 9223372036854775808 := Nat.lt_of_le_of_lt hr2 (rnd_lt H)
  rw [← hrr]
  clear hrr hr
  have hv := Fl.val_le 52 _ _ hr2
  rw [hH.1] at hv
  refine ⟨U_word _ _ hr3, ?_, ?_, ?_⟩
  · unfold fin; rw [rg_word _ _ hr3]; exact decide_eq_true (by have := hH.2; omega)
  · unfold un; rw [rg_word _ _ hr3]; split <;> omega
  · unfold un; rw [rg_word _ _ hr3]; split <;> omega
theorem pow_side {M H s : Nat} {p : Int} (hp : p = -2148 + (s : Int)) (h : M * 2 ^ s ≤ H * 2 ^ K) : M * 2 ^ (p + 1074).toNat ≤ H * 2 ^ (-1074 - p).toNat := by
  have eK : K = 1074 := rfl
  rcases Nat.le_total K s with c | c
  · rw [show (-1074 - p).toNat = 0 by omega, Nat.pow_zero, Nat.mul_one]
    rw [show s = (p + 1074).toNat + K by omega, Nat.pow_add, ← Nat.mul_assoc] at h
    exact Nat.le_of_mul_le_mul_right h (Nat.two_pow_pos _)
  · rw [show (p + 1074).toNat = 0 by omega, Nat.pow_zero, Nat.mul_one]
    rw [show K = (-1074 - p).toNat + s by omega, Nat.pow_add, ← Nat.mul_assoc] at h
    exact Nat.le_of_mul_le_mul_right h (Nat.two_pow_pos _)
theorem mg_mul {a b A B H : Nat} (ha : In a (-(A : Int)) A) (hb : In b (-(B : Int)) B) (hH : Fl.val 52 (rnd H) = H ∧ rnd H < INF) (h : A * B ≤ H * ONE) :
    ∃ r, floatBits .mul .f64 a b = some r ∧ In r (-(H : Int)) H := by
  obtain ⟨m, i, ea, va⟩ := read_fin a ha.u ha.f
  obtain ⟨n, j, eb, vb⟩ := read_fin b hb.u hb.f
  refine ⟨_, ?_, nearest_in (neg := sg a ^^ sg b) (M := m * n) (p := -1074 + (i : Int) + (-1074 + (j : Int))) hH (pow_side (s := i + j) (by omega) ?_)⟩
  · show Ieee.double.mul a b = some _
    unfold Ieee.Format.mul
    rw [ea, eb]
    rfl
  · have h1 : Fl.val 52 (rg a) ≤ A := by rw [← un_abs]; have := ha.l; have := ha.h; omega
    have h2 : Fl.val 52 (rg b) ≤ B := by rw [← un_abs]; have := hb.l; have := hb.h; omega
    rw [← one_pow]
    refine Nat.le_trans ?_ h
    refine Nat.le_trans (Nat.le_of_eq ?_) (Nat.mul_le_mul h1 h2)
    rw [← va, ← vb, Nat.pow_add]
    simp only [Nat.mul_assoc, Nat.mul_comm, Nat.mul_left_comm]
theorem one_rep : Fl.val 52 (rnd ONE) = ONE ∧ rnd ONE < INF := by
  have := rep_whole 1 (by decide)
  rw [Int.one_mul] at this
  exact this
theorem whole_rep (k : Nat) (h : k ≤ 9007199254740992) : Fl.val 52 (rnd (k * ONE)) = k * ONE ∧ rnd (k * ONE) < INF := by
  have := rep_whole (k : Int) (by omega)
  unfold Rep ONEi at this
  rw [show ((k : Int) * (ONE : Int)).natAbs = k * ONE by rw [Int.natAbs_mul]; rfl] at this
  exact this
theorem mg_div {a b : Nat} (ua : U a) (ub : U b) (fa : fin a = true) (fb : fin b = true) (h : Fl.val 52 (rg a) ≤ Fl.val 52 (rg b)) (h0 : 0 < Fl.val 52 (rg b)) :
    ∃ r, floatBits .quo .f64 a b = some r ∧ In r (-(ONE : Int)) ONE := by
  obtain ⟨m, i, ea, va, hm⟩ := read_fin53 a ua fa
  obtain ⟨n, j, eb, vb⟩ := read_fin b ub fb
  have hn : n ≠ 0 := by
    rintro rfl
    rw [Nat.zero_mul] at vb
    omega
  have hml : m.log2 ≤ 53 := by
    rcases Nat.eq_zero_or_pos m with e | e
    · rw [e]; decide
    · have := (Nat.log2_lt (n := m) (k := 53) (by omega)).2 (by omega)
      omega
  obtain ⟨d, hd⟩ : ∃ d, d = 52 + 2 + n.log2 - m.log2 := ⟨_, rfl⟩
  refine ⟨_, ?_, nearest_in (neg := sg a ^^ sg b) (M := 2 * (m <<< d / n) + (m <<< d % n != 0).toNat) (p := -1074 + (i : Int) - (-1074 + (j : Int)) - d - 1) one_rep ?_⟩
  · show Ieee.double.div a b = some _
    unfold Ieee.Format.div
    rw [ea, eb, d_fb, hd]
    simp only [Ieee.Datum.quotient, if_neg hn, Option.map_some]
    rfl
  · rw [Nat.shiftLeft_eq]
    rw [← va, ← vb] at h
    by_cases m0 : m = 0
    · subst m0
      rw [Nat.zero_mul, Nat.zero_div, Nat.zero_mod]
      have e0 : (2 * 0 + ((0 : Nat) != 0).toNat) = 0 := rfl
      rw [e0, Nat.zero_mul]
      exact Nat.zero_le _
    have hM : ∃ e : Nat, (e : Int) = (j : Int) + d + 1 - i ∧ 2 * (m * 2 ^ d / n) + (m * 2 ^ d % n != 0).toNat ≤ 2 ^ e := by
      have hlog : m.log2 + i ≤ n.log2 + j := by
        have l1 := log2_mul_pow m i m0
        have l2 := log2_mul_pow n j hn
        rw [← l1, ← l2]
        refine (Nat.le_log2 (by have := Nat.two_pow_pos j; exact Nat.mul_ne_zero hn (by omega))).2 ?_
        exact Nat.le_trans (Nat.log2_self_le (Nat.mul_ne_zero m0 (by have := Nat.two_pow_pos i; omega))) h
      obtain ⟨t, ht⟩ : ∃ t, t = j + d - i := ⟨_, rfl⟩
      have hq : m * 2 ^ d ≤ n * 2 ^ t := by
        refine Nat.le_of_mul_le_mul_right (?_ : _ * 2 ^ i ≤ _) (Nat.two_pow_pos i)
        rw [Nat.mul_assoc, Nat.mul_assoc, ← Nat.pow_add, ← Nat.pow_add, show t + i = j + d by omega, Nat.add_comm d i, Nat.pow_add, Nat.pow_add, ← Nat.mul_assoc, ← Nat.mul_assoc]
        exact Nat.mul_le_mul_right _ h
      refine ⟨t + 1, by omega, ?_⟩
      have hdm := Nat.div_add_mod (m * 2 ^ d) n
      have hmod := Nat.mod_lt (m * 2 ^ d) (Nat.pos_of_ne_zero hn)
      have hle : m * 2 ^ d / n ≤ 2 ^ t := Nat.div_le_of_le_mul hq
      rw [Nat.pow_succ]
      rcases Nat.lt_or_eq_of_le hle with c | c
      · have := Bool.toNat_le (m * 2 ^ d % n != 0)
        omega
      · have hz : m * 2 ^ d % n = 0 := by
          rw [c] at hdm; omega
        rw [c, hz]
        show 2 * 2 ^ t + 0 ≤ _
        omega
    obtain ⟨e, he, hM⟩ := hM
    have eK : K = 1074 := rfl
    rw [show (-1074 + (i : Int) - (-1074 + (j : Int)) - d - 1) = -(e : Int) by omega]
    rcases Nat.le_total e K with c | c
    · rw [show (-1074 - -(e : Int)).toNat = 0 by omega, Nat.pow_zero, Nat.mul_one, one_pow, show K = e + (-(e : Int) + 1074).toNat by omega, Nat.pow_add]
      exact Nat.mul_le_mul_right _ hM
    · rw [show (-(e : Int) + 1074).toNat = 0 by omega, Nat.pow_zero, Nat.mul_one, one_pow, ← Nat.pow_add, show K + (-1074 - -(e : Int)).toNat = e by omega]
      exact hM
end Go.Proofs.YtjkifbkehochoaaGreatDoor

namespace Go.Proofs.YtjkifbkehochoaaGreatDoor
open Go.RowKit Fl
open Go.Extern (MathAsm.arith MathAsm.add MathAsm.sub MathAsm.mul MathAsm.div)
theorem pb {α β : Type} (a : α) (f : α → Sem β) : (pure a >>= f : Sem β) = f a := rfl
theorem add_pure {x y r : Nat} (h : floatBits .add .f64 x y = some r) : Extern.MathAsm.add x y = pure r := by
  have h2 : FloatKind.f64.format.add x y = some r := h
  unfold Extern.MathAsm.add Extern.MathAsm.arith Op.floatArith
  simp only [pb, h2]
theorem sub_pure {x y r : Nat} (h : floatBits .sub .f64 x y = some r) : Extern.MathAsm.sub x y = pure r := by
  have h2 : FloatKind.f64.format.sub x y = some r := h
  unfold Extern.MathAsm.sub Extern.MathAsm.arith Op.floatArith
  simp only [pb, h2]
theorem mul_pure {x y r : Nat} (h : floatBits .mul .f64 x y = some r) : Extern.MathAsm.mul x y = pure r := by
  have h2 : FloatKind.f64.format.mul x y = some r := h
  unfold Extern.MathAsm.mul Extern.MathAsm.arith Op.floatArith
  simp only [pb, h2]
theorem div_pure {x y r : Nat} (h : floatBits .quo .f64 x y = some r) : Extern.MathAsm.div x y = pure r := by
  have h2 : FloatKind.f64.format.div x y = some r := h
  unfold Extern.MathAsm.div Extern.MathAsm.arith Op.floatArith
  simp only [pb, h2]
/-- at most k, either way -/
def Mg (x k : Nat) : Prop := In x (-((k * ONE : Nat) : Int)) ((k * ONE : Nat) : Int)
theorem repk {k : Nat} (h : k ≤ 9007199254740992) : Rep ((k * ONE : Nat) : Int) := whole_rep k h
theorem Mg.add {x y k l m : Nat} (hx : Mg x k) (hy : Mg y l) (hm : m = k + l) (h : m ≤ 9007199254740992) : ∃ r, Extern.MathAsm.add x y = pure r ∧ Mg r m := by
  subst hm
  have e : ((k + l) * ONE : Nat) = k * ONE + l * ONE := Nat.add_mul _ _ _
  obtain ⟨r, h1, h2⟩ := In.add hx hy (rep_neg (repk h)) (repk h) (by omega) (by omega)
  exact ⟨r, add_pure h1, h2⟩
theorem Mg.sub {x y k l m : Nat} (hx : Mg x k) (hy : Mg y l) (hm : m = k + l) (h : m ≤ 9007199254740992) : ∃ r, Extern.MathAsm.sub x y = pure r ∧ Mg r m := by
  subst hm
  have e : ((k + l) * ONE : Nat) = k * ONE + l * ONE := Nat.add_mul _ _ _
  obtain ⟨r, h1, h2⟩ := In.sub hx hy (rep_neg (repk h)) (repk h) (by omega) (by omega)
  exact ⟨r, sub_pure h1, h2⟩
theorem Mg.mul {x y k l m : Nat} (hx : Mg x k) (hy : Mg y l) (hm : m = k * l) (h : m ≤ 9007199254740992) : ∃ r, Extern.MathAsm.mul x y = pure r ∧ floatBits .mul .f64 x y = some r ∧ Mg r m := by
  subst hm
  obtain ⟨r, h1, h2⟩ := mg_mul hx hy (whole_rep _ h) (Nat.le_of_eq (by simp only [Nat.mul_assoc, Nat.mul_comm, Nat.mul_left_comm]))
  exact ⟨r, mul_pure h1, h1, h2⟩
/-- a word that is no less than nought and no more than one -/
theorem in_word {x : Nat} {lo hi : Nat} (h1 : lo ≤ x) (h2 : x ≤ hi) (h3 : hi < INF) : In x (Fl.val 52 lo : Int) (Fl.val 52 hi : Int) := by
  have r : rg x = x := Nat.mod_eq_of_lt (by unfold INF at h3; omega)
  have s : sg x = false := by unfold sg; exact decide_eq_false (by unfold INF at h3; omega)
  have u : un x = (Fl.val 52 x : Int) := by unfold un; rw [s, r]; rfl
  refine ⟨by unfold U; unfold INF at h3; omega, by unfold fin; rw [r]; exact decide_eq_true (by omega), ?_, ?_⟩
  · rw [u]; have := Fl.val_le 52 _ _ h1; omega
  · rw [u]; have := Fl.val_le 52 _ _ h2; omega
theorem val_c (q e : Nat) (h : 1 ≤ q) (he : e = 52 + (q - 1)) : Fl.val 52 (q * 4503599627370496) = 2 ^ e := by
  subst he
  unfold Fl.val
  have e52 : (2 : Nat) ^ 52 = 4503599627370496 := by decide
  rw [e52, if_neg (by omega), Nat.mul_mod_left, Nat.mul_div_cancel _ (by decide), Nat.add_zero, Nat.pow_add, e52]
def HK : Nat := 1073
def HALF : Nat := 2 ^ HK
theorem one_half : ONE = 2 * HALF := by unfold HALF; rw [one_pow, show K = HK + 1 from rfl, Nat.pow_succ, Nat.mul_comm]
theorem val_half : Fl.val 52 4602678819172646912 = HALF := by rw [show (4602678819172646912 : Nat) = 1022 * 4503599627370496 by decide, val_c 1022 HK (by decide) (by decide)]; rfl
theorem val_one : Fl.val 52 4607182418800017408 = ONE := by rw [show (4607182418800017408 : Nat) = 1023 * 4503599627370496 by decide, val_c 1023 K (by decide) (by decide), one_pow]
theorem val_two : Fl.val 52 4611686018427387904 = 2 * ONE := by
  rw [show (4611686018427387904 : Nat) = 1024 * 4503599627370496 by decide, val_c 1024 (K + 1) (by decide) (by decide), one_pow, Nat.pow_succ, Nat.mul_comm]
theorem mg_const {c : Nat} (h : c ≤ 4607182418800017408) : Mg c 1 := by
  have := in_word (x := c) (lo := 0) (hi := 4607182418800017408) (Nat.zero_le _) h (by decide)
  rw [val_one] at this
  refine ⟨this.u, this.f, ?_, ?_⟩
  · have h1 := this.l; rw [Fl.val_zero] at h1; omega
  · have h1 := this.h; rw [Nat.one_mul]; exact h1
theorem mg_of {x k : Nat} {lo hi : Int} (h : In x lo hi) (h1 : -((k * ONE : Nat) : Int) ≤ lo) (h2 : hi ≤ ((k * ONE : Nat) : Int)) : Mg x k := ⟨h.u, h.f, Int.le_trans h1 h.l, Int.le_trans h.h h2⟩
theorem half_rep : Fl.val 52 (rnd HALF) = HALF ∧ rnd HALF < INF := by
  have := small_word 1 HK (by decide) (by decide)
  rw [Nat.one_mul] at this
  unfold HALF
  exact this
theorem rep_half : Rep ((HALF : Nat) : Int) := half_rep
theorem rep_3half : Rep ((3 * HALF : Nat) : Int) := by
  have := small_word 3 HK (by decide) (by decide)
  show Fl.val 52 (rnd (3 * HALF)) = 3 * HALF ∧ rnd (3 * HALF) < INF
  unfold HALF
  exact this
theorem int_near {n : Int} {k : Nat} (hn : n.natAbs ≤ k) (hk : k ≤ 9007199254740992) : Mg (FloatKind.f64.nearest n) k := by
  have e : FloatKind.f64.nearest n = Ieee.double.nearest (n < 0) n.natAbs 0 := rfl
  unfold Mg
  rw [e]
  refine nearest_in (whole_rep k hk) ?_
  rw [show (-1074 - (0 : Int)).toNat = 0 by rfl, Nat.pow_zero, Nat.mul_one, show (0 + 1074 : Int).toNat = K by rfl, one_pow]
  exact Nat.mul_le_mul_right _ hn
/-- the fraction of a number, made one between a half and two -/
theorem frac_in {f1 : Nat} (small : Bool) (h1 : 4602678819172646912 ≤ f1) (h2 : f1 < 4607182418800017408) :
    ∃ g r, Extern.MathAsm.add (if small = true then 4607182418800017408 else 0) 4607182418800017408 = pure g ∧ Extern.MathAsm.mul f1 g = pure r ∧ In r ((HALF : Nat) : Int) ((2 * ONE : Nat) : Int) := by
  have i1 := in_word h1 (Nat.le_of_lt h2) (by decide)
  rw [val_half, val_one] at i1
  have r1 : rg f1 = f1 := Nat.mod_eq_of_lt (by omega)
  have s1 : sg f1 = false := by unfold sg; exact decide_eq_false (by omega)
  have u1 : un f1 = (Fl.val 52 f1 : Int) := by unfold un; rw [s1, r1]; rfl
  have oh := one_half
  have b1 := i1.l
  have b2 := i1.h
  rw [u1] at b1 b2
  have rep2 : Rep ((2 * ONE : Nat) : Int) := whole_rep 2 (by decide)
  cases small
  · refine ⟨4607182418800017408, _, add_pure (show floatBits .add .f64 0 4607182418800017408 = some 4607182418800017408 by kernel_rfl), mul_pure (mul_fin f1 4607182418800017408 i1.u (by unfold U; decide) i1.f (by decide) (Fl.val 52 f1) (by rw [r1, show rg 4607182418800017408 = 4607182418800017408 by decide, val_one])), ?_⟩
    have := In.wz (z := (Fl.val 52 f1 : Int)) false rep_half rep2 b1 (by omega)
    have e : wz (Fl.val 52 f1 : Int) false = word (sg f1 ^^ sg 4607182418800017408) (rnd (Fl.val 52 f1)) := by
      unfold wz
      rw [s1, show sg 4607182418800017408 = false by decide, decide_eq_false (by omega), Bool.and_false]
      rfl
    rwa [e] at this
  · refine ⟨4611686018427387904, _, add_pure (show floatBits .add .f64 4607182418800017408 4607182418800017408 = some 4611686018427387904 by kernel_rfl), mul_pure (mul_fin f1 4611686018427387904 i1.u (by unfold U; decide) i1.f (by decide) (2 * Fl.val 52 f1) (by rw [r1, show rg 4611686018427387904 = 4611686018427387904 by decide, val_two]; simp only [Nat.mul_assoc, Nat.mul_comm, Nat.mul_left_comm])), ?_⟩
    have := In.wz (z := ((2 * Fl.val 52 f1 : Nat) : Int)) false rep_half rep2 (by omega) (by omega)
    have e : wz ((2 * Fl.val 52 f1 : Nat) : Int) false = word (sg f1 ^^ sg 4611686018427387904) (rnd (2 * Fl.val 52 f1)) := by
      unfold wz
      rw [s1, show sg 4611686018427387904 = false by decide, decide_eq_false (by omega), Bool.and_false]
      rfl
    rwa [e] at this
theorem m1 (x : Nat) (a : Nat → Sem Value) (b : Array Value → Sem Value) : Extern.MathLog.archLog.match_1 (fun _ => Sem Value) #[.float .f64 x] a b = a x := rfl
set_option maxRecDepth 100000 in
set_option maxHeartbeats 2000000 in
/-- the logarithm of a finite number above nought -/
theorem log_pure {x : Nat} (h0 : 0 < x) (h1 : x < INF) : ∃ y, Extern.MathLog.archLog #[.float .f64 x] = pure (.float .f64 y) ∧ Mg y 2212 := by
  have hI : x < 9218868437227405312 := h1
  obtain ⟨f1, hf⟩ : ∃ f1, f1 = x % 2 ^ 52 + Extern.MathAsm.half := ⟨_, rfl⟩
  have e52 : (2 : Nat) ^ 52 = 4503599627370496 := by decide
  have hh : Extern.MathAsm.half = 4602678819172646912 := by decide
  have f1a : 4602678819172646912 ≤ f1 := by rw [hf, hh]; omega
  have f1b : f1 < 4607182418800017408 := by rw [hf, hh, e52]; omega
  obtain ⟨small, hs⟩ : ∃ s : Bool, s = !Extern.MathAsm.lt 0x3FE6A09E667F3BCD f1 := ⟨_, rfl⟩
  obtain ⟨k0, hk0⟩ : ∃ k0, k0 = Extern.MathAsm.ofInt32 (Int.ofNat (x / 2 ^ 52) - 0x3FE) := ⟨_, rfl⟩
  have mk0 : Mg k0 1100 := by
    rw [hk0]
    refine int_near ?_ (by decide)
    rw [e52]
    have : x / 4503599627370496 ≤ 2047 := by omega
    show (((x / 4503599627370496 : Nat) : Int) - 1022).natAbs ≤ 1100
    omega
  have oh := one_half
  have mb : Mg (if small = true then 4607182418800017408 else 0) 1 := by cases small <;> exact mg_const (by decide)
  obtain ⟨k1, ek1, mk1⟩ := mk0.sub mb (m := 1101) rfl (by decide)
  obtain ⟨g, f2, eg, ef2, if2⟩ := frac_in small f1a f1b
  have one1 : In 4607182418800017408 ((ONE : Nat) : Int) ((ONE : Nat) : Int) := by
    have := in_word (x := 4607182418800017408) (Nat.le_refl _) (Nat.le_refl _) (by decide)
    rwa [val_one] at this
  have two1 : In 4611686018427387904 ((2 * ONE : Nat) : Int) ((2 * ONE : Nat) : Int) := by
    have := in_word (x := 4611686018427387904) (Nat.le_refl _) (Nat.le_refl _) (by decide)
    rwa [val_two] at this
  obtain ⟨f, ef0, iff⟩ := In.sub (lo := -((HALF : Nat) : Int)) (hi := ((ONE : Nat) : Int)) if2 one1 (rep_neg rep_half) one_rep (by omega) (by omega)
  have ef := sub_pure ef0
  obtain ⟨d, ed0, id⟩ := In.add (lo := ((3 * HALF : Nat) : Int)) (hi := ((3 * ONE : Nat) : Int)) two1 iff rep_3half (whole_rep 3 (by decide)) (by omega) (by omega)
  have ed := add_pure ed0
  have vf : Fl.val 52 (rg f) ≤ ONE := by rw [← un_abs]; have := iff.l; have := iff.h; omega
  have vd : 3 * HALF ≤ Fl.val 52 (rg d) := by rw [← un_abs]; have := id.l; omega
  have hp : 0 < HALF := Nat.two_pow_pos _
  obtain ⟨s, es0, is⟩ := mg_div iff.u id.u iff.f id.f (by omega) (by omega)
  have es := div_pure es0
  have ms : Mg s 1 := mg_of is (by omega) (by omega)
  have mf : Mg f 1 := mg_of iff (by omega) (by omega)
  obtain ⟨s2, es2, -, ms2⟩ := ms.mul ms (m := 1) rfl (by decide)
  obtain ⟨s4, es4, -, ms4⟩ := ms2.mul ms2 (m := 1) rfl (by decide)
  obtain ⟨a1, ea1, -, ma1⟩ := (mg_const (c := 0x3FC2F112DF3E5244) (by decide)).mul ms4 (m := 1) rfl (by decide)
  obtain ⟨a2, ea2, ma2⟩ := ma1.add (mg_const (c := 0x3FC7466496CB03DE) (by decide)) (m := 2) rfl (by decide)
  obtain ⟨a3, ea3, -, ma3⟩ := ma2.mul ms4 (m := 2) rfl (by decide)
  obtain ⟨a4, ea4, ma4⟩ := ma3.add (mg_const (c := 0x3FD2492494229359) (by decide)) (m := 3) rfl (by decide)
  obtain ⟨a5, ea5, -, ma5⟩ := ma4.mul ms4 (m := 3) rfl (by decide)
  obtain ⟨a6, ea6, ma6⟩ := ma5.add (mg_const (c := 0x3FE5555555555593) (by decide)) (m := 4) rfl (by decide)
  obtain ⟨t1, et1, -, mt1⟩ := ms2.mul ma6 (m := 4) rfl (by decide)
  obtain ⟨b1, eb1, -, mb1⟩ := (mg_const (c := 0x3FC39A09D078C69F) (by decide)).mul ms4 (m := 1) rfl (by decide)
  obtain ⟨b2, eb2, mb2⟩ := mb1.add (mg_const (c := 0x3FCC71C51D8E78AF) (by decide)) (m := 2) rfl (by decide)
  obtain ⟨b3, eb3, -, mb3⟩ := mb2.mul ms4 (m := 2) rfl (by decide)
  obtain ⟨b4, eb4, mb4⟩ := mb3.add (mg_const (c := 0x3FD999999997FA04) (by decide)) (m := 3) rfl (by decide)
  obtain ⟨t2, et2, -, mt2⟩ := ms4.mul mb4 (m := 3) rfl (by decide)
  obtain ⟨r, er, mr⟩ := mt1.add mt2 (m := 7) rfl (by decide)
  obtain ⟨c1, ec1, -, mc1⟩ := (mg_const (c := Extern.MathAsm.half) (by decide)).mul mf (m := 1) rfl (by decide)
  obtain ⟨hq, ehq, -, mhq⟩ := mc1.mul mf (m := 1) rfl (by decide)
  obtain ⟨d1, ed1, md1⟩ := mr.add mhq (m := 8) rfl (by decide)
  obtain ⟨d2, ed2, -, md2⟩ := ms.mul md1 (m := 8) rfl (by decide)
  obtain ⟨d3, ed3, -, md3⟩ := (mg_const (c := 0x3DEA39EF35793C76) (by decide)).mul mk1 (m := 1101) rfl (by decide)
  obtain ⟨d4, ed4, md4⟩ := md2.add md3 (m := 1109) rfl (by decide)
  obtain ⟨z1, ez1, -, mz1⟩ := mk1.mul (mg_const (c := 0x3FE62E42FEE00000) (by decide)) (m := 1101) rfl (by decide)
  obtain ⟨z2, ez2, mz2⟩ := mhq.sub md4 (m := 1110) rfl (by decide)
  obtain ⟨z3, ez3, mz3⟩ := mz2.sub mf (m := 1111) rfl (by decide)
  obtain ⟨y, ey, my⟩ := mz1.sub mz3 (m := 2212) rfl (by decide)
  refine ⟨y, ?_, my⟩
  have c1 : (x % 2 ^ 63 == 0) = false := by
    rw [show (2 : Nat) ^ 63 = 9223372036854775808 by decide, Nat.mod_eq_of_lt (by omega)]
    exact beq_eq_false_iff_ne.2 (by omega)
  have c2 : ¬ x ≥ 2 ^ 63 := by rw [show (2 : Nat) ^ 63 = 9223372036854775808 by decide]; omega
  have c3 : ¬ x ≥ Extern.MathAsm.posInf := by rw [show Extern.MathAsm.posInf = 9218868437227405312 by decide]; omega
  delta Extern.MathLog.archLog
  dsimp only
  rw [m1]
  have o1 : Extern.MathAsm.one = 4607182418800017408 := rfl
  have o2 : Extern.MathAsm.two = 4611686018427387904 := rfl
  rw [← hf, ← hs, ← hk0, o1, o2, c1, if_neg Bool.false_ne_true, if_neg c2, if_neg c3]
  rw [ek1, pb, eg, pb, ef2, pb, ef, pb, ed, pb, es, pb, es2, pb, es4, pb, ea1, pb, ea2, pb, ea3, pb, ea4, pb, ea5, pb, ea6, pb, et1, pb, eb1, pb, eb2, pb, eb3, pb, eb4, pb, et2, pb, er, pb, ec1, pb, ehq, pb, ed1, pb, ed2, pb, ed3, pb, ed4, pb, ez1, pb, ez2, pb, ez3, pb, ey, pb]
end Go.Proofs.YtjkifbkehochoaaGreatDoor

namespace Go.Proofs.YtjkifbkehochoaaGreatDoor
open Go.RowKit Fl
theorem one_posi : 0 < ONEi := by unfold ONEi; have := one_pos; omega
theorem cut_zero (s : Bool) (n d : Nat) : Ieee.Toward.zero.cut s n d = n / 2 ^ (min d (n.log2 + 2)) := by
  unfold Ieee.Toward.cut
  simp only [Nat.shiftLeft_eq, Nat.one_mul]
  rfl
theorem read_int (x : Nat) (h : U x) (hf : fin x = true) (z : Nat) (e : Fl.val 52 (rg x) = z * ONE) : (Ieee.double.read x).toInt .zero = some (if sg x = true then -(z : Int) else (z : Int)) := by
  obtain ⟨m, j, er, v⟩ := read_fin x h hf
  rw [er]
  unfold Ieee.Datum.toInt Ieee.Datum.integral
  simp only
  rw [signed_eq, cut_zero, Nat.shiftLeft_eq, Nat.pow_zero, Nat.mul_one]
  have hz : m * 2 ^ (-1074 + (j : Int)).toNat / 2 ^ (min (-(-1074 + (j : Int))).toNat ((m * 2 ^ (-1074 + (j : Int)).toNat).log2 + 2)) = z := by
    rw [← v] at e
    have hK := K_eq
    rcases Nat.le_total j 1074 with hj | hj
    · rw [show (-1074 + (j : Int)).toNat = 0 by omega, show (-(-1074 + (j : Int))).toNat = 1074 - j by omega, Nat.pow_zero, Nat.mul_one]
      have e2 : m = z * 2 ^ (1074 - j) := by
        rw [one_split (1074 - j) j (by omega), ← Nat.mul_assoc] at e
        exact Nat.eq_of_mul_eq_mul_right (Nat.two_pow_pos j) e
      rcases Nat.eq_zero_or_pos z with h0 | h0
      · subst h0
        rw [e2, Nat.zero_mul, Nat.zero_div]
      · have hm : m ≠ 0 := by rw [e2]; exact Nat.mul_ne_zero (by omega) (Nat.ne_of_gt (Nat.two_pow_pos _))
        have hl : 1074 - j ≤ m.log2 := by
          have h1 : 2 ^ (1074 - j) ≤ m := by rw [e2]; exact Nat.le_mul_of_pos_left _ h0
          exact (Nat.le_log2 hm).2 h1
        rw [Nat.min_eq_left (by omega)]
        rw [e2]
        exact Nat.mul_div_cancel _ (Nat.two_pow_pos _)
    · rw [show (-1074 + (j : Int)).toNat = j - 1074 by omega, show (-(-1074 + (j : Int))).toNat = 0 by omega, Nat.zero_min, Nat.pow_zero, Nat.div_one]
      rw [pow_one j (j - 1074) (by omega), ← Nat.mul_assoc] at e
      exact Nat.eq_of_mul_eq_mul_right one_pos e
  rw [hz]
theorem f2i (x : Nat) (z : Int) (h : U x) (hf : fin x = true) (e : un x = z * ONEi) (hz : z.natAbs ≤ 9007199254740992) : floatToIntVal .f64 x .i64 = some z := by
  have hv : Fl.val 52 (rg x) = z.natAbs * ONE := by rw [← un_abs, e, Int.natAbs_mul]; rfl
  have hr := read_int x h hf z.natAbs hv
  have hs : (if sg x = true then -(z.natAbs : Int) else (z.natAbs : Int)) = z := by
    rw [sgn_un, hv] at e
    have hp := one_posi
    have e1 : ((z.natAbs * ONE : Nat) : Int) = (z.natAbs : Int) * ONEi := by unfold ONEi; push_cast; rfl
    rw [e1] at e
    have s1 : 0 < z → 0 < z * ONEi := fun h => Int.mul_pos h hp
    have s2 : z < 0 → z * ONEi < 0 := fun h => Int.mul_neg_of_neg_of_pos h hp
    have s3 := Int.mul_nonneg (show (0 : Int) ≤ (z.natAbs : Int) by omega) (Int.le_of_lt hp)
    by_cases c : sg x = true
    · rw [if_pos c] at e ⊢; omega
    · rw [if_neg c] at e ⊢; omega
  unfold floatToIntVal
  rw [show FloatKind.f64.decode x = Ieee.double.read x from rfl, hr, hs]
  simp only
  rw [if_pos]
  constructor
  · show (-9223372036854775808 : Int) ≤ z; omega
  · show z ≤ (9223372036854775807 : Int); omega
theorem cut_down (s : Bool) (n d : Nat) : Ieee.Toward.down.cut s n d = n / 2 ^ (min d (n.log2 + 2)) + (s && n % 2 ^ (min d (n.log2 + 2)) != 0).toNat := by
  unfold Ieee.Toward.cut
  simp only [Nat.shiftLeft_eq, Nat.one_mul]
/-- how many whole ones lie below an amount, one more of what is below nought and not whole -/
def flN (x : Nat) : Nat := Fl.val 52 (rg x) / ONE + (sg x && Fl.val 52 (rg x) % ONE != 0).toNat
theorem floor_cut (s : Bool) (m j : Nat) : Ieee.Toward.down.cut s (m * 2 ^ (-1074 + (j : Int)).toNat) (-(-1074 + (j : Int))).toNat = m * 2 ^ j / ONE + (s && m * 2 ^ j % ONE != 0).toNat := by
  have hK := K_eq
  rw [cut_down]
  rcases Nat.le_total j 1074 with hj | hj
  · rw [show (-1074 + (j : Int)).toNat = 0 by omega, show (-(-1074 + (j : Int))).toNat = 1074 - j by omega, Nat.pow_zero, Nat.mul_one]
    rw [one_split (1074 - j) j (by omega)]
    rw [Nat.mul_div_mul_right _ _ (Nat.two_pow_pos j), Nat.mul_mod_mul_right]
    have e2 : (m % 2 ^ (1074 - j) * 2 ^ j != 0) = (m % 2 ^ (1074 - j) != 0) := by
      have := Nat.two_pow_pos j
      rw [Bool.eq_iff_iff, bne_iff_ne, bne_iff_ne]
      constructor
      · intro h e; rw [e, Nat.zero_mul] at h; exact h rfl
      · intro h e; rcases Nat.mul_eq_zero.1 e with e | e
        · exact h e
        · omega
    rw [e2]
    rcases Nat.le_total (1074 - j) (m.log2 + 2) with c | c
    · rw [Nat.min_eq_left c]
    · rw [Nat.min_eq_right c]
      have h1 : m < 2 ^ (m.log2 + 2) := Nat.lt_of_lt_of_le Nat.lt_log2_self (Nat.pow_le_pow_right (by decide) (by omega))
      have h2 : m < 2 ^ (1074 - j) := Nat.lt_of_lt_of_le h1 (Nat.pow_le_pow_right (by decide) c)
      rw [Nat.div_eq_of_lt h1, Nat.div_eq_of_lt h2, Nat.mod_eq_of_lt h1, Nat.mod_eq_of_lt h2]
  · rw [show (-1074 + (j : Int)).toNat = j - 1074 by omega, show (-(-1074 + (j : Int))).toNat = 0 by omega, Nat.zero_min, Nat.pow_zero, Nat.div_one, Nat.mod_one]
    rw [pow_one j (j - 1074) (by omega), ← Nat.mul_assoc, Nat.mul_div_cancel _ one_pos, Nat.mul_mod_left]
def flW (x : Nat) : Nat := word (sg x) (rnd (flN x * ONE))
def onDown (x : Nat) : Ieee.Datum → Sem Value
  | .nan s t => if FloatKind.f64.format.quiet t = t then pure (.float .f64 x) else
    (choose (.extern "math.Floor,Ceil,Trunc,RoundToEven.signallingNaN kept" 2)).bind fun k => pure (.float .f64 (if k == 1 then x else FloatKind.f64.encode (.nan s (FloatKind.f64.format.quiet t))))
  | d => pure (.float .f64 (FloatKind.f64.encode (d.integral .down)))
theorem onDown_eq (x : Nat) : Extern.MathFloor.toIntegral "math.archFloor" .down #[.float .f64 x] = onDown x (Ieee.double.read x) := rfl
theorem x72 (x : Nat) (w : World) (hx : U x) (hf : fin x = true) : (callFunc 72 #[.float .f64 x]).run Tryz.prog w = .ok (.value (.float .f64 (flW x))) w := by
  rw [run_callFunc_extern (P := Tryz.prog) (f := 72) (fn := Tryz.f72) (e := Extern.MathFloor.toIntegral "math.archFloor" .down) (by kernel_rfl) (by kernel_rfl) (by kernel_rfl) (by kernel_rfl) (by kernel_rfl)]
  have key : (Extern.MathFloor.toIntegral "math.archFloor" .down #[.float .f64 x]).run Tryz.prog w = .ok (.float .f64 (flW x)) w := by
    obtain ⟨m, j, e, v⟩ := read_fin x hx.lt hf
    have hw : Ieee.double.write ((Ieee.double.read x).integral .down) = flW x := by
      rw [e]
      show Ieee.double.nearest _ _ _ = _
      rw [Nat.shiftLeft_eq, floor_cut, nearest_int, v]
      rfl
    rw [onDown_eq]
    rw [← hw, e]
    rfl
  rw [key]; rfl
theorem x130 {x : Nat} (h0 : 0 < x) (h1 : x < INF) : ∃ y, (∀ w, (callFunc 130 #[.float .f64 x]).run Tryz.prog w = .ok (.value (.float .f64 y)) w) ∧ Mg y 2212 := by
  obtain ⟨y, hy, my⟩ := log_pure h0 h1
  refine ⟨y, fun w => ?_, my⟩
  rw [run_callFunc_extern (P := Tryz.prog) (f := 130) (fn := Tryz.f130) (e := Extern.MathLog.archLog) (by kernel_rfl) (by kernel_rfl) (by kernel_rfl) (by kernel_rfl) (by kernel_rfl), hy]
  rfl
set_option maxRecDepth 100000 in
/-- math.Log10 of a finite number above nought -/
theorem cLog10 {x : Nat} (h0 : 0 < x) (h1 : x < INF) : ∃ y, Mg y 2212 ∧ ∀ w, Calls Tryz.prog 36 #[.float .f64 x] w fun e w' => e = .returned (.float .f64 y) ∧ w = w' := by
  obtain ⟨l, hl, ml⟩ := x130 h0 h1
  obtain ⟨y, -, hm, my⟩ := ml.mul (mg_const (c := 4601495173785380110) (by decide)) (m := 2212) rfl (by decide)
  refine ⟨y, my, fun w => ?_⟩
  have hmul : ∀ w, (binOp .mul 23 (.float .f64 l) (.float .f64 4601495173785380110)).run Tryz.prog w = .ok (.float .f64 y) w := fun w => run_float_arith w .mul 23 .f64 l _ y hm
  have C112 : Hid (∀ w, Calls Tryz.prog 112 #[.float .f64 x] w fun e w' => e = .returned (.float .f64 l) ∧ w = w') := Lib.hid (fun w => by
    clear h0 h1 ml hm my hmul
    go_enter Tryz.func112, Tryz.ntmps112
    go_wp2
    go_ret
    exact ⟨rfl, rfl⟩)
  clear h0 h1 ml hm my hl
  have C75 : Hid (∀ w, Calls Tryz.prog 75 #[.float .f64 x] w fun e w' => e = .returned (.float .f64 y) ∧ w = w') := Lib.hid (fun w => by
    go_enter Tryz.func75, Tryz.ntmps75
    go_wp2_with (go_at_call 112; refine (C112.out _).mono ?_; rintro e w' ⟨rfl, rfl⟩)
    go_ret
    exact ⟨rfl, rfl⟩)
  clear hmul C112
  go_enter Tryz.func36, Tryz.ntmps36
  go_wp2_with (go_at_call 75; refine (C75.out _).mono ?_; rintro e w' ⟨rfl, rfl⟩)
  go_ret
  exact ⟨rfl, rfl⟩
set_option maxRecDepth 100000 in
/-- math.Floor of a finite number, and as an int -/
theorem cFloor {y : Nat} (my : Mg y 2212) : ∃ z : Int, -2213 ≤ z ∧ z ≤ 2213 ∧ ∃ f, (∀ w, Calls Tryz.prog 35 #[.float .f64 y] w fun e w' => e = .returned (.float .f64 f) ∧ w = w') ∧ ∀ w, (convert 23 3 (.float .f64 f)).run Tryz.prog w = .ok (.int .i64 z) w := by
  have hv : Fl.val 52 (rg y) ≤ 2212 * ONE := by rw [← un_abs]; have := my.l; have := my.h; omega
  have hp := one_pos
  have hn : flN y ≤ 2213 := by
    unfold flN
    have h1 : Fl.val 52 (rg y) / ONE ≤ 2212 := Nat.div_le_of_le_mul (by rw [Nat.mul_comm]; exact hv)
    have h2 := Bool.toNat_le (sg y && Fl.val 52 (rg y) % ONE != 0)
    omega
  have hr := whole_rep (flN y) (by omega)
  have hu : U (flW y) := U_word _ _ (rnd_lt _)
  have hf : fin (flW y) = true := fin_word _ _ hr.2
  have hun : un (flW y) = (if sg y = true then -(flN y : Int) else (flN y : Int)) * ONEi := by
    unfold flW
    rw [un_word _ _ hr.1]
    have e : ((flN y * ONE : Nat) : Int) = (flN y : Int) * ONEi := by unfold ONEi; push_cast; rfl
    rw [e]
    split
    · rw [Int.neg_mul]
    · rfl
  obtain ⟨z, hz⟩ : ∃ z : Int, z = if sg y = true then -(flN y : Int) else (flN y : Int) := ⟨_, rfl⟩
  rw [← hz] at hun
  have hzb : -2213 ≤ z ∧ z ≤ 2213 := by rw [hz]; split <;> omega
  refine ⟨z, hzb.1, hzb.2, flW y, fun w => ?_, fun w => run_convert_float_int w 23 3 .f64 .i64 _ z (by kernel_rfl) Tryz.underlying3 (f2i _ z hu hf hun (by omega))⟩
  have hx : ∀ w, (callFunc 72 #[.float .f64 y]).run Tryz.prog w = .ok (.value (.float .f64 (flW y))) w := fun w => x72 y w my.u my.f
  clear hv hp hn hr hu hf hun hz hzb my
  generalize flW y = f at *
  go_enter Tryz.func35, Tryz.ntmps35
  go_wp2
  go_ret
  exact ⟨rfl, rfl⟩
end Go.Proofs.YtjkifbkehochoaaGreatDoor
