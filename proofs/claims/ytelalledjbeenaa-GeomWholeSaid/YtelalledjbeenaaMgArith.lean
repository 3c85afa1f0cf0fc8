/- +, -, *, / on binary64 in a walk: one law, whatever the operands; a NaN's bits are drawn. Plain laws, third part: products by powers of two; whole numbers as words. Plain laws, fourth part: binary32 in binary64 and back. Plain laws: what rounding loses is a number. No program in sight. -/
import Derived.Test.YtelalledjbeenaaBits
import Derived.Laws.NewFold
import Derived.Test.YtelalledjbeenaaFlB
namespace Go.Proofs.Ytelalledjbeenaa
open Go.RowKit Fl

/-- what an operation leaves -/
def fop (op : BinOp) (x y : Nat) (w : World) : Nat :=
  match floatBits op .f64 x y with
  | some r => r
  | none => (Question.nanBits .f64 x y).cut (w.tape w.drawn (Question.nanBits .f64 x y))
/-- how often the tape is asked -/
def fopN (op : BinOp) (x y : Nat) : Nat := if (floatBits op .f64 x y).isSome then 0 else 1
/-- one of the four -/
def four (op : BinOp) : Bool := match op with | .add | .sub | .mul | .quo => true | _ => false

theorem run_fop {P : Program} (op : BinOp) (ho : four op = true) (t : TypeId) (x y : Nat) (w : World) :
    (binOp op t (.float .f64 x) (.float .f64 y)).run P w = .ok (.float .f64 (fop op x y w)) (w.drewN (fopN op x y)) := by
  unfold fop fopN
  cases h : floatBits op .f64 x y with
  | some r => exact run_float_arith w op t .f64 x y r h
  | none =>
    cases op <;> first | (cases ho; done) | skip
    all_goals
      unfold floatBits at h
      simp only at h
      simp [binOp, Op.floatArith, h, Question.forced]
      rfl

theorem nanBits_cut (x y t : Nat) : U ((Question.nanBits .f64 x y).cut t) ∧ isN ((Question.nanBits .f64 x y).cut t) = true := by
  have e : (Question.nanBits .f64 x y).cut t = (t % 2) * 2 ^ 63 + 0x7ff0000000000000 + 1 + (t / 2) % (2 ^ 52 - 1) := rfl
  rw [e]
  have h1 : (t / 2) % (2 ^ 52 - 1) < 4503599627370495 := Nat.mod_lt _ (by decide)
  generalize (t / 2) % (2 ^ 52 - 1) = a at *
  have h2 : t % 2 < 2 := Nat.mod_lt _ (by decide)
  generalize t % 2 = b at *
  refine ⟨by unfold U; omega, ?_⟩
  unfold isN rg INF
  exact decide_eq_true (by omega)

theorem U_fop (op : BinOp) (x y : Nat) (w : World) : U (fop op x y w) := by
  unfold fop
  cases h : floatBits op .f64 x y with
  | some r =>
    have := floatBits_wf h
    unfold U; simpa [Lit.wf] using this
  | none => exact (nanBits_cut _ _ _).1

/-- the result's place, by the places -/
def opP (op : BinOp) (p q : Int) : Int :=
  match floatBits op .f64 (atW p) (atW q) with
  | some r => pl r
  | none => 9223372036854775807

theorem atW_pl (x : Nat) (hx : U x) (hn : isN x = false) : atW (pl x) = x := by
  have h := word_self x hx.lt
  have hl := rg_lt x
  cases hs : sg x
  · rw [hs] at h
    rw [pl_pos hn hs]; unfold atW
    rw [if_neg (by omega), Int.toNat_natCast]; exact h
  · rw [hs] at h
    rw [pl_neg hn hs]; unfold atW
    rw [if_pos (by omega), show (-(-(rg x : Int) - 1 + 1)).toNat = rg x by omega]; exact h
theorem isN_atW : isN (atW 9223372036854775807) = true := by decide
theorem U_atN : U (atW 9223372036854775807) := by unfold U; decide

theorem nan_op (op : BinOp) (x y : Nat) (hx : U x) (hy : U y) (h : isN x = true ∨ isN y = true) : floatBits op .f64 x y = none := by
  have e : ∀ d : Ieee.Datum, d.isNaN = true → ∃ s t, d = .nan s t := fun d hd => by cases d <;> simp [Ieee.Datum.isNaN] at hd ⊢
  unfold floatBits
  split
  all_goals first | rfl | skip
  all_goals
    first
      | (show Ieee.double.add x y = none; unfold Ieee.Format.add)
      | (show Ieee.double.sub x y = none; unfold Ieee.Format.sub)
      | (show Ieee.double.mul x y = none; unfold Ieee.Format.mul)
      | (show Ieee.double.div x y = none; unfold Ieee.Format.div)
    rcases h with h | h
    · rw [read_nan x hx h]; rfl
    · rw [read_nan y hy h]
      cases Ieee.double.read x <;> rfl

theorem pl_fop (op : BinOp) (x y : Nat) (w : World) (hx : U x) (hy : U y) : pl (fop op x y w) = opP op (pl x) (pl y) := by
  by_cases h : isN x = true ∨ isN y = true
  · have h1 := nan_op op x y hx hy h
    have h2 : floatBits op .f64 (atW (pl x)) (atW (pl y)) = none := by
      by_cases c : isN x = true
      · rw [pl_nan c]
        refine nan_op op _ _ U_atN ?_ (.inl isN_atW)
        have := pl_range y
        exact U_atW _ (by omega) (by omega)
      · rw [pl_nan (h.resolve_left c)]
        refine nan_op op _ _ ?_ U_atN (.inr isN_atW)
        have := pl_range x
        exact U_atW _ (by omega) (by omega)
    unfold fop opP
    rw [h1, h2]
    exact pl_nan (nanBits_cut _ _ _).2
  · have hx' : isN x = false := by cases c : isN x <;> simp_all
    have hy' : isN y = false := by cases c : isN y <;> simp_all
    unfold fop opP
    rw [atW_pl x hx hx', atW_pl y hy hy']
    cases h3 : floatBits op .f64 x y with
    | some r => rfl
    | none => exact pl_nan (nanBits_cut _ _ _).2

/-- x - x of a finite number is +0 -/
theorem sub_self_fin (x : Nat) (hx : U x) (hf : fin x = true) : floatBits .sub .f64 x x = some 0 := by
  show Ieee.double.sub x x = some 0
  obtain ⟨m, j, e, _⟩ := read_fin x hx hf
  unfold Ieee.Format.sub
  rw [e]
  have h1 : ∀ (s : Bool) (m up : Nat), Ieee.signed s m up + Ieee.signed (!s) m up = 0 := by
    intro s m up
    unfold Ieee.signed
    cases s <;> simp <;> omega
  simp only [Ieee.Datum.opposite, Ieee.Datum.sum, h1, if_true, Option.map_some]
  refine congrArg some ?_
  show Ieee.double.nearest _ _ _ = 0
  have : (sg x && !sg x) = false := by cases sg x <;> rfl
  rw [this]; rfl
theorem sub_self_inf (x : Nat) (hx : U x) (hf : fin x = false) : floatBits .sub .f64 x x = none := by
  by_cases hn : isN x = true
  · exact nan_op .sub x x hx hx (.inl hn)
  · have h1 := fin_false hf
    have h2 := isN_false (by simpa using hn)
    show Ieee.double.sub x x = none
    unfold Ieee.Format.sub
    rw [read_inf x hx (by omega)]
    cases sg x <;> rfl
end Go.Proofs.Ytelalledjbeenaa

namespace Go.Proofs.Ytelalledjbeenaa.Fl
open Ieee

theorem B52 : (2 : Nat) ^ 52 = 4503599627370496 := by decide
/-- The word of exponent field E and fraction F, without a sign. -/
theorem read_normal (E F : Nat) (h1 : 1 ≤ E) (h2 : E ≤ 2046) (hF : F < 4503599627370496) :
    double.read (E * 4503599627370496 + F) = .number false (4503599627370496 + F) ((E : Int) - 1075) := by
  have hl : E * 4503599627370496 + F < 9223372036854775808 := by omega
  have hr : rg (E * 4503599627370496 + F) = E * 4503599627370496 + F := Nat.mod_eq_of_lt hl
  have hs : sg (E * 4503599627370496 + F) = false := by unfold sg; exact decide_eq_false (by omega)
  have hi : INF = 9218868437227405312 := rfl
  rw [read_eq _ (by omega), hr, hs, if_neg (by omega), if_pos (by omega)]
  have e1 : (E * 4503599627370496 + F) % 4503599627370496 = F := by omega
  have e2 : (E * 4503599627370496 + F) / 4503599627370496 - 1 = E - 1 := by omega
  rw [e1, e2]
  congr 1; omega

theorem read_1 : double.read 4607182418800017408 = .number false 4503599627370496 (-52) := by decide
theorem read_2p53 : double.read 4368491638549381120 = .number false 4503599627370496 (-105) := by decide

theorem mul_by (c : Nat) (q : Int) (hc : double.read c = .number false 4503599627370496 q) (E F : Nat) (h1 : 1 ≤ E) (h2 : E ≤ 2046) (hF : F < 4503599627370496) :
    double.mul c (E * 4503599627370496 + F) = some (double.nearest false (4503599627370496 + F) ((E : Int) - 1075 + q + 52)) := by
  unfold Format.mul
  rw [hc, read_normal E F h1 h2 hF]
  simp only [Datum.product, Option.map_some, Bool.xor_false]
  refine congrArg some ?_
  show double.nearest false _ _ = _
  have := d_nearest_scale false (4503599627370496 + F) 52 (q + ((E : Int) - 1075))
  rw [B52] at this
  rw [Nat.mul_comm, this]
  congr 1; omega

theorem log2_53 (F : Nat) (hF : F < 4503599627370496) : (4503599627370496 + F).log2 = 52 := log2_eq _ 52 (by rw [B52]; omega) (by rw [Nat.pow_succ, B52]; omega)

/-- A whole number below 2^53 as a word. -/
theorem nearest_int (n : Nat) : ∀ neg, double.nearest neg n 0 = word neg (rnd (n * ONE)) := by
  intro neg
  rw [d_nearest _ _ _ (by decide), show ((0 : Int) + 1074).toNat = K from by decide, ← one_pow]

end Go.Proofs.Ytelalledjbeenaa.Fl

namespace Go.Proofs.Ytelalledjbeenaa.Fl
open Ieee

theorem nearest_scale (f : Format) (neg : Bool) (M j : Nat) (p : Int) : f.nearest neg (M * 2 ^ j) p = f.nearest neg M (p + j) := by
  rw [nearest_eq, nearest_eq]
  refine congrArg (fun r => f.word neg (min r f.infRung)) ?_
  generalize f.leastPlace = L
  generalize f.fractionBits = fb
  rcases Int.le_total L p with h | h
  · rw [show (L - p).toNat = 0 by omega, show (L - (p + (j : Int))).toNat = 0 by omega, Nat.mul_assoc, ← Nat.pow_add]
    congr 3; omega
  · rw [show (p - L).toNat = 0 by omega, Nat.pow_zero, Nat.mul_one]
    rcases Int.le_total L (p + j) with h' | h'
    · rw [show (L - (p + (j : Int))).toNat = 0 by omega]
      have e : j = (p + (j : Int) - L).toNat + (L - p).toNat := by omega
      generalize ha : (p + (j : Int) - L).toNat = a at *
      generalize hb : (L - p).toNat = b at *
      rw [e, Nat.pow_add, ← Nat.mul_assoc]
      have := rungOf_scale fb (M * 2 ^ a) 0 b
      rw [Nat.zero_add] at this
      exact this
    · rw [show (p + (j : Int) - L).toNat = 0 by omega, Nat.pow_zero, Nat.mul_one]
      rw [show (L - p).toNat = (L - (p + (j : Int))).toNat + j by omega]
      exact rungOf_scale fb M _ j

/-- binary32: sign, rung -/
def sg32 (b : Nat) : Bool := decide (2147483648 ≤ b)
def rg32 (b : Nat) : Nat := b % 2147483648
def isN32 (b : Nat) : Bool := decide (2139095040 < rg32 b)
theorem s_inf : single.infRung = 2139095040 := by decide
theorem s_sw : single.signWeight = 2147483648 := by decide
theorem s_bin : single.binade = 8388608 := by decide
theorem s_least : single.leastPlace = -149 := by decide
theorem word32_self (b : Nat) (h : b < 4294967296) : single.word (sg32 b) (rg32 b) = b := by
  unfold Format.word sg32 rg32
  rw [s_sw]
  by_cases c : 2147483648 ≤ b
  · rw [decide_eq_true c, if_pos rfl]; omega
  · rw [decide_eq_false c, if_neg (by decide)]; omega
theorem read32_eq (b : Nat) (h : b < 4294967296) : single.read b =
    if rg32 b < 8388608 then .number (sg32 b) (rg32 b) (-149)
    else if rg32 b < 2139095040 then .number (sg32 b) (8388608 + rg32 b % 8388608) (-149 + ((rg32 b / 8388608 - 1 : Nat) : Int))
    else if rg32 b = 2139095040 then .infinity (sg32 b) else .nan (sg32 b) (rg32 b - 2139095040) := by
  have hs : (b / single.signWeight % 2 == 1) = sg32 b := by
    rw [s_sw]; unfold sg32
    by_cases c : 2147483648 ≤ b
    · rw [decide_eq_true c]; simp; omega
    · rw [decide_eq_false c]; simp; omega
  unfold Format.read
  simp only [hs]
  simp only [s_sw, s_bin, s_inf, s_least]
  rfl
theorem read32_fin (b : Nat) (h : b < 4294967296) (hf : rg32 b < 2139095040) :
    ∃ m j : Nat, single.read b = .number (sg32 b) m (-149 + (j : Int)) ∧ m * 2 ^ j = val 23 (rg32 b) ∧ m < 16777216 ∧ j ≤ 260 := by
  rw [read32_eq b h]
  by_cases c : rg32 b < 8388608
  · refine ⟨rg32 b, 0, by rw [if_pos c]; rfl, ?_, by omega, by omega⟩
    rw [val_small 23 _ (by rw [show (2 ^ 23 : Nat) = 8388608 from by decide]; omega)]; simp
  · refine ⟨_, _, by rw [if_neg c, if_pos hf], ?_, by omega, by omega⟩
    unfold val
    rw [show (2 ^ 23 : Nat) = 8388608 from by decide, if_neg (by omega)]
theorem read32_inf (b : Nat) (h : b < 4294967296) (hf : rg32 b = 2139095040) : single.read b = .infinity (sg32 b) := by
  rw [read32_eq b h, if_neg (by omega), if_neg (by omega), if_pos hf]
theorem read32_nan (b : Nat) (h : b < 4294967296) (hf : isN32 b = true) : single.read b = .nan (sg32 b) (rg32 b - 2139095040) := by
  have hf : 2139095040 < rg32 b := of_decide_eq_true hf
  rw [read32_eq b h, if_neg (by omega), if_neg (by omega), if_neg (by omega)]
theorem write_read32 (b : Nat) (h : b < 4294967296) (hf : rg32 b < 2139095040) (m j : Nat) (hv : m * 2 ^ j = val 23 (rg32 b)) : single.nearest (sg32 b) m (-149 + (j : Int)) = b := by
  rw [nearest_eq, s_inf, s_least, show (-149 + (j : Int) - -149).toNat = j by omega, show (-149 - (-149 + (j : Int))).toNat = 0 by omega, hv]
  rw [show single.fractionBits = 23 from rfl, rungOf_val, Nat.min_eq_left (by omega), word32_self b h]

theorem val_1276 : val 52 (1276 * 4503599627370496) = 9007199254740992 * (ONE * 2 ^ 200) := by
  have hd : (1276 * 4503599627370496) / 2 ^ 52 - 1 = K + 201 := by decide
  have hm : 2 ^ 52 + (1276 * 4503599627370496) % 2 ^ 52 = 4503599627370496 := by decide
  unfold val
  rw [if_neg (by decide), hd, hm, Nat.pow_add, ← one_pow, show (2 : Nat) ^ 201 = 2 * 2 ^ 200 from by rw [Nat.pow_succ, Nat.mul_comm]]
  generalize ONE = o
  generalize (2 : Nat) ^ 200 = t
  rw [show (9007199254740992 : Nat) = 4503599627370496 * 2 from by decide]
  simp only [Nat.mul_assoc, Nat.mul_left_comm]
theorem small_word (m q : Nat) (hm : m ≤ 9007199254740992) (hq : q ≤ K + 200) : val 52 (rnd (m * 2 ^ q)) = m * 2 ^ q ∧ rnd (m * 2 ^ q) < INF := by
  have hv : val 52 (rungOf 52 (m * 2 ^ q) 0) = m * 2 ^ q := val_rungOf_small _ _ _ (by rw [B52]; omega)
  have h2 : 2 ^ q ≤ 2 ^ (K + 200) := Nat.pow_le_pow_right (by omega) hq
  have h3 : m * 2 ^ q ≤ 9007199254740992 * 2 ^ (K + 200) := Nat.mul_le_mul hm h2
  rw [Nat.pow_add, ← one_pow, ← val_1276] at h3
  have h5 := rungOf_mono 52 _ _ 0 h3
  rw [rungOf_val] at h5
  generalize m * 2 ^ q = N at *
  have er : rnd N = rungOf 52 N 0 := by unfold rnd INF; omega
  rw [er]
  exact ⟨hv, by unfold INF; omega⟩

/-- Wide, of a number that is finite. -/
def wide (b : Nat) : Nat := double.write (single.read b)
theorem wide_eq (b : Nat) (s : Bool) (m j q : Nat) (e : single.read b = .number s m (-149 + (j : Int))) (hq : (-149 + (j : Int) + 1074).toNat = q) : wide b = word s (rnd (m * 2 ^ q)) := by
  unfold wide
  rw [e]
  show double.nearest _ _ _ = _
  rw [d_nearest _ _ _ (by omega), hq]
theorem back32 (s : Bool) (m j q m' j' : Nat) (hq : (-1074 : Int) + (q : Int) = -149 + (j : Int)) (h : m' * 2 ^ j' = m * 2 ^ q) : single.nearest s m' (-1074 + (j' : Int)) = single.nearest s m (-149 + (j : Int)) := by
  rw [← nearest_scale single _ m' j' (-1074), h, nearest_scale, hq]
/-- Narrow of Wide is the same. -/
theorem narrow_wide_fin (b : Nat) (h : b < 4294967296) (hf : rg32 b < 2139095040) : single.write (double.read (wide b)) = b ∧ fin (wide b) = true ∧ wide b < 18446744073709551616 ∧ ∃ s m p, double.read (wide b) = .number s m p := by
  obtain ⟨m, j, e, hv, hm, hj⟩ := read32_fin b h hf
  obtain ⟨q, hq⟩ : ∃ q : Nat, q = (-149 + (j : Int) + 1074).toNat := ⟨_, rfl⟩
  have e1 := wide_eq b _ m j q e hq.symm
  have hq2 : (-1074 : Int) + (q : Int) = -149 + (j : Int) := by omega
  have hq3 : q ≤ K + 200 := by have : K = 1074 := rfl; omega
  clear hq
  obtain ⟨v1, v2⟩ := small_word m q (by omega) hq3
  have hl : rnd (m * 2 ^ q) < 9223372036854775808 := rnd_lt _
  have hw : wide b < 18446744073709551616 := by
    rw [e1]
    clear hq2 hq3 v1 v2 e1
    generalize rnd (m * 2 ^ q) = r at *
    unfold word; cases sg32 b <;> simp <;> omega
  have hrg : rg (wide b) = rnd (m * 2 ^ q) := by rw [e1, rg_word _ _ hl]
  have hfin : fin (wide b) = true := by unfold fin; rw [hrg]; exact decide_eq_true v2
  obtain ⟨m', j', e', v'⟩ := read_fin (wide b) hw hfin
  have hsg : sg (wide b) = sg32 b := by rw [e1, sg_word _ _ hl]
  refine ⟨?_, hfin, hw, _, _, _, e'⟩
  rw [e']
  show single.nearest _ _ _ = _
  rw [hrg, v1] at v'
  rw [back32 _ m j q m' j' hq2 v', hsg]
  exact write_read32 b h hf m j hv
end Go.Proofs.Ytelalledjbeenaa.Fl

namespace Go.Proofs.Ytelalledjbeenaa.Fl
open Ieee

/-- the value of a rounded number of units -/
theorem val_round (N : Nat) : val 52 (rungOf 52 N 0) = rhe N (2 ^ (N.log2 - 52)) * 2 ^ (N.log2 - 52) := by
  by_cases h0 : N = 0
  · subst h0; rw [rungOf_zero, val_zero, rhe_zero, Nat.zero_mul]
  have l1 := Nat.log2_self_le h0
  have l2 : N < 2 ^ (N.log2 + 1) := Nat.lt_log2_self
  unfold rungOf
  rw [Nat.sub_zero, Nat.zero_add]
  generalize hd : N.log2 - 52 = d at *
  rcases Nat.eq_zero_or_pos d with hz | hz
  · subst hz
    rw [Nat.pow_zero, rhe_one, Nat.zero_mul, Nat.zero_add, Nat.mul_one]
    refine val_small _ _ ?_
    have : 2 ^ (N.log2 + 1) ≤ 2 ^ 53 := Nat.pow_le_pow_right (by decide) (by omega)
    rw [show (2 : Nat) * 2 ^ 52 = 2 ^ 53 by decide]; omega
  · have e1 : N.log2 = d + 52 := by omega
    rw [e1, Nat.pow_add] at l1
    rw [e1, show d + 52 + 1 = d + 53 by omega, Nat.pow_add] at l2
    have q1 : 4503599627370496 ≤ rhe N (2 ^ d) := rhe_ge_of _ _ _ (Nat.two_pow_pos _) (by rw [show (4503599627370496 : Nat) = 2 ^ 52 by decide]; exact l1)
    have q2 : rhe N (2 ^ d) ≤ 9007199254740992 := rhe_le_of _ _ _ (Nat.two_pow_pos _) (by rw [show (9007199254740992 : Nat) = 2 ^ 53 by decide]; omega)
    generalize rhe N (2 ^ d) = q at *
    unfold val
    rw [show (2 : Nat) ^ 52 = 4503599627370496 by decide, if_neg (by omega)]
    by_cases hq : q = 9007199254740992
    · subst hq
      have a1 : (d * 4503599627370496 + 9007199254740992) / 4503599627370496 = d + 2 := by omega
      have a2 : (d * 4503599627370496 + 9007199254740992) % 4503599627370496 = 0 := by omega
      rw [a1, a2, show d + 2 - 1 = d + 1 by omega, Nat.pow_succ]
      generalize 2 ^ d = g
      omega
    · have a1 : (d * 4503599627370496 + q) / 4503599627370496 = d + 1 := by omega
      have a2 : (d * 4503599627370496 + q) % 4503599627370496 = q - 4503599627370496 := by omega
      rw [a1, a2, show d + 1 - 1 = d by omega, show 4503599627370496 + (q - 4503599627370496) = q by omega]
/-- above a bound all numbers are many times a power of two -/
theorem val_dvd (r d : Nat) (h : 4503599627370496 * 2 ^ d ≤ val 52 r) : ∃ k, val 52 r = k * 2 ^ d := by
  have hp := Nat.two_pow_pos d
  by_cases hr : r < 4503599627370496
  · rw [val_small 52 r (by rw [show (2 : Nat) ^ 52 = 4503599627370496 by decide]; omega)] at h
    have : 4503599627370496 * 1 ≤ 4503599627370496 * 2 ^ d := Nat.mul_le_mul_left _ hp
    omega
  · have hb := val_bounds 52 r (by rw [show (2 : Nat) ^ 52 = 4503599627370496 by decide]; omega)
    rw [show (2 : Nat) ^ 52 = 4503599627370496 by decide] at hb
    have h1 : 4503599627370496 * 2 ^ d < 4503599627370496 * 2 ^ (r / 4503599627370496) := by omega
    have h2 := Nat.lt_of_mul_lt_mul_left h1
    have h3 : d < r / 4503599627370496 := (Nat.pow_lt_pow_iff_right (by decide)).1 h2
    unfold val
    rw [show (2 : Nat) ^ 52 = 4503599627370496 by decide, if_neg hr]
    generalize r / 4503599627370496 = e at *
    refine ⟨(4503599627370496 + r % 4503599627370496) * 2 ^ (e - 1 - d), ?_⟩
    rw [Nat.mul_assoc, ← Nat.pow_add]
    congr 2; omega
theorem near_mul (N g k : Nat) (hg : 0 < g) : ((rhe N g * g : Nat) - (N : Int)).natAbs ≤ ((k * g : Nat) - (N : Int)).natAbs := by
  have hb := rhe_bounds N g hg
  rw [Nat.mul_comm g] at hb
  generalize rhe N g = q at *
  rcases Nat.lt_trichotomy k q with h | h | h
  · have h1 : (k + 1) * g ≤ q * g := Nat.mul_le_mul_right _ h
    rw [Nat.add_mul, Nat.one_mul] at h1
    omega
  · subst h; exact Nat.le_refl _
  · have h1 : (q + 1) * g ≤ k * g := Nat.mul_le_mul_right _ h
    rw [Nat.add_mul, Nat.one_mul] at h1
    omega
/-- no number is nearer -/
theorem nearest_le (N r : Nat) : ((val 52 (rungOf 52 N 0) : Nat) - (N : Int)).natAbs ≤ ((val 52 r : Nat) - (N : Int)).natAbs := by
  rw [val_round]
  by_cases h0 : N = 0
  · subst h0; rw [rhe_zero, Nat.zero_mul]; omega
  have l1 := Nat.log2_self_le h0
  generalize hd : N.log2 - 52 = d at *
  have hp := Nat.two_pow_pos d
  rcases Nat.eq_zero_or_pos d with hz | hz
  · subst hz; rw [Nat.pow_zero, rhe_one, Nat.mul_one]; omega
  · have e1 : N.log2 = 52 + d := by omega
    rw [e1, Nat.pow_add, show (2 : Nat) ^ 52 = 4503599627370496 by decide] at l1
    by_cases hv : 4503599627370496 * 2 ^ d ≤ val 52 r
    · obtain ⟨k, hk⟩ := val_dvd r d hv
      rw [hk]
      exact near_mul N (2 ^ d) k hp
    · have := near_mul N (2 ^ d) 4503599627370496 hp
      omega
theorem pow_split (j k : Nat) (h : j ≤ k) : ∃ c, 2 ^ k = c * 2 ^ j := ⟨2 ^ (k - j), by rw [← Nat.pow_add]; congr 1; omega⟩
/-- of many times a power of two nothing is lost, or what is left is -/
theorem round_mult (m j : Nat) : val 52 (rungOf 52 (m * 2 ^ j) 0) = m * 2 ^ j ∨ (j < (m * 2 ^ j).log2 - 52 ∧ ∃ k, val 52 (rungOf 52 (m * 2 ^ j) 0) = k * 2 ^ j) := by
  rw [val_round]
  generalize hd : (m * 2 ^ j).log2 - 52 = d
  rcases Nat.lt_or_ge j d with h | h
  · right
    obtain ⟨c, hc⟩ := pow_split j d (by omega)
    exact ⟨h, rhe (m * 2 ^ j) (2 ^ d) * c, by rw [hc, Nat.mul_assoc]⟩
  · left
    obtain ⟨c, hc⟩ := pow_split d j h
    rw [hc, ← Nat.mul_assoc, rhe_exact _ _ (Nat.two_pow_pos _)]
/-- such a number of units comes back whole -/
theorem rep_mult (m j r : Nat) (hm : m ≤ 9007199254740992) (hr : r < INF) (h : m * 2 ^ j ≤ val 52 r) : val 52 (rnd (m * 2 ^ j)) = m * 2 ^ j ∧ rnd (m * 2 ^ j) < INF := by
  have h1 := rnd_mono h
  rw [rnd_val r (by omega)] at h1
  have h2 : rnd (m * 2 ^ j) < INF := by omega
  have h3 : rnd (m * 2 ^ j) = rungOf 52 (m * 2 ^ j) 0 := by unfold rnd at h2 ⊢; omega
  exact ⟨by rw [h3]; exact val_rungOf_small 52 m j (by rw [show (2 : Nat) * 2 ^ 52 = 9007199254740992 by decide]; exact hm), h2⟩
end Go.Proofs.Ytelalledjbeenaa.Fl
