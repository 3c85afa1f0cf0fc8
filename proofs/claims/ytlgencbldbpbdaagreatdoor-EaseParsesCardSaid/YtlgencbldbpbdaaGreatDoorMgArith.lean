/- +, -, *, / on binary64 in a walk: one law, whatever the operands; a NaN's bits are drawn. Plain laws, third part: products by powers of two; whole numbers as words. Plain laws, fourth part: binary32 in binary64 and back. Plain laws: what rounding loses is a number. No program in sight. What + and - do, told by units: plain laws. What * and / do, told by units: plain laws of exact products and quotients. -/
import Derived.Test.YtlgencbldbpbdaaGreatDoorMgBase
import Derived.Laws.NewFold
import Derived.Test.YtlgencbldbpbdaaGreatDoorMgFl
namespace Go.Proofs.YtlgencbldbpbdaaGreatDoor
open Go.RowKit Fl
def fop (op : BinOp) (x y : Nat) (w : World) : Nat :=
 match floatBits op .f64 x y with
 | some r => r
 | none => (Question.nanBits .f64 x y).cut (w.tape w.drawn (Question.nanBits .f64 x y))
def fopN (op : BinOp) (x y : Nat) : Nat := if (floatBits op .f64 x y).isSome then 0 else 1
def four (op : BinOp) : Bool := match op with | .add | .sub | .mul | .quo => true | _ => false
theorem run_fop {P : Program} (op : BinOp) (ho : four op = true) (t : TypeId) (x y : Nat) (w : World) :
  (binOp op t (.float .f64 x) (.float .f64 y)).run P w = .ok (.float .f64 (fop op x y w)) (w.drewN (fopN op x y)) := by
 unfold fop fopN
 cases h : floatBits op .f64 x y with
 | some r => exact run_float_arith w op t .f64 x y r h
 | none =>
   cases op <;> first | (cases ho; done) | skip
   all_goals
    unfold floatBits at h
    simp only at h
    simp [binOp, Op.floatArith, h, Question.forced]
    rfl
theorem nanBits_cut (x y t : Nat) : U ((Question.nanBits .f64 x y).cut t) ∧ isN ((Question.nanBits .f64 x y).cut t) = true := by
 have e : (Question.nanBits .f64 x y).cut t = (t % 2) * 2 ^ 63 + 0x7ff0000000000000 + 1 + (t / 2) % (2 ^ 52 - 1) := rfl
 rw [e]
 have h1 : (t / 2) % (2 ^ 52 - 1) < 4503599627370495 := Nat.mod_lt _ (by decide)
 generalize (t / 2) % (2 ^ 52 - 1) = a at *
 have h2 : t % 2 < 2 := Nat.mod_lt _ (by decide)
 generalize t % 2 = b at *
 refine ⟨by unfold U; omega, ?_⟩
 unfold isN rg INF
 exact decide_eq_true (by omega)
theorem U_fop (op : BinOp) (x y : Nat) (w : World) : U (fop op x y w) := by
 unfold fop
 cases h : floatBits op .f64 x y with
 | some r =>
   have := floatBits_wf h
   unfold U; simpa [Lit.wf] using this
 | none => exact (nanBits_cut _ _ _).1
def opP (op : BinOp) (p q : Int) : Int :=
 match floatBits op .f64 (atW p) (atW q) with
 | some r => pl r
 | none => 9223372036854775807
theorem atW_pl (x : Nat) (hx : U x) (hn : isN x = false) : atW (pl x) = x := by
 have h := word_self x hx.lt
 have hl := rg_lt x
 cases hs : sg x
 ·rw [hs] at h
  rw [pl_pos hn hs]; unfold atW
  rw [if_neg (by omega), Int.toNat_natCast]; exact h
 ·rw [hs] at h
  rw [pl_neg hn hs]; unfold atW
  rw [if_pos (by omega), show (-(-(rg x : Int) - 1 + 1)).toNat = rg x by omega]; exact h
theorem isN_atW : isN (atW 9223372036854775807) = true := by decide
theorem U_atN : U (atW 9223372036854775807) := by unfold U; decide
theorem nan_op (op : BinOp) (x y : Nat) (hx : U x) (hy : U y) (h : isN x = true ∨ isN y = true) : floatBits op .f64 x y = none := by
 have e : ∀ d : Ieee.Datum, d.isNaN = true → ∃ s t, d = .nan s t := fun d hd => by cases d <;> simp [Ieee.Datum.isNaN] at hd ⊢
 unfold floatBits
 split
 all_goals first | rfl | skip
 all_goals
  first
   | (show Ieee.double.add x y = none; unfold Ieee.Format.add)
   | (show Ieee.double.sub x y = none; unfold Ieee.Format.sub)
   | (show Ieee.double.mul x y = none; unfold Ieee.Format.mul)
   | (show Ieee.double.div x y = none; unfold Ieee.Format.div)
  rcases h with h | h
  ·rw [read_nan x hx h]; rfl
  ·rw [read_nan y hy h]
   cases Ieee.double.read x <;> rfl
theorem pl_fop (op : BinOp) (x y : Nat) (w : World) (hx : U x) (hy : U y) : pl (fop op x y w) = opP op (pl x) (pl y) := by
 by_cases h : isN x = true ∨ isN y = true
 ·have h1 := nan_op op x y hx hy h
  have h2 : floatBits op .f64 (atW (pl x)) (atW (pl y)) = none := by
   by_cases c : isN x = true
   ·rw [pl_nan c]
    refine nan_op op _ _ U_atN ?_ (.inl isN_atW)
    have := pl_range y
    exact U_atW _ (by omega) (by omega)
   ·rw [pl_nan (h.resolve_left c)]
    refine nan_op op _ _ ?_ U_atN (.inr isN_atW)
    have := pl_range x
    exact U_atW _ (by omega) (by omega)
  unfold fop opP
  rw [h1, h2]
  exact pl_nan (nanBits_cut _ _ _).2
 ·have hx' : isN x = false := by cases c : isN x <;> simp_all
  have hy' : isN y = false := by cases c : isN y <;> simp_all
  unfold fop opP
  rw [atW_pl x hx hx', atW_pl y hy hy']
  cases h3 : floatBits op .f64 x y with
  | some r => rfl
  | none => exact pl_nan (nanBits_cut _ _ _).2
end Go.Proofs.YtlgencbldbpbdaaGreatDoor
namespace Go.Proofs.YtlgencbldbpbdaaGreatDoor.Fl
open Ieee
theorem B52 : (2 : Nat) ^ 52 = 4503599627370496 := by decide
theorem read_normal (E F : Nat) (h1 : 1 ≤ E) (h2 : E ≤ 2046) (hF : F < 4503599627370496) :
  double.read (E * 4503599627370496 + F) = .number false (4503599627370496 + F) ((E : Int) - 1075) := by
 have hl : E * 4503599627370496 + F < 9223372036854775808 := by omega
 have hr : rg (E * 4503599627370496 + F) = E * 4503599627370496 + F := Nat.mod_eq_of_lt hl
 have hs : sg (E * 4503599627370496 + F) = false := by unfold sg; exact decide_eq_false (by omega)
 have hi : INF = 9218868437227405312 := rfl
 rw [read_eq _ (by omega), hr, hs, if_neg (by omega), if_pos (by omega)]
 have e1 : (E * 4503599627370496 + F) % 4503599627370496 = F := by omega
 have e2 : (E * 4503599627370496 + F) / 4503599627370496 - 1 = E - 1 := by omega
 rw [e1, e2]
 congr 1; omega
theorem read_1 : double.read 4607182418800017408 = .number false 4503599627370496 (-52) := by decide
theorem read_2p53 : double.read 4368491638549381120 = .number false 4503599627370496 (-105) := by decide
theorem mul_by (c : Nat) (q : Int) (hc : double.read c = .number false 4503599627370496 q) (E F : Nat) (h1 : 1 ≤ E) (h2 : E ≤ 2046) (hF : F < 4503599627370496) :
  double.mul c (E * 4503599627370496 + F) = some (double.nearest false (4503599627370496 + F) ((E : Int) - 1075 + q + 52)) := by
 unfold Format.mul
 rw [hc, read_normal E F h1 h2 hF]
 simp only [Datum.product, Option.map_some, Bool.xor_false]
 refine congrArg some ?_
 show double.nearest false _ _ = _
 have := d_nearest_scale false (4503599627370496 + F) 52 (q + ((E : Int) - 1075))
 rw [B52] at this
 rw [Nat.mul_comm, this]
 congr 1; omega
theorem log2_53 (F : Nat) (hF : F < 4503599627370496) : (4503599627370496 + F).log2 = 52 := log2_eq _ 52 (by rw [B52]; omega) (by rw [Nat.pow_succ, B52]; omega)
theorem nearest_int (n : Nat) : ∀ neg, double.nearest neg n 0 = word neg (rnd (n * ONE)) := by
 intro neg
 rw [d_nearest _ _ _ (by decide), show ((0 : Int) + 1074).toNat = K from by decide, ← one_pow]
end Go.Proofs.YtlgencbldbpbdaaGreatDoor.Fl
namespace Go.Proofs.YtlgencbldbpbdaaGreatDoor.Fl
open Ieee
theorem val_1276 : val 52 (1276 * 4503599627370496) = 9007199254740992 * (ONE * 2 ^ 200) := by
 have hd : (1276 * 4503599627370496) / 2 ^ 52 - 1 = K + 201 := by decide
 have hm : 2 ^ 52 + (1276 * 4503599627370496) % 2 ^ 52 = 4503599627370496 := by decide
 unfold val
 rw [if_neg (by decide), hd, hm, Nat.pow_add, ← one_pow, show (2 : Nat) ^ 201 = 2 * 2 ^ 200 from by rw [Nat.pow_succ, Nat.mul_comm]]
 generalize ONE = o
 generalize (2 : Nat) ^ 200 = t
 rw [show (9007199254740992 : Nat) = 4503599627370496 * 2 from by decide]
 simp only [Nat.mul_assoc, Nat.mul_left_comm]
theorem small_word (m q : Nat) (hm : m ≤ 9007199254740992) (hq : q ≤ K + 200) : val 52 (rnd (m * 2 ^ q)) = m * 2 ^ q ∧ rnd (m * 2 ^ q) < INF := by
 have hv : val 52 (rungOf 52 (m * 2 ^ q) 0) = m * 2 ^ q := val_rungOf_small _ _ _ (by rw [B52]; omega)
 have h2 : 2 ^ q ≤ 2 ^ (K + 200) := Nat.pow_le_pow_right (by omega) hq
 have h3 : m * 2 ^ q ≤ 9007199254740992 * 2 ^ (K + 200) := Nat.mul_le_mul hm h2
 rw [Nat.pow_add, ← one_pow, ← val_1276] at h3
 have h5 := rungOf_mono 52 _ _ 0 h3
 rw [rungOf_val] at h5
 generalize m * 2 ^ q = N at *
 have er : rnd N = rungOf 52 N 0 := by unfold rnd INF; omega
 rw [er]
 exact ⟨hv, by unfold INF; omega⟩
end Go.Proofs.YtlgencbldbpbdaaGreatDoor.Fl
namespace Go.Proofs.YtlgencbldbpbdaaGreatDoor.Fl
open Ieee
end Go.Proofs.YtlgencbldbpbdaaGreatDoor.Fl
namespace Go.Proofs.YtlgencbldbpbdaaGreatDoor
open Go.RowKit Fl
def wz (z : Int) (cold : Bool) : Nat := word (decide (z < 0) || (decide (z = 0) && cold)) (rnd z.natAbs)
theorem U_wz (z : Int) (c : Bool) : U (wz z c) := U_word _ _ (rnd_lt _)
theorem add_fin (a b : Nat) (ha : U a) (hb : U b) (fa : fin a = true) (fb : fin b = true) : floatBits .add .f64 a b = some (wz (un a + un b) (sg a && sg b)) := by
 show Ieee.double.add a b = some _
 obtain ⟨m, i, ea, va⟩ := read_fin a ha fa
 obtain ⟨n, j, eb, vb⟩ := read_fin b hb fb
 unfold Ieee.Format.add
 rw [ea, eb]
 simp only [Ieee.Datum.sum, Option.map_some]
 have e1 : (-1074 + (i : Int) - min (-1074 + (i : Int)) (-1074 + (j : Int))).toNat = i - min i j := by omega
 have e2 : (-1074 + (j : Int) - min (-1074 + (i : Int)) (-1074 + (j : Int))).toNat = j - min i j := by omega
 have e3 : min (-1074 + (i : Int)) (-1074 + (j : Int)) = -1074 + ((min i j : Nat) : Int) := by omega
 rw [e1, e2, e3]
 have u1 := un_of (sg a) a m i rfl va (min i j) (Nat.min_le_left _ _)
 have u2 := un_of (sg b) b n j rfl vb (min i j) (Nat.min_le_right _ _)
 generalize Ieee.signed (sg a) m (i - min i j) = p at *
 generalize Ieee.signed (sg b) n (j - min i j) = q at *
 generalize min i j = k at *
 have hz : un a + un b = (p + q) * 2 ^ k := by rw [← u1, ← u2, Int.add_mul]
 rw [hz]
 have hk : (0 : Int) < 2 ^ k := Int.pow_pos (by decide)
 refine congrArg some ?_
 show Ieee.double.nearest _ _ _ = _
 rw [d_nearest _ _ _ (by omega), show (-1074 + (k : Int) + 1074).toNat = k by omega]
 unfold wz
 rw [Int.natAbs_mul, Int.natAbs_pow, show (2 : Int).natAbs = 2 from rfl]
 congr 1
 generalize p + q = t
 by_cases h0 : t = 0
 ·subst h0; simp
 ·have h1 : ¬ t * 2 ^ k = 0 := fun h => by
   rcases Int.mul_eq_zero.1 h with h | h
   ·exact h0 h
   ·omega
  rw [if_neg h0, decide_eq_false h1, Bool.false_and, Bool.or_false]
  congr 1
  refine propext ⟨fun h => ?_, fun h => ?_⟩
  ·have := Int.mul_lt_mul_of_pos_right h hk
   rwa [Int.zero_mul] at this
  ·have : t * 2 ^ k < 0 * 2 ^ k := by rwa [Int.zero_mul]
   exact Int.lt_of_mul_lt_mul_right this (Int.le_of_lt hk)
theorem opP_add (a b : Nat) (ha : U a) (hb : U b) (fa : fin a = true) (fb : fin b = true) : opP .add (pl a) (pl b) = pl (wz (un a + un b) (sg a && sg b)) := by
 unfold opP
 rw [atW_pl a ha (fin_not_nan fa), atW_pl b hb (fin_not_nan fb), add_fin a b ha hb fa fb]
theorem fin_ng {x : Nat} (h : U x) : fin (ng x) = fin x := by unfold fin; rw [rg_ng h]
theorem un_ng {x : Nat} (h : U x) : un (ng x) = -un x := by
 unfold un; rw [sg_ng h, rg_ng h]
 cases sg x <;> simp
theorem sub_ng (a b : Nat) (hb : U b) : Ieee.double.sub a b = Ieee.double.add a (ng b) ∨ isN b = true := by
 by_cases hn : isN b = true
 ·exact .inr hn
 ·left
  have hn := Bool.eq_false_iff.2 hn
  unfold Ieee.Format.sub Ieee.Format.add
  have e : (Ieee.double.read b).opposite = Ieee.double.read (ng b) := by
   have h1 := U_ng hb
   rw [read_eq b hb, read_eq (ng b) h1, sg_ng hb, rg_ng hb]
   split
   ·rfl
   ·split
    ·rfl
    ·split
     ·rfl
     ·exact absurd (isN_false hn) (by omega)
  rw [e]
theorem opP_sub (a b : Nat) (ha : U a) (hb : U b) (fa : fin a = true) (fb : fin b = true) : opP .sub (pl a) (pl b) = pl (wz (un a - un b) (sg a && !sg b)) := by
 unfold opP
 rw [atW_pl a ha (fin_not_nan fa), atW_pl b hb (fin_not_nan fb)]
 have h1 : floatBits .sub .f64 a b = floatBits .add .f64 a (ng b) := (sub_ng a b hb).resolve_right (by rw [fin_not_nan fb]; exact Bool.false_ne_true)
 rw [h1, add_fin a (ng b) ha (U_ng hb) fa (by rw [fin_ng hb]; exact fb), un_ng hb, sg_ng hb]
 rfl
def Rep (z : Int) : Prop := Fl.val 52 (rnd z.natAbs) = z.natAbs ∧ rnd z.natAbs < INF
theorem sg_wz (z : Int) (c : Bool) : sg (wz z c) = (decide (z < 0) || (decide (z = 0) && c)) := sg_word _ _ (rnd_lt _)
theorem rg_wz (z : Int) (c : Bool) : rg (wz z c) = rnd z.natAbs := rg_word _ _ (rnd_lt _)
theorem fin_wz {z : Int} (c : Bool) (h : Rep z) : fin (wz z c) = true := by unfold fin; rw [rg_wz]; exact decide_eq_true h.2
theorem un_wz {z : Int} (c : Bool) (h : Rep z) : un (wz z c) = z := by
 unfold un
 rw [sg_wz, rg_wz, h.1]
 by_cases h1 : z < 0
 ·rw [decide_eq_true h1, Bool.true_or, if_pos rfl]; omega
 ·rw [decide_eq_false h1, Bool.false_or]
  by_cases h2 : z = 0
  ·subst h2; cases c <;> rfl
  ·rw [decide_eq_false h2, Bool.false_and, if_neg Bool.false_ne_true]; omega
theorem rep_neg {z : Int} (h : Rep z) : Rep (-z) := by unfold Rep at *; rwa [Int.natAbs_neg]
def ONEi : Int := (ONE : Int)
theorem rep_whole (k : Int) (h : k.natAbs ≤ 9007199254740992) : Rep (k * ONEi) := by
 unfold Rep ONEi
 rw [Int.natAbs_mul, Int.natAbs_natCast, one_pow]
 exact small_word k.natAbs K h (by omega)
def ru (z : Int) : Int := if z < 0 then -(Fl.val 52 (rnd z.natAbs) : Int) else (Fl.val 52 (rnd z.natAbs) : Int)
theorem un_wzr (z : Int) (c : Bool) : un (wz z c) = ru z := by
 unfold un ru
 rw [sg_wz, rg_wz]
 by_cases h1 : z < 0
 ·rw [decide_eq_true h1, Bool.true_or, if_pos rfl, if_pos h1]
 ·rw [decide_eq_false h1, Bool.false_or, if_neg h1]
  by_cases h2 : z = 0
  ·subst h2
   rw [show (0 : Int).natAbs = 0 from rfl, rnd_zero, Fl.val_zero]
   cases c <;> rfl
  ·rw [decide_eq_false h2, Bool.false_and, if_neg Bool.false_ne_true]
theorem fin_wzr {z : Int} (c : Bool) (h : rnd z.natAbs < INF) : fin (wz z c) = true := by unfold fin; rw [rg_wz]; exact decide_eq_true h
theorem rung_of_rnd {N : Nat} (h : rnd N < INF) : rungOf 52 N 0 = rnd N := by unfold rnd at *; omega
theorem un_abs (x : Nat) : (un x).natAbs = Fl.val 52 (rg x) := by unfold un; split <;> omega
end Go.Proofs.YtlgencbldbpbdaaGreatDoor
namespace Go.Proofs.YtlgencbldbpbdaaGreatDoor
open Go.RowKit Fl
theorem mul_fin (a b : Nat) (ha : U a) (hb : U b) (fa : fin a = true) (fb : fin b = true) (W : Nat) (h : Fl.val 52 (rg a) * Fl.val 52 (rg b) = W * ONE) :
  floatBits .mul .f64 a b = some (word (sg a ^^ sg b) (rnd W)) := by
 show Ieee.double.mul a b = some _
 obtain ⟨m, i, ea, va⟩ := read_fin a ha fa
 obtain ⟨n, j, eb, vb⟩ := read_fin b hb fb
 unfold Ieee.Format.mul
 rw [ea, eb]
 simp only [Ieee.Datum.product, Option.map_some]
 refine congrArg some ?_
 show Ieee.double.nearest _ _ _ = _
 rw [← va, ← vb] at h
 have e1 : m * n * 2 ^ (i + j) = W * 2 ^ K := by
  rw [← one_pow, ← h, Nat.pow_add]
  simp only [Nat.mul_assoc, Nat.mul_comm, Nat.mul_left_comm]
 have e2 : (-1074 + (i : Int) + (-1074 + (j : Int))) = -2148 + ((i + j : Nat) : Int) := by omega
 rw [e2, ← d_nearest_scale, e1, d_nearest_scale, d_nearest _ _ _ (by rw [K_eq]; omega)]
 rw [show (-2148 + ((K : Nat) : Int) + 1074).toNat = 0 by rw [K_eq]; rfl, Nat.pow_zero, Nat.mul_one]
theorem read_fin53 (b : Nat) (h : b < 18446744073709551616) (hf : fin b = true) :
  ∃ m j : Nat, Ieee.double.read b = .number (sg b) m (-1074 + (j : Int)) ∧ m * 2 ^ j = Fl.val 52 (rg b) ∧ m < 9007199254740992 := by
 have hf := fin_true hf
 rw [read_eq b h]
 by_cases c : rg b < 4503599627370496
 ·refine ⟨rg b, 0, by rw [if_pos c]; rfl, ?_, by omega⟩
  rw [val_small 52 _ (by omega)]; simp
 ·refine ⟨_, _, by rw [if_neg c, if_pos hf], ?_, by omega⟩
  unfold Fl.val
  rw [if_neg (by omega)]
theorem div_fin (a b : Nat) (ha : U a) (hb : U b) (fa : fin a = true) (fb : fin b = true) (W p : Nat) (hp : Fl.val 52 (rg b) = 2 ^ p) (h : Fl.val 52 (rg a) * ONE = W * 2 ^ p) :
  floatBits .quo .f64 a b = some (word (sg a ^^ sg b) (rnd W)) := by
 show Ieee.double.div a b = some _
 obtain ⟨m, i, ea, va, hm⟩ := read_fin53 a ha fa
 obtain ⟨n, j, eb, vb⟩ := read_fin b hb fb
 rw [hp] at vb
 have hn : n ≠ 0 := by
  rintro rfl
  rw [Nat.zero_mul] at vb
  have := Nat.two_pow_pos p
  omega
 obtain ⟨t, ht, hl, hpt⟩ : ∃ t, n = 2 ^ t ∧ n.log2 = t ∧ p = t + j := by
  have hl := log2_mul_pow n j hn
  rw [vb, Nat.log2_two_pow] at hl
  refine ⟨n.log2, ?_, rfl, hl⟩
  rw [hl, Nat.pow_add] at vb
  exact Nat.eq_of_mul_eq_mul_right (Nat.two_pow_pos j) vb
 have hml : m.log2 ≤ 53 := by
  rcases Nat.eq_zero_or_pos m with e | e
  ·rw [e]; decide
  ·have := (Nat.log2_lt (n := m) (k := 53) (by omega)).2 (by omega)
   omega
 unfold Ieee.Format.div
 rw [ea, eb, d_fb]
 simp only [Ieee.Datum.quotient, if_neg hn, Option.map_some]
 refine congrArg some ?_
 show Ieee.double.nearest _ _ _ = _
 rw [hl, Nat.shiftLeft_eq]
 obtain ⟨d, hd⟩ : ∃ d, 52 + 2 + t - m.log2 = d + t := ⟨52 + 2 - m.log2, by omega⟩
 rw [hd, ht, show m * 2 ^ (d + t) = m * 2 ^ d * 2 ^ t by rw [Nat.pow_add, Nat.mul_assoc], Nat.mul_div_cancel _ (Nat.two_pow_pos t), Nat.mul_mod_left]
 rw [show (2 * (m * 2 ^ d) + (0 != 0).toNat) = m * 2 ^ (d + 1) by rw [Nat.pow_succ]; show 2 * (m * 2 ^ d) + 0 = _; rw [Nat.add_zero, Nat.mul_comm 2, Nat.mul_assoc]]
 rw [d_nearest_scale]
 rw [← va] at h
 have e1 : m * 2 ^ (i + K) = W * 2 ^ p := by rw [← h, one_pow, Nat.pow_add, Nat.mul_assoc]
 rw [show (-1074 + (i : Int) - (-1074 + (j : Int)) - ((d + t : Nat) : Int) - 1 + ((d + 1 : Nat) : Int)) = (-(K : Int) - (p : Int)) + ((i + K : Nat) : Int) by rw [hpt]; omega]
 rw [← d_nearest_scale, e1, d_nearest_scale, show (-(K : Int) - (p : Int) + (p : Int)) = -1074 by rw [K_eq]; omega, d_nearest _ _ _ (by omega)]
 rw [show (-1074 + 1074 : Int).toNat = 0 by rfl, Nat.pow_zero, Nat.mul_one]
def PU (p z : Int) : Prop := ∃ r, U r ∧ fin r = true ∧ pl r = p ∧ un r = z
theorem PU.unique {p y z : Int} (h : PU p y) (k : PU p z) : y = z := by
 obtain ⟨r, hu, hf, hp, hz⟩ := h
 obtain ⟨s, hu2, hf2, hp2, hz2⟩ := k
 have e1 := atW_pl r hu (fin_not_nan hf)
 have e2 := atW_pl s hu2 (fin_not_nan hf2)
 rw [hp] at e1
 rw [hp2, e1] at e2
 rw [← hz, ← hz2, e2]
theorem PU.add {p q y z : Int} (h : PU p y) (k : PU q z) (hr : Rep (y + z)) : PU (opP .add p q) (y + z) := by
 obtain ⟨a, ua, fa, rfl, rfl⟩ := h
 obtain ⟨b, ub, fb, rfl, rfl⟩ := k
 exact ⟨_, U_wz _ _, fin_wz _ hr, (opP_add a b ua ub fa fb).symm, un_wz _ hr⟩
theorem PU.sub {p q y z : Int} (h : PU p y) (k : PU q z) (hr : Rep (y - z)) : PU (opP .sub p q) (y - z) := by
 obtain ⟨a, ua, fa, rfl, rfl⟩ := h
 obtain ⟨b, ub, fb, rfl, rfl⟩ := k
 exact ⟨_, U_wz _ _, fin_wz _ hr, (opP_sub a b ua ub fa fb).symm, un_wz _ hr⟩
theorem sgn_un (a : Nat) : un a = if sg a = true then -(Fl.val 52 (rg a) : Int) else (Fl.val 52 (rg a) : Int) := rfl
theorem un_word (s : Bool) (W : Nat) (h : Fl.val 52 (rnd W) = W) : un (word s (rnd W)) = if s = true then -(W : Int) else (W : Int) := by
 rw [sgn_un, sg_word _ _ (rnd_lt _), rg_word _ _ (rnd_lt _), h]
theorem fin_word (s : Bool) (W : Nat) (h : rnd W < INF) : fin (word s (rnd W)) = true := by unfold fin; rw [rg_word _ _ (rnd_lt _)]; exact decide_eq_true h
theorem PU.mul {p q y z w : Int} (h : PU p y) (k : PU q z) (e : y * z = w * ONEi) (hr : Rep w) : PU (opP .mul p q) w := by
 obtain ⟨a, ua, fa, rfl, rfl⟩ := h
 obtain ⟨b, ub, fb, rfl, rfl⟩ := k
 have hO : (0 : Int) < ONEi := by have := one_pos; unfold ONEi; omega
 have hW : Fl.val 52 (rg a) * Fl.val 52 (rg b) = w.natAbs * ONE := by
  have := congrArg Int.natAbs e
  rw [Int.natAbs_mul, Int.natAbs_mul, un_abs, un_abs] at this
  exact this
 have ef := mul_fin a b ua ub fa fb w.natAbs hW
 refine ⟨_, U_word (sg a ^^ sg b) _ (rnd_lt w.natAbs), fin_word _ _ hr.2, ?_, ?_⟩
 ·unfold opP
  rw [atW_pl a ua (fin_not_nan fa), atW_pl b ub (fin_not_nan fb), ef]
 ·rw [un_word _ _ hr.1]
  rw [sgn_un, sgn_un] at e
  have hA : (0 : Int) ≤ (Fl.val 52 (rg a) : Int) := Int.natCast_nonneg _
  have hB : (0 : Int) ≤ (Fl.val 52 (rg b) : Int) := Int.natCast_nonneg _
  have hAB := Int.mul_nonneg hA hB
  generalize (Fl.val 52 (rg a) : Int) = A at *
  generalize (Fl.val 52 (rg b) : Int) = B at *
  have s1 : 0 < w → 0 < w * ONEi := fun h => Int.mul_pos h hO
  have s2 : w < 0 → w * ONEi < 0 := fun h => Int.mul_neg_of_neg_of_pos h hO
  clear ef hW
  generalize sg a = sa at *
  generalize sg b = sb at *
  cases sa <;> cases sb <;> simp only [Bool.false_eq_true, if_false, if_true, Int.neg_mul, Int.mul_neg, Int.neg_neg, Bool.false_xor, Bool.xor_false, Bool.true_xor, Bool.not_true, Bool.not_false] at e ⊢ <;> omega
theorem PU.div {p q y z w : Int} {t : Nat} (h : PU p y) (k : PU q z) (hz : z.natAbs = 2 ^ t) (e : y * ONEi = w * z) (hr : Rep w) : PU (opP .quo p q) w := by
 obtain ⟨a, ua, fa, rfl, rfl⟩ := h
 obtain ⟨b, ub, fb, rfl, rfl⟩ := k
 have hO : (0 : Int) < ONEi := by have := one_pos; unfold ONEi; omega
 have hb : Fl.val 52 (rg b) = 2 ^ t := by rw [← un_abs, hz]
 have hb0 : 0 < Fl.val 52 (rg b) := by rw [hb]; exact Nat.two_pow_pos _
 have hW : Fl.val 52 (rg a) * ONE = w.natAbs * 2 ^ t := by
  have := congrArg Int.natAbs e
  rw [Int.natAbs_mul, Int.natAbs_mul, un_abs, hz] at this
  exact this
 have ef := div_fin a b ua ub fa fb w.natAbs t hb hW
 refine ⟨_, U_word (sg a ^^ sg b) _ (rnd_lt w.natAbs), fin_word _ _ hr.2, ?_, ?_⟩
 ·unfold opP
  rw [atW_pl a ua (fin_not_nan fa), atW_pl b ub (fin_not_nan fb), ef]
 ·rw [un_word _ _ hr.1]
  rw [sgn_un, sgn_un] at e
  have hA : (0 : Int) ≤ (Fl.val 52 (rg a) : Int) := Int.natCast_nonneg _
  have hAO := Int.mul_nonneg hA (Int.le_of_lt hO)
  have hB : (0 : Int) < (Fl.val 52 (rg b) : Int) := by omega
  generalize (Fl.val 52 (rg a) : Int) = A at *
  clear hb hb0 hz
  generalize (Fl.val 52 (rg b) : Int) = B at *
  have s1 : 0 < w → 0 < w * B := fun h => Int.mul_pos h hB
  have s2 : w < 0 → w * B < 0 := fun h => Int.mul_neg_of_neg_of_pos h hB
  clear ef hW
  generalize sg a = sa at *
  generalize sg b = sb at *
  cases sa <;> cases sb <;> simp only [Bool.false_eq_true, if_false, if_true, Int.neg_mul, Int.mul_neg, Int.neg_neg, Bool.false_xor, Bool.xor_false, Bool.true_xor, Bool.not_true, Bool.not_false] at e ⊢ <;> omega
def GOK (G : Int) : Prop := ∃ g, g ≤ K + 200 ∧ (G = 2 ^ g ∨ G = -(2 ^ g))
theorem rep_unit {G : Int} (h : GOK G) (z : Int) (hz : z.natAbs ≤ 9007199254740992) : Rep (z * G) := by
 obtain ⟨g, hg, e⟩ := h
 unfold Rep
 have : (z * G).natAbs = z.natAbs * 2 ^ g := by
  rw [Int.natAbs_mul]
  congr 1
  rcases e with rfl | rfl
  ·rw [Int.natAbs_pow]; rfl
  ·rw [Int.natAbs_neg, Int.natAbs_pow]; rfl
 rw [this]
 exact small_word _ _ hz hg
structure PB (G p z : Int) (B : Nat) : Prop where
 pu : PU p (z * G)
 le : z.natAbs ≤ B
theorem PB.mono {G p z : Int} {B C : Nat} (h : PB G p z B) (hc : B ≤ C) : PB G p z C := ⟨h.pu, Nat.le_trans h.le hc⟩
theorem PB.add {G p q y z : Int} {B C : Nat} (h : PB G p y B) (k : PB G q z C) (hg : GOK G) (hb : B + C ≤ 9007199254740992) : PB G (opP .add p q) (y + z) (B + C) := by
 have l : (y + z).natAbs ≤ B + C := by have := h.le; have := k.le; omega
 have hr := rep_unit hg (y + z) (by omega)
 rw [Int.add_mul] at hr
 exact ⟨by rw [Int.add_mul]; exact h.pu.add k.pu hr, l⟩
theorem PB.sub {G p q y z : Int} {B C : Nat} (h : PB G p y B) (k : PB G q z C) (hg : GOK G) (hb : B + C ≤ 9007199254740992) : PB G (opP .sub p q) (y - z) (B + C) := by
 have l : (y - z).natAbs ≤ B + C := by have := h.le; have := k.le; omega
 have hr := rep_unit hg (y - z) (by omega)
 rw [Int.sub_mul] at hr
 exact ⟨by rw [Int.sub_mul]; exact h.pu.sub k.pu hr, l⟩
theorem PB.mul {G p q y z : Int} {B C : Nat} (h : PB ONEi p y B) (k : PB G q z C) (hg : GOK G) (hb : B * C ≤ 9007199254740992) : PB G (opP .mul p q) (y * z) (B * C) := by
 have l : (y * z).natAbs ≤ B * C := by rw [Int.natAbs_mul]; exact Nat.mul_le_mul h.le k.le
 exact ⟨h.pu.mul k.pu (by simp only [Int.mul_assoc, Int.mul_comm, Int.mul_left_comm]) (rep_unit hg _ (by omega)), l⟩
end Go.Proofs.YtlgencbldbpbdaaGreatDoor
