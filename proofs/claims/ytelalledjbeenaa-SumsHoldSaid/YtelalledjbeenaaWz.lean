/- What + and - do, told by units: plain laws. -/
import Derived.Test.YtelalledjbeenaaArith
import Derived.Test.YtelalledjbeenaaFlD
import Derived.Test.YtelalledjbeenaaMgUG
import Derived.Test.YtelalledjbeenaaF32
import Derived.Test.YtelalledjbeenaaMgAccB
namespace Go.Proofs.Ytelalledjbeenaa
open Go.RowKit Fl

/-- the word nearest to z units; nought below where cold -/
def wz (z : Int) (cold : Bool) : Nat := word (decide (z < 0) || (decide (z = 0) && cold)) (rnd z.natAbs)
theorem U_wz (z : Int) (c : Bool) : U (wz z c) := U_word _ _ (rnd_lt _)
theorem pl_wz (z : Int) (c : Bool) : pl (wz z c) = if z < 0 then -(rnd z.natAbs : Int) - 1 else if z = 0 ∧ c = true then -1 else (rnd z.natAbs : Int) := by
  unfold wz
  rw [pl_word _ _ (rnd_le _)]
  by_cases h : z < 0
  · rw [decide_eq_true h, Bool.true_or, if_pos rfl, if_pos h]
  · rw [decide_eq_false h, Bool.false_or, if_neg h]
    by_cases h0 : z = 0 ∧ c = true
    · obtain ⟨rfl, rfl⟩ := h0
      simp [rnd_zero]
    · rw [if_neg h0, if_neg]
      simpa using h0
/-- the sum of two finite numbers -/
theorem add_fin (a b : Nat) (ha : U a) (hb : U b) (fa : fin a = true) (fb : fin b = true) : floatBits .add .f64 a b = some (wz (un a + un b) (sg a && sg b)) := by
  show Ieee.double.add a b = some _
  obtain ⟨m, i, ea, va⟩ := read_fin a ha fa
  obtain ⟨n, j, eb, vb⟩ := read_fin b hb fb
  unfold Ieee.Format.add
  rw [ea, eb]
  simp only [Ieee.Datum.sum, Option.map_some]
  have e1 : (-1074 + (i : Int) - min (-1074 + (i : Int)) (-1074 + (j : Int))).toNat = i - min i j := by omega
  have e2 : (-1074 + (j : Int) - min (-1074 + (i : Int)) (-1074 + (j : Int))).toNat = j - min i j := by omega
  have e3 : min (-1074 + (i : Int)) (-1074 + (j : Int)) = -1074 + ((min i j : Nat) : Int) := by omega
  rw [e1, e2, e3]
  have u1 := un_of (sg a) a m i rfl va (min i j) (Nat.min_le_left _ _)
  have u2 := un_of (sg b) b n j rfl vb (min i j) (Nat.min_le_right _ _)
  generalize Ieee.signed (sg a) m (i - min i j) = p at *
  generalize Ieee.signed (sg b) n (j - min i j) = q at *
  generalize min i j = k at *
  have hz : un a + un b = (p + q) * 2 ^ k := by rw [← u1, ← u2, Int.add_mul]
  rw [hz]
  have hk : (0 : Int) < 2 ^ k := Int.pow_pos (by decide)
  refine congrArg some ?_
  show Ieee.double.nearest _ _ _ = _
  rw [d_nearest _ _ _ (by omega), show (-1074 + (k : Int) + 1074).toNat = k by omega]
  unfold wz
  rw [Int.natAbs_mul, Int.natAbs_pow, show (2 : Int).natAbs = 2 from rfl]
  congr 1
  generalize p + q = t
  by_cases h0 : t = 0
  · subst h0; simp
  · have h1 : ¬ t * 2 ^ k = 0 := fun h => by
      rcases Int.mul_eq_zero.1 h with h | h
      · exact h0 h
      · omega
    rw [if_neg h0, decide_eq_false h1, Bool.false_and, Bool.or_false]
    congr 1
    refine propext ⟨fun h => ?_, fun h => ?_⟩
    · have := Int.mul_lt_mul_of_pos_right h hk
      rwa [Int.zero_mul] at this
    · have : t * 2 ^ k < 0 * 2 ^ k := by rwa [Int.zero_mul]
      exact Int.lt_of_mul_lt_mul_right this (Int.le_of_lt hk)
theorem opP_add (a b : Nat) (ha : U a) (hb : U b) (fa : fin a = true) (fb : fin b = true) : opP .add (pl a) (pl b) = pl (wz (un a + un b) (sg a && sg b)) := by
  unfold opP
  rw [atW_pl a ha (fin_not_nan fa), atW_pl b hb (fin_not_nan fb), add_fin a b ha hb fa fb]
theorem fin_ng {x : Nat} (h : U x) : fin (ng x) = fin x := by unfold fin; rw [rg_ng h]
theorem un_ng {x : Nat} (h : U x) : un (ng x) = -un x := by
  unfold un; rw [sg_ng h, rg_ng h]
  cases sg x <;> simp
/-- a difference is a sum -/
theorem sub_ng (a b : Nat) (hb : U b) : Ieee.double.sub a b = Ieee.double.add a (ng b) ∨ isN b = true := by
  by_cases hn : isN b = true
  · exact .inr hn
  · left
    have hn := Bool.eq_false_iff.2 hn
    unfold Ieee.Format.sub Ieee.Format.add
    have e : (Ieee.double.read b).opposite = Ieee.double.read (ng b) := by
      have h1 := U_ng hb
      rw [read_eq b hb, read_eq (ng b) h1, sg_ng hb, rg_ng hb]
      split
      · rfl
      · split
        · rfl
        · split
          · rfl
          · exact absurd (isN_false hn) (by omega)
    rw [e]
theorem opP_sub (a b : Nat) (ha : U a) (hb : U b) (fa : fin a = true) (fb : fin b = true) : opP .sub (pl a) (pl b) = pl (wz (un a - un b) (sg a && !sg b)) := by
  unfold opP
  rw [atW_pl a ha (fin_not_nan fa), atW_pl b hb (fin_not_nan fb)]
  have h1 : floatBits .sub .f64 a b = floatBits .add .f64 a (ng b) := (sub_ng a b hb).resolve_right (by rw [fin_not_nan fb]; exact Bool.false_ne_true)
  rw [h1, add_fin a (ng b) ha (U_ng hb) fa (by rw [fin_ng hb]; exact fb), un_ng hb, sg_ng hb]
  rfl

/-- so many units are a number's -/
def Rep (z : Int) : Prop := val 52 (rnd z.natAbs) = z.natAbs ∧ rnd z.natAbs < INF
theorem sg_wz (z : Int) (c : Bool) : sg (wz z c) = (decide (z < 0) || (decide (z = 0) && c)) := sg_word _ _ (rnd_lt _)
theorem rg_wz (z : Int) (c : Bool) : rg (wz z c) = rnd z.natAbs := rg_word _ _ (rnd_lt _)
theorem fin_wz {z : Int} (c : Bool) (h : Rep z) : fin (wz z c) = true := by unfold fin; rw [rg_wz]; exact decide_eq_true h.2
theorem un_wz {z : Int} (c : Bool) (h : Rep z) : un (wz z c) = z := by
  unfold un
  rw [sg_wz, rg_wz, h.1]
  by_cases h1 : z < 0
  · rw [decide_eq_true h1, Bool.true_or, if_pos rfl]; omega
  · rw [decide_eq_false h1, Bool.false_or]
    by_cases h2 : z = 0
    · subst h2; cases c <;> rfl
    · rw [decide_eq_false h2, Bool.false_and, if_neg Bool.false_ne_true]; omega
theorem rep_neg {z : Int} (h : Rep z) : Rep (-z) := by unfold Rep at *; rwa [Int.natAbs_neg]
theorem rep_zero : Rep 0 := by unfold Rep; rw [show (0 : Int).natAbs = 0 from rfl, rnd_zero, val_zero]; exact ⟨rfl, by decide⟩
/-- a whole number that is not too great -/
def ONEi : Int := (ONE : Int)
theorem rep_whole (k : Int) (h : k.natAbs ≤ 9007199254740992) : Rep (k * ONEi) := by
  unfold Rep ONEi
  rw [Int.natAbs_mul, Int.natAbs_natCast, one_pow]
  exact small_word k.natAbs K h (by omega)
/-- of exact sums -/
theorem plz_add (y z : Int) (c d : Bool) (hy : Rep y) (hz : Rep z) :
    opP .add (pl (wz y c)) (pl (wz z d)) = pl (wz (y + z) ((decide (y = 0) && c) && (decide (z = 0) && d))) := by
  rw [opP_add _ _ (U_wz _ _) (U_wz _ _) (fin_wz _ hy) (fin_wz _ hz), un_wz _ hy, un_wz _ hz, sg_wz, sg_wz, pl_wz, pl_wz]
  by_cases h1 : y + z < 0
  · rw [if_pos h1, if_pos h1]
  · rw [if_neg h1, if_neg h1]
    by_cases h2 : y + z = 0
    · by_cases hy0 : y = 0
      · have hz0 : z = 0 := by omega
        subst hy0; subst hz0
        simp
      · have e : ((decide (y < 0) || (decide (y = 0) && c)) && (decide (z < 0) || (decide (z = 0) && d))) = false := by
          rw [Bool.and_eq_false_iff]
          by_cases h3 : y < 0
          · right
            rw [decide_eq_false (show ¬ z < 0 by omega), decide_eq_false (show ¬ z = 0 by omega)]; rfl
          · left
            rw [decide_eq_false h3, decide_eq_false hy0]; rfl
        have e2 : ((decide (y = 0) && c) && (decide (z = 0) && d)) = false := by rw [decide_eq_false hy0]; rfl
        rw [e, e2]
    · rw [if_neg (fun h => h2 h.1), if_neg (fun h => h2 h.1)]
theorem plz_sub (y z : Int) (c d : Bool) (hy : Rep y) (hz : Rep z) :
    opP .sub (pl (wz y c)) (pl (wz z d)) = pl (wz (y - z) ((decide (y = 0) && c) && (decide (z = 0) && !d))) := by
  have h1 : opP .sub (pl (wz y c)) (pl (wz z d)) = opP .add (pl (wz y c)) (pl (wz (-z) (!d))) := by
    rw [opP_add _ _ (U_wz _ _) (U_wz _ _) (fin_wz _ hy) (fin_wz _ (rep_neg hz)), opP_sub _ _ (U_wz _ _) (U_wz _ _) (fin_wz _ hy) (fin_wz _ hz), un_wz _ hy, un_wz _ hz, un_wz _ (rep_neg hz), sg_wz, sg_wz, sg_wz]
    rw [Int.sub_eq_add_neg]
    have e : (!(decide (z < 0) || (decide (z = 0) && d))) = (decide (-z < 0) || (decide (-z = 0) && !d)) := by
      by_cases h : z < 0
      · rw [decide_eq_true h, decide_eq_false (show ¬ -z < 0 by omega), decide_eq_false (show ¬ -z = 0 by omega)]; rfl
      · by_cases h0 : z = 0
        · subst h0; simp
        · rw [decide_eq_false h, decide_eq_false h0, decide_eq_true (show -z < 0 by omega)]; rfl
    rw [e]
  rw [h1, plz_add _ _ _ _ hy (rep_neg hz), Int.sub_eq_add_neg]
  congr 2
  by_cases h0 : z = 0
  · subst h0; rfl
  · rw [decide_eq_false h0, decide_eq_false (show ¬ -z = 0 by omega)]

/-- the units of the number nearest to z units -/
def ru (z : Int) : Int := if z < 0 then -(val 52 (rnd z.natAbs) : Int) else (val 52 (rnd z.natAbs) : Int)
theorem un_wzr (z : Int) (c : Bool) : un (wz z c) = ru z := by
  unfold un ru
  rw [sg_wz, rg_wz]
  by_cases h1 : z < 0
  · rw [decide_eq_true h1, Bool.true_or, if_pos rfl, if_pos h1]
  · rw [decide_eq_false h1, Bool.false_or, if_neg h1]
    by_cases h2 : z = 0
    · subst h2
      rw [show (0 : Int).natAbs = 0 from rfl, rnd_zero, val_zero]
      cases c <;> rfl
    · rw [decide_eq_false h2, Bool.false_and, if_neg Bool.false_ne_true]
theorem fin_wzr {z : Int} (c : Bool) (h : rnd z.natAbs < INF) : fin (wz z c) = true := by unfold fin; rw [rg_wz]; exact decide_eq_true h
theorem rung_of_rnd {N : Nat} (h : rnd N < INF) : rungOf 52 N 0 = rnd N := by unfold rnd at *; omega
theorem un_abs (x : Nat) : (un x).natAbs = val 52 (rg x) := by unfold un; split <;> omega
theorem rep_un (x : Nat) (h : fin x = true) : Rep (un x) := by
  have := fin_true h
  unfold Rep
  rw [un_abs, rnd_val _ (by omega)]
  exact ⟨rfl, this⟩
end Go.Proofs.Ytelalledjbeenaa
