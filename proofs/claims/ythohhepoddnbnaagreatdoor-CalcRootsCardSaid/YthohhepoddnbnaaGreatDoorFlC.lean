
/- Plain laws, third part: products by powers of two; whole numbers as words. -/
import Derived.Test.YthohhepoddnbnaaGreatDoorFlB
namespace Go.Proofs.YthohhepoddnbnaaGreatDoor.Fl
open Ieee

theorem B52 : (2 : Nat) ^ 52 = 4503599627370496 := by decide
/-- The word of exponent field E and fraction F, without a sign. -/
theorem read_normal (E F : Nat) (h1 : 1 ≤ E) (h2 : E ≤ 2046) (hF : F < 4503599627370496) :
    double.read (E * 4503599627370496 + F) = .number false (4503599627370496 + F) ((E : Int) - 1075) := by
  have hl : E * 4503599627370496 + F < 9223372036854775808 := by omega
  have hr : rg (E * 4503599627370496 + F) = E * 4503599627370496 + F := Nat.mod_eq_of_lt hl
  have hs : sg (E * 4503599627370496 + F) = false := by unfold sg; exact decide_eq_false (by omega)
  have hi : INF = 9218868437227405312 := rfl
  rw [read_eq _ (by omega), hr, hs, if_neg (by omega), if_pos (by omega)]
  have e1 : (E * 4503599627370496 + F) % 4503599627370496 = F := by omega
  have e2 : (E * 4503599627370496 + F) / 4503599627370496 - 1 = E - 1 := by omega
  rw [e1, e2]
  congr 1; omega

theorem read_1 : double.read 4607182418800017408 = .number false 4503599627370496 (-52) := by decide
theorem read_2p53 : double.read 4368491638549381120 = .number false 4503599627370496 (-105) := by decide

theorem mul_by (c : Nat) (q : Int) (hc : double.read c = .number false 4503599627370496 q) (E F : Nat) (h1 : 1 ≤ E) (h2 : E ≤ 2046) (hF : F < 4503599627370496) :
    double.mul c (E * 4503599627370496 + F) = some (double.nearest false (4503599627370496 + F) ((E : Int) - 1075 + q + 52)) := by
  unfold Format.mul
  rw [hc, read_normal E F h1 h2 hF]
  simp only [Datum.product, Option.map_some, Bool.xor_false]
  refine congrArg some ?_
  show double.nearest false _ _ = _
  have := d_nearest_scale false (4503599627370496 + F) 52 (q + ((E : Int) - 1075))
  rw [B52] at this
  rw [Nat.mul_comm, this]
  congr 1; omega

theorem log2_53 (F : Nat) (hF : F < 4503599627370496) : (4503599627370496 + F).log2 = 52 := log2_eq _ 52 (by rw [B52]; omega) (by rw [Nat.pow_succ, B52]; omega)

/-- A whole number below 2^53 as a word. -/
theorem nearest_int (n : Nat) : ∀ neg, double.nearest neg n 0 = word neg (rnd (n * ONE)) := by
  intro neg
  rw [d_nearest _ _ _ (by decide), show ((0 : Int) + 1074).toNat = K from by decide, ← one_pow]

end Go.Proofs.YthohhepoddnbnaaGreatDoor.Fl
