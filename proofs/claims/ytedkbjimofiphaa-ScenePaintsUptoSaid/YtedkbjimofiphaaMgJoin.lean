/- bits.nearest; Join, both. Join, both: the place of the number that it makes. RoundToEven, Whole; what draws leave alone. Plain laws, fourth part: binary32 in binary64 and back. -/
import Derived.Test.YtedkbjimofiphaaMgLen
import Derived.Deep.QuietTactic
import Derived.BigQuiet
import Derived.Test.YtedkbjimofiphaaMgBase
namespace Go.Proofs.Ytedkbjimofiphaa
open Go.RowKit Fl

theorem near_again (Q : Nat) (E : Int) (h : -1074 ≤ E) (h1 : Q ≤ 2 * 2 ^ 52) (h2 : E = -1074 ∨ 2 ^ 52 ≤ Q) : near Q E = (E + 1074).toNat * 2 ^ 52 + Q := by
  rcases Nat.eq_zero_or_pos Q with h0 | h0
  · subst h0
    have hE : E = -1074 := by
      rcases h2 with h2 | h2
      · exact h2
      · rw [B52] at h2; omega
    subst hE
    rw [near_zero]; rfl
  rcases Nat.lt_or_eq_of_le h1 with h1 | h1
  · obtain ⟨n1, _, _⟩ := near_core Q E h0 _ rfl
    have hl : Q.log2 ≤ 52 := by
      have := (Nat.log2_lt (n := Q) (k := 53) (by omega)).2 (by rw [Nat.pow_succ]; omega); omega
    have hE : max ((Q.log2 : Int) + 1 + E - 53) (-1074) = E := by
      rcases h2 with h2 | h2
      · omega
      · have : Q.log2 = 52 := log2_eq Q 52 h2 (by rw [Nat.pow_succ]; omega)
        omega
    rw [hE] at n1
    rw [n1, show (E - E).toNat = 0 by omega, Nat.pow_zero, Nat.mul_one, rhe_one]
  · have e : Q = 2 ^ 52 * 2 ^ 1 := by rw [h1, Nat.pow_one, Nat.mul_comm]
    rw [e, near_scale]
    obtain ⟨n1, _, _⟩ := near_core (2 ^ 52) (E + (1 : Nat)) (by decide) _ rfl
    rw [show (2 ^ 52 : Nat).log2 = 52 from log2_eq _ 52 (Nat.le_refl _) (by decide)] at n1
    have hE : max (((52 : Nat) : Int) + 1 + (E + ((1 : Nat) : Int)) - 53) (-1074) = E + 1 := by omega
    rw [hE] at n1
    rw [show (E + 1 - (E + ((1 : Nat) : Int))).toNat = 0 by omega, show (E + ((1 : Nat) : Int) - (E + 1)).toNat = 0 by omega, Nat.pow_zero, Nat.mul_one, rhe_one, show (E + 1 + 1074).toNat = (E + 1074).toNat + 1 by omega] at n1
    have e5 : ∀ t B : Nat, (t + 1) * B + B = t * B + B * 2 := by intro t B; rw [Nat.succ_mul]; omega
    exact Eq.trans n1 (e5 _ _)

/-- what is cut off at place s -/
theorem near_cut (m : Nat) (p L : Int) (s : Nat) (h0 : 0 < m) (hL : L = max ((blen m : Int) + p - 53) (-1074)) (hs : L - p = (s : Int)) : near (rhe m (2 ^ s)) L = near m p ∧ rhe m (2 ^ s) ≤ 9007199254740992 := by
  rw [blen_pos m h0] at hL
  obtain ⟨n1, n2, n3⟩ := near_core m p h0 L hL
  rw [show (p - L).toNat = 0 by omega, Nat.pow_zero, Nat.mul_one, show (L - p).toNat = s by omega] at n1 n2 n3
  refine ⟨?_, by rw [B52] at n2; omega⟩
  rw [n1]
  exact near_again _ L (by omega) n2 n3

theorem rest_eq (m s : Nat) (h1 : 0 < s) (h2 : s < 64) : IntKind.u64.wrap ((m : Int) * 2 ^ (64 - s)) = ((m % 2 ^ s * 2 ^ (64 - s) : Nat) : Int) := by
  have e : (m : Int) * 2 ^ (64 - s) = ((m * 2 ^ (64 - s) : Nat) : Int) := by rw [Int.natCast_mul]; push_cast; rfl
  rw [e, IntKind.wrap_u64]
  have e2 : (18446744073709551616 : Nat) = 2 ^ s * 2 ^ (64 - s) := by rw [← Nat.pow_add, show s + (64 - s) = 64 by omega]
  have e3 : m * 2 ^ (64 - s) % 18446744073709551616 = m % 2 ^ s * 2 ^ (64 - s) := by
    rw [e2, Nat.mul_mod_mul_right]
  rw [← e3]; omega
theorem half_eq (s : Nat) (h1 : 0 < s) (h2 : s < 64) : (9223372036854775808 : Nat) = 2 ^ (s - 1) * 2 ^ (64 - s) := by rw [← Nat.pow_add, show s - 1 + (64 - s) = 63 by omega]
theorem b_one (q : Nat) (h : U q) : (bits .and .u64 (q : Int) 1 == 1) = decide (q % 2 = 1) := by
  have e := h.lt
  rw [show (1 : Int) = ((1 : Nat) : Int) from rfl, u64_and_nat _ _ h.lt (by omega), nat_mask1, Bool.eq_iff_iff]
  simp; omega

end Go.Proofs.Ytedkbjimofiphaa

namespace Go.Proofs.Ytedkbjimofiphaa
open Go.RowKit Fl

def joinP (neg : Bool) (c : Int) (m : Nat) (e : Int) : Int :=
  if c = 4 then 9223372036854775807 else if c = 3 then pl (word neg 9218868437227405312) else if c = 0 then pl (word neg 0) else pl (nearW neg m e)
theorem joinP4 (neg : Bool) (m : Nat) (e : Int) : joinP neg 4 m e = 9223372036854775807 := by unfold joinP; rw [if_pos rfl]
theorem joinP3 (neg : Bool) (m : Nat) (e : Int) : joinP neg 3 m e = pl (word neg 9218868437227405312) := by unfold joinP; rw [if_neg (by decide), if_pos rfl]
theorem joinP0 (neg : Bool) (m : Nat) (e : Int) : joinP neg 0 m e = pl (word neg 0) := by unfold joinP; rw [if_neg (by decide), if_neg (by decide), if_pos rfl]
theorem Bd {B : Nat} {a w : World} (h : Below B a w) (n : Nat) : Below B a (w.drewN n) := ⟨h.os, h.tape, h.output, h.size, h.block⟩
theorem U_nearW (neg : Bool) (m : Nat) (e : Int) : U (nearW neg m e) := by
  refine U_word _ _ ?_
  have : min (near m e) INF ≤ INF := Nat.min_le_right _ _
  unfold INF at *; omega

theorem q137 (w : World) (n : Nat) : Calls Try.prog 49 #[.int .i64 1] (w.drewN n) fun e w' => e = .returned (.float .f64 9218868437227405312) ∧ ∃ m, w' = w.drewN m :=
  Calls.quiet_of_same ((c137p _).mono fun _ _ ⟨a, b⟩ => ⟨a, b.symm⟩)
theorem min_inf_lt (a : Nat) : min a INF < 9223372036854775808 := by
  have : min a INF ≤ INF := Nat.min_le_right _ _
  unfold INF at *; omega

end Go.Proofs.Ytedkbjimofiphaa

namespace Go.Proofs.Ytedkbjimofiphaa
open Go.RowKit Fl

theorem Bdrew {B : Nat} {a w : World} (h : Below B a w) : Below B a w.drew := ⟨h.os, h.tape, h.output, h.size, h.block⟩

/-- of a number: the nearest whole one; an infinity as it is -/
def wh (x : Nat) : Nat := if fin x then whole x else x
/-- how the model's rounding goes on, by what the word stands for -/
def onDatum (x : Nat) : Ieee.Datum → Sem Value
  | .nan s t => if FloatKind.f64.format.quiet t = t then pure (.float .f64 x) else
    (choose (.extern "math.Floor,Ceil,Trunc,RoundToEven.signallingNaN kept" 2)).bind fun k => pure (.float .f64 (if k == 1 then x else FloatKind.f64.encode (.nan s (FloatKind.f64.format.quiet t))))
  | d => pure (.float .f64 (FloatKind.f64.encode (d.integral .even)))
theorem onDatum_eq (x : Nat) : Extern.MathFloor.toIntegral "math.RoundToEven" .even #[.float .f64 x] = onDatum x (Ieee.double.read x) := rfl
theorem U_wh (x : Nat) (hx : U x) : U (wh x) := by
  unfold wh; split
  · unfold whole; exact U_word _ _ (rnd_lt _)
  · exact hx
theorem isN_wh (x : Nat) (hn : isN x = false) : isN (wh x) = false := by
  unfold wh; split
  · rename_i h; exact fin_not_nan (fin_whole x h)
  · exact hn
theorem wh_wh (x : Nat) : wh (wh x) = wh x := by
  by_cases h : fin x = true
  · have e : wh x = whole x := by unfold wh; rw [if_pos h]
    rw [e]; unfold wh; rw [if_pos (fin_whole x h), whole_whole x h]
  · have e : wh x = x := by unfold wh; rw [if_neg h]
    rw [e, e]
end Go.Proofs.Ytedkbjimofiphaa

namespace Go.Proofs.Ytedkbjimofiphaa.Fl
open Ieee

theorem nearest_scale (f : Format) (neg : Bool) (M j : Nat) (p : Int) : f.nearest neg (M * 2 ^ j) p = f.nearest neg M (p + j) := by
  rw [nearest_eq, nearest_eq]
  refine congrArg (fun r => f.word neg (min r f.infRung)) ?_
  generalize f.leastPlace = L
  generalize f.fractionBits = fb
  rcases Int.le_total L p with h | h
  · rw [show (L - p).toNat = 0 by omega, show (L - (p + (j : Int))).toNat = 0 by omega, Nat.mul_assoc, ← Nat.pow_add]
    congr 3; omega
  · rw [show (p - L).toNat = 0 by omega, Nat.pow_zero, Nat.mul_one]
    rcases Int.le_total L (p + j) with h' | h'
    · rw [show (L - (p + (j : Int))).toNat = 0 by omega]
      have e : j = (p + (j : Int) - L).toNat + (L - p).toNat := by omega
      generalize ha : (p + (j : Int) - L).toNat = a at *
      generalize hb : (L - p).toNat = b at *
      rw [e, Nat.pow_add, ← Nat.mul_assoc]
      have := rungOf_scale fb (M * 2 ^ a) 0 b
      rw [Nat.zero_add] at this
      exact this
    · rw [show (p + (j : Int) - L).toNat = 0 by omega, Nat.pow_zero, Nat.mul_one]
      rw [show (L - p).toNat = (L - (p + (j : Int))).toNat + j by omega]
      exact rungOf_scale fb M _ j

/-- binary32: sign, rung -/
def sg32 (b : Nat) : Bool := decide (2147483648 ≤ b)
def rg32 (b : Nat) : Nat := b % 2147483648
def isN32 (b : Nat) : Bool := decide (2139095040 < rg32 b)
theorem s_inf : single.infRung = 2139095040 := by decide
theorem s_sw : single.signWeight = 2147483648 := by decide
theorem s_bin : single.binade = 8388608 := by decide
theorem s_least : single.leastPlace = -149 := by decide
theorem word32_self (b : Nat) (h : b < 4294967296) : single.word (sg32 b) (rg32 b) = b := by
  unfold Format.word sg32 rg32
  rw [s_sw]
  by_cases c : 2147483648 ≤ b
  · rw [decide_eq_true c, if_pos rfl]; omega
  · rw [decide_eq_false c, if_neg (by decide)]; omega
theorem read32_eq (b : Nat) (h : b < 4294967296) : single.read b =
    if rg32 b < 8388608 then .number (sg32 b) (rg32 b) (-149)
    else if rg32 b < 2139095040 then .number (sg32 b) (8388608 + rg32 b % 8388608) (-149 + ((rg32 b / 8388608 - 1 : Nat) : Int))
    else if rg32 b = 2139095040 then .infinity (sg32 b) else .nan (sg32 b) (rg32 b - 2139095040) := by
  have hs : (b / single.signWeight % 2 == 1) = sg32 b := by
    rw [s_sw]; unfold sg32
    by_cases c : 2147483648 ≤ b
    · rw [decide_eq_true c]; simp; omega
    · rw [decide_eq_false c]; simp; omega
  unfold Format.read
  simp only [hs]
  simp only [s_sw, s_bin, s_inf, s_least]
  rfl
theorem read32_fin (b : Nat) (h : b < 4294967296) (hf : rg32 b < 2139095040) :
    ∃ m j : Nat, single.read b = .number (sg32 b) m (-149 + (j : Int)) ∧ m * 2 ^ j = val 23 (rg32 b) ∧ m < 16777216 ∧ j ≤ 260 := by
  rw [read32_eq b h]
  by_cases c : rg32 b < 8388608
  · refine ⟨rg32 b, 0, by rw [if_pos c]; rfl, ?_, by omega, by omega⟩
    rw [val_small 23 _ (by rw [show (2 ^ 23 : Nat) = 8388608 from by decide]; omega)]; simp
  · refine ⟨_, _, by rw [if_neg c, if_pos hf], ?_, by omega, by omega⟩
    unfold val
    rw [show (2 ^ 23 : Nat) = 8388608 from by decide, if_neg (by omega)]
theorem read32_inf (b : Nat) (h : b < 4294967296) (hf : rg32 b = 2139095040) : single.read b = .infinity (sg32 b) := by
  rw [read32_eq b h, if_neg (by omega), if_neg (by omega), if_pos hf]
theorem read32_nan (b : Nat) (h : b < 4294967296) (hf : isN32 b = true) : single.read b = .nan (sg32 b) (rg32 b - 2139095040) := by
  have hf : 2139095040 < rg32 b := of_decide_eq_true hf
  rw [read32_eq b h, if_neg (by omega), if_neg (by omega), if_neg (by omega)]
theorem write_read32 (b : Nat) (h : b < 4294967296) (hf : rg32 b < 2139095040) (m j : Nat) (hv : m * 2 ^ j = val 23 (rg32 b)) : single.nearest (sg32 b) m (-149 + (j : Int)) = b := by
  rw [nearest_eq, s_inf, s_least, show (-149 + (j : Int) - -149).toNat = j by omega, show (-149 - (-149 + (j : Int))).toNat = 0 by omega, hv]
  rw [show single.fractionBits = 23 from rfl, rungOf_val, Nat.min_eq_left (by omega), word32_self b h]

theorem val_1276 : val 52 (1276 * 4503599627370496) = 9007199254740992 * (ONE * 2 ^ 200) := by
  have hd : (1276 * 4503599627370496) / 2 ^ 52 - 1 = K + 201 := by decide
  have hm : 2 ^ 52 + (1276 * 4503599627370496) % 2 ^ 52 = 4503599627370496 := by decide
  unfold val
  rw [if_neg (by decide), hd, hm, Nat.pow_add, ← one_pow, show (2 : Nat) ^ 201 = 2 * 2 ^ 200 from by rw [Nat.pow_succ, Nat.mul_comm]]
  generalize ONE = o
  generalize (2 : Nat) ^ 200 = t
  rw [show (9007199254740992 : Nat) = 4503599627370496 * 2 from by decide]
  simp only [Nat.mul_assoc, Nat.mul_left_comm]
theorem small_word (m q : Nat) (hm : m ≤ 9007199254740992) (hq : q ≤ K + 200) : val 52 (rnd (m * 2 ^ q)) = m * 2 ^ q ∧ rnd (m * 2 ^ q) < INF := by
  have hv : val 52 (rungOf 52 (m * 2 ^ q) 0) = m * 2 ^ q := val_rungOf_small _ _ _ (by rw [B52]; omega)
  have h2 : 2 ^ q ≤ 2 ^ (K + 200) := Nat.pow_le_pow_right (by omega) hq
  have h3 : m * 2 ^ q ≤ 9007199254740992 * 2 ^ (K + 200) := Nat.mul_le_mul hm h2
  rw [Nat.pow_add, ← one_pow, ← val_1276] at h3
  have h5 := rungOf_mono 52 _ _ 0 h3
  rw [rungOf_val] at h5
  generalize m * 2 ^ q = N at *
  have er : rnd N = rungOf 52 N 0 := by unfold rnd INF; omega
  rw [er]
  exact ⟨hv, by unfold INF; omega⟩

/-- Wide, of a number that is finite. -/
def wide (b : Nat) : Nat := double.write (single.read b)
theorem wide_eq (b : Nat) (s : Bool) (m j q : Nat) (e : single.read b = .number s m (-149 + (j : Int))) (hq : (-149 + (j : Int) + 1074).toNat = q) : wide b = word s (rnd (m * 2 ^ q)) := by
  unfold wide
  rw [e]
  show double.nearest _ _ _ = _
  rw [d_nearest _ _ _ (by omega), hq]
theorem back32 (s : Bool) (m j q m' j' : Nat) (hq : (-1074 : Int) + (q : Int) = -149 + (j : Int)) (h : m' * 2 ^ j' = m * 2 ^ q) : single.nearest s m' (-1074 + (j' : Int)) = single.nearest s m (-149 + (j : Int)) := by
  rw [← nearest_scale single _ m' j' (-1074), h, nearest_scale, hq]
/-- Narrow of Wide is the same. -/
theorem narrow_wide_fin (b : Nat) (h : b < 4294967296) (hf : rg32 b < 2139095040) : single.write (double.read (wide b)) = b ∧ fin (wide b) = true ∧ wide b < 18446744073709551616 ∧ ∃ s m p, double.read (wide b) = .number s m p := by
  obtain ⟨m, j, e, hv, hm, hj⟩ := read32_fin b h hf
  obtain ⟨q, hq⟩ : ∃ q : Nat, q = (-149 + (j : Int) + 1074).toNat := ⟨_, rfl⟩
  have e1 := wide_eq b _ m j q e hq.symm
  have hq2 : (-1074 : Int) + (q : Int) = -149 + (j : Int) := by omega
  have hq3 : q ≤ K + 200 := by have : K = 1074 := rfl; omega
  clear hq
  obtain ⟨v1, v2⟩ := small_word m q (by omega) hq3
  have hl : rnd (m * 2 ^ q) < 9223372036854775808 := rnd_lt _
  have hw : wide b < 18446744073709551616 := by
    rw [e1]
    clear hq2 hq3 v1 v2 e1
    generalize rnd (m * 2 ^ q) = r at *
    unfold word; cases sg32 b <;> simp <;> omega
  have hrg : rg (wide b) = rnd (m * 2 ^ q) := by rw [e1, rg_word _ _ hl]
  have hfin : fin (wide b) = true := by unfold fin; rw [hrg]; exact decide_eq_true v2
  obtain ⟨m', j', e', v'⟩ := read_fin (wide b) hw hfin
  have hsg : sg (wide b) = sg32 b := by rw [e1, sg_word _ _ hl]
  refine ⟨?_, hfin, hw, _, _, _, e'⟩
  rw [e']
  show single.nearest _ _ _ = _
  rw [hrg, v1] at v'
  rw [back32 _ m j q m' j' hq2 v', hsg]
  exact write_read32 b h hf m j hv
end Go.Proofs.Ytedkbjimofiphaa.Fl
