/- Plain laws, second part: what is representable; whole numbers; scaling; binary32. -/
import Derived.Test.YtjkifbkehochoaaGreatDoorFl
namespace Go.Proofs.YtjkifbkehochoaaGreatDoor.Fl
open Ieee

/-- A number of units whose low digits (those that the format has no room for) are nought comes back whole. -/
theorem val_rungOf (fb N : Nat) (h : 2 ^ (N.log2 - fb) ∣ N) : val fb (rungOf fb N 0) = N := by
  by_cases h0 : N = 0
  · subst h0; rw [rungOf_zero, val_zero]
  have hB := Nat.two_pow_pos fb
  unfold rungOf
  rw [Nat.sub_zero, Nat.zero_add]
  obtain ⟨q, hq⟩ := h
  have hr : rhe N (2 ^ (N.log2 - fb)) = q := by
    conv => lhs; arg 1; rw [hq, Nat.mul_comm]
    exact rhe_exact _ _ (Nat.two_pow_pos _)
  rw [hr]
  have l1 := Nat.log2_self_le h0
  have l2 : N < 2 ^ (N.log2 + 1) := Nat.lt_log2_self
  rcases Nat.lt_or_ge fb N.log2 with hd | hd
  · have e1 : N.log2 = fb + (N.log2 - fb) := by omega
    generalize N.log2 - fb = d at *
    have hd1 : 1 ≤ d := by omega
    rw [e1, Nat.pow_add] at l1
    rw [e1, show fb + d + 1 = (fb + 1) + d by omega, Nat.pow_add, Nat.pow_succ] at l2
    rw [hq, Nat.mul_comm (2 ^ fb)] at l1
    rw [hq, Nat.mul_comm (2 ^ fb * 2)] at l2
    have q1 := Nat.le_of_mul_le_mul_left l1 (Nat.two_pow_pos d)
    have q2 := Nat.lt_of_mul_lt_mul_left l2
    have hdiv : (d * 2 ^ fb + q) / 2 ^ fb = d + 1 := Nat.div_eq_of_lt_le (by rw [Nat.succ_mul]; omega) (by rw [Nat.succ_mul, Nat.succ_mul]; omega)
    have hmod := Nat.div_add_mod (d * 2 ^ fb + q) (2 ^ fb)
    rw [hdiv, Nat.mul_add, Nat.mul_one, Nat.mul_comm (2 ^ fb) d] at hmod
    unfold val
    have hge : ¬ d * 2 ^ fb + q < 2 ^ fb := by omega
    rw [if_neg hge, hdiv, show d + 1 - 1 = d by omega, hq, Nat.mul_comm]
    congr 1; omega
  · have e1 : N.log2 - fb = 0 := by omega
    rw [e1] at hq ⊢
    rw [Nat.pow_zero, Nat.one_mul] at hq
    rw [Nat.zero_mul, Nat.zero_add, ← hq]
    refine val_small _ _ ?_
    have : 2 ^ (N.log2 + 1) ≤ 2 ^ (fb + 1) := Nat.pow_le_pow_right (by omega) (by omega)
    rw [Nat.pow_succ 2 fb] at this
    omega

theorem dvd_of_small (fb a j : Nat) (h : a < 2 * 2 ^ fb) : 2 ^ ((a * 2 ^ j).log2 - fb) ∣ a * 2 ^ j := by
  by_cases h0 : a = 0
  · subst h0; simp
  · rw [log2_mul_pow a j h0]
    have : a.log2 < fb + 1 := (Nat.log2_lt h0).2 (by rw [Nat.pow_succ]; omega)
    exact Nat.dvd_mul_left_of_dvd (Nat.pow_dvd_pow 2 (by omega)) a
theorem dvd_of_le (fb a j : Nat) (h : a ≤ 2 * 2 ^ fb) : 2 ^ ((a * 2 ^ j).log2 - fb) ∣ a * 2 ^ j := by
  rcases Nat.lt_or_eq_of_le h with h | h
  · exact dvd_of_small fb a j h
  · have e : a * 2 ^ j = 1 * 2 ^ (fb + 1 + j) := by rw [h, Nat.one_mul, ← Nat.pow_succ', ← Nat.pow_add]
    rw [e]
    refine dvd_of_small fb 1 _ ?_
    have := Nat.two_pow_pos fb
    omega
theorem val_rungOf_small (fb a j : Nat) (h : a ≤ 2 * 2 ^ fb) : val fb (rungOf fb (a * 2 ^ j) 0) = a * 2 ^ j := val_rungOf _ _ (dvd_of_le fb a j h)

/-- Rounding keeps the order. -/
theorem rungOf_mono (fb M N k : Nat) (h : M ≤ N) : rungOf fb M k ≤ rungOf fb N k := by
  by_cases h0 : M = 0
  · subst h0; rw [rungOf_zero]; exact Nat.zero_le _
  have h0' : N ≠ 0 := by omega
  have hl : M.log2 ≤ N.log2 := (Nat.le_log2 h0').2 (Nat.le_trans (Nat.log2_self_le h0) h)
  unfold rungOf
  generalize hd : M.log2 - fb - k = d
  generalize he : N.log2 - fb - k = e
  have hB := Nat.two_pow_pos fb
  rcases Nat.lt_or_eq_of_le (show d ≤ e by omega) with hlt | heq
  · -- the one's significand is at most the next binade's first
    have l2 : M < 2 ^ (M.log2 + 1) := Nat.lt_log2_self
    have l1 := Nat.log2_self_le h0'
    have a1 : rhe M (2 ^ (k + d)) ≤ 2 * 2 ^ fb := by
      refine rhe_le_of _ _ _ (Nat.two_pow_pos _) ?_
      have : 2 ^ (M.log2 + 1) ≤ 2 ^ (k + d + (fb + 1)) := Nat.pow_le_pow_right (by omega) (by omega)
      rw [Nat.pow_add _ (k + d), Nat.pow_succ 2 fb, Nat.mul_comm (2 ^ fb) 2] at this
      omega
    have a2 : 2 ^ fb ≤ rhe N (2 ^ (k + e)) := by
      refine rhe_ge_of _ _ _ (Nat.two_pow_pos _) ?_
      rw [← Nat.pow_add]
      refine Nat.le_trans (Nat.pow_le_pow_right (by omega) (by omega)) l1
    have a3 : (d + 1) * 2 ^ fb ≤ e * 2 ^ fb := Nat.mul_le_mul_right _ (by omega)
    rw [Nat.succ_mul] at a3
    omega
  · subst heq
    have := rhe_mono M N (2 ^ (k + d)) (Nat.two_pow_pos _) h
    omega

/-! ### rounding in binary64 -/
/-- The rung nearest to N units. -/
def rnd (N : Nat) : Nat := min (rungOf 52 N 0) INF
theorem rnd_le (N : Nat) : rnd N ≤ INF := Nat.min_le_right _ _
theorem rnd_lt (N : Nat) : rnd N < 9223372036854775808 := Nat.lt_of_le_of_lt (rnd_le N) (by decide)
theorem rnd_val (r : Nat) (h : r ≤ INF) : rnd (val 52 r) = r := by unfold rnd; rw [rungOf_val]; omega
theorem rnd_mono {M N : Nat} (h : M ≤ N) : rnd M ≤ rnd N := by
  have := rungOf_mono 52 M N 0 h
  unfold rnd; omega
theorem rnd_zero : rnd 0 = 0 := by unfold rnd; rw [rungOf_zero]; exact Nat.zero_min _
theorem rnd_eq_zero {N : Nat} (h : rnd N = 0) : N = 0 := by
  rcases Nat.eq_zero_or_pos N with h0 | h0
  · exact h0
  · have := rnd_mono (M := 1) (N := N) h0
    have e : rnd 1 = 1 := by have := rnd_val 1 (by decide); rwa [val_small 52 1 (by decide)] at this
    omega

theorem d_nearest (neg : Bool) (M : Nat) (p : Int) (h : -1074 ≤ p) : double.nearest neg M p = word neg (rnd (M * 2 ^ (p + 1074).toNat)) := by
  rw [nearest_eq, word_eq, d_fb, d_inf, d_least]
  unfold rnd
  rw [show (-1074 - p).toNat = 0 by omega, show (p - -1074) = p + 1074 by omega]
theorem d_nearest_scale (neg : Bool) (M j : Nat) (p : Int) : double.nearest neg (M * 2 ^ j) p = double.nearest neg M (p + j) := by
  rw [nearest_eq, nearest_eq, word_eq, d_fb, d_inf, d_least]
  rw [word_eq]
  refine congrArg (fun r => word neg (min r INF)) ?_
  rcases Int.le_total (-1074) p with h | h
  · rw [show (-1074 - p).toNat = 0 by omega, show (-1074 - (p + (j : Int))).toNat = 0 by omega, Nat.mul_assoc, ← Nat.pow_add]
    congr 3; omega
  · rw [show (p - -1074).toNat = 0 by omega, Nat.pow_zero, Nat.mul_one]
    rcases Int.le_total (-1074) (p + j) with h' | h'
    · rw [show (-1074 - (p + (j : Int))).toNat = 0 by omega]
      have : j = (p + (j : Int) - -1074).toNat + (-1074 - p).toNat := by omega
      generalize ha : (p + (j : Int) - -1074).toNat = a at *
      generalize hb : (-1074 - p).toNat = b at *
      rw [this, Nat.pow_add, ← Nat.mul_assoc]
      have := rungOf_scale 52 (M * 2 ^ a) 0 b
      rw [Nat.zero_add] at this
      exact this
    · rw [show (p + (j : Int) - -1074).toNat = 0 by omega, Nat.pow_zero, Nat.mul_one]
      rw [show (-1074 - p).toNat = (-1074 - (p + (j : Int))).toNat + j by omega]
      exact rungOf_scale 52 M _ j

/-- A finite word written anew is itself. -/
theorem d_write_read (b : Nat) (h : b < 18446744073709551616) (hn : isN b = false) : double.write (double.read b) = b := by
  have hb := isN_false hn
  by_cases hf : fin b = true
  · obtain ⟨m, j, e, v⟩ := read_fin b h hf
    rw [e]
    show double.nearest _ _ _ = _
    rw [d_nearest _ _ _ (by omega), show (-1074 + (j : Int) + 1074).toNat = j by omega, v, rnd_val _ hb, word_self b h]
  · have hf := fin_false (by simpa using hf)
    rw [read_inf b h (by omega)]
    show double.word _ _ = _
    rw [word_eq, d_inf, show INF = rg b by omega, word_self b h]

/-! ### whole numbers -/
/-- The units of 1. -/
def K : Nat := 1074
theorem K_eq : K = 1074 := rfl
def ONE : Nat := 2 ^ K
theorem one_pow : ONE = 2 ^ K := rfl
theorem one_pos : 0 < ONE := Nat.two_pow_pos _
theorem one_split (j k : Nat) (h : j + k = K) : ONE = 2 ^ j * 2 ^ k := by rw [one_pow, ← Nat.pow_add, h]
theorem pow_one (j k : Nat) (h : j = k + K) : 2 ^ j = 2 ^ k * ONE := by rw [one_pow, ← Nat.pow_add, h]
/-- The nearest whole number, of two the even one, with the sign. -/
def whole (b : Nat) : Nat := word (sg b) (rnd (rhe (val 52 (rg b)) ONE * ONE))

attribute [irreducible] ONE

theorem val_big_dvd (r : Nat) (h : 1075 * 4503599627370496 ≤ r) : ONE ∣ val 52 r := by
  unfold val
  rw [if_neg (by omega)]
  have h1 : 1075 ≤ r / 2 ^ 52 := (Nat.le_div_iff_mul_le (by decide)).2 h
  have h2 := K_eq
  have h3 : ONE ∣ 2 ^ (r / 2 ^ 52 - 1) := by rw [one_pow]; exact Nat.pow_dvd_pow 2 (by omega)
  exact Nat.dvd_mul_left_of_dvd h3 _
theorem val_mid_lt (r : Nat) (h : r < 1075 * 4503599627370496) : val 52 r < 4503599627370496 * ONE := by
  have h1 := val_le 52 r (1075 * 4503599627370496 - 1) (by omega)
  have h2 := (val_bounds 52 (1075 * 4503599627370496 - 1) (by decide)).2
  have : (1075 * 4503599627370496 - 1) / 2 ^ 52 = K := by decide
  rw [this, ← one_pow] at h2
  rw [show (4503599627370496 : Nat) = 2 ^ 52 from by decide] at *
  omega

/-- The whole number's units are a word's. -/
theorem val_whole (r : Nat) : val 52 (rungOf 52 (rhe (val 52 r) ONE * ONE) 0) = rhe (val 52 r) ONE * ONE := by
  rcases Nat.lt_or_ge r (1075 * 4503599627370496) with h | h
  · rw [show ∀ a : Nat, a * ONE = a * 2 ^ K from fun _ => by rw [one_pow]]
    refine val_rungOf_small _ _ _ ?_
    have h1 := val_mid_lt r h
    have := rhe_le_of (val 52 r) ONE 4503599627370496 one_pos (by rw [Nat.mul_comm]; omega)
    omega
  · obtain ⟨q, hq⟩ := val_big_dvd r h
    have e : rhe (val 52 r) ONE * ONE = val 52 r := by
      rw [hq, Nat.mul_comm ONE q, rhe_exact _ _ one_pos]
    rw [e, rungOf_val]

theorem rnd_whole_fin {r : Nat} (h : r < INF) : rungOf 52 (rhe (val 52 r) ONE * ONE) 0 < INF := by
  rcases Nat.lt_or_ge r (1075 * 4503599627370496) with h' | h'
  · have h1 := val_mid_lt r h'
    have h2 := rhe_le_of (val 52 r) ONE 4503599627370496 one_pos (by rw [Nat.mul_comm]; omega)
    have h3 := rungOf_mono 52 (rhe (val 52 r) ONE * ONE) (4503599627370496 * ONE) 0 (Nat.mul_le_mul_right _ h2)
    have e : rungOf 52 (4503599627370496 * ONE) 0 = 1075 * 4503599627370496 := by
      have ev : val 52 (1075 * 4503599627370496) = 4503599627370496 * ONE := by
        unfold val
        have hd : (1075 * 4503599627370496) / 2 ^ 52 - 1 = K := by decide
        have hm : 2 ^ 52 + (1075 * 4503599627370496) % 2 ^ 52 = 4503599627370496 := by decide
        rw [if_neg (by decide), hd, hm, ← one_pow]
      rw [← ev]; exact rungOf_val 52 _
    rw [e] at h3
    unfold INF; omega
  · obtain ⟨q, hq⟩ := val_big_dvd r h'
    have e : rhe (val 52 r) ONE * ONE = val 52 r := by
      rw [hq, Nat.mul_comm ONE q, rhe_exact _ _ one_pos]
    rw [e, rungOf_val]; exact h

theorem whole_whole (b : Nat) (hf : fin b = true) : whole (whole b) = whole b := by
  have hr := rnd_whole_fin (fin_true hf)
  have hv := val_whole (rg b)
  unfold whole
  generalize hW : rhe (val 52 (rg b)) ONE = W at *
  have hl : rnd (W * ONE) < 9223372036854775808 := rnd_lt _
  rw [sg_word _ _ hl, rg_word _ _ hl]
  have e : rnd (W * ONE) = rungOf 52 (W * ONE) 0 := by unfold rnd; omega
  rw [e, hv, rhe_exact _ _ one_pos, e]
theorem fin_whole (b : Nat) (hf : fin b = true) : fin (whole b) = true := by
  have hr := rnd_whole_fin (fin_true hf)
  have hl : rnd (rhe (val 52 (rg b)) ONE * ONE) < 9223372036854775808 := rnd_lt _
  unfold fin whole
  rw [rg_word _ _ hl]
  have : rnd (rhe (val 52 (rg b)) ONE * ONE) ≤ rungOf 52 (rhe (val 52 (rg b)) ONE * ONE) 0 := Nat.min_le_left _ _
  exact decide_eq_true (by omega)

theorem read_integral (b : Nat) (h : b < 18446744073709551616) (hf : fin b = true) : double.write ((double.read b).integral .even) = whole b := by
  obtain ⟨m, j, e, v⟩ := read_fin b h hf
  rw [e]
  show double.nearest _ _ _ = _
  rw [cut_even, d_nearest _ _ _ (by decide), Nat.shiftLeft_eq, show ((0 : Int) + 1074).toNat = K from by decide, ← one_pow]
  unfold whole
  refine congrArg (fun r => word (sg b) (rnd (r * ONE))) ?_
  rw [← v]
  have hK := K_eq
  rcases Nat.le_total j 1074 with hj | hj
  · rw [show (-1074 + (j : Int)).toNat = 0 by omega, show (-(-1074 + (j : Int))).toNat = 1074 - j by omega, Nat.pow_zero, Nat.mul_one]
    rw [one_split (1074 - j) j (by omega), rhe_mul _ _ _ (Nat.two_pow_pos _)]
  · rw [show (-1074 + (j : Int)).toNat = j - 1074 by omega, show (-(-1074 + (j : Int))).toNat = 0 by omega, Nat.pow_zero, rhe_one]
    rw [pow_one j (j - 1074) (by omega), ← Nat.mul_assoc, rhe_exact _ _ one_pos]

/-! ### of one and itself -/
theorem order_self (f : Format) (x : Nat) : f.order x x = if (f.read x).isNaN then none else some .eq := by
  unfold Format.order
  cases f.read x with
  | number s m p => simp [Datum.order, Datum.isNaN]
  | infinity s => simp [Datum.order, Datum.isNaN]
  | nan s t => simp [Datum.order, Datum.isNaN]
end Go.Proofs.YtjkifbkehochoaaGreatDoor.Fl
