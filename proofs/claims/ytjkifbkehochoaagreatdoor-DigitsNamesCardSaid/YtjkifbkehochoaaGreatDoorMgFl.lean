/- Plain laws of binary floating point over Ieee: rounding in units, order, sums. No program in sight. Plain laws, second part: what is representable; whole numbers; scaling; binary32. -/
import Ieee.Arith
namespace Go.Proofs.YtjkifbkehochoaaGreatDoor.Fl
open Ieee
/-! ### rounding half to even -/
/-- n / g, rounded to the nearest whole number, of two the even one. -/
def rhe (n g : Nat) : Nat := n / g + (if g < 2 * (n % g) ∨ (g = 2 * (n % g) ∧ n / g % 2 = 1) then 1 else 0)
theorem rhe_one (n : Nat) : rhe n 1 = n := by simp [rhe, Nat.mod_one]
theorem rhe_zero (g : Nat) : rhe 0 g = 0 := by
  simp [rhe]
theorem rhe_mul (n g c : Nat) (hc : 0 < c) : rhe (n * c) (g * c) = rhe n g := by
  unfold rhe
  rw [Nat.mul_div_mul_right _ _ hc, Nat.mul_mod_mul_right]
  have h1 : (g * c < 2 * (n % g * c)) ↔ (g < 2 * (n % g)) := by
    rw [← Nat.mul_assoc]; exact Nat.mul_lt_mul_right hc
  have h2 : (g * c = 2 * (n % g * c)) ↔ (g = 2 * (n % g)) := by
    rw [← Nat.mul_assoc]; exact Nat.mul_left_inj (by omega)
  simp only [h1, h2]
theorem rhe_exact (n g : Nat) (hg : 0 < g) : rhe (n * g) g = n := by
  have := rhe_mul n 1 g hg
  rw [Nat.one_mul] at this; rw [this, rhe_one]
theorem rhe_small (n g : Nat) (h : 2 * n < g) : rhe n g = 0 := by
  unfold rhe
  have : n < g := by omega
  rw [Nat.div_eq_of_lt this, Nat.mod_eq_of_lt this, if_neg (by omega)]
theorem rhe_mono (m n g : Nat) (_hg : 0 < g) (h : m ≤ n) : rhe m g ≤ rhe n g := by
  unfold rhe
  have hd := Nat.div_le_div_right (c := g) h
  rcases Nat.lt_or_ge (m / g) (n / g) with h1 | h1
  · split <;> split <;> omega
  · have he : m / g = n / g := by omega
    have hm := Nat.div_add_mod m g
    have hn := Nat.div_add_mod n g
    rw [he] at hm ⊢
    have : m % g ≤ n % g := by omega
    split <;> split <;> omega
theorem rhe_le_of (n g k : Nat) (hg : 0 < g) (h : n ≤ g * k) : rhe n g ≤ k := by
  have := rhe_mono n (k * g) g hg (by rw [Nat.mul_comm]; exact h)
  rwa [rhe_exact _ _ hg] at this
theorem rhe_ge_of (n g k : Nat) (hg : 0 < g) (h : g * k ≤ n) : k ≤ rhe n g := by
  have := rhe_mono (k * g) n g hg (by rw [Nat.mul_comm]; exact h)
  rwa [rhe_exact _ _ hg] at this
theorem cut_even (neg : Bool) (n d : Nat) : Toward.even.cut neg n d = rhe n (2 ^ d) := by
  have key : ∀ e, Toward.even.cut neg n d = rhe n (2 ^ (min d (n.log2 + 2))) ∧ (e = 0 → True) := by
    intro e
    refine ⟨?_, fun _ => trivial⟩
    unfold Toward.cut rhe
    simp only [Nat.one_shiftLeft]
    generalize 2 ^ (min d (n.log2 + 2)) = g
    congr 1
    by_cases c1 : g < 2 * (n % g)
    · simp [c1]
    · by_cases c2 : g = 2 * (n % g)
      · by_cases c3 : n / g % 2 = 1
        · simp [← c2, c3]
        · simp [← c2, c3]
      · simp [c1, c2]
  rw [(key 0).1]
  rcases Nat.le_total d (n.log2 + 2) with h | h
  · rw [Nat.min_eq_left h]
  · rw [Nat.min_eq_right h]
    have h1 : n < 2 ^ (n.log2 + 1) := Nat.lt_log2_self
    have h2 : 2 ^ (n.log2 + 2) = 2 * 2 ^ (n.log2 + 1) := by rw [Nat.pow_succ]; omega
    have h3 : 2 ^ (n.log2 + 2) ≤ 2 ^ d := Nat.pow_le_pow_right (by omega) h
    rw [rhe_small _ _ (by omega), rhe_small _ _ (by omega)]
/-! ### rounding to a rung -/
/-- The rung of M / 2^k units of a format whose fraction field has fb bits, before the cut at infinity. -/
def rungOf (fb M k : Nat) : Nat := (M.log2 - fb - k) * 2 ^ fb + rhe M (2 ^ (k + (M.log2 - fb - k)))
theorem log2_eq (n k : Nat) (h1 : 2 ^ k ≤ n) (h2 : n < 2 ^ (k + 1)) : n.log2 = k := by
  have hn : n ≠ 0 := by have := Nat.two_pow_pos k; omega
  have a := (Nat.le_log2 hn (k := k)).2 h1
  have b := (Nat.log2_lt hn (k := k + 1)).2 h2
  omega
theorem log2_mul_pow (M j : Nat) (h : M ≠ 0) : (M * 2 ^ j).log2 = M.log2 + j := by
  refine log2_eq _ _ ?_ ?_
  · rw [Nat.pow_add]; exact Nat.mul_le_mul_right _ (Nat.log2_self_le h)
  · rw [show M.log2 + j + 1 = M.log2 + 1 + j by omega, Nat.pow_add]
    exact Nat.mul_lt_mul_of_pos_right Nat.lt_log2_self (Nat.two_pow_pos _)
theorem rungOf_zero (fb k : Nat) : rungOf fb 0 k = 0 := by
  simp [rungOf, rhe_zero]
theorem rungOf_scale (fb M k j : Nat) : rungOf fb (M * 2 ^ j) (k + j) = rungOf fb M k := by
  by_cases h : M = 0
  · subst h; simp [rungOf_zero]
  · unfold rungOf
    rw [log2_mul_pow M j h, show M.log2 + j - fb - (k + j) = M.log2 - fb - k by omega,
      show k + j + (M.log2 - fb - k) = k + (M.log2 - fb - k) + j by omega, Nat.pow_add _ _ j, rhe_mul _ _ _ (Nat.two_pow_pos _)]
theorem nearest_eq (f : Format) (neg : Bool) (M : Nat) (p : Int) :
    f.nearest neg M p = f.word neg (min (rungOf f.fractionBits (M * 2 ^ (p - f.leastPlace).toNat) (f.leastPlace - p).toNat) f.infRung) := by
  by_cases hM : M = 0
  · subst hM; simp [Format.nearest, rungOf_zero]
  · unfold Format.nearest Format.binade
    rw [if_neg hM]
    simp only [cut_even, Nat.shiftLeft_eq]
    congr 2
    unfold rungOf
    rw [log2_mul_pow M _ hM]
    generalize hl : f.leastPlace = L
    generalize f.fractionBits = fb
    have e1 : (max (p + (M.log2 : Int) - fb) L - L).toNat = M.log2 + (p - L).toNat - fb - (L - p).toNat := by omega
    rw [e1]
    congr 1
    generalize hd : M.log2 + (p - L).toNat - fb - (L - p).toNat = d
    generalize hm : max (p + (M.log2 : Int) - fb) L = m
    rcases Int.le_total m p with h | h
    · have a1 : (p - L).toNat = (p - m).toNat + d := by omega
      have a2 : (L - p).toNat = 0 := by omega
      have a3 : (m - p).toNat = 0 := by omega
      rw [a1, a2, a3, Nat.pow_add, ← Nat.mul_assoc, Nat.zero_add, rhe_exact _ _ (Nat.two_pow_pos _), Nat.pow_zero, rhe_one]
    · have a1 : (p - m).toNat = 0 := by omega
      rcases Int.le_total L p with h' | h'
      · have a2 : (L - p).toNat = 0 := by omega
        have a3 : d = (m - p).toNat + (p - L).toNat := by omega
        rw [a1, a2, a3, Nat.pow_zero, Nat.mul_one, Nat.zero_add, Nat.pow_add, rhe_mul _ _ _ (Nat.two_pow_pos _)]
      · have a2 : (p - L).toNat = 0 := by omega
        rw [a1, a2, Nat.pow_zero, Nat.mul_one]
        congr 2; omega
/-! ### the value of a rung -/
/-- How many units the rung r stands for. -/
def val (fb r : Nat) : Nat := if r < 2 ^ fb then r else (2 ^ fb + r % 2 ^ fb) * 2 ^ (r / 2 ^ fb - 1)
theorem val_zero (fb : Nat) : val fb 0 = 0 := by simp [val, Nat.two_pow_pos]
theorem val_small (fb r : Nat) (h : r < 2 * 2 ^ fb) : val fb r = r := by
  unfold val
  split
  · rfl
  · rename_i h1
    have hd : r / 2 ^ fb = 1 := Nat.div_eq_of_lt_le (by omega) (by omega)
    have hm := Nat.div_add_mod r (2 ^ fb)
    rw [hd] at hm ⊢
    simp; omega
theorem val_bounds (fb r : Nat) (h : 2 ^ fb ≤ r) : 2 ^ fb * 2 ^ (r / 2 ^ fb - 1) ≤ val fb r ∧ val fb r < 2 ^ fb * 2 ^ (r / 2 ^ fb) := by
  unfold val
  rw [if_neg (by omega)]
  have hq : 1 ≤ r / 2 ^ fb := (Nat.le_div_iff_mul_le (Nat.two_pow_pos _)).2 (by omega)
  have hm := Nat.mod_lt r (Nat.two_pow_pos fb)
  have e : 2 ^ (r / 2 ^ fb) = 2 * 2 ^ (r / 2 ^ fb - 1) := by
    rw [← Nat.pow_succ']; congr 1; omega
  rw [e, ← Nat.mul_assoc]
  refine ⟨Nat.mul_le_mul_right _ (by omega), Nat.mul_lt_mul_of_pos_right (by omega) (Nat.two_pow_pos _)⟩
theorem val_lt (fb r s : Nat) (h : r < s) : val fb r < val fb s := by
  have hB := Nat.two_pow_pos fb
  by_cases hr : r < 2 ^ fb
  · rw [val_small fb r (by omega)]
    by_cases hs : s < 2 ^ fb
    · rw [val_small fb s (by omega)]; exact h
    · have := (val_bounds fb s (by omega)).1
      have h2 : 2 ^ fb * 1 ≤ 2 ^ fb * 2 ^ (s / 2 ^ fb - 1) := Nat.mul_le_mul_left _ (Nat.two_pow_pos _)
      omega
  · have hs : 2 ^ fb ≤ s := by omega
    have hq : r / 2 ^ fb ≤ s / 2 ^ fb := Nat.div_le_div_right (by omega)
    rcases Nat.lt_or_eq_of_le hq with hq | hq
    · have h1 := (val_bounds fb r (by omega)).2
      have h2 := (val_bounds fb s hs).1
      have h3 : 2 ^ fb * 2 ^ (r / 2 ^ fb) ≤ 2 ^ fb * 2 ^ (s / 2 ^ fb - 1) := Nat.mul_le_mul_left _ (Nat.pow_le_pow_right (by omega) (by omega))
      omega
    · unfold val
      rw [if_neg hr, if_neg (by omega), hq]
      have hm := Nat.div_add_mod r (2 ^ fb)
      have hn := Nat.div_add_mod s (2 ^ fb)
      rw [hq] at hm
      exact Nat.mul_lt_mul_of_pos_right (by omega) (Nat.two_pow_pos _)
theorem val_le (fb r s : Nat) (h : r ≤ s) : val fb r ≤ val fb s := by
  rcases Nat.lt_or_eq_of_le h with h | h
  · exact Nat.le_of_lt (val_lt fb r s h)
  · rw [h]; exact Nat.le_refl _
/-- A rung's own value comes back to it. -/
theorem rungOf_val (fb r : Nat) : rungOf fb (val fb r) 0 = r := by
  have hB := Nat.two_pow_pos fb
  by_cases hr : r < 2 * 2 ^ fb
  · rw [val_small fb r hr]
    unfold rungOf
    have : r.log2 - fb = 0 := by
      by_cases h0 : r = 0
      · subst h0; simp
      · have := (Nat.log2_lt h0 (k := fb + 1)).2 (by rw [Nat.pow_succ]; omega)
        omega
    simp [this, rhe_one]
  · have hb := val_bounds fb r (by omega)
    have hq : 2 ≤ r / 2 ^ fb := (Nat.le_div_iff_mul_le hB).2 (by omega)
    have hl : (val fb r).log2 = fb + (r / 2 ^ fb - 1) := by
      refine log2_eq _ _ (by rw [Nat.pow_add]; exact hb.1) ?_
      rw [show fb + (r / 2 ^ fb - 1) + 1 = fb + r / 2 ^ fb by omega, Nat.pow_add]; exact hb.2
    unfold rungOf
    rw [hl, show fb + (r / 2 ^ fb - 1) - fb - 0 = r / 2 ^ fb - 1 by omega, Nat.zero_add]
    unfold val
    rw [if_neg (by omega), rhe_exact _ _ (Nat.two_pow_pos _)]
    have := Nat.div_add_mod r (2 ^ fb)
    generalize r / 2 ^ fb = q at *
    obtain ⟨q', rfl⟩ : ∃ q', q = q' + 1 := ⟨q - 1, by omega⟩
    rw [Nat.mul_add, Nat.mul_one] at this
    rw [Nat.add_sub_cancel, Nat.mul_comm q']
    omega
/-! ### words: sign and rung -/
/-- sign bit, rung of a binary64 word -/
def sg (b : Nat) : Bool := decide (9223372036854775808 ≤ b)
def rg (b : Nat) : Nat := b % 9223372036854775808
def INF : Nat := 9218868437227405312
def isN (b : Nat) : Bool := decide (INF < rg b)
def word (neg : Bool) (r : Nat) : Nat := if neg then 9223372036854775808 + r else r
theorem d_signWeight : double.signWeight = 9223372036854775808 := by decide
theorem d_binade : double.binade = 4503599627370496 := by decide
theorem d_inf : double.infRung = INF := by decide
theorem d_least : double.leastPlace = -1074 := by decide
theorem d_fb : double.fractionBits = 52 := rfl
theorem word_eq (neg : Bool) (r : Nat) : double.word neg r = word neg r := by
  unfold Format.word word; rw [d_signWeight]
theorem sg_word (neg : Bool) (r : Nat) (h : r < 9223372036854775808) : sg (word neg r) = neg := by
  cases neg <;> simp [sg, word] <;> omega
theorem rg_word (neg : Bool) (r : Nat) (h : r < 9223372036854775808) : rg (word neg r) = r := by
  cases neg <;> simp [rg, word] <;> omega
theorem word_self (b : Nat) (h : b < 18446744073709551616) : word (sg b) (rg b) = b := by
  unfold word sg rg
  by_cases c : 9223372036854775808 ≤ b
  · rw [decide_eq_true c, if_pos rfl]; omega
  · rw [decide_eq_false c, if_neg (by decide)]; omega
theorem rg_lt (b : Nat) : rg b < 9223372036854775808 := Nat.mod_lt _ (by decide)
/-- What a word stands for, by its sign and rung. -/
theorem read_eq (b : Nat) (h : b < 18446744073709551616) : double.read b =
    if rg b < 4503599627370496 then .number (sg b) (rg b) (-1074)
    else if rg b < INF then .number (sg b) (4503599627370496 + rg b % 4503599627370496) (-1074 + ((rg b / 4503599627370496 - 1 : Nat) : Int))
    else if rg b = INF then .infinity (sg b) else .nan (sg b) (rg b - INF) := by
  have hs : (b / double.signWeight % 2 == 1) = sg b := by
    rw [d_signWeight]; unfold sg
    by_cases c : 9223372036854775808 ≤ b
    · rw [decide_eq_true c]; simp; omega
    · rw [decide_eq_false c]; simp; omega
  unfold Format.read
  simp only [hs]
  simp only [d_signWeight, d_binade, d_inf, d_least]
  rfl
/-- The signed number of units. -/
def un (b : Nat) : Int := if sg b then -(val 52 (rg b) : Int) else (val 52 (rg b) : Int)
/-- The signed rung. -/
def skey (b : Nat) : Int := if sg b then -(rg b : Int) else (rg b : Int)
theorem un_lt_iff (x y : Nat) : un x < un y ↔ skey x < skey y := by
  have m := fun r s => val_lt 52 r s
  have z := val_zero 52
  unfold un skey
  generalize rg x = r
  generalize rg y = s
  have m1 := m r s
  have m2 := m s r
  have m3 := m 0 r
  have m4 := m 0 s
  rw [z] at m3 m4
  have e : r = s → val 52 r = val 52 s := fun h => by rw [h]
  have e1 : r = 0 → val 52 r = 0 := fun h => by rw [h, z]
  have e2 : s = 0 → val 52 s = 0 := fun h => by rw [h, z]
  generalize val 52 r = a at *
  generalize val 52 s = b at *
  cases sg x <;> cases sg y <;> simp <;> omega
theorem un_eq_iff (x y : Nat) : un x = un y ↔ skey x = skey y := by
  have a := un_lt_iff x y
  have b := un_lt_iff y x
  omega
theorem isN_false {b : Nat} (h : isN b = false) : rg b ≤ INF := by unfold isN at h; simpa using h
theorem isN_true {b : Nat} (h : isN b = true) : INF < rg b := by unfold isN at h; simpa using h
def fin (b : Nat) : Bool := decide (rg b < INF)
theorem fin_true {b : Nat} (h : fin b = true) : rg b < INF := by unfold fin at h; simpa using h
theorem fin_false {b : Nat} (h : fin b = false) : INF ≤ rg b := by unfold fin at h; simpa using h
theorem fin_not_nan {b : Nat} (h : fin b = true) : isN b = false := by have := fin_true h; unfold isN; simp; omega
/-- Of a finite word: a number of so many units. -/
theorem read_fin (b : Nat) (h : b < 18446744073709551616) (hf : fin b = true) :
    ∃ m j : Nat, double.read b = .number (sg b) m (-1074 + (j : Int)) ∧ m * 2 ^ j = val 52 (rg b) := by
  have hf := fin_true hf
  rw [read_eq b h]
  by_cases c : rg b < 4503599627370496
  · refine ⟨rg b, 0, by rw [if_pos c]; rfl, ?_⟩
    rw [val_small 52 _ (by omega)]; simp
  · refine ⟨_, _, by rw [if_neg c, if_pos hf], ?_⟩
    unfold val
    rw [if_neg (by omega)]
theorem read_inf (b : Nat) (h : b < 18446744073709551616) (hf : rg b = INF) : double.read b = .infinity (sg b) := by
  rw [read_eq b h, if_neg (by rw [hf]; decide), if_neg (by omega), if_pos hf]
theorem read_nan (b : Nat) (h : b < 18446744073709551616) (hf : isN b = true) : double.read b = .nan (sg b) (rg b - INF) := by
  have hf := isN_true hf
  rw [read_eq b h, if_neg (by unfold INF at hf; omega), if_neg (by omega), if_neg (by omega)]
theorem signed_eq (s : Bool) (m up : Nat) : signed s m up = if s then -((m * 2 ^ up : Nat) : Int) else ((m * 2 ^ up : Nat) : Int) := by
  unfold signed; rw [Nat.shiftLeft_eq]
theorem un_of (s : Bool) (b m j : Nat) (hs : s = sg b) (h : m * 2 ^ j = val 52 (rg b)) (base : Nat) (hb : base ≤ j) : signed s m (j - base) * 2 ^ base = un b := by
  rw [signed_eq, hs]
  unfold un
  rw [← h]
  have e : 2 ^ j = 2 ^ (j - base) * 2 ^ base := by rw [← Nat.pow_add]; congr 1; omega
  rw [e, ← Nat.mul_assoc]
  cases sg b <;> simp [Int.neg_mul]
theorem compare_int (a b : Int) : compare a b = if a < b then .lt else if a = b then .eq else .gt := by
  rfl
theorem compare_scale (a b : Int) (c : Nat) (hc : 0 < c) : compare a b = compare (a * (c : Int)) (b * (c : Int)) := by
  have hc' : (0 : Int) < (c : Int) := by omega
  rw [compare_int, compare_int]
  have h1 : a * (c : Int) < b * (c : Int) ↔ a < b := Int.mul_lt_mul_right hc'
  have h2 : a * (c : Int) = b * (c : Int) ↔ a = b := Int.mul_eq_mul_right_iff (by omega)
  simp only [h1, h2]
/-- THE ORDER, BY SIGNED RUNGS. -/
theorem order_eq (x y : Nat) (hx : x < 18446744073709551616) (hy : y < 18446744073709551616) :
    double.order x y = if isN x || isN y then none else some (compare (skey x) (skey y)) := by
  unfold Format.order
  by_cases nx : isN x = true
  · rw [read_nan x hx nx, nx]; rfl
  by_cases ny : isN y = true
  · rw [read_nan y hy ny, ny, Bool.or_true]
    cases double.read x <;> rfl
  simp only [Bool.not_eq_true] at nx ny
  rw [nx, ny]
  have bx := isN_false nx
  have bry := isN_false ny
  simp only [Bool.or_self, Bool.false_eq_true, if_false]
  by_cases fx : fin x = true <;> by_cases fy : fin y = true
  · obtain ⟨m, i, ex, vx⟩ := read_fin x hx fx
    obtain ⟨n, j, ey, vy⟩ := read_fin y hy fy
    rw [ex, ey]
    simp only [Datum.order]
    congr 1
    have e1 : (-1074 + (i : Int) - min (-1074 + (i : Int)) (-1074 + (j : Int))).toNat = i - min i j := by omega
    have e2 : (-1074 + (j : Int) - min (-1074 + (i : Int)) (-1074 + (j : Int))).toNat = j - min i j := by omega
    rw [e1, e2, compare_scale _ _ (2 ^ min i j) (Nat.two_pow_pos _)]
    have u1 := un_of (sg x) x m i rfl vx (min i j) (Nat.min_le_left _ _)
    have u2 := un_of (sg y) y n j rfl vy (min i j) (Nat.min_le_right _ _)
    rw [show ((2 ^ min i j : Nat) : Int) = 2 ^ min i j by simp, u1, u2]
    rw [compare_int, compare_int]
    simp only [un_lt_iff, un_eq_iff]
  · simp only [Bool.not_eq_true] at fy
    have fy' := fin_false fy
    obtain ⟨m, i, ex, vx⟩ := read_fin x hx fx
    have fx' := fin_true fx
    rw [ex, read_inf y hy (by omega)]
    simp only [Datum.order]
    congr 1
    rw [compare_int]
    unfold skey
    cases sg x <;> cases sg y <;> simp <;> (repeat' split) <;> first | rfl | omega
  · simp only [Bool.not_eq_true] at fx
    have fx' := fin_false fx
    obtain ⟨m, i, ex, vx⟩ := read_fin y hy fy
    have fy' := fin_true fy
    rw [ex, read_inf x hx (by omega)]
    simp only [Datum.order]
    congr 1
    rw [compare_int]
    unfold skey
    cases sg x <;> cases sg y <;> simp <;> (repeat' split) <;> first | rfl | omega
  · simp only [Bool.not_eq_true] at fx fy
    have fx' := fin_false fx
    have fy' := fin_false fy
    rw [read_inf x hx (by omega), read_inf y hy (by omega)]
    simp only [Datum.order]
    congr 1
    rw [compare_int]
    unfold skey
    rw [show rg x = INF by omega, show rg y = INF by omega]
    cases sg x <;> cases sg y <;> decide
end Go.Proofs.YtjkifbkehochoaaGreatDoor.Fl

namespace Go.Proofs.YtjkifbkehochoaaGreatDoor.Fl
open Ieee
/-- A number of units whose low digits (those that the format has no room for) are nought comes back whole. -/
theorem val_rungOf (fb N : Nat) (h : 2 ^ (N.log2 - fb) ∣ N) : val fb (rungOf fb N 0) = N := by
  by_cases h0 : N = 0
  · subst h0; rw [rungOf_zero, val_zero]
  have hB := Nat.two_pow_pos fb
  unfold rungOf
  rw [Nat.sub_zero, Nat.zero_add]
  obtain ⟨q, hq⟩ := h
  have hr : rhe N (2 ^ (N.log2 - fb)) = q := by
    conv => lhs; arg 1; rw [hq, Nat.mul_comm]
    exact rhe_exact _ _ (Nat.two_pow_pos _)
  rw [hr]
  have l1 := Nat.log2_self_le h0
  have l2 : N < 2 ^ (N.log2 + 1) := Nat.lt_log2_self
  rcases Nat.lt_or_ge fb N.log2 with hd | hd
  · have e1 : N.log2 = fb + (N.log2 - fb) := by omega
    generalize N.log2 - fb = d at *
    have hd1 : 1 ≤ d := by omega
    rw [e1, Nat.pow_add] at l1
    rw [e1, show fb + d + 1 = (fb + 1) + d by omega, Nat.pow_add, Nat.pow_succ] at l2
    rw [hq, Nat.mul_comm (2 ^ fb)] at l1
    rw [hq, Nat.mul_comm (2 ^ fb * 2)] at l2
    have q1 := Nat.le_of_mul_le_mul_left l1 (Nat.two_pow_pos d)
    have q2 := Nat.lt_of_mul_lt_mul_left l2
    have hdiv : (d * 2 ^ fb + q) / 2 ^ fb = d + 1 := Nat.div_eq_of_lt_le (by rw [Nat.succ_mul]; omega) (by rw [Nat.succ_mul, Nat.succ_mul]; omega)
    have hmod := Nat.div_add_mod (d * 2 ^ fb + q) (2 ^ fb)
    rw [hdiv, Nat.mul_add, Nat.mul_one, Nat.mul_comm (2 ^ fb) d] at hmod
    unfold val
    have hge : ¬ d * 2 ^ fb + q < 2 ^ fb := by omega
    rw [if_neg hge, hdiv, show d + 1 - 1 = d by omega, hq, Nat.mul_comm]
    congr 1; omega
  · have e1 : N.log2 - fb = 0 := by omega
    rw [e1] at hq ⊢
    rw [Nat.pow_zero, Nat.one_mul] at hq
    rw [Nat.zero_mul, Nat.zero_add, ← hq]
    refine val_small _ _ ?_
    have : 2 ^ (N.log2 + 1) ≤ 2 ^ (fb + 1) := Nat.pow_le_pow_right (by omega) (by omega)
    rw [Nat.pow_succ 2 fb] at this
    omega
theorem dvd_of_small (fb a j : Nat) (h : a < 2 * 2 ^ fb) : 2 ^ ((a * 2 ^ j).log2 - fb) ∣ a * 2 ^ j := by
  by_cases h0 : a = 0
  · subst h0; simp
  · rw [log2_mul_pow a j h0]
    have : a.log2 < fb + 1 := (Nat.log2_lt h0).2 (by rw [Nat.pow_succ]; omega)
    exact Nat.dvd_mul_left_of_dvd (Nat.pow_dvd_pow 2 (by omega)) a
theorem dvd_of_le (fb a j : Nat) (h : a ≤ 2 * 2 ^ fb) : 2 ^ ((a * 2 ^ j).log2 - fb) ∣ a * 2 ^ j := by
  rcases Nat.lt_or_eq_of_le h with h | h
  · exact dvd_of_small fb a j h
  · have e : a * 2 ^ j = 1 * 2 ^ (fb + 1 + j) := by rw [h, Nat.one_mul, ← Nat.pow_succ', ← Nat.pow_add]
    rw [e]
    refine dvd_of_small fb 1 _ ?_
    have := Nat.two_pow_pos fb
    omega
theorem val_rungOf_small (fb a j : Nat) (h : a ≤ 2 * 2 ^ fb) : val fb (rungOf fb (a * 2 ^ j) 0) = a * 2 ^ j := val_rungOf _ _ (dvd_of_le fb a j h)
/-- Rounding keeps the order. -/
theorem rungOf_mono (fb M N k : Nat) (h : M ≤ N) : rungOf fb M k ≤ rungOf fb N k := by
  by_cases h0 : M = 0
  · subst h0; rw [rungOf_zero]; exact Nat.zero_le _
  have h0' : N ≠ 0 := by omega
  have hl : M.log2 ≤ N.log2 := (Nat.le_log2 h0').2 (Nat.le_trans (Nat.log2_self_le h0) h)
  unfold rungOf
  generalize hd : M.log2 - fb - k = d
  generalize he : N.log2 - fb - k = e
  have hB := Nat.two_pow_pos fb
  rcases Nat.lt_or_eq_of_le (show d ≤ e by omega) with hlt | heq
  · -- the one's significand is at most the next binade's first
    have l2 : M < 2 ^ (M.log2 + 1) := Nat.lt_log2_self
    have l1 := Nat.log2_self_le h0'
    have a1 : rhe M (2 ^ (k + d)) ≤ 2 * 2 ^ fb := by
      refine rhe_le_of _ _ _ (Nat.two_pow_pos _) ?_
      have : 2 ^ (M.log2 + 1) ≤ 2 ^ (k + d + (fb + 1)) := Nat.pow_le_pow_right (by omega) (by omega)
      rw [Nat.pow_add _ (k + d), Nat.pow_succ 2 fb, Nat.mul_comm (2 ^ fb) 2] at this
      omega
    have a2 : 2 ^ fb ≤ rhe N (2 ^ (k + e)) := by
      refine rhe_ge_of _ _ _ (Nat.two_pow_pos _) ?_
      rw [← Nat.pow_add]
      refine Nat.le_trans (Nat.pow_le_pow_right (by omega) (by omega)) l1
    have a3 : (d + 1) * 2 ^ fb ≤ e * 2 ^ fb := Nat.mul_le_mul_right _ (by omega)
    rw [Nat.succ_mul] at a3
    omega
  · subst heq
    have := rhe_mono M N (2 ^ (k + d)) (Nat.two_pow_pos _) h
    omega
/-! ### rounding in binary64 -/
/-- The rung nearest to N units. -/
def rnd (N : Nat) : Nat := min (rungOf 52 N 0) INF
theorem rnd_le (N : Nat) : rnd N ≤ INF := Nat.min_le_right _ _
theorem rnd_lt (N : Nat) : rnd N < 9223372036854775808 := Nat.lt_of_le_of_lt (rnd_le N) (by decide)
theorem rnd_val (r : Nat) (h : r ≤ INF) : rnd (val 52 r) = r := by unfold rnd; rw [rungOf_val]; omega
theorem rnd_mono {M N : Nat} (h : M ≤ N) : rnd M ≤ rnd N := by
  have := rungOf_mono 52 M N 0 h
  unfold rnd; omega
theorem rnd_zero : rnd 0 = 0 := by unfold rnd; rw [rungOf_zero]; exact Nat.zero_min _
theorem d_nearest (neg : Bool) (M : Nat) (p : Int) (h : -1074 ≤ p) : double.nearest neg M p = word neg (rnd (M * 2 ^ (p + 1074).toNat)) := by
  rw [nearest_eq, word_eq, d_fb, d_inf, d_least]
  unfold rnd
  rw [show (-1074 - p).toNat = 0 by omega, show (p - -1074) = p + 1074 by omega]
theorem d_nearest_scale (neg : Bool) (M j : Nat) (p : Int) : double.nearest neg (M * 2 ^ j) p = double.nearest neg M (p + j) := by
  rw [nearest_eq, nearest_eq, word_eq, d_fb, d_inf, d_least]
  rw [word_eq]
  refine congrArg (fun r => word neg (min r INF)) ?_
  rcases Int.le_total (-1074) p with h | h
  · rw [show (-1074 - p).toNat = 0 by omega, show (-1074 - (p + (j : Int))).toNat = 0 by omega, Nat.mul_assoc, ← Nat.pow_add]
    congr 3; omega
  · rw [show (p - -1074).toNat = 0 by omega, Nat.pow_zero, Nat.mul_one]
    rcases Int.le_total (-1074) (p + j) with h' | h'
    · rw [show (-1074 - (p + (j : Int))).toNat = 0 by omega]
      have : j = (p + (j : Int) - -1074).toNat + (-1074 - p).toNat := by omega
      generalize ha : (p + (j : Int) - -1074).toNat = a at *
      generalize hb : (-1074 - p).toNat = b at *
      rw [this, Nat.pow_add, ← Nat.mul_assoc]
      have := rungOf_scale 52 (M * 2 ^ a) 0 b
      rw [Nat.zero_add] at this
      exact this
    · rw [show (p + (j : Int) - -1074).toNat = 0 by omega, Nat.pow_zero, Nat.mul_one]
      rw [show (-1074 - p).toNat = (-1074 - (p + (j : Int))).toNat + j by omega]
      exact rungOf_scale 52 M _ j
/-! ### whole numbers -/
/-- The units of 1. -/
def K : Nat := 1074
theorem K_eq : K = 1074 := rfl
def ONE : Nat := 2 ^ K
theorem one_pow : ONE = 2 ^ K := rfl
theorem one_pos : 0 < ONE := Nat.two_pow_pos _
theorem one_split (j k : Nat) (h : j + k = K) : ONE = 2 ^ j * 2 ^ k := by rw [one_pow, ← Nat.pow_add, h]
theorem pow_one (j k : Nat) (h : j = k + K) : 2 ^ j = 2 ^ k * ONE := by rw [one_pow, ← Nat.pow_add, h]
/-- The nearest whole number, of two the even one, with the sign. -/
def whole (b : Nat) : Nat := word (sg b) (rnd (rhe (val 52 (rg b)) ONE * ONE))
attribute [irreducible] ONE
/-! ### of one and itself -/
end Go.Proofs.YtjkifbkehochoaaGreatDoor.Fl
