/- Plain laws of binary floating point over Ieee: rounding in units, order, sums. No program in sight. Plain laws, second part: what is representable; whole numbers; scaling; binary32. The number nearest to a quotient of whole numbers: by cutting to 56 bits; by what lies beneath it. Plain laws. The number nearest to a quotient, found between a rung and the next. Plain laws. Digits at a point: which number they are read as. Plain laws. The rung nearest to a quotient: scaled, by order, by what lies half way. Plain laws. -/
import Ieee.Arith
namespace Go.Proofs.YtlgencbldbpbdaaGreatDoor.Fl
open Ieee
def rhe (n g : Nat) : Nat := n / g + (if g < 2 * (n % g) ∨ (g = 2 * (n % g) ∧ n / g % 2 = 1) then 1 else 0)
theorem rhe_one (n : Nat) : rhe n 1 = n := by simp [rhe, Nat.mod_one]
theorem rhe_zero (g : Nat) : rhe 0 g = 0 := by
 simp [rhe]
theorem rhe_mul (n g c : Nat) (hc : 0 < c) : rhe (n * c) (g * c) = rhe n g := by
 unfold rhe
 rw [Nat.mul_div_mul_right _ _ hc, Nat.mul_mod_mul_right]
 have h1 : (g * c < 2 * (n % g * c)) ↔ (g < 2 * (n % g)) := by
  rw [← Nat.mul_assoc]; exact Nat.mul_lt_mul_right hc
 have h2 : (g * c = 2 * (n % g * c)) ↔ (g = 2 * (n % g)) := by
  rw [← Nat.mul_assoc]; exact Nat.mul_left_inj (by omega)
 simp only [h1, h2]
theorem rhe_exact (n g : Nat) (hg : 0 < g) : rhe (n * g) g = n := by
 have := rhe_mul n 1 g hg
 rw [Nat.one_mul] at this; rw [this, rhe_one]
theorem rhe_small (n g : Nat) (h : 2 * n < g) : rhe n g = 0 := by
 unfold rhe
 have : n < g := by omega
 rw [Nat.div_eq_of_lt this, Nat.mod_eq_of_lt this, if_neg (by omega)]
theorem rhe_mono (m n g : Nat) (_hg : 0 < g) (h : m ≤ n) : rhe m g ≤ rhe n g := by
 unfold rhe
 have hd := Nat.div_le_div_right (c := g) h
 rcases Nat.lt_or_ge (m / g) (n / g) with h1 | h1
 ·split <;> split <;> omega
 ·have he : m / g = n / g := by omega
  have hm := Nat.div_add_mod m g
  have hn := Nat.div_add_mod n g
  rw [he] at hm ⊢
  have : m % g ≤ n % g := by omega
  split <;> split <;> omega
theorem rhe_le_of (n g k : Nat) (hg : 0 < g) (h : n ≤ g * k) : rhe n g ≤ k := by
 have := rhe_mono n (k * g) g hg (by rw [Nat.mul_comm]; exact h)
 rwa [rhe_exact _ _ hg] at this
theorem rhe_ge_of (n g k : Nat) (hg : 0 < g) (h : g * k ≤ n) : k ≤ rhe n g := by
 have := rhe_mono (k * g) n g hg (by rw [Nat.mul_comm]; exact h)
 rwa [rhe_exact _ _ hg] at this
theorem cut_even (neg : Bool) (n d : Nat) : Toward.even.cut neg n d = rhe n (2 ^ d) := by
 have key : ∀ e, Toward.even.cut neg n d = rhe n (2 ^ (min d (n.log2 + 2))) ∧ (e = 0 → True) := by
  intro e
  refine ⟨?_, fun _ => trivial⟩
  unfold Toward.cut rhe
  simp only [Nat.one_shiftLeft]
  generalize 2 ^ (min d (n.log2 + 2)) = g
  congr 1
  by_cases c1 : g < 2 * (n % g)
  ·simp [c1]
  ·by_cases c2 : g = 2 * (n % g)
   ·by_cases c3 : n / g % 2 = 1
    ·simp [← c2, c3]
    ·simp [← c2, c3]
   ·simp [c1, c2]
 rw [(key 0).1]
 rcases Nat.le_total d (n.log2 + 2) with h | h
 ·rw [Nat.min_eq_left h]
 ·rw [Nat.min_eq_right h]
  have h1 : n < 2 ^ (n.log2 + 1) := Nat.lt_log2_self
  have h2 : 2 ^ (n.log2 + 2) = 2 * 2 ^ (n.log2 + 1) := by rw [Nat.pow_succ]; omega
  have h3 : 2 ^ (n.log2 + 2) ≤ 2 ^ d := Nat.pow_le_pow_right (by omega) h
  rw [rhe_small _ _ (by omega), rhe_small _ _ (by omega)]
def rungOf (fb M k : Nat) : Nat := (M.log2 - fb - k) * 2 ^ fb + rhe M (2 ^ (k + (M.log2 - fb - k)))
theorem log2_eq (n k : Nat) (h1 : 2 ^ k ≤ n) (h2 : n < 2 ^ (k + 1)) : n.log2 = k := by
 have hn : n ≠ 0 := by have := Nat.two_pow_pos k; omega
 have a := (Nat.le_log2 hn (k := k)).2 h1
 have b := (Nat.log2_lt hn (k := k + 1)).2 h2
 omega
theorem log2_mul_pow (M j : Nat) (h : M ≠ 0) : (M * 2 ^ j).log2 = M.log2 + j := by
 refine log2_eq _ _ ?_ ?_
 ·rw [Nat.pow_add]; exact Nat.mul_le_mul_right _ (Nat.log2_self_le h)
 ·rw [show M.log2 + j + 1 = M.log2 + 1 + j by omega, Nat.pow_add]
  exact Nat.mul_lt_mul_of_pos_right Nat.lt_log2_self (Nat.two_pow_pos _)
theorem rungOf_zero (fb k : Nat) : rungOf fb 0 k = 0 := by
 simp [rungOf, rhe_zero]
theorem rungOf_scale (fb M k j : Nat) : rungOf fb (M * 2 ^ j) (k + j) = rungOf fb M k := by
 by_cases h : M = 0
 ·subst h; simp [rungOf_zero]
 ·unfold rungOf
  rw [log2_mul_pow M j h, show M.log2 + j - fb - (k + j) = M.log2 - fb - k by omega,
   show k + j + (M.log2 - fb - k) = k + (M.log2 - fb - k) + j by omega, Nat.pow_add _ _ j, rhe_mul _ _ _ (Nat.two_pow_pos _)]
theorem nearest_eq (f : Format) (neg : Bool) (M : Nat) (p : Int) :
  f.nearest neg M p = f.word neg (min (rungOf f.fractionBits (M * 2 ^ (p - f.leastPlace).toNat) (f.leastPlace - p).toNat) f.infRung) := by
 by_cases hM : M = 0
 ·subst hM; simp [Format.nearest, rungOf_zero]
 ·unfold Format.nearest Format.binade
  rw [if_neg hM]
  simp only [cut_even, Nat.shiftLeft_eq]
  congr 2
  unfold rungOf
  rw [log2_mul_pow M _ hM]
  generalize hl : f.leastPlace = L
  generalize f.fractionBits = fb
  have e1 : (max (p + (M.log2 : Int) - fb) L - L).toNat = M.log2 + (p - L).toNat - fb - (L - p).toNat := by omega
  rw [e1]
  congr 1
  generalize hd : M.log2 + (p - L).toNat - fb - (L - p).toNat = d
  generalize hm : max (p + (M.log2 : Int) - fb) L = m
  rcases Int.le_total m p with h | h
  ·have a1 : (p - L).toNat = (p - m).toNat + d := by omega
   have a2 : (L - p).toNat = 0 := by omega
   have a3 : (m - p).toNat = 0 := by omega
   rw [a1, a2, a3, Nat.pow_add, ← Nat.mul_assoc, Nat.zero_add, rhe_exact _ _ (Nat.two_pow_pos _), Nat.pow_zero, rhe_one]
  ·have a1 : (p - m).toNat = 0 := by omega
   rcases Int.le_total L p with h' | h'
   ·have a2 : (L - p).toNat = 0 := by omega
    have a3 : d = (m - p).toNat + (p - L).toNat := by omega
    rw [a1, a2, a3, Nat.pow_zero, Nat.mul_one, Nat.zero_add, Nat.pow_add, rhe_mul _ _ _ (Nat.two_pow_pos _)]
   ·have a2 : (p - L).toNat = 0 := by omega
    rw [a1, a2, Nat.pow_zero, Nat.mul_one]
    congr 2; omega
def val (fb r : Nat) : Nat := if r < 2 ^ fb then r else (2 ^ fb + r % 2 ^ fb) * 2 ^ (r / 2 ^ fb - 1)
theorem val_zero (fb : Nat) : val fb 0 = 0 := by simp [val, Nat.two_pow_pos]
theorem val_small (fb r : Nat) (h : r < 2 * 2 ^ fb) : val fb r = r := by
 unfold val
 split
 ·rfl
 ·rename_i h1
  have hd : r / 2 ^ fb = 1 := Nat.div_eq_of_lt_le (by omega) (by omega)
  have hm := Nat.div_add_mod r (2 ^ fb)
  rw [hd] at hm ⊢
  simp; omega
theorem val_bounds (fb r : Nat) (h : 2 ^ fb ≤ r) : 2 ^ fb * 2 ^ (r / 2 ^ fb - 1) ≤ val fb r ∧ val fb r < 2 ^ fb * 2 ^ (r / 2 ^ fb) := by
 unfold val
 rw [if_neg (by omega)]
 have hq : 1 ≤ r / 2 ^ fb := (Nat.le_div_iff_mul_le (Nat.two_pow_pos _)).2 (by omega)
 have hm := Nat.mod_lt r (Nat.two_pow_pos fb)
 have e : 2 ^ (r / 2 ^ fb) = 2 * 2 ^ (r / 2 ^ fb - 1) := by
  rw [← Nat.pow_succ']; congr 1; omega
 rw [e, ← Nat.mul_assoc]
 refine ⟨Nat.mul_le_mul_right _ (by omega), Nat.mul_lt_mul_of_pos_right (by omega) (Nat.two_pow_pos _)⟩
theorem val_lt (fb r s : Nat) (h : r < s) : val fb r < val fb s := by
 have hB := Nat.two_pow_pos fb
 by_cases hr : r < 2 ^ fb
 ·rw [val_small fb r (by omega)]
  by_cases hs : s < 2 ^ fb
  ·rw [val_small fb s (by omega)]; exact h
  ·have := (val_bounds fb s (by omega)).1
   have h2 : 2 ^ fb * 1 ≤ 2 ^ fb * 2 ^ (s / 2 ^ fb - 1) := Nat.mul_le_mul_left _ (Nat.two_pow_pos _)
   omega
 ·have hs : 2 ^ fb ≤ s := by omega
  have hq : r / 2 ^ fb ≤ s / 2 ^ fb := Nat.div_le_div_right (by omega)
  rcases Nat.lt_or_eq_of_le hq with hq | hq
  ·have h1 := (val_bounds fb r (by omega)).2
   have h2 := (val_bounds fb s hs).1
   have h3 : 2 ^ fb * 2 ^ (r / 2 ^ fb) ≤ 2 ^ fb * 2 ^ (s / 2 ^ fb - 1) := Nat.mul_le_mul_left _ (Nat.pow_le_pow_right (by omega) (by omega))
   omega
  ·unfold val
   rw [if_neg hr, if_neg (by omega), hq]
   have hm := Nat.div_add_mod r (2 ^ fb)
   have hn := Nat.div_add_mod s (2 ^ fb)
   rw [hq] at hm
   exact Nat.mul_lt_mul_of_pos_right (by omega) (Nat.two_pow_pos _)
theorem val_le (fb r s : Nat) (h : r ≤ s) : val fb r ≤ val fb s := by
 rcases Nat.lt_or_eq_of_le h with h | h
 ·exact Nat.le_of_lt (val_lt fb r s h)
 ·rw [h]; exact Nat.le_refl _
theorem rungOf_val (fb r : Nat) : rungOf fb (val fb r) 0 = r := by
 have hB := Nat.two_pow_pos fb
 by_cases hr : r < 2 * 2 ^ fb
 ·rw [val_small fb r hr]
  unfold rungOf
  have : r.log2 - fb = 0 := by
   by_cases h0 : r = 0
   ·subst h0; simp
   ·have := (Nat.log2_lt h0 (k := fb + 1)).2 (by rw [Nat.pow_succ]; omega)
    omega
  simp [this, rhe_one]
 ·have hb := val_bounds fb r (by omega)
  have hq : 2 ≤ r / 2 ^ fb := (Nat.le_div_iff_mul_le hB).2 (by omega)
  have hl : (val fb r).log2 = fb + (r / 2 ^ fb - 1) := by
   refine log2_eq _ _ (by rw [Nat.pow_add]; exact hb.1) ?_
   rw [show fb + (r / 2 ^ fb - 1) + 1 = fb + r / 2 ^ fb by omega, Nat.pow_add]; exact hb.2
  unfold rungOf
  rw [hl, show fb + (r / 2 ^ fb - 1) - fb - 0 = r / 2 ^ fb - 1 by omega, Nat.zero_add]
  unfold val
  rw [if_neg (by omega), rhe_exact _ _ (Nat.two_pow_pos _)]
  have := Nat.div_add_mod r (2 ^ fb)
  generalize r / 2 ^ fb = q at *
  obtain ⟨q', rfl⟩ : ∃ q', q = q' + 1 := ⟨q - 1, by omega⟩
  rw [Nat.mul_add, Nat.mul_one] at this
  rw [Nat.add_sub_cancel, Nat.mul_comm q']
  omega
def sg (b : Nat) : Bool := decide (9223372036854775808 ≤ b)
def rg (b : Nat) : Nat := b % 9223372036854775808
def INF : Nat := 9218868437227405312
def isN (b : Nat) : Bool := decide (INF < rg b)
def word (neg : Bool) (r : Nat) : Nat := if neg then 9223372036854775808 + r else r
theorem d_signWeight : double.signWeight = 9223372036854775808 := by decide
theorem d_binade : double.binade = 4503599627370496 := by decide
theorem d_inf : double.infRung = INF := by decide
theorem d_least : double.leastPlace = -1074 := by decide
theorem d_fb : double.fractionBits = 52 := rfl
theorem word_eq (neg : Bool) (r : Nat) : double.word neg r = word neg r := by
 unfold Format.word word; rw [d_signWeight]
theorem sg_word (neg : Bool) (r : Nat) (h : r < 9223372036854775808) : sg (word neg r) = neg := by
 cases neg <;> simp [sg, word] <;> omega
theorem rg_word (neg : Bool) (r : Nat) (h : r < 9223372036854775808) : rg (word neg r) = r := by
 cases neg <;> simp [rg, word] <;> omega
theorem word_self (b : Nat) (h : b < 18446744073709551616) : word (sg b) (rg b) = b := by
 unfold word sg rg
 by_cases c : 9223372036854775808 ≤ b
 ·rw [decide_eq_true c, if_pos rfl]; omega
 ·rw [decide_eq_false c, if_neg (by decide)]; omega
theorem rg_lt (b : Nat) : rg b < 9223372036854775808 := Nat.mod_lt _ (by decide)
theorem read_eq (b : Nat) (h : b < 18446744073709551616) : double.read b =
  if rg b < 4503599627370496 then .number (sg b) (rg b) (-1074)
  else if rg b < INF then .number (sg b) (4503599627370496 + rg b % 4503599627370496) (-1074 + ((rg b / 4503599627370496 - 1 : Nat) : Int))
  else if rg b = INF then .infinity (sg b) else .nan (sg b) (rg b - INF) := by
 have hs : (b / double.signWeight % 2 == 1) = sg b := by
  rw [d_signWeight]; unfold sg
  by_cases c : 9223372036854775808 ≤ b
  ·rw [decide_eq_true c]; simp; omega
  ·rw [decide_eq_false c]; simp; omega
 unfold Format.read
 simp only [hs]
 simp only [d_signWeight, d_binade, d_inf, d_least]
 rfl
def un (b : Nat) : Int := if sg b then -(val 52 (rg b) : Int) else (val 52 (rg b) : Int)
def skey (b : Nat) : Int := if sg b then -(rg b : Int) else (rg b : Int)
theorem un_lt_iff (x y : Nat) : un x < un y ↔ skey x < skey y := by
 have m := fun r s => val_lt 52 r s
 have z := val_zero 52
 unfold un skey
 generalize rg x = r
 generalize rg y = s
 have m1 := m r s
 have m2 := m s r
 have m3 := m 0 r
 have m4 := m 0 s
 rw [z] at m3 m4
 have e : r = s → val 52 r = val 52 s := fun h => by rw [h]
 have e1 : r = 0 → val 52 r = 0 := fun h => by rw [h, z]
 have e2 : s = 0 → val 52 s = 0 := fun h => by rw [h, z]
 generalize val 52 r = a at *
 generalize val 52 s = b at *
 cases sg x <;> cases sg y <;> simp <;> omega
theorem un_eq_iff (x y : Nat) : un x = un y ↔ skey x = skey y := by
 have a := un_lt_iff x y
 have b := un_lt_iff y x
 omega
theorem isN_false {b : Nat} (h : isN b = false) : rg b ≤ INF := by unfold isN at h; simpa using h
theorem isN_true {b : Nat} (h : isN b = true) : INF < rg b := by unfold isN at h; simpa using h
def fin (b : Nat) : Bool := decide (rg b < INF)
theorem fin_true {b : Nat} (h : fin b = true) : rg b < INF := by unfold fin at h; simpa using h
theorem fin_false {b : Nat} (h : fin b = false) : INF ≤ rg b := by unfold fin at h; simpa using h
theorem fin_not_nan {b : Nat} (h : fin b = true) : isN b = false := by have := fin_true h; unfold isN; simp; omega
theorem read_fin (b : Nat) (h : b < 18446744073709551616) (hf : fin b = true) :
  ∃ m j : Nat, double.read b = .number (sg b) m (-1074 + (j : Int)) ∧ m * 2 ^ j = val 52 (rg b) := by
 have hf := fin_true hf
 rw [read_eq b h]
 by_cases c : rg b < 4503599627370496
 ·refine ⟨rg b, 0, by rw [if_pos c]; rfl, ?_⟩
  rw [val_small 52 _ (by omega)]; simp
 ·refine ⟨_, _, by rw [if_neg c, if_pos hf], ?_⟩
  unfold val
  rw [if_neg (by omega)]
theorem read_inf (b : Nat) (h : b < 18446744073709551616) (hf : rg b = INF) : double.read b = .infinity (sg b) := by
 rw [read_eq b h, if_neg (by rw [hf]; decide), if_neg (by omega), if_pos hf]
theorem read_nan (b : Nat) (h : b < 18446744073709551616) (hf : isN b = true) : double.read b = .nan (sg b) (rg b - INF) := by
 have hf := isN_true hf
 rw [read_eq b h, if_neg (by unfold INF at hf; omega), if_neg (by omega), if_neg (by omega)]
theorem signed_eq (s : Bool) (m up : Nat) : signed s m up = if s then -((m * 2 ^ up : Nat) : Int) else ((m * 2 ^ up : Nat) : Int) := by
 unfold signed; rw [Nat.shiftLeft_eq]
theorem un_of (s : Bool) (b m j : Nat) (hs : s = sg b) (h : m * 2 ^ j = val 52 (rg b)) (base : Nat) (hb : base ≤ j) : signed s m (j - base) * 2 ^ base = un b := by
 rw [signed_eq, hs]
 unfold un
 rw [← h]
 have e : 2 ^ j = 2 ^ (j - base) * 2 ^ base := by rw [← Nat.pow_add]; congr 1; omega
 rw [e, ← Nat.mul_assoc]
 cases sg b <;> simp [Int.neg_mul]
theorem compare_int (a b : Int) : compare a b = if a < b then .lt else if a = b then .eq else .gt := by
 rfl
theorem compare_scale (a b : Int) (c : Nat) (hc : 0 < c) : compare a b = compare (a * (c : Int)) (b * (c : Int)) := by
 have hc' : (0 : Int) < (c : Int) := by omega
 rw [compare_int, compare_int]
 have h1 : a * (c : Int) < b * (c : Int) ↔ a < b := Int.mul_lt_mul_right hc'
 have h2 : a * (c : Int) = b * (c : Int) ↔ a = b := Int.mul_eq_mul_right_iff (by omega)
 simp only [h1, h2]
theorem order_eq (x y : Nat) (hx : x < 18446744073709551616) (hy : y < 18446744073709551616) :
  double.order x y = if isN x || isN y then none else some (compare (skey x) (skey y)) := by
 unfold Format.order
 by_cases nx : isN x = true
 ·rw [read_nan x hx nx, nx]; rfl
 by_cases ny : isN y = true
 ·rw [read_nan y hy ny, ny, Bool.or_true]
  cases double.read x <;> rfl
 simp only [Bool.not_eq_true] at nx ny
 rw [nx, ny]
 have bx := isN_false nx
 have bry := isN_false ny
 simp only [Bool.or_self, Bool.false_eq_true, if_false]
 by_cases fx : fin x = true <;> by_cases fy : fin y = true
 ·obtain ⟨m, i, ex, vx⟩ := read_fin x hx fx
  obtain ⟨n, j, ey, vy⟩ := read_fin y hy fy
  rw [ex, ey]
  simp only [Datum.order]
  congr 1
  have e1 : (-1074 + (i : Int) - min (-1074 + (i : Int)) (-1074 + (j : Int))).toNat = i - min i j := by omega
  have e2 : (-1074 + (j : Int) - min (-1074 + (i : Int)) (-1074 + (j : Int))).toNat = j - min i j := by omega
  rw [e1, e2, compare_scale _ _ (2 ^ min i j) (Nat.two_pow_pos _)]
  have u1 := un_of (sg x) x m i rfl vx (min i j) (Nat.min_le_left _ _)
  have u2 := un_of (sg y) y n j rfl vy (min i j) (Nat.min_le_right _ _)
  rw [show ((2 ^ min i j : Nat) : Int) = 2 ^ min i j by simp, u1, u2]
  rw [compare_int, compare_int]
  simp only [un_lt_iff, un_eq_iff]
 ·simp only [Bool.not_eq_true] at fy
  have fy' := fin_false fy
  obtain ⟨m, i, ex, vx⟩ := read_fin x hx fx
  have fx' := fin_true fx
  rw [ex, read_inf y hy (by omega)]
  simp only [Datum.order]
  congr 1
  rw [compare_int]
  unfold skey
  cases sg x <;> cases sg y <;> simp <;> (repeat' split) <;> first | rfl | omega
 ·simp only [Bool.not_eq_true] at fx
  have fx' := fin_false fx
  obtain ⟨m, i, ex, vx⟩ := read_fin y hy fy
  have fy' := fin_true fy
  rw [ex, read_inf x hx (by omega)]
  simp only [Datum.order]
  congr 1
  rw [compare_int]
  unfold skey
  cases sg x <;> cases sg y <;> simp <;> (repeat' split) <;> first | rfl | omega
 ·simp only [Bool.not_eq_true] at fx fy
  have fx' := fin_false fx
  have fy' := fin_false fy
  rw [read_inf x hx (by omega), read_inf y hy (by omega)]
  simp only [Datum.order]
  congr 1
  rw [compare_int]
  unfold skey
  rw [show rg x = INF by omega, show rg y = INF by omega]
  cases sg x <;> cases sg y <;> decide
end Go.Proofs.YtlgencbldbpbdaaGreatDoor.Fl
namespace Go.Proofs.YtlgencbldbpbdaaGreatDoor.Fl
open Ieee
theorem val_rungOf (fb N : Nat) (h : 2 ^ (N.log2 - fb) ∣ N) : val fb (rungOf fb N 0) = N := by
 by_cases h0 : N = 0
 ·subst h0; rw [rungOf_zero, val_zero]
 have hB := Nat.two_pow_pos fb
 unfold rungOf
 rw [Nat.sub_zero, Nat.zero_add]
 obtain ⟨q, hq⟩ := h
 have hr : rhe N (2 ^ (N.log2 - fb)) = q := by
  conv => lhs; arg 1; rw [hq, Nat.mul_comm]
  exact rhe_exact _ _ (Nat.two_pow_pos _)
 rw [hr]
 have l1 := Nat.log2_self_le h0
 have l2 : N < 2 ^ (N.log2 + 1) := Nat.lt_log2_self
 rcases Nat.lt_or_ge fb N.log2 with hd | hd
 ·have e1 : N.log2 = fb + (N.log2 - fb) := by omega
  generalize N.log2 - fb = d at *
  have hd1 : 1 ≤ d := by omega
  rw [e1, Nat.pow_add] at l1
  rw [e1, show fb + d + 1 = (fb + 1) + d by omega, Nat.pow_add, Nat.pow_succ] at l2
  rw [hq, Nat.mul_comm (2 ^ fb)] at l1
  rw [hq, Nat.mul_comm (2 ^ fb * 2)] at l2
  have q1 := Nat.le_of_mul_le_mul_left l1 (Nat.two_pow_pos d)
  have q2 := Nat.lt_of_mul_lt_mul_left l2
  have hdiv : (d * 2 ^ fb + q) / 2 ^ fb = d + 1 := Nat.div_eq_of_lt_le (by rw [Nat.succ_mul]; omega) (by rw [Nat.succ_mul, Nat.succ_mul]; omega)
  have hmod := Nat.div_add_mod (d * 2 ^ fb + q) (2 ^ fb)
  rw [hdiv, Nat.mul_add, Nat.mul_one, Nat.mul_comm (2 ^ fb) d] at hmod
  unfold val
  have hge : ¬ d * 2 ^ fb + q < 2 ^ fb := by omega
  rw [if_neg hge, hdiv, show d + 1 - 1 = d by omega, hq, Nat.mul_comm]
  congr 1; omega
 ·have e1 : N.log2 - fb = 0 := by omega
  rw [e1] at hq ⊢
  rw [Nat.pow_zero, Nat.one_mul] at hq
  rw [Nat.zero_mul, Nat.zero_add, ← hq]
  refine val_small _ _ ?_
  have : 2 ^ (N.log2 + 1) ≤ 2 ^ (fb + 1) := Nat.pow_le_pow_right (by omega) (by omega)
  rw [Nat.pow_succ 2 fb] at this
  omega
theorem dvd_of_small (fb a j : Nat) (h : a < 2 * 2 ^ fb) : 2 ^ ((a * 2 ^ j).log2 - fb) ∣ a * 2 ^ j := by
 by_cases h0 : a = 0
 ·subst h0; simp
 ·rw [log2_mul_pow a j h0]
  have : a.log2 < fb + 1 := (Nat.log2_lt h0).2 (by rw [Nat.pow_succ]; omega)
  exact Nat.dvd_mul_left_of_dvd (Nat.pow_dvd_pow 2 (by omega)) a
theorem dvd_of_le (fb a j : Nat) (h : a ≤ 2 * 2 ^ fb) : 2 ^ ((a * 2 ^ j).log2 - fb) ∣ a * 2 ^ j := by
 rcases Nat.lt_or_eq_of_le h with h | h
 ·exact dvd_of_small fb a j h
 ·have e : a * 2 ^ j = 1 * 2 ^ (fb + 1 + j) := by rw [h, Nat.one_mul, ← Nat.pow_succ', ← Nat.pow_add]
  rw [e]
  refine dvd_of_small fb 1 _ ?_
  have := Nat.two_pow_pos fb
  omega
theorem val_rungOf_small (fb a j : Nat) (h : a ≤ 2 * 2 ^ fb) : val fb (rungOf fb (a * 2 ^ j) 0) = a * 2 ^ j := val_rungOf _ _ (dvd_of_le fb a j h)
theorem rungOf_mono (fb M N k : Nat) (h : M ≤ N) : rungOf fb M k ≤ rungOf fb N k := by
 by_cases h0 : M = 0
 ·subst h0; rw [rungOf_zero]; exact Nat.zero_le _
 have h0' : N ≠ 0 := by omega
 have hl : M.log2 ≤ N.log2 := (Nat.le_log2 h0').2 (Nat.le_trans (Nat.log2_self_le h0) h)
 unfold rungOf
 generalize hd : M.log2 - fb - k = d
 generalize he : N.log2 - fb - k = e
 have hB := Nat.two_pow_pos fb
 rcases Nat.lt_or_eq_of_le (show d ≤ e by omega) with hlt | heq
 ·-- the one's significand is at most the next binade's first
  have l2 : M < 2 ^ (M.log2 + 1) := Nat.lt_log2_self
  have l1 := Nat.log2_self_le h0'
  have a1 : rhe M (2 ^ (k + d)) ≤ 2 * 2 ^ fb := by
   refine rhe_le_of _ _ _ (Nat.two_pow_pos _) ?_
   have : 2 ^ (M.log2 + 1) ≤ 2 ^ (k + d + (fb + 1)) := Nat.pow_le_pow_right (by omega) (by omega)
   rw [Nat.pow_add _ (k + d), Nat.pow_succ 2 fb, Nat.mul_comm (2 ^ fb) 2] at this
   omega
  have a2 : 2 ^ fb ≤ rhe N (2 ^ (k + e)) := by
   refine rhe_ge_of _ _ _ (Nat.two_pow_pos _) ?_
   rw [← Nat.pow_add]
   refine Nat.le_trans (Nat.pow_le_pow_right (by omega) (by omega)) l1
  have a3 : (d + 1) * 2 ^ fb ≤ e * 2 ^ fb := Nat.mul_le_mul_right _ (by omega)
  rw [Nat.succ_mul] at a3
  omega
 ·subst heq
  have := rhe_mono M N (2 ^ (k + d)) (Nat.two_pow_pos _) h
  omega
def rnd (N : Nat) : Nat := min (rungOf 52 N 0) INF
theorem rnd_le (N : Nat) : rnd N ≤ INF := Nat.min_le_right _ _
theorem rnd_lt (N : Nat) : rnd N < 9223372036854775808 := Nat.lt_of_le_of_lt (rnd_le N) (by decide)
theorem rnd_val (r : Nat) (h : r ≤ INF) : rnd (val 52 r) = r := by unfold rnd; rw [rungOf_val]; omega
theorem rnd_mono {M N : Nat} (h : M ≤ N) : rnd M ≤ rnd N := by
 have := rungOf_mono 52 M N 0 h
 unfold rnd; omega
theorem rnd_zero : rnd 0 = 0 := by unfold rnd; rw [rungOf_zero]; exact Nat.zero_min _
theorem d_nearest (neg : Bool) (M : Nat) (p : Int) (h : -1074 ≤ p) : double.nearest neg M p = word neg (rnd (M * 2 ^ (p + 1074).toNat)) := by
 rw [nearest_eq, word_eq, d_fb, d_inf, d_least]
 unfold rnd
 rw [show (-1074 - p).toNat = 0 by omega, show (p - -1074) = p + 1074 by omega]
theorem d_nearest_scale (neg : Bool) (M j : Nat) (p : Int) : double.nearest neg (M * 2 ^ j) p = double.nearest neg M (p + j) := by
 rw [nearest_eq, nearest_eq, word_eq, d_fb, d_inf, d_least]
 rw [word_eq]
 refine congrArg (fun r => word neg (min r INF)) ?_
 rcases Int.le_total (-1074) p with h | h
 ·rw [show (-1074 - p).toNat = 0 by omega, show (-1074 - (p + (j : Int))).toNat = 0 by omega, Nat.mul_assoc, ← Nat.pow_add]
  congr 3; omega
 ·rw [show (p - -1074).toNat = 0 by omega, Nat.pow_zero, Nat.mul_one]
  rcases Int.le_total (-1074) (p + j) with h' | h'
  ·rw [show (-1074 - (p + (j : Int))).toNat = 0 by omega]
   have : j = (p + (j : Int) - -1074).toNat + (-1074 - p).toNat := by omega
   generalize ha : (p + (j : Int) - -1074).toNat = a at *
   generalize hb : (-1074 - p).toNat = b at *
   rw [this, Nat.pow_add, ← Nat.mul_assoc]
   have := rungOf_scale 52 (M * 2 ^ a) 0 b
   rw [Nat.zero_add] at this
   exact this
  ·rw [show (p + (j : Int) - -1074).toNat = 0 by omega, Nat.pow_zero, Nat.mul_one]
   rw [show (-1074 - p).toNat = (-1074 - (p + (j : Int))).toNat + j by omega]
   exact rungOf_scale 52 M _ j
theorem d_write_read (b : Nat) (h : b < 18446744073709551616) (hn : isN b = false) : double.write (double.read b) = b := by
 have hb := isN_false hn
 by_cases hf : fin b = true
 ·obtain ⟨m, j, e, v⟩ := read_fin b h hf
  rw [e]
  show double.nearest _ _ _ = _
  rw [d_nearest _ _ _ (by omega), show (-1074 + (j : Int) + 1074).toNat = j by omega, v, rnd_val _ hb, word_self b h]
 ·have hf := fin_false (by simpa using hf)
  rw [read_inf b h (by omega)]
  show double.word _ _ = _
  rw [word_eq, d_inf, show INF = rg b by omega, word_self b h]
def K : Nat := 1074
theorem K_eq : K = 1074 := rfl
def ONE : Nat := 2 ^ K
theorem one_pow : ONE = 2 ^ K := rfl
theorem one_pos : 0 < ONE := Nat.two_pow_pos _
theorem one_split (j k : Nat) (h : j + k = K) : ONE = 2 ^ j * 2 ^ k := by rw [one_pow, ← Nat.pow_add, h]
theorem pow_one (j k : Nat) (h : j = k + K) : 2 ^ j = 2 ^ k * ONE := by rw [one_pow, ← Nat.pow_add, h]
def whole (b : Nat) : Nat := word (sg b) (rnd (rhe (val 52 (rg b)) ONE * ONE))
attribute [irreducible] ONE
end Go.Proofs.YtlgencbldbpbdaaGreatDoor.Fl
namespace Go.Proofs.YtlgencbldbpbdaaGreatDoor
open Fl
def rungQ (A B : Nat) : Nat := ((A / B).log2 - 52) * 2 ^ 52 + rhe A (B * 2 ^ ((A / B).log2 - 52))
def lowR (X : Nat) : Nat := (X.log2 - 52) * 2 ^ 52 + X / 2 ^ (X.log2 - 52)
theorem log2_small {X : Nat} (h : X < 2 ^ 53) : X.log2 - 52 = 0 := by
 by_cases h0 : X = 0
 ·subst h0; decide
 ·have := (Nat.log2_lt h0 (k := 53)).2 h
  omega
theorem log2_cut {X : Nat} (h : 2 ^ 53 ≤ X) : 2 ^ 52 ≤ X / 2 ^ (X.log2 - 52) ∧ X / 2 ^ (X.log2 - 52) < 2 ^ 53 := by
 have h0 : X ≠ 0 := by have := Nat.two_pow_pos 53; omega
 have hl := (Nat.le_log2 h0 (k := 53)).2 h
 have a := Nat.log2_self_le h0
 have b := Nat.lt_log2_self (n := X)
 obtain ⟨E, hE⟩ : ∃ E, X.log2 = E + 52 := ⟨X.log2 - 52, by omega⟩
 rw [hE] at a b ⊢
 rw [Nat.add_sub_cancel]
 have hp := Nat.two_pow_pos E
 refine ⟨?_, ?_⟩
 ·rw [Nat.le_div_iff_mul_le hp, ← Nat.pow_add, Nat.add_comm]; exact a
 ·rw [Nat.div_lt_iff_lt_mul hp, ← Nat.pow_add, show 53 + E = E + 52 + 1 by omega]; exact b
theorem cut_cases (X : Nat) : X / 2 ^ (X.log2 - 52) < 2 ^ 53 ∧ (X.log2 - 52 = 0 ∨ 2 ^ 52 ≤ X / 2 ^ (X.log2 - 52)) := by
 rcases Nat.lt_or_ge X (2 ^ 53) with h | h
 ·rw [log2_small h]; exact ⟨by simpa using h, .inl rfl⟩
 ·exact ⟨(log2_cut h).2, .inr (log2_cut h).1⟩
theorem val_em (E m : Nat) (h1 : m ≤ 2 ^ 53) (h2 : E = 0 ∨ 2 ^ 52 ≤ m) : Fl.val 52 (E * 2 ^ 52 + m) = m * 2 ^ E := by
 unfold Fl.val
 have e53 : (2 : Nat) ^ 53 = 2 * 2 ^ 52 := by decide
 have hp : 0 < 2 ^ 52 := Nat.two_pow_pos 52
 generalize 2 ^ 52 = P at *
 rw [e53] at h1
 by_cases hm : m < P
 ·have hE : E = 0 := by omega
  subst hE
  rw [Nat.zero_mul, Nat.zero_add, if_pos hm, Nat.pow_zero, Nat.mul_one]
 ·by_cases hE : m = 2 * P
  ·have e1 : E * P + m = P * (E + 2) := by rw [hE, Nat.mul_add, Nat.mul_comm E, Nat.mul_comm 2]
   have e2 : ¬ E * P + m < P := by omega
   rw [if_neg e2, e1, Nat.mul_mod_right, Nat.mul_div_cancel_left _ hp, hE, Nat.add_zero, show E + 2 - 1 = E + 1 by omega, Nat.pow_succ, Nat.mul_comm 2 P, Nat.mul_assoc, Nat.mul_comm 2]
  ·have e1 : E * P + m = P * (E + 1) + (m - P) := by rw [Nat.mul_add, Nat.mul_comm E]; omega
   have e2 : ¬ E * P + m < P := by omega
   rw [if_neg e2, e1, Nat.mul_add_mod, Nat.mul_add_div hp, Nat.mod_eq_of_lt (by omega), Nat.div_eq_of_lt (show m - P < P by omega), Nat.add_zero, show E + 1 - 1 = E by omega, show P + (m - P) = m by omega]
theorem val_lowR (X : Nat) : Fl.val 52 (lowR X) = X / 2 ^ (X.log2 - 52) * 2 ^ (X.log2 - 52) :=
 val_em _ _ (Nat.le_of_lt (cut_cases X).1) (cut_cases X).2
theorem val_lowR1 (X : Nat) : Fl.val 52 (lowR X + 1) = (X / 2 ^ (X.log2 - 52) + 1) * 2 ^ (X.log2 - 52) := by
 unfold lowR
 rw [Nat.add_assoc]
 refine val_em _ _ (cut_cases X).1 ?_
 rcases (cut_cases X).2 with h | h
 ·exact .inl h
 ·exact .inr (Nat.le_succ_of_le h)
theorem lowR_le (X : Nat) : Fl.val 52 (lowR X) ≤ X := by rw [val_lowR]; exact Nat.div_mul_le_self _ _
theorem lt_lowR (X : Nat) : X < Fl.val 52 (lowR X + 1) := by
 rw [val_lowR1]
 have := Nat.lt_div_mul_add (a := X) (b := 2 ^ (X.log2 - 52)) (Nat.two_pow_pos _)
 rw [Nat.add_mul, Nat.one_mul]
 exact this
theorem lowR_unique {X r : Nat} (h1 : Fl.val 52 r ≤ X) (h2 : X < Fl.val 52 (r + 1)) : r = lowR X := by
 have a := lowR_le X
 have b := lt_lowR X
 rcases Nat.lt_trichotomy r (lowR X) with h | h | h
 ·have := Fl.val_le 52 (r + 1) (lowR X) h; omega
 ·exact h
 ·have := Fl.val_le 52 (lowR X + 1) r h; omega
theorem rungQ_eq (A B : Nat) (hB : 0 < B) : rungQ A B = lowR (A / B) +
  (if (2 * (A / B / 2 ^ ((A / B).log2 - 52)) + 1) * 2 ^ ((A / B).log2 - 52) * B < 2 * A ∨ ((2 * (A / B / 2 ^ ((A / B).log2 - 52)) + 1) * 2 ^ ((A / B).log2 - 52) * B = 2 * A ∧ lowR (A / B) % 2 = 1) then 1 else 0) := by
 unfold rungQ lowR
 generalize (A / B).log2 - 52 = E
 have hG : 0 < B * 2 ^ E := Nat.mul_pos hB (Nat.two_pow_pos E)
 have e1 : A / B / 2 ^ E = A / (B * 2 ^ E) := Nat.div_div_eq_div_mul _ _ _
 rw [e1]
 unfold rhe
 have hd := Nat.div_add_mod A (B * 2 ^ E)
 have e2 : (2 * (A / (B * 2 ^ E)) + 1) * 2 ^ E * B = 2 * (B * 2 ^ E * (A / (B * 2 ^ E))) + B * 2 ^ E := by
  rw [Nat.add_mul, Nat.add_mul, Nat.one_mul, Nat.mul_comm (2 ^ E) B]
  congr 1
  rw [Nat.mul_assoc, Nat.mul_assoc, Nat.mul_comm (2 ^ E) B]
  congr 1
  exact Nat.mul_comm _ _
 rw [e2]
 have e3 : ∀ m : Nat, (E * 2 ^ 52 + m) % 2 = m % 2 := fun m => by
  rw [show (2 : Nat) ^ 52 = 2 ^ 51 * 2 by decide, ← Nat.mul_assoc, Nat.add_comm, Nat.add_mul_mod_self_right]
 rw [e3]
 generalize A / (B * 2 ^ E) = m at *
 generalize A % (B * 2 ^ E) = t at *
 generalize B * 2 ^ E = G at *
 have c1 : (2 * (G * m) + G < 2 * A) ↔ (G < 2 * t) := by omega
 have c2 : (2 * (G * m) + G = 2 * A) ↔ (G = 2 * t) := by omega
 simp only [c1, c2]
 rw [Nat.add_assoc]
theorem rhe_cut (a b D : Nat) (hb : 0 < b) (hD : 0 < D) : rhe a (b * (2 * D)) = a / b / (2 * D) + (if a / b / D % 2 = 1 ∧ (a % b ≠ 0 ∨ a / b % D ≠ 0 ∨ a / b / (2 * D) % 2 = 1) then 1 else 0) := by
 unfold rhe
 have e1 : a / (b * (2 * D)) = a / b / (2 * D) := (Nat.div_div_eq_div_mul _ _ _).symm
 have e2 : a % (b * (2 * D)) = a % b + b * (a / b % (2 * D)) := Nat.mod_mul
 have e3 : a / b % (2 * D) = a / b % D + D * (a / b / D % 2) := by rw [Nat.mul_comm 2 D]; exact Nat.mod_mul
 rw [e1, e2, e3]
 have h1 : a % b < b := Nat.mod_lt _ hb
 have h2 : a / b % D < D := Nat.mod_lt _ hD
 have h3 : a / b / D % 2 < 2 := Nat.mod_lt _ (by decide)
 generalize a / b / (2 * D) % 2 = o
 generalize a / b / D % 2 = h at *
 generalize a / b % D = t at *
 generalize a % b = r at *
 congr 1
 have k1 : b * (t + 1) ≤ b * D := Nat.mul_le_mul_left _ h2
 rw [Nat.mul_add, Nat.mul_one] at k1
 have k2 : b * (2 * D) = 2 * (b * D) := Nat.mul_left_comm _ _ _
 have hh : h = 0 ∨ h = 1 := by omega
 rcases hh with rfl | rfl
 ·rw [Nat.mul_zero, Nat.add_zero, k2, if_neg (by omega), if_neg (by omega)]
 ·rw [Nat.mul_one, k2]
  have k5 : b * (t + D) = b * t + b * D := Nat.mul_add _ _ _
  have k3 : t ≠ 0 → 0 < b * t := fun h => Nat.mul_pos hb (by omega)
  have k4 : t = 0 → b * t = 0 := fun h => by rw [h, Nat.mul_zero]
  by_cases c : t = 0
  ·have := k4 c
   by_cases c2 : r = 0
   ·by_cases c3 : o = 1
    ·rw [if_pos (by omega), if_pos (by omega)]
    ·rw [if_neg (by omega), if_neg (by omega)]
   ·rw [if_pos (by omega), if_pos (by omega)]
  ·have := k3 c
   rw [if_pos (by omega), if_pos (by omega)]
theorem log2_div_pow (X j : Nat) : (X / 2 ^ j).log2 = X.log2 - j := by
 by_cases h0 : X / 2 ^ j = 0
 ·rw [h0]
  have hlt : X < 2 ^ j := by
   rcases Nat.lt_or_ge X (2 ^ j) with h | h
   ·exact h
   ·have := (Nat.le_div_iff_mul_le (Nat.two_pow_pos j) (x := 1) (y := X)).2 (by simpa using h)
    omega
  by_cases hx : X = 0
  ·subst hx; simp
  ·have := (Nat.log2_lt hx (k := j)).2 hlt
   show 0 = _
   omega
 ·have hx : X ≠ 0 := fun h => h0 (by rw [h, Nat.zero_div])
  have a := Nat.log2_self_le hx
  have b := Nat.lt_log2_self (n := X)
  have hj : j ≤ X.log2 := by
   refine (Nat.le_log2 hx).2 ?_
   rcases Nat.lt_or_ge X (2 ^ j) with h | h
   ·exact absurd (Nat.div_eq_of_lt h) h0
   ·exact h
  obtain ⟨k, hk⟩ : ∃ k, X.log2 = k + j := ⟨X.log2 - j, by omega⟩
  rw [hk] at a b ⊢
  rw [Nat.add_sub_cancel]
  refine log2_eq _ _ ?_ ?_
  ·rw [Nat.le_div_iff_mul_le (Nat.two_pow_pos j), ← Nat.pow_add]; exact a
  ·rw [Nat.div_lt_iff_lt_mul (Nat.two_pow_pos j), ← Nat.pow_add, show k + 1 + j = k + j + 1 by omega]; exact b
theorem log2_quo_up (a b j : Nat) (hb : 0 < b) (h : 0 < a / b) : (a * 2 ^ j / b).log2 = (a / b).log2 + j := by
 have h0 : a / b ≠ 0 := by omega
 have x1 := Nat.log2_self_le h0
 have x2 := Nat.lt_log2_self (n := a / b)
 refine log2_eq _ _ ?_ ?_
 ·rw [Nat.le_div_iff_mul_le hb, Nat.pow_add, Nat.mul_right_comm]
  refine Nat.mul_le_mul_right _ ?_
  rw [← Nat.le_div_iff_mul_le hb]; exact x1
 ·rw [Nat.div_lt_iff_lt_mul hb, show (a / b).log2 + j + 1 = (a / b).log2 + 1 + j by omega, Nat.pow_add, Nat.mul_right_comm]
  refine Nat.mul_lt_mul_of_pos_right ?_ (Nat.two_pow_pos j)
  rw [← Nat.div_lt_iff_lt_mul hb]; exact x2
theorem rungQ_up (a b L n d : Nat) (hb : 0 < b) (hq : 2 ^ 55 ≤ a * 2 ^ n / b) (hd : d = max ((a * 2 ^ n / b).log2 - 52) (n - L)) (hd0 : 0 < d) :
  rungQ (a * 2 ^ L) b = (L + d - n) * 2 ^ 52 + rhe (a * 2 ^ n) (b * 2 ^ d) := by
 have hp := Nat.two_pow_pos 55
 have hq0 : a * 2 ^ n / b ≠ 0 := by omega
 have hlg := (Nat.le_log2 hq0 (k := 55)).2 hq
 have hE : (a * 2 ^ L / b).log2 - 52 = L + d - n := by
  rcases Nat.le_total n L with h | h
  ·obtain ⟨j, hj⟩ : ∃ j, L = n + j := ⟨L - n, by omega⟩
   have e : a * 2 ^ L / b = a * 2 ^ n * 2 ^ j / b := by rw [hj, Nat.pow_add, Nat.mul_assoc]
   rw [e, log2_quo_up _ _ _ hb (by omega)]
   omega
  ·obtain ⟨j, hj⟩ : ∃ j, n = L + j := ⟨n - L, by omega⟩
   have e : a * 2 ^ L / b = a * 2 ^ n / b / 2 ^ j := by
    rw [hj, Nat.pow_add, ← Nat.mul_assoc, Nat.div_div_eq_div_mul, Nat.mul_div_mul_right _ _ (Nat.two_pow_pos j)]
   rw [e, log2_div_pow]
   omega
 unfold rungQ
 rw [hE]
 congr 1
 rcases Nat.le_total n L with h | h
 ·obtain ⟨j, hj⟩ : ∃ j, L = n + j := ⟨L - n, by omega⟩
  rw [show L + d - n = d + j by omega, hj, Nat.pow_add, Nat.pow_add, ← Nat.mul_assoc, ← Nat.mul_assoc, rhe_mul _ _ _ (Nat.two_pow_pos j)]
 ·obtain ⟨j, hj⟩ : ∃ j, n = L + j := ⟨n - L, by omega⟩
  obtain ⟨k, hk⟩ : ∃ k, d = k + j := ⟨d - j, by omega⟩
  rw [show L + d - n = k by omega, hj, hk, Nat.pow_add 2 L, Nat.pow_add 2 k, ← Nat.mul_assoc, ← Nat.mul_assoc, rhe_mul _ _ _ (Nat.two_pow_pos j)]
theorem rungQ_down (a b L n d : Nat) (hb : 0 < b) (hq : 2 ^ 55 ≤ a / (b * 2 ^ n)) (hd : d = (a / (b * 2 ^ n)).log2 - 52) :
  rungQ (a * 2 ^ L) b = (L + d + n) * 2 ^ 52 + rhe a (b * 2 ^ n * 2 ^ d) := by
 have hp := Nat.two_pow_pos 55
 have hq0 : a / (b * 2 ^ n) ≠ 0 := by omega
 have hlg := (Nat.le_log2 hq0 (k := 55)).2 hq
 have hab : 0 < a / b := by
  rw [← Nat.div_div_eq_div_mul] at hq0
  exact Nat.pos_of_ne_zero fun h => hq0 (by rw [h, Nat.zero_div])
 have hE : (a * 2 ^ L / b).log2 - 52 = L + d + n := by
  rw [log2_quo_up _ _ _ hb hab]
  rw [← Nat.div_div_eq_div_mul, log2_div_pow] at hd hlg
  omega
 unfold rungQ
 rw [hE]
 congr 1
 rw [show L + d + n = n + d + L by omega, Nat.pow_add 2 (n + d), Nat.pow_add, ← Nat.mul_assoc, ← Nat.mul_assoc, rhe_mul _ _ _ (Nat.two_pow_pos L)]
end Go.Proofs.YtlgencbldbpbdaaGreatDoor
namespace Go.Proofs.YtlgencbldbpbdaaGreatDoor
open Fl
def pM (b : Nat) : Nat := if b < 2 ^ 52 then b else 2 ^ 52 + b % 2 ^ 52
def pE (b : Nat) : Nat := b / 2 ^ 52 - 1
theorem val_parts (b : Nat) : Fl.val 52 b = pM b * 2 ^ pE b := by
 unfold Fl.val pM pE
 split
 ·rename_i h
  rw [Nat.div_eq_of_lt h, Nat.zero_sub, Nat.pow_zero, Nat.mul_one]
 ·rfl
theorem parts_em (E m : Nat) (h1 : m < 2 ^ 53) (h2 : E = 0 ∨ 2 ^ 52 ≤ m) : pM (E * 2 ^ 52 + m) = m ∧ pE (E * 2 ^ 52 + m) = E := by
 unfold pM pE
 have e53 : (2 : Nat) ^ 53 = 2 * 2 ^ 52 := by decide
 have hp : 0 < 2 ^ 52 := Nat.two_pow_pos 52
 generalize 2 ^ 52 = P at *
 rw [e53] at h1
 by_cases hm : m < P
 ·have hE : E = 0 := by omega
  subst hE
  rw [Nat.zero_mul, Nat.zero_add, if_pos hm, Nat.div_eq_of_lt hm]
  exact ⟨rfl, rfl⟩
 ·have e1 : E * P + m = P * (E + 1) + (m - P) := by rw [Nat.mul_add, Nat.mul_comm E]; omega
  have e2 : ¬ E * P + m < P := by omega
  rw [if_neg e2, e1, Nat.mul_add_mod, Nat.mul_add_div hp, Nat.mod_eq_of_lt (by omega), Nat.div_eq_of_lt (show m - P < P by omega)]
  exact ⟨by omega, by omega⟩
theorem pM_lt (b : Nat) : pM b < 2 ^ 53 := by
 unfold pM
 have h := Nat.mod_lt b (Nat.two_pow_pos 52)
 have e : (2 : Nat) ^ 53 = 2 ^ 52 + 2 ^ 52 := by decide
 rw [e]
 split
 ·exact Nat.lt_of_lt_of_le (by assumption) (Nat.le_add_left _ _)
 ·exact Nat.add_lt_add_left h _
theorem parts_back (b : Nat) : pE b * 2 ^ 52 + pM b = b ∧ (pE b = 0 ∨ 2 ^ 52 ≤ pM b) := by
 unfold pM pE
 have hp : 0 < 2 ^ 52 := Nat.two_pow_pos 52
 generalize 2 ^ 52 = P at *
 split
 ·rename_i h
  rw [Nat.div_eq_of_lt h]
  exact ⟨by omega, .inl rfl⟩
 ·rename_i h
  have h1 := Nat.div_add_mod b P
  have h2 : 1 ≤ b / P := (Nat.le_div_iff_mul_le hp).2 (by omega)
  obtain ⟨k, hk⟩ : ∃ k, b / P = k + 1 := ⟨b / P - 1, by omega⟩
  rw [hk, Nat.mul_add, Nat.mul_one, Nat.mul_comm] at h1
  rw [hk, Nat.add_sub_cancel]
  exact ⟨by omega, .inr (Nat.le_add_right _ _)⟩
theorem val_next (b : Nat) : Fl.val 52 (b + 1) = (pM b + 1) * 2 ^ pE b := by
 have h := parts_back b
 conv => lhs; rw [← h.1]
 rw [Nat.add_assoc]
 refine val_em _ _ (pM_lt b) ?_
 rcases h.2 with h2 | h2
 ·exact .inl h2
 ·exact .inr (Nat.le_succ_of_le h2)
theorem mid_parts (b : Nat) : (2 * pM b + 1) * 2 ^ pE b = Fl.val 52 b + Fl.val 52 (b + 1) := by
 rw [val_next, val_parts]
 generalize 2 ^ pE b = P
 rw [Nat.add_mul, Nat.add_mul, Nat.one_mul, Nat.mul_assoc]
 omega
theorem near_low (A B low : Nat) (hB : 0 < B) (hl : low < INF) (h1 : Fl.val 52 low * B ≤ A) (h2 : A < Fl.val 52 (low + 1) * B ∨ low + 1 = INF) :
  low + (if (2 * pM low + 1) * 2 ^ pE low * B < 2 * A ∨ ((2 * pM low + 1) * 2 ^ pE low * B = 2 * A ∧ low % 2 = 1) then 1 else 0) = min (rungQ A B) INF := by
 have hx1 : Fl.val 52 low ≤ A / B := by rw [Nat.le_div_iff_mul_le hB]; exact h1
 by_cases h : A < Fl.val 52 (low + 1) * B
 ·have hx2 : A / B < Fl.val 52 (low + 1) := by rw [Nat.div_lt_iff_lt_mul hB]; exact h
  have e := lowR_unique hx1 hx2
  have c := cut_cases (A / B)
  have p := parts_em ((A / B).log2 - 52) (A / B / 2 ^ ((A / B).log2 - 52)) c.1 c.2
  have e2 : low = ((A / B).log2 - 52) * 2 ^ 52 + A / B / 2 ^ ((A / B).log2 - 52) := e
  rw [← e2] at p
  rw [p.1, p.2]
  have r := rungQ_eq A B hB
  rw [← e] at r
  rw [← r, Nat.min_eq_left]
  rw [r]
  split
  ·exact hl
  ·exact Nat.le_of_lt hl
 ·have hl := h2.resolve_left h
  have hA : Fl.val 52 INF * B ≤ A := by rw [← hl]; exact Nat.not_lt.1 h
  have hx : Fl.val 52 INF ≤ A / B := by rw [Nat.le_div_iff_mul_le hB]; exact hA
  have hr : INF ≤ rungQ A B := by
   rw [rungQ_eq A B hB]
   refine Nat.le_trans ?_ (Nat.le_add_right _ _)
   rcases Nat.lt_or_ge (lowR (A / B)) INF with h3 | h3
   ·have := Fl.val_le 52 (lowR (A / B) + 1) INF h3
    have := lt_lowR (A / B)
    omega
   ·exact h3
  rw [Nat.min_eq_right hr, if_pos, hl]
  left
  have c : (2 * pM low + 1) * 2 ^ pE low < 2 * Fl.val 52 INF := by
   rw [mid_parts, hl]
   have := Fl.val_lt 52 low INF (by omega)
   omega
  have c2 := Nat.mul_lt_mul_of_pos_right c hB
  rw [Nat.mul_assoc 2] at c2
  omega
end Go.Proofs.YtlgencbldbpbdaaGreatDoor
namespace Go.Proofs.YtlgencbldbpbdaaGreatDoor
open Fl
def bl (s : ByteArray) : List Nat := s.data.toList.map UInt8.toNat
theorem bl_len (s : ByteArray) : (bl s).length = s.size := by unfold bl; rw [List.length_map]; rfl
theorem bl_get (s : ByteArray) (k : Nat) (h : k < s.size) : (bl s)[k]? = some (s[k]).toNat := by
 unfold bl
 rw [List.getElem?_map, List.getElem?_eq_getElem (by simpa using h)]
 rfl
theorem bl_getD (s : ByteArray) (k : Nat) (h : k < s.size) : (bl s).getD k 0 = (s[k]).toNat := by
 rw [List.getD, bl_get s k h]; rfl
theorem bl_append (a b : ByteArray) : bl (a ++ b) = bl a ++ bl b := by
 unfold bl
 rw [ByteArray.data_append, Array.toList_append, List.map_append]
theorem bl_extract (s : ByteArray) (a b : Nat) : bl (s.extract a b) = ((bl s).take b).drop a := by
 unfold bl
 rw [ByteArray.data_extract, Array.toList_extract]
 simp [List.map_drop, List.map_take, List.extract_eq_take_drop, List.drop_take]
def lead : List Nat → Nat
 | [] => 0
 | x :: l => if x = 48 then lead l + 1 else 0
theorem lead_le : ∀ l, lead l ≤ l.length
 | [] => Nat.le_refl _
 | x :: l => by
   rw [lead, List.length_cons]
   have := lead_le l
   split <;> omega
theorem lead_step {l : List Nat} {k x : Nat} (h : l[k]? = some x) : lead (l.drop k) = if x = 48 then lead (l.drop (k + 1)) + 1 else 0 := by
 have hk : k < l.length := (List.getElem?_eq_some_iff.1 h).1
 have e : l[k] = x := (List.getElem?_eq_some_iff.1 h).2
 rw [List.drop_eq_getElem_cons hk, lead, e]
def te (l : List Nat) (f : Nat) : Nat → Nat
 | 0 => 0
 | k + 1 => if f < k + 1 ∧ l.getD k 0 = 48 then te l f k else k + 1
theorem te_le (l : List Nat) (f : Nat) : ∀ k, te l f k ≤ k
 | 0 => Nat.le_refl _
 | k + 1 => by
   rw [te]
   have := te_le l f k
   split <;> omega
theorem te_ge (l : List Nat) (f : Nat) : ∀ k, f ≤ k → f ≤ te l f k
 | 0, h => by rw [te]; exact h
 | k + 1, h => by
   rw [te]
   split
   ·rename_i c
    exact te_ge l f k (by omega)
   ·exact h
def stripD (l : List Nat) : List Nat := (l.take (te l (lead l) l.length)).drop (lead l)
theorem strip_len (l : List Nat) : (stripD l).length = te l (lead l) l.length - lead l := by
 unfold stripD
 rw [List.length_drop, List.length_take, Nat.min_eq_left (te_le _ _ _)]
def dval (l : List Nat) : Nat := l.foldl (fun a x => a * 10 + (x - 48)) 0
theorem dval_snoc (l : List Nat) (x : Nat) : dval (l ++ [x]) = dval l * 10 + (x - 48) := by unfold dval; rw [List.foldl_append]; rfl
theorem dval_take {l : List Nat} {k x : Nat} (h : l[k]? = some x) : dval (l.take (k + 1)) = dval (l.take k) * 10 + (x - 48) := by
 rw [List.take_add_one, h]
 exact dval_snoc _ _
def DG (l : List Nat) : Prop := ∀ x ∈ l, 48 ≤ x ∧ x ≤ 57
theorem dval_lt {l : List Nat} (h : DG l) : ∀ k, k ≤ l.length → dval (l.take k) < 10 ^ k
 | 0, _ => by rw [List.take_zero]; decide
 | k + 1, hk => by
   have hx : l[k]? = some l[k] := List.getElem?_eq_getElem hk
   have ih := dval_lt h k (by omega)
   have hd := h l[k] (List.getElem_mem hk)
   rw [dval_take hx, Nat.pow_succ]
   omega
def cutD (d : List Nat) : List Nat := if 800 < d.length then d.take 800 ++ [49] else d
theorem cut_len (d : List Nat) : (cutD d).length ≤ 801 := by
 unfold cutD
 split
 ·rw [List.length_append, List.length_take]
  simp
  omega
 ·omega
def numF (d : List Nat) (p : Int) : Nat := min (rungQ (dval d * 10 ^ (p - d.length).toNat * 2 ^ K) (10 ^ (-(p - d.length)).toNat)) INF
def readF (l : List Nat) (point : Int) : Nat :=
 if stripD l = [] ∨ point < -1099511627776 then 0
 else if 400 < point - lead l then INF
 else if point - lead l < -400 then 0
 else numF (cutD (stripD l)) (point - lead l)
theorem DG.take {l : List Nat} (h : DG l) (k : Nat) : DG (l.take k) := fun x hx => h x (List.mem_of_mem_take hx)
theorem DG.drop {l : List Nat} (h : DG l) (k : Nat) : DG (l.drop k) := fun x hx => h x (List.mem_of_mem_drop hx)
theorem DG.strip {l : List Nat} (h : DG l) : DG (stripD l) := (h.take _).drop _
theorem DG.cut {l : List Nat} (h : DG l) : DG (cutD l) := by
 unfold cutD
 split
 ·intro x hx
  rcases List.mem_append.1 hx with hx | hx
  ·exact h.take 800 x hx
  ·rcases List.mem_singleton.1 hx with rfl
   decide
 ·exact h
end Go.Proofs.YtlgencbldbpbdaaGreatDoor
namespace Go.Proofs.YtlgencbldbpbdaaGreatDoor
open Fl
theorem rungQ_scale (A B c : Nat) (hc : 0 < c) : rungQ (A * c) (B * c) = rungQ A B := by
 unfold rungQ
 rw [Nat.mul_div_mul_right _ _ hc, Nat.mul_right_comm B c, rhe_mul _ _ _ hc]
def rungM (A B : Nat) : Nat := min (rungQ A B) INF
def V (r : Nat) : Nat := Fl.val 52 r
theorem V_lt {r s : Nat} (h : r < s) : V r < V s := Fl.val_lt 52 r s h
theorem V_le {r s : Nat} (h : r ≤ s) : V r ≤ V s := Fl.val_le 52 r s h
theorem near_at (A B : Nat) (hB : 0 < B) : ∃ L, L < INF ∧ V L * B ≤ A ∧ (A < V (L + 1) * B ∨ L + 1 = INF) ∧
  rungM A B = L + (if (V L + V (L + 1)) * B < 2 * A ∨ ((V L + V (L + 1)) * B = 2 * A ∧ L % 2 = 1) then 1 else 0) := by
 have h1 := lowR_le (A / B)
 have h2 := lt_lowR (A / B)
 have h0 : 0 < INF := by decide
 obtain ⟨L, hL⟩ : ∃ L, L = min (lowR (A / B)) (INF - 1) := ⟨_, rfl⟩
 have hL1 : L < INF := by omega
 have c1 : V L * B ≤ A := by
  rw [← Nat.le_div_iff_mul_le hB]
  exact Nat.le_trans (V_le (by omega)) h1
 have c2 : A < V (L + 1) * B ∨ L + 1 = INF := by
  by_cases h : lowR (A / B) ≤ INF - 1
  ·left
   rw [← Nat.div_lt_iff_lt_mul hB]
   rw [show L = lowR (A / B) by omega]
   exact h2
  ·right; omega
 refine ⟨L, hL1, c1, c2, ?_⟩
 have h := near_low A B L hB hL1 c1 c2
 rw [mid_parts] at h
 exact h.symm
theorem rungM_le (A B : Nat) : rungM A B ≤ INF := Nat.min_le_right _ _
theorem rungM_scale (A B c : Nat) (hc : 0 < c) : rungM (A * c) (B * c) = rungM A B := by unfold rungM; rw [rungQ_scale _ _ _ hc]
def rdsP (X Y b : Nat) : Prop := (2 * X < (V b + V (b + 1)) * Y ∨ (2 * X = (V b + V (b + 1)) * Y ∧ b % 2 = 0)) ∧ ((V (b - 1) + V b) * Y < 2 * X ∨ ((V (b - 1) + V b) * Y = 2 * X ∧ b % 2 = 0))
theorem rds_iff (X Y b : Nat) (hY : 0 < Y) (h0 : 0 < b) (h1 : b < INF) : rdsP X Y b ↔ rungM X Y = b := by
 obtain ⟨c, rfl⟩ : ∃ c, b = c + 1 := ⟨b - 1, by omega⟩
 obtain ⟨L, l1, l2, l3, e1⟩ := near_at X Y hY
 rw [e1]
 unfold rdsP
 rw [Nat.add_sub_cancel]
 have s1 : V c * Y < V (c + 1) * Y := Nat.mul_lt_mul_of_pos_right (V_lt (Nat.lt_succ_self c)) hY
 have s2 : V (c + 1) * Y < V (c + 1 + 1) * Y := Nat.mul_lt_mul_of_pos_right (V_lt (Nat.lt_succ_self _)) hY
 rw [Nat.add_mul, Nat.add_mul, Nat.add_mul]
 by_cases g1 : L < c
 ·have h3 : X < V (L + 1) * Y := l3.resolve_right (by omega)
  have h4 : V (L + 1) * Y ≤ V c * Y := Nat.mul_le_mul_right _ (V_le (by omega))
  constructor
  ·intro h; exfalso; omega
  ·intro h; exfalso; split at h <;> omega
 ·by_cases g2 : L = c
  ·subst g2
   have h3 : X < V (L + 1) * Y := l3.resolve_right (by omega)
   constructor
   ·intro h
    rw [if_pos (by omega)]
   ·intro h
    have h4 : V L * Y + V (L + 1) * Y < 2 * X ∨ (V L * Y + V (L + 1) * Y = 2 * X ∧ L % 2 = 1) := by
     by_cases h5 : V L * Y + V (L + 1) * Y < 2 * X ∨ (V L * Y + V (L + 1) * Y = 2 * X ∧ L % 2 = 1)
     ·exact h5
     ·rw [if_neg h5] at h; omega
    omega
  ·by_cases g3 : L = c + 1
   ·subst g3
    constructor
    ·intro h
     rw [if_neg (by omega)]
    ·intro h
     have h4 : ¬ (V (c + 1) * Y + V (c + 1 + 1) * Y < 2 * X ∨ (V (c + 1) * Y + V (c + 1 + 1) * Y = 2 * X ∧ (c + 1) % 2 = 1)) := by
      intro h5; rw [if_pos h5] at h; omega
     omega
   ·have h4 : V (c + 1 + 1) * Y ≤ V L * Y := Nat.mul_le_mul_right _ (V_le (by omega))
    constructor
    ·intro h; exfalso; omega
    ·intro h; exfalso; split at h <;> omega
theorem V_next (b : Nat) : V (b + 1) = V b + 2 ^ pE b := by
 unfold V
 rw [val_next, val_parts, Nat.add_mul, Nat.one_mul]
theorem V_up (b : Nat) : V b < 2 ^ 53 * (V (b + 1) - V b) := by
 rw [V_next, Nat.add_sub_cancel_left]
 unfold V
 rw [val_parts]
 exact Nat.mul_lt_mul_of_pos_right (pM_lt b) (Nat.two_pow_pos _)
theorem V_down (b : Nat) : V (b + 1) ≤ 2 ^ 53 * (V (b + 1) - V b) := by
 rw [V_next, Nat.add_sub_cancel_left]
 unfold V
 rw [val_parts, ← Nat.succ_mul]
 exact Nat.mul_le_mul_right _ (pM_lt b)
end Go.Proofs.YtlgencbldbpbdaaGreatDoor
