/- How many bits a word has: the library's Len64 and the reference's Length. Rounding as the reference does it: Drop, Near, Nearest. math.Ldexp of a normal number without a sign: the nearest number. -/
import Derived.Test.YtlgencbldbpbdaaGreatDoorMgBase
import Derived.Test.YtlgencbldbpbdaaGreatDoorLenA
import Derived.Test.YtlgencbldbpbdaaGreatDoorMgArith
namespace Go.Proofs.YtlgencbldbpbdaaGreatDoor
open Go.RowKit Fl
def blen (m : Nat) : Nat := if m = 0 then 0 else m.log2 + 1
theorem blen_half (q : Nat) (h : 0 < q) : blen q = blen (q / 2) + 1 := by
 unfold blen
 rw [if_neg (by omega)]
 by_cases c : q / 2 = 0
 ·rw [if_pos c, show q = 1 by omega]; rfl
 ·rw [if_neg c]
  have h2 : 2 ≤ q := by omega
  rw [Nat.log2_def q, if_pos h2]
theorem blen_lt (q k : Nat) (h : q < 2 ^ k) : blen q ≤ k := by
 unfold blen
 split
 ·omega
 ·rename_i c; have := (Nat.log2_lt c (k := k)).2 h; omega
theorem lt_blen (q : Nat) : q < 2 ^ blen q := by
 unfold blen
 split
 ·rename_i c; rw [c]; decide
 ·exact Nat.lt_log2_self
theorem le_blen (q : Nat) (h : 0 < q) : 2 ^ (blen q - 1) ≤ q := by
 unfold blen
 rw [if_neg (by omega), Nat.add_sub_cancel]
 exact Nat.log2_self_le (by omega)
theorem blen_eq : ∀ (k x : Nat), x < 2 ^ k → k ≤ 64 → Lib.bitLen x = blen x
 | 0, x, h, _ => by
   have : x = 0 := by simpa using h
   subst this; decide
 | k + 1, x, h, hk => by
   by_cases h0 : x = 0
   ·subst h0; decide
   ·have hx : x < 2 ^ 64 := Nat.lt_of_lt_of_le h (Nat.pow_le_pow_right (by omega) hk)
    rw [Lib.bitLen_half x h0 hx, blen_half x (by omega), blen_eq k (x / 2) (by rw [Nat.pow_succ] at h; omega) (by omega)]
    omega
theorem c176 (m : Nat) (w : World) (h : U m) : Calls Tryz.prog 216 #[.int .u64 m] w fun e w' => e = .returned (.int .i64 (blen m)) ∧ w = w' := by
 have hl := h.lt
 have := len64_any m w (by omega) (by omega)
 rw [Int.toNat_natCast, blen_eq 64 m hl (by omega)] at this
 exact this
end Go.Proofs.YtlgencbldbpbdaaGreatDoor
namespace Go.Proofs.YtlgencbldbpbdaaGreatDoor
open Go.RowKit Fl
def near (m : Nat) (p : Int) : Nat := rungOf 52 (m * 2 ^ (p + 1074).toNat) (-1074 - p).toNat
theorem near_core (m : Nat) (p : Int) (h0 : 0 < m) (E : Int) (hE : E = max ((m.log2 : Int) + 1 + p - 53) (-1074)) :
  near m p = (E + 1074).toNat * 2 ^ 52 + rhe (m * 2 ^ (p - E).toNat) (2 ^ (E - p).toNat) ∧ rhe (m * 2 ^ (p - E).toNat) (2 ^ (E - p).toNat) ≤ 2 * 2 ^ 52 ∧ (E = -1074 ∨ 2 ^ 52 ≤ rhe (m * 2 ^ (p - E).toNat) (2 ^ (E - p).toNat)) := by
 have hm : m ≠ 0 := by omega
 have l1 := Nat.log2_self_le hm
 have l2 : m < 2 ^ (m.log2 + 1) := Nat.lt_log2_self
 refine ⟨?_, ?_, ?_⟩
 ·unfold near rungOf
  rw [log2_mul_pow m _ hm]
  have e1 : m.log2 + (p + 1074).toNat - 52 - (-1074 - p).toNat = (E + 1074).toNat := by omega
  rw [e1]
  refine congrArg (fun r => (E + 1074).toNat * 2 ^ 52 + r) ?_
  have e2 : (p + 1074).toNat + (E - p).toNat = (p - E).toNat + ((-1074 - p).toNat + (E + 1074).toNat) := by omega
  rcases Int.le_total E p with h | h
  ·-- the shift is to the left
   have a1 : (E - p).toNat = 0 := by omega
   have a2 : (-1074 - p).toNat = 0 := by omega
   have a3 : (p + 1074).toNat = (p - E).toNat + (E + 1074).toNat := by omega
   rw [a1, a2, a3, Nat.pow_zero, rhe_one, Nat.zero_add, Nat.pow_add, ← Nat.mul_assoc, rhe_exact _ _ (Nat.two_pow_pos _)]
  ·have a1 : (p - E).toNat = 0 := by omega
   have a2 : (-1074 - p).toNat + (E + 1074).toNat = (E - p).toNat + (p + 1074).toNat := by omega
   rw [a1, a2, Nat.pow_zero, Nat.mul_one, Nat.pow_add, rhe_mul _ _ _ (Nat.two_pow_pos _)]
 ·refine rhe_le_of _ _ _ (Nat.two_pow_pos _) ?_
  rw [show (2 * 2 ^ 52 : Nat) = 2 ^ 53 from by decide, ← Nat.pow_add]
  have h3 : m * 2 ^ (p - E).toNat < 2 ^ (m.log2 + 1) * 2 ^ (p - E).toNat := Nat.mul_lt_mul_of_pos_right l2 (Nat.two_pow_pos _)
  rw [← Nat.pow_add] at h3
  have h4 : 2 ^ (m.log2 + 1 + (p - E).toNat) ≤ 2 ^ ((E - p).toNat + 53) := Nat.pow_le_pow_right (by omega) (by omega)
  omega
 ·rcases Int.lt_or_le (-1074) E with h | h
  ·right
   refine rhe_ge_of _ _ _ (Nat.two_pow_pos _) ?_
   rw [← Nat.pow_add]
   have h3 : 2 ^ m.log2 * 2 ^ (p - E).toNat ≤ m * 2 ^ (p - E).toNat := Nat.mul_le_mul_right _ l1
   rw [← Nat.pow_add] at h3
   have h4 : 2 ^ ((E - p).toNat + 52) ≤ 2 ^ (m.log2 + (p - E).toNat) := Nat.pow_le_pow_right (by omega) (by omega)
   omega
  ·left; omega
theorem blen_pos (m : Nat) (h : 0 < m) : (blen m : Int) = (m.log2 : Int) + 1 := by
 unfold blen; rw [if_neg (by omega)]; omega
theorem near_zero (p : Int) : near 0 p = 0 := by unfold near; rw [Nat.zero_mul, rungOf_zero]
end Go.Proofs.YtlgencbldbpbdaaGreatDoor
namespace Go.Proofs.YtlgencbldbpbdaaGreatDoor
open Go.RowKit Fl
theorem U_rg (x : Nat) : U (rg x) := by have := rg_lt x; unfold U; omega
theorem sg_rg (x : Nat) : sg (rg x) = false := by unfold sg; have := rg_lt x; exact decide_eq_false (by omega)
theorem rg_rg (x : Nat) : rg (rg x) = rg x := Nat.mod_eq_of_lt (rg_lt x)
set_option maxRecDepth 100000 in
theorem c133 (x : Nat) (w : World) (hx : U x) : Calls Tryz.prog 26 #[.float .f64 x] w fun e w' => e = .returned (.float .f64 (rg x)) ∧ w = w' := by
 have h2 := b_mag x hx
 go_enter Tryz.func26, Tryz.ntmps26
 go_wp2
 go_ret
 exact ⟨rfl, rfl⟩
set_option maxRecDepth 100000 in
theorem c129 (x : Nat) (w : World) (hx : U x) : Calls Tryz.prog 198 #[.float .f64 x] w fun e w' => e = .returned (.bool (isN x)) ∧ w = w' := by
 have h2 := neq_self x hx
 go_enter Tryz.func198, Tryz.ntmps198
 go_wp2
 go_ret
 exact ⟨rfl, rfl⟩
def isI (x : Nat) : Bool := decide (rg x = 9218868437227405312)
theorem isI_eq (x : Nat) : fltP 9218868437227405311 (pl (rg x)) = isI x := by
 unfold isI
 have hr := rg_lt x
 cases hn : isN (rg x)
 ·have h1 := isN_false hn
  rw [rg_rg] at h1
  have : pl (rg x) = (rg x : Int) := by rw [pl_pos hn (sg_rg x), rg_rg]
  rw [this, Bool.eq_iff_iff]
  unfold INF at h1
  simp [fltP, zk]; omega
 ·rw [pl_nan hn]
  have h1 := isN_true hn
  rw [rg_rg] at h1
  unfold INF at h1
  symm
  exact decide_eq_false (by omega)
set_option maxRecDepth 100000 in
theorem c130 (x : Nat) (w : World) (hx : U x) : Calls Tryz.prog 82 #[.float .f64 x, .int .i64 0] w fun e w' => e = .returned (.bool (isI x)) ∧ w = w' := by
 have e2 := f_gt (rg x) 9218868437227405311 (U_rg x) U_MAX
 rw [pl_MAX, isI_eq] at e2
 go_enter Tryz.func82, Tryz.ntmps82
 go_wp2_with (go_at_call 26; refine (c133 _ _ (by assumption)).mono ?_; rintro e w' ⟨rfl, rfl⟩)
 go_ret
 exact ⟨rfl, rfl⟩
set_option maxRecDepth 100000 in
theorem c137p (w : World) : Calls Tryz.prog 168 #[.int .i64 1] w fun e w' => e = .returned (.float .f64 9218868437227405312) ∧ w = w' := by
 go_enter Tryz.func168, Tryz.ntmps168
 go_wp2
 go_ret
 exact ⟨rfl, rfl⟩
def nw (E F : Nat) : Nat := E * 4503599627370496 + F
theorem nw_lt {E F : Nat} (h2 : E ≤ 2046) (hF : F < 4503599627370496) : nw E F < 9218868437227405312 := by unfold nw; omega
theorem U_nw {E F : Nat} (h2 : E ≤ 2046) (hF : F < 4503599627370496) : U (nw E F) := by have := nw_lt h2 hF; unfold U; omega
theorem sg_nw {E F : Nat} (h2 : E ≤ 2046) (hF : F < 4503599627370496) : sg (nw E F) = false := by have := nw_lt h2 hF; unfold sg; exact decide_eq_false (by omega)
theorem rg_nw {E F : Nat} (h2 : E ≤ 2046) (hF : F < 4503599627370496) : rg (nw E F) = nw E F := rg_of_not (sg_nw h2 hF)
theorem isN_nw {E F : Nat} (h2 : E ≤ 2046) (hF : F < 4503599627370496) : isN (nw E F) = false := by
 unfold isN; rw [rg_nw h2 hF]; have := nw_lt h2 hF; unfold INF; exact decide_eq_false (by omega)
theorem isI_nw {E F : Nat} (h2 : E ≤ 2046) (hF : F < 4503599627370496) : isI (nw E F) = false := by
 unfold isI; rw [rg_nw h2 hF]; have := nw_lt h2 hF; exact decide_eq_false (by omega)
theorem pl_nw {E F : Nat} (h2 : E ≤ 2046) (hF : F < 4503599627370496) : pl (nw E F) = ((nw E F : Nat) : Int) := by
 rw [pl_pos (isN_nw h2 hF) (sg_nw h2 hF), rg_nw h2 hF]
theorem U_min : U 4503599627370496 := by unfold U; decide
theorem pl_min : pl 4503599627370496 = 4503599627370496 := by decide
set_option maxRecDepth 100000 in
theorem c190 (E F : Nat) (w : World) (h1 : 1 ≤ E) (h2 : E ≤ 2046) (hF : F < 4503599627370496) :
  Calls Tryz.prog 293 #[.float .f64 (nw E F)] w fun e w' => e = .returned (.tuple #[.float .f64 (nw E F), .int .i64 0]) ∧ w = w' := by
 have hu := U_nw h2 hF
 have hr := rg_nw h2 hF
 have e := f_lt (nw E F) 4503599627370496 hu U_min
 have e' : (FloatKind.f64.format.order (nw E F) 4503599627370496 == some Ordering.lt) = false := by
  rw [e, pl_nw h2 hF, pl_min]
  have := nw_lt h2 hF
  have h3 : 4503599627370496 ≤ nw E F := by unfold nw; omega
  generalize nw E F = x at *
  simp [fltP, zk]; omega
 clear e h1 h2 hF
 generalize nw E F = x at *
 go_enter Tryz.func293, Tryz.ntmps293
 go_wp2_with (go_at_call 26; refine (c133 _ _ (by assumption)).mono ?_; rintro e w' ⟨rfl, rfl⟩)
 go_ret2
 exact ⟨rfl, rfl⟩
theorem i64_and_nat (a b : Nat) (ha : a < 9223372036854775808) (hb : b < 9223372036854775808) : bits .and .i64 (a : Int) (b : Int) = ((a &&& b : Nat) : Int) := by
 have e1 : (BitVec.ofInt 64 (a : Int)).toNat = a := by rw [BitVec.toNat_ofInt]; omega
 have e2 : (BitVec.ofInt 64 (b : Int)).toNat = b := by rw [BitVec.toNat_ofInt]; omega
 show IntKind.i64.wrap (((BitVec.ofInt 64 (a : Int) &&& BitVec.ofInt 64 (b : Int)).toNat : Nat) : Int) = _
 have h : a &&& b ≤ a := Nat.and_le_left
 rw [BitVec.toNat_and, e1, e2, IntKind.wrap_i64]
 omega
theorem i64_field (E : Nat) (h : E ≤ 2047) : bits .and .i64 (E : Int) 2047 = (E : Int) := by
 rw [show (2047 : Int) = ((2047 : Nat) : Int) from rfl, i64_and_nat _ _ (by omega) (by omega)]
 congr 1
 have := Nat.and_two_pow_sub_one_eq_mod E 11
 rw [show (2 ^ 11 - 1 : Nat) = 2047 from by decide] at this
 rw [this]; omega
theorem b_unfield (E F : Nat) (h2 : E ≤ 2046) (hF : F < 4503599627370496) : bits .andNot .u64 ((nw E F : Nat) : Int) 9218868437227405312 = (F : Int) := by
 have hl := nw_lt h2 hF
 rw [show (9218868437227405312 : Int) = ((9218868437227405312 : Nat) : Int) from rfl, u64_andNot_nat _ _ (by omega) (by omega)]
 have hc : 18446744073709551615 - 9218868437227405312 = 2 ^ 63 ||| (2 ^ 52 - 1) := by decide
 rw [hc, Nat.and_or_distrib_left, nat_bit 63, Nat.and_two_pow_sub_one_eq_mod]
 have e1 : nw E F / 2 ^ 63 = 0 := Nat.div_eq_of_lt (by omega)
 have e2 : nw E F % 2 ^ 52 = F := by unfold nw; omega
 rw [e1, e2]
 simp
theorem b_field (e F : Nat) (h2 : e ≤ 2046) (hF : F < 4503599627370496) : bits .or .u64 (F : Int) ((e : Int) * 4503599627370496) = ((nw e F : Nat) : Int) := by
 have e1 : (e : Int) * 4503599627370496 = ((e * 4503599627370496 : Nat) : Int) := by omega
 rw [e1, u64_or_nat _ _ (by omega) (by omega), Nat.or_comm]
 have hj : e * 4503599627370496 ||| F = e * 4503599627370496 + F := nat_join 52 (e * 4503599627370496) F (by omega) (by omega)
 rw [hj]; rfl
set_option maxRecDepth 100000 in
theorem c175 (f s : Nat) (w : World) (hf : U f) (hs : U s) : Calls Tryz.prog 207 #[.float .f64 f, .float .f64 s] w fun e w' => e = .returned (.float .f64 (word (sg s) (rg f))) ∧ w = w' := by
 have h1 := b_mag f hf
 have h2 := b_sign s hs
 cases c : sg s
 ·rw [c, if_neg (by decide)] at h2
  have h3 : bits .or .u64 (rg f : Int) 0 = (rg f : Int) := by
   have := rg_lt f
   rw [show (0 : Int) = ((0 : Nat) : Int) from rfl, u64_or_nat _ _ (by omega) (by omega), Nat.or_zero]
  go_enter Tryz.func207, Tryz.ntmps207
  go_wp2
  go_ret
  exact ⟨rfl, rfl⟩
 ·rw [c, if_pos rfl] at h2
  have h3 := b_or (rg f) (rg_lt f)
  go_enter Tryz.func207, Tryz.ntmps207
  go_wp2
  go_ret
  exact ⟨rfl, rfl⟩
theorem near_word (m : Nat) (p : Int) : Ieee.double.nearest false m p = min (near m p) INF := by
 rw [nearest_eq, word_eq, d_fb, d_inf, d_least]
 unfold near word
 rw [show p - -1074 = p + 1074 by omega]
 exact if_neg (by decide)
set_option maxRecDepth 100000 in
set_option maxHeartbeats 400000 in
theorem c188a (E F : Nat) (k : Int) (w : World) (h1 : 1 ≤ E) (h2 : E ≤ 2046) (hF : F < 4503599627370496) (k1 : -5000 ≤ k) (k2 : k ≤ 5000) (c1 : k + ((E : Int) - 1023) < -1075) :
  Calls Tryz.prog 284 #[.float .f64 (nw E F), .int .i64 k] w fun e w' => e = .returned (.float .f64 (min (near (4503599627370496 + F) ((E : Int) - 1075 + k)) INF)) ∧ w = w' := by
 have hu := U_nw h2 hF
 have e0 : (FloatKind.f64.format.order (nw E F) 0 == some Ordering.eq) = false := by
  rw [f_eq _ _ hu U_0, pl_nw h2 hF, pl_0]
  have h3 : 4503599627370496 ≤ nw E F := by unfold nw; omega
  generalize nw E F = x at *
  simp [feqP, zk]; omega
 have ei := isI_nw h2 hF
 have en := isN_nw h2 hF
 have ex : ((nw E F : Nat) : Int) / 4503599627370496 = (E : Int) := by unfold nw; omega
 have ef := i64_field E (by omega)
 have ec := Lib.hid (c190 E F w h1 h2 hF)
 have eu := b_unfield E F h2 hF
 have hl := Lib.hid (nw_lt h2 hF)
 have hsg := sg_nw h2 hF
 have hv : min (near (4503599627370496 + F) ((E : Int) - 1075 + k)) INF = word false 0 := by
  have : near (4503599627370496 + F) ((E : Int) - 1075 + k) = 0 := by
   obtain ⟨n1, n2, n3⟩ := near_core (4503599627370496 + F) ((E : Int) - 1075 + k) (by omega) _ rfl
   rw [log2_53 F hF] at n1
   have a1 : max (((52 : Nat) : Int) + 1 + ((E : Int) - 1075 + k) - 53) (-1074) = -1074 := by omega
   rw [a1] at n1
   rw [n1, show ((-1074 : Int) + 1074).toNat = 0 from rfl, Nat.zero_mul, Nat.zero_add, show (((E : Int) - 1075 + k) - -1074).toNat = 0 by omega, Nat.pow_zero, Nat.mul_one]
   refine rhe_small _ _ ?_
   have : 2 ^ 54 ≤ 2 ^ ((-1074 : Int) - ((E : Int) - 1075 + k)).toNat := Nat.pow_le_pow_right (by omega) (by omega)
   generalize 2 ^ ((-1074 : Int) - ((E : Int) - 1075 + k)).toNat = t at *
   omega
  rw [this]; rfl
 rw [hv]
 have hz : rg 0 = 0 := rfl
 clear hv
 generalize nw E F = X at *
 go_enter Tryz.func284, Tryz.ntmps284
 go_wp2_with (first | (go_at_call 82; refine (c130 _ _ (by assumption)).mono ?_; rintro e w' ⟨rfl, rfl⟩) | (go_at_call 198; refine (c129 _ _ (by assumption)).mono ?_; rintro e w' ⟨rfl, rfl⟩) | (go_at_call 293; refine ec.out.mono ?_; rintro e w' ⟨rfl, rfl⟩) | (go_at_call 207; refine (c175 _ _ _ U_0 (by assumption)).mono ?_; rintro e w' ⟨rfl, rfl⟩))
 go_ret
 exact ⟨rfl, rfl⟩
set_option maxRecDepth 100000 in
set_option maxHeartbeats 400000 in
theorem c188b (E F : Nat) (k : Int) (w : World) (h1 : 1 ≤ E) (h2 : E ≤ 2046) (hF : F < 4503599627370496) (k1 : -5000 ≤ k) (k2 : k ≤ 5000) (c2 : 1023 < k + ((E : Int) - 1023)) :
  Calls Tryz.prog 284 #[.float .f64 (nw E F), .int .i64 k] w fun e w' => e = .returned (.float .f64 (min (near (4503599627370496 + F) ((E : Int) - 1075 + k)) INF)) ∧ w = w' := by
 have hu := U_nw h2 hF
 have e0 : (FloatKind.f64.format.order (nw E F) 0 == some Ordering.eq) = false := by
  rw [f_eq _ _ hu U_0, pl_nw h2 hF, pl_0]
  have h3 : 4503599627370496 ≤ nw E F := by unfold nw; omega
  generalize nw E F = x at *
  simp [feqP, zk]; omega
 have ei := isI_nw h2 hF
 have en := isN_nw h2 hF
 have ex : ((nw E F : Nat) : Int) / 4503599627370496 = (E : Int) := by unfold nw; omega
 have ef := i64_field E (by omega)
 have ec := Lib.hid (c190 E F w h1 h2 hF)
 have eu := b_unfield E F h2 hF
 have hl := Lib.hid (nw_lt h2 hF)
 have hsg := sg_nw h2 hF
 have hv : min (near (4503599627370496 + F) ((E : Int) - 1075 + k)) INF = 9218868437227405312 := by
  have : INF ≤ near (4503599627370496 + F) ((E : Int) - 1075 + k) := by
   obtain ⟨n1, n2, n3⟩ := near_core (4503599627370496 + F) ((E : Int) - 1075 + k) (by omega) _ rfl
   rw [log2_53 F hF] at n1 n3
   have a1 : max (((52 : Nat) : Int) + 1 + ((E : Int) - 1075 + k) - 53) (-1074) = (E : Int) - 1075 + k := by omega
   rw [a1] at n1 n3
   rw [n1]
   have e : 2046 ≤ ((E : Int) - 1075 + k + 1074).toNat := by omega
   have e2 : 2046 * 2 ^ 52 ≤ ((E : Int) - 1075 + k + 1074).toNat * 2 ^ 52 := Nat.mul_le_mul_right _ e
   have e3 := n3.resolve_left (by omega)
   rw [show INF = 2046 * 2 ^ 52 + 2 ^ 52 from by decide]
   exact Nat.add_le_add e2 e3
  rw [Nat.min_eq_right this]; rfl
 rw [hv]
 have e9 : (FloatKind.f64.format.order (nw E F) 0 == some Ordering.lt) = false := by
  rw [f_lt _ _ hu U_0, pl_nw h2 hF, pl_0]
  generalize nw E F = x at *
  simp [fltP, zk]; omega
 clear hv
 generalize nw E F = X at *
 go_enter Tryz.func284, Tryz.ntmps284
 go_wp2_with (first | (go_at_call 82; refine (c130 _ _ (by assumption)).mono ?_; rintro e w' ⟨rfl, rfl⟩) | (go_at_call 198; refine (c129 _ _ (by assumption)).mono ?_; rintro e w' ⟨rfl, rfl⟩) | (go_at_call 293; refine ec.out.mono ?_; rintro e w' ⟨rfl, rfl⟩) | (go_at_call 168; refine (c137p _).mono ?_; rintro e w' ⟨rfl, rfl⟩))
 go_ret
 exact ⟨rfl, rfl⟩
set_option maxRecDepth 100000 in
set_option maxHeartbeats 400000 in
theorem c188c (E F : Nat) (k : Int) (w : World) (h1 : 1 ≤ E) (h2 : E ≤ 2046) (hF : F < 4503599627370496) (k1 : -5000 ≤ k) (k2 : k ≤ 5000) (c1 : ¬ k + ((E : Int) - 1023) < -1075) (c3 : k + ((E : Int) - 1023) < -1022) :
  Calls Tryz.prog 284 #[.float .f64 (nw E F), .int .i64 k] w fun e w' => e = .returned (.float .f64 (min (near (4503599627370496 + F) ((E : Int) - 1075 + k)) INF)) ∧ w = w' := by
 have hu := U_nw h2 hF
 have e0 : (FloatKind.f64.format.order (nw E F) 0 == some Ordering.eq) = false := by
  rw [f_eq _ _ hu U_0, pl_nw h2 hF, pl_0]
  have h3 : 4503599627370496 ≤ nw E F := by unfold nw; omega
  generalize nw E F = x at *
  simp [feqP, zk]; omega
 have ei := isI_nw h2 hF
 have en := isN_nw h2 hF
 have ex : ((nw E F : Nat) : Int) / 4503599627370496 = (E : Int) := by unfold nw; omega
 have ef := i64_field E (by omega)
 have ec := Lib.hid (c190 E F w h1 h2 hF)
 have eu := b_unfield E F h2 hF
 have hl := Lib.hid (nw_lt h2 hF)
 have hsg := sg_nw h2 hF
 obtain ⟨e', he'⟩ : ∃ e' : Nat, (e' : Int) = k + ((E : Int) - 1023) + 53 + 1023 := ⟨(k + ((E : Int) - 1023) + 53 + 1023).toNat, by omega⟩
 have hf2 := b_field e' F (by omega) hF
 have hm := mul_by 4368491638549381120 (-105) read_2p53 e' F (by omega) (by omega) hF
 have hu2 := U_nw (E := e') (F := F) (by omega) hF
 have hrun := fun w => run_float_arith (P := Tryz.prog) w .mul 31 .f64 4368491638549381120 (nw e' F) _ hm
 have hfin : Ieee.double.nearest false (4503599627370496 + F) ((e' : Int) - 1075 + -105 + 52) = min (near (4503599627370496 + F) ((E : Int) - 1075 + k)) INF := by
  rw [near_word]; congr 2; omega
 rw [hfin] at hrun
 rw [he'] at hf2
 clear hm he' hfin
 generalize nw E F = X at *
 generalize nw e' F = Y at *
 generalize min (near (4503599627370496 + F) ((E : Int) - 1075 + k)) INF = Z at *
 go_enter Tryz.func284, Tryz.ntmps284
 go_wp2_with (first | (go_at_call 82; refine (c130 _ _ (by assumption)).mono ?_; rintro e w' ⟨rfl, rfl⟩) | (go_at_call 198; refine (c129 _ _ (by assumption)).mono ?_; rintro e w' ⟨rfl, rfl⟩) | (go_at_call 293; refine ec.out.mono ?_; rintro e w' ⟨rfl, rfl⟩))
 go_ret
 exact ⟨rfl, rfl⟩
set_option maxRecDepth 100000 in
set_option maxHeartbeats 400000 in
theorem c188d (E F : Nat) (k : Int) (w : World) (h1 : 1 ≤ E) (h2 : E ≤ 2046) (hF : F < 4503599627370496) (k1 : -5000 ≤ k) (k2 : k ≤ 5000) (c2 : ¬ 1023 < k + ((E : Int) - 1023)) (c3 : ¬ k + ((E : Int) - 1023) < -1022) :
  Calls Tryz.prog 284 #[.float .f64 (nw E F), .int .i64 k] w fun e w' => e = .returned (.float .f64 (min (near (4503599627370496 + F) ((E : Int) - 1075 + k)) INF)) ∧ w = w' := by
 have hu := U_nw h2 hF
 have e0 : (FloatKind.f64.format.order (nw E F) 0 == some Ordering.eq) = false := by
  rw [f_eq _ _ hu U_0, pl_nw h2 hF, pl_0]
  have h3 : 4503599627370496 ≤ nw E F := by unfold nw; omega
  generalize nw E F = x at *
  simp [feqP, zk]; omega
 have ei := isI_nw h2 hF
 have en := isN_nw h2 hF
 have ex : ((nw E F : Nat) : Int) / 4503599627370496 = (E : Int) := by unfold nw; omega
 have ef := i64_field E (by omega)
 have ec := Lib.hid (c190 E F w h1 h2 hF)
 have eu := b_unfield E F h2 hF
 have hl := Lib.hid (nw_lt h2 hF)
 have hsg := sg_nw h2 hF
 obtain ⟨e', he'⟩ : ∃ e' : Nat, (e' : Int) = k + ((E : Int) - 1023) + 1023 := ⟨(k + ((E : Int) - 1023) + 1023).toNat, by omega⟩
 have hf2 := b_field e' F (by omega) hF
 have hm := mul_by 4607182418800017408 (-52) read_1 e' F (by omega) (by omega) hF
 have hu2 := U_nw (E := e') (F := F) (by omega) hF
 have hrun := fun w => run_float_arith (P := Tryz.prog) w .mul 31 .f64 4607182418800017408 (nw e' F) _ hm
 have hfin : Ieee.double.nearest false (4503599627370496 + F) ((e' : Int) - 1075 + -52 + 52) = min (near (4503599627370496 + F) ((E : Int) - 1075 + k)) INF := by
  rw [near_word]; congr 2; omega
 rw [hfin] at hrun
 rw [he'] at hf2
 clear hm he' hfin
 generalize nw E F = X at *
 generalize nw e' F = Y at *
 generalize min (near (4503599627370496 + F) ((E : Int) - 1075 + k)) INF = Z at *
 go_enter Tryz.func284, Tryz.ntmps284
 go_wp2_with (first | (go_at_call 82; refine (c130 _ _ (by assumption)).mono ?_; rintro e w' ⟨rfl, rfl⟩) | (go_at_call 198; refine (c129 _ _ (by assumption)).mono ?_; rintro e w' ⟨rfl, rfl⟩) | (go_at_call 293; refine ec.out.mono ?_; rintro e w' ⟨rfl, rfl⟩))
 go_ret
 exact ⟨rfl, rfl⟩
theorem c188 (E F : Nat) (k : Int) (w : World) (h1 : 1 ≤ E) (h2 : E ≤ 2046) (hF : F < 4503599627370496) (k1 : -5000 ≤ k) (k2 : k ≤ 5000) : Calls Tryz.prog 284 #[.float .f64 (nw E F), .int .i64 k] w fun e w' => e = .returned (.float .f64 (min (near (4503599627370496 + F) ((E : Int) - 1075 + k)) INF)) ∧ w = w' := by
 by_cases c1 : k + ((E : Int) - 1023) < -1075
 ·exact c188a E F k w h1 h2 hF k1 k2 c1
 by_cases c2 : 1023 < k + ((E : Int) - 1023)
 ·exact c188b E F k w h1 h2 hF k1 k2 c2
 by_cases c3 : k + ((E : Int) - 1023) < -1022
 ·exact c188c E F k w h1 h2 hF k1 k2 c1 c3
 ·exact c188d E F k w h1 h2 hF k1 k2 c2 c3
theorem near_scale (M j : Nat) (p : Int) : near (M * 2 ^ j) p = near M (p + j) := by
 unfold near
 rcases Int.le_total (-1074) p with h | h
 ·rw [show (-1074 - p).toNat = 0 by omega, show (-1074 - (p + (j : Int))).toNat = 0 by omega, Nat.mul_assoc, ← Nat.pow_add]
  congr 3; omega
 ·rw [show (p + 1074).toNat = 0 by omega, Nat.pow_zero, Nat.mul_one]
  rcases Int.le_total (-1074) (p + j) with h' | h'
  ·rw [show (-1074 - (p + (j : Int))).toNat = 0 by omega]
   have e : j = (p + (j : Int) + 1074).toNat + (-1074 - p).toNat := by omega
   generalize ha : (p + (j : Int) + 1074).toNat = a at *
   generalize hb : (-1074 - p).toNat = b at *
   rw [e, Nat.pow_add, ← Nat.mul_assoc]
   have := rungOf_scale 52 (M * 2 ^ a) 0 b
   rw [Nat.zero_add] at this
   exact this
  ·rw [show (p + (j : Int) + 1074).toNat = 0 by omega, Nat.pow_zero, Nat.mul_one]
   rw [show (-1074 - p).toNat = (-1074 - (p + (j : Int))).toNat + j by omega]
   exact rungOf_scale 52 M _ j
def fi (n : Nat) : Nat := rnd (n * ONE)
theorem fi_eq (n : Nat) : floatOfInt .f64 (n : Int) = fi n := by
 have : floatOfInt .f64 (n : Int) = Ieee.double.nearest false n 0 := by
  show Ieee.double.write (.number (decide ((n : Int) < 0)) (n : Int).natAbs 0) = _
  rw [show decide ((n : Int) < 0) = false from decide_eq_false (by omega), Int.natAbs_natCast]
  rfl
 rw [this, nearest_int]
 unfold word fi
 exact if_neg (by decide)
theorem val_top : Fl.val 52 (1076 * 4503599627370496) = 9007199254740992 * ONE := by
 have hd : (1076 * 4503599627370496) / 2 ^ 52 - 1 = K + 1 := by decide
 have hm : 2 ^ 52 + (1076 * 4503599627370496) % 2 ^ 52 = 4503599627370496 := by decide
 unfold Fl.val
 rw [if_neg (by decide), hd, hm, Nat.pow_succ, ← one_pow]
 omega
theorem fi_val (n : Nat) (h : n ≤ 9007199254740992) : Fl.val 52 (fi n) = n * ONE ∧ fi n ≤ 1076 * 4503599627370496 := by
 have h1 : Fl.val 52 (rungOf 52 (n * ONE) 0) = n * ONE := by
  rw [one_pow]
  refine val_rungOf_small 52 n K ?_
  rw [B52]; omega
 have h2 : rungOf 52 (n * ONE) 0 ≤ 1076 * 4503599627370496 := by
  have := rungOf_mono 52 (n * ONE) (9007199254740992 * ONE) 0 (Nat.mul_le_mul_right _ h)
  rw [← val_top, rungOf_val] at this
  exact this
 have h3 : fi n = rungOf 52 (n * ONE) 0 := by unfold fi rnd INF; omega
 rw [h3]; exact ⟨h1, h2⟩
theorem fi_parts (n : Nat) (h0 : 0 < n) (h : n ≤ 9007199254740992) : ∃ E F : Nat, 1 ≤ E ∧ E ≤ 1076 ∧ F < 4503599627370496 ∧ fi n = nw E F ∧ (4503599627370496 + F) * 2 ^ (E - 1) = n * 2 ^ K := by
 obtain ⟨h1, h2⟩ := fi_val n h
 have hge : 4503599627370496 ≤ fi n := by
  rcases Nat.lt_or_ge (fi n) 4503599627370496 with c | c
  ·rw [val_small 52 _ (by rw [B52]; omega)] at h1
   have : 4503599627370496 ≤ ONE := by
    rw [one_pow, ← B52]; exact Nat.pow_le_pow_right (by omega) (by decide)
   have : ONE ≤ n * ONE := Nat.le_mul_of_pos_left _ h0
   omega
  ·exact c
 refine ⟨fi n / 4503599627370496, fi n % 4503599627370496, by omega, by omega, by omega, by unfold nw; omega, ?_⟩
 rw [← one_pow, ← h1]
 unfold Fl.val
 rw [if_neg (by rw [B52]; omega), B52]
theorem near_fi (n : Nat) (k : Int) (E F : Nat) (h1 : 1 ≤ E) (e : (4503599627370496 + F) * 2 ^ (E - 1) = n * 2 ^ K) : near (4503599627370496 + F) ((E : Int) - 1075 + k) = near n k := by
 have a := near_scale (4503599627370496 + F) (E - 1) ((E : Int) - 1075 + k - ((E - 1 : Nat) : Int))
 have b := near_scale n K ((E : Int) - 1075 + k - ((E - 1 : Nat) : Int))
 rw [e] at a
 rw [b] at a
 have hK : (K : Int) = 1074 := rfl
 rw [show (E : Int) - 1075 + k - ((E - 1 : Nat) : Int) + (((E - 1 : Nat) : Nat) : Int) = (E : Int) - 1075 + k by omega, show (E : Int) - 1075 + k - ((E - 1 : Nat) : Int) + (K : Int) = k by omega] at a
 exact a.symm
set_option maxRecDepth 100000 in
theorem c188z (k : Int) (w : World) : Calls Tryz.prog 284 #[.float .f64 0, .int .i64 k] w fun e w' => e = .returned (.float .f64 0) ∧ w = w' := by
 have e0 : (FloatKind.f64.format.order 0 0 == some Ordering.eq) = true := by decide
 go_enter Tryz.func284, Tryz.ntmps284
 go_wp2
 go_ret
 exact ⟨rfl, rfl⟩
theorem c188i (n : Nat) (k : Int) (w : World) (h : n ≤ 9007199254740992) (k1 : -5000 ≤ k) (k2 : k ≤ 5000) :
  Calls Tryz.prog 284 #[.float .f64 (fi n), .int .i64 k] w fun e w' => e = .returned (.float .f64 (min (near n k) INF)) ∧ w = w' := by
 rcases Nat.eq_zero_or_pos n with c | c
 ·subst c
  have e1 : fi 0 = 0 := by unfold fi; rw [Nat.zero_mul, rnd_zero]
  have e2 : min (near 0 k) INF = 0 := by rw [near_zero]; exact Nat.zero_min _
  rw [e1, e2]
  exact c188z k w
 ·obtain ⟨E, F, h1, h2, hF, e, hv⟩ := fi_parts n c h
  have := c188 E F k w h1 (by omega) hF k1 k2
  rw [near_fi n k E F h1 hv] at this
  rw [e]; exact this
set_option maxRecDepth 100000 in
theorem c177 (n : Nat) (k : Int) (w : World) (h : n ≤ 9007199254740992) (k1 : -5000 ≤ k) (k2 : k ≤ 5000) :
  Calls Tryz.prog 245 #[.float .f64 (fi n), .int .i64 k] w fun e w' => e = .returned (.float .f64 (min (near n k) INF)) ∧ w = w' := by
 have H := Lib.hid (c188i n k w h k1 k2)
 clear h k1 k2
 go_enter Tryz.func245, Tryz.ntmps245
 go_wp2_with (go_at_call 284; refine H.out.mono ?_; rintro e w' ⟨rfl, rfl⟩)
 go_ret
 exact ⟨rfl, rfl⟩
end Go.Proofs.YtlgencbldbpbdaaGreatDoor
