/- math.Ldexp of a normal number without a sign: the nearest number. The number nearest to a quotient of whole numbers: by cutting to 56 bits; by what lies beneath it. Plain laws. The number nearest to a quotient, found between a rung and the next. Plain laws. Digits at a point: which number they are read as. Plain laws. The rung nearest to a quotient: scaled, by order, by what lies half way. Plain laws. -/
import Derived.Test.YtjkifbkehochoaaGreatDoorMgLen
import Derived.Test.YtjkifbkehochoaaGreatDoorMgArith
import Derived.Test.YtjkifbkehochoaaGreatDoorMgFl
namespace Go.Proofs.YtjkifbkehochoaaGreatDoor
open Go.RowKit Fl
theorem U_rg (x : Nat) : U (rg x) := by have := rg_lt x; unfold U; omega
theorem sg_rg (x : Nat) : sg (rg x) = false := by unfold sg; have := rg_lt x; exact decide_eq_false (by omega)
theorem rg_rg (x : Nat) : rg (rg x) = rg x := Nat.mod_eq_of_lt (rg_lt x)
set_option maxRecDepth 100000 in
theorem c133 (x : Nat) (w : World) (hx : U x) : Calls Tryz.prog 22 #[.float .f64 x] w fun e w' => e = .returned (.float .f64 (rg x)) ∧ w = w' := by
  have h2 := b_mag x hx
  go_enter Tryz.func22, Tryz.ntmps22
  go_wp2
  go_ret
  exact ⟨rfl, rfl⟩
set_option maxRecDepth 100000 in
theorem c129 (x : Nat) (w : World) (hx : U x) : Calls Tryz.prog 109 #[.float .f64 x] w fun e w' => e = .returned (.bool (isN x)) ∧ w = w' := by
  have h2 := neq_self x hx
  go_enter Tryz.func109, Tryz.ntmps109
  go_wp2
  go_ret
  exact ⟨rfl, rfl⟩
def isI (x : Nat) : Bool := decide (rg x = 9218868437227405312)
theorem isI_eq (x : Nat) : fltP 9218868437227405311 (pl (rg x)) = isI x := by
  unfold isI
  have hr := rg_lt x
  cases hn : isN (rg x)
  · have h1 := isN_false hn
    rw [rg_rg] at h1
    have : pl (rg x) = (rg x : Int) := by rw [pl_pos hn (sg_rg x), rg_rg]
    rw [this, Bool.eq_iff_iff]
    unfold INF at h1
    simp [fltP, zk]; omega
  · rw [pl_nan hn]
    have h1 := isN_true hn
    rw [rg_rg] at h1
    unfold INF at h1
    symm
    exact decide_eq_false (by omega)
set_option maxRecDepth 100000 in
theorem c130 (x : Nat) (w : World) (hx : U x) : Calls Tryz.prog 110 #[.float .f64 x, .int .i64 0] w fun e w' => e = .returned (.bool (isI x)) ∧ w = w' := by
  have e2 := f_gt (rg x) 9218868437227405311 (U_rg x) U_MAX
  rw [pl_MAX, isI_eq] at e2
  go_enter Tryz.func110, Tryz.ntmps110
  go_wp2_with (go_at_call 22; refine (c133 _ _ (by assumption)).mono ?_; rintro e w' ⟨rfl, rfl⟩)
  go_ret
  exact ⟨rfl, rfl⟩
set_option maxRecDepth 100000 in
theorem c137p (w : World) : Calls Tryz.prog 54 #[.int .i64 1] w fun e w' => e = .returned (.float .f64 9218868437227405312) ∧ w = w' := by
  go_enter Tryz.func54, Tryz.ntmps54
  go_wp2
  go_ret
  exact ⟨rfl, rfl⟩
/-- the word of a normal number without a sign -/
def nw (E F : Nat) : Nat := E * 4503599627370496 + F
theorem nw_lt {E F : Nat} (h2 : E ≤ 2046) (hF : F < 4503599627370496) : nw E F < 9218868437227405312 := by unfold nw; omega
theorem U_nw {E F : Nat} (h2 : E ≤ 2046) (hF : F < 4503599627370496) : U (nw E F) := by have := nw_lt h2 hF; unfold U; omega
theorem sg_nw {E F : Nat} (h2 : E ≤ 2046) (hF : F < 4503599627370496) : sg (nw E F) = false := by have := nw_lt h2 hF; unfold sg; exact decide_eq_false (by omega)
theorem rg_nw {E F : Nat} (h2 : E ≤ 2046) (hF : F < 4503599627370496) : rg (nw E F) = nw E F := rg_of_not (sg_nw h2 hF)
theorem isN_nw {E F : Nat} (h2 : E ≤ 2046) (hF : F < 4503599627370496) : isN (nw E F) = false := by
  unfold isN; rw [rg_nw h2 hF]; have := nw_lt h2 hF; unfold INF; exact decide_eq_false (by omega)
theorem isI_nw {E F : Nat} (h2 : E ≤ 2046) (hF : F < 4503599627370496) : isI (nw E F) = false := by
  unfold isI; rw [rg_nw h2 hF]; have := nw_lt h2 hF; exact decide_eq_false (by omega)
theorem pl_nw {E F : Nat} (h2 : E ≤ 2046) (hF : F < 4503599627370496) : pl (nw E F) = ((nw E F : Nat) : Int) := by
  rw [pl_pos (isN_nw h2 hF) (sg_nw h2 hF), rg_nw h2 hF]
theorem U_min : U 4503599627370496 := by unfold U; decide
theorem pl_min : pl 4503599627370496 = 4503599627370496 := by decide
set_option maxRecDepth 100000 in
theorem c190 (E F : Nat) (w : World) (h1 : 1 ≤ E) (h2 : E ≤ 2046) (hF : F < 4503599627370496) :
    Calls Tryz.prog 128 #[.float .f64 (nw E F)] w fun e w' => e = .returned (.tuple #[.float .f64 (nw E F), .int .i64 0]) ∧ w = w' := by
  have hu := U_nw h2 hF
  have hr := rg_nw h2 hF
  have e := f_lt (nw E F) 4503599627370496 hu U_min
  have e' : (FloatKind.f64.format.order (nw E F) 4503599627370496 == some Ordering.lt) = false := by
    rw [e, pl_nw h2 hF, pl_min]
    have := nw_lt h2 hF
    have h3 : 4503599627370496 ≤ nw E F := by unfold nw; omega
    generalize nw E F = x at *
    simp [fltP, zk]; omega
  clear e h1 h2 hF
  generalize nw E F = x at *
  go_enter Tryz.func128, Tryz.ntmps128
  go_wp2_with (go_at_call 22; refine (c133 _ _ (by assumption)).mono ?_; rintro e w' ⟨rfl, rfl⟩)
  go_ret2
  exact ⟨rfl, rfl⟩
theorem i64_and_nat (a b : Nat) (ha : a < 9223372036854775808) (hb : b < 9223372036854775808) : bits .and .i64 (a : Int) (b : Int) = ((a &&& b : Nat) : Int) := by
  have e1 : (BitVec.ofInt 64 (a : Int)).toNat = a := by rw [BitVec.toNat_ofInt]; omega
  have e2 : (BitVec.ofInt 64 (b : Int)).toNat = b := by rw [BitVec.toNat_ofInt]; omega
  show IntKind.i64.wrap (((BitVec.ofInt 64 (a : Int) &&& BitVec.ofInt 64 (b : Int)).toNat : Nat) : Int) = _
  have h : a &&& b ≤ a := Nat.and_le_left
  rw [BitVec.toNat_and, e1, e2, IntKind.wrap_i64]
  omega
theorem i64_field (E : Nat) (h : E ≤ 2047) : bits .and .i64 (E : Int) 2047 = (E : Int) := by
  rw [show (2047 : Int) = ((2047 : Nat) : Int) from rfl, i64_and_nat _ _ (by omega) (by omega)]
  congr 1
  have := Nat.and_two_pow_sub_one_eq_mod E 11
  rw [show (2 ^ 11 - 1 : Nat) = 2047 from by decide] at this
  rw [this]; omega
theorem b_unfield (E F : Nat) (h2 : E ≤ 2046) (hF : F < 4503599627370496) : bits .andNot .u64 ((nw E F : Nat) : Int) 9218868437227405312 = (F : Int) := by
  have hl := nw_lt h2 hF
  rw [show (9218868437227405312 : Int) = ((9218868437227405312 : Nat) : Int) from rfl, u64_andNot_nat _ _ (by omega) (by omega)]
  have hc : 18446744073709551615 - 9218868437227405312 = 2 ^ 63 ||| (2 ^ 52 - 1) := by decide
  rw [hc, Nat.and_or_distrib_left, nat_bit 63, Nat.and_two_pow_sub_one_eq_mod]
  have e1 : nw E F / 2 ^ 63 = 0 := Nat.div_eq_of_lt (by omega)
  have e2 : nw E F % 2 ^ 52 = F := by unfold nw; omega
  rw [e1, e2]
  simp
theorem b_field (e F : Nat) (h2 : e ≤ 2046) (hF : F < 4503599627370496) : bits .or .u64 (F : Int) ((e : Int) * 4503599627370496) = ((nw e F : Nat) : Int) := by
  have e1 : (e : Int) * 4503599627370496 = ((e * 4503599627370496 : Nat) : Int) := by omega
  rw [e1, u64_or_nat _ _ (by omega) (by omega), Nat.or_comm]
  have hj : e * 4503599627370496 ||| F = e * 4503599627370496 + F := nat_join 52 (e * 4503599627370496) F (by omega) (by omega)
  rw [hj]; rfl
set_option maxRecDepth 100000 in
theorem c175 (f s : Nat) (w : World) (hf : U f) (hs : U s) : Calls Tryz.prog 26 #[.float .f64 f, .float .f64 s] w fun e w' => e = .returned (.float .f64 (word (sg s) (rg f))) ∧ w = w' := by
  have h1 := b_mag f hf
  have h2 := b_sign s hs
  cases c : sg s
  · rw [c, if_neg (by decide)] at h2
    have h3 : bits .or .u64 (rg f : Int) 0 = (rg f : Int) := by
      have := rg_lt f
      rw [show (0 : Int) = ((0 : Nat) : Int) from rfl, u64_or_nat _ _ (by omega) (by omega), Nat.or_zero]
    go_enter Tryz.func26, Tryz.ntmps26
    go_wp2
    go_ret
    exact ⟨rfl, rfl⟩
  · rw [c, if_pos rfl] at h2
    have h3 := b_or (rg f) (rg_lt f)
    go_enter Tryz.func26, Tryz.ntmps26
    go_wp2
    go_ret
    exact ⟨rfl, rfl⟩
theorem near_word (m : Nat) (p : Int) : Ieee.double.nearest false m p = min (near m p) INF := by
  rw [nearest_eq, word_eq, d_fb, d_inf, d_least]
  unfold near word
  rw [show p - -1074 = p + 1074 by omega]
  exact if_neg (by decide)
set_option maxRecDepth 100000 in
set_option maxHeartbeats 400000 in
theorem c188a (E F : Nat) (k : Int) (w : World) (h1 : 1 ≤ E) (h2 : E ≤ 2046) (hF : F < 4503599627370496) (k1 : -5000 ≤ k) (k2 : k ≤ 5000) (c1 : k + ((E : Int) - 1023) < -1075) :
    Calls Tryz.prog 108 #[.float .f64 (nw E F), .int .i64 k] w fun e w' => e = .returned (.float .f64 (min (near (4503599627370496 + F) ((E : Int) - 1075 + k)) INF)) ∧ w = w' := by
  have hu := U_nw h2 hF
  have e0 : (FloatKind.f64.format.order (nw E F) 0 == some Ordering.eq) = false := by
    rw [f_eq _ _ hu U_0, pl_nw h2 hF, pl_0]
    have h3 : 4503599627370496 ≤ nw E F := by unfold nw; omega
    generalize nw E F = x at *
    simp [feqP, zk]; omega
  have ei := isI_nw h2 hF
  have en := isN_nw h2 hF
  have ex : ((nw E F : Nat) : Int) / 4503599627370496 = (E : Int) := by unfold nw; omega
  have ef := i64_field E (by omega)
  have ec := Lib.hid (c190 E F w h1 h2 hF)
  have eu := b_unfield E F h2 hF
  have hl := Lib.hid (nw_lt h2 hF)
  have hsg := sg_nw h2 hF
  have hv : min (near (4503599627370496 + F) ((E : Int) - 1075 + k)) INF = word false 0 := by
    have : near (4503599627370496 + F) ((E : Int) - 1075 + k) = 0 := by
      obtain ⟨n1, n2, n3⟩ := near_core (4503599627370496 + F) ((E : Int) - 1075 + k) (by omega) _ rfl
      rw [log2_53 F hF] at n1
      have a1 : max (((52 : Nat) : Int) + 1 + ((E : Int) - 1075 + k) - 53) (-1074) = -1074 := by omega
      rw [a1] at n1
      rw [n1, show ((-1074 : Int) + 1074).toNat = 0 from rfl, Nat.zero_mul, Nat.zero_add, show (((E : Int) - 1075 + k) - -1074).toNat = 0 by omega, Nat.pow_zero, Nat.mul_one]
      refine rhe_small _ _ ?_
      have : 2 ^ 54 ≤ 2 ^ ((-1074 : Int) - ((E : Int) - 1075 + k)).toNat := Nat.pow_le_pow_right (by omega) (by omega)
      generalize 2 ^ ((-1074 : Int) - ((E : Int) - 1075 + k)).toNat = t at *
      omega
    rw [this]; rfl
  rw [hv]
  have hz : rg 0 = 0 := rfl
  clear hv
  generalize nw E F = X at *
  go_enter Tryz.func108, Tryz.ntmps108
  go_wp2_with (first | (go_at_call 110; refine (c130 _ _ (by assumption)).mono ?_; rintro e w' ⟨rfl, rfl⟩) | (go_at_call 109; refine (c129 _ _ (by assumption)).mono ?_; rintro e w' ⟨rfl, rfl⟩) | (go_at_call 128; refine ec.out.mono ?_; rintro e w' ⟨rfl, rfl⟩) | (go_at_call 26; refine (c175 _ _ _ U_0 (by assumption)).mono ?_; rintro e w' ⟨rfl, rfl⟩))
  go_ret
  exact ⟨rfl, rfl⟩
set_option maxRecDepth 100000 in
set_option maxHeartbeats 400000 in
theorem c188b (E F : Nat) (k : Int) (w : World) (h1 : 1 ≤ E) (h2 : E ≤ 2046) (hF : F < 4503599627370496) (k1 : -5000 ≤ k) (k2 : k ≤ 5000) (c2 : 1023 < k + ((E : Int) - 1023)) :
    Calls Tryz.prog 108 #[.float .f64 (nw E F), .int .i64 k] w fun e w' => e = .returned (.float .f64 (min (near (4503599627370496 + F) ((E : Int) - 1075 + k)) INF)) ∧ w = w' := by
  have hu := U_nw h2 hF
  have e0 : (FloatKind.f64.format.order (nw E F) 0 == some Ordering.eq) = false := by
    rw [f_eq _ _ hu U_0, pl_nw h2 hF, pl_0]
    have h3 : 4503599627370496 ≤ nw E F := by unfold nw; omega
    generalize nw E F = x at *
    simp [feqP, zk]; omega
  have ei := isI_nw h2 hF
  have en := isN_nw h2 hF
  have ex : ((nw E F : Nat) : Int) / 4503599627370496 = (E : Int) := by unfold nw; omega
  have ef := i64_field E (by omega)
  have ec := Lib.hid (c190 E F w h1 h2 hF)
  have eu := b_unfield E F h2 hF
  have hl := Lib.hid (nw_lt h2 hF)
  have hsg := sg_nw h2 hF
  have hv : min (near (4503599627370496 + F) ((E : Int) - 1075 + k)) INF = 9218868437227405312 := by
    have : INF ≤ near (4503599627370496 + F) ((E : Int) - 1075 + k) := by
      obtain ⟨n1, n2, n3⟩ := near_core (4503599627370496 + F) ((E : Int) - 1075 + k) (by omega) _ rfl
      rw [log2_53 F hF] at n1 n3
      have a1 : max (((52 : Nat) : Int) + 1 + ((E : Int) - 1075 + k) - 53) (-1074) = (E : Int) - 1075 + k := by omega
      rw [a1] at n1 n3
      rw [n1]
      have e : 2046 ≤ ((E : Int) - 1075 + k + 1074).toNat := by omega
      have e2 : 2046 * 2 ^ 52 ≤ ((E : Int) - 1075 + k + 1074).toNat * 2 ^ 52 := Nat.mul_le_mul_right _ e
      have e3 := n3.resolve_left (by omega)
      rw [show INF = 2046 * 2 ^ 52 + 2 ^ 52 from by decide]
      exact Nat.add_le_add e2 e3
    rw [Nat.min_eq_right this]; rfl
  rw [hv]
  have e9 : (FloatKind.f64.format.order (nw E F) 0 == some Ordering.lt) = false := by
    rw [f_lt _ _ hu U_0, pl_nw h2 hF, pl_0]
    generalize nw E F = x at *
    simp [fltP, zk]; omega
  clear hv
  generalize nw E F = X at *
  go_enter Tryz.func108, Tryz.ntmps108
  go_wp2_with (first | (go_at_call 110; refine (c130 _ _ (by assumption)).mono ?_; rintro e w' ⟨rfl, rfl⟩) | (go_at_call 109; refine (c129 _ _ (by assumption)).mono ?_; rintro e w' ⟨rfl, rfl⟩) | (go_at_call 128; refine ec.out.mono ?_; rintro e w' ⟨rfl, rfl⟩) | (go_at_call 54; refine (c137p _).mono ?_; rintro e w' ⟨rfl, rfl⟩))
  go_ret
  exact ⟨rfl, rfl⟩
set_option maxRecDepth 100000 in
set_option maxHeartbeats 400000 in
theorem c188c (E F : Nat) (k : Int) (w : World) (h1 : 1 ≤ E) (h2 : E ≤ 2046) (hF : F < 4503599627370496) (k1 : -5000 ≤ k) (k2 : k ≤ 5000) (c1 : ¬ k + ((E : Int) - 1023) < -1075) (c3 : k + ((E : Int) - 1023) < -1022) :
    Calls Tryz.prog 108 #[.float .f64 (nw E F), .int .i64 k] w fun e w' => e = .returned (.float .f64 (min (near (4503599627370496 + F) ((E : Int) - 1075 + k)) INF)) ∧ w = w' := by
  have hu := U_nw h2 hF
  have e0 : (FloatKind.f64.format.order (nw E F) 0 == some Ordering.eq) = false := by
    rw [f_eq _ _ hu U_0, pl_nw h2 hF, pl_0]
    have h3 : 4503599627370496 ≤ nw E F := by unfold nw; omega
    generalize nw E F = x at *
    simp [feqP, zk]; omega
  have ei := isI_nw h2 hF
  have en := isN_nw h2 hF
  have ex : ((nw E F : Nat) : Int) / 4503599627370496 = (E : Int) := by unfold nw; omega
  have ef := i64_field E (by omega)
  have ec := Lib.hid (c190 E F w h1 h2 hF)
  have eu := b_unfield E F h2 hF
  have hl := Lib.hid (nw_lt h2 hF)
  have hsg := sg_nw h2 hF
  obtain ⟨e', he'⟩ : ∃ e' : Nat, (e' : Int) = k + ((E : Int) - 1023) + 53 + 1023 := ⟨(k + ((E : Int) - 1023) + 53 + 1023).toNat, by omega⟩
  have hf2 := b_field e' F (by omega) hF
  have hm := mul_by 4368491638549381120 (-105) read_2p53 e' F (by omega) (by omega) hF
  have hu2 := U_nw (E := e') (F := F) (by omega) hF
  have hrun := fun w => run_float_arith (P := Tryz.prog) w .mul 23 .f64 4368491638549381120 (nw e' F) _ hm
  have hfin : Ieee.double.nearest false (4503599627370496 + F) ((e' : Int) - 1075 + -105 + 52) = min (near (4503599627370496 + F) ((E : Int) - 1075 + k)) INF := by
    rw [near_word]; congr 2; omega
  rw [hfin] at hrun
  rw [he'] at hf2
  clear hm he' hfin
  generalize nw E F = X at *
  generalize nw e' F = Y at *
  generalize min (near (4503599627370496 + F) ((E : Int) - 1075 + k)) INF = Z at *
  go_enter Tryz.func108, Tryz.ntmps108
  go_wp2_with (first | (go_at_call 110; refine (c130 _ _ (by assumption)).mono ?_; rintro e w' ⟨rfl, rfl⟩) | (go_at_call 109; refine (c129 _ _ (by assumption)).mono ?_; rintro e w' ⟨rfl, rfl⟩) | (go_at_call 128; refine ec.out.mono ?_; rintro e w' ⟨rfl, rfl⟩))
  go_ret
  exact ⟨rfl, rfl⟩
set_option maxRecDepth 100000 in
set_option maxHeartbeats 400000 in
theorem c188d (E F : Nat) (k : Int) (w : World) (h1 : 1 ≤ E) (h2 : E ≤ 2046) (hF : F < 4503599627370496) (k1 : -5000 ≤ k) (k2 : k ≤ 5000) (c2 : ¬ 1023 < k + ((E : Int) - 1023)) (c3 : ¬ k + ((E : Int) - 1023) < -1022) :
    Calls Tryz.prog 108 #[.float .f64 (nw E F), .int .i64 k] w fun e w' => e = .returned (.float .f64 (min (near (4503599627370496 + F) ((E : Int) - 1075 + k)) INF)) ∧ w = w' := by
  have hu := U_nw h2 hF
  have e0 : (FloatKind.f64.format.order (nw E F) 0 == some Ordering.eq) = false := by
    rw [f_eq _ _ hu U_0, pl_nw h2 hF, pl_0]
    have h3 : 4503599627370496 ≤ nw E F := by unfold nw; omega
    generalize nw E F = x at *
    simp [feqP, zk]; omega
  have ei := isI_nw h2 hF
  have en := isN_nw h2 hF
  have ex : ((nw E F : Nat) : Int) / 4503599627370496 = (E : Int) := by unfold nw; omega
  have ef := i64_field E (by omega)
  have ec := Lib.hid (c190 E F w h1 h2 hF)
  have eu := b_unfield E F h2 hF
  have hl := Lib.hid (nw_lt h2 hF)
  have hsg := sg_nw h2 hF
  obtain ⟨e', he'⟩ : ∃ e' : Nat, (e' : Int) = k + ((E : Int) - 1023) + 1023 := ⟨(k + ((E : Int) - 1023) + 1023).toNat, by omega⟩
  have hf2 := b_field e' F (by omega) hF
  have hm := mul_by 4607182418800017408 (-52) read_1 e' F (by omega) (by omega) hF
  have hu2 := U_nw (E := e') (F := F) (by omega) hF
  have hrun := fun w => run_float_arith (P := Tryz.prog) w .mul 23 .f64 4607182418800017408 (nw e' F) _ hm
  have hfin : Ieee.double.nearest false (4503599627370496 + F) ((e' : Int) - 1075 + -52 + 52) = min (near (4503599627370496 + F) ((E : Int) - 1075 + k)) INF := by
    rw [near_word]; congr 2; omega
  rw [hfin] at hrun
  rw [he'] at hf2
  clear hm he' hfin
  generalize nw E F = X at *
  generalize nw e' F = Y at *
  generalize min (near (4503599627370496 + F) ((E : Int) - 1075 + k)) INF = Z at *
  go_enter Tryz.func108, Tryz.ntmps108
  go_wp2_with (first | (go_at_call 110; refine (c130 _ _ (by assumption)).mono ?_; rintro e w' ⟨rfl, rfl⟩) | (go_at_call 109; refine (c129 _ _ (by assumption)).mono ?_; rintro e w' ⟨rfl, rfl⟩) | (go_at_call 128; refine ec.out.mono ?_; rintro e w' ⟨rfl, rfl⟩))
  go_ret
  exact ⟨rfl, rfl⟩
theorem c188 (E F : Nat) (k : Int) (w : World) (h1 : 1 ≤ E) (h2 : E ≤ 2046) (hF : F < 4503599627370496) (k1 : -5000 ≤ k) (k2 : k ≤ 5000) : Calls Tryz.prog 108 #[.float .f64 (nw E F), .int .i64 k] w fun e w' => e = .returned (.float .f64 (min (near (4503599627370496 + F) ((E : Int) - 1075 + k)) INF)) ∧ w = w' := by
  by_cases c1 : k + ((E : Int) - 1023) < -1075
  · exact c188a E F k w h1 h2 hF k1 k2 c1
  by_cases c2 : 1023 < k + ((E : Int) - 1023)
  · exact c188b E F k w h1 h2 hF k1 k2 c2
  by_cases c3 : k + ((E : Int) - 1023) < -1022
  · exact c188c E F k w h1 h2 hF k1 k2 c1 c3
  · exact c188d E F k w h1 h2 hF k1 k2 c2 c3
theorem near_scale (M j : Nat) (p : Int) : near (M * 2 ^ j) p = near M (p + j) := by
  unfold near
  rcases Int.le_total (-1074) p with h | h
  · rw [show (-1074 - p).toNat = 0 by omega, show (-1074 - (p + (j : Int))).toNat = 0 by omega, Nat.mul_assoc, ← Nat.pow_add]
    congr 3; omega
  · rw [show (p + 1074).toNat = 0 by omega, Nat.pow_zero, Nat.mul_one]
    rcases Int.le_total (-1074) (p + j) with h' | h'
    · rw [show (-1074 - (p + (j : Int))).toNat = 0 by omega]
      have e : j = (p + (j : Int) + 1074).toNat + (-1074 - p).toNat := by omega
      generalize ha : (p + (j : Int) + 1074).toNat = a at *
      generalize hb : (-1074 - p).toNat = b at *
      rw [e, Nat.pow_add, ← Nat.mul_assoc]
      have := rungOf_scale 52 (M * 2 ^ a) 0 b
      rw [Nat.zero_add] at this
      exact this
    · rw [show (p + (j : Int) + 1074).toNat = 0 by omega, Nat.pow_zero, Nat.mul_one]
      rw [show (-1074 - p).toNat = (-1074 - (p + (j : Int))).toNat + j by omega]
      exact rungOf_scale 52 M _ j
/-- The word of a whole number. -/
def fi (n : Nat) : Nat := rnd (n * ONE)
theorem fi_eq (n : Nat) : floatOfInt .f64 (n : Int) = fi n := by
  have : floatOfInt .f64 (n : Int) = Ieee.double.nearest false n 0 := by
    show Ieee.double.write (.number (decide ((n : Int) < 0)) (n : Int).natAbs 0) = _
    rw [show decide ((n : Int) < 0) = false from decide_eq_false (by omega), Int.natAbs_natCast]
    rfl
  rw [this, nearest_int]
  unfold word fi
  exact if_neg (by decide)
theorem val_top : Fl.val 52 (1076 * 4503599627370496) = 9007199254740992 * ONE := by
  have hd : (1076 * 4503599627370496) / 2 ^ 52 - 1 = K + 1 := by decide
  have hm : 2 ^ 52 + (1076 * 4503599627370496) % 2 ^ 52 = 4503599627370496 := by decide
  unfold Fl.val
  rw [if_neg (by decide), hd, hm, Nat.pow_succ, ← one_pow]
  omega
/-- A whole number up to 2^53 is a word's value. -/
theorem fi_val (n : Nat) (h : n ≤ 9007199254740992) : Fl.val 52 (fi n) = n * ONE ∧ fi n ≤ 1076 * 4503599627370496 := by
  have h1 : Fl.val 52 (rungOf 52 (n * ONE) 0) = n * ONE := by
    rw [one_pow]
    refine val_rungOf_small 52 n K ?_
    rw [B52]; omega
  have h2 : rungOf 52 (n * ONE) 0 ≤ 1076 * 4503599627370496 := by
    have := rungOf_mono 52 (n * ONE) (9007199254740992 * ONE) 0 (Nat.mul_le_mul_right _ h)
    rw [← val_top, rungOf_val] at this
    exact this
  have h3 : fi n = rungOf 52 (n * ONE) 0 := by unfold fi rnd INF; omega
  rw [h3]; exact ⟨h1, h2⟩
theorem fi_parts (n : Nat) (h0 : 0 < n) (h : n ≤ 9007199254740992) : ∃ E F : Nat, 1 ≤ E ∧ E ≤ 1076 ∧ F < 4503599627370496 ∧ fi n = nw E F ∧ (4503599627370496 + F) * 2 ^ (E - 1) = n * 2 ^ K := by
  obtain ⟨h1, h2⟩ := fi_val n h
  have hge : 4503599627370496 ≤ fi n := by
    rcases Nat.lt_or_ge (fi n) 4503599627370496 with c | c
    · rw [val_small 52 _ (by rw [B52]; omega)] at h1
      have : 4503599627370496 ≤ ONE := by
        rw [one_pow, ← B52]; exact Nat.pow_le_pow_right (by omega) (by decide)
      have : ONE ≤ n * ONE := Nat.le_mul_of_pos_left _ h0
      omega
    · exact c
  refine ⟨fi n / 4503599627370496, fi n % 4503599627370496, by omega, by omega, by omega, by unfold nw; omega, ?_⟩
  rw [← one_pow, ← h1]
  unfold Fl.val
  rw [if_neg (by rw [B52]; omega), B52]
theorem near_fi (n : Nat) (k : Int) (E F : Nat) (h1 : 1 ≤ E) (e : (4503599627370496 + F) * 2 ^ (E - 1) = n * 2 ^ K) : near (4503599627370496 + F) ((E : Int) - 1075 + k) = near n k := by
  have a := near_scale (4503599627370496 + F) (E - 1) ((E : Int) - 1075 + k - ((E - 1 : Nat) : Int))
  have b := near_scale n K ((E : Int) - 1075 + k - ((E - 1 : Nat) : Int))
  rw [e] at a
  rw [b] at a
  have hK : (K : Int) = 1074 := rfl
  rw [show (E : Int) - 1075 + k - ((E - 1 : Nat) : Int) + (((E - 1 : Nat) : Nat) : Int) = (E : Int) - 1075 + k by omega, show (E : Int) - 1075 + k - ((E - 1 : Nat) : Int) + (K : Int) = k by omega] at a
  exact a.symm
set_option maxRecDepth 100000 in
theorem c188z (k : Int) (w : World) : Calls Tryz.prog 108 #[.float .f64 0, .int .i64 k] w fun e w' => e = .returned (.float .f64 0) ∧ w = w' := by
  have e0 : (FloatKind.f64.format.order 0 0 == some Ordering.eq) = true := by decide
  go_enter Tryz.func108, Tryz.ntmps108
  go_wp2
  go_ret
  exact ⟨rfl, rfl⟩
theorem c188i (n : Nat) (k : Int) (w : World) (h : n ≤ 9007199254740992) (k1 : -5000 ≤ k) (k2 : k ≤ 5000) :
    Calls Tryz.prog 108 #[.float .f64 (fi n), .int .i64 k] w fun e w' => e = .returned (.float .f64 (min (near n k) INF)) ∧ w = w' := by
  rcases Nat.eq_zero_or_pos n with c | c
  · subst c
    have e1 : fi 0 = 0 := by unfold fi; rw [Nat.zero_mul, rnd_zero]
    have e2 : min (near 0 k) INF = 0 := by rw [near_zero]; exact Nat.zero_min _
    rw [e1, e2]
    exact c188z k w
  · obtain ⟨E, F, h1, h2, hF, e, hv⟩ := fi_parts n c h
    have := c188 E F k w h1 (by omega) hF k1 k2
    rw [near_fi n k E F h1 hv] at this
    rw [e]; exact this
set_option maxRecDepth 100000 in
/-- Ldexp of a whole number up to 2^53. -/
theorem c177 (n : Nat) (k : Int) (w : World) (h : n ≤ 9007199254740992) (k1 : -5000 ≤ k) (k2 : k ≤ 5000) :
    Calls Tryz.prog 70 #[.float .f64 (fi n), .int .i64 k] w fun e w' => e = .returned (.float .f64 (min (near n k) INF)) ∧ w = w' := by
  have H := Lib.hid (c188i n k w h k1 k2)
  clear h k1 k2
  go_enter Tryz.func70, Tryz.ntmps70
  go_wp2_with (go_at_call 108; refine H.out.mono ?_; rintro e w' ⟨rfl, rfl⟩)
  go_ret
  exact ⟨rfl, rfl⟩
end Go.Proofs.YtjkifbkehochoaaGreatDoor

namespace Go.Proofs.YtjkifbkehochoaaGreatDoor
open Fl
/-- the rung nearest to A / B units -/
def rungQ (A B : Nat) : Nat := ((A / B).log2 - 52) * 2 ^ 52 + rhe A (B * 2 ^ ((A / B).log2 - 52))
/-- the last rung that is not above X units -/
def lowR (X : Nat) : Nat := (X.log2 - 52) * 2 ^ 52 + X / 2 ^ (X.log2 - 52)
theorem log2_small {X : Nat} (h : X < 2 ^ 53) : X.log2 - 52 = 0 := by
  by_cases h0 : X = 0
  · subst h0; decide
  · have := (Nat.log2_lt h0 (k := 53)).2 h
    omega
theorem log2_cut {X : Nat} (h : 2 ^ 53 ≤ X) : 2 ^ 52 ≤ X / 2 ^ (X.log2 - 52) ∧ X / 2 ^ (X.log2 - 52) < 2 ^ 53 := by
  have h0 : X ≠ 0 := by have := Nat.two_pow_pos 53; omega
  have hl := (Nat.le_log2 h0 (k := 53)).2 h
  have a := Nat.log2_self_le h0
  have b := Nat.lt_log2_self (n := X)
  obtain ⟨E, hE⟩ : ∃ E, X.log2 = E + 52 := ⟨X.log2 - 52, by omega⟩
  rw [hE] at a b ⊢
  rw [Nat.add_sub_cancel]
  have hp := Nat.two_pow_pos E
  refine ⟨?_, ?_⟩
  · rw [Nat.le_div_iff_mul_le hp, ← Nat.pow_add, Nat.add_comm]; exact a
  · rw [Nat.div_lt_iff_lt_mul hp, ← Nat.pow_add, show 53 + E = E + 52 + 1 by omega]; exact b
theorem cut_cases (X : Nat) : X / 2 ^ (X.log2 - 52) < 2 ^ 53 ∧ (X.log2 - 52 = 0 ∨ 2 ^ 52 ≤ X / 2 ^ (X.log2 - 52)) := by
  rcases Nat.lt_or_ge X (2 ^ 53) with h | h
  · rw [log2_small h]; exact ⟨by simpa using h, .inl rfl⟩
  · exact ⟨(log2_cut h).2, .inr (log2_cut h).1⟩
theorem val_em (E m : Nat) (h1 : m ≤ 2 ^ 53) (h2 : E = 0 ∨ 2 ^ 52 ≤ m) : Fl.val 52 (E * 2 ^ 52 + m) = m * 2 ^ E := by
  unfold Fl.val
  have e53 : (2 : Nat) ^ 53 = 2 * 2 ^ 52 := by decide
  have hp : 0 < 2 ^ 52 := Nat.two_pow_pos 52
  generalize 2 ^ 52 = P at *
  rw [e53] at h1
  by_cases hm : m < P
  · have hE : E = 0 := by omega
    subst hE
    rw [Nat.zero_mul, Nat.zero_add, if_pos hm, Nat.pow_zero, Nat.mul_one]
  · by_cases hE : m = 2 * P
    · have e1 : E * P + m = P * (E + 2) := by rw [hE, Nat.mul_add, Nat.mul_comm E, Nat.mul_comm 2]
      have e2 : ¬ E * P + m < P := by omega
      rw [if_neg e2, e1, Nat.mul_mod_right, Nat.mul_div_cancel_left _ hp, hE, Nat.add_zero, show E + 2 - 1 = E + 1 by omega, Nat.pow_succ, Nat.mul_comm 2 P, Nat.mul_assoc, Nat.mul_comm 2]
    · have e1 : E * P + m = P * (E + 1) + (m - P) := by rw [Nat.mul_add, Nat.mul_comm E]; omega
      have e2 : ¬ E * P + m < P := by omega
      rw [if_neg e2, e1, Nat.mul_add_mod, Nat.mul_add_div hp, Nat.mod_eq_of_lt (by omega), Nat.div_eq_of_lt (show m - P < P by omega), Nat.add_zero, show E + 1 - 1 = E by omega, show P + (m - P) = m by omega]
theorem val_lowR (X : Nat) : Fl.val 52 (lowR X) = X / 2 ^ (X.log2 - 52) * 2 ^ (X.log2 - 52) :=
  val_em _ _ (Nat.le_of_lt (cut_cases X).1) (cut_cases X).2
theorem val_lowR1 (X : Nat) : Fl.val 52 (lowR X + 1) = (X / 2 ^ (X.log2 - 52) + 1) * 2 ^ (X.log2 - 52) := by
  unfold lowR
  rw [Nat.add_assoc]
  refine val_em _ _ (cut_cases X).1 ?_
  rcases (cut_cases X).2 with h | h
  · exact .inl h
  · exact .inr (Nat.le_succ_of_le h)
theorem lowR_le (X : Nat) : Fl.val 52 (lowR X) ≤ X := by rw [val_lowR]; exact Nat.div_mul_le_self _ _
theorem lt_lowR (X : Nat) : X < Fl.val 52 (lowR X + 1) := by
  rw [val_lowR1]
  have := Nat.lt_div_mul_add (a := X) (b := 2 ^ (X.log2 - 52)) (Nat.two_pow_pos _)
  rw [Nat.add_mul, Nat.one_mul]
  exact this
theorem lowR_unique {X r : Nat} (h1 : Fl.val 52 r ≤ X) (h2 : X < Fl.val 52 (r + 1)) : r = lowR X := by
  have a := lowR_le X
  have b := lt_lowR X
  rcases Nat.lt_trichotomy r (lowR X) with h | h | h
  · have := Fl.val_le 52 (r + 1) (lowR X) h; omega
  · exact h
  · have := Fl.val_le 52 (lowR X + 1) r h; omega
/-- half a step above or not -/
theorem rungQ_eq (A B : Nat) (hB : 0 < B) : rungQ A B = lowR (A / B) +
    (if (2 * (A / B / 2 ^ ((A / B).log2 - 52)) + 1) * 2 ^ ((A / B).log2 - 52) * B < 2 * A ∨ ((2 * (A / B / 2 ^ ((A / B).log2 - 52)) + 1) * 2 ^ ((A / B).log2 - 52) * B = 2 * A ∧ lowR (A / B) % 2 = 1) then 1 else 0) := by
  unfold rungQ lowR
  generalize (A / B).log2 - 52 = E
  have hG : 0 < B * 2 ^ E := Nat.mul_pos hB (Nat.two_pow_pos E)
  have e1 : A / B / 2 ^ E = A / (B * 2 ^ E) := Nat.div_div_eq_div_mul _ _ _
  rw [e1]
  unfold rhe
  have hd := Nat.div_add_mod A (B * 2 ^ E)
  have e2 : (2 * (A / (B * 2 ^ E)) + 1) * 2 ^ E * B = 2 * (B * 2 ^ E * (A / (B * 2 ^ E))) + B * 2 ^ E := by
    rw [Nat.add_mul, Nat.add_mul, Nat.one_mul, Nat.mul_comm (2 ^ E) B]
    congr 1
    rw [Nat.mul_assoc, Nat.mul_assoc, Nat.mul_comm (2 ^ E) B]
    congr 1
    exact Nat.mul_comm _ _
  rw [e2]
  have e3 : ∀ m : Nat, (E * 2 ^ 52 + m) % 2 = m % 2 := fun m => by
    rw [show (2 : Nat) ^ 52 = 2 ^ 51 * 2 by decide, ← Nat.mul_assoc, Nat.add_comm, Nat.add_mul_mod_self_right]
  rw [e3]
  generalize A / (B * 2 ^ E) = m at *
  generalize A % (B * 2 ^ E) = t at *
  generalize B * 2 ^ E = G at *
  have c1 : (2 * (G * m) + G < 2 * A) ↔ (G < 2 * t) := by omega
  have c2 : (2 * (G * m) + G = 2 * A) ↔ (G = 2 * t) := by omega
  simp only [c1, c2]
  rw [Nat.add_assoc]
/-- cut, and something is left or not -/
theorem rhe_cut (a b D : Nat) (hb : 0 < b) (hD : 0 < D) : rhe a (b * (2 * D)) = a / b / (2 * D) + (if a / b / D % 2 = 1 ∧ (a % b ≠ 0 ∨ a / b % D ≠ 0 ∨ a / b / (2 * D) % 2 = 1) then 1 else 0) := by
  unfold rhe
  have e1 : a / (b * (2 * D)) = a / b / (2 * D) := (Nat.div_div_eq_div_mul _ _ _).symm
  have e2 : a % (b * (2 * D)) = a % b + b * (a / b % (2 * D)) := Nat.mod_mul
  have e3 : a / b % (2 * D) = a / b % D + D * (a / b / D % 2) := by rw [Nat.mul_comm 2 D]; exact Nat.mod_mul
  rw [e1, e2, e3]
  have h1 : a % b < b := Nat.mod_lt _ hb
  have h2 : a / b % D < D := Nat.mod_lt _ hD
  have h3 : a / b / D % 2 < 2 := Nat.mod_lt _ (by decide)
  generalize a / b / (2 * D) % 2 = o
  generalize a / b / D % 2 = h at *
  generalize a / b % D = t at *
  generalize a % b = r at *
  congr 1
  have k1 : b * (t + 1) ≤ b * D := Nat.mul_le_mul_left _ h2
  rw [Nat.mul_add, Nat.mul_one] at k1
  have k2 : b * (2 * D) = 2 * (b * D) := Nat.mul_left_comm _ _ _
  have hh : h = 0 ∨ h = 1 := by omega
  rcases hh with rfl | rfl
  · rw [Nat.mul_zero, Nat.add_zero, k2, if_neg (by omega), if_neg (by omega)]
  · rw [Nat.mul_one, k2]
    have k5 : b * (t + D) = b * t + b * D := Nat.mul_add _ _ _
    have k3 : t ≠ 0 → 0 < b * t := fun h => Nat.mul_pos hb (by omega)
    have k4 : t = 0 → b * t = 0 := fun h => by rw [h, Nat.mul_zero]
    by_cases c : t = 0
    · have := k4 c
      by_cases c2 : r = 0
      · by_cases c3 : o = 1
        · rw [if_pos (by omega), if_pos (by omega)]
        · rw [if_neg (by omega), if_neg (by omega)]
      · rw [if_pos (by omega), if_pos (by omega)]
    · have := k3 c
      rw [if_pos (by omega), if_pos (by omega)]
theorem log2_div_pow (X j : Nat) : (X / 2 ^ j).log2 = X.log2 - j := by
  by_cases h0 : X / 2 ^ j = 0
  · rw [h0]
    have hlt : X < 2 ^ j := by
      rcases Nat.lt_or_ge X (2 ^ j) with h | h
      · exact h
      · have := (Nat.le_div_iff_mul_le (Nat.two_pow_pos j) (x := 1) (y := X)).2 (by simpa using h)
        omega
    by_cases hx : X = 0
    · subst hx; simp
    · have := (Nat.log2_lt hx (k := j)).2 hlt
      show 0 = _
      omega
  · have hx : X ≠ 0 := fun h => h0 (by rw [h, Nat.zero_div])
    have a := Nat.log2_self_le hx
    have b := Nat.lt_log2_self (n := X)
    have hj : j ≤ X.log2 := by
      refine (Nat.le_log2 hx).2 ?_
      rcases Nat.lt_or_ge X (2 ^ j) with h | h
      · exact absurd (Nat.div_eq_of_lt h) h0
      · exact h
    obtain ⟨k, hk⟩ : ∃ k, X.log2 = k + j := ⟨X.log2 - j, by omega⟩
    rw [hk] at a b ⊢
    rw [Nat.add_sub_cancel]
    refine log2_eq _ _ ?_ ?_
    · rw [Nat.le_div_iff_mul_le (Nat.two_pow_pos j), ← Nat.pow_add]; exact a
    · rw [Nat.div_lt_iff_lt_mul (Nat.two_pow_pos j), ← Nat.pow_add, show k + 1 + j = k + j + 1 by omega]; exact b
/-- scaled by a power of two, the quotient's logarithm goes with it -/
theorem log2_quo_up (a b j : Nat) (hb : 0 < b) (h : 0 < a / b) : (a * 2 ^ j / b).log2 = (a / b).log2 + j := by
  have h0 : a / b ≠ 0 := by omega
  have x1 := Nat.log2_self_le h0
  have x2 := Nat.lt_log2_self (n := a / b)
  refine log2_eq _ _ ?_ ?_
  · rw [Nat.le_div_iff_mul_le hb, Nat.pow_add, Nat.mul_right_comm]
    refine Nat.mul_le_mul_right _ ?_
    rw [← Nat.le_div_iff_mul_le hb]; exact x1
  · rw [Nat.div_lt_iff_lt_mul hb, show (a / b).log2 + j + 1 = (a / b).log2 + 1 + j by omega, Nat.pow_add, Nat.mul_right_comm]
    refine Nat.mul_lt_mul_of_pos_right ?_ (Nat.two_pow_pos j)
    rw [← Nat.div_lt_iff_lt_mul hb]; exact x2
/-- what Ratio answers: a / b is at least 2^55 and n bits were put behind, or taken away (L = 1074) -/
theorem rungQ_up (a b L n d : Nat) (hb : 0 < b) (hq : 2 ^ 55 ≤ a * 2 ^ n / b) (hd : d = max ((a * 2 ^ n / b).log2 - 52) (n - L)) (hd0 : 0 < d) :
    rungQ (a * 2 ^ L) b = (L + d - n) * 2 ^ 52 + rhe (a * 2 ^ n) (b * 2 ^ d) := by
  have hp := Nat.two_pow_pos 55
  have hq0 : a * 2 ^ n / b ≠ 0 := by omega
  have hlg := (Nat.le_log2 hq0 (k := 55)).2 hq
  have hE : (a * 2 ^ L / b).log2 - 52 = L + d - n := by
    rcases Nat.le_total n L with h | h
    · obtain ⟨j, hj⟩ : ∃ j, L = n + j := ⟨L - n, by omega⟩
      have e : a * 2 ^ L / b = a * 2 ^ n * 2 ^ j / b := by rw [hj, Nat.pow_add, Nat.mul_assoc]
      rw [e, log2_quo_up _ _ _ hb (by omega)]
      omega
    · obtain ⟨j, hj⟩ : ∃ j, n = L + j := ⟨n - L, by omega⟩
      have e : a * 2 ^ L / b = a * 2 ^ n / b / 2 ^ j := by
        rw [hj, Nat.pow_add, ← Nat.mul_assoc, Nat.div_div_eq_div_mul, Nat.mul_div_mul_right _ _ (Nat.two_pow_pos j)]
      rw [e, log2_div_pow]
      omega
  unfold rungQ
  rw [hE]
  congr 1
  rcases Nat.le_total n L with h | h
  · obtain ⟨j, hj⟩ : ∃ j, L = n + j := ⟨L - n, by omega⟩
    rw [show L + d - n = d + j by omega, hj, Nat.pow_add, Nat.pow_add, ← Nat.mul_assoc, ← Nat.mul_assoc, rhe_mul _ _ _ (Nat.two_pow_pos j)]
  · obtain ⟨j, hj⟩ : ∃ j, n = L + j := ⟨n - L, by omega⟩
    obtain ⟨k, hk⟩ : ∃ k, d = k + j := ⟨d - j, by omega⟩
    rw [show L + d - n = k by omega, hj, hk, Nat.pow_add 2 L, Nat.pow_add 2 k, ← Nat.mul_assoc, ← Nat.mul_assoc, rhe_mul _ _ _ (Nat.two_pow_pos j)]
theorem rungQ_down (a b L n d : Nat) (hb : 0 < b) (hq : 2 ^ 55 ≤ a / (b * 2 ^ n)) (hd : d = (a / (b * 2 ^ n)).log2 - 52) :
    rungQ (a * 2 ^ L) b = (L + d + n) * 2 ^ 52 + rhe a (b * 2 ^ n * 2 ^ d) := by
  have hp := Nat.two_pow_pos 55
  have hq0 : a / (b * 2 ^ n) ≠ 0 := by omega
  have hlg := (Nat.le_log2 hq0 (k := 55)).2 hq
  have hab : 0 < a / b := by
    rw [← Nat.div_div_eq_div_mul] at hq0
    exact Nat.pos_of_ne_zero fun h => hq0 (by rw [h, Nat.zero_div])
  have hE : (a * 2 ^ L / b).log2 - 52 = L + d + n := by
    rw [log2_quo_up _ _ _ hb hab]
    rw [← Nat.div_div_eq_div_mul, log2_div_pow] at hd hlg
    omega
  unfold rungQ
  rw [hE]
  congr 1
  rw [show L + d + n = n + d + L by omega, Nat.pow_add 2 (n + d), Nat.pow_add, ← Nat.mul_assoc, ← Nat.mul_assoc, rhe_mul _ _ _ (Nat.two_pow_pos L)]
end Go.Proofs.YtjkifbkehochoaaGreatDoor

namespace Go.Proofs.YtjkifbkehochoaaGreatDoor
open Fl
/-- the parts of a word that is a finite number not below nought -/
def pM (b : Nat) : Nat := if b < 2 ^ 52 then b else 2 ^ 52 + b % 2 ^ 52
def pE (b : Nat) : Nat := b / 2 ^ 52 - 1
theorem val_parts (b : Nat) : Fl.val 52 b = pM b * 2 ^ pE b := by
  unfold Fl.val pM pE
  split
  · rename_i h
    rw [Nat.div_eq_of_lt h, Nat.zero_sub, Nat.pow_zero, Nat.mul_one]
  · rfl
theorem parts_em (E m : Nat) (h1 : m < 2 ^ 53) (h2 : E = 0 ∨ 2 ^ 52 ≤ m) : pM (E * 2 ^ 52 + m) = m ∧ pE (E * 2 ^ 52 + m) = E := by
  unfold pM pE
  have e53 : (2 : Nat) ^ 53 = 2 * 2 ^ 52 := by decide
  have hp : 0 < 2 ^ 52 := Nat.two_pow_pos 52
  generalize 2 ^ 52 = P at *
  rw [e53] at h1
  by_cases hm : m < P
  · have hE : E = 0 := by omega
    subst hE
    rw [Nat.zero_mul, Nat.zero_add, if_pos hm, Nat.div_eq_of_lt hm]
    exact ⟨rfl, rfl⟩
  · have e1 : E * P + m = P * (E + 1) + (m - P) := by rw [Nat.mul_add, Nat.mul_comm E]; omega
    have e2 : ¬ E * P + m < P := by omega
    rw [if_neg e2, e1, Nat.mul_add_mod, Nat.mul_add_div hp, Nat.mod_eq_of_lt (by omega), Nat.div_eq_of_lt (show m - P < P by omega)]
    exact ⟨by omega, by omega⟩
theorem pM_lt (b : Nat) : pM b < 2 ^ 53 := by
  unfold pM
  have h := Nat.mod_lt b (Nat.two_pow_pos 52)
  have e : (2 : Nat) ^ 53 = 2 ^ 52 + 2 ^ 52 := by decide
  rw [e]
  split
  · exact Nat.lt_of_lt_of_le (by assumption) (Nat.le_add_left _ _)
  · exact Nat.add_lt_add_left h _
theorem parts_back (b : Nat) : pE b * 2 ^ 52 + pM b = b ∧ (pE b = 0 ∨ 2 ^ 52 ≤ pM b) := by
  unfold pM pE
  have hp : 0 < 2 ^ 52 := Nat.two_pow_pos 52
  generalize 2 ^ 52 = P at *
  split
  · rename_i h
    rw [Nat.div_eq_of_lt h]
    exact ⟨by omega, .inl rfl⟩
  · rename_i h
    have h1 := Nat.div_add_mod b P
    have h2 : 1 ≤ b / P := (Nat.le_div_iff_mul_le hp).2 (by omega)
    obtain ⟨k, hk⟩ : ∃ k, b / P = k + 1 := ⟨b / P - 1, by omega⟩
    rw [hk, Nat.mul_add, Nat.mul_one, Nat.mul_comm] at h1
    rw [hk, Nat.add_sub_cancel]
    exact ⟨by omega, .inr (Nat.le_add_right _ _)⟩
theorem val_next (b : Nat) : Fl.val 52 (b + 1) = (pM b + 1) * 2 ^ pE b := by
  have h := parts_back b
  conv => lhs; rw [← h.1]
  rw [Nat.add_assoc]
  refine val_em _ _ (pM_lt b) ?_
  rcases h.2 with h2 | h2
  · exact .inl h2
  · exact .inr (Nat.le_succ_of_le h2)
theorem mid_parts (b : Nat) : (2 * pM b + 1) * 2 ^ pE b = Fl.val 52 b + Fl.val 52 (b + 1) := by
  rw [val_next, val_parts]
  generalize 2 ^ pE b = P
  rw [Nat.add_mul, Nat.add_mul, Nat.one_mul, Nat.mul_assoc]
  omega
/-- what lies between a rung and the next, or behind the last -/
theorem near_low (A B low : Nat) (hB : 0 < B) (hl : low < INF) (h1 : Fl.val 52 low * B ≤ A) (h2 : A < Fl.val 52 (low + 1) * B ∨ low + 1 = INF) :
    low + (if (2 * pM low + 1) * 2 ^ pE low * B < 2 * A ∨ ((2 * pM low + 1) * 2 ^ pE low * B = 2 * A ∧ low % 2 = 1) then 1 else 0) = min (rungQ A B) INF := by
  have hx1 : Fl.val 52 low ≤ A / B := by rw [Nat.le_div_iff_mul_le hB]; exact h1
  by_cases h : A < Fl.val 52 (low + 1) * B
  · have hx2 : A / B < Fl.val 52 (low + 1) := by rw [Nat.div_lt_iff_lt_mul hB]; exact h
    have e := lowR_unique hx1 hx2
    have c := cut_cases (A / B)
    have p := parts_em ((A / B).log2 - 52) (A / B / 2 ^ ((A / B).log2 - 52)) c.1 c.2
    have e2 : low = ((A / B).log2 - 52) * 2 ^ 52 + A / B / 2 ^ ((A / B).log2 - 52) := e
    rw [← e2] at p
    rw [p.1, p.2]
    have r := rungQ_eq A B hB
    rw [← e] at r
    rw [← r, Nat.min_eq_left]
    rw [r]
    split
    · exact hl
    · exact Nat.le_of_lt hl
  · have hl := h2.resolve_left h
    have hA : Fl.val 52 INF * B ≤ A := by rw [← hl]; exact Nat.not_lt.1 h
    have hx : Fl.val 52 INF ≤ A / B := by rw [Nat.le_div_iff_mul_le hB]; exact hA
    have hr : INF ≤ rungQ A B := by
      rw [rungQ_eq A B hB]
      refine Nat.le_trans ?_ (Nat.le_add_right _ _)
      rcases Nat.lt_or_ge (lowR (A / B)) INF with h3 | h3
      · have := Fl.val_le 52 (lowR (A / B) + 1) INF h3
        have := lt_lowR (A / B)
        omega
      · exact h3
    rw [Nat.min_eq_right hr, if_pos, hl]
    left
    have c : (2 * pM low + 1) * 2 ^ pE low < 2 * Fl.val 52 INF := by
      rw [mid_parts, hl]
      have := Fl.val_lt 52 low INF (by omega)
      omega
    have c2 := Nat.mul_lt_mul_of_pos_right c hB
    rw [Nat.mul_assoc 2] at c2
    omega
end Go.Proofs.YtjkifbkehochoaaGreatDoor

namespace Go.Proofs.YtjkifbkehochoaaGreatDoor
open Fl
/-- a text's bytes -/
def bl (s : ByteArray) : List Nat := s.data.toList.map UInt8.toNat
theorem bl_len (s : ByteArray) : (bl s).length = s.size := by unfold bl; rw [List.length_map]; rfl
theorem bl_get (s : ByteArray) (k : Nat) (h : k < s.size) : (bl s)[k]? = some (s[k]).toNat := by
  unfold bl
  rw [List.getElem?_map, List.getElem?_eq_getElem (by simpa using h)]
  rfl
theorem bl_getD (s : ByteArray) (k : Nat) (h : k < s.size) : (bl s).getD k 0 = (s[k]).toNat := by
  rw [List.getD, bl_get s k h]; rfl
theorem bl_append (a b : ByteArray) : bl (a ++ b) = bl a ++ bl b := by
  unfold bl
  rw [ByteArray.data_append, Array.toList_append, List.map_append]
theorem bl_extract (s : ByteArray) (a b : Nat) : bl (s.extract a b) = ((bl s).take b).drop a := by
  unfold bl
  rw [ByteArray.data_extract, Array.toList_extract]
  simp [List.map_drop, List.map_take, List.extract_eq_take_drop, List.drop_take]
/-- how many noughts stand ahead -/
def lead : List Nat → Nat
  | [] => 0
  | x :: l => if x = 48 then lead l + 1 else 0
theorem lead_le : ∀ l, lead l ≤ l.length
  | [] => Nat.le_refl _
  | x :: l => by
    rw [lead, List.length_cons]
    have := lead_le l
    split <;> omega
theorem lead_step {l : List Nat} {k x : Nat} (h : l[k]? = some x) : lead (l.drop k) = if x = 48 then lead (l.drop (k + 1)) + 1 else 0 := by
  have hk : k < l.length := (List.getElem?_eq_some_iff.1 h).1
  have e : l[k] = x := (List.getElem?_eq_some_iff.1 h).2
  rw [List.drop_eq_getElem_cons hk, lead, e]
/-- where what is left of the noughts behind ends -/
def te (l : List Nat) (f : Nat) : Nat → Nat
  | 0 => 0
  | k + 1 => if f < k + 1 ∧ l.getD k 0 = 48 then te l f k else k + 1
theorem te_le (l : List Nat) (f : Nat) : ∀ k, te l f k ≤ k
  | 0 => Nat.le_refl _
  | k + 1 => by
    rw [te]
    have := te_le l f k
    split <;> omega
/-- without the noughts ahead and behind -/
def stripD (l : List Nat) : List Nat := (l.take (te l (lead l) l.length)).drop (lead l)
theorem strip_len (l : List Nat) : (stripD l).length = te l (lead l) l.length - lead l := by
  unfold stripD
  rw [List.length_drop, List.length_take, Nat.min_eq_left (te_le _ _ _)]
def dval (l : List Nat) : Nat := l.foldl (fun a x => a * 10 + (x - 48)) 0
theorem dval_snoc (l : List Nat) (x : Nat) : dval (l ++ [x]) = dval l * 10 + (x - 48) := by unfold dval; rw [List.foldl_append]; rfl
theorem dval_take {l : List Nat} {k x : Nat} (h : l[k]? = some x) : dval (l.take (k + 1)) = dval (l.take k) * 10 + (x - 48) := by
  rw [List.take_add_one, h]
  exact dval_snoc _ _
/-- all are digits -/
def DG (l : List Nat) : Prop := ∀ x ∈ l, 48 ≤ x ∧ x ≤ 57
theorem dval_lt {l : List Nat} (h : DG l) : ∀ k, k ≤ l.length → dval (l.take k) < 10 ^ k
  | 0, _ => by rw [List.take_zero]; decide
  | k + 1, hk => by
    have hx : l[k]? = some l[k] := List.getElem?_eq_getElem hk
    have ih := dval_lt h k (by omega)
    have hd := h l[k] (List.getElem_mem hk)
    rw [dval_take hx, Nat.pow_succ]
    omega
/-- no more than so many digits, and whether something is left -/
def cutD (d : List Nat) : List Nat := if 800 < d.length then d.take 800 ++ [49] else d
theorem cut_len (d : List Nat) : (cutD d).length ≤ 801 := by
  unfold cutD
  split
  · rw [List.length_append, List.length_take]
    simp
    omega
  · omega
def numF (d : List Nat) (p : Int) : Nat := min (rungQ (dval d * 10 ^ (p - d.length).toNat * 2 ^ K) (10 ^ (-(p - d.length)).toNat)) INF
/-- the bits of the number as which digits at a point are read -/
def readF (l : List Nat) (point : Int) : Nat :=
  if stripD l = [] ∨ point < -1099511627776 then 0
  else if 400 < point - lead l then INF
  else if point - lead l < -400 then 0
  else numF (cutD (stripD l)) (point - lead l)
theorem DG.take {l : List Nat} (h : DG l) (k : Nat) : DG (l.take k) := fun x hx => h x (List.mem_of_mem_take hx)
theorem DG.drop {l : List Nat} (h : DG l) (k : Nat) : DG (l.drop k) := fun x hx => h x (List.mem_of_mem_drop hx)
theorem DG.strip {l : List Nat} (h : DG l) : DG (stripD l) := (h.take _).drop _
theorem DG.cut {l : List Nat} (h : DG l) : DG (cutD l) := by
  unfold cutD
  split
  · intro x hx
    rcases List.mem_append.1 hx with hx | hx
    · exact h.take 800 x hx
    · rcases List.mem_singleton.1 hx with rfl
      decide
  · exact h
end Go.Proofs.YtjkifbkehochoaaGreatDoor

namespace Go.Proofs.YtjkifbkehochoaaGreatDoor
open Fl
theorem rungQ_scale (A B c : Nat) (hc : 0 < c) : rungQ (A * c) (B * c) = rungQ A B := by
  unfold rungQ
  rw [Nat.mul_div_mul_right _ _ hc, Nat.mul_right_comm B c, rhe_mul _ _ _ hc]
def rungM (A B : Nat) : Nat := min (rungQ A B) INF
def V (r : Nat) : Nat := Fl.val 52 r
theorem V_lt {r s : Nat} (h : r < s) : V r < V s := Fl.val_lt 52 r s h
theorem V_le {r s : Nat} (h : r ≤ s) : V r ≤ V s := Fl.val_le 52 r s h
theorem near_at (A B : Nat) (hB : 0 < B) : ∃ L, L < INF ∧ V L * B ≤ A ∧ (A < V (L + 1) * B ∨ L + 1 = INF) ∧
    rungM A B = L + (if (V L + V (L + 1)) * B < 2 * A ∨ ((V L + V (L + 1)) * B = 2 * A ∧ L % 2 = 1) then 1 else 0) := by
  have h1 := lowR_le (A / B)
  have h2 := lt_lowR (A / B)
  have h0 : 0 < INF := by decide
  obtain ⟨L, hL⟩ : ∃ L, L = min (lowR (A / B)) (INF - 1) := ⟨_, rfl⟩
  have hL1 : L < INF := by omega
  have c1 : V L * B ≤ A := by
    rw [← Nat.le_div_iff_mul_le hB]
    exact Nat.le_trans (V_le (by omega)) h1
  have c2 : A < V (L + 1) * B ∨ L + 1 = INF := by
    by_cases h : lowR (A / B) ≤ INF - 1
    · left
      rw [← Nat.div_lt_iff_lt_mul hB]
      rw [show L = lowR (A / B) by omega]
      exact h2
    · right; omega
  refine ⟨L, hL1, c1, c2, ?_⟩
  have h := near_low A B L hB hL1 c1 c2
  rw [mid_parts] at h
  exact h.symm
theorem rungM_scale (A B c : Nat) (hc : 0 < c) : rungM (A * c) (B * c) = rungM A B := by unfold rungM; rw [rungQ_scale _ _ _ hc]
/-- is X / Y read as b? by what lies half way to its neighbours -/
def rdsP (X Y b : Nat) : Prop := (2 * X < (V b + V (b + 1)) * Y ∨ (2 * X = (V b + V (b + 1)) * Y ∧ b % 2 = 0)) ∧ ((V (b - 1) + V b) * Y < 2 * X ∨ ((V (b - 1) + V b) * Y = 2 * X ∧ b % 2 = 0))
theorem rds_iff (X Y b : Nat) (hY : 0 < Y) (h0 : 0 < b) (h1 : b < INF) : rdsP X Y b ↔ rungM X Y = b := by
  obtain ⟨c, rfl⟩ : ∃ c, b = c + 1 := ⟨b - 1, by omega⟩
  obtain ⟨L, l1, l2, l3, e1⟩ := near_at X Y hY
  rw [e1]
  unfold rdsP
  rw [Nat.add_sub_cancel]
  have s1 : V c * Y < V (c + 1) * Y := Nat.mul_lt_mul_of_pos_right (V_lt (Nat.lt_succ_self c)) hY
  have s2 : V (c + 1) * Y < V (c + 1 + 1) * Y := Nat.mul_lt_mul_of_pos_right (V_lt (Nat.lt_succ_self _)) hY
  rw [Nat.add_mul, Nat.add_mul, Nat.add_mul]
  by_cases g1 : L < c
  · have h3 : X < V (L + 1) * Y := l3.resolve_right (by omega)
    have h4 : V (L + 1) * Y ≤ V c * Y := Nat.mul_le_mul_right _ (V_le (by omega))
    constructor
    · intro h; exfalso; omega
    · intro h; exfalso; split at h <;> omega
  · by_cases g2 : L = c
    · subst g2
      have h3 : X < V (L + 1) * Y := l3.resolve_right (by omega)
      constructor
      · intro h
        rw [if_pos (by omega)]
      · intro h
        have h4 : V L * Y + V (L + 1) * Y < 2 * X ∨ (V L * Y + V (L + 1) * Y = 2 * X ∧ L % 2 = 1) := by
          by_cases h5 : V L * Y + V (L + 1) * Y < 2 * X ∨ (V L * Y + V (L + 1) * Y = 2 * X ∧ L % 2 = 1)
          · exact h5
          · rw [if_neg h5] at h; omega
        omega
    · by_cases g3 : L = c + 1
      · subst g3
        constructor
        · intro h
          rw [if_neg (by omega)]
        · intro h
          have h4 : ¬ (V (c + 1) * Y + V (c + 1 + 1) * Y < 2 * X ∨ (V (c + 1) * Y + V (c + 1 + 1) * Y = 2 * X ∧ (c + 1) % 2 = 1)) := by
            intro h5; rw [if_pos h5] at h; omega
          omega
      · have h4 : V (c + 1 + 1) * Y ≤ V L * Y := Nat.mul_le_mul_right _ (V_le (by omega))
        constructor
        · intro h; exfalso; omega
        · intro h; exfalso; split at h <;> omega
/-- the steps to the neighbours, by the number -/
theorem V_next (b : Nat) : V (b + 1) = V b + 2 ^ pE b := by
  unfold V
  rw [val_next, val_parts, Nat.add_mul, Nat.one_mul]
theorem V_up (b : Nat) : V b < 2 ^ 53 * (V (b + 1) - V b) := by
  rw [V_next, Nat.add_sub_cancel_left]
  unfold V
  rw [val_parts]
  exact Nat.mul_lt_mul_of_pos_right (pM_lt b) (Nat.two_pow_pos _)
theorem V_down (b : Nat) : V (b + 1) ≤ 2 ^ 53 * (V (b + 1) - V b) := by
  rw [V_next, Nat.add_sub_cancel_left]
  unfold V
  rw [val_parts, ← Nat.succ_mul]
  exact Nat.mul_le_mul_right _ (pM_lt b)
end Go.Proofs.YtjkifbkehochoaaGreatDoor
