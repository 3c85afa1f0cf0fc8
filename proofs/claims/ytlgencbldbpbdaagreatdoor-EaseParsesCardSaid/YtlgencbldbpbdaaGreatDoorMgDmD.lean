/- math.Frexp of a finite number above nought. math.Frexp; digits.parts, below. digits.parts, below. digits.below. -/
import Derived.Test.YtlgencbldbpbdaaGreatDoorMgEaQ
import Derived.Test.YtlgencbldbpbdaaGreatDoorMgLen
import Derived.Test.YtlgencbldbpbdaaGreatDoorMgDjB
import Derived.Test.YtlgencbldbpbdaaGreatDoorLgN
import Derived.Test.YtlgencbldbpbdaaGreatDoorDhA
import Derived.IntWalk
import Derived.Test.YtlgencbldbpbdaaGreatDoorMgLgH
namespace Go.Proofs.YtlgencbldbpbdaaGreatDoor
open Go.RowKit Fl
theorem ord_zero {x : Nat} (h0 : 0 < x) (h1 : x < INF) : (FloatKind.f64.format.order x 0 == some Ordering.eq) = false := by
 have hx : rg x = x := Nat.mod_eq_of_lt (by unfold INF at h1; omega)
 have hs : sg x = false := by unfold sg; exact decide_eq_false (by unfold INF at h1; omega)
 have hn : isN x = false := by unfold isN; rw [hx]; exact decide_eq_false (by omega)
 rw [f64_order x 0 (by unfold U; unfold INF at h1; omega) (by unfold U; decide), hn, show isN 0 = false by decide]
 unfold skey
 rw [hs, hx, show sg 0 = false by decide, show rg 0 = 0 by decide]
 simp only [Bool.or_self, Bool.false_eq_true, if_false]
 rw [compare_int, if_neg (by omega), if_neg (by omega)]; rfl
theorem nw_val (E F : Nat) (h1 : 1 ≤ E) (hF : F < 4503599627370496) : V (nw E F) = (4503599627370496 + F) * 2 ^ (E - 1) := by
 have e52 : (2 : Nat) ^ 52 = 4503599627370496 := by decide
 have h := val_em (E - 1) (4503599627370496 + F) (by have : (2 : Nat) ^ 53 = 9007199254740992 := by decide
                                                     omega) (.inr (by rw [e52]; omega))
 rw [e52] at h
 have e : nw E F = (E - 1) * 4503599627370496 + (4503599627370496 + F) := by
  unfold nw
  obtain ⟨k, rfl⟩ : ∃ k, E = k + 1 := ⟨E - 1, by omega⟩
  rw [Nat.add_sub_cancel, Nat.add_mul, Nat.one_mul, Nat.add_assoc]
 unfold V
 rw [e, h]
theorem sub_norm {x : Nat} (h0 : 0 < x) (h1 : x < 4503599627370496) : ∃ F, F < 4503599627370496 ∧ x.log2 ≤ 51 ∧ x * 4503599627370496 = (4503599627370496 + F) * 2 ^ x.log2 ∧ floatBits .mul .f64 x 4841369599423283200 = some (nw (x.log2 + 1) F) := by
 have e52 : (2 : Nat) ^ 52 = 4503599627370496 := by decide
 have hl1 := Nat.log2_self_le (n := x) (by omega)
 have hl2 := Nat.lt_log2_self (n := x)
 have hl3 : x.log2 < 52 := (Nat.log2_lt (by omega)).2 (by rw [e52]; exact h1)
 obtain ⟨L, hL⟩ : ∃ L, L = x.log2 := ⟨_, rfl⟩
 rw [← hL] at hl1 hl2 hl3 ⊢
 have ep : 2 ^ 52 = 2 ^ (52 - L) * 2 ^ L := by rw [← Nat.pow_add, show 52 - L + L = 52 by omega]
 have hM1 : 4503599627370496 ≤ x * 2 ^ (52 - L) := by rw [← e52, ep, Nat.mul_comm]; exact Nat.mul_le_mul_right _ hl1
 have hM2 : x * 2 ^ (52 - L) < 9007199254740992 := by
  have : 2 ^ (L + 1) * 2 ^ (52 - L) = 9007199254740992 := by rw [← Nat.pow_add, show L + 1 + (52 - L) = 53 by omega]
  rw [← this]
  exact Nat.mul_lt_mul_of_pos_right hl2 (Nat.two_pow_pos _)
 obtain ⟨F, hF⟩ : ∃ F, x * 2 ^ (52 - L) = 4503599627370496 + F := ⟨x * 2 ^ (52 - L) - 4503599627370496, by omega⟩
 have hW : x * 4503599627370496 = (4503599627370496 + F) * 2 ^ L := by rw [← hF, ← e52, ep, Nat.mul_assoc]
 refine ⟨F, by omega, by omega, hW, ?_⟩
 have hrx : rg x = x := Nat.mod_eq_of_lt (by omega)
 have hsx : sg x = false := by unfold sg; exact decide_eq_false (by omega)
 have hc : Fl.val 52 4841369599423283200 = 4503599627370496 * ONE := by
  rw [show (4841369599423283200 : Nat) = 1075 * 4503599627370496 by decide, val_c 1075 (52 + K) (by decide) (by decide), Nat.pow_add, e52, one_pow]
 have h := mul_fin x 4841369599423283200 (by unfold U; omega) (by unfold U; decide) (by unfold fin; rw [hrx]; exact decide_eq_true (by unfold INF; omega)) (by decide) (x * 4503599627370496) (by
  rw [hrx, val_small 52 x (by omega), show rg 4841369599423283200 = 4841369599423283200 by decide, hc, Nat.mul_assoc])
 rw [h, hW, hsx, show sg 4841369599423283200 = false by decide]
 have hn := nw_val (L + 1) F (by omega) (by omega)
 rw [Nat.add_sub_cancel] at hn
 rw [← hn]
 unfold V
 have hlt := nw_lt (E := L + 1) (F := F) (by omega) (by omega)
 rw [rnd_val _ (by unfold INF; omega)]
 rfl
set_option maxRecDepth 100000 in
theorem c190s {x F : Nat} (w : World) (h0 : 0 < x) (h1 : x < 4503599627370496) (hF : F < 4503599627370496) (hL : x.log2 ≤ 51) (hm : floatBits .mul .f64 x 4841369599423283200 = some (nw (x.log2 + 1) F)) :
  Calls Tryz.prog 293 #[.float .f64 x] w fun e w' => e = .returned (.tuple #[.float .f64 (nw (x.log2 + 1) F), .int .i64 (-52)]) ∧ w = w' := by
 have hu : U x := by unfold U; omega
 have hr : rg x = x := Nat.mod_eq_of_lt (by omega)
 have hsx : sg x = false := by unfold sg; exact decide_eq_false (by omega)
 have hn : isN x = false := by unfold isN; rw [hr]; exact decide_eq_false (by unfold INF; omega)
 have e' : (FloatKind.f64.format.order x 4503599627370496 == some Ordering.lt) = true := by
  rw [f64_order x 4503599627370496 hu U_min, hn, show isN 4503599627370496 = false by decide]
  unfold skey
  rw [hsx, hr, show sg 4503599627370496 = false by decide, show rg 4503599627370496 = 4503599627370496 by decide]
  simp only [Bool.or_self, Bool.false_eq_true, if_false]
  rw [compare_int, if_pos (by omega)]; rfl
 have hmul : ∀ w, (binOp .mul 31 (.float .f64 x) (.float .f64 4841369599423283200)).run Tryz.prog w = .ok (.float .f64 (nw (x.log2 + 1) F)) w := fun w => run_float_arith w .mul 31 .f64 x _ _ hm
 have CA := Lib.hid (fun w => c133 x w hu)
 rw [hr] at CA
 generalize nw (x.log2 + 1) F = y at *
 clear hm h0 h1 hF hL hsx hn hr
 go_enter Tryz.func293, Tryz.ntmps293
 go_wp2_with (go_at_call 26; refine (CA.out _).mono ?_; rintro e w' ⟨rfl, rfl⟩)
 go_ret2
 exact ⟨rfl, rfl⟩
end Go.Proofs.YtlgencbldbpbdaaGreatDoor
namespace Go.Proofs.YtlgencbldbpbdaaGreatDoor
open Go.RowKit Fl
theorem nw_field (E F : Nat) (h2 : E ≤ 2046) (hF : F < 4503599627370496) : bits .and .u64 (((nw E F : Nat) : Int) / 4503599627370496) 2047 = (E : Int) := by
 have h := b_exp (nw E F) (U_nw h2 hF)
 rw [h]
 congr 1
 unfold nw
 omega
theorem or_1022 (F : Nat) (hF : F < 4503599627370496) : bits .or .u64 (F : Int) 4602678819172646912 = ((nw 1022 F : Nat) : Int) := b_field 1022 F (by decide) hF
set_option maxRecDepth 100000 in
theorem cFrexp0 {x E F : Nat} {k : Int} (w : World) (h0 : 0 < x) (h1 : x < INF) (hE : 1 ≤ E) (hE2 : E ≤ 2046) (hF : F < 4503599627370496) (k1 : -52 ≤ k) (k2 : k ≤ 0)
  (hN : ∀ w, Calls Tryz.prog 293 #[.float .f64 x] w fun e w' => e = .returned (.tuple #[.float .f64 (nw E F), .int .i64 k]) ∧ w = w') :
  Calls Tryz.prog 243 #[.float .f64 x] w fun e w' => e = .returned (.tuple #[.float .f64 (nw 1022 F), .int .i64 (k + ((E : Int) - 1022))]) ∧ w = w' := by
 have hu : U x := by unfold U; unfold INF at h1; omega
 have hrx : rg x = x := Nat.mod_eq_of_lt (by unfold INF at h1; omega)
 have hn : isN x = false := by unfold isN; rw [hrx]; exact decide_eq_false (by omega)
 have hi : isI x = false := by unfold isI; rw [hrx]; exact decide_eq_false (by unfold INF at h1; omega)
 have e0 := ord_zero h0 h1
 have CI := Lib.hid (fun w => c130 x w hu)
 have CN := Lib.hid (fun w => c129 x w hu)
 rw [hi] at CI
 rw [hn] at CN
 have g1 := nw_field E F hE2 hF
 have g2 := b_unfield E F hE2 hF
 have g3 := or_1022 F hF
 have hu2 := U_nw hE2 hF
 have hu3 := U_nw (E := 1022) (by decide) hF
 have Ei : (E : Int) ≤ 2046 := by omega
 have HN := Lib.hid hN
 have HK : Hid (∀ a : Int, a = k + ((E : Int) - 1023 + 1) → a = k + ((E : Int) - 1022)) := Lib.hid (fun a h => by omega)
 generalize nw E F = y at *
 generalize nw 1022 F = z at *
 clear hrx hn hi hF hE hE2 hN h0 h1
 have C106 : Hid (∀ w, Calls Tryz.prog 282 #[.float .f64 x] w fun e w' => e = .returned (.tuple #[.float .f64 z, .int .i64 (k + ((E : Int) - 1022))]) ∧ w = w') := Lib.hid (fun w => by
  go_enter Tryz.func282, Tryz.ntmps282
  go_wp2_with (first
   | (go_at_call 82; refine (CI.out _).mono ?_; rintro e w' ⟨rfl, rfl⟩)
   | (go_at_call 198; refine (CN.out _).mono ?_; rintro e w' ⟨rfl, rfl⟩)
   | (go_at_call 293; refine (HN.out _).mono ?_; rintro e w' ⟨rfl, rfl⟩))
  go_ret2
  refine ⟨?_, rfl⟩
  rw [← HK.out _ rfl]
  rfl)
 clear CI CN HN g1 g2 g3 e0
 go_enter Tryz.func243, Tryz.ntmps243
 go_wp2_with (go_at_call 282; refine (C106.out _).mono ?_; rintro e w' ⟨rfl, rfl⟩)
 go_ret2
 exact ⟨rfl, rfl⟩
theorem cFrexp {x : Nat} (h0 : 0 < x) (h1 : x < INF) : ∃ F t : Nat, F < 4503599627370496 ∧ t ≤ 2098 ∧ V x * 4503599627370496 = (4503599627370496 + F) * 2 ^ t ∧
  ∀ w, Calls Tryz.prog 243 #[.float .f64 x] w fun e w' => e = .returned (.tuple #[.float .f64 (nw 1022 F), .int .i64 ((t : Int) - 1073)]) ∧ w = w' := by
 by_cases hs : x < 4503599627370496
 ·obtain ⟨F, hF, hL, hW, hm⟩ := sub_norm h0 hs
  have hv : V x = x := by unfold V; exact val_small 52 x (by have : (2 : Nat) ^ 52 = 4503599627370496 := by decide
                                                             omega)
  refine ⟨F, x.log2, hF, by omega, by rw [hv]; exact hW, fun w => ?_⟩
  have h := cFrexp0 (x := x) (E := x.log2 + 1) (F := F) (k := -52) w h0 h1 (by omega) (by omega) hF (by decide) (by decide) (fun w => c190s w h0 hs hF hL hm)
  rw [show (-52 : Int) + (((x.log2 + 1 : Nat) : Int) - 1022) = (x.log2 : Int) - 1073 by omega] at h
  exact h
 ·have hI : x < 9218868437227405312 := h1
  obtain ⟨E, hE⟩ : ∃ E, E = x / 4503599627370496 := ⟨_, rfl⟩
  obtain ⟨F, hF⟩ : ∃ F, F = x % 4503599627370496 := ⟨_, rfl⟩
  have hx : x = nw E F := by unfold nw; omega
  have hv := nw_val E F (by omega) (by omega)
  rw [← hx] at hv
  refine ⟨F, E + 51, by omega, by omega, ?_, fun w => ?_⟩
  ·rw [hv, show E + 51 = (E - 1) + 52 by omega, Nat.pow_add, ← Nat.mul_assoc]
  ·have h := cFrexp0 (x := x) (E := E) (F := F) (k := 0) w h0 h1 (by omega) (by omega) (by omega) (by decide) (by decide) (fun w => by
    have := c190 E F w (by omega) (by omega) (by omega)
    rw [← hx] at this ⊢
    exact this)
   rw [show (0 : Int) + ((E : Int) - 1022) = ((E + 51 : Nat) : Int) - 1073 by omega] at h
   exact h
set_option maxRecDepth 100000 in
theorem c70nw (F : Nat) (w : World) (hF : F < 4503599627370496) : Calls Tryz.prog 245 #[.float .f64 (nw 1022 F), .int .i64 53] w fun e w' => e = .returned (.float .f64 (min (near (4503599627370496 + F) 0) INF)) ∧ w = w' := by
 have H := Lib.hid (c188 1022 F 53 w (by decide) (by decide) hF (by decide) (by decide))
 rw [show ((1022 : Nat) : Int) - 1075 + 53 = 0 by decide] at H
 clear hF
 go_enter Tryz.func245, Tryz.ntmps245
 go_wp2_with (go_at_call 284; refine H.out.mono ?_; rintro e w' ⟨rfl, rfl⟩)
 go_ret
 exact ⟨rfl, rfl⟩
theorem near_one (M : Nat) : min (near M 0) INF = rnd (M * ONE) := by
 have h := near_word M 0
 have h2 := nearest_int M false
 rw [h] at h2
 rw [h2]
 unfold word
 exact if_neg (by decide)
theorem u64_val {r M : Nat} (h : M ≤ 9007199254740992) (h1 : Fl.val 52 r = M * ONE) (h2 : r < INF) : floatToIntVal .f64 r .u64 = some (M : Int) := by
 have hI : r < 9218868437227405312 := h2
 have hrg : rg r = r := Nat.mod_eq_of_lt (by omega)
 have hsg : sg r = false := by unfold sg; exact decide_eq_false (by omega)
 have hf : fin r = true := by unfold fin; rw [hrg]; exact decide_eq_true h2
 have hu : U r := by unfold U; omega
 have h3 := read_int r hu hf M (by rw [hrg]; exact h1)
 rw [hsg, if_neg (by decide)] at h3
 clear h1
 unfold floatToIntVal
 rw [show FloatKind.f64.decode r = Ieee.double.read r from rfl, h3]
 simp only
 rw [if_pos]
 constructor
 ·show (0 : Int) ≤ (M : Int); omega
 ·show (M : Int) ≤ (18446744073709551615 : Int); omega
theorem u64_of (M : Nat) (h : M ≤ 9007199254740992) (w : World) : (convert 31 101 (.float .f64 (min (near M 0) INF))).run Tryz.prog w = .ok (.int .u64 (M : Nat)) w := by
 rw [near_one]
 have hr := whole_rep M h
 exact run_convert_float_int w 31 101 .f64 .u64 _ (M : Int) (by kernel_rfl) Tryz.underlying101 (u64_val h hr.1 hr.2)
end Go.Proofs.YtlgencbldbpbdaaGreatDoor
namespace Go.Proofs.YtlgencbldbpbdaaGreatDoor
open Go.RowKit Fl
theorem parts_plain {v M t : Nat} (h : v * 4503599627370496 = M * 2 ^ t) : M * 2 ^ (t - 1126) * TK = v * 2 ^ (1126 - t) := by
 have e52 : (4503599627370496 : Nat) = 2 ^ 52 := by decide
 obtain ⟨m, hm⟩ : ∃ m : Nat, m = 1126 := ⟨_, rfl⟩
 have eK : K = 1074 := rfl
 rw [← hm]
 have eM : 2 ^ m = TK * 2 ^ 52 := by unfold TK; rw [← Nat.pow_add, show K + 52 = m by omega]
 have h52 : 0 < 2 ^ 52 := by decide
 refine Nat.eq_of_mul_eq_mul_right h52 ?_
 rw [Nat.mul_assoc, ← eM, e52] at *
 rcases Nat.le_total m t with c | c
 ·rw [show m - t = 0 by omega, Nat.pow_zero, Nat.mul_one, h, Nat.mul_assoc, ← Nat.pow_add, show t - m + m = t by omega]
 ·rw [show t - m = 0 by omega, Nat.pow_zero, Nat.mul_one, Nat.mul_right_comm, h, Nat.mul_assoc, ← Nat.pow_add, show t + (m - t) = m by omega]
theorem blen_one_pow (n : Nat) : blen (1 * 2 ^ n) = 1 + n := by rw [blen_mul 1 n (by decide)]; rfl
set_option maxRecDepth 100000 in
set_option maxHeartbeats 1000000 in
theorem lParts {x : Nat} (h0 : 0 < x) (h1 : x < INF) : ∃ A B : Nat, 0 < B ∧ A * TK = V x * B ∧ blen A ≤ 1100 ∧ blen B ≤ 1200 ∧
  ∀ w, Calls Tryz.prog 184 #[.float .f64 x] w fun e w' => Below w.heap.size w w' ∧ ∃ va vb, e = .returned (.tuple #[va, vb]) ∧ NV w' va A ∧ NV w' vb B := by
 obtain ⟨F, t, hF, ht, hv, hc⟩ := cFrexp h0 h1
 have C69 := Lib.hid hc
 have C70 := Lib.hid (fun w => c70nw F w hF)
 obtain ⟨M, hM⟩ : ∃ M, M = 4503599627370496 + F := ⟨_, rfl⟩
 rw [← hM] at hv C70
 have hpp := parts_plain hv
 have M1 : 0 < M ∧ M < 9007199254740992 := by omega
 have bM : blen M ≤ 53 := by
  have hb := blen_pos M M1.1
  have e53 : (2 : Nat) ^ 53 = 9007199254740992 := by decide
  have := (Nat.log2_lt (by omega : M ≠ 0) (k := 53)).2 (by rw [e53]; exact M1.2)
  omega
 have kc : ∀ w, (convert 31 101 (.float .f64 (min (near M 0) INF))).run Tryz.prog w = .ok (.int .u64 (M : Nat)) w := fun w => u64_of M (by omega) w
 have COM := Lib.hid (fun w => c43 M w (by unfold BB; omega))
 have CO1 : Hid (∀ w : World, Calls Tryz.prog 244 #[.int .u64 1] w fun e w' => Below w.heap.size w w' ∧ ∃ v, e = .returned v ∧ NV w' v 1) := Lib.hid (fun w => c43 1 w (by decide))
 have CL := Lib.hid (fun (w : World) v (x n : Nat) (h : NV w v x) (hb : blen x + n ≤ 64000) => c40 (n := n) h hb)
 have bA : blen (M * 2 ^ (t - 1126)) ≤ 1100 := by rw [blen_mul M _ M1.1]; omega
 have bB : blen (2 ^ (1126 - t)) ≤ 1200 := by
  have := blen_one_pow (1126 - t)
  rw [Nat.one_mul] at this
  omega
 refine ⟨M * 2 ^ (t - 1126), 2 ^ (1126 - t), Nat.two_pow_pos _, hpp, bA, bB, fun w => ?_⟩
 have ti : (t : Int) ≤ 2098 := by omega
 generalize min (near M 0) INF = g at *
 generalize nw 1022 F = f at *
 have BM := Lib.hid bM
 clear hF hv hc hM hpp M1 bA bB h0 h1 bM
 by_cases he : 1126 ≤ t
 ·obtain ⟨n, rfl⟩ : ∃ n, t = n + 1126 := ⟨t - 1126, by omega⟩
  have e1 : Hid (M * 2 ^ (n + 1126 - 1126) = M * 2 ^ n ∧ 2 ^ (1126 - (n + 1126)) = 1) := Lib.hid ⟨by rw [Nat.add_sub_cancel], by rw [show 1126 - (n + 1126) = 0 by omega, Nat.pow_zero]⟩
  rw [e1.out.1, e1.out.2]
  have i1 : ((n + 1126 : Nat) : Int) - 1073 - 53 = (n : Int) := by omega
  have i2 : ((n + 1126 : Nat) : Int) - 1073 = (n : Int) + 53 := by omega
  rw [i2] at C69
  have ni : (n : Int) ≤ 972 := by omega
  clear i1 i2 e1 he ht
  go_enter Tryz.func184, Tryz.ntmps184
  go_wp2_with (first
   | (go_at_call 243; refine (C69.out _).mono ?_; rintro e w' ⟨rfl, rfl⟩)
   | (go_at_call 245; refine (C70.out _).mono ?_; rintro e w' ⟨rfl, rfl⟩)
   | (go_at_call 244; with_reducible refine (COM.out _).mono ?_; rintro e w1 ⟨hb, v1, rfl, hv1⟩; have B1 := Lib.hid hb; have K1 := Lib.hid hv1; clear hb hv1)
   | (go_at_call 246; refine (CL.out _ _ M n K1.out (by have := BM.out; omega)).mono ?_; rintro e w2 ⟨hb, v2, rfl, hv2⟩; have B2 := Lib.hid (B1.out.trans (hb.mono B1.out.size)); have K2 := Lib.hid hv2; clear hb hv2)
   | (go_at_call 244; with_reducible refine (CO1.out _).mono ?_; rintro e w3 ⟨hb, v3, rfl, hv3⟩; have B3 := Lib.hid (B2.out.trans (hb.mono B2.out.size)); have K3 := Lib.hid (K2.out.below hb); have K4 := Lib.hid hv3; clear hb hv3))
  go_ret2
  exact ⟨B3.out, _, _, rfl, K3.out, K4.out⟩
 ·obtain ⟨n, hn⟩ : ∃ n, n = 1126 - t := ⟨_, rfl⟩
  have e1 : Hid (M * 2 ^ (t - 1126) = M) := Lib.hid (by rw [show t - 1126 = 0 by omega, Nat.pow_zero, Nat.mul_one])
  rw [e1.out, ← hn]
  have i2 : (t : Int) - 1073 = 53 - (n : Int) := by omega
  rw [i2] at C69
  have ni : (n : Int) ≤ 1126 := by omega
  have nj : (1 : Int) ≤ (n : Int) := by omega
  have n0 : ¬ (0 : Int) ≤ 53 - (n : Int) - 53 := by omega
  have n2 : IntKind.i64.wrap (-(53 - (n : Int) - 53)) = (n : Int) := by rw [show -(53 - (n : Int) - 53) = (n : Int) by omega]; exact IntWalk.i64_in _ (by omega)
  have HN : Hid (n ≤ 1126) := Lib.hid (by omega)
  clear i2 e1 he hn ht ti
  go_enter Tryz.func184, Tryz.ntmps184
  go_wp2_with (first
   | (go_at_call 243; refine (C69.out _).mono ?_; rintro e w' ⟨rfl, rfl⟩)
   | (go_at_call 245; refine (C70.out _).mono ?_; rintro e w' ⟨rfl, rfl⟩)
   | (go_at_call 244; with_reducible refine (COM.out _).mono ?_; rintro e w1 ⟨hb, v1, rfl, hv1⟩; have B1 := Lib.hid hb; have K1 := Lib.hid hv1; clear hb hv1)
   | (go_at_call 244; with_reducible refine (CO1.out _).mono ?_; rintro e w2 ⟨hb, v2, rfl, hv2⟩; have B2 := Lib.hid (B1.out.trans (hb.mono B1.out.size)); have K2 := Lib.hid (K1.out.below hb); have K3 := Lib.hid hv2; clear hb hv2)
   | (go_at_call 246; (try rw [n2]); refine (CL.out _ _ 1 n K3.out (by have := HN.out; have : blen 1 = 1 := rfl; omega)).mono ?_; rintro e w3 ⟨hb, v3, rfl, hv3⟩; have B3 := Lib.hid (B2.out.trans (hb.mono B2.out.size)); have K4 := Lib.hid (K2.out.below hb); have K5 := Lib.hid hv3; clear hb hv3))
  go_ret2
  exact ⟨B3.out, _, _, rfl, K4.out, by rw [← Nat.one_mul (2 ^ n)]; exact K5.out⟩
end Go.Proofs.YtlgencbldbpbdaaGreatDoor
namespace Go.Proofs.YtlgencbldbpbdaaGreatDoor
open Go.RowKit Fl
theorem below_pos {A B v n : Nat} (hB : 0 < B) (h : A * TK = v * B) : A < B * 10 ^ n ↔ le10 (n : Int) v = false := by
 have h1 : le10 (n : Int) v = true ↔ 10 ^ n * TK ≤ v * 10 ^ 0 := le10_iff n 0 (by omega)
 rw [← Bool.not_eq_true, h1, Nat.pow_zero, Nat.mul_one, Nat.not_le]
 constructor
 ·intro c
  have c2 : A * TK < B * 10 ^ n * TK := Nat.mul_lt_mul_of_pos_right c TK_pos
  rw [h, Nat.mul_assoc B, Nat.mul_comm B] at c2
  exact Nat.lt_of_mul_lt_mul_right c2
 ·intro c
  have c2 : v * B < 10 ^ n * TK * B := Nat.mul_lt_mul_of_pos_right c hB
  rw [← h, Nat.mul_right_comm, Nat.mul_comm (10 ^ n)] at c2
  exact Nat.lt_of_mul_lt_mul_right c2
theorem below_neg {A B v n : Nat} (hB : 0 < B) (h : A * TK = v * B) : A * 10 ^ n < B ↔ le10 (-(n : Int)) v = false := by
 have h1 : le10 (-(n : Int)) v = true ↔ 10 ^ 0 * TK ≤ v * 10 ^ n := le10_iff 0 n (by omega)
 rw [← Bool.not_eq_true, h1, Nat.pow_zero, Nat.one_mul, Nat.not_le]
 constructor
 ·intro c
  have c2 : A * 10 ^ n * TK < B * TK := Nat.mul_lt_mul_of_pos_right c TK_pos
  rw [Nat.mul_right_comm, h, Nat.mul_right_comm, Nat.mul_comm B] at c2
  exact Nat.lt_of_mul_lt_mul_right c2
 ·intro c
  have c2 : v * 10 ^ n * B < TK * B := Nat.mul_lt_mul_of_pos_right c hB
  rw [Nat.mul_right_comm, ← h, Nat.mul_right_comm, Nat.mul_comm TK] at c2
  exact Nat.lt_of_mul_lt_mul_right c2
set_option maxRecDepth 100000 in
set_option maxHeartbeats 1000000 in
theorem lBelow {w : World} {va vb : Value} {A B v : Nat} {p : Int} (ha : NV w va A) (hb : NV w vb B) (hB : 0 < B) (h : A * TK = v * B) (bA : blen A ≤ 1100) (bB : blen B ≤ 1200) (p1 : -2220 ≤ p) (p2 : p ≤ 2220) :
  Calls Tryz.prog 186 #[va, vb, .int .i64 p] w fun e w' => e = .returned (.bool (!le10 p v)) ∧ Below w.heap.size w w' := by
 have HA := Lib.hid ha
 have HB := Lib.hid hb
 have BB2 := Lib.hid (And.intro bA bB)
 obtain ⟨D, hD⟩ : ∃ D, D = !le10 p v := ⟨_, rfl⟩
 rw [← hD]
 rcases Int.lt_or_le p 0 with c | c
 ·obtain ⟨n, rfl⟩ : ∃ n : Nat, p = -(n : Int) := ⟨(-p).toNat, by omega⟩
  have hn : n ≤ 2220 := by omega
  have HI := Lib.hid (below_neg (n := n) hB h)
  have CT := Lib.hid (fun w => lTen n w (by omega))
  have bT := blen_ten n
  have BT : Hid (blen (10 ^ n) ≤ 8881) := Lib.hid (by omega)
  have n0 : ¬ (0 : Int) ≤ -(n : Int) := by omega
  have n1 : (n : Int) ≤ 2220 := by omega
  have n2 : IntKind.i64.wrap (- -(n : Int)) = (n : Int) := by rw [Int.neg_neg]; exact IntWalk.i64_in _ (by omega)
  have HD := Lib.hid hD
  clear ha hb hB h bA bB p1 p2 hD c hn bT
  by_cases hlt : A * 10 ^ n < B
  ·have E : Hid (D = true) := Lib.hid (by rw [HD.out, HI.out.1 hlt]; rfl)
   have HL := Lib.hid hlt
   clear hlt
   go_enter Tryz.func186, Tryz.ntmps186
   go_wp2_with (first
    | (go_at_call 188; (try rw [n2]); refine (CT.out _).mono ?_; rintro e w1 ⟨hb, v1, rfl, hv1⟩; have B1 := Lib.hid hb; have K1 := Lib.hid hv1; have A1 := Lib.hid (HA.out.below hb); have A2 := Lib.hid (HB.out.below hb); clear hb hv1)
    | (go_at_call 187; refine (lMul A1.out K1.out (by have := BB2.out.1; omega) (by have := BT.out; omega)).mono ?_; rintro e w2 ⟨hb, v2, rfl, hv2⟩; have B2 := Lib.hid (B1.out.trans (hb.mono B1.out.size)); have K2 := Lib.hid hv2; have A3 := Lib.hid (A2.out.below hb); clear hb hv2)
    | (go_at_call 194; refine (c41 K2.out A3.out (by have h1 := blen_mul_le A (10 ^ n); have := BB2.out.1; have := BT.out; omega) (by have := BB2.out.2; omega)).mono ?_; rintro e w3 ⟨⟨r, rfl, hr⟩, k, rfl⟩; have g0 : r < 0 := hr.1 HL.out; have B3 : Hid (Below w.heap.size w (w2.drewN k)) := Lib.hid (BdN B2.out k); clear hr))
   go_ret
   exact ⟨by rw [E.out]; rfl, B3.out⟩
  ·have E : Hid (D = false) := Lib.hid (by
    rw [HD.out]
    cases hc : le10 (-(n : Int)) v
    ·exact absurd (HI.out.2 hc) hlt
    ·rfl)
   have HL := Lib.hid hlt
   clear hlt
   go_enter Tryz.func186, Tryz.ntmps186
   go_wp2_with (first
    | (go_at_call 188; (try rw [n2]); refine (CT.out _).mono ?_; rintro e w1 ⟨hb, v1, rfl, hv1⟩; have B1 := Lib.hid hb; have K1 := Lib.hid hv1; have A1 := Lib.hid (HA.out.below hb); have A2 := Lib.hid (HB.out.below hb); clear hb hv1)
    | (go_at_call 187; refine (lMul A1.out K1.out (by have := BB2.out.1; omega) (by have := BT.out; omega)).mono ?_; rintro e w2 ⟨hb, v2, rfl, hv2⟩; have B2 := Lib.hid (B1.out.trans (hb.mono B1.out.size)); have K2 := Lib.hid hv2; have A3 := Lib.hid (A2.out.below hb); clear hb hv2)
    | (go_at_call 194; refine (c41 K2.out A3.out (by have h1 := blen_mul_le A (10 ^ n); have := BB2.out.1; have := BT.out; omega) (by have := BB2.out.2; omega)).mono ?_; rintro e w3 ⟨⟨r, rfl, hr⟩, k, rfl⟩; have g0 : decide (r < 0) = false := decide_eq_false (by
      intro g
      rcases Nat.lt_or_eq_of_le (Nat.le_of_not_lt HL.out) with q | q
      ·have := hr.2.2 q; omega
      ·have := hr.2.1 q.symm; omega); have B3 : Hid (Below w.heap.size w (w2.drewN k)) := Lib.hid (BdN B2.out k); clear hr))
   go_ret
   exact ⟨by rw [E.out]; rfl, B3.out⟩
 ·obtain ⟨n, rfl⟩ : ∃ n : Nat, p = (n : Int) := ⟨p.toNat, by omega⟩
  have hn : n ≤ 2220 := by omega
  have HI := Lib.hid (below_pos (n := n) hB h)
  have CT := Lib.hid (fun w => lTen n w (by omega))
  have bT := blen_ten n
  have BT : Hid (blen (10 ^ n) ≤ 8881) := Lib.hid (by omega)
  have n0 : (0 : Int) ≤ (n : Int) := by omega
  have n1 : (n : Int) ≤ 2220 := by omega
  have HD := Lib.hid hD
  clear ha hb hB h bA bB p1 p2 hD c hn bT
  by_cases hlt : A < B * 10 ^ n
  ·have E : Hid (D = true) := Lib.hid (by rw [HD.out, HI.out.1 hlt]; rfl)
   have HL := Lib.hid hlt
   clear hlt
   go_enter Tryz.func186, Tryz.ntmps186
   go_wp2_with (first
    | (go_at_call 188; refine (CT.out _).mono ?_; rintro e w1 ⟨hb, v1, rfl, hv1⟩; have B1 := Lib.hid hb; have K1 := Lib.hid hv1; have A1 := Lib.hid (HA.out.below hb); have A2 := Lib.hid (HB.out.below hb); clear hb hv1)
    | (go_at_call 187; refine (lMul A2.out K1.out (by have := BB2.out.2; omega) (by have := BT.out; omega)).mono ?_; rintro e w2 ⟨hb, v2, rfl, hv2⟩; have B2 := Lib.hid (B1.out.trans (hb.mono B1.out.size)); have K2 := Lib.hid hv2; have A3 := Lib.hid (A1.out.below hb); clear hb hv2)
    | (go_at_call 194; refine (c41 A3.out K2.out (by have := BB2.out.1; omega) (by have h1 := blen_mul_le B (10 ^ n); have := BB2.out.2; have := BT.out; omega)).mono ?_; rintro e w3 ⟨⟨r, rfl, hr⟩, k, rfl⟩; have g0 : r < 0 := hr.1 HL.out; have B3 : Hid (Below w.heap.size w (w2.drewN k)) := Lib.hid (BdN B2.out k); clear hr))
   go_ret
   exact ⟨by rw [E.out]; rfl, B3.out⟩
  ·have E : Hid (D = false) := Lib.hid (by
    rw [HD.out]
    cases hc : le10 (n : Int) v
    ·exact absurd (HI.out.2 hc) hlt
    ·rfl)
   have HL := Lib.hid hlt
   clear hlt
   go_enter Tryz.func186, Tryz.ntmps186
   go_wp2_with (first
    | (go_at_call 188; refine (CT.out _).mono ?_; rintro e w1 ⟨hb, v1, rfl, hv1⟩; have B1 := Lib.hid hb; have K1 := Lib.hid hv1; have A1 := Lib.hid (HA.out.below hb); have A2 := Lib.hid (HB.out.below hb); clear hb hv1)
    | (go_at_call 187; refine (lMul A2.out K1.out (by have := BB2.out.2; omega) (by have := BT.out; omega)).mono ?_; rintro e w2 ⟨hb, v2, rfl, hv2⟩; have B2 := Lib.hid (B1.out.trans (hb.mono B1.out.size)); have K2 := Lib.hid hv2; have A3 := Lib.hid (A1.out.below hb); clear hb hv2)
    | (go_at_call 194; refine (c41 A3.out K2.out (by have := BB2.out.1; omega) (by have h1 := blen_mul_le B (10 ^ n); have := BB2.out.2; have := BT.out; omega)).mono ?_; rintro e w3 ⟨⟨r, rfl, hr⟩, k, rfl⟩; have g0 : decide (r < 0) = false := decide_eq_false (by
      intro g
      rcases Nat.lt_or_eq_of_le (Nat.le_of_not_lt HL.out) with q | q
      ·have := hr.2.2 q; omega
      ·have := hr.2.1 q.symm; omega); have B3 : Hid (Below w.heap.size w (w2.drewN k)) := Lib.hid (BdN B2.out k); clear hr))
   go_ret
   exact ⟨by rw [E.out]; rfl, B3.out⟩
end Go.Proofs.YtlgencbldbpbdaaGreatDoor
