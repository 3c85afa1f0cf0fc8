/- bits.nearest; Join, both. Join, both: the place of the number that it makes. -/
import Derived.Test.YtelalledjbeenaaMgLdexp
import Derived.Deep.QuietTactic
import Derived.BigQuiet
namespace Go.Proofs.Ytelalledjbeenaa
open Go.RowKit Fl

theorem near_again (Q : Nat) (E : Int) (h : -1074 ≤ E) (h1 : Q ≤ 2 * 2 ^ 52) (h2 : E = -1074 ∨ 2 ^ 52 ≤ Q) : near Q E = (E + 1074).toNat * 2 ^ 52 + Q := by
  rcases Nat.eq_zero_or_pos Q with h0 | h0
  · subst h0
    have hE : E = -1074 := by
      rcases h2 with h2 | h2
      · exact h2
      · rw [B52] at h2; omega
    subst hE
    rw [near_zero]; rfl
  rcases Nat.lt_or_eq_of_le h1 with h1 | h1
  · obtain ⟨n1, _, _⟩ := near_core Q E h0 _ rfl
    have hl : Q.log2 ≤ 52 := by
      have := (Nat.log2_lt (n := Q) (k := 53) (by omega)).2 (by rw [Nat.pow_succ]; omega); omega
    have hE : max ((Q.log2 : Int) + 1 + E - 53) (-1074) = E := by
      rcases h2 with h2 | h2
      · omega
      · have : Q.log2 = 52 := log2_eq Q 52 h2 (by rw [Nat.pow_succ]; omega)
        omega
    rw [hE] at n1
    rw [n1, show (E - E).toNat = 0 by omega, Nat.pow_zero, Nat.mul_one, rhe_one]
  · have e : Q = 2 ^ 52 * 2 ^ 1 := by rw [h1, Nat.pow_one, Nat.mul_comm]
    rw [e, near_scale]
    obtain ⟨n1, _, _⟩ := near_core (2 ^ 52) (E + (1 : Nat)) (by decide) _ rfl
    rw [show (2 ^ 52 : Nat).log2 = 52 from log2_eq _ 52 (Nat.le_refl _) (by decide)] at n1
    have hE : max (((52 : Nat) : Int) + 1 + (E + ((1 : Nat) : Int)) - 53) (-1074) = E + 1 := by omega
    rw [hE] at n1
    rw [show (E + 1 - (E + ((1 : Nat) : Int))).toNat = 0 by omega, show (E + ((1 : Nat) : Int) - (E + 1)).toNat = 0 by omega, Nat.pow_zero, Nat.mul_one, rhe_one, show (E + 1 + 1074).toNat = (E + 1074).toNat + 1 by omega] at n1
    have e5 : ∀ t B : Nat, (t + 1) * B + B = t * B + B * 2 := by intro t B; rw [Nat.succ_mul]; omega
    exact Eq.trans n1 (e5 _ _)

/-- what is cut off at place s -/
theorem near_cut (m : Nat) (p L : Int) (s : Nat) (h0 : 0 < m) (hL : L = max ((blen m : Int) + p - 53) (-1074)) (hs : L - p = (s : Int)) : near (rhe m (2 ^ s)) L = near m p ∧ rhe m (2 ^ s) ≤ 9007199254740992 := by
  rw [blen_pos m h0] at hL
  obtain ⟨n1, n2, n3⟩ := near_core m p h0 L hL
  rw [show (p - L).toNat = 0 by omega, Nat.pow_zero, Nat.mul_one, show (L - p).toNat = s by omega] at n1 n2 n3
  refine ⟨?_, by rw [B52] at n2; omega⟩
  rw [n1]
  exact near_again _ L (by omega) n2 n3

theorem rest_eq (m s : Nat) (h1 : 0 < s) (h2 : s < 64) : IntKind.u64.wrap ((m : Int) * 2 ^ (64 - s)) = ((m % 2 ^ s * 2 ^ (64 - s) : Nat) : Int) := by
  have e : (m : Int) * 2 ^ (64 - s) = ((m * 2 ^ (64 - s) : Nat) : Int) := by rw [Int.natCast_mul]; push_cast; rfl
  rw [e, IntKind.wrap_u64]
  have e2 : (18446744073709551616 : Nat) = 2 ^ s * 2 ^ (64 - s) := by rw [← Nat.pow_add, show s + (64 - s) = 64 by omega]
  have e3 : m * 2 ^ (64 - s) % 18446744073709551616 = m % 2 ^ s * 2 ^ (64 - s) := by
    rw [e2, Nat.mul_mod_mul_right]
  rw [← e3]; omega
theorem half_eq (s : Nat) (h1 : 0 < s) (h2 : s < 64) : (9223372036854775808 : Nat) = 2 ^ (s - 1) * 2 ^ (64 - s) := by rw [← Nat.pow_add, show s - 1 + (64 - s) = 63 by omega]
theorem b_one (q : Nat) (h : U q) : (bits .and .u64 (q : Int) 1 == 1) = decide (q % 2 = 1) := by
  have e := h.lt
  rw [show (1 : Int) = ((1 : Nat) : Int) from rfl, u64_and_nat _ _ h.lt (by omega), nat_mask1, Bool.eq_iff_iff]
  simp; omega

set_option maxRecDepth 100000 in
set_option maxHeartbeats 400000 in
theorem c138s (m s : Nat) (p L : Int) (w : World) (h : U m) (hm0 : ((m : Int) == 0) = false) (h1 : -1200 ≤ p) (h2 : p ≤ 1100)
    (hlow : (if (if p < (blen m : Int) + p - 53 then (blen m : Int) + p - 53 else p) < -1074 then -1074 else if p < (blen m : Int) + p - 53 then (blen m : Int) + p - 53 else p) = L)
    (hcut : L - p = (s : Int)) (hv : near (rhe m (2 ^ s)) L = near m p) (hk : rhe m (2 ^ s) ≤ 9007199254740992) (hL : L ≤ 1200) (hs : 0 < s) (hs2 : s < 64) :
    Calls Try.prog 138 #[.int .u64 m, .int .i64 p] w fun e w' => e = .returned (.float .f64 (min (near m p) INF)) ∧ w = w' := by
  have hb : blen m ≤ 64 := blen_lt m 64 h
  have HL : Hid (-1074 ≤ L) := Lib.hid (by rw [← hlow]; split <;> omega)
  have H2 := Lib.hid hL
  have hr : rhe m (2 ^ s) = m / 2 ^ s + (if 2 ^ s < 2 * (m % 2 ^ s) ∨ (2 ^ s = 2 * (m % 2 ^ s) ∧ m / 2 ^ s % 2 = 1) then 1 else 0) := rfl
  have e3 := dr3 m s
  have e1 := rest_eq m s hs hs2
  have e2 := half_eq s hs hs2
  have e4 := b_one (m / 2 ^ s) (Nat.lt_of_le_of_lt (Nat.div_le_self _ _) h)
  have e5 := dr5 m s h hs
  rw [← hv]
  clear hv
  have hp := Nat.two_pow_pos (64 - s)
  have hg := two_half s hs
  have HK := Lib.hid hk
  have hz : (0 : Int) < (s : Int) := by omega
  have hs3 : ¬ (64 : Int) < (s : Int) := by omega
  have hs4 : ((s : Int) == 64) = false := by simp; omega
  have c1 : 2 ^ s < 2 * (m % 2 ^ s) ↔ 9223372036854775808 < m % 2 ^ s * 2 ^ (64 - s) := by
    rw [e2, hg]
    generalize 2 ^ (64 - s) = t at *
    generalize m % (2 * 2 ^ (s - 1)) = r at *
    generalize 2 ^ (s - 1) = a at *
    rw [Nat.mul_lt_mul_right hp]; omega
  have c2 : 2 ^ s = 2 * (m % 2 ^ s) ↔ 9223372036854775808 = m % 2 ^ s * 2 ^ (64 - s) := by
    rw [e2, hg]
    generalize 2 ^ (64 - s) = t at *
    generalize m % (2 * 2 ^ (s - 1)) = r at *
    generalize 2 ^ (s - 1) = a at *
    rw [Nat.mul_left_inj (by omega)]; omega
  simp only [c1, c2] at hr
  clear c1 c2 hg hp e2 hk hL
  generalize m % 2 ^ s * 2 ^ (64 - s) = R at *
  generalize m / 2 ^ s = q at *
  rw [show ((q + 1 : Nat) : Int) = (q : Int) + 1 from by omega] at e5
  have hs5 : ((64 : Int) - (s : Int)).toNat = 64 - s := by omega
  by_cases d1 : 9223372036854775808 < R
  · have D1 : decide ((9223372036854775808 : Int) < (R : Int)) = true := by simp; omega
    rw [if_pos (.inl d1)] at hr
    have HR := Lib.hid hr
    clear hr d1 e4
    go_enter Try.func138, Try.ntmps138
    go_wp2_with (first | (go_at_call 176; refine (c176 _ _ (by assumption)).mono ?_; rintro e w' ⟨rfl, rfl⟩) | (go_at_call 177; go_must (rw [show ((q : Int) + 1) = ((q + 1 : Nat) : Int) from by omega, fi_eq, ← HR.out]; refine (c177 _ _ _ HK.out (by have := HL.out; omega) (by have := H2.out; omega)).mono ?_; rintro e w' ⟨rfl, rfl⟩)))
    go_ret
    exact ⟨rfl, rfl⟩
  · have D1 : decide ((9223372036854775808 : Int) < (R : Int)) = false := by simp; omega
    by_cases d2 : R = 9223372036854775808
    · have D2 : ((R : Int) == 9223372036854775808) = true := by simp; omega
      have D3 : (R : Int) = 9223372036854775808 := by omega
      by_cases d3 : q % 2 = 1
      · rw [decide_eq_true d3] at e4
        rw [if_pos (.inr ⟨d2.symm, d3⟩)] at hr
        have HR := Lib.hid hr
        clear hr d1 d2 d3
        go_enter Try.func138, Try.ntmps138
        go_wp2_with (first | (go_at_call 176; refine (c176 _ _ (by assumption)).mono ?_; rintro e w' ⟨rfl, rfl⟩) | (go_at_call 177; go_must (rw [show ((q : Int) + 1) = ((q + 1 : Nat) : Int) from by omega, fi_eq, ← HR.out]; refine (c177 _ _ _ HK.out (by have := HL.out; omega) (by have := H2.out; omega)).mono ?_; rintro e w' ⟨rfl, rfl⟩)))
        go_ret
        exact ⟨rfl, rfl⟩
      · rw [decide_eq_false d3] at e4
        rw [if_neg (by omega), Nat.add_zero] at hr
        have HR := Lib.hid hr
        clear hr d1 d2 d3 e5
        go_enter Try.func138, Try.ntmps138
        go_wp2_with (first | (go_at_call 176; refine (c176 _ _ (by assumption)).mono ?_; rintro e w' ⟨rfl, rfl⟩) | (go_at_call 177; go_must (rw [fi_eq, ← HR.out]; refine (c177 _ _ _ HK.out (by have := HL.out; omega) (by have := H2.out; omega)).mono ?_; rintro e w' ⟨rfl, rfl⟩)))
        go_ret
        exact ⟨rfl, rfl⟩
    · have D2 : ((R : Int) == 9223372036854775808) = false := by simp; omega
      rw [if_neg (by omega), Nat.add_zero] at hr
      have HR := Lib.hid hr
      have D3 : ¬ (R : Int) = 9223372036854775808 := by omega
      clear hr d1 d2 e5 e4
      go_enter Try.func138, Try.ntmps138
      go_wp2_with (first | (go_at_call 176; refine (c176 _ _ (by assumption)).mono ?_; rintro e w' ⟨rfl, rfl⟩) | (go_at_call 177; go_must (rw [fi_eq, ← HR.out]; refine (c177 _ _ _ HK.out (by have := HL.out; omega) (by have := H2.out; omega)).mono ?_; rintro e w' ⟨rfl, rfl⟩)))
      go_ret
      exact ⟨rfl, rfl⟩

set_option maxRecDepth 100000 in
theorem c138e (m s : Nat) (p L : Int) (w : World) (h : U m) (hm0 : ((m : Int) == 0) = false) (h1 : -1200 ≤ p) (h2 : p ≤ 1100)
    (hlow : (if (if p < (blen m : Int) + p - 53 then (blen m : Int) + p - 53 else p) < -1074 then -1074 else if p < (blen m : Int) + p - 53 then (blen m : Int) + p - 53 else p) = L)
    (hcut : L - p = (s : Int)) (hs : s = 64) (hv : near (rhe m (2 ^ 64)) L = near m p) (hL : L ≤ 1200) :
    Calls Try.prog 138 #[.int .u64 m, .int .i64 p] w fun e w' => e = .returned (.float .f64 (min (near m p) INF)) ∧ w = w' := by
  have hb : blen m ≤ 64 := blen_lt m 64 h
  have HL : Hid (-1074 ≤ L) := Lib.hid (by rw [← hlow]; split <;> omega)
  have H2 := Lib.hid hL
  have hm := h.lt
  have hs3 : ¬ (64 : Int) < (s : Int) := by omega
  have hs4 : ((s : Int) == 64) = true := by simp; omega
  rw [← hv]
  clear hv hL hs
  by_cases c : 9223372036854775808 < m
  · have hr : rhe m (2 ^ 64) = 1 := by
      unfold rhe
      rw [Nat.div_eq_of_lt hm, Nat.mod_eq_of_lt hm, if_pos (by omega)]
    have D : decide ((9223372036854775808 : Int) < (m : Int)) = true := by simp; omega
    rw [hr]
    clear hr hm c
    generalize hZ : min (near 1 L) INF = Z
    go_enter Try.func138, Try.ntmps138
    go_wp2_with (first | (go_at_call 176; refine (c176 _ _ (by assumption)).mono ?_; rintro e w' ⟨rfl, rfl⟩) | (go_at_call 177; go_must (rw [show floatOfInt .f64 1 = fi 1 from fi_eq 1]; refine (c177 1 _ _ (by decide) (by have := HL.out; omega) (by have := H2.out; omega)).mono ?_; rintro e w' ⟨rfl, rfl⟩)))
    go_ret
    exact ⟨rfl, rfl⟩
  · have hr : rhe m (2 ^ 64) = 0 := by
      unfold rhe
      rw [Nat.div_eq_of_lt hm, Nat.mod_eq_of_lt hm, if_neg (by omega)]
    have D : decide ((9223372036854775808 : Int) < (m : Int)) = false := by simp; omega
    rw [hr]
    clear hr hm c
    generalize hZ : min (near 0 L) INF = Z
    go_enter Try.func138, Try.ntmps138
    go_wp2_with (first | (go_at_call 176; refine (c176 _ _ (by assumption)).mono ?_; rintro e w' ⟨rfl, rfl⟩) | (go_at_call 177; go_must (rw [show floatOfInt .f64 0 = fi 0 from fi_eq 0]; refine (c177 0 _ _ (by decide) (by have := HL.out; omega) (by have := H2.out; omega)).mono ?_; rintro e w' ⟨rfl, rfl⟩)))
    go_ret
    exact ⟨rfl, rfl⟩
set_option maxRecDepth 100000 in
theorem c138g (m s : Nat) (p L : Int) (w : World) (h : U m) (hm0 : ((m : Int) == 0) = false) (h1 : -1200 ≤ p) (h2 : p ≤ 1100)
    (hlow : (if (if p < (blen m : Int) + p - 53 then (blen m : Int) + p - 53 else p) < -1074 then -1074 else if p < (blen m : Int) + p - 53 then (blen m : Int) + p - 53 else p) = L)
    (hcut : L - p = (s : Int)) (hs : (64 : Int) < (s : Int)) (hL : L ≤ 1200) (hz : near m p = 0) :
    Calls Try.prog 138 #[.int .u64 m, .int .i64 p] w fun e w' => e = .returned (.float .f64 (min (near m p) INF)) ∧ w = w' := by
  have hb : blen m ≤ 64 := blen_lt m 64 h
  have HL : Hid (-1074 ≤ L) := Lib.hid (by rw [← hlow]; split <;> omega)
  have H2 := Lib.hid hL
  obtain rfl : L = -1074 := by
    rw [← hlow] at hcut ⊢
    split at hcut <;> split <;> omega
  have e : min (near m p) INF = min (near 0 (-1074)) INF := by rw [hz, near_zero]
  rw [e]
  clear hL hz e
  generalize hZ : min (near 0 (-1074)) INF = Z
  go_enter Try.func138, Try.ntmps138
  go_wp2_with (first | (go_at_call 176; refine (c176 _ _ (by assumption)).mono ?_; rintro e w' ⟨rfl, rfl⟩) | (go_at_call 177; go_must (rw [show floatOfInt .f64 0 = fi 0 from fi_eq 0]; refine (c177 0 _ _ (by decide) (by have := HL.out; omega) (by have := H2.out; omega)).mono ?_; rintro e w' ⟨rfl, rfl⟩)))
  go_ret
  exact ⟨ret_float rfl, rfl⟩
set_option maxRecDepth 100000 in
theorem c138z (m : Nat) (p : Int) (w : World) (h : U m) (hm0 : ((m : Int) == 0) = false) (h1 : -1200 ≤ p) (h2 : p ≤ 1100)
    (hl1 : ¬ p < (blen m : Int) + p - 53) (hl2 : ¬ p < -1074) :
    Calls Try.prog 138 #[.int .u64 m, .int .i64 p] w fun e w' => e = .returned (.float .f64 (min (near m p) INF)) ∧ w = w' := by
  have hb : blen m ≤ 64 := blen_lt m 64 h
  have hk : m ≤ 9007199254740992 := by
    have := lt_blen m
    have h3 : 2 ^ blen m ≤ 2 ^ 53 := Nat.pow_le_pow_right (by omega) (by omega)
    generalize 2 ^ blen m = t at *
    omega
  have HK := Lib.hid hk
  have hcut : p - p = 0 := by omega
  have efi := fi_eq m
  clear hk
  generalize hZ : min (near m p) INF = Z
  go_enter Try.func138, Try.ntmps138
  go_wp2_with (first | (go_at_call 176; refine (c176 _ _ (by assumption)).mono ?_; rintro e w' ⟨rfl, rfl⟩) | (go_at_call 177; go_must (refine (c177 _ _ _ HK.out (by omega) (by omega)).mono ?_; rintro e w' ⟨rfl, rfl⟩)))
  go_ret
  exact ⟨ret_float rfl, rfl⟩

set_option maxRecDepth 100000 in
theorem c138 (m : Nat) (p : Int) (w : World) (h : U m) : Calls Try.prog 138 #[.int .u64 m, .int .i64 p] w fun e w' => e = .returned (.float .f64 (min (near m p) INF)) ∧ w = w' := by
  rcases Nat.eq_zero_or_pos m with h0 | h0
  · subst h0
    have e : min (near 0 p) INF = 0 := by rw [near_zero]; exact Nat.zero_min _
    rw [e]
    go_enter Try.func138, Try.ntmps138
    go_wp2
    go_ret
    exact ⟨rfl, rfl⟩
  have hm0 : ((m : Int) == 0) = false := by simp; omega
  by_cases c1 : p < -1200
  · have e : min (near m p) INF = 0 := by rw [near_small m p h (by omega)]; exact Nat.zero_min _
    rw [e]
    go_enter Try.func138, Try.ntmps138
    go_wp2
    go_ret
    exact ⟨rfl, rfl⟩
  by_cases c2 : 1100 < p
  · have e : min (near m p) INF = 9218868437227405312 := by rw [Nat.min_eq_right (near_great m p h0 (by omega))]; rfl
    rw [e]
    go_enter Try.func138, Try.ntmps138
    go_wp2_with (go_at_call 137; refine (c137p _).mono ?_; rintro e w' ⟨rfl, rfl⟩)
    go_ret
    exact ⟨rfl, rfl⟩
  by_cases c3 : p < (blen m : Int) + p - 53 ∨ p < -1074
  · obtain ⟨L, hL⟩ : ∃ L : Int, L = max ((blen m : Int) + p - 53) (-1074) := ⟨_, rfl⟩
    have hlow : (if (if p < (blen m : Int) + p - 53 then (blen m : Int) + p - 53 else p) < -1074 then -1074 else if p < (blen m : Int) + p - 53 then (blen m : Int) + p - 53 else p) = L := by
      split <;> split <;> omega
    have hb : blen m ≤ 64 := blen_lt m 64 h
    obtain ⟨s, hs⟩ := Int.eq_ofNat_of_zero_le (show 0 ≤ L - p by omega)
    obtain ⟨hv, hk⟩ := near_cut m p L s h0 hL hs
    rcases Nat.lt_trichotomy s 64 with c | c | c
    · exact c138s m s p L w h hm0 (by omega) (by omega) hlow hs hv hk (by omega) (by omega) c
    · subst c
      exact c138e m 64 p L w h hm0 (by omega) (by omega) hlow hs rfl hv (by omega)
    · refine c138g m s p L w h hm0 (by omega) (by omega) hlow hs (by omega) (by omega) ?_
      have : rhe m (2 ^ s) = 0 := by
        refine rhe_small _ _ ?_
        have h3 : 2 ^ 65 ≤ 2 ^ s := Nat.pow_le_pow_right (by omega) (by omega)
        have := h.lt
        generalize 2 ^ s = t at *
        omega
      rw [← hv, this, near_zero]
  · exact c138z m p w h hm0 (by omega) (by omega) (by omega) (by omega)
end Go.Proofs.Ytelalledjbeenaa

namespace Go.Proofs.Ytelalledjbeenaa
open Go.RowKit Fl

def joinP (neg : Bool) (c : Int) (m : Nat) (e : Int) : Int :=
  if c = 4 then 9223372036854775807 else if c = 3 then pl (word neg 9218868437227405312) else if c = 0 then pl (word neg 0) else pl (nearW neg m e)
theorem joinP4 (neg : Bool) (m : Nat) (e : Int) : joinP neg 4 m e = 9223372036854775807 := by unfold joinP; rw [if_pos rfl]
theorem joinP3 (neg : Bool) (m : Nat) (e : Int) : joinP neg 3 m e = pl (word neg 9218868437227405312) := by unfold joinP; rw [if_neg (by decide), if_pos rfl]
theorem joinP0 (neg : Bool) (m : Nat) (e : Int) : joinP neg 0 m e = pl (word neg 0) := by unfold joinP; rw [if_neg (by decide), if_neg (by decide), if_pos rfl]
theorem Bd {B : Nat} {a w : World} (h : Below B a w) (n : Nat) : Below B a (w.drewN n) := ⟨h.os, h.tape, h.output, h.size, h.block⟩
theorem U_nearW (neg : Bool) (m : Nat) (e : Int) : U (nearW neg m e) := by
  refine U_word _ _ ?_
  have : min (near m e) INF ≤ INF := Nat.min_le_right _ _
  unfold INF at *; omega

set_option maxRecDepth 100000 in
set_option maxHeartbeats 400000 in
theorem c34 (neg : Bool) (c : Int) (m : Nat) (e : Int) (w : World) (h : U m) :
    Calls Try.prog 34 #[.agg #[.bool neg, .int .i64 c, .int .u64 m, .int .i64 e]] w fun x w' => RetF (joinP neg c m e) x ∧ Below w.heap.size w w' := by
  have B1 : ∀ (w : World) (o : Obj), Below w.heap.size w (w.alloc o) := fun w o => (Below.refl _ _).alloc (Nat.le_refl _) _
  by_cases c4 : c = 4
  · subst c4
    go_enter Try.func34, Try.ntmps34
    go_wp2_with (go_at_call 139; refine (c139 _).mono ?_; rintro e w' ⟨rfl, rfl⟩)
    go_ret
    exact ⟨retF U_QR (by rw [pl_QR, joinP4]), B1 _ _⟩
  have d4 : (c == 4) = false := by simp; omega
  by_cases c3 : c = 3
  · subst c3
    go_enter Try.func34, Try.ntmps34
    go_wp2_with (go_at_call 140; refine (c140 9218868437227405312 _ _ (by decide)).mono ?_; rintro e w' ⟨rfl, rfl⟩)
    go_ret
    exact ⟨retF (U_word _ _ (by decide)) (joinP3 _ _ _).symm, B1 _ _⟩
  have d3 : (c == 3) = false := by simp; omega
  by_cases c0 : c = 0
  · subst c0
    go_enter Try.func34, Try.ntmps34
    go_wp2_with (go_at_call 140; refine (c140 0 _ _ (by decide)).mono ?_; rintro e w' ⟨rfl, rfl⟩)
    go_ret
    exact ⟨retF (U_word _ _ (by decide)) (joinP0 _ _ _).symm, B1 _ _⟩
  have d0 : (c == 0) = false := by simp; omega
  have H : Hid (pl (nearW neg m e) = joinP neg c m e) := by
    have : joinP neg c m e = pl (nearW neg m e) := by unfold joinP; rw [if_neg c4, if_neg c3, if_neg c0]
    exact Lib.hid this.symm
  clear c4 c3 c0
  go_enter Try.func34, Try.ntmps34
  go_wp2_with (go_at_call 141; refine (c141 _ _ _ _ (by assumption)).mono ?_; rintro e w' ⟨rfl, rfl⟩)
  go_ret
  exact ⟨retF (U_nearW _ _ _) H.out, B1 _ _⟩

theorem q137 (w : World) (n : Nat) : Calls Try.prog 137 #[.int .i64 1] (w.drewN n) fun e w' => e = .returned (.float .f64 9218868437227405312) ∧ ∃ m, w' = w.drewN m :=
  Calls.quiet_of_same ((c137p _).mono fun _ _ ⟨a, b⟩ => ⟨a, b.symm⟩)
theorem q136 (r : Nat) (neg : Bool) (w : World) (n : Nat) (h : r < 9223372036854775808) : Calls Try.prog 136 #[.float .f64 r, .bool neg] (w.drewN n) fun e w' => e = .returned (.float .f64 (word neg r)) ∧ ∃ m, w' = w.drewN m :=
  Calls.quiet_of_same ((c136 r neg _ h).mono fun _ _ ⟨a, b⟩ => ⟨a, b.symm⟩)
theorem q138 (m : Nat) (p : Int) (w : World) (n : Nat) (h : U m) : Calls Try.prog 138 #[.int .u64 m, .int .i64 p] (w.drewN n) fun e w' => e = .returned (.float .f64 (min (near m p) INF)) ∧ ∃ m, w' = w.drewN m :=
  Calls.quiet_of_same ((c138 m p _ h).mono fun _ _ ⟨a, b⟩ => ⟨a, b.symm⟩)
theorem min_inf_lt (a : Nat) : min a INF < 9223372036854775808 := by
  have : min a INF ≤ INF := Nat.min_le_right _ _
  unfold INF at *; omega

set_option maxRecDepth 100000 in
set_option maxHeartbeats 400000 in
theorem c33 (neg : Bool) (c : Int) (m : Nat) (e : Int) (w : World) (h : U m) :
    Calls Try.prog 33 #[.agg #[.bool neg, .int .i64 c, .int .u64 m, .int .i64 e]] w fun x w' => RetF (joinP neg c m e) x ∧ Below w.heap.size w w' := by
  have B1 : ∀ (w : World) (o : Obj), Below w.heap.size w (w.alloc o) := fun w o => (Below.refl _ _).alloc (Nat.le_refl _) _
  by_cases c4 : c = 4
  · subst c4
    go_enter Try.func33, Try.ntmps33
    go_wp2_with (go_at_call 135; refine (c135 _).mono ?_; rintro e w' ⟨rfl, rfl⟩)
    go_ret
    exact ⟨retF U_QN (by rw [pl_QN, joinP4]), B1 _ _⟩
  have d4 : (c == 4) = false := by simp; omega
  by_cases c3 : c = 3
  · subst c3
    go_enter Try.func33, Try.ntmps33
    go_wp2_with fail
    go_quiet ((first | (go_at_call 137; exact q137 _ _) | (go_at_call 136; exact q136 _ _ _ _ (by decide))))
    go_wp2
    go_ret
    exact ⟨retF (U_word _ _ (by decide)) (joinP3 _ _ _).symm, Bd (B1 _ _) _⟩
  have d3 : (c == 3) = false := by simp; omega
  by_cases c0 : c = 0
  · subst c0
    go_enter Try.func33, Try.ntmps33
    go_wp2_with (go_at_call 136; refine (c136 0 _ _ (by decide)).mono ?_; rintro e w' ⟨rfl, rfl⟩)
    go_ret
    exact ⟨retF (U_word _ _ (by decide)) (joinP0 _ _ _).symm, B1 _ _⟩
  have d0 : (c == 0) = false := by simp; omega
  have H : Hid (pl (word neg (min (near m e) INF)) = joinP neg c m e) := by
    have : joinP neg c m e = pl (nearW neg m e) := by unfold joinP; rw [if_neg c4, if_neg c3, if_neg c0]
    exact Lib.hid this.symm
  clear c4 c3 c0
  go_enter Try.func33, Try.ntmps33
  go_wp2_with fail
  go_quiet ((first | (go_at_call 138; exact q138 _ _ _ _ h) | (go_at_call 136; exact q136 _ _ _ _ (min_inf_lt _))))
  go_wp2
  go_ret
  exact ⟨retF (U_word _ _ (min_inf_lt _)) H.out, Bd (B1 _ _) _⟩
end Go.Proofs.Ytelalledjbeenaa
