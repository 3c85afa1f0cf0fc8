/- Rows of seventy words by value: one bit. Plain laws: what rounding loses is a number. No program in sight. Plain laws of rounding bit by bit. An Acc: Value. -/
import Derived.Test.YtelalledjbeenaaMgUE
import Derived.Test.YtelalledjbeenaaFlB
import Derived.Test.YtelalledjbeenaaAccG
namespace Go.Proofs.Ytelalledjbeenaa
open Go.RowKit Fl

theorem bit_dg (n i : Nat) : dg n (i / 32) / 2 ^ (i % 32) % 2 = n / 2 ^ i % 2 := by
  have e : n / 2 ^ i = n / 2 ^ (32 * (i / 32)) / 2 ^ (i % 32) := by
    rw [Nat.div_div_eq_div_mul, ← Nat.pow_add]; congr 2; omega
  rw [e]
  unfold dg
  generalize n / 2 ^ (32 * (i / 32)) = q
  have hr : i % 32 < 32 := Nat.mod_lt _ (by decide)
  generalize i % 32 = r at *
  have e2 : (4294967296 : Nat) = 2 ^ r * 2 ^ (31 - r) * 2 := by
    rw [Nat.mul_assoc, ← Nat.pow_succ, ← Nat.pow_add]
    rw [show r + (31 - r).succ = 32 by omega]
  rw [e2, Nat.mul_assoc, Nat.mod_mul_right_div_self, Nat.mul_comm (2 ^ (31 - r)) 2, Nat.mod_mul_right_mod]
set_option maxRecDepth 100000 in
set_option maxHeartbeats 1000000 in
theorem c185 (n : Nat) (i : Nat) (w : World) (hi : i < 2240) : Calls Try.prog 185 #[.agg (UL n).toArray, .int .i64 i] w fun e w' => e = .returned (.int .u64 ((n / 2 ^ i % 2 : Nat) : Int)) ∧ Below w.heap.size w w' := by
  have c0 := (urow_new w n 108 (i / 32) (by omega)).1
  rw [Nat.zero_add] at c0
  have B1 : Hid (Below w.heap.size w (w.alloc (.cells (UL n).toArray 108))) := Lib.hid ((Below.refl _ _).alloc (Nat.le_refl _) _)
  have hb := bit_dg n i
  have hu := dg_lt n (i / 32)
  have HB := Lib.hid (And.intro hb hu)
  have hq : (i : Int) / 32 < 70 := by omega
  have hii : (i : Int) < 2240 := by omega
  clear hb hu
  go_enter Try.func185, Try.ntmps185
  go_wp2
  go_ret
  refine ⟨ret_int ?_, B1.out⟩
  rw [cast_div, show (1 : Int) = ((1 : Nat) : Int) from rfl, u32_and_nat _ _ (Nat.lt_of_le_of_lt (Nat.div_le_self _ _) HB.out.2) (by decide), Nat.and_one_is_mod, HB.out.1, IntKind.wrap_u64]
  have : n / 2 ^ i % 2 < 2 := Nat.mod_lt _ (by decide)
  omega
/-- nought with a sign -/
theorem c170 (neg : Bool) (w : World) : Calls Try.prog 170 #[.bool neg] w fun e w' => e = .returned (.float .f64 (if neg then 9223372036854775808 else 0)) ∧ w = w' := by
  have hx := fun w => x153 9223372036854775808 w
  cases neg
  · go_enter Try.func170, Try.ntmps170
    go_wp2
    go_ret
    exact ⟨rfl, rfl⟩
  · go_enter Try.func170, Try.ntmps170
    go_wp2
    go_ret
    exact ⟨rfl, rfl⟩
end Go.Proofs.Ytelalledjbeenaa

namespace Go.Proofs.Ytelalledjbeenaa.Fl
open Ieee

/-- the value of a rounded number of units -/
theorem val_round (N : Nat) : val 52 (rungOf 52 N 0) = rhe N (2 ^ (N.log2 - 52)) * 2 ^ (N.log2 - 52) := by
  by_cases h0 : N = 0
  · subst h0; rw [rungOf_zero, val_zero, rhe_zero, Nat.zero_mul]
  have l1 := Nat.log2_self_le h0
  have l2 : N < 2 ^ (N.log2 + 1) := Nat.lt_log2_self
  unfold rungOf
  rw [Nat.sub_zero, Nat.zero_add]
  generalize hd : N.log2 - 52 = d at *
  rcases Nat.eq_zero_or_pos d with hz | hz
  · subst hz
    rw [Nat.pow_zero, rhe_one, Nat.zero_mul, Nat.zero_add, Nat.mul_one]
    refine val_small _ _ ?_
    have : 2 ^ (N.log2 + 1) ≤ 2 ^ 53 := Nat.pow_le_pow_right (by decide) (by omega)
    rw [show (2 : Nat) * 2 ^ 52 = 2 ^ 53 by decide]; omega
  · have e1 : N.log2 = d + 52 := by omega
    rw [e1, Nat.pow_add] at l1
    rw [e1, show d + 52 + 1 = d + 53 by omega, Nat.pow_add] at l2
    have q1 : 4503599627370496 ≤ rhe N (2 ^ d) := rhe_ge_of _ _ _ (Nat.two_pow_pos _) (by rw [show (4503599627370496 : Nat) = 2 ^ 52 by decide]; exact l1)
    have q2 : rhe N (2 ^ d) ≤ 9007199254740992 := rhe_le_of _ _ _ (Nat.two_pow_pos _) (by rw [show (9007199254740992 : Nat) = 2 ^ 53 by decide]; omega)
    generalize rhe N (2 ^ d) = q at *
    unfold val
    rw [show (2 : Nat) ^ 52 = 4503599627370496 by decide, if_neg (by omega)]
    by_cases hq : q = 9007199254740992
    · subst hq
      have a1 : (d * 4503599627370496 + 9007199254740992) / 4503599627370496 = d + 2 := by omega
      have a2 : (d * 4503599627370496 + 9007199254740992) % 4503599627370496 = 0 := by omega
      rw [a1, a2, show d + 2 - 1 = d + 1 by omega, Nat.pow_succ]
      generalize 2 ^ d = g
      omega
    · have a1 : (d * 4503599627370496 + q) / 4503599627370496 = d + 1 := by omega
      have a2 : (d * 4503599627370496 + q) % 4503599627370496 = q - 4503599627370496 := by omega
      rw [a1, a2, show d + 1 - 1 = d by omega, show 4503599627370496 + (q - 4503599627370496) = q by omega]
/-- above a bound all numbers are many times a power of two -/
theorem val_dvd (r d : Nat) (h : 4503599627370496 * 2 ^ d ≤ val 52 r) : ∃ k, val 52 r = k * 2 ^ d := by
  have hp := Nat.two_pow_pos d
  by_cases hr : r < 4503599627370496
  · rw [val_small 52 r (by rw [show (2 : Nat) ^ 52 = 4503599627370496 by decide]; omega)] at h
    have : 4503599627370496 * 1 ≤ 4503599627370496 * 2 ^ d := Nat.mul_le_mul_left _ hp
    omega
  · have hb := val_bounds 52 r (by rw [show (2 : Nat) ^ 52 = 4503599627370496 by decide]; omega)
    rw [show (2 : Nat) ^ 52 = 4503599627370496 by decide] at hb
    have h1 : 4503599627370496 * 2 ^ d < 4503599627370496 * 2 ^ (r / 4503599627370496) := by omega
    have h2 := Nat.lt_of_mul_lt_mul_left h1
    have h3 : d < r / 4503599627370496 := (Nat.pow_lt_pow_iff_right (by decide)).1 h2
    unfold val
    rw [show (2 : Nat) ^ 52 = 4503599627370496 by decide, if_neg hr]
    generalize r / 4503599627370496 = e at *
    refine ⟨(4503599627370496 + r % 4503599627370496) * 2 ^ (e - 1 - d), ?_⟩
    rw [Nat.mul_assoc, ← Nat.pow_add]
    congr 2; omega
theorem near_mul (N g k : Nat) (hg : 0 < g) : ((rhe N g * g : Nat) - (N : Int)).natAbs ≤ ((k * g : Nat) - (N : Int)).natAbs := by
  have hb := rhe_bounds N g hg
  rw [Nat.mul_comm g] at hb
  generalize rhe N g = q at *
  rcases Nat.lt_trichotomy k q with h | h | h
  · have h1 : (k + 1) * g ≤ q * g := Nat.mul_le_mul_right _ h
    rw [Nat.add_mul, Nat.one_mul] at h1
    omega
  · subst h; exact Nat.le_refl _
  · have h1 : (q + 1) * g ≤ k * g := Nat.mul_le_mul_right _ h
    rw [Nat.add_mul, Nat.one_mul] at h1
    omega
/-- no number is nearer -/
theorem nearest_le (N r : Nat) : ((val 52 (rungOf 52 N 0) : Nat) - (N : Int)).natAbs ≤ ((val 52 r : Nat) - (N : Int)).natAbs := by
  rw [val_round]
  by_cases h0 : N = 0
  · subst h0; rw [rhe_zero, Nat.zero_mul]; omega
  have l1 := Nat.log2_self_le h0
  generalize hd : N.log2 - 52 = d at *
  have hp := Nat.two_pow_pos d
  rcases Nat.eq_zero_or_pos d with hz | hz
  · subst hz; rw [Nat.pow_zero, rhe_one, Nat.mul_one]; omega
  · have e1 : N.log2 = 52 + d := by omega
    rw [e1, Nat.pow_add, show (2 : Nat) ^ 52 = 4503599627370496 by decide] at l1
    by_cases hv : 4503599627370496 * 2 ^ d ≤ val 52 r
    · obtain ⟨k, hk⟩ := val_dvd r d hv
      rw [hk]
      exact near_mul N (2 ^ d) k hp
    · have := near_mul N (2 ^ d) 4503599627370496 hp
      omega
theorem pow_split (j k : Nat) (h : j ≤ k) : ∃ c, 2 ^ k = c * 2 ^ j := ⟨2 ^ (k - j), by rw [← Nat.pow_add]; congr 1; omega⟩
/-- of many times a power of two nothing is lost, or what is left is -/
theorem round_mult (m j : Nat) : val 52 (rungOf 52 (m * 2 ^ j) 0) = m * 2 ^ j ∨ (j < (m * 2 ^ j).log2 - 52 ∧ ∃ k, val 52 (rungOf 52 (m * 2 ^ j) 0) = k * 2 ^ j) := by
  rw [val_round]
  generalize hd : (m * 2 ^ j).log2 - 52 = d
  rcases Nat.lt_or_ge j d with h | h
  · right
    obtain ⟨c, hc⟩ := pow_split j d (by omega)
    exact ⟨h, rhe (m * 2 ^ j) (2 ^ d) * c, by rw [hc, Nat.mul_assoc]⟩
  · left
    obtain ⟨c, hc⟩ := pow_split d j h
    rw [hc, ← Nat.mul_assoc, rhe_exact _ _ (Nat.two_pow_pos _)]
/-- such a number of units comes back whole -/
theorem rep_mult (m j r : Nat) (hm : m ≤ 9007199254740992) (hr : r < INF) (h : m * 2 ^ j ≤ val 52 r) : val 52 (rnd (m * 2 ^ j)) = m * 2 ^ j ∧ rnd (m * 2 ^ j) < INF := by
  have h1 := rnd_mono h
  rw [rnd_val r (by omega)] at h1
  have h2 : rnd (m * 2 ^ j) < INF := by omega
  have h3 : rnd (m * 2 ^ j) = rungOf 52 (m * 2 ^ j) 0 := by unfold rnd at h2 ⊢; omega
  exact ⟨by rw [h3]; exact val_rungOf_small 52 m j (by rw [show (2 : Nat) * 2 ^ 52 = 9007199254740992 by decide]; exact hm), h2⟩
end Go.Proofs.Ytelalledjbeenaa.Fl

namespace Go.Proofs.Ytelalledjbeenaa.Fl

theorem mant_step (a i : Nat) : 2 * (a / 2 ^ (i + 1)) + a / 2 ^ i % 2 = a / 2 ^ i := by
  rw [Nat.pow_succ, ← Nat.div_div_eq_div_mul]; omega
theorem low_succ (a i : Nat) : a % 2 ^ (i + 1) = 2 ^ i * (a / 2 ^ i % 2) + a % 2 ^ i := by
  rw [Nat.pow_succ, Nat.mod_mul]; omega
theorem low_step (a i : Nat) : a % 2 ^ (i + 1) = 0 ↔ (a % 2 ^ i = 0 ∧ a / 2 ^ i % 2 = 0) := by
  rw [low_succ]
  have h := Nat.two_pow_pos i
  rcases Nat.mod_two_eq_zero_or_one (a / 2 ^ i) with e | e <;> rw [e] <;> omega
theorem half_rhe (a l : Nat) : rhe a (2 ^ (l + 1)) = a / 2 ^ (l + 1) + (if a / 2 ^ l % 2 = 1 ∧ (a / 2 ^ (l + 1) % 2 = 1 ∨ a % 2 ^ l ≠ 0) then 1 else 0) := by
  unfold rhe
  have e := low_succ a l
  have h := Nat.two_pow_pos l
  have h2 := Nat.mod_lt a h
  rw [e]
  have e2 : 2 ^ (l + 1) = 2 * 2 ^ l := by rw [Nat.pow_succ]; omega
  congr 1
  rcases Nat.mod_two_eq_zero_or_one (a / 2 ^ l) with q | q
  · rw [q, if_neg (by omega), if_neg (by omega)]
  · rw [q]
    by_cases c : a / 2 ^ (l + 1) % 2 = 1 ∨ a % 2 ^ l ≠ 0
    · rw [if_pos (by omega), if_pos ⟨rfl, c⟩]
    · rw [if_neg (by omega), if_neg (by omega)]
/-- what is rounded once is rounded -/
theorem place_round (a : Nat) : rungOf 52 (rhe a (2 ^ (a.log2 - 52)) * 2 ^ (a.log2 - 52)) 0 = rungOf 52 a 0 := by
  rw [← val_round, rungOf_val]
end Go.Proofs.Ytelalledjbeenaa.Fl

namespace Go.Proofs.Ytelalledjbeenaa
open Go.RowKit Fl

/-- the place of what an Acc tells -/
def pV (s : AS) : Int :=
  if s.nan || (s.pos && s.neg) then 9223372036854775807 else if s.pos then 9218868437227405312 else if s.neg then -9218868437227405313
  else if s.z < 0 then -(rnd s.z.natAbs : Int) - 1 else if rnd s.z.natAbs = 0 ∧ s.any = false then -1 else (rnd s.z.natAbs : Int)
theorem c144 (w : World) : Calls Try.prog 144 #[] w fun e w' => e = .returned (.float .f64 QN) ∧ w = w' := by
  go_enter Try.func144, Try.ntmps144
  go_wp2_with (go_at_call 135; refine (c135 _).mono ?_; rintro e w' ⟨rfl, rfl⟩)
  go_ret
  exact ⟨rfl, rfl⟩
theorem c131 (w : World) : Calls Try.prog 131 #[] w fun e w' => e = .returned (.float .f64 9223372036854775808) ∧ w = w' := by
  go_enter Try.func131, Try.ntmps131
  go_wp2_with (go_at_call 175; refine (c175 0 13830554455654793216 _ (by unfold U; decide) (by unfold U; decide)).mono ?_; rintro e w' ⟨rfl, rfl⟩)
  go_ret
  exact ⟨ret_float (by decide), rfl⟩
def B2559 : Int := 2 ^ 2559
theorem sign_word (z : Int) (h1 : -B2559 ≤ z) (h2 : z < B2559) : (wd z 39 / 9223372036854775808 == 1) = decide (z < 0) := by
  unfold wd
  rw [show 64 * 39 = 2496 by rfl]
  have hP : B2559 = 9223372036854775808 * (2 : Int) ^ 2496 := by unfold B2559; rw [show (9223372036854775808 : Int) = 2 ^ 63 by rfl, ← Int.pow_add]
  have hp : (0 : Int) < 2 ^ 2496 := Int.pow_pos (by decide)
  rw [hP] at h1 h2
  generalize (2 : Int) ^ 2496 = p at *
  have hq2 : z / p < 9223372036854775808 := Int.ediv_lt_of_lt_mul hp h2
  have hq1 : -9223372036854775808 ≤ z / p := Int.le_ediv_of_mul_le hp (by omega)
  have hs : z / p < 0 ↔ z < 0 := ⟨fun h => by have := fun h0 : 0 ≤ z => Int.ediv_nonneg h0 (Int.le_of_lt hp); omega, fun h => Int.ediv_lt_of_lt_mul hp (by omega)⟩
  generalize z / p = q at *
  by_cases h0 : z < 0
  · have := hs.2 h0
    rw [decide_eq_true h0]; simp; omega
  · have : ¬ q < 0 := fun h => h0 (hs.1 h)
    rw [decide_eq_false h0]; simp; omega
theorem B2559_cap (n : Nat) (h : (n : Int) ≤ B2559) : n < 2 ^ (64 * CAP) := by
  have h2 : B2559 = ((2 ^ 2559 : Nat) : Int) := by unfold B2559; exact (Int.natCast_pow 2 2559).symm
  have h3 : n ≤ 2 ^ 2559 := by rw [h2] at h; exact Int.ofNat_le.1 h
  have h4 : ∀ k m : Nat, k < m → 2 ^ k < 2 ^ m := fun k m h => Nat.pow_lt_pow_right (by decide) h
  exact Nat.lt_of_le_of_lt h3 (h4 2559 (64 * CAP) (by rw [CAP_eq]; decide))
theorem wd_nn (z : Int) (i : Nat) : 0 ≤ wd z i := by unfold wd; exact Int.emod_nonneg _ (by decide)

theorem AS.boolsN (s : AS) (h : (s.nan || (s.pos && s.neg)) = true) : pV s = 9223372036854775807 := by unfold pV; rw [if_pos h]
set_option maxRecDepth 100000 in
set_option maxHeartbeats 1000000 in
theorem c39n (b : Nat) (s : AS) (w : World) (hs : AccAt w b s) (h : (s.nan || (s.pos && s.neg)) = true) :
    Calls Try.prog 39 #[.pointer (some ⟨b, 0, none⟩)] w fun e w' => RetF (pV s) e ∧ Below w.heap.size w w' := by
  rw [s.boolsN h]
  obtain ⟨_, k0, k1, k2, k3, f0, f1, f2, f3⟩ := hs
  obtain ⟨z, nan, pos, neg, any⟩ := s
  simp only at h k0 k1 k2 k3
  have hq : RetF 9223372036854775807 (.returned (.float .f64 QN)) := ⟨QN, rfl, by unfold U QN; decide, by decide⟩
  have H := Lib.hid hq
  clear hq
  cases nan <;> cases pos <;> cases neg <;> first | exact absurd h (by decide) | skip
  all_goals
    clear h
    go_enter Try.func39, Try.ntmps39
    go_wp2_with (go_at_call 144; refine (c144 _).mono ?_; rintro e w' ⟨rfl, rfl⟩)
    go_ret
    exact ⟨H.out, Below.refl _ _⟩
set_option maxRecDepth 100000 in
set_option maxHeartbeats 1000000 in
theorem c39i (b : Nat) (s : AS) (w : World) (hs : AccAt w b s) (h : (s.nan || (s.pos && s.neg)) = false) (h2 : (s.pos || s.neg) = true) :
    Calls Try.prog 39 #[.pointer (some ⟨b, 0, none⟩)] w fun e w' => RetF (pV s) e ∧ Below w.heap.size w w' := by
  obtain ⟨_, k0, k1, k2, k3, f0, f1, f2, f3⟩ := hs
  obtain ⟨z, nan, pos, neg, any⟩ := s
  simp only at h h2 k0 k1 k2 k3
  have hp : RetF 9218868437227405312 (.returned (.float .f64 9218868437227405312)) := ⟨_, rfl, by unfold U; decide, by decide⟩
  have hn : RetF (-9218868437227405313) (.returned (.float .f64 18442240474082181120)) := ⟨_, rfl, by unfold U; decide, by decide⟩
  have HP := Lib.hid hp
  have HN := Lib.hid hn
  clear hp hn
  cases nan <;> cases pos <;> cases neg <;> first | exact absurd h (by decide) | exact absurd h2 (by decide) | skip
  all_goals
    go_enter Try.func39, Try.ntmps39
    go_wp2_with (first | (go_at_call 137; refine (c137p _).mono ?_; rintro e w' ⟨rfl, rfl⟩) | (go_at_call 137; refine (c137n _).mono ?_; rintro e w' ⟨rfl, rfl⟩))
    go_ret
    first
    | exact ⟨HP.out, Below.refl _ _⟩
    | exact ⟨HN.out, Below.refl _ _⟩

theorem pl_small (r : Nat) (h : r ≤ INF) : pl r = (r : Int) := by
  have := pl_word false r h
  rw [if_neg (by decide)] at this
  exact this
theorem U_small {r : Nat} (h : r ≤ INF) : U r := by unfold U; unfold INF at h; omega
theorem eq_zero_false (r : Nat) (h : r ≤ INF) (h0 : r ≠ 0) : (FloatKind.f64.format.order r 0 == some Ordering.eq) = false := by
  rw [f_eq r 0 (U_small h) (by unfold U; decide), pl_small r h, pl_small 0 (by unfold INF; omega)]
  unfold feqP zk
  rw [if_neg (by omega), if_neg (by omega), decide_eq_false (show ¬ ((r : Int) = ((0 : Nat) : Int)) by omega), Bool.and_false]
theorem RetF_small (r : Nat) (h : r ≤ INF) : RetF (r : Int) (.returned (.float .f64 r)) := ⟨r, rfl, U_small h, pl_small r h⟩
theorem rnd_le_INF (n : Nat) : rnd n ≤ INF := by unfold rnd; exact Nat.min_le_right _ _
set_option maxRecDepth 100000 in
set_option maxHeartbeats 2000000 in
/-- not less than nought -/
theorem c39p (b n : Nat) (any : Bool) (w : World) (hs : AccAt w b ⟨(n : Int), false, false, false, any⟩) (hb : b < w.heap.size) (h2 : (n : Int) < B2559) :
    Calls Try.prog 39 #[.pointer (some ⟨b, 0, none⟩)] w fun e w' => RetF (pV ⟨(n : Int), false, false, false, any⟩) e ∧ Below w.heap.size w w' := by
  have hpv : pV ⟨(n : Int), false, false, false, any⟩ = if rnd n = 0 ∧ any = false then -1 else (rnd n : Int) := by
    unfold pV
    simp only [Bool.false_and, Bool.or_false, Bool.false_eq_true, if_false, Int.natAbs_natCast]
    rw [if_neg (by omega)]
  rw [hpv]
  obtain ⟨p, hp⟩ : ∃ p : Int, p = if rnd n = 0 ∧ any = false then -1 else (rnd n : Int) := ⟨_, rfl⟩
  rw [← hp]
  have HP := Lib.hid hp
  clear hp
  have HS := Lib.hid (sign_word (n : Int) (by unfold B2559 at *; have : (0:Int) ≤ 2 ^ 2559 := Int.le_of_lt (Int.pow_pos (by decide)); omega) h2)
  have HC := Lib.hid (B2559_cap n (by omega))
  have hr := rnd_le_INF n
  obtain ⟨hrow, k0, k1, k2, k3, f0, f1, f2, f3⟩ := hs
  simp only at hrow k0 k1 k2 k3
  obtain ⟨k39, _⟩ := hrow 39 (by omega)
  have HR := Lib.hid hrow
  have R1 := Lib.hid ((row_zero w).setAll (n : Int))
  have T1 : Hid ((w.alloc (.cells (Array.replicate 40 (.int .u64 0)) 138)).there w.heap.size 0 (WL (n : Int)).toArray.size) := Lib.hid ((row_zero w).there (by simp [WL_len]))
  have hi : (Try.prog.info? 138).map (·.size) = some (WL (n : Int)).toArray.size := by rw [size138]; simp [WL_len]
  have HI := Lib.hid hi
  have B1 := Lib.hid (below_setCells ((Below.refl w.heap.size w).alloc (Nat.le_refl _) (.cells (Array.replicate 40 (.int .u64 0)) 138)) (Nat.le_refl _) 0 (WL (n : Int)))
  have L1 : Hid (w.heap.size < ((w.alloc (.cells (Array.replicate 40 (.int .u64 0)) 138)).setCells w.heap.size 0 (WL (n : Int))).heap.size) := Lib.hid (by rw [size_setCells]; simp)
  have HB := Lib.hid hb
  have e0 : (wd (n : Int) 39 / 9223372036854775808 == 1) = false := by rw [HS.out]; exact decide_eq_false (by omega)
  clear h2 HS hi hpv
  have W39 : (0 : Int) ≤ wd (n : Int) 39 := wd_nn _ _
  generalize wd (n : Int) 39 = q at *
  go_enter Try.func39, Try.ntmps39
  go_upto_region 8 with fail
  go_cut [4] (fun p wx => p = .pointer (some ⟨w.heap.size, 0, none⟩) ∧ Hid (Row wx w.heap.size (wd (n : Int))) ∧ Hid (Below w.heap.size w wx) ∧ Hid (w.heap.size < wx.heap.size))
  case first =>
    go_wp2_with (first
      | (refine wpList_load_mid rfl 138 (.tmp 45) rfl b 0 rfl (WL (n : Int)) _ HR.out.range Try.underlying138 rfl (len138 _) ?_)
      | (refine wpList_store_mid rfl 138 (.tmp 4) (.tmp 46) rfl w.heap.size 0 (WL (n : Int)).toArray rfl rfl T1.out HI.out (WL_one _) ?_))
    go_meet
    exact ⟨rfl, R1, B1, L1⟩
  case rest =>
    obtain ⟨rfl, hR, hB, hL⟩ := hcut
    clear R1 B1 L1 T1 HI HR
    go_wp2_with (first
      | (refine wpList_load_mid rfl 138 (.tmp 4) rfl w.heap.size 0 rfl (WL (n : Int)) _ hR.out.range Try.underlying138 rfl (len138 _) ?_)
      | (go_at_call 145; fail))
    refine (c145 n _ HC.out).mono ?_
    rintro e w2 ⟨rfl, hb2⟩
    have B2 := Lib.hid (hB.out.trans (hb2.mono hB.out.size))
    have k3' : w2.cell? ⟨b, 43, none⟩ = some (.bool any) := (B2.out.cell (p := ⟨b, 43, none⟩) HB.out).trans k3
    have f3' : w2.frozen? ⟨b, 43, none⟩ = false := (B2.out.frozen (p := ⟨b, 43, none⟩) HB.out).trans f3
    clear k3 f3 k0 k1 k2 f0 f1 f2 hb2 hB hR hL k39 e0 W39
    generalize rnd n = r at *
    by_cases h0 : r = 0
    · subst h0
      have e1 : (FloatKind.f64.format.order 0 0 == some Ordering.eq) = true := by decide
      clear hr
      cases any
      · have F2 : Hid (RetF p (.returned (.float .f64 9223372036854775808))) := Lib.hid ⟨_, rfl, by unfold U; decide, by rw [HP.out, if_pos ⟨rfl, rfl⟩]; decide⟩
        clear HP
        go_wp2_with (go_at_call 131; refine (c131 _).mono ?_; rintro e w' ⟨rfl, rfl⟩)
        go_ret
        exact ⟨F2.out, B2.out⟩
      · have F2 : Hid (RetF p (.returned (.float .f64 0))) := Lib.hid ⟨_, rfl, by unfold U; decide, by rw [HP.out, if_neg (by decide)]; decide⟩
        clear HP
        go_wp2
        go_ret
        exact ⟨F2.out, B2.out⟩
    · have e1 := eq_zero_false r hr h0
      have F2 : Hid (RetF p (.returned (.float .f64 r))) := Lib.hid (by rw [HP.out, if_neg (fun h => h0 h.1)]; exact RetF_small r hr)
      clear hr h0 HP
      go_wp2
      go_ret
      exact ⟨F2.out, B2.out⟩

end Go.Proofs.Ytelalledjbeenaa
