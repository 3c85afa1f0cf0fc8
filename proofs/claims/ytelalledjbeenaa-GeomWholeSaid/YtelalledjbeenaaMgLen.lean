/- How many bits a word has: the library's Len64 and the reference's Length. Rounding as the reference does it: Drop, Near, Nearest. -/
import Derived.Test.YtelalledjbeenaaBits
import Derived.Test.YtelalledjbeenaaLenA
namespace Go.Proofs.Ytelalledjbeenaa
open Go.RowKit Fl
def blen (m : Nat) : Nat := if m = 0 then 0 else m.log2 + 1
theorem blen_half (q : Nat) (h : 0 < q) : blen q = blen (q / 2) + 1 := by
  unfold blen
  rw [if_neg (by omega)]
  by_cases c : q / 2 = 0
  · rw [if_pos c, show q = 1 by omega]; rfl
  · rw [if_neg c]
    have h2 : 2 ≤ q := by omega
    rw [Nat.log2_def q, if_pos h2]
theorem blen_lt (q k : Nat) (h : q < 2 ^ k) : blen q ≤ k := by
  unfold blen
  split
  · omega
  · rename_i c; have := (Nat.log2_lt c (k := k)).2 h; omega
theorem lt_blen (q : Nat) : q < 2 ^ blen q := by
  unfold blen
  split
  · rename_i c; rw [c]; decide
  · exact Nat.lt_log2_self
theorem le_blen (q : Nat) (h : 0 < q) : 2 ^ (blen q - 1) ≤ q := by
  unfold blen
  rw [if_neg (by omega), Nat.add_sub_cancel]
  exact Nat.log2_self_le (by omega)
set_option maxRecDepth 100000 in
theorem c182 (m : Nat) (w : World) (h : U m) : Calls Try.prog 182 #[.int .u64 m] w fun e w' => e = .returned (.int .i64 (blen m)) ∧ w = w' := by
  have hb : blen m ≤ 64 := blen_lt m 64 h
  go_enter Try.func182, Try.ntmps182
  go_wp2
  go_loop [0, 3] (fun t n => ∃ q k : Nat, k ≤ 64 ∧ t = .int .u64 q ∧ n = .int .i64 k ∧ Hid (k + blen q = blen m)) (fun t _ => (intOf t).toNat)
  case atStart => exact ⟨m, 0, by omega, rfl, rfl, Lib.hid (by omega)⟩
  case round =>
    obtain ⟨q, k, hk, rfl, rfl, he⟩ := hrel
    by_cases hq : 0 < q
    · have hh := blen_half q hq
      have he' := he.out
      have hk' : k ≤ 63 := by omega
      have H : Hid (k + 1 + blen (q / 2) = blen m) := Lib.hid (by omega)
      clear hh he' he hb
      go_wp2
      go_round
      case rel => exact ⟨q / 2, k + 1, by omega, by go_num, by go_num, H⟩
      case measure => simp [intOf]; omega
    · have hq0 : q = 0 := by omega
      subst hq0
      have he' := he.out
      have hz : blen 0 = 0 := rfl
      have H := Lib.hid (show k = blen m by omega)
      clear he' hz he
      go_wp2
      go_ret
      exact ⟨ret_int (by rw [H.out]), rfl⟩
theorem blen_eq : ∀ (k x : Nat), x < 2 ^ k → k ≤ 64 → Lib.bitLen x = blen x
  | 0, x, h, _ => by
    have : x = 0 := by simpa using h
    subst this; decide
  | k + 1, x, h, hk => by
    by_cases h0 : x = 0
    · subst h0; decide
    · have hx : x < 2 ^ 64 := Nat.lt_of_lt_of_le h (Nat.pow_le_pow_right (by omega) hk)
      rw [Lib.bitLen_half x h0 hx, blen_half x (by omega), blen_eq k (x / 2) (by rw [Nat.pow_succ] at h; omega) (by omega)]
      omega
theorem c176 (m : Nat) (w : World) (h : U m) : Calls Try.prog 176 #[.int .u64 m] w fun e w' => e = .returned (.int .i64 (blen m)) ∧ w = w' := by
  have hl := h.lt
  have := len64_any m w (by omega) (by omega)
  rw [Int.toNat_natCast, blen_eq 64 m hl (by omega)] at this
  exact this
end Go.Proofs.Ytelalledjbeenaa

namespace Go.Proofs.Ytelalledjbeenaa
open Go.RowKit Fl

theorem two_half (s : Nat) (h : 1 ≤ s) : 2 ^ s = 2 * 2 ^ (s - 1) := by rw [← Nat.pow_succ']; congr 1; omega

theorem ret_u64 {a b : Nat} (h : a = b) : Ending.returned (.int .u64 (a : Int)) = .returned (.int .u64 (b : Int)) := by rw [h]

theorem dr0 (m s : Nat) (h : U m) : IntKind.u64.wrap (((m / 2 ^ s : Nat) : Int) * 2 ^ s) = ((m / 2 ^ s * 2 ^ s : Nat) : Int) := by
  have hm := h.lt
  have h1 : m / 2 ^ s * 2 ^ s ≤ m := Nat.div_mul_le_self _ _
  have h2 : ((m / 2 ^ s : Nat) : Int) * 2 ^ s = ((m / 2 ^ s * 2 ^ s : Nat) : Int) := by rw [Int.natCast_mul]; push_cast; rfl
  rw [h2, IntKind.wrap_u64]
  generalize m / 2 ^ s * 2 ^ s = t at *
  omega
theorem dr1 (m s : Nat) (h : U m) : IntKind.u64.wrap ((m : Int) - IntKind.u64.wrap (((m / 2 ^ s : Nat) : Int) * 2 ^ s)) = ((m % 2 ^ s : Nat) : Int) := by
  rw [dr0 m s h, IntKind.wrap_u64]
  have hm := h.lt
  have h1 := Nat.div_add_mod m (2 ^ s)
  rw [Nat.mul_comm] at h1
  generalize m / 2 ^ s * 2 ^ s = t at *
  generalize m % 2 ^ s = r at *
  omega
theorem dr2 (s : Nat) (h : s < 64) : IntKind.u64.wrap (2 ^ s) = ((2 ^ s : Nat) : Int) := by
  have h1 : 2 ^ s ≤ 2 ^ 63 := Nat.pow_le_pow_right (by omega) (by omega)
  have h2 : (2 : Int) ^ s = ((2 ^ s : Nat) : Int) := by push_cast; rfl
  rw [h2, IntKind.wrap_u64]
  generalize 2 ^ s = t at *
  omega
theorem dr4 (q : Nat) : ((q : Int) % 2 == 1) = decide (q % 2 = 1) := by
  rw [Bool.eq_iff_iff]; simp; omega
theorem dr5 (m s : Nat) (h : U m) (h1 : 1 ≤ s) : IntKind.u64.wrap (((m / 2 ^ s : Nat) : Int) + 1) = ((m / 2 ^ s + 1 : Nat) : Int) := by
  have hm := h.lt
  have h2 : m / 2 ^ s ≤ m / 2 := Nat.div_le_div_left (by rw [two_half s h1]; have := Nat.two_pow_pos (s - 1); omega) (by omega)
  rw [IntKind.wrap_u64]
  generalize m / 2 ^ s = q at *
  omega
theorem dr3 (m s : Nat) : ((m : Int) / 2 ^ s) = ((m / 2 ^ s : Nat) : Int) := by push_cast; rfl

set_option maxRecDepth 100000 in
theorem c151a (m s : Nat) (w : World) (h : U m) (h1 : 1 ≤ s) (h2 : s < 64) : Calls Try.prog 151 #[.int .u64 m, .int .i64 s] w fun e w' => e = .returned (.int .u64 (rhe m (2 ^ s))) ∧ w = w' := by
  have hg := two_half s h1
  have hr : rhe m (2 ^ s) = m / 2 ^ s + (if 2 ^ s < 2 * (m % 2 ^ s) ∨ (2 ^ s = 2 * (m % 2 ^ s) ∧ m / 2 ^ s % 2 = 1) then 1 else 0) := rfl
  have e3 := dr3 m s
  have e1 := dr1 m s h
  have e2 := dr2 (s - 1) (by omega)
  have e4 := dr4 (m / 2 ^ s)
  have e5 := dr5 m s h h1
  rw [hr]
  clear hr
  generalize m / 2 ^ s = q at *
  generalize m % 2 ^ s = r at *
  rw [hg]
  clear hg
  generalize 2 ^ (s - 1) = H at *
  by_cases c1 : H < r
  · have d1 : ((H : Int) < (r : Int)) := by omega
    rw [if_pos (by omega)]
    clear e4
    go_enter Try.func151, Try.ntmps151
    go_wp2
    go_ret
    exact ⟨ret_int (by omega), rfl⟩
  · by_cases c3 : r = H
    · by_cases c2 : q % 2 = 1
      · rw [if_pos (by omega)]
        rw [decide_eq_true c2] at e4
        subst c3
        clear c2
        go_enter Try.func151, Try.ntmps151
        go_wp2
        go_ret
        exact ⟨ret_int (by omega), rfl⟩
      · rw [if_neg (by omega)]
        rw [decide_eq_false c2] at e4
        subst c3
        clear c2 e5
        go_enter Try.func151, Try.ntmps151
        go_wp2
        go_ret
        exact ⟨rfl, rfl⟩
    · rw [if_neg (by omega)]
      have d1 : ¬ ((H : Int) < (r : Int)) := by omega
      have d2 : ((r : Int) == (H : Int)) = false := by simp; omega
      have d4 : ¬ ((r : Int) = (H : Int)) := by omega
      clear e5 e4
      go_enter Try.func151, Try.ntmps151
      go_wp2
      go_ret
      exact ⟨rfl, rfl⟩
set_option maxRecDepth 100000 in
theorem c151b (m : Nat) (w : World) (h : U m) : Calls Try.prog 151 #[.int .u64 m, .int .i64 64] w fun e w' => e = .returned (.int .u64 (rhe m (2 ^ 64))) ∧ w = w' := by
  have hm := h.lt
  by_cases c : 9223372036854775808 < m
  · have hr : rhe m (2 ^ 64) = 1 := by
      unfold rhe
      rw [Nat.div_eq_of_lt hm, Nat.mod_eq_of_lt hm, if_pos (by omega)]
    have d : (9223372036854775808 : Int) < (m : Int) := by omega
    rw [hr]
    clear hr hm c
    go_enter Try.func151, Try.ntmps151
    go_wp2
    go_ret
    exact ⟨rfl, rfl⟩
  · have hr : rhe m (2 ^ 64) = 0 := by
      unfold rhe
      rw [Nat.div_eq_of_lt hm, Nat.mod_eq_of_lt hm, if_neg (by omega)]
    have d : ¬ (9223372036854775808 : Int) < (m : Int) := by omega
    rw [hr]
    clear hr hm c
    by_cases c2 : m = 9223372036854775808
    · subst c2
      go_enter Try.func151, Try.ntmps151
      go_wp2
      go_ret
      exact ⟨rfl, rfl⟩
    · have d2 : ((m : Int) == 9223372036854775808) = false := by simp; omega
      go_enter Try.func151, Try.ntmps151
      go_wp2
      go_ret
      exact ⟨rfl, rfl⟩
set_option maxRecDepth 100000 in
theorem c151c (m : Nat) (s : Int) (w : World) (h : U m) (h1 : 64 < s) : Calls Try.prog 151 #[.int .u64 m, .int .i64 s] w fun e w' => e = .returned (.int .u64 (rhe m (2 ^ s.toNat))) ∧ w = w' := by
  have hr : rhe m (2 ^ s.toNat) = 0 := by
    refine rhe_small _ _ ?_
    have hm := h.lt
    have : 2 ^ 65 ≤ 2 ^ s.toNat := Nat.pow_le_pow_right (by omega) (by omega)
    generalize 2 ^ s.toNat = t at *
    omega
  rw [hr]
  clear hr
  go_enter Try.func151, Try.ntmps151
  go_wp2
  go_ret
  exact ⟨rfl, rfl⟩
/-- Drop: m / 2^s to the nearest. -/
theorem c151 (m : Nat) (s : Int) (w : World) (h : U m) (h1 : 1 ≤ s) : Calls Try.prog 151 #[.int .u64 m, .int .i64 s] w fun e w' => e = .returned (.int .u64 (rhe m (2 ^ s.toNat))) ∧ w = w' := by
  rcases Int.lt_trichotomy s 64 with c | c | c
  · obtain ⟨k, rfl⟩ := Int.eq_ofNat_of_zero_le (show 0 ≤ s by omega)
    rw [Int.toNat_natCast]
    exact c151a m k w h (by omega) (by omega)
  · subst c; exact c151b m w h
  · exact c151c m s w h c

/-- The rung nearest to m 2^p. -/
def near (m : Nat) (p : Int) : Nat := rungOf 52 (m * 2 ^ (p + 1074).toNat) (-1074 - p).toNat

theorem near_core (m : Nat) (p : Int) (h0 : 0 < m) (E : Int) (hE : E = max ((m.log2 : Int) + 1 + p - 53) (-1074)) :
    near m p = (E + 1074).toNat * 2 ^ 52 + rhe (m * 2 ^ (p - E).toNat) (2 ^ (E - p).toNat) ∧ rhe (m * 2 ^ (p - E).toNat) (2 ^ (E - p).toNat) ≤ 2 * 2 ^ 52 ∧ (E = -1074 ∨ 2 ^ 52 ≤ rhe (m * 2 ^ (p - E).toNat) (2 ^ (E - p).toNat)) := by
  have hm : m ≠ 0 := by omega
  have l1 := Nat.log2_self_le hm
  have l2 : m < 2 ^ (m.log2 + 1) := Nat.lt_log2_self
  refine ⟨?_, ?_, ?_⟩
  · unfold near rungOf
    rw [log2_mul_pow m _ hm]
    have e1 : m.log2 + (p + 1074).toNat - 52 - (-1074 - p).toNat = (E + 1074).toNat := by omega
    rw [e1]
    refine congrArg (fun r => (E + 1074).toNat * 2 ^ 52 + r) ?_
    have e2 : (p + 1074).toNat + (E - p).toNat = (p - E).toNat + ((-1074 - p).toNat + (E + 1074).toNat) := by omega
    rcases Int.le_total E p with h | h
    · -- the shift is to the left
      have a1 : (E - p).toNat = 0 := by omega
      have a2 : (-1074 - p).toNat = 0 := by omega
      have a3 : (p + 1074).toNat = (p - E).toNat + (E + 1074).toNat := by omega
      rw [a1, a2, a3, Nat.pow_zero, rhe_one, Nat.zero_add, Nat.pow_add, ← Nat.mul_assoc, rhe_exact _ _ (Nat.two_pow_pos _)]
    · have a1 : (p - E).toNat = 0 := by omega
      have a2 : (-1074 - p).toNat + (E + 1074).toNat = (E - p).toNat + (p + 1074).toNat := by omega
      rw [a1, a2, Nat.pow_zero, Nat.mul_one, Nat.pow_add, rhe_mul _ _ _ (Nat.two_pow_pos _)]
  · refine rhe_le_of _ _ _ (Nat.two_pow_pos _) ?_
    rw [show (2 * 2 ^ 52 : Nat) = 2 ^ 53 from by decide, ← Nat.pow_add]
    have h3 : m * 2 ^ (p - E).toNat < 2 ^ (m.log2 + 1) * 2 ^ (p - E).toNat := Nat.mul_lt_mul_of_pos_right l2 (Nat.two_pow_pos _)
    rw [← Nat.pow_add] at h3
    have h4 : 2 ^ (m.log2 + 1 + (p - E).toNat) ≤ 2 ^ ((E - p).toNat + 53) := Nat.pow_le_pow_right (by omega) (by omega)
    omega
  · rcases Int.lt_or_le (-1074) E with h | h
    · right
      refine rhe_ge_of _ _ _ (Nat.two_pow_pos _) ?_
      rw [← Nat.pow_add]
      have h3 : 2 ^ m.log2 * 2 ^ (p - E).toNat ≤ m * 2 ^ (p - E).toNat := Nat.mul_le_mul_right _ l1
      rw [← Nat.pow_add] at h3
      have h4 : 2 ^ ((E - p).toNat + 52) ≤ 2 ^ (m.log2 + (p - E).toNat) := Nat.pow_le_pow_right (by omega) (by omega)
      omega
    · left; omega

theorem near_shl0 (m : Nat) (p : Int) (_h0 : 0 < m) (E : Int) (hE : E = max ((m.log2 : Int) + 1 + p - 53) (-1074)) (h : E ≤ p) : m * 2 ^ (p - E).toNat < 9007199254740992 := by
  have l2 : m < 2 ^ (m.log2 + 1) := Nat.lt_log2_self
  have h3 : m * 2 ^ (p - E).toNat < 2 ^ (m.log2 + 1) * 2 ^ (p - E).toNat := Nat.mul_lt_mul_of_pos_right l2 (Nat.two_pow_pos _)
  rw [← Nat.pow_add] at h3
  have h4 : 2 ^ (m.log2 + 1 + (p - E).toNat) ≤ 2 ^ 53 := Nat.pow_le_pow_right (by omega) (by omega)
  rw [show (2 ^ 53 : Nat) = 9007199254740992 from by decide] at h4
  omega
theorem blen_pos (m : Nat) (h : 0 < m) : (blen m : Int) = (m.log2 : Int) + 1 := by
  unfold blen; rw [if_neg (by omega)]; omega

theorem near_shl (m : Nat) (p : Int) (h0 : 0 < m) (h : max ((blen m : Int) + p - 53) (-1074) ≤ p) : m * 2 ^ (p - max ((blen m : Int) + p - 53) (-1074)).toNat < 9007199254740992 :=
  near_shl0 m p h0 _ (by rw [blen_pos m h0]) h
theorem near_carry (a : Nat) (E : Int) (h : -1074 ≤ E) (h1 : a = (E + 1074).toNat * 4503599627370496 + 9007199254740992) : a = (E + 1 + 1074).toNat * 4503599627370496 + 4503599627370496 := by
  have e : (E + 1 + 1074).toNat = (E + 1074).toNat + 1 := by omega
  rw [e]
  generalize (E + 1074).toNat = t at *
  omega
/-- What Near gives: a significand of at most 53 bits at a place; together they are the rung. -/
def NearP (m : Nat) (p : Int) (e : Ending) : Prop := ∃ q K : Nat, e = .returned (.tuple #[.int .u64 q, .int .i64 ((K : Int) - 1074)]) ∧
  q < 9007199254740992 ∧ (K = 0 ∨ 4503599627370496 ≤ q) ∧ near m p = K * 4503599627370496 + q ∧ K ≤ 7200

theorem nearP_mk (m : Nat) (p : Int) (q : Nat) (E : Int) (hE : -1074 ≤ E) (hE2 : E ≤ 6126) (h1 : q < 9007199254740992) (h2 : E = -1074 ∨ 4503599627370496 ≤ q) (h3 : near m p = (E + 1074).toNat * 4503599627370496 + q) :
    NearP m p (.returned (.tuple #[.int .u64 q, .int .i64 E])) :=
  ⟨q, (E + 1074).toNat, by rw [show (((E + 1074).toNat : Nat) : Int) - 1074 = E by omega], h1, by omega, h3, by omega⟩

theorem shl_near (m j : Nat) (h : m * 2 ^ j < 9007199254740992) : IntKind.u64.wrap ((m : Int) * 2 ^ j) = ((m * 2 ^ j : Nat) : Int) := by
  have e : (m : Int) * 2 ^ j = ((m * 2 ^ j : Nat) : Int) := by rw [Int.natCast_mul]; push_cast; rfl
  rw [e, IntKind.wrap_u64]
  generalize m * 2 ^ j = t at *
  omega

set_option maxRecDepth 100000 in
theorem c150 (m : Nat) (p : Int) (w : World) (h : U m) (h0 : 0 < m) (h1 : -6000 ≤ p) (h2 : p ≤ 6000) :
    Calls Try.prog 150 #[.int .u64 m, .int .i64 p, .int .i64 53, .int .i64 (-1074)] w fun e w' => NearP m p e ∧ w = w' := by
  have hb : blen m ≤ 64 := blen_lt m 64 h
  have hbp := blen_pos m h0
  obtain ⟨n1, n2, n3⟩ := near_core m p h0 (max ((blen m : Int) + p - 53) (-1074)) (by rw [hbp])
  rw [show (2 ^ 52 : Nat) = 4503599627370496 from by decide] at n1 n2 n3
  clear hbp
  have lo : -1074 ≤ max ((blen m : Int) + p - 53) (-1074) := by omega
  have hi : max ((blen m : Int) + p - 53) (-1074) ≤ 6020 := by omega
  by_cases c : max ((blen m : Int) + p - 53) (-1074) ≤ p
  · rw [show (max ((blen m : Int) + p - 53) (-1074) - p).toNat = 0 by omega, Nat.pow_zero, rhe_one] at n1 n2 n3
    have hq := near_shl m p h0 c
    have e1 := shl_near m _ hq
    have N1 := Lib.hid n1
    clear n1 n2
    go_enter Try.func150, Try.ntmps150
    go_wp2_with (go_at_call 182; refine (c182 _ _ (by assumption)).mono ?_; rintro e w' ⟨rfl, rfl⟩)
    go_ret2
    exact ⟨nearP_mk _ _ _ _ lo (by omega) hq n3 N1.out, rfl⟩
  · have hs : 1 ≤ max ((blen m : Int) + p - 53) (-1074) - p := by omega
    rw [show (p - max ((blen m : Int) + p - 53) (-1074)).toNat = 0 by omega, Nat.pow_zero, Nat.mul_one] at n1 n2 n3
    by_cases c2 : rhe m (2 ^ (max ((blen m : Int) + p - 53) (-1074) - p).toNat) = 9007199254740992
    · rw [c2] at n1
      have hfin : NearP m p (.returned (.tuple #[.int .u64 4503599627370496, .int .i64 (max ((blen m : Int) + p - 53) (-1074) + 1)])) :=
        nearP_mk m p 4503599627370496 _ (by omega) (by omega) (by decide) (.inr (Nat.le_refl _)) (near_carry _ _ lo n1)
      have N1 := Lib.hid hfin
      have e2 : ((rhe m (2 ^ (max ((blen m : Int) + p - 53) (-1074) - p).toNat) : Nat) : Int) = 9007199254740992 := by omega
      clear n1 n2 n3 hfin c2
      go_enter Try.func150, Try.ntmps150
      go_wp2_with (first | (go_at_call 182; refine (c182 _ _ (by assumption)).mono ?_; rintro e w' ⟨rfl, rfl⟩) | (go_at_call 151; refine (c151 _ _ _ (by assumption) (by omega)).mono ?_; rintro e w' ⟨rfl, rfl⟩))
      go_ret2
      exact ⟨N1.out, rfl⟩
    · have e2 : (((rhe m (2 ^ (max ((blen m : Int) + p - 53) (-1074) - p).toNat) : Nat) : Int) == 9007199254740992) = false := by simp; omega
      have hfin := nearP_mk m p (rhe m (2 ^ (max ((blen m : Int) + p - 53) (-1074) - p).toNat)) _ lo (by omega) (by omega) n3 n1
      have N1 := Lib.hid hfin
      clear n1 n2 n3 hfin c2
      go_enter Try.func150, Try.ntmps150
      go_wp2_with (first | (go_at_call 182; refine (c182 _ _ (by assumption)).mono ?_; rintro e w' ⟨rfl, rfl⟩) | (go_at_call 151; refine (c151 _ _ _ (by assumption) (by omega)).mono ?_; rintro e w' ⟨rfl, rfl⟩))
      go_ret2
      exact ⟨N1.out, rfl⟩

theorem near_zero (p : Int) : near 0 p = 0 := by unfold near; rw [Nat.zero_mul, rungOf_zero]
theorem near_small (m : Nat) (p : Int) (h : U m) (hp : p ≤ -1139) : near m p = 0 := by
  have hm := h.lt
  unfold near rungOf
  rw [show (p + 1074).toNat = 0 by omega, Nat.pow_zero, Nat.mul_one]
  have hl : m.log2 ≤ 63 := by
    by_cases h0 : m = 0
    · subst h0; decide
    · have := (Nat.log2_lt h0 (k := 64)).2 h; omega
  rw [show m.log2 - 52 - (-1074 - p).toNat = 0 by omega, Nat.zero_mul, Nat.zero_add]
  refine rhe_small _ _ ?_
  have : 2 ^ 65 ≤ 2 ^ ((-1074 - p).toNat + 0) := Nat.pow_le_pow_right (by omega) (by omega)
  generalize 2 ^ ((-1074 - p).toNat + 0) = t at *
  omega
theorem near_great (m : Nat) (p : Int) (h : 0 < m) (hp : 1024 ≤ p) : INF ≤ near m p := by
  obtain ⟨n1, n2, n3⟩ := near_core m p h _ rfl
  rw [n1]
  have e : 2046 ≤ (max ((m.log2 : Int) + 1 + p - 53) (-1074) + 1074).toNat := by omega
  have e2 : 2046 * 2 ^ 52 ≤ (max ((m.log2 : Int) + 1 + p - 53) (-1074) + 1074).toNat * 2 ^ 52 := Nat.mul_le_mul_right _ e
  have e3 := n3.resolve_left (by omega)
  rw [show INF = 2046 * 2 ^ 52 + 2 ^ 52 from by decide]
  exact Nat.add_le_add e2 e3
def nearW (neg : Bool) (m : Nat) (p : Int) : Nat := word neg (min (near m p) INF)

theorem b_join (K q : Nat) (hK : K ≤ 2045) (h1 : 4503599627370496 ≤ q) (h2 : q < 9007199254740992) :
    bits .or .u64 (((K : Int) - 1074 + 1075) * 4503599627370496) (bits .and .u64 (q : Int) 4503599627370495) = ((K * 4503599627370496 + q : Nat) : Int) := by
  have e1 : ((K : Int) - 1074 + 1075) * 4503599627370496 = (((K + 1) * 4503599627370496 : Nat) : Int) := by omega
  rw [e1, b_frac q (by unfold U; omega), u64_or_nat _ _ (by omega) (by omega)]
  have hj : (K + 1) * 4503599627370496 ||| q % 4503599627370496 = (K + 1) * 4503599627370496 + q % 4503599627370496 := nat_join 52 ((K + 1) * 4503599627370496) (q % 4503599627370496) (by omega) (by omega)
  rw [hj]
  omega

set_option maxRecDepth 100000 in
theorem c141 (neg : Bool) (m : Nat) (p : Int) (w : World) (h : U m) : Calls Try.prog 141 #[.bool neg, .int .u64 m, .int .i64 p] w fun e w' => e = .returned (.float .f64 (nearW neg m p)) ∧ w = w' := by
  by_cases h0 : m = 0
  · subst h0
    have e : nearW neg 0 p = word neg 0 := by unfold nearW; rw [near_zero]; rfl
    rw [e]
    go_enter Try.func141, Try.ntmps141
    go_wp2_with (go_at_call 140; refine (c140 0 _ _ (by decide)).mono ?_; rintro e w' ⟨rfl, rfl⟩)
    go_ret
    exact ⟨rfl, rfl⟩
  have hm0 : ((m : Int) == 0) = false := by simp; omega
  by_cases c1 : p < -6000
  · have e : nearW neg m p = word neg 0 := by unfold nearW; rw [near_small m p h (by omega)]; rfl
    rw [e]
    go_enter Try.func141, Try.ntmps141
    go_wp2_with (go_at_call 140; refine (c140 0 _ _ (by decide)).mono ?_; rintro e w' ⟨rfl, rfl⟩)
    go_ret
    exact ⟨rfl, rfl⟩
  by_cases c2 : 6000 < p
  · have e : nearW neg m p = word neg 9218868437227405312 := by
      have := near_great m p (by omega) (by omega)
      unfold nearW; rw [Nat.min_eq_right this]; rfl
    rw [e]
    go_enter Try.func141, Try.ntmps141
    go_wp2_with (go_at_call 140; refine (c140 9218868437227405312 _ _ (by decide)).mono ?_; rintro e w' ⟨rfl, rfl⟩)
    go_ret
    exact ⟨rfl, rfl⟩
  unfold nearW
  go_enter Try.func141, Try.ntmps141
  go_wp2_with (go_at_call 150; fail)
  refine (c150 m p _ h (by omega) (by omega) (by omega)).mono ?_
  rintro e w' ⟨⟨q, K, rfl, hq, hK, hn, hk⟩, rfl⟩
  by_cases d1 : q < 4503599627370496
  · have hK0 : K = 0 := by omega
    subst hK0
    have H : Hid (min (near m p) INF = q) := by
      have : min (near m p) INF = q := by unfold INF; omega
      exact Lib.hid this
    have d1' : (q : Int) < 4503599627370496 := by omega
    have hql : q < 9223372036854775808 := by omega
    have HL := Lib.hid hql
    clear hn hK hq d1 hk hql
    go_wp2_with (go_at_call 140; refine (c140 q _ _ HL.out).mono ?_; rintro e w' ⟨rfl, rfl⟩)
    go_ret
    exact ⟨ret_float (by rw [H.out]), rfl⟩
  · by_cases d2 : 2045 < K
    · have H : Hid (min (near m p) INF = 9218868437227405312) := by
        have : min (near m p) INF = 9218868437227405312 := by unfold INF; omega
        exact Lib.hid this
      have d1' : decide ((q : Int) < 4503599627370496) = false := by simp; omega
      have d2' : decide ((971 : Int) < (K : Int) - 1074) = true := by simp; omega
      clear hn hK hq d1 d2 hk
      go_wp2_with (go_at_call 140; refine (c140 9218868437227405312 _ _ (by decide)).mono ?_; rintro e w' ⟨rfl, rfl⟩)
      go_ret
      exact ⟨ret_float (by rw [H.out]), rfl⟩
    · have H : Hid (min (near m p) INF = K * 4503599627370496 + q) := by
        have : min (near m p) INF = K * 4503599627370496 + q := by unfold INF; omega
        exact Lib.hid this
      have hb := b_join K q (by omega) (by omega) hq
      have hl : K * 4503599627370496 + q < 9223372036854775808 := by omega
      have d1' : decide ((q : Int) < 4503599627370496) = false := by simp; omega
      have d2' : decide ((971 : Int) < (K : Int) - 1074) = false := by simp; omega
      have d3' : (K : Int) ≤ 2045 := by omega
      generalize K * 4503599627370496 + q = R at *
      have HL := Lib.hid hl
      clear hn hK hq d1 d2 hk hl
      go_wp2_with (go_at_call 140; refine (c140 R _ _ HL.out).mono ?_; rintro e w' ⟨rfl, rfl⟩)
      go_ret
      exact ⟨ret_float (by rw [H.out]), rfl⟩
end Go.Proofs.Ytelalledjbeenaa
