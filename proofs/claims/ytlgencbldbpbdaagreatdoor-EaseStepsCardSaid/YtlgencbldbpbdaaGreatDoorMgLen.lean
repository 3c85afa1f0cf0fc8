/- How many bits a word has: the library's Len64 and the reference's Length. Rounding as the reference does it: Drop, Near, Nearest. -/
import Derived.Test.YtlgencbldbpbdaaGreatDoorMgBase
import Derived.Test.YtlgencbldbpbdaaGreatDoorLenA
namespace Go.Proofs.YtlgencbldbpbdaaGreatDoor
open Go.RowKit Fl
def blen (m : Nat) : Nat := if m = 0 then 0 else m.log2 + 1
theorem blen_half (q : Nat) (h : 0 < q) : blen q = blen (q / 2) + 1 := by
  unfold blen
  rw [if_neg (by omega)]
  by_cases c : q / 2 = 0
  · rw [if_pos c, show q = 1 by omega]; rfl
  · rw [if_neg c]
    have h2 : 2 ≤ q := by omega
    rw [Nat.log2_def q, if_pos h2]
theorem blen_lt (q k : Nat) (h : q < 2 ^ k) : blen q ≤ k := by
  unfold blen
  split
  · omega
  · rename_i c; have := (Nat.log2_lt c (k := k)).2 h; omega
theorem lt_blen (q : Nat) : q < 2 ^ blen q := by
  unfold blen
  split
  · rename_i c; rw [c]; decide
  · exact Nat.lt_log2_self
theorem le_blen (q : Nat) (h : 0 < q) : 2 ^ (blen q - 1) ≤ q := by
  unfold blen
  rw [if_neg (by omega), Nat.add_sub_cancel]
  exact Nat.log2_self_le (by omega)
theorem blen_eq : ∀ (k x : Nat), x < 2 ^ k → k ≤ 64 → Lib.bitLen x = blen x
  | 0, x, h, _ => by
    have : x = 0 := by simpa using h
    subst this; decide
  | k + 1, x, h, hk => by
    by_cases h0 : x = 0
    · subst h0; decide
    · have hx : x < 2 ^ 64 := Nat.lt_of_lt_of_le h (Nat.pow_le_pow_right (by omega) hk)
      rw [Lib.bitLen_half x h0 hx, blen_half x (by omega), blen_eq k (x / 2) (by rw [Nat.pow_succ] at h; omega) (by omega)]
      omega
theorem c176 (m : Nat) (w : World) (h : U m) : Calls Tryz.prog 216 #[.int .u64 m] w fun e w' => e = .returned (.int .i64 (blen m)) ∧ w = w' := by
  have hl := h.lt
  have := len64_any m w (by omega) (by omega)
  rw [Int.toNat_natCast, blen_eq 64 m hl (by omega)] at this
  exact this
end Go.Proofs.YtlgencbldbpbdaaGreatDoor

namespace Go.Proofs.YtlgencbldbpbdaaGreatDoor
open Go.RowKit Fl
theorem two_half (s : Nat) (h : 1 ≤ s) : 2 ^ s = 2 * 2 ^ (s - 1) := by rw [← Nat.pow_succ']; congr 1; omega
theorem dr0 (m s : Nat) (h : U m) : IntKind.u64.wrap (((m / 2 ^ s : Nat) : Int) * 2 ^ s) = ((m / 2 ^ s * 2 ^ s : Nat) : Int) := by
  have hm := h.lt
  have h1 : m / 2 ^ s * 2 ^ s ≤ m := Nat.div_mul_le_self _ _
  have h2 : ((m / 2 ^ s : Nat) : Int) * 2 ^ s = ((m / 2 ^ s * 2 ^ s : Nat) : Int) := by rw [Int.natCast_mul]; push_cast; rfl
  rw [h2, IntKind.wrap_u64]
  generalize m / 2 ^ s * 2 ^ s = t at *
  omega
theorem dr1 (m s : Nat) (h : U m) : IntKind.u64.wrap ((m : Int) - IntKind.u64.wrap (((m / 2 ^ s : Nat) : Int) * 2 ^ s)) = ((m % 2 ^ s : Nat) : Int) := by
  rw [dr0 m s h, IntKind.wrap_u64]
  have hm := h.lt
  have h1 := Nat.div_add_mod m (2 ^ s)
  rw [Nat.mul_comm] at h1
  generalize m / 2 ^ s * 2 ^ s = t at *
  generalize m % 2 ^ s = r at *
  omega
theorem dr2 (s : Nat) (h : s < 64) : IntKind.u64.wrap (2 ^ s) = ((2 ^ s : Nat) : Int) := by
  have h1 : 2 ^ s ≤ 2 ^ 63 := Nat.pow_le_pow_right (by omega) (by omega)
  have h2 : (2 : Int) ^ s = ((2 ^ s : Nat) : Int) := by push_cast; rfl
  rw [h2, IntKind.wrap_u64]
  generalize 2 ^ s = t at *
  omega
theorem dr4 (q : Nat) : ((q : Int) % 2 == 1) = decide (q % 2 = 1) := by
  rw [Bool.eq_iff_iff]; simp; omega
theorem dr5 (m s : Nat) (h : U m) (h1 : 1 ≤ s) : IntKind.u64.wrap (((m / 2 ^ s : Nat) : Int) + 1) = ((m / 2 ^ s + 1 : Nat) : Int) := by
  have hm := h.lt
  have h2 : m / 2 ^ s ≤ m / 2 := Nat.div_le_div_left (by rw [two_half s h1]; have := Nat.two_pow_pos (s - 1); omega) (by omega)
  rw [IntKind.wrap_u64]
  generalize m / 2 ^ s = q at *
  omega
theorem dr3 (m s : Nat) : ((m : Int) / 2 ^ s) = ((m / 2 ^ s : Nat) : Int) := by push_cast; rfl
/-- The rung nearest to m 2^p. -/
def near (m : Nat) (p : Int) : Nat := rungOf 52 (m * 2 ^ (p + 1074).toNat) (-1074 - p).toNat
theorem near_core (m : Nat) (p : Int) (h0 : 0 < m) (E : Int) (hE : E = max ((m.log2 : Int) + 1 + p - 53) (-1074)) :
    near m p = (E + 1074).toNat * 2 ^ 52 + rhe (m * 2 ^ (p - E).toNat) (2 ^ (E - p).toNat) ∧ rhe (m * 2 ^ (p - E).toNat) (2 ^ (E - p).toNat) ≤ 2 * 2 ^ 52 ∧ (E = -1074 ∨ 2 ^ 52 ≤ rhe (m * 2 ^ (p - E).toNat) (2 ^ (E - p).toNat)) := by
  have hm : m ≠ 0 := by omega
  have l1 := Nat.log2_self_le hm
  have l2 : m < 2 ^ (m.log2 + 1) := Nat.lt_log2_self
  refine ⟨?_, ?_, ?_⟩
  · unfold near rungOf
    rw [log2_mul_pow m _ hm]
    have e1 : m.log2 + (p + 1074).toNat - 52 - (-1074 - p).toNat = (E + 1074).toNat := by omega
    rw [e1]
    refine congrArg (fun r => (E + 1074).toNat * 2 ^ 52 + r) ?_
    have e2 : (p + 1074).toNat + (E - p).toNat = (p - E).toNat + ((-1074 - p).toNat + (E + 1074).toNat) := by omega
    rcases Int.le_total E p with h | h
    · -- the shift is to the left
      have a1 : (E - p).toNat = 0 := by omega
      have a2 : (-1074 - p).toNat = 0 := by omega
      have a3 : (p + 1074).toNat = (p - E).toNat + (E + 1074).toNat := by omega
      rw [a1, a2, a3, Nat.pow_zero, rhe_one, Nat.zero_add, Nat.pow_add, ← Nat.mul_assoc, rhe_exact _ _ (Nat.two_pow_pos _)]
    · have a1 : (p - E).toNat = 0 := by omega
      have a2 : (-1074 - p).toNat + (E + 1074).toNat = (E - p).toNat + (p + 1074).toNat := by omega
      rw [a1, a2, Nat.pow_zero, Nat.mul_one, Nat.pow_add, rhe_mul _ _ _ (Nat.two_pow_pos _)]
  · refine rhe_le_of _ _ _ (Nat.two_pow_pos _) ?_
    rw [show (2 * 2 ^ 52 : Nat) = 2 ^ 53 from by decide, ← Nat.pow_add]
    have h3 : m * 2 ^ (p - E).toNat < 2 ^ (m.log2 + 1) * 2 ^ (p - E).toNat := Nat.mul_lt_mul_of_pos_right l2 (Nat.two_pow_pos _)
    rw [← Nat.pow_add] at h3
    have h4 : 2 ^ (m.log2 + 1 + (p - E).toNat) ≤ 2 ^ ((E - p).toNat + 53) := Nat.pow_le_pow_right (by omega) (by omega)
    omega
  · rcases Int.lt_or_le (-1074) E with h | h
    · right
      refine rhe_ge_of _ _ _ (Nat.two_pow_pos _) ?_
      rw [← Nat.pow_add]
      have h3 : 2 ^ m.log2 * 2 ^ (p - E).toNat ≤ m * 2 ^ (p - E).toNat := Nat.mul_le_mul_right _ l1
      rw [← Nat.pow_add] at h3
      have h4 : 2 ^ ((E - p).toNat + 52) ≤ 2 ^ (m.log2 + (p - E).toNat) := Nat.pow_le_pow_right (by omega) (by omega)
      omega
    · left; omega
theorem near_shl0 (m : Nat) (p : Int) (_h0 : 0 < m) (E : Int) (hE : E = max ((m.log2 : Int) + 1 + p - 53) (-1074)) (h : E ≤ p) : m * 2 ^ (p - E).toNat < 9007199254740992 := by
  have l2 : m < 2 ^ (m.log2 + 1) := Nat.lt_log2_self
  have h3 : m * 2 ^ (p - E).toNat < 2 ^ (m.log2 + 1) * 2 ^ (p - E).toNat := Nat.mul_lt_mul_of_pos_right l2 (Nat.two_pow_pos _)
  rw [← Nat.pow_add] at h3
  have h4 : 2 ^ (m.log2 + 1 + (p - E).toNat) ≤ 2 ^ 53 := Nat.pow_le_pow_right (by omega) (by omega)
  rw [show (2 ^ 53 : Nat) = 9007199254740992 from by decide] at h4
  omega
theorem blen_pos (m : Nat) (h : 0 < m) : (blen m : Int) = (m.log2 : Int) + 1 := by
  unfold blen; rw [if_neg (by omega)]; omega
theorem near_shl (m : Nat) (p : Int) (h0 : 0 < m) (h : max ((blen m : Int) + p - 53) (-1074) ≤ p) : m * 2 ^ (p - max ((blen m : Int) + p - 53) (-1074)).toNat < 9007199254740992 :=
  near_shl0 m p h0 _ (by rw [blen_pos m h0]) h
theorem near_carry (a : Nat) (E : Int) (h : -1074 ≤ E) (h1 : a = (E + 1074).toNat * 4503599627370496 + 9007199254740992) : a = (E + 1 + 1074).toNat * 4503599627370496 + 4503599627370496 := by
  have e : (E + 1 + 1074).toNat = (E + 1074).toNat + 1 := by omega
  rw [e]
  generalize (E + 1074).toNat = t at *
  omega
/-- What Near gives: a significand of at most 53 bits at a place; together they are the rung. -/
def NearP (m : Nat) (p : Int) (e : Ending) : Prop := ∃ q K : Nat, e = .returned (.tuple #[.int .u64 q, .int .i64 ((K : Int) - 1074)]) ∧
  q < 9007199254740992 ∧ (K = 0 ∨ 4503599627370496 ≤ q) ∧ near m p = K * 4503599627370496 + q ∧ K ≤ 7200
theorem nearP_mk (m : Nat) (p : Int) (q : Nat) (E : Int) (hE : -1074 ≤ E) (hE2 : E ≤ 6126) (h1 : q < 9007199254740992) (h2 : E = -1074 ∨ 4503599627370496 ≤ q) (h3 : near m p = (E + 1074).toNat * 4503599627370496 + q) :
    NearP m p (.returned (.tuple #[.int .u64 q, .int .i64 E])) :=
  ⟨q, (E + 1074).toNat, by rw [show (((E + 1074).toNat : Nat) : Int) - 1074 = E by omega], h1, by omega, h3, by omega⟩
theorem shl_near (m j : Nat) (h : m * 2 ^ j < 9007199254740992) : IntKind.u64.wrap ((m : Int) * 2 ^ j) = ((m * 2 ^ j : Nat) : Int) := by
  have e : (m : Int) * 2 ^ j = ((m * 2 ^ j : Nat) : Int) := by rw [Int.natCast_mul]; push_cast; rfl
  rw [e, IntKind.wrap_u64]
  generalize m * 2 ^ j = t at *
  omega
theorem near_zero (p : Int) : near 0 p = 0 := by unfold near; rw [Nat.zero_mul, rungOf_zero]
theorem near_small (m : Nat) (p : Int) (h : U m) (hp : p ≤ -1139) : near m p = 0 := by
  have hm := h.lt
  unfold near rungOf
  rw [show (p + 1074).toNat = 0 by omega, Nat.pow_zero, Nat.mul_one]
  have hl : m.log2 ≤ 63 := by
    by_cases h0 : m = 0
    · subst h0; decide
    · have := (Nat.log2_lt h0 (k := 64)).2 h; omega
  rw [show m.log2 - 52 - (-1074 - p).toNat = 0 by omega, Nat.zero_mul, Nat.zero_add]
  refine rhe_small _ _ ?_
  have : 2 ^ 65 ≤ 2 ^ ((-1074 - p).toNat + 0) := Nat.pow_le_pow_right (by omega) (by omega)
  generalize 2 ^ ((-1074 - p).toNat + 0) = t at *
  omega
theorem near_great (m : Nat) (p : Int) (h : 0 < m) (hp : 1024 ≤ p) : INF ≤ near m p := by
  obtain ⟨n1, n2, n3⟩ := near_core m p h _ rfl
  rw [n1]
  have e : 2046 ≤ (max ((m.log2 : Int) + 1 + p - 53) (-1074) + 1074).toNat := by omega
  have e2 : 2046 * 2 ^ 52 ≤ (max ((m.log2 : Int) + 1 + p - 53) (-1074) + 1074).toNat * 2 ^ 52 := Nat.mul_le_mul_right _ e
  have e3 := n3.resolve_left (by omega)
  rw [show INF = 2046 * 2 ^ 52 + 2 ^ 52 from by decide]
  exact Nat.add_le_add e2 e3
def nearW (neg : Bool) (m : Nat) (p : Int) : Nat := word neg (min (near m p) INF)
theorem b_join (K q : Nat) (hK : K ≤ 2045) (h1 : 4503599627370496 ≤ q) (h2 : q < 9007199254740992) :
    bits .or .u64 (((K : Int) - 1074 + 1075) * 4503599627370496) (bits .and .u64 (q : Int) 4503599627370495) = ((K * 4503599627370496 + q : Nat) : Int) := by
  have e1 : ((K : Int) - 1074 + 1075) * 4503599627370496 = (((K + 1) * 4503599627370496 : Nat) : Int) := by omega
  rw [e1, b_frac q (by unfold U; omega), u64_or_nat _ _ (by omega) (by omega)]
  have hj : (K + 1) * 4503599627370496 ||| q % 4503599627370496 = (K + 1) * 4503599627370496 + q % 4503599627370496 := nat_join 52 ((K + 1) * 4503599627370496) (q % 4503599627370496) (by omega) (by omega)
  rw [hj]
  omega
end Go.Proofs.YtlgencbldbpbdaaGreatDoor
