/- An Acc's forty words: length, bit. rounded: the plain laws. Join, both: the place of the number that it makes. RoundToEven, Whole; what draws leave alone. -/
import Derived.Test.YthohhepoddnbnaaGreatDoorAcc
import Derived.Test.YthohhepoddnbnaaGreatDoorJoin
import Derived.Test.YthohhepoddnbnaaGreatDoorMgBase
namespace Go.Proofs.YthohhepoddnbnaaGreatDoor
open Go.RowKit Fl

/-- the i-th word of a whole number that is not below nought -/
def wn (n i : Nat) : Nat := n / 2 ^ (64 * i) % 18446744073709551616
theorem wd_nat (n i : Nat) : wd (n : Int) i = ((wn n i : Nat) : Int) := by
  unfold wd wn
  have e : (2 : Int) ^ (64 * i) = ((2 ^ (64 * i) : Nat) : Int) := by rw [Int.natCast_pow]; rfl
  rw [e, ← Int.natCast_ediv]
  generalize n / 2 ^ (64 * i) = q
  omega
theorem U_wn (n i : Nat) : U (wn n i) := Nat.mod_lt _ (by decide)
theorem P64 (t : Nat) : 2 ^ (64 * (t + 1)) = 2 ^ (64 * t) * 18446744073709551616 := by rw [Nat.mul_succ, Nat.pow_add]
theorem wn_top (n t : Nat) (h : n < 2 ^ (64 * (t + 1))) : wn n t = n / 2 ^ (64 * t) := by
  unfold wn
  rw [P64] at h
  exact Nat.mod_eq_of_lt (Nat.div_lt_of_lt_mul h)
theorem wn_zero_lt (n t : Nat) (h : n < 2 ^ (64 * (t + 1))) (h0 : wn n t = 0) : n < 2 ^ (64 * t) := by
  rw [wn_top n t h] at h0
  rcases Nat.lt_or_ge n (2 ^ (64 * t)) with c | c
  · exact c
  · have := (Nat.le_div_iff_mul_le (Nat.two_pow_pos (64 * t))).2 (show 1 * 2 ^ (64 * t) ≤ n by omega)
    omega
theorem blen_shift (n k : Nat) (h : 0 < n / 2 ^ k) : blen n = k + blen (n / 2 ^ k) := by
  have hn : n ≠ 0 := by intro e; subst e; simp at h
  have hq : n / 2 ^ k ≠ 0 := by omega
  unfold blen
  rw [if_neg hn, if_neg hq]
  have h1 := Nat.log2_self_le hq
  have h2 : n / 2 ^ k < 2 ^ ((n / 2 ^ k).log2 + 1) := Nat.lt_log2_self
  have h3 : n.log2 = k + (n / 2 ^ k).log2 := by
    refine log2_eq _ _ ?_ ?_
    · rw [Nat.pow_add]
      have := (Nat.le_div_iff_mul_le (Nat.two_pow_pos k)).1 h1
      rw [Nat.mul_comm]; exact this
    · rw [Nat.add_assoc, Nat.pow_add]
      have := (Nat.div_lt_iff_lt_mul (Nat.two_pow_pos k)).1 h2
      rw [Nat.mul_comm]; exact this
  omega
theorem len_word (n t : Nat) (h : n < 2 ^ (64 * (t + 1))) (h0 : wn n t ≠ 0) : blen n = 64 * t + blen (wn n t) := by
  rw [wn_top n t h] at h0 ⊢
  exact blen_shift n (64 * t) (Nat.pos_of_ne_zero h0)

def CAP : Nat := 40
theorem CAP_eq : CAP = 40 := rfl
theorem bit_word (n i : Nat) : wn n (i / 64) / 2 ^ (i % 64) % 2 = n / 2 ^ i % 2 := by
  have e : n / 2 ^ i = n / 2 ^ (64 * (i / 64)) / 2 ^ (i % 64) := by
    rw [Nat.div_div_eq_div_mul, ← Nat.pow_add]; congr 2; omega
  rw [e]
  unfold wn
  generalize n / 2 ^ (64 * (i / 64)) = q
  have hr : i % 64 < 64 := Nat.mod_lt _ (by decide)
  generalize i % 64 = r at *
  have e2 : (18446744073709551616 : Nat) = 2 ^ r * 2 ^ (63 - r) * 2 := by
    rw [Nat.mul_assoc, ← Nat.pow_succ, ← Nat.pow_add]
    rw [show r + (63 - r).succ = 64 by omega]
  rw [e2, Nat.mul_assoc, Nat.mod_mul_right_div_self, Nat.mul_comm (2 ^ (63 - r)) 2, Nat.mod_mul_right_mod]

end Go.Proofs.YthohhepoddnbnaaGreatDoor

namespace Go.Proofs.YthohhepoddnbnaaGreatDoor
open Go.RowKit Fl

theorem rnd_small (n : Nat) (h : n < 9007199254740992) : rnd n = n := by
  have := rnd_val n (by unfold INF; omega)
  rwa [val_small 52 n (by rw [B52]; omega)] at this
theorem blen_le_small (n : Nat) (h : blen n ≤ 53) : n < 9007199254740992 := by
  have h1 := lt_blen n
  have h2 : 2 ^ blen n ≤ 2 ^ 53 := Nat.pow_le_pow_right (by omega) h
  rw [show (2 ^ 53 : Nat) = 9007199254740992 from by decide] at h2
  omega
/-- the significand that is kept -/
theorem top_bounds (n d : Nat) (h : blen n = d + 53) : 4503599627370496 ≤ n / 2 ^ d ∧ n / 2 ^ d < 9007199254740992 := by
  have h0 : 0 < n := by
    rcases Nat.eq_zero_or_pos n with c | c
    · subst c; simp [blen] at h
    · exact c
  have h1 := lt_blen n
  have h2 := le_blen n h0
  rw [h] at h1 h2
  constructor
  · rw [Nat.le_div_iff_mul_le (Nat.two_pow_pos d), ← B52, ← Nat.pow_add]
    rw [show d + 53 - 1 = 52 + d by omega] at h2
    exact h2
  · rw [Nat.div_lt_iff_lt_mul (Nat.two_pow_pos d), ← show (2 ^ 53 : Nat) = 9007199254740992 from by decide, ← Nat.pow_add]
    rw [show d + 53 = 53 + d by omega] at h1
    exact h1
theorem rung_drop (n d : Nat) (h : blen n = d + 53) : rungOf 52 n 0 = d * 4503599627370496 + rhe n (2 ^ d) := by
  have h0 : 0 < n := by
    rcases Nat.eq_zero_or_pos n with c | c
    · subst c; simp [blen] at h
    · exact c
  have hl : n.log2 = d + 52 := by
    unfold blen at h
    rw [if_neg (by omega)] at h
    omega
  unfold rungOf
  rw [hl, show d + 52 - 52 - 0 = d by omega, Nat.zero_add, B52]
/-- rounding by the half's bit and the rest -/
theorem rhe_half (n d : Nat) (hd : 1 ≤ d) : rhe n (2 ^ d) = n / 2 ^ d + (if n / 2 ^ (d - 1) % 2 = 1 ∧ (n % 2 ^ (d - 1) ≠ 0 ∨ n / 2 ^ d % 2 = 1) then 1 else 0) := by
  unfold rhe
  congr 1
  have hg := two_half d hd
  have hp := Nat.two_pow_pos (d - 1)
  have e1 : n % 2 ^ d = 2 ^ (d - 1) * (n / 2 ^ (d - 1) % 2) + n % 2 ^ (d - 1) := by
    rw [hg, Nat.mul_comm 2, Nat.mod_mul]
    omega
  rw [e1, hg]
  have h1 := Nat.mod_lt n hp
  have h2 : n / 2 ^ (d - 1) % 2 = 0 ∨ n / 2 ^ (d - 1) % 2 = 1 := by omega
  generalize n / (2 * 2 ^ (d - 1)) = q
  generalize 2 ^ (d - 1) = H at *
  generalize n % H = r at *
  generalize n / H % 2 = b at *
  rcases h2 with h2 | h2
  · subst h2
    rw [if_neg (by omega), if_neg (by omega)]
  · subst h2
    by_cases c : r ≠ 0 ∨ q % 2 = 1
    · rw [if_pos (by omega), if_pos ⟨rfl, c⟩]
    · rw [if_neg (by omega), if_neg (by omega)]
/-- the low word and the next one, put together -/
theorem words_join (n d : Nat) (hr : 0 < d % 64) : bits .or .u64 ((wn n (d / 64) / 2 ^ (d % 64) : Nat) : Int) (IntKind.u64.wrap (((wn n (d / 64 + 1) : Nat) : Int) * 2 ^ (64 - d % 64))) = ((n / 2 ^ d % 18446744073709551616 : Nat) : Int) := by
  have hl : d % 64 < 64 := Nat.mod_lt _ (by decide)
  have e : n / 2 ^ d = n / 2 ^ (64 * (d / 64)) / 2 ^ (d % 64) := by
    rw [Nat.div_div_eq_div_mul, ← Nat.pow_add]; congr 2; omega
  have ew : wn n (d / 64 + 1) = n / 2 ^ (64 * (d / 64)) / 18446744073709551616 % 18446744073709551616 := by
    unfold wn
    rw [Nat.div_div_eq_div_mul, P64]
  rw [rest_eq _ _ (by omega) (by omega), e, ew]
  unfold wn
  generalize n / 2 ^ (64 * (d / 64)) = X
  generalize d % 64 = r at *
  have hp := Nat.two_pow_pos (64 - r)
  have hq := Nat.two_pow_pos r
  have e2 : (18446744073709551616 : Nat) = 2 ^ r * 2 ^ (64 - r) := by rw [← Nat.pow_add, show r + (64 - r) = 64 by omega]
  have a1 : X % 18446744073709551616 / 2 ^ r = X / 2 ^ r % 2 ^ (64 - r) := by rw [e2, Nat.mod_mul_right_div_self]
  have a2 : X / 18446744073709551616 % 18446744073709551616 % 2 ^ r = X / 18446744073709551616 % 2 ^ r := Nat.mod_mod_of_dvd _ ⟨2 ^ (64 - r), e2⟩
  have a3 : X / 2 ^ r % 18446744073709551616 = X / 2 ^ r % 2 ^ (64 - r) + 2 ^ (64 - r) * (X / 18446744073709551616 % 2 ^ r) := by
    have e3 : (18446744073709551616 : Nat) = 2 ^ (64 - r) * 2 ^ r := by rw [e2, Nat.mul_comm]
    have e4 : X / 18446744073709551616 = X / 2 ^ r / 2 ^ (64 - r) := by rw [Nat.div_div_eq_div_mul, ← e2]
    rw [e4]
    conv => lhs; rw [e3]
    rw [Nat.mod_mul]
  have h1 : X / 2 ^ r % 2 ^ (64 - r) < 2 ^ (64 - r) := Nat.mod_lt _ hp
  have h2 : X / 2 ^ r % 18446744073709551616 < 18446744073709551616 := Nat.mod_lt _ (by decide)
  rw [a1, a2, a3]
  rw [a3] at h2
  clear a1 a2 a3 e2
  generalize X / 2 ^ r % 2 ^ (64 - r) = A at *
  generalize X / 18446744073709551616 % 2 ^ r = B at *
  rw [Nat.mul_comm (2 ^ (64 - r)) B] at h2 ⊢
  have hj : B * 2 ^ (64 - r) ||| A = B * 2 ^ (64 - r) + A := nat_join (64 - r) (B * 2 ^ (64 - r)) A (Nat.mul_mod_left _ _) h1
  generalize 2 ^ (64 - r) = t at *
  rw [u64_or_nat _ _ (by omega) (by omega), Nat.or_comm, hj, Nat.add_comm]
theorem words_one (n d : Nat) (hr : d % 64 = 0) : wn n (d / 64) = n / 2 ^ d % 18446744073709551616 := by
  unfold wn
  congr 3; omega
theorem b_53 (x q : Nat) (h : q < 9007199254740992) (hx : x = q % 18446744073709551616) : bits .and .u64 (x : Int) 9007199254740991 = (q : Int) := by
  rw [show (9007199254740991 : Int) = ((9007199254740991 : Nat) : Int) from rfl, u64_and_nat _ _ (by omega) (by omega)]
  have := Nat.and_two_pow_sub_one_eq_mod x 53
  rw [show (2 ^ 53 - 1 : Nat) = 9007199254740991 from by decide] at this
  rw [this]; omega
end Go.Proofs.YthohhepoddnbnaaGreatDoor

namespace Go.Proofs.YthohhepoddnbnaaGreatDoor
open Go.RowKit Fl

def joinP (neg : Bool) (c : Int) (m : Nat) (e : Int) : Int :=
  if c = 4 then 9223372036854775807 else if c = 3 then pl (word neg 9218868437227405312) else if c = 0 then pl (word neg 0) else pl (nearW neg m e)
theorem joinP4 (neg : Bool) (m : Nat) (e : Int) : joinP neg 4 m e = 9223372036854775807 := by unfold joinP; rw [if_pos rfl]
theorem joinP3 (neg : Bool) (m : Nat) (e : Int) : joinP neg 3 m e = pl (word neg 9218868437227405312) := by unfold joinP; rw [if_neg (by decide), if_pos rfl]
theorem joinP0 (neg : Bool) (m : Nat) (e : Int) : joinP neg 0 m e = pl (word neg 0) := by unfold joinP; rw [if_neg (by decide), if_neg (by decide), if_pos rfl]
theorem Bd {B : Nat} {a w : World} (h : Below B a w) (n : Nat) : Below B a (w.drewN n) := ⟨h.os, h.tape, h.output, h.size, h.block⟩
theorem U_nearW (neg : Bool) (m : Nat) (e : Int) : U (nearW neg m e) := by
  refine U_word _ _ ?_
  have : min (near m e) INF ≤ INF := Nat.min_le_right _ _
  unfold INF at *; omega

theorem q137 (w : World) (n : Nat) : Calls Tryz.prog 58 #[.int .i64 1] (w.drewN n) fun e w' => e = .returned (.float .f64 9218868437227405312) ∧ ∃ m, w' = w.drewN m :=
  Calls.quiet_of_same ((c137p _).mono fun _ _ ⟨a, b⟩ => ⟨a, b.symm⟩)
theorem min_inf_lt (a : Nat) : min a INF < 9223372036854775808 := by
  have : min a INF ≤ INF := Nat.min_le_right _ _
  unfold INF at *; omega

end Go.Proofs.YthohhepoddnbnaaGreatDoor

namespace Go.Proofs.YthohhepoddnbnaaGreatDoor
open Go.RowKit Fl

theorem Bdrew {B : Nat} {a w : World} (h : Below B a w) : Below B a w.drew := ⟨h.os, h.tape, h.output, h.size, h.block⟩

/-- of a number: the nearest whole one; an infinity as it is -/
def wh (x : Nat) : Nat := if fin x then whole x else x
/-- how the model's rounding goes on, by what the word stands for -/
def onDatum (x : Nat) : Ieee.Datum → Sem Value
  | .nan s t => if FloatKind.f64.format.quiet t = t then pure (.float .f64 x) else
    (choose (.extern "math.Floor,Ceil,Trunc,RoundToEven.signallingNaN kept" 2)).bind fun k => pure (.float .f64 (if k == 1 then x else FloatKind.f64.encode (.nan s (FloatKind.f64.format.quiet t))))
  | d => pure (.float .f64 (FloatKind.f64.encode (d.integral .even)))
theorem onDatum_eq (x : Nat) : Extern.MathFloor.toIntegral "math.RoundToEven" .even #[.float .f64 x] = onDatum x (Ieee.double.read x) := rfl
theorem U_wh (x : Nat) (hx : U x) : U (wh x) := by
  unfold wh; split
  · unfold whole; exact U_word _ _ (rnd_lt _)
  · exact hx
theorem isN_wh (x : Nat) (hn : isN x = false) : isN (wh x) = false := by
  unfold wh; split
  · rename_i h; exact fin_not_nan (fin_whole x h)
  · exact hn
theorem wh_wh (x : Nat) : wh (wh x) = wh x := by
  by_cases h : fin x = true
  · have e : wh x = whole x := by unfold wh; rw [if_pos h]
    rw [e]; unfold wh; rw [if_pos (fin_whole x h), whole_whole x h]
  · have e : wh x = x := by unfold wh; rw [if_neg h]
    rw [e, e]
end Go.Proofs.YthohhepoddnbnaaGreatDoor
