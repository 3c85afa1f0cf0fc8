/- An Acc: Add. An Acc: Add of a finite number. -/
import Derived.Test.YthohhepoddnbnaaGreatDoorAccE
import Derived.Test.YthohhepoddnbnaaGreatDoorAccD
namespace Go.Proofs.YthohhepoddnbnaaGreatDoor
open Go.RowKit Fl

/-- an Acc and a number more -/
def addS (s : AS) (x : Nat) : AS :=
  ⟨if fin x then s.z + un x else s.z, s.nan || isN x, s.pos || decide (x = 9218868437227405312), s.neg || decide (x = 18442240474082181120), s.any || decide (x ≠ 9223372036854775808)⟩

end Go.Proofs.YthohhepoddnbnaaGreatDoor

namespace Go.Proofs.YthohhepoddnbnaaGreatDoor
open Go.RowKit Fl

theorem wn_shift (m e t : Nat) (hm : m < 9007199254740992) : wn (m * 2 ^ e) t = if t = e / 64 then m * 2 ^ (e % 64) % 18446744073709551616 else if t = e / 64 + 1 then m / 2 ^ (64 - e % 64) else 0 := by
  unfold wn
  obtain ⟨q, r, hr, he⟩ : ∃ q r, r < 64 ∧ e = 64 * q + r := ⟨e / 64, e % 64, by omega, by omega⟩
  have hq : e / 64 = q := by omega
  have hr' : e % 64 = r := by omega
  rw [hq, hr']
  have hV : m * 2 ^ e = m * 2 ^ r * 2 ^ (64 * q) := by rw [he, Nat.pow_add, Nat.mul_assoc, Nat.mul_comm (2 ^ (64 * q))]
  have hp := Nat.two_pow_pos r
  have h2r : 2 ^ r ≤ 2 ^ 63 := Nat.pow_le_pow_right (by decide) (by omega)
  have hmr : m * 2 ^ r < 9007199254740992 * 2 ^ 63 := Nat.lt_of_lt_of_le (Nat.mul_lt_mul_of_pos_right hm hp) (Nat.mul_le_mul_left _ h2r)
  rw [hV]
  rcases Nat.lt_trichotomy t q with h | h | h
  · rw [if_neg (by omega), if_neg (by omega)]
    have : m * 2 ^ r * 2 ^ (64 * q) = (m * 2 ^ r * 2 ^ (64 * (q - t - 1))) * 18446744073709551616 * 2 ^ (64 * t) := by
      rw [show (18446744073709551616 : Nat) = 2 ^ 64 by rfl, Nat.mul_assoc (m * 2 ^ r), Nat.mul_assoc (m * 2 ^ r), ← Nat.pow_add, ← Nat.pow_add]
      congr 2; omega
    rw [this, Nat.mul_div_cancel _ (Nat.two_pow_pos _), Nat.mul_mod_left]
  · subst h
    rw [if_pos rfl, Nat.mul_div_cancel _ (Nat.two_pow_pos _)]
  · rw [if_neg (by omega)]
    have hd : 2 ^ (64 * t) = 2 ^ (64 * q) * 2 ^ (64 * (t - q)) := by rw [← Nat.pow_add]; congr 1; omega
    rw [hd, Nat.mul_comm (m * 2 ^ r), Nat.mul_div_mul_left _ _ (Nat.two_pow_pos _)]
    by_cases h1 : t = q + 1
    · rw [if_pos h1, show t - q = 1 by omega, Nat.mul_one]
      have h64 : (2 : Nat) ^ 64 = 2 ^ (64 - r) * 2 ^ r := by rw [← Nat.pow_add]; congr 1; omega
      rw [h64, Nat.mul_div_mul_right _ _ hp]
      exact Nat.mod_eq_of_lt (Nat.lt_of_le_of_lt (Nat.div_le_self _ _) (by omega))
    · rw [if_neg h1]
      have : m * 2 ^ r < 2 ^ (64 * (t - q)) := Nat.lt_of_lt_of_le (Nat.lt_of_lt_of_le hmr (by decide : 9007199254740992 * 2 ^ 63 ≤ 2 ^ (64 * 2))) (Nat.pow_le_pow_right (by decide) (by omega))
      rw [Nat.div_eq_of_lt this]
def mM (x : Nat) : Nat := if eM x = 0 then fM x else 4503599627370496 + fM x
def mE (x : Nat) : Nat := if eM x = 0 then 0 else eM x - 1
theorem mM_lt (x : Nat) : mM x < 9007199254740992 := by unfold mM fM; split <;> omega
theorem mE_le (x : Nat) (h : fin x = true) : mE x ≤ 2045 := by
  have := of_decide_eq_true h
  unfold INF rg at this
  unfold mE eM
  split <;> omega
theorem val_mm (x : Nat) : val 52 (rg x) = mM x * 2 ^ mE x := by
  have h1 : rg x / 4503599627370496 = eM x := by unfold rg eM; omega
  have h2 : rg x % 4503599627370496 = fM x := by unfold rg fM; omega
  unfold val mM mE
  rw [show (2 : Nat) ^ 52 = 4503599627370496 by rfl, h1, h2]
  by_cases h : eM x = 0
  · rw [if_pos (by omega), if_pos h, if_pos h, Nat.pow_zero, Nat.mul_one]; omega
  · rw [if_neg (by omega), if_neg h, if_neg h]
theorem b_hid (x : Nat) (h : fM x < 4503599627370496) : bits .or .u64 (fM x : Int) 4503599627370496 = ((4503599627370496 + fM x : Nat) : Int) := by
  have e := b_field 1 (fM x) (by decide) h
  rw [show ((1 : Nat) : Int) * 4503599627370496 = 4503599627370496 by rfl] at e
  rw [e]; unfold nw; rfl
theorem row_shift {w : World} {c : Nat} (M E : Nat) (hM : M < 9007199254740992) (v0 v1 : Int) (h0 : v0 = IntKind.u64.wrap ((M : Int) * 2 ^ (E % 64))) (h1 : v1 = (M : Int) / 2 ^ (64 - E % 64))
    (h : Row w c (fun j => if j = E / 64 + 1 then v1 else if j = E / 64 then v0 else 0)) : Row w c (wd ((M * 2 ^ E : Nat) : Int)) := by
  refine h.congr fun j _ => ?_
  rw [wd_nat, wn_shift M E j hM]
  have e0 : v0 = ((M * 2 ^ (E % 64) % 18446744073709551616 : Nat) : Int) := by rw [h0, IntKind.wrap_u64, Int.natCast_emod, Int.natCast_mul, Int.natCast_pow]; rfl
  have e1 : v1 = ((M / 2 ^ (64 - E % 64) : Nat) : Int) := by rw [h1, Int.natCast_ediv, Int.natCast_pow]; rfl
  by_cases h2 : j = E / 64
  · rw [if_neg (by omega), if_pos h2, if_pos h2, e0]
  · rw [if_neg h2, if_neg h2]
    by_cases h3 : j = E / 64 + 1
    · rw [if_pos h3, if_pos h3, e1]
    · rw [if_neg h3, if_neg h3]; rfl
end Go.Proofs.YthohhepoddnbnaaGreatDoor
