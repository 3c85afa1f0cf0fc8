/- calc: a number as a whole one times a power of two; two of them by one power; nearest. -/
import Derived.Test.YthohhepoddnbnaaGreatDoorLgJ
import Derived.Test.YthohhepoddnbnaaGreatDoorMgFl
import Derived.Test.YthohhepoddnbnaaGreatDoorMgLdexp
namespace Go.Proofs.YthohhepoddnbnaaGreatDoor
open Go.RowKit Fl

theorem and52 (r : Nat) (h : r < 18446744073709551616) : bits .and .u64 (r : Int) 4503599627370495 = ((r % 4503599627370496 : Nat) : Int) := by
  rw [show (4503599627370495 : Int) = ((4503599627370495 : Nat) : Int) from rfl, u64_and_nat _ _ h (by decide)]
  congr 1
  exact Nat.and_two_pow_sub_one_eq_mod r 52
theorem or52 (F : Nat) (h : F < 4503599627370496) : bits .or .u64 (F : Int) 4503599627370496 = ((4503599627370496 + F : Nat) : Int) := by
  rw [show (4503599627370496 : Int) = ((4503599627370496 : Nat) : Int) from rfl, u64_or_nat _ _ (by omega) (by decide)]
  congr 1
  have := Nat.two_pow_add_eq_or_of_lt (show F < 2 ^ 52 from h) 1
  rw [Nat.mul_one] at this
  rw [Nat.or_comm]
  exact this.symm
set_option maxRecDepth 100000 in
set_option maxHeartbeats 1000000 in
theorem lWhole (x : Nat) (w : World) (hx : U x) (hf : rg x < 9218868437227405312) :
    Calls Tryz.prog 79 #[.float .f64 x] w fun e w' => Below w.heap.size w w' ∧ ∃ v, e = .returned (.tuple #[v, .int .i64 ((pE (rg x) : Int) - 1074)]) ∧ NV w' v (pM (rg x)) := by
  have C1 := Lib.hid (c133 x w hx)
  have hpM : pM (rg x) < BB := by
    have h1 := pM_lt (rg x)
    have e : (2 : Nat) ^ 53 = 9007199254740992 := by decide
    unfold BB
    omega
  have C2 := Lib.hid (c43 (pM (rg x)) w hpM)
  have X := fun w => x128 (rg x) w
  have e1 := and52 (rg x) (by omega)
  have e2 := or52 (rg x % 4503599627370496) (Nat.mod_lt _ (by decide))
  have hE : rg x / 4503599627370496 ≤ 2046 := by omega
  have hP : pM (rg x) = (if rg x / 4503599627370496 = 0 then rg x % 4503599627370496 else 4503599627370496 + rg x % 4503599627370496) ∧ pE (rg x) = rg x / 4503599627370496 - 1 := by
    refine ⟨?_, rfl⟩
    unfold pM
    have e52 : (2 : Nat) ^ 52 = 4503599627370496 := by decide
    rw [e52]
    by_cases h : rg x < 4503599627370496
    · rw [if_pos h, if_pos (Nat.div_eq_of_lt h), Nat.mod_eq_of_lt h]
    · rw [if_neg h, if_neg (by omega)]
  have hF : rg x % 4503599627370496 < 4503599627370496 := Nat.mod_lt _ (by decide)
  have hd : ((rg x : Nat) : Int) / 4503599627370496 = ((rg x / 4503599627370496 : Nat) : Int) := by omega
  clear hx
  generalize rg x = r at *
  generalize hEE : r / 4503599627370496 = E at *
  generalize hFF : r % 4503599627370496 = F at *
  clear hEE hFF
  generalize pM r = M at *
  generalize pE r = P at *
  obtain ⟨hM, rfl⟩ := hP
  have hE2 : (E : Int) ≤ 2046 := by omega
  by_cases h0 : E = 0
  · subst h0
    rw [if_pos rfl] at hM
    subst hM
    clear e2 hF hpM
    go_enter Tryz.func79, Tryz.ntmps79
    go_wp2_with (first
      | (go_at_call 57; refine C1.out.mono ?_; rintro e w' ⟨rfl, rfl⟩)
      | (go_at_call 43; refine C2.out.mono ?_; rintro e w' ⟨hb, v, rfl, hv⟩; have R := Lib.hid (And.intro hb hv); clear hb hv C2))
    go_ret2
    exact ⟨R.out.1, _, rfl, R.out.2⟩
  · rw [if_neg h0] at hM
    subst hM
    have h1 : (0 : Int) < (E : Int) := by omega
    have ep : (E : Int) - 1 = ((E - 1 : Nat) : Int) := by omega
    clear hF hpM h0
    go_enter Tryz.func79, Tryz.ntmps79
    go_wp2_with (first
      | (go_at_call 57; refine C1.out.mono ?_; rintro e w' ⟨rfl, rfl⟩)
      | (go_at_call 43; refine C2.out.mono ?_; rintro e w' ⟨hb, v, rfl, hv⟩; have R := Lib.hid (And.intro hb hv); clear hb hv C2))
    go_ret2
    exact ⟨R.out.1, _, by rw [← ep]; rfl, R.out.2⟩
end Go.Proofs.YthohhepoddnbnaaGreatDoor
