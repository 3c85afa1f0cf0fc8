/- Nearest of whole numbers (nothing more is left behind them). -/
import Derived.Test.YtlgencbldbpbdaaGreatDoorMgLgH
import Derived.Test.YtlgencbldbpbdaaGreatDoorUH
import Derived.Test.YtlgencbldbpbdaaGreatDoorJoin
namespace Go.Proofs.YtlgencbldbpbdaaGreatDoor
open Go.RowKit Fl
theorem NV.one {w : World} {v : Value} {m : Nat} (h : NV w v m) (h0 : 0 < m) (hm : m < BB) : ∃ b o c, v = .slice (some ⟨b, o, none⟩) 1 c ∧ 1 ≤ c ∧ w.cell? ⟨b, o, none⟩ = some (.int .u64 (m : Int)) := by
 obtain ⟨l, ⟨hW, h⟩, hc, rfl⟩ := h
 have hl : l.length = 1 := by
  rcases Nat.lt_or_ge 1 l.length with h1 | h1
  ·have := val_ge hc (by omega)
   have h2 : BB ^ 1 ≤ BB ^ (l.length - 1) := Nat.pow_le_pow_right BB_pos (by omega)
   rw [Nat.pow_one] at h2
   omega
  ·rcases Nat.eq_zero_or_pos l.length with h2 | h2
   ·rw [List.eq_nil_of_length_eq_zero h2] at h0; exact absurd h0 (Nat.lt_irrefl _)
   ·omega
 match l, hl with
 | [m], _ =>
   rcases h with ⟨_, h⟩ | ⟨b, o, c, rfl, h5, _, h4⟩
   ·cases h
   ·exact ⟨b, o, c, rfl, h5, by simpa [val] using h4.2 0 m rfl⟩
theorem NV.none {w : World} {v : Value} (h : NV w v 0) : ∃ A c, v = .slice A 0 c := by
 obtain ⟨l, hl, hc, h0⟩ := h
 have := val_zero hc h0
 subst this
 exact hl.form
def bumpN (m : Nat) (b : Bool) : Nat := m / 2 + (if m % 2 = 1 ∧ (b = true ∨ m / 2 % 2 = 1) then 1 else 0)
theorem u64_low (m : Nat) (h : m < BB) : bits .and .u64 (m : Int) 1 = ((m % 2 : Nat) : Int) := by
 have := u64_and_nat m 1 h (by decide)
 rw [Nat.and_one_is_mod] at this
 exact this
end Go.Proofs.YtlgencbldbpbdaaGreatDoor
