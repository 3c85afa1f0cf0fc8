/- bits.nearest; Join, both. Join, both: the place of the number that it makes. RoundToEven, Whole; what draws leave alone. Plain laws, fourth part: binary32 in binary64 and back. -/
import Derived.Test.YtedkbjimofiphaaMgLen
import Derived.Deep.QuietTactic
import Derived.BigQuiet
import Derived.Test.YtedkbjimofiphaaMgBase
namespace Go.Proofs.Ytedkbjimofiphaa
open Go.RowKit Fl
theorem rest_eq (m s : Nat) (h1 : 0 < s) (h2 : s < 64) : IntKind.u64.wrap ((m : Int) * 2 ^ (64 - s)) = ((m % 2 ^ s * 2 ^ (64 - s) : Nat) : Int) := by
  have e : (m : Int) * 2 ^ (64 - s) = ((m * 2 ^ (64 - s) : Nat) : Int) := by rw [Int.natCast_mul]; push_cast; rfl
  rw [e, IntKind.wrap_u64]
  have e2 : (18446744073709551616 : Nat) = 2 ^ s * 2 ^ (64 - s) := by rw [← Nat.pow_add, show s + (64 - s) = 64 by omega]
  have e3 : m * 2 ^ (64 - s) % 18446744073709551616 = m % 2 ^ s * 2 ^ (64 - s) := by
    rw [e2, Nat.mul_mod_mul_right]
  rw [← e3]; omega
theorem b_one (q : Nat) (h : U q) : (bits .and .u64 (q : Int) 1 == 1) = decide (q % 2 = 1) := by
  have e := h.lt
  rw [show (1 : Int) = ((1 : Nat) : Int) from rfl, u64_and_nat _ _ h.lt (by omega), nat_mask1, Bool.eq_iff_iff]
  simp; omega
end Go.Proofs.Ytedkbjimofiphaa

namespace Go.Proofs.Ytedkbjimofiphaa
open Go.RowKit Fl
theorem Bd {B : Nat} {a w : World} (h : Below B a w) (n : Nat) : Below B a (w.drewN n) := ⟨h.os, h.tape, h.output, h.size, h.block⟩
end Go.Proofs.Ytedkbjimofiphaa

namespace Go.Proofs.Ytedkbjimofiphaa
open Go.RowKit Fl
end Go.Proofs.Ytedkbjimofiphaa

namespace Go.Proofs.Ytedkbjimofiphaa.Fl
open Ieee
end Go.Proofs.Ytedkbjimofiphaa.Fl
