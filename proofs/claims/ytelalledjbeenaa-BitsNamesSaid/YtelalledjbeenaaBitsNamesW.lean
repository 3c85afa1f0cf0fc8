/- The walk of BitsNames. -/
import Derived.Test.YtelalledjbeenaaAlive
namespace Go.Proofs.Ytelalledjbeenaa
open Go.RowKit Fl
set_option maxRecDepth 100000 in
theorem walkBitsNames (w : World) : Calls Try.prog 6 #[] w fun e w' => e = .returned (.bool true) ∧ Below w.heap.size w w' := by
  go_enter Try.func6, Try.ntmps6
  go_wp2_with (go_at_call 29; refine (c29 _).mono ?_; rintro e w' ⟨rfl, hb⟩)
  go_ret
  exact ⟨rfl, hb⟩
end Go.Proofs.Ytelalledjbeenaa
