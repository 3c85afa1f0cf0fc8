/- What 'DigitsNames' asks of the program's text, part by part. -/
import Derived.Test.YtjkifbkehochoaaGreatDoorRows
import Derived.JoinedCond
import Derived.KernelRfl
namespace Go.Proofs.YtjkifbkehochoaaGreatDoor.digitsNames
theorem band {a b : Bool} (h : a = true) (k : b = true) : (a && b) = true := by rw [h, k]; rfl
set_option maxRecDepth 100000 in
set_option maxHeartbeats 0 in
theorem facts : joinedFacts Tryz.checked.prog 3 Tryz.f3 (OpenSpec.ofChange Rows.digitsNamesSpec).bare Rows.digitsNamesRow = true := by
  unfold joinedFacts
  repeat' (with_reducible refine band ?_ ?_)
  all_goals (as_aux_lemma => kernel_rfl)
end Go.Proofs.YtjkifbkehochoaaGreatDoor.digitsNames
