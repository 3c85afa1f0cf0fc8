/- What 'EaseEnds' asks of the program's text, part by part. What 'EaseBack' asks of the program's text, part by part. -/
import Derived.Test.YtlgencbldbpbdaaGreatDoorRows
import Derived.JoinedCond
import Derived.KernelRfl
namespace Go.Proofs.YtlgencbldbpbdaaGreatDoor.easeEnds
theorem band {a b : Bool} (h : a = true) (k : b = true) : (a && b) = true := by rw [h, k]; rfl
set_option maxRecDepth 100000 in
set_option maxHeartbeats 0 in
theorem facts : joinedFacts Tryz.checked.prog 4 Tryz.f4 (OpenSpec.ofChange Rows.easeEndsSpec).bare Rows.easeEndsRow = true := by
  unfold joinedFacts
  repeat' (with_reducible refine band ?_ ?_)
  all_goals (as_aux_lemma => kernel_rfl)
end Go.Proofs.YtlgencbldbpbdaaGreatDoor.easeEnds

namespace Go.Proofs.YtlgencbldbpbdaaGreatDoor.easeBack
theorem band {a b : Bool} (h : a = true) (k : b = true) : (a && b) = true := by rw [h, k]; rfl
set_option maxRecDepth 100000 in
set_option maxHeartbeats 0 in
theorem facts : joinedFacts Tryz.checked.prog 3 Tryz.f3 (OpenSpec.ofChange Rows.easeBackSpec).bare Rows.easeBackRow = true := by
  unfold joinedFacts
  repeat' (with_reducible refine band ?_ ?_)
  all_goals (as_aux_lemma => kernel_rfl)
end Go.Proofs.YtlgencbldbpbdaaGreatDoor.easeBack
