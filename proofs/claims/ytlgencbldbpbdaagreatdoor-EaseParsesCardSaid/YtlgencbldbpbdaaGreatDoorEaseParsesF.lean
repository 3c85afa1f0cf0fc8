/- What 'EaseParses' asks of the program's text, part by part. -/
import Derived.Test.YtlgencbldbpbdaaGreatDoorRows
import Derived.JoinedCond
import Derived.KernelRfl
namespace Go.Proofs.YtlgencbldbpbdaaGreatDoor.easeParses
theorem band {a b : Bool} (h : a = true) (k : b = true) : (a && b) = true := by rw [h, k]; rfl
set_option maxRecDepth 100000 in
set_option maxHeartbeats 0 in
theorem facts : joinedFacts Tryz.checked.prog 6 Tryz.f6 (OpenSpec.ofChange Rows.easeParsesSpec).bare Rows.easeParsesRow = true := by
 unfold joinedFacts
 repeat' (with_reducible refine band ?_ ?_)
 all_goals (as_aux_lemma => kernel_rfl)
end Go.Proofs.YtlgencbldbpbdaaGreatDoor.easeParses
