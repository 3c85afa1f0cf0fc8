/- The walk of EaseSteps, as the card wants it. -/
import Derived.Test.YtlgencbldbpbdaaGreatDoorMgEbU
import Derived.Test.YtlgencbldbpbdaaGreatDoorEwA
namespace Go.Proofs.YtlgencbldbpbdaaGreatDoor
open Go.RowKit Fl
theorem wf_i64 {z : Int} (h : (Lit.int .i64 z).wf = true) : -9223372036854775808 ≤ z ∧ z ≤ 9223372036854775807 := by
  simp [Lit.wf, IntKind.min, IntKind.max, IntKind.signed, IntKind.bits] at h
  omega
theorem U_wf {x : Nat} (h : (Lit.float .f64 x).wf = true) : U x := by
  unfold U
  simpa [Lit.wf] using h
theorem walkSteps (W : World) (hL : laidMetH Tryz.prog Rows.easeStepsRow.laid W) (hS : W.ShapedOpen Tryz.prog) (n : Int) (wn : (Lit.int .i64 n).wf = true) (k : Int) (wk : (Lit.int .i64 k).wf = true) (x : Nat) (wx : (Lit.float .f64 x).wf = true) (y : Nat) (wy : (Lit.float .f64 y).wf = true) :
    Calls Tryz.prog 5 #[.int .i64 n, .int .i64 k, .float .f64 x, .float .f64 y] W fun e w' => e = .returned (.bool true) ∧ Below W.heap.size W w' :=
  walkEaseSteps n k x y W (ew_steps hL hS) (wf_i64 wn).1 (wf_i64 wn).2 (wf_i64 wk).1 (wf_i64 wk).2 (U_wf wx) (U_wf wy)
end Go.Proofs.YtlgencbldbpbdaaGreatDoor
