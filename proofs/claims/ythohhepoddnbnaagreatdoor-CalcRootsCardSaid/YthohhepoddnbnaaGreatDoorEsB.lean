/- Summaries of plain calls, by the evaluator: bottom-up. -/
import Derived.Test.YthohhepoddnbnaaGreatDoorEsA
set_option maxRecDepth 1000000
set_option maxHeartbeats 0
namespace Go.Proofs.YthohhepoddnbnaaGreatDoor.Ev
-- galley/digits.read, 8977 operations
noncomputable def xe0 : FuncId × List Value × Value := (199, [.string ⟨#[49, 48]⟩, .int .i64 (2)], .float .f64 4621819117588971520)
theorem xs0 : PlainOK Tryz.prog xe0.1 xe0.2.1 xe0.2.2 := gives_ok (Sm := SmT []) (d := 100) xok OKs.nil.ok mixed (by decide +kernel)
-- galley/digits.read, 8713 operations
noncomputable def xe1 : FuncId × List Value × Value := (199, [.string ⟨#[50]⟩, .int .i64 (1)], .float .f64 4611686018427387904)
theorem xs1 : PlainOK Tryz.prog xe1.1 xe1.2.1 xe1.2.2 := gives_ok (Sm := SmT []) (d := 100) xok OKs.nil.ok mixed (by decide +kernel)
-- galley/digits.read, 8713 operations
noncomputable def xe2 : FuncId × List Value × Value := (199, [.string ⟨#[49]⟩, .int .i64 (1)], .float .f64 4607182418800017408)
theorem xs2 : PlainOK Tryz.prog xe2.1 xe2.2.1 xe2.2.2 := gives_ok (Sm := SmT []) (d := 100) xok OKs.nil.ok mixed (by decide +kernel)
end Go.Proofs.YthohhepoddnbnaaGreatDoor.Ev
