/- Summaries of plain calls, by the evaluator: bottom-up. -/
import Derived.Test.YtlhldbbcelcclaaGreatDoorEsA
set_option maxRecDepth 1000000
set_option maxHeartbeats 0
namespace Go.Proofs.YtlhldbbcelcclaaGreatDoor.Ev
-- galley/digits.read, 8797 operations
noncomputable def xe0 : FuncId × List Value × Value := (134, [.string ⟨#[48, 50, 53]⟩, .int .i64 (1)], .float .f64 4598175219545276416)
theorem xs0 : PlainOK Tryz.prog xe0.1 xe0.2.1 xe0.2.2 := gives_ok (Sm := SmT []) (d := 100) xok OKs.nil.ok mixed (by decide +kernel)
-- galley/digits.read, 11525 operations
noncomputable def xe1 : FuncId × List Value × Value := (134, [.string ⟨#[48, 49]⟩, .int .i64 (1)], .float .f64 4591870180066957722)
theorem xs1 : PlainOK Tryz.prog xe1.1 xe1.2.1 xe1.2.2 := gives_ok (Sm := SmT []) (d := 100) xok OKs.nil.ok mixed (by decide +kernel)
-- galley/digits.read, 8713 operations
noncomputable def xe2 : FuncId × List Value × Value := (134, [.string ⟨#[49]⟩, .int .i64 (1)], .float .f64 4607182418800017408)
theorem xs2 : PlainOK Tryz.prog xe2.1 xe2.2.1 xe2.2.2 := gives_ok (Sm := SmT []) (d := 100) xok OKs.nil.ok mixed (by decide +kernel)
-- galley/digits.read, 11513 operations
noncomputable def xe3 : FuncId × List Value × Value := (134, [.string ⟨#[50]⟩, .int .i64 (0)], .float .f64 4596373779694328218)
theorem xs3 : PlainOK Tryz.prog xe3.1 xe3.2.1 xe3.2.2 := gives_ok (Sm := SmT []) (d := 100) xok OKs.nil.ok mixed (by decide +kernel)
-- galley/digits.read, 11599 operations
noncomputable def xe4 : FuncId × List Value × Value := (134, [.string ⟨#[51]⟩, .int .i64 (0)], .float .f64 4599075939470750515)
theorem xs4 : PlainOK Tryz.prog xe4.1 xe4.2.1 xe4.2.2 := gives_ok (Sm := SmT []) (d := 100) xok OKs.nil.ok mixed (by decide +kernel)
-- galley/digits.read, 8785 operations
noncomputable def xe5 : FuncId × List Value × Value := (134, [.string ⟨#[50, 53]⟩, .int .i64 (0)], .float .f64 4598175219545276416)
theorem xs5 : PlainOK Tryz.prog xe5.1 xe5.2.1 xe5.2.2 := gives_ok (Sm := SmT []) (d := 100) xok OKs.nil.ok mixed (by decide +kernel)
-- galley/digits.read, 11712 operations
noncomputable def xe6 : FuncId × List Value × Value := (134, [.string ⟨#[50, 54]⟩, .int .i64 (0)], .float .f64 4598355363530371236)
theorem xs6 : PlainOK Tryz.prog xe6.1 xe6.2.1 xe6.2.2 := gives_ok (Sm := SmT []) (d := 100) xok OKs.nil.ok mixed (by decide +kernel)
-- galley/digits.Shortest, 4288 operations
noncomputable def xe7 : FuncId × List Value × Value := (90, [.float .f64 4598175219545276416], .tuple #[.string ⟨#[50, 53]⟩, .int .i64 (0)])
theorem xs7 : PlainOK Tryz.prog xe7.1 xe7.2.1 xe7.2.2 := gives_ok (Sm := SmT [xe3, xe4, xe5, xe6]) (d := 100) xok (OKs.cons xs3 (OKs.cons xs4 (OKs.cons xs5 (OKs.cons xs6 OKs.nil)))).ok mixed (by decide +kernel)
-- galley/digits.read, 11513 operations
noncomputable def xe8 : FuncId × List Value × Value := (134, [.string ⟨#[49]⟩, .int .i64 (0)], .float .f64 4591870180066957722)
theorem xs8 : PlainOK Tryz.prog xe8.1 xe8.2.1 xe8.2.2 := gives_ok (Sm := SmT []) (d := 100) xok OKs.nil.ok mixed (by decide +kernel)
-- galley/digits.Shortest, 2220 operations
noncomputable def xe9 : FuncId × List Value × Value := (90, [.float .f64 4591870180066957722], .tuple #[.string ⟨#[49]⟩, .int .i64 (0)])
theorem xs9 : PlainOK Tryz.prog xe9.1 xe9.2.1 xe9.2.2 := gives_ok (Sm := SmT [xe8, xe3]) (d := 100) xok (OKs.cons xs8 (OKs.cons xs3 OKs.nil)).ok mixed (by decide +kernel)
-- galley/digits.read, 8713 operations
noncomputable def xe10 : FuncId × List Value × Value := (134, [.string ⟨#[50]⟩, .int .i64 (1)], .float .f64 4611686018427387904)
theorem xs10 : PlainOK Tryz.prog xe10.1 xe10.2.1 xe10.2.2 := gives_ok (Sm := SmT []) (d := 100) xok OKs.nil.ok mixed (by decide +kernel)
-- galley/digits.Shortest, 2090 operations
noncomputable def xe11 : FuncId × List Value × Value := (90, [.float .f64 4607182418800017408], .tuple #[.string ⟨#[49]⟩, .int .i64 (1)])
theorem xs11 : PlainOK Tryz.prog xe11.1 xe11.2.1 xe11.2.2 := gives_ok (Sm := SmT [xe2, xe10]) (d := 100) xok (OKs.cons xs2 (OKs.cons xs10 OKs.nil)).ok mixed (by decide +kernel)
-- galley/galleylaw16.alive, 3774 operations
noncomputable def xe12 : FuncId × List Value × Value := (8, [], .bool true)
theorem xs12 : PlainOK Tryz.prog xe12.1 xe12.2.1 xe12.2.2 := gives_ok (Sm := SmT [xe0, xe1, xe2, xe7, xe9, xe11]) (d := 100) xok (OKs.cons xs0 (OKs.cons xs1 (OKs.cons xs2 (OKs.cons xs7 (OKs.cons xs9 (OKs.cons xs11 OKs.nil)))))).ok mixed (by decide +kernel)
end Go.Proofs.YtlhldbbcelcclaaGreatDoor.Ev
