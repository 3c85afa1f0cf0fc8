/- Summaries of plain calls, by the evaluator: bottom-up. -/
import Derived.Test.YtphoggimeaejnaaGreatDoorEsA
set_option maxRecDepth 1000000
set_option maxHeartbeats 0
namespace Go.Proofs.YtphoggimeaejnaaGreatDoor.Ev
-- galley/digits.read, 8713 operations
noncomputable def xe0 : FuncId × List Value × Value := (209, [.string ⟨#[50]⟩, .int .i64 (1)], .float .f64 4611686018427387904)
theorem xs0 : PlainOK Tryz.prog xe0.1 xe0.2.1 xe0.2.2 := gives_ok (Sm := SmT []) (d := 100) xok OKs.nil.ok mixed (by decide +kernel)
-- galley/digits.read, 8977 operations
noncomputable def xe1 : FuncId × List Value × Value := (209, [.string ⟨#[49, 48]⟩, .int .i64 (2)], .float .f64 4621819117588971520)
theorem xs1 : PlainOK Tryz.prog xe1.1 xe1.2.1 xe1.2.2 := gives_ok (Sm := SmT []) (d := 100) xok OKs.nil.ok mixed (by decide +kernel)
-- galley/digits.read, 8959 operations
noncomputable def xe2 : FuncId × List Value × Value := (209, [.string ⟨#[49]⟩, .int .i64 (2)], .float .f64 4621819117588971520)
theorem xs2 : PlainOK Tryz.prog xe2.1 xe2.2.1 xe2.2.2 := gives_ok (Sm := SmT []) (d := 100) xok OKs.nil.ok mixed (by decide +kernel)
-- galley/digits.read, 8959 operations
noncomputable def xe3 : FuncId × List Value × Value := (209, [.string ⟨#[50]⟩, .int .i64 (2)], .float .f64 4626322717216342016)
theorem xs3 : PlainOK Tryz.prog xe3.1 xe3.2.1 xe3.2.2 := gives_ok (Sm := SmT []) (d := 100) xok OKs.nil.ok mixed (by decide +kernel)
-- galley/digits.Shortest, 2504 operations
noncomputable def xe4 : FuncId × List Value × Value := (302, [.float .f64 4621819117588971520], .tuple #[.string ⟨#[49]⟩, .int .i64 (2)])
theorem xs4 : PlainOK Tryz.prog xe4.1 xe4.2.1 xe4.2.2 := gives_ok (Sm := SmT [xe2, xe3]) (d := 100) xok (OKs.cons xs2 (OKs.cons xs3 OKs.nil)).ok mixed (by decide +kernel)
-- galley/digits.read, 8810 operations
noncomputable def xe5 : FuncId × List Value × Value := (209, [.string ⟨#[51]⟩, .int .i64 (1)], .float .f64 4613937818241073152)
theorem xs5 : PlainOK Tryz.prog xe5.1 xe5.2.1 xe5.2.2 := gives_ok (Sm := SmT []) (d := 100) xok OKs.nil.ok mixed (by decide +kernel)
-- galley/digits.read, 8713 operations
noncomputable def xe6 : FuncId × List Value × Value := (209, [.string ⟨#[49]⟩, .int .i64 (1)], .float .f64 4607182418800017408)
theorem xs6 : PlainOK Tryz.prog xe6.1 xe6.2.1 xe6.2.2 := gives_ok (Sm := SmT []) (d := 100) xok OKs.nil.ok mixed (by decide +kernel)
-- galley/digits.Shortest, 2090 operations
noncomputable def xe7 : FuncId × List Value × Value := (302, [.float .f64 4607182418800017408], .tuple #[.string ⟨#[49]⟩, .int .i64 (1)])
theorem xs7 : PlainOK Tryz.prog xe7.1 xe7.2.1 xe7.2.2 := gives_ok (Sm := SmT [xe6, xe0]) (d := 100) xok (OKs.cons xs6 (OKs.cons xs0 OKs.nil)).ok mixed (by decide +kernel)
-- galley/style.hundredths, 3056 operations
noncomputable def xe8 : FuncId × List Value × Value := (155, [.string ⟨#[49, 112, 120, 32, 43, 32, 49, 48, 37]⟩], .tuple #[.float .f64 4607182418800017408, .bool false])
theorem xs8 : PlainOK Tryz.prog xe8.1 xe8.2.1 xe8.2.2 := gives_ok (Sm := SmT [xe6, xe1, xe7, xe4]) (d := 100) xok (OKs.cons xs6 (OKs.cons xs1 (OKs.cons xs7 (OKs.cons xs4 OKs.nil)))).ok mixed (by decide +kernel)
end Go.Proofs.YtphoggimeaejnaaGreatDoor.Ev
