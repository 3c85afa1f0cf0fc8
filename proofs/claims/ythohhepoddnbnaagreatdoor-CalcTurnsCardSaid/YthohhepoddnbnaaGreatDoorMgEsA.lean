/- The functions that the model answers, and the program's leave to draw orders. Summaries of plain calls, by the evaluator: bottom-up. -/
import Derived.Test.YthohhepoddnbnaaGreatDoorMgEvF
import Derived.Test.YthohhepoddnbnaaGreatDoorProg
import GoSem.Extern.Table
import Derived.KernelRfl
set_option maxRecDepth 1000000
namespace Go.Proofs.YthohhepoddnbnaaGreatDoor.Ev
noncomputable def getE (o : Option (Array Value → Sem Value)) : Array Value → Sem Value := match o with
  | some e => e
  | none => fun _ => stuck ""
noncomputable def x63 : Array Value → Sem Value := Extern.MathFloatBits.float64bits
noncomputable def x62 : Array Value → Sem Value := Extern.MathFloatBits.float64frombits
noncomputable def x83 : Array Value → Sem Value := getE (Extern.MathBitsCarry.rows.lookup "math/bits.Add64")
noncomputable def x92 : Array Value → Sem Value := getE (Extern.MathBitsCarry.rows.lookup "math/bits.Sub64")
noncomputable def x91 : Array Value → Sem Value := getE (Extern.MathSqrt.rows.lookup "math.sqrt")
noncomputable def xs : List (FuncId × (Array Value → Sem Value)) := [(63, x63), (62, x62), (83, x83), (92, x92), (91, x91)]
theorem i63 : IsExt Tryz.prog 63 x63 := ⟨_, Tryz.func63, by kernel_rfl, by kernel_rfl, by kernel_rfl, by kernel_rfl⟩
theorem i62 : IsExt Tryz.prog 62 x62 := ⟨_, Tryz.func62, by kernel_rfl, by kernel_rfl, by kernel_rfl, by kernel_rfl⟩
theorem i83 : IsExt Tryz.prog 83 x83 := ⟨_, Tryz.func83, by kernel_rfl, by kernel_rfl, by kernel_rfl, by kernel_rfl⟩
theorem i92 : IsExt Tryz.prog 92 x92 := ⟨_, Tryz.func92, by kernel_rfl, by kernel_rfl, by kernel_rfl, by kernel_rfl⟩
theorem i91 : IsExt Tryz.prog 91 x91 := ⟨_, Tryz.func91, by kernel_rfl, by kernel_rfl, by kernel_rfl, by kernel_rfl⟩
theorem xok : ExtOK Tryz.prog (XT Tryz.prog xs) := XT_ok fun r hr => by
  simp only [xs, List.mem_cons, List.not_mem_nil, or_false] at hr
  rcases hr with rfl | rfl | rfl | rfl | rfl
  · exact i63
  · exact i62
  · exact i83
  · exact i92
  · exact i91
theorem mixed : Tryz.prog.follows .mixedOrders = true := by kernel_rfl
end Go.Proofs.YthohhepoddnbnaaGreatDoor.Ev

set_option maxRecDepth 1000000
set_option maxHeartbeats 0
namespace Go.Proofs.YthohhepoddnbnaaGreatDoor.Ev
-- galley/digits.read, 8977 operations
noncomputable def xe0 : FuncId × List Value × Value := (199, [.string ⟨#[49, 48]⟩, .int .i64 (2)], .float .f64 4621819117588971520)
theorem xs0 : PlainOK Tryz.prog xe0.1 xe0.2.1 xe0.2.2 := gives_ok (Sm := SmT []) (d := 100) xok OKs.nil.ok mixed (by decide +kernel)
-- galley/digits.read, 8713 operations
noncomputable def xe1 : FuncId × List Value × Value := (199, [.string ⟨#[50]⟩, .int .i64 (1)], .float .f64 4611686018427387904)
theorem xs1 : PlainOK Tryz.prog xe1.1 xe1.2.1 xe1.2.2 := gives_ok (Sm := SmT []) (d := 100) xok OKs.nil.ok mixed (by decide +kernel)
-- galley/digits.read, 8713 operations
noncomputable def xe2 : FuncId × List Value × Value := (199, [.string ⟨#[49]⟩, .int .i64 (1)], .float .f64 4607182418800017408)
theorem xs2 : PlainOK Tryz.prog xe2.1 xe2.2.1 xe2.2.2 := gives_ok (Sm := SmT []) (d := 100) xok OKs.nil.ok mixed (by decide +kernel)
end Go.Proofs.YthohhepoddnbnaaGreatDoor.Ev
