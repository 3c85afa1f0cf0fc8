/- The functions that the model answers, and the program's leave to draw orders. Summaries of plain calls, by the evaluator: bottom-up. awake answers true, where strconv's powers of ten are laid. -/
import Derived.Test.YtjkifbkehochoaaGreatDoorMgEvF
import Derived.Test.YtjkifbkehochoaaGreatDoorProg
import GoSem.Extern.Table
import Derived.KernelRfl
import Derived.Below
set_option maxRecDepth 1000000
namespace Go.Proofs.YtjkifbkehochoaaGreatDoor.Ev
noncomputable def getE (o : Option (Array Value → Sem Value)) : Array Value → Sem Value := match o with
  | some e => e
  | none => fun _ => stuck ""
noncomputable def x11 : Array Value → Sem Value := Extern.MathFloatBits.float64bits
noncomputable def x15 : Array Value → Sem Value := Extern.MathFloatBits.float64frombits
noncomputable def x113 : Array Value → Sem Value := getE (Extern.MathBitsCarry.rows.lookup "math/bits.Add64")
noncomputable def x86 : Array Value → Sem Value := getE (Extern.MathBitsCarry.rows.lookup "math/bits.Sub64")
noncomputable def x130 : Array Value → Sem Value := getE (Extern.MathLog.rows.lookup "math.archLog")
noncomputable def x72 : Array Value → Sem Value := getE (Extern.MathFloor.rows.lookup "math.archFloor")
noncomputable def xs : List (FuncId × (Array Value → Sem Value)) := [(11, x11), (15, x15), (113, x113), (86, x86), (130, x130), (72, x72)]
theorem i11 : IsExt Tryz.prog 11 x11 := ⟨_, Tryz.func11, by kernel_rfl, by kernel_rfl, by kernel_rfl, by kernel_rfl⟩
theorem i15 : IsExt Tryz.prog 15 x15 := ⟨_, Tryz.func15, by kernel_rfl, by kernel_rfl, by kernel_rfl, by kernel_rfl⟩
theorem i113 : IsExt Tryz.prog 113 x113 := ⟨_, Tryz.func113, by kernel_rfl, by kernel_rfl, by kernel_rfl, by kernel_rfl⟩
theorem i86 : IsExt Tryz.prog 86 x86 := ⟨_, Tryz.func86, by kernel_rfl, by kernel_rfl, by kernel_rfl, by kernel_rfl⟩
theorem i130 : IsExt Tryz.prog 130 x130 := ⟨_, Tryz.func130, by kernel_rfl, by kernel_rfl, by kernel_rfl, by kernel_rfl⟩
theorem i72 : IsExt Tryz.prog 72 x72 := ⟨_, Tryz.func72, by kernel_rfl, by kernel_rfl, by kernel_rfl, by kernel_rfl⟩
theorem xok : ExtOK Tryz.prog (XT Tryz.prog xs) := XT_ok fun r hr => by
  simp only [xs, List.mem_cons, List.not_mem_nil, or_false] at hr
  rcases hr with rfl | rfl | rfl | rfl | rfl | rfl
  · exact i11
  · exact i15
  · exact i113
  · exact i86
  · exact i130
  · exact i72
theorem mixed : Tryz.prog.follows .mixedOrders = true := by kernel_rfl
end Go.Proofs.YtjkifbkehochoaaGreatDoor.Ev

set_option maxRecDepth 1000000
set_option maxHeartbeats 0
namespace Go.Proofs.YtjkifbkehochoaaGreatDoor.Ev
/-- the powers of ten that strconv holds -/
noncomputable def xG : List (Nat × List Value) := [(1, [.int .u64 1, .int .u64 10, .int .u64 100, .int .u64 1000, .int .u64 10000, .int .u64 100000, .int .u64 1000000, .int .u64 10000000, .int .u64 100000000, .int .u64 1000000000, .int .u64 10000000000, .int .u64 100000000000, .int .u64 1000000000000, .int .u64 10000000000000, .int .u64 100000000000000, .int .u64 1000000000000000, .int .u64 10000000000000000, .int .u64 100000000000000000, .int .u64 1000000000000000000, .int .u64 10000000000000000000])]
-- galley/digits.read, 9059 operations
noncomputable def xe0 : FuncId × List Value × Value := (28, [.string ⟨#[49, 53]⟩, .int .i64 (2)], .float .f64 4624633867356078080)
theorem xs0 : PlainOK Tryz.prog xe0.1 xe0.2.1 xe0.2.2 := gives_ok (Sm := SmT []) (d := 100) xok OKs.nil.ok mixed (by decide +kernel)
-- galley/digits.read, 9205 operations
noncomputable def xe1 : FuncId × List Value × Value := (28, [.string ⟨#[49]⟩, .int .i64 (3)], .float .f64 4636737291354636288)
theorem xs1 : PlainOK Tryz.prog xe1.1 xe1.2.1 xe1.2.2 := gives_ok (Sm := SmT []) (d := 100) xok OKs.nil.ok mixed (by decide +kernel)
-- galley/digits.read, 9205 operations
noncomputable def xe2 : FuncId × List Value × Value := (28, [.string ⟨#[50]⟩, .int .i64 (3)], .float .f64 4641240890982006784)
theorem xs2 : PlainOK Tryz.prog xe2.1 xe2.2.1 xe2.2.2 := gives_ok (Sm := SmT []) (d := 100) xok OKs.nil.ok mixed (by decide +kernel)
-- galley/digits.read, 9197 operations
noncomputable def xe3 : FuncId × List Value × Value := (28, [.string ⟨#[49, 50]⟩, .int .i64 (3)], .float .f64 4638144666238189568)
theorem xs3 : PlainOK Tryz.prog xe3.1 xe3.2.1 xe3.2.2 := gives_ok (Sm := SmT []) (d := 100) xok OKs.nil.ok mixed (by decide +kernel)
-- galley/digits.read, 9058 operations
noncomputable def xe4 : FuncId × List Value × Value := (28, [.string ⟨#[49, 51]⟩, .int .i64 (3)], .float .f64 4638777984935788544)
theorem xs4 : PlainOK Tryz.prog xe4.1 xe4.2.1 xe4.2.2 := gives_ok (Sm := SmT []) (d := 100) xok OKs.nil.ok mixed (by decide +kernel)
-- galley/digits.read, 9319 operations
noncomputable def xe5 : FuncId × List Value × Value := (28, [.string ⟨#[49, 50, 51]⟩, .int .i64 (3)], .float .f64 4638355772470722560)
theorem xs5 : PlainOK Tryz.prog xe5.1 xe5.2.1 xe5.2.2 := gives_ok (Sm := SmT []) (d := 100) xok OKs.nil.ok mixed (by decide +kernel)
-- galley/digits.read, 9211 operations
noncomputable def xe6 : FuncId × List Value × Value := (28, [.string ⟨#[49, 50, 52]⟩, .int .i64 (3)], .float .f64 4638426141214900224)
theorem xs6 : PlainOK Tryz.prog xe6.1 xe6.2.1 xe6.2.2 := gives_ok (Sm := SmT []) (d := 100) xok OKs.nil.ok mixed (by decide +kernel)
-- galley/digits.Shortest, 6805 operations
noncomputable def xe7 : List (Nat × List Value) × FuncId × List Value × Value := (xG, 16, [.float .f64 4638355772470722560], .tuple #[.string ⟨#[49, 50, 51]⟩, .int .i64 (3)])
theorem xs7 : PlainG Tryz.prog xe7.1 xe7.2.1 xe7.2.2.1 xe7.2.2.2 := givesG_plain (Sm := SmT [xe1, xe2, xe3, xe4, xe5, xe6]) (n := 9) (d := 100) xok (OKs.cons xs1 (OKs.cons xs2 (OKs.cons xs3 (OKs.cons xs4 (OKs.cons xs5 (OKs.cons xs6 OKs.nil)))))).ok mixed (by decide +kernel)
-- galley/digits.read, 8755 operations
noncomputable def xe8 : FuncId × List Value × Value := (28, [.string ⟨#[50, 53]⟩, .int .i64 (1)], .float .f64 4612811918334230528)
theorem xs8 : PlainOK Tryz.prog xe8.1 xe8.2.1 xe8.2.2 := gives_ok (Sm := SmT []) (d := 100) xok OKs.nil.ok mixed (by decide +kernel)
-- galley/digits.read, 12834 operations
noncomputable def xe9 : FuncId × List Value × Value := (28, [.string ⟨#[49]⟩, .int .i64 (22)], .float .f64 4921056587992461136)
theorem xs9 : PlainOK Tryz.prog xe9.1 xe9.2.1 xe9.2.2 := gives_ok (Sm := SmT []) (d := 100) xok OKs.nil.ok mixed (by decide +kernel)
-- galley/digits.read, 12860 operations
noncomputable def xe10 : FuncId × List Value × Value := (28, [.string ⟨#[50]⟩, .int .i64 (22)], .float .f64 4925560187619831632)
theorem xs10 : PlainOK Tryz.prog xe10.1 xe10.2.1 xe10.2.2 := gives_ok (Sm := SmT []) (d := 100) xok OKs.nil.ok mixed (by decide +kernel)
-- galley/digits.Shortest, 4750 operations
noncomputable def xe11 : List (Nat × List Value) × FuncId × List Value × Value := (xG, 16, [.float .f64 4921056587992461136], .tuple #[.string ⟨#[49]⟩, .int .i64 (22)])
theorem xs11 : PlainG Tryz.prog xe11.1 xe11.2.1 xe11.2.2.1 xe11.2.2.2 := givesG_plain (Sm := SmT [xe9, xe10]) (n := 9) (d := 100) xok (OKs.cons xs9 (OKs.cons xs10 OKs.nil)).ok mixed (by decide +kernel)
end Go.Proofs.YtjkifbkehochoaaGreatDoor.Ev

set_option maxRecDepth 1000000
set_option maxHeartbeats 0
namespace Go.Proofs.YtjkifbkehochoaaGreatDoor
open Go.RowKit
theorem awake_plain : Ev.PlainG Tryz.prog Ev.xG 9 [] (.bool true) := Ev.givesG_plain (Sm := Ev.SmOr (Ev.SmG [Ev.xe7, Ev.xe11]) (Ev.SmT [Ev.xe0, Ev.xe8])) (n := 9) (d := 100) Ev.xok ((Ev.OKG.cons Ev.xs7 (Ev.OKG.cons Ev.xs11 Ev.OKG.nil)).ok.or (Ev.OKs.cons Ev.xs0 (Ev.OKs.cons Ev.xs8 Ev.OKs.nil)).ok) Ev.mixed (by decide +kernel)
end Go.Proofs.YtjkifbkehochoaaGreatDoor
