/- The functions that the model answers, and the program's leave to draw orders. -/
import Derived.Test.YtlhldbbcelcclaaGreatDoorEvG
import Derived.Test.YtlhldbbcelcclaaGreatDoorProg
import GoSem.Extern.Table
import Derived.KernelRfl
set_option maxRecDepth 1000000
namespace Go.Proofs.YtlhldbbcelcclaaGreatDoor.Ev
noncomputable def getE (o : Option (Array Value → Sem Value)) : Array Value → Sem Value := match o with
  | some e => e
  | none => fun _ => stuck ""
noncomputable def x147 : Array Value → Sem Value := getE (Extern.BytealgCount.rows.lookup "internal/bytealg.CountString")
noncomputable def x191 : Array Value → Sem Value := getE (Extern.MathBitsCarry.rows.lookup "math/bits.Sub64")
noncomputable def x196 : Array Value → Sem Value := getE (Extern.BytealgIndexByte.rows.lookup "internal/bytealg.IndexByteString")
noncomputable def x217 : Array Value → Sem Value := getE (Extern.MathBitsCarry.rows.lookup "math/bits.Add64")
noncomputable def x225 : Array Value → Sem Value := getE (Extern.MathLog.rows.lookup "math.archLog")
noncomputable def x33 : Array Value → Sem Value := Extern.MathFloatBits.float64frombits
noncomputable def x66 : Array Value → Sem Value := Extern.MathFloatBits.float64bits
noncomputable def x92 : Array Value → Sem Value := getE (Extern.MathFloor.rows.lookup "math.archFloor")
noncomputable def xs : List (FuncId × (Array Value → Sem Value)) := [(191, x191), (66, x66), (33, x33), (217, x217), (147, x147), (196, x196), (225, x225), (92, x92)]
theorem i147 : IsExt Tryz.prog 147 x147 := ⟨_, Tryz.func147, by kernel_rfl, by kernel_rfl, by kernel_rfl, by kernel_rfl⟩
theorem i191 : IsExt Tryz.prog 191 x191 := ⟨_, Tryz.func191, by kernel_rfl, by kernel_rfl, by kernel_rfl, by kernel_rfl⟩
theorem i196 : IsExt Tryz.prog 196 x196 := ⟨_, Tryz.func196, by kernel_rfl, by kernel_rfl, by kernel_rfl, by kernel_rfl⟩
theorem i217 : IsExt Tryz.prog 217 x217 := ⟨_, Tryz.func217, by kernel_rfl, by kernel_rfl, by kernel_rfl, by kernel_rfl⟩
theorem i225 : IsExt Tryz.prog 225 x225 := ⟨_, Tryz.func225, by kernel_rfl, by kernel_rfl, by kernel_rfl, by kernel_rfl⟩
theorem i33 : IsExt Tryz.prog 33 x33 := ⟨_, Tryz.func33, by kernel_rfl, by kernel_rfl, by kernel_rfl, by kernel_rfl⟩
theorem i66 : IsExt Tryz.prog 66 x66 := ⟨_, Tryz.func66, by kernel_rfl, by kernel_rfl, by kernel_rfl, by kernel_rfl⟩
theorem i92 : IsExt Tryz.prog 92 x92 := ⟨_, Tryz.func92, by kernel_rfl, by kernel_rfl, by kernel_rfl, by kernel_rfl⟩
theorem xok : ExtOK Tryz.prog (XT Tryz.prog xs) := XT_ok fun r hr => by
  simp only [xs, List.mem_cons, List.not_mem_nil, or_false] at hr
  rcases hr with rfl | rfl | rfl | rfl | rfl | rfl | rfl | rfl
  · exact i191
  · exact i66
  · exact i33
  · exact i217
  · exact i147
  · exact i196
  · exact i225
  · exact i92
theorem mixed : Tryz.prog.follows .mixedOrders = true := by kernel_rfl
end Go.Proofs.YtlhldbbcelcclaaGreatDoor.Ev
