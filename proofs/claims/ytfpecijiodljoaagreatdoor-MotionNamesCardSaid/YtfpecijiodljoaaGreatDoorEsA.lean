/- The functions that the model answers, and the program's leave to draw orders. -/
import Derived.Test.YtfpecijiodljoaaGreatDoorEvG
import Derived.Test.YtfpecijiodljoaaGreatDoorProg
import GoSem.Extern.Table
import Derived.KernelRfl
set_option maxRecDepth 1000000
namespace Go.Proofs.YtfpecijiodljoaaGreatDoor.Ev
noncomputable def getE (o : Option (Array Value → Sem Value)) : Array Value → Sem Value := match o with
  | some e => e
  | none => fun _ => stuck ""
noncomputable def x30 : Array Value → Sem Value := Extern.MathFloatBits.float64bits
noncomputable def x29 : Array Value → Sem Value := Extern.MathFloatBits.float64frombits
noncomputable def x87 : Array Value → Sem Value := getE (Extern.MathFloor.rows.lookup "math.archFloor")
noncomputable def xs : List (FuncId × (Array Value → Sem Value)) := [(30, x30), (29, x29), (87, x87)]
theorem i30 : IsExt Tryz.prog 30 x30 := ⟨_, Tryz.func30, by kernel_rfl, by kernel_rfl, by kernel_rfl, by kernel_rfl⟩
theorem i29 : IsExt Tryz.prog 29 x29 := ⟨_, Tryz.func29, by kernel_rfl, by kernel_rfl, by kernel_rfl, by kernel_rfl⟩
theorem i87 : IsExt Tryz.prog 87 x87 := ⟨_, Tryz.func87, by kernel_rfl, by kernel_rfl, by kernel_rfl, by kernel_rfl⟩
theorem xok : ExtOK Tryz.prog (XT Tryz.prog xs) := XT_ok fun r hr => by
  simp only [xs, List.mem_cons, List.not_mem_nil, or_false] at hr
  rcases hr with rfl | rfl | rfl
  · exact i30
  · exact i29
  · exact i87
theorem mixed : Tryz.prog.follows .mixedOrders = true := by kernel_rfl
end Go.Proofs.YtfpecijiodljoaaGreatDoor.Ev
