/- The functions that the model answers, and the program's leave to draw orders. -/
import Derived.Test.YtphoggimeaejnaaGreatDoorEvG
import Derived.Test.YtphoggimeaejnaaGreatDoorProg
import GoSem.Extern.Table
import Derived.KernelRfl
set_option maxRecDepth 1000000
namespace Go.Proofs.YtphoggimeaejnaaGreatDoor.Ev
noncomputable def getE (o : Option (Array Value → Sem Value)) : Array Value → Sem Value := match o with
  | some e => e
  | none => fun _ => stuck ""
noncomputable def x20 : Array Value → Sem Value := Extern.MathFloatBits.float64bits
noncomputable def x107 : Array Value → Sem Value := Extern.MathFloatBits.float64frombits
noncomputable def x308 : Array Value → Sem Value := getE (Extern.MathBitsCarry.rows.lookup "math/bits.Add64")
noncomputable def x322 : Array Value → Sem Value := getE (Extern.MathBitsCarry.rows.lookup "math/bits.Sub64")
noncomputable def x296 : Array Value → Sem Value := getE (Extern.BytealgIndexByte.rows.lookup "internal/bytealg.IndexByteString")
noncomputable def x347 : Array Value → Sem Value := getE (Extern.MathFloor.rows.lookup "math.archFloor")
noncomputable def x368 : Array Value → Sem Value := getE (Extern.MathLog.rows.lookup "math.archLog")
noncomputable def xs : List (FuncId × (Array Value → Sem Value)) := [(20, x20), (107, x107), (308, x308), (322, x322), (296, x296), (347, x347), (368, x368)]
theorem i20 : IsExt Tryz.prog 20 x20 := ⟨_, Tryz.func20, by kernel_rfl, by kernel_rfl, by kernel_rfl, by kernel_rfl⟩
theorem i107 : IsExt Tryz.prog 107 x107 := ⟨_, Tryz.func107, by kernel_rfl, by kernel_rfl, by kernel_rfl, by kernel_rfl⟩
theorem i308 : IsExt Tryz.prog 308 x308 := ⟨_, Tryz.func308, by kernel_rfl, by kernel_rfl, by kernel_rfl, by kernel_rfl⟩
theorem i322 : IsExt Tryz.prog 322 x322 := ⟨_, Tryz.func322, by kernel_rfl, by kernel_rfl, by kernel_rfl, by kernel_rfl⟩
theorem i296 : IsExt Tryz.prog 296 x296 := ⟨_, Tryz.func296, by kernel_rfl, by kernel_rfl, by kernel_rfl, by kernel_rfl⟩
theorem i347 : IsExt Tryz.prog 347 x347 := ⟨_, Tryz.func347, by kernel_rfl, by kernel_rfl, by kernel_rfl, by kernel_rfl⟩
theorem i368 : IsExt Tryz.prog 368 x368 := ⟨_, Tryz.func368, by kernel_rfl, by kernel_rfl, by kernel_rfl, by kernel_rfl⟩
theorem xok : ExtOK Tryz.prog (XT Tryz.prog xs) := XT_ok fun r hr => by
  simp only [xs, List.mem_cons, List.not_mem_nil, or_false] at hr
  rcases hr with rfl | rfl | rfl | rfl | rfl | rfl | rfl
  · exact i20
  · exact i107
  · exact i308
  · exact i322
  · exact i296
  · exact i347
  · exact i368
theorem mixed : Tryz.prog.follows .mixedOrders = true := by kernel_rfl
end Go.Proofs.YtphoggimeaejnaaGreatDoor.Ev
