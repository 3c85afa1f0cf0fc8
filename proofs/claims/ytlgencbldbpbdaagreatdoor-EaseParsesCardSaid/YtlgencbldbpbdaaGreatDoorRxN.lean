/- errors.As at **api.Fault, where the error's own type is the target's: true, the target is set. (Began as lines of the kit's worked example ToyasAs.) -/
import Derived.Test.YtlgencbldbpbdaaGreatDoorProg
import Derived.Test.YtlgencbldbpbdaaGreatDoorMgRxB
import Derived.Below
import Derived.WalkKit
import Derived.LaidEql
import Derived.Stop.Asserts
import Derived.RowKitTokens
namespace Go.Proofs.YtlgencbldbpbdaaGreatDoor
open Go.RowKit Go.Extern.Stop Go.Stop Go.Extern Fl
theorem Tryz.valueOf27 (t : Addr) (w : World) : (ReflectliteValue.unpack (.iface 113 (.pointer (some t)))).run Tryz.prog w
  = .ok (.agg #[.pointer (some ⟨10, 113, none⟩), .pointer (some ⟨w.heap.size, 0, none⟩), .int .u64 150]) (w.alloc (.cells #[.pointer (some t)] 113)) := by kernel_rfl
theorem Tryz.type27 (a : Addr) (w : World) : (ReflectliteValue.methodAny (ReflectliteValue.valueError "reflectlite.Value.Type" 0) (fun t _ _ _ => ReflectliteType.toType t) #[.agg #[.pointer (some ⟨10, 113, none⟩), .pointer (some a), .int .u64 150]]).run Tryz.prog w
  = .ok (.iface 218 (.agg #[.pointer (some ⟨10, 113, none⟩)])) w := by kernel_rfl
theorem Tryz.methodKind (h : Value) (w : World) : (Go.method 462 218 (.agg #[h]) "Kind").run Tryz.prog w = .ok (310, h) w := by kernel_rfl
theorem Tryz.kind27 (w : World) : ((ReflectliteType.abiMethod fun t => (fun a : Nat => Value.int IntKind.u8 (a : Int)) <$> Rtype.kind t) #[.pointer (some ⟨10, 113, none⟩)]).run Tryz.prog w = .ok (.int .u8 22) w := by kernel_rfl
theorem Tryz.kind25 (w : World) : ((ReflectliteType.abiMethod fun t => (fun a : Nat => Value.int IntKind.u8 (a : Int)) <$> Rtype.kind t) #[.pointer (some ⟨10, 111, none⟩)]).run Tryz.prog w = .ok (.int .u8 22) w := by kernel_rfl
theorem rlm (z : Sem Value) (f : TypeId → Addr → Nat → Nat → Sem Value) (v : Value) :
  ReflectliteValue.method z f #[v] = (do match ← ReflectliteValue.parts v with | none => z | some (t, a, fl) => f t a fl (fl % 32)) := rfl
theorem Tryz.parts27 (a : Addr) (w : World) : (ReflectliteValue.parts (.agg #[.pointer (some ⟨10, 113, none⟩), .pointer (some a), .int .u64 150])).run Tryz.prog w = .ok (some (113, a, 150)) w := by kernel_rfl
theorem Tryz.isNil27 (a p : Addr) (W : World) (ha : W.cell? a = some (.pointer (some p))) :
  (ReflectliteValue.method (ReflectliteValue.valueError "reflectlite.Value.IsNil" 0) ReflectliteValue.isNil #[.agg #[.pointer (some ⟨10, 113, none⟩), .pointer (some a), .int .u64 150]]).run Tryz.prog W = .ok (.bool false) W := by
 rw [rlm]
 simp only [Sem.run_bind, Tryz.parts27, Result.andThen]
 simp [ReflectliteValue.isNil, loadVar, isAgg, underlying, Tryz.underlying113, ha, Result.andThen]
theorem Tryz.methodElem (h : Value) (w : World) : (Go.method 462 218 (.agg #[h]) "Elem").run Tryz.prog w = .ok (323, .agg #[h]) w := by kernel_rfl
theorem Tryz.methodImplements (h : Value) (w : World) : (Go.method 462 218 (.agg #[h]) "Implements").run Tryz.prog w = .ok (324, .agg #[h]) w := by kernel_rfl
theorem Tryz.methodAssignableTo (h : Value) (w : World) : (Go.method 462 218 (.agg #[h]) "AssignableTo").run Tryz.prog w = .ok (321, .agg #[h]) w := by kernel_rfl
theorem Tryz.elem27 (w : World) : (ReflectliteType.method ReflectliteType.elem #[.agg #[.pointer (some ⟨10, 113, none⟩)]]).run Tryz.prog w = .ok (.iface 218 (.agg #[.pointer (some ⟨10, 111, none⟩)])) w := by kernel_rfl
theorem Tryz.implements25 (w : World) : (ReflectliteType.relation "Implements" ReflectliteType.implements_ #[.agg #[.pointer (some ⟨10, 111, none⟩)], .iface 218 (.agg #[.pointer (some ⟨10, 26, none⟩)])]).run Tryz.prog w = .ok (.bool true) w := by kernel_rfl
theorem Tryz.typeOf25 (v : Value) (w : World) : (ReflectliteType.typeOf #[.iface 111 v]).run Tryz.prog w = .ok (.iface 218 (.agg #[.pointer (some ⟨10, 111, none⟩)])) w := by kernel_rfl
theorem Tryz.assignable25 (w : World) : (ReflectliteType.relation "AssignableTo" ReflectliteType.assignableTo #[.agg #[.pointer (some ⟨10, 111, none⟩)], .iface 218 (.agg #[.pointer (some ⟨10, 111, none⟩)])]).run Tryz.prog w = .ok (.bool true) w := by kernel_rfl
theorem Tryz.valueOf25 (e : Addr) (w : World) : (ReflectliteValue.unpack (.iface 111 (.pointer (some e)))).run Tryz.prog w
  = .ok (.agg #[.pointer (some ⟨10, 111, none⟩), .pointer (some ⟨w.heap.size, 0, none⟩), .int .u64 150]) (w.alloc (.cells #[.pointer (some e)] 111)) := by kernel_rfl
theorem Tryz.elemOf27 (w : World) : (Rtype.elem? 113).run Tryz.prog w = .ok (some 111) w := by kernel_rfl
theorem Tryz.mk25 (p : Addr) (w : World) : (ReflectliteValue.mk 111 p ReflectliteValue.flagAddr).run Tryz.prog w = .ok (.agg #[.pointer (some ⟨10, 111, none⟩), .pointer (some p), .int .u64 406]) w := by kernel_rfl
theorem Tryz.elemV27 (a p : Addr) (W : World) (ha : W.cell? a = some (.pointer (some p))) :
  (ReflectliteValue.method (ReflectliteValue.valueError "reflectlite.Value.Elem" 0) ReflectliteValue.elem #[.agg #[.pointer (some ⟨10, 113, none⟩), .pointer (some a), .int .u64 150]]).run Tryz.prog W
   = .ok (.agg #[.pointer (some ⟨10, 111, none⟩), .pointer (some p), .int .u64 406]) W := by
 rw [rlm]
 simp only [Sem.run_bind, Tryz.parts27, Result.andThen]
 simp [ReflectliteValue.elem, loadVar, isAgg, underlying, Tryz.underlying113, ha, Result.andThen, Tryz.elemOf27, Tryz.mk25]
theorem rls (v x : Value) : ReflectliteValue.set #[v, x] = (do
  let (some (dst, a, fl), some (src, b, _)) := (← ReflectliteValue.parts v, ← ReflectliteValue.parts x)
   | unsupported (.noEntry "extern/(internal/reflectlite.Value).Set.zeroValue")
  if fl / ReflectliteValue.flagAddr % 2 == 0 then unsupported (.noEntry "extern/(internal/reflectlite.Value).Set.unaddressable")
  let val ← loadVar src b
  if ← Rtype.directlyAssignable dst src then storeVar dst a val
  else if ← Rtype.implements dst src then
   if (← Rtype.kind src) == 20 then
    match val with
    | .nilIface => unsupported (.noEntry "extern/reflectlite: a nil value of one interface type handed on as a value of another")
    | _ => storeVar dst a val
   else storeVar dst a (.iface src val)
  else panicString ("reflectlite.Set: value of type " ++ (← Rtype.spelt src) ++ " is not assignable to type " ++ (← Rtype.spelt dst))
  pure (.tuple #[])) := rfl
theorem Tryz.parts25a (a : Addr) (w : World) : (ReflectliteValue.parts (.agg #[.pointer (some ⟨10, 111, none⟩), .pointer (some a), .int .u64 406])).run Tryz.prog w = .ok (some (111, a, 406)) w := by kernel_rfl
theorem Tryz.parts25 (a : Addr) (w : World) : (ReflectliteValue.parts (.agg #[.pointer (some ⟨10, 111, none⟩), .pointer (some a), .int .u64 150])).run Tryz.prog w = .ok (some (111, a, 150)) w := by kernel_rfl
theorem Tryz.direct25 (w : World) : (Rtype.directlyAssignable 111 111).run Tryz.prog w = .ok true w := by kernel_rfl
theorem Tryz.set25 (ta b e : Addr) (old : Value) (W : World) (hb : W.cell? b = some (.pointer (some e))) (ht : W.cell? ta = some old) (hf : W.frozen? ta = false) :
  (ReflectliteValue.set #[.agg #[.pointer (some ⟨10, 111, none⟩), .pointer (some ta), .int .u64 406], .agg #[.pointer (some ⟨10, 111, none⟩), .pointer (some b), .int .u64 150]]).run Tryz.prog W
   = .ok (.tuple #[]) (W.setCell ta (.pointer (some e))) := by
 rw [rls]
 simp only [Sem.run_bind, Tryz.parts25a, Tryz.parts25, Result.andThen]
 simp [ReflectliteValue.flagAddr, loadVar, isAgg, underlying, Tryz.underlying111, hb, Result.andThen, Tryz.direct25, storeVar, Value.cells, storeCells, Addr.add]
 rw [run_store Tryz.prog W ta _ _ (by rfl)]
 simp [ht, hf]
set_option maxHeartbeats 4000000 in
theorem as_hit (e t : Addr) (old : Value) (w : World) (hg : w.cell? ⟨1, 0, none⟩ = some (.iface 218 (.agg #[.pointer (some ⟨10, 26, none⟩)]))) (ht0 : w.cell? t = some old) (hf0 : w.frozen? t = false) :
  Calls Tryz.prog 59 #[.iface 111 (.pointer (some e)), .iface 113 (.pointer (some t))] w fun ev w' => ev = .returned (.bool true) ∧ w' = ((((w.alloc (.cells #[.pointer (some t)] 113)).alloc (.cells #[.pointer (some ⟨10, 113, none⟩), .pointer (some ⟨w.heap.size, 0, none⟩), .int .u64 150] 167)).alloc (.cells #[.pointer (some ⟨10, 113, none⟩), .pointer (some ⟨w.heap.size, 0, none⟩), .int .u64 150] 167)).alloc (.cells #[.pointer (some e)] 111)).setCell t (.pointer (some e)) := by
 have h6 := @run_callFunc_extern Tryz.prog 103 _ (fun args => ReflectliteValue.unpack (args.getD 0 (.tuple #[]))) Tryz.func103 (by kernel_rfl) (by kernel_rfl) (by kernel_rfl) (by kernel_rfl)
 have h7 := @run_callFunc_extern Tryz.prog 104 _ (ReflectliteValue.methodAny (ReflectliteValue.valueError "reflectlite.Value.Type" 0) (fun t _ _ _ => ReflectliteType.toType t)) Tryz.func104 (by kernel_rfl) (by kernel_rfl) (by kernel_rfl) (by kernel_rfl)
 have h8 := @run_callFunc_extern Tryz.prog 105 _ (ReflectliteValue.method (ReflectliteValue.valueError "reflectlite.Value.IsNil" 0) ReflectliteValue.isNil) Tryz.func105 (by kernel_rfl) (by kernel_rfl) (by kernel_rfl) (by kernel_rfl)
 have h27 := @run_callFunc_extern Tryz.prog 310 _ (ReflectliteType.abiMethod fun t => do pure (.int .u8 (← Rtype.kind t))) Tryz.func310 (by kernel_rfl) (by kernel_rfl) (by kernel_rfl) (by kernel_rfl)
 have h37 := @run_callFunc_extern Tryz.prog 323 _ (ReflectliteType.method ReflectliteType.elem) Tryz.func323 (by kernel_rfl) (by kernel_rfl) (by kernel_rfl) (by kernel_rfl)
 have h38 := @run_callFunc_extern Tryz.prog 324 _ (ReflectliteType.relation "Implements" ReflectliteType.implements_) Tryz.func324 (by kernel_rfl) (by kernel_rfl) (by kernel_rfl) (by kernel_rfl)
 have h10 := @run_callFunc_extern Tryz.prog 158 _ ReflectliteType.typeOf Tryz.func158 (by kernel_rfl) (by kernel_rfl) (by kernel_rfl) (by kernel_rfl)
 have h35 := @run_callFunc_extern Tryz.prog 321 _ (ReflectliteType.relation "AssignableTo" ReflectliteType.assignableTo) Tryz.func321 (by kernel_rfl) (by kernel_rfl) (by kernel_rfl) (by kernel_rfl)
 have h11 := @run_callFunc_extern Tryz.prog 159 _ (ReflectliteValue.method (ReflectliteValue.valueError "reflectlite.Value.Elem" 0) ReflectliteValue.elem) Tryz.func159 (by kernel_rfl) (by kernel_rfl) (by kernel_rfl) (by kernel_rfl)
 have h12 := @run_callFunc_extern Tryz.prog 160 _ ReflectliteValue.set Tryz.func160 (by kernel_rfl) (by kernel_rfl) (by kernel_rfl) (by kernel_rfl)
 have tO := Tryz.typeOf25
 have mA := Tryz.methodAssignableTo
 have a25 := Tryz.assignable25
 have v25 := Tryz.valueOf25
 have f6 := Tryz.valueOf27
 have f7 := Tryz.type27
 have mK := Tryz.methodKind
 have mE := Tryz.methodElem
 have mI := Tryz.methodImplements
 have k27 := Tryz.kind27
 have k25 := Tryz.kind25
 have e27 := Tryz.elem27
 have i25 := Tryz.implements25
 have n8 := Tryz.isNil27 ⟨w.heap.size, 0, none⟩ t ((w.alloc (.cells #[.pointer (some t)] 113)).alloc (.cells #[.pointer (some ⟨10, 113, none⟩), .pointer (some ⟨w.heap.size, 0, none⟩), .int .u64 150] 167)) (by simp)
 have hlt : 1 < w.heap.size := by
  rcases Nat.lt_or_ge 1 w.heap.size with h | h
  ·exact h
  ·simp [World.cell?, Array.getElem?_eq_none h] at hg
 have hg2 : ((w.alloc (.cells #[.pointer (some t)] 113)).alloc (.cells #[.pointer (some ⟨10, 113, none⟩), .pointer (some ⟨w.heap.size, 0, none⟩), .int .u64 150] 167)).cell? ⟨1, 0, none⟩ = some (.iface 218 (.agg #[.pointer (some ⟨10, 26, none⟩)])) := by
  rw [World.cell?_alloc_lt _ _ ⟨1, 0, none⟩ (by simp <;> omega), World.cell?_alloc_lt _ _ ⟨1, 0, none⟩ hlt]; exact hg
 have htl : t.block < w.heap.size := by
  rcases Nat.lt_or_ge t.block w.heap.size with h | h
  ·exact h
  ·simp [World.cell?, Array.getElem?_eq_none h] at ht0
 have el := Tryz.elemV27 ⟨w.heap.size, 0, none⟩ t (((w.alloc (.cells #[.pointer (some t)] 113)).alloc (.cells #[.pointer (some ⟨10, 113, none⟩), .pointer (some ⟨w.heap.size, 0, none⟩), .int .u64 150] 167)).alloc (.cells #[.pointer (some ⟨10, 113, none⟩), .pointer (some ⟨w.heap.size, 0, none⟩), .int .u64 150] 167)) (by rw [World.cell?_alloc_lt _ _ ⟨w.heap.size, 0, none⟩ (by simp; omega)]; simp)
 have st := Tryz.set25 t ⟨w.heap.size + 1 + 1 + 1, 0, none⟩ e old ((((w.alloc (.cells #[.pointer (some t)] 113)).alloc (.cells #[.pointer (some ⟨10, 113, none⟩), .pointer (some ⟨w.heap.size, 0, none⟩), .int .u64 150] 167)).alloc (.cells #[.pointer (some ⟨10, 113, none⟩), .pointer (some ⟨w.heap.size, 0, none⟩), .int .u64 150] 167)).alloc (.cells #[.pointer (some e)] 111))
  (by rw [World.cell?_alloc_at _ _ _ _ (by simp)]; rfl)
  (by rw [World.cell?_alloc_lt _ _ t (by simp; omega), World.cell?_alloc_lt _ _ t (by simp; omega), World.cell?_alloc_lt _ _ t (by simp; omega), World.cell?_alloc_lt _ _ t htl]; exact ht0)
  (by rw [World.frozen?_alloc_old _ _ t (by simp; omega), World.frozen?_alloc_old _ _ t (by simp; omega), World.frozen?_alloc_old _ _ t (by simp; omega), World.frozen?_alloc_old _ _ t (Nat.ne_of_lt htl)]; exact hf0)
 go_enter Tryz.func59, Tryz.ntmps59
 go_wp2
 refine wp_loop_rounds 1 ?_
 rw [rounds_succ]
 go_wp2
 go_ret
 exact ⟨rfl, rfl⟩
noncomputable def hvError : Value := .iface 218 (.agg #[.pointer (some ⟨10, 26, none⟩)])
theorem as_fault (N : Nat) (w : World) (hv : w.cell? ⟨1, 0, none⟩ = some hvError) : Calls Tryz.prog 59 #[.iface 111 (.pointer (some ⟨N, 0, none⟩)), .iface 113 (.pointer (some ⟨w.heap.size, 0, none⟩))] (w.alloc (.cells #[.pointer none] 111)) fun e w' => e = .returned (.bool true) ∧ w'.cell? ⟨w.heap.size, 0, none⟩ = some (.pointer (some ⟨N, 0, none⟩)) ∧ Below w.heap.size w w' := by
 have hlt : 1 < w.heap.size := by
  rcases Nat.lt_or_ge 1 w.heap.size with h | h
  ·exact h
  ·simp [World.cell?, Array.getElem?_eq_none h] at hv
 have b0 := (Below.refl w.heap.size w).alloc (Nat.le_refl _) (.cells #[.pointer none] 111)
 have c0 : (w.alloc (.cells #[.pointer none] 111)).cell? ⟨w.heap.size, 0, none⟩ = some (.pointer none) := by rw [World.cell?_alloc_at _ _ _ _ (by simp)]; rfl
 obtain ⟨W, hW⟩ : ∃ W, W = w.alloc (.cells #[.pointer none] 111) := ⟨_, rfl⟩
 have f0 : W.frozen? ⟨w.heap.size, 0, none⟩ = false := by rw [hW]; simp
 rw [← hW] at b0 c0 ⊢
 refine (as_hit ⟨N, 0, none⟩ ⟨w.heap.size, 0, none⟩ (.pointer none) W ((b0.cell (p := ⟨1, 0, none⟩) hlt).trans hv) c0 f0).mono ?_
 rintro e w' ⟨h1, h2⟩
 subst h2
 have hs : w.heap.size < W.heap.size := by rw [hW]; simp
 have b1 := ((((Below.refl W.heap.size W).alloc (Nat.le_refl _) (.cells #[.pointer (some ⟨w.heap.size, 0, none⟩)] 113)).alloc (by simp) (.cells #[.pointer (some ⟨10, 113, none⟩), .pointer (some ⟨W.heap.size, 0, none⟩), .int .u64 150] 167)).alloc (by simp; omega) (.cells #[.pointer (some ⟨10, 113, none⟩), .pointer (some ⟨W.heap.size, 0, none⟩), .int .u64 150] 167)).alloc (by simp; omega) (.cells #[.pointer (some ⟨N, 0, none⟩)] 111)
 exact ⟨h1, World.cell?_setCell_same _ _ _ ((b1.cell (p := ⟨w.heap.size, 0, none⟩) hs).trans c0), (b0.trans (b1.mono (Nat.le_of_lt hs))).setCell (p := ⟨w.heap.size, 0, none⟩) (Nat.le_refl _) _⟩
theorem k21 (N : Nat) (w : World) (hv : w.cell? ⟨1, 0, none⟩ = some hvError) (hN : N < w.heap.size) (h0 : w.cell? ⟨N, 0, none⟩ = some (.int .i64 0)) (h1 : w.cell? ⟨N, 1, none⟩ = some (.int .i64 161)) : Calls Tryz.prog 21 #[.iface 111 (.pointer (some ⟨N, 0, none⟩))] w fun e w' => e = .returned (.bool true) ∧ Below w.heap.size w w' := by
 have C59 := Lib.hid (as_fault N w hv)
 have HN := Lib.hid (And.intro hN (And.intro h0 h1))
 clear hv hN h0 h1
 go_enter Tryz.func21, Tryz.ntmps21
 go_wp2_with (go_at_call 59; refine C59.out.mono ?_; rintro e w1 ⟨rfl, hc, hb⟩; have B1 := Lib.hid hb; have n0 := (hb.cell (p := ⟨N, 0, none⟩) HN.out.1).trans HN.out.2.1; have n1 := (hb.cell (p := ⟨N, 1, none⟩) HN.out.1).trans HN.out.2.2; clear hb)
 go_ret
 exact ⟨rfl, B1.out⟩
end Go.Proofs.YtlgencbldbpbdaaGreatDoor
