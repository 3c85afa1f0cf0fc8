
/- Steps of the relational walk by the operation's kind; each fails at once where it does not fit. -/
import Derived.Test.YtphoggimeaejnaaGreatDoorRel
namespace Go.Proofs.YtphoggimeaejnaaGreatDoor
open Go
section
variable {P : Program} {ops : Array Oper} {C : World → Prop} {G : FuncId → Array Value → Value → Prop} {Q : Act → Prop} {rest : List Oper} {a : Act}
variable {dst : Option Tmp} {ty : TypeId} {pos : String} {af : Array Edge} {gd : Option (Nat × Bool)}

theorem rel_move {x : Operand} {v : Value} (hv : a.eval x = v) (hw : Region.wanted ⟨dst, .move x, ty, pos, af, gd⟩ (yielded ops a.tmps) = true) (k : wpRel P ops C G Q rest (a.put dst v)) :
    wpRel P ops C G Q (⟨dst, .move x, ty, pos, af, gd⟩ :: rest) a :=
  rel_val hw (fun w _ => by subst hv; rfl) k
theorem rel_assign {x : Operand} {v : Value} (hv : a.eval x = v) (hw : Region.wanted ⟨dst, .assign x, ty, pos, af, gd⟩ (yielded ops a.tmps) = true) (k : wpRel P ops C G Q rest (a.put dst v)) :
    wpRel P ops C G Q (⟨dst, .assign x, ty, pos, af, gd⟩ :: rest) a :=
  rel_val hw (fun w _ => by subst hv; rfl) k
theorem rel_pick_t {c x y : Operand} {v : Value} (hc : a.eval c = .bool true) (hv : a.eval x = v) (hw : Region.wanted ⟨dst, .pick c x y, ty, pos, af, gd⟩ (yielded ops a.tmps) = true) (k : wpRel P ops C G Q rest (a.put dst v)) :
    wpRel P ops C G Q (⟨dst, .pick c x y, ty, pos, af, gd⟩ :: rest) a :=
  rel_val hw (fun w _ => by
    subst hv
    unfold execOp
    simp only [hc]
    rfl) k
theorem rel_pick_f {c x y : Operand} {v : Value} (hc : a.eval c = .bool false) (hv : a.eval y = v) (hw : Region.wanted ⟨dst, .pick c x y, ty, pos, af, gd⟩ (yielded ops a.tmps) = true) (k : wpRel P ops C G Q rest (a.put dst v)) :
    wpRel P ops C G Q (⟨dst, .pick c x y, ty, pos, af, gd⟩ :: rest) a :=
  rel_val hw (fun w _ => by
    subst hv
    unfold execOp
    simp only [hc]
    rfl) k
/-- A call of a function by its number, the arguments by name. -/
theorem rel_callN {f : FuncId} {xs : Array Operand} {tys : Array TypeId} {args : Array Value} {v0 : Value → Prop} (hf : xs.map a.eval = args)
    (hw : Region.wanted ⟨dst, .call { callee := .value (.func f), args := xs, argTypes := tys }, ty, pos, af, gd⟩ (yielded ops a.tmps) = true)
    (h : ∀ w, C w → (execOp a.eval ⟨dst, .call { callee := .value (.func f), args := xs, argTypes := tys }, ty, pos, af, gd⟩).run P w = .ok (.enter f args) w)
    (c : ∀ w, C w → Calls P f args w fun e w' => ∃ v, e = .returned v ∧ G f args v ∧ C w') (hg : ∀ v, G f args v → v0 v) (k : ∀ v, v0 v → wpRel P ops C G Q rest (a.put dst v)) :
    wpRel P ops C G Q (⟨dst, .call { callee := .value (.func f), args := xs, argTypes := tys }, ty, pos, af, gd⟩ :: rest) a :=
  have _ := hf
  rel_call hw h c (fun v hv => k v (hg v hv))
end
end Go.Proofs.YtphoggimeaejnaaGreatDoor
