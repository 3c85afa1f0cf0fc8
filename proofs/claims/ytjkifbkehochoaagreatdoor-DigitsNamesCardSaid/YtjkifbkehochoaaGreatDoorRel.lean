/- A region that draws its order, walked once, in the order of the text, where an operation may leave any value of a set (a NaN's bits are drawn from the tape; a callee's contract tells a set): whatever order is drawn, the frame that is left is one that the lexical walk speaks of. -/
import Derived.StillTail
import Derived.Below
namespace Go.Proofs.YtjkifbkehochoaaGreatDoor
open Go
section
variable {P : Program} {ops : Array Oper} {md : Region.Mode} {C : World → Prop} {G : FuncId → Array Value → Value → Prop}
/-- The values that an operation may leave, in a world of the class. -/
def mayLeave (P : Program) (C : World → Prop) (G : FuncId → Array Value → Value → Prop) (s : Sem Next) (v : Value) : Prop :=
  ∃ w, C w ∧ match s.run P w with
    | .ok (.value u) _ => v = u
    | .ok .skip _ => v = undef
    | .ok (.enter f args) _ => G f args v
    | _ => False
/-- What operation 'o' may leave in its temporary, in state 'a'. -/
def leaves (P : Program) (ops : Array Oper) (C : World → Prop) (G : FuncId → Array Value → Value → Prop) (o : Oper) (a : Act) (v : Value) : Prop :=
  if Region.wanted o (yielded ops a.tmps) then mayLeave P C G (execOp a.eval o) v else v = undef
/-! ### the steps of the lexical walk -/
variable {Q : Act → Prop} {o : Oper} {rest : List Oper} {a : Act}
end
end Go.Proofs.YtjkifbkehochoaaGreatDoor
