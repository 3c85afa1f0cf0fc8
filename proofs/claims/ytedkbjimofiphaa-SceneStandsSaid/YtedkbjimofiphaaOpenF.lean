/- Arguments that are slices of one-cell elements, opened: their values lie in a block, or there are none. -/
import Derived.Test.YtedkbjimofiphaaSumK
import Derived.Deep.Slices
import Derived.ChangeArms
import Derived.ProofKit
import Derived.SizedLaws
namespace Go.Proofs.Ytedkbjimofiphaa
open Go.ChangeShapes Go.WideShapes Go.RowKit Go.Deep
/-- a slice's values: none, or they lie in a block -/
def CS (w : World) (A : Option Addr) (l : List Value) : Prop := l = [] ∨ ∃ b o, A = some ⟨b, o, none⟩ ∧ b < w.heap.size ∧ ∀ j v : _, l[j]? = some v → w.cell? ⟨b, o + j, none⟩ = some v
section
variable {H : Type} {enc : TypeId × Value → H} {P : Program} {w : World} {r : Reach} {B0 : Nat}
theorem trod_float1 {k : FloatKind} {e : TypeId} {n : Nat} {v : Value} {y : DataW H × List MemPlace} (he : P.underlying e = some (.float k)) (h : DataW.trod enc P w 0 (fun _ => true) true n e [v] = some y) : ∃ x, v = .float k x ∧ (Lit.float k x).wf = true := by
  cases n with
  | zero => simp [DataW.trod] at h
  | succ n =>
    unfold DataW.trod at h
    rw [he] at h
    split at h <;> simp_all
/-- how long a slice is that is read -/
def LenD (d : DataW H) (c : Nat) : Prop := (d = .nil ∧ c = 0) ∨ ∃ es sp : List (DataW H), d = .slice es sp ∧ es.length + sp.length = c
end
end Go.Proofs.Ytedkbjimofiphaa
