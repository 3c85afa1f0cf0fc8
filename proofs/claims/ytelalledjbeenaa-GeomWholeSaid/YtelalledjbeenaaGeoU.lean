/- The walk of GeomRects and what opens its arguments. -/
import Derived.Test.YtelalledjbeenaaGeoT
import Derived.ChangeArms
import Derived.ProofKit
namespace Go.Proofs.Ytelalledjbeenaa
open Go.RowKit
section
open Go.ChangeShapes Go.WideShapes Go.RowKit
variable {H : Type} {enc : TypeId × Value → H} {P : Program} {w : World}
theorem trod_floatQ {k : FloatKind} {e : TypeId} {n : Nat} {v : Value} {y : DataW H × List MemPlace} (he : P.underlying e = some (.float k)) (h : DataW.trod enc P w 0 (fun _ => true) true n e [v] = some y) : ∃ x, v = .float k x ∧ (Lit.float k x).wf = true := by
  cases n with
  | zero => simp [DataW.trod] at h
  | succ n =>
    unfold DataW.trod at h
    rw [he] at h
    split at h <;> simp_all
end
theorem walkGeomRects2 (a0 a1 a2 a3 b0 b1 b2 b3 p0 p1 p2 p3 : Nat) (w : World) (ha0 : U a0) (ha1 : U a1) (ha2 : U a2) (ha3 : U a3) (hb0 : U b0) (hb1 : U b1) (hb2 : U b2) (hb3 : U b3) (hp0 : U p0) (hp1 : U p1) (hp2 : U p2) (hp3 : U p3) :
    Calls Try.prog 10 #[.agg #[.float .f64 a0, .float .f64 a1, .float .f64 a2, .float .f64 a3], .agg #[.float .f64 b0, .float .f64 b1, .float .f64 b2, .float .f64 b3], .agg #[.float .f64 p0, .float .f64 p1, .float .f64 p2, .float .f64 p3]] w fun e w' => e = .returned (.bool true) ∧ Below w.heap.size w w' :=
  walkGeomRects ha0 ha1 ha2 ha3 hb0 hb1 hb2 hb3 hp0 hp1 hp2 hp3 w
end Go.Proofs.Ytelalledjbeenaa
