/- The walk of GeomUnions, told for its frame. -/
import Derived.Test.YtelalledjbeenaaGeoV
import Derived.Test.YtelalledjbeenaaGeoU
namespace Go.Proofs.Ytelalledjbeenaa
open Go.RowKit
theorem walkGeomUnions2 (a0 a1 a2 a3 b0 b1 b2 b3 : Nat) (w : World) (ha0 : U a0) (ha1 : U a1) (ha2 : U a2) (ha3 : U a3) (hb0 : U b0) (hb1 : U b1) (hb2 : U b2) (hb3 : U b3) :
    Calls Try.prog 11 #[.agg #[.float .f64 a0, .float .f64 a1, .float .f64 a2, .float .f64 a3], .agg #[.float .f64 b0, .float .f64 b1, .float .f64 b2, .float .f64 b3]] w fun e w' => e = .returned (.bool true) ∧ Below w.heap.size w w' :=
  walkGeomUnions ha0 ha1 ha2 ha3 hb0 hb1 hb2 hb3 w
end Go.Proofs.Ytelalledjbeenaa
