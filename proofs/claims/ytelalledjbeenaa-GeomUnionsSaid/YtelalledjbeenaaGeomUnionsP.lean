/- The statement Rows.GeomUnionsSaid: whatever the input, the call returns true and leaves its arguments as they were. No conditions. -/
import Derived.Test.YtelalledjbeenaaRows
import Derived.Test.YtelalledjbeenaaGeoVA
import Derived.ProofKit
import Derived.OpenShut
import Derived.ShutString
import Derived.ChangeOld
import Derived.Below
import Derived.Laws.Cover2
import Derived.Lib.SmallJoins

namespace Go.Proofs.Ytelalledjbeenaa.geomUnions
open Go.ChangeShapes Go.WideShapes Go.ChangeAt Go.RowKit
open Go.ChangeMaps (open_string shut_string)
open Go.Joins
set_option linter.unusedVariables false

theorem own : ownKnob Try.prog.godebug = none := by kernel_rfl
theorem laidOut : laidOutB Try.prog = true := by kernel_rfl
theorem cells58 : Try.prog.cellsOf 58 = 4 := by kernel_rfl

set_option maxRecDepth 100000 in
theorem lifted (os : Os) (started : os.Started) (H : Type) (enc : TypeId × Value → H) :
    ReturnsInHanded {} Try.checked os 11 .any (Rows.geomUnionsSpec.pre6 enc Try.prog Try.f11 Rows.geomUnionsRow.domain false) (Rows.geomUnionsSpec.post enc Try.prog Try.f11 false true false false) := by
  refine returnsInHanded_of_change (C := Try.checked) own started (by kernel_rfl) Try.func11
    (ChangeSpec.witness6 (enc := enc) (C := Try.checked) false ⟨#[], #[.agg #[.float .f64 0, .float .f64 0, .float .f64 0, .float .f64 0], .agg #[.float .f64 0, .float .f64 0, .float .f64 0, .float .f64 0]], []⟩ 8 (by kernel_rfl) (by kernel_rfl) (by kernel_rfl) (by kernel_rfl)) ?_
  intro W base args ds gs before hval0 hW hcnd _
  have hval : ∀ (j : Nat) t v, Try.f11.params[j]? = some t → args[j]? = some v → Value.okWide Try.prog W .any base t v := hval0
  have hW' := hW
  obtain ⟨p, q, hA0, hV, rfl, hfz, hnd⟩ := hW
  have hA : DataW.TrodAll enc Try.prog W 0 (fun _ => true) true Try.f11.params.toList args.toList ds p := hA0
  skip
  rw [Try.params11] at hA hval
  obtain ⟨v0, vs0, d0, ds0, p0, q0, hargs, rfl, rfl, h0, r0⟩ := trodAll_cons hA
  obtain ⟨v1, vs1, d1, ds1, p1, q1, rfl, rfl, rfl, h1, r1⟩ := trodAll_cons r0
  obtain ⟨rfl, rfl, rfl⟩ := trodAll_nil r1
  obtain rfl : args = #[v0, v1] := by cases args; simp_all
  obtain ⟨rfl, rfl⟩ := trodVars_none hV
  have k0 := h0
  have lt0 : ∀ x ∈ p0, x.block < W.heap.size := by obtain ⟨m, hm⟩ := k0; exact DataW.trod_lt m _ _ _ hm
  have k1 := h1
  have lt1 : ∀ x ∈ p1, x.block < W.heap.size := by obtain ⟨m, hm⟩ := k1; exact DataW.trod_lt m _ _ _ hm
  obtain ⟨b00, b01, b02, b03, y00, y01, y02, y03, n0, rfl, rfl, rfl, g00, g01, g02, g03⟩ := open_agg4 Try.underlying58 (by kernel_rfl) cells58 (hval 0 58 v0 rfl rfl) h0
  obtain ⟨a00, rfl, w00⟩ := trod_floatQ Try.underlying24 g00
  obtain ⟨a01, rfl, w01⟩ := trod_floatQ Try.underlying24 g01
  obtain ⟨a02, rfl, w02⟩ := trod_floatQ Try.underlying24 g02
  obtain ⟨a03, rfl, w03⟩ := trod_floatQ Try.underlying24 g03
  obtain ⟨b10, b11, b12, b13, y10, y11, y12, y13, n1, rfl, rfl, rfl, g10, g11, g12, g13⟩ := open_agg4 Try.underlying58 (by kernel_rfl) cells58 (hval 1 58 v1 rfl rfl) h1
  obtain ⟨a10, rfl, w10⟩ := trod_floatQ Try.underlying24 g10
  obtain ⟨a11, rfl, w11⟩ := trod_floatQ Try.underlying24 g11
  obtain ⟨a12, rfl, w12⟩ := trod_floatQ Try.underlying24 g12
  obtain ⟨a13, rfl, w13⟩ := trod_floatQ Try.underlying24 g13
  clear hA0 hval0
  refine (walkGeomUnions2 a00 a01 a02 a03 a10 a11 a12 a13 W (U_of_wf w00) (U_of_wf w01) (U_of_wf w02) (U_of_wf w03) (U_of_wf w10) (U_of_wf w11) (U_of_wf w12) (U_of_wf w13)).mono fun e W' ⟨he, bel⟩ => ?_
  subst he
  exact ⟨_, rfl, _, _, _, [], _, [], hW', trodAll_mk1 (shut_bool Try.underlying4 _), (trodAll_cons_mk (Below.trod laidOut (by kernel_rfl) (of_decide_eq_true (by kernel_rfl)) k0 bel lt0) (trodAll_cons_mk (Below.trod laidOut (by kernel_rfl) (of_decide_eq_true (by kernel_rfl)) k1 bel lt1) trodAll_mk0)), rfl, bel.frame _, fun h => by cases h⟩

theorem over : Rows.geomUnionsRow.holds Try.pinned (OpenSpec.ofChange Rows.geomUnionsSpec) :=
  OpenClaim.holds_of_wide 11 Try.f11 rfl rfl rfl rfl rfl rfl rfl ⟨rfl, rfl, rfl, rfl, rfl⟩ rfl rfl rfl rfl rfl (by kernel_rfl) Try.func11 (by kernel_rfl)
    (of_decide_eq_true (by kernel_rfl)) (by unfold Func.isWrapper; first | (rw [if_pos (by decide +kernel)]; kernel_rfl) | (rw [if_neg (by decide +kernel)]; exact ⟨rfl, rfl⟩))
    (fun os started H enc _ => lifted os started H enc)

theorem proved : Rows.GeomUnionsSaid := over
#print axioms proved
end Go.Proofs.Ytelalledjbeenaa.geomUnions
