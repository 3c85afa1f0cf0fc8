/- The statement Rows.ScenePartsUptoSaid: whatever the input of bulk at most 1048576, the call returns true and leaves its arguments as they were. No other conditions. -/
import Derived.Test.YtedkbjimofiphaaRows
import Derived.Test.YtedkbjimofiphaaOpB
import Derived.Test.YtedkbjimofiphaaBulk
import Derived.ProofKit
import Derived.OpenShut
import Derived.ShutString
import Derived.ChangeOld
import Derived.Below
import Derived.Laws.Cover2
import Derived.Lib.SmallJoins
import Derived.JoinedCond
namespace Go.Proofs.Ytedkbjimofiphaa.sceneParts
open Go.ChangeShapes Go.WideShapes Go.ChangeAt Go.RowKit
open Go.ChangeMaps (open_string shut_string)
open Go.Joins
set_option linter.unusedVariables false
theorem own : ownKnob Try.prog.godebug = none := by kernel_rfl
theorem laidOut : laidOutB Try.prog = true := by kernel_rfl
theorem len_small {H : Type} {d d0 : DataW H} {l : List (DataW H)} {n c : Nat} (hd : ∃ ps, d0 = .agg ps ∧ d ∈ ps) (hd0 : d0 ∈ l) (hl : LenD d c) (hn : n ≤ c) (hk : Rows.uptoSmall H l = true) : n ≤ 1048576 := by
  have h1 := bulks.bound hk
  obtain ⟨ps, rfl, hps⟩ := hd
  have h2 := bulks.part_le hd0
  have h3 := bulks.part_le hps
  simp only [Rows.uptoBulk] at h2
  rcases hl with ⟨_, h⟩ | ⟨es, sp, rfl, h⟩
  · omega
  · have := bulks.slice_le es sp; omega
set_option maxRecDepth 100000 in
theorem contract (H : Type) (enc : TypeId × Value → H) (W : World) (base : Nat) (args : Array Value) (ds gs : List (DataW H)) (before : List MemPlace)
    (hval0 : ∀ (j : Nat) t v, Try.f5.params[j]? = some t → args[j]? = some v → Value.okWide Try.prog W .any base t v)
    (hW : DataW.Whole enc Try.prog Try.f5.params.toList Rows.scenePartsSpec.vars false W args.toList ds gs before) (hk : Rows.uptoSmall H (ds ++ gs) = true) :
    Calls Try.prog 5 args W fun e W' => ∃ v, e = .returned v ∧ Rows.scenePartsSpec.post enc Try.prog Try.f5 false true false false W args v W' := by
  have hval : ∀ (j : Nat) t v, Try.f5.params[j]? = some t → args[j]? = some v → Value.okWide Try.prog W .any base t v := hval0
  have hW' := hW
  obtain ⟨p, q, hA0, hV, rfl, hfz, hnd⟩ := hW
  have hA : DataW.TrodAll enc Try.prog W 0 (fun _ => true) true Try.f5.params.toList args.toList ds p := hA0
  rw [Try.params5] at hA hval
  obtain ⟨v0, vs0, d0, ds0, p0, q0, hargs, rfl, rfl, h0, r0⟩ := trodAll_cons hA
  obtain ⟨rfl, rfl, rfl⟩ := trodAll_nil r0
  obtain rfl : args = #[v0] := by cases args; simp_all
  obtain ⟨rfl, rfl⟩ := trodVars_none hV
  have k0 := h0
  have lt0 : ∀ x ∈ p0, x.block < W.heap.size := by obtain ⟨m, hm⟩ := k0; exact DataW.trod_lt m _ _ _ hm
  obtain ⟨A0, B0, n0, c0, nt0, ct0, x0, y0, L0, z0, dl, dr, d2, d3, rfl, s0, o0, m0, ld0, hd0, zl0, ux0, uy0⟩ := open_parts (hval 0 64 v0 rfl rfl) h0
  have zz := len_small ⟨_, hd0, List.mem_cons_self ..⟩ (List.mem_append_left _ (List.mem_cons_self ..)) ld0 m0 hk
  clear hA0 hval0
  refine (parts5 W A0 B0 n0 c0 nt0 ct0 x0 y0 L0 z0 o0 s0 zz zl0 ux0 uy0).mono fun e W' ⟨he, bel⟩ => ?_
  subst he
  exact ⟨_, rfl, _, _, _, [], _, [], hW', trodAll_mk1 (shut_bool Try.underlying4 _), (trodAll_cons_mk (Below.trod laidOut (by kernel_rfl) (of_decide_eq_true (by kernel_rfl)) k0 bel lt0) trodAll_mk0), rfl, bel.frame _, fun h => by cases h⟩
set_option maxRecDepth 100000 in
theorem lifted (os : Os) (started : os.Started) (H : Type) (enc : TypeId × Value → H) (F : Stop.Interp) :
    ReturnsInHanded {} Try.checked os 5 .any ((Rows.OpenSpec.upto Rows.scenePartsSpec).pre6 enc Try.prog Try.f5 Rows.scenePartsUptoRow.domain false) (((Rows.OpenSpec.upto Rows.scenePartsSpec).at F).post enc Try.prog Try.f5 false true false false) := by
  refine returnsInHanded_of_cond (C := Try.checked) (s := Rows.OpenSpec.upto Rows.scenePartsSpec) (k := Rows.uptoSmall) rfl own started (by kernel_rfl) Try.func5
    (OpenSpec.witness (enc := enc) (C := Try.checked) (s := Rows.OpenSpec.upto Rows.scenePartsSpec) (k := Rows.uptoSmall) rfl false ⟨#[], #[.agg #[.slice none 0 0, .slice none 0 0, .float .f64 0, .float .f64 0]], []⟩ 8 (by kernel_rfl) (by kernel_rfl) (by kernel_rfl)
      (x := ([.agg [.nil, .nil, .lit (.float .f64 0), .lit (.float .f64 0)]], [], [])) (by kernel_rfl) rfl (by kernel_rfl)) ?_
  intro W base args ds gs before hval hW _ hk _
  exact contract H enc W base args ds gs before hval hW hk
theorem over : Rows.scenePartsUptoRow.holds Try.pinned (Rows.OpenSpec.upto Rows.scenePartsSpec) :=
  OpenClaim.holds_of_cond 5 Try.f5 rfl rfl rfl rfl rfl rfl rfl ⟨rfl, rfl, rfl, rfl, rfl⟩ rfl rfl rfl rfl rfl (by kernel_rfl) Try.func5 (by kernel_rfl)
    (of_decide_eq_true (by kernel_rfl)) (by unfold Func.isWrapper; first | (rw [if_pos (by decide +kernel)]; kernel_rfl) | (rw [if_neg (by decide +kernel)]; exact ⟨rfl, rfl⟩))
    (fun os started H enc _ F => lifted os started H enc F)
theorem proved : Rows.ScenePartsUptoSaid := over
#print axioms proved
end Go.Proofs.Ytedkbjimofiphaa.sceneParts
