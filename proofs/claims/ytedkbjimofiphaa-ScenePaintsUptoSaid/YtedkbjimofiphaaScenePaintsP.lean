/- The statement Rows.ScenePaintsUptoSaid: whatever the input of bulk at most 1048576, the call returns true and leaves its arguments as they were. No other conditions. -/
import Derived.Test.YtedkbjimofiphaaRows
import Derived.Test.YtedkbjimofiphaaOpA
import Derived.Test.YtedkbjimofiphaaBulk
import Derived.ProofKit
import Derived.OpenShut
import Derived.ShutString
import Derived.ChangeOld
import Derived.Below
import Derived.Laws.Cover2
import Derived.Lib.SmallJoins
import Derived.JoinedCond
namespace Go.Proofs.Ytedkbjimofiphaa.scenePaints
open Go.ChangeShapes Go.WideShapes Go.ChangeAt Go.RowKit
open Go.ChangeMaps (open_string shut_string)
open Go.Joins
set_option linter.unusedVariables false

theorem own : ownKnob Try.prog.godebug = none := by kernel_rfl
theorem laidOut : laidOutB Try.prog = true := by kernel_rfl
theorem walk (A : Option Addr) (S : Nat → SH) (n c : Nat) (w : World) (h : SL w A n 24 S SH.cells) (hS : ∀ k, k < n → (S k).OK) (hn : n ≤ 1048576) :
    Calls Try.prog 3 #[.slice A n c] w fun e w' => e = .returned (.bool true) ∧ Below w.heap.size w w' := by
  rcases Nat.eq_zero_or_pos n with h0 | h0
  · subst h0; exact paints3z w A c
  · rcases h with h | ⟨b, o, rfl, hb, hr⟩
    · omega
    · exact paints3 w b o n c S hS hr hb hn h0
theorem len_small {H : Type} {d : DataW H} {l : List (DataW H)} {n c : Nat} (hd : d ∈ l) (hl : LenD d c) (hn : n ≤ c) (hk : Rows.uptoSmall H l = true) : n ≤ 1048576 := by
  have h1 := bulks.bound hk
  have h2 := bulks.part_le hd
  rcases hl with ⟨_, h⟩ | ⟨es, sp, rfl, h⟩
  · omega
  · have := bulks.slice_le es sp; omega
set_option maxRecDepth 100000 in
theorem contract (H : Type) (enc : TypeId × Value → H) (W : World) (base : Nat) (args : Array Value) (ds gs : List (DataW H)) (before : List MemPlace)
    (hval0 : ∀ (j : Nat) t v, Try.f3.params[j]? = some t → args[j]? = some v → Value.okWide Try.prog W .any base t v)
    (hW : DataW.Whole enc Try.prog Try.f3.params.toList Rows.scenePaintsSpec.vars false W args.toList ds gs before) (hk : Rows.uptoSmall H (ds ++ gs) = true) :
    Calls Try.prog 3 args W fun e W' => ∃ v, e = .returned v ∧ Rows.scenePaintsSpec.post enc Try.prog Try.f3 false true false false W args v W' := by
  have hval : ∀ (j : Nat) t v, Try.f3.params[j]? = some t → args[j]? = some v → Value.okWide Try.prog W .any base t v := hval0
  have hW' := hW
  obtain ⟨p, q, hA0, hV, rfl, hfz, hnd⟩ := hW
  have hA : DataW.TrodAll enc Try.prog W 0 (fun _ => true) true Try.f3.params.toList args.toList ds p := hA0
  rw [Try.params3] at hA hval
  obtain ⟨v0, vs0, d0, ds0, p0, q0, hargs, rfl, rfl, h0, r0⟩ := trodAll_cons hA
  obtain ⟨rfl, rfl, rfl⟩ := trodAll_nil r0
  obtain rfl : args = #[v0] := by cases args; simp_all
  obtain ⟨rfl, rfl⟩ := trodVars_none hV
  have k0 := h0
  have lt0 : ∀ x ∈ p0, x.block < W.heap.size := by obtain ⟨m, hm⟩ := k0; exact DataW.trod_lt m _ _ _ hm
  obtain ⟨A0, S0, n0, c0, rfl, s0, o0, m0, ld0⟩ := open_shapes (hval 0 22 v0 rfl rfl) h0
  have z0 := len_small (List.mem_append_left _ (List.mem_cons_self ..)) ld0 m0 hk
  clear hA0 hval0
  refine (walk A0 S0 n0 c0 W s0 o0 z0).mono fun e W' ⟨he, bel⟩ => ?_
  subst he
  exact ⟨_, rfl, _, _, _, [], _, [], hW', trodAll_mk1 (shut_bool Try.underlying4 _), (trodAll_cons_mk (Below.trod laidOut (by kernel_rfl) (of_decide_eq_true (by kernel_rfl)) k0 bel lt0) trodAll_mk0), rfl, bel.frame _, fun h => by cases h⟩
set_option maxRecDepth 100000 in
theorem lifted (os : Os) (started : os.Started) (H : Type) (enc : TypeId × Value → H) (F : Stop.Interp) :
    ReturnsInHanded {} Try.checked os 3 .any ((Rows.OpenSpec.upto Rows.scenePaintsSpec).pre6 enc Try.prog Try.f3 Rows.scenePaintsUptoRow.domain false) (((Rows.OpenSpec.upto Rows.scenePaintsSpec).at F).post enc Try.prog Try.f3 false true false false) := by
  refine returnsInHanded_of_cond (C := Try.checked) (s := Rows.OpenSpec.upto Rows.scenePaintsSpec) (k := Rows.uptoSmall) rfl own started (by kernel_rfl) Try.func3
    (OpenSpec.witness (enc := enc) (C := Try.checked) (s := Rows.OpenSpec.upto Rows.scenePaintsSpec) (k := Rows.uptoSmall) rfl false ⟨#[], #[.slice none 0 0], []⟩ 8 (by kernel_rfl) (by kernel_rfl) (by kernel_rfl)
      (x := ([.nil], [], [])) (by kernel_rfl) rfl (by kernel_rfl)) ?_
  intro W base args ds gs before hval hW _ hk _
  exact contract H enc W base args ds gs before hval hW hk

theorem over : Rows.scenePaintsUptoRow.holds Try.pinned (Rows.OpenSpec.upto Rows.scenePaintsSpec) :=
  OpenClaim.holds_of_cond 3 Try.f3 rfl rfl rfl rfl rfl rfl rfl ⟨rfl, rfl, rfl, rfl, rfl⟩ rfl rfl rfl rfl rfl (by kernel_rfl) Try.func3 (by kernel_rfl)
    (of_decide_eq_true (by kernel_rfl)) (by unfold Func.isWrapper; first | (rw [if_pos (by decide +kernel)]; kernel_rfl) | (rw [if_neg (by decide +kernel)]; exact ⟨rfl, rfl⟩))
    (fun os started H enc _ F => lifted os started H enc F)

theorem proved : Rows.ScenePaintsUptoSaid := over
#print axioms proved
end Go.Proofs.Ytedkbjimofiphaa.scenePaints
