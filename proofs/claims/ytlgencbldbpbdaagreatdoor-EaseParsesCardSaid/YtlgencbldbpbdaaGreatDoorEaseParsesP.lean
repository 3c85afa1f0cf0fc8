/- The card of 'EaseParses': whatever the input, the call returns true and leaves its arguments as they were; tied: the listed package-level variables hold what the program's text lays. No other conditions. -/
import Derived.Test.YtlgencbldbpbdaaGreatDoorRows
import Derived.Test.YtlgencbldbpbdaaGreatDoorCards
import Derived.Test.YtlgencbldbpbdaaGreatDoorTie
import Derived.Test.YtlgencbldbpbdaaGreatDoorMgRxO
import Derived.Test.YtlgencbldbpbdaaGreatDoorEaseParsesF
import Derived.WalkKit
import Derived.ProofKit
import Derived.OpenShut
import Derived.ShutString
import Derived.ChangeOld
import Derived.Below
import Derived.Laws.Cover2
import Derived.Deep.DeepHandedRow
import Derived.Lib.LaidTab
import Derived.LaidHandle
import Derived.SevenTiedAt
import Derived.SizedLaws
import Derived.Carry
namespace Go.Proofs.YtlgencbldbpbdaaGreatDoor.easeParses
open Go.ChangeShapes Go.WideShapes Go.ChangeAt Go.RowKit
open Go.ChangeMaps (open_string shut_string)
set_option linter.unusedVariables false
theorem own : ownKnob Tryz.prog.godebug = none := by kernel_rfl
theorem laidOut : laidOutB Tryz.prog = true := by kernel_rfl
noncomputable def lay (c : Array Value) : Obj → Obj
  | .cells _ t f => .cells c t f
  | o => o
noncomputable def pinCells : DataW Unit → List Value
  | .agg l => l.map fun
    | .lit (.int k z) => .int k z
    | _ => undef
  | _ => []
/-- a world in which the listed variables hold what the text lays -/
noncomputable def laidWorld (os : Os) : World :=
  let w0 := World.holding Tryz.prog os ⟨#[], #[], []⟩
  { w0 with heap := ((((((((((w0.heap.modify 8 (lay #[.int .u8 (0), .int .u8 (1), .int .u8 (28), .int .u8 (2), .int .u8 (29), .int .u8 (14), .int .u8 (24), .int .u8 (3), .int .u8 (30), .int .u8 (22), .int .u8 (20), .int .u8 (15), .int .u8 (25), .int .u8 (17), .int .u8 (4), .int .u8 (8), .int .u8 (31), .int .u8 (27), .int .u8 (13), .int .u8 (23), .int .u8 (21), .int .u8 (19), .int .u8 (16), .int .u8 (7), .int .u8 (26), .int .u8 (12), .int .u8 (18), .int .u8 (6), .int .u8 (11), .int .u8 (5), .int .u8 (10), .int .u8 (9)])).modify 9 (lay #[.int .u8 (0), .int .u8 (1), .int .u8 (56), .int .u8 (2), .int .u8 (57), .int .u8 (49), .int .u8 (28), .int .u8 (3), .int .u8 (61), .int .u8 (58), .int .u8 (42), .int .u8 (50), .int .u8 (38), .int .u8 (29), .int .u8 (17), .int .u8 (4), .int .u8 (62), .int .u8 (47), .int .u8 (59), .int .u8 (36), .int .u8 (45), .int .u8 (43), .int .u8 (51), .int .u8 (22), .int .u8 (53), .int .u8 (39), .int .u8 (33), .int .u8 (30), .int .u8 (24), .int .u8 (18), .int .u8 (12), .int .u8 (5), .int .u8 (63), .int .u8 (55), .int .u8 (48), .int .u8 (27), .int .u8 (60), .int .u8 (41), .int .u8 (37), .int .u8 (16), .int .u8 (46), .int .u8 (35), .int .u8 (44), .int .u8 (21), .int .u8 (52), .int .u8 (32), .int .u8 (23), .int .u8 (11), .int .u8 (54), .int .u8 (26), .int .u8 (40), .int .u8 (15), .int .u8 (34), .int .u8 (20), .int .u8 (31), .int .u8 (10), .int .u8 (25), .int .u8 (14), .int .u8 (19), .int .u8 (9), .int .u8 (13), .int .u8 (8), .int .u8 (7), .int .u8 (6)])).modify 3 (lay #[.int .u64 (1), .int .u64 (10), .int .u64 (100), .int .u64 (1000), .int .u64 (10000), .int .u64 (100000), .int .u64 (1000000), .int .u64 (10000000), .int .u64 (100000000), .int .u64 (1000000000), .int .u64 (10000000000), .int .u64 (100000000000), .int .u64 (1000000000000), .int .u64 (10000000000000), .int .u64 (100000000000000), .int .u64 (1000000000000000), .int .u64 (10000000000000000), .int .u64 (100000000000000000), .int .u64 (1000000000000000000), .int .u64 (10000000000000000000)])).modify 7 (lay #[.int .u8 (128), .int .u8 (191), .int .u8 (160), .int .u8 (191), .int .u8 (128), .int .u8 (159), .int .u8 (144), .int .u8 (191), .int .u8 (128), .int .u8 (143), .int .u8 (0), .int .u8 (0), .int .u8 (0), .int .u8 (0), .int .u8 (0), .int .u8 (0), .int .u8 (0), .int .u8 (0), .int .u8 (0), .int .u8 (0), .int .u8 (0), .int .u8 (0), .int .u8 (0), .int .u8 (0), .int .u8 (0), .int .u8 (0), .int .u8 (0), .int .u8 (0), .int .u8 (0), .int .u8 (0), .int .u8 (0), .int .u8 (0)])).modify 1 (lay #[.iface 218 (.agg #[typeHandle Tryz.prog 26])])).modify 5 (lay #[.iface 331 (.pointer (some ⟨w0.heap.size + 0, 0, none⟩))])).modify 4 (lay #[.iface 331 (.pointer (some ⟨w0.heap.size + 1, 0, none⟩))])).modify 6 (lay (pinCells Go.Pinned.utf8First).toArray)).push (.cells #[.string ⟨#[118, 97, 108, 117, 101, 32, 111, 117, 116, 32, 111, 102, 32, 114, 97, 110, 103, 101]⟩] 333 (0, 0))).push (.cells #[.string ⟨#[105, 110, 118, 97, 108, 105, 100, 32, 115, 121, 110, 116, 97, 120]⟩] 333 (0, 0))) }
theorem laid_met (os : Os) : laidMetH Tryz.prog Rows.easeParsesRow.laid ((laidWorld os).forCall (fun _ _ => 0) ⟨#[], #[.string ⟨#[]⟩], []⟩).memory :=
  laidMetH_of_parts (laidMet_of_run' 8 (by kernel_rfl) (by kernel_rfl)) (by kernel_rfl)
theorem reads (os : Os) {H : Type} (enc : TypeId × Value → H) : ∃ places, DataW.whole enc Tryz.prog ((laidWorld os).forCall (fun _ _ => 0) ⟨#[], #[.string ⟨#[]⟩], []⟩).memory Tryz.f6.params.toList Rows.easeParsesSpec.vars false ((#[.string ⟨#[]⟩] : Array Value)).toList 8 = some ([.lit (.string [])], [], places) :=
  ⟨[], by kernel_rfl⟩
set_option maxRecDepth 100000 in
theorem lifted (os : Os) (started : os.Started) (H : Type) (enc : TypeId × Value → H) (F : Stop.Interp) :
    ReturnsInHanded {} Tryz.checked os 6 .any ((OpenSpec.ofChange Rows.easeParsesSpec).preRow enc Tryz.prog Tryz.f6 Rows.easeParsesRow.domain false Rows.easeParsesRow.laid) (((OpenSpec.ofChange Rows.easeParsesSpec).at F).post enc Tryz.prog Tryz.f6 false true false false) := by
  obtain ⟨places, hx⟩ := reads os enc
  refine returnsInHanded_of_row (C := Tryz.checked) (s := (OpenSpec.ofChange Rows.easeParsesSpec)) own started (by kernel_rfl) Tryz.func6
    (witness_row_at (enc := enc) (C := Tryz.checked) false (laidWorld os) #[.string ⟨#[]⟩] rfl (by kernel_rfl) (by kernel_rfl) (by kernel_rfl)
      (OpenSpec.preRow_of_cond 8 hx (by kernel_rfl) (fun k hk => by cases hk) (by kernel_rfl) (laid_met os))) ?_
  intro W base args ds gs before hval0 hW _ hcond hsz0 hL hS _
  have hval : ∀ (j : Nat) t v, Tryz.f6.params[j]? = some t → args[j]? = some v → Value.okWide Tryz.prog W .any base t v := hval0
  have hW' := hW
  obtain ⟨p, q, hA0, hV, rfl, hfz, hnd⟩ := hW
  have hA : DataW.TrodAll enc Tryz.prog W 0 (fun _ => true) true Tryz.f6.params.toList args.toList ds p := hA0
  have hsz : (DataW.weightsEach Tryz.prog (Tryz.f6.params.toList ++ (OpenSpec.ofChange Rows.easeParsesSpec).bare.plain.varTypes Tryz.prog) (ds ++ gs)).all (· ≤ reachBytes) = true := hsz0
  rw [Tryz.params6] at hA hval hsz
  obtain ⟨v0, vs0, d0, ds0, p0, q0, hargs, rfl, rfl, h0, r0⟩ := trodAll_cons hA
  obtain ⟨rfl, rfl, rfl⟩ := trodAll_nil r0
  obtain rfl : args = #[v0] := by cases args; simp_all
  obtain ⟨rfl, rfl⟩ := trodVars_none hV
  have k0 := h0
  have lt0 : ∀ x ∈ p0, x.block < W.heap.size := by obtain ⟨m, hm⟩ := k0; exact DataW.trod_lt m _ _ _ hm
  obtain ⟨a0, rfl, rfl, rfl, w0⟩ := open_string Tryz.underlying9 (hval 0 9 v0 rfl rfl) h0
  clear hA0 hval0 hsz0
  simp only [List.append_nil] at hW'
  refine (walkParses W hL hS a0 w0).mono fun e W' ⟨he, bel⟩ => ?_
  subst he
  exact ⟨_, rfl, _, _, _, [], _, [], hW', trodAll_mk1 (shut_bool Tryz.underlying4 _), (trodAll_cons_mk (Below.trod laidOut (by kernel_rfl) (of_decide_eq_true (by kernel_rfl)) k0 bel lt0) trodAll_mk0), rfl, bel.frame _, fun h => by cases h⟩
theorem said_name : Tryz.pinned.checked.prog.funcNamed Rows.easeParsesRow.func = some 6 := by kernel_rfl
theorem said_inst : Tryz.f6.isInstance Tryz.pinned.checked.prog Rows.easeParsesRow.origin Rows.easeParsesRow.targs := of_decide_eq_true (by kernel_rfl)
theorem said_wrap : Tryz.f6.isWrapper Tryz.pinned.checked.prog Rows.easeParsesRow.wrapper Rows.easeParsesRow.mainSum := by unfold Func.isWrapper; first | (rw [if_pos (by decide +kernel)]; kernel_rfl) | (rw [if_neg (by decide +kernel)]; exact ⟨rfl, rfl⟩)
theorem said : Rows.easeParsesRow.holds Tryz.pinned (OpenSpec.ofChange Rows.easeParsesSpec) :=
  OpenClaim.holds_of_cond 6 Tryz.f6 rfl rfl rfl rfl rfl rfl rfl ⟨rfl, rfl, rfl, rfl, rfl⟩ rfl rfl rfl rfl rfl said_name Tryz.func6 facts said_inst said_wrap
    (fun os started H enc _ F => by rw [OpenClaim.pre_eq_preRow]; exact lifted os started H enc F)
/-- no parameter wants a stand-in -/
theorem plain (f : FuncId) (fn : Func) (hf : Tryz.pinned.checked.prog.funcNamed "galley/galleylaw16.EaseParses" = some f) (hfn : Tryz.pinned.checked.prog.funcs[f]? = some fn) :
    true = Tryz.pinned.checked.prog.looks [] ∧ ∀ (j : Nat) t, fn.params[j]? = some t → Tryz.pinned.checked.prog.wantsStandIn t = false := by
  obtain rfl : f = 6 := Option.some.inj ((show Tryz.prog.funcNamed "galley/galleylaw16.EaseParses" = some 6 by kernel_rfl).symm.trans hf) |>.symm
  obtain rfl : fn = Tryz.f6 := (Option.some.inj (Tryz.func6.symm.trans hfn)).symm
  refine ⟨by kernel_rfl, fun j t ht => ?_⟩
  rw [Tryz.params6] at ht
  have hm := Array.mem_of_getElem? ht
  simp only [List.mem_toArray, List.mem_cons, List.not_mem_nil, or_false] at hm
  rcases hm with rfl
  · exact (show Tryz.prog.wantsStandIn 9 = false by kernel_rfl)
theorem proved : Rows.EaseParsesCardSaid :=
  Claim7.holds_tied_plain_at .later [] _ _ _ _ said (fun _ h => by cases h) (by as_aux_lemma => kernel_rfl) (fun _ h => by cases h) easeParses_row_tie rfl ⟨rfl, rfl⟩ (by as_aux_lemma => kernel_rfl) rfl plain (by as_aux_lemma => kernel_rfl)
#print axioms proved
end Go.Proofs.YtlgencbldbpbdaaGreatDoor.easeParses
