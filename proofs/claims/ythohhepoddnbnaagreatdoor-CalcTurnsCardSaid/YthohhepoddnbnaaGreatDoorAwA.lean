/- awake, in a world where the row's condition holds. -/
import Derived.Test.YthohhepoddnbnaaGreatDoorEsC
import Derived.Test.YthohhepoddnbnaaGreatDoorRows
import Derived.LaidHandle
import Derived.LaidLaws
namespace Go.Proofs.YthohhepoddnbnaaGreatDoor
open Go.RowKit
theorem et : Tryz.prog.globalNamed "errors.errorType" = some 1 := by kernel_rfl
theorem rt : (Tryz.prog.cutTypes.find? (·.1 == "internal/reflectlite.rtype")).map (·.2) = some 163 := by kernel_rfl
theorem oneRow : ((List.range 316).filter fun t => Tryz.prog.rowNamed t [101, 114, 114, 111, 114]) = [43] := by kernel_rfl
theorem tsize : Tryz.prog.types.size = 316 := by kernel_rfl
theorem handle_of_laid {laid : List (String × DataW Unit)} (hl : (laid.filter fun x => x.2.handleName?.isSome) = [("errors.errorType", Rows.laid_errors_errorType)]) {W : World} (h : laidMetH Tryz.prog laid W) : W.cell? ⟨1, 0, none⟩ = some hvError := by
  unfold laidMetH at h
  rw [hl] at h
  obtain ⟨name, u, ty, e1, e2, e3, e4, e5⟩ := h.2 _ (List.mem_singleton.2 rfl)
  have en : name = [101, 114, 114, 111, 114] := (Option.some.inj e1).symm
  subst en
  obtain rfl := Option.some.inj (rt.symm.trans e2)
  have hm : ty ∈ (List.range 316).filter fun t => Tryz.prog.rowNamed t [101, 114, 114, 111, 114] := List.mem_filter.2 ⟨List.mem_range.2 (by rw [← tsize]; exact e3), e4⟩
  rw [oneRow] at hm
  obtain rfl := List.mem_singleton.1 hm
  have hh : typeHandle Tryz.prog 43 = .pointer (some ⟨10, 43, none⟩) := by kernel_rfl
  rw [hh] at e5
  have e6 := World.var?_cell et e5 0
  rw [e6]; rfl
theorem laid_of_cell {W : World} (h : W.cell? ⟨1, 0, none⟩ = some hvError) : Ev.Laid W [(1, [hvError])] := by
  intro p hp
  obtain rfl := List.mem_singleton.1 hp
  unfold World.cell? at h
  cases hb : W.heap[1]? with
  | none => simp [hb] at h
  | some o =>
    cases o with
    | cells c e f =>
      refine ⟨c, e, f, rfl, fun i x hx => ?_⟩
      cases i with
      | zero =>
        have hx : hvError = x := by simpa using hx
        subst hx
        simpa [hb] using h
      | succ i => simp at hx
    | _ => simp [hb] at h
theorem awake_ok {W : World} (h : W.cell? ⟨1, 0, none⟩ = some hvError) : Calls Tryz.prog 9 #[] W fun e w' => e = .returned (.bool true) ∧ Below W.heap.size W w' := awake_plain.calls W (laid_of_cell h)
end Go.Proofs.YthohhepoddnbnaaGreatDoor
