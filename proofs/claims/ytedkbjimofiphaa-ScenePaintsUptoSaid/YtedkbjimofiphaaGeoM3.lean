/- Arguments that are matrices, opened; the walk of GeomMatrices, told for its frame. -/
import Derived.Test.YtedkbjimofiphaaMgInvD
import Derived.Test.YtedkbjimofiphaaMgPnC
import Derived.DataReads
namespace Go.Proofs.Ytedkbjimofiphaa
open Go.ChangeShapes Go.WideShapes Go.RowKit
section
variable {H : Type} {enc : TypeId × Value → H} {P : Program} {w : World} {r : Reach} {B0 : Nat}
theorem mapM_each {α β : Type} {f : α → Option β} {l : List α} {r : List β} (h : l.mapM f = some r) : ∀ x ∈ l, ∃ y, f x = some y := fun x hx => by
  obtain ⟨i, hi, rfl⟩ := List.mem_iff_getElem.1 hx
  have hl := mapM_some_length h
  have := mapM_some_get h i _ (List.getElem?_eq_getElem hi)
  rw [List.getElem?_eq_getElem (by omega)] at this
  exact ⟨_, this⟩
theorem open_floats16 {t e : TypeId} {v : Value} {d : DataW H} {p : List MemPlace} (ht : P.underlying t = some (.array 16 e)) (he : P.underlying e = some (.float .f64)) (hC : P.cellsOf t = 16) (hc : P.cellsOf e = 1)
    (hv : Value.okWide P w r B0 t v) (h : DataW.Trod enc P w 0 (fun _ => true) true t v d p) : ∃ ms : List Nat, v = .agg (ms.map (Value.float .f64)).toArray ∧ MU ms := by
  simp only [Value.okWide, ht] at hv
  obtain ⟨cs, rfl, hsz, _⟩ := hv
  rw [hC] at hsz
  obtain ⟨fuel, hf⟩ := h
  have key : ∀ i, i < 16 → ∃ x, cs[i]? = some (Value.float .f64 x) ∧ U x := by
    cases fuel with
    | zero => simp [DataW.trod] at hf
    | succ n =>
      unfold DataW.trod at hf
      rw [ht] at hf
      simp only [Value.cells, Array.length_toList, hsz, hC, if_true] at hf
      rw [Option.map_eq_some_iff] at hf
      obtain ⟨ys, hys, _⟩ := hf
      intro i hi
      obtain ⟨y, hy⟩ := mapM_each hys i (List.mem_range.2 hi)
      have hlt : i < cs.size := by omega
      have e1 : (cs.toList.drop (i * P.cellsOf e)).take (P.cellsOf e) = [cs[i]] := by
        rw [hc, Nat.mul_one, List.drop_eq_getElem_cons (by simpa using hlt)]
        simp
      rw [e1] at hy
      obtain ⟨x, hx, hw⟩ := trod_floatQ he hy
      exact ⟨x, by rw [Array.getElem?_eq_getElem hlt, hx], U_of_wf hw⟩
  refine ⟨cs.toList.map (fun v => match v with | .float _ x => x | _ => 0), ?_, by rw [List.length_map]; simpa using hsz, fun x hx => ?_⟩
  · congr 1
    apply Array.ext
    · simp
    · intro i h1 h2
      obtain ⟨x, hx, _⟩ := key i (by omega)
      rw [Array.getElem?_eq_getElem h1] at hx
      injection hx with hx
      simp [hx]
  · obtain ⟨v, hv, rfl⟩ := List.mem_map.1 hx
    obtain ⟨i, hi, rfl⟩ := List.mem_iff_getElem.1 hv
    rw [Array.length_toList] at hi
    obtain ⟨x, hx, hu⟩ := key i (by omega)
    rw [Array.getElem?_eq_getElem hi] at hx
    injection hx with hx
    rw [Array.getElem_toList, hx]
    exact hu
end
end Go.Proofs.Ytedkbjimofiphaa
