/- Arguments that are structs of numbers, opened cell by cell by what the claim asks of a value. -/
import Derived.ProofKit
import GoSem.ClaimWide
namespace Go.Proofs.YthohhepoddnbnaaGreatDoor
open Go.RowKit

def fOf : Option Value → Nat
  | some (.float _ x) => if x < 18446744073709551616 then x else 0
  | _ => 0
def iOf : Option Value → Int
  | some (.int _ z) => z
  | _ => 0
theorem fOf_lt (o : Option Value) : fOf o < 18446744073709551616 := by
  unfold fOf
  split
  · split
    · assumption
    · decide
  · decide
theorem fOf_some {x : Nat} (h : x < 18446744073709551616) : fOf (some (.float .f64 x)) = x := by
  simp only [fOf]; rw [if_pos h]
section
variable {P : Program} {w : World} {r : Reach} {B : Nat}
theorem cell_flt {u : TypeId} {v : Value} (hu : P.underlying u = some (.float .f64)) (h : Cell.okWide P w r B u v) : ∃ x, v = .float .f64 x ∧ x < 18446744073709551616 := by
  unfold Cell.okWide at h
  rw [hu] at h
  unfold Cell.ok at h
  rw [hu] at h
  cases v <;> simp at h
  obtain ⟨rfl, h⟩ := h
  exact ⟨_, rfl, by simpa [FloatKind.has] using h⟩
theorem cell_int {u : TypeId} {v : Value} {k : IntKind} (hu : P.underlying u = some (.int k)) (h : Cell.okWide P w r B u v) : ∃ z, v = .int k z ∧ k.has z := by
  unfold Cell.okWide at h
  rw [hu] at h
  unfold Cell.ok at h
  rw [hu] at h
  cases v <;> simp at h
  obtain ⟨rfl, h⟩ := h
  exact ⟨_, rfl, h⟩
theorem open_agg {t : TypeId} {v : Value} {fs : Array Field} {ts : List TypeId} (ht : P.underlying t = some (.struct fs)) (hts : P.cellTypes P.depth t = some ts) (hc : P.cellsOf t = ts.length) (h : Value.okWide P w r B t v) :
    ∃ cs : Array Value, v = .agg cs ∧ cs.size = ts.length ∧ ∀ (i : Nat) (u : TypeId), ts[i]? = some u → ∃ x, cs[i]? = some x ∧ Cell.okWide P w r B u x := by
  unfold Value.okWide at h
  rw [ht] at h
  obtain ⟨cs, rfl, hs, ts', h1, _, h2⟩ := h
  rw [hts] at h1
  cases h1
  rw [hc] at hs
  refine ⟨cs, rfl, hs, fun i u hi => ?_⟩
  have hlt : i < ts.length := (List.getElem?_eq_some_iff.1 hi).1
  have hx : cs[i]? = some (cs[i]'(by omega)) := Array.getElem?_eq_getElem _
  obtain ⟨u', hu', hok⟩ := h2 i _ hx
  rw [Nat.mod_eq_of_lt hlt, hi] at hu'
  cases hu'
  exact ⟨_, hx, hok⟩
theorem at_flt {cs : Array Value} {ts : List TypeId} {u : TypeId} {i : Nat} (h : ∀ (i : Nat) (u : TypeId), ts[i]? = some u → ∃ x, cs[i]? = some x ∧ Cell.okWide P w r B u x) (hi : ts[i]? = some u) (hu : P.underlying u = some (.float .f64)) : cs[i]? = some (.float .f64 (fOf cs[i]?)) := by
  obtain ⟨x, hx, hok⟩ := h i u hi
  obtain ⟨y, rfl, hy⟩ := cell_flt hu hok
  rw [hx, fOf_some hy]
theorem at_int {cs : Array Value} {ts : List TypeId} {u : TypeId} {i : Nat} {k : IntKind} (h : ∀ (i : Nat) (u : TypeId), ts[i]? = some u → ∃ x, cs[i]? = some x ∧ Cell.okWide P w r B u x) (hi : ts[i]? = some u) (hu : P.underlying u = some (.int k)) : cs[i]? = some (.int k (iOf cs[i]?)) ∧ k.has (iOf cs[i]?) := by
  obtain ⟨x, hx, hok⟩ := h i u hi
  obtain ⟨y, rfl, hy⟩ := cell_int hu hok
  rw [hx]
  exact ⟨rfl, hy⟩
end
end Go.Proofs.YthohhepoddnbnaaGreatDoor
