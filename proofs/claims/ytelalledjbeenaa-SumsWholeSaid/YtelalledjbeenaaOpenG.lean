/- Arguments that are slices of ints or bools, opened. -/
import Derived.Test.YtelalledjbeenaaSumN
namespace Go.Proofs.Ytelalledjbeenaa
open Go.ChangeShapes Go.WideShapes Go.RowKit Go.Deep

theorem open_intsK {H : Type} {enc : TypeId × Value → H} {w : World} {r : Reach} {B0 : Nat} {v : Value} {d : DataW H} {p : List MemPlace} (P : Program) (t e : TypeId) (k : IntKind) (ht : P.underlying t = some (.slice e)) (he : P.underlying e = some (.int k)) (hc : P.cellsOf e = 1)
    (hv : Value.okWide P w r B0 t v) (h : DataW.Trod enc P w 0 (fun _ => true) true t v d p) :
    ∃ (A : Option Addr) (l : List Int) (c : Nat), v = .slice A l.length c ∧ CS w A (l.map (Value.int k)) ∧ l.length ≤ c ∧ LenD d c ∧ ∀ z ∈ l, (Lit.int k z).wf = true := by
  obtain ⟨A, vs, c, rfl, hcs, hl, _, hd, hx, _⟩ := open_cells ht hc hv h
  obtain ⟨xs, rfl, hU⟩ := all_of (Value.int k) (fun z => (Lit.int k z).wf = true) vs (fun u hu => by
    obtain ⟨n, y, ht⟩ := hx u hu
    obtain ⟨z, hz, _, hw⟩ := DataW.trod_int he ht
    simp only [List.cons.injEq, and_true] at hz
    exact ⟨z, hz, hw⟩)
  rw [List.length_map] at hl ⊢
  exact ⟨A, xs, c, rfl, hcs, hl, hd, hU⟩
theorem open_boolsK {H : Type} {enc : TypeId × Value → H} {w : World} {r : Reach} {B0 : Nat} {v : Value} {d : DataW H} {p : List MemPlace} (P : Program) (t e : TypeId) (ht : P.underlying t = some (.slice e)) (he : P.underlying e = some .bool) (hc : P.cellsOf e = 1)
    (hv : Value.okWide P w r B0 t v) (h : DataW.Trod enc P w 0 (fun _ => true) true t v d p) :
    ∃ (A : Option Addr) (l : List Bool) (c : Nat), v = .slice A l.length c ∧ CS w A (l.map Value.bool) ∧ l.length ≤ c ∧ LenD d c := by
  obtain ⟨A, vs, c, rfl, hcs, hl, _, hd, hx, _⟩ := open_cells ht hc hv h
  obtain ⟨xs, rfl, _⟩ := all_of Value.bool (fun _ => True) vs (fun u hu => by
    obtain ⟨n, y, ht⟩ := hx u hu
    obtain ⟨z, hz, _⟩ := DataW.trod_bool he ht
    simp only [List.cons.injEq, and_true] at hz
    exact ⟨z, hz, trivial⟩)
  rw [List.length_map] at hl ⊢
  exact ⟨A, xs, c, rfl, hcs, hl, hd⟩
theorem cells21 : Try.prog.cellsOf 21 = 1 := by kernel_rfl
theorem bytes21 : Try.prog.bytesOf 21 = 4 := by kernel_rfl
theorem cells4 : Try.prog.cellsOf 4 = 1 := by kernel_rfl
theorem bytes4 : Try.prog.bytesOf 4 = 1 := by kernel_rfl
theorem cells3 : Try.prog.cellsOf 3 = 1 := by kernel_rfl
theorem bytes3 : Try.prog.bytesOf 3 = 8 := by kernel_rfl
theorem wf_i32 {z : Int} (h : (Lit.int .i32 z).wf = true) : -2147483648 ≤ z ∧ z ≤ 2147483647 := by
  simp [Lit.wf, IntKind.min, IntKind.max, IntKind.signed, IntKind.bits] at h; omega
theorem wf_i64 {z : Int} (h : (Lit.int .i64 z).wf = true) : -9223372036854775808 ≤ z ∧ z ≤ 9223372036854775807 := by
  simp [Lit.wf, IntKind.min, IntKind.max, IntKind.signed, IntKind.bits] at h; omega
theorem walkSumsWhole2 (A : Option Addr) (zs : List Int) (c : Nat) (A1 : Option Addr) (cs : List Bool) (c1 : Nat) (w : World) (h : CS w A (zs.map (Value.int .i32))) (m0 : zs.length ≤ c) (z0 : c * 4 ≤ 140737488351232)
    (f0 : ∀ z ∈ zs, (Lit.int .i32 z).wf = true) (h1 : CS w A1 (cs.map Value.bool)) (m1 : cs.length ≤ c1) (z1 : c1 * 1 ≤ 140737488351232) :
    Calls Try.prog 5 #[.slice A zs.length c, .slice A1 cs.length c1] w fun e w' => e = .returned (.bool true) ∧ Below w.heap.size w w' :=
  walkSumsWhole A zs c A1 cs c1 w h h1 (fun z hz => by have := wf_i32 (f0 z hz); omega) (by omega) (by omega)
end Go.Proofs.Ytelalledjbeenaa
