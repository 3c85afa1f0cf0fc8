/- The head of all statements of layer 1: 'alive' answers true. -/
import Derived.Test.YthohhepoddnbnaaGreatDoorMgAccB
import Derived.Test.YthohhepoddnbnaaGreatDoorF32
import Derived.Laws.StructEq
namespace Go.Proofs.YthohhepoddnbnaaGreatDoor
open Go.RowKit Fl

theorem U_of_wf {x : Nat} (h : (Lit.float .f64 x).wf = true) : U x := by
  unfold U; simpa [Lit.wf] using h
theorem U32_of_wf {x : Nat} (h : (Lit.float .f32 x).wf = true) : U32 x := by
  unfold U32; simpa [Lit.wf] using h
theorem U_of_int {n : Int} (h : (Lit.int .u64 n).wf = true) : ∃ m : Nat, n = (m : Int) ∧ U m := by
  simp [Lit.wf, IntKind.min, IntKind.max, IntKind.signed, IntKind.bits] at h
  exact ⟨n.toNat, by omega, by unfold U; omega⟩
theorem U32_of_int {n : Int} (h : (Lit.int .u32 n).wf = true) : ∃ m : Nat, n = (m : Int) ∧ U32 m := by
  simp [Lit.wf, IntKind.min, IntKind.max, IntKind.signed, IntKind.bits] at h
  exact ⟨n.toNat, by omega, by unfold U32; omega⟩
theorem bcell {W w1 : World} (hb : Below W.heap.size W w1) : (∀ b o, b < W.heap.size → w1.cell? ⟨b, o, none⟩ = W.cell? ⟨b, o, none⟩) ∧ (∀ b o, b < W.heap.size → w1.frozen? ⟨b, o, none⟩ = W.frozen? ⟨b, o, none⟩) :=
  ⟨fun b o h => hb.cell (p := ⟨b, o, none⟩) h, fun b o h => hb.frozen (p := ⟨b, o, none⟩) h⟩

theorem kept_cell {w w2 : World} {vs : Array Value} {t : TypeId} (hb : Below (w.alloc (.cells vs t)).heap.size (w.alloc (.cells vs t)) w2) (k : Nat) :
    w2.cell? ⟨w.heap.size, k, none⟩ = vs[k]? := by
  rw [hb.cell (p := ⟨w.heap.size, k, none⟩) (by simp)]
  exact World.cell?_alloc_new w vs t k
theorem size_lt_alloc {w w2 : World} {o : Obj} (hb : Below (w.alloc o).heap.size (w.alloc o) w2) : w.heap.size < w2.heap.size := by
  have := hb.size
  simp at this; omega
theorem below_of_alloc {w w1 w2 : World} {o : Obj} (h : Below w.heap.size w w1) (hb : Below (w1.alloc o).heap.size (w1.alloc o) w2) : Below w.heap.size w w2 :=
  (h.alloc h.size o).trans (hb.mono (by have := h.size; simp; omega))
theorem below_trans {w w1 w2 : World} (h : Below w.heap.size w w1) (hb : Below w1.heap.size w1 w2) : Below w.heap.size w w2 := h.trans (hb.mono h.size)
theorem parts_m29 : partsV 13837084675114480435 = .agg #[.bool true, .int .i64 2, .int .u64 6530219459687219, .int .i64 (-51)] := by
  have h1 : eM 13837084675114480435 = 1024 := by decide
  have h2 : fM 13837084675114480435 = 2026619832316723 := by decide
  have h3 : sg 13837084675114480435 = true := by decide
  unfold partsV pNeg pCls pMant pExp
  rw [h1, h2, h3]; rfl
theorem parts_1 : partsV 4607182418800017408 = .agg #[.bool false, .int .i64 2, .int .u64 4503599627370496, .int .i64 (-52)] := by
  have h1 : eM 4607182418800017408 = 1023 := by decide
  have h2 : fM 4607182418800017408 = 0 := by decide
  have h3 : sg 4607182418800017408 = false := by decide
  unfold partsV pNeg pCls pMant pExp
  rw [h1, h2, h3]; rfl
end Go.Proofs.YthohhepoddnbnaaGreatDoor
