/- Slices of floats. -/
import Derived.Test.YthohhepoddnbnaaGreatDoorCaA
import Derived.OwnWalk
import Derived.Deep.AppendLies
namespace Go.Proofs.YthohhepoddnbnaaGreatDoor
open Go.RowKit Fl

/-- a slice's numbers: none, or they lie in a block -/
def FS (w : World) (A : Option Addr) (l : List Nat) : Prop := l = [] ∨ ∃ b o, A = some ⟨b, o, none⟩ ∧ FL w b o l
theorem FS.below {w w' : World} {A : Option Addr} {l : List Nat} (h : FS w A l) (hb : Below w.heap.size w w') : FS w' A l := by
  rcases h with h | ⟨b, o, h1, h2⟩
  · exact .inl h
  · exact .inr ⟨b, o, h1, h2.below hb⟩
theorem FL.keep {w0 w w' : World} {b o : Nat} {l : List Nat} (h : FL w b o l) (hb : Below w0.heap.size w0 w) (hb' : Below w0.heap.size w0 w') (hlt : b < w0.heap.size) : FL w' b o l :=
  ⟨fun j x hj => ((hb'.cell (p := ⟨b, o + j, none⟩) hlt).trans (hb.cell (p := ⟨b, o + j, none⟩) hlt).symm).trans (h.cell j x hj), h.u, Nat.lt_of_lt_of_le hlt hb'.size⟩
theorem FS.u {w : World} {A : Option Addr} {l : List Nat} (h : FS w A l) : ∀ x ∈ l, U x := by
  rcases h with rfl | ⟨b, o, _, h2⟩
  · intro x hx; cases hx
  · intro x hx
    obtain ⟨j, hj⟩ := List.getElem?_of_mem hx
    exact h2.u j x hj
theorem info24 : (Tryz.prog.info? 22).map (fun i => (i.zero, i.size, i.bytes)) = some (some (.float .f64 0), 1, 8) := by kernel_rfl
theorem made_one (v : Value) (n : Nat) : (madeCells #[v] (n * 1)).toList = List.replicate n v := by
  rw [Nat.mul_one]
  apply List.ext_getElem
  · simp [size_madeCells]
  · intro i h1 h2
    simp [madeCells, Nat.mod_one]
/-- block g is a row of n floats that the call made -/
def OwnF (w : World) (B g n : Nat) (m : List Nat) : Prop := w.ownsRow B 22 1 (.slice (some ⟨g, 0, none⟩) n n) n (m.map (Value.float .f64))
theorem OwnF.FL {w : World} {B g n : Nat} {m : List Nat} (h : OwnF w B g n m) (hU : ∀ x ∈ m, U x) (hn : 0 < n) : FL w g 0 m := by
  obtain ⟨g', cap, hv, _, hlt⟩ := World.ownsRow.form h hn
  injection hv with hv _ _
  injection hv with hv
  injection hv with hv
  subst hv
  refine ⟨fun j x hj => ?_, fun j x hj => hU x (List.mem_of_getElem? hj), hlt⟩
  have hl : (m.map (Value.float .f64)).length = n * 1 := h.1
  rw [List.length_map, Nat.mul_one] at hl
  have hj' : j < n := by rw [← hl]; exact (List.getElem?_eq_some_iff.1 hj).1
  rw [Nat.zero_add, World.ownsRow.cellAt h j (by omega), List.getElem?_map, hj]; rfl
theorem OwnF.store {w : World} {B g n k : Nat} {m : List Nat} (h : OwnF w B g n m) (hk : k < n) (v : Nat) :
    (Go.store ⟨g, k, none⟩ (.float .f64 v)).run Tryz.prog w = .ok () (w.setCell ⟨g, k, none⟩ (.float .f64 v)) := by
  have h1 : (m.map (Value.float .f64)).length = n * 1 := h.1
  have kd : w.cell? ⟨g, k, none⟩ = some ((m.map (Value.float .f64))[k]'(by omega)) := (World.ownsRow.cellAt h k (by omega)).trans (List.getElem?_eq_getElem (by omega))
  have kf : w.frozen? ⟨g, k, none⟩ = false := World.ownsRow.frozenAt h k
  rw [run_store Tryz.prog _ _ _ _ rfl, kd, kf]; rfl
end Go.Proofs.YthohhepoddnbnaaGreatDoor
