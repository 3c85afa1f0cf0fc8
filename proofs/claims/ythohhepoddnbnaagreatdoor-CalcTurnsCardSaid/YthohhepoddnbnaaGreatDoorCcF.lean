/- CalcTurns' argument, opened. -/
import Derived.Test.YthohhepoddnbnaaGreatDoorMgCcD
import Derived.Test.YthohhepoddnbnaaGreatDoorOpn
namespace Go.Proofs.YthohhepoddnbnaaGreatDoor
open Go.RowKit Fl

def turnTs : List TypeId := [22, 22, 21, 34]
theorem turnTypes : Tryz.prog.cellTypes Tryz.prog.depth 36 = some turnTs := by kernel_rfl
theorem turnCells : Tryz.prog.cellsOf 36 = turnTs.length := by kernel_rfl
theorem turnStruct : ∃ fs, Tryz.prog.underlying 36 = some (.struct fs) := ⟨_, Tryz.underlying36⟩
set_option maxRecDepth 100000 in
theorem open_turn {w : World} {r : Reach} {B : Nat} {v : Value} {p : Prop} (h : Value.okWide Tryz.prog w r B 36 v) (_ : p) : ∃ (x y : Nat) (z s : Int), v = .agg #[.float .f64 x, .float .f64 y, .int .i32 z, .int .i16 s] ∧ U x ∧ U y ∧ (-2147483648 ≤ z ∧ z ≤ 2147483647) ∧ (-32768 ≤ s ∧ s ≤ 32767) := by
  obtain ⟨fs, hs⟩ := turnStruct
  obtain ⟨cs, rfl, hl, hc⟩ := open_agg hs turnTypes turnCells h
  have hl : cs.size = 4 := hl
  have h0 := at_flt (i := 0) hc rfl Tryz.underlying22
  have h1 := at_flt (i := 1) hc rfl Tryz.underlying22
  have h2 := at_int (i := 2) hc rfl Tryz.underlying21
  have h3 := at_int (i := 3) hc rfl Tryz.underlying34
  refine ⟨fOf cs[0]?, fOf cs[1]?, iOf cs[2]?, iOf cs[3]?, ?_, fOf_lt cs[0]?, fOf_lt cs[1]?, ?_, ?_⟩
  rotate_left 1
  · exact h2.2
  · exact h3.2
  · congr 1
    apply Array.ext_getElem?
    intro i
    match i with
    | 0 => exact h0
    | 1 => exact h1
    | 2 => exact h2.1
    | 3 => exact h3.1
    | i + 4 => rw [Array.getElem?_eq_none (by omega), Array.getElem?_eq_none (by simp)]
end Go.Proofs.YthohhepoddnbnaaGreatDoor
