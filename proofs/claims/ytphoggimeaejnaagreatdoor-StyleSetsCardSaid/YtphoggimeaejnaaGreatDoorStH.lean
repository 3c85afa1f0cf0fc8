/- A look as an argument, opened. -/
import Derived.Test.YtphoggimeaejnaaGreatDoorStA
import Derived.Test.YtphoggimeaejnaaGreatDoorOpn
namespace Go.Proofs.YtphoggimeaejnaaGreatDoor
open Go.RowKit Fl

def lookTs : List TypeId := [22, 23, 23, 23, 24, 23, 24, 23, 24, 23, 24, 23, 24, 23, 24, 23, 24, 23, 24, 23, 24, 23, 24, 23, 24, 23, 24, 23, 24, 23, 24, 23, 23, 23, 24, 23, 24, 23, 23, 23, 23, 23, 23, 23, 23, 23, 23, 23, 23, 23, 23, 23, 23, 23]
theorem lookTypes : Tryz.prog.cellTypes Tryz.prog.depth 31 = some lookTs := by kernel_rfl
theorem lookCells : Tryz.prog.cellsOf 31 = lookTs.length := by kernel_rfl
theorem lookStruct : ∃ fs, Tryz.prog.underlying 31 = some (.struct fs) := ⟨_, Tryz.underlying31⟩
set_option maxRecDepth 100000 in
theorem open_look {w : World} {r : Reach} {B : Nat} {v : Value} (h : Value.okWide Tryz.prog w r B 31 v) : ∃ (g : Nat → Int) (f : Nat → Nat), v = .agg (lkC g f).toArray ∧ ∀ i, U (f i) := by
  obtain ⟨fs, hs⟩ := lookStruct
  obtain ⟨cs, rfl, hl, hc⟩ := open_agg hs lookTypes lookCells h
  refine ⟨fun i => iOf cs[i]?, fun i => fOf cs[i]?, ?_, fun i => fOf_lt _⟩
  congr 1
  apply Array.ext_getElem?
  intro i
  match i with
  | 0 => exact (at_int (i := 0) hc rfl Tryz.underlying22).1
  | 1 => exact at_flt (i := 1) hc rfl Tryz.underlying23
  | 2 => exact at_flt (i := 2) hc rfl Tryz.underlying23
  | 3 => exact at_flt (i := 3) hc rfl Tryz.underlying23
  | 4 => exact (at_int (i := 4) hc rfl Tryz.underlying24).1
  | 5 => exact at_flt (i := 5) hc rfl Tryz.underlying23
  | 6 => exact (at_int (i := 6) hc rfl Tryz.underlying24).1
  | 7 => exact at_flt (i := 7) hc rfl Tryz.underlying23
  | 8 => exact (at_int (i := 8) hc rfl Tryz.underlying24).1
  | 9 => exact at_flt (i := 9) hc rfl Tryz.underlying23
  | 10 => exact (at_int (i := 10) hc rfl Tryz.underlying24).1
  | 11 => exact at_flt (i := 11) hc rfl Tryz.underlying23
  | 12 => exact (at_int (i := 12) hc rfl Tryz.underlying24).1
  | 13 => exact at_flt (i := 13) hc rfl Tryz.underlying23
  | 14 => exact (at_int (i := 14) hc rfl Tryz.underlying24).1
  | 15 => exact at_flt (i := 15) hc rfl Tryz.underlying23
  | 16 => exact (at_int (i := 16) hc rfl Tryz.underlying24).1
  | 17 => exact at_flt (i := 17) hc rfl Tryz.underlying23
  | 18 => exact (at_int (i := 18) hc rfl Tryz.underlying24).1
  | 19 => exact at_flt (i := 19) hc rfl Tryz.underlying23
  | 20 => exact (at_int (i := 20) hc rfl Tryz.underlying24).1
  | 21 => exact at_flt (i := 21) hc rfl Tryz.underlying23
  | 22 => exact (at_int (i := 22) hc rfl Tryz.underlying24).1
  | 23 => exact at_flt (i := 23) hc rfl Tryz.underlying23
  | 24 => exact (at_int (i := 24) hc rfl Tryz.underlying24).1
  | 25 => exact at_flt (i := 25) hc rfl Tryz.underlying23
  | 26 => exact (at_int (i := 26) hc rfl Tryz.underlying24).1
  | 27 => exact at_flt (i := 27) hc rfl Tryz.underlying23
  | 28 => exact (at_int (i := 28) hc rfl Tryz.underlying24).1
  | 29 => exact at_flt (i := 29) hc rfl Tryz.underlying23
  | 30 => exact (at_int (i := 30) hc rfl Tryz.underlying24).1
  | 31 => exact at_flt (i := 31) hc rfl Tryz.underlying23
  | 32 => exact at_flt (i := 32) hc rfl Tryz.underlying23
  | 33 => exact at_flt (i := 33) hc rfl Tryz.underlying23
  | 34 => exact (at_int (i := 34) hc rfl Tryz.underlying24).1
  | 35 => exact at_flt (i := 35) hc rfl Tryz.underlying23
  | 36 => exact (at_int (i := 36) hc rfl Tryz.underlying24).1
  | 37 => exact at_flt (i := 37) hc rfl Tryz.underlying23
  | 38 => exact at_flt (i := 38) hc rfl Tryz.underlying23
  | 39 => exact at_flt (i := 39) hc rfl Tryz.underlying23
  | 40 => exact at_flt (i := 40) hc rfl Tryz.underlying23
  | 41 => exact at_flt (i := 41) hc rfl Tryz.underlying23
  | 42 => exact at_flt (i := 42) hc rfl Tryz.underlying23
  | 43 => exact at_flt (i := 43) hc rfl Tryz.underlying23
  | 44 => exact at_flt (i := 44) hc rfl Tryz.underlying23
  | 45 => exact at_flt (i := 45) hc rfl Tryz.underlying23
  | 46 => exact at_flt (i := 46) hc rfl Tryz.underlying23
  | 47 => exact at_flt (i := 47) hc rfl Tryz.underlying23
  | 48 => exact at_flt (i := 48) hc rfl Tryz.underlying23
  | 49 => exact at_flt (i := 49) hc rfl Tryz.underlying23
  | 50 => exact at_flt (i := 50) hc rfl Tryz.underlying23
  | 51 => exact at_flt (i := 51) hc rfl Tryz.underlying23
  | 52 => exact at_flt (i := 52) hc rfl Tryz.underlying23
  | 53 => exact at_flt (i := 53) hc rfl Tryz.underlying23
  | i + 54 =>
    have h1 : cs[i + 54]? = none := by rw [Array.getElem?_eq_none]; rw [hl]; exact Nat.le_add_left _ _
    rw [h1]
    rfl
end Go.Proofs.YtphoggimeaejnaaGreatDoor
