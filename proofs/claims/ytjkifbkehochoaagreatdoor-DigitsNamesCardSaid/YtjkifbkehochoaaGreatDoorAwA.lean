/- awake, in a world where the row's condition holds. -/
import Derived.Test.YtjkifbkehochoaaGreatDoorMgEsA
import Derived.Test.YtjkifbkehochoaaGreatDoorRows
import Derived.Lib.LaidTab
import Derived.LaidHandle
import Derived.LaidLaws
import Derived.MakeChecks
import Derived.KernelRfl
namespace Go.Proofs.YtjkifbkehochoaaGreatDoor
open Go.RowKit
def powZ : List Int := [1, 10, 100, 1000, 10000, 100000, 1000000, 10000000, 100000000, 1000000000, 10000000000, 100000000000, 1000000000000, 10000000000000, 100000000000000, 1000000000000000, 10000000000000000, 100000000000000000, 1000000000000000000, 10000000000000000000]
theorem pow_name : Tryz.prog.globalNamed "internal/strconv.uint64pow10" = some 1 := by kernel_rfl
theorem pow_cells {W : World} {x1 x2 : String × DataW Unit} {rest : List (String × DataW Unit)} (h : laidMet Tryz.prog (x1 :: x2 :: ("internal/strconv.uint64pow10", Lib.tabData .u64 powZ) :: rest) W) (i : Nat) (hi : i < 20) : W.cell? ⟨1, i, none⟩ = some (.int .u64 (powZ.getD i 0)) := by
  obtain ⟨ps, ⟨_, _, _, _, _, q1, _, _, _, _, ⟨_, _, _, _, _, q2, _, _, _, _, ⟨g', t', cs, fuel, p, q, hg', ht', hvar, hd, _, _⟩, _⟩, _⟩, _⟩ := h
  obtain rfl := Option.some.inj (pow_name.symm.trans hg')
  have ht : ∃ t e, (Tryz.prog.globals[1]?).map (·.type) = some t ∧ Tryz.prog.underlying t = some (.array 20 e) ∧ Tryz.prog.underlying e = some (.int .u64) ∧ Tryz.prog.cellsOf e = 1 ∧ Tryz.prog.cellsOf t = 20 := ⟨154, 27, by kernel_rfl, by kernel_rfl, by kernel_rfl, by kernel_rfl, by kernel_rfl⟩
  obtain ⟨t, e, h1, h2, h3, h4, h5⟩ := ht
  obtain rfl := Option.some.inj (h1.symm.trans ht')
  have hc := Lib.cells_of_tab h2 h3 h4 h5 hd
  have := World.var?_cell pow_name hvar i
  rw [this]
  have hl : powZ.length = 20 := rfl
  have e4 : cs[i]? = cs.toList[i]? := by simp
  have e5 : (cs.toList)[i]? = some (.int .u64 (powZ.getD i 0)) := by
    rw [hc]
    simp [List.getD, hl, hi]
  first
    | exact e5
    | (rw [e4]; exact e5)
theorem laid_of_pow {W : World} (h : ∀ i, i < 20 → W.cell? ⟨1, i, none⟩ = some (.int .u64 (powZ.getD i 0))) : Ev.Laid W Ev.xG := by
  intro p hp
  obtain rfl := List.mem_singleton.1 hp
  have h0 := h 0 (by decide)
  unfold World.cell? at h0
  cases hb : W.heap[1]? with
  | none => simp [hb] at h0
  | some o =>
    cases o with
    | cells c e f =>
      refine ⟨c, e, f, rfl, fun i x hx => ?_⟩
      have hi : i < 20 := (List.getElem?_eq_some_iff.1 hx).1
      have hi2 := h i hi
      unfold World.cell? at hi2
      have hx2 : (powZ.map (Value.int .u64))[i]? = some x := hx
      rw [List.getElem?_map] at hx2
      have hl : powZ.length = 20 := rfl
      have e3 : x = .int .u64 (powZ.getD i 0) := by
        rw [List.getElem?_eq_getElem (by rw [hl]; exact hi)] at hx2
        rw [List.getD, List.getElem?_eq_getElem (by rw [hl]; exact hi)]
        exact (Option.some.inj hx2).symm
      rw [e3]
      simpa [hb] using hi2
    | _ => simp [hb] at h0
theorem awake_ok {W : World} (h : ∀ i, i < 20 → W.cell? ⟨1, i, none⟩ = some (.int .u64 (powZ.getD i 0))) : Calls Tryz.prog 9 #[] W fun e w' => e = .returned (.bool true) ∧ Below W.heap.size W w' := awake_plain.calls W (laid_of_pow h)
end Go.Proofs.YtjkifbkehochoaaGreatDoor
