/- The walk of DigitsOrder, as the card wants it; its argument opened. -/
import Derived.Test.YtjkifbkehochoaaGreatDoorMgDkD
import Derived.Test.YtjkifbkehochoaaGreatDoorDhO
import Derived.Lib.SmallJoins
namespace Go.Proofs.YtjkifbkehochoaaGreatDoor
open Go.ChangeShapes Go.WideShapes Go.RowKit Go.Deep Fl

section
variable {H : Type} {enc : TypeId × Value → H} {w : World} {r : Reach} {B0 : Nat}
set_option maxRecDepth 100000 in
theorem open_rows {v : Value} {d : DataW H} {q : List MemPlace} (hv : Value.okWide Tryz.prog w r B0 47 v) (h : DataW.Trod enc Tryz.prog w 0 (fun _ => true) true 47 v d q) :
    ∃ (A B : ByteArray) (p z : Int), v = .agg #[.string A, .string B, .int .i64 p, .int .i64 z] ∧ A.size ≤ Rows.uptoBulk d ∧ B.size ≤ Rows.uptoBulk d ∧ (-9223372036854775808 ≤ p ∧ p ≤ 9223372036854775807) ∧ (-9223372036854775808 ≤ z ∧ z ≤ 9223372036854775807) := by
  obtain ⟨cs, rfl, hsz, -⟩ : ∃ cs, v = .agg cs ∧ cs.size = Tryz.prog.cellsOf 47 ∧ Row.okWide Tryz.prog w r B0 47 cs := by
    unfold Value.okWide at hv
    rw [Tryz.underlying47] at hv
    exact hv
  obtain ⟨fuel, hf⟩ := h
  obtain ⟨y0, y1, y2, y3, n, hx, hl, h0, h1, h2, h3⟩ := Joins.trod_struct4 Tryz.underlying47 hf
  obtain ⟨c0, c1, c2, c3, rfl⟩ := Joins.array4 (hsz.trans (show Tryz.prog.cellsOf 47 = 4 by kernel_rfl))
  obtain ⟨A, eA, xA, -⟩ := DataW.trod_string Tryz.underlying9 h0
  obtain ⟨B, eB, xB, -⟩ := DataW.trod_string Tryz.underlying9 h1
  obtain ⟨p, ep, -, wp⟩ := DataW.trod_int Tryz.underlying3 h2
  obtain ⟨z, ez, -, wz⟩ := DataW.trod_int Tryz.underlying3 h3
  simp [Value.cells, cells9, cells3] at eA eB ep ez
  subst eA eB ep ez
  refine ⟨A, B, p, z, rfl, ?_, ?_, wf_i64 wp, wf_i64 wz⟩
  · have hd : d = .agg [y0.1, y1.1, y2.1, y3.1] := congrArg Prod.fst hx
    rw [hd, xA]
    have : ∀ l : List (DataW H), Rows.uptoBulkAll l ≤ Rows.uptoBulk (.agg l) := fun l => by simp only [Rows.uptoBulk]; omega
    refine Nat.le_trans ?_ (this _)
    refine Nat.le_trans ?_ (bulks.part_le (List.mem_cons_self ..))
    rw [bulks.string_eq]
    exact Nat.le_succ _
  · have hd : d = .agg [y0.1, y1.1, y2.1, y3.1] := congrArg Prod.fst hx
    rw [hd, xB]
    have : ∀ l : List (DataW H), Rows.uptoBulkAll l ≤ Rows.uptoBulk (.agg l) := fun l => by simp only [Rows.uptoBulk]; omega
    refine Nat.le_trans ?_ (this _)
    refine Nat.le_trans ?_ (bulks.part_le (List.mem_cons_of_mem _ (List.mem_cons_self ..)))
    rw [bulks.string_eq]
    exact Nat.le_succ _
end
theorem walkOrder (W : World) (hL : laidMetH Tryz.prog Rows.digitsOrderUptoRow.laid W) (A B : ByteArray) (p z : Int) (ha : A.size ≤ 1048576) (hb : B.size ≤ 1048576) (hp : -9223372036854775808 ≤ p ∧ p ≤ 9223372036854775807) (hz : -9223372036854775808 ≤ z ∧ z ≤ 9223372036854775807) :
    Calls Tryz.prog 8 #[.agg #[.string A, .string B, .int .i64 p, .int .i64 z]] W fun e w' => e = .returned (.bool true) ∧ Below W.heap.size W w' := by
  rw [MakeChecks.laidMetH_plain _ _ _ (by kernel_rfl)] at hL
  have hc := fun i hi => pow_cells hL i hi
  refine walkOrder0 W (fun w hw => awake_ok fun i hi => ?_) A B p z (by omega) (by omega) hp hz
  have h := hc i hi
  exact (hw.cell (p := ⟨1, i, none⟩) (World.block_lt_of_cell? W _ h)).trans h
end Go.Proofs.YtjkifbkehochoaaGreatDoor
