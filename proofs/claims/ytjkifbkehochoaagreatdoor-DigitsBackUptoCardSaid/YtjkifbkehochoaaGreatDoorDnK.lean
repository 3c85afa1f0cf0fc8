/- The walk of DigitsBack. -/
import Derived.Test.YtjkifbkehochoaaGreatDoorMgDmO
import Derived.ChangeMaps5
namespace Go.Proofs.YtjkifbkehochoaaGreatDoor
open Go.ChangeShapes Go.WideShapes Go.RowKit Go.Deep Fl
set_option maxRecDepth 100000 in
theorem open_str9 {H : Type} {enc : TypeId × Value → H} {w : World} {r : Reach} {B0 : Nat} {v : Value} {d : DataW H} {q : List MemPlace} (hv : Value.okWide Tryz.prog w r B0 9 v) (h : DataW.Trod enc Tryz.prog w 0 (fun _ => true) true 9 v d q) :
    ∃ (A : ByteArray), v = .string A ∧ A.size ≤ Rows.uptoBulk d := by
  obtain ⟨A, e1, e2, -⟩ := Go.ChangeMaps.open_string Tryz.underlying9 hv h
  refine ⟨A, e1, ?_⟩
  rw [e2, bulks.string_eq]
  exact Nat.le_succ _
set_option maxRecDepth 100000 in
theorem open_u27 {H : Type} {enc : TypeId × Value → H} {w : World} {r : Reach} {B0 : Nat} {v : Value} {d : DataW H} {q : List MemPlace} (hv : Value.okWide Tryz.prog w r B0 27 v) (h : DataW.Trod enc Tryz.prog w 0 (fun _ => true) true 27 v d q) :
    ∃ n : Nat, v = .int .u64 (n : Int) ∧ U n := by
  obtain ⟨z, e1, -, -, e4⟩ := open_int Tryz.underlying27 hv h
  have e5 := wf_u64 e4
  exact ⟨z.toNat, by rw [e1, Int.toNat_of_nonneg e5.1], by unfold U; omega⟩
theorem awake_back {W : World} (h : laidMetH Tryz.prog Rows.digitsBackUptoRow.laid W) : (Calls Tryz.prog 9 #[] W fun e w' => e = .returned (.bool true) ∧ Below W.heap.size W w') ∧ PowTab W := by
  rw [MakeChecks.laidMetH_plain _ _ _ (by kernel_rfl)] at h
  exact ⟨awake_ok fun i hi => pow_cells h i hi, pow_tab h⟩
theorem walkBack (W : World) (hL : laidMetH Tryz.prog Rows.digitsBackUptoRow.laid W) (x : Nat) (hx : U x) (s : ByteArray) (hs : s.size ≤ 1048576) :
    Calls Tryz.prog 7 #[.int .u64 (x : Int), .string s] W fun e w' => e = .returned (.bool true) ∧ Below W.heap.size W w' := by
  obtain ⟨aw, pt⟩ := awake_back hL
  rcases Nat.eq_zero_or_pos (rg x) with h0 | h0
  · exact walkBackZero W aw pt x s hx h0 (by omega)
  · rcases Nat.lt_or_ge (rg x) INF with h1 | h1
    · exact walkBackFin W aw pt x s hx h0 h1 (by omega)
    · exact walkBackInf W aw pt x s hx h1
end Go.Proofs.YtjkifbkehochoaaGreatDoor
