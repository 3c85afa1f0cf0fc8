/- The head of all statements of layer 1: 'alive' answers true. -/
import Derived.Test.YtelalledjbeenaaMgAccB
import Derived.Test.YtelalledjbeenaaF32
import Derived.Laws.StructEq
namespace Go.Proofs.Ytelalledjbeenaa
open Go.RowKit Fl

theorem U_of_wf {x : Nat} (h : (Lit.float .f64 x).wf = true) : U x := by
  unfold U; simpa [Lit.wf] using h
theorem U32_of_wf {x : Nat} (h : (Lit.float .f32 x).wf = true) : U32 x := by
  unfold U32; simpa [Lit.wf] using h
theorem U_of_int {n : Int} (h : (Lit.int .u64 n).wf = true) : ∃ m : Nat, n = (m : Int) ∧ U m := by
  simp [Lit.wf, IntKind.min, IntKind.max, IntKind.signed, IntKind.bits] at h
  exact ⟨n.toNat, by omega, by unfold U; omega⟩
theorem U32_of_int {n : Int} (h : (Lit.int .u32 n).wf = true) : ∃ m : Nat, n = (m : Int) ∧ U32 m := by
  simp [Lit.wf, IntKind.min, IntKind.max, IntKind.signed, IntKind.bits] at h
  exact ⟨n.toNat, by omega, by unfold U32; omega⟩
theorem bcell {W w1 : World} (hb : Below W.heap.size W w1) : (∀ b o, b < W.heap.size → w1.cell? ⟨b, o, none⟩ = W.cell? ⟨b, o, none⟩) ∧ (∀ b o, b < W.heap.size → w1.frozen? ⟨b, o, none⟩ = W.frozen? ⟨b, o, none⟩) :=
  ⟨fun b o h => hb.cell (p := ⟨b, o, none⟩) h, fun b o h => hb.frozen (p := ⟨b, o, none⟩) h⟩

theorem kept_cell {w w2 : World} {vs : Array Value} {t : TypeId} (hb : Below (w.alloc (.cells vs t)).heap.size (w.alloc (.cells vs t)) w2) (k : Nat) :
    w2.cell? ⟨w.heap.size, k, none⟩ = vs[k]? := by
  rw [hb.cell (p := ⟨w.heap.size, k, none⟩) (by simp)]
  exact World.cell?_alloc_new w vs t k
theorem size_lt_alloc {w w2 : World} {o : Obj} (hb : Below (w.alloc o).heap.size (w.alloc o) w2) : w.heap.size < w2.heap.size := by
  have := hb.size
  simp at this; omega
theorem below_of_alloc {w w1 w2 : World} {o : Obj} (h : Below w.heap.size w w1) (hb : Below (w1.alloc o).heap.size (w1.alloc o) w2) : Below w.heap.size w w2 :=
  (h.alloc h.size o).trans (hb.mono (by have := h.size; simp; omega))
theorem below_trans {w w1 w2 : World} (h : Below w.heap.size w w1) (hb : Below w1.heap.size w1 w2) : Below w.heap.size w w2 := h.trans (hb.mono h.size)
theorem parts_m29 : partsV 13837084675114480435 = .agg #[.bool true, .int .i64 2, .int .u64 6530219459687219, .int .i64 (-51)] := by
  have h1 : eM 13837084675114480435 = 1024 := by decide
  have h2 : fM 13837084675114480435 = 2026619832316723 := by decide
  have h3 : sg 13837084675114480435 = true := by decide
  unfold partsV pNeg pCls pMant pExp
  rw [h1, h2, h3]; rfl
theorem parts_1 : partsV 4607182418800017408 = .agg #[.bool false, .int .i64 2, .int .u64 4503599627370496, .int .i64 (-52)] := by
  have h1 : eM 4607182418800017408 = 1023 := by decide
  have h2 : fM 4607182418800017408 = 0 := by decide
  have h3 : sg 4607182418800017408 = false := by decide
  unfold partsV pNeg pCls pMant pExp
  rw [h1, h2, h3]; rfl
set_option maxRecDepth 100000 in
theorem c63k (w : World) : Calls Try.prog 63 #[.float .f64 13837084675114480435] w fun e w' => e = .returned (.int .u32 4294967294) ∧ Below w.heap.size w w' := by
  go_enter Try.func63, Try.ntmps63
  go_wp2_with fail
  refine (c30 _ _ (by unfold U; decide)).mono ?_
  rintro e w' ⟨rfl, hb⟩
  rw [parts_m29]
  go_wp2
  go_ret
  exact ⟨rfl, hb.alloc hb.size _⟩
set_option maxRecDepth 100000 in
theorem c64k (w : World) : Calls Try.prog 64 #[.float .f64 13837084675114480435] w fun e w' => e = .returned (.int .i32 (-2)) ∧ Below w.heap.size w w' := by
  go_enter Try.func64, Try.ntmps64
  go_wp2_with fail
  refine (c63k _).mono ?_
  rintro e w' ⟨rfl, hb⟩
  go_wp2
  go_ret
  exact ⟨ret_int (by unfold wrap32; omega), hb⟩
set_option maxRecDepth 100000 in
theorem c41k (w : World) : Calls Try.prog 41 #[.float .f64 4602678819172646912] w fun e w' => e = .returned (.float .f32 1056964608) ∧ w = w' := by
  have hc := fun w => run_convert_float_float (P := Try.prog) w 24 50 .f64 .f32 4602678819172646912 1056964608 (by rw [und24]; rfl) und50 (by decide)
  go_enter Try.func41, Try.ntmps41
  go_wp2
  go_ret
  exact ⟨rfl, rfl⟩
set_option maxRecDepth 100000 in
set_option maxHeartbeats 400000 in
theorem c29 (w : World) : Calls Try.prog 29 #[] w fun e w' => e = .returned (.bool true) ∧ Below w.heap.size w w' := by
  go_enter Try.func29, Try.ntmps29
  go_wp2_with fail
  refine (c30 _ _ (by unfold U; decide)).mono ?_
  rintro e w1 ⟨rfl, hb⟩
  rw [parts_1]
  go_wp2_with fail
  refine (c33 _ _ 3 _ _ (by unfold U; decide)).mono ?_
  rintro e w2 ⟨⟨r, rfl, hr, hp⟩, hb2⟩
  have hj : joinP false 2 3 (-1) = 4609434218613702656 := by decide +kernel
  rw [hj] at hp
  have e1 := f_eq r 4609434218613702656 hr (by unfold U; decide)
  rw [hp, show pl 4609434218613702656 = 4609434218613702656 from by decide, show feqP 4609434218613702656 4609434218613702656 = true from by decide] at e1
  have HP := Lib.hid hp
  have k0 := kept_cell hb2 0
  have k1 := kept_cell hb2 1
  have k2 := kept_cell hb2 2
  have k3 := kept_cell hb2 3
  simp only [List.getElem?_toArray, List.getElem?_cons_zero, List.getElem?_cons_succ] at k0 k1 k2 k3
  have hbb := below_of_alloc hb hb2
  clear hp hj hb hb2
  go_wp2_with fail
  refine (c41k _).mono ?_
  rintro e w3 ⟨rfl, rfl⟩
  have f1 : (FloatKind.f32.format.order 1056964608 1056964608 == some Ordering.eq) = true := by decide
  go_wp2_with fail
  refine (c64k _).mono ?_
  rintro e w4 ⟨rfl, hb4⟩
  go_wp2_with fail
  refine (c43n 4612811918334230528 _ (by unfold U; decide) (by decide)).mono ?_
  rintro e w5 ⟨rfl, rfl⟩
  rw [show wh 4612811918334230528 = 4611686018427387904 from by decide +kernel]
  have f2 : (FloatKind.f64.format.order 4611686018427387904 4611686018427387904 == some Ordering.eq) = true := by decide
  go_wp2_with fail
  refine (c69 _ _ _ (by unfold U; decide) (by unfold U; decide)).mono ?_
  rintro e w6 ⟨rfl, rfl⟩
  rw [show cmpZ (pl 4607182418800017408) (pl 4611686018427387904) = -1 from by decide]
  go_wp2
  go_ret
  exact ⟨rfl, below_trans hbb hb4⟩
end Go.Proofs.Ytelalledjbeenaa
