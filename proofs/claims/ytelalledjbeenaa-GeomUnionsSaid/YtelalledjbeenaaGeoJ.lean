/- Scale and its fellows: printed by geo8.py. -/
import Derived.Test.YtelalledjbeenaaGeoI
namespace Go.Proofs.Ytelalledjbeenaa
open Go.RowKit Fl

theorem stored16 (w2 : World) (vs : List Value) : Below w2.heap.size w2 ((w2.alloc (.cells Z16 80)).setCells w2.heap.size 0 vs) := below_setCells ((Below.refl _ _).alloc (Nat.le_refl _) _) (Nat.le_refl _) 0 vs

def scaleL (x y z : Nat) : List Nat := (((idL.set 0 x).set 5 y).set 10 z)
theorem scaleL_MU {x y z : Nat} (hx : U x) (hy : U y) (hz : U z) : MU (scaleL x y z) := ⟨rfl, fun u hu => by
  have h1 : u ∈ [x, y, z, 0, 4607182418800017408] := by
    have : ∀ v ∈ (scaleL x y z), v ∈ [x, y, z, 0, 4607182418800017408] := by
      intro v hv
      simp [scaleL, idL, idK, List.range, List.range.loop] at hv
      simp only [List.mem_cons, List.not_mem_nil, or_false]
      omega
    exact this u hu
  simp only [List.mem_cons, List.not_mem_nil, or_false] at h1
  rcases h1 with rfl | rfl | rfl | rfl | rfl
  · exact hx
  · exact hy
  · exact hz
  · unfold U; decide
  · unfold U; decide⟩
set_option maxRecDepth 100000 in
set_option maxHeartbeats 2000000 in
theorem k91 (x y z : Nat) (w : World) : Calls Try.prog 91 #[.float .f64 x, .float .f64 y, .float .f64 z] w fun e w' => e = .returned (.agg ((scaleL x y z).map (Value.float .f64)).toArray) ∧ Below w.heap.size w w' := by
  have T0 := Lib.hid (there_new w Z16 80 16 rfl)
  have B0 := Lib.hid ((Below.refl w.heap.size w).alloc (Nat.le_refl _) (.cells Z16 80))
  have E2 := Lib.hid (size80A idL rfl)
  have O2 := Lib.hid (one16 idL)
  go_enter Try.func91, Try.ntmps91
  go_wp2_with fail
  refine (k87 _).mono ?_
  rintro e w2 ⟨rfl, hb⟩
  have T2 := Lib.hid (there_below T0.out hb (by simp))
  have B2 := Lib.hid (B0.out.trans (hb.mono B0.out.size))
  have L2 := Lib.hid (show w.heap.size < w2.heap.size by have := hb.size; simp at this; omega)
  have N2 := Lib.hid (show (w2.alloc (.cells Z16 80)).there w2.heap.size 0 (idL.map (Value.float .f64)).toArray.size from there_new w2 Z16 80 16 rfl)
  have TA : ((w2.alloc (.cells Z16 80)).setCells w2.heap.size 0 (idL.map (Value.float .f64))).there w2.heap.size 0 16 := World.there_setCells (there_new w2 Z16 80 16 rfl) _ _ _
  have RA : ((w2.alloc (.cells Z16 80)).setCells w2.heap.size 0 (idL.map (Value.float .f64))).rangeAt w2.heap.size 0 (idL.map (Value.float .f64)) := World.rangeAt_setCells_same _ _ _ _ (there_new w2 Z16 80 16 rfl)
  have BA : Below w2.heap.size w2 ((w2.alloc (.cells Z16 80)).setCells w2.heap.size 0 (idL.map (Value.float .f64))) := stored16 w2 _
  obtain ⟨W1, hW1⟩ : ∃ W1, W1 = ((w2.alloc (.cells Z16 80)).setCells w2.heap.size 0 (idL.map (Value.float .f64))) := ⟨_, rfl⟩
  rw [← hW1] at TA RA BA
  have st0 := store1 TA (o := 0) (by decide) x
  have T0x := there_set TA ⟨w2.heap.size, 0, none⟩ (.float .f64 x)
  have R0x := range_set (n := 0) RA x
  have B0x := BA.setCell (p := ⟨w2.heap.size, 0, none⟩) (Nat.le_refl _) (.float .f64 x)
  have st1 := store1 T0x (o := 5) (by decide) y
  have T1x := there_set T0x ⟨w2.heap.size, 5, none⟩ (.float .f64 y)
  have R1x := range_set (n := 5) R0x y
  have B1x := B0x.setCell (p := ⟨w2.heap.size, 5, none⟩) (Nat.le_refl _) (.float .f64 y)
  have st2 := store1 T1x (o := 10) (by decide) z
  have T2x := there_set T1x ⟨w2.heap.size, 10, none⟩ (.float .f64 z)
  have R2x := range_set (n := 10) R1x z
  have B2x := B1x.setCell (p := ⟨w2.heap.size, 10, none⟩) (Nat.le_refl _) (.float .f64 z)
  have RF : Hid ((((W1.setCell ⟨w2.heap.size, 0, none⟩ (.float .f64 x)).setCell ⟨w2.heap.size, 5, none⟩ (.float .f64 y)).setCell ⟨w2.heap.size, 10, none⟩ (.float .f64 z)).rangeAt w2.heap.size 0 ((scaleL x y z).map (Value.float .f64))) := Lib.hid R2x
  have TF : Hid ((((W1.setCell ⟨w2.heap.size, 0, none⟩ (.float .f64 x)).setCell ⟨w2.heap.size, 5, none⟩ (.float .f64 y)).setCell ⟨w2.heap.size, 10, none⟩ (.float .f64 z)).there w.heap.size 0 16) := Lib.hid (there_below T2.out B2x L2.out)
  have BF : Hid (Below w.heap.size w (((W1.setCell ⟨w2.heap.size, 0, none⟩ (.float .f64 x)).setCell ⟨w2.heap.size, 5, none⟩ (.float .f64 y)).setCell ⟨w2.heap.size, 10, none⟩ (.float .f64 z))) := Lib.hid (B2.out.trans (B2x.mono (Nat.le_of_lt L2.out)))
  have E3 := Lib.hid (size80L (scaleL x y z) rfl)
  have E4 := Lib.hid (size80A (scaleL x y z) rfl)
  have O4 := Lib.hid (one16 (scaleL x y z))
  have HW1 := Lib.hid hW1
  clear TA RA BA hb hW1 T0x R0x B0x T1x R1x B1x T2x R2x B2x T2 B2 L2
  go_upto_region 2 with (refine wpList_store_mid rfl 80 (.tmp 7) (.tmp 8) rfl w2.heap.size 0 (idL.map (Value.float .f64)).toArray rfl rfl N2.out E2.out O2.out ?_)
  refine wp_gen (fun wx => wx = W1) HW1.out.symm ?_
  rintro wx rfl
  clear N2 E2 O2 HW1
  go_upto_region 3 with fail
  obtain ⟨W5, hW5⟩ : ∃ W5, W5 = (((wx.setCell ⟨w2.heap.size, 0, none⟩ (.float .f64 x)).setCell ⟨w2.heap.size, 5, none⟩ (.float .f64 y)).setCell ⟨w2.heap.size, 10, none⟩ (.float .f64 z)) := ⟨_, rfl⟩
  rw [← hW5] at RF TF BF
  refine wp_gen (fun wy => wy = W5) hW5.symm ?_
  rintro wy rfl
  clear hW5
  go_wp2_with (first
    | (refine wpList_load_mid rfl 80 (.tmp 7) rfl w2.heap.size 0 rfl ((scaleL x y z).map (Value.float .f64)) _ RF.out Try.underlying80 rfl E3.out ?_)
    | (refine wpList_store_mid rfl 80 (.tmp 6) (.tmp 15) rfl w.heap.size 0 ((scaleL x y z).map (Value.float .f64)).toArray rfl rfl TF.out E4.out O4.out ?_))
  refine bodyPost_ret (v := .agg ((scaleL x y z).map (Value.float .f64)).toArray) (ret_row Try.prog Try.results91 rfl ((scaleL x y z).map (Value.float .f64)) TF.out Try.underlying80 rfl E3.out) rfl ⟨rfl, below_set16 BF.out _⟩
end Go.Proofs.Ytelalledjbeenaa
