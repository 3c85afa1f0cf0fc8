/- galleyref15's Identity; Move, Scale, Skew, Turn of both sides; SameMatrix: printed by geo17.py. -/
import Derived.Test.YtelalledjbeenaaMgGeoI
namespace Go.Proofs.Ytelalledjbeenaa
open Go.RowKit Fl

set_option maxRecDepth 100000 in
set_option maxHeartbeats 2000000 in
theorem k88 (w : World) : Calls Try.prog 88 #[] w fun e w' => e = .returned (.agg (idL.map (Value.float .f64)).toArray) ∧ Below w.heap.size w w' := by
  have S0 := Lib.hid (id_start w)
  go_enter Try.func88, Try.ntmps88
  go_wp2_with fail
  go_loopw [2] (fun i wx => ∃ k : Nat, k ≤ 4 ∧ i = .int .i64 k ∧ Hid (IdAt wx w k)) (fun i _ => 4 - (intOf i).toNat)
  case atStart => exact ⟨0, by omega, rfl, S0⟩
  case round =>
    obtain ⟨k, hk, rfl, hI⟩ := hrel
    clear S0
    by_cases hlt : k < 4
    · have hki : (k : Int) < 4 := by omega
      have hk5 : 5 * (k : Int) < 16 := by omega
      have hk0 : (0 : Int) ≤ 5 * (k : Int) := by omega
      have HLT := Lib.hid hlt
      have st := store1 hI.out.t1 (o := 5 * k) (by omega) 4607182418800017408
      have I2 := Lib.hid (hI.out.step hlt)
      clear hlt
      go_wp2
      go_roundw
      case rel => exact ⟨k + 1, by have := HLT.out; omega, by go_num, I2⟩
      case measure => have := HLT.out; simp [intOf]; omega
    · have hki : ¬ (k : Int) < 4 := by omega
      have hk4 : k = 4 := by omega
      subst hk4
      have RR := Lib.hid hI.out.r
      have E1 := Lib.hid (size80L idL rfl)
      have E2 := Lib.hid (size80A idL rfl)
      have T0 : Hid (wr.there w.heap.size 0 (idL.map (Value.float .f64)).toArray.size) := Lib.hid hI.out.t0
      have BB := Lib.hid (below_set16 hI.out.b (idL.map (Value.float .f64)))
      clear hlt hk hI
      go_wp2_with (first
        | (refine wpList_load_mid rfl 80 (.tmp 1) rfl (w.heap.size + 1) 0 rfl (idL.map (Value.float .f64)) _ RR.out Try.underlying80 rfl E1.out ?_)
        | (refine wpList_store_mid rfl 80 (.tmp 0) (.tmp 10) rfl w.heap.size 0 (idL.map (Value.float .f64)).toArray rfl rfl T0.out E2.out (one16 idL) ?_))
      refine bodyPost_ret (v := .agg (idL.map (Value.float .f64)).toArray) (ret_row Try.prog Try.results88 rfl (idL.map (Value.float .f64)) T0.out Try.underlying80 rfl E1.out) rfl ⟨rfl, BB.out⟩

set_option maxRecDepth 100000 in
set_option maxHeartbeats 2000000 in
theorem k92 (x y z : Nat) (w : World) : Calls Try.prog 92 #[.float .f64 x, .float .f64 y, .float .f64 z] w fun e w' => e = .returned (.agg ((scaleL x y z).map (Value.float .f64)).toArray) ∧ Below w.heap.size w w' := by
  have T0 := Lib.hid (there_new w Z16 80 16 rfl)
  have B0 := Lib.hid ((Below.refl w.heap.size w).alloc (Nat.le_refl _) (.cells Z16 80))
  have E2 := Lib.hid (size80A idL rfl)
  have O2 := Lib.hid (one16 idL)
  go_enter Try.func92, Try.ntmps92
  go_wp2_with fail
  refine (k88 _).mono ?_
  rintro e w2 ⟨rfl, hb⟩
  have T2 := Lib.hid (there_below T0.out hb (by simp))
  have B2 := Lib.hid (B0.out.trans (hb.mono B0.out.size))
  have L2 := Lib.hid (show w.heap.size < w2.heap.size by have := hb.size; simp at this; omega)
  have N2 := Lib.hid (show (w2.alloc (.cells Z16 80)).there w2.heap.size 0 (idL.map (Value.float .f64)).toArray.size from there_new w2 Z16 80 16 rfl)
  have TA : ((w2.alloc (.cells Z16 80)).setCells w2.heap.size 0 (idL.map (Value.float .f64))).there w2.heap.size 0 16 := World.there_setCells (there_new w2 Z16 80 16 rfl) _ _ _
  have RA : ((w2.alloc (.cells Z16 80)).setCells w2.heap.size 0 (idL.map (Value.float .f64))).rangeAt w2.heap.size 0 (idL.map (Value.float .f64)) := World.rangeAt_setCells_same _ _ _ _ (there_new w2 Z16 80 16 rfl)
  have BA : Below w2.heap.size w2 ((w2.alloc (.cells Z16 80)).setCells w2.heap.size 0 (idL.map (Value.float .f64))) := stored16 w2 _
  obtain ⟨W1, hW1⟩ : ∃ W1, W1 = ((w2.alloc (.cells Z16 80)).setCells w2.heap.size 0 (idL.map (Value.float .f64))) := ⟨_, rfl⟩
  rw [← hW1] at TA RA BA
  have st0 := store1 TA (o := 0) (by decide) x
  have T0x := there_set TA ⟨w2.heap.size, 0, none⟩ (.float .f64 x)
  have R0x := range_set (n := 0) RA x
  have B0x := BA.setCell (p := ⟨w2.heap.size, 0, none⟩) (Nat.le_refl _) (.float .f64 x)
  have st1 := store1 T0x (o := 5) (by decide) y
  have T1x := there_set T0x ⟨w2.heap.size, 5, none⟩ (.float .f64 y)
  have R1x := range_set (n := 5) R0x y
  have B1x := B0x.setCell (p := ⟨w2.heap.size, 5, none⟩) (Nat.le_refl _) (.float .f64 y)
  have st2 := store1 T1x (o := 10) (by decide) z
  have T2x := there_set T1x ⟨w2.heap.size, 10, none⟩ (.float .f64 z)
  have R2x := range_set (n := 10) R1x z
  have B2x := B1x.setCell (p := ⟨w2.heap.size, 10, none⟩) (Nat.le_refl _) (.float .f64 z)
  have RF : Hid ((((W1.setCell ⟨w2.heap.size, 0, none⟩ (.float .f64 x)).setCell ⟨w2.heap.size, 5, none⟩ (.float .f64 y)).setCell ⟨w2.heap.size, 10, none⟩ (.float .f64 z)).rangeAt w2.heap.size 0 ((scaleL x y z).map (Value.float .f64))) := Lib.hid R2x
  have TF : Hid ((((W1.setCell ⟨w2.heap.size, 0, none⟩ (.float .f64 x)).setCell ⟨w2.heap.size, 5, none⟩ (.float .f64 y)).setCell ⟨w2.heap.size, 10, none⟩ (.float .f64 z)).there w.heap.size 0 16) := Lib.hid (there_below T2.out B2x L2.out)
  have BF : Hid (Below w.heap.size w (((W1.setCell ⟨w2.heap.size, 0, none⟩ (.float .f64 x)).setCell ⟨w2.heap.size, 5, none⟩ (.float .f64 y)).setCell ⟨w2.heap.size, 10, none⟩ (.float .f64 z))) := Lib.hid (B2.out.trans (B2x.mono (Nat.le_of_lt L2.out)))
  have E3 := Lib.hid (size80L (scaleL x y z) rfl)
  have E4 := Lib.hid (size80A (scaleL x y z) rfl)
  have O4 := Lib.hid (one16 (scaleL x y z))
  have HW1 := Lib.hid hW1
  clear TA RA BA hb hW1 T0x R0x B0x T1x R1x B1x T2x R2x B2x T2 B2 L2
  go_upto_region 2 with (refine wpList_store_mid rfl 80 (.tmp 7) (.tmp 8) rfl w2.heap.size 0 (idL.map (Value.float .f64)).toArray rfl rfl N2.out E2.out O2.out ?_)
  refine wp_gen (fun wx => wx = W1) HW1.out.symm ?_
  rintro wx rfl
  clear N2 E2 O2 HW1
  go_upto_region 3 with fail
  obtain ⟨W5, hW5⟩ : ∃ W5, W5 = (((wx.setCell ⟨w2.heap.size, 0, none⟩ (.float .f64 x)).setCell ⟨w2.heap.size, 5, none⟩ (.float .f64 y)).setCell ⟨w2.heap.size, 10, none⟩ (.float .f64 z)) := ⟨_, rfl⟩
  rw [← hW5] at RF TF BF
  refine wp_gen (fun wy => wy = W5) hW5.symm ?_
  rintro wy rfl
  clear hW5
  go_wp2_with (first
    | (refine wpList_load_mid rfl 80 (.tmp 7) rfl w2.heap.size 0 rfl ((scaleL x y z).map (Value.float .f64)) _ RF.out Try.underlying80 rfl E3.out ?_)
    | (refine wpList_store_mid rfl 80 (.tmp 6) (.tmp 15) rfl w.heap.size 0 ((scaleL x y z).map (Value.float .f64)).toArray rfl rfl TF.out E4.out O4.out ?_))
  refine bodyPost_ret (v := .agg ((scaleL x y z).map (Value.float .f64)).toArray) (ret_row Try.prog Try.results92 rfl ((scaleL x y z).map (Value.float .f64)) TF.out Try.underlying80 rfl E3.out) rfl ⟨rfl, below_set16 BF.out _⟩

def moveL (x y z : Nat) : List Nat := (((idL.set 12 x).set 13 y).set 14 z)
theorem moveL_MU {x y z : Nat} (hx : U x) (hy : U y) (hz : U z) : MU (moveL x y z) := ⟨rfl, fun u hu => by
  have h1 : u ∈ [x, y, z, 0, 4607182418800017408] := by
    have : ∀ v ∈ (moveL x y z), v ∈ [x, y, z, 0, 4607182418800017408] := by
      intro v hv
      simp [moveL, idL, idK, List.range, List.range.loop] at hv
      simp only [List.mem_cons, List.not_mem_nil, or_false]
      omega
    exact this u hu
  simp only [List.mem_cons, List.not_mem_nil, or_false] at h1
  rcases h1 with rfl | rfl | rfl | rfl | rfl
  · exact hx
  · exact hy
  · exact hz
  · unfold U; decide
  · unfold U; decide⟩
set_option maxRecDepth 100000 in
set_option maxHeartbeats 2000000 in
theorem k89 (x y z : Nat) (w : World) : Calls Try.prog 89 #[.float .f64 x, .float .f64 y, .float .f64 z] w fun e w' => e = .returned (.agg ((moveL x y z).map (Value.float .f64)).toArray) ∧ Below w.heap.size w w' := by
  have T0 := Lib.hid (there_new w Z16 80 16 rfl)
  have B0 := Lib.hid ((Below.refl w.heap.size w).alloc (Nat.le_refl _) (.cells Z16 80))
  have E2 := Lib.hid (size80A idL rfl)
  have O2 := Lib.hid (one16 idL)
  go_enter Try.func89, Try.ntmps89
  go_wp2_with fail
  refine (k87 _).mono ?_
  rintro e w2 ⟨rfl, hb⟩
  have T2 := Lib.hid (there_below T0.out hb (by simp))
  have B2 := Lib.hid (B0.out.trans (hb.mono B0.out.size))
  have L2 := Lib.hid (show w.heap.size < w2.heap.size by have := hb.size; simp at this; omega)
  have N2 := Lib.hid (show (w2.alloc (.cells Z16 80)).there w2.heap.size 0 (idL.map (Value.float .f64)).toArray.size from there_new w2 Z16 80 16 rfl)
  have TA : ((w2.alloc (.cells Z16 80)).setCells w2.heap.size 0 (idL.map (Value.float .f64))).there w2.heap.size 0 16 := World.there_setCells (there_new w2 Z16 80 16 rfl) _ _ _
  have RA : ((w2.alloc (.cells Z16 80)).setCells w2.heap.size 0 (idL.map (Value.float .f64))).rangeAt w2.heap.size 0 (idL.map (Value.float .f64)) := World.rangeAt_setCells_same _ _ _ _ (there_new w2 Z16 80 16 rfl)
  have BA : Below w2.heap.size w2 ((w2.alloc (.cells Z16 80)).setCells w2.heap.size 0 (idL.map (Value.float .f64))) := stored16 w2 _
  obtain ⟨W1, hW1⟩ : ∃ W1, W1 = ((w2.alloc (.cells Z16 80)).setCells w2.heap.size 0 (idL.map (Value.float .f64))) := ⟨_, rfl⟩
  rw [← hW1] at TA RA BA
  have st0 := store1 TA (o := 12) (by decide) x
  have T0x := there_set TA ⟨w2.heap.size, 12, none⟩ (.float .f64 x)
  have R0x := range_set (n := 12) RA x
  have B0x := BA.setCell (p := ⟨w2.heap.size, 12, none⟩) (Nat.le_refl _) (.float .f64 x)
  have st1 := store1 T0x (o := 13) (by decide) y
  have T1x := there_set T0x ⟨w2.heap.size, 13, none⟩ (.float .f64 y)
  have R1x := range_set (n := 13) R0x y
  have B1x := B0x.setCell (p := ⟨w2.heap.size, 13, none⟩) (Nat.le_refl _) (.float .f64 y)
  have st2 := store1 T1x (o := 14) (by decide) z
  have T2x := there_set T1x ⟨w2.heap.size, 14, none⟩ (.float .f64 z)
  have R2x := range_set (n := 14) R1x z
  have B2x := B1x.setCell (p := ⟨w2.heap.size, 14, none⟩) (Nat.le_refl _) (.float .f64 z)
  have RF : Hid ((((W1.setCell ⟨w2.heap.size, 12, none⟩ (.float .f64 x)).setCell ⟨w2.heap.size, 13, none⟩ (.float .f64 y)).setCell ⟨w2.heap.size, 14, none⟩ (.float .f64 z)).rangeAt w2.heap.size 0 ((moveL x y z).map (Value.float .f64))) := Lib.hid R2x
  have TF : Hid ((((W1.setCell ⟨w2.heap.size, 12, none⟩ (.float .f64 x)).setCell ⟨w2.heap.size, 13, none⟩ (.float .f64 y)).setCell ⟨w2.heap.size, 14, none⟩ (.float .f64 z)).there w.heap.size 0 16) := Lib.hid (there_below T2.out B2x L2.out)
  have BF : Hid (Below w.heap.size w (((W1.setCell ⟨w2.heap.size, 12, none⟩ (.float .f64 x)).setCell ⟨w2.heap.size, 13, none⟩ (.float .f64 y)).setCell ⟨w2.heap.size, 14, none⟩ (.float .f64 z))) := Lib.hid (B2.out.trans (B2x.mono (Nat.le_of_lt L2.out)))
  have E3 := Lib.hid (size80L (moveL x y z) rfl)
  have E4 := Lib.hid (size80A (moveL x y z) rfl)
  have O4 := Lib.hid (one16 (moveL x y z))
  have HW1 := Lib.hid hW1
  clear TA RA BA hb hW1 T0x R0x B0x T1x R1x B1x T2x R2x B2x T2 B2 L2
  go_upto_region 2 with (refine wpList_store_mid rfl 80 (.tmp 7) (.tmp 8) rfl w2.heap.size 0 (idL.map (Value.float .f64)).toArray rfl rfl N2.out E2.out O2.out ?_)
  refine wp_gen (fun wx => wx = W1) HW1.out.symm ?_
  rintro wx rfl
  clear N2 E2 O2 HW1
  go_upto_region 3 with fail
  obtain ⟨W5, hW5⟩ : ∃ W5, W5 = (((wx.setCell ⟨w2.heap.size, 12, none⟩ (.float .f64 x)).setCell ⟨w2.heap.size, 13, none⟩ (.float .f64 y)).setCell ⟨w2.heap.size, 14, none⟩ (.float .f64 z)) := ⟨_, rfl⟩
  rw [← hW5] at RF TF BF
  refine wp_gen (fun wy => wy = W5) hW5.symm ?_
  rintro wy rfl
  clear hW5
  go_wp2_with (first
    | (refine wpList_load_mid rfl 80 (.tmp 7) rfl w2.heap.size 0 rfl ((moveL x y z).map (Value.float .f64)) _ RF.out Try.underlying80 rfl E3.out ?_)
    | (refine wpList_store_mid rfl 80 (.tmp 6) (.tmp 15) rfl w.heap.size 0 ((moveL x y z).map (Value.float .f64)).toArray rfl rfl TF.out E4.out O4.out ?_))
  refine bodyPost_ret (v := .agg ((moveL x y z).map (Value.float .f64)).toArray) (ret_row Try.prog Try.results89 rfl ((moveL x y z).map (Value.float .f64)) TF.out Try.underlying80 rfl E3.out) rfl ⟨rfl, below_set16 BF.out _⟩

set_option maxRecDepth 100000 in
set_option maxHeartbeats 2000000 in
theorem k90 (x y z : Nat) (w : World) : Calls Try.prog 90 #[.float .f64 x, .float .f64 y, .float .f64 z] w fun e w' => e = .returned (.agg ((moveL x y z).map (Value.float .f64)).toArray) ∧ Below w.heap.size w w' := by
  have T0 := Lib.hid (there_new w Z16 80 16 rfl)
  have B0 := Lib.hid ((Below.refl w.heap.size w).alloc (Nat.le_refl _) (.cells Z16 80))
  have E2 := Lib.hid (size80A idL rfl)
  have O2 := Lib.hid (one16 idL)
  go_enter Try.func90, Try.ntmps90
  go_wp2_with fail
  refine (k88 _).mono ?_
  rintro e w2 ⟨rfl, hb⟩
  have T2 := Lib.hid (there_below T0.out hb (by simp))
  have B2 := Lib.hid (B0.out.trans (hb.mono B0.out.size))
  have L2 := Lib.hid (show w.heap.size < w2.heap.size by have := hb.size; simp at this; omega)
  have N2 := Lib.hid (show (w2.alloc (.cells Z16 80)).there w2.heap.size 0 (idL.map (Value.float .f64)).toArray.size from there_new w2 Z16 80 16 rfl)
  have TA : ((w2.alloc (.cells Z16 80)).setCells w2.heap.size 0 (idL.map (Value.float .f64))).there w2.heap.size 0 16 := World.there_setCells (there_new w2 Z16 80 16 rfl) _ _ _
  have RA : ((w2.alloc (.cells Z16 80)).setCells w2.heap.size 0 (idL.map (Value.float .f64))).rangeAt w2.heap.size 0 (idL.map (Value.float .f64)) := World.rangeAt_setCells_same _ _ _ _ (there_new w2 Z16 80 16 rfl)
  have BA : Below w2.heap.size w2 ((w2.alloc (.cells Z16 80)).setCells w2.heap.size 0 (idL.map (Value.float .f64))) := stored16 w2 _
  obtain ⟨W1, hW1⟩ : ∃ W1, W1 = ((w2.alloc (.cells Z16 80)).setCells w2.heap.size 0 (idL.map (Value.float .f64))) := ⟨_, rfl⟩
  rw [← hW1] at TA RA BA
  have st0 := store1 TA (o := 12) (by decide) x
  have T0x := there_set TA ⟨w2.heap.size, 12, none⟩ (.float .f64 x)
  have R0x := range_set (n := 12) RA x
  have B0x := BA.setCell (p := ⟨w2.heap.size, 12, none⟩) (Nat.le_refl _) (.float .f64 x)
  have st1 := store1 T0x (o := 13) (by decide) y
  have T1x := there_set T0x ⟨w2.heap.size, 13, none⟩ (.float .f64 y)
  have R1x := range_set (n := 13) R0x y
  have B1x := B0x.setCell (p := ⟨w2.heap.size, 13, none⟩) (Nat.le_refl _) (.float .f64 y)
  have st2 := store1 T1x (o := 14) (by decide) z
  have T2x := there_set T1x ⟨w2.heap.size, 14, none⟩ (.float .f64 z)
  have R2x := range_set (n := 14) R1x z
  have B2x := B1x.setCell (p := ⟨w2.heap.size, 14, none⟩) (Nat.le_refl _) (.float .f64 z)
  have RF : Hid ((((W1.setCell ⟨w2.heap.size, 12, none⟩ (.float .f64 x)).setCell ⟨w2.heap.size, 13, none⟩ (.float .f64 y)).setCell ⟨w2.heap.size, 14, none⟩ (.float .f64 z)).rangeAt w2.heap.size 0 ((moveL x y z).map (Value.float .f64))) := Lib.hid R2x
  have TF : Hid ((((W1.setCell ⟨w2.heap.size, 12, none⟩ (.float .f64 x)).setCell ⟨w2.heap.size, 13, none⟩ (.float .f64 y)).setCell ⟨w2.heap.size, 14, none⟩ (.float .f64 z)).there w.heap.size 0 16) := Lib.hid (there_below T2.out B2x L2.out)
  have BF : Hid (Below w.heap.size w (((W1.setCell ⟨w2.heap.size, 12, none⟩ (.float .f64 x)).setCell ⟨w2.heap.size, 13, none⟩ (.float .f64 y)).setCell ⟨w2.heap.size, 14, none⟩ (.float .f64 z))) := Lib.hid (B2.out.trans (B2x.mono (Nat.le_of_lt L2.out)))
  have E3 := Lib.hid (size80L (moveL x y z) rfl)
  have E4 := Lib.hid (size80A (moveL x y z) rfl)
  have O4 := Lib.hid (one16 (moveL x y z))
  have HW1 := Lib.hid hW1
  clear TA RA BA hb hW1 T0x R0x B0x T1x R1x B1x T2x R2x B2x T2 B2 L2
  go_upto_region 2 with (refine wpList_store_mid rfl 80 (.tmp 7) (.tmp 8) rfl w2.heap.size 0 (idL.map (Value.float .f64)).toArray rfl rfl N2.out E2.out O2.out ?_)
  refine wp_gen (fun wx => wx = W1) HW1.out.symm ?_
  rintro wx rfl
  clear N2 E2 O2 HW1
  go_upto_region 3 with fail
  obtain ⟨W5, hW5⟩ : ∃ W5, W5 = (((wx.setCell ⟨w2.heap.size, 12, none⟩ (.float .f64 x)).setCell ⟨w2.heap.size, 13, none⟩ (.float .f64 y)).setCell ⟨w2.heap.size, 14, none⟩ (.float .f64 z)) := ⟨_, rfl⟩
  rw [← hW5] at RF TF BF
  refine wp_gen (fun wy => wy = W5) hW5.symm ?_
  rintro wy rfl
  clear hW5
  go_wp2_with (first
    | (refine wpList_load_mid rfl 80 (.tmp 7) rfl w2.heap.size 0 rfl ((moveL x y z).map (Value.float .f64)) _ RF.out Try.underlying80 rfl E3.out ?_)
    | (refine wpList_store_mid rfl 80 (.tmp 6) (.tmp 15) rfl w.heap.size 0 ((moveL x y z).map (Value.float .f64)).toArray rfl rfl TF.out E4.out O4.out ?_))
  refine bodyPost_ret (v := .agg ((moveL x y z).map (Value.float .f64)).toArray) (ret_row Try.prog Try.results90 rfl ((moveL x y z).map (Value.float .f64)) TF.out Try.underlying80 rfl E3.out) rfl ⟨rfl, below_set16 BF.out _⟩

def skewL (x y : Nat) : List Nat := ((idL.set 1 y).set 4 x)
theorem skewL_MU {x y : Nat} (hx : U x) (hy : U y) : MU (skewL x y) := ⟨rfl, fun u hu => by
  have h1 : u ∈ [x, y, 0, 4607182418800017408] := by
    have : ∀ v ∈ (skewL x y), v ∈ [x, y, 0, 4607182418800017408] := by
      intro v hv
      simp [skewL, idL, idK, List.range, List.range.loop] at hv
      simp only [List.mem_cons, List.not_mem_nil, or_false]
      omega
    exact this u hu
  simp only [List.mem_cons, List.not_mem_nil, or_false] at h1
  rcases h1 with rfl | rfl | rfl | rfl
  · exact hx
  · exact hy
  · unfold U; decide
  · unfold U; decide⟩
set_option maxRecDepth 100000 in
set_option maxHeartbeats 2000000 in
theorem k95 (x y : Nat) (w : World) : Calls Try.prog 95 #[.float .f64 x, .float .f64 y] w fun e w' => e = .returned (.agg ((skewL x y).map (Value.float .f64)).toArray) ∧ Below w.heap.size w w' := by
  have T0 := Lib.hid (there_new w Z16 80 16 rfl)
  have B0 := Lib.hid ((Below.refl w.heap.size w).alloc (Nat.le_refl _) (.cells Z16 80))
  have E2 := Lib.hid (size80A idL rfl)
  have O2 := Lib.hid (one16 idL)
  go_enter Try.func95, Try.ntmps95
  go_wp2_with fail
  refine (k87 _).mono ?_
  rintro e w2 ⟨rfl, hb⟩
  have T2 := Lib.hid (there_below T0.out hb (by simp))
  have B2 := Lib.hid (B0.out.trans (hb.mono B0.out.size))
  have L2 := Lib.hid (show w.heap.size < w2.heap.size by have := hb.size; simp at this; omega)
  have N2 := Lib.hid (show (w2.alloc (.cells Z16 80)).there w2.heap.size 0 (idL.map (Value.float .f64)).toArray.size from there_new w2 Z16 80 16 rfl)
  have TA : ((w2.alloc (.cells Z16 80)).setCells w2.heap.size 0 (idL.map (Value.float .f64))).there w2.heap.size 0 16 := World.there_setCells (there_new w2 Z16 80 16 rfl) _ _ _
  have RA : ((w2.alloc (.cells Z16 80)).setCells w2.heap.size 0 (idL.map (Value.float .f64))).rangeAt w2.heap.size 0 (idL.map (Value.float .f64)) := World.rangeAt_setCells_same _ _ _ _ (there_new w2 Z16 80 16 rfl)
  have BA : Below w2.heap.size w2 ((w2.alloc (.cells Z16 80)).setCells w2.heap.size 0 (idL.map (Value.float .f64))) := stored16 w2 _
  obtain ⟨W1, hW1⟩ : ∃ W1, W1 = ((w2.alloc (.cells Z16 80)).setCells w2.heap.size 0 (idL.map (Value.float .f64))) := ⟨_, rfl⟩
  rw [← hW1] at TA RA BA
  have st0 := store1 TA (o := 1) (by decide) y
  have T0x := there_set TA ⟨w2.heap.size, 1, none⟩ (.float .f64 y)
  have R0x := range_set (n := 1) RA y
  have B0x := BA.setCell (p := ⟨w2.heap.size, 1, none⟩) (Nat.le_refl _) (.float .f64 y)
  have st1 := store1 T0x (o := 4) (by decide) x
  have T1x := there_set T0x ⟨w2.heap.size, 4, none⟩ (.float .f64 x)
  have R1x := range_set (n := 4) R0x x
  have B1x := B0x.setCell (p := ⟨w2.heap.size, 4, none⟩) (Nat.le_refl _) (.float .f64 x)
  have RF : Hid (((W1.setCell ⟨w2.heap.size, 1, none⟩ (.float .f64 y)).setCell ⟨w2.heap.size, 4, none⟩ (.float .f64 x)).rangeAt w2.heap.size 0 ((skewL x y).map (Value.float .f64))) := Lib.hid R1x
  have TF : Hid (((W1.setCell ⟨w2.heap.size, 1, none⟩ (.float .f64 y)).setCell ⟨w2.heap.size, 4, none⟩ (.float .f64 x)).there w.heap.size 0 16) := Lib.hid (there_below T2.out B1x L2.out)
  have BF : Hid (Below w.heap.size w ((W1.setCell ⟨w2.heap.size, 1, none⟩ (.float .f64 y)).setCell ⟨w2.heap.size, 4, none⟩ (.float .f64 x))) := Lib.hid (B2.out.trans (B1x.mono (Nat.le_of_lt L2.out)))
  have E3 := Lib.hid (size80L (skewL x y) rfl)
  have E4 := Lib.hid (size80A (skewL x y) rfl)
  have O4 := Lib.hid (one16 (skewL x y))
  have HW1 := Lib.hid hW1
  clear TA RA BA hb hW1 T0x R0x B0x T1x R1x B1x T2 B2 L2
  go_upto_region 2 with (refine wpList_store_mid rfl 80 (.tmp 5) (.tmp 6) rfl w2.heap.size 0 (idL.map (Value.float .f64)).toArray rfl rfl N2.out E2.out O2.out ?_)
  refine wp_gen (fun wx => wx = W1) HW1.out.symm ?_
  rintro wx rfl
  clear N2 E2 O2 HW1
  go_upto_region 3 with fail
  obtain ⟨W5, hW5⟩ : ∃ W5, W5 = ((wx.setCell ⟨w2.heap.size, 1, none⟩ (.float .f64 y)).setCell ⟨w2.heap.size, 4, none⟩ (.float .f64 x)) := ⟨_, rfl⟩
  rw [← hW5] at RF TF BF
  refine wp_gen (fun wy => wy = W5) hW5.symm ?_
  rintro wy rfl
  clear hW5
  go_wp2_with (first
    | (refine wpList_load_mid rfl 80 (.tmp 5) rfl w2.heap.size 0 rfl ((skewL x y).map (Value.float .f64)) _ RF.out Try.underlying80 rfl E3.out ?_)
    | (refine wpList_store_mid rfl 80 (.tmp 4) (.tmp 11) rfl w.heap.size 0 ((skewL x y).map (Value.float .f64)).toArray rfl rfl TF.out E4.out O4.out ?_))
  refine bodyPost_ret (v := .agg ((skewL x y).map (Value.float .f64)).toArray) (ret_row Try.prog Try.results95 rfl ((skewL x y).map (Value.float .f64)) TF.out Try.underlying80 rfl E3.out) rfl ⟨rfl, below_set16 BF.out _⟩

set_option maxRecDepth 100000 in
set_option maxHeartbeats 2000000 in
theorem k96 (x y : Nat) (w : World) : Calls Try.prog 96 #[.float .f64 x, .float .f64 y] w fun e w' => e = .returned (.agg ((skewL x y).map (Value.float .f64)).toArray) ∧ Below w.heap.size w w' := by
  have T0 := Lib.hid (there_new w Z16 80 16 rfl)
  have B0 := Lib.hid ((Below.refl w.heap.size w).alloc (Nat.le_refl _) (.cells Z16 80))
  have E2 := Lib.hid (size80A idL rfl)
  have O2 := Lib.hid (one16 idL)
  go_enter Try.func96, Try.ntmps96
  go_wp2_with fail
  refine (k88 _).mono ?_
  rintro e w2 ⟨rfl, hb⟩
  have T2 := Lib.hid (there_below T0.out hb (by simp))
  have B2 := Lib.hid (B0.out.trans (hb.mono B0.out.size))
  have L2 := Lib.hid (show w.heap.size < w2.heap.size by have := hb.size; simp at this; omega)
  have N2 := Lib.hid (show (w2.alloc (.cells Z16 80)).there w2.heap.size 0 (idL.map (Value.float .f64)).toArray.size from there_new w2 Z16 80 16 rfl)
  have TA : ((w2.alloc (.cells Z16 80)).setCells w2.heap.size 0 (idL.map (Value.float .f64))).there w2.heap.size 0 16 := World.there_setCells (there_new w2 Z16 80 16 rfl) _ _ _
  have RA : ((w2.alloc (.cells Z16 80)).setCells w2.heap.size 0 (idL.map (Value.float .f64))).rangeAt w2.heap.size 0 (idL.map (Value.float .f64)) := World.rangeAt_setCells_same _ _ _ _ (there_new w2 Z16 80 16 rfl)
  have BA : Below w2.heap.size w2 ((w2.alloc (.cells Z16 80)).setCells w2.heap.size 0 (idL.map (Value.float .f64))) := stored16 w2 _
  obtain ⟨W1, hW1⟩ : ∃ W1, W1 = ((w2.alloc (.cells Z16 80)).setCells w2.heap.size 0 (idL.map (Value.float .f64))) := ⟨_, rfl⟩
  rw [← hW1] at TA RA BA
  have st0 := store1 TA (o := 1) (by decide) y
  have T0x := there_set TA ⟨w2.heap.size, 1, none⟩ (.float .f64 y)
  have R0x := range_set (n := 1) RA y
  have B0x := BA.setCell (p := ⟨w2.heap.size, 1, none⟩) (Nat.le_refl _) (.float .f64 y)
  have st1 := store1 T0x (o := 4) (by decide) x
  have T1x := there_set T0x ⟨w2.heap.size, 4, none⟩ (.float .f64 x)
  have R1x := range_set (n := 4) R0x x
  have B1x := B0x.setCell (p := ⟨w2.heap.size, 4, none⟩) (Nat.le_refl _) (.float .f64 x)
  have RF : Hid (((W1.setCell ⟨w2.heap.size, 1, none⟩ (.float .f64 y)).setCell ⟨w2.heap.size, 4, none⟩ (.float .f64 x)).rangeAt w2.heap.size 0 ((skewL x y).map (Value.float .f64))) := Lib.hid R1x
  have TF : Hid (((W1.setCell ⟨w2.heap.size, 1, none⟩ (.float .f64 y)).setCell ⟨w2.heap.size, 4, none⟩ (.float .f64 x)).there w.heap.size 0 16) := Lib.hid (there_below T2.out B1x L2.out)
  have BF : Hid (Below w.heap.size w ((W1.setCell ⟨w2.heap.size, 1, none⟩ (.float .f64 y)).setCell ⟨w2.heap.size, 4, none⟩ (.float .f64 x))) := Lib.hid (B2.out.trans (B1x.mono (Nat.le_of_lt L2.out)))
  have E3 := Lib.hid (size80L (skewL x y) rfl)
  have E4 := Lib.hid (size80A (skewL x y) rfl)
  have O4 := Lib.hid (one16 (skewL x y))
  have HW1 := Lib.hid hW1
  clear TA RA BA hb hW1 T0x R0x B0x T1x R1x B1x T2 B2 L2
  go_upto_region 2 with (refine wpList_store_mid rfl 80 (.tmp 5) (.tmp 6) rfl w2.heap.size 0 (idL.map (Value.float .f64)).toArray rfl rfl N2.out E2.out O2.out ?_)
  refine wp_gen (fun wx => wx = W1) HW1.out.symm ?_
  rintro wx rfl
  clear N2 E2 O2 HW1
  go_upto_region 3 with fail
  obtain ⟨W5, hW5⟩ : ∃ W5, W5 = ((wx.setCell ⟨w2.heap.size, 1, none⟩ (.float .f64 y)).setCell ⟨w2.heap.size, 4, none⟩ (.float .f64 x)) := ⟨_, rfl⟩
  rw [← hW5] at RF TF BF
  refine wp_gen (fun wy => wy = W5) hW5.symm ?_
  rintro wy rfl
  clear hW5
  go_wp2_with (first
    | (refine wpList_load_mid rfl 80 (.tmp 5) rfl w2.heap.size 0 rfl ((skewL x y).map (Value.float .f64)) _ RF.out Try.underlying80 rfl E3.out ?_)
    | (refine wpList_store_mid rfl 80 (.tmp 4) (.tmp 11) rfl w.heap.size 0 ((skewL x y).map (Value.float .f64)).toArray rfl rfl TF.out E4.out O4.out ?_))
  refine bodyPost_ret (v := .agg ((skewL x y).map (Value.float .f64)).toArray) (ret_row Try.prog Try.results96 rfl ((skewL x y).map (Value.float .f64)) TF.out Try.underlying80 rfl E3.out) rfl ⟨rfl, below_set16 BF.out _⟩

set_option maxRecDepth 100000 in
set_option maxHeartbeats 2000000 in
theorem k94 {x y : Nat} {X Y : Int} (hx : RV x X) (hy : RV y Y) (w : World) :
    Calls Try.prog 94 #[.float .f64 x, .float .f64 y] w fun e w' => TurnR X Y e ∧ Below w.heap.size w w' := by
  have T0 := Lib.hid (there_new w Z16 80 16 rfl)
  have B0 := Lib.hid ((Below.refl w.heap.size w).alloc (Nat.le_refl _) (.cells Z16 80))
  have E2 := Lib.hid (size80A idL rfl)
  have O2 := Lib.hid (one16 idL)
  have HX := Lib.hid (And.intro hx hy)
  have hA := fun x y w => run_fop (P := Try.prog) .add rfl 24 x y w
  have hM := fun x y w => run_fop (P := Try.prog) .mul rfl 24 x y w
  have hQ := fun x y w => run_fop (P := Try.prog) .quo rfl 24 x y w
  have hneg : ∀ (b : Nat) (w : World), (Op.unary .neg (.float .f64 b)).run Try.prog w = .ok (.float .f64 (Op.negFloat .f64 b)) w := fun _ _ => rfl
  have LA := Lib.hid (show w.heap.size < (w.alloc (.cells Z16 80)).heap.size by simp)
  clear hx hy
  go_enter Try.func94, Try.ntmps94
  go_wp2_with fail
  refine (k155 (RV.fop .add (RV.fop .mul HX.out.1 HX.out.1 _) (RV.fop .mul HX.out.2 HX.out.2 _) _) _).mono ?_
  rintro e w1 ⟨⟨h, rfl, hh⟩, n, rfl⟩
  have HH := Lib.hid hh
  clear hh
  go_upto_region 3 with fail
  go_cut [6, 7] (fun c s wx => ∃ c' s' : Nat, c = .float .f64 c' ∧ s = .float .f64 s' ∧ Hid (RV c' (opP .quo X (hypP X Y)) ∧ RV s' (opP .quo Y (hypP X Y))) ∧ Hid (wx.there w.heap.size 0 16 ∧ Below w.heap.size w wx ∧ w.heap.size < wx.heap.size))
  case first =>
    go_wp2
    go_meet
    exact ⟨_, _, rfl, rfl, Lib.hid ⟨RV.fop .quo HX.out.1 HH.out _, RV.fop .quo HX.out.2 HH.out _⟩, Lib.hid ⟨T0.out, Bd B0.out _, LA.out⟩⟩
  case rest =>
  obtain ⟨c, s, rfl, rfl, hcs, hW⟩ := hcut
  have hsn := Lib.hid (show Op.negFloat .f64 s = ng s from rfl)
  go_wp2_with fail
  refine (k88 _).mono ?_
  rintro e w2 ⟨rfl, hb⟩
  have T2 := Lib.hid (there_below hW.out.1 hb hW.out.2.2)
  have B2 := Lib.hid (hW.out.2.1.trans (hb.mono (Nat.le_of_lt hW.out.2.2)))
  have L2 := Lib.hid (Nat.lt_of_lt_of_le hW.out.2.2 hb.size)
  have N2 := Lib.hid (show (w2.alloc (.cells Z16 80)).there w2.heap.size 0 (idL.map (Value.float .f64)).toArray.size from there_new w2 Z16 80 16 rfl)
  have TA : ((w2.alloc (.cells Z16 80)).setCells w2.heap.size 0 (idL.map (Value.float .f64))).there w2.heap.size 0 16 := World.there_setCells (there_new w2 Z16 80 16 rfl) _ _ _
  have RA : ((w2.alloc (.cells Z16 80)).setCells w2.heap.size 0 (idL.map (Value.float .f64))).rangeAt w2.heap.size 0 (idL.map (Value.float .f64)) := World.rangeAt_setCells_same _ _ _ _ (there_new w2 Z16 80 16 rfl)
  have BA : Below w2.heap.size w2 ((w2.alloc (.cells Z16 80)).setCells w2.heap.size 0 (idL.map (Value.float .f64))) := stored16 w2 _
  obtain ⟨W1, hW1⟩ : ∃ W1, W1 = ((w2.alloc (.cells Z16 80)).setCells w2.heap.size 0 (idL.map (Value.float .f64))) := ⟨_, rfl⟩
  rw [← hW1] at TA RA BA
  have st0 := store1 TA (o := 0) (by decide) c
  have T0x := there_set TA ⟨w2.heap.size, 0, none⟩ (.float .f64 c)
  have R0x := range_set (n := 0) RA c
  have B0x := BA.setCell (p := ⟨w2.heap.size, 0, none⟩) (Nat.le_refl _) (.float .f64 c)
  have st1 := store1 T0x (o := 1) (by decide) s
  have T1x := there_set T0x ⟨w2.heap.size, 1, none⟩ (.float .f64 s)
  have R1x := range_set (n := 1) R0x s
  have B1x := B0x.setCell (p := ⟨w2.heap.size, 1, none⟩) (Nat.le_refl _) (.float .f64 s)
  have st2 := store1 T1x (o := 4) (by decide) (Op.negFloat .f64 s)
  have T2x := there_set T1x ⟨w2.heap.size, 4, none⟩ (.float .f64 (Op.negFloat .f64 s))
  have R2x := range_set (n := 4) R1x (Op.negFloat .f64 s)
  have B2x := B1x.setCell (p := ⟨w2.heap.size, 4, none⟩) (Nat.le_refl _) (.float .f64 (Op.negFloat .f64 s))
  have st3 := store1 T2x (o := 5) (by decide) c
  have T3x := there_set T2x ⟨w2.heap.size, 5, none⟩ (.float .f64 c)
  have R3x := range_set (n := 5) R2x c
  have B3x := B2x.setCell (p := ⟨w2.heap.size, 5, none⟩) (Nat.le_refl _) (.float .f64 c)
  have RF : Hid (((((W1.setCell ⟨w2.heap.size, 0, none⟩ (.float .f64 c)).setCell ⟨w2.heap.size, 1, none⟩ (.float .f64 s)).setCell ⟨w2.heap.size, 4, none⟩ (.float .f64 (Op.negFloat .f64 s))).setCell ⟨w2.heap.size, 5, none⟩ (.float .f64 c)).rangeAt w2.heap.size 0 ((turnL c s).map (Value.float .f64))) := Lib.hid R3x
  have TF : Hid (((((W1.setCell ⟨w2.heap.size, 0, none⟩ (.float .f64 c)).setCell ⟨w2.heap.size, 1, none⟩ (.float .f64 s)).setCell ⟨w2.heap.size, 4, none⟩ (.float .f64 (Op.negFloat .f64 s))).setCell ⟨w2.heap.size, 5, none⟩ (.float .f64 c)).there w.heap.size 0 16) := Lib.hid (there_below T2.out B3x L2.out)
  have BF : Hid (Below w.heap.size w ((((W1.setCell ⟨w2.heap.size, 0, none⟩ (.float .f64 c)).setCell ⟨w2.heap.size, 1, none⟩ (.float .f64 s)).setCell ⟨w2.heap.size, 4, none⟩ (.float .f64 (Op.negFloat .f64 s))).setCell ⟨w2.heap.size, 5, none⟩ (.float .f64 c))) := Lib.hid (B2.out.trans (B3x.mono (Nat.le_of_lt L2.out)))
  have E3 := Lib.hid (size80L (turnL c s) rfl)
  have E4 := Lib.hid (size80A (turnL c s) rfl)
  have O4 := Lib.hid (one16 (turnL c s))
  have HW1 := Lib.hid hW1
  clear TA RA BA hb hW1 T0x R0x B0x T1x R1x B1x T2x R2x B2x T3x R3x B3x T2 B2 L2 hW
  go_upto_region 5 with (refine wpList_store_mid rfl 80 (.tmp 8) (.tmp 23) rfl w2.heap.size 0 (idL.map (Value.float .f64)).toArray rfl rfl N2.out E2.out O2.out ?_)
  refine wp_gen (fun wx => wx = W1) HW1.out.symm ?_
  rintro wx rfl
  clear N2 E2 O2 HW1
  go_upto_region 6 with fail
  obtain ⟨W5, hW5⟩ : ∃ W5, W5 = ((((wx.setCell ⟨w2.heap.size, 0, none⟩ (.float .f64 c)).setCell ⟨w2.heap.size, 1, none⟩ (.float .f64 s)).setCell ⟨w2.heap.size, 4, none⟩ (.float .f64 (Op.negFloat .f64 s))).setCell ⟨w2.heap.size, 5, none⟩ (.float .f64 c)) := ⟨_, rfl⟩
  rw [← hW5] at RF TF BF
  refine wp_gen (fun wy => wy = W5) hW5.symm ?_
  rintro wy rfl
  clear hW5
  go_wp2_with (first
    | (refine wpList_load_mid rfl 80 (.tmp 8) rfl w2.heap.size 0 rfl ((turnL c s).map (Value.float .f64)) _ RF.out Try.underlying80 rfl E3.out ?_)
    | (refine wpList_store_mid rfl 80 (.tmp 4) (.tmp 33) rfl w.heap.size 0 ((turnL c s).map (Value.float .f64)).toArray rfl rfl TF.out E4.out O4.out ?_))
  refine bodyPost_ret (v := .agg ((turnL c s).map (Value.float .f64)).toArray) (ret_row Try.prog Try.results94 rfl ((turnL c s).map (Value.float .f64)) TF.out Try.underlying80 rfl E3.out) rfl ⟨⟨c, s, rfl, hcs.out⟩, below_set16 BF.out _⟩

set_option maxRecDepth 100000 in
set_option maxHeartbeats 2000000 in
theorem k81 {a b : List Nat} (ha : MU a) (hb : MU b) (h : ∀ j, j < 16 → mp a j = mp b j) (w : World) :
    Calls Try.prog 81 #[.agg (a.map (Value.float .f64)).toArray, .agg (b.map (Value.float .f64)).toArray] w fun e w' => e = .returned (.bool true) ∧ Below w.heap.size w w' := by
  have S0 := Lib.hid (show ((w.alloc (.cells (a.map (Value.float .f64)).toArray 80)).alloc (.cells (b.map (Value.float .f64)).toArray 80)).rangeAt w.heap.size 0 (a.map (Value.float .f64)) from World.rangeAt_alloc (range_new w _ 80) _)
  have S1 := Lib.hid (show ((w.alloc (.cells (a.map (Value.float .f64)).toArray 80)).alloc (.cells (b.map (Value.float .f64)).toArray 80)).rangeAt (w.heap.size + 1) 0 (b.map (Value.float .f64)) by
    have := range_new (w.alloc (.cells (a.map (Value.float .f64)).toArray 80)) (b.map (Value.float .f64)) 80
    rwa [World.size_alloc] at this)
  have S2 := Lib.hid (show Below w.heap.size w ((w.alloc (.cells (a.map (Value.float .f64)).toArray 80)).alloc (.cells (b.map (Value.float .f64)).toArray 80)) from ((Below.refl _ _).alloc (Nat.le_refl _) _).alloc (by simp) _)
  have L0 := Lib.hid (show w.heap.size + 1 < ((w.alloc (.cells (a.map (Value.float .f64)).toArray 80)).alloc (.cells (b.map (Value.float .f64)).toArray 80)).heap.size by simp)
  have HA := Lib.hid (And.intro ha (And.intro hb h))
  clear ha hb h
  go_enter Try.func81, Try.ntmps81
  go_wp2_with fail
  go_loopw [5] (fun i wx => ∃ k : Nat, k ≤ 16 ∧ i = .int .i64 k ∧ Hid (wx.rangeAt w.heap.size 0 (a.map (Value.float .f64)) ∧ wx.rangeAt (w.heap.size + 1) 0 (b.map (Value.float .f64)) ∧ Below w.heap.size w wx ∧ w.heap.size + 1 < wx.heap.size)) (fun i _ => 16 - (intOf i).toNat)
  case atStart => exact ⟨0, by omega, rfl, Lib.hid ⟨S0.out, S1.out, S2.out, L0.out⟩⟩
  case round =>
    obtain ⟨k, hk, rfl, hI⟩ := hrel
    clear S0 S1 S2 L0
    by_cases hlt : k < 16
    · have hki : (k : Int) < 16 := by omega
      have HLT := Lib.hid hlt
      obtain ⟨x, cx, rx⟩ := HA.out.1.get hlt
      obtain ⟨y, cy, ry⟩ := HA.out.2.1.get hlt
      rw [← HA.out.2.2 k hlt] at ry
      have CX := Lib.hid (And.intro (map_get cx) (map_get cy))
      have RX := Lib.hid (And.intro rx ry)
      have ra : ∀ w', Below wr.heap.size wr w' → w'.rangeAt w.heap.size 0 (a.map (Value.float .f64)) := fun w' hw => range_below hI.out.1 hw (by have := hI.out.2.2.2; omega)
      have rb : ∀ w', Below wr.heap.size wr w' → w'.rangeAt (w.heap.size + 1) 0 (b.map (Value.float .f64)) := fun w' hw => range_below hI.out.2.1 hw hI.out.2.2.2
      have k0 : (0 : Int) ≤ (k : Int) := by omega
      clear hlt cx cy rx ry
      go_wp2_with fail
      refine wp_region_rel 8 (fun w' => Below wr.heap.size wr w') (fun _ _ v => v = .bool true) (by kernel_rfl) (by kernel_rfl) ((Below.refl _ _).drew) ?_
      simp only [List.take_succ_cons, List.take_zero, List.drop_succ_cons, List.drop_zero]
      refine rel_move (v := .int .i64 (k : Int)) rfl rfl ?_
      simp only [Act.put, List.setIfInBounds_toArray, List.set_cons_succ, List.set_cons_zero]
      refine rel_val (v := .pointer (some ⟨w.heap.size, k, none⟩)) rfl (fun w' hw => by go_simp) ?_
      simp only [Act.put, List.setIfInBounds_toArray, List.set_cons_succ, List.set_cons_zero]
      refine rel_loadF (w.heap.size) k x rfl rfl (fun w' hw => ra w' hw k _ CX.out.1) ?_
      simp only [Act.put, List.setIfInBounds_toArray, List.set_cons_succ, List.set_cons_zero]
      refine rel_move (v := .int .i64 (k : Int)) rfl rfl ?_
      simp only [Act.put, List.setIfInBounds_toArray, List.set_cons_succ, List.set_cons_zero]
      refine rel_val (v := .pointer (some ⟨w.heap.size + 1, k, none⟩)) rfl (fun w' hw => by go_simp) ?_
      simp only [Act.put, List.setIfInBounds_toArray, List.set_cons_succ, List.set_cons_zero]
      refine rel_loadF (w.heap.size + 1) k y rfl rfl (fun w' hw => rb w' hw k _ CX.out.2) ?_
      simp only [Act.put, List.setIfInBounds_toArray, List.set_cons_succ, List.set_cons_zero]
      refine rel_call (f := 32) (args := #[.float .f64 x, .float .f64 y]) rfl (fun w' hw => by go_simp) (fun w' hw => (k32 RX.out.1 RX.out.2 w').mono fun e w'' ⟨he, hq⟩ => ⟨_, he, rfl, by subst hq; exact hw⟩) (fun v hv => ?_)
      obtain rfl : v = .bool true := hv
      simp only [Act.put, List.setIfInBounds_toArray, List.set_cons_succ, List.set_cons_zero]
      refine rel_assign (v := .bool true) rfl rfl ?_
      simp only [Act.put, List.setIfInBounds_toArray, List.set_cons_succ, List.set_cons_zero]
      refine rel_nil ?_
      intro w3 hB3
      have I3 := Lib.hid (And.intro (ra w3 hB3) (And.intro (rb w3 hB3) (And.intro (hI.out.2.2.1.trans (hB3.mono (by have := hI.out.2.2.2; omega))) (Nat.lt_of_lt_of_le hI.out.2.2.2 hB3.size))))
      clear hB3 ra rb hI
      go_wp2
      go_roundw
      case rel => exact ⟨k + 1, by have := HLT.out; omega, by go_num, I3⟩
      case measure => have := HLT.out; simp [intOf]; omega
    · have hki : ¬ (k : Int) < 16 := by omega
      have BB := Lib.hid hI.out.2.2.1
      clear hlt hI
      go_wp2
      go_ret
      exact ⟨rfl, BB.out⟩

end Go.Proofs.Ytelalledjbeenaa
