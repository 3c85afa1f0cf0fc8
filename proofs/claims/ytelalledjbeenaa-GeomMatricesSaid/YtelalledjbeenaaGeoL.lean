/- Turn: printed by geo9.py. -/
import Derived.Test.YtelalledjbeenaaMgGeoI
namespace Go.Proofs.Ytelalledjbeenaa
open Go.RowKit Fl

def hypP (X Y : Int) : Int := sqrtP (opP .add (opP .mul X X) (opP .mul Y Y))
def turnL (c s : Nat) : List Nat := (((idL.set 0 c).set 1 s).set 4 (ng s)).set 5 c
def TurnR (X Y : Int) (e : Ending) : Prop := ∃ c s : Nat, e = .returned (.agg ((turnL c s).map (Value.float .f64)).toArray) ∧ RV c (opP .quo X (hypP X Y)) ∧ RV s (opP .quo Y (hypP X Y))
theorem turnL_MU {c s : Nat} (hc : U c) (hs : U s) : MU (turnL c s) := ⟨rfl, fun u hu => by
  have h1 : u ∈ [c, s, ng s, 0, 4607182418800017408] := by
    simp [turnL, idL, idK, List.range, List.range.loop] at hu
    simp only [List.mem_cons, List.not_mem_nil, or_false]
    omega
  simp only [List.mem_cons, List.not_mem_nil, or_false] at h1
  rcases h1 with rfl | rfl | rfl | rfl | rfl
  · exact hc
  · exact hs
  · exact U_ng hs
  · unfold U; decide
  · unfold U; decide⟩

set_option maxRecDepth 100000 in
set_option maxHeartbeats 2000000 in
theorem k93 {x y : Nat} {X Y : Int} (hx : RV x X) (hy : RV y Y) (w : World) :
    Calls Try.prog 93 #[.float .f64 x, .float .f64 y] w fun e w' => TurnR X Y e ∧ Below w.heap.size w w' := by
  have T0 := Lib.hid (there_new w Z16 80 16 rfl)
  have B0 := Lib.hid ((Below.refl w.heap.size w).alloc (Nat.le_refl _) (.cells Z16 80))
  have E2 := Lib.hid (size80A idL rfl)
  have O2 := Lib.hid (one16 idL)
  have HX := Lib.hid (And.intro hx hy)
  have hA := fun x y w => run_fop (P := Try.prog) .add rfl 24 x y w
  have hM := fun x y w => run_fop (P := Try.prog) .mul rfl 24 x y w
  have hQ := fun x y w => run_fop (P := Try.prog) .quo rfl 24 x y w
  have hneg : ∀ (b : Nat) (w : World), (Op.unary .neg (.float .f64 b)).run Try.prog w = .ok (.float .f64 (Op.negFloat .f64 b)) w := fun _ _ => rfl
  have LA := Lib.hid (show w.heap.size < (w.alloc (.cells Z16 80)).heap.size by simp)
  clear hx hy
  go_enter Try.func93, Try.ntmps93
  go_wp2_with fail
  refine (k155 (RV.fop .add (RV.fop .mul HX.out.1 HX.out.1 _) (RV.fop .mul HX.out.2 HX.out.2 _) _) _).mono ?_
  rintro e w1 ⟨⟨h, rfl, hh⟩, n, rfl⟩
  have HH := Lib.hid hh
  clear hh
  go_upto_region 2 with fail
  go_cut [6, 7] (fun c s wx => ∃ c' s' : Nat, c = .float .f64 c' ∧ s = .float .f64 s' ∧ Hid (RV c' (opP .quo X (hypP X Y)) ∧ RV s' (opP .quo Y (hypP X Y))) ∧ Hid (wx.there w.heap.size 0 16 ∧ Below w.heap.size w wx ∧ w.heap.size < wx.heap.size))
  case first =>
    go_wp2
    go_meet
    exact ⟨_, _, rfl, rfl, Lib.hid ⟨RV.fop .quo HX.out.1 HH.out _, RV.fop .quo HX.out.2 HH.out _⟩, Lib.hid ⟨T0.out, Bd B0.out _, LA.out⟩⟩
  case rest =>
  obtain ⟨c, s, rfl, rfl, hcs, hW⟩ := hcut
  have hsn := Lib.hid (show Op.negFloat .f64 s = ng s from rfl)
  go_wp2_with fail
  refine (k87 _).mono ?_
  rintro e w2 ⟨rfl, hb⟩
  have T2 := Lib.hid (there_below hW.out.1 hb hW.out.2.2)
  have B2 := Lib.hid (hW.out.2.1.trans (hb.mono (Nat.le_of_lt hW.out.2.2)))
  have L2 := Lib.hid (Nat.lt_of_lt_of_le hW.out.2.2 hb.size)
  have N2 := Lib.hid (show (w2.alloc (.cells Z16 80)).there w2.heap.size 0 (idL.map (Value.float .f64)).toArray.size from there_new w2 Z16 80 16 rfl)
  have TA : ((w2.alloc (.cells Z16 80)).setCells w2.heap.size 0 (idL.map (Value.float .f64))).there w2.heap.size 0 16 := World.there_setCells (there_new w2 Z16 80 16 rfl) _ _ _
  have RA : ((w2.alloc (.cells Z16 80)).setCells w2.heap.size 0 (idL.map (Value.float .f64))).rangeAt w2.heap.size 0 (idL.map (Value.float .f64)) := World.rangeAt_setCells_same _ _ _ _ (there_new w2 Z16 80 16 rfl)
  have BA : Below w2.heap.size w2 ((w2.alloc (.cells Z16 80)).setCells w2.heap.size 0 (idL.map (Value.float .f64))) := stored16 w2 _
  obtain ⟨W1, hW1⟩ : ∃ W1, W1 = ((w2.alloc (.cells Z16 80)).setCells w2.heap.size 0 (idL.map (Value.float .f64))) := ⟨_, rfl⟩
  rw [← hW1] at TA RA BA
  have st0 := store1 TA (o := 0) (by decide) c
  have T0x := there_set TA ⟨w2.heap.size, 0, none⟩ (.float .f64 c)
  have R0x := range_set (n := 0) RA c
  have B0x := BA.setCell (p := ⟨w2.heap.size, 0, none⟩) (Nat.le_refl _) (.float .f64 c)
  have st1 := store1 T0x (o := 1) (by decide) s
  have T1x := there_set T0x ⟨w2.heap.size, 1, none⟩ (.float .f64 s)
  have R1x := range_set (n := 1) R0x s
  have B1x := B0x.setCell (p := ⟨w2.heap.size, 1, none⟩) (Nat.le_refl _) (.float .f64 s)
  have st2 := store1 T1x (o := 4) (by decide) (Op.negFloat .f64 s)
  have T2x := there_set T1x ⟨w2.heap.size, 4, none⟩ (.float .f64 (Op.negFloat .f64 s))
  have R2x := range_set (n := 4) R1x (Op.negFloat .f64 s)
  have B2x := B1x.setCell (p := ⟨w2.heap.size, 4, none⟩) (Nat.le_refl _) (.float .f64 (Op.negFloat .f64 s))
  have st3 := store1 T2x (o := 5) (by decide) c
  have T3x := there_set T2x ⟨w2.heap.size, 5, none⟩ (.float .f64 c)
  have R3x := range_set (n := 5) R2x c
  have B3x := B2x.setCell (p := ⟨w2.heap.size, 5, none⟩) (Nat.le_refl _) (.float .f64 c)
  have RF : Hid (((((W1.setCell ⟨w2.heap.size, 0, none⟩ (.float .f64 c)).setCell ⟨w2.heap.size, 1, none⟩ (.float .f64 s)).setCell ⟨w2.heap.size, 4, none⟩ (.float .f64 (Op.negFloat .f64 s))).setCell ⟨w2.heap.size, 5, none⟩ (.float .f64 c)).rangeAt w2.heap.size 0 ((turnL c s).map (Value.float .f64))) := Lib.hid R3x
  have TF : Hid (((((W1.setCell ⟨w2.heap.size, 0, none⟩ (.float .f64 c)).setCell ⟨w2.heap.size, 1, none⟩ (.float .f64 s)).setCell ⟨w2.heap.size, 4, none⟩ (.float .f64 (Op.negFloat .f64 s))).setCell ⟨w2.heap.size, 5, none⟩ (.float .f64 c)).there w.heap.size 0 16) := Lib.hid (there_below T2.out B3x L2.out)
  have BF : Hid (Below w.heap.size w ((((W1.setCell ⟨w2.heap.size, 0, none⟩ (.float .f64 c)).setCell ⟨w2.heap.size, 1, none⟩ (.float .f64 s)).setCell ⟨w2.heap.size, 4, none⟩ (.float .f64 (Op.negFloat .f64 s))).setCell ⟨w2.heap.size, 5, none⟩ (.float .f64 c))) := Lib.hid (B2.out.trans (B3x.mono (Nat.le_of_lt L2.out)))
  have E3 := Lib.hid (size80L (turnL c s) rfl)
  have E4 := Lib.hid (size80A (turnL c s) rfl)
  have O4 := Lib.hid (one16 (turnL c s))
  have HW1 := Lib.hid hW1
  clear TA RA BA hb hW1 T0x R0x B0x T1x R1x B1x T2x R2x B2x T3x R3x B3x T2 B2 L2 hW
  go_upto_region 4 with (refine wpList_store_mid rfl 80 (.tmp 8) (.tmp 23) rfl w2.heap.size 0 (idL.map (Value.float .f64)).toArray rfl rfl N2.out E2.out O2.out ?_)
  refine wp_gen (fun wx => wx = W1) HW1.out.symm ?_
  rintro wx rfl
  clear N2 E2 O2 HW1
  go_upto_region 5 with fail
  obtain ⟨W5, hW5⟩ : ∃ W5, W5 = ((((wx.setCell ⟨w2.heap.size, 0, none⟩ (.float .f64 c)).setCell ⟨w2.heap.size, 1, none⟩ (.float .f64 s)).setCell ⟨w2.heap.size, 4, none⟩ (.float .f64 (Op.negFloat .f64 s))).setCell ⟨w2.heap.size, 5, none⟩ (.float .f64 c)) := ⟨_, rfl⟩
  rw [← hW5] at RF TF BF
  refine wp_gen (fun wy => wy = W5) hW5.symm ?_
  rintro wy rfl
  clear hW5
  go_wp2_with (first
    | (refine wpList_load_mid rfl 80 (.tmp 8) rfl w2.heap.size 0 rfl ((turnL c s).map (Value.float .f64)) _ RF.out Try.underlying80 rfl E3.out ?_)
    | (refine wpList_store_mid rfl 80 (.tmp 4) (.tmp 33) rfl w.heap.size 0 ((turnL c s).map (Value.float .f64)).toArray rfl rfl TF.out E4.out O4.out ?_))
  refine bodyPost_ret (v := .agg ((turnL c s).map (Value.float .f64)).toArray) (ret_row Try.prog Try.results93 rfl ((turnL c s).map (Value.float .f64)) TF.out Try.underlying80 rfl E3.out) rfl ⟨⟨c, s, rfl, hcs.out⟩, below_set16 BF.out _⟩
end Go.Proofs.Ytelalledjbeenaa
