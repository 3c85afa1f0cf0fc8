/- Union and its fellows: walks over drawn regions, printed by geo2.py. -/
import Derived.Test.YtelalledjbeenaaMgGeoA
namespace Go.Proofs.Ytelalledjbeenaa
open Go.RowKit Fl

/-- two boxed rows and a block for what is told -/
structure Two (wx w : World) (A B : List Value) (n : Nat) : Prop where
  r1 : wx.rangeAt w.heap.size 0 A
  r2 : wx.rangeAt (w.heap.size + 1) 0 B
  t : wx.there (w.heap.size + 1 + 1) 0 n
  b : Below w.heap.size w wx
  lt : w.heap.size + 1 + 1 < wx.heap.size
theorem two_entry (w : World) (A B : List Value) (O : Array Value) (t1 t2 t3 : TypeId) (n : Nat) (h : O.size = n) :
    Two (((w.alloc (.cells A.toArray t1)).alloc (.cells B.toArray t2)).alloc (.cells O t3)) w A B n := by
  have e1 : (w.alloc (.cells A.toArray t1)).heap.size = w.heap.size + 1 := by simp
  have e2 : ((w.alloc (.cells A.toArray t1)).alloc (.cells B.toArray t2)).heap.size = w.heap.size + 1 + 1 := by simp
  refine ⟨World.rangeAt_alloc (World.rangeAt_alloc (range_new w A t1) _) _, ?_, ?_, ?_, by simp⟩
  · have := World.rangeAt_alloc (range_new (w.alloc (.cells A.toArray t1)) B t2) (.cells O t3)
    rwa [e1] at this
  · have := there_new ((w.alloc (.cells A.toArray t1)).alloc (.cells B.toArray t2)) O t3 n h
    rwa [e2] at this
  · exact (((Below.refl _ _).alloc (Nat.le_refl _) _).alloc (by simp) _).alloc (by simp; omega) _

structure One (wx w : World) (A : List Value) (n : Nat) : Prop where
  r1 : wx.rangeAt w.heap.size 0 A
  t : wx.there (w.heap.size + 1) 0 n
  b : Below w.heap.size w wx
  lt : w.heap.size + 1 < wx.heap.size
theorem one_entry (w : World) (A : List Value) (O : Array Value) (t1 t3 : TypeId) (n : Nat) (h : O.size = n) : One ((w.alloc (.cells A.toArray t1)).alloc (.cells O t3)) w A n := by
  have e1 : (w.alloc (.cells A.toArray t1)).heap.size = w.heap.size + 1 := by simp
  refine ⟨World.rangeAt_alloc (range_new w A t1) _, ?_, ?_, by simp⟩
  · have := there_new (w.alloc (.cells A.toArray t1)) O t3 n h
    rwa [e1] at this
  · exact ((Below.refl _ _).alloc (Nat.le_refl _) _).alloc (by simp) _
theorem size61 : (Try.prog.info? 61).map (·.size) = some 4 := by kernel_rfl

set_option maxRecDepth 100000 in
set_option maxHeartbeats 2000000 in
theorem k55 {a0 b0 a1 b1 a2 b2 a3 b3 : Nat} {A0 B0 A1 B1 A2 B2 A3 B3 : Int} (ha0 : RV a0 A0) (ha1 : RV a1 A1) (ha2 : RV a2 A2) (ha3 : RV a3 A3) (hb0 : RV b0 B0) (hb1 : RV b1 B1) (hb2 : RV b2 B2) (hb3 : RV b3 B3) (w : World) :
    Calls Try.prog 55 #[.agg #[.float .f64 a0, .float .f64 a1, .float .f64 a2, .float .f64 a3], .agg #[.float .f64 b0, .float .f64 b1, .float .f64 b2, .float .f64 b3]] w fun e w' => RetQ (minP (loP A0 A2) (loP B0 B2)) (minP (loP A1 A3) (loP B1 B3)) (opP .sub (maxP (hiP A0 A2) (hiP B0 B2)) (minP (loP A0 A2) (loP B0 B2))) (opP .sub (maxP (hiP A1 A3) (hiP B1 B3)) (minP (loP A1 A3) (loP B1 B3))) e ∧ Below w.heap.size w w' := by
  have HA := Lib.hid (And.intro ha0 (And.intro ha1 (And.intro ha2 ha3)))
  have HB := Lib.hid (And.intro hb0 (And.intro hb1 (And.intro hb2 hb3)))
  clear ha0 ha1 ha2 ha3 hb0 hb1 hb2 hb3
  go_enter Try.func55, Try.ntmps55
  go_wp2_with fail
  refine wp_gen (fun wx => Hid (Two wx w [.float .f64 a0, .float .f64 a1, .float .f64 a2, .float .f64 a3] [.float .f64 b0, .float .f64 b1, .float .f64 b2, .float .f64 b3] 4)) (Lib.hid (two_entry w [.float .f64 a0, .float .f64 a1, .float .f64 a2, .float .f64 a3] [.float .f64 b0, .float .f64 b1, .float .f64 b2, .float .f64 b3] _ 58 58 58 4 rfl)) ?_
  intro wc hW
  have ra : ∀ w', Below wc.heap.size wc w' → w'.rangeAt w.heap.size 0 [.float .f64 a0, .float .f64 a1, .float .f64 a2, .float .f64 a3] := fun w' hw => range_below hW.out.r1 hw (by have := hW.out.lt; omega)
  have rb : ∀ w', Below wc.heap.size wc w' → w'.rangeAt (w.heap.size + 1) 0 [.float .f64 b0, .float .f64 b1, .float .f64 b2, .float .f64 b3] := fun w' hw => range_below hW.out.r2 hw (by have := hW.out.lt; omega)
  have rt : ∀ w', Below wc.heap.size wc w' → w'.there (w.heap.size + 1 + 1) 0 4 := fun w' hw => there_below hW.out.t hw (by have := hW.out.lt; omega)
  have RT := Lib.hid rt
  have BW := Lib.hid hW.out.b
  have LW := Lib.hid hW.out.lt
  clear hW
  refine wp_region_rel 21 (fun w' => Below wc.heap.size wc w') GEO (by kernel_rfl) (by kernel_rfl) ((Below.refl _ _).drew) ?_
  simp only [List.take_succ_cons, List.take_zero, List.drop_succ_cons, List.drop_zero]
  refine rel_load_row (w.heap.size) 0 [.float .f64 a0, .float .f64 a1, .float .f64 a2, .float .f64 a3] _ rfl rfl ra Try.underlying58 rfl size58 ?_
  simp only [Act.put, List.setIfInBounds_toArray, List.set_cons_succ, List.set_cons_zero]
  refine rel_call (f := 48) (args := #[.agg #[.float .f64 a0, .float .f64 a1, .float .f64 a2, .float .f64 a3]]) rfl (fun w' hw => by go_simp) (fun w' hw => g48 HA.out.1 HA.out.2.1 HA.out.2.2.1 HA.out.2.2.2 hw) (fun v hv => ?_)
  obtain ⟨r1, rfl, hr1⟩ := G48 hv HA.out.1 HA.out.2.1 HA.out.2.2.1 HA.out.2.2.2
  simp only [Act.put, List.setIfInBounds_toArray, List.set_cons_succ, List.set_cons_zero]
  refine rel_load_row (w.heap.size + 1) 0 [.float .f64 b0, .float .f64 b1, .float .f64 b2, .float .f64 b3] _ rfl rfl rb Try.underlying58 rfl size58 ?_
  simp only [Act.put, List.setIfInBounds_toArray, List.set_cons_succ, List.set_cons_zero]
  refine rel_call (f := 48) (args := #[.agg #[.float .f64 b0, .float .f64 b1, .float .f64 b2, .float .f64 b3]]) rfl (fun w' hw => by go_simp) (fun w' hw => g48 HB.out.1 HB.out.2.1 HB.out.2.2.1 HB.out.2.2.2 hw) (fun v hv => ?_)
  obtain ⟨r2, rfl, hr2⟩ := G48 hv HB.out.1 HB.out.2.1 HB.out.2.2.1 HB.out.2.2.2
  simp only [Act.put, List.setIfInBounds_toArray, List.set_cons_succ, List.set_cons_zero]
  refine rel_call (f := 83) (args := #[.float .f64 r1, .float .f64 r2]) rfl (fun w' hw => by go_simp) (fun w' hw => g83 hr1 hr2 hw) (fun v hv => ?_)
  obtain ⟨r3, rfl, hr3⟩ := G83 hv hr1 hr2
  simp only [Act.put, List.setIfInBounds_toArray, List.set_cons_succ, List.set_cons_zero]
  refine rel_load_row (w.heap.size) 0 [.float .f64 a0, .float .f64 a1, .float .f64 a2, .float .f64 a3] _ rfl rfl ra Try.underlying58 rfl size58 ?_
  simp only [Act.put, List.setIfInBounds_toArray, List.set_cons_succ, List.set_cons_zero]
  refine rel_call (f := 49) (args := #[.agg #[.float .f64 a0, .float .f64 a1, .float .f64 a2, .float .f64 a3]]) rfl (fun w' hw => by go_simp) (fun w' hw => g49 HA.out.1 HA.out.2.1 HA.out.2.2.1 HA.out.2.2.2 hw) (fun v hv => ?_)
  obtain ⟨r4, rfl, hr4⟩ := G49 hv HA.out.1 HA.out.2.1 HA.out.2.2.1 HA.out.2.2.2
  simp only [Act.put, List.setIfInBounds_toArray, List.set_cons_succ, List.set_cons_zero]
  refine rel_load_row (w.heap.size + 1) 0 [.float .f64 b0, .float .f64 b1, .float .f64 b2, .float .f64 b3] _ rfl rfl rb Try.underlying58 rfl size58 ?_
  simp only [Act.put, List.setIfInBounds_toArray, List.set_cons_succ, List.set_cons_zero]
  refine rel_call (f := 49) (args := #[.agg #[.float .f64 b0, .float .f64 b1, .float .f64 b2, .float .f64 b3]]) rfl (fun w' hw => by go_simp) (fun w' hw => g49 HB.out.1 HB.out.2.1 HB.out.2.2.1 HB.out.2.2.2 hw) (fun v hv => ?_)
  obtain ⟨r5, rfl, hr5⟩ := G49 hv HB.out.1 HB.out.2.1 HB.out.2.2.1 HB.out.2.2.2
  simp only [Act.put, List.setIfInBounds_toArray, List.set_cons_succ, List.set_cons_zero]
  refine rel_call (f := 83) (args := #[.float .f64 r4, .float .f64 r5]) rfl (fun w' hw => by go_simp) (fun w' hw => g83 hr4 hr5 hw) (fun v hv => ?_)
  obtain ⟨r6, rfl, hr6⟩ := G83 hv hr4 hr5
  simp only [Act.put, List.setIfInBounds_toArray, List.set_cons_succ, List.set_cons_zero]
  refine rel_load_row (w.heap.size) 0 [.float .f64 a0, .float .f64 a1, .float .f64 a2, .float .f64 a3] _ rfl rfl ra Try.underlying58 rfl size58 ?_
  simp only [Act.put, List.setIfInBounds_toArray, List.set_cons_succ, List.set_cons_zero]
  refine rel_call (f := 50) (args := #[.agg #[.float .f64 a0, .float .f64 a1, .float .f64 a2, .float .f64 a3]]) rfl (fun w' hw => by go_simp) (fun w' hw => g50 HA.out.1 HA.out.2.1 HA.out.2.2.1 HA.out.2.2.2 hw) (fun v hv => ?_)
  obtain ⟨r7, rfl, hr7⟩ := G50 hv HA.out.1 HA.out.2.1 HA.out.2.2.1 HA.out.2.2.2
  simp only [Act.put, List.setIfInBounds_toArray, List.set_cons_succ, List.set_cons_zero]
  refine rel_load_row (w.heap.size + 1) 0 [.float .f64 b0, .float .f64 b1, .float .f64 b2, .float .f64 b3] _ rfl rfl rb Try.underlying58 rfl size58 ?_
  simp only [Act.put, List.setIfInBounds_toArray, List.set_cons_succ, List.set_cons_zero]
  refine rel_call (f := 50) (args := #[.agg #[.float .f64 b0, .float .f64 b1, .float .f64 b2, .float .f64 b3]]) rfl (fun w' hw => by go_simp) (fun w' hw => g50 HB.out.1 HB.out.2.1 HB.out.2.2.1 HB.out.2.2.2 hw) (fun v hv => ?_)
  obtain ⟨r8, rfl, hr8⟩ := G50 hv HB.out.1 HB.out.2.1 HB.out.2.2.1 HB.out.2.2.2
  simp only [Act.put, List.setIfInBounds_toArray, List.set_cons_succ, List.set_cons_zero]
  refine rel_call (f := 84) (args := #[.float .f64 r7, .float .f64 r8]) rfl (fun w' hw => by go_simp) (fun w' hw => g84 hr7 hr8 hw) (fun v hv => ?_)
  obtain ⟨r9, rfl, hr9⟩ := G84 hv hr7 hr8
  simp only [Act.put, List.setIfInBounds_toArray, List.set_cons_succ, List.set_cons_zero]
  refine rel_load_row (w.heap.size) 0 [.float .f64 a0, .float .f64 a1, .float .f64 a2, .float .f64 a3] _ rfl rfl ra Try.underlying58 rfl size58 ?_
  simp only [Act.put, List.setIfInBounds_toArray, List.set_cons_succ, List.set_cons_zero]
  refine rel_call (f := 51) (args := #[.agg #[.float .f64 a0, .float .f64 a1, .float .f64 a2, .float .f64 a3]]) rfl (fun w' hw => by go_simp) (fun w' hw => g51 HA.out.1 HA.out.2.1 HA.out.2.2.1 HA.out.2.2.2 hw) (fun v hv => ?_)
  obtain ⟨r10, rfl, hr10⟩ := G51 hv HA.out.1 HA.out.2.1 HA.out.2.2.1 HA.out.2.2.2
  simp only [Act.put, List.setIfInBounds_toArray, List.set_cons_succ, List.set_cons_zero]
  refine rel_load_row (w.heap.size + 1) 0 [.float .f64 b0, .float .f64 b1, .float .f64 b2, .float .f64 b3] _ rfl rfl rb Try.underlying58 rfl size58 ?_
  simp only [Act.put, List.setIfInBounds_toArray, List.set_cons_succ, List.set_cons_zero]
  refine rel_call (f := 51) (args := #[.agg #[.float .f64 b0, .float .f64 b1, .float .f64 b2, .float .f64 b3]]) rfl (fun w' hw => by go_simp) (fun w' hw => g51 HB.out.1 HB.out.2.1 HB.out.2.2.1 HB.out.2.2.2 hw) (fun v hv => ?_)
  obtain ⟨r11, rfl, hr11⟩ := G51 hv HB.out.1 HB.out.2.1 HB.out.2.2.1 HB.out.2.2.2
  simp only [Act.put, List.setIfInBounds_toArray, List.set_cons_succ, List.set_cons_zero]
  refine rel_call (f := 84) (args := #[.float .f64 r10, .float .f64 r11]) rfl (fun w' hw => by go_simp) (fun w' hw => g84 hr10 hr11 hw) (fun v hv => ?_)
  obtain ⟨r12, rfl, hr12⟩ := G84 hv hr10 hr11
  simp only [Act.put, List.setIfInBounds_toArray, List.set_cons_succ, List.set_cons_zero]
  refine rel_call (f := 148) (args := #[.float .f64 r3, .float .f64 r6, .float .f64 r9, .float .f64 r12]) rfl (fun w' hw => by go_simp) (fun w' hw => g148 hr3 hr6 hr9 hr12 hw) (fun v hv => ?_)
  obtain ⟨r13, r14, r15, r16, rfl, hr13, hr14, hr15, hr16⟩ := G148 hv hr3 hr6 hr9 hr12
  simp only [Act.put, List.setIfInBounds_toArray, List.set_cons_succ, List.set_cons_zero]
  refine rel_nil ?_
  intro w3 hB3
  have RR := Lib.hid (And.intro hr13 (And.intro hr14 (And.intro hr15 hr16)))
  have B3 := Lib.hid (BW.out.trans (hB3.mono (by have := LW.out; omega)))
  obtain ⟨s0, s1, s2, s3⟩ := store4 (RT.out w3 hB3)
  have T3 := Lib.hid (RT.out w3 hB3)
  clear hB3 ra rb rt
  go_wp2
  refine bodyPost_ret (v := .agg #[_, _, _, _]) (ret_row Try.prog Try.results55 rfl [_, _, _, _] T3.out Try.underlying58 rfl size58) rfl ?_
  exact ⟨⟨_, _, _, _, rfl, RR.out⟩, below_setCells B3.out (by omega) 0 [_, _, _, _]⟩
set_option maxRecDepth 100000 in
set_option maxHeartbeats 2000000 in
theorem k47 {a0 a1 a2 a3 : Nat} {A0 A1 A2 A3 : Int} (ha0 : RV a0 A0) (ha1 : RV a1 A1) (ha2 : RV a2 A2) (ha3 : RV a3 A3) (w : World) :
    Calls Try.prog 47 #[.agg #[.float .f64 a0, .float .f64 a1, .float .f64 a2, .float .f64 a3]] w fun e w' => RetQ (loP A0 A2) (loP A1 A3) (hiP A0 A2) (hiP A1 A3) e ∧ Below w.heap.size w w' := by
  have HA := Lib.hid (And.intro ha0 (And.intro ha1 (And.intro ha2 ha3)))
  clear ha0 ha1 ha2 ha3
  go_enter Try.func47, Try.ntmps47
  go_wp2_with fail
  refine wp_gen (fun wx => Hid (One wx w [.float .f64 a0, .float .f64 a1, .float .f64 a2, .float .f64 a3] 4)) (Lib.hid (one_entry w [.float .f64 a0, .float .f64 a1, .float .f64 a2, .float .f64 a3] _ 58 61 4 rfl)) ?_
  intro wc hW
  have ra : ∀ w', Below wc.heap.size wc w' → w'.rangeAt w.heap.size 0 [.float .f64 a0, .float .f64 a1, .float .f64 a2, .float .f64 a3] := fun w' hw => range_below hW.out.r1 hw (by have := hW.out.lt; omega)
  have RT := Lib.hid (fun w' (hw : Below wc.heap.size wc w') => there_below hW.out.t hw (by have := hW.out.lt; omega))
  have BW := Lib.hid hW.out.b
  have LW := Lib.hid hW.out.lt
  clear hW
  refine wp_region_rel 33 (fun w' => Below wc.heap.size wc w') GEO (by kernel_rfl) (by kernel_rfl) ((Below.refl _ _).drew) ?_
  simp only [List.take_succ_cons, List.take_zero, List.drop_succ_cons, List.drop_zero]
  refine rel_val (v := .pointer (some ⟨w.heap.size, 0, none⟩)) rfl (fun w' hw => by go_simp) ?_
  simp only [Act.put, List.setIfInBounds_toArray, List.set_cons_succ, List.set_cons_zero]
  refine rel_loadF (w.heap.size) 0 a0 rfl rfl (fun w' hw => ra w' hw 0 _ rfl) ?_
  simp only [Act.put, List.setIfInBounds_toArray, List.set_cons_succ, List.set_cons_zero]
  refine rel_val (v := .pointer (some ⟨w.heap.size, 0, none⟩)) rfl (fun w' hw => by go_simp) ?_
  simp only [Act.put, List.setIfInBounds_toArray, List.set_cons_succ, List.set_cons_zero]
  refine rel_loadF (w.heap.size) 0 a0 rfl rfl (fun w' hw => ra w' hw 0 _ rfl) ?_
  simp only [Act.put, List.setIfInBounds_toArray, List.set_cons_succ, List.set_cons_zero]
  refine rel_val (v := .pointer (some ⟨w.heap.size, 2, none⟩)) rfl (fun w' hw => by go_simp) ?_
  simp only [Act.put, List.setIfInBounds_toArray, List.set_cons_succ, List.set_cons_zero]
  refine rel_loadF (w.heap.size) 2 a2 rfl rfl (fun w' hw => ra w' hw 2 _ rfl) ?_
  simp only [Act.put, List.setIfInBounds_toArray, List.set_cons_succ, List.set_cons_zero]
  refine rel_fop (w0 := wc) (op := .add) rfl rfl rfl HA.out.1 HA.out.2.2.1 rfl ?_
  intro r1 hr1
  simp only [Act.put, List.setIfInBounds_toArray, List.set_cons_succ, List.set_cons_zero]
  refine rel_call (f := 110) (args := #[.float .f64 a0, .float .f64 r1]) rfl (fun w' hw => by go_simp) (fun w' hw => g110 HA.out.1 hr1 hw) (fun v hv => ?_)
  obtain ⟨r2, rfl, hr2⟩ := G110 hv HA.out.1 hr1
  simp only [Act.put, List.setIfInBounds_toArray, List.set_cons_succ, List.set_cons_zero]
  refine rel_val (v := .pointer (some ⟨w.heap.size, 1, none⟩)) rfl (fun w' hw => by go_simp) ?_
  simp only [Act.put, List.setIfInBounds_toArray, List.set_cons_succ, List.set_cons_zero]
  refine rel_loadF (w.heap.size) 1 a1 rfl rfl (fun w' hw => ra w' hw 1 _ rfl) ?_
  simp only [Act.put, List.setIfInBounds_toArray, List.set_cons_succ, List.set_cons_zero]
  refine rel_val (v := .pointer (some ⟨w.heap.size, 1, none⟩)) rfl (fun w' hw => by go_simp) ?_
  simp only [Act.put, List.setIfInBounds_toArray, List.set_cons_succ, List.set_cons_zero]
  refine rel_loadF (w.heap.size) 1 a1 rfl rfl (fun w' hw => ra w' hw 1 _ rfl) ?_
  simp only [Act.put, List.setIfInBounds_toArray, List.set_cons_succ, List.set_cons_zero]
  refine rel_val (v := .pointer (some ⟨w.heap.size, 3, none⟩)) rfl (fun w' hw => by go_simp) ?_
  simp only [Act.put, List.setIfInBounds_toArray, List.set_cons_succ, List.set_cons_zero]
  refine rel_loadF (w.heap.size) 3 a3 rfl rfl (fun w' hw => ra w' hw 3 _ rfl) ?_
  simp only [Act.put, List.setIfInBounds_toArray, List.set_cons_succ, List.set_cons_zero]
  refine rel_fop (w0 := wc) (op := .add) rfl rfl rfl HA.out.2.1 HA.out.2.2.2 rfl ?_
  intro r3 hr3
  simp only [Act.put, List.setIfInBounds_toArray, List.set_cons_succ, List.set_cons_zero]
  refine rel_call (f := 110) (args := #[.float .f64 a1, .float .f64 r3]) rfl (fun w' hw => by go_simp) (fun w' hw => g110 HA.out.2.1 hr3 hw) (fun v hv => ?_)
  obtain ⟨r4, rfl, hr4⟩ := G110 hv HA.out.2.1 hr3
  simp only [Act.put, List.setIfInBounds_toArray, List.set_cons_succ, List.set_cons_zero]
  refine rel_val (v := .pointer (some ⟨w.heap.size, 0, none⟩)) rfl (fun w' hw => by go_simp) ?_
  simp only [Act.put, List.setIfInBounds_toArray, List.set_cons_succ, List.set_cons_zero]
  refine rel_loadF (w.heap.size) 0 a0 rfl rfl (fun w' hw => ra w' hw 0 _ rfl) ?_
  simp only [Act.put, List.setIfInBounds_toArray, List.set_cons_succ, List.set_cons_zero]
  refine rel_val (v := .pointer (some ⟨w.heap.size, 0, none⟩)) rfl (fun w' hw => by go_simp) ?_
  simp only [Act.put, List.setIfInBounds_toArray, List.set_cons_succ, List.set_cons_zero]
  refine rel_loadF (w.heap.size) 0 a0 rfl rfl (fun w' hw => ra w' hw 0 _ rfl) ?_
  simp only [Act.put, List.setIfInBounds_toArray, List.set_cons_succ, List.set_cons_zero]
  refine rel_val (v := .pointer (some ⟨w.heap.size, 2, none⟩)) rfl (fun w' hw => by go_simp) ?_
  simp only [Act.put, List.setIfInBounds_toArray, List.set_cons_succ, List.set_cons_zero]
  refine rel_loadF (w.heap.size) 2 a2 rfl rfl (fun w' hw => ra w' hw 2 _ rfl) ?_
  simp only [Act.put, List.setIfInBounds_toArray, List.set_cons_succ, List.set_cons_zero]
  refine rel_fop (w0 := wc) (op := .add) rfl rfl rfl HA.out.1 HA.out.2.2.1 rfl ?_
  intro r5 hr5
  simp only [Act.put, List.setIfInBounds_toArray, List.set_cons_succ, List.set_cons_zero]
  refine rel_call (f := 111) (args := #[.float .f64 a0, .float .f64 r5]) rfl (fun w' hw => by go_simp) (fun w' hw => g111 HA.out.1 hr5 hw) (fun v hv => ?_)
  obtain ⟨r6, rfl, hr6⟩ := G111 hv HA.out.1 hr5
  simp only [Act.put, List.setIfInBounds_toArray, List.set_cons_succ, List.set_cons_zero]
  refine rel_val (v := .pointer (some ⟨w.heap.size, 1, none⟩)) rfl (fun w' hw => by go_simp) ?_
  simp only [Act.put, List.setIfInBounds_toArray, List.set_cons_succ, List.set_cons_zero]
  refine rel_loadF (w.heap.size) 1 a1 rfl rfl (fun w' hw => ra w' hw 1 _ rfl) ?_
  simp only [Act.put, List.setIfInBounds_toArray, List.set_cons_succ, List.set_cons_zero]
  refine rel_val (v := .pointer (some ⟨w.heap.size, 1, none⟩)) rfl (fun w' hw => by go_simp) ?_
  simp only [Act.put, List.setIfInBounds_toArray, List.set_cons_succ, List.set_cons_zero]
  refine rel_loadF (w.heap.size) 1 a1 rfl rfl (fun w' hw => ra w' hw 1 _ rfl) ?_
  simp only [Act.put, List.setIfInBounds_toArray, List.set_cons_succ, List.set_cons_zero]
  refine rel_val (v := .pointer (some ⟨w.heap.size, 3, none⟩)) rfl (fun w' hw => by go_simp) ?_
  simp only [Act.put, List.setIfInBounds_toArray, List.set_cons_succ, List.set_cons_zero]
  refine rel_loadF (w.heap.size) 3 a3 rfl rfl (fun w' hw => ra w' hw 3 _ rfl) ?_
  simp only [Act.put, List.setIfInBounds_toArray, List.set_cons_succ, List.set_cons_zero]
  refine rel_fop (w0 := wc) (op := .add) rfl rfl rfl HA.out.2.1 HA.out.2.2.2 rfl ?_
  intro r7 hr7
  simp only [Act.put, List.setIfInBounds_toArray, List.set_cons_succ, List.set_cons_zero]
  refine rel_call (f := 111) (args := #[.float .f64 a1, .float .f64 r7]) rfl (fun w' hw => by go_simp) (fun w' hw => g111 HA.out.2.1 hr7 hw) (fun v hv => ?_)
  obtain ⟨r8, rfl, hr8⟩ := G111 hv HA.out.2.1 hr7
  simp only [Act.put, List.setIfInBounds_toArray, List.set_cons_succ, List.set_cons_zero]
  refine rel_val (v := .agg #[.float .f64 r2, .float .f64 r4, .float .f64 r6, .float .f64 r8]) rfl (fun w' hw => by go_simp) ?_
  simp only [Act.put, List.setIfInBounds_toArray, List.set_cons_succ, List.set_cons_zero]
  refine rel_nil ?_
  intro w3 hB3
  have RR := Lib.hid (And.intro hr2 (And.intro hr4 (And.intro hr6 hr8)))
  have B3 := Lib.hid (BW.out.trans (hB3.mono (by have := LW.out; omega)))
  obtain ⟨s0, s1, s2, s3⟩ := store4 (RT.out w3 hB3)
  have T3 := Lib.hid (RT.out w3 hB3)
  clear hB3 ra
  go_wp2
  refine bodyPost_ret (v := .agg #[_, _, _, _]) (ret_row Try.prog Try.results47 rfl [_, _, _, _] T3.out Try.underlying61 rfl size61) rfl ?_
  exact ⟨⟨_, _, _, _, rfl, RR.out⟩, below_setCells B3.out (by omega) 0 [_, _, _, _]⟩
end Go.Proofs.Ytelalledjbeenaa
