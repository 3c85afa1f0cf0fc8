/- Invert of geom: printed by geo23.py. Invert of both sides: printed by geo23.py. The head of all statements of layer 15: 'awake' answers true. What the callees of the laws' drawn regions may answer: printed by geo14.py. The walk of GeomRects: printed by geo15.py. The walk of GeomMatrices: printed by geo24.py. -/
import Derived.Test.YtedkbjimofiphaaMgGeoZ
import Derived.Test.YtedkbjimofiphaaMgRelS
namespace Go.Proofs.Ytedkbjimofiphaa
open Go.RowKit Fl
theorem one_set {wx w : World} {A : List Value} {n g : Nat} (h : One wx w A n) (hg : w.heap.size + 1 < g) (vs : List Value) : One (wx.setCells g 0 vs) w A n :=
  have hb := below_setCells (Below.refl g wx) (Nat.le_refl _) 0 vs
  ⟨range_below h.r1 hb (by omega), there_below h.t hb hg, below_setCells h.b (by omega) 0 vs, by rw [size_setCells]; exact h.lt⟩
set_option maxRecDepth 100000 in
set_option maxHeartbeats 2000000 in
/-- the determinant's class is 3 -/
theorem k97c3 {ms : List Nat} (hm : MU ms) (hz : ∀ x, RV x (detP (mp ms)) → pCls x = 3) (w : World) :
    Calls Try.prog 63 #[.agg (ms.map (Value.float .f64)).toArray] w fun e w' => e = .returned (.tuple #[.agg ((nanK 16).map (Value.float .f64)).toArray, .bool false]) ∧ Below w.heap.size w w' := by
  have HM := Lib.hid hm
  have HZ := Lib.hid hz
  clear hm hz
  go_enter Try.func63, Try.ntmps63
  go_upto_region 1 with fail
  refine wp_gen (fun wx => Hid (One wx w (ms.map (Value.float .f64)) 16)) (Lib.hid (one_entry w (ms.map (Value.float .f64)) _ 44 44 16 rfl)) ?_
  intro wc hW
  have RR := Lib.hid hW.out.r1
  have E0 := Lib.hid (size80L ms HM.out.1)
  go_wp2_with (refine wpList_load_mid rfl 44 (.tmp 1) rfl w.heap.size 0 rfl (ms.map (Value.float .f64)) _ RR.out Try.underlying44 rfl E0.out ?_)
  refine (k103 HM.out _).mono ?_
  rintro e w2 ⟨⟨x, rfl, hx⟩, hb⟩
  have W2 := Lib.hid (one_below hW.out hb)
  have HX := Lib.hid hx
  clear hb hx hW RR
  go_wp2_with fail
  refine (c30 x _ HX.out.1).mono ?_
  rintro e w3 ⟨rfl, hb⟩
  unfold partsV
  rw [HZ.out x HX.out]
  generalize pNeg x = pn
  generalize pMant x = pm
  generalize pExp x = pe
  have hfd : ∀ w : World, (Instr.field 141 (.agg #[.bool pn, .int .i64 3, .int .u64 (pm : Nat), .int .i64 pe]) 1).run Try.prog w = .ok (.int .i64 3) w := fun _ => by kernel_rfl
  have W3 := Lib.hid (nan_start (one_below W2.out hb))
  clear hb W2
  go_upto_region 5 with fail
  clear hfd
  refine wp_gen (fun wx => Hid (NanAt wx w w3.heap.size 0)) W3 ?_
  intro wd hW
  clear W3
  generalize w3.heap.size = g at *
  go_wp2_with fail
  go_loopw [29] (fun i wx => ∃ k : Nat, k ≤ 16 ∧ i = .int .i64 k ∧ Hid (NanAt wx w g k)) (fun i _ => 16 - (intOf i).toNat)
  case atStart => exact ⟨0, by omega, rfl, hW⟩
  case round =>
    obtain ⟨k, hk, rfl, hI⟩ := hrel
    clear hW
    by_cases hlt : k < 16
    · have hki : (k : Int) < 16 := by omega
      have hk0 : (0 : Int) ≤ (k : Int) := by omega
      have HLT := Lib.hid hlt
      have st := store1 hI.out.t (o := k) hlt QN
      have I2 := Lib.hid (hI.out.step hlt)
      clear hlt
      go_wp2_with fail
      refine (c135 _).mono ?_
      rintro e w4 ⟨rfl, rfl⟩
      go_wp2_with fail
      go_roundw
      case rel => exact ⟨k + 1, by have := HLT.out; omega, by go_num, I2⟩
      case measure => have := HLT.out; simp [intOf]; omega
    · have hki : ¬ (k : Int) < 16 := by omega
      have hk16 : k = 16 := by omega
      subst hk16
      have RR := Lib.hid hI.out.r
      have E1 := Lib.hid (size80L (nanK 16) (nanK_len 16))
      have E2 := Lib.hid (size80A (nanK 16) (nanK_len 16))
      have T0 := Lib.hid (thereA hI.out.t1 (nanK_len 16))
      have T1 := Lib.hid (thereL hI.out.t1 (nanK_len 16))
      have BB := Lib.hid (below_setCells hI.out.b (Nat.le_succ _) 0 ((nanK 16).map (Value.float .f64)))
      clear hlt hk hI
      go_wp2_with (first
        | (refine wpList_load_mid rfl 44 (.tmp 6) rfl g 0 rfl ((nanK 16).map (Value.float .f64)) _ RR.out Try.underlying44 rfl E1.out ?_)
        | (refine wpList_store_mid rfl 44 (.tmp 2) (.tmp 36) rfl (w.heap.size + 1) 0 ((nanK 16).map (Value.float .f64)).toArray rfl rfl T0.out E2.out (one16 (nanK 16)) ?_))
      refine bodyPost_ret (v := .tuple #[.agg ((nanK 16).map (Value.float .f64)).toArray, .bool false]) (ret_row2 Try.prog Try.results63 rfl ((nanK 16).map (Value.float .f64)) T1.out Try.underlying44 rfl E1.out) rfl ⟨rfl, BB.out⟩
set_option maxRecDepth 100000 in
set_option maxHeartbeats 2000000 in
/-- the determinant's class is 4 -/
theorem k97c4 {ms : List Nat} (hm : MU ms) (hz : ∀ x, RV x (detP (mp ms)) → pCls x = 4) (w : World) :
    Calls Try.prog 63 #[.agg (ms.map (Value.float .f64)).toArray] w fun e w' => e = .returned (.tuple #[.agg ((nanK 16).map (Value.float .f64)).toArray, .bool false]) ∧ Below w.heap.size w w' := by
  have HM := Lib.hid hm
  have HZ := Lib.hid hz
  clear hm hz
  go_enter Try.func63, Try.ntmps63
  go_upto_region 1 with fail
  refine wp_gen (fun wx => Hid (One wx w (ms.map (Value.float .f64)) 16)) (Lib.hid (one_entry w (ms.map (Value.float .f64)) _ 44 44 16 rfl)) ?_
  intro wc hW
  have RR := Lib.hid hW.out.r1
  have E0 := Lib.hid (size80L ms HM.out.1)
  go_wp2_with (refine wpList_load_mid rfl 44 (.tmp 1) rfl w.heap.size 0 rfl (ms.map (Value.float .f64)) _ RR.out Try.underlying44 rfl E0.out ?_)
  refine (k103 HM.out _).mono ?_
  rintro e w2 ⟨⟨x, rfl, hx⟩, hb⟩
  have W2 := Lib.hid (one_below hW.out hb)
  have HX := Lib.hid hx
  clear hb hx hW RR
  go_wp2_with fail
  refine (c30 x _ HX.out.1).mono ?_
  rintro e w3 ⟨rfl, hb⟩
  unfold partsV
  rw [HZ.out x HX.out]
  generalize pNeg x = pn
  generalize pMant x = pm
  generalize pExp x = pe
  have hfd : ∀ w : World, (Instr.field 141 (.agg #[.bool pn, .int .i64 4, .int .u64 (pm : Nat), .int .i64 pe]) 1).run Try.prog w = .ok (.int .i64 4) w := fun _ => by kernel_rfl
  have W3 := Lib.hid (nan_start (one_below W2.out hb))
  clear hb W2
  go_upto_region 5 with fail
  clear hfd
  refine wp_gen (fun wx => Hid (NanAt wx w w3.heap.size 0)) W3 ?_
  intro wd hW
  clear W3
  generalize w3.heap.size = g at *
  go_wp2_with fail
  go_loopw [29] (fun i wx => ∃ k : Nat, k ≤ 16 ∧ i = .int .i64 k ∧ Hid (NanAt wx w g k)) (fun i _ => 16 - (intOf i).toNat)
  case atStart => exact ⟨0, by omega, rfl, hW⟩
  case round =>
    obtain ⟨k, hk, rfl, hI⟩ := hrel
    clear hW
    by_cases hlt : k < 16
    · have hki : (k : Int) < 16 := by omega
      have hk0 : (0 : Int) ≤ (k : Int) := by omega
      have HLT := Lib.hid hlt
      have st := store1 hI.out.t (o := k) hlt QN
      have I2 := Lib.hid (hI.out.step hlt)
      clear hlt
      go_wp2_with fail
      refine (c135 _).mono ?_
      rintro e w4 ⟨rfl, rfl⟩
      go_wp2_with fail
      go_roundw
      case rel => exact ⟨k + 1, by have := HLT.out; omega, by go_num, I2⟩
      case measure => have := HLT.out; simp [intOf]; omega
    · have hki : ¬ (k : Int) < 16 := by omega
      have hk16 : k = 16 := by omega
      subst hk16
      have RR := Lib.hid hI.out.r
      have E1 := Lib.hid (size80L (nanK 16) (nanK_len 16))
      have E2 := Lib.hid (size80A (nanK 16) (nanK_len 16))
      have T0 := Lib.hid (thereA hI.out.t1 (nanK_len 16))
      have T1 := Lib.hid (thereL hI.out.t1 (nanK_len 16))
      have BB := Lib.hid (below_setCells hI.out.b (Nat.le_succ _) 0 ((nanK 16).map (Value.float .f64)))
      clear hlt hk hI
      go_wp2_with (first
        | (refine wpList_load_mid rfl 44 (.tmp 6) rfl g 0 rfl ((nanK 16).map (Value.float .f64)) _ RR.out Try.underlying44 rfl E1.out ?_)
        | (refine wpList_store_mid rfl 44 (.tmp 2) (.tmp 36) rfl (w.heap.size + 1) 0 ((nanK 16).map (Value.float .f64)).toArray rfl rfl T0.out E2.out (one16 (nanK 16)) ?_))
      refine bodyPost_ret (v := .tuple #[.agg ((nanK 16).map (Value.float .f64)).toArray, .bool false]) (ret_row2 Try.prog Try.results63 rfl ((nanK 16).map (Value.float .f64)) T1.out Try.underlying44 rfl E1.out) rfl ⟨rfl, BB.out⟩
set_option maxRecDepth 100000 in
set_option maxHeartbeats 4000000 in
theorem k97y {ms : List Nat} (hm : MU ms) (hz : ∀ x, RV x (detP (mp ms)) → pCls x = 1 ∨ pCls x = 2) (w : World) :
    Calls Try.prog 63 #[.agg (ms.map (Value.float .f64)).toArray] w fun e w' => (∃ os : List Nat, e = .returned (.tuple #[.agg (os.map (Value.float .f64)).toArray, .bool true]) ∧ MU os ∧ ∀ j, j < 16 → mp os j = invP (mp ms) j) ∧ Below w.heap.size w w' := by
  have HM := Lib.hid hm
  have HZ := Lib.hid hz
  clear hm hz
  go_enter Try.func63, Try.ntmps63
  go_upto_region 1 with fail
  refine wp_gen (fun wx => Hid (One wx w (ms.map (Value.float .f64)) 16)) (Lib.hid (one_entry w (ms.map (Value.float .f64)) _ 44 44 16 rfl)) ?_
  intro wc hW
  have RR := Lib.hid hW.out.r1
  have E0 := Lib.hid (size80L ms HM.out.1)
  go_wp2_with (refine wpList_load_mid rfl 44 (.tmp 1) rfl w.heap.size 0 rfl (ms.map (Value.float .f64)) _ RR.out Try.underlying44 rfl E0.out ?_)
  refine (k103 HM.out _).mono ?_
  rintro e w2 ⟨⟨x, rfl, hx⟩, hb⟩
  have W2 := Lib.hid (one_below hW.out hb)
  have HX := Lib.hid hx
  clear hb hx hW RR
  go_wp2_with fail
  refine (c30 x _ HX.out.1).mono ?_
  rintro e w3 ⟨rfl, hb⟩
  unfold partsV
  have hc := HZ.out x HX.out
  generalize pCls x = c at *
  have t0 : ((c : Int) == 0) = false := by rcases hc with rfl | rfl <;> rfl
  have t3 : ((c : Int) == 3) = false := by rcases hc with rfl | rfl <;> rfl
  have t4 : ((c : Int) == 4) = false := by rcases hc with rfl | rfl <;> rfl
  clear hc
  generalize pNeg x = pn
  generalize pMant x = pm
  generalize pExp x = pe
  have hfd : ∀ w : World, (Instr.field 141 (.agg #[.bool pn, .int .i64 c, .int .u64 (pm : Nat), .int .i64 pe]) 1).run Try.prog w = .ok (.int .i64 c) w := fun _ => by kernel_rfl
  have W3 := Lib.hid (one_below W2.out hb)
  clear hb W2
  go_upto_region 11 with fail
  clear hfd t0 t3 t4
  refine wp_gen (fun wx => Hid (One wx w (ms.map (Value.float .f64)) 16)) W3 ?_
  intro wc hW
  clear W3 HZ
  have ra : ∀ w', Below wc.heap.size wc w' → w'.rangeAt w.heap.size 0 (ms.map (Value.float .f64)) := fun w' hw => (one_below hW.out hw).r1
  refine RB.wp_region_alloc 6 (RB.D2 8 9 6) (GMin ms) (by kernel_rfl) (by kernel_rfl) (fun t n h => by rcases RB.D2_or h with rfl | rfl <;> rfl) ?_
  simp only [List.take_succ_cons, List.take_zero, List.drop_succ_cons, List.drop_zero]
  refine RB.rel_load_row (w.heap.size) 0 (ms.map (Value.float .f64)) _ rfl rfl rfl ra Try.underlying44 rfl (by rw [List.length_map, HM.out.1]; exact size80) ?_
  simp only [Act.put, List.setIfInBounds_toArray, List.set_cons_succ, List.set_cons_zero]
  refine RB.rel_call (f := 78) (args := #[.agg (ms.map (Value.float .f64)).toArray, .int .i64 0]) rfl rfl (fun w' hw => by go_simp) (fun w' hw => gMin0 HM.out w') (fun v hv => ?_)
  obtain ⟨ds, rfl, hds⟩ := GMin0 hv
  simp only [Act.put, List.setIfInBounds_toArray, List.set_cons_succ, List.set_cons_zero]
  refine RB.rel_load_row (w.heap.size) 0 (ms.map (Value.float .f64)) _ rfl rfl rfl ra Try.underlying44 rfl (by rw [List.length_map, HM.out.1]; exact size80) ?_
  simp only [Act.put, List.setIfInBounds_toArray, List.set_cons_succ, List.set_cons_zero]
  refine RB.rel_call (f := 78) (args := #[.agg (ms.map (Value.float .f64)).toArray, .int .i64 8]) rfl rfl (fun w' hw => by go_simp) (fun w' hw => gMin8 HM.out w') (fun v hv => ?_)
  obtain ⟨es, rfl, hes⟩ := GMin8 hv
  simp only [Act.put, List.setIfInBounds_toArray, List.set_cons_succ, List.set_cons_zero]
  refine RB.rel_alloc 6 #[.float .f64 0, .float .f64 0, .float .f64 0, .float .f64 0, .float .f64 0, .float .f64 0] rfl rfl rfl (fun w' => by go_simp) (fun b8 => ?_)
  simp only [Act.put, List.setIfInBounds_toArray, List.set_cons_succ, List.set_cons_zero]
  refine RB.rel_alloc 6 #[.float .f64 0, .float .f64 0, .float .f64 0, .float .f64 0, .float .f64 0, .float .f64 0] rfl rfl rfl (fun w' => by go_simp) (fun b9 => ?_)
  simp only [Act.put, List.setIfInBounds_toArray, List.set_cons_succ, List.set_cons_zero]
  refine RB.rel_nil ?_
  intro w3 hB3 hI
  have hx := hI.at (t := 8) (b := b8) rfl rfl
  have hy := hI.at (t := 9) (b := b9) rfl rfl
  have hne := hI.ne (t := 8) (t' := 9) (b := b8) (b' := b9) (by decide) rfl rfl rfl rfl
  have hd6 := hds.1
  have he6 := hes.1
  have O3 := one_below hW.out hB3
  have hlt8 : w.heap.size + 1 < b8 := Nat.lt_of_lt_of_le hW.out.lt hx.1
  have hlt9 : w.heap.size + 1 < b9 := Nat.lt_of_lt_of_le hW.out.lt hy.1
  have Tx := Lib.hid (thereA hx.2.2 hd6)
  have Ty0 := thereA hy.2.2 he6
  have Ty := Lib.hid (World.there_setCells Ty0 b8 0 (ds.map (Value.float .f64)))
  have E1 := Lib.hid (size152A ds hd6)
  have E2 := Lib.hid (size152A es he6)
  have WF : Hid (One ((w3.setCells b8 0 (ds.map (Value.float .f64))).setCells b9 0 (es.map (Value.float .f64))) w (ms.map (Value.float .f64)) 16 ∧ ((w3.setCells b8 0 (ds.map (Value.float .f64))).setCells b9 0 (es.map (Value.float .f64))).rangeAt b8 0 (ds.map (Value.float .f64)) ∧ ((w3.setCells b8 0 (ds.map (Value.float .f64))).setCells b9 0 (es.map (Value.float .f64))).rangeAt b9 0 (es.map (Value.float .f64)) ∧
      b8 < ((w3.setCells b8 0 (ds.map (Value.float .f64))).setCells b9 0 (es.map (Value.float .f64))).heap.size ∧ b9 < ((w3.setCells b8 0 (ds.map (Value.float .f64))).setCells b9 0 (es.map (Value.float .f64))).heap.size) :=
    Lib.hid ⟨one_set (one_set O3 hlt8 _) hlt9 _, World.rangeAt_setCells_apart (World.rangeAt_setCells_same _ _ _ _ (thereL hx.2.2 hd6)) _ _ _ (.inl hne), World.rangeAt_setCells_same _ _ _ _ (World.there_setCells (thereL hy.2.2 he6) _ _ _),
      by rw [size_setCells, size_setCells]; exact hx.2.1, by rw [size_setCells, size_setCells]; exact hy.2.1⟩
  have HDS := Lib.hid (And.intro hds hes)
  clear hx hy hne Ty0 hB3 hI hW ra O3 hd6 he6 hlt8 hlt9 hds hes
  go_upto_region 14 with (first
    | (refine wpList_store_mid rfl 143 (.tmp 8) (.tmp 38) rfl b8 0 (ds.map (Value.float .f64)).toArray rfl rfl Tx.out E1.out (one16 ds) ?_)
    | (refine wpList_store_mid rfl 143 (.tmp 9) (.tmp 40) rfl b9 0 (es.map (Value.float .f64)).toArray rfl rfl Ty.out E2.out (one16 es) ?_))
  refine wp_gen (fun wx => Hid (One wx w (ms.map (Value.float .f64)) 16 ∧ wx.rangeAt b8 0 (ds.map (Value.float .f64)) ∧ wx.rangeAt b9 0 (es.map (Value.float .f64)) ∧ b8 < wx.heap.size ∧ b9 < wx.heap.size)) WF ?_
  intro wd hW
  clear WF Tx Ty E1 E2
  obtain ⟨m0, c0, r0⟩ := HM.out.get (j := 0) (by decide)
  have C0 := Lib.hid (map_get c0)
  have R0 := Lib.hid r0
  clear c0 r0
  obtain ⟨m1, c1, r1⟩ := HM.out.get (j := 1) (by decide)
  have C1 := Lib.hid (map_get c1)
  have R1 := Lib.hid r1
  clear c1 r1
  obtain ⟨m2, c2, r2⟩ := HM.out.get (j := 2) (by decide)
  have C2 := Lib.hid (map_get c2)
  have R2 := Lib.hid r2
  clear c2 r2
  obtain ⟨m3, c3, r3⟩ := HM.out.get (j := 3) (by decide)
  have C3 := Lib.hid (map_get c3)
  have R3 := Lib.hid r3
  clear c3 r3
  obtain ⟨m4, c4, r4⟩ := HM.out.get (j := 4) (by decide)
  have C4 := Lib.hid (map_get c4)
  have R4 := Lib.hid r4
  clear c4 r4
  obtain ⟨m5, c5, r5⟩ := HM.out.get (j := 5) (by decide)
  have C5 := Lib.hid (map_get c5)
  have R5 := Lib.hid r5
  clear c5 r5
  obtain ⟨m6, c6, r6⟩ := HM.out.get (j := 6) (by decide)
  have C6 := Lib.hid (map_get c6)
  have R6 := Lib.hid r6
  clear c6 r6
  obtain ⟨m7, c7, r7⟩ := HM.out.get (j := 7) (by decide)
  have C7 := Lib.hid (map_get c7)
  have R7 := Lib.hid r7
  clear c7 r7
  obtain ⟨m8, c8, r8⟩ := HM.out.get (j := 8) (by decide)
  have C8 := Lib.hid (map_get c8)
  have R8 := Lib.hid r8
  clear c8 r8
  obtain ⟨m9, c9, r9⟩ := HM.out.get (j := 9) (by decide)
  have C9 := Lib.hid (map_get c9)
  have R9 := Lib.hid r9
  clear c9 r9
  obtain ⟨m10, c10, r10⟩ := HM.out.get (j := 10) (by decide)
  have C10 := Lib.hid (map_get c10)
  have R10 := Lib.hid r10
  clear c10 r10
  obtain ⟨m11, c11, r11⟩ := HM.out.get (j := 11) (by decide)
  have C11 := Lib.hid (map_get c11)
  have R11 := Lib.hid r11
  clear c11 r11
  obtain ⟨m12, c12, r12⟩ := HM.out.get (j := 12) (by decide)
  have C12 := Lib.hid (map_get c12)
  have R12 := Lib.hid r12
  clear c12 r12
  obtain ⟨m13, c13, r13⟩ := HM.out.get (j := 13) (by decide)
  have C13 := Lib.hid (map_get c13)
  have R13 := Lib.hid r13
  clear c13 r13
  obtain ⟨m14, c14, r14⟩ := HM.out.get (j := 14) (by decide)
  have C14 := Lib.hid (map_get c14)
  have R14 := Lib.hid r14
  clear c14 r14
  obtain ⟨m15, c15, r15⟩ := HM.out.get (j := 15) (by decide)
  have C15 := Lib.hid (map_get c15)
  have R15 := Lib.hid r15
  clear c15 r15
  have hds := HDS.out.1
  have hes := HDS.out.2
  clear HDS
  obtain ⟨d0, d1, d2, d3, d4, d5, rfl⟩ := six hds.1
  obtain ⟨e0, e1, e2, e3, e4, e5, rfl⟩ := six hes.1
  have Q0 := Lib.hid (show RV d0 (minors0 (mp ms) 0) from hds.2 0 (by decide))
  have T0 := Lib.hid (show RV e0 (minors8 (mp ms) 0) from hes.2 0 (by decide))
  have Q1 := Lib.hid (show RV d1 (minors0 (mp ms) 1) from hds.2 1 (by decide))
  have T1 := Lib.hid (show RV e1 (minors8 (mp ms) 1) from hes.2 1 (by decide))
  have Q2 := Lib.hid (show RV d2 (minors0 (mp ms) 2) from hds.2 2 (by decide))
  have T2 := Lib.hid (show RV e2 (minors8 (mp ms) 2) from hes.2 2 (by decide))
  have Q3 := Lib.hid (show RV d3 (minors0 (mp ms) 3) from hds.2 3 (by decide))
  have T3 := Lib.hid (show RV e3 (minors8 (mp ms) 3) from hes.2 3 (by decide))
  have Q4 := Lib.hid (show RV d4 (minors0 (mp ms) 4) from hds.2 4 (by decide))
  have T4 := Lib.hid (show RV e4 (minors8 (mp ms) 4) from hes.2 4 (by decide))
  have Q5 := Lib.hid (show RV d5 (minors0 (mp ms) 5) from hds.2 5 (by decide))
  have T5 := Lib.hid (show RV e5 (minors8 (mp ms) 5) from hes.2 5 (by decide))
  clear hds hes
  have ra : ∀ w', Below wd.heap.size wd w' → w'.rangeAt w.heap.size 0 (ms.map (Value.float .f64)) := fun w' hw => (one_below hW.out.1 hw).r1
  have rd : ∀ w', Below wd.heap.size wd w' → w'.rangeAt b8 0 ([d0, d1, d2, d3, d4, d5].map (Value.float .f64)) := fun w' hw => range_below hW.out.2.1 hw hW.out.2.2.2.1
  have re : ∀ w', Below wd.heap.size wd w' → w'.rangeAt b9 0 ([e0, e1, e2, e3, e4, e5].map (Value.float .f64)) := fun w' hw => range_below hW.out.2.2.1 hw hW.out.2.2.2.2
  refine RB.wp_region_alloc 226 (RB.D1 12 16) GInv (by kernel_rfl) (fast_relB (by kernel_rfl)) (fun t n h => by rcases RB.D1_or h with rfl; rfl) ?_
  simp only [List.append_eq, List.cons_append, List.nil_append, List.take_succ_cons, List.take_zero, List.drop_succ_cons, List.drop_zero]
  generalize hOPS : List.toArray _ = OPS
  clear hOPS
  refine rb_gen (fun a => a.tmps.size = 277 ∧ a.defers = [] ∧ a.tmps.getD 1 undef = .pointer (some ⟨w.heap.size, 0, none⟩) ∧ a.tmps.getD 2 undef = .pointer (some ⟨w.heap.size + 1, 0, none⟩) ∧ a.tmps.getD 4 undef = .float .f64 x ∧ a.tmps.getD 8 undef = .pointer (some ⟨b8, 0, none⟩) ∧ a.tmps.getD 9 undef = .pointer (some ⟨b9, 0, none⟩) ∧ a.tmps.getD 10 undef = .func (.func 79) #[] #[] ∧ a.tmps.getD 11 undef = .func (.func 81) #[] #[]) ⟨rfl, rfl, rfl, rfl, rfl, rfl, rfl, rfl, rfl⟩ ?_
  rintro a0 ⟨sz, df, m1, m2, m4, m8, m9, m10, m11⟩
  refine RB.rel_move (v := .func (.func 79) #[] #[]) m10 rfl rfl ?_
  have M1 := Ext.put (a := a0) (show 41 ≤ 41 from Nat.le_refl _) (.func (.func 79) #[] #[])
  have f1 := at_put (a := a0) (d := 41) (by have := sz; omega) (.func (.func 79) #[] #[])
  have N1 := M1
  refine ch157 (s := 42) (bb := 9) (i0 := 5) (j0 := 5) (i1 := 6) (j1 := 4) (i2 := 7) (j2 := 3) (m := 41) ((N1.low 1 (by decide)).trans m1) ((N1.low 9 (by decide)).trans m9) f1 (by decide) (by decide) (by decide) (by have := (N1.size.trans sz); omega) (fun t h h' => if_neg (by omega)) ⟨rfl, by decide⟩ ⟨rfl, by decide⟩ ⟨rfl, by decide⟩ ⟨rfl, by decide⟩ ⟨rfl, by decide⟩ ⟨rfl, by decide⟩ (fun w' hw => ra w' hw 5 _ C5.out) (fun w' hw => re w' hw 5 _ rfl) (fun w' hw => ra w' hw 6 _ C6.out) (fun w' hw => re w' hw 4 _ rfl) (fun w' hw => ra w' hw 7 _ C7.out) (fun w' hw => re w' hw 3 _ rfl) R5.out T5.out R6.out T4.out R7.out T3.out (fun r1 a1 E1 v1 hr1 => ?_)
  have RR1 := Lib.hid hr1
  clear hr1
  have F1 := N1.trans E1 (by decide)
  refine RB.rel_move (v := .func (.func 81) #[] #[]) ((F1.low 11 (by decide)).trans m11) rfl rfl ?_
  have M2 := Ext.put (a := a1) (show 55 ≤ 55 from Nat.le_refl _) (.func (.func 81) #[] #[])
  have f2 := at_put (a := a1) (d := 55) (by have := (F1.size.trans sz); omega) (.func (.func 81) #[] #[])
  have N2 := (F1.trans M2 (by decide))
  refine ch159 (s := 56) (bb := 9) (i0 := 2) (j0 := 4) (i1 := 1) (j1 := 5) (i2 := 3) (j2 := 3) (m := 55) ((N2.low 1 (by decide)).trans m1) ((N2.low 9 (by decide)).trans m9) f2 (by decide) (by decide) (by decide) (by have := (N2.size.trans sz); omega) (fun t h h' => if_neg (by omega)) ⟨rfl, by decide⟩ ⟨rfl, by decide⟩ ⟨rfl, by decide⟩ ⟨rfl, by decide⟩ ⟨rfl, by decide⟩ ⟨rfl, by decide⟩ (fun w' hw => ra w' hw 2 _ C2.out) (fun w' hw => re w' hw 4 _ rfl) (fun w' hw => ra w' hw 1 _ C1.out) (fun w' hw => re w' hw 5 _ rfl) (fun w' hw => ra w' hw 3 _ C3.out) (fun w' hw => re w' hw 3 _ rfl) R2.out T4.out R1.out T5.out R3.out T3.out (fun r2 a2 E2 v2 hr2 => ?_)
  have RR2 := Lib.hid hr2
  clear hr2
  have F2 := N2.trans E2 (by decide)
  refine RB.rel_move (v := .func (.func 79) #[] #[]) ((F2.low 10 (by decide)).trans m10) rfl rfl ?_
  have M3 := Ext.put (a := a2) (show 69 ≤ 69 from Nat.le_refl _) (.func (.func 79) #[] #[])
  have f3 := at_put (a := a2) (d := 69) (by have := (F2.size.trans sz); omega) (.func (.func 79) #[] #[])
  have N3 := (F2.trans M3 (by decide))
  refine ch157 (s := 70) (bb := 8) (i0 := 13) (j0 := 5) (i1 := 14) (j1 := 4) (i2 := 15) (j2 := 3) (m := 69) ((N3.low 1 (by decide)).trans m1) ((N3.low 8 (by decide)).trans m8) f3 (by decide) (by decide) (by decide) (by have := (N3.size.trans sz); omega) (fun t h h' => if_neg (by omega)) ⟨rfl, by decide⟩ ⟨rfl, by decide⟩ ⟨rfl, by decide⟩ ⟨rfl, by decide⟩ ⟨rfl, by decide⟩ ⟨rfl, by decide⟩ (fun w' hw => ra w' hw 13 _ C13.out) (fun w' hw => rd w' hw 5 _ rfl) (fun w' hw => ra w' hw 14 _ C14.out) (fun w' hw => rd w' hw 4 _ rfl) (fun w' hw => ra w' hw 15 _ C15.out) (fun w' hw => rd w' hw 3 _ rfl) R13.out Q5.out R14.out Q4.out R15.out Q3.out (fun r3 a3 E3 v3 hr3 => ?_)
  have RR3 := Lib.hid hr3
  clear hr3
  have F3 := N3.trans E3 (by decide)
  refine RB.rel_move (v := .func (.func 81) #[] #[]) ((F3.low 11 (by decide)).trans m11) rfl rfl ?_
  have M4 := Ext.put (a := a3) (show 83 ≤ 83 from Nat.le_refl _) (.func (.func 81) #[] #[])
  have f4 := at_put (a := a3) (d := 83) (by have := (F3.size.trans sz); omega) (.func (.func 81) #[] #[])
  have N4 := (F3.trans M4 (by decide))
  refine ch159 (s := 84) (bb := 8) (i0 := 10) (j0 := 4) (i1 := 9) (j1 := 5) (i2 := 11) (j2 := 3) (m := 83) ((N4.low 1 (by decide)).trans m1) ((N4.low 8 (by decide)).trans m8) f4 (by decide) (by decide) (by decide) (by have := (N4.size.trans sz); omega) (fun t h h' => if_neg (by omega)) ⟨rfl, by decide⟩ ⟨rfl, by decide⟩ ⟨rfl, by decide⟩ ⟨rfl, by decide⟩ ⟨rfl, by decide⟩ ⟨rfl, by decide⟩ (fun w' hw => ra w' hw 10 _ C10.out) (fun w' hw => rd w' hw 4 _ rfl) (fun w' hw => ra w' hw 9 _ C9.out) (fun w' hw => rd w' hw 5 _ rfl) (fun w' hw => ra w' hw 11 _ C11.out) (fun w' hw => rd w' hw 3 _ rfl) R10.out Q4.out R9.out Q5.out R11.out Q3.out (fun r4 a4 E4 v4 hr4 => ?_)
  have RR4 := Lib.hid hr4
  clear hr4
  have F4 := N4.trans E4 (by decide)
  refine RB.rel_move (v := .func (.func 81) #[] #[]) ((F4.low 11 (by decide)).trans m11) rfl rfl ?_
  have M5 := Ext.put (a := a4) (show 97 ≤ 97 from Nat.le_refl _) (.func (.func 81) #[] #[])
  have f5 := at_put (a := a4) (d := 97) (by have := (F4.size.trans sz); omega) (.func (.func 81) #[] #[])
  have N5 := (F4.trans M5 (by decide))
  refine ch159 (s := 98) (bb := 9) (i0 := 6) (j0 := 2) (i1 := 4) (j1 := 5) (i2 := 7) (j2 := 1) (m := 97) ((N5.low 1 (by decide)).trans m1) ((N5.low 9 (by decide)).trans m9) f5 (by decide) (by decide) (by decide) (by have := (N5.size.trans sz); omega) (fun t h h' => if_neg (by omega)) ⟨rfl, by decide⟩ ⟨rfl, by decide⟩ ⟨rfl, by decide⟩ ⟨rfl, by decide⟩ ⟨rfl, by decide⟩ ⟨rfl, by decide⟩ (fun w' hw => ra w' hw 6 _ C6.out) (fun w' hw => re w' hw 2 _ rfl) (fun w' hw => ra w' hw 4 _ C4.out) (fun w' hw => re w' hw 5 _ rfl) (fun w' hw => ra w' hw 7 _ C7.out) (fun w' hw => re w' hw 1 _ rfl) R6.out T2.out R4.out T5.out R7.out T1.out (fun r5 a5 E5 v5 hr5 => ?_)
  have RR5 := Lib.hid hr5
  clear hr5
  have F5 := N5.trans E5 (by decide)
  refine RB.rel_move (v := .func (.func 79) #[] #[]) ((F5.low 10 (by decide)).trans m10) rfl rfl ?_
  have M6 := Ext.put (a := a5) (show 111 ≤ 111 from Nat.le_refl _) (.func (.func 79) #[] #[])
  have f6 := at_put (a := a5) (d := 111) (by have := (F5.size.trans sz); omega) (.func (.func 79) #[] #[])
  have N6 := (F5.trans M6 (by decide))
  refine ch157 (s := 112) (bb := 9) (i0 := 0) (j0 := 5) (i1 := 2) (j1 := 2) (i2 := 3) (j2 := 1) (m := 111) ((N6.low 1 (by decide)).trans m1) ((N6.low 9 (by decide)).trans m9) f6 (by decide) (by decide) (by decide) (by have := (N6.size.trans sz); omega) (fun t h h' => if_neg (by omega)) ⟨rfl, by decide⟩ ⟨rfl, by decide⟩ ⟨rfl, by decide⟩ ⟨rfl, by decide⟩ ⟨rfl, by decide⟩ ⟨rfl, by decide⟩ (fun w' hw => ra w' hw 0 _ C0.out) (fun w' hw => re w' hw 5 _ rfl) (fun w' hw => ra w' hw 2 _ C2.out) (fun w' hw => re w' hw 2 _ rfl) (fun w' hw => ra w' hw 3 _ C3.out) (fun w' hw => re w' hw 1 _ rfl) R0.out T5.out R2.out T2.out R3.out T1.out (fun r6 a6 E6 v6 hr6 => ?_)
  have RR6 := Lib.hid hr6
  clear hr6
  have F6 := N6.trans E6 (by decide)
  refine RB.rel_move (v := .func (.func 81) #[] #[]) ((F6.low 11 (by decide)).trans m11) rfl rfl ?_
  have M7 := Ext.put (a := a6) (show 125 ≤ 125 from Nat.le_refl _) (.func (.func 81) #[] #[])
  have f7 := at_put (a := a6) (d := 125) (by have := (F6.size.trans sz); omega) (.func (.func 81) #[] #[])
  have N7 := (F6.trans M7 (by decide))
  refine ch159 (s := 126) (bb := 8) (i0 := 14) (j0 := 2) (i1 := 12) (j1 := 5) (i2 := 15) (j2 := 1) (m := 125) ((N7.low 1 (by decide)).trans m1) ((N7.low 8 (by decide)).trans m8) f7 (by decide) (by decide) (by decide) (by have := (N7.size.trans sz); omega) (fun t h h' => if_neg (by omega)) ⟨rfl, by decide⟩ ⟨rfl, by decide⟩ ⟨rfl, by decide⟩ ⟨rfl, by decide⟩ ⟨rfl, by decide⟩ ⟨rfl, by decide⟩ (fun w' hw => ra w' hw 14 _ C14.out) (fun w' hw => rd w' hw 2 _ rfl) (fun w' hw => ra w' hw 12 _ C12.out) (fun w' hw => rd w' hw 5 _ rfl) (fun w' hw => ra w' hw 15 _ C15.out) (fun w' hw => rd w' hw 1 _ rfl) R14.out Q2.out R12.out Q5.out R15.out Q1.out (fun r7 a7 E7 v7 hr7 => ?_)
  have RR7 := Lib.hid hr7
  clear hr7
  have F7 := N7.trans E7 (by decide)
  refine RB.rel_move (v := .func (.func 79) #[] #[]) ((F7.low 10 (by decide)).trans m10) rfl rfl ?_
  have M8 := Ext.put (a := a7) (show 139 ≤ 139 from Nat.le_refl _) (.func (.func 79) #[] #[])
  have f8 := at_put (a := a7) (d := 139) (by have := (F7.size.trans sz); omega) (.func (.func 79) #[] #[])
  have N8 := (F7.trans M8 (by decide))
  refine ch157 (s := 140) (bb := 8) (i0 := 8) (j0 := 5) (i1 := 10) (j1 := 2) (i2 := 11) (j2 := 1) (m := 139) ((N8.low 1 (by decide)).trans m1) ((N8.low 8 (by decide)).trans m8) f8 (by decide) (by decide) (by decide) (by have := (N8.size.trans sz); omega) (fun t h h' => if_neg (by omega)) ⟨rfl, by decide⟩ ⟨rfl, by decide⟩ ⟨rfl, by decide⟩ ⟨rfl, by decide⟩ ⟨rfl, by decide⟩ ⟨rfl, by decide⟩ (fun w' hw => ra w' hw 8 _ C8.out) (fun w' hw => rd w' hw 5 _ rfl) (fun w' hw => ra w' hw 10 _ C10.out) (fun w' hw => rd w' hw 2 _ rfl) (fun w' hw => ra w' hw 11 _ C11.out) (fun w' hw => rd w' hw 1 _ rfl) R8.out Q5.out R10.out Q2.out R11.out Q1.out (fun r8 a8 E8 v8 hr8 => ?_)
  have RR8 := Lib.hid hr8
  clear hr8
  have F8 := N8.trans E8 (by decide)
  refine RB.rel_move (v := .func (.func 79) #[] #[]) ((F8.low 10 (by decide)).trans m10) rfl rfl ?_
  have M9 := Ext.put (a := a8) (show 153 ≤ 153 from Nat.le_refl _) (.func (.func 79) #[] #[])
  have f9 := at_put (a := a8) (d := 153) (by have := (F8.size.trans sz); omega) (.func (.func 79) #[] #[])
  have N9 := (F8.trans M9 (by decide))
  refine ch157 (s := 154) (bb := 9) (i0 := 4) (j0 := 4) (i1 := 5) (j1 := 2) (i2 := 7) (j2 := 0) (m := 153) ((N9.low 1 (by decide)).trans m1) ((N9.low 9 (by decide)).trans m9) f9 (by decide) (by decide) (by decide) (by have := (N9.size.trans sz); omega) (fun t h h' => if_neg (by omega)) ⟨rfl, by decide⟩ ⟨rfl, by decide⟩ ⟨rfl, by decide⟩ ⟨rfl, by decide⟩ ⟨rfl, by decide⟩ ⟨rfl, by decide⟩ (fun w' hw => ra w' hw 4 _ C4.out) (fun w' hw => re w' hw 4 _ rfl) (fun w' hw => ra w' hw 5 _ C5.out) (fun w' hw => re w' hw 2 _ rfl) (fun w' hw => ra w' hw 7 _ C7.out) (fun w' hw => re w' hw 0 _ rfl) R4.out T4.out R5.out T2.out R7.out T0.out (fun r9 a9 E9 v9 hr9 => ?_)
  have RR9 := Lib.hid hr9
  clear hr9
  have F9 := N9.trans E9 (by decide)
  refine RB.rel_move (v := .func (.func 81) #[] #[]) ((F9.low 11 (by decide)).trans m11) rfl rfl ?_
  have M10 := Ext.put (a := a9) (show 167 ≤ 167 from Nat.le_refl _) (.func (.func 81) #[] #[])
  have f10 := at_put (a := a9) (d := 167) (by have := (F9.size.trans sz); omega) (.func (.func 81) #[] #[])
  have N10 := (F9.trans M10 (by decide))
  refine ch159 (s := 168) (bb := 9) (i0 := 1) (j0 := 2) (i1 := 0) (j1 := 4) (i2 := 3) (j2 := 0) (m := 167) ((N10.low 1 (by decide)).trans m1) ((N10.low 9 (by decide)).trans m9) f10 (by decide) (by decide) (by decide) (by have := (N10.size.trans sz); omega) (fun t h h' => if_neg (by omega)) ⟨rfl, by decide⟩ ⟨rfl, by decide⟩ ⟨rfl, by decide⟩ ⟨rfl, by decide⟩ ⟨rfl, by decide⟩ ⟨rfl, by decide⟩ (fun w' hw => ra w' hw 1 _ C1.out) (fun w' hw => re w' hw 2 _ rfl) (fun w' hw => ra w' hw 0 _ C0.out) (fun w' hw => re w' hw 4 _ rfl) (fun w' hw => ra w' hw 3 _ C3.out) (fun w' hw => re w' hw 0 _ rfl) R1.out T2.out R0.out T4.out R3.out T0.out (fun r10 a10 E10 v10 hr10 => ?_)
  have RR10 := Lib.hid hr10
  clear hr10
  have F10 := N10.trans E10 (by decide)
  refine RB.rel_move (v := .func (.func 79) #[] #[]) ((F10.low 10 (by decide)).trans m10) rfl rfl ?_
  have M11 := Ext.put (a := a10) (show 181 ≤ 181 from Nat.le_refl _) (.func (.func 79) #[] #[])
  have f11 := at_put (a := a10) (d := 181) (by have := (F10.size.trans sz); omega) (.func (.func 79) #[] #[])
  have N11 := (F10.trans M11 (by decide))
  refine ch157 (s := 182) (bb := 8) (i0 := 12) (j0 := 4) (i1 := 13) (j1 := 2) (i2 := 15) (j2 := 0) (m := 181) ((N11.low 1 (by decide)).trans m1) ((N11.low 8 (by decide)).trans m8) f11 (by decide) (by decide) (by decide) (by have := (N11.size.trans sz); omega) (fun t h h' => if_neg (by omega)) ⟨rfl, by decide⟩ ⟨rfl, by decide⟩ ⟨rfl, by decide⟩ ⟨rfl, by decide⟩ ⟨rfl, by decide⟩ ⟨rfl, by decide⟩ (fun w' hw => ra w' hw 12 _ C12.out) (fun w' hw => rd w' hw 4 _ rfl) (fun w' hw => ra w' hw 13 _ C13.out) (fun w' hw => rd w' hw 2 _ rfl) (fun w' hw => ra w' hw 15 _ C15.out) (fun w' hw => rd w' hw 0 _ rfl) R12.out Q4.out R13.out Q2.out R15.out Q0.out (fun r11 a11 E11 v11 hr11 => ?_)
  have RR11 := Lib.hid hr11
  clear hr11
  have F11 := N11.trans E11 (by decide)
  refine RB.rel_move (v := .func (.func 81) #[] #[]) ((F11.low 11 (by decide)).trans m11) rfl rfl ?_
  have M12 := Ext.put (a := a11) (show 195 ≤ 195 from Nat.le_refl _) (.func (.func 81) #[] #[])
  have f12 := at_put (a := a11) (d := 195) (by have := (F11.size.trans sz); omega) (.func (.func 81) #[] #[])
  have N12 := (F11.trans M12 (by decide))
  refine ch159 (s := 196) (bb := 8) (i0 := 9) (j0 := 2) (i1 := 8) (j1 := 4) (i2 := 11) (j2 := 0) (m := 195) ((N12.low 1 (by decide)).trans m1) ((N12.low 8 (by decide)).trans m8) f12 (by decide) (by decide) (by decide) (by have := (N12.size.trans sz); omega) (fun t h h' => if_neg (by omega)) ⟨rfl, by decide⟩ ⟨rfl, by decide⟩ ⟨rfl, by decide⟩ ⟨rfl, by decide⟩ ⟨rfl, by decide⟩ ⟨rfl, by decide⟩ (fun w' hw => ra w' hw 9 _ C9.out) (fun w' hw => rd w' hw 2 _ rfl) (fun w' hw => ra w' hw 8 _ C8.out) (fun w' hw => rd w' hw 4 _ rfl) (fun w' hw => ra w' hw 11 _ C11.out) (fun w' hw => rd w' hw 0 _ rfl) R9.out Q2.out R8.out Q4.out R11.out Q0.out (fun r12 a12 E12 v12 hr12 => ?_)
  have RR12 := Lib.hid hr12
  clear hr12
  have F12 := N12.trans E12 (by decide)
  refine RB.rel_move (v := .func (.func 81) #[] #[]) ((F12.low 11 (by decide)).trans m11) rfl rfl ?_
  have M13 := Ext.put (a := a12) (show 209 ≤ 209 from Nat.le_refl _) (.func (.func 81) #[] #[])
  have f13 := at_put (a := a12) (d := 209) (by have := (F12.size.trans sz); omega) (.func (.func 81) #[] #[])
  have N13 := (F12.trans M13 (by decide))
  refine ch159 (s := 210) (bb := 9) (i0 := 5) (j0 := 1) (i1 := 4) (j1 := 3) (i2 := 6) (j2 := 0) (m := 209) ((N13.low 1 (by decide)).trans m1) ((N13.low 9 (by decide)).trans m9) f13 (by decide) (by decide) (by decide) (by have := (N13.size.trans sz); omega) (fun t h h' => if_neg (by omega)) ⟨rfl, by decide⟩ ⟨rfl, by decide⟩ ⟨rfl, by decide⟩ ⟨rfl, by decide⟩ ⟨rfl, by decide⟩ ⟨rfl, by decide⟩ (fun w' hw => ra w' hw 5 _ C5.out) (fun w' hw => re w' hw 1 _ rfl) (fun w' hw => ra w' hw 4 _ C4.out) (fun w' hw => re w' hw 3 _ rfl) (fun w' hw => ra w' hw 6 _ C6.out) (fun w' hw => re w' hw 0 _ rfl) R5.out T1.out R4.out T3.out R6.out T0.out (fun r13 a13 E13 v13 hr13 => ?_)
  have RR13 := Lib.hid hr13
  clear hr13
  have F13 := N13.trans E13 (by decide)
  refine RB.rel_move (v := .func (.func 79) #[] #[]) ((F13.low 10 (by decide)).trans m10) rfl rfl ?_
  have M14 := Ext.put (a := a13) (show 223 ≤ 223 from Nat.le_refl _) (.func (.func 79) #[] #[])
  have f14 := at_put (a := a13) (d := 223) (by have := (F13.size.trans sz); omega) (.func (.func 79) #[] #[])
  have N14 := (F13.trans M14 (by decide))
  refine ch157 (s := 224) (bb := 9) (i0 := 0) (j0 := 3) (i1 := 1) (j1 := 1) (i2 := 2) (j2 := 0) (m := 223) ((N14.low 1 (by decide)).trans m1) ((N14.low 9 (by decide)).trans m9) f14 (by decide) (by decide) (by decide) (by have := (N14.size.trans sz); omega) (fun t h h' => if_neg (by omega)) ⟨rfl, by decide⟩ ⟨rfl, by decide⟩ ⟨rfl, by decide⟩ ⟨rfl, by decide⟩ ⟨rfl, by decide⟩ ⟨rfl, by decide⟩ (fun w' hw => ra w' hw 0 _ C0.out) (fun w' hw => re w' hw 3 _ rfl) (fun w' hw => ra w' hw 1 _ C1.out) (fun w' hw => re w' hw 1 _ rfl) (fun w' hw => ra w' hw 2 _ C2.out) (fun w' hw => re w' hw 0 _ rfl) R0.out T3.out R1.out T1.out R2.out T0.out (fun r14 a14 E14 v14 hr14 => ?_)
  have RR14 := Lib.hid hr14
  clear hr14
  have F14 := N14.trans E14 (by decide)
  refine RB.rel_move (v := .func (.func 81) #[] #[]) ((F14.low 11 (by decide)).trans m11) rfl rfl ?_
  have M15 := Ext.put (a := a14) (show 237 ≤ 237 from Nat.le_refl _) (.func (.func 81) #[] #[])
  have f15 := at_put (a := a14) (d := 237) (by have := (F14.size.trans sz); omega) (.func (.func 81) #[] #[])
  have N15 := (F14.trans M15 (by decide))
  refine ch159 (s := 238) (bb := 8) (i0 := 13) (j0 := 1) (i1 := 12) (j1 := 3) (i2 := 14) (j2 := 0) (m := 237) ((N15.low 1 (by decide)).trans m1) ((N15.low 8 (by decide)).trans m8) f15 (by decide) (by decide) (by decide) (by have := (N15.size.trans sz); omega) (fun t h h' => if_neg (by omega)) ⟨rfl, by decide⟩ ⟨rfl, by decide⟩ ⟨rfl, by decide⟩ ⟨rfl, by decide⟩ ⟨rfl, by decide⟩ ⟨rfl, by decide⟩ (fun w' hw => ra w' hw 13 _ C13.out) (fun w' hw => rd w' hw 1 _ rfl) (fun w' hw => ra w' hw 12 _ C12.out) (fun w' hw => rd w' hw 3 _ rfl) (fun w' hw => ra w' hw 14 _ C14.out) (fun w' hw => rd w' hw 0 _ rfl) R13.out Q1.out R12.out Q3.out R14.out Q0.out (fun r15 a15 E15 v15 hr15 => ?_)
  have RR15 := Lib.hid hr15
  clear hr15
  have F15 := N15.trans E15 (by decide)
  refine RB.rel_move (v := .func (.func 79) #[] #[]) ((F15.low 10 (by decide)).trans m10) rfl rfl ?_
  have M16 := Ext.put (a := a15) (show 251 ≤ 251 from Nat.le_refl _) (.func (.func 79) #[] #[])
  have f16 := at_put (a := a15) (d := 251) (by have := (F15.size.trans sz); omega) (.func (.func 79) #[] #[])
  have N16 := (F15.trans M16 (by decide))
  refine ch157 (s := 252) (bb := 8) (i0 := 8) (j0 := 3) (i1 := 9) (j1 := 1) (i2 := 10) (j2 := 0) (m := 251) ((N16.low 1 (by decide)).trans m1) ((N16.low 8 (by decide)).trans m8) f16 (by decide) (by decide) (by decide) (by have := (N16.size.trans sz); omega) (fun t h h' => if_neg (by omega)) ⟨rfl, by decide⟩ ⟨rfl, by decide⟩ ⟨rfl, by decide⟩ ⟨rfl, by decide⟩ ⟨rfl, by decide⟩ ⟨rfl, by decide⟩ (fun w' hw => ra w' hw 8 _ C8.out) (fun w' hw => rd w' hw 3 _ rfl) (fun w' hw => ra w' hw 9 _ C9.out) (fun w' hw => rd w' hw 1 _ rfl) (fun w' hw => ra w' hw 10 _ C10.out) (fun w' hw => rd w' hw 0 _ rfl) R8.out Q3.out R9.out Q1.out R10.out Q0.out (fun r16 a16 E16 v16 hr16 => ?_)
  have RR16 := Lib.hid hr16
  clear hr16
  have F16 := N16.trans E16 (by decide)
  have B16 := Ext.refl a16 265
  have B15 := (M16.trans E16 (by decide)).trans B16 (by decide)
  have B14 := (M15.trans E15 (by decide)).trans B15 (by decide)
  have B13 := (M14.trans E14 (by decide)).trans B14 (by decide)
  have B12 := (M13.trans E13 (by decide)).trans B13 (by decide)
  have B11 := (M12.trans E12 (by decide)).trans B12 (by decide)
  have B10 := (M11.trans E11 (by decide)).trans B11 (by decide)
  have B9 := (M10.trans E10 (by decide)).trans B10 (by decide)
  have B8 := (M9.trans E9 (by decide)).trans B9 (by decide)
  have B7 := (M8.trans E8 (by decide)).trans B8 (by decide)
  have B6 := (M7.trans E7 (by decide)).trans B7 (by decide)
  have B5 := (M6.trans E6 (by decide)).trans B6 (by decide)
  have B4 := (M5.trans E5 (by decide)).trans B5 (by decide)
  have B3 := (M4.trans E4 (by decide)).trans B4 (by decide)
  have B2 := (M3.trans E3 (by decide)).trans B3 (by decide)
  have B1 := (M2.trans E2 (by decide)).trans B2 (by decide)
  have L1 := (B1.low 54 (by decide)).trans v1
  have L2 := (B2.low 68 (by decide)).trans v2
  have L3 := (B3.low 82 (by decide)).trans v3
  have L4 := (B4.low 96 (by decide)).trans v4
  have L5 := (B5.low 110 (by decide)).trans v5
  have L6 := (B6.low 124 (by decide)).trans v6
  have L7 := (B7.low 138 (by decide)).trans v7
  have L8 := (B8.low 152 (by decide)).trans v8
  have L9 := (B9.low 166 (by decide)).trans v9
  have L10 := (B10.low 180 (by decide)).trans v10
  have L11 := (B11.low 194 (by decide)).trans v11
  have L12 := (B12.low 208 (by decide)).trans v12
  have L13 := (B13.low 222 (by decide)).trans v13
  have L14 := (B14.low 236 (by decide)).trans v14
  have L15 := (B15.low 250 (by decide)).trans v15
  have L16 := (B16.low 264 (by decide)).trans v16
  rw [Array.getD_eq_getD_getElem?] at L1 L2 L3 L4 L5 L6 L7 L8 L9 L10 L11 L12 L13 L14 L15 L16
  refine RB.rel_val (v := .agg #[.float .f64 r1, .float .f64 r2, .float .f64 r3, .float .f64 r4, .float .f64 r5, .float .f64 r6, .float .f64 r7, .float .f64 r8, .float .f64 r9, .float .f64 r10, .float .f64 r11, .float .f64 r12, .float .f64 r13, .float .f64 r14, .float .f64 r15, .float .f64 r16]) rfl rfl (fun w' hw => by
    unfold execOp
    simp only [Act.eval]
    go_simp) ?_
  have FF := F16.trans (Ext.put (a := a16) (show 265 ≤ 265 from Nat.le_refl _) (.agg #[.float .f64 r1, .float .f64 r2, .float .f64 r3, .float .f64 r4, .float .f64 r5, .float .f64 r6, .float .f64 r7, .float .f64 r8, .float .f64 r9, .float .f64 r10, .float .f64 r11, .float .f64 r12, .float .f64 r13, .float .f64 r14, .float .f64 r15, .float .f64 r16])) (by decide)
  have G265 := at_put (a := a16) (d := 265) (by have := F16.size.trans sz; omega) (.agg #[.float .f64 r1, .float .f64 r2, .float .f64 r3, .float .f64 r4, .float .f64 r5, .float .f64 r6, .float .f64 r7, .float .f64 r8, .float .f64 r9, .float .f64 r10, .float .f64 r11, .float .f64 r12, .float .f64 r13, .float .f64 r14, .float .f64 r15, .float .f64 r16])
  have Z := FF.size.trans sz
  have Z2 := FF.defers.trans df
  have k2 := (FF.low 2 (by decide)).trans m2
  have k4 := (FF.low 4 (by decide)).trans m4
  generalize a16.put (some 265) _ = b at *
  clear L1 B1 v1 E1 F1 M1 N1 f1 L2 B2 v2 E2 F2 M2 N2 f2 L3 B3 v3 E3 F3 M3 N3 f3 L4 B4 v4 E4 F4 M4 N4 f4 L5 B5 v5 E5 F5 M5 N5 f5 L6 B6 v6 E6 F6 M6 N6 f6 L7 B7 v7 E7 F7 M7 N7 f7 L8 B8 v8 E8 F8 M8 N8 f8 L9 B9 v9 E9 F9 M9 N9 f9 L10 B10 v10 E10 F10 M10 N10 f10 L11 B11 v11 E11 F11 M11 N11 f11 L12 B12 v12 E12 F12 M12 N12 f12 L13 B13 v13 E13 F13 M13 N13 f13 L14 B14 v14 E14 F14 M14 N14 f14 L15 B15 v15 E15 F15 M15 N15 f15 L16 B16 v16 E16 F16 M16 N16 f16 FF m1 m2 m4 m8 m9 m10 m11 sz df
  refine RB.rel_alloc 16 Z16 rfl rfl rfl (fun w' => by go_simp; rfl) (fun b12 => ?_)
  have k12 := at_put (a := b) (d := 12) (by omega) (.pointer (some ⟨b12, 0, none⟩))
  have kk2 := (RB.put_other b (show 12 ≠ 2 by decide) (.pointer (some ⟨b12, 0, none⟩))).trans k2
  have kk4 := (RB.put_other b (show 12 ≠ 4 by decide) (.pointer (some ⟨b12, 0, none⟩))).trans k4
  have kk265 := (RB.put_other b (show 12 ≠ 265 by decide) (.pointer (some ⟨b12, 0, none⟩))).trans G265
  have ZZ := (Ext.put (a := b) (show 12 ≤ 12 from Nat.le_refl _) (.pointer (some ⟨b12, 0, none⟩))).size.trans Z
  have ZZ2 := (Ext.put (a := b) (show 12 ≤ 12 from Nat.le_refl _) (.pointer (some ⟨b12, 0, none⟩))).defers.trans Z2
  clear k2 k4 G265 Z Z2
  generalize b.put (some 12) _ = bb at *
  obtain ⟨f, hf⟩ : ∃ f : Nat → Value, ∀ t, bb.tmps.getD t undef = f t := ⟨_, fun _ => rfl⟩
  have e := frame277 bb ZZ ZZ2 f hf
  rw [hf] at kk2 kk4 k12 kk265
  rw [kk2, kk4, k12, kk265] at e
  clear ZZ ZZ2 hf kk2 kk4 k12 kk265
  subst e
  refine RB.rel_nil ?_
  intro w3 hB3 hI
  have hx := hI.at (t := 12) (b := b12) rfl rfl
  have O3 := one_below hW.out.1 hB3
  have HD := Lib.hid (show DivS (adjP (mp ms)) (detP (mp ms)) [r1, r2, r3, r4, r5, r6, r7, r8, r9, r10, r11, r12, r13, r14, r15, r16] 0 from ⟨rfl, fun j hj => by
    rw [if_neg (by omega)]
    rcases (by omega : j = 0 ∨ j = 1 ∨ j = 2 ∨ j = 3 ∨ j = 4 ∨ j = 5 ∨ j = 6 ∨ j = 7 ∨ j = 8 ∨ j = 9 ∨ j = 10 ∨ j = 11 ∨ j = 12 ∨ j = 13 ∨ j = 14 ∨ j = 15) with rfl | rfl | rfl | rfl | rfl | rfl | rfl | rfl | rfl | rfl | rfl | rfl | rfl | rfl | rfl | rfl
    · exact RR1.out
    · exact RR2.out
    · exact RR3.out
    · exact RR4.out
    · exact RR5.out
    · exact RR6.out
    · exact RR7.out
    · exact RR8.out
    · exact RR9.out
    · exact RR10.out
    · exact RR11.out
    · exact RR12.out
    · exact RR13.out
    · exact RR14.out
    · exact RR15.out
    · exact RR16.out
⟩)
  have hlt : w.heap.size + 1 < b12 := Nat.lt_of_lt_of_le hW.out.1.lt hx.1
  have T3 := Lib.hid (thereA hx.2.2 (show [r1, r2, r3, r4, r5, r6, r7, r8, r9, r10, r11, r12, r13, r14, r15, r16].length = 16 from rfl))
  have E3 := Lib.hid (size80A [r1, r2, r3, r4, r5, r6, r7, r8, r9, r10, r11, r12, r13, r14, r15, r16] rfl)
  have W4 := Lib.hid (show IW (w3.setCells b12 0 ([r1, r2, r3, r4, r5, r6, r7, r8, r9, r10, r11, r12, r13, r14, r15, r16].map (Value.float .f64))) w (ms.map (Value.float .f64)) b12 [r1, r2, r3, r4, r5, r6, r7, r8, r9, r10, r11, r12, r13, r14, r15, r16] from
    ⟨one_set O3 hlt _, World.rangeAt_setCells_same _ _ _ _ (thereL hx.2.2 rfl), World.there_setCells hx.2.2 _ _ _, hlt, by rw [size_setCells]; exact hx.2.1⟩)
  clear O3 hB3 hI hW ra rd re hx hlt
  go_upto_region 15 with (refine wpList_store_mid rfl 44 (.tmp 12) (.tmp 265) rfl b12 0 ([r1, r2, r3, r4, r5, r6, r7, r8, r9, r10, r11, r12, r13, r14, r15, r16].map (Value.float .f64)).toArray rfl rfl T3.out E3.out (one16 [r1, r2, r3, r4, r5, r6, r7, r8, r9, r10, r11, r12, r13, r14, r15, r16]) ?_)
  generalize hg : b12 = g at *
  clear hg
  refine wp_gen (fun wx => Hid (IW wx w (ms.map (Value.float .f64)) g [r1, r2, r3, r4, r5, r6, r7, r8, r9, r10, r11, r12, r13, r14, r15, r16])) W4 ?_
  intro we hW
  clear W4 T3 E3
  generalize [r1, r2, r3, r4, r5, r6, r7, r8, r9, r10, r11, r12, r13, r14, r15, r16] = vs at *
  go_wp2_with fail
  go_loopw [266] (fun ii wx => ∃ (k : Nat) (os : List Nat), ii = .int .i64 (k : Nat) ∧ Hid (k ≤ 16) ∧ Hid (DivS (adjP (mp ms)) (detP (mp ms)) os k) ∧ Hid (IW wx w (ms.map (Value.float .f64)) g os)) (fun ii _ => 16 - (intOf ii).toNat)
  case atStart => exact ⟨0, _, rfl, Lib.hid (by omega), HD, hW⟩
  case round =>
    obtain ⟨k, os, rfl, hk, hS, hX⟩ := hrel
    clear hW HD
    by_cases hlt : k < 16
    · have hki : (k : Int) < 16 := by omega
      have hk0 : (0 : Int) ≤ (k : Int) := by omega
      have HLT := Lib.hid hlt
      obtain ⟨y, cy, ry⟩ := div_get hS.out hlt
      have RY := Lib.hid ry
      have cy : wr.cell? ⟨g, k, none⟩ = some (.float .f64 y) := by have := hX.out.r k _ (map_get cy); rwa [Nat.zero_add] at this
      have hQ := fun x y w => run_fop (P := Try.prog) .quo rfl 31 x y w
      have st : ∀ (v n : Nat), (store ⟨g, k, none⟩ (.float .f64 v)).run Try.prog (wr.drewN n) = .ok () ((wr.drewN n).setCell ⟨g, k, none⟩ (.float .f64 v)) := fun v n => store1 (iw_drew hX.out n).t (o := k) hlt v
      clear hlt ry
      go_wp2_with fail
      go_roundw
      case rel => exact ⟨k + 1, _, by go_num, Lib.hid (by have := HLT.out; omega), Lib.hid (div_step hS.out HLT.out (RV.fop .quo RY.out HX.out _)), Lib.hid (iw_set (iw_drew hX.out _) k _)⟩
      case measure => have := HLT.out; simp [intOf]; omega
    · have hki : ¬ (k : Int) < 16 := by omega
      have hk16 : k = 16 := by have := hk.out; omega
      subst hk16
      have hl := hS.out.1
      have RR := Lib.hid hX.out.r
      have E1 := Lib.hid (size80L os hl)
      have E2 := Lib.hid (size80A os hl)
      have T0 := Lib.hid (thereA hX.out.o.t hl)
      have T1 := Lib.hid (thereL hX.out.o.t hl)
      have BB := Lib.hid (below_setCells hX.out.o.b (Nat.le_succ _) 0 (os.map (Value.float .f64)))
      have HS := Lib.hid (div_end hS.out)
      clear hlt hk hS hX hl
      go_wp2_with (first
        | (refine wpList_load_mid rfl 44 (.tmp 12) rfl g 0 rfl (os.map (Value.float .f64)) _ RR.out Try.underlying44 rfl E1.out ?_)
        | (refine wpList_store_mid rfl 44 (.tmp 2) (.tmp 276) rfl (w.heap.size + 1) 0 (os.map (Value.float .f64)).toArray rfl rfl T0.out E2.out (one16 os) ?_))
      refine bodyPost_ret (v := .tuple #[.agg (os.map (Value.float .f64)).toArray, .bool true]) (ret_row2 Try.prog Try.results63 rfl (os.map (Value.float .f64)) T1.out Try.underlying44 rfl E1.out) rfl ⟨⟨os, rfl, HS.out⟩, BB.out⟩
end Go.Proofs.Ytedkbjimofiphaa

namespace Go.Proofs.Ytedkbjimofiphaa
open Go.RowKit Fl
theorem nan_all : MU (nanK 16) ∧ ∀ j, j < 16 → mp (nanK 16) j = 9223372036854775807 := by
  refine ⟨⟨nanK_len 16, fun x hx => ?_⟩, fun j hj => ?_⟩
  · unfold nanK at hx
    obtain ⟨j, hj, rfl⟩ := List.mem_map.1 hx
    rw [if_pos (List.mem_range.1 hj)]
    unfold U QN; decide
  · rcases (by omega : j = 0 ∨ j = 1 ∨ j = 2 ∨ j = 3 ∨ j = 4 ∨ j = 5 ∨ j = 6 ∨ j = 7 ∨ j = 8 ∨ j = 9 ∨ j = 10 ∨ j = 11 ∨ j = 12 ∨ j = 13 ∨ j = 14 ∨ j = 15) with rfl | rfl | rfl | rfl | rfl | rfl | rfl | rfl | rfl | rfl | rfl | rfl | rfl | rfl | rfl | rfl <;> decide
theorem inv_nan {ms : List Nat} (hok : invOk (detP (mp ms)) = false) : InvR (mp ms) (.returned (.tuple #[.agg ((nanK 16).map (Value.float .f64)).toArray, .bool false])) :=
  ⟨nanK 16, by rw [hok], nan_all.1, fun j h => by rw [hok, if_neg Bool.false_ne_true]; exact nan_all.2 j h⟩
theorem k97 {ms : List Nat} (hm : MU ms) (w : World) : Calls Try.prog 63 #[.agg (ms.map (Value.float .f64)).toArray] w fun e w' => InvR (mp ms) e ∧ Below w.heap.size w w' := by
  cases hok : invOk (detP (mp ms))
  · have hc : ∀ x, RV x (detP (mp ms)) → pCls x = 0 ∨ pCls x = 3 ∨ pCls x = 4 := fun x hx => (cls_place x hx.1).2 (by rw [hx.2]; exact hok)
    by_cases h3 : pCls (atW (detP (mp ms))) = 3
    · exact (k97c3 hm (fun x hx => (cls_of _ x hx).trans h3) w).mono fun e w' ⟨he, hb⟩ => ⟨by rw [he]; exact inv_nan hok, hb⟩
    · by_cases h4 : pCls (atW (detP (mp ms))) = 4
      · exact (k97c4 hm (fun x hx => (cls_of _ x hx).trans h4) w).mono fun e w' ⟨he, hb⟩ => ⟨by rw [he]; exact inv_nan hok, hb⟩
      · exact (k97z hm (fun x hx => by
          have h := cls_of _ x hx
          rcases hc x hx with c | c | c
          · exact c
          · exact absurd (h.symm.trans c) h3
          · exact absurd (h.symm.trans c) h4) w).mono fun e w' ⟨he, hb⟩ => ⟨by rw [he]; exact inv_nan hok, hb⟩
  · exact (k97y hm (fun x hx => (cls_place x hx.1).1 (by rw [hx.2]; exact hok)) w).mono fun e w' ⟨⟨os, he, hu, hj⟩, hb⟩ => ⟨⟨os, by rw [hok]; exact he, hu, fun j h => by rw [hok, if_pos rfl]; exact hj j h⟩, hb⟩
end Go.Proofs.Ytedkbjimofiphaa

namespace Go.Proofs.Ytedkbjimofiphaa
open Go.RowKit Fl
theorem word_of_placeG {x y : Nat} (hx : U x) (hy : U y) (h : pl x = pl y) (hn : isN y = false) : x = y := by
  rcases (pl_eq_iff hx hy).1 h with h | h
  · exact h
  · rw [hn] at h; exact absurd h.2 Bool.false_ne_true
theorem word_is {x : Nat} {P : Int} (h : RV x P) (y : Nat) (hy : U y) (hn : isN y = false) (he : P = pl y) : x = y := word_of_placeG h.1 hy (h.2.trans he) hn
theorem lit {x : Nat} (h : U x) : RV x (pl x) := RV.self h
structure Kp (wx : World) (g : Nat) (cs : List Value) : Prop where
  r : wx.rangeAt g 0 cs
  l : g < wx.heap.size
theorem Kp.below {wx wy : World} {g : Nat} {cs : List Value} (h : Kp wx g cs) (hb : Below wx.heap.size wx wy) : Kp wy g cs := ⟨range_below h.r hb h.l, Nat.lt_of_lt_of_le h.l hb.size⟩
end Go.Proofs.Ytedkbjimofiphaa

namespace Go.Proofs.Ytedkbjimofiphaa
open Go.RowKit Fl
section
variable {B : Bool}
end
end Go.Proofs.Ytedkbjimofiphaa

namespace Go.Proofs.Ytedkbjimofiphaa
open Go.RowKit Fl
structure Tri (wx w : World) (A B C : List Value) : Prop where
  a : Kp wx w.heap.size A
  b : Kp wx (w.heap.size + 1) B
  c : Kp wx (w.heap.size + 1 + 1) C
  o : Below w.heap.size w wx
theorem Tri.below {wx wy w : World} {A B C : List Value} (h : Tri wx w A B C) (hb : Below wx.heap.size wx wy) : Tri wy w A B C := ⟨h.a.below hb, h.b.below hb, h.c.below hb, below_trans h.o hb⟩
end Go.Proofs.Ytedkbjimofiphaa

namespace Go.Proofs.Ytedkbjimofiphaa
open Go.RowKit Fl
theorem idL_MU : MU idL := ⟨rfl, fun u hu => by
  have h1 : u = 0 ∨ u = 4607182418800017408 := by
    simp [idL, idK, List.range, List.range.loop] at hu
    omega
  rcases h1 with rfl | rfl <;> (unfold U; decide)⟩
end Go.Proofs.Ytedkbjimofiphaa
